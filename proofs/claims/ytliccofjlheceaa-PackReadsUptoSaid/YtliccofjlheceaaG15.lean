/- Package pack: the sender's node. Package pack: the reader's branch. -/
import Derived.Test.YtliccofjlheceaaG14
import Derived.Test.YtliccofjlheceaaG10
namespace Go.Proofs.Ytliccofjlheceaa
open Go.RowKit
theorem u_u64p : Try.prog.underlying 67 = some (.int .u64) := by kernel_rfl
theorem sz_boS : (Try.prog.info? 4).map (·.size) = some 1 := by kernel_rfl
theorem head_eq (t : Nd) : headP t = b8 (t.kind % 256) :: (if t.kind = 1 then putB (packL t.path true) ++ putB t.val
    else if t.kind = 2 then putB (packL t.path false)
    else if t.kind = 3 then (if t.has then (1 : UInt8) :: putB t.val else [0]) ++ (UInt8.ofNat (kbits t.kids 16).1 :: UInt8.ofNat (kbits t.kids 16).2 :: [])
    else if t.kind = 4 then t.hash else []) := by
  unfold headP
  by_cases h4 : t.kind = 4
  · rw [if_pos h4, if_neg (by omega), if_neg (by omega), if_neg (by omega), if_pos h4, h4]; rfl
  · rw [if_neg h4, if_neg h4]
    unfold encF
    rw [List.append_nil]
theorem Val.leaf_kids {even : Bool} {t : Nd} {d : Nat} (h : Val even t d) (h2 : t.kind ≠ 2) (h3 : t.kind ≠ 3) : t.kids = [] := by
  cases h with
  | way => exact absurd rfl h2
  | branch => exact absurd rfl h3
  | none => rfl
  | leaf => rfl
  | stub => rfl
theorem Val.kinds {even : Bool} {t : Nd} {d : Nat} (h : Val even t d) : t.kind = 0 ∨ t.kind = 1 ∨ t.kind = 2 ∨ t.kind = 3 ∨ t.kind = 4 := by
  cases h with
  | none => exact .inl rfl
  | leaf => exact .inr (.inl rfl)
  | way => exact .inr (.inr (.inl rfl))
  | branch => exact .inr (.inr (.inr (.inl rfl)))
  | stub => exact .inr (.inr (.inr (.inr rfl)))
set_option maxRecDepth 100000 in
set_option maxHeartbeats 8000000 in
theorem snd_step (N : Nat) (ih : ∀ k : Nd, sz k < N → SndOk k) (t : Nd) (ht : sz t ≤ N) (hN : N ≤ 100000000) : SndOk t := by
  intro even d w W gs g Ao no co Ad nd cd out done xs L R fs cs hv M hr ho hdn hds
  refine calls_ev (args := [.pointer (some ⟨g, 0, none⟩), .agg cs.toArray]) mixed Try.func45 rfl (by kernel_rfl) ?_
  obtain ⟨Ap, cp, Av, cv, Ak, ck, Ah, ch, e0, r1, r3, r4, r5⟩ := hr.node
  have hcl := hr.len
  rw [dN_len] at hcl
  have hsz := sz_eq t
  have hsl := szs_len t.kids
  have eno := M.rowLen 0 rfl
  subst eno
  have hpl := packL_len t.path (decide (t.kind = 1))
  have hvn := putN_len10 (n := t.val.length) (by omega)
  have hone := hr.ones (dN_one _)
  replace M := (((((M.addD r5).addD r4).addD r3).addD r1).addL hr).fsub (.dat false (dN t) cs :: .dat false (dNs done) xs :: .dat false [dB t.path] [.slice Ap t.path.length cp] :: .dat false [dB t.val] [.slice Av t.val.length cv] :: .dat false [dKs t.kids] [.slice Ak t.kids.length ck] :: .dat false [dB t.hash] [.slice Ah t.hash.length ch] :: fs) (by intro f hf; simp only [List.mem_cons] at hf ⊢; rcases hf with h | h | h | h | h | h | h <;> simp [h])
  clear r1 r3 r4 r5 hr
  subst e0
  refine s_box (ncs t Ap cp Av cv Ak ck Ah ch) M rfl ?_
  clear M
  rintro g3 W M
  refine p_nil rfl ?_
  refine p_fld fsd1 rfl ?_
  refine v_load agg_ns rfl ((M.B 1 rfl).at_ rfl) ?_
  refine p_fun (#[] : Array Operand) _ ?_
  refine cc is_pidx (pidx_any t (by omega) done hds (by omega) w _ gs g3 _ Ad nd cd xs _ _ R _ M) ?_
  clear M
  rintro e W ⟨rfl, M⟩
  refine ⟨_, rfl, ?_⟩
  cases hix : idxN done t with
  | some i =>
    have hI : idxI done t = (i : Int) := by unfold idxI; rw [hix]
    have hil := (idxN_some hix).1
    have hpn := putN_len10 (n := i) (by omega)
    rw [hI]
    refine p_ge rfl rfl (fun _ => ?_) (fun h => absurd (show (0 : Int) ≤ (i : Int) by omega) h)
    refine p_nil rfl ?_
    refine p_fld fsd0 rfl ?_
    refine v_load agg_b rfl ((M.B 1 rfl).at_ rfl) ?_
    refine s_litB [.int .u8 5] [5] M (by decide) rfl rfl rfl ?_
    clear M; rintro g9 W M
    replace M := M.frzO
    refine s_appB M rfl rfl (M.rdb 0 rfl).2.2 (by omega) ?_
    clear M; rintro A6 c6 W M -
    refine v_cvt u_int u_u64p rfl (r := (i : Int)) (by rw [IntKind.wrap_u64]; omega) ?_
    refine cc is_vputS (put_any i _ hpn) ?_
    rintro e W ⟨A7, c7, rfl, o7, hb⟩
    replace M := M.callO hb o7
    clear o7 hb
    refine ⟨_, rfl, ?_⟩
    refine s_appB M rfl rfl (M.rdb 0 rfl).2.2 (by omega) ?_
    clear M; rintro A8 c8 W M -
    refine p_nil rfl ?_
    refine p_fld fsd0 rfl ?_
    refine s_set 1 (.slice A8 (out.length + 1 + (putN i).length) c8) [.slice A8 (out.length + 1 + (putN i).length) c8, .slice Ad nd cd] M rfl sz_slS rfl rfl rfl (Nat.le_of_ble_eq_true rfl) rfl ?_
    clear M; rintro W M
    dsimp only [setL] at M
    have e1 : out ++ [5] ++ putN i = out ++ (sdP t done).1 := by rw [sdP_some hix, List.append_assoc]; rfl
    have e2 : done = (sdP t done).2 := by rw [sdP_some hix]
    have hl : out.length + 1 + (putN i).length = (out ++ (sdP t done).1).length := by rw [← e1, List.length_append, List.length_append]; rfl
    rw [e1, hl] at M
    refine ⟨⟨_, rfl⟩, A8, c8, Ad, nd, cd, xs, ?_⟩
    rw [← e2]
    exact M.dropL.fsub _ (by intro f hf; simp only [List.mem_cons] at hf ⊢; rcases hf with h | h <;> simp [h])
  | none =>
    have hI : idxI done t = -1 := by unfold idxI; rw [hix]
    rw [hI]
    refine p_ge rfl rfl (fun h => absurd (show (-1 : Int) ≥ 0 from h) (by decide)) (fun _ => ?_)
    obtain ⟨P, hP⟩ : ∃ P, P = out ++ [b8 (t.kind % 256)] := ⟨_, rfl⟩
    have hPl : P.length = out.length + 1 := by rw [hP, List.length_append]; rfl
    refine cutV (Option Addr × Nat) (fun s W => St w gs W ((g3, 38, ncs t Ap cp Av cv Ak ck Ah ch) :: (g, 81, [.slice s.1 P.length s.2, .slice Ad nd cd]) :: L) (⟨5, 1, s.1, P.length, s.2, bvs P⟩ :: ⟨38, 6, Ad, nd, cd, xs⟩ :: R) (.dat false (dNs done) xs :: .dat false (dN t) (ncs t Ap cp Av cv Ak ck Ah ch) :: .dat false [dB t.path] [.slice Ap t.path.length cp] :: .dat false [dB t.val] [.slice Av t.val.length cv] :: .dat false [dKs t.kids] [.slice Ak t.kids.length ck] :: .dat false [dB t.hash] [.slice Ah t.hash.length ch] :: fs))
      (fun s => [(0, .pointer (some ⟨g, 0, none⟩)), (3, .pointer (some ⟨g3, 0, none⟩))]) ?_ ?_
    · replace M := M.drew
      refine drZ 12 (Kp w gs [(g3, 38, ncs t Ap cp Av cv Ak ck Ah ch), (g, 81, [.slice Ao out.length co, .slice Ad nd cd])] []) [(0, true), (1, true), (2, true), (3, true), (4, true), (5, true), (6, true), (7, true), (8, false), (9, false), (10, true), (11, true)] (by kernel_rfl) (M.kp (by simp) (by simp)) ?_
      refine p_nil rfl ?_
      refine p_fld fsd0 rfl ?_
      refine t_load agg_b rfl (fun W K => (K.B 1 rfl).at_ rfl) ?_
      refine p_fld fN0 rfl ?_
      refine t_load agg_int rfl (fun W K => (K.B 0 rfl).at_ rfl) ?_
      refine t_cvt u_int u_u8 rfl (r := t.kind % 256) (by rw [IntKind.wrap_u8']) ?_
      refine s_litB [.int .u8 (t.kind % 256)] [b8 (t.kind % 256)] M (by decide) rfl (one_blk (by omega)) rfl ?_
      clear M; rintro g9 W M
      replace M := M.frzO
      refine ⟨(M.kp (by simp) (by simp)), ?_⟩
      refine s_appB M rfl rfl (M.rdb 0 rfl).2.2 (by omega) ?_
      clear M; rintro A6 c6 W M -
      refine ⟨(M.kp (by simp) (by simp)), ?_⟩
      refine p_nil rfl ?_
      refine p_fld fsd0 rfl ?_
      refine s_set 1 (.slice A6 (out.length + 1) c6) [.slice A6 (out.length + 1) c6, .slice Ad nd cd] M rfl sz_slS rfl rfl rfl (Nat.le_of_ble_eq_true rfl) rfl ?_
      clear M; rintro W M
      dsimp only [setL] at M
      rw [← hP, ← hPl] at M
      exact ⟨(A6, c6), M.fsub _ (by intro f hf; simp only [List.mem_cons] at hf ⊢; rcases hf with h | h | h | h | h | h | h <;> simp [h]), (by repeat (first | exact trivial | refine ⟨rfl, ?_⟩))⟩
    clear M
    rintro ⟨A1, c1⟩ B1 W1 M
    dsimp only at M
    refine nx ?_
    obtain ⟨X, hX⟩ : ∃ X, X = out ++ headP t ++ (sdK t.kids done).1 := ⟨_, rfl⟩
    have hheq := head_eq t
    obtain ⟨Y, hY⟩ : ∃ Y, Y = (sdK t.kids done).2 := ⟨_, rfl⟩
    have hhl := head_len t (by omega)
    have hY1 := sdK_len t.kids done
    have hYm := sdK_mem t.kids done
    rw [← hY] at hY1 hYm
    refine cutS (Option Addr × Nat × Option Addr × Nat × Nat × List Value) (fun s W => St w gs W ((g3, 38, ncs t Ap cp Av cv Ak ck Ah ch) :: (g, 81, [.slice s.1 X.length s.2.1, .slice s.2.2.1 s.2.2.2.1 s.2.2.2.2.1]) :: L) (⟨5, 1, s.1, X.length, s.2.1, bvs X⟩ :: ⟨38, 6, s.2.2.1, s.2.2.2.1, s.2.2.2.2.1, s.2.2.2.2.2⟩ :: R) (.dat false (dNs Y) s.2.2.2.2.2 :: .dat false (dN t) (ncs t Ap cp Av cv Ak ck Ah ch) :: fs))
      (fun s => [(0, .pointer (some ⟨g, 0, none⟩)), (3, .pointer (some ⟨g3, 0, none⟩))]) ?_ ?_
    · refine p_fld fN0 rfl ?_
      refine v_load agg_int rfl ((M.B 0 rfl).at_ rfl) ?_
      refine p_eq rfl rfl (fun hk1 => ?_) (fun hk1 => ?_)
      · have hk1 : t.kind = 1 := hk1
        have hks := hv.leaf_kids (by omega) (by omega)
        refine p_fld fN1 rfl ?_
        refine v_load agg_b rfl ((M.B 0 rfl).at_ rfl) ?_
        refine p_fld fN0 rfl ?_
        refine v_load agg_int rfl ((M.B 0 rfl).at_ rfl) ?_
        refine p_eqD rfl rfl ?_
        refine cc is_npack (pack_any Ap _ cp (decide (t.kind = 1)) t.path _ (M.rdb 2 rfl).2.2 (by omega) (M.rdb 2 rfl).2.1) ?_
        rintro e W ⟨A5, n5, c5, rfl, o5, hb⟩
        have e5 := o5.len
        replace M := M.callO hb o5
        clear o5 hb
        refine ⟨_, rfl, ?_⟩
        have hpn := putN_len10 (n := n5) (by omega)
        refine cutV (Option Addr × Nat) (fun s W => St w gs W ((g3, 38, ncs t Ap cp Av cv Ak ck Ah ch) :: (g, 81, [.slice s.1 (P ++ putB (packL t.path (decide (t.kind = 1)))).length s.2, .slice Ad nd cd]) :: L) (⟨5, 1, s.1, (P ++ putB (packL t.path (decide (t.kind = 1)))).length, s.2, bvs (P ++ putB (packL t.path (decide (t.kind = 1))))⟩ :: ⟨38, 6, Ad, nd, cd, xs⟩ :: R) (.dat false (dNs done) xs :: .dat false (dN t) (ncs t Ap cp Av cv Ak ck Ah ch) :: .dat false [dB t.val] [.slice Av t.val.length cv] :: .dat false [dKs t.kids] [.slice Ak t.kids.length ck] :: fs))
          (fun s => [(0, .pointer (some ⟨g, 0, none⟩)), (3, .pointer (some ⟨g3, 0, none⟩))]) ?_ ?_
        · replace M := M.drew
          refine drZ 10 (Kp w gs [(g3, 38, ncs t Ap cp Av cv Ak ck Ah ch), (g, 81, [.slice A1 P.length c1, .slice Ad nd cd])] []) [(0, true), (1, true), (2, true), (3, true), (4, true), (5, true), (6, false), (7, false), (8, true), (9, true)] (by kernel_rfl) (M.kp (by simp) (by simp)) ?_
          refine p_nil rfl ?_
          refine p_fld fsd0 rfl ?_
          refine t_load agg_b rfl (fun W K => (K.B 1 rfl).at_ rfl) ?_
          refine cc is_npb (putBytes_any _ _ _ (packL t.path (decide (t.kind = 1))) _ (M.rdb 0 rfl).2.2 (by omega)) ?_
          rintro e W ⟨A7, c7, rfl, o7, hb⟩
          replace M := M.callO hb o7
          clear o7 hb
          refine ⟨_, rfl, (M.kp (by simp) (by simp)), ?_⟩
          refine s_appB M rfl rfl (M.rdb 0 rfl).2.2 (by omega) ?_
          clear M; rintro A8 c8 W M -
          refine ⟨(M.kp (by simp) (by simp)), ?_⟩
          refine p_nil rfl ?_
          refine p_fld fsd0 rfl ?_
          refine s_set 1 (.slice A8 (P.length + ((putN n5).length + n5)) c8) [.slice A8 (P.length + ((putN n5).length + n5)) c8, .slice Ad nd cd] M rfl sz_slS rfl rfl rfl (Nat.le_of_ble_eq_true rfl) rfl ?_
          clear M; rintro W M
          dsimp only [setL] at M
          have hl : P.length + ((putN n5).length + n5) = (P ++ putB (packL t.path (decide (t.kind = 1)))).length := by rw [List.length_append, putB_lenE, e5]
          rw [hl] at M
          exact ⟨(A8, c8), M.fsub _ (by intro f hf; simp only [List.mem_cons] at hf ⊢; rcases hf with h | h | h | h | h <;> simp [h]), (by repeat (first | exact trivial | refine ⟨rfl, ?_⟩))⟩
        clear M
        rintro ⟨A2, c2⟩ B2 W2 M
        dsimp only at M
        rw [decide_eq_true hk1] at M
        obtain ⟨Q, hQ⟩ : ∃ Q, Q = P ++ putB (packL t.path true) := ⟨_, rfl⟩
        have hQl : Q.length ≤ P.length + 11 + t.path.length := by
          rw [decide_eq_true hk1] at hpl e5
          rw [hQ, List.length_append, putB_lenE]
          rw [← e5] at hpn
          omega
        rw [← hQ] at M
        refine p_fld fN0 rfl ?_
        refine v_load agg_int rfl ((M.B 0 rfl).at_ rfl) ?_
        refine p_eq rfl rfl (fun h => absurd (show t.kind = 2 from h) (by omega)) (fun _ => ?_)
        replace M := M.drew
        refine drZ 11 (Kp w gs [(g3, 38, ncs t Ap cp Av cv Ak ck Ah ch), (g, 81, [.slice A2 Q.length c2, .slice Ad nd cd])] []) [(0, true), (1, true), (2, true), (3, true), (4, true), (5, true), (6, true), (7, false), (8, false), (9, true), (10, true)] (by kernel_rfl) (M.kp (by simp) (by simp)) ?_
        refine p_nil rfl ?_
        refine p_fld fsd0 rfl ?_
        refine t_load agg_b rfl (fun W K => (K.B 1 rfl).at_ rfl) ?_
        refine p_fld fN3 rfl ?_
        refine t_load agg_b rfl (fun W K => (K.B 0 rfl).at_ rfl) ?_
        refine cc is_npb (putBytes_any _ _ _ t.val _ (M.rdb 2 rfl).2.2 (by omega)) ?_
        rintro e W ⟨A7, c7, rfl, o7, hb⟩
        replace M := M.callO hb o7
        clear o7 hb
        refine ⟨_, rfl, (M.kp (by simp) (by simp)), ?_⟩
        refine s_appB M rfl rfl (M.rdb 0 rfl).2.2 (by omega) ?_
        clear M; rintro A8 c8 W M -
        refine ⟨(M.kp (by simp) (by simp)), ?_⟩
        refine p_nil rfl ?_
        refine p_fld fsd0 rfl ?_
        refine s_set 1 (.slice A8 (Q.length + ((putN t.val.length).length + t.val.length)) c8) [.slice A8 (Q.length + ((putN t.val.length).length + t.val.length)) c8, .slice Ad nd cd] M rfl sz_slS rfl rfl rfl (Nat.le_of_ble_eq_true rfl) rfl ?_
        clear M; rintro W M
        dsimp only [setL] at M
        have hXq : Q ++ putB t.val = X := by
          rw [hX, hheq, if_pos hk1, hks, sdK, hQ, hP]
          simp only [List.append_assoc, List.cons_append, List.nil_append, List.append_nil]
        have hl : Q.length + ((putN t.val.length).length + t.val.length) = X.length := by rw [← hXq, List.length_append, putB_lenE]
        have hYd : Y = done := by rw [hY, hks, sdK]
        rw [hXq, hl] at M
        exact ⟨(A8, c8, Ad, nd, cd, xs), by dsimp only; rw [hYd]; exact M.fsub _ (by intro f hf; simp only [List.mem_cons] at hf ⊢; rcases hf with h | h | h <;> simp [h]), (by repeat (first | exact trivial | refine ⟨rfl, ?_⟩))⟩
      refine p_eq rfl rfl (fun hk2 => ?_) (fun hk2 => ?_)
      · have hk2 : t.kind = 2 := hk2
        refine p_fld fN1 rfl ?_
        refine v_load agg_b rfl ((M.B 0 rfl).at_ rfl) ?_
        refine p_fld fN0 rfl ?_
        refine v_load agg_int rfl ((M.B 0 rfl).at_ rfl) ?_
        refine p_eqD rfl rfl ?_
        refine cc is_npack (pack_any Ap _ cp (decide (t.kind = 1)) t.path _ (M.rdb 2 rfl).2.2 (by omega) (M.rdb 2 rfl).2.1) ?_
        rintro e W ⟨A5, n5, c5, rfl, o5, hb⟩
        have e5 := o5.len
        replace M := M.callO hb o5
        clear o5 hb
        refine ⟨_, rfl, ?_⟩
        have hpn := putN_len10 (n := n5) (by omega)
        refine cutV (Option Addr × Nat) (fun s W => St w gs W ((g3, 38, ncs t Ap cp Av cv Ak ck Ah ch) :: (g, 81, [.slice s.1 (P ++ putB (packL t.path (decide (t.kind = 1)))).length s.2, .slice Ad nd cd]) :: L) (⟨5, 1, s.1, (P ++ putB (packL t.path (decide (t.kind = 1)))).length, s.2, bvs (P ++ putB (packL t.path (decide (t.kind = 1))))⟩ :: ⟨38, 6, Ad, nd, cd, xs⟩ :: R) (.dat false (dNs done) xs :: .dat false (dN t) (ncs t Ap cp Av cv Ak ck Ah ch) :: .dat false [dB t.val] [.slice Av t.val.length cv] :: .dat false [dKs t.kids] [.slice Ak t.kids.length ck] :: fs))
          (fun s => [(0, .pointer (some ⟨g, 0, none⟩)), (3, .pointer (some ⟨g3, 0, none⟩))]) ?_ ?_
        · replace M := M.drew
          refine drZ 10 (Kp w gs [(g3, 38, ncs t Ap cp Av cv Ak ck Ah ch), (g, 81, [.slice A1 P.length c1, .slice Ad nd cd])] []) [(0, true), (1, true), (2, true), (3, true), (4, true), (5, true), (6, false), (7, false), (8, true), (9, true)] (by kernel_rfl) (M.kp (by simp) (by simp)) ?_
          refine p_nil rfl ?_
          refine p_fld fsd0 rfl ?_
          refine t_load agg_b rfl (fun W K => (K.B 1 rfl).at_ rfl) ?_
          refine cc is_npb (putBytes_any _ _ _ (packL t.path (decide (t.kind = 1))) _ (M.rdb 0 rfl).2.2 (by omega)) ?_
          rintro e W ⟨A7, c7, rfl, o7, hb⟩
          replace M := M.callO hb o7
          clear o7 hb
          refine ⟨_, rfl, (M.kp (by simp) (by simp)), ?_⟩
          refine s_appB M rfl rfl (M.rdb 0 rfl).2.2 (by omega) ?_
          clear M; rintro A8 c8 W M -
          refine ⟨(M.kp (by simp) (by simp)), ?_⟩
          refine p_nil rfl ?_
          refine p_fld fsd0 rfl ?_
          refine s_set 1 (.slice A8 (P.length + ((putN n5).length + n5)) c8) [.slice A8 (P.length + ((putN n5).length + n5)) c8, .slice Ad nd cd] M rfl sz_slS rfl rfl rfl (Nat.le_of_ble_eq_true rfl) rfl ?_
          clear M; rintro W M
          dsimp only [setL] at M
          have hl : P.length + ((putN n5).length + n5) = (P ++ putB (packL t.path (decide (t.kind = 1)))).length := by rw [List.length_append, putB_lenE, e5]
          rw [hl] at M
          exact ⟨(A8, c8), M.fsub _ (by intro f hf; simp only [List.mem_cons] at hf ⊢; rcases hf with h | h | h | h | h <;> simp [h]), (by repeat (first | exact trivial | refine ⟨rfl, ?_⟩))⟩
        clear M
        rintro ⟨A2, c2⟩ B2 W2 M
        dsimp only at M
        rw [decide_eq_false (show ¬ t.kind = 1 from hk1)] at M
        obtain ⟨Q, hQ⟩ : ∃ Q, Q = P ++ putB (packL t.path false) := ⟨_, rfl⟩
        have hQl : Q.length ≤ P.length + 11 + t.path.length := by
          rw [decide_eq_false (show ¬ t.kind = 1 from hk1)] at hpl e5
          rw [hQ, List.length_append, putB_lenE]
          rw [← e5] at hpn
          omega
        rw [← hQ] at M
        refine p_fld fN0 rfl ?_
        refine v_load agg_int rfl ((M.B 0 rfl).at_ rfl) ?_
        refine p_eq rfl rfl (fun _ => ?_) (fun h => absurd hk2 h)
        obtain ⟨k, hks, hvk, hk0⟩ := hv.way_kid hk2
        have hkz : szs t.kids = sz k := by rw [hks, szs, szs]; omega
        have hki : t.kids[0]? = some k := by rw [hks]; rfl
        have hkl : t.kids.length = 1 := by rw [hks]; rfl
        refine p_fld fN4 rfl ?_
        refine v_load agg_ns rfl ((M.B 0 rfl).at_ rfl) ?_
        obtain ⟨b, off, es, e0, hel, M'⟩ := M.kid (M.d1 3 rfl) hki
        replace M := M'; clear M'
        refine p_at (i := 0) sln (by show (Value.slice Ak t.kids.length ck) = _; rw [e0]) rfl rfl (by omega) ?_
        refine v_loadN es agg_nd rfl hel (M.lc 0 rfl) ?_
        replace M := (M.fsub (.dat false (dNs done) xs :: .dat false (dN k) es :: .dat false (dN t) (ncs t Ap cp Av cv Ak ck Ah ch) :: fs) (by intro f hf; simp only [List.mem_cons] at hf ⊢; rcases hf with h | h | h | h <;> simp [h])).swp
        refine cc is_snode (ih k (by omega) _ _ w _ gs g A2 _ c2 Ad nd cd Q done xs _ R _ _ hvk M (M.da 1 rfl) (by omega) (by omega) hds) ?_
        clear M
        rintro e W ⟨⟨v, rfl⟩, A3, c3, A4, n4, c4, xs4, M⟩
        refine ⟨_, rfl, ?_⟩
        have hK : sdK t.kids done = ((sdP k done).1 ++ [], (sdP k done).2) := by rw [hks, sdK, if_neg hk0, sdK]
        have hXq : Q ++ (sdP k done).1 = X := by
          rw [hX, hheq, if_neg hk1, if_pos hk2, hK, hQ, hP]
          simp only [List.append_assoc, List.cons_append, List.nil_append, List.append_nil]
        have hYq : (sdP k done).2 = Y := by rw [hY, hK]
        rw [hXq, hYq] at M
        exact ⟨(A3, c3, A4, n4, c4, xs4), M.swp.fsub _ (by intro f hf; simp only [List.mem_cons] at hf ⊢; rcases hf with h | h | h <;> simp [h]), (by repeat (first | exact trivial | refine ⟨rfl, ?_⟩))⟩
      refine p_eq rfl rfl (fun hk3 => ?_) (fun hk3 => ?_)
      · have hk3 : t.kind = 3 := hk3
        refine v_loadN (ncs t Ap cp Av cv Ak ck Ah ch) agg_nd rfl hcl (M.run 0 rfl) ?_
        replace M := M.swp
        refine cc is_sbr (sbr_any t (fun k hk => ih k (by have := szs_mem hk; omega)) even d w _ gs g A1 _ c1 Ad nd cd P done xs _ R _ _ hv hk3 M (M.da 1 rfl) (by omega) (by omega) hds (by omega)) ?_
        clear M
        rintro e W ⟨⟨v, rfl⟩, A3, c3, A4, n4, c4, xs4, X', hX', M⟩
        refine ⟨_, rfl, ?_⟩
        have hXq : X' = X := by
          rw [hX', hX, hheq, if_neg hk1, if_neg hk2, if_pos hk3, hP]
          simp only [List.append_assoc, List.cons_append, List.nil_append]
        subst hXq
        rw [← hY] at M
        exact ⟨(A3, c3, A4, n4, c4, xs4), M.swp.fsub _ (by intro f hf; simp only [List.mem_cons] at hf ⊢; rcases hf with h | h | h <;> simp [h]), (by repeat (first | exact trivial | refine ⟨rfl, ?_⟩))⟩
      have hks := hv.leaf_kids hk2 hk3
      have hYd : Y = done := by rw [hY, hks, sdK]
      refine p_eq rfl rfl (fun hk4 => ?_) (fun hk4 => ?_)
      · have hk4 : t.kind = 4 := hk4
        replace M := M.drew
        refine drZ 10 (Kp w gs [(g3, 38, ncs t Ap cp Av cv Ak ck Ah ch), (g, 81, [.slice A1 P.length c1, .slice Ad nd cd])] []) [(0, true), (1, true), (2, true), (3, true), (4, true), (5, true), (6, true), (7, false), (8, true), (9, true)] (by kernel_rfl) (M.kp (by simp) (by simp)) ?_
        refine p_nil rfl ?_
        refine p_fld fsd0 rfl ?_
        refine t_load agg_b rfl (fun W K => (K.B 1 rfl).at_ rfl) ?_
        refine p_fld fN5 rfl ?_
        refine t_load agg_b rfl (fun W K => (K.B 0 rfl).at_ rfl) ?_
        refine s_appB M rfl rfl (M.rdb 5 rfl).2.2 (by omega) ?_
        clear M; rintro A8 c8 W M -
        refine ⟨(M.kp (by simp) (by simp)), ?_⟩
        refine p_nil rfl ?_
        refine p_fld fsd0 rfl ?_
        refine s_set 1 (.slice A8 (P.length + t.hash.length) c8) [.slice A8 (P.length + t.hash.length) c8, .slice Ad nd cd] M rfl sz_slS rfl rfl rfl (Nat.le_of_ble_eq_true rfl) rfl ?_
        clear M; rintro W M
        dsimp only [setL] at M
        have hXq : P ++ t.hash = X := by
          rw [hX, hheq, if_neg hk1, if_neg hk2, if_neg hk3, if_pos hk4, hks, sdK, hP]
          simp only [List.append_assoc, List.cons_append, List.nil_append, List.append_nil]
        have hl : P.length + t.hash.length = X.length := by rw [← hXq, List.length_append]
        rw [hXq, hl] at M
        exact ⟨(A8, c8, Ad, nd, cd, xs), by dsimp only; rw [hYd]; exact M.fsub _ (by intro f hf; simp only [List.mem_cons] at hf ⊢; rcases hf with h | h | h <;> simp [h]), (by repeat (first | exact trivial | refine ⟨rfl, ?_⟩))⟩
      · have hXq : P = X := by
          rw [hX, hheq, if_neg hk1, if_neg hk2, if_neg hk3, if_neg hk4, hks, sdK, hP]
          simp only [List.append_assoc, List.cons_append, List.nil_append, List.append_nil]
        rw [hXq] at M
        exact ⟨(A1, c1, Ad, nd, cd, xs), by dsimp only; rw [hYd]; exact M.fsub _ (by intro f hf; simp only [List.mem_cons] at hf ⊢; rcases hf with h | h | h <;> simp [h]), (by repeat (first | exact trivial | refine ⟨rfl, ?_⟩))⟩
    clear M
    rintro ⟨A1, c1, A2, n2, c2, xs2⟩ B2 W2 M
    dsimp only at M
    have e1 : out ++ (sdP t done).1 = X := by rw [sdP_none hix, hX, List.append_assoc]
    have e2 : (sdP t done).2 = Y ++ [t] := by rw [sdP_none hix, hY]
    rw [e1, e2]
    have hn2 : n2 = Y.length := by
      have h1 := (M.dt 0 rfl).len
      have h2 := (M.row _ (List.mem_cons_of_mem _ (List.mem_cons_self ..))).1
      rw [dNs_len] at h1
      dsimp only at h2
      omega
    subst hn2
    have hxl2 := (M.dt 0 rfl).len
    rw [dNs_len] at hxl2
    replace M := M.swpR
    refine ev_sq ?_
    refine cutV (Bool × Nat) (fun s W => St w gs W ((s.2, 4, [.bool s.1]) :: (g3, 38, ncs t Ap cp Av cv Ak ck Ah ch) :: (g, 81, [.slice A1 X.length c1, .slice A2 Y.length c2]) :: L) (⟨38, 6, A2, Y.length, c2, xs2⟩ :: ⟨5, 1, A1, X.length, c1, bvs X⟩ :: R) (.dat false (dNs Y) xs2 :: .dat false (dN t) (ncs t Ap cp Av cv Ak ck Ah ch) :: fs))
      (fun s => [(0, .pointer (some ⟨g, 0, none⟩)), (3, .pointer (some ⟨g3, 0, none⟩)), (102, .bool s.1)]) ?_ ?_
    · replace M := M.drew
      refine drT (Kp w gs [] []) (.one 0 (.two 1 (.one 2 (.one 3 (.nil))) 2 (.one 1 (.one 3 (.nil))))) (by kernel_rfl) (M.kp (by simp) (by simp)) ?_
      refine s_alloc ([.bool false]) M (by kernel_rfl) ?_
      clear M
      rintro gb W M
      refine ⟨(M.kp (by simp) (by simp)), ?_, ?_⟩
      ·
        refine s_set 0 (.bool true) [.bool true] M rfl sz_boS rfl rfl rfl (Nat.le_of_ble_eq_true rfl) rfl ?_
        clear M; rintro W M
        dsimp only [setL] at M
        refine ⟨(M.kp (by simp) (by simp)), ?_⟩
        refine s_set 0 (.bool false) [.bool false] M rfl sz_boS rfl rfl rfl (Nat.le_of_ble_eq_true rfl) rfl ?_
        clear M; rintro W M
        dsimp only [setL] at M
        refine ⟨(M.kp (by simp) (by simp)), ?_⟩
        refine v_load agg_bo rfl ((M.B 0 rfl).at_ rfl) ?_
        refine ⟨(M.kp (by simp) (by simp)), ?_⟩
        exact ⟨(false, gb), M, (by repeat (first | exact trivial | refine ⟨rfl, ?_⟩))⟩
      ·
        refine s_set 0 (.bool false) [.bool false] M rfl sz_boS rfl rfl rfl (Nat.le_of_ble_eq_true rfl) rfl ?_
        clear M; rintro W M
        dsimp only [setL] at M
        refine ⟨(M.kp (by simp) (by simp)), ?_⟩
        refine s_set 0 (.bool true) [.bool true] M rfl sz_boS rfl rfl rfl (Nat.le_of_ble_eq_true rfl) rfl ?_
        clear M; rintro W M
        dsimp only [setL] at M
        refine ⟨(M.kp (by simp) (by simp)), ?_⟩
        refine v_load agg_bo rfl ((M.B 0 rfl).at_ rfl) ?_
        refine ⟨(M.kp (by simp) (by simp)), ?_⟩
        exact ⟨(true, gb), M, (by repeat (first | exact trivial | refine ⟨rfl, ?_⟩))⟩
    clear M
    rintro ⟨q, gb⟩ B3 W3 M
    dsimp only at M
    have hdy : dNs Y ++ dN t = dNs (Y ++ [t]) := by rw [dNs_app, dNs, dNs, List.append_nil]
    cases q with
    | true =>
      refine p_nil rfl ?_
      refine p_fld fsd1 rfl ?_
      refine v_load agg_ns rfl ((M.B 2 rfl).at_ rfl) ?_
      refine p_len sln rfl ?_
      refine s_bsliceB zN M sln z_nd rfl (by decide) rfl ?_
      clear M; rintro gz W M
      refine s_app M Try.underlying36 inf_nd rfl (by decide) rfl rfl (Reads.blk (M.B 0 rfl) rfl) (all1 rfl) ⟨by omega, by decide⟩ ?_
      clear M; rintro A6 c6 W M -
      replace M := M.dropL
      refine p_nil rfl ?_
      refine p_fld fsd1 rfl ?_
      refine s_set 2 (.slice A6 (Y.length + 1) c6) [.slice A1 X.length c1, .slice A6 (Y.length + 1) c6] M rfl sz_nsS rfl rfl rfl (Nat.le_of_ble_eq_true rfl) rfl ?_
      clear M; rintro W M
      dsimp only [setL] at M
      refine v_loadN (ncs t Ap cp Av cv Ak ck Ah ch) agg_nd rfl hcl (M.run 1 rfl) ?_
      obtain ⟨gr, rest, rfl, hnc, hm, hxl, hcl2, M'⟩ := M.rowBlkS (by omega)
      replace M := M'; clear M'
      refine p_atL (i := Y.length) (q := Y.length * 6) sln rfl rfl rfl (by omega) (by omega) ?_
      refine s_storeP 0 (ncs t Ap cp Av cv Ak ck Ah ch) (xs2 ++ ncs t Ap cp Av cv Ak ck Ah ch ++ rest) M rfl sz_nd rfl rfl hcl hone (by rw [List.length_append, List.length_append, show zN.length = 6 from rfl]; omega) (by
        rw [List.append_assoc, List.append_assoc, ← hxl2, List.take_left, List.append_assoc]
        congr 2
        rw [show xs2.length + 6 = (xs2 ++ zN).length by rw [List.length_append]; rfl, ← List.append_assoc, List.drop_left]) ?_
      clear M; rintro W M
      dsimp only [setL] at M
      replace M := M.blkRow (s := 6) (n := Y.length + 1) hnc hm (by rw [List.length_append, hcl]; omega) (by
        rw [← hcl2, List.length_append, List.length_append, List.length_append, List.length_append, hcl]; rfl)
      obtain ⟨A6, hA6⟩ : ∃ A6 : Option Addr, A6 = some ⟨gr, 0, none⟩ := ⟨_, rfl⟩
      rw [← hA6] at M
      have hX2 := (M.dw 0 rfl).app (M.dw 1 rfl)
      rw [hdy] at hX2
      exact ⟨⟨_, rfl⟩, A1, c1, A6, Y.length + 1, c6, xs2 ++ ncs t Ap cp Av cv Ak ck Ah ch, (M.addT hX2).dropL.dropL.swpR.fsub _ (by intro f hf; simp only [List.mem_cons] at hf ⊢; rcases hf with h | h <;> simp [h])⟩
    | false =>
      replace M := M.drew
      refine drZ 10 (Kp w gs [(g3, 38, ncs t Ap cp Av cv Ak ck Ah ch), (g, 81, [.slice A1 X.length c1, .slice A2 Y.length c2])] []) [(0, true), (1, true), (2, true), (3, true), (4, true), (5, true), (6, false), (7, false), (8, true), (9, true)] (by kernel_rfl) (M.kp (by simp) (by simp)) ?_
      refine p_nil rfl ?_
      refine p_fld fsd1 rfl ?_
      refine t_load agg_ns rfl (fun W K => (K.B 1 rfl).at_ rfl) ?_
      refine t_loadN (ncs t Ap cp Av cv Ak ck Ah ch) agg_nd rfl hcl (fun W K => K.run 0 rfl) ?_
      refine s_bsliceB (ncs t Ap cp Av cv Ak ck Ah ch) M sln z_nd rfl (by decide) rfl ?_
      clear M; rintro gz W M
      refine ⟨(M.kp (by simp) (by simp)), ?_⟩
      refine s_app M Try.underlying36 inf_nd rfl (by decide) rfl rfl (Reads.blk (M.B 0 rfl) rfl) hone ⟨by omega, by decide⟩ ?_
      clear M; rintro A6 c6 W M -
      replace M := M.dropL
      refine ⟨(M.kp (by simp) (by simp)), ?_⟩
      refine p_nil rfl ?_
      refine p_fld fsd1 rfl ?_
      refine s_set 2 (.slice A6 (Y.length + 1) c6) [.slice A1 X.length c1, .slice A6 (Y.length + 1) c6] M rfl sz_nsS rfl rfl rfl (Nat.le_of_ble_eq_true rfl) rfl ?_
      clear M; rintro W M
      dsimp only [setL] at M
      have hX2 := (M.dw 0 rfl).app (M.dw 1 rfl)
      rw [hdy] at hX2
      exact ⟨⟨_, rfl⟩, A1, c1, A6, Y.length + 1, c6, xs2 ++ ncs t Ap cp Av cv Ak ck Ah ch, (M.addT hX2).dropL.dropL.swpR.fsub _ (by intro f hf; simp only [List.mem_cons] at hf ⊢; rcases hf with h | h <;> simp [h])⟩
theorem snd_any : ∀ (N : Nat), N ≤ 100000000 → ∀ t : Nd, sz t < N → SndOk t
  | 0, _, t, h => by omega
  | N + 1, hN, t, h => snd_step N (fun k hk => snd_any N (by omega) k hk) t (by omega) (by omega)
end Go.Proofs.Ytliccofjlheceaa
namespace Go.Proofs.Ytliccofjlheceaa
open Go.RowKit
inductive Rb where
  | bad (e : Int)
  | got (has : Bool) (v : List UInt8) (ks : List Nd) (b : List UInt8) (done : List Nd) (left : Int)
def brF (f : List UInt8 → List Nd → Int → Rr) (b : List UInt8) (done : List Nd) (left : Int) : Rb := match b with
    | [] => .bad 11
    | h :: b1 => (match (if h = 1 then textX b1 else some ([], b1)) with
      | none => .bad 11
      | some (v, b2) => if b2.length < 2 then .bad 11 else (match kidsA f (b2.take 2) 16 0 [] (b2.drop 2) done left with
        | .bad e => .bad e
        | .got ks b3 d3 l3 => .got (decide (h = 1)) v ks b3 d3 l3))
theorem body_3 (f : List UInt8 → List Nd → Int → Rr) (b : List UInt8) (done : List Nd) (left : Int) : bodyX f 3 b done left = match brF f b done left with
    | .bad e => .bad e
    | .got has v ks b3 d3 l3 => .got (.mk 3 [] has v ks []) b3 (d3 ++ [.mk 3 [] has v ks []]) l3 := by
  unfold bodyX brF
  rw [if_neg (by decide), if_pos rfl]
  cases b with
  | nil => rfl
  | cons h b1 =>
    dsimp only
    cases (if h = 1 then textX b1 else some ([], b1)) with
    | none => rfl
    | some r =>
      obtain ⟨v, b2⟩ := r
      dsimp only
      split
      · rfl
      · cases kidsA f (b2.take 2) 16 0 [] (b2.drop 2) done left <;> rfl
def Pbr (D : Nat) (r : Rb) (has : Bool) (v : List UInt8) (ks : List Nd) (b' : List UInt8) (done' : List Nd) (left' e' : Int) (A' : Option Addr) (n' c' : Nat) : Prop := match r with
  | .got h1 v1 ks1 b1 d1 l1 => e' = 0 ∧ has = h1 ∧ v = v1 ∧ ks = ks1 ∧ b' = b1 ∧ done' = d1 ∧ left' = l1
  | .bad x => e' = x ∧ e' ≠ 0 ∧ b' = [] ∧ A' = none ∧ n' = 0 ∧ c' = 0 ∧ done'.length ≤ D
def RnOk (F : Nat) : Prop := ∀ (B deep : Nat), deep + F = 403 → B ≤ 3200000 → ∀ (w W : World) (gs : List (Option Nat)) (g : Nat) (A : Option Addr) (n c : Nat) (Ad : Option Addr) (nd cd : Nat) (left : Int) (b : List UInt8) (done : List Nd) (xs : List Value) (L : Lc) (R : List Row) (fs : List Fact),
  0 ≤ left → left ≤ 5000 → (∀ x ∈ done, smC B x) → 3 * b.length + 32 ≤ B → done.length + b.length ≤ 2000000 →
  St w gs W ((g, 87, rc A n c Ad nd cd left 0) :: L) (⟨38, 6, Ad, nd, cd, xs⟩ :: R) (.dat false (dNs done) xs :: .dat false [dB b] [.slice A n c] :: fs) →
  Calls Try.prog 48 #[.pointer (some ⟨g, 0, none⟩), .int .i64 (deep : Nat)] W fun en W' => ∃ cs tn A' n' c' Ad' nd' cd' xs' b' done' left' e', en = .returned (.agg cs.toArray) ∧
    St w gs W' ((g, 87, rc A' n' c' Ad' nd' cd' left' e') :: L) (⟨38, 6, Ad', nd', cd', xs'⟩ :: R) (.dat false (dN tn) cs :: .dat false (dNs done') xs' :: .dat false [dB b'] [.slice A' n' c'] :: fs) ∧ Pst (done.length + b.length + F) (oneF F b done left) tn b' done' left' e' A' n' c'
theorem u8_one {h : UInt8} : ((h.toNat : Nat) : Int) = 1 ↔ h = 1 := by
  constructor
  · intro e
    have : h.toNat = 1 := by omega
    exact UInt8.toNat_inj.1 this
  · rintro rfl; rfl
set_option maxRecDepth 100000 in
set_option maxHeartbeats 8000000 in
theorem pbr_any (F : Nat) (ih : RnOk F) (B deep : Nat) (hdp : deep + (F + 1) = 403) (hB : B ≤ 3200000) (w W : World) (gs : List (Option Nat)) (g gn : Nat) (A : Option Addr) (n c : Nat) (Ad : Option Addr) (nd cd : Nat) (left e : Int) (b : List UInt8) (done : List Nd) (xs : List Value) (L : Lc) (R : List Row) (fs : List Fact)
    (hl0 : e = 0 → 0 ≤ left ∧ left ≤ 5000) (hds : ∀ x ∈ done, smC B x) (hbB : 3 * b.length + 32 ≤ B) (hdl : done.length + b.length ≤ 2000000) (he : e = 0 ∨ (e ≠ 0 ∧ b = [] ∧ A = none ∧ n = 0 ∧ c = 0))
    (M : St w gs W ((g, 87, rc A n c Ad nd cd left e) :: (gn, 38, [.int .i64 3, .slice none 0 0, .bool false, .slice none 0 0, .slice none 0 0, .slice none 0 0]) :: L) (⟨38, 6, Ad, nd, cd, xs⟩ :: R) (.dat false (dNs done) xs :: .dat false [dB b] [.slice A n c] :: fs)) :
    Calls Try.prog 75 #[.pointer (some ⟨g, 0, none⟩), .pointer (some ⟨gn, 0, none⟩), .int .i64 (deep : Nat)] W fun en W' => (∃ v, en = .returned v) ∧ ∃ has v ks Av cv gk A' n' c' Ad' nd' cd' xs' b' done' left' e', ks.length = 16 ∧
      St w gs W' ((g, 87, rc A' n' c' Ad' nd' cd' left' e') :: (gn, 38, ncs (.mk 3 [] has v ks []) none 0 Av cv (some ⟨gk, 0, none⟩) 16 none 0) :: L) (⟨38, 6, Ad', nd', cd', xs'⟩ :: R) (.dat false (dN (.mk 3 [] has v ks [])) (ncs (.mk 3 [] has v ks []) none 0 Av cv (some ⟨gk, 0, none⟩) 16 none 0) :: .dat false (dNs done') xs' :: .dat false [dB b'] [.slice A' n' c'] :: fs) ∧
      Pbr (done.length + b.length + F) (if e = 0 then brF (oneF F) b done left else .bad e) has v ks b' done' left' e' A' n' c' := by
  refine calls_ev (args := [.pointer (some ⟨g, 0, none⟩), .pointer (some ⟨gn, 0, none⟩), .int .i64 (deep : Nat)]) mixed Try.func75 rfl (by kernel_rfl) ?_
  have hbad : e ≠ 0 → A = none ∧ n = 0 ∧ c = 0 := fun h => by
    rcases he with h' | h'
    · exact absurd h' h
    · exact h'.2.2
  have en := (M.d1 1 rfl).slen
  obtain ⟨S0, hS0⟩ : ∃ S0, S0 = (if e = 0 then brF (oneF F) b done left else .bad e) := ⟨_, rfl⟩
  rw [← hS0]
  refine ev_assoc ?_
  refine cutS (Bool × List UInt8 × Option Addr × Nat × List UInt8 × Option Addr × Nat × Option Addr × Nat × Nat × List UInt8 × Int) (fun s W => St w gs W ((g, 87, rc s.2.2.2.2.2.2.2.1 s.2.2.2.2.2.2.2.2.1 s.2.2.2.2.2.2.2.2.2.1 Ad nd cd left s.2.2.2.2.2.2.2.2.2.2.2) :: (gn, 38, [.int .i64 3, .slice none 0 0, .bool s.1, .slice s.2.2.1 s.2.1.length s.2.2.2.1, .slice none 0 0, .slice none 0 0]) :: L) (⟨38, 6, Ad, nd, cd, xs⟩ :: R) (.dat false (dNs done) xs :: .dat false [dB s.2.2.2.2.2.2.2.2.2.2.1] [.slice s.2.2.2.2.2.2.2.1 s.2.2.2.2.2.2.2.2.1 s.2.2.2.2.2.2.2.2.2.1] :: .dat false [dB s.2.1] [.slice s.2.2.1 s.2.1.length s.2.2.2.1] :: .dat false [dB s.2.2.2.2.1] [.slice s.2.2.2.2.2.1 2 s.2.2.2.2.2.2.1] :: fs) ∧ s.2.2.2.2.1.length = 2 ∧
      ((s.2.2.2.2.2.2.2.2.2.2.2 = 0 ∧ e = 0 ∧ s.2.2.2.2.2.2.2.2.2.2.1.length ≤ b.length ∧ S0 = (match kidsA (oneF F) s.2.2.2.2.1 16 0 [] s.2.2.2.2.2.2.2.2.2.2.1 done left with | .bad x => .bad x | .got ks b3 d3 l3 => .got s.1 s.2.1 ks b3 d3 l3)) ∨
       (s.2.2.2.2.2.2.2.2.2.2.2 ≠ 0 ∧ s.2.2.2.2.2.2.2.2.2.2.1 = [] ∧ s.2.2.2.2.2.2.2.1 = none ∧ s.2.2.2.2.2.2.2.2.1 = 0 ∧ s.2.2.2.2.2.2.2.2.2.1 = 0 ∧ s.2.2.2.2.1 = [0, 0] ∧ S0 = .bad s.2.2.2.2.2.2.2.2.2.2.2)))
    (fun s => [(0, .pointer (some ⟨g, 0, none⟩)), (1, .pointer (some ⟨gn, 0, none⟩)), (2, .int .i64 (deep : Nat)), (6, .slice s.2.2.2.2.2.1 2 s.2.2.2.2.2.2.1)]) ?_ ?_
  · -- what stands ahead of the kids
    have hnl : ∀ {F : Nat → Prop} {W : World}, RdD W F (dB []) (.slice none 0 0) := RdD.nil_ (s := 1) none 0
    cases b with
    | nil =>
      refine cc is_pcut (rcutB 1 (b := []) (by decide) (by decide) hbad M (M.d1 1 rfl)) ?_
      clear M
      rintro en W ⟨A1, rfl, M⟩
      refine ⟨_, rfl, ?_⟩
      obtain ⟨bb, off, hA, hcell⟩ := (M.rdb 0 rfl).2.2.at_ (k := 0) (by decide)
      subst hA
      refine p_at (i := 0) slb rfl rfl rfl (by decide) ?_
      refine v_load agg_by' rfl (by rw [Addr.add_lit, Nat.zero_mul]; exact hcell) ?_
      refine p_eq rfl rfl (fun h => absurd (show (0 : Int) = 1 from h) (by decide)) (fun _ => ?_)
      refine p_nil rfl ?_
      refine p_fld fN2 rfl ?_
      refine s_set 1 (off := 2) (.bool false) [.int .i64 3, .slice none 0 0, .bool false, .slice none 0 0, .slice none 0 0, .slice none 0 0] M rfl sz_boS rfl rfl rfl (Nat.le_of_ble_eq_true rfl) rfl ?_
      clear M; rintro W M
      dsimp only [setL] at M
      refine p_nil rfl ?_
      refine p_fld fN2 rfl ?_
      refine v_load agg_bo rfl ((M.B 1 rfl).at_ rfl) ?_
      have hfe := fe_ne (x := 11) e (by decide)
      refine cc is_pcut (rcutB 2 (b := []) (by decide) (by decide) (fun _ => ⟨rfl, rfl, rfl⟩) M hnl) ?_
      clear M
      rintro en W ⟨A9, rfl, M⟩
      refine ⟨_, rfl, ?_⟩
      replace M := (((M.addD (M.d1 0 rfl)).addD hnl).addD hnl)
      have hfe2 : fe (fe e 11) 11 = fe e 11 := by rw [show fe (fe e 11) 11 = if fe e 11 = 0 then 11 else fe e 11 from rfl, if_neg hfe]
      rw [hfe2] at M
      refine ⟨(false, [], none, 0, [0, 0], A9, 2, none, 0, 0, [], fe e 11), ⟨M.fsub _ (by intro f hf; simp only [List.mem_cons] at hf ⊢; rcases hf with h | h | h | h | h <;> simp [h]), rfl, .inr ⟨hfe, rfl, rfl, rfl, rfl, rfl, ?_⟩⟩, (by repeat (first | exact trivial | refine ⟨rfl, ?_⟩))⟩
      rw [hS0]; unfold fe
      split <;> rfl
    | cons h b1 =>
      have he0 : e = 0 := he.resolve_right fun h' => by cases h'.2.1
      subst he0
      rw [if_pos rfl] at hS0
      rw [List.length_cons] at hbB hdl en
      refine cc is_pcut (rcutG 1 (by simp) (by omega) M (M.d1 1 rfl)) ?_
      clear M
      rintro en' W ⟨A1, c1, A2, n2, c2, rfl, M⟩
      refine ⟨_, rfl, ?_⟩
      rw [show (h :: b1).take 1 = [h] from rfl, show (h :: b1).drop 1 = b1 from rfl] at M
      have en2 := (M.d1 1 rfl).slen
      obtain ⟨bb, off, hA, hcell⟩ := (M.rdb 0 rfl).2.2.at_ (k := 0) Nat.one_pos
      subst hA
      refine p_at (i := 0) slb rfl rfl rfl Nat.one_pos ?_
      refine v_load agg_by' rfl (by rw [Addr.add_lit, Nat.zero_mul]; exact hcell) ?_
      refine p_eq rfl rfl (fun h1 => ?_) (fun h1 => ?_)
      · have h1 : h = 1 := u8_one.1 h1
        subst h1
        refine p_nil rfl ?_
        refine p_fld fN2 rfl ?_
        refine s_set 1 (off := 2) (.bool true) [.int .i64 3, .slice none 0 0, .bool true, .slice none 0 0, .slice none 0 0, .slice none 0 0] M rfl sz_boS rfl rfl rfl (Nat.le_of_ble_eq_true rfl) rfl ?_
        clear M; rintro W M
        dsimp only [setL] at M
        refine p_nil rfl ?_
        refine p_fld fN2 rfl ?_
        refine v_load agg_bo rfl ((M.B 1 rfl).at_ rfl) ?_
        cases ht : textX b1 with
        | none =>
          refine cc is_ptext (rtextB ht (fun h => absurd rfl h) (by omega) M (M.d1 1 rfl)) ?_
          clear M
          rintro en W ⟨rfl, M⟩
          refine ⟨_, rfl, ?_⟩
          refine p_nil rfl ?_
          refine p_fld fN3 rfl ?_
          refine s_set 1 (off := 3) (.slice none 0 0) [.int .i64 3, .slice none 0 0, .bool true, .slice none 0 0, .slice none 0 0, .slice none 0 0] M rfl sz_slP rfl rfl rfl (Nat.le_of_ble_eq_true rfl) rfl ?_
          clear M; rintro W M
          dsimp only [setL] at M
          rw [show fe 0 11 = 11 from rfl] at M
          refine cc is_pcut (rcutB 2 (b := []) (by decide) (by decide) (fun _ => ⟨rfl, rfl, rfl⟩) M hnl) ?_
          clear M
          rintro en W ⟨A9, rfl, M⟩
          refine ⟨_, rfl, ?_⟩
          replace M := (((M.addD (M.d1 0 rfl)).addD hnl).addD hnl)
          rw [show fe 11 11 = 11 from rfl] at M
          refine ⟨(true, [], none, 0, [0, 0], A9, 2, none, 0, 0, [], 11), ⟨M.fsub _ (by intro f hf; simp only [List.mem_cons] at hf ⊢; rcases hf with h | h | h | h | h <;> simp [h]), rfl, .inr ⟨(show (11 : Int) ≠ 0 by decide), rfl, rfl, rfl, rfl, rfl, ?_⟩⟩, (by repeat (first | exact trivial | refine ⟨rfl, ?_⟩))⟩
          rw [hS0]
          unfold brF
          dsimp only
          rw [if_pos rfl, ht]
        | some r =>
          obtain ⟨v, b2⟩ := r
          have hle := textX_le ht
          refine cc is_ptext (rtextG ht (by omega) M (M.d1 1 rfl)) ?_
          clear M
          rintro en W ⟨A3, c3, A4, n4, c4, rfl, M⟩
          refine ⟨_, rfl, ?_⟩
          replace M := M.fsub (.dat true [dB v] [.slice A3 v.length c3] :: .dat false [dB b2] [.slice A4 n4 c4] :: .dat false (dNs done) xs :: fs) (by intro f hf; simp only [List.mem_cons] at hf ⊢; rcases hf with h | h | h | h <;> simp [h])
          replace M := (M.addD (M.d1 0 rfl)).fsub (.dat false [dB v] [.slice A3 v.length c3] :: .dat false [dB b2] [.slice A4 n4 c4] :: .dat false (dNs done) xs :: fs) (by intro f hf; simp only [List.mem_cons] at hf ⊢; rcases hf with h | h | h | h <;> simp [h])
          have en4 := (M.d1 1 rfl).slen
          refine p_nil rfl ?_
          refine p_fld fN3 rfl ?_
          refine s_set 1 (off := 3) (.slice A3 v.length c3) [.int .i64 3, .slice none 0 0, .bool true, .slice A3 v.length c3, .slice none 0 0, .slice none 0 0] M rfl sz_slP rfl rfl rfl (Nat.le_of_ble_eq_true rfl) rfl ?_
          clear M; rintro W M
          dsimp only [setL] at M
          by_cases hl : b2.length < 2
          · refine cc is_pcut (rcutB 2 hl (by decide) (fun h => absurd rfl h) M (M.d1 1 rfl)) ?_
            clear M
            rintro en W ⟨A9, rfl, M⟩
            refine ⟨_, rfl, ?_⟩
            rw [show fe 0 11 = 11 from rfl] at M
            replace M := (M.addD (M.d1 0 rfl)).addD hnl
            refine ⟨(true, v, A3, c3, [0, 0], A9, 2, none, 0, 0, [], 11), ⟨M.fsub _ (by intro f hf; simp only [List.mem_cons] at hf ⊢; rcases hf with h | h | h | h | h <;> simp [h]), rfl, .inr ⟨(show (11 : Int) ≠ 0 by decide), rfl, rfl, rfl, rfl, rfl, ?_⟩⟩, (by repeat (first | exact trivial | refine ⟨rfl, ?_⟩))⟩
            rw [hS0]
            unfold brF
            dsimp only
            rw [if_pos rfl, ht]
            dsimp only
            rw [if_pos hl]
          · refine cc is_pcut (rcutG 2 (by omega) (by omega) M (M.d1 1 rfl)) ?_
            clear M
            rintro en W ⟨A9, c9, A10, n10, c10, rfl, M⟩
            refine ⟨_, rfl, ?_⟩
            refine ⟨(true, v, A3, c3, b2.take 2, A9, c9, A10, n10, c10, b2.drop 2, 0), ⟨M.fsub _ (by intro f hf; simp only [List.mem_cons] at hf ⊢; rcases hf with h | h | h | h | h <;> simp [h]), by dsimp only; rw [List.length_take]; omega, .inl ⟨rfl, rfl, by dsimp only; rw [List.length_drop, List.length_cons]; omega, ?_⟩⟩, (by repeat (first | exact trivial | refine ⟨rfl, ?_⟩))⟩
            rw [hS0]
            unfold brF
            dsimp only
            rw [if_pos rfl, ht]
            dsimp only
            rw [if_neg hl]
            rfl
      · have h1 : ¬ h = 1 := fun e => h1 (u8_one.2 e)
        refine p_nil rfl ?_
        refine p_fld fN2 rfl ?_
        refine s_set 1 (off := 2) (.bool false) [.int .i64 3, .slice none 0 0, .bool false, .slice none 0 0, .slice none 0 0, .slice none 0 0] M rfl sz_boS rfl rfl rfl (Nat.le_of_ble_eq_true rfl) rfl ?_
        clear M; rintro W M
        dsimp only [setL] at M
        refine p_nil rfl ?_
        refine p_fld fN2 rfl ?_
        refine v_load agg_bo rfl ((M.B 1 rfl).at_ rfl) ?_
        replace M := (M.addD (d := dB []) (u := .slice none 0 0) hnl).fsub (.dat false [dB []] [.slice none 0 0] :: .dat false [dB b1] [.slice A2 n2 c2] :: .dat false (dNs done) xs :: fs) (by intro f hf; simp only [List.mem_cons] at hf ⊢; rcases hf with h | h | h | h <;> simp [h])
        by_cases hl : b1.length < 2
        · refine cc is_pcut (rcutB 2 hl (by decide) (fun h => absurd rfl h) M (M.d1 1 rfl)) ?_
          clear M
          rintro en W ⟨A9, rfl, M⟩
          refine ⟨_, rfl, ?_⟩
          rw [show fe 0 11 = 11 from rfl] at M
          replace M := (M.addD (M.d1 0 rfl)).addD hnl
          refine ⟨(false, [], none, 0, [0, 0], A9, 2, none, 0, 0, [], 11), ⟨M.fsub _ (by intro f hf; simp only [List.mem_cons] at hf ⊢; rcases hf with h | h | h | h | h <;> simp [h]), rfl, .inr ⟨(show (11 : Int) ≠ 0 by decide), rfl, rfl, rfl, rfl, rfl, ?_⟩⟩, (by repeat (first | exact trivial | refine ⟨rfl, ?_⟩))⟩
          rw [hS0]
          unfold brF
          dsimp only
          rw [if_neg h1]
          dsimp only
          rw [if_pos hl]
        · refine cc is_pcut (rcutG 2 (by omega) (by omega) M (M.d1 1 rfl)) ?_
          clear M
          rintro en W ⟨A9, c9, A10, n10, c10, rfl, M⟩
          refine ⟨_, rfl, ?_⟩
          refine ⟨(false, [], none, 0, b1.take 2, A9, c9, A10, n10, c10, b1.drop 2, 0), ⟨M.fsub _ (by intro f hf; simp only [List.mem_cons] at hf ⊢; rcases hf with h | h | h | h | h <;> simp [h]), by dsimp only; rw [List.length_take]; omega, .inl ⟨rfl, rfl, by dsimp only; rw [List.length_drop, List.length_cons]; omega, ?_⟩⟩, (by repeat (first | exact trivial | refine ⟨rfl, ?_⟩))⟩
          rw [hS0]
          unfold brF
          dsimp only
          rw [if_neg h1]
          dsimp only
          rw [if_neg hl]
          rw [decide_eq_false h1]
  clear M
  rintro ⟨has, v, Av, cv, set, As, cs_, A2, n2, c2, b2, e2⟩ B0 W0 ⟨M, hset, hJ⟩
  dsimp only at M hset hJ
  refine s_mkN M rfl rfl ?_
  clear M; rintro gk W M
  refine p_nil rfl ?_
  refine p_fld fN4 rfl ?_
  refine s_set 2 (off := 4) (.slice (some ⟨gk, 0, none⟩) 16 16) [.int .i64 3, .slice none 0 0, .bool has, .slice Av v.length cv, .slice (some ⟨gk, 0, none⟩) 16 16, .slice none 0 0] M rfl sz_nsP rfl rfl rfl (Nat.le_of_ble_eq_true rfl) rfl ?_
  clear M; rintro W M
  dsimp only [setL] at M
  replace M := M.swp
  refine p_nil rfl ?_
  refine p_fld fN4 rfl ?_
  refine v_load agg_ns rfl ((M.B 2 rfl).at_ rfl) ?_
  refine p_len sln rfl ?_
  replace M := M.addT (fr := false) (ds := dNs (noneNs 16)) (cs := zNs 16) (RdL.znones 16)
  obtain ⟨T, hT⟩ : ∃ T, T = kidsA (oneF F) set 16 0 [] b2 done left := ⟨_, rfl⟩
  rw [← hT] at hJ
  refine lp (Nat × List Nd × List Value × Option Addr × Nat × Nat × Option Addr × Nat × Nat × Int × Int × List UInt8 × List Nd × List Value) (fun s W => s.1 ≤ 16 ∧ s.2.1.length = s.1 ∧ St w gs W ((g, 87, rc s.2.2.2.1 s.2.2.2.2.1 s.2.2.2.2.2.1 s.2.2.2.2.2.2.1 s.2.2.2.2.2.2.2.1 s.2.2.2.2.2.2.2.2.1 s.2.2.2.2.2.2.2.2.2.1 s.2.2.2.2.2.2.2.2.2.2.1) :: (gk, 38, s.2.2.1) :: (gn, 38, [.int .i64 3, .slice none 0 0, .bool has, .slice Av v.length cv, .slice (some ⟨gk, 0, none⟩) 16 16, .slice none 0 0]) :: L) (⟨38, 6, s.2.2.2.2.2.2.1, s.2.2.2.2.2.2.2.1, s.2.2.2.2.2.2.2.2.1, s.2.2.2.2.2.2.2.2.2.2.2.2.2⟩ :: R) (.dat false (dNs s.2.2.2.2.2.2.2.2.2.2.2.2.1) s.2.2.2.2.2.2.2.2.2.2.2.2.2 :: .dat false [dB s.2.2.2.2.2.2.2.2.2.2.2.1] [.slice s.2.2.2.1 s.2.2.2.2.1 s.2.2.2.2.2.1] :: .dat false (dNs (s.2.1 ++ noneNs (16 - s.1))) s.2.2.1 :: .dat false [dB v] [.slice Av v.length cv] :: .dat false [dB set] [.slice As 2 cs_] :: fs) ∧
      ((s.2.2.2.2.2.2.2.2.2.2.1 = 0 ∧ e2 = 0 ∧ T = kidsA (oneF F) set (16 - s.1) s.1 s.2.1 s.2.2.2.2.2.2.2.2.2.2.2.1 s.2.2.2.2.2.2.2.2.2.2.2.2.1 s.2.2.2.2.2.2.2.2.2.1 ∧ 0 ≤ s.2.2.2.2.2.2.2.2.2.1 ∧ s.2.2.2.2.2.2.2.2.2.1 ≤ 5000 ∧ (∀ x ∈ s.2.2.2.2.2.2.2.2.2.2.2.2.1, smC B x) ∧ s.2.2.2.2.2.2.2.2.2.2.2.1.length ≤ b.length ∧ s.2.2.2.2.2.2.2.2.2.2.2.2.1.length + s.2.2.2.2.2.2.2.2.2.2.2.1.length ≤ done.length + b.length) ∨
       (s.2.2.2.2.2.2.2.2.2.2.1 ≠ 0 ∧ s.2.2.2.2.2.2.2.2.2.2.1 = e2 ∧ s.2.2.2.2.2.2.2.2.2.2.2.1 = [] ∧ s.2.2.2.1 = none ∧ s.2.2.2.2.1 = 0 ∧ s.2.2.2.2.2.1 = 0 ∧ s.2.2.2.2.2.2.2.2.2.2.2.2.1 = done)))
    (fun s => [(0, .pointer (some ⟨g, 0, none⟩)), (1, .pointer (some ⟨gn, 0, none⟩)), (2, .int .i64 (deep : Nat)), (6, .slice As 2 cs_), (35, .int .i64 ((16 : Nat) : Int)), (36, .int .i64 (s.1 : Nat))]) (fun s => 16 - s.1) (0, [], zNs 16, A2, n2, c2, Ad, nd, cd, left, e2, b2, done, xs) ⟨Nat.zero_le _, rfl, M.fsub _ (by intro f hf; simp only [List.mem_cons, List.nil_append, Nat.sub_zero] at hf ⊢; rcases hf with h | h | h | h | h | h <;> simp [h]), ?_⟩ (by repeat (first | exact trivial | refine ⟨rfl, ?_⟩)) ?_
  · rcases hJ with ⟨j1, j2, j3, j4⟩ | ⟨j1, j2, j3, j4, j5, j6, j7⟩
    · exact .inl ⟨j1, j1, hT, (hl0 j2).1, (hl0 j2).2, hds, j3, by dsimp only; omega⟩
    · exact .inr ⟨j1, rfl, j2, j3, j4, j5, rfl⟩
  clear M
  rintro ⟨i, dn, xk, A3, n3, c3, Ad3, nd3, cd3, left3, e3, b3, done3, xs3⟩ E5 W5 ⟨hi, hdn, M, hK⟩
  dsimp only at hi hdn M hK
  refine p_lt rfl rfl (fun hlt => ?_) (fun hge => ?_)
  · have hi16 : i < 16 := by have h : (i : Int) < ((16 : Nat) : Int) := hlt; omega
    have hnn : noneNs (16 - i) = noneN :: noneNs (16 - (i + 1)) := by unfold noneNs; rw [show 16 - i = (16 - (i + 1)) + 1 by omega, List.replicate_succ]
    have hi8 : i / 8 < set.length := by omega
    obtain ⟨bb, off, hA, hcell⟩ := (M.rdb 4 rfl).2.2.at_ (k := i / 8) (by omega)
    subst hA
    refine p_quoN (b := 8) rfl rfl (by decide) (by omega) ?_
    refine p_at (i := i / 8) slb rfl rfl rfl (by omega) ?_
    refine v_load agg_by' rfl (by rw [Addr.add_lit, Nat.mul_one]; exact hcell) ?_
    refine p_remN (b := 8) rfl rfl (by decide) ?_
    refine p_subN (a := 7) (b := i % 8) rfl rfl (by omega) (by omega) ?_
    have hq256 := (set.getD (i / 8) 0).toNat_lt
    refine p_shr rfl rfl (by omega) (r := (((set.getD (i / 8) 0).toNat / 2 ^ (7 - i % 8) : Nat) : Int)) (shr7 (by omega)) ?_
    refine p_and rfl rfl (r := ((((set.getD (i / 8) 0).toNat / 2 ^ (7 - i % 8)) % 2 : Nat) : Int)) (and1 (Nat.lt_of_le_of_lt (Nat.div_le_self _ _) hq256)) ?_
    refine p_eq rfl rfl (fun hbit => ?_) (fun hbit => ?_)
    · have hbit : ((((set.getD (i / 8) 0).toNat / 2 ^ (7 - i % 8)) % 2 : Nat) : Int) = 0 := hbit
      have hno : ¬ bitB set i = true := fun h => by
        unfold bitB at h
        rw [decide_eq_true_eq] at h
        omega
      refine p_addN (b := 1) rfl rfl (by omega) ?_
      refine ⟨(i + 1, dn ++ [noneN], xk, A3, n3, c3, Ad3, nd3, cd3, left3, e3, b3, done3, xs3), ⟨by dsimp only; omega, by dsimp only; rw [List.length_append, hdn]; rfl, ?_, ?_⟩, (by repeat (first | exact trivial | refine ⟨rfl, ?_⟩)), by dsimp only; omega⟩
      · rw [hnn] at M
        dsimp only
        rw [List.append_assoc]
        exact M
      · rcases hK with ⟨k1, k2, k3, k4⟩ | hK
        · refine .inl ⟨k1, k2, ?_, k4⟩
          rw [k3, show 16 - i = (16 - (i + 1)) + 1 by omega, kidsA, if_neg hno]
        · exact .inr hK
    · have hbit : ¬ ((((set.getD (i / 8) 0).toNat / 2 ^ (7 - i % 8)) % 2 : Nat) : Int) = 0 := hbit
      have hyes : bitB set i = true := by unfold bitB; rw [decide_eq_true]; omega
      obtain ⟨k1, k2, k3, k4, k5, k6, k7, k8⟩ := hK.resolve_right fun hK => by
        obtain ⟨j1, j2, j3, j4, j5, j6, j7⟩ := hJ.resolve_left fun hJ => hK.1 (hK.2.1.trans hJ.1)
        rw [j6] at hbit
        refine hbit ?_
        have : ([0, 0] : List UInt8).getD (i / 8) 0 = 0 := by
          have : i / 8 = 0 ∨ i / 8 = 1 := by omega
          rcases this with h | h <;> rw [h] <;> rfl
        rw [this]
        show (((0 / 2 ^ (7 - i % 8)) % 2 : Nat) : Int) = 0
        rw [Nat.zero_div]; rfl
      subst k1
      rw [show 16 - i = (16 - (i + 1)) + 1 by omega, kidsA, if_pos hyes] at k3
      have hsz := one_sz (B := B) F b3 done3 left3 k4 k5 k6 (by omega)
      have hxl := (M.da 2 rfl).len
      rw [dNs_len, List.length_append, hdn, noneNs_len] at hxl
      replace M := M.drew
      refine drT (Kp w gs [(gn, 38, [.int .i64 3, .slice none 0 0, .bool has, .slice Av v.length cv, .slice (some ⟨gk, 0, none⟩) 16 16, .slice none 0 0])] []) (.take 0 (.take 1 (.take 2 (.take 3 (.take 4 (.take 5 (.take 6 (.take 7 (.one 8 (.take 9 (.one 10 (.nil)))))))))))) (by kernel_rfl) (M.kp (by simp) (by simp)) ?_
      refine p_nil rfl ?_
      refine p_fld fN4 rfl ?_
      refine t_load agg_ns rfl (fun W K => (K.B 0 rfl).at_ rfl) ?_
      refine p_addN (b := 1) rfl rfl (by omega) ?_
      refine cc is_pnode (ih B (deep + 1) (by omega) hB w _ gs g A3 n3 c3 Ad3 nd3 cd3 left3 b3 done3 xs3 _ R _ k4 k5 k6 (by omega) (by omega) M) ?_
      clear M
      rintro en' W ⟨cs, tn, A4, n4, c4, Ad4, nd4, cd4, xs4, b4, done4, left4, e4, rfl, M, hP⟩
      refine ⟨_, rfl, (M.kp (by simp) (by simp)), ?_⟩
      have hcl := (M.da 0 rfl).len
      rw [dN_len] at hcl
      refine p_atL (i := i) (q := i * 6) sln rfl rfl rfl hi16 (by omega) ?_
      refine s_storeP 1 (n := 6) (off := i * 6) cs _ M rfl sz_nd rfl rfl hcl ((M.da 0 rfl).ones (dN_one _)) (by omega) rfl ?_
      clear M; rintro W M
      dsimp only [setL] at M
      refine ⟨(M.kp (by simp) (by simp)), ?_⟩
      have hX := M.dw 3 rfl
      have hX2 := ((hX.take (i * 6)).app (M.dw 0 rfl)).app (hX.drop (i * 6 + 6))
      rw [← dNs_set tn (by rw [List.length_append, hdn, noneNs_len]; omega)] at hX2
      have hst : (dn ++ noneNs (16 - i)).set i tn = (dn ++ [tn]) ++ noneNs (16 - (i + 1)) := by
        rw [hnn, List.set_append_right _ _ (by omega), hdn, Nat.sub_self, List.set_cons_zero, List.append_assoc]; rfl
      rw [hst] at hX2
      replace M := M.addT hX2
      refine p_nil rfl ?_
      refine p_fld fp3 rfl ?_
      refine v_load agg_errP rfl ((M.B 0 rfl).at_ rfl) ?_
      cases hr : oneF F b3 done3 left3 with
      | bad x =>
        rw [hr] at hP hsz k3
        obtain ⟨p1, p2, p3, p4, p5, p6⟩ := hP
        have hx0 : x ≠ 0 := by rcases hsz with h | h <;> rw [h] <;> decide
        refine p_ne rfl rfl (fun h => absurd (p1.symm.trans h) hx0) (fun _ => ?_)
        obtain ⟨Kt, hKt⟩ : ∃ Kt, Kt = (dn ++ [tn]) ++ noneNs (16 - (i + 1)) := ⟨_, rfl⟩
        have hK16 : Kt.length = 16 := by rw [hKt, List.length_append, List.length_append, noneNs_len, hdn]; simp; omega
        rw [← hKt] at M
        replace M := M.swp
        replace M := M.frzB (fr := false) (s := 6) (n := 16) (c := 16) (M.dw 0 rfl) (by rw [dNs_len, hK16]) (Nat.le_refl _)
        have hks := (M.dw 0 rfl).hd
        have key : ∀ (V : World) F, RdD V F (.sl 6 16 (dNs Kt)) (.slice (some ⟨gk, 0, none⟩) 16 16) → RdD V F (dKs Kt) (.slice (some ⟨gk, 0, none⟩) Kt.length 16) := fun V F h => by unfold dKs; rw [hK16]; exact h
        have hn := RdL.ofnode (t := .mk 3 [] has v Kt []) (RdD.nil_ (s := 1) none 0) (M.dw 6 rfl).hd (key _ _ hks) (RdD.nil_ (s := 1) none 0)
        have hnc : ([.int .i64 3, .slice none 0 0, .bool has, .slice Av v.length cv, .slice (some ⟨gk, 0, none⟩) 16 16, .slice none 0 0] : List Value) = ncs (.mk 3 [] has v Kt []) none 0 Av cv (some ⟨gk, 0, none⟩) 16 none 0 := by simp only [ncs, Nd.kids, Nd.kind, Nd.path, Nd.has, Nd.val, Nd.hash, hK16, List.length_nil]
        replace M := M.addT hn
        rw [hnc] at M
        refine ⟨⟨_, rfl⟩, has, v, Kt, Av, cv, gk, _, _, _, _, _, _, _, b4, done4, left4, e4, hK16, M.fsub _ (by intro f hf; simp only [List.mem_cons] at hf ⊢; rcases hf with h | h | h | h <;> simp [h]), ?_⟩
        obtain ⟨j1, j2, j3, j4⟩ := hJ.resolve_right fun hJ => hJ.1 k2
        rw [j4, k3]
        exact ⟨p1, fun h => hx0 (p1.symm.trans h), p2, p3, p4, p5, by omega⟩
      | got nn b1 d1 l1 =>
        rw [hr] at hP hsz k3
        obtain ⟨p1, p2, p3, p4, p5⟩ := hP
        obtain ⟨s1, s2, s3, s4, s5, s6⟩ := hsz
        subst p1; subst p2; subst p3; subst p4; subst p5
        refine p_ne rfl rfl (fun _ => ?_) (fun h => absurd rfl h)
        refine p_addN (b := 1) rfl rfl (by omega) ?_
        exact ⟨(i + 1, dn ++ [tn], _, A4, n4, c4, Ad4, nd4, cd4, left4, 0, b4, done4, xs4), ⟨by dsimp only; omega, by dsimp only; rw [List.length_append, hdn]; rfl, M.fsub _ (by intro f hf; simp only [List.mem_cons] at hf ⊢; rcases hf with h | h | h | h | h | h <;> simp [h]), .inl ⟨rfl, k2, k3, s3, by dsimp only; omega, s2, by dsimp only; omega, by dsimp only; omega⟩⟩, (by repeat (first | exact trivial | refine ⟨rfl, ?_⟩)), by dsimp only; omega⟩
  · have hge : i = 16 := by have h : ¬ (i : Int) < ((16 : Nat) : Int) := hge; omega
    subst hge
    rw [show noneNs (16 - 16) = [] from rfl, List.append_nil] at M
    obtain ⟨Kt, hKt⟩ : ∃ Kt, Kt = dn := ⟨_, rfl⟩
    have hK16 : Kt.length = 16 := by rw [hKt]; exact hdn
    rw [← hKt] at M
    replace M := M.swp
    replace M := M.frzB (fr := false) (s := 6) (n := 16) (c := 16) (M.dw 2 rfl) (by rw [dNs_len, hK16]) (Nat.le_refl _)
    have hks := (M.dw 0 rfl).hd
    have key : ∀ (V : World) F, RdD V F (.sl 6 16 (dNs Kt)) (.slice (some ⟨gk, 0, none⟩) 16 16) → RdD V F (dKs Kt) (.slice (some ⟨gk, 0, none⟩) Kt.length 16) := fun V F h => by unfold dKs; rw [hK16]; exact h
    have hn := RdL.ofnode (t := .mk 3 [] has v Kt []) (RdD.nil_ (s := 1) none 0) (M.dw 4 rfl).hd (key _ _ hks) (RdD.nil_ (s := 1) none 0)
    have hnc : ([.int .i64 3, .slice none 0 0, .bool has, .slice Av v.length cv, .slice (some ⟨gk, 0, none⟩) 16 16, .slice none 0 0] : List Value) = ncs (.mk 3 [] has v Kt []) none 0 Av cv (some ⟨gk, 0, none⟩) 16 none 0 := by simp only [ncs, Nd.kids, Nd.kind, Nd.path, Nd.has, Nd.val, Nd.hash, hK16, List.length_nil]
    replace M := M.addT hn
    rw [hnc] at M
    refine ⟨⟨_, rfl⟩, has, v, Kt, Av, cv, gk, _, _, _, _, _, _, _, b3, done3, left3, e3, hK16, M.fsub _ (by intro f hf; simp only [List.mem_cons] at hf ⊢; rcases hf with h | h | h | h <;> simp [h]), ?_⟩
    rcases hK with ⟨k1, k2, k3, k4⟩ | ⟨k1, k2, k3, k4, k5, k6, k7⟩
    · obtain ⟨j1, j2, j3, j4⟩ := hJ.resolve_right fun hJ => hJ.1 k2
      rw [j4, k3, show 16 - 16 = 0 from rfl, kidsA]
      exact ⟨k1, rfl, rfl, hKt, rfl, rfl, rfl⟩
    · obtain ⟨j1, j2, j3, j4, j5, j6, j7⟩ := hJ.resolve_left fun hJ => k1 (k2.trans hJ.1)
      rw [j7]
      exact ⟨k2, k1, k3, k4, k5, k6, by rw [k7]; omega⟩
end Go.Proofs.Ytliccofjlheceaa
