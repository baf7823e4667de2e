/- Package pack: the sender's node and branch. Package pack: the sender's node. -/
import Derived.Test.YtliccofjlheceaaG20
namespace Go.Proofs.Ytliccofjlheceaa
open Go.RowKit
theorem is_snode : isFn Try.prog 45 = true := by kernel_rfl
theorem is_sbr : isFn Try.prog 66 = true := by kernel_rfl
theorem is_vputS : isFn Try.prog 34 = true := by kernel_rfl
theorem fsd0 : fieldOff Try.prog 81 0 = some 0 := by kernel_rfl
theorem fsd1 : fieldOff Try.prog 81 1 = some 1 := by kernel_rfl
theorem sz_slS : (Try.prog.info? 23).map (·.size) = some 1 := by kernel_rfl
theorem sz_nsS : (Try.prog.info? 36).map (·.size) = some 1 := by kernel_rfl
mutual
theorem sd_mem : ∀ (t : Nd) (done : List Nd), ∀ x ∈ (sdP t done).2, x ∈ done ∨ sz x ≤ sz t
  | .mk k p has v ks h, done => by
    intro x hx
    rw [sdP] at hx
    split at hx
    · exact .inl hx
    · rcases List.mem_append.1 hx with hx | hx
      · rcases sdK_mem ks done x hx with h1 | h1
        · exact .inl h1
        · right; rw [sz]; omega
      · rw [List.mem_singleton] at hx
        right; rw [hx]; exact Nat.le_refl _
theorem sdK_mem : ∀ (ks : List Nd) (done : List Nd), ∀ x ∈ (sdK ks done).2, x ∈ done ∨ sz x ≤ szs ks
  | [], done => by intro x hx; rw [sdK] at hx; exact .inl hx
  | t :: ts, done => by
    intro x hx
    rw [sdK] at hx
    rw [szs]
    split at hx
    · rcases sdK_mem ts done x hx with h | h
      · exact .inl h
      · right; omega
    · rcases sdK_mem ts _ x hx with h | h
      · rcases sd_mem t done x h with h | h
        · exact .inl h
        · right; omega
      · right; omega
end
theorem sdK_snoc : ∀ (ks : List Nd) (k : Nd) (done : List Nd), sdK (ks ++ [k]) done = if k.kind = 0 then sdK ks done else ((sdK ks done).1 ++ (sdP k (sdK ks done).2).1, (sdP k (sdK ks done).2).2)
  | [], k, done => by
    rw [List.nil_append, sdK, sdK]
    split
    · rfl
    · rw [sdK]; dsimp only; rw [List.append_nil]; rfl
  | t :: ts, k, done => by
    rw [List.cons_append, sdK, sdK]
    by_cases h : t.kind = 0
    · rw [if_pos h, if_pos h]; exact sdK_snoc ts k done
    · rw [if_neg h, if_neg h, sdK_snoc ts k]
      split
      · rfl
      · dsimp only; rw [List.append_assoc]
def SndOk (t : Nd) : Prop := ∀ (even : Bool) (d : Nat) (w W : World) (gs : List (Option Nat)) (g : Nat) (Ao : Option Addr) (no co : Nat) (Ad : Option Addr) (nd cd : Nat) (out : List UInt8) (done : List Nd) (xs : List Value) (L : Lc) (R : List Row) (fs : List Fact) (cs : List Value), Val even t d →
  St w gs W ((g, 81, [.slice Ao no co, .slice Ad nd cd]) :: L) (⟨5, 1, Ao, no, co, bvs out⟩ :: ⟨38, 6, Ad, nd, cd, xs⟩ :: R) (.dat false (dNs done) xs :: fs) →
  RdL W (Fd W (own ((g, 81, [.slice Ao no co, .slice Ad nd cd]) :: L) (⟨5, 1, Ao, no, co, bvs out⟩ :: ⟨38, 6, Ad, nd, cd, xs⟩ :: R) gs)) (dN t) cs →
  out.length + 5 * sz t ≤ 900000000 → done.length + sz t ≤ 100000000 → (∀ x ∈ done, sz x < 1000000000) →
  Calls Try.prog 45 #[.pointer (some ⟨g, 0, none⟩), .agg cs.toArray] W fun e W' => (∃ v, e = .returned v) ∧ ∃ Ao' co' Ad' nd' cd' xs',
    St w gs W' ((g, 81, [.slice Ao' (out ++ (sdP t done).1).length co', .slice Ad' nd' cd']) :: L) (⟨5, 1, Ao', (out ++ (sdP t done).1).length, co', bvs (out ++ (sdP t done).1)⟩ :: ⟨38, 6, Ad', nd', cd', xs'⟩ :: R) (.dat false (dNs (sdP t done).2) xs' :: fs)
/-- The row's length. -/
theorem St.rowLen {w W : World} {gs : List (Option Nat)} {L : Lc} {R : List Row} {fs : List Fact} (M : St w gs W L R fs) (j : Nat) {A : Option Addr} {n c : Nat} {l : List UInt8} (h : nth R j = some ⟨5, 1, A, n, c, bvs l⟩) : n = l.length := by
  have := (M.row _ (nth_mem h)).1
  dsimp only at this
  rw [bvs_length] at this
  omega
set_option maxRecDepth 100000 in
set_option maxHeartbeats 8000000 in
theorem sbr_any (t : Nd) (ih : ∀ k ∈ t.kids, SndOk k) (even : Bool) (d : Nat) (w W : World) (gs : List (Option Nat)) (g : Nat) (Ao : Option Addr) (no co : Nat) (Ad : Option Addr) (nd cd : Nat) (out : List UInt8) (done : List Nd) (xs : List Value) (L : Lc) (R : List Row) (fs : List Fact) (cs : List Value) (hv : Val even t d) (h3 : t.kind = 3)
    (M : St w gs W ((g, 81, [.slice Ao no co, .slice Ad nd cd]) :: L) (⟨5, 1, Ao, no, co, bvs out⟩ :: ⟨38, 6, Ad, nd, cd, xs⟩ :: R) (.dat false (dNs done) xs :: fs))
    (hr : RdL W (Fd W (own ((g, 81, [.slice Ao no co, .slice Ad nd cd]) :: L) (⟨5, 1, Ao, no, co, bvs out⟩ :: ⟨38, 6, Ad, nd, cd, xs⟩ :: R) gs)) (dN t) cs)
    (ho : out.length + 24 + t.val.length + 5 * szs t.kids ≤ 900000000) (hdn : done.length + szs t.kids ≤ 100000000) (hds : ∀ x ∈ done, sz x < 1000000000) (hzt : sz t ≤ 200000000) :
    Calls Try.prog 66 #[.pointer (some ⟨g, 0, none⟩), .agg cs.toArray] W fun e W' => (∃ v, e = .returned v) ∧ ∃ Ao' co' Ad' nd' cd' xs' X, X = out ++ ((if t.has then (1 : UInt8) :: putB t.val else [0]) ++ (UInt8.ofNat (kbits t.kids 16).1 :: UInt8.ofNat (kbits t.kids 16).2 :: [])) ++ (sdK t.kids done).1 ∧
      St w gs W' ((g, 81, [.slice Ao' X.length co', .slice Ad' nd' cd']) :: L) (⟨5, 1, Ao', X.length, co', bvs X⟩ :: ⟨38, 6, Ad', nd', cd', xs'⟩ :: R) (.dat false (dNs (sdK t.kids done).2) xs' :: fs) := by
  refine calls_ev (args := [.pointer (some ⟨g, 0, none⟩), .agg cs.toArray]) mixed Try.func66 rfl (by kernel_rfl) ?_
  obtain ⟨Ap, cp, Av, cv, Ak, ck, Ah, ch, rfl, r1, r3, r4, r5⟩ := hr.node
  have hsz := sz_eq t
  have hvn := putN_len10 (n := t.val.length) (by omega)
  have eno := M.rowLen 0 rfl
  subst eno
  obtain ⟨h16, hvk⟩ := hv.br_kids h3
  replace M := (M.addD r4).addD r3
  clear r1 r3 r4 r5 hr
  refine s_box (ncs t Ap cp Av cv Ak ck Ah ch) M rfl ?_
  clear M
  rintro g3 W M
  obtain ⟨P, hP⟩ : ∃ P, P = out ++ (if t.has then (1 : UInt8) :: putB t.val else [0]) := ⟨_, rfl⟩
  have hPl : P.length ≤ out.length + 11 + t.val.length := by
    rw [hP, List.length_append]
    split
    · rw [List.length_cons, putB_lenE]; omega
    · simp only [List.length_cons, List.length_nil]; omega
  refine ev_assoc ?_
  refine cutS (Option Addr × Nat) (fun s W => St w gs W ((g3, 38, ncs t Ap cp Av cv Ak ck Ah ch) :: (g, 81, [.slice s.1 P.length s.2, .slice Ad nd cd]) :: L) (⟨5, 1, s.1, P.length, s.2, bvs P⟩ :: ⟨38, 6, Ad, nd, cd, xs⟩ :: R) (.dat false (dNs done) xs :: .dat false [dKs t.kids] [.slice Ak t.kids.length ck] :: fs)) (fun s => [(0, .pointer (some ⟨g, 0, none⟩)), (3, .pointer (some ⟨g3, 0, none⟩)), (4, .int .i64 0)]) ?_ ?_
  · refine p_fld fN2 rfl ?_
    refine v_load agg_bo rfl ((M.B 0 rfl).at_ rfl) ?_
    cases hh : t.has with
    | true =>
      rw [hh, if_pos rfl] at hP
      replace M := M.drew
      refine drZ 13 (Kp w gs [(g3, 38, ncs t Ap cp Av cv Ak ck Ah ch), (g, 81, [.slice Ao out.length co, .slice Ad nd cd])] []) [(0, true), (1, true), (2, true), (3, true), (4, true), (7, true), (8, true), (5, false), (6, false), (9, false), (10, false), (11, true), (12, true)] (by kernel_rfl) (M.kp (by simp) (by simp)) ?_
      refine p_nil rfl ?_
      refine p_fld fsd0 rfl ?_
      refine t_load agg_b rfl (fun W K => (K.B 1 rfl).at_ rfl) ?_
      refine p_fld fN3 rfl ?_
      refine t_load agg_b rfl (fun W K => (K.B 0 rfl).at_ rfl) ?_
      refine s_litB [.int .u8 1] [1] M (by decide) rfl rfl rfl ?_
      clear M; rintro g9 W M
      replace M := M.frzO
      refine ⟨(M.kp (by simp) (by simp)), ?_⟩
      refine s_appB M rfl rfl (M.rdb 0 rfl).2.2 (by omega) ?_
      clear M; rintro A6 c6 W M -
      refine ⟨(M.kp (by simp) (by simp)), ?_⟩
      refine cc is_npb (putBytes_any _ _ _ t.val _ (M.rdb 1 rfl).2.2 (by omega)) ?_
      rintro e W ⟨A7, c7, rfl, o7, hb⟩
      replace M := M.callO hb o7
      clear o7 hb
      refine ⟨_, rfl, (M.kp (by simp) (by simp)), ?_⟩
      refine s_appB M rfl rfl (M.rdb 0 rfl).2.2 (by omega) ?_
      clear M; rintro A8 c8 W M -
      refine ⟨(M.kp (by simp) (by simp)), ?_⟩
      refine p_nil rfl ?_
      refine p_fld fsd0 rfl ?_
      refine s_set 1 (.slice A8 (out.length + 1 + ((putN t.val.length).length + t.val.length)) c8) [.slice A8 (out.length + 1 + ((putN t.val.length).length + t.val.length)) c8, .slice Ad nd cd] M rfl sz_slS rfl rfl rfl (Nat.le_of_ble_eq_true rfl) rfl ?_
      clear M; rintro W M
      dsimp only [setL] at M
      have e : out ++ [1] ++ putB t.val = P := by rw [hP, List.append_assoc]; rfl
      have hl : out.length + 1 + ((putN t.val.length).length + t.val.length) = P.length := by rw [hP, List.length_append, List.length_cons, putB_lenE]; omega
      rw [e, hl] at M
      exact ⟨(A8, c8), M.fsub _ (by intro f hf; simp only [List.mem_cons] at hf ⊢; rcases hf with h | h | h <;> simp [h]), (by repeat (first | exact trivial | refine ⟨rfl, ?_⟩))⟩
    | false =>
      rw [hh, if_neg (by simp)] at hP
      refine p_nil rfl ?_
      refine p_fld fsd0 rfl ?_
      refine v_load agg_b rfl ((M.B 1 rfl).at_ rfl) ?_
      refine s_litB [.int .u8 0] [0] M (by decide) rfl rfl rfl ?_
      clear M; rintro g9 W M
      replace M := M.frzO
      refine s_appB M rfl rfl (M.rdb 0 rfl).2.2 (by omega) ?_
      clear M; rintro A8 c8 W M -
      refine p_nil rfl ?_
      refine p_fld fsd0 rfl ?_
      refine s_set 1 (.slice A8 (out.length + 1) c8) [.slice A8 (out.length + 1) c8, .slice Ad nd cd] M rfl sz_slS rfl rfl rfl (Nat.le_of_ble_eq_true rfl) rfl ?_
      clear M; rintro W M
      dsimp only [setL] at M
      have hl : out.length + 1 = P.length := by rw [hP, List.length_append]; rfl
      rw [← hP, hl] at M
      exact ⟨(A8, c8), M.fsub _ (by intro f hf; simp only [List.mem_cons] at hf ⊢; rcases hf with h | h | h <;> simp [h]), (by repeat (first | exact trivial | refine ⟨rfl, ?_⟩))⟩
  clear M
  rintro ⟨A0, c0⟩ B0 W0 M
  dsimp only at M
  refine p_fld fN4 rfl ?_
  refine v_load agg_ns rfl ((M.B 0 rfl).at_ rfl) ?_
  refine p_len sln rfl ?_
  refine lp Nat (fun i W => i ≤ 16 ∧ St w gs W ((g3, 38, ncs t Ap cp Av cv Ak ck Ah ch) :: (g, 81, [.slice A0 P.length c0, .slice Ad nd cd]) :: L) (⟨5, 1, A0, P.length, c0, bvs P⟩ :: ⟨38, 6, Ad, nd, cd, xs⟩ :: R) (.dat false (dNs done) xs :: .dat false [dKs t.kids] [.slice Ak t.kids.length ck] :: fs))
    (fun i => [(0, .pointer (some ⟨g, 0, none⟩)), (3, .pointer (some ⟨g3, 0, none⟩)), (4, .int .i64 (setN t.kids i)), (34, .slice Ak t.kids.length ck), (35, .int .i64 t.kids.length), (36, .int .i64 i)]) (fun i => 16 - i) 0 ⟨Nat.zero_le _, M⟩ (by rw [show setN t.kids 0 = 0 from rfl]; exact (by repeat (first | exact trivial | refine ⟨rfl, ?_⟩))) ?_
  clear M
  rintro i E5 W5 ⟨hi, M⟩
  refine p_lt rfl rfl (fun hlt => ?_) (fun hge => ?_)
  · have hi16 : i < 16 := by have h : (i : Int) < (t.kids.length : Int) := hlt; omega
    obtain ⟨k, hki⟩ : ∃ k, t.kids[i]? = some k := ⟨_, List.getElem?_eq_getElem (by omega)⟩
    have hkd : t.kids.getD i noneN = k := by rw [List.getD_eq_getElem?_getD, hki]; rfl
    obtain ⟨b, off, es, e0, hel, M'⟩ := M.kid (M.d1 1 rfl) hki
    replace M := M'; clear M'
    obtain ⟨Ap5, cp5, Av5, cv5, Ak5, ck5, Ah5, ch5, rfl, -⟩ := (M.da 1 rfl).node
    refine p_at sln (by show (Value.slice Ak t.kids.length ck) = _; rw [e0]) rfl rfl (by omega) ?_
    refine v_loadN (ncs k Ap5 cp5 Av5 cv5 Ak5 ck5 Ah5 ch5) agg_nd rfl hel (M.lc 0 rfl) ?_
    refine s_alloc (zN) M al_nd ?_
    clear M
    rintro g9 W M
    first | refine s_storeA 0 (ncs k Ap5 cp5 Av5 cv5 Ak5 ck5 Ah5 ch5) M rfl (by kernel_rfl) rfl rfl rfl (all1 rfl) rfl ?_ | refine s_storeA 1 (ncs k Ap5 cp5 Av5 cv5 Ak5 ck5 Ah5 ch5) M rfl (by kernel_rfl) rfl rfl rfl (all1 rfl) rfl ?_ | refine s_storeA 2 (ncs k Ap5 cp5 Av5 cv5 Ak5 ck5 Ah5 ch5) M rfl (by kernel_rfl) rfl rfl rfl (all1 rfl) rfl ?_ | refine s_storeA 3 (ncs k Ap5 cp5 Av5 cv5 Ak5 ck5 Ah5 ch5) M rfl (by kernel_rfl) rfl rfl rfl (all1 rfl) rfl ?_
    clear M
    rintro W M
    dsimp only [setL] at M
    refine p_fld fN0 rfl ?_
    refine v_load agg_int rfl ((M.B 0 rfl).at_ rfl) ?_
    refine p_ne rfl rfl (fun hk0 => ?_) (fun hk0 => ?_)
    · have hsn := setN_no (ks := t.kids) (i := i) (by rw [hkd]; exact hk0)
      refine p_addN (b := 1) rfl rfl (by omega) ?_
      exact ⟨i + 1, ⟨by omega, M.dropL.fsub _ (by intro f hf; simp only [List.mem_cons] at hf ⊢; rcases hf with h | h | h <;> simp [h])⟩, (by rw [hsn]; exact ⟨rfl, rfl, rfl, rfl, rfl, rfl, trivial⟩), by omega⟩
    · have hso := setN_or (ks := t.kids) hi16 (by rw [hkd]; exact hk0)
      refine p_subN (a := 15) (b := i) rfl rfl (by omega) (by omega) ?_
      refine p_shl rfl rfl (by omega) (shl15 hi16) ?_
      refine p_or rfl rfl hso ?_
      refine p_addN (b := 1) rfl rfl (by omega) ?_
      exact ⟨i + 1, ⟨by omega, M.dropL.fsub _ (by intro f hf; simp only [List.mem_cons] at hf ⊢; rcases hf with h | h | h <;> simp [h])⟩, (by repeat (first | exact trivial | refine ⟨rfl, ?_⟩)), by omega⟩
  have hge : i = 16 := by have h : ¬ (i : Int) < (t.kids.length : Int) := hge; omega
  subst hge
  have hkb := kbits_le t.kids 16 (Nat.le_refl _)
  refine p_nil rfl ?_
  refine p_fld fsd0 rfl ?_
  refine v_load agg_b rfl ((M.B 1 rfl).at_ rfl) ?_
  refine p_shr rfl rfl (by decide) (r := (((kbits t.kids 16).1 : Nat) : Int)) (by show ((setN t.kids 16 : Nat) : Int).fdiv 256 = _; rw [Int.fdiv_eq_ediv_of_nonneg _ (by decide)]; unfold setN; omega) ?_
  refine v_cvt u_int u_u8 rfl (r := (((kbits t.kids 16).1 : Nat) : Int)) (by rw [IntKind.wrap_u8']; omega) ?_
  refine v_cvt u_int u_u8 rfl (r := (((kbits t.kids 16).2 : Nat) : Int)) (by rw [IntKind.wrap_u8']; show ((setN t.kids 16 : Nat) : Int) % 256 = _; unfold setN; omega) ?_
  refine s_litB [.int .u8 (((kbits t.kids 16).1 : Nat) : Int), .int .u8 (((kbits t.kids 16).2 : Nat) : Int)] [UInt8.ofNat (kbits t.kids 16).1, UInt8.ofNat (kbits t.kids 16).2] M (by decide) rfl (by
    have e1 := bvs1 (kbits t.kids 16).1
    have e2 := bvs1 (kbits t.kids 16).2
    rw [Nat.mod_eq_of_lt (by omega)] at e1 e2
    show [Value.int .u8 _] ++ [Value.int .u8 _] = bvs ([UInt8.ofNat (kbits t.kids 16).1] ++ [UInt8.ofNat (kbits t.kids 16).2])
    rw [bvs_append, ← e1, ← e2]) rfl ?_
  clear M; rintro g10 W M
  replace M := M.frzO
  refine s_appB M rfl rfl (M.rdb 0 rfl).2.2 (by omega) ?_
  clear M; rintro A11 c11 W M -
  refine p_nil rfl ?_
  refine p_fld fsd0 rfl ?_
  refine s_set 1 (.slice A11 (P.length + 2) c11) [.slice A11 (P.length + 2) c11, .slice Ad nd cd] M rfl sz_slS rfl rfl rfl (Nat.le_of_ble_eq_true rfl) rfl ?_
  clear M; rintro W M
  dsimp only [setL] at M
  obtain ⟨Q, hQ⟩ : ∃ Q, Q = P ++ [UInt8.ofNat (kbits t.kids 16).1, UInt8.ofNat (kbits t.kids 16).2] := ⟨_, rfl⟩
  have hQl : P.length + 2 = Q.length := by rw [hQ, List.length_append]; rfl
  rw [← hQ, hQl] at M
  obtain ⟨X, hX⟩ : ∃ X : Nat → List UInt8, X = fun i => Q ++ (sdK (t.kids.take i) done).1 := ⟨_, rfl⟩
  have hX0 : X 0 = Q := by rw [hX]; dsimp only; rw [List.take_zero, sdK, List.append_nil]
  have hD0 : (sdK (t.kids.take 0) done).2 = done := by rw [List.take_zero, sdK]
  refine p_fld fN4 rfl ?_
  refine v_load agg_ns rfl ((M.B 0 rfl).at_ rfl) ?_
  refine p_len sln rfl ?_
  refine lp (Nat × Option Addr × Nat × Option Addr × Nat × Nat × List Value) (fun s W => s.1 ≤ 16 ∧ St w gs W ((g3, 38, ncs t Ap cp Av cv Ak ck Ah ch) :: (g, 81, [.slice s.2.1 (X s.1).length s.2.2.1, .slice s.2.2.2.1 s.2.2.2.2.1 s.2.2.2.2.2.1]) :: L) (⟨5, 1, s.2.1, (X s.1).length, s.2.2.1, bvs (X s.1)⟩ :: ⟨38, 6, s.2.2.2.1, s.2.2.2.2.1, s.2.2.2.2.2.1, s.2.2.2.2.2.2⟩ :: R) (.dat false (dNs (sdK (t.kids.take s.1) done).2) s.2.2.2.2.2.2 :: .dat false [dKs t.kids] [.slice Ak t.kids.length ck] :: fs))
    (fun s => [(0, .pointer (some ⟨g, 0, none⟩)), (65, .slice Ak t.kids.length ck), (66, .int .i64 t.kids.length), (67, .int .i64 (s.1 : Nat))]) (fun s => 16 - s.1) (0, A11, c11, Ad, nd, cd, xs) ⟨Nat.zero_le _, by dsimp only; rw [hX0, hD0]; exact M.fsub _ (by intro f hf; simp only [List.mem_cons] at hf ⊢; rcases hf with h | h | h <;> simp [h])⟩ (by repeat (first | exact trivial | refine ⟨rfl, ?_⟩)) ?_
  clear M
  rintro ⟨i, A1, c1, A2, n2, c2, xs2⟩ E5 W5 ⟨hi, M⟩
  dsimp only at hi M
  refine p_lt rfl rfl (fun hlt => ?_) (fun hge => ?_)
  · have hi16 : i < 16 := by have h : (i : Int) < (t.kids.length : Int) := hlt; omega
    obtain ⟨k, hki⟩ : ∃ k, t.kids[i]? = some k := ⟨_, List.getElem?_eq_getElem (by omega)⟩
    have hkm := List.mem_of_getElem? hki
    have hst : t.kids.take (i + 1) = t.kids.take i ++ [k] := by rw [List.take_add_one, hki]; rfl
    have hsn := sdK_snoc (t.kids.take i) k done
    rw [← hst] at hsn
    have hsum : szs (t.kids.take i) + sz k ≤ szs t.kids := by
      have e : t.kids = t.kids.take (i + 1) ++ t.kids.drop (i + 1) := (List.take_append_drop ..).symm
      have h := congrArg szs e
      rw [hst, szs_appC, szs_appC, szs, szs] at h
      omega
    have hXl : (X i).length ≤ Q.length + 5 * szs (t.kids.take i) := by
      rw [hX]; dsimp only; rw [List.length_append]
      have := sdK_size (t.kids.take i) done (by omega)
      omega
    have hDl := sdK_len (t.kids.take i) done
    have hDm := sdK_mem (t.kids.take i) done
    obtain ⟨b, off, es, e0, hel, M'⟩ := M.kid (M.d1 1 rfl) hki
    replace M := M'; clear M'
    obtain ⟨Ap5, cp5, Av5, cv5, Ak5, ck5, Ah5, ch5, rfl, -⟩ := (M.da 1 rfl).node
    refine p_at sln (by show (Value.slice Ak t.kids.length ck) = _; rw [e0]) rfl rfl (by omega) ?_
    refine v_loadN (ncs k Ap5 cp5 Av5 cv5 Ak5 ck5 Ah5 ch5) agg_nd rfl hel (M.lc 0 rfl) ?_
    refine s_alloc (zN) M al_nd ?_
    clear M
    rintro g9 W M
    first | refine s_storeA 0 (ncs k Ap5 cp5 Av5 cv5 Ak5 ck5 Ah5 ch5) M rfl (by kernel_rfl) rfl rfl rfl (all1 rfl) rfl ?_ | refine s_storeA 1 (ncs k Ap5 cp5 Av5 cv5 Ak5 ck5 Ah5 ch5) M rfl (by kernel_rfl) rfl rfl rfl (all1 rfl) rfl ?_ | refine s_storeA 2 (ncs k Ap5 cp5 Av5 cv5 Ak5 ck5 Ah5 ch5) M rfl (by kernel_rfl) rfl rfl rfl (all1 rfl) rfl ?_ | refine s_storeA 3 (ncs k Ap5 cp5 Av5 cv5 Ak5 ck5 Ah5 ch5) M rfl (by kernel_rfl) rfl rfl rfl (all1 rfl) rfl ?_
    clear M
    rintro W M
    dsimp only [setL] at M
    refine p_fld fN0 rfl ?_
    refine v_load agg_int rfl ((M.B 0 rfl).at_ rfl) ?_
    refine p_ne rfl rfl (fun hk0 => ?_) (fun hk0 => ?_)
    · have hk0 : k.kind = 0 := hk0
      rw [if_pos hk0] at hsn
      refine p_addN (b := 1) rfl rfl (by omega) ?_
      have hX1 : X (i + 1) = X i := by rw [hX]; dsimp only; rw [hsn]
      exact ⟨(i + 1, A1, c1, A2, n2, c2, xs2), ⟨by dsimp only; omega, by dsimp only; rw [hX1, hsn]; exact M.dropL.fsub _ (by intro f hf; simp only [List.mem_cons] at hf ⊢; rcases hf with h | h | h <;> simp [h])⟩, (by repeat (first | exact trivial | refine ⟨rfl, ?_⟩)), by dsimp only; omega⟩
    · have hk0 : ¬ k.kind = 0 := hk0
      rw [if_neg hk0] at hsn
      refine v_loadN (ncs k Ap5 cp5 Av5 cv5 Ak5 ck5 Ah5 ch5) agg_nd rfl rfl (M.run 0 rfl) ?_
      replace M := M.fsub (.dat false (dNs (sdK (t.kids.take i) done).2) xs2 :: .dat false (dN k) (ncs k Ap5 cp5 Av5 cv5 Ak5 ck5 Ah5 ch5) :: .dat false [dKs t.kids] [.slice Ak t.kids.length ck] :: fs) (by intro f hf; simp only [List.mem_cons] at hf ⊢; rcases hf with h | h | h | h <;> simp [h])
      replace M := M.permL (perm3 ..)
      refine cc is_snode (ih k hkm _ _ w _ gs g A1 _ c1 A2 n2 c2 (X i) (sdK (t.kids.take i) done).2 xs2 _ R _ _ (hvk k hkm) M (M.da 1 rfl) (by omega) (by omega) (fun x hx => by
        rcases hDm x hx with h | h
        · exact hds x h
        · omega)) ?_
      clear M
      rintro e W ⟨⟨v, rfl⟩, A3, c3, A4, n4, c4, xs4, M⟩
      refine ⟨_, rfl, ?_⟩
      have hX1 : X i ++ (sdP k (sdK (t.kids.take i) done).2).1 = X (i + 1) := by rw [hX]; dsimp only; rw [hsn, List.append_assoc]
      have hD1 : (sdP k (sdK (t.kids.take i) done).2).2 = (sdK (t.kids.take (i + 1)) done).2 := by rw [hsn]
      rw [hX1, hD1] at M
      refine p_addN (b := 1) rfl rfl (by omega) ?_
      exact ⟨(i + 1, A3, c3, A4, n4, c4, xs4), ⟨by dsimp only; omega, (M.permL (perm3' ..)).dropL.fsub _ (by intro f hf; simp only [List.mem_cons] at hf ⊢; rcases hf with h | h | h <;> simp [h])⟩, (by repeat (first | exact trivial | refine ⟨rfl, ?_⟩)), by dsimp only; omega⟩
  have hge : i = 16 := by have h : ¬ (i : Int) < (t.kids.length : Int) := hge; omega
  subst hge
  have hall : t.kids.take 16 = t.kids := List.take_of_length_le (by omega)
  have hXE : X 16 = Q ++ (sdK t.kids done).1 := by rw [hX]; dsimp only; rw [hall]
  rw [hall] at M
  refine ⟨⟨_, rfl⟩, A1, c1, A2, n2, c2, xs2, X 16, ?_, M.dropL.fsub _ (by intro f hf; simp only [List.mem_cons] at hf ⊢; rcases hf with h | h <;> simp [h])⟩
  rw [hXE, hQ, hP]
  simp only [List.append_assoc]
end Go.Proofs.Ytliccofjlheceaa
namespace Go.Proofs.Ytliccofjlheceaa
open Go.RowKit
theorem u_u64p : Try.prog.underlying 67 = some (.int .u64) := by kernel_rfl
theorem sz_boS : (Try.prog.info? 4).map (·.size) = some 1 := by kernel_rfl
theorem head_eq (t : Nd) : headP t = b8 (t.kind % 256) :: (if t.kind = 1 then putB (packL t.path true) ++ putB t.val
    else if t.kind = 2 then putB (packL t.path false)
    else if t.kind = 3 then (if t.has then (1 : UInt8) :: putB t.val else [0]) ++ (UInt8.ofNat (kbits t.kids 16).1 :: UInt8.ofNat (kbits t.kids 16).2 :: [])
    else if t.kind = 4 then t.hash else []) := by
  unfold headP
  by_cases h4 : t.kind = 4
  · rw [if_pos h4, if_neg (by omega), if_neg (by omega), if_neg (by omega), if_pos h4, h4]; rfl
  · rw [if_neg h4, if_neg h4]
    unfold encF
    rw [List.append_nil]
theorem Val.leaf_kids {even : Bool} {t : Nd} {d : Nat} (h : Val even t d) (h2 : t.kind ≠ 2) (h3 : t.kind ≠ 3) : t.kids = [] := by
  cases h with
  | way => exact absurd rfl h2
  | branch => exact absurd rfl h3
  | none => rfl
  | leaf => rfl
  | stub => rfl
theorem Val.kinds {even : Bool} {t : Nd} {d : Nat} (h : Val even t d) : t.kind = 0 ∨ t.kind = 1 ∨ t.kind = 2 ∨ t.kind = 3 ∨ t.kind = 4 := by
  cases h with
  | none => exact .inl rfl
  | leaf => exact .inr (.inl rfl)
  | way => exact .inr (.inr (.inl rfl))
  | branch => exact .inr (.inr (.inr (.inl rfl)))
  | stub => exact .inr (.inr (.inr (.inr rfl)))
set_option maxRecDepth 100000 in
set_option maxHeartbeats 8000000 in
theorem snd_step (N : Nat) (ih : ∀ k : Nd, sz k < N → SndOk k) (t : Nd) (ht : sz t ≤ N) (hN : N ≤ 100000000) : SndOk t := by
  intro even d w W gs g Ao no co Ad nd cd out done xs L R fs cs hv M hr ho hdn hds
  refine calls_ev (args := [.pointer (some ⟨g, 0, none⟩), .agg cs.toArray]) mixed Try.func45 rfl (by kernel_rfl) ?_
  obtain ⟨Ap, cp, Av, cv, Ak, ck, Ah, ch, e0, r1, r3, r4, r5⟩ := hr.node
  have hcl := hr.len
  rw [dN_len] at hcl
  have hsz := sz_eq t
  have hsl := szs_len t.kids
  have eno := M.rowLen 0 rfl
  subst eno
  have hpl := packL_len t.path (decide (t.kind = 1))
  have hvn := putN_len10 (n := t.val.length) (by omega)
  have hone := hr.ones (dN_one _)
  replace M := (((((M.addD r5).addD r4).addD r3).addD r1).addL hr).fsub (.dat false (dN t) cs :: .dat false (dNs done) xs :: .dat false [dB t.path] [.slice Ap t.path.length cp] :: .dat false [dB t.val] [.slice Av t.val.length cv] :: .dat false [dKs t.kids] [.slice Ak t.kids.length ck] :: .dat false [dB t.hash] [.slice Ah t.hash.length ch] :: fs) (by intro f hf; simp only [List.mem_cons] at hf ⊢; rcases hf with h | h | h | h | h | h | h <;> simp [h])
  clear r1 r3 r4 r5 hr
  subst e0
  refine s_box (ncs t Ap cp Av cv Ak ck Ah ch) M rfl ?_
  clear M
  rintro g3 W M
  refine p_nil rfl ?_
  refine p_fld fsd1 rfl ?_
  refine v_load agg_ns rfl ((M.B 1 rfl).at_ rfl) ?_
  refine p_fun (#[] : Array Operand) _ ?_
  refine cc is_pidx (pidx_any t (by omega) done hds (by omega) w _ gs g3 _ Ad nd cd xs _ _ R _ M) ?_
  clear M
  rintro e W ⟨rfl, M⟩
  refine ⟨_, rfl, ?_⟩
  cases hix : idxN done t with
  | some i =>
    have hI : idxI done t = (i : Int) := by unfold idxI; rw [hix]
    have hil := (idxN_some hix).1
    have hpn := putN_len10 (n := i) (by omega)
    rw [hI]
    refine p_ge rfl rfl (fun _ => ?_) (fun h => absurd (show (0 : Int) ≤ (i : Int) by omega) h)
    refine p_nil rfl ?_
    refine p_fld fsd0 rfl ?_
    refine v_load agg_b rfl ((M.B 1 rfl).at_ rfl) ?_
    refine s_litB [.int .u8 5] [5] M (by decide) rfl rfl rfl ?_
    clear M; rintro g9 W M
    replace M := M.frzO
    refine s_appB M rfl rfl (M.rdb 0 rfl).2.2 (by omega) ?_
    clear M; rintro A6 c6 W M -
    refine v_cvt u_int u_u64p rfl (r := (i : Int)) (by rw [IntKind.wrap_u64]; omega) ?_
    refine cc is_vputS (put_any i _ hpn) ?_
    rintro e W ⟨A7, c7, rfl, o7, hb⟩
    replace M := M.callO hb o7
    clear o7 hb
    refine ⟨_, rfl, ?_⟩
    refine s_appB M rfl rfl (M.rdb 0 rfl).2.2 (by omega) ?_
    clear M; rintro A8 c8 W M -
    refine p_nil rfl ?_
    refine p_fld fsd0 rfl ?_
    refine s_set 1 (.slice A8 (out.length + 1 + (putN i).length) c8) [.slice A8 (out.length + 1 + (putN i).length) c8, .slice Ad nd cd] M rfl sz_slS rfl rfl rfl (Nat.le_of_ble_eq_true rfl) rfl ?_
    clear M; rintro W M
    dsimp only [setL] at M
    have e1 : out ++ [5] ++ putN i = out ++ (sdP t done).1 := by rw [sdP_some hix, List.append_assoc]; rfl
    have e2 : done = (sdP t done).2 := by rw [sdP_some hix]
    have hl : out.length + 1 + (putN i).length = (out ++ (sdP t done).1).length := by rw [← e1, List.length_append, List.length_append]; rfl
    rw [e1, hl] at M
    refine ⟨⟨_, rfl⟩, A8, c8, Ad, nd, cd, xs, ?_⟩
    rw [← e2]
    exact M.dropL.fsub _ (by intro f hf; simp only [List.mem_cons] at hf ⊢; rcases hf with h | h <;> simp [h])
  | none =>
    have hI : idxI done t = -1 := by unfold idxI; rw [hix]
    rw [hI]
    refine p_ge rfl rfl (fun h => absurd (show (-1 : Int) ≥ 0 from h) (by decide)) (fun _ => ?_)
    obtain ⟨P, hP⟩ : ∃ P, P = out ++ [b8 (t.kind % 256)] := ⟨_, rfl⟩
    have hPl : P.length = out.length + 1 := by rw [hP, List.length_append]; rfl
    refine cutV (Option Addr × Nat) (fun s W => St w gs W ((g3, 38, ncs t Ap cp Av cv Ak ck Ah ch) :: (g, 81, [.slice s.1 P.length s.2, .slice Ad nd cd]) :: L) (⟨5, 1, s.1, P.length, s.2, bvs P⟩ :: ⟨38, 6, Ad, nd, cd, xs⟩ :: R) (.dat false (dNs done) xs :: .dat false (dN t) (ncs t Ap cp Av cv Ak ck Ah ch) :: .dat false [dB t.path] [.slice Ap t.path.length cp] :: .dat false [dB t.val] [.slice Av t.val.length cv] :: .dat false [dKs t.kids] [.slice Ak t.kids.length ck] :: .dat false [dB t.hash] [.slice Ah t.hash.length ch] :: fs))
      (fun s => [(0, .pointer (some ⟨g, 0, none⟩)), (3, .pointer (some ⟨g3, 0, none⟩))]) ?_ ?_
    · replace M := M.drew
      refine drZ 12 (Kp w gs [(g3, 38, ncs t Ap cp Av cv Ak ck Ah ch), (g, 81, [.slice Ao out.length co, .slice Ad nd cd])] []) [(0, true), (1, true), (2, true), (3, true), (4, true), (5, true), (6, true), (7, true), (8, false), (9, false), (10, true), (11, true)] (by kernel_rfl) (M.kp (by simp) (by simp)) ?_
      refine p_nil rfl ?_
      refine p_fld fsd0 rfl ?_
      refine t_load agg_b rfl (fun W K => (K.B 1 rfl).at_ rfl) ?_
      refine p_fld fN0 rfl ?_
      refine t_load agg_int rfl (fun W K => (K.B 0 rfl).at_ rfl) ?_
      refine t_cvt u_int u_u8 rfl (r := t.kind % 256) (by rw [IntKind.wrap_u8']) ?_
      refine s_litB [.int .u8 (t.kind % 256)] [b8 (t.kind % 256)] M (by decide) rfl (one_blk (by omega)) rfl ?_
      clear M; rintro g9 W M
      replace M := M.frzO
      refine ⟨(M.kp (by simp) (by simp)), ?_⟩
      refine s_appB M rfl rfl (M.rdb 0 rfl).2.2 (by omega) ?_
      clear M; rintro A6 c6 W M -
      refine ⟨(M.kp (by simp) (by simp)), ?_⟩
      refine p_nil rfl ?_
      refine p_fld fsd0 rfl ?_
      refine s_set 1 (.slice A6 (out.length + 1) c6) [.slice A6 (out.length + 1) c6, .slice Ad nd cd] M rfl sz_slS rfl rfl rfl (Nat.le_of_ble_eq_true rfl) rfl ?_
      clear M; rintro W M
      dsimp only [setL] at M
      rw [← hP, ← hPl] at M
      exact ⟨(A6, c6), M.fsub _ (by intro f hf; simp only [List.mem_cons] at hf ⊢; rcases hf with h | h | h | h | h | h | h <;> simp [h]), (by repeat (first | exact trivial | refine ⟨rfl, ?_⟩))⟩
    clear M
    rintro ⟨A1, c1⟩ B1 W1 M
    dsimp only at M
    refine nx ?_
    obtain ⟨X, hX⟩ : ∃ X, X = out ++ headP t ++ (sdK t.kids done).1 := ⟨_, rfl⟩
    have hheq := head_eq t
    obtain ⟨Y, hY⟩ : ∃ Y, Y = (sdK t.kids done).2 := ⟨_, rfl⟩
    have hhl := head_len t (by omega)
    have hY1 := sdK_len t.kids done
    have hYm := sdK_mem t.kids done
    rw [← hY] at hY1 hYm
    refine cutS (Option Addr × Nat × Option Addr × Nat × Nat × List Value) (fun s W => St w gs W ((g3, 38, ncs t Ap cp Av cv Ak ck Ah ch) :: (g, 81, [.slice s.1 X.length s.2.1, .slice s.2.2.1 s.2.2.2.1 s.2.2.2.2.1]) :: L) (⟨5, 1, s.1, X.length, s.2.1, bvs X⟩ :: ⟨38, 6, s.2.2.1, s.2.2.2.1, s.2.2.2.2.1, s.2.2.2.2.2⟩ :: R) (.dat false (dNs Y) s.2.2.2.2.2 :: .dat false (dN t) (ncs t Ap cp Av cv Ak ck Ah ch) :: fs))
      (fun s => [(0, .pointer (some ⟨g, 0, none⟩)), (3, .pointer (some ⟨g3, 0, none⟩))]) ?_ ?_
    · refine p_fld fN0 rfl ?_
      refine v_load agg_int rfl ((M.B 0 rfl).at_ rfl) ?_
      refine p_eq rfl rfl (fun hk1 => ?_) (fun hk1 => ?_)
      · have hk1 : t.kind = 1 := hk1
        have hks := hv.leaf_kids (by omega) (by omega)
        refine p_fld fN1 rfl ?_
        refine v_load agg_b rfl ((M.B 0 rfl).at_ rfl) ?_
        refine p_fld fN0 rfl ?_
        refine v_load agg_int rfl ((M.B 0 rfl).at_ rfl) ?_
        refine p_eqD rfl rfl ?_
        refine cc is_npack (pack_any Ap _ cp (decide (t.kind = 1)) t.path _ (M.rdb 2 rfl).2.2 (by omega) (M.rdb 2 rfl).2.1) ?_
        rintro e W ⟨A5, n5, c5, rfl, o5, hb⟩
        have e5 := o5.len
        replace M := M.callO hb o5
        clear o5 hb
        refine ⟨_, rfl, ?_⟩
        have hpn := putN_len10 (n := n5) (by omega)
        refine cutV (Option Addr × Nat) (fun s W => St w gs W ((g3, 38, ncs t Ap cp Av cv Ak ck Ah ch) :: (g, 81, [.slice s.1 (P ++ putB (packL t.path (decide (t.kind = 1)))).length s.2, .slice Ad nd cd]) :: L) (⟨5, 1, s.1, (P ++ putB (packL t.path (decide (t.kind = 1)))).length, s.2, bvs (P ++ putB (packL t.path (decide (t.kind = 1))))⟩ :: ⟨38, 6, Ad, nd, cd, xs⟩ :: R) (.dat false (dNs done) xs :: .dat false (dN t) (ncs t Ap cp Av cv Ak ck Ah ch) :: .dat false [dB t.val] [.slice Av t.val.length cv] :: .dat false [dKs t.kids] [.slice Ak t.kids.length ck] :: fs))
          (fun s => [(0, .pointer (some ⟨g, 0, none⟩)), (3, .pointer (some ⟨g3, 0, none⟩))]) ?_ ?_
        · replace M := M.drew
          refine drZ 10 (Kp w gs [(g3, 38, ncs t Ap cp Av cv Ak ck Ah ch), (g, 81, [.slice A1 P.length c1, .slice Ad nd cd])] []) [(0, true), (1, true), (2, true), (3, true), (4, true), (5, true), (6, false), (7, false), (8, true), (9, true)] (by kernel_rfl) (M.kp (by simp) (by simp)) ?_
          refine p_nil rfl ?_
          refine p_fld fsd0 rfl ?_
          refine t_load agg_b rfl (fun W K => (K.B 1 rfl).at_ rfl) ?_
          refine cc is_npb (putBytes_any _ _ _ (packL t.path (decide (t.kind = 1))) _ (M.rdb 0 rfl).2.2 (by omega)) ?_
          rintro e W ⟨A7, c7, rfl, o7, hb⟩
          replace M := M.callO hb o7
          clear o7 hb
          refine ⟨_, rfl, (M.kp (by simp) (by simp)), ?_⟩
          refine s_appB M rfl rfl (M.rdb 0 rfl).2.2 (by omega) ?_
          clear M; rintro A8 c8 W M -
          refine ⟨(M.kp (by simp) (by simp)), ?_⟩
          refine p_nil rfl ?_
          refine p_fld fsd0 rfl ?_
          refine s_set 1 (.slice A8 (P.length + ((putN n5).length + n5)) c8) [.slice A8 (P.length + ((putN n5).length + n5)) c8, .slice Ad nd cd] M rfl sz_slS rfl rfl rfl (Nat.le_of_ble_eq_true rfl) rfl ?_
          clear M; rintro W M
          dsimp only [setL] at M
          have hl : P.length + ((putN n5).length + n5) = (P ++ putB (packL t.path (decide (t.kind = 1)))).length := by rw [List.length_append, putB_lenE, e5]
          rw [hl] at M
          exact ⟨(A8, c8), M.fsub _ (by intro f hf; simp only [List.mem_cons] at hf ⊢; rcases hf with h | h | h | h | h <;> simp [h]), (by repeat (first | exact trivial | refine ⟨rfl, ?_⟩))⟩
        clear M
        rintro ⟨A2, c2⟩ B2 W2 M
        dsimp only at M
        rw [decide_eq_true hk1] at M
        obtain ⟨Q, hQ⟩ : ∃ Q, Q = P ++ putB (packL t.path true) := ⟨_, rfl⟩
        have hQl : Q.length ≤ P.length + 11 + t.path.length := by
          rw [decide_eq_true hk1] at hpl e5
          rw [hQ, List.length_append, putB_lenE]
          rw [← e5] at hpn
          omega
        rw [← hQ] at M
        refine p_fld fN0 rfl ?_
        refine v_load agg_int rfl ((M.B 0 rfl).at_ rfl) ?_
        refine p_eq rfl rfl (fun h => absurd (show t.kind = 2 from h) (by omega)) (fun _ => ?_)
        replace M := M.drew
        refine drZ 11 (Kp w gs [(g3, 38, ncs t Ap cp Av cv Ak ck Ah ch), (g, 81, [.slice A2 Q.length c2, .slice Ad nd cd])] []) [(0, true), (1, true), (2, true), (3, true), (4, true), (5, true), (6, true), (7, false), (8, false), (9, true), (10, true)] (by kernel_rfl) (M.kp (by simp) (by simp)) ?_
        refine p_nil rfl ?_
        refine p_fld fsd0 rfl ?_
        refine t_load agg_b rfl (fun W K => (K.B 1 rfl).at_ rfl) ?_
        refine p_fld fN3 rfl ?_
        refine t_load agg_b rfl (fun W K => (K.B 0 rfl).at_ rfl) ?_
        refine cc is_npb (putBytes_any _ _ _ t.val _ (M.rdb 2 rfl).2.2 (by omega)) ?_
        rintro e W ⟨A7, c7, rfl, o7, hb⟩
        replace M := M.callO hb o7
        clear o7 hb
        refine ⟨_, rfl, (M.kp (by simp) (by simp)), ?_⟩
        refine s_appB M rfl rfl (M.rdb 0 rfl).2.2 (by omega) ?_
        clear M; rintro A8 c8 W M -
        refine ⟨(M.kp (by simp) (by simp)), ?_⟩
        refine p_nil rfl ?_
        refine p_fld fsd0 rfl ?_
        refine s_set 1 (.slice A8 (Q.length + ((putN t.val.length).length + t.val.length)) c8) [.slice A8 (Q.length + ((putN t.val.length).length + t.val.length)) c8, .slice Ad nd cd] M rfl sz_slS rfl rfl rfl (Nat.le_of_ble_eq_true rfl) rfl ?_
        clear M; rintro W M
        dsimp only [setL] at M
        have hXq : Q ++ putB t.val = X := by
          rw [hX, hheq, if_pos hk1, hks, sdK, hQ, hP]
          simp only [List.append_assoc, List.cons_append, List.nil_append, List.append_nil]
        have hl : Q.length + ((putN t.val.length).length + t.val.length) = X.length := by rw [← hXq, List.length_append, putB_lenE]
        have hYd : Y = done := by rw [hY, hks, sdK]
        rw [hXq, hl] at M
        exact ⟨(A8, c8, Ad, nd, cd, xs), by dsimp only; rw [hYd]; exact M.fsub _ (by intro f hf; simp only [List.mem_cons] at hf ⊢; rcases hf with h | h | h <;> simp [h]), (by repeat (first | exact trivial | refine ⟨rfl, ?_⟩))⟩
      refine p_eq rfl rfl (fun hk2 => ?_) (fun hk2 => ?_)
      · have hk2 : t.kind = 2 := hk2
        refine p_fld fN1 rfl ?_
        refine v_load agg_b rfl ((M.B 0 rfl).at_ rfl) ?_
        refine p_fld fN0 rfl ?_
        refine v_load agg_int rfl ((M.B 0 rfl).at_ rfl) ?_
        refine p_eqD rfl rfl ?_
        refine cc is_npack (pack_any Ap _ cp (decide (t.kind = 1)) t.path _ (M.rdb 2 rfl).2.2 (by omega) (M.rdb 2 rfl).2.1) ?_
        rintro e W ⟨A5, n5, c5, rfl, o5, hb⟩
        have e5 := o5.len
        replace M := M.callO hb o5
        clear o5 hb
        refine ⟨_, rfl, ?_⟩
        have hpn := putN_len10 (n := n5) (by omega)
        refine cutV (Option Addr × Nat) (fun s W => St w gs W ((g3, 38, ncs t Ap cp Av cv Ak ck Ah ch) :: (g, 81, [.slice s.1 (P ++ putB (packL t.path (decide (t.kind = 1)))).length s.2, .slice Ad nd cd]) :: L) (⟨5, 1, s.1, (P ++ putB (packL t.path (decide (t.kind = 1)))).length, s.2, bvs (P ++ putB (packL t.path (decide (t.kind = 1))))⟩ :: ⟨38, 6, Ad, nd, cd, xs⟩ :: R) (.dat false (dNs done) xs :: .dat false (dN t) (ncs t Ap cp Av cv Ak ck Ah ch) :: .dat false [dB t.val] [.slice Av t.val.length cv] :: .dat false [dKs t.kids] [.slice Ak t.kids.length ck] :: fs))
          (fun s => [(0, .pointer (some ⟨g, 0, none⟩)), (3, .pointer (some ⟨g3, 0, none⟩))]) ?_ ?_
        · replace M := M.drew
          refine drZ 10 (Kp w gs [(g3, 38, ncs t Ap cp Av cv Ak ck Ah ch), (g, 81, [.slice A1 P.length c1, .slice Ad nd cd])] []) [(0, true), (1, true), (2, true), (3, true), (4, true), (5, true), (6, false), (7, false), (8, true), (9, true)] (by kernel_rfl) (M.kp (by simp) (by simp)) ?_
          refine p_nil rfl ?_
          refine p_fld fsd0 rfl ?_
          refine t_load agg_b rfl (fun W K => (K.B 1 rfl).at_ rfl) ?_
          refine cc is_npb (putBytes_any _ _ _ (packL t.path (decide (t.kind = 1))) _ (M.rdb 0 rfl).2.2 (by omega)) ?_
          rintro e W ⟨A7, c7, rfl, o7, hb⟩
          replace M := M.callO hb o7
          clear o7 hb
          refine ⟨_, rfl, (M.kp (by simp) (by simp)), ?_⟩
          refine s_appB M rfl rfl (M.rdb 0 rfl).2.2 (by omega) ?_
          clear M; rintro A8 c8 W M -
          refine ⟨(M.kp (by simp) (by simp)), ?_⟩
          refine p_nil rfl ?_
          refine p_fld fsd0 rfl ?_
          refine s_set 1 (.slice A8 (P.length + ((putN n5).length + n5)) c8) [.slice A8 (P.length + ((putN n5).length + n5)) c8, .slice Ad nd cd] M rfl sz_slS rfl rfl rfl (Nat.le_of_ble_eq_true rfl) rfl ?_
          clear M; rintro W M
          dsimp only [setL] at M
          have hl : P.length + ((putN n5).length + n5) = (P ++ putB (packL t.path (decide (t.kind = 1)))).length := by rw [List.length_append, putB_lenE, e5]
          rw [hl] at M
          exact ⟨(A8, c8), M.fsub _ (by intro f hf; simp only [List.mem_cons] at hf ⊢; rcases hf with h | h | h | h | h <;> simp [h]), (by repeat (first | exact trivial | refine ⟨rfl, ?_⟩))⟩
        clear M
        rintro ⟨A2, c2⟩ B2 W2 M
        dsimp only at M
        rw [decide_eq_false (show ¬ t.kind = 1 from hk1)] at M
        obtain ⟨Q, hQ⟩ : ∃ Q, Q = P ++ putB (packL t.path false) := ⟨_, rfl⟩
        have hQl : Q.length ≤ P.length + 11 + t.path.length := by
          rw [decide_eq_false (show ¬ t.kind = 1 from hk1)] at hpl e5
          rw [hQ, List.length_append, putB_lenE]
          rw [← e5] at hpn
          omega
        rw [← hQ] at M
        refine p_fld fN0 rfl ?_
        refine v_load agg_int rfl ((M.B 0 rfl).at_ rfl) ?_
        refine p_eq rfl rfl (fun _ => ?_) (fun h => absurd hk2 h)
        obtain ⟨k, hks, hvk, hk0⟩ := hv.way_kid hk2
        have hkz : szs t.kids = sz k := by rw [hks, szs, szs]; omega
        have hki : t.kids[0]? = some k := by rw [hks]; rfl
        have hkl : t.kids.length = 1 := by rw [hks]; rfl
        refine p_fld fN4 rfl ?_
        refine v_load agg_ns rfl ((M.B 0 rfl).at_ rfl) ?_
        obtain ⟨b, off, es, e0, hel, M'⟩ := M.kid (M.d1 3 rfl) hki
        replace M := M'; clear M'
        refine p_at (i := 0) sln (by show (Value.slice Ak t.kids.length ck) = _; rw [e0]) rfl rfl (by omega) ?_
        refine v_loadN es agg_nd rfl hel (M.lc 0 rfl) ?_
        replace M := (M.fsub (.dat false (dNs done) xs :: .dat false (dN k) es :: .dat false (dN t) (ncs t Ap cp Av cv Ak ck Ah ch) :: fs) (by intro f hf; simp only [List.mem_cons] at hf ⊢; rcases hf with h | h | h | h <;> simp [h])).swp
        refine cc is_snode (ih k (by omega) _ _ w _ gs g A2 _ c2 Ad nd cd Q done xs _ R _ _ hvk M (M.da 1 rfl) (by omega) (by omega) hds) ?_
        clear M
        rintro e W ⟨⟨v, rfl⟩, A3, c3, A4, n4, c4, xs4, M⟩
        refine ⟨_, rfl, ?_⟩
        have hK : sdK t.kids done = ((sdP k done).1 ++ [], (sdP k done).2) := by rw [hks, sdK, if_neg hk0, sdK]
        have hXq : Q ++ (sdP k done).1 = X := by
          rw [hX, hheq, if_neg hk1, if_pos hk2, hK, hQ, hP]
          simp only [List.append_assoc, List.cons_append, List.nil_append, List.append_nil]
        have hYq : (sdP k done).2 = Y := by rw [hY, hK]
        rw [hXq, hYq] at M
        exact ⟨(A3, c3, A4, n4, c4, xs4), M.swp.fsub _ (by intro f hf; simp only [List.mem_cons] at hf ⊢; rcases hf with h | h | h <;> simp [h]), (by repeat (first | exact trivial | refine ⟨rfl, ?_⟩))⟩
      refine p_eq rfl rfl (fun hk3 => ?_) (fun hk3 => ?_)
      · have hk3 : t.kind = 3 := hk3
        refine v_loadN (ncs t Ap cp Av cv Ak ck Ah ch) agg_nd rfl hcl (M.run 0 rfl) ?_
        replace M := M.swp
        refine cc is_sbr (sbr_any t (fun k hk => ih k (by have := szs_mem hk; omega)) even d w _ gs g A1 _ c1 Ad nd cd P done xs _ R _ _ hv hk3 M (M.da 1 rfl) (by omega) (by omega) hds (by omega)) ?_
        clear M
        rintro e W ⟨⟨v, rfl⟩, A3, c3, A4, n4, c4, xs4, X', hX', M⟩
        refine ⟨_, rfl, ?_⟩
        have hXq : X' = X := by
          rw [hX', hX, hheq, if_neg hk1, if_neg hk2, if_pos hk3, hP]
          simp only [List.append_assoc, List.cons_append, List.nil_append]
        subst hXq
        rw [← hY] at M
        exact ⟨(A3, c3, A4, n4, c4, xs4), M.swp.fsub _ (by intro f hf; simp only [List.mem_cons] at hf ⊢; rcases hf with h | h | h <;> simp [h]), (by repeat (first | exact trivial | refine ⟨rfl, ?_⟩))⟩
      have hks := hv.leaf_kids hk2 hk3
      have hYd : Y = done := by rw [hY, hks, sdK]
      refine p_eq rfl rfl (fun hk4 => ?_) (fun hk4 => ?_)
      · have hk4 : t.kind = 4 := hk4
        replace M := M.drew
        refine drZ 10 (Kp w gs [(g3, 38, ncs t Ap cp Av cv Ak ck Ah ch), (g, 81, [.slice A1 P.length c1, .slice Ad nd cd])] []) [(0, true), (1, true), (2, true), (3, true), (4, true), (5, true), (6, true), (7, false), (8, true), (9, true)] (by kernel_rfl) (M.kp (by simp) (by simp)) ?_
        refine p_nil rfl ?_
        refine p_fld fsd0 rfl ?_
        refine t_load agg_b rfl (fun W K => (K.B 1 rfl).at_ rfl) ?_
        refine p_fld fN5 rfl ?_
        refine t_load agg_b rfl (fun W K => (K.B 0 rfl).at_ rfl) ?_
        refine s_appB M rfl rfl (M.rdb 5 rfl).2.2 (by omega) ?_
        clear M; rintro A8 c8 W M -
        refine ⟨(M.kp (by simp) (by simp)), ?_⟩
        refine p_nil rfl ?_
        refine p_fld fsd0 rfl ?_
        refine s_set 1 (.slice A8 (P.length + t.hash.length) c8) [.slice A8 (P.length + t.hash.length) c8, .slice Ad nd cd] M rfl sz_slS rfl rfl rfl (Nat.le_of_ble_eq_true rfl) rfl ?_
        clear M; rintro W M
        dsimp only [setL] at M
        have hXq : P ++ t.hash = X := by
          rw [hX, hheq, if_neg hk1, if_neg hk2, if_neg hk3, if_pos hk4, hks, sdK, hP]
          simp only [List.append_assoc, List.cons_append, List.nil_append, List.append_nil]
        have hl : P.length + t.hash.length = X.length := by rw [← hXq, List.length_append]
        rw [hXq, hl] at M
        exact ⟨(A8, c8, Ad, nd, cd, xs), by dsimp only; rw [hYd]; exact M.fsub _ (by intro f hf; simp only [List.mem_cons] at hf ⊢; rcases hf with h | h | h <;> simp [h]), (by repeat (first | exact trivial | refine ⟨rfl, ?_⟩))⟩
      · have hXq : P = X := by
          rw [hX, hheq, if_neg hk1, if_neg hk2, if_neg hk3, if_neg hk4, hks, sdK, hP]
          simp only [List.append_assoc, List.cons_append, List.nil_append, List.append_nil]
        rw [hXq] at M
        exact ⟨(A1, c1, Ad, nd, cd, xs), by dsimp only; rw [hYd]; exact M.fsub _ (by intro f hf; simp only [List.mem_cons] at hf ⊢; rcases hf with h | h | h <;> simp [h]), (by repeat (first | exact trivial | refine ⟨rfl, ?_⟩))⟩
    clear M
    rintro ⟨A1, c1, A2, n2, c2, xs2⟩ B2 W2 M
    dsimp only at M
    have e1 : out ++ (sdP t done).1 = X := by rw [sdP_none hix, hX, List.append_assoc]
    have e2 : (sdP t done).2 = Y ++ [t] := by rw [sdP_none hix, hY]
    rw [e1, e2]
    have hn2 : n2 = Y.length := by
      have h1 := (M.dt 0 rfl).len
      have h2 := (M.row _ (List.mem_cons_of_mem _ (List.mem_cons_self ..))).1
      rw [dNs_len] at h1
      dsimp only at h2
      omega
    subst hn2
    have hxl2 := (M.dt 0 rfl).len
    rw [dNs_len] at hxl2
    replace M := M.swpR
    refine ev_sq ?_
    refine cutV (Bool × Nat) (fun s W => St w gs W ((s.2, 4, [.bool s.1]) :: (g3, 38, ncs t Ap cp Av cv Ak ck Ah ch) :: (g, 81, [.slice A1 X.length c1, .slice A2 Y.length c2]) :: L) (⟨38, 6, A2, Y.length, c2, xs2⟩ :: ⟨5, 1, A1, X.length, c1, bvs X⟩ :: R) (.dat false (dNs Y) xs2 :: .dat false (dN t) (ncs t Ap cp Av cv Ak ck Ah ch) :: fs))
      (fun s => [(0, .pointer (some ⟨g, 0, none⟩)), (3, .pointer (some ⟨g3, 0, none⟩)), (102, .bool s.1)]) ?_ ?_
    · replace M := M.drew
      refine drT (Kp w gs [] []) (.one 0 (.two 1 (.one 2 (.one 3 (.nil))) 2 (.one 1 (.one 3 (.nil))))) (by kernel_rfl) (M.kp (by simp) (by simp)) ?_
      refine s_alloc ([.bool false]) M (by kernel_rfl) ?_
      clear M
      rintro gb W M
      refine ⟨(M.kp (by simp) (by simp)), ?_, ?_⟩
      ·
        refine s_set 0 (.bool true) [.bool true] M rfl sz_boS rfl rfl rfl (Nat.le_of_ble_eq_true rfl) rfl ?_
        clear M; rintro W M
        dsimp only [setL] at M
        refine ⟨(M.kp (by simp) (by simp)), ?_⟩
        refine s_set 0 (.bool false) [.bool false] M rfl sz_boS rfl rfl rfl (Nat.le_of_ble_eq_true rfl) rfl ?_
        clear M; rintro W M
        dsimp only [setL] at M
        refine ⟨(M.kp (by simp) (by simp)), ?_⟩
        refine v_load agg_bo rfl ((M.B 0 rfl).at_ rfl) ?_
        refine ⟨(M.kp (by simp) (by simp)), ?_⟩
        exact ⟨(false, gb), M, (by repeat (first | exact trivial | refine ⟨rfl, ?_⟩))⟩
      ·
        refine s_set 0 (.bool false) [.bool false] M rfl sz_boS rfl rfl rfl (Nat.le_of_ble_eq_true rfl) rfl ?_
        clear M; rintro W M
        dsimp only [setL] at M
        refine ⟨(M.kp (by simp) (by simp)), ?_⟩
        refine s_set 0 (.bool true) [.bool true] M rfl sz_boS rfl rfl rfl (Nat.le_of_ble_eq_true rfl) rfl ?_
        clear M; rintro W M
        dsimp only [setL] at M
        refine ⟨(M.kp (by simp) (by simp)), ?_⟩
        refine v_load agg_bo rfl ((M.B 0 rfl).at_ rfl) ?_
        refine ⟨(M.kp (by simp) (by simp)), ?_⟩
        exact ⟨(true, gb), M, (by repeat (first | exact trivial | refine ⟨rfl, ?_⟩))⟩
    clear M
    rintro ⟨q, gb⟩ B3 W3 M
    dsimp only at M
    have hdy : dNs Y ++ dN t = dNs (Y ++ [t]) := by rw [dNs_app, dNs, dNs, List.append_nil]
    cases q with
    | true =>
      refine p_nil rfl ?_
      refine p_fld fsd1 rfl ?_
      refine v_load agg_ns rfl ((M.B 2 rfl).at_ rfl) ?_
      refine p_len sln rfl ?_
      refine s_bsliceB zN M sln z_nd rfl (by decide) rfl ?_
      clear M; rintro gz W M
      refine s_app M Try.underlying36 inf_nd rfl (by decide) rfl rfl (Reads.blk (M.B 0 rfl) rfl) (all1 rfl) ⟨by omega, by decide⟩ ?_
      clear M; rintro A6 c6 W M -
      replace M := M.dropL
      refine p_nil rfl ?_
      refine p_fld fsd1 rfl ?_
      refine s_set 2 (.slice A6 (Y.length + 1) c6) [.slice A1 X.length c1, .slice A6 (Y.length + 1) c6] M rfl sz_nsS rfl rfl rfl (Nat.le_of_ble_eq_true rfl) rfl ?_
      clear M; rintro W M
      dsimp only [setL] at M
      refine v_loadN (ncs t Ap cp Av cv Ak ck Ah ch) agg_nd rfl hcl (M.run 1 rfl) ?_
      obtain ⟨gr, rest, rfl, hnc, hm, hxl, hcl2, M'⟩ := M.rowBlkS (by omega)
      replace M := M'; clear M'
      refine p_atL (i := Y.length) (q := Y.length * 6) sln rfl rfl rfl (by omega) (by omega) ?_
      refine s_storeP 0 (ncs t Ap cp Av cv Ak ck Ah ch) (xs2 ++ ncs t Ap cp Av cv Ak ck Ah ch ++ rest) M rfl sz_nd rfl rfl hcl hone (by rw [List.length_append, List.length_append, show zN.length = 6 from rfl]; omega) (by
        rw [List.append_assoc, List.append_assoc, ← hxl2, List.take_left, List.append_assoc]
        congr 2
        rw [show xs2.length + 6 = (xs2 ++ zN).length by rw [List.length_append]; rfl, ← List.append_assoc, List.drop_left]) ?_
      clear M; rintro W M
      dsimp only [setL] at M
      replace M := M.blkRow (s := 6) (n := Y.length + 1) hnc hm (by rw [List.length_append, hcl]; omega) (by
        rw [← hcl2, List.length_append, List.length_append, List.length_append, List.length_append, hcl]; rfl)
      obtain ⟨A6, hA6⟩ : ∃ A6 : Option Addr, A6 = some ⟨gr, 0, none⟩ := ⟨_, rfl⟩
      rw [← hA6] at M
      have hX2 := (M.dw 0 rfl).app (M.dw 1 rfl)
      rw [hdy] at hX2
      exact ⟨⟨_, rfl⟩, A1, c1, A6, Y.length + 1, c6, xs2 ++ ncs t Ap cp Av cv Ak ck Ah ch, (M.addT hX2).dropL.dropL.swpR.fsub _ (by intro f hf; simp only [List.mem_cons] at hf ⊢; rcases hf with h | h <;> simp [h])⟩
    | false =>
      replace M := M.drew
      refine drZ 10 (Kp w gs [(g3, 38, ncs t Ap cp Av cv Ak ck Ah ch), (g, 81, [.slice A1 X.length c1, .slice A2 Y.length c2])] []) [(0, true), (1, true), (2, true), (3, true), (4, true), (5, true), (6, false), (7, false), (8, true), (9, true)] (by kernel_rfl) (M.kp (by simp) (by simp)) ?_
      refine p_nil rfl ?_
      refine p_fld fsd1 rfl ?_
      refine t_load agg_ns rfl (fun W K => (K.B 1 rfl).at_ rfl) ?_
      refine t_loadN (ncs t Ap cp Av cv Ak ck Ah ch) agg_nd rfl hcl (fun W K => K.run 0 rfl) ?_
      refine s_bsliceB (ncs t Ap cp Av cv Ak ck Ah ch) M sln z_nd rfl (by decide) rfl ?_
      clear M; rintro gz W M
      refine ⟨(M.kp (by simp) (by simp)), ?_⟩
      refine s_app M Try.underlying36 inf_nd rfl (by decide) rfl rfl (Reads.blk (M.B 0 rfl) rfl) hone ⟨by omega, by decide⟩ ?_
      clear M; rintro A6 c6 W M -
      replace M := M.dropL
      refine ⟨(M.kp (by simp) (by simp)), ?_⟩
      refine p_nil rfl ?_
      refine p_fld fsd1 rfl ?_
      refine s_set 2 (.slice A6 (Y.length + 1) c6) [.slice A1 X.length c1, .slice A6 (Y.length + 1) c6] M rfl sz_nsS rfl rfl rfl (Nat.le_of_ble_eq_true rfl) rfl ?_
      clear M; rintro W M
      dsimp only [setL] at M
      have hX2 := (M.dw 0 rfl).app (M.dw 1 rfl)
      rw [hdy] at hX2
      exact ⟨⟨_, rfl⟩, A1, c1, A6, Y.length + 1, c6, xs2 ++ ncs t Ap cp Av cv Ak ck Ah ch, (M.addT hX2).dropL.dropL.swpR.fsub _ (by intro f hf; simp only [List.mem_cons] at hf ⊢; rcases hf with h | h <;> simp [h])⟩
theorem snd_any : ∀ (N : Nat), N ≤ 100000000 → ∀ t : Nd, sz t < N → SndOk t
  | 0, _, t, h => by omega
  | N + 1, hN, t, h => snd_step N (fun k hk => snd_any N (by omega) k hk) t (by omega) (by omega)
end Go.Proofs.Ytliccofjlheceaa
