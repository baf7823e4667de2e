/- Reference 11: send, Pack. Reference 11: Pack. Reference 11: wrong, less, text. Reference 07: text, stubs, Decode; reference 06: Unpack (what it makes is its caller's). -/
import Derived.Test.YtliccofjlheceaaG17
import Derived.Test.YtliccofjlheceaaG10
import Derived.Test.YtliccofjlheceaaG09
import Derived.Test.YtliccofjlheceaaG08
namespace Go.Proofs.Ytliccofjlheceaa
open Go.RowKit
theorem is_rsend : isFn Try.prog 47 = true := by kernel_rfl
theorem is_rPk : isFn Try.prog 21 = true := by kernel_rfl
theorem is_rputK : isFn Try.prog 40 = true := by kernel_rfl
theorem fSt0 : fieldOff Try.prog 83 0 = some 0 := by kernel_rfl
theorem fSt1 : fieldOff Try.prog 83 1 = some 1 := by kernel_rfl
theorem agg_sent : aggOf Try.prog 83 = some (true, 2) := by kernel_rfl
theorem sz_sent : (Try.prog.info? 83).map (·.size) = some 2 := by kernel_rfl
theorem pl_sent : placesOf Try.prog 83 = some [(0, 1), (1, 1)] := by kernel_rfl
theorem z_sent : zeroOf Try.prog 83 = some [.slice none 0 0, .slice none 0 0] := by kernel_rfl
theorem u_u64q : Try.prog.underlying 67 = some (.int .u64) := by kernel_rfl
theorem sdK_kids : ∀ (ks done : List Nd), sdK (kidsN ks) done = sdK ks done
  | [], done => rfl
  | k :: ks, done => by
    unfold kidsN
    by_cases h : k.kind = 0
    · rw [List.filter_cons, if_neg (by simp [h])]
      show sdK (kidsN ks) done = _
      rw [sdK_kids ks done, sdK, if_pos h]
    · rw [List.filter_cons, if_pos (by simp [h])]
      show sdK (k :: kidsN ks) done = _
      rw [sdK, sdK, if_neg h, if_neg h, sdK_kids ks]
theorem szs_kids : ∀ (ks : List Nd), szs (kidsN ks) ≤ szs ks
  | [] => Nat.le_refl _
  | k :: ks => by
    have := szs_kids ks
    unfold kidsN at this ⊢
    rw [List.filter_cons, szs]
    split
    · rw [szs]; omega
    · omega
theorem szs_at : ∀ (l : List Nd) (i : Nat) (k : Nd), l[i]? = some k → szs (l.take i) + sz k ≤ szs l
  | [], i, k, h => by cases h
  | x :: l, 0, k, h => by
    injection h with h; subst h
    rw [List.take_zero, szs, szs]; omega
  | x :: l, i + 1, k, h => by
    have := szs_at l i k (by simpa using h)
    rw [List.take_succ_cons, szs, szs]; omega
def RSndOk (t : Nd) : Prop := ∀ (even : Bool) (d : Nat) (w W : World) (gs : List (Option Nat)) (Ao : Option Addr) (no co : Nat) (Ad : Option Addr) (nd cd : Nat) (out : List UInt8) (done : List Nd) (xs : List Value) (L : Lc) (R : List Row) (fs : List Fact) (cs : List Value), Val even t d →
  St w gs W L (⟨5, 1, Ao, no, co, bvs out⟩ :: ⟨38, 6, Ad, nd, cd, xs⟩ :: R) (.dat false (dNs done) xs :: fs) →
  RdL W (Fd W (own L (⟨5, 1, Ao, no, co, bvs out⟩ :: ⟨38, 6, Ad, nd, cd, xs⟩ :: R) gs)) (dN t) cs →
  out.length + 5 * sz t ≤ 900000000 → done.length + sz t ≤ 100000000 → (∀ x ∈ done, sz x < 1000000000) →
  Calls Try.prog 47 #[.agg cs.toArray, .agg #[.slice Ao no co, .slice Ad nd cd]] W fun e W' => ∃ Ao' co' Ad' nd' cd' xs', e = .returned (.agg #[.slice Ao' (out ++ (sdP t done).1).length co', .slice Ad' nd' cd']) ∧
    St w gs W' L (⟨5, 1, Ao', (out ++ (sdP t done).1).length, co', bvs (out ++ (sdP t done).1)⟩ :: ⟨38, 6, Ad', nd', cd', xs'⟩ :: R) (.dat false (dNs (sdP t done).2) xs' :: fs)
theorem kidsN_kind {ks : List Nd} {k : Nd} (h : k ∈ kidsN ks) : k ∈ ks ∧ k.kind ≠ 0 := by
  unfold kidsN at h
  rw [List.mem_filter] at h
  exact ⟨h.1, by have := h.2; simpa using this⟩
theorem val_kid {even : Bool} {t : Nd} {d : Nat} (h : Val even t d) : t.kids.length ≤ 16 ∧ (t.kind = 3 → t.kids.length = 16) ∧ ∀ k ∈ t.kids, ∃ d', Val even k d' := by
  cases h with
  | none => exact ⟨Nat.zero_le _, fun h => absurd (show (0 : Int) = 3 from h) (by decide), fun k hk => by cases hk⟩
  | leaf => exact ⟨Nat.zero_le _, fun h => absurd (show (1 : Int) = 3 from h) (by decide), fun k hk => by cases hk⟩
  | stub => exact ⟨Nat.zero_le _, fun h => absurd (show (4 : Int) = 3 from h) (by decide), fun k hk => by cases hk⟩
  | way _ p k hd hp h0 hk hr => exact ⟨show 1 ≤ 16 by decide, fun h => absurd (show (2 : Int) = 3 from h) (by decide), fun x hx => by rw [List.mem_singleton.1 hx]; exact ⟨_, hr⟩⟩
  | branch _ has v ks hd hv hv0 he h16 hr hm => exact ⟨Nat.le_of_eq h16, fun _ => h16, fun k hk => ⟨_, hr k hk⟩⟩
set_option maxRecDepth 100000 in
set_option maxHeartbeats 8000000 in
theorem rsnd_step (N : Nat) (ih : ∀ k : Nd, sz k < N → RSndOk k) (t : Nd) (ht : sz t ≤ N) (hN : N ≤ 100000000) : RSndOk t := by
  intro even d w W gs Ao no co Ad nd cd out done xs L R fs cs hv M hr ho hdn hds
  refine calls_ev (args := [.agg cs.toArray, .agg #[.slice Ao no co, .slice Ad nd cd]]) mixed Try.func47 rfl (by kernel_rfl) ?_
  obtain ⟨hk16, hk3, hkv⟩ := val_kid hv
  have hcl := hr.len
  rw [dN_len] at hcl
  have hone := hr.ones (dN_one _)
  have hsz := sz_eq t
  have hhl := head_len t (by omega)
  have eno := M.rowLen 0 rfl
  subst eno
  have end_ : nd = done.length := by
    have h1 := (M.dt 0 rfl).len
    have h2 := (M.row _ (List.mem_cons_of_mem _ (List.mem_cons_self ..))).1
    rw [dNs_len] at h1
    dsimp only at h2
    omega
  subst end_
  replace M := (M.addL hr).fsub (.dat false (dNs done) xs :: .dat false (dN t) cs :: fs) (by intro f hf; simp only [List.mem_cons] at hf ⊢; rcases hf with h | h | h <;> simp [h])
  clear hr
  refine s_box (cs) M rfl ?_
  clear M
  rintro g2 W M
  refine s_box ([.slice Ao out.length co, .slice Ad done.length cd]) M rfl ?_
  clear M
  rintro g3 W M
  refine s_alloc ([.slice none 0 0, .slice none 0 0]) M (by kernel_rfl) ?_
  clear M
  rintro g4 W M
  -- has it come before?
  refine lp Nat (fun i W => i ≤ done.length ∧ (∀ j, j < i → done.getD j noneN ≠ t) ∧ St w gs W ((g4, 83, [.slice none 0 0, .slice none 0 0]) :: (g3, 83, [.slice Ao out.length co, .slice Ad done.length cd]) :: (g2, 38, cs) :: L) (⟨5, 1, Ao, out.length, co, bvs out⟩ :: ⟨38, 6, Ad, done.length, cd, xs⟩ :: R) (.dat false (dNs done) xs :: .dat false (dN t) cs :: fs))
    (fun i => [(2, .pointer (some ⟨g2, 0, none⟩)), (3, .pointer (some ⟨g3, 0, none⟩)), (4, .pointer (some ⟨g4, 0, none⟩)), (5, .int .i64 (i : Nat))]) (fun i => done.length - i) 0 ⟨Nat.zero_le _, (fun j h => absurd h (Nat.not_lt_zero _)), M⟩ (by repeat (first | exact trivial | refine ⟨rfl, ?_⟩)) ?_
  clear M
  rintro i E1 W1 ⟨hi, hno, M⟩
  refine p_fld fSt1 rfl ?_
  refine v_load agg_ns rfl ((M.B 1 rfl).at_ rfl) ?_
  refine p_len sln rfl ?_
  refine p_lt rfl rfl (fun hlt => ?_) (fun hge => ?_)
  · have hlt : i < done.length := by have h : (i : Int) < (done.length : Int) := hlt; omega
    obtain ⟨x, hx⟩ : ∃ x, done[i]? = some x := ⟨_, List.getElem?_eq_getElem hlt⟩
    have hxd : done.getD i noneN = x := by rw [List.getD_eq_getElem?_getD, hx]; rfl
    have hxz := hds x (List.mem_of_getElem? hx)
    refine cutV Bool (fun q W => (q = true ↔ x = t) ∧ St w gs W ((g4, 83, [.slice none 0 0, .slice none 0 0]) :: (g3, 83, [.slice Ao out.length co, .slice Ad done.length cd]) :: (g2, 38, cs) :: L) (⟨5, 1, Ao, out.length, co, bvs out⟩ :: ⟨38, 6, Ad, done.length, cd, xs⟩ :: R) (.dat false (dNs done) xs :: .dat false (dN t) cs :: fs))
      (fun q => [(2, .pointer (some ⟨g2, 0, none⟩)), (3, .pointer (some ⟨g3, 0, none⟩)), (4, .pointer (some ⟨g4, 0, none⟩)), (5, .int .i64 (i : Nat)), (22, .bool q)]) ?_ ?_
    · replace M := M.drew
      obtain ⟨gd, es, e1, -, hel, hxr, hcell⟩ := M.rowN 1 0 rfl rfl hx
      refine drT (fun W => Below W1.drew.heap.size W1.drew W) (.take 0 (.take 1 (.take 2 (.take 3 (.take 4 (.take 5 (.one 6 (.nil)))))))) (by kernel_rfl) (Below.refl _ _) ?_
      refine p_fld fSt1 rfl ?_
      refine t_load agg_ns rfl (fun W h => ((M.B 1 rfl).below h).at_ rfl) ?_
      refine p_at (i := i) sln (by show (Value.slice Ad done.length cd) = _; rw [e1]) rfl rfl hlt ?_
      refine t_loadN es agg_nd rfl hel (fun W h => cellsB h hcell) ?_
      refine t_loadN cs agg_nd rfl hcl (fun W h => cellsB h (M.run 2 rfl)) ?_
      refine cc is_r7same (rsame_any 1000000000 (by decide) x (by omega) t [] _ es cs (hxr.to fun b hb => ⟨rfl, hb.1, fun h => by cases h⟩) ((M.da 1 rfl).to fun b hb => ⟨rfl, hb.1, fun h => by cases h⟩) (fun b h => by cases h) (by omega)) ?_
      rintro e W ⟨q, rfl, hq, hb⟩
      refine ⟨_, rfl, hb, ?_⟩
      exact ⟨q, ⟨hq, M.call hb⟩, (by repeat (first | exact trivial | refine ⟨rfl, ?_⟩))⟩
    clear M
    rintro q E3 W3 ⟨hq, M⟩
    cases q with
    | false =>
      refine p_addN (b := 1) rfl rfl (by omega) ?_
      refine ⟨i + 1, ⟨by omega, fun j hj => ?_, M⟩, (by repeat (first | exact trivial | refine ⟨rfl, ?_⟩)), by omega⟩
      rcases Nat.lt_or_ge j i with h | h
      · exact hno j h
      · have : j = i := by omega
        subst this
        rw [hxd]
        exact fun e => absurd (hq.2 e) (by decide)
    | true =>
      have hix := idxN_of hlt (hxd.trans (hq.1 rfl)) hno
      have hpn := putN_len10 (n := i) (by omega)
      refine p_fld fSt0 rfl ?_
      refine v_load agg_b rfl ((M.B 1 rfl).at_ rfl) ?_
      refine s_litB [.int .u8 5] [5] M (by decide) rfl rfl rfl ?_
      clear M; rintro g9 W M
      replace M := M.frzO
      refine s_appB M rfl rfl (M.rdb 0 rfl).2.2 (by omega) ?_
      clear M; rintro A6 c6 W M -
      refine p_fld fSt0 rfl ?_
      refine s_set 1 (.slice A6 (out.length + 1) c6) [.slice A6 (out.length + 1) c6, .slice Ad done.length cd] M rfl sz_slS rfl rfl rfl (Nat.le_of_ble_eq_true rfl) rfl ?_
      clear M; rintro W M
      dsimp only [setL] at M
      refine cutV (Option Addr × Nat) (fun s W => St w gs W ((g4, 83, [.slice none 0 0, .slice none 0 0]) :: (g3, 83, [.slice s.1 (out ++ (sdP t done).1).length s.2, .slice Ad done.length cd]) :: (g2, 38, cs) :: L) (⟨5, 1, s.1, (out ++ (sdP t done).1).length, s.2, bvs (out ++ (sdP t done).1)⟩ :: ⟨38, 6, Ad, done.length, cd, xs⟩ :: R) (.dat false (dNs done) xs :: fs))
        (fun s => [(3, .pointer (some ⟨g3, 0, none⟩)), (4, .pointer (some ⟨g4, 0, none⟩))]) ?_ ?_
      · replace M := M.drew
        refine drZ 7 (Kp w gs [(g3, 83, [.slice A6 (out.length + 1) c6, .slice Ad done.length cd])] []) [(0, true), (1, true), (2, true), (3, true), (4, false), (5, false), (6, true)] (by kernel_rfl) (M.kp (by simp) (by simp)) ?_
        refine p_fld fSt0 rfl ?_
        refine t_load agg_b rfl (fun W K => (K.B 0 rfl).at_ rfl) ?_
        refine t_cvt u_int u_u64q rfl (r := (i : Int)) (by rw [IntKind.wrap_u64]; omega) ?_
        refine cc is_rputK (refPut_any i _ (by omega)) ?_
        rintro e W ⟨A7, c7, rfl, o7, hb⟩
        replace M := M.callO hb o7
        clear o7 hb
        refine ⟨_, rfl, (M.kp (by simp) (by simp)), ?_⟩
        refine s_appB M rfl rfl (M.rdb 0 rfl).2.2 (by omega) ?_
        clear M; rintro A8 c8 W M -
        refine ⟨(M.kp (by simp) (by simp)), ?_⟩
        refine p_fld fSt0 rfl ?_
        refine s_set 1 (off := 0) (.slice A8 (out.length + 1 + (putN i).length) c8) [.slice A8 (out.length + 1 + (putN i).length) c8, .slice Ad done.length cd] M rfl sz_slS rfl rfl rfl (Nat.le_of_ble_eq_true rfl) rfl ?_
        clear M; rintro W M
        dsimp only [setL] at M
        have e1 : out ++ [5] ++ putN i = out ++ (sdP t done).1 := by rw [sdP_some hix, List.append_assoc]; rfl
        have hl : out.length + 1 + (putN i).length = (out ++ (sdP t done).1).length := by rw [← e1, List.length_append, List.length_append]; rfl
        rw [e1, hl] at M
        exact ⟨(A8, c8), M.fsub _ (by intro f hf; simp only [List.mem_cons] at hf ⊢; rcases hf with h | h <;> simp [h]), (by repeat (first | exact trivial | refine ⟨rfl, ?_⟩))⟩
      clear M
      rintro ⟨A8, c8⟩ B2 W2 M
      dsimp only at M
      refine nx ?_
      refine v_loadN [.slice A8 (out ++ (sdP t done).1).length c8, .slice Ad done.length cd] agg_sent rfl rfl (M.run 1 rfl) ?_
      refine s_storeA 0 [.slice A8 (out ++ (sdP t done).1).length c8, .slice Ad done.length cd] M rfl sz_sent rfl rfl rfl (all1 rfl) rfl ?_
      clear M; rintro W M
      dsimp only [setL] at M
      refine c_loadN [.slice A8 (out ++ (sdP t done).1).length c8, .slice Ad done.length cd] agg_sent rfl rfl (M.run 0 rfl) ?_
      refine ⟨A8, c8, Ad, done.length, cd, xs, rfl, ?_⟩
      rw [show (sdP t done).2 = done by rw [sdP_some hix]]
      exact M.dropL.dropL.dropL
  have hge : i = done.length := by have h : ¬ (i : Int) < (done.length : Int) := hge; omega
  subst hge
  clear hi
  have hix : idxN done t = none := idxN_none.2 fun x hx => by
    obtain ⟨j, hj⟩ := List.getElem?_of_mem hx
    have hjl := (List.getElem?_eq_some_iff.1 hj).1
    have := hno j hjl
    rw [List.getD_eq_getElem?_getD, hj] at this
    exact this
  clear hno
  obtain ⟨P, hP⟩ : ∃ P, P = out ++ headP t := ⟨_, rfl⟩
  have hPl : P.length = out.length + (headP t).length := by rw [hP, List.length_append]
  refine cutV (Option Addr × Nat) (fun s W => St w gs W ((g4, 83, [.slice none 0 0, .slice none 0 0]) :: (g3, 83, [.slice s.1 P.length s.2, .slice Ad done.length cd]) :: (g2, 38, cs) :: L) (⟨5, 1, s.1, P.length, s.2, bvs P⟩ :: ⟨38, 6, Ad, done.length, cd, xs⟩ :: R) (.dat false (dNs done) xs :: .dat false (dN t) cs :: fs))
    (fun s => [(2, .pointer (some ⟨g2, 0, none⟩)), (3, .pointer (some ⟨g3, 0, none⟩)), (4, .pointer (some ⟨g4, 0, none⟩))]) ?_ ?_
  · replace M := M.drew
    refine drZ 6 (Kp w gs [(g3, 83, [.slice Ao out.length co, .slice Ad done.length cd]), (g2, 38, cs)] []) [(0, true), (1, true), (2, true), (3, false), (4, false), (5, true)] (by kernel_rfl) (M.kp (by simp) (by simp)) ?_
    refine p_fld fSt0 rfl ?_
    refine t_load agg_b rfl (fun W K => (K.B 0 rfl).at_ rfl) ?_
    refine t_loadN cs agg_nd rfl hcl (fun W K => K.run 1 rfl) ?_
    refine cc is_rhead (rhead_any t (by omega) hk3 _ _ cs (M.da 1 rfl) M.olt) ?_
    rintro e W ⟨A7, n7, c7, rfl, o7, hb⟩
    have e7 := o7.len
    replace M := M.callO hb o7
    clear o7 hb
    refine ⟨_, rfl, (M.kp (by simp) (by simp)), ?_⟩
    refine s_appB M rfl rfl (M.rdb 0 rfl).2.2 (by omega) ?_
    clear M; rintro A8 c8 W M -
    refine ⟨(M.kp (by simp) (by simp)), ?_⟩
    refine p_fld fSt0 rfl ?_
    refine s_set 1 (off := 0) (.slice A8 (out.length + n7) c8) [.slice A8 (out.length + n7) c8, .slice Ad done.length cd] M rfl sz_slS rfl rfl rfl (Nat.le_of_ble_eq_true rfl) rfl ?_
    clear M; rintro W M
    dsimp only [setL] at M
    rw [← hP, show out.length + n7 = P.length by rw [hPl, e7]] at M
    exact ⟨(A8, c8), M.fsub _ (by intro f hf; simp only [List.mem_cons] at hf ⊢; rcases hf with h | h | h <;> simp [h]), (by repeat (first | exact trivial | refine ⟨rfl, ?_⟩))⟩
  clear M
  rintro ⟨A1, c1⟩ B1 W2 M
  dsimp only at M
  refine nx ?_
  obtain ⟨kk, hkk⟩ : ∃ kk, kk = kidsN t.kids := ⟨_, rfl⟩
  have hkz := szs_kids t.kids
  rw [← hkk] at hkz
  refine v_loadN cs agg_nd rfl hcl (M.run 2 rfl) ?_
  refine cc is_rkids (rkids_any t hk16 _ _ cs (M.da 1 rfl) M.olt) ?_
  rintro e W ⟨A7, n7, c7, B7, d7, rfl, r9, -, hb⟩
  rw [← hkk] at r9
  have e7 := r9.slen
  subst e7
  replace M := (M.call hb).addD r9
  clear r9 hb
  refine ⟨_, rfl, ?_⟩
  have hz0 : sdK (kk.take 0) done = ([], done) := by rw [List.take_zero, sdK]
  have hkl := szs_len kk
  refine lp (Nat × Option Addr × Nat × Nat × Option Addr × Nat × Nat × List Value) (fun s W => s.1 ≤ kk.length ∧ s.2.2.1 = (P ++ (sdK (kk.take s.1) done).1).length ∧ St w gs W ((g4, 83, [.slice none 0 0, .slice none 0 0]) :: (g3, 83, [.slice s.2.1 s.2.2.1 s.2.2.2.1, .slice s.2.2.2.2.1 s.2.2.2.2.2.1 s.2.2.2.2.2.2.1]) :: (g2, 38, cs) :: L) (⟨5, 1, s.2.1, s.2.2.1, s.2.2.2.1, bvs (P ++ (sdK (kk.take s.1) done).1)⟩ :: ⟨38, 6, s.2.2.2.2.1, s.2.2.2.2.2.1, s.2.2.2.2.2.2.1, s.2.2.2.2.2.2.2⟩ :: R) (.dat false (dNs (sdK (kk.take s.1) done).2) s.2.2.2.2.2.2.2 :: .dat false [dKs kk] [.slice A7 kk.length c7] :: .dat false (dN t) cs :: fs))
    (fun s => [(2, .pointer (some ⟨g2, 0, none⟩)), (3, .pointer (some ⟨g3, 0, none⟩)), (4, .pointer (some ⟨g4, 0, none⟩)), (6, .slice A7 kk.length c7), (8, .int .i64 (s.1 : Nat))]) (fun s => kk.length - s.1) (0, A1, P.length, c1, Ad, done.length, cd, xs) ⟨Nat.zero_le _, by dsimp only; rw [hz0, List.append_nil], by dsimp only; rw [hz0, List.append_nil]; exact M.fsub _ (by intro f hf; simp only [List.mem_cons] at hf ⊢; rcases hf with h | h | h | h <;> simp [h])⟩ (by repeat (first | exact trivial | refine ⟨rfl, ?_⟩)) ?_
  clear M
  rintro ⟨i, A1, n1, c1, A2, n2, c2, xs2⟩ E3 W3 ⟨hi, en1, M⟩
  dsimp only at hi en1 M
  refine p_len sln rfl ?_
  refine p_lt rfl rfl (fun hlt => ?_) (fun hge => ?_)
  · have hlt : i < kk.length := by have h : (i : Int) < (kk.length : Int) := hlt; omega
    obtain ⟨k, hk⟩ : ∃ k, kk[i]? = some k := ⟨_, List.getElem?_eq_getElem hlt⟩
    have htk : kk.take (i + 1) = kk.take i ++ [k] := by rw [List.take_add_one, hk]; rfl
    obtain ⟨hkm, hk0⟩ := kidsN_kind (by rw [← hkk]; exact List.mem_of_getElem? hk)
    obtain ⟨d', hvk⟩ := hkv k hkm
    have hat := szs_at kk i k hk
    have hss := sdK_size (kk.take i) done (by omega)
    have hsl := sdK_len (kk.take i) done
    have hsm := sdK_mem (kk.take i) done
    have hsn := sdK_snoc (kk.take i) k done
    rw [if_neg hk0] at hsn
    refine cutV (Option Addr × Nat × Nat × Option Addr × Nat × Nat × List Value) (fun s W => s.2.1 = (P ++ (sdK (kk.take (i + 1)) done).1).length ∧ St w gs W ((g4, 83, [.slice none 0 0, .slice none 0 0]) :: (g3, 83, [.slice s.1 s.2.1 s.2.2.1, .slice s.2.2.2.1 s.2.2.2.2.1 s.2.2.2.2.2.1]) :: (g2, 38, cs) :: L) (⟨5, 1, s.1, s.2.1, s.2.2.1, bvs (P ++ (sdK (kk.take (i + 1)) done).1)⟩ :: ⟨38, 6, s.2.2.2.1, s.2.2.2.2.1, s.2.2.2.2.2.1, s.2.2.2.2.2.2⟩ :: R) (.dat false (dNs (sdK (kk.take (i + 1)) done).2) s.2.2.2.2.2.2 :: .dat false [dKs kk] [.slice A7 kk.length c7] :: .dat false (dN t) cs :: fs))
      (fun s => [(2, .pointer (some ⟨g2, 0, none⟩)), (3, .pointer (some ⟨g3, 0, none⟩)), (4, .pointer (some ⟨g4, 0, none⟩)), (6, .slice A7 kk.length c7), (8, .int .i64 (i : Nat))]) ?_ ?_
    · obtain ⟨b, off, es, e0, hel, M'⟩ := M.kid (M.d1 1 rfl) hk
      replace M := (M'.fsub (.dat false (dNs (sdK (kk.take i) done).2) xs2 :: .loc ((⟨b, off, none⟩ : Addr).add (i * 6)) es :: .dat false (dN k) es :: .dat false [dKs kk] [.slice A7 kk.length c7] :: .dat false (dN t) cs :: fs) (by intro f hf; simp only [List.mem_cons] at hf ⊢; rcases hf with h | h | h | h | h | h <;> simp [h])).drew
      clear M'
      refine drZ 6 (Kp w gs [(g3, 83, [.slice A1 n1 c1, .slice A2 n2 c2])] [.loc ((⟨b, off, none⟩ : Addr).add (i * 6)) es]) [(0, true), (1, true), (2, true), (3, true), (4, true), (5, false)] (by kernel_rfl) (M.kp (by simp) (by simp)) ?_
      refine p_at (i := i) sln (by show (Value.slice A7 kk.length c7) = _; rw [e0]) rfl rfl hlt ?_
      refine t_loadN es agg_nd rfl hel (fun W K => K.lc 0 rfl) ?_
      refine t_loadN [.slice A1 n1 c1, .slice A2 n2 c2] agg_sent rfl rfl (fun W K => K.run 0 rfl) ?_
      refine cc is_rsend (ih k (by have := szs_mem hkm; omega) even d' w _ gs A1 n1 c1 A2 n2 c2 (P ++ (sdK (kk.take i) done).1) (sdK (kk.take i) done).2 xs2 _ R _ es hvk M (M.da 2 rfl) (by rw [List.length_append]; omega) (by omega) (fun x hx => (hsm x hx).elim (hds x) (fun h => by omega))) ?_
      clear M
      rintro e W ⟨A3, c3, A4, n4, c4, xs4, rfl, M⟩
      refine ⟨_, rfl, (M.kp (by simp) (by simp)), ?_⟩
      rw [List.append_assoc] at M
      have e1 : (sdK (kk.take (i + 1)) done).1 = (sdK (kk.take i) done).1 ++ (sdP k (sdK (kk.take i) done).2).1 := by rw [htk, hsn]
      have e2 : (sdK (kk.take (i + 1)) done).2 = (sdP k (sdK (kk.take i) done).2).2 := by rw [htk, hsn]
      rw [← e1, ← e2] at M
      have hl : (P ++ (sdK (kk.take i) done).1 ++ (sdP k (sdK (kk.take i) done).2).1).length = (P ++ (sdK (kk.take (i + 1)) done).1).length := by rw [e1, List.append_assoc]
      refine s_storeA 1 [.slice A3 (P ++ (sdK (kk.take i) done).1 ++ (sdP k (sdK (kk.take i) done).2).1).length c3, .slice A4 n4 c4] M rfl sz_sent rfl rfl rfl (all1 rfl) rfl ?_
      clear M; rintro W M
      dsimp only [setL] at M
      rw [hl] at M
      exact ⟨(A3, (P ++ (sdK (kk.take (i + 1)) done).1).length, c3, A4, n4, c4, xs4), ⟨rfl, M.fsub _ (by intro f hf; simp only [List.mem_cons] at hf ⊢; rcases hf with h | h | h | h <;> simp [h])⟩, (by repeat (first | exact trivial | refine ⟨rfl, ?_⟩))⟩
    clear M
    rintro ⟨A3, n3, c3, A4, n4, c4, xs4⟩ B4 W4 ⟨en3, M⟩
    dsimp only at en3 M
    refine p_addN (b := 1) rfl rfl (by omega) ?_
    exact ⟨(i + 1, A3, n3, c3, A4, n4, c4, xs4), ⟨by dsimp only; omega, en3, M⟩, (by repeat (first | exact trivial | refine ⟨rfl, ?_⟩)), by dsimp only; omega⟩
  have hge : i = kk.length := by have h : ¬ (i : Int) < (kk.length : Int) := hge; omega
  subst hge
  rw [List.take_length, hkk, sdK_kids] at M en1
  clear hi
  obtain ⟨X, hX⟩ : ∃ X, X = P ++ (sdK t.kids done).1 := ⟨_, rfl⟩
  obtain ⟨Y, hY⟩ : ∃ Y, Y = (sdK t.kids done).2 := ⟨_, rfl⟩
  have hsl := sdK_len t.kids done
  rw [← hX, ← hY] at M
  rw [← hX] at en1
  rw [← hY] at hsl
  subst en1
  have e1 : out ++ (sdP t done).1 = X := by rw [sdP_none hix, hX, hP, List.append_assoc]
  have e2 : (sdP t done).2 = Y ++ [t] := by rw [sdP_none hix, hY]
  rw [e1, e2]
  have hn2 : n2 = Y.length := by
    have h1 := (M.dt 0 rfl).len
    have h2 := (M.row _ (List.mem_cons_of_mem _ (List.mem_cons_self ..))).1
    rw [dNs_len] at h1
    dsimp only at h2
    omega
  obtain ⟨Ap, cp, Av, cv, Ak, ck, Ah, ch, rfl, -⟩ := (M.da 2 rfl).node
  replace M := M.swpR
  refine p_fld fSt1 rfl ?_
  refine v_load agg_ns rfl ((M.B 1 rfl).at_ rfl) ?_
  refine v_loadN (ncs t Ap cp Av cv Ak ck Ah ch) agg_nd rfl rfl (M.run 2 rfl) ?_
  refine s_bsliceB (ncs t Ap cp Av cv Ak ck Ah ch) M sln z_nd rfl (by decide) rfl ?_
  clear M; rintro gz W M
  refine s_app M Try.underlying36 inf_nd rfl (by decide) rfl rfl (Reads.blk (M.B 0 rfl) rfl) (all1 rfl) ⟨by omega, by decide⟩ ?_
  clear M; rintro A6 c6 W M -
  replace M := M.dropL
  refine p_fld fSt1 rfl ?_
  refine s_set 1 (off := 1) (.slice A6 (n2 + 1) c6) [.slice A1 X.length c1, .slice A6 (n2 + 1) c6] M rfl sz_nsS rfl rfl rfl (Nat.le_of_ble_eq_true rfl) rfl ?_
  clear M; rintro W M
  dsimp only [setL] at M
  have hX2 := (M.dw 0 rfl).app (M.dw 2 rfl)
  have hdy : dNs Y ++ dN t = dNs (Y ++ [t]) := by rw [dNs_app, dNs, dNs, List.append_nil]
  rw [hdy] at hX2
  replace M := (M.addT hX2).swpR
  clear hX2
  refine v_loadN [.slice A1 X.length c1, .slice A6 (n2 + 1) c6] agg_sent rfl rfl (M.run 1 rfl) ?_
  refine s_storeA 0 [.slice A1 X.length c1, .slice A6 (n2 + 1) c6] M rfl sz_sent rfl rfl rfl (all1 rfl) rfl ?_
  clear M; rintro W M
  dsimp only [setL] at M
  refine c_loadN [.slice A1 X.length c1, .slice A6 (n2 + 1) c6] agg_sent rfl rfl (M.run 0 rfl) ?_
  exact ⟨A1, c1, A6, n2 + 1, c6, _, rfl, M.dropL.dropL.dropL.fsub _ (by intro f hf; simp only [List.mem_cons] at hf ⊢; rcases hf with h | h <;> simp [h])⟩
theorem rsnd_any : ∀ (N : Nat), N ≤ 100000000 → ∀ t : Nd, sz t < N → RSndOk t
  | 0, _, t, h => by omega
  | N + 1, hN, t, h => rsnd_step N (fun k hk => rsnd_any N (by omega) k hk) t (by omega) (by omega)
end Go.Proofs.Ytliccofjlheceaa
namespace Go.Proofs.Ytliccofjlheceaa
open Go.RowKit
def fieldIn (P : Program) (t : TypeId) (f : Nat) : Option (TypeId × Nat) :=
  match P.underlying t with
  | some (.struct fs) => fs[f]?.map fun x => (x.type, x.offset)
  | _ => none
/-- A field of a struct at hand, of one cell. -/
theorem p_field1 {P : Program} {E : Env} {d : Option Nat} {ty : TypeId} {p : String} {af : Array Edge} {g : Option (Nat × Bool)} {x : Operand} {t e : TypeId} {f off s : Nat} {k : Value → Prop} {vs : List Value} {v : Value} (hT : fieldIn P t f = some (e, off)) (ha : aggOf P e = some (false, s)) (hx : val E x = .agg vs.toArray) (hv : vs[off]? = some v) (h : k v) :
    VPure P E { dst := d, op := .field t x f, type := ty, pos := p, after := af, guard := g } k :=
  pp (fun w => by
    unfold fieldIn at hT
    split at hT
    · rename_i fs hu
      obtain ⟨fl, hf, he⟩ := Option.map_eq_some_iff.1 hT
      injection he with e1 e2
      subst e1 e2
      have hq := (aggOf_run ha w).1
      simp [execOp, hx, Instr.field, run_underlying hu, hf, part, asAgg, hq, hv]
    · cases hT) h
theorem fin_sent : fieldIn Try.prog 83 0 = some (23, 0) := by kernel_rfl
set_option maxRecDepth 100000 in
set_option maxHeartbeats 4000000 in
theorem rPk_any (t : Nd) (ht : sz t ≤ 999999999998) (gs : List (Option Nat)) (w : World) (cs : List Value) (hr : RdL w (Fd w gs) (dN t) cs) (hgs : ∀ b, some b ∈ gs → b < w.heap.size) :
    Calls Try.prog 21 #[.agg cs.toArray] w fun e w' => ∃ A n c, e = .returned (.tuple #[.slice A n c, .int .i64 (packP t).2]) ∧ Own w' w.heap.size A n c (packP t).1 ∧ Below w.heap.size w w' := by
  refine calls_ev (args := [.agg cs.toArray]) mixed Try.func21 rfl (by kernel_rfl) ?_
  have hcl := hr.len
  rw [dN_len] at hcl
  have hone := hr.ones (dN_one _)
  have M := (St.start hgs).addL hr
  clear hr
  refine s_box (cs) M rfl ?_
  clear M
  rintro g1 W M
  unfold packP
  refine v_loadN cs agg_nd rfl hcl (M.run 0 rfl) ?_
  refine cc is_r7check (r7check_any t (by omega) _ _ _ (M.da 0 rfl) M.olt) ?_
  rintro e W ⟨rfl, hb⟩
  replace M := M.call hb
  clear hb
  refine ⟨_, rfl, ?_⟩
  refine p_ne rfl rfl (fun h0 => ?_) (fun h0 => ?_)
  rotate_left
  · rw [if_pos (show checkE t ≠ 0 from h0)]
    exact ⟨none, 0, 0, rfl, World.ownsRow_nil _ _ _ _, M.below⟩
  have h0 : checkE t = 0 := h0
  rw [if_neg (fun h => h h0)]
  have hv := check_valK h0
  refine v_loadN cs agg_nd rfl hcl (M.run 0 rfl) ?_
  refine cc is_rcnt (rcnt_any 1000000000000 (by decide) t (by omega) _ _ cs (M.da 0 rfl) M.olt) ?_
  rintro e W ⟨rfl, hb⟩
  replace M := M.call hb
  clear hb
  refine ⟨_, rfl, ?_⟩
  refine p_gt rfl rfl (fun hc => ?_) (fun hc => ?_)
  · have hc : (5000 : Int) < (((cntP t).1 : Nat) : Int) := hc
    rw [if_pos (by omega)]
    exact ⟨none, 0, 0, rfl, World.ownsRow_nil _ _ _ _, M.below⟩
  have hc : ¬ (5000 : Int) < (((cntP t).1 : Nat) : Int) := hc
  rw [if_neg (by omega)]
  have hz := val_szc hv (by omega)
  refine v_loadN cs agg_nd rfl hcl (M.run 0 rfl) ?_
  refine p_build (vs := [.slice none 0 0, .slice none 0 0]) pl_sent z_sent rfl ?_
  replace M := (((M.nilR 38 6).nilR 5 1).addT (fr := false) (ds := dNs []) (cs := []) RdL.nil_)
  refine cc is_rsend (rsnd_any 100000000 (Nat.le_refl _) t (by omega) _ 0 w _ gs none 0 0 none 0 0 [] [] [] _ [] _ cs hv M (M.da 1 rfl) (by rw [List.length_nil]; omega) (by rw [List.length_nil]; omega) (fun x hx => by cases hx)) ?_
  clear M
  rintro e W ⟨Ao, co, Ad, nd, cd, xs, rfl, M⟩
  refine ⟨_, rfl, ?_⟩
  rw [List.nil_append] at M
  refine p_field1 fin_sent agg_b rfl rfl ?_
  exact ⟨Ao, _, co, rfl, M.row _ (List.mem_cons_self ..), M.below⟩
end Go.Proofs.Ytliccofjlheceaa
namespace Go.Proofs.Ytliccofjlheceaa
open Go.RowKit
theorem is_rwrong : isFn Try.prog 77 = true := by kernel_rfl
theorem is_rless : isFn Try.prog 78 = true := by kernel_rfl
theorem is_rtx : isFn Try.prog 95 = true := by kernel_rfl
theorem is_rgbK : isFn Try.prog 39 = true := by kernel_rfl
theorem fG0 : fieldOff Try.prog 90 0 = some 0 := by kernel_rfl
theorem fG1 : fieldOff Try.prog 90 1 = some 1 := by kernel_rfl
theorem fG2 : fieldOff Try.prog 90 2 = some 2 := by kernel_rfl
theorem fG3 : fieldOff Try.prog 90 3 = some 3 := by kernel_rfl
theorem agg_got : aggOf Try.prog 90 = some (true, 4) := by kernel_rfl
theorem sz_got : (Try.prog.info? 90).map (·.size) = some 4 := by kernel_rfl
theorem pl_got : placesOf Try.prog 90 = some [(0, 1), (1, 1), (2, 1), (3, 1)] := by kernel_rfl
def zG : List Value := rc none 0 0 none 0 0 0 0
theorem z_got : zeroOf Try.prog 90 = some zG := by kernel_rfl
theorem al_got : (Try.prog.info? 90).map (fun i => i.zero.map fun z => z.cells.toList) = some (some zG) := by kernel_rfl
section
variable {gs : List (Option Nat)} {A : Option Addr} {n c : Nat} {Ad : Option Addr} {nd cd : Nat} {left e : Int} {b : List UInt8}
set_option maxRecDepth 100000 in
set_option maxHeartbeats 1000000 in
theorem rwrong_any (w : World) (A : Option Addr) (n c : Nat) (Ad : Option Addr) (nd cd : Nat) (left e x : Int) :
    Calls Try.prog 77 #[.agg (rc A n c Ad nd cd left e).toArray, .int .i64 x] w fun en w' => en = .returned (.agg (rc A n c Ad nd cd left (fe e x)).toArray) ∧ Below w.heap.size w w' := by
  refine calls_ev (args := [.agg (rc A n c Ad nd cd left e).toArray, .int .i64 x]) mixed Try.func77 rfl (by kernel_rfl) ?_
  have M := St.start (w := w) (gs := []) (fun b h => by cases h)
  refine s_box (rc A n c Ad nd cd left e) M rfl ?_
  clear M
  rintro g2 W M
  refine s_alloc (zG) M al_got ?_
  clear M
  rintro g4 W M
  refine p_fld fG3 rfl ?_
  refine v_load agg_int rfl ((M.B 1 rfl).at_ rfl) ?_
  unfold fe
  refine p_eq rfl rfl (fun h => ?_) (fun h => ?_)
  · rw [if_pos (show e = 0 from h)]
    refine p_fld fG3 rfl ?_
    refine s_set 1 (off := 3) (.int .i64 x) (rc A n c Ad nd cd left x) M rfl sz_intP rfl rfl rfl (by show 3 < 4; decide) rfl ?_
    clear M; rintro W M
    dsimp only [setL] at M
    refine v_loadN (rc A n c Ad nd cd left x) agg_got rfl rfl (M.run 1 rfl) ?_
    refine s_storeA 0 (rc A n c Ad nd cd left x) M rfl sz_got rfl rfl rfl (all1 rfl) rfl ?_
    clear M; rintro W M
    dsimp only [setL] at M
    refine c_loadN (rc A n c Ad nd cd left x) agg_got rfl rfl (M.run 0 rfl) ?_
    exact ⟨rfl, M.below⟩
  · rw [if_neg (show ¬ e = 0 from h)]
    refine v_loadN (rc A n c Ad nd cd left e) agg_got rfl rfl (M.run 1 rfl) ?_
    refine s_storeA 0 (rc A n c Ad nd cd left e) M rfl sz_got rfl rfl rfl (all1 rfl) rfl ?_
    clear M; rintro W M
    dsimp only [setL] at M
    refine c_loadN (rc A n c Ad nd cd left e) agg_got rfl rfl (M.run 0 rfl) ?_
    exact ⟨rfl, M.below⟩
set_option maxRecDepth 100000 in
set_option maxHeartbeats 1000000 in
theorem rless_any (w : World) (A : Option Addr) (n c : Nat) (Ad : Option Addr) (nd cd : Nat) (left e k : Int) (hk : -9223372036854775808 ≤ left - k ∧ left - k ≤ 9223372036854775807) :
    Calls Try.prog 78 #[.agg (rc A n c Ad nd cd left e).toArray, .int .i64 k] w fun en w' => en = .returned (.agg (rc A n c Ad nd cd (left - k) (if left - k < 0 then fe e 3 else e)).toArray) ∧ Below w.heap.size w w' := by
  refine calls_ev (args := [.agg (rc A n c Ad nd cd left e).toArray, .int .i64 k]) mixed Try.func78 rfl (by kernel_rfl) ?_
  have M := St.start (w := w) (gs := []) (fun b h => by cases h)
  refine s_box (rc A n c Ad nd cd left e) M rfl ?_
  clear M
  rintro g2 W M
  refine s_alloc (zG) M al_got ?_
  clear M
  rintro g4 W M
  refine p_fld fG2 rfl ?_
  refine v_load agg_int rfl ((M.B 1 rfl).at_ rfl) ?_
  refine p_sub rfl rfl (r := left - k) (w64 hk) ?_
  refine p_fld fG2 rfl ?_
  refine s_set 1 (off := 2) (.int .i64 (left - k)) (rc A n c Ad nd cd (left - k) e) M rfl sz_intP rfl rfl rfl (by show 2 < 4; decide) rfl ?_
  clear M; rintro W M
  dsimp only [setL] at M
  refine p_fld fG2 rfl ?_
  refine v_load agg_int rfl ((M.B 1 rfl).at_ rfl) ?_
  refine p_lt rfl rfl (fun h => ?_) (fun h => ?_)
  · rw [if_pos (show left - k < 0 from h)]
    refine v_loadN (rc A n c Ad nd cd (left - k) e) agg_got rfl rfl (M.run 1 rfl) ?_
    refine cc is_rwrong (rwrong_any _ A n c Ad nd cd (left - k) e 3) ?_
    rintro en W ⟨rfl, hb⟩
    replace M := M.call hb
    clear hb
    refine ⟨_, rfl, ?_⟩
    refine s_storeA 0 (rc A n c Ad nd cd (left - k) (fe e 3)) M rfl sz_got rfl rfl rfl (all1 rfl) rfl ?_
    clear M; rintro W M
    dsimp only [setL] at M
    refine c_loadN (rc A n c Ad nd cd (left - k) (fe e 3)) agg_got rfl rfl (M.run 0 rfl) ?_
    exact ⟨rfl, M.below⟩
  · rw [if_neg (show ¬ left - k < 0 from h)]
    refine v_loadN (rc A n c Ad nd cd (left - k) e) agg_got rfl rfl (M.run 1 rfl) ?_
    refine s_storeA 0 (rc A n c Ad nd cd (left - k) e) M rfl sz_got rfl rfl rfl (all1 rfl) rfl ?_
    clear M; rintro W M
    dsimp only [setL] at M
    refine c_loadN (rc A n c Ad nd cd (left - k) e) agg_got rfl rfl (M.run 0 rfl) ?_
    exact ⟨rfl, M.below⟩
set_option maxRecDepth 100000 in
set_option maxHeartbeats 1000000 in
theorem rtx_some {s r : List UInt8} (ht : textX b = some (s, r)) (hz : n ≤ 1000000000) (w : World) (h : RdD w (Fd w gs) (dB b) (.slice A n c)) (hgs : ∀ b, some b ∈ gs → b < w.heap.size) :
    Calls Try.prog 95 #[.agg (rc A n c Ad nd cd left e).toArray] w fun en w' => ∃ A1 c1 A2 n2 c2, en = .returned (.tuple #[.slice A1 s.length c1, .agg (rc A2 n2 c2 Ad nd cd left e).toArray]) ∧ Own w' w.heap.size A1 s.length c1 s ∧ RdD w' (Fd w' gs) (dB r) (.slice A2 n2 c2) ∧ Below w.heap.size w w' := by
  refine calls_ev (args := [.agg (rc A n c Ad nd cd left e).toArray]) mixed Try.func95 rfl (by kernel_rfl) ?_
  have en := h.slen
  have hcap := h.scap
  have hto := gbTo_le b
  obtain ⟨K, hK⟩ : ∃ K : Nat, gbTo b 0 = (K : Int) := ⟨(gbTo b 0).toNat, by omega⟩
  unfold textX at ht
  split at ht
  rotate_left
  · cases ht
  rename_i hE
  injection ht with ht
  injection ht with es er
  rw [hK, Int.toNat_natCast] at er
  have M := (St.start hgs).addD h
  refine s_box (rc A n c Ad nd cd left e) M rfl ?_
  clear M
  rintro g1 W M
  refine s_alloc (zG) M al_got ?_
  clear M
  rintro g3 W M
  refine p_fld fG0 rfl ?_
  refine v_load agg_b rfl ((M.B 1 rfl).at_ rfl) ?_
  refine cc is_rgbK (refGetBytes_any A n c 0 b _ (M.rdb 0 rfl).2.2 (by omega) hcap) ?_
  rintro en W ⟨A1, n1, c1, rfl, o, hb⟩
  have el := o.len
  replace M := M.callR (r := ⟨5, 1, A1, n1, c1, bvs (gbL b 0)⟩) hb o
  clear o hb
  rw [hK, hE]
  rw [es] at M el
  subst el
  refine ⟨_, rfl, ?_⟩
  have hkn : K ≤ n := by omega
  have h2 := (M.d1 0 rfl).cutB (i := K) (j := n) (m := c) hkn (Nat.le_refl _) hcap
  rw [List.take_of_length_le (by rw [List.length_drop]; omega), er] at h2
  replace M := M.addD h2
  refine p_ne rfl rfl (fun _ => ?_) (fun h => absurd rfl h)
  refine p_fld fG0 rfl ?_
  refine v_load agg_b rfl ((M.B 1 rfl).at_ rfl) ?_
  refine p_slice (i := K) (j := n) (m := c) slb rfl (bnd_i rfl) rfl rfl rfl hkn hcap (Nat.le_refl _) ?_
  refine p_fld fG0 rfl ?_
  refine s_set 1 (off := 0) (.slice (slA A c K 1) (n - K) (c - K)) (rc (slA A c K 1) (n - K) (c - K) Ad nd cd left e) M rfl sz_slP rfl rfl rfl (by show 0 < 4; decide) rfl ?_
  clear M; rintro W M
  dsimp only [setL] at M
  replace M := M.drew
  refine drZ 3 (Kp w gs [(g1, 90, rc (slA A c K 1) (n - K) (c - K) Ad nd cd left e)] []) [(0, true), (1, true), (2, true)] (by kernel_rfl) (M.kp (by simp) (by simp)) ?_
  refine t_loadN (rc (slA A c K 1) (n - K) (c - K) Ad nd cd left e) agg_got rfl rfl (fun W K => K.run 0 rfl) ?_
  refine s_storeA 0 (rc (slA A c K 1) (n - K) (c - K) Ad nd cd left e) M rfl sz_got rfl rfl rfl (all1 rfl) rfl ?_
  clear M; rintro W M
  dsimp only [setL] at M
  refine c_loadN (rc (slA A c K 1) (n - K) (c - K) Ad nd cd left e) agg_got rfl rfl (M.run 0 rfl) ?_
  exact ⟨_, _, _, _, _, rfl, M.row _ (List.mem_cons_self ..), M.fin1 0 rfl, M.below⟩
set_option maxRecDepth 100000 in
set_option maxHeartbeats 1000000 in
theorem rtx_none (ht : textX b = none) (hz : n ≤ 1000000000) (w : World) (h : RdD w (Fd w gs) (dB b) (.slice A n c)) :
    Calls Try.prog 95 #[.agg (rc A n c Ad nd cd left e).toArray] w fun en w' => en = .returned (.tuple #[.slice none 0 0, .agg (rc A n c Ad nd cd left (fe e 11)).toArray]) ∧ Below w.heap.size w w' := by
  refine calls_ev (args := [.agg (rc A n c Ad nd cd left e).toArray]) mixed Try.func95 rfl (by kernel_rfl) ?_
  have en := h.slen
  have hcap := h.scap
  have hE : gbE b 0 ≠ 0 := fun hE => by unfold textX at ht; rw [if_pos hE] at ht; cases ht
  have M := (St.start (w := w) (gs := []) (fun b h => by cases h)).addD (h.to fun b hb => ⟨rfl, hb.1, fun h => by cases h⟩)
  refine s_box (rc A n c Ad nd cd left e) M rfl ?_
  clear M
  rintro g1 W M
  refine s_alloc (zG) M al_got ?_
  clear M
  rintro g3 W M
  refine p_fld fG0 rfl ?_
  refine v_load agg_b rfl ((M.B 1 rfl).at_ rfl) ?_
  refine cc is_rgbK (refGetBytes_any A n c 0 b _ (M.rdb 0 rfl).2.2 (by omega) hcap) ?_
  rintro en W ⟨A1, n1, c1, rfl, o, hb⟩
  replace M := M.call hb
  clear o hb
  refine ⟨_, rfl, ?_⟩
  refine p_ne rfl rfl (fun h => absurd h hE) (fun _ => ?_)
  refine v_loadN (rc A n c Ad nd cd left e) agg_got rfl rfl (M.run 1 rfl) ?_
  refine cc is_rwrong (rwrong_any _ A n c Ad nd cd left e 11) ?_
  rintro en W ⟨rfl, hb⟩
  replace M := M.call hb
  clear hb
  refine ⟨_, rfl, ?_⟩
  refine s_storeA 0 (rc A n c Ad nd cd left (fe e 11)) M rfl sz_got rfl rfl rfl (all1 rfl) rfl ?_
  clear M; rintro W M
  dsimp only [setL] at M
  refine c_loadN (rc A n c Ad nd cd left (fe e 11)) agg_got rfl rfl (M.run 0 rfl) ?_
  exact ⟨rfl, M.below⟩
end
end Go.Proofs.Ytliccofjlheceaa
namespace Go.Proofs.Ytliccofjlheceaa
open Go.RowKit
theorem is_rup6 : isFn Try.prog 96 = true := by kernel_rfl
theorem is_rofN : isFn Try.prog 57 = true := by kernel_rfl
/-- A byte of what is read. -/
theorem St.at8c {w W : World} {gs : List (Option Nat)} {L : Lc} {R : List Row} {fs : List Fact} (M : St w gs W L R fs) {l : List UInt8} {A : Option Addr} {n c : Nat} (h : RdD W (Fd W (own L R gs)) (dB l) (.slice A n c)) {i : Nat} (hi : i < n) :
    ∃ b o, A = some ⟨b, o, none⟩ ∧ St w gs W L R (.loc ((⟨b, o, none⟩ : Addr).add (i * 1)) [.int .u8 (at8 l i)] :: fs) := by
  obtain ⟨b, o, rfl, hcell⟩ := (h.rd Fd.lt).2.2.at_ (k := i) hi
  refine ⟨b, o, rfl, M.addC (by rw [block_of_add]; exact RdD.blk0 h (by omega)) (fun j x hx => ?_)⟩
  match j, hx with
  | 0, hx =>
    injection hx with hx
    subst hx
    rw [Addr.add_lit, Addr.add_lit, Nat.mul_one, Nat.add_zero]
    exact hcell
  | j + 1, hx => cases hx
set_option maxRecDepth 100000 in
set_option maxHeartbeats 1000000 in
theorem rup_any (l : List UInt8) (gs : List (Option Nat)) (w : World) (A : Option Addr) (n c : Nat) (h : RdD w (Fd w gs) (dB l) (.slice A n c)) (hgs : ∀ b, some b ∈ gs → b < w.heap.size) (hz : n ≤ 100000000) :
    Calls Try.prog 96 #[.slice A n c] w fun e w' => ∃ A1 n1 c1, e = .returned (.tuple #[.slice A1 n1 c1, .bool (unpackB l), .int .i64 (unpackE l)]) ∧ RdD w' (Fr w w') (dB (unpackL l)) (.slice A1 n1 c1) ∧ Below w.heap.size w w' := by
  refine calls_ev (args := [.slice A n c]) mixed Try.func96 rfl (by kernel_rfl) ?_
  have en := h.slen
  have M := (St.start hgs).addD h
  clear h
  refine p_len slb rfl ?_
  refine p_eq rfl rfl (fun h0 => ?_) (fun h0 => ?_)
  · obtain ⟨h1, h2, h3⟩ := unpack_nil (b := l) (by omega)
    rw [h1, h2, h3]
    exact ⟨none, 0, 0, rfl, RdD.nil_ _ _, M.below⟩
  · have hl0 : 0 < l.length := by omega
    have hne : l.length ≠ 0 := by omega
    obtain ⟨e0, e1, e2, e3⟩ := ofB_head l hl0
    have x0 := at8_lo l 0
    have x1 := at8_hi l 0
    refine cc is_rofN (refOf_any A n c l _ (M.rdb 0 rfl).2.2 (by omega)) ?_
    rintro e W ⟨rfl, o, hb⟩
    replace M := M.callO hb o
    clear o hb
    refine ⟨_, rfl, ?_⟩
    have hcap : 2 * n ≤ 2 * n := Nat.le_refl _
    obtain ⟨b0, o0, hA0, hc0⟩ := (M.rdb 0 rfl).2.2.at_ (k := 0) (by omega)
    obtain ⟨b1, o1, hA1, hc1⟩ := (M.rdb 0 rfl).2.2.at_ (k := 1) (by omega)
    rw [e0] at hc0
    rw [e1] at hc1
    injection hA0 with hA0
    injection hA0 with hA0 hA0'
    subst hA0; subst hA0'
    injection hA1 with hA1
    injection hA1 with hA1 hA1'
    subst hA1; subst hA1'
    obtain ⟨x, hx⟩ : ∃ x : Nat, at8 l 0 / 16 = (x : Int) := ⟨(at8 l 0 / 16).toNat, by omega⟩
    rw [hx] at hc0
    refine p_at (i := 0) slb rfl rfl rfl (by omega) ?_
    refine v_load agg_by' rfl (by rw [Addr.add_lit, Nat.zero_mul]; exact hc0) ?_
    refine p_rem rfl rfl (by decide) (r := ((x % 2 : Nat) : Int)) (tmod2' _) ?_
    refine v_cvt u_u8r u_intr rfl (r := ((x % 2 : Nat) : Int)) (w64 (by omega)) ?_
    refine p_subN (a := 2) (b := x % 2) rfl rfl (by omega) (by omega) ?_
    have hcut := fun i (hi : i ≤ 2 * n) => (M.dt 0 rfl).hd.cutB (i := i) (j := 2 * n) (m := 2 * n) hi (Nat.le_refl _) (Nat.le_refl _)
    have hol : (ofB l).length = 2 * n := (M.d1 0 rfl).slen.symm
    refine p_gt rfl rfl (fun hgt => ?_) (fun hgt => ?_)
    · have hgt : (3 : Int) < (x : Int) := hgt
      have hok : unpackOk l = false := by unfold unpackOk; rw [decide_eq_false (show ¬ at8 l 0 < 64 by omega), Bool.false_and]
      obtain ⟨h1, h2, h3⟩ := unpack_no (b := l) hne hok
      rw [h1, h2, h3]
      exact ⟨none, 0, 0, rfl, RdD.nil_ _ _, M.below⟩
    have hgt : ¬ (3 : Int) < (x : Int) := hgt
    refine p_eq rfl rfl (fun h2 => ?_) (fun h2 => ?_)
    · have h2 : ((2 - x % 2 : Nat) : Int) = 2 := h2
      refine p_at (i := 1) slb rfl rfl rfl (by omega) ?_
      refine v_load agg_by' rfl (by rw [Addr.add_lit, Nat.mul_one]; exact hc1) ?_
      refine p_ne rfl rfl (fun hz0 => ?_) (fun hz0 => ?_)
      · have hz0 : at8 l 0 % 16 = 0 := hz0
        have hok : unpackOk l = true := by simp [unpackOk, hz0]; omega
        obtain ⟨h1, h2, h3⟩ := unpack_ok (b := l) hne hok
        rw [h1, h2]
        refine p_slice (i := 2 - x % 2) (j := 2 * n) (m := 2 * n) slb rfl (bnd_i rfl) rfl rfl rfl (by omega) (Nat.le_refl _) (Nat.le_refl _) ?_
        have hl : unpackL l = ((ofB l).drop (2 - x % 2)).take (2 * n - (2 - x % 2)) := by
          rw [List.take_of_length_le (by rw [List.length_drop]; omega), h3]
          by_cases ho : at8 l 0 / 16 % 2 = 1
          · rw [if_pos ho, show 2 - x % 2 = 1 by omega]; exact e2.symm
          · rw [if_neg ho, show 2 - x % 2 = 2 by omega, List.nil_append]; exact e3.symm
        have hc := hcut (2 - x % 2) (by omega)
        rw [← hl] at hc
        replace M := M.addT (RdL.one hc)
        refine p_ge rfl rfl (fun hge => ?_) (fun hge => ?_)
        · have hge : (2 : Int) ≤ (x : Int) := hge
          rw [decide_eq_true (show at8 l 0 / 32 % 2 = 1 by omega)]
          exact ⟨_, _, _, rfl, M.finF1 0 rfl, M.below⟩
        · have hge : ¬ (2 : Int) ≤ (x : Int) := hge
          rw [decide_eq_false (show ¬ at8 l 0 / 32 % 2 = 1 by omega)]
          exact ⟨_, _, _, rfl, M.finF1 0 rfl, M.below⟩
      · have hz0 : at8 l 0 % 16 ≠ 0 := hz0
        have hok : unpackOk l = false := by simp [unpackOk, hz0]; omega
        obtain ⟨h1, h2, h3⟩ := unpack_no (b := l) hne hok
        rw [h1, h2, h3]
        exact ⟨none, 0, 0, rfl, RdD.nil_ _ _, M.below⟩
    · have h2 : ((2 - x % 2 : Nat) : Int) ≠ 2 := h2
      have hok : unpackOk l = true := by simp [unpackOk]; omega
      obtain ⟨h1, h2, h3⟩ := unpack_ok (b := l) hne hok
      rw [h1, h2]
      refine p_slice (i := 2 - x % 2) (j := 2 * n) (m := 2 * n) slb rfl (bnd_i rfl) rfl rfl rfl (by omega) (Nat.le_refl _) (Nat.le_refl _) ?_
      have hl : unpackL l = ((ofB l).drop (2 - x % 2)).take (2 * n - (2 - x % 2)) := by
        rw [List.take_of_length_le (by rw [List.length_drop]; omega), h3]
        by_cases ho : at8 l 0 / 16 % 2 = 1
        · rw [if_pos ho, show 2 - x % 2 = 1 by omega]; exact e2.symm
        · rw [if_neg ho, show 2 - x % 2 = 2 by omega, List.nil_append]; exact e3.symm
      have hc := hcut (2 - x % 2) (by omega)
      rw [← hl] at hc
      replace M := M.addT (RdL.one hc)
      refine p_ge rfl rfl (fun hge => ?_) (fun hge => ?_)
      · have hge : (2 : Int) ≤ (x : Int) := hge
        rw [decide_eq_true (show at8 l 0 / 32 % 2 = 1 by omega)]
        exact ⟨_, _, _, rfl, M.finF1 0 rfl, M.below⟩
      · have hge : ¬ (2 : Int) ≤ (x : Int) := hge
        rw [decide_eq_false (show ¬ at8 l 0 / 32 % 2 = 1 by omega)]
        exact ⟨_, _, _, rfl, M.finF1 0 rfl, M.below⟩
end Go.Proofs.Ytliccofjlheceaa
