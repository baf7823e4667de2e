/- Package block: txs, outs. Operations on arrays. No program in sight. Words turned to the right: the walks of bits.RotateLeft32 and of digest's turn. SHA-256, plainly. Words of 32 bits: single operations. The walk of digest's words. SHA-256, plainly: rounds. The walk of digest's take. -/
import Derived.Test.YtejbljopighenaaDoorG15
import Derived.Test.YtejbljopighenaaDoorG05
import Derived.Test.YtejbljopighenaaDoorG04
import Derived.Laws.BitsAllLaws
namespace Go.Proofs.YtejbljopighenaaDoor
open Go.RowKit
theorem is_btxs : isFn Tryd.prog 33 = true := by kernel_rfl
theorem is_bouts : isFn Tryd.prog 34 = true := by kernel_rfl
theorem is_vsplit : isFn Tryd.prog 31 = true := by kernel_rfl
theorem u_tst : Tryd.prog.underlying 52 = some (.slice 9) := by kernel_rfl
theorem u_tsst : Tryd.prog.underlying 23 = some (.slice 52) := by kernel_rfl
theorem u_ost : Tryd.prog.underlying 24 = some (.slice 55) := by kernel_rfl
theorem zstr : zeroOf Tryd.prog 9 = some [.string (sb [])] := by kernel_rfl
theorem ztst : zeroOf Tryd.prog 52 = some [.slice none 0 0] := by kernel_rfl
theorem stinfo : (Tryd.prog.info? 9).map (fun i => (i.zero, i.size, i.bytes)) = some (some (.string (sb [])), 1, 16) := by kernel_rfl
theorem tsinfo : (Tryd.prog.info? 52).map (fun i => (i.zero, i.size, i.bytes)) = some (some (.slice none 0 0), 1, 24) := by kernel_rfl
theorem outinfo : (Tryd.prog.info? 55).map (fun i => (i.zero, i.size, i.bytes)) = some (some (.agg zOut.toArray), 3, 40) := by kernel_rfl
theorem OwnS.rdLs {W : World} {base n c : Nat} {A : Option Addr} {ll : List (List UInt8)} {F : Nat → Prop} (h : OwnS W base A n c ll) (hF : ∀ b, base ≤ b → b < W.heap.size → Thaw W b → F b) : RdD W F (dLs ll) (.slice A n c) := by
  obtain ⟨vs, h1, h2⟩ := h
  have hn : n = ll.length := by have := h1.1; have := h2.len; omega
  have key : RdL W F (ll.map dB) vs := RdL.ofall dB ll vs h2.len fun k v l hv hl => by
    obtain ⟨A', m, c', rfl, ho⟩ := h2.own k v l hv hl
    have em : m = l.length := ho.len.symm
    subst em
    exact rdD_row ho (RdL.ofvals _) fun b q1 q2 q3 => hF b q1 q2 (row_thaw ho (by rw [← own_bk]; exact q3))
  subst hn
  exact rdD_row h1 key fun b q1 q2 q3 => hF b q1 q2 (row_thaw h1 (by rw [← own_bk]; exact q3))
theorem sp_bound {l x : List UInt8} (h : x ∈ spL l) : x.length ≤ l.length ∧ (spL l).length ≤ l.length := by
  by_cases h0 : spE l = 0
  · obtain ⟨j1, -⟩ := join_split l h0
    have h1 := join_mem h
    have h2 := join_len (spL l)
    rw [j1] at h1 h2
    omega
  · have : spL l = [] := by unfold spL; rw [if_neg h0]
    rw [this] at h; cases h
theorem sp_cnt (l : List UInt8) : (spL l).length ≤ l.length := by
  by_cases h0 : spE l = 0
  · have h2 := join_len (spL l)
    rw [(join_split l h0).1] at h2
    omega
  · have : spL l = [] := by unfold spL; rw [if_neg h0]
    rw [this]; exact Nat.zero_le _
theorem txsP_some {l : List UInt8} (h : spE l = 0) (h2 : ∀ x ∈ spL l, spE x = 0) : txsP l = some ((spL l).map spL) := by unfold txsP; rw [if_pos ⟨h, h2⟩]
theorem txsP_none {l : List UInt8} (h : ¬ (spE l = 0 ∧ ∀ x ∈ spL l, spE x = 0)) : txsP l = none := by unfold txsP; rw [if_neg h]
theorem outsP_some {l : List UInt8} (h : spE l = 0) (h2 : ∀ x ∈ spL l, (decO x).2 = 0) : outsP l = some ((spL l).map fun x => (decO x).1) := by unfold outsP; rw [if_pos ⟨h, h2⟩]
theorem outsP_none {l : List UInt8} (h : ¬ (spE l = 0 ∧ ∀ x ∈ spL l, (decO x).2 = 0)) : outsP l = none := by unfold outsP; rw [if_neg h]
set_option maxRecDepth 100000 in
set_option maxHeartbeats 4000000 in
theorem btxs_any (l : List UInt8) (gs : List (Option Nat)) (w : World) (A : Option Addr) (n c : Nat) (hr : RdD w (Fd w gs) (dB l) (.slice A n c)) (hgs : ∀ b, some b ∈ gs → b < w.heap.size) (hl : l.length ≤ 100000000) :
    Calls Tryd.prog 33 #[.slice A n c] w fun e w' => ∃ A' n' c', e = .returned (.tuple #[.slice A' n' c', .bool (txsP l).isSome]) ∧ RdD w' (Fd w' gs) (dTxs ((txsP l).getD [])) (.slice A' n' c') ∧ Below w.heap.size w w' := by
  refine calls_ev (args := [.slice A n c]) mixed Tryd.func33 rfl (by kernel_rfl) ?_
  obtain ⟨en, enc, hrd⟩ := hr.rd Fd.lt
  have M := (St.start hgs).addD hr
  clear hr
  refine cc is_vsplit (split_any _ _ _ l _ hrd (by omega) enc) ?_
  rintro e W ⟨A4, n4, c4, rfl, o4, hb⟩
  have h4 : RdD W (Fr w W) (dLs (spL l)) (.slice A4 n4 c4) := o4.rdLs fun b q1 q2 q3 => ⟨q1, q2, q3⟩
  have en4 : n4 = (spL l).length := h4.slen
  subst en4
  replace M := M.callF1 hb h4
  clear hb h4 o4 hrd
  refine ⟨_, rfl, ?_⟩
  refine p_ne rfl rfl (fun q => ?_) (fun q => ?_)
  rotate_left
  · have q : ¬ spE l = 0 := q
    have hno := txsP_none (l := l) (fun h => q h.1)
    rw [hno]
    exact ⟨none, 0, 0, rfl, RdD.nil_ none 0, M.below⟩
  have q : spE l = 0 := q
  have hcnt := sp_cnt l
  refine p_len sls rfl ?_
  refine lp (Nat × List Value × Option Addr × Nat) (fun s W => s.1 ≤ (spL l).length ∧ (∀ x ∈ (spL l).take s.1, spE x = 0) ∧ St w gs W [] [⟨52, 1, s.2.2.1, s.1, s.2.2.2, s.2.1⟩] [.dat false ((((spL l).take s.1).map spL).map dTx) s.2.1, .dat true [dLs (spL l)] [.slice A4 (spL l).length c4]])
    (fun s => [(6, .slice s.2.2.1 s.1 s.2.2.2), (21, .slice A4 (spL l).length c4), (22, .int .i64 ((spL l).length : Nat)), (23, .int .i64 s.1)]) (fun s => (spL l).length - s.1) (0, [], none, 0) ⟨Nat.zero_le _, (fun x h => by rw [List.take_zero] at h; cases h), ?_⟩ (by repeat (first | exact trivial | refine ⟨rfl, ?_⟩)) ?_
  · have M2 := (M.nilR 52 1).addL (ds := []) (cs := []) RdL.nil_
    exact M2.fsub _ (by simp)
  clear M
  rintro ⟨i, xs, A6, c6⟩ E W ⟨hi, ha, M⟩
  dsimp only at hi ha M
  refine p_lt rfl rfl (fun hlt => ?_) (fun hge => ?_)
  rotate_left
  · have hi : i = (spL l).length := by have h : ¬ (i : Int) < ((spL l).length : Int) := hge; omega
    subst hi
    rw [List.take_of_length_le (Nat.le_refl _)] at ha M
    have hso := txsP_some q ha
    replace M := M.frzR (fr := false) (M.dt 0 rfl)
    rw [hso]
    refine ⟨A6, _, c6, rfl, ?_, M.below⟩
    have h := M.fin1 0 rfl
    show RdD W (Fd W gs) (dTxs ((spL l).map spL)) _
    unfold dTxs
    rw [List.length_map]
    exact h
  have hil : i < (spL l).length := by have h : (i : Int) < ((spL l).length : Int) := hlt; omega
  obtain ⟨x, hx⟩ : ∃ x, (spL l)[i]? = some x := ⟨_, List.getElem?_eq_getElem hil⟩
  have hxl := (sp_bound (List.mem_of_getElem? hx)).1
  have hcx := sp_cnt x
  obtain ⟨b1, o1, A8, c8, rfl, M'⟩ := M.lse (M.d1 1 rfl) hx
  replace M := M'; clear M'
  refine p_at (i := i) sls rfl rfl rfl hil ?_
  refine v_load agg_b rfl (M.lc 0 rfl 0 _ rfl) ?_
  obtain ⟨-, enc8, hrd8⟩ := M.rdb 1 rfl
  refine cc is_vsplit (split_any _ _ _ x _ hrd8 (by omega) enc8) ?_
  rintro e W ⟨A9, n9, c9, rfl, o9, hb⟩
  have h9 : RdD W (Fr _ W) (dLs (spL x)) (.slice A9 n9 c9) := o9.rdLs fun b q1 q2 q3 => ⟨q1, q2, q3⟩
  have en9 : n9 = (spL x).length := h9.slen
  subst en9
  replace M := M.callF1 hb h9
  clear hb h9 o9 hrd8
  refine ⟨_, rfl, ?_⟩
  refine p_ne rfl rfl (fun q2 => ?_) (fun q2 => ?_)
  rotate_left
  · have q2 : ¬ spE x = 0 := q2
    have hno := txsP_none (l := l) (fun h => q2 (h.2 x (List.mem_of_getElem? hx)))
    rw [hno]
    exact ⟨none, 0, 0, rfl, RdD.nil_ none 0, M.below⟩
  have q2 : spE x = 0 := q2
  refine p_len sls rfl ?_
  refine lp (Nat × List Value × Option Addr × Nat) (fun s W => s.1 ≤ (spL x).length ∧ St w gs W [] [⟨9, 1, s.2.2.1, s.1, s.2.2.2, s.2.1⟩, ⟨52, 1, A6, i, c6, xs⟩] [.dat false (((spL x).take s.1).map fun s => .v (.string (sb s))) s.2.1, .dat true [dLs (spL x)] [.slice A9 (spL x).length c9], .dat false ((((spL l).take i).map spL).map dTx) xs, .dat true [dLs (spL l)] [.slice (some ⟨b1, o1, none⟩) (spL l).length c4]])
    (fun s => [(6, .slice A6 i c6), (11, .slice s.2.2.1 s.1 s.2.2.2), (21, .slice (some ⟨b1, o1, none⟩) (spL l).length c4), (22, .int .i64 ((spL l).length : Nat)), (23, .int .i64 i), (34, .slice A9 (spL x).length c9), (35, .int .i64 ((spL x).length : Nat)), (36, .int .i64 s.1)]) (fun s => (spL x).length - s.1) (0, [], none, 0) ⟨Nat.zero_le _, ?_⟩ (by repeat (first | exact trivial | refine ⟨rfl, ?_⟩)) ?_
  · have M2 := (M.nilR 9 1).addL (ds := []) (cs := []) RdL.nil_
    exact M2.fsub _ (by simp)
  clear M
  rintro ⟨k, ys, A11, c11⟩ E W ⟨hk, M⟩
  dsimp only at hk M
  refine p_lt rfl rfl (fun hlt2 => ?_) (fun hge => ?_)
  · have hkl : k < (spL x).length := by have h : (k : Int) < ((spL x).length : Int) := hlt2; omega
    obtain ⟨y, hy⟩ : ∃ y, (spL x)[k]? = some y := ⟨_, List.getElem?_eq_getElem hkl⟩
    obtain ⟨b2, o2, A13, c13, rfl, M'⟩ := M.lse (M.d1 1 rfl) hy
    replace M := M'; clear M'
    refine p_at (i := k) sls rfl rfl rfl hkl ?_
    refine v_load agg_b rfl (M.lc 0 rfl 0 _ rfl) ?_
    refine v_str rfl (M.rdb 1 rfl).2.2 ?_
    refine s_bslice (fr := false) (ds := [.v (.string (sb y))]) [.string (sb y)] M slts zstr rfl (by decide) rfl (RdL.cons (RdD.ofv _) RdL.nil_) rfl ?_
    clear M; rintro gq W M
    obtain ⟨news, hrd, hnd⟩ := (M.d1 0 rfl).reads Fd.lt
    replace M := M.addL hnd
    refine s_app (z := .string (sb [])) (news := news) M u_tst stinfo rfl (by decide) rfl rfl hrd (hnd.ones (fun d hd => by rcases List.mem_singleton.1 hd with rfl; rfl)) ⟨by omega, by decide⟩ ?_
    clear M hrd hnd
    rintro A44 c44 W M -
    refine p_addN (b := 1) rfl rfl (by omega) ?_
    have hx2 := (M.da 4 rfl).app (M.da 0 rfl)
    have em := take_map_snoc (fun s => D.v (.string (sb s))) hy
    rw [← em] at hx2
    replace M := M.addL hx2
    exact ⟨(k + 1, ys ++ news, A44, c44), ⟨by dsimp only; omega, M.fsub _ (by simp)⟩, (by repeat (first | exact trivial | refine ⟨rfl, ?_⟩)), by dsimp only; omega⟩
  have hk : k = (spL x).length := by have h : ¬ (k : Int) < ((spL x).length : Int) := hge; omega
  subst hk
  rw [List.take_of_length_le (Nat.le_refl _)] at M
  replace M := M.frzR (fr := false) (M.dt 0 rfl)
  have hdx : RdD W (Fd W (own [] [⟨52, 1, A6, i, c6, xs⟩] gs)) (dTx (spL x)) (.slice A11 (spL x).length c11) := M.d1 0 rfl
  replace M := M.addD hdx
  refine s_bslice (fr := false) (ds := [dTx (spL x)]) [.slice A11 (spL x).length c11] M sltss ztst rfl (by decide) rfl (M.dw 0 rfl) rfl ?_
  clear M hdx; rintro gq W M
  obtain ⟨news, hrd, hnd⟩ := (M.d1 0 rfl).reads Fd.lt
  replace M := M.addL hnd
  refine s_app (z := .slice none 0 0) (news := news) M u_tsst tsinfo rfl (by decide) rfl rfl hrd (hnd.ones (fun d hd => by rcases List.mem_singleton.1 hd with rfl; exact trivial)) ⟨by omega, by decide⟩ ?_
  clear M hrd hnd
  rintro A49 c49 W M -
  refine p_addN (b := 1) rfl rfl (by omega) ?_
  have hx2 := (M.da 6 rfl).app (M.da 0 rfl)
  have em : (((spL l).take (i + 1)).map spL).map dTx = (((spL l).take i).map spL).map dTx ++ [dTx (spL x)] := by rw [take_map_snoc spL hx, List.map_append]; rfl
  rw [← em] at hx2
  replace M := M.addL hx2
  refine ⟨(i + 1, xs ++ news, A49, c49), ⟨by dsimp only; omega, fun y hy => ?_, M.fsub _ (by simp)⟩, (by repeat (first | exact trivial | refine ⟨rfl, ?_⟩)), by dsimp only; omega⟩
  rw [List.take_add_one, hx, List.mem_append] at hy
  rcases hy with hy | hy
  · exact ha y hy
  · have : y = x := by simpa using hy
    rw [this]; exact q2
set_option maxRecDepth 100000 in
set_option maxHeartbeats 4000000 in
theorem bouts_any (l : List UInt8) (gs : List (Option Nat)) (w : World) (A : Option Addr) (n c : Nat) (hr : RdD w (Fd w gs) (dB l) (.slice A n c)) (hgs : ∀ b, some b ∈ gs → b < w.heap.size) (hl : l.length ≤ 1000000) :
    Calls Tryd.prog 34 #[.slice A n c] w fun e w' => ∃ A' n' c', e = .returned (.tuple #[.slice A' n' c', .bool (outsP l).isSome]) ∧ RdD w' (Fd w' gs) (dOuts ((outsP l).getD [])) (.slice A' n' c') ∧ Below w.heap.size w w' := by
  refine calls_ev (args := [.slice A n c]) mixed Tryd.func34 rfl (by kernel_rfl) ?_
  obtain ⟨en, enc, hrd⟩ := hr.rd Fd.lt
  have M := (St.start hgs).addD hr
  clear hr
  refine cc is_vsplit (split_any _ _ _ l _ hrd (by omega) enc) ?_
  rintro e W ⟨A4, n4, c4, rfl, o4, hb⟩
  have h4 : RdD W (Fr w W) (dLs (spL l)) (.slice A4 n4 c4) := o4.rdLs fun b q1 q2 q3 => ⟨q1, q2, q3⟩
  have en4 : n4 = (spL l).length := h4.slen
  subst en4
  replace M := M.callF1 hb h4
  clear hb h4 o4 hrd
  refine ⟨_, rfl, ?_⟩
  refine p_ne rfl rfl (fun q => ?_) (fun q => ?_)
  rotate_left
  · have q : ¬ spE l = 0 := q
    have hno := outsP_none (l := l) (fun h => q h.1)
    rw [hno]
    exact ⟨none, 0, 0, rfl, RdD.nil_ none 0, M.below⟩
  have q : spE l = 0 := q
  have hcnt := sp_cnt l
  refine p_len sls rfl ?_
  refine lp (Nat × List Value × Option Addr × Nat) (fun s W => s.1 ≤ (spL l).length ∧ (∀ x ∈ (spL l).take s.1, (decO x).2 = 0) ∧ St w gs W [] [⟨55, 3, s.2.2.1, s.1, s.2.2.2, s.2.1⟩] [.dat false (((spL l).take s.1).flatMap fun x => dOut (decO x).1) s.2.1, .dat true [dLs (spL l)] [.slice A4 (spL l).length c4]])
    (fun s => [(6, .slice s.2.2.1 s.1 s.2.2.2), (18, .slice A4 (spL l).length c4), (19, .int .i64 ((spL l).length : Nat)), (20, .int .i64 s.1)]) (fun s => (spL l).length - s.1) (0, [], none, 0) ⟨Nat.zero_le _, (fun x h => by rw [List.take_zero] at h; cases h), ?_⟩ (by repeat (first | exact trivial | refine ⟨rfl, ?_⟩)) ?_
  · have M2 := (M.nilR 55 3).addL (ds := []) (cs := []) RdL.nil_
    exact M2.fsub _ (by simp)
  clear M
  rintro ⟨i, xs, A6, c6⟩ E W ⟨hi, ha, M⟩
  dsimp only at hi ha M
  refine p_lt rfl rfl (fun hlt => ?_) (fun hge => ?_)
  rotate_left
  · have hi : i = (spL l).length := by have h : ¬ (i : Int) < ((spL l).length : Int) := hge; omega
    subst hi
    rw [List.take_of_length_le (Nat.le_refl _)] at ha M
    have hso := outsP_some q ha
    replace M := M.frzR (fr := false) (M.dt 0 rfl)
    rw [hso]
    refine ⟨A6, _, c6, rfl, ?_, M.below⟩
    have h := M.fin1 0 rfl
    show RdD W (Fd W gs) (dOuts ((spL l).map fun x => (decO x).1)) _
    unfold dOuts
    rw [List.length_map, List.flatMap_map]
    exact h
  have hil : i < (spL l).length := by have h : (i : Int) < ((spL l).length : Int) := hlt; omega
  obtain ⟨x, hx⟩ : ∃ x, (spL l)[i]? = some x := ⟨_, List.getElem?_eq_getElem hil⟩
  have hxl := (sp_bound (List.mem_of_getElem? hx)).1
  obtain ⟨b1, o1, A8, c8, rfl, M'⟩ := M.lse (M.d1 1 rfl) hx
  replace M := M'; clear M'
  refine p_at (i := i) sls rfl rfl rfl hil ?_
  refine v_load agg_b rfl (M.lc 0 rfl 0 _ rfl) ?_
  refine cc is_xDec (xDec_any x _ _ _ _ _ (M.d1 1 rfl) M.olt (by omega)) ?_
  rintro e W ⟨A9, c9, rfl, h9, hb⟩
  replace M := M.callF hb h9
  clear hb h9
  refine ⟨_, rfl, ?_⟩
  obtain ⟨D, hD⟩ : ∃ D, D = decO x := ⟨_, rfl⟩
  rw [← hD] at M
  rw [← hD]
  refine s_alloc (zOut) M al_out ?_
  clear M
  rintro g9 W M
  refine s_storeA 0 (outcs D.1 A9 c9) M rfl sz_out rfl rfl rfl (all1 rfl) rfl ?_
  clear M; rintro W M
  dsimp only [setL] at M
  refine p_ne rfl rfl (fun q2 => ?_) (fun q2 => ?_)
  rotate_left
  · have q2 : ¬ D.2 = 0 := q2
    have hno := outsP_none (l := l) (fun h => q2 (by rw [hD]; exact h.2 x (List.mem_of_getElem? hx)))
    rw [hno]
    exact ⟨none, 0, 0, rfl, RdD.nil_ none 0, M.below⟩
  have q2 : D.2 = 0 := q2
  refine v_loadN (outcs D.1 A9 c9) agg_out rfl rfl (M.run 0 rfl) ?_
  refine s_bslice (fr := true) (ds := dOut D.1) (outcs D.1 A9 c9) M slos z_out rfl (by decide) rfl (M.dt 0 rfl) rfl ?_
  clear M; rintro gq W M
  obtain ⟨news, hrd, hnd⟩ := (M.d1 0 rfl).reads Fd.lt
  replace M := M.addL hnd
  refine s_app (z := .agg zOut.toArray) (news := news) M u_ost outinfo rfl (by decide) rfl rfl hrd (hnd.ones (fun d hd => by
    rcases List.mem_cons.1 hd with rfl | hd
    · rfl
    rcases List.mem_cons.1 hd with rfl | hd
    · rfl
    rcases List.mem_singleton.1 hd with rfl
    exact trivial)) ⟨by omega, by decide⟩ ?_
  clear M hrd hnd
  rintro A34 c34 W M -
  refine p_addN (b := 1) rfl rfl (by omega) ?_
  have hx2 := (M.da 5 rfl).app (M.da 0 rfl)
  have em : ((spL l).take (i + 1)).flatMap (fun x => dOut (decO x).1) = ((spL l).take i).flatMap (fun x => dOut (decO x).1) ++ dOut D.1 := by rw [List.take_add_one, hx, List.flatMap_append, hD]; simp
  rw [← em] at hx2
  replace M := M.addL hx2
  refine ⟨(i + 1, xs ++ news, A34, c34), ⟨by dsimp only; omega, fun y hy => ?_, M.dropL.fsub _ (by simp)⟩, (by repeat (first | exact trivial | refine ⟨rfl, ?_⟩)), by dsimp only; omega⟩
  rw [List.take_add_one, hx, List.mem_append] at hy
  rcases hy with hy | hy
  · exact ha y hy
  · have : y = x := by simpa using hy
    rw [this, ← hD]; exact q2
end Go.Proofs.YtejbljopighenaaDoor
namespace Go.Proofs.YtejbljopighenaaDoor
open Go.RowKit
/-- An array's length, its elements' type, their cells. -/
def arrOf (P : Program) (t : TypeId) : Option (Nat × TypeId × Nat) :=
  match P.underlying t with
  | some (.array n e) => (P.info? e).map fun i => (n, e, i.size)
  | _ => none
section
variable {P : Program} {E : Env} {d : Option Nat} {ty : TypeId} {p : String} {af : Array Edge} {g : Option (Nat × Bool)} {x y : Operand} {t : TypeId} {k : Value → Prop} {kd : IntKind}
theorem arrOf_spec {n : Nat} {e : TypeId} {s : Nat} (h : arrOf P t = some (n, e, s)) : P.underlying t = some (.array n e) ∧ ∃ i, P.info? e = some i ∧ i.size = s := by
  unfold arrOf at h
  split at h
  · rename_i n' e' hu
    obtain ⟨i, hi, he⟩ := Option.map_eq_some_iff.1 h
    simp only [Prod.mk.injEq] at he
    obtain ⟨rfl, rfl, he⟩ := he
    exact ⟨hu, i, hi, he⟩
  · cases h
theorem p_atA {ad : Addr} {n i : Nat} {e : TypeId} {s : Nat} {j : Int} (hT : arrOf P t = some (n, e, s)) (hx : val E x = .pointer (some ad)) (hy : val E y = .int kd j) (hj : j = (i : Int)) (hi : i < n)
    (h : k (.pointer (some (ad.add (i * s))))) : VPure P E { dst := d, op := .indexAddr t x y, type := ty, pos := p, after := af, guard := g } k :=
  pp (fun w => by
    obtain ⟨hu, info, hi1, hi2⟩ := arrOf_spec hT
    subst hj
    have h0 : 0 ≤ (i : Int) ∧ (i : Int) < (n : Int) := by omega
    simp [execOp, hx, hy, Instr.indexAt, Instr.sureAddr, run_underlying hu, asIntOf, hi, sizeOf, typeInfo, hi1, hi2]) h
/-- An element of one cell of an array's value. -/
theorem p_idxA {cs : List Value} {n i : Nat} {e : TypeId} {j : Int} {v : Value} (hT : arrOf P t = some (n, e, 1)) (ha : aggOf P e = some (false, 1)) (hx : val E x = .agg cs.toArray) (hy : val E y = .int kd j) (hj : j = (i : Int)) (hi : i < n) (hv : cs[i]? = some v)
    (h : k v) : VPure P E { dst := d, op := .index t x y, type := ty, pos := p, after := af, guard := g } k :=
  pp (fun w => by
    obtain ⟨hu, info, hi1, hi2⟩ := arrOf_spec hT
    subst hj
    have ag := (aggOf_run ha w).1
    simp [execOp, hx, hy, Instr.index, run_underlying hu, asIntOf, hi, sizeOf, typeInfo, hi1, hi2, part, ag, hv]) h
theorem p_buildA {parts : Array (Nat × Operand)} {n s : Nat} {e : TypeId} {zs vs : List Value} (hT : arrOf P t = some (n, e, s)) (hz : zeroOf P t = some zs) (hv : fillL (fun i => some (i * s, s)) zs (parts.toList.map fun x => (x.1, val E x.2)) = some vs) (h : k (.agg vs.toArray)) :
    VPure P E { dst := d, op := .build t parts, type := ty, pos := p, after := af, guard := g } k := by
  refine pp (fun w => ?_) h
  obtain ⟨hu, info, hi1, hi2⟩ := arrOf_spec hT
  obtain ⟨z, hzr, hzc⟩ := zero_run hz w
  have hf := fill_eq _ _ _ _ hv
  have e1 : (parts.map fun x => (x.1, val E x.2)).toList = parts.toList.map fun x => (x.1, val E x.2) := by simp
  rw [← hzc] at hf
  have e3 : z.cells = z.cells.toList.toArray := by simp
  have hs : (sizeOf e).run P w = .ok s w := by simp [sizeOf, typeInfo, hi1, hi2]
  simp only [execOp, Instr.build, Sem.run_bind, hzr, Result.andThen_ok, run_underlying hu, hs, e1]
  rw [e3, hf]
  simp
end
end Go.Proofs.YtejbljopighenaaDoor
namespace Go.Proofs.YtejbljopighenaaDoor
open Go.RowKit
/-- Turned to the right. -/
def rotr (x n : Nat) : Nat := ((x <<< (32 - n)) % 4294967296) ||| (x >>> n)
theorem rotr_lt {x : Nat} (n : Nat) (h : x < 4294967296) : rotr x n < 4294967296 := by
  unfold rotr
  have h1 : x >>> n < 2 ^ 32 := by
    rw [Nat.shiftRight_eq_div_pow]
    exact Nat.lt_of_le_of_lt (Nat.div_le_self _ _) h
  exact Nat.or_lt_two_pow (n := 32) (Nat.mod_lt _ (by decide)) h1
theorem d_int : (Tryd.prog.underlying 3).isSome = true := by kernel_rfl
theorem d_uint : Tryd.prog.underlying 46 = some (.int .u64) := by kernel_rfl
theorem is_rot : isFn Tryd.prog 84 = true := by kernel_rfl
theorem is_turn : isFn Tryd.prog 77 = true := by kernel_rfl
set_option maxRecDepth 100000 in
theorem rot_any (x n : Nat) (w : World) (hx : x < 4294967296) (h1 : 1 ≤ n) (h2 : n ≤ 31) :
    Calls Tryd.prog 84 #[.int .u32 x, .int .i64 (-(n : Int))] w fun e w' => e = .returned (.int .u32 (rotr x n : Nat)) ∧ w = w' := by
  refine calls_ev (args := [.int .u32 x, .int .i64 (-(n : Int))]) mixed Tryd.func84 rfl (by kernel_rfl) ?_
  have hb : bits .and .u64 ((18446744073709551616 - n : Nat) : Int) ((31 : Nat) : Int) = ((32 - n : Nat) : Int) := by
    rw [u64_and_nat _ _ (by omega) (by omega), show (31 : Nat) = 2 ^ 5 - 1 by rfl, Nat.and_two_pow_sub_one_eq_mod]
    congr 1
    omega
  have hs : IntKind.u32.wrap ((x : Int) * 2 ^ (min (((32 - n : Nat) : Int)).toNat 32)) = ((x <<< (32 - n)) % 4294967296 : Nat) := by
    rw [Int.toNat_natCast, Nat.min_eq_left (by omega), IntKind.wrap_u32', Nat.shiftLeft_eq, Int.natCast_emod, Int.natCast_mul, Int.natCast_pow]
    rfl
  have hr : (x : Int).fdiv (2 ^ (min ((n : Nat) : Int).toNat 32)) = ((x >>> n : Nat) : Int) := by
    rw [Int.toNat_natCast, Nat.min_eq_left (by omega), Nat.shiftRight_eq_div_pow, Int.fdiv_eq_ediv_of_nonneg _ (Int.le_of_lt (Int.pow_pos (by decide))), Int.natCast_ediv, Int.natCast_pow]
    rfl
  have ho : bits .or .u32 (((x <<< (32 - n)) % 4294967296 : Nat) : Int) ((x >>> n : Nat) : Int) = ((rotr x n : Nat) : Int) := by
    refine u32_or_nat _ _ (Nat.mod_lt _ (by decide)) ?_
    rw [Nat.shiftRight_eq_div_pow]
    exact Nat.lt_of_le_of_lt (Nat.div_le_self _ _) hx
  refine v_cvt d_int d_uint rfl (r := ((18446744073709551616 - n : Nat) : Int)) (by rw [IntKind.wrap_u64]; omega) ?_
  refine p_and rfl rfl hb ?_
  refine p_shl rfl rfl (by omega) hs ?_
  refine p_sub rfl rfl (r := ((n : Nat) : Int)) (by rw [IntKind.wrap_u64]; omega) ?_
  refine p_shr rfl rfl (by omega) hr ?_
  refine p_or rfl rfl ho ?_
  exact ⟨rfl, rfl⟩
set_option maxRecDepth 100000 in
theorem turn_any (x n : Nat) (w : World) (hx : x < 4294967296) (h1 : 1 ≤ n) (h2 : n ≤ 31) :
    Calls Tryd.prog 77 #[.int .u32 x, .int .i64 n] w fun e w' => e = .returned (.int .u32 (rotr x n : Nat)) ∧ w = w' := by
  refine calls_ev (args := [.int .u32 x, .int .i64 n]) mixed Tryd.func77 rfl (by kernel_rfl) ?_
  refine p_neg rfl (r := -(n : Int)) (w64 (by omega) |>.trans (by omega)) ?_
  refine cc is_rot (rot_any x n _ hx h1 h2) ?_
  rintro e w' ⟨rfl, rfl⟩
  exact ⟨_, rfl, rfl, rfl⟩
end Go.Proofs.YtejbljopighenaaDoor
namespace Go.Proofs.YtejbljopighenaaDoor
def byt (b : List UInt8) (k : Nat) : Nat := (b.getD k 0).toNat
theorem byt_lt (b : List UInt8) (k : Nat) : byt b k < 256 := (b.getD k 0).toNat_lt
/-- Four bytes, the highest first. -/
def wordB (b : List UInt8) (i : Nat) : Nat := (((byt b (4 * i) <<< 24) ||| (byt b (4 * i + 1) <<< 16)) ||| (byt b (4 * i + 2) <<< 8)) ||| byt b (4 * i + 3)
def sg0 (x : Nat) : Nat := (rotr x 7 ^^^ rotr x 18) ^^^ (x >>> 3)
def sg1 (x : Nat) : Nat := (rotr x 17 ^^^ rotr x 19) ^^^ (x >>> 10)
def nextW (w : List Nat) (i : Nat) : Nat := (((sg1 (w.getD (i - 2) 0) + w.getD (i - 7) 0) % 4294967296 + sg0 (w.getD (i - 15) 0)) % 4294967296 + w.getD (i - 16) 0) % 4294967296
/-- The first i of the words of 64 bytes. -/
def wsF (b : List UInt8) : Nat → List Nat
  | 0 => []
  | i + 1 => wsF b i ++ [if i < 16 then wordB b i else nextW (wsF b i) i]
theorem wsF_len (b : List UInt8) : ∀ i, (wsF b i).length = i
  | 0 => rfl
  | i + 1 => by unfold wsF; rw [List.length_append, wsF_len b i]; rfl
theorem shl_lt {x n : Nat} (h : x < 256) (hn : n ≤ 24) : x <<< n < 4294967296 := by
  rw [Nat.shiftLeft_eq]
  have : 2 ^ n ≤ 2 ^ 24 := Nat.pow_le_pow_right (by decide) hn
  have h2 : x * 2 ^ n ≤ 255 * 2 ^ 24 := Nat.mul_le_mul (by omega) this
  exact Nat.lt_of_le_of_lt h2 (by decide)
theorem or_lt {x y : Nat} (hx : x < 4294967296) (hy : y < 4294967296) : x ||| y < 4294967296 := Nat.or_lt_two_pow (n := 32) hx hy
theorem xor_lt {x y : Nat} (hx : x < 4294967296) (hy : y < 4294967296) : x ^^^ y < 4294967296 := Nat.xor_lt_two_pow (n := 32) hx hy
theorem and_lt {x y : Nat} (hx : x < 4294967296) : x &&& y < 4294967296 := Nat.lt_of_le_of_lt Nat.and_le_left hx
theorem shr_lt {x : Nat} (n : Nat) (hx : x < 4294967296) : x >>> n < 4294967296 := by
  rw [Nat.shiftRight_eq_div_pow]; exact Nat.lt_of_le_of_lt (Nat.div_le_self _ _) hx
theorem wordB_lt (b : List UInt8) (i : Nat) : wordB b i < 4294967296 :=
  or_lt (or_lt (or_lt (shl_lt (byt_lt _ _) (by decide)) (shl_lt (byt_lt _ _) (by decide))) (shl_lt (byt_lt _ _) (by decide))) (Nat.lt_trans (byt_lt _ _) (by decide))
theorem wsF_lt (b : List UInt8) : ∀ (i : Nat), ∀ x ∈ wsF b i, x < 4294967296
  | 0, x, h => by cases h
  | i + 1, x, h => by
    unfold wsF at h
    rcases List.mem_append.1 h with h | h
    · exact wsF_lt b i x h
    · simp only [List.mem_singleton] at h
      subst h
      split
      · exact wordB_lt b i
      · exact Nat.mod_lt _ (by decide)
theorem getD_lt {l : List Nat} (h : ∀ x ∈ l, x < 4294967296) (j : Nat) : l.getD j 0 < 4294967296 := by
  rw [List.getD_eq_getElem?_getD]
  cases hx : l[j]? with
  | none => decide
  | some x => exact h x (List.mem_of_getElem? hx)
def words (b : List UInt8) : List Nat := wsF b 64
/-- A cell of a word. -/
def cu (n : Nat) : Value := .int .u32 (n : Int)
theorem cu_set {L : List Nat} {i : Nat} (hL : L.length = i) (hi : i < 64) (v : Nat) : (L.map cu ++ List.replicate (64 - i) (cu 0)).set i (cu v) = (L ++ [v]).map cu ++ List.replicate (64 - (i + 1)) (cu 0) := by
  rw [List.set_append_right _ _ (by simp [hL]), List.length_map, hL, Nat.sub_self, show 64 - i = (64 - (i + 1)) + 1 by omega, List.replicate_succ, List.set_cons_zero, List.map_append, List.append_assoc]
  rfl
theorem cu_get {L : List Nat} {R : List Value} {j : Nat} (hj : j < L.length) : (L.map cu ++ R)[j]? = some (cu (L.getD j 0)) := by
  rw [List.getElem?_append_left (by simpa using hj), List.getElem?_map, List.getD_eq_getElem?_getD, List.getElem?_eq_getElem hj]; rfl
end Go.Proofs.YtejbljopighenaaDoor
namespace Go.Proofs.YtejbljopighenaaDoor
open Go.RowKit
section
variable {P : Program} {E : Env} {d : Option Nat} {ty : TypeId} {p : String} {af : Array Edge} {g : Option (Nat × Bool)} {x y : Operand} {t : TypeId} {k : Value → Prop} {kd : IntKind}
/-- The place of an element in a block. -/
theorem p_atB {b o q : Nat} {n i : Nat} {e : TypeId} {s : Nat} {j : Int} (hT : arrOf P t = some (n, e, s)) (hx : val E x = .pointer (some ⟨b, o, none⟩)) (hy : val E y = .int kd j) (hj : j = (i : Int)) (hi : i < n) (hq : o + i * s = q)
    (h : k (.pointer (some ⟨b, q, none⟩))) : VPure P E { dst := d, op := .indexAddr t x y, type := ty, pos := p, after := af, guard := g } k :=
  p_atA hT hx hy hj hi (by rw [Addr.add_lit, hq]; exact h)
end
theorem Rd.get {w : World} {B n : Nat} {ad : Addr} {l : List UInt8} (h : Rd w B (some ad) n l) {j : Nat} (hj : j < n) : w.cell? (ad.add (j * 1)) = some (.int .u8 (byt l j : Nat)) := by
  obtain ⟨b, off, e, hc⟩ := h.at_ hj
  injection e with e
  subst e
  rw [Nat.mul_one, Addr.add_lit]; exact hc
theorem agg_u32 : aggOf Tryd.prog 104 = some (false, 1) := by kernel_rfl
theorem agg_by : aggOf Tryd.prog 5 = some (false, 1) := by kernel_rfl
theorem sz_u32 : (Tryd.prog.info? 104).map (·.size) = some 1 := by kernel_rfl
theorem u_byt : (Tryd.prog.underlying 5).isSome = true := by kernel_rfl
theorem u_u32 : Tryd.prog.underlying 104 = some (.int .u32) := by kernel_rfl
theorem sl_by : slOf Tryd.prog 22 = some (5, 1) := by kernel_rfl
theorem shl32 {x n : Nat} (h : x < 256) (hn : n ≤ 24) : IntKind.u32.wrap ((x : Int) * 2 ^ (min ((n : Nat) : Int).toNat 32)) = ((x <<< n : Nat) : Int) := by
  have := shl_lt h hn
  rw [Nat.shiftLeft_eq] at this ⊢
  rw [Int.toNat_natCast, Nat.min_eq_left (by omega), IntKind.wrap_u32']
  have e : ((x * 2 ^ n : Nat) : Int) = (x : Int) * 2 ^ n := by rw [Int.natCast_mul, Int.natCast_pow]; rfl
  rw [← e]; omega
theorem add32 (x y : Nat) : IntKind.u32.wrap ((x : Int) + (y : Int)) = (((x + y) % 4294967296 : Nat) : Int) := by
  rw [IntKind.wrap_u32']; omega
theorem shr32 {x n : Nat} (hn : n ≤ 32) : (x : Int).fdiv (2 ^ (min ((n : Nat) : Int).toNat 32)) = ((x >>> n : Nat) : Int) := by
  rw [Int.toNat_natCast, Nat.min_eq_left (by omega), Nat.shiftRight_eq_div_pow, Int.fdiv_eq_ediv_of_nonneg _ (Int.le_of_lt (Int.pow_pos (by decide))), Int.natCast_ediv, Int.natCast_pow]
  rfl
end Go.Proofs.YtejbljopighenaaDoor
namespace Go.Proofs.YtejbljopighenaaDoor
open Go.RowKit
theorem ar64 : arrOf Tryd.prog 132 = some (64, 104, 1) := by kernel_rfl
theorem agg_a64 : aggOf Tryd.prog 132 = some (true, 64) := by kernel_rfl
theorem sz_a64 : (Tryd.prog.info? 132).map (·.size) = some 64 := by kernel_rfl
theorem al_a64 : (Tryd.prog.info? 132).map (fun i => i.zero.map fun z => z.cells.toList) = some (some (List.replicate 64 (cu 0))) := by kernel_rfl
set_option maxRecDepth 100000 in
theorem words_any (A : Option Addr) (c B : Nat) (b : List UInt8) (w : World) (hr : Rd w B A 64 b) (hB : B ≤ w.heap.size) :
    Calls Tryd.prog 76 #[.slice A 64 c] w fun e w' => e = .returned (.agg ((words b).map cu).toArray) ∧ Below w.heap.size w w' := by
  refine calls_ev (args := [.slice A 64 c]) mixed Tryd.func76 rfl (by kernel_rfl) ?_
  refine v_allocB _ al_a64 ?_
  rintro g W hg hB0 hb0 hsz
  have hr0 : Rd W B A 64 b := hr.below (hb0.mono (by omega))
  have hBel : Below w.heap.size w W := by rw [← hg]; exact hb0
  refine lp Nat (fun i W => i ≤ 64 ∧ Below w.heap.size w W ∧ Blk W g 132 ((wsF b i).map cu ++ List.replicate (64 - i) (cu 0))) (fun i => [(0, .slice A 64 c), (2, .pointer (some ⟨g, 0, none⟩)), (8, .int .i64 i)]) (fun i => 64 - i) 0 ⟨by decide, hBel, hB0⟩ ⟨rfl, rfl, rfl, trivial⟩ ?_
  rintro i E0 W1 ⟨hi, hb1, hB1⟩
  have hs1 := hb1.size
  refine p_lt rfl rfl (fun h => ?_) (fun h => ?_)
  · have hi64 : i < 64 := by omega
    have hr1 : Rd W1 B A 64 b := hr.below (hb1.mono hB)
    refine p_lt rfl rfl (fun h16 => ?_) (fun h16 => ?_)
    · obtain ⟨bb, off, rfl, hbB, _⟩ := hr1.cells (by decide)
      refine dr (fun W => Rd W B (some ⟨bb, off, none⟩) 64 b) [(0, true), (1, true), (2, true), (3, true), (4, true), (5, true), (6, true), (7, true), (8, true), (9, true), (10, true), (11, true), (12, true), (13, true), (14, true), (15, true), (16, true), (17, true), (18, true), (19, true), (20, true), (21, true), (22, true), (23, true), (24, true), (25, true), (26, true), (27, true), (28, true), (29, true), (30, true), (31, true), (32, true), (33, true), (34, true), (35, false)] (by kernel_rfl) hr1.drew ?_
      refine p_mul rfl rfl (r := ((4 * i : Nat) : Int)) (w64 (by omega) |>.trans (by omega)) ?_
      refine p_at (i := 4 * i) sl_by rfl rfl rfl (by omega) ?_
      refine t_load agg_by rfl (fun W h => Rd.get h (by omega)) ?_
      refine t_cvt u_byt u_u32 rfl (wu32 (by have := byt_lt b (4 * i); omega)) ?_
      refine p_shl rfl rfl (by decide) (shl32 (n := 24) (byt_lt b (4 * i)) (by decide)) ?_
      refine p_mul rfl rfl (r := ((4 * i : Nat) : Int)) (w64 (by omega) |>.trans (by omega)) ?_
      refine p_add rfl rfl (r := ((4 * i + 1 : Nat) : Int)) (w64 (by omega) |>.trans (by omega)) ?_
      refine p_at (i := 4 * i + 1) sl_by rfl rfl rfl (by omega) ?_
      refine t_load agg_by rfl (fun W h => Rd.get h (by omega)) ?_
      refine t_cvt u_byt u_u32 rfl (wu32 (by have := byt_lt b (4 * i + 1); omega)) ?_
      refine p_shl rfl rfl (by decide) (shl32 (n := 16) (byt_lt b (4 * i + 1)) (by decide)) ?_
      refine p_or rfl rfl (u32_or_nat _ _ (shl_lt (byt_lt _ _) (by decide)) (shl_lt (byt_lt _ _) (by decide))) ?_
      refine p_mul rfl rfl (r := ((4 * i : Nat) : Int)) (w64 (by omega) |>.trans (by omega)) ?_
      refine p_add rfl rfl (r := ((4 * i + 2 : Nat) : Int)) (w64 (by omega) |>.trans (by omega)) ?_
      refine p_at (i := 4 * i + 2) sl_by rfl rfl rfl (by omega) ?_
      refine t_load agg_by rfl (fun W h => Rd.get h (by omega)) ?_
      refine t_cvt u_byt u_u32 rfl (wu32 (by have := byt_lt b (4 * i + 2); omega)) ?_
      refine p_shl rfl rfl (by decide) (shl32 (n := 8) (byt_lt b (4 * i + 2)) (by decide)) ?_
      refine p_or rfl rfl (u32_or_nat _ _ (or_lt (shl_lt (byt_lt _ _) (by decide)) (shl_lt (byt_lt _ _) (by decide))) (shl_lt (byt_lt _ _) (by decide))) ?_
      refine p_mul rfl rfl (r := ((4 * i : Nat) : Int)) (w64 (by omega) |>.trans (by omega)) ?_
      refine p_add rfl rfl (r := ((4 * i + 3 : Nat) : Int)) (w64 (by omega) |>.trans (by omega)) ?_
      refine p_at (i := 4 * i + 3) sl_by rfl rfl rfl (by omega) ?_
      refine t_load agg_by rfl (fun W h => Rd.get h (by omega)) ?_
      refine t_cvt u_byt u_u32 rfl (wu32 (by have := byt_lt b (4 * i + 3); omega)) ?_
      refine p_or rfl rfl (u32_or_nat _ _ (or_lt (or_lt (shl_lt (byt_lt _ _) (by decide)) (shl_lt (byt_lt _ _) (by decide))) (shl_lt (byt_lt _ _) (by decide))) (Nat.lt_trans (byt_lt _ _) (by decide))) ?_
      refine p_atB (i := i) (q := i) ar64 rfl rfl rfl hi64 (by omega) ?_
      refine v_set (cu (wordB b i)) sz_u32 hB1.drew rfl rfl rfl (by simp [wsF_len]; omega) ?_
      rintro W2 hB2 hg2 hs2
      rw [cu_set (wsF_len b i) hi64] at hB2
      have hr2 : Rd W2 B (some ⟨bb, off, none⟩) 64 b := hr1.drew.grown hg2 (by show B ≤ W1.heap.size; omega) (fun k hk => by injection hk with hk; omega)
      refine ⟨hr2, ?_⟩
      refine p_add rfl rfl (r := ((i + 1 : Nat) : Int)) (w64 (by omega) |>.trans (by omega)) ?_
      refine ⟨i + 1, ⟨by omega, hb1.drew.grown hg2 hs1 (fun k hk => by injection hk with hk; omega), ?_⟩, ⟨rfl, rfl, rfl, trivial⟩, by omega⟩
      have e : wsF b (i + 1) = wsF b i ++ [wordB b i] := by show wsF b i ++ [_] = _; rw [if_pos (by omega)]
      rw [e]; exact hB2
    · have hl := wsF_len b i
      have hlt := getD_lt (wsF_lt b i)
      have cell : ∀ {W : World}, Blk W g 132 ((wsF b i).map cu ++ List.replicate (64 - i) (cu 0)) → ∀ j, j < i → W.cell? ⟨g, j, none⟩ = some (cu ((wsF b i).getD j 0)) := fun h j hj => h.at_ (cu_get (by omega))
      refine dr (fun W => ∀ j, j < i → W.cell? ⟨g, j, none⟩ = some (cu ((wsF b i).getD j 0))) [(0, true), (1, true), (2, true), (3, true), (4, true), (5, true), (6, true), (7, true), (8, true), (9, true)] (by kernel_rfl) (cell hB1.drew) ?_
      refine p_sub rfl rfl (r := ((i - 15 : Nat) : Int)) (w64 (by omega) |>.trans (by omega)) ?_
      refine p_atB (i := i - 15) (q := i - 15) ar64 rfl rfl rfl (by omega) (by omega) ?_
      refine t_load agg_u32 rfl (fun W h => h (i - 15) (by omega)) ?_
      refine p_sub rfl rfl (r := ((i - 2 : Nat) : Int)) (w64 (by omega) |>.trans (by omega)) ?_
      refine p_atB (i := i - 2) (q := i - 2) ar64 rfl rfl rfl (by omega) (by omega) ?_
      refine t_load agg_u32 rfl (fun W h => h (i - 2) (by omega)) ?_
      obtain ⟨x, hx⟩ : ∃ x, x = (wsF b i).getD (i - 15) 0 := ⟨_, rfl⟩
      obtain ⟨y, hy⟩ : ∃ y, y = (wsF b i).getD (i - 2) 0 := ⟨_, rfl⟩
      have hxl := hlt (i - 15)
      have hyl := hlt (i - 2)
      refine cc is_turn (turn_any ((wsF b i).getD (i - 15) 0) 7 _ hxl (by decide) (by decide)) ?_
      rintro e w' ⟨rfl, rfl⟩
      refine ⟨_, rfl, ?_⟩
      refine cc is_turn (turn_any ((wsF b i).getD (i - 15) 0) 18 _ hxl (by decide) (by decide)) ?_
      rintro e w' ⟨rfl, rfl⟩
      refine ⟨_, rfl, ?_⟩
      refine p_xor rfl rfl (u32_xor_nat _ _ (rotr_lt _ hxl) (rotr_lt _ hxl)) ?_
      refine p_shr rfl rfl (by decide) (shr32 (n := 3) (x := (wsF b i).getD (i - 15) 0) (by decide)) ?_
      refine p_xor rfl rfl (u32_xor_nat _ _ (xor_lt (rotr_lt _ hxl) (rotr_lt _ hxl)) (shr_lt _ hxl)) ?_
      refine cc is_turn (turn_any ((wsF b i).getD (i - 2) 0) 17 _ hyl (by decide) (by decide)) ?_
      rintro e w' ⟨rfl, rfl⟩
      refine ⟨_, rfl, ?_⟩
      refine cc is_turn (turn_any ((wsF b i).getD (i - 2) 0) 19 _ hyl (by decide) (by decide)) ?_
      rintro e w' ⟨rfl, rfl⟩
      refine ⟨_, rfl, ?_⟩
      refine p_xor rfl rfl (u32_xor_nat _ _ (rotr_lt _ hyl) (rotr_lt _ hyl)) ?_
      refine p_shr rfl rfl (by decide) (shr32 (n := 10) (x := (wsF b i).getD (i - 2) 0) (by decide)) ?_
      refine p_xor rfl rfl (u32_xor_nat _ _ (xor_lt (rotr_lt _ hyl) (rotr_lt _ hyl)) (shr_lt _ hyl)) ?_
      have cellD := cell hB1.drew.drew
      refine dr (fun W => ∀ j, j < i → W.cell? ⟨g, j, none⟩ = some (cu ((wsF b i).getD j 0))) [(0, true), (1, true), (2, true), (3, true), (4, true), (5, true), (6, true), (7, true), (8, true), (9, true), (10, true), (11, true), (12, true), (13, true), (14, true), (15, false)] (by kernel_rfl) cellD ?_
      refine p_sub rfl rfl (r := ((i - 7 : Nat) : Int)) (w64 (by omega) |>.trans (by omega)) ?_
      refine p_atB (i := i - 7) (q := i - 7) ar64 rfl rfl rfl (by omega) (by omega) ?_
      refine t_load agg_u32 rfl (fun W h => h (i - 7) (by omega)) ?_
      refine p_add rfl rfl (add32 (sg1 ((wsF b i).getD (i - 2) 0)) ((wsF b i).getD (i - 7) 0)) ?_
      refine p_add rfl rfl (add32 _ (sg0 ((wsF b i).getD (i - 15) 0))) ?_
      refine p_sub rfl rfl (r := ((i - 16 : Nat) : Int)) (w64 (by omega) |>.trans (by omega)) ?_
      refine p_atB (i := i - 16) (q := i - 16) ar64 rfl rfl rfl (by omega) (by omega) ?_
      refine t_load agg_u32 rfl (fun W h => h (i - 16) (by omega)) ?_
      refine p_add rfl rfl (add32 _ ((wsF b i).getD (i - 16) 0)) ?_
      refine p_atB (i := i) (q := i) ar64 rfl rfl rfl hi64 (by omega) ?_
      refine v_set (cu (nextW (wsF b i) i)) sz_u32 hB1.drew.drew rfl rfl rfl (by simp [wsF_len]; omega) ?_
      rintro W2 hB2 hg2 hs2
      rw [cu_set (wsF_len b i) hi64] at hB2
      have cell2 : ∀ j, j < i → W2.cell? ⟨g, j, none⟩ = some (cu ((wsF b i).getD j 0)) := fun j hj => hB2.at_ (by
        rw [cu_get (by simp [wsF_len]; omega), List.getD_eq_getElem?_getD, List.getD_eq_getElem?_getD, List.getElem?_append_left (by omega)])
      refine ⟨cell2, ?_⟩
      refine p_add rfl rfl (r := ((i + 1 : Nat) : Int)) (w64 (by omega) |>.trans (by omega)) ?_
      refine ⟨i + 1, ⟨by omega, hb1.drew.drew.grown hg2 hs1 (fun k hk => by injection hk with hk; omega), ?_⟩, ⟨rfl, rfl, rfl, trivial⟩, by omega⟩
      have e : wsF b (i + 1) = wsF b i ++ [nextW (wsF b i) i] := by show wsF b i ++ [_] = _; rw [if_neg (by omega)]
      rw [e]; exact hB2
  · have hi : i = 64 := by omega
    subst hi
    have hl : ((words b).map cu).length = 64 := by rw [List.length_map]; exact wsF_len b 64
    have hB : Blk W1 g 132 ((words b).map cu) := by simpa [words] using hB1
    refine v_loadN ((words b).map cu) agg_a64 rfl hl (hB.run 0 _ (fun j v h => by rw [Nat.zero_add]; exact h)) ?_
    refine v_storeA ((words b).map cu) sz_a64 rfl rfl hl (fun u hu => by obtain ⟨x, _, rfl⟩ := List.mem_map.1 hu; rfl) hB hl ?_
    rintro W2 hB2 hg2 hs2
    exact ⟨⟨_, _, rfl, run_loadN agg_a64 ((words b).map cu) hl (hB2.run 0 _ (fun j v h => by rw [Nat.zero_add]; exact h)), ⟨rfl, hb1.grown hg2 hs1 (fun k hk => by injection hk with hk; omega)⟩⟩⟩
end Go.Proofs.YtejbljopighenaaDoor
namespace Go.Proofs.YtejbljopighenaaDoor
/-- Eight words. -/
structure H8 where
  a : Nat
  b : Nat
  c : Nat
  d : Nat
  e : Nat
  f : Nat
  g : Nat
  h : Nat
def hc (v : H8) : List Value := [cu v.a, cu v.b, cu v.c, cu v.d, cu v.e, cu v.f, cu v.g, cu v.h]
structure H8.Ok (v : H8) : Prop where
  a : v.a < 4294967296
  b : v.b < 4294967296
  c : v.c < 4294967296
  d : v.d < 4294967296
  e : v.e < 4294967296
  f : v.f < 4294967296
  g : v.g < 4294967296
  h : v.h < 4294967296
def bs1 (e : Nat) : Nat := (rotr e 6 ^^^ rotr e 11) ^^^ rotr e 25
def bs0 (a : Nat) : Nat := (rotr a 2 ^^^ rotr a 13) ^^^ rotr a 22
def chs (e f g : Nat) : Nat := (e &&& f) ^^^ ((4294967295 ^^^ e) &&& g)
def maj (a b c : Nat) : Nat := ((a &&& b) ^^^ (a &&& c)) ^^^ (b &&& c)
def tt1 (v : H8) (k w : Nat) : Nat := ((((v.h + bs1 v.e) % 4294967296 + chs v.e v.f v.g) % 4294967296 + k) % 4294967296 + w) % 4294967296
def tt2 (v : H8) : Nat := (bs0 v.a + maj v.a v.b v.c) % 4294967296
def rnd (v : H8) (k w : Nat) : H8 := ⟨(tt1 v k w + tt2 v) % 4294967296, v.a, v.b, v.c, (v.d + tt1 v k w) % 4294967296, v.e, v.f, v.g⟩
theorem rnd_ok {v : H8} (h : v.Ok) (k w : Nat) : (rnd v k w).Ok := ⟨Nat.mod_lt _ (by decide), h.a, h.b, h.c, Nat.mod_lt _ (by decide), h.e, h.f, h.g⟩
/-- i rounds. -/
def rndF (ks ws : List Nat) (v : H8) : Nat → H8
  | 0 => v
  | i + 1 => rnd (rndF ks ws v i) (ks.getD i 0) (ws.getD i 0)
theorem rndF_ok (ks ws : List Nat) {v : H8} (h : v.Ok) : ∀ i, (rndF ks ws v i).Ok
  | 0 => h
  | i + 1 => rnd_ok (rndF_ok ks ws h i) _ _
def add8 (x y : H8) : H8 := ⟨(x.a + y.a) % 4294967296, (x.b + y.b) % 4294967296, (x.c + y.c) % 4294967296, (x.d + y.d) % 4294967296, (x.e + y.e) % 4294967296, (x.f + y.f) % 4294967296, (x.g + y.g) % 4294967296, (x.h + y.h) % 4294967296⟩
theorem add8_ok (x y : H8) : (add8 x y).Ok := ⟨Nat.mod_lt _ (by decide), Nat.mod_lt _ (by decide), Nat.mod_lt _ (by decide), Nat.mod_lt _ (by decide), Nat.mod_lt _ (by decide), Nat.mod_lt _ (by decide), Nat.mod_lt _ (by decide), Nat.mod_lt _ (by decide)⟩
def begin8 : H8 := ⟨1779033703, 3144134277, 1013904242, 2773480762, 1359893119, 2600822924, 528734635, 1541459225⟩
def roots : List Nat := [0x428a2f98, 0x71374491, 0xb5c0fbcf, 0xe9b5dba5, 0x3956c25b, 0x59f111f1, 0x923f82a4, 0xab1c5ed5,
  0xd807aa98, 0x12835b01, 0x243185be, 0x550c7dc3, 0x72be5d74, 0x80deb1fe, 0x9bdc06a7, 0xc19bf174,
  0xe49b69c1, 0xefbe4786, 0x0fc19dc6, 0x240ca1cc, 0x2de92c6f, 0x4a7484aa, 0x5cb0a9dc, 0x76f988da,
  0x983e5152, 0xa831c66d, 0xb00327c8, 0xbf597fc7, 0xc6e00bf3, 0xd5a79147, 0x06ca6351, 0x14292967,
  0x27b70a85, 0x2e1b2138, 0x4d2c6dfc, 0x53380d13, 0x650a7354, 0x766a0abb, 0x81c2c92e, 0x92722c85,
  0xa2bfe8a1, 0xa81a664b, 0xc24b8b70, 0xc76c51a3, 0xd192e819, 0xd6990624, 0xf40e3585, 0x106aa070,
  0x19a4c116, 0x1e376c08, 0x2748774c, 0x34b0bcb5, 0x391c0cb3, 0x4ed8aa4a, 0x5b9cca4f, 0x682e6ff3,
  0x748f82ee, 0x78a5636f, 0x84c87814, 0x8cc70208, 0x90befffa, 0xa4506ceb, 0xbef9a3f7, 0xc67178f2]
/-- What 64 bytes make of eight words. -/
def take8 (h : H8) (b : List UInt8) : H8 := add8 h (rndF roots (words b) h 64)
/-- What all whole blocks make; n blocks. -/
def blocksF (h : H8) : Nat → List UInt8 → H8
  | 0, _ => h
  | n + 1, b => blocksF (take8 h (b.take 64)) n (b.drop 64)
def put4 (x : Nat) : List UInt8 := [UInt8.ofNat (x >>> 24), UInt8.ofNat (x >>> 16), UInt8.ofNat (x >>> 8), UInt8.ofNat x]
def out8 (h : H8) : List UInt8 := put4 h.a ++ (put4 h.b ++ (put4 h.c ++ (put4 h.d ++ (put4 h.e ++ (put4 h.f ++ (put4 h.g ++ put4 h.h))))))
/-- What is put behind so many bytes. -/
def padL (n : Nat) : List UInt8 := (128 : UInt8) :: (List.replicate ((119 - n % 64) % 64) (0 : UInt8) ++ [UInt8.ofNat ((8 * n) >>> 56), UInt8.ofNat ((8 * n) >>> 48), UInt8.ofNat ((8 * n) >>> 40), UInt8.ofNat ((8 * n) >>> 32), UInt8.ofNat ((8 * n) >>> 24), UInt8.ofNat ((8 * n) >>> 16), UInt8.ofNat ((8 * n) >>> 8), UInt8.ofNat (8 * n)])
def sha (b : List UInt8) : List UInt8 := out8 (blocksF begin8 ((b ++ padL b.length).length / 64) (b ++ padL b.length))
end Go.Proofs.YtejbljopighenaaDoor
namespace Go.Proofs.YtejbljopighenaaDoor
open Go.RowKit
theorem ar8 : arrOf Tryd.prog 118 = some (8, 104, 1) := by kernel_rfl
theorem agg_a8 : aggOf Tryd.prog 118 = some (true, 8) := by kernel_rfl
theorem sz_a8 : (Tryd.prog.info? 118).map (·.size) = some 8 := by kernel_rfl
theorem al_a8 : (Tryd.prog.info? 118).map (fun i => i.zero.map fun z => z.cells.toList) = some (some (List.replicate 8 (cu 0))) := by kernel_rfl
theorem zero_a8 : zeroOf Tryd.prog 118 = some (List.replicate 8 (cu 0)) := by kernel_rfl
theorem fd0 : fieldOff Tryd.prog 120 0 = some 0 := by kernel_rfl
theorem fd1 : fieldOff Tryd.prog 120 1 = some 8 := by kernel_rfl
theorem fd2 : fieldOff Tryd.prog 120 2 = some 9 := by kernel_rfl
theorem is_words : isFn Tryd.prog 76 = true := by kernel_rfl
theorem is_take : isFn Tryd.prog 66 = true := by kernel_rfl
def rootsAt (w : World) : Prop := ∀ j, j < 64 → w.cell? ⟨1, j, none⟩ = some (cu (roots.getD j 0))
/-- The first i words are added. -/
def addF (x y : H8) (i : Nat) : H8 := ⟨if 0 < i then (x.a + y.a) % 4294967296 else x.a, if 1 < i then (x.b + y.b) % 4294967296 else x.b, if 2 < i then (x.c + y.c) % 4294967296 else x.c, if 3 < i then (x.d + y.d) % 4294967296 else x.d, if 4 < i then (x.e + y.e) % 4294967296 else x.e, if 5 < i then (x.f + y.f) % 4294967296 else x.f, if 6 < i then (x.g + y.g) % 4294967296 else x.g, if 7 < i then (x.h + y.h) % 4294967296 else x.h⟩
theorem add8_eq (x y : H8) : add8 x y = addF x y 8 := rfl
set_option maxRecDepth 100000 in
theorem take_any (g c : Nat) (A : Option Addr) (b : List UInt8) (h : H8) (R : List Value) (w : World) (ho : h.Ok) (hr : Rd w w.heap.size A 64 b) (hB : Blk w g 120 (hc h ++ R)) (hR : rootsAt w) (hg : 2 ≤ g) :
    Calls Tryd.prog 66 #[.pointer (some ⟨g, 0, none⟩), .slice A 64 c] w fun e w' => (∃ v, e = .returned v) ∧ Blk w' g 120 (hc (take8 h b) ++ R) ∧ w.grownBy w' (some g) := by
  refine calls_ev (args := [.pointer (some ⟨g, 0, none⟩), .slice A 64 c]) mixed Tryd.func66 rfl (by kernel_rfl) ?_
  have hgl := hB.lt
  refine p_nil rfl ?_
  refine p_fld fd0 rfl ?_
  refine v_loadN (hc h) agg_a8 rfl rfl (hB.run 0 _ (fun j v hj => by rw [Nat.zero_add, List.getElem?_append_left (List.getElem?_eq_some_iff.1 hj).1]; exact hj)) ?_
  refine v_allocB _ al_a8 ?_
  rintro g1 W1 hg1 hB1 hb1 hs1
  refine v_storeA (hc h) sz_a8 rfl rfl rfl (by intro u hu; simp [hc] at hu; rcases hu with rfl | rfl | rfl | rfl | rfl | rfl | rfl | rfl <;> rfl) hB1 rfl ?_
  rintro W2 hB2 hg2 hs2
  have b2 : Below w.heap.size w W2 := by rw [← hg1] at *; exact hb1.grown hg2 (by omega) (fun k hk => by injection hk with hk; omega)
  refine cc is_words (words_any A c w.heap.size b _ (hr.below b2) b2.size) ?_
  rintro e W3 ⟨rfl, b3⟩
  refine ⟨_, rfl, ?_⟩
  have hs3 := b3.size
  have hB3 := hB2.below b3
  replace b2 := b2.trans (b3.mono b2.size)
  have wl : (words b).length = 64 := wsF_len b 64
  have wlt := getD_lt (wsF_lt b 64)
  replace wlt : ∀ j, (words b).getD j 0 < 4294967296 := wlt
  refine lp Nat (fun i W => i ≤ 64 ∧ Below w.heap.size w W ∧ Blk W g1 118 (hc (rndF roots (words b) h i))) (fun i => [(0, .pointer (some ⟨g, 0, none⟩)), (4, .pointer (some ⟨g1, 0, none⟩)), (17, .agg ((words b).map cu).toArray), (18, .int .i64 i)]) (fun i => 64 - i) 0 ⟨by decide, b2, hB3⟩ ⟨rfl, rfl, rfl, rfl, trivial⟩ ?_
  rintro i E0 W4 ⟨hi, b4, hB4⟩
  have hs4 := b4.size
  have hok := rndF_ok roots (words b) ho i
  refine p_lt rfl rfl (fun hlt => ?_) (fun hge => ?_)
  · have hi64 : i < 64 := by omega
    obtain ⟨v, hv⟩ : ∃ v, v = rndF roots (words b) h i := ⟨_, rfl⟩
    rw [← hv] at hB4 hok
    have hR4 : rootsAt W4 := fun j hj => (b4.cell (p := ⟨1, j, none⟩) (by show 1 < _; omega)).trans (hR j hj)
    have hwv : ((words b).map cu)[i]? = some (cu ((words b).getD i 0)) := by
      have := cu_get (L := words b) (R := []) (j := i) (by omega)
      rwa [List.append_nil] at this
    refine p_idxA (i := i) ar64 agg_u32 rfl rfl rfl hi64 hwv ?_
    refine dr (fun W => Blk W g1 118 (hc v)) [(0, true), (1, true), (2, true), (3, true), (4, true), (5, true)] (by kernel_rfl) hB4.drew ?_
    refine p_atB (i := 0) (q := 0) ar8 rfl rfl rfl (by decide) rfl ?_
    refine t_load agg_u32 rfl (fun W h => Blk.at_ h rfl) ?_
    refine p_atB (i := 4) (q := 4) ar8 rfl rfl rfl (by decide) rfl ?_
    refine t_load agg_u32 rfl (fun W h => Blk.at_ h rfl) ?_
    refine dr (fun W => Blk W g1 118 (hc v) ∧ rootsAt W) [(0, true), (1, true), (2, true), (4, true), (7, true), (11, true), (12, true), (13, true), (14, true), (15, true), (16, true), (17, true), (18, true), (19, true), (20, true), (22, true), (23, true), (24, true), (26, true), (3, false), (5, false), (6, true), (8, false), (9, true), (10, true), (21, true), (25, true), (27, true), (28, true)] (by kernel_rfl) ⟨hB4.drew.drew, hR4⟩ ?_
    refine p_atB (i := 7) (q := 7) ar8 rfl rfl rfl (by decide) rfl ?_
    refine t_load agg_u32 rfl (fun W h => Blk.at_ h.1 rfl) ?_
    refine p_atB (i := 5) (q := 5) ar8 rfl rfl rfl (by decide) rfl ?_
    refine t_load agg_u32 rfl (fun W h => Blk.at_ h.1 rfl) ?_
    refine p_and rfl rfl (u32_and_nat v.e v.f hok.e hok.f) ?_
    refine p_cpl rfl (u32_xor_nat 4294967295 v.e (by decide) hok.e) ?_
    refine p_atB (i := 6) (q := 6) ar8 rfl rfl rfl (by decide) rfl ?_
    refine t_load agg_u32 rfl (fun W h => Blk.at_ h.1 rfl) ?_
    refine p_and rfl rfl (u32_and_nat (4294967295 ^^^ v.e) v.g (xor_lt (by decide) hok.e) hok.g) ?_
    refine p_xor rfl rfl (u32_xor_nat _ _ (and_lt hok.e) (and_lt (xor_lt (by decide) hok.e))) ?_
    refine p_atB (i := i) (q := i) ar64 rfl rfl rfl hi64 (by omega) ?_
    refine t_load agg_u32 rfl (fun W h => h.2 i hi64) ?_
    refine cc is_turn (turn_any v.e 6 _ hok.e (by decide) (by decide)) ?_
    rintro e w' ⟨rfl, rfl⟩
    refine ⟨_, rfl, ⟨hB4.drew.drew, hR4⟩, ?_⟩
    refine cc is_turn (turn_any v.e 11 _ hok.e (by decide) (by decide)) ?_
    rintro e w' ⟨rfl, rfl⟩
    refine ⟨_, rfl, ⟨hB4.drew.drew, hR4⟩, ?_⟩
    refine p_xor rfl rfl (u32_xor_nat _ _ (rotr_lt _ hok.e) (rotr_lt _ hok.e)) ?_
    refine cc is_turn (turn_any v.e 25 _ hok.e (by decide) (by decide)) ?_
    rintro e w' ⟨rfl, rfl⟩
    refine ⟨_, rfl, ⟨hB4.drew.drew, hR4⟩, ?_⟩
    refine p_xor rfl rfl (u32_xor_nat _ _ (xor_lt (rotr_lt _ hok.e) (rotr_lt _ hok.e)) (rotr_lt _ hok.e)) ?_
    refine p_add rfl rfl (add32 v.h (bs1 v.e)) ?_
    refine p_add rfl rfl (add32 _ (chs v.e v.f v.g)) ?_
    refine p_add rfl rfl (add32 _ (roots.getD i 0)) ?_
    refine p_add rfl rfl (add32 _ ((words b).getD i 0)) ?_
    refine dr (fun W => Blk W g1 118 (hc v)) [(0, true), (2, true), (5, true), (8, true), (9, true), (10, true), (11, true), (12, true), (13, true), (14, true), (15, true), (16, true), (17, true), (18, true), (19, true), (20, true), (21, true), (22, true), (1, false), (3, false), (4, true), (6, false), (7, true), (23, true), (24, true)] (by kernel_rfl) hB4.drew.drew.drew ?_
    refine p_atB (i := 1) (q := 1) ar8 rfl rfl rfl (by decide) rfl ?_
    refine t_load agg_u32 rfl (fun W h => Blk.at_ h rfl) ?_
    refine p_and rfl rfl (u32_and_nat v.a v.b hok.a hok.b) ?_
    refine p_atB (i := 2) (q := 2) ar8 rfl rfl rfl (by decide) rfl ?_
    refine t_load agg_u32 rfl (fun W h => Blk.at_ h rfl) ?_
    refine p_and rfl rfl (u32_and_nat v.a v.c hok.a hok.c) ?_
    refine p_xor rfl rfl (u32_xor_nat _ _ (and_lt hok.a) (and_lt hok.a)) ?_
    refine p_atB (i := 1) (q := 1) ar8 rfl rfl rfl (by decide) rfl ?_
    refine t_load agg_u32 rfl (fun W h => Blk.at_ h rfl) ?_
    refine p_atB (i := 2) (q := 2) ar8 rfl rfl rfl (by decide) rfl ?_
    refine t_load agg_u32 rfl (fun W h => Blk.at_ h rfl) ?_
    refine p_and rfl rfl (u32_and_nat v.b v.c hok.b hok.c) ?_
    refine p_xor rfl rfl (u32_xor_nat _ _ (xor_lt (and_lt hok.a) (and_lt hok.a)) (and_lt hok.b)) ?_
    refine cc is_turn (turn_any v.a 2 _ hok.a (by decide) (by decide)) ?_
    rintro e w' ⟨rfl, rfl⟩
    refine ⟨_, rfl, hB4.drew.drew.drew, ?_⟩
    refine cc is_turn (turn_any v.a 13 _ hok.a (by decide) (by decide)) ?_
    rintro e w' ⟨rfl, rfl⟩
    refine ⟨_, rfl, hB4.drew.drew.drew, ?_⟩
    refine p_xor rfl rfl (u32_xor_nat _ _ (rotr_lt _ hok.a) (rotr_lt _ hok.a)) ?_
    refine cc is_turn (turn_any v.a 22 _ hok.a (by decide) (by decide)) ?_
    rintro e w' ⟨rfl, rfl⟩
    refine ⟨_, rfl, hB4.drew.drew.drew, ?_⟩
    refine p_xor rfl rfl (u32_xor_nat _ _ (xor_lt (rotr_lt _ hok.a) (rotr_lt _ hok.a)) (rotr_lt _ hok.a)) ?_
    refine p_add rfl rfl (add32 (bs0 v.a) (maj v.a v.b v.c)) ?_
    have hB7 := hB4.drew.drew.drew
    refine p_add rfl rfl (add32 (tt1 v (roots.getD i 0) ((words b).getD i 0)) (tt2 v)) ?_
    refine p_atB (i := 0) (q := 0) ar8 rfl rfl rfl (by decide) rfl ?_
    refine v_load agg_u32 rfl (hB7.at_ rfl) ?_
    refine p_atB (i := 1) (q := 1) ar8 rfl rfl rfl (by decide) rfl ?_
    refine v_load agg_u32 rfl (hB7.at_ rfl) ?_
    refine p_atB (i := 2) (q := 2) ar8 rfl rfl rfl (by decide) rfl ?_
    refine v_load agg_u32 rfl (hB7.at_ rfl) ?_
    refine p_atB (i := 3) (q := 3) ar8 rfl rfl rfl (by decide) rfl ?_
    refine v_load agg_u32 rfl (hB7.at_ rfl) ?_
    refine p_add rfl rfl (add32 v.d (tt1 v (roots.getD i 0) ((words b).getD i 0))) ?_
    refine p_atB (i := 4) (q := 4) ar8 rfl rfl rfl (by decide) rfl ?_
    refine v_load agg_u32 rfl (hB7.at_ rfl) ?_
    refine p_atB (i := 5) (q := 5) ar8 rfl rfl rfl (by decide) rfl ?_
    refine v_load agg_u32 rfl (hB7.at_ rfl) ?_
    refine p_atB (i := 6) (q := 6) ar8 rfl rfl rfl (by decide) rfl ?_
    refine v_load agg_u32 rfl (hB7.at_ rfl) ?_
    refine p_buildA (vs := hc (rnd v (roots.getD i 0) ((words b).getD i 0))) ar8 zero_a8 rfl ?_
    refine v_storeA (hc (rnd v (roots.getD i 0) ((words b).getD i 0))) sz_a8 rfl rfl rfl (by intro u hu; simp [hc] at hu; rcases hu with rfl | rfl | rfl | rfl | rfl | rfl | rfl | rfl <;> rfl) hB7 rfl ?_
    rintro W5 hB5 hg5 hs5
    refine p_add rfl rfl (r := ((i + 1 : Nat) : Int)) (w64 (by omega) |>.trans (by omega)) ?_
    refine ⟨i + 1, ⟨by omega, b4.drew.drew.drew.grown hg5 hs4 (fun k hk => by injection hk with hk; omega), ?_⟩, ⟨rfl, rfl, rfl, rfl, trivial⟩, by omega⟩
    show Blk W5 g1 118 (hc (rnd (rndF roots (words b) h i) (roots.getD i 0) ((words b).getD i 0)))
    rw [← hv]; exact hB5
  · have hi : i = 64 := by omega
    subst hi
    obtain ⟨v, hv⟩ : ∃ v, v = rndF roots (words b) h 64 := ⟨_, rfl⟩
    rw [← hv] at hB4 hok
    have hBg := hB.below b4
    have gr0 : w.grownBy W4 (some g) := ⟨b4.os, b4.tape, b4.output, b4.size, fun k hk _ => b4.block k hk⟩
    have hgg : g1 ≠ g := by omega
    refine lp Nat (fun i W => i ≤ 8 ∧ Blk W g 120 (hc (addF h v i) ++ R) ∧ Blk W g1 118 (hc v) ∧ w.grownBy W (some g)) (fun i => [(0, .pointer (some ⟨g, 0, none⟩)), (4, .pointer (some ⟨g1, 0, none⟩)), (99, .int .i64 i)]) (fun i => 8 - i) 0 ⟨by decide, hBg, hB4, gr0⟩ ⟨rfl, rfl, rfl, trivial⟩ ?_
    rintro i E1 W5 ⟨hi, hB5, hB6, gr5⟩
    refine p_lt rfl rfl (fun hlt => ?_) (fun hge => ?_)
    · have h8 : i = 0 ∨ i = 1 ∨ i = 2 ∨ i = 3 ∨ i = 4 ∨ i = 5 ∨ i = 6 ∨ i = 7 := by omega
      have hR5 := hB5.lt
      obtain ⟨o, n, hx, hy, hset⟩ : ∃ o n : Nat, (hc (addF h v i) ++ R)[i]? = some (cu o) ∧ (hc v)[i]? = some (cu n) ∧ (hc (addF h v i) ++ R).set i (cu ((o + n) % 4294967296)) = hc (addF h v (i + 1)) ++ R := by
        rcases h8 with rfl | rfl | rfl | rfl | rfl | rfl | rfl | rfl <;> exact ⟨_, _, rfl, rfl, rfl⟩
      refine dr (fun W => Blk W g1 118 (hc v)) [(0, true), (1, true), (2, true), (3, true), (4, true), (6, true), (7, true), (8, true), (10, true), (11, true), (5, false), (9, true), (12, true), (13, false)] (by kernel_rfl) hB6.drew ?_
      refine p_nil rfl ?_
      refine p_fld fd0 rfl ?_
      refine p_atB (o := 0) (i := i) (q := i) ar8 rfl rfl rfl (by omega) (by omega) ?_
      refine p_atB (i := i) (q := i) ar8 rfl rfl rfl (by omega) (by omega) ?_
      refine t_load agg_u32 rfl (fun W h => Blk.at_ h hy) ?_
      refine p_nil rfl ?_
      refine p_fld fd0 rfl ?_
      refine v_load agg_u32 rfl (hB5.drew.at_ hx) ?_
      refine ⟨hB6.drew, ?_⟩
      refine p_add rfl rfl (add32 o n) ?_
      refine p_atB (o := 0) (i := i) (q := i) ar8 rfl rfl rfl (by omega) (by omega) ?_
      refine v_set (cu ((o + n) % 4294967296)) sz_u32 hB5.drew rfl rfl rfl (by simp [hc]; omega) ?_
      rintro W6 hB7 hg7 hs7
      rw [hset] at hB7
      have hB8 := hB6.drew.grownN hg7 (fun e => hgg e.symm)
      refine ⟨hB8, ?_⟩
      refine p_add rfl rfl (r := ((i + 1 : Nat) : Int)) (w64 (by omega) |>.trans (by omega)) ?_
      exact ⟨i + 1, ⟨by omega, hB7, hB8, gtrans gr5 (gtrans gdrew hg7)⟩, ⟨rfl, rfl, rfl, trivial⟩, by omega⟩
    · have hi : i = 8 := by omega
      subst hi
      have e : take8 h b = addF h v 8 := by unfold take8; rw [← hv, add8_eq]
      rw [← e] at hB5
      exact ⟨⟨_, rfl⟩, hB5, gr5⟩
end Go.Proofs.YtejbljopighenaaDoor
