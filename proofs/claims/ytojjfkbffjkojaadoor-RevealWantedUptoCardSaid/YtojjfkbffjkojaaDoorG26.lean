/- The walk of the law RevealWanted. What the rows' list of package variables gives: the tables of digest. -/
import Derived.Test.YtojjfkbffjkojaaDoorG25
import Derived.Test.YtojjfkbffjkojaaDoorG13
import Derived.Test.YtojjfkbffjkojaaDoorRows
import Derived.Lib.LaidTab
import Derived.MakeChecks
namespace Go.Proofs.YtojjfkbffjkojaaDoor
open Go.RowKit


set_option maxRecDepth 100000 in
set_option maxHeartbeats 8000000 in
theorem revealWanted_walk (w : World) (hG : GL w []) {A0 : Option Addr} {n0 c0 : Nat} {l : List Pr} (g0 : RdD w (Fd w []) (dPl l) (.slice A0 n0 c0)) (b0 : (l.map fun t => t.k.length + t.v.length + 3).sum ≤ 1048576) {A1 : Option Addr} {n1 c1 : Nat} {look : List (List UInt8)} (g1 : RdD w (Fd w []) (dLs look) (.slice A1 n1 c1)) (b1 : (look.map fun x => x.length + 1).sum ≤ 1048576) :
    Calls Tryd.prog 10 #[.slice A0 n0 c0, .slice A1 n1 c1] w (RetTrue w) := by
  refine calls_ev (args := [.slice A0 n0 c0, .slice A1 n1 c1]) mixed Tryd.func10 rfl (by kernel_rfl) ?_
  have en1 : n1 = look.length := g1.slen
  subst en1
  have hwn := sum_len1 look
  have hbk := prBulk_le l
  have M := ((St.start (w := w) (gs := []) (fun b h => by cases h)).addD g1).addD g0
  clear g0 g1
  refine s_box ([.slice A1 look.length c1]) M rfl ?_
  clear M
  rintro g3 W M
  obtain ⟨T, hT⟩ : ∃ T, T = tOf l := ⟨_, rfl⟩
  have hTz := tOf_sz l
  rw [← hT] at hTz
  refine cc is_r8of (r8of_any 401 (Nat.le_refl _) l _ _ _ _ _ (M.d1 0 rfl) M.olt (prBig_of b0)) ?_
  rintro e W ⟨cs, he, hres, hb⟩
  rw [← tOf_eq (Nat.le_refl _), ← hT] at he hres
  subst he
  have hc7 := hres.len
  rw [dN_len] at hc7
  replace M := (M.call hb).addL hres
  clear hres hb
  refine ⟨_, rfl, ?_⟩
  refine s_alloc (zN) M al_nd ?_
  clear M
  rintro g5 W M
  refine s_storeA 0 cs M rfl sz_nd rfl rfl hc7 ((M.da 0 rfl).ones (dN_one _)) rfl ?_
  clear M; rintro W M
  dsimp only [setL] at M
  refine p_ne rfl rfl (fun h0 => ?_) (fun h0 => ?_)
  rotate_left
  ·
    refine cc is_kn10 (known10_any _ _ (M.gl hG) M.olt) ?_
    rintro e W ⟨rfl, hb⟩
    replace M := M.call hb
    clear hb
    exact ⟨_, rfl, rfl, M.below⟩
  have h0 : T.2 = 0 := h0
  have hF : Full T.1 := (of_ok hT h0).2.1
  obtain ⟨t, ht⟩ : ∃ t, t = T.1 := ⟨_, rfl⟩
  rw [← ht] at M hTz hF
  obtain ⟨Ap, cp, Av, cv, Ak, ck, Ah, ch, rfl, -⟩ := (M.da 0 rfl).node
  have hmu := opn_much t 400
  refine v_loadN (ncs t Ap cp Av cv Ak ck Ah ch) agg_nd rfl rfl (M.run 0 rfl) ?_
  refine cc is_much10 (much10_any t (by omega) _ _ (ncs t Ap cp Av cv Ak ck Ah ch) (M.da 0 rfl) M.olt) ?_
  rintro e W ⟨he, hb⟩
  obtain ⟨qa, hqqa⟩ : ∃ q, q = decide (400 ≤ muchP t 400) := ⟨_, rfl⟩
  rw [← hqqa] at he
  subst he
  replace M := M.call hb
  clear hb
  refine ⟨_, rfl, ?_⟩
  cases qa with
  | true =>
    refine cc is_kn10 (known10_any _ _ (M.gl hG) M.olt) ?_
    rintro e W ⟨rfl, hb⟩
    replace M := M.call hb
    clear hb
    exact ⟨_, rfl, rfl, M.below⟩
  | false =>
  have hz2 := much10_no hqqa.symm
  have hmq : muchP t 400 < 400 := by have := of_decide_eq_false hqqa.symm; omega
  have hmu := hmu hmq
  refine v_load agg_lls rfl ((M.B 1 rfl).at_ rfl) ?_
  refine p_len slls rfl ?_
  refine p_gt rfl rfl (fun k2 => ?_) (fun k2 => ?_)
  ·
    refine cc is_kn10 (known10_any _ _ (M.gl hG) M.olt) ?_
    rintro e W ⟨rfl, hb⟩
    replace M := M.call hb
    clear hb
    exact ⟨_, rfl, rfl, M.below⟩
  have k2 : look.length ≤ 12 := by have h : ¬ (12 : Int) < (look.length : Int) := k2; omega
  replace M := M.swp.nilR 23 1
  refine lp (Nat × Option Addr × Nat × List Value) (fun s W => s.1 ≤ look.length ∧ (∀ x ∈ look.take s.1, x.length ≤ 50) ∧ St w [] W [(g3, 41, [.slice A1 look.length c1]), (g5, 26, ncs t Ap cp Av cv Ak ck Ah ch)] [⟨23, 1, s.2.1, s.1, s.2.2.1, s.2.2.2⟩] [.dat false (((look.take s.1).map ofB).map dB) s.2.2.2, .dat false (dN t) (ncs t Ap cp Av cv Ak ck Ah ch), .dat false [dLs look] [.slice A1 look.length c1]])
    (fun s => [(3, .pointer (some ⟨g3, 0, none⟩)), (5, .pointer (some ⟨g5, 0, none⟩)), (7, .slice s.2.1 s.1 s.2.2.1), (8, .int .i64 (s.1 : Nat))]) (fun s => look.length - s.1) (0, none, 0, []) ⟨Nat.zero_le _, (fun x hx => by cases hx), (M.addT (fr := false) (ds := []) (cs := []) RdL.nil_).fsub _ (by simp)⟩ (by repeat (first | exact trivial | refine ⟨rfl, ?_⟩)) ?_
  clear M
  rintro ⟨i, A7, c7, xs⟩ E W ⟨hi, h50, M⟩
  dsimp only at hi h50 M
  refine v_load agg_lls rfl ((M.B 0 rfl).at_ rfl) ?_
  refine p_len slls rfl ?_
  refine p_lt rfl rfl (fun hlt => ?_) (fun hge => ?_)
  · have hlt : i < look.length := by have h : (i : Int) < (look.length : Int) := hlt; omega
    obtain ⟨x, hx⟩ : ∃ x, look[i]? = some x := ⟨_, List.getElem?_eq_getElem hlt⟩
    obtain ⟨y1, o1, A8, c8, e1, M'⟩ := M.atLc (M.d1 2 rfl) hx
    replace M := M'; clear M'
    subst e1
    refine v_load agg_lls rfl ((M.B 0 rfl).at_ rfl) ?_
    refine p_at (i := i) slls rfl rfl rfl hlt ?_
    refine v_load agg_b rfl (M.lc 0 rfl 0 _ rfl) ?_
    refine p_len slb rfl ?_
    refine p_gt rfl rfl (fun k3 => ?_) (fun k3 => ?_)
    ·
      refine cc is_kn10 (known10_any _ _ (M.gl hG) M.olt) ?_
      rintro e W ⟨rfl, hb⟩
      replace M := M.call hb
      clear hb
      exact ⟨_, rfl, rfl, M.below⟩
    have k3 : x.length ≤ 50 := by have h : ¬ (50 : Int) < (x.length : Int) := k3; omega
    refine v_load agg_lls rfl ((M.B 0 rfl).at_ rfl) ?_
    refine p_at (i := i) slls rfl rfl rfl hlt ?_
    refine v_load agg_b rfl (M.lc 0 rfl 0 _ rfl) ?_
    refine cc is_rof (rof_any A8 x.length c8 x _ (M.rdb 1 rfl).2.2 (by omega)) ?_
    rintro e W ⟨A5, c5, rfl, o, hb⟩
    replace M := M.callO hb o
    clear o hb
    refine ⟨_, rfl, ?_⟩
    refine s_bsliceB [.slice A5 (2 * x.length) c5] M slls zls10 rfl (by decide) rfl ?_
    clear M; rintro g W M
    refine s_app M Tryd.underlying41 lsinfo rfl (by decide) rfl rfl (Reads.blk (M.B 0 rfl) rfl) (all1 rfl) ⟨by omega, by decide⟩ ?_
    clear M; rintro A6 c6 W M -
    have hX := (M.dw 3 rfl).app (M.dw 0 rfl)
    have hst : look.take (i + 1) = look.take i ++ [x] := by rw [List.take_add_one, hx]; rfl
    rw [show ((look.take i).map ofB).map dB ++ [dB (ofB x)] = ((look.take (i + 1)).map ofB).map dB by rw [hst, List.map_append, List.map_append]; rfl] at hX
    refine p_addN (b := 1) rfl rfl (by omega) ?_
    refine ⟨(i + 1, A6, c6, xs ++ [.slice A5 (2 * x.length) c5]), ⟨by dsimp only; omega, ?_, (M.addT hX).dropL.fsub _ (by simp)⟩, (by repeat (first | exact trivial | refine ⟨rfl, ?_⟩)), by dsimp only; omega⟩
    intro z hz
    dsimp only at hz
    rw [hst] at hz
    rcases List.mem_append.1 hz with h | h
    · exact h50 z h
    · rw [List.mem_singleton.1 h]; exact k3
  have hge : i = look.length := by have h : ¬ (i : Int) < (look.length : Int) := hge; omega
  subst hge
  rw [List.take_length] at M h50
  have hX := M.dw 0 rfl
  have hIm : look.length = (look.map ofB).length := by rw [List.length_map]
  replace M := M.frzLs (ll := look.map ofB) hX hIm
  clear hX
  have hwl : ∀ x ∈ look.map ofB, x.length ≤ 10000000 := fun x hx => by
    obtain ⟨y, hy, rfl⟩ := List.mem_map.1 hx
    have := h50 y hy
    rw [ofB_length]; omega
  refine s_alloc ([.int .i64 ((0 : Nat) : Int)]) M (by kernel_rfl) ?_
  clear M
  rintro g9 W M
  refine s_set 0 (.int .i64 ((0 : Nat) : Int)) [.int .i64 ((0 : Nat) : Int)] M rfl sz_intt rfl rfl rfl (Nat.le_of_ble_eq_true rfl) rfl ?_
  clear M; rintro W M
  dsimp only [setL] at M
  have hPz : sz (onP (Sof (look.map ofB)) t []) ≤ 154000 := by have := on_sz (S := Sof (look.map ofB)) (sz t + 1) t [] (Nat.lt_succ_self _); omega
  have hPk := onP_k0 (Sof (look.map ofB)) t []
  have hof := only_full hF (look.map ofB)
  refine v_loadN (ncs t Ap cp Av cv Ak ck Ah ch) agg_nd rfl rfl (M.run 2 rfl) ?_
  refine p_fun (#[] : Array Operand) _ ?_
  refine cc is_vwanted (vwanted_any t hF hz2 (by omega) look (by omega) (fun k hk => Nat.le_trans (h50 k hk) (by decide)) w _ [] hG g9 g3 c1 A1 _ _ _ _ M (M.da 2 rfl) (M.d1 3 rfl)) ?_
  clear M
  rintro e W ⟨cs10, rfl, hc10, M⟩
  obtain ⟨P, hP⟩ : ∃ P, P = onP (Sof (look.map ofB)) t [] := ⟨_, rfl⟩
  rw [← hP] at M hPz hPk hof
  refine ⟨_, rfl, ?_⟩
  refine s_alloc (zN) M al_nd ?_
  clear M
  rintro g10 W M
  refine s_storeA 0 cs10 M rfl sz_nd rfl rfl hc10 ((M.da 0 rfl).ones (dN_one _)) rfl ?_
  clear M; rintro W M
  dsimp only [setL] at M
  rw [hIm]
  refine v_loadN (ncs t Ap cp Av cv Ak ck Ah ch) agg_nd rfl rfl (M.run 3 rfl) ?_
  have ca := tonly_any t (by omega) (look.map ofB) _ _ _ (M.da 3 rfl) (M.d1 1 rfl) M.olt (by rw [← hIm]; omega) hwl
  rw [hof] at ca
  dsimp only at ca
  refine cc is_tonly ca ?_
  clear ca
  rintro e W ⟨cs12, rfl, r9, hb⟩
  have hc12 := r9.len
  rw [dN_len] at hc12
  replace M := (M.call hb).addL r9
  clear r9 hb
  refine ⟨_, rfl, ?_⟩
  refine s_alloc (zN) M al_nd ?_
  clear M
  rintro g12 W M
  refine s_storeA 0 cs12 M rfl sz_nd rfl rfl hc12 ((M.da 0 rfl).ones (dN_one _)) rfl ?_
  clear M; rintro W M
  dsimp only [setL] at M
  obtain ⟨Bp, dp, Bv, dv, Bk, dk, Bh, dh, rfl, -⟩ := (M.da 1 rfl).node
  refine p_fld fN0 rfl ?_
  refine v_load agg_int rfl ((M.B 4 rfl).at_ rfl) ?_
  refine p_eq rfl rfl (fun hk => ?_) (fun hk => ?_)
  · have hk : t.kind = 0 := hk
    refine p_eq rfl rfl (fun _ => ?_) (fun h => absurd rfl h)
    refine p_fld fN0 rfl ?_
    refine v_load agg_int rfl ((M.B 1 rfl).at_ rfl) ?_
    refine p_eq rfl rfl (fun _ => ?_) (fun h => absurd (hPk.2 hk) h)
    refine cc is_kn10 (known10_any _ _ (M.gl hG) M.olt) ?_
    rintro e W ⟨rfl, hb⟩
    replace M := M.call hb
    clear hb
    exact ⟨_, rfl, rfl, M.below⟩
  have hcq := opn_cnt P
  have hcz := cntP_sz P
  refine v_loadN (ncs P Bp dp Bv dv Bk dk Bh dh) agg_nd rfl rfl (M.run 1 rfl) ?_
  refine cc is_rcnt (rcnt_any 100000000 (Nat.le_refl _) P (by omega) _ _ _ (M.da 1 rfl) M.olt) ?_
  rintro e W ⟨rfl, hb⟩
  replace M := M.call hb
  clear hb
  refine ⟨_, rfl, ?_⟩
  refine p_eq rfl rfl (fun _ => ?_) (fun h => absurd rfl h)
  refine v_loadN (ncs P Bp dp Bv dv Bk dk Bh dh) agg_nd rfl rfl (M.run 1 rfl) ?_
  refine v_loadN cs12 agg_nd rfl hc12 (M.run 0 rfl) ?_
  refine cc is_r7same (rsame_any 1000000000 (Nat.le_refl _) P (by omega) P _ _ _ _ (M.da 1 rfl) (M.da 0 rfl) M.olt (by omega)) ?_
  rintro e W ⟨q, rfl, hq, hb⟩
  obtain rfl := hq.2 rfl
  replace M := M.call hb
  clear hb hq
  refine ⟨_, rfl, ?_⟩
  refine v_load agg_int rfl ((M.B 2 rfl).at_ rfl) ?_
  refine p_subN (a := (cntP P).1) (b := (cntP P).2) rfl rfl (by omega) (by omega) ?_
  refine p_addN (b := 1) rfl rfl (by omega) ?_
  refine p_eq rfl rfl (fun _ => ?_) (fun h => absurd (show ((opnP P + 1 : Nat) : Int) = (((cntP P).1 - (cntP P).2 + 1 : Nat) : Int) by omega) h)
  refine cc is_kn10 (known10_any _ _ (M.gl hG) M.olt) ?_
  rintro e W ⟨rfl, hb⟩
  replace M := M.call hb
  clear hb
  exact ⟨_, rfl, rfl, M.below⟩
end Go.Proofs.YtojjfkbffjkojaaDoor
namespace Go.Proofs.YtojjfkbffjkojaaDoor
open Go.RowKit Go.ChangeShapes
theorem gBegin : Tryd.prog.globalNamed "exchequer/digest.begin" = some 0 := by kernel_rfl
theorem gRoots : Tryd.prog.globalNamed "exchequer/digest.roots" = some 1 := by kernel_rfl
theorem tBegin : (Tryd.prog.globals[0]?).map (·.type) = some 130 := by kernel_rfl
theorem tRoots : (Tryd.prog.globals[1]?).map (·.type) = some 133 := by kernel_rfl
theorem cB : Tryd.prog.cellsOf 130 = 8 := by kernel_rfl
theorem cR : Tryd.prog.cellsOf 133 = 64 := by kernel_rfl
theorem cU : Tryd.prog.cellsOf 94 = 1 := by kernel_rfl
def laidL : List (String × DataW Unit) := [("exchequer/digest.begin", Rows.laid_exchequer_digest_begin), ("exchequer/digest.roots", Rows.laid_exchequer_digest_roots)]
theorem gl_of {W : World} (h : laidMetH Tryd.prog laidL W) : GL W [] := by
  rw [MakeChecks.laidMetH_plain _ _ _ (by kernel_rfl)] at h
  have hb : Lib.TabIs Tryd.prog W "exchequer/digest.begin" .u32 [1779033703, 3144134277, 1013904242, 2773480762, 1359893119, 2600822924, 528734635, 1541459225] :=
    Lib.tabIs_of_head (rest := [("exchequer/digest.roots", Rows.laid_exchequer_digest_roots)]) gBegin tBegin Tryd.underlying130 Tryd.underlying94 cU cB h
  obtain ⟨ps, ⟨g0, t0, cs0, f0, p0, q0, hg0, ht0, hv0, hd0, ⟨g1, t1, cs1, f1, p1, q1, hg1, ht1, hv1, hd1, _, _⟩, _⟩, _, _⟩ := h
  obtain rfl := Option.some.inj (gRoots.symm.trans hg1)
  obtain rfl := Option.some.inj (tRoots.symm.trans ht1)
  have hr : Lib.TabIs Tryd.prog W "exchequer/digest.roots" .u32 (List.map (fun (n : Nat) => (n : Int)) roots) := by
    unfold Lib.TabIs
    rw [hv1, ← Lib.cells_of_tab Tryd.underlying133 Tryd.underlying94 cU cR hd1]
  refine ⟨fun j hj => ?_, fun j v hv => ?_, ?_, by simp, by simp⟩
  · have := hr.cell gRoots j (by rw [List.length_map]; exact hj)
    rw [this]
    unfold cu
    congr 2
    rw [List.getD_eq_getElem?_getD, List.getD_eq_getElem?_getD, List.getElem?_map]
    have : j < roots.length := hj
    rw [List.getElem?_eq_getElem this]; rfl
  · have hj := (List.getElem?_eq_some_iff.1 hv).1
    have := hb.cell gBegin j hj
    rw [this]
    have hj8 : j = 0 ∨ j = 1 ∨ j = 2 ∨ j = 3 ∨ j = 4 ∨ j = 5 ∨ j = 6 ∨ j = 7 := by have : j < 8 := hj; omega
    rcases hj8 with rfl | rfl | rfl | rfl | rfl | rfl | rfl | rfl <;> exact hv
  · have := hr.cell gRoots 0 (by decide)
    have := World.block_lt_of_cell? W _ this
    exact this
/-- A world for the witness: the tables hold what their initialisers lay. -/
def layAt (cs : List Value) : Obj → Obj
  | .cells _ t frozen => .cells cs.toArray t frozen
  | o => o
noncomputable def laidWorld (os : Os) : World :=
  { World.holding Tryd.prog os ⟨#[], #[], []⟩ with heap := ((World.holding Tryd.prog os ⟨#[], #[], []⟩).heap.modify 0 (layAt (hc begin8))).modify 1 (layAt (roots.map cu)) }
end Go.Proofs.YtojjfkbffjkojaaDoor
