/- The walk of the law BlockWrites. What the rows' list of package variables gives: the tables of digest. -/
import Derived.Test.YtejbljopighenaaDoorG21
import Derived.Test.YtejbljopighenaaDoorG01
import Derived.Test.YtejbljopighenaaDoorG17
import Derived.Test.YtejbljopighenaaDoorRows
import Derived.Lib.LaidTab
import Derived.MakeChecks
namespace Go.Proofs.YtejbljopighenaaDoor
open Go.RowKit
theorem is_r21EncL : isFn Tryd.prog 10 = true := by kernel_rfl
theorem is_r21DecL : isFn Tryd.prog 12 = true := by kernel_rfl
theorem is_r21CheckL : isFn Tryd.prog 15 = true := by kernel_rfl
theorem decBk_fits {s : List UInt8} (hs : s.length ≤ 1000000) : FitsB (decBk s).1 := by
  unfold decBk
  split
  · exact fits_z
  · cases h : parseBk s with
    | none => exact fits_z
    | some b =>
      show FitsB (if encBk b = (s, 0) then (b, 0) else (bkZ, 11) : Bk × Int).1
      split
      · exact parse_fitsB h hs
      · exact fits_z

set_option maxRecDepth 100000 in
set_option maxHeartbeats 8000000 in
theorem blockWrites_walk (w : World) (hG : GL w []) {b : Bk} {cs : List Value} (hr : RdL w (Fd w []) (dBk b) cs) (hw : WfB b) (hk : bkbk b ≤ 1048576) {A1 : Option Addr} {n1 c1 : Nat} {l : List UInt8} (g1 : Rd w w.heap.size A1 n1 l) (k1 : n1 ≤ c1) :
    Calls Tryd.prog 3 #[.agg cs.toArray, .slice A1 n1 c1] w (RetTrue w) := by
  refine calls_ev (args := [.agg cs.toArray, .slice A1 n1 c1]) mixed Tryd.func3 rfl (by kernel_rfl) ?_
  have en1 : n1 = l.length := g1.len.symm
  subst en1
  obtain ⟨p, rfl, -⟩ := id hr.bk
  have g1' : RdD w (Fd w []) (dB l) (.slice A1 l.length c1) := RdD.ofbytes g1 k1 (fun b off _ h => ⟨h, by simp⟩)
  have M := ((St.start (w := w) (gs := []) (fun b h => by cases h)).addD g1').addL hr
  clear g1 g1' hr
  refine s_box (bkcs b p) M rfl ?_
  clear M
  rintro g2 W M
  refine v_loadN (bkcs b p) agg_bk rfl rfl (M.run 0 rfl) ?_
  refine cc is_big21 (big21_any b _ _ _ (M.da 0 rfl) M.olt (Nat.le_trans hk (by decide))) ?_
  rintro e W ⟨q, rfl, hq, hbw⟩
  replace M := M.call hbw
  clear hbw
  refine ⟨_, rfl, ?_⟩
  cases q with
  | true =>
    refine cc is_kn21 (known21_any _ _ (M.glB hG) M.olt) ?_
    rintro e W ⟨rfl, hbw⟩
    replace M := M.call hbw
    clear hbw
    exact ⟨_, rfl, rfl, M.below⟩
  | false =>
  have hbig := hq rfl
  refine p_len slb rfl ?_
  refine p_gt rfl rfl (fun h => ?_) (fun h => ?_)
  ·
    refine cc is_kn21 (known21_any _ _ (M.glB hG) M.olt) ?_
    rintro e W ⟨rfl, hbw⟩
    replace M := M.call hbw
    clear hbw
    exact ⟨_, rfl, rfl, M.below⟩
  have hl : l.length ≤ 9000 := by have h : ¬ (9000 : Int) < (l.length : Int) := h; omega
  have hf := fits_small hw hk hbig
  refine v_loadN (bkcs b p) agg_bk rfl rfl (M.run 0 rfl) ?_
  refine cc is_bEncK (bEnc_any b _ _ _ (M.da 0 rfl) M.olt hf) ?_
  rintro e W ⟨A3, n3, c3, rfl, o3, hbw⟩
  have en3 : (encBk b).1.length = n3 := o3.len
  subst en3
  replace M := M.callO hbw o3
  clear hbw o3
  refine ⟨_, rfl, ?_⟩
  refine v_loadN (bkcs b p) agg_bk rfl rfl (M.run 0 rfl) ?_
  refine cc is_r21EncL (r21Enc_any b _ _ _ (M.da 1 rfl) M.olt hf) ?_
  rintro e W ⟨A4, n4, c4, rfl, o4, hbw⟩
  have en4 : (encBk b).1.length = n4 := o4.len
  subst en4
  replace M := M.callO hbw o4
  clear hbw o4
  refine ⟨_, rfl, ?_⟩
  refine cc is_bDecK (bDec_any l _ _ _ _ _ (M.d1 3 rfl) M.olt (by omega)) ?_
  rintro e W ⟨q, rfl, hq, hbw⟩
  replace M := (M.call hbw).addL hq
  clear hq hbw
  refine ⟨_, rfl, ?_⟩
  refine s_alloc (zBk) M al_bk ?_
  clear M
  rintro g9 W M
  refine s_storeA 0 (bkcs (decBk l).1 q) M rfl sz_bk rfl rfl rfl (all1 rfl) rfl ?_
  clear M; rintro W M
  dsimp only [setL] at M
  refine cc is_r21DecL (r21Dec_any l _ _ _ _ _ (M.d1 4 rfl) M.olt (by omega)) ?_
  rintro e W ⟨r, rfl, hr, hbw⟩
  replace M := (M.call hbw).addL hr
  clear hr hbw
  refine ⟨_, rfl, ?_⟩
  refine s_alloc (zBk) M al_bk ?_
  clear M
  rintro g11 W M
  refine s_storeA 0 (bkcs (decBk l).1 r) M rfl sz_bk rfl rfl rfl (all1 rfl) rfl ?_
  clear M; rintro W M
  dsimp only [setL] at M
  replace M := M.drew
  obtain ⟨d, hd⟩ : ∃ d, d = decBk l := ⟨_, rfl⟩
  have hfd : FitsB d.1 := by rw [hd]; exact decBk_fits (by omega)
  rw [← hd] at M
  rw [← hd]
  refine drT (Kp w [] [(g2, 26, bkcs b p), (g9, 26, bkcs d.1 q), (g11, 26, bkcs d.1 r)] []) (.take 0 (.take 1 (.one 2 (.take 3 (.take 4 (.take 5 (.take 6 (.take 7 (.take 8 (.take 9 (.take 11 (.one 10 (.one 12 (.take 13 (.take 14 (.take 15 (.take 16 (.take 18 (.one 17 (.one 19 (.one 20 (.take 21 (.take 22 (.take 23 (.take 24 (.one 25 (.take 26 (.take 27 (.take 28 (.take 29 (.take 30 (.take 31 (.take 32 (.one 33 (.take 34 (.take 35 (.nil))))))))))))))))))))))))))))))))))))) (by kernel_rfl) (M.kp (by simp) (by simp)) ?_
  obtain ⟨z, hz, hc⟩ := same_tf (c1 := c3) (c2 := c4) (M.rdb 3 rfl).2.2 (M.rdb 2 rfl).2.2
  refine cc is_same0B hc ?_
  rintro e W' ⟨rfl, rfl⟩
  have hz := hz.2 rfl
  subst hz
  clear hc
  refine ⟨_, rfl, (M.kp (by simp) (by simp)), ?_⟩
  refine p_eq rfl rfl (fun _ => ?_) (fun h => absurd rfl h)
  refine t_loadN (bkcs b p) agg_bk rfl rfl (fun W K => K.run 0 rfl) ?_
  refine t_loadN (bkcs b p) agg_bk rfl rfl (fun W K => K.run 0 rfl) ?_
  refine cc is_bCheckK (bcheck_any b _ _ _ (M.da 4 rfl) M.olt hf) ?_
  rintro e W ⟨rfl, hbw⟩
  replace M := M.call hbw
  clear hbw
  refine ⟨_, rfl, (M.kp (by simp) (by simp)), ?_⟩
  refine cc is_r21CheckL (r21check_any b _ _ _ (M.da 4 rfl) M.olt hf) ?_
  rintro e W ⟨rfl, hbw⟩
  replace M := M.call hbw
  clear hbw
  refine ⟨_, rfl, (M.kp (by simp) (by simp)), ?_⟩
  refine p_eq rfl rfl (fun _ => ?_) (fun h => absurd rfl h)
  refine t_loadN (bkcs b p) agg_bk rfl rfl (fun W K => K.run 0 rfl) ?_
  refine t_loadN (bkcs b p) agg_bk rfl rfl (fun W K => K.run 0 rfl) ?_
  refine cc is_bHashL (bHash_any b _ _ _ (M.glB hG) (M.da 4 rfl) M.olt hf) ?_
  rintro e W ⟨A5, n5, c5, rfl, o5, -, -, -, hbw⟩
  have en5 : (hashBk b).length = n5 := o5.len
  subst en5
  replace M := M.callO hbw o5
  clear hbw o5
  refine ⟨_, rfl, (M.kp (by simp) (by simp)), ?_⟩
  refine cc is_r21HashL (r21Hash_any b _ _ _ (M.da 5 rfl) M.olt hf) ?_
  rintro e W ⟨A6, n6, c6, rfl, o6, -, -, hbw⟩
  have en6 : (hashBk b).length = n6 := o6.len
  subst en6
  replace M := M.callO hbw o6
  clear hbw o6
  refine ⟨_, rfl, (M.kp (by simp) (by simp)), ?_⟩
  obtain ⟨z, hz, hc⟩ := same_tf (c1 := c5) (c2 := c6) (M.rdb 1 rfl).2.2 (M.rdb 0 rfl).2.2
  refine cc is_same0B hc ?_
  rintro e W' ⟨rfl, rfl⟩
  have hz := hz.2 rfl
  subst hz
  clear hc
  refine ⟨_, rfl, (M.kp (by simp) (by simp)), ?_⟩
  refine t_loadN (bkcs d.1 q) agg_bk rfl rfl (fun W K => K.run 1 rfl) ?_
  refine t_loadN (bkcs d.1 r) agg_bk rfl rfl (fun W K => K.run 2 rfl) ?_
  refine cc is_r21SameK (r21Same_any d.1 d.1 _ _ _ _ (M.da 3 rfl) (M.da 2 rfl) M.olt (lenB_of hfd) (lenB_of hfd)) ?_
  rintro e W ⟨z, rfl, hz, hbw⟩
  have hz := hz.2 rfl
  subst hz
  replace M := M.call hbw
  clear hbw
  refine ⟨_, rfl, (M.kp (by simp) (by simp)), ?_⟩
  refine p_eq rfl rfl (fun _ => ?_) (fun h => absurd rfl h)
  refine cc is_kn21 (known21_any _ _ (M.glB hG) M.olt) ?_
  rintro e W ⟨rfl, hbw⟩
  replace M := M.call hbw
  clear hbw
  exact ⟨_, rfl, (M.kp (by simp) (by simp)), rfl, M.below⟩
end Go.Proofs.YtejbljopighenaaDoor
namespace Go.Proofs.YtejbljopighenaaDoor
open Go.RowKit Go.ChangeShapes
theorem gBegin : Tryd.prog.globalNamed "exchequer/digest.begin" = some 0 := by kernel_rfl
theorem gRoots : Tryd.prog.globalNamed "exchequer/digest.roots" = some 1 := by kernel_rfl
theorem tBegin : (Tryd.prog.globals[0]?).map (·.type) = some 118 := by kernel_rfl
theorem tRoots : (Tryd.prog.globals[1]?).map (·.type) = some 132 := by kernel_rfl
theorem cB : Tryd.prog.cellsOf 118 = 8 := by kernel_rfl
theorem cR : Tryd.prog.cellsOf 132 = 64 := by kernel_rfl
theorem cU : Tryd.prog.cellsOf 104 = 1 := by kernel_rfl
def laidL : List (String × DataW Unit) := [("exchequer/digest.begin", Rows.laid_exchequer_digest_begin), ("exchequer/digest.roots", Rows.laid_exchequer_digest_roots)]
theorem gl_of {W : World} (h : laidMetH Tryd.prog laidL W) : GL W [] := by
  rw [MakeChecks.laidMetH_plain _ _ _ (by kernel_rfl)] at h
  have hb : Lib.TabIs Tryd.prog W "exchequer/digest.begin" .u32 [1779033703, 3144134277, 1013904242, 2773480762, 1359893119, 2600822924, 528734635, 1541459225] :=
    Lib.tabIs_of_head (rest := [("exchequer/digest.roots", Rows.laid_exchequer_digest_roots)]) gBegin tBegin Tryd.underlying118 Tryd.underlying104 cU cB h
  obtain ⟨ps, ⟨g0, t0, cs0, f0, p0, q0, hg0, ht0, hv0, hd0, ⟨g1, t1, cs1, f1, p1, q1, hg1, ht1, hv1, hd1, _, _⟩, _⟩, _, _⟩ := h
  obtain rfl := Option.some.inj (gRoots.symm.trans hg1)
  obtain rfl := Option.some.inj (tRoots.symm.trans ht1)
  have hr : Lib.TabIs Tryd.prog W "exchequer/digest.roots" .u32 (List.map (fun (n : Nat) => (n : Int)) roots) := by
    unfold Lib.TabIs
    rw [hv1, ← Lib.cells_of_tab Tryd.underlying132 Tryd.underlying104 cU cR hd1]
  refine ⟨fun j hj => ?_, fun j v hv => ?_, ?_, by simp, by simp⟩
  · have := hr.cell gRoots j (by rw [List.length_map]; exact hj)
    rw [this]
    unfold cu
    congr 2
    rw [List.getD_eq_getElem?_getD, List.getD_eq_getElem?_getD, List.getElem?_map]
    have : j < roots.length := hj
    rw [List.getElem?_eq_getElem this]; rfl
  · have hj := (List.getElem?_eq_some_iff.1 hv).1
    have := hb.cell gBegin j hj
    rw [this]
    have hj8 : j = 0 ∨ j = 1 ∨ j = 2 ∨ j = 3 ∨ j = 4 ∨ j = 5 ∨ j = 6 ∨ j = 7 := by have : j < 8 := hj; omega
    rcases hj8 with rfl | rfl | rfl | rfl | rfl | rfl | rfl | rfl <;> exact hv
  · have := hr.cell gRoots 0 (by decide)
    have := World.block_lt_of_cell? W _ this
    exact this
/-- A world for the witness: the tables hold what their initialisers lay. -/
def layAt (cs : List Value) : Obj → Obj
  | .cells _ t frozen => .cells cs.toArray t frozen
  | o => o
noncomputable def laidWorld (os : Os) : World :=
  { World.holding Tryd.prog os ⟨#[], #[], []⟩ with heap := ((World.holding Tryd.prog os ⟨#[], #[], []⟩).heap.modify 0 (layAt (hc begin8))).modify 1 (layAt (roots.map cu)) }
end Go.Proofs.YtejbljopighenaaDoor
