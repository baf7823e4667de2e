/- law10: known, much. The walk of the law RevealOpens. What the rows' list of package variables gives: the tables of digest. -/
import Derived.Test.YtojjfkbffjkojaaDoorG23
import Derived.Test.YtojjfkbffjkojaaDoorG25
import Derived.Test.YtojjfkbffjkojaaDoorG19
import Derived.Test.YtojjfkbffjkojaaDoorG17
import Derived.Test.YtojjfkbffjkojaaDoorG20
import Derived.Test.YtojjfkbffjkojaaDoorG08
import Derived.Test.YtojjfkbffjkojaaDoorG13
import Derived.Test.YtojjfkbffjkojaaDoorRows
import Derived.Lib.LaidTab
import Derived.MakeChecks
namespace Go.Proofs.YtojjfkbffjkojaaDoor
open Go.RowKit

theorem is_kn10 : isFn Tryd.prog 15 = true := by kernel_rfl
theorem is_much10 : isFn Tryd.prog 14 = true := by kernel_rfl
set_option maxRecDepth 100000 in
set_option maxHeartbeats 1000000 in
theorem much10_any (t : Nd) (ht : sz t ≤ 900000000) (gs : List (Option Nat)) (w : World) (cs : List Value) (hr : RdL w (Fd w gs) (dN t) cs) (hgs : ∀ b, some b ∈ gs → b < w.heap.size) :
    Calls Tryd.prog 14 #[.agg cs.toArray] w fun e w' => e = .returned (.bool (decide (400 ≤ muchP t 400))) ∧ Below w.heap.size w w' := by
  refine calls_ev (args := [.agg cs.toArray]) mixed Tryd.func14 rfl (by kernel_rfl) ?_
  have hcl := hr.len
  rw [dN_len] at hcl
  have M := (St.start hgs).addL hr
  refine s_box (cs) M rfl ?_
  clear M
  rintro g1 W M
  refine v_loadN cs agg_nd rfl hcl (M.run 0 rfl) ?_
  refine cc is_r7much (much_any 1000000000 (Nat.le_refl _) t (by omega) _ _ cs 400 (by first | with_reducible exact M.da_0 | with_reducible exact M.da_1 | with_reducible exact M.da_2 | with_reducible exact M.da_3 | with_reducible exact M.da_4 | with_reducible exact M.da_5 | with_reducible exact M.da_6 | with_reducible exact M.da_7 | with_reducible exact M.da_8 | with_reducible exact M.da_9 | with_reducible exact M.da_10 | with_reducible exact M.da_11) M.olt (by decide)) ?_
  rintro e W ⟨rfl, hb⟩
  replace M := M.call hb
  refine ⟨_, rfl, ?_⟩
  refine p_ge rfl rfl (fun h => ?_) (fun h => ?_)
  · rw [decide_eq_true (show 400 ≤ muchP t 400 by omega)]
    exact ⟨rfl, M.below⟩
  · rw [decide_eq_false (show ¬ 400 ≤ muchP t 400 by omega)]
    exact ⟨rfl, M.below⟩
theorem much10_no {t : Nd} (h : decide (400 ≤ muchP t 400) = false) : sz t ≤ 22000 := by
  rw [decide_eq_false_iff_not] at h
  have := much_sz t 400 (by omega)
  omega
def kl10 : List Pr := [⟨[16], [97]⟩, ⟨[32], [98]⟩]
def kt10 : Nd := (tOf kl10).1
set_option maxRecDepth 100000 in
theorem kt10_0 : (tOf kl10).2 = 0 ∧ kt10.kind = 3 ∧ kt10.kids.length = 16 ∧ kt10.path = [] ∧ (kt10.kids.getD 1 noneN).kind = 1 ∧ (kt10.kids.getD 2 noneN).kind = 1 ∧ sz kt10 ≤ 10000 := by decide +kernel
set_option maxRecDepth 100000 in
theorem kt10_1 : rightP true kt10 0 = true := by decide +kernel
theorem kt10_c : checkE kt10 = 0 := by unfold checkE; rw [kt10_1, if_pos rfl]
theorem kt10_f : onlyP kt10 [] = (foldN kt10, 0) ∧ (foldN kt10).kind = 4 := by
  refine ⟨?_, foldN_k4 (by rw [kt10_0.2.1]; decide)⟩
  unfold onlyP
  rw [if_pos kt10_c, onP_shut rfl]
theorem kt10_a : ∃ x, atP kt10 [1] = some x ∧ x.kind = 1 := by
  obtain ⟨-, h3, h16, -, h1, -, -⟩ := kt10_0
  refine ⟨kt10.kids.getD 1 noneN, ?_, h1⟩
  rw [atP_br (by simp) h3 (by show 1 < kt10.kids.length; omega) (by show (kt10.kids.getD 1 noneN).kind ≠ 0; rw [h1]; decide)]
  show atP (kt10.kids.getD 1 noneN) [] = _
  rw [atP_eq, if_pos rfl]
theorem kt10_b : ∃ B, onlyP kt10 [[1]] = (B, 0) ∧ B.kids.length = 16 ∧ (B.kids.getD 1 noneN).kind = 1 ∧ (B.kids.getD 2 noneN).kind = 4 ∧ AgrP B kt10 = true ∧ AgrP kt10 B = false ∧ sz B ≤ 70000 := by
  obtain ⟨-, h3, h16, hp, h1, h2, hz⟩ := kt10_0
  have hv := check_val kt10_c
  have hS0 : Sof [[1]] [] = true := rfl
  have hS1 : Sof [[1]] [1] = true := rfl
  have hS2 : Sof [[1]] [2] = false := rfl
  refine ⟨onP (Sof [[1]]) kt10 [], by unfold onlyP; rw [if_pos kt10_c], ?_, ?_, ?_, agr_whole hv, ?_, by have := on_sz (S := Sof [[1]]) (sz kt10 + 1) kt10 [] (Nat.lt_succ_self _); omega⟩
  · rw [onP_open hS0 (by rw [h3]; decide)]
    show (onsP _ _ _ _ _).length = 16
    rw [onsP_len, h16]
  · rw [onP_open hS0 (by rw [h3]; decide)]
    show ((onsP (Sof [[1]]) kt10.kids ([] ++ kt10.path) (decide (kt10.kind = 3)) 0).getD 1 noneN).kind = 1
    rw [hp, h3, List.getD_eq_getElem?_getD]
    show (((onsP (Sof [[1]]) kt10.kids [] true 0)[1]?).getD noneN).kind = 1
    rw [ons_br, getD_some (d := noneN) (show 1 < kt10.kids.length by omega)]
    show (onP (Sof [[1]]) (kt10.kids.getD 1 noneN) [1]).kind = 1
    rw [onP_open hS1 (by rw [h1]; decide)]
    exact h1
  · rw [onP_open hS0 (by rw [h3]; decide)]
    show ((onsP (Sof [[1]]) kt10.kids ([] ++ kt10.path) (decide (kt10.kind = 3)) 0).getD 2 noneN).kind = 4
    rw [hp, h3, List.getD_eq_getElem?_getD]
    show (((onsP (Sof [[1]]) kt10.kids [] true 0)[2]?).getD noneN).kind = 4
    rw [ons_br, getD_some (d := noneN) (show 2 < kt10.kids.length by omega)]
    show (onP (Sof [[1]]) (kt10.kids.getD 2 noneN) [2]).kind = 4
    rw [onP_shut hS2]
    exact foldN_k4 (by rw [h2]; decide)
  · have hno : agP kt10 (onP (Sof [[1]]) kt10 []) = false := by
      cases h : agP kt10 (onP (Sof [[1]]) kt10 []) with
      | false => rfl
      | true =>
        rw [onP_open hS0 (by rw [h3]; decide), agP_eq, if_neg (by rw [h3]; decide)] at h
        simp only [Bool.and_eq_true] at h
        have h := (agsP_iff _ _).1 h.2.2.2.2
        have h := h.2 2 _ (onP (Sof [[1]]) (kt10.kids.getD 2 noneN) [2]) (getD_some (d := noneN) (show 2 < kt10.kids.length by omega)) (by
          show (onsP (Sof [[1]]) kt10.kids ([] ++ kt10.path) (decide (kt10.kind = 3)) 0)[2]? = _
          rw [hp, h3]
          show (onsP (Sof [[1]]) kt10.kids [] true 0)[2]? = _
          rw [ons_br, getD_some (d := noneN) (show 2 < kt10.kids.length by omega)]
          rfl)
        have h : agP (kt10.kids.getD 2 noneN) (onP (Sof [[1]]) (kt10.kids.getD 2 noneN) [2]) = true := h
        rw [agP_eq, if_neg (by rw [h2]; decide), onP_shut hS2, foldN_k4 (by rw [h2]; decide), h2] at h
        cases h
    unfold AgrP
    rw [hno, Bool.and_false, Bool.and_false]
set_option maxRecDepth 100000 in
set_option maxHeartbeats 4000000 in
theorem known10_any (gs : List (Option Nat)) (w : World) (hG : GL w gs) (hgs : ∀ b, some b ∈ gs → b < w.heap.size) : Calls Tryd.prog 15 #[] w fun e w' => e = .returned (.bool true) ∧ Below w.heap.size w w' := by
  refine calls_ev (args := []) mixed Tryd.func15 rfl (by kernel_rfl) ?_
  have M := St.start (w := w) (gs := gs) hgs
  refine s_bslice (bvs [16]) (fr := true) (ds := (bvs [16]).map D.v) M slb (zs := [.int .u8 0]) (by kernel_rfl) rfl (by decide) rfl (RdL.ofvals _) rfl ?_
  clear M; rintro g1 W M
  refine s_bsliceB (bvs [97]) M slb (zs := [.int .u8 0]) (by kernel_rfl) rfl (by decide) rfl ?_
  clear M; rintro g2 W M
  refine s_cvtB [97] M rfl rfl (Nat.le_refl _) ?_
  clear M; rintro W M
  refine p_build (vs := [.slice (some ⟨g1, 0, none⟩) 1 1, .slice (some ⟨g2, 0, none⟩) 1 1]) pl_pr z_pr rfl ?_
  refine s_bslice (bvs [32]) (fr := true) (ds := (bvs [32]).map D.v) M slb (zs := [.int .u8 0]) (by kernel_rfl) rfl (by decide) rfl (RdL.ofvals _) rfl ?_
  clear M; rintro g3 W M
  refine s_bsliceB (bvs [98]) M slb (zs := [.int .u8 0]) (by kernel_rfl) rfl (by decide) rfl ?_
  clear M; rintro g4 W M
  refine s_cvtB [98] M rfl rfl (Nat.le_refl _) ?_
  clear M; rintro W M
  refine p_build (vs := [.slice (some ⟨g3, 0, none⟩) 1 1, .slice (some ⟨g4, 0, none⟩) 1 1]) pl_pr z_pr rfl ?_
  have hall : RdL W (Ft w W (own [] [] gs) false) (dPrs kl10) [.slice (some ⟨g1, 0, none⟩) 1 1, .slice (some ⟨g2, 0, none⟩) 1 1, .slice (some ⟨g3, 0, none⟩) 1 1, .slice (some ⟨g4, 0, none⟩) 1 1] :=
    RdL.cons (M.dw 3 rfl).hd (RdL.cons (M.dw 2 rfl).hd (RdL.cons (M.dw 1 rfl).hd (RdL.cons (M.dw 0 rfl).hd RdL.nil_)))
  refine s_bslice [.slice (some ⟨g1, 0, none⟩) 1 1, .slice (some ⟨g2, 0, none⟩) 1 1, .slice (some ⟨g3, 0, none⟩) 1 1, .slice (some ⟨g4, 0, none⟩) 1 1] (fr := false) (ds := dPrs kl10) M slp z_pr rfl (by decide) rfl hall rfl ?_
  clear M hall; rintro g7 W M
  refine cc is_r8of (r8of_any 401 (Nat.le_refl _) kl10 _ W _ 2 2 (M.d1 0 rfl) M.olt (longN_big (by decide))) ?_
  rintro e W ⟨cs, he, hres, hb⟩
  rw [← tOf_eq (Nat.le_refl _)] at he hres
  rw [kt10_0.1] at he
  subst he
  have kz : sz kt10 ≤ 10000 := kt10_0.2.2.2.2.2.2
  obtain ⟨f1, f2⟩ := kt10_f
  obtain ⟨x, ha1, ha2⟩ := kt10_a
  obtain ⟨B, b1, b2, b3, b4, b5, b6, b7⟩ := kt10_b
  replace hres : RdL W _ (dN kt10) cs := hres
  obtain ⟨t, ht⟩ : ∃ t, t = kt10 := ⟨_, rfl⟩
  rw [← ht] at hres kz f1 f2 ha1 b1 b5 b6
  clear ht
  have hc5 := hres.len
  rw [dN_len] at hc5
  replace M := ((M.call hb).addL hres).fsub [.dat false (dN t) cs] (by simp)
  refine ⟨_, rfl, ?_⟩
  clear hres hb
  refine s_alloc (zN) M al_nd ?_
  clear M
  rintro g8 W M
  refine s_storeA 0 cs M rfl sz_nd rfl rfl hc5 ((M.da 0 rfl).ones (dN_one _)) rfl ?_
  clear M; rintro W M
  dsimp only [setL] at M
  -- opened for none
  replace M := M.addD (d := dLs []) (RdD.nil_ (s := 1) none 0)
  refine v_loadN cs agg_nd rfl hc5 (M.run 0 rfl) ?_
  have co := vonly_any t (by omega) [] _ _ cs (M.gl hG) (M.da 1 rfl) (M.d1 0 rfl) M.olt (by omega) (fun l h => by cases h)
  rw [f1] at co
  refine cc is_vonly co ?_
  clear co
  rintro e W ⟨cs9, rfl, r9, hb⟩
  obtain ⟨Ap, cp, Av, cv, Ak, ck, Ah, ch, rfl, -⟩ := r9.node
  replace M := (M.call hb).addL r9
  clear r9 hb
  refine ⟨_, rfl, ?_⟩
  refine s_alloc (zN) M al_nd ?_
  clear M
  rintro g9 W M
  first | refine s_storeA 0 (ncs (foldN t) Ap cp Av cv Ak ck Ah ch) M rfl (by kernel_rfl) rfl rfl rfl (all1 rfl) rfl ?_ | refine s_storeA 1 (ncs (foldN t) Ap cp Av cv Ak ck Ah ch) M rfl (by kernel_rfl) rfl rfl rfl (all1 rfl) rfl ?_ | refine s_storeA 2 (ncs (foldN t) Ap cp Av cv Ak ck Ah ch) M rfl (by kernel_rfl) rfl rfl rfl (all1 rfl) rfl ?_ | refine s_storeA 3 (ncs (foldN t) Ap cp Av cv Ak ck Ah ch) M rfl (by kernel_rfl) rfl rfl rfl (all1 rfl) rfl ?_
  clear M
  rintro W M
  dsimp only [setL] at M
  -- opened for one
  refine v_loadN cs agg_nd rfl hc5 (M.run 1 rfl) ?_
  refine s_bslice (bvs [1]) (fr := true) (ds := (bvs [1]).map D.v) M slb (zs := [.int .u8 0]) (by kernel_rfl) rfl (by decide) rfl (RdL.ofvals _) rfl ?_
  clear M; rintro g10 W M
  refine s_bslice [.slice (some ⟨g10, 0, none⟩) 1 1] (fr := true) (ds := [dB [1]]) M slls (zs := [.slice none 0 0]) (by kernel_rfl) rfl (by decide) rfl (M.dt 0 rfl) rfl ?_
  clear M; rintro g11 W M
  have co := vonly_any t (by omega) [[1]] _ _ cs (M.gl hG) (M.da 4 rfl) (M.d1 0 rfl) M.olt (by omega) (fun l h => by rw [List.mem_singleton.1 h]; decide)
  rw [b1] at co
  refine cc is_vonly co ?_
  clear co
  rintro e W ⟨cs9, rfl, r9, hb⟩
  obtain ⟨Bp, dp, Bv, dv, Bk, dk, Bh, dh, rfl, -, -, r4, -⟩ := r9.node
  replace M := ((M.call hb).addL r9).addD (r4)
  clear r9 hb r4
  refine ⟨_, rfl, ?_⟩
  refine s_alloc (zN) M al_nd ?_
  clear M
  rintro g12 W M
  first | refine s_storeA 0 (ncs B Bp dp Bv dv Bk dk Bh dh) M rfl (by kernel_rfl) rfl rfl rfl (all1 rfl) rfl ?_ | refine s_storeA 1 (ncs B Bp dp Bv dv Bk dk Bh dh) M rfl (by kernel_rfl) rfl rfl rfl (all1 rfl) rfl ?_ | refine s_storeA 2 (ncs B Bp dp Bv dv Bk dk Bh dh) M rfl (by kernel_rfl) rfl rfl rfl (all1 rfl) rfl ?_ | refine s_storeA 3 (ncs B Bp dp Bv dv Bk dk Bh dh) M rfl (by kernel_rfl) rfl rfl rfl (all1 rfl) rfl ?_
  clear M
  rintro W M
  dsimp only [setL] at M
  refine p_ne rfl rfl (fun _ => ?_) (fun h => absurd rfl h)
  refine p_fld fN0 rfl ?_
  refine v_load agg_int rfl ((M.B 1 rfl).at_ rfl) ?_
  refine p_ne rfl rfl (fun _ => ?_) (fun h => absurd f2 h)
  refine p_ne rfl rfl (fun _ => ?_) (fun h => absurd rfl h)
  refine p_fld fN4 rfl ?_
  refine v_load agg_ns rfl ((M.B 0 rfl).at_ rfl) ?_
  refine p_len sln rfl ?_
  refine p_ne rfl rfl (fun _ => ?_) (fun h => absurd (by rw [b2]; rfl) h)
  refine v_loadN cs agg_nd rfl hc5 (M.run 2 rfl) ?_
  refine s_bslice (bvs [1]) (fr := true) (ds := (bvs [1]).map D.v) M slb (zs := [.int .u8 0]) (by kernel_rfl) rfl (by decide) rfl (RdL.ofvals _) rfl ?_
  clear M; rintro g13 W M
  have ca := vat_any t (by omega) [1] _ _ cs (M.da 7 rfl) (M.d1 0 rfl) M.olt (by decide)
  rw [ha1] at ca
  refine cc is_vat ca ?_
  clear ca
  rintro e W ⟨cs9, rfl, r9, hb⟩
  obtain ⟨Cp, ep, Cv, ev, Ck, ek, Ch, eh, rfl, -⟩ := r9.node
  replace M := M.callF hb r9
  clear r9 hb
  refine ⟨_, rfl, ?_⟩
  refine s_alloc (zN) M al_nd ?_
  clear M
  rintro g14 W M
  first | refine s_storeA 0 (ncs x Cp ep Cv ev Ck ek Ch eh) M rfl (by kernel_rfl) rfl rfl rfl (all1 rfl) rfl ?_ | refine s_storeA 1 (ncs x Cp ep Cv ev Ck ek Ch eh) M rfl (by kernel_rfl) rfl rfl rfl (all1 rfl) rfl ?_ | refine s_storeA 2 (ncs x Cp ep Cv ev Ck ek Ch eh) M rfl (by kernel_rfl) rfl rfl rfl (all1 rfl) rfl ?_ | refine s_storeA 3 (ncs x Cp ep Cv ev Ck ek Ch eh) M rfl (by kernel_rfl) rfl rfl rfl (all1 rfl) rfl ?_
  clear M
  rintro W M
  dsimp only [setL] at M
  obtain ⟨y1, o1, es1, e1, hel1, M'⟩ := M.kid (M.d1 2 rfl) (getD_some (d := noneN) (show 1 < B.kids.length by omega))
  replace M := M'; clear M'
  obtain ⟨y2, o2, es2, e2, hel2, M'⟩ := M.kid (M.d1 4 rfl) (getD_some (d := noneN) (show 2 < B.kids.length by omega))
  replace M := M'; clear M'
  obtain ⟨Dp, fp, Dv, fv, Dk, fk, Dh, fh, rfl, -⟩ := (M.da 1 rfl).node
  obtain ⟨Ep, gp, Ev, gv, Ek, gk, Eh, gh, rfl, -⟩ := (M.da 3 rfl).node
  refine p_fld fN4 rfl ?_
  refine v_load agg_ns rfl ((M.B 1 rfl).at_ rfl) ?_
  refine p_at (i := 1) sln (by show (Value.slice Bk B.kids.length dk) = _; rw [e1]) rfl rfl (by omega) ?_
  refine p_fld fN0 rfl ?_
  refine v_load agg_int rfl (M.lc 2 rfl 0 _ rfl) ?_
  refine p_eq rfl rfl (fun _ => ?_) (fun h => absurd b3 h)
  refine p_fld fN4 rfl ?_
  refine v_load agg_ns rfl ((M.B 1 rfl).at_ rfl) ?_
  refine p_at (i := 2) sln (by show (Value.slice Bk B.kids.length dk) = _; rw [e2]) rfl rfl (by omega) ?_
  refine p_fld fN0 rfl ?_
  refine v_load agg_int rfl (M.lc 0 rfl 0 _ rfl) ?_
  refine p_eq rfl rfl (fun _ => ?_) (fun h => absurd b4 h)
  replace M := M.fsub [.dat true (dN x) (ncs x Cp ep Cv ev Ck ek Ch eh), .dat false (dN B) (ncs B Bp dp Bv dv Bk dk Bh dh), .dat false (dN t) cs] (by simp)
  refine v_loadN (ncs B Bp dp Bv dv Bk dk Bh dh) agg_nd rfl rfl (M.run 1 rfl) ?_
  refine v_loadN cs agg_nd rfl hc5 (M.run 3 rfl) ?_
  have ca := vAgr_any B t (by omega) (by omega) _ _ _ _ (M.gl hG) (M.da 1 rfl) (M.da 2 rfl) M.olt
  rw [b5] at ca
  refine cc is_vAgr ca ?_
  clear ca
  rintro e W ⟨rfl, hb⟩
  replace M := M.call hb
  clear hb
  refine ⟨_, rfl, ?_⟩
  refine v_loadN cs agg_nd rfl hc5 (M.run 3 rfl) ?_
  refine v_loadN (ncs B Bp dp Bv dv Bk dk Bh dh) agg_nd rfl rfl (M.run 1 rfl) ?_
  have ca := vAgr_any t B (by omega) (by omega) _ _ _ _ (M.gl hG) (M.da 2 rfl) (M.da 1 rfl) M.olt
  rw [b6] at ca
  refine cc is_vAgr ca ?_
  clear ca
  rintro e W ⟨rfl, hb⟩
  replace M := M.call hb
  clear hb
  refine ⟨_, rfl, ?_⟩
  refine p_not rfl ?_
  refine p_fld fN0 rfl ?_
  refine v_load agg_int rfl ((M.B 0 rfl).at_ rfl) ?_
  refine p_eq rfl rfl (fun _ => ?_) (fun h => absurd ha2 h)
  exact ⟨rfl, M.below⟩
end Go.Proofs.YtojjfkbffjkojaaDoor
namespace Go.Proofs.YtojjfkbffjkojaaDoor
open Go.RowKit


theorem RdS.rdD {W : World} {A : Option Addr} {n c : Nat} {ll : List (List UInt8)} (h : RdS W W.heap.size A n ll) (hc : n ≤ c) : RdD W (Fd W []) (dLs ll) (.slice A n c) := (h.toD hc).to fun b hb => ⟨rfl, hb, fun e => by cases e⟩
theorem sum_mem1 : ∀ (ll : List (List UInt8)) (l : List UInt8), l ∈ ll → l.length + 1 ≤ (ll.map fun x => x.length + 1).sum
  | x :: ll, l, h => by
    rw [List.map_cons, List.sum_cons]
    rcases List.mem_cons.1 h with rfl | h
    · omega
    · have := sum_mem1 ll l h; omega
theorem sum_len1 : ∀ (ll : List (List UInt8)), ll.length ≤ (ll.map fun x => x.length + 1).sum
  | [] => Nat.zero_le _
  | x :: ll => by have := sum_len1 ll; rw [List.map_cons, List.sum_cons, List.length_cons]; omega
theorem sz_set (ks : List Nd) (i : Nat) (k : Nd) : szs (ks.set i k) ≤ szs ks + sz k := by
  induction ks generalizing i with
  | nil => simp
  | cons x ks ih =>
    cases i with
    | zero => rw [List.set_cons_zero, szs, szs]; omega
    | succ i => have := ih i; rw [List.set_cons_succ, szs, szs]; omega
theorem laidF_sz : ∀ (N : Nat) (t : Nd) (w : List UInt8) (x : Nd), sz (laidF N t w x) ≤ N * sz t + sz x + sz t
  | 0, t, w, x => by rw [laidF]; omega
  | N + 1, t, w, x => by
    have hsz := sz_eq t
    have e : (N + 1) * sz t = N * sz t + sz t := Nat.succ_mul _ _
    have kd : ∀ i, sz (t.kids.getD i noneN) ≤ sz t := fun i => by
      by_cases h : i < t.kids.length
      · exact Nat.le_of_lt (sz_kidD t h)
      · rw [List.getD_eq_getElem?_getD, List.getElem?_eq_none (by omega)]
        have e : sz noneN = 6 := rfl
        show sz noneN ≤ _; omega
    have step : ∀ i w, sz (Nd.mk t.kind t.path t.has t.val (t.kids.set i (laidF N (t.kids.getD i noneN) w x)) t.hash) ≤ N * sz t + sz t + sz x + sz t := fun i w => by
      have h1 := sz_set t.kids i (laidF N (t.kids.getD i noneN) w x)
      have h2 := laidF_sz N (t.kids.getD i noneN) w x
      have h3 := kd i
      have h4 : N * sz (t.kids.getD i noneN) ≤ N * sz t := Nat.mul_le_mul_left _ h3
      rw [sz]
      omega
    rw [laidF, e]
    split
    · omega
    · split
      · exact step 0 _
      · exact step _ _
theorem shutK_sz (t : Nd) : sz (shutK t) ≤ 7 * sz t := by
  have hsz := sz_eq t
  have key : ∀ ks : List Nd, szs (ks.map foldN) ≤ 7 * szs ks := by
    intro ks
    induction ks with
    | nil => rw [List.map_nil, szs]; exact Nat.zero_le _
    | cons k ks ih =>
      have h1 := fold_sz k
      have h2 := sz_eq k
      rw [List.map_cons, szs, szs]; omega
  have := key t.kids
  unfold shutK
  rw [sz]; omega
theorem OpenP_sz (p f : Nd) (l : List UInt8) (hp : sz p ≤ 22000) (hf : sz f ≤ 22000) : sz (OpenP p f l).1 ≤ 900000000 := by
  have e : sz noneN = 6 := rfl
  unfold OpenP
  split
  · unfold openP
    split
    · rename_i s x h1 h2
      split
      · have hx := at_sz (sz f + 1) f l x (Nat.lt_succ_self _) h2
        have h3 := laidF_sz (sz p + 1) p l (shutK x)
        have h4 := shutK_sz x
        have h5 : (sz p + 1) * sz p ≤ 22001 * 22000 := Nat.mul_le_mul (by omega) hp
        show sz (laidF (sz p + 1) p l (shutK x)) ≤ _
        omega
      · show sz noneN ≤ _; omega
    · show sz noneN ≤ _; omega
  · show sz noneN ≤ _; omega
set_option maxRecDepth 100000 in
set_option maxHeartbeats 8000000 in
theorem revealOpens_walk (w : World) (hG : GL w []) {p : Nd} {cp : List Value} (hrp : RdL w (Fd w []) (dN p) cp) (hzp : sz p ≤ 1048576) {f : Nd} {cf : List Value} (hrf : RdL w (Fd w []) (dN f) cf) (hzf : sz f ≤ 1048576) {A1 : Option Addr} {n1 c1 : Nat} {l : List UInt8} (g1 : RdD w (Fd w []) (dB l) (.slice A1 n1 c1)) (_b1 : l.length ≤ 1048576) {A2 : Option Addr} {n2 c2 : Nat} {ways : List (List UInt8)} (g2 : RdD w (Fd w []) (dLs ways) (.slice A2 n2 c2)) (b2 : (ways.map fun x => x.length + 1).sum ≤ 1048576) :
    Calls Tryd.prog 5 #[.agg cp.toArray, .agg cf.toArray, .slice A1 n1 c1, .slice A2 n2 c2] w (RetTrue w) := by
  refine calls_ev (args := [.agg cp.toArray, .agg cf.toArray, .slice A1 n1 c1, .slice A2 n2 c2]) mixed Tryd.func5 rfl (by kernel_rfl) ?_
  have hlp := hrp.len
  have hlf := hrf.len
  rw [dN_len] at hlp hlf
  have en1 := g1.slen
  have en2 : n2 = ways.length := g2.slen
  subst en1
  subst en2
  have hwl : ∀ x ∈ ways, x.length ≤ 10000000 := fun x hx => by have := sum_mem1 ways x hx; omega
  have hwn := sum_len1 ways
  have M := ((((St.start (w := w) (gs := []) (fun b h => by cases h)).addD g2).addD g1).addL hrf).addL hrp
  clear g1 g2 hrf hrp
  refine s_box (cp) M rfl ?_
  clear M
  rintro gp W M
  refine s_box (cf) M rfl ?_
  clear M
  rintro gf W M
  refine v_loadN cp agg_nd rfl hlp (M.run 1 rfl) ?_
  refine cc is_much10 (much10_any p (by omega) _ _ cp (M.da 0 rfl) M.olt) ?_
  rintro e W ⟨he, hb⟩
  obtain ⟨qa, hqqa⟩ : ∃ q, q = decide (400 ≤ muchP p 400) := ⟨_, rfl⟩
  rw [← hqqa] at he
  subst he
  replace M := M.call hb
  clear hb
  refine ⟨_, rfl, ?_⟩
  cases qa with
  | true =>
    refine cc is_kn10 (known10_any _ _ (M.gl hG) M.olt) ?_
    rintro e W ⟨rfl, hb⟩
    replace M := M.call hb
    clear hb
    exact ⟨_, rfl, rfl, M.below⟩
  | false =>
  refine v_loadN cf agg_nd rfl hlf (M.run 0 rfl) ?_
  refine cc is_much10 (much10_any f (by omega) _ _ cf (M.da 1 rfl) M.olt) ?_
  rintro e W ⟨he, hb⟩
  obtain ⟨qb, hqqb⟩ : ∃ q, q = decide (400 ≤ muchP f 400) := ⟨_, rfl⟩
  rw [← hqqb] at he
  subst he
  replace M := M.call hb
  clear hb
  refine ⟨_, rfl, ?_⟩
  cases qb with
  | true =>
    refine cc is_kn10 (known10_any _ _ (M.gl hG) M.olt) ?_
    rintro e W ⟨rfl, hb⟩
    replace M := M.call hb
    clear hb
    exact ⟨_, rfl, rfl, M.below⟩
  | false =>
  have hz2 := much10_no hqqa.symm
  have hz3 := much10_no hqqb.symm
  clear hqqa hqqb
  refine p_len slb rfl ?_
  refine p_gt rfl rfl (fun k1 => ?_) (fun k1 => ?_)
  ·
    refine cc is_kn10 (known10_any _ _ (M.gl hG) M.olt) ?_
    rintro e W ⟨rfl, hb⟩
    replace M := M.call hb
    clear hb
    exact ⟨_, rfl, rfl, M.below⟩
  refine p_len slls rfl ?_
  refine p_gt rfl rfl (fun k2 => ?_) (fun k2 => ?_)
  ·
    refine cc is_kn10 (known10_any _ _ (M.gl hG) M.olt) ?_
    rintro e W ⟨rfl, hb⟩
    replace M := M.call hb
    clear hb
    exact ⟨_, rfl, rfl, M.below⟩
  have k2 : ways.length ≤ 12 := by have h : ¬ (12 : Int) < (ways.length : Int) := k2; omega
  clear k1
  refine lp Nat (fun i W => i ≤ ways.length ∧ St w [] W [(gf, 26, cf), (gp, 26, cp)] [] [.dat false (dN p) cp, .dat false (dN f) cf, .dat false [dB l] [.slice A1 l.length c1], .dat false [dLs ways] [.slice A2 ways.length c2]])
    (fun i => [(2, .slice A1 l.length c1), (3, .slice A2 ways.length c2), (4, .pointer (some ⟨gp, 0, none⟩)), (5, .pointer (some ⟨gf, 0, none⟩)), (9, .int .i64 (i : Nat))]) (fun i => ways.length - i) 0 ⟨Nat.zero_le _, M⟩ (by repeat (first | exact trivial | refine ⟨rfl, ?_⟩)) ?_
  clear M
  rintro i E W ⟨hi, M⟩
  refine p_len slls rfl ?_
  refine p_lt rfl rfl (fun hlt => ?_) (fun hge => ?_)
  · have hlt : i < ways.length := by have h : (i : Int) < (ways.length : Int) := hlt; omega
    obtain ⟨x, hx⟩ : ∃ x, ways[i]? = some x := ⟨_, List.getElem?_eq_getElem hlt⟩
    obtain ⟨y1, o1, A8, c8, e1, hF, r8, hcell⟩ := (M.d1 3 rfl).atL hx
    subst e1
    refine p_at (i := i) slls rfl rfl rfl hlt ?_
    refine v_load agg_b rfl hcell ?_
    clear hcell hF r8
    refine p_len slb rfl ?_
    refine p_gt rfl rfl (fun k3 => ?_) (fun k3 => ?_)
    ·
      refine cc is_kn10 (known10_any _ _ (M.gl hG) M.olt) ?_
      rintro e W ⟨rfl, hb⟩
      replace M := M.call hb
      clear hb
      exact ⟨_, rfl, rfl, M.below⟩
    refine p_addN (b := 1) rfl rfl (by omega) ?_
    exact ⟨i + 1, ⟨by omega, M⟩, (by repeat (first | exact trivial | refine ⟨rfl, ?_⟩)), by omega⟩
  refine v_loadN cf agg_nd rfl hlf (M.run 0 rfl) ?_
  refine cc is_r7hash (rhash_any f (by omega) _ _ _ (M.da 1 rfl) M.olt) ?_
  rintro e W ⟨A5, n5, c5, rfl, o, hb⟩
  replace M := M.callO hb o
  clear o hb
  refine ⟨_, rfl, ?_⟩
  have hOz := OpenP_sz p f l hz2 hz3
  obtain ⟨O, hO⟩ : ∃ O, O = OpenP p f l := ⟨_, rfl⟩
  rw [← hO] at hOz
  obtain ⟨Q, hQ⟩ : ∃ Q, Q = onlyP f ways := ⟨_, rfl⟩
  have hQz : sz Q.1 ≤ 900000000 := by
    rw [hQ]
    unfold onlyP
    split
    · have := on_sz (S := Sof ways) (sz f + 1) f [] (Nat.lt_succ_self _)
      show sz (onP (Sof ways) f []) ≤ _
      omega
    · have e : sz noneN = 6 := rfl
      show sz noneN ≤ _; omega
  refine v_loadN cp agg_nd rfl hlp (M.run 1 rfl) ?_
  refine v_loadN cf agg_nd rfl hlf (M.run 0 rfl) ?_
  have ca := vOpen_any p f (by omega) (by omega) l _ _ cp cf (M.gl hG) (M.da 1 rfl) (M.da 2 rfl) (M.d1 3 rfl) M.olt (by omega)
  rw [← hO] at ca
  refine cc is_vOpen ca ?_
  clear ca
  rintro e W ⟨c11, rfl, r9, hb⟩
  have hl11 := r9.len
  rw [dN_len] at hl11
  replace M := (M.call hb).addL r9
  clear r9 hb
  refine ⟨_, rfl, ?_⟩
  refine s_alloc (zN) M al_nd ?_
  clear M
  rintro g11 W M
  refine s_storeA 0 c11 M rfl sz_nd rfl rfl hl11 ((M.da 0 rfl).ones (dN_one _)) rfl ?_
  clear M; rintro W M
  dsimp only [setL] at M
  refine v_loadN cp agg_nd rfl hlp (M.run 2 rfl) ?_
  refine v_loadN cf agg_nd rfl hlf (M.run 1 rfl) ?_
  have ca := tOpen_any p f (by omega) (by omega) l _ _ cp cf (M.da 2 rfl) (M.da 3 rfl) (M.d1 4 rfl) M.olt (by omega)
  rw [← hO] at ca
  refine cc is_tOpen ca ?_
  clear ca
  rintro e W ⟨c13, rfl, r9, hb⟩
  have hl13 := r9.len
  rw [dN_len] at hl13
  replace M := (M.call hb).addL r9
  clear r9 hb
  refine ⟨_, rfl, ?_⟩
  refine s_alloc (zN) M al_nd ?_
  clear M
  rintro g13 W M
  refine s_storeA 0 c13 M rfl sz_nd rfl rfl hl13 ((M.da 0 rfl).ones (dN_one _)) rfl ?_
  clear M; rintro W M
  dsimp only [setL] at M
  refine v_loadN cf agg_nd rfl hlf (M.run 2 rfl) ?_
  have ca := vonly_any f (by omega) ways _ _ cf (M.gl hG) (M.da 4 rfl) (M.d1 6 rfl) M.olt (by omega) hwl
  rw [← hQ] at ca
  refine cc is_vonly ca ?_
  clear ca
  rintro e W ⟨c15, rfl, r9, hb⟩
  have hl15 := r9.len
  rw [dN_len] at hl15
  replace M := (M.call hb).addL r9
  clear r9 hb
  refine ⟨_, rfl, ?_⟩
  refine s_alloc (zN) M al_nd ?_
  clear M
  rintro g15 W M
  refine s_storeA 0 c15 M rfl sz_nd rfl rfl hl15 ((M.da 0 rfl).ones (dN_one _)) rfl ?_
  clear M; rintro W M
  dsimp only [setL] at M
  refine v_loadN cf agg_nd rfl hlf (M.run 3 rfl) ?_
  have ca := tonly_any f (by omega) ways _ _ cf (M.da 5 rfl) (M.d1 7 rfl) M.olt (by omega) hwl
  rw [← hQ] at ca
  refine cc is_tonly ca ?_
  clear ca
  rintro e W ⟨c17, rfl, r9, hb⟩
  have hl17 := r9.len
  rw [dN_len] at hl17
  replace M := (M.call hb).addL r9
  clear r9 hb
  refine ⟨_, rfl, ?_⟩
  refine s_alloc (zN) M al_nd ?_
  clear M
  rintro g17 W M
  refine s_storeA 0 c17 M rfl sz_nd rfl rfl hl17 ((M.da 0 rfl).ones (dN_one _)) rfl ?_
  clear M; rintro W M
  dsimp only [setL] at M
  clear hO hQ
  obtain ⟨O1, O2⟩ := O
  obtain ⟨Q1, Q2⟩ := Q
  dsimp only at M hOz hQz
  refine v_loadN c11 agg_nd rfl hl11 (M.run 3 rfl) ?_
  refine v_loadN c13 agg_nd rfl hl13 (M.run 2 rfl) ?_
  refine cc is_r7same (rsame_any 1000000000 (Nat.le_refl _) O1 (by omega) O1 _ _ _ _ (M.da 3 rfl) (M.da 2 rfl) M.olt (by omega)) ?_
  rintro e W ⟨q, rfl, hq, hb⟩
  obtain rfl := hq.2 rfl
  replace M := M.call hb
  clear hb hq
  refine ⟨_, rfl, ?_⟩
  refine p_eq rfl rfl (fun _ => ?_) (fun h => absurd rfl h)
  refine v_loadN c15 agg_nd rfl hl15 (M.run 1 rfl) ?_
  refine v_loadN c17 agg_nd rfl hl17 (M.run 0 rfl) ?_
  refine cc is_r7same (rsame_any 1000000000 (Nat.le_refl _) Q1 (by omega) Q1 _ _ _ _ (M.da 1 rfl) (M.da 0 rfl) M.olt (by omega)) ?_
  rintro e W ⟨q, rfl, hq, hb⟩
  obtain rfl := hq.2 rfl
  replace M := M.call hb
  clear hb hq
  refine ⟨_, rfl, ?_⟩
  refine p_eq rfl rfl (fun _ => ?_) (fun h => absurd rfl h)
  refine v_loadN cf agg_nd rfl hlf (M.run 4 rfl) ?_
  refine cc is_r7hash (rhash_any f (by omega) _ _ _ (M.da 6 rfl) M.olt) ?_
  rintro e W ⟨A6, n6, c6, rfl, o, hb⟩
  replace M := M.callO hb o
  clear o hb
  refine ⟨_, rfl, ?_⟩
  obtain ⟨q, hq, hc⟩ := same_tf (c1 := c5) (c2 := c6) (M.rdb 5 rfl).2.2 (M.rdb 0 rfl).2.2
  obtain rfl := hq.2 rfl
  refine cc is_same0 hc ?_
  rintro e W' ⟨rfl, rfl⟩
  refine ⟨_, rfl, ?_⟩
  refine cc is_kn10 (known10_any _ _ (M.gl hG) M.olt) ?_
  rintro e W ⟨rfl, hb⟩
  replace M := M.call hb
  clear hb
  exact ⟨_, rfl, rfl, M.below⟩
end Go.Proofs.YtojjfkbffjkojaaDoor
namespace Go.Proofs.YtojjfkbffjkojaaDoor
open Go.RowKit Go.ChangeShapes
theorem gBegin : Tryd.prog.globalNamed "exchequer/digest.begin" = some 0 := by kernel_rfl
theorem gRoots : Tryd.prog.globalNamed "exchequer/digest.roots" = some 1 := by kernel_rfl
theorem tBegin : (Tryd.prog.globals[0]?).map (·.type) = some 130 := by kernel_rfl
theorem tRoots : (Tryd.prog.globals[1]?).map (·.type) = some 133 := by kernel_rfl
theorem cB : Tryd.prog.cellsOf 130 = 8 := by kernel_rfl
theorem cR : Tryd.prog.cellsOf 133 = 64 := by kernel_rfl
theorem cU : Tryd.prog.cellsOf 94 = 1 := by kernel_rfl
def laidL : List (String × DataW Unit) := [("exchequer/digest.begin", Rows.laid_exchequer_digest_begin), ("exchequer/digest.roots", Rows.laid_exchequer_digest_roots)]
theorem gl_of {W : World} (h : laidMetH Tryd.prog laidL W) : GL W [] := by
  rw [MakeChecks.laidMetH_plain _ _ _ (by kernel_rfl)] at h
  have hb : Lib.TabIs Tryd.prog W "exchequer/digest.begin" .u32 [1779033703, 3144134277, 1013904242, 2773480762, 1359893119, 2600822924, 528734635, 1541459225] :=
    Lib.tabIs_of_head (rest := [("exchequer/digest.roots", Rows.laid_exchequer_digest_roots)]) gBegin tBegin Tryd.underlying130 Tryd.underlying94 cU cB h
  obtain ⟨ps, ⟨g0, t0, cs0, f0, p0, q0, hg0, ht0, hv0, hd0, ⟨g1, t1, cs1, f1, p1, q1, hg1, ht1, hv1, hd1, _, _⟩, _⟩, _, _⟩ := h
  obtain rfl := Option.some.inj (gRoots.symm.trans hg1)
  obtain rfl := Option.some.inj (tRoots.symm.trans ht1)
  have hr : Lib.TabIs Tryd.prog W "exchequer/digest.roots" .u32 (List.map (fun (n : Nat) => (n : Int)) roots) := by
    unfold Lib.TabIs
    rw [hv1, ← Lib.cells_of_tab Tryd.underlying133 Tryd.underlying94 cU cR hd1]
  refine ⟨fun j hj => ?_, fun j v hv => ?_, ?_, by simp, by simp⟩
  · have := hr.cell gRoots j (by rw [List.length_map]; exact hj)
    rw [this]
    unfold cu
    congr 2
    rw [List.getD_eq_getElem?_getD, List.getD_eq_getElem?_getD, List.getElem?_map]
    have : j < roots.length := hj
    rw [List.getElem?_eq_getElem this]; rfl
  · have hj := (List.getElem?_eq_some_iff.1 hv).1
    have := hb.cell gBegin j hj
    rw [this]
    have hj8 : j = 0 ∨ j = 1 ∨ j = 2 ∨ j = 3 ∨ j = 4 ∨ j = 5 ∨ j = 6 ∨ j = 7 := by have : j < 8 := hj; omega
    rcases hj8 with rfl | rfl | rfl | rfl | rfl | rfl | rfl | rfl <;> exact hv
  · have := hr.cell gRoots 0 (by decide)
    have := World.block_lt_of_cell? W _ this
    exact this
/-- A world for the witness: the tables hold what their initialisers lay. -/
def layAt (cs : List Value) : Obj → Obj
  | .cells _ t frozen => .cells cs.toArray t frozen
  | o => o
noncomputable def laidWorld (os : Os) : World :=
  { World.holding Tryd.prog os ⟨#[], #[], []⟩ with heap := ((World.holding Tryd.prog os ⟨#[], #[], []⟩).heap.modify 0 (layAt (hc begin8))).modify 1 (layAt (roots.map cu)) }
end Go.Proofs.YtojjfkbffjkojaaDoor
