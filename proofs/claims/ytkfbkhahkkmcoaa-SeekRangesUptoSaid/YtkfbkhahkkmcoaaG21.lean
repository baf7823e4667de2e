/- Seek, plainly: ranges of full tries, of folded ones; what begins so; from pair to pair. law09: long, much, folded. law09: known. The walks of the laws SeekRanges and SeekFinds. -/
import Derived.Test.YtkfbkhahkkmcoaaG19
import Derived.Test.YtkfbkhahkkmcoaaG20
namespace Go.Proofs.Ytkfbkhahkkmcoaa
open Go.RowKit
def selR (low high : List UInt8) (l : List Pr) : List Pr := l.filter fun p => inR p.k low high
theorem rGo_map (low high : List UInt8) (most : Int) : ∀ (l : List Pr) (out : List Pr), (out.length : Int) ≤ most → rGo low high most (l.map itOf) out = ⟨out ++ (selR low high l).take (most.toNat - out.length), none, 0⟩
  | [], out, h => by simp [rGo, selR]
  | p :: l, out, h => by
    rw [List.map_cons]
    by_cases hl : (out.length : Int) < most
    · rw [rGo, if_pos hl, if_neg (show ¬ ((itOf p).stub = true ∧ _) from fun h => by cases h.1)]
      have eb : bytesL (itOf p).path = p.k := (bytes_ofB p.k).2
      rw [eb]
      by_cases hi : inR p.k low high = true
      · rw [if_pos ⟨rfl, hi⟩]
        have hln : (out ++ [(⟨p.k, (itOf p).val⟩ : Pr)]).length = out.length + 1 := by simp
        rw [rGo_map low high most l _ (by rw [hln]; omega), hln, List.append_assoc]
        have es : selR low high (p :: l) = p :: selR low high l := by unfold selR; rw [List.filter_cons, if_pos hi]
        have en : most.toNat - out.length = (most.toNat - (out.length + 1)) + 1 := by omega
        rw [es, en, List.take_succ_cons]
        rfl
      · rw [if_neg (fun h => hi h.2), rGo_map low high most l out h]
        have es : selR low high (p :: l) = selR low high l := by unfold selR; rw [List.filter_cons, if_neg hi]
        rw [es]
    · rw [rGo_full _ _ _ _ _ hl, show most.toNat - out.length = 0 by omega, List.take_zero, List.append_nil]
theorem selR_rev (low high : List UInt8) (l : List Pr) : selR low high l.reverse = (selR low high l).reverse := by unfold selR; rw [List.filter_reverse]
theorem range_full {t : Nd} (h : Full t) (low high : List UInt8) {most : Int} (h0 : 0 ≤ most) (back : Bool) : rangeP t low high most back = ⟨(match back with | false => selR low high (prsT t) | true => (selR low high (prsT t)).reverse).take most.toNat, none, 0⟩ := by
  rw [range_ref]
  unfold rangeR
  rw [full_check h, if_pos rfl, if_neg (by omega), prs_items h]
  cases back with
  | false => dsimp only; rw [rGo_map low high most _ [] (by simpa using h0)]; simp
  | true => dsimp only; rw [← List.map_reverse, rGo_map low high most _ [] (by simpa using h0), selR_rev]; simp
theorem rGo_len (low high : List UInt8) (most : Int) : ∀ (l : List It) (out : List Pr), (rGo low high most l out).l.length ≤ out.length + l.length
  | [], out => by rw [rGo]; simp
  | x :: l, out => by
    rw [rGo]
    split
    · split
      · simp
      · refine Nat.le_trans (rGo_len low high most l _) ?_
        split <;> simp <;> omega
    · simp
theorem range_len (t : Nd) (low high : List UInt8) (most : Int) (back : Bool) : (rangeP t low high most back).l.length ≤ sz t := by
  rw [range_ref]
  have hl := itemsP_len t [] true
  unfold rangeR
  split
  · split
    · simp
    · cases back with
      | false => have := rGo_len low high most (itemsP t [] true) []; simp at this; dsimp only; omega
      | true => have := rGo_len low high most (itemsP t [] true).reverse []; simp at this; dsimp only; omega
  · simp
theorem inR_nil (key low : List UInt8) : inR key low [] = decide (0 ≤ cmpB key low) := by unfold inR; simp
theorem inR_cons (key low high : List UInt8) (h : high ≠ []) : inR key low high = (decide (0 ≤ cmpB key low) && decide (cmpB key high < 0)) := by
  unfold inR
  rw [decide_eq_false (fun e => h (List.length_eq_zero_iff.1 e)), Bool.false_or]
theorem cmp_nil_le (k : List UInt8) : 0 ≤ cmpB k [] := by
  cases k with
  | nil => rw [cmpB_nil]; omega
  | cons x k => rw [cmpB_cons_nil]; omega
theorem parts : ∀ {r : List Pr} (key : List UInt8), Ris r → key ≠ [] → selR [] key r ++ selR key [] r = r
  | [], _, _, _ => rfl
  | p :: r, key, h, hk => by
    have h' := List.pairwise_cons.1 h
    have ih := parts key h'.2 hk
    have e1 : ∀ q : Pr, inR q.k [] key = decide (cmpB q.k key < 0) := fun q => by rw [inR_cons _ _ _ hk, decide_eq_true (cmp_nil_le q.k), Bool.true_and]
    have e2 : ∀ q : Pr, inR q.k key [] = decide (0 ≤ cmpB q.k key) := fun q => inR_nil _ _
    by_cases hc : cmpB p.k key < 0
    · have a1 : selR [] key (p :: r) = p :: selR [] key r := by unfold selR; rw [List.filter_cons, if_pos (by rw [e1, decide_eq_true hc])]
      have a2 : selR key [] (p :: r) = selR key [] r := by unfold selR; rw [List.filter_cons, if_neg (by rw [e2, decide_eq_false (by omega)]; simp)]
      rw [a1, a2, List.cons_append, ih]
    · have hall : ∀ q ∈ p :: r, ¬ cmpB q.k key < 0 := fun q hq => by
        rcases List.mem_cons.1 hq with rfl | hq
        · exact hc
        · intro hlt; exact hc (cmp_trans (h'.1 q hq) hlt)
      have a1 : selR [] key (p :: r) = [] := by
        unfold selR
        rw [List.filter_eq_nil_iff]
        intro q hq hh
        rw [e1, decide_eq_true_eq] at hh
        exact hall q hq hh
      have a2 : selR key [] (p :: r) = p :: r := by
        unfold selR
        rw [List.filter_eq_self]
        intro q hq
        rw [e2, decide_eq_true_eq]
        have := hall q hq; omega
      rw [a1, a2, List.nil_append]
structure FoI (w : List UInt8) (a b : List It) : Prop where
  ex : ∃ A B C : List It, ∃ kn h, a = A ++ ⟨w, [], true, kn, h⟩ :: B ∧ b = A ++ C ++ B ∧ ∀ y ∈ C, w <+: y.path
theorem FoI.app {w : List UInt8} {a b : List It} (h : FoI w a b) (X Y : List It) : FoI w (X ++ a ++ Y) (X ++ b ++ Y) := by
  obtain ⟨A, B, C, kn, hs, rfl, rfl, hC⟩ := h.ex
  exact ⟨X ++ A, B ++ Y, C, kn, hs, by simp, by simp, hC⟩
end Go.Proofs.Ytkfbkhahkkmcoaa
namespace Go.Proofs.Ytkfbkhahkkmcoaa
open Go.RowKit
def much9P (t : Nd) (a b : List UInt8) : Bool := decide (700 ≤ muchP t 700) || (decide (500 < a.length) || decide (500 < b.length))
theorem is_much9 : isFn Try.prog 16 = true := by kernel_rfl
set_option maxRecDepth 100000 in
set_option maxHeartbeats 1000000 in
theorem much9_any (t : Nd) (ht : sz t ≤ 900000000) (a b : List UInt8) (gs : List (Option Nat)) (w : World) (cs : List Value) (A1 A2 : Option Addr) (n1 c1 n2 c2 : Nat) (hr : RdL w (Fd w gs) (dN t) cs) (h1 : RdD w (Fd w gs) (dB a) (.slice A1 n1 c1)) (h2 : RdD w (Fd w gs) (dB b) (.slice A2 n2 c2)) (hgs : ∀ b, some b ∈ gs → b < w.heap.size) :
    Calls Try.prog 16 #[.agg cs.toArray, .slice A1 n1 c1, .slice A2 n2 c2] w fun e w' => e = .returned (.bool (much9P t a b)) ∧ Below w.heap.size w w' := by
  refine calls_ev (args := [.agg cs.toArray, .slice A1 n1 c1, .slice A2 n2 c2]) mixed Try.func16 rfl (by kernel_rfl) ?_
  have e1 := h1.slen
  have e2 := h2.slen
  have hcl := hr.len
  rw [dN_len] at hcl
  have M := (St.start hgs).addL hr
  refine s_box (cs) M rfl ?_
  clear M
  rintro g1 W M
  refine v_loadN cs agg_nd rfl hcl (M.run 0 rfl) ?_
  refine cc is_r7much (much_any 1000000000 (Nat.le_refl _) t (by omega) _ _ cs 700 (by first | with_reducible exact M.da_0 | with_reducible exact M.da_1 | with_reducible exact M.da_2 | with_reducible exact M.da_3 | with_reducible exact M.da_4 | with_reducible exact M.da_5 | with_reducible exact M.da_6 | with_reducible exact M.da_7 | with_reducible exact M.da_8 | with_reducible exact M.da_9 | with_reducible exact M.da_10 | with_reducible exact M.da_11) M.olt (by decide)) ?_
  rintro e W ⟨rfl, hb⟩
  replace M := M.call hb
  refine ⟨_, rfl, ?_⟩
  unfold much9P
  refine p_ge rfl rfl (fun h => ?_) (fun h => ?_)
  · rw [decide_eq_true (show 700 ≤ muchP t 700 by omega)]
    exact ⟨rfl, M.below⟩
  · rw [decide_eq_false (show ¬ 700 ≤ muchP t 700 by omega), Bool.false_or]
    refine p_len slb rfl ?_
    refine p_gt rfl rfl (fun h => ?_) (fun h => ?_)
    · rw [decide_eq_true (show 500 < a.length by omega)]
      exact ⟨rfl, M.below⟩
    · rw [decide_eq_false (show ¬ 500 < a.length by omega), Bool.false_or]
      refine p_len slb rfl ?_
      refine p_gt rfl rfl (fun h => ?_) (fun h => ?_)
      · exact ⟨ret_tf (decide_eq_true (by omega)).symm, M.below⟩
      · exact ⟨ret_tf (decide_eq_false (by omega)).symm, M.below⟩
theorem much9_no {t : Nd} {a b : List UInt8} (h : much9P t a b = false) : sz t ≤ 38500 ∧ a.length ≤ 500 ∧ b.length ≤ 500 := by
  unfold much9P at h
  rw [Bool.or_eq_false_iff, Bool.or_eq_false_iff, decide_eq_false_iff_not, decide_eq_false_iff_not, decide_eq_false_iff_not] at h
  have := much_sz t 700 (by omega)
  omega
end Go.Proofs.Ytkfbkhahkkmcoaa
namespace Go.Proofs.Ytkfbkhahkkmcoaa
open Go.RowKit

theorem kf8 : Full kt8 ∧ prsT kt8 = [⟨[1], [97]⟩, ⟨[1, 2], [98]⟩, ⟨[17], [99]⟩] := by
  have h := tOf_prs (l := kl8) (by decide +kernel)
  exact ⟨h.2.1, h.2.2.trans (by decide +kernel)⟩
theorem kr9_1 : rangeP kt8 [1, 1] [17] 9 false = ⟨[⟨[1, 2], [98]⟩], none, 0⟩ := by
  rw [range_full kf8.1 _ _ (by decide), kf8.2]
  dsimp only
  rw [show List.take (9 : Int).toNat (selR [1, 1] [17] [⟨[1], [97]⟩, ⟨[1, 2], [98]⟩, ⟨[17], [99]⟩]) = [⟨[1, 2], [98]⟩] by decide +kernel]
theorem kr9_2 : rangeP kt8 [] [] 2 true = ⟨[⟨[17], [99]⟩, ⟨[1, 2], [98]⟩], none, 0⟩ := by
  rw [range_full kf8.1 _ _ (by decide), kf8.2]
  dsimp only
  rw [show List.take (2 : Int).toNat (selR [] [] [⟨[1], [97]⟩, ⟨[1, 2], [98]⟩, ⟨[17], [99]⟩]).reverse = [⟨[17], [99]⟩, ⟨[1, 2], [98]⟩] by decide +kernel]
theorem kr9_3 : fromP kt8 [2] = ⟨⟨[17], [99]⟩, true, none, 0⟩ := by
  have h : rangeP kt8 [2] [] 1 false = ⟨[⟨[17], [99]⟩], none, 0⟩ := by
    rw [range_full kf8.1 _ _ (by decide), kf8.2]
    dsimp only
    rw [show List.take (1 : Int).toNat (selR [2] [] [⟨[1], [97]⟩, ⟨[1, 2], [98]⟩, ⟨[17], [99]⟩]) = [⟨[17], [99]⟩] by decide +kernel]
  unfold fromP
  rw [h]
theorem kr9_4 : rangeP (foldN kt8) [] [] 1 false = ⟨[], some [], 80⟩ := by
  have hf : foldN kt8 = .mk 4 [] false [] [] (hashR kt8) := by unfold foldN; rw [if_neg (by rw [kt8_0.2.1]; decide)]
  rw [range_ref, hf]
  unfold rangeR
  have hc : checkE (.mk 4 [] false [] [] (hashR kt8)) = 0 := by
    unfold checkE
    rw [right_of_val (.stub 0 _ (by omega) kt8_h), if_pos rfl]
  rw [if_pos hc, if_neg (by decide)]
  dsimp only
  rw [items_stub, rGo, if_pos (by decide), if_pos ⟨rfl, by decide +kernel⟩]
set_option maxRecDepth 100000 in
set_option maxHeartbeats 4000000 in
theorem known9_any (w : World) : Calls Try.prog 17 #[] w fun e w' => e = .returned (.bool true) ∧ Below w.heap.size w w' := by
  refine calls_ev (args := []) mixed Try.func17 rfl (by kernel_rfl) ?_
  have M := St.start (w := w) (gs := []) (fun b h => by cases h)
  refine s_bslice (bvs [1]) (fr := true) (ds := (bvs [1]).map D.v) M slb (zs := [.int .u8 0]) (by kernel_rfl) rfl (by decide) rfl (RdL.ofvals _) rfl ?_
  clear M; rintro g1 W M
  refine s_bsliceB (bvs [97]) M slb (zs := [.int .u8 0]) (by kernel_rfl) rfl (by decide) rfl ?_
  clear M; rintro g2 W M
  refine s_cvtB [97] M rfl rfl (Nat.le_refl _) ?_
  clear M; rintro W M
  refine p_build (vs := [.slice (some ⟨g1, 0, none⟩) 1 1, .slice (some ⟨g2, 0, none⟩) 1 1]) pl_pr z_pr rfl ?_
  refine s_bslice (bvs [1, 2]) (fr := true) (ds := (bvs [1, 2]).map D.v) M slb (zs := [.int .u8 0]) (by kernel_rfl) rfl (by decide) rfl (RdL.ofvals _) rfl ?_
  clear M; rintro g3 W M
  refine s_bsliceB (bvs [98]) M slb (zs := [.int .u8 0]) (by kernel_rfl) rfl (by decide) rfl ?_
  clear M; rintro g4 W M
  refine s_cvtB [98] M rfl rfl (Nat.le_refl _) ?_
  clear M; rintro W M
  refine p_build (vs := [.slice (some ⟨g3, 0, none⟩) 2 2, .slice (some ⟨g4, 0, none⟩) 1 1]) pl_pr z_pr rfl ?_
  refine s_bslice (bvs [17]) (fr := true) (ds := (bvs [17]).map D.v) M slb (zs := [.int .u8 0]) (by kernel_rfl) rfl (by decide) rfl (RdL.ofvals _) rfl ?_
  clear M; rintro g5 W M
  refine s_bsliceB (bvs [99]) M slb (zs := [.int .u8 0]) (by kernel_rfl) rfl (by decide) rfl ?_
  clear M; rintro g6 W M
  refine s_cvtB [99] M rfl rfl (Nat.le_refl _) ?_
  clear M; rintro W M
  refine p_build (vs := [.slice (some ⟨g5, 0, none⟩) 1 1, .slice (some ⟨g6, 0, none⟩) 1 1]) pl_pr z_pr rfl ?_
  have hall : RdL W (Ft w W (own [] [] []) true) (dPrs kl8) [.slice (some ⟨g1, 0, none⟩) 1 1, .slice (some ⟨g2, 0, none⟩) 1 1, .slice (some ⟨g3, 0, none⟩) 2 2, .slice (some ⟨g4, 0, none⟩) 1 1, .slice (some ⟨g5, 0, none⟩) 1 1, .slice (some ⟨g6, 0, none⟩) 1 1] :=
    RdL.cons (M.dt 5 rfl).hd (RdL.cons (M.dt 4 rfl).hd (RdL.cons (M.dt 3 rfl).hd (RdL.cons (M.dt 2 rfl).hd (RdL.cons (M.dt 1 rfl).hd (RdL.cons (M.dt 0 rfl).hd RdL.nil_)))))
  refine s_bslice [.slice (some ⟨g1, 0, none⟩) 1 1, .slice (some ⟨g2, 0, none⟩) 1 1, .slice (some ⟨g3, 0, none⟩) 2 2, .slice (some ⟨g4, 0, none⟩) 1 1, .slice (some ⟨g5, 0, none⟩) 1 1, .slice (some ⟨g6, 0, none⟩) 1 1] (fr := true) (ds := dPrs kl8) M slp z_pr rfl (by decide) rfl hall rfl ?_
  clear M hall; rintro g7 W M
  refine cc is_r8of (r8of_any 401 (Nat.le_refl _) kl8 _ W _ 3 3 (M.d1 0 rfl) M.olt (longN_big (by decide))) ?_
  rintro e W ⟨cs, he, hres, hb⟩
  rw [← tOf_eq (Nat.le_refl _)] at he hres
  have kz : sz kt8 ≤ 10000 := kt8_0.2.2.2.2.2.2.2.2.2
  have kzf : sz (foldN kt8) ≤ 1000000 := by have := sz_foldN kf8.1.1; omega
  rw [kt8_0.1] at he
  subst he
  replace hres : RdL W _ (dN kt8) cs := hres
  obtain ⟨r1, r2, r3, r4⟩ := show _ ∧ _ ∧ _ ∧ _ from ⟨kr9_1, kr9_2, kr9_3, kr9_4⟩
  obtain ⟨t, ht⟩ : ∃ t, t = kt8 := ⟨_, rfl⟩
  rw [← ht] at hres kz kzf r1 r2 r3 r4
  clear ht
  have hc5 := hres.len
  rw [dN_len] at hc5
  replace M := (M.call hb).addL hres
  refine ⟨_, rfl, ?_⟩
  clear hres hb
  refine s_alloc (zN) M al_nd ?_
  clear M
  rintro g8 W M
  refine s_storeA 0 cs M rfl sz_nd rfl rfl hc5 ((M.da 0 rfl).ones (dN_one _)) rfl ?_
  clear M; rintro W M
  dsimp only [setL] at M
  refine v_loadN cs agg_nd rfl hc5 (M.run 0 rfl) ?_
  refine s_bslice (bvs [1, 1]) (fr := true) (ds := (bvs [1, 1]).map D.v) M slb (zs := [.int .u8 0]) (by kernel_rfl) rfl (by decide) rfl (RdL.ofvals _) rfl ?_
  clear M; rintro g9 W M
  refine s_bslice (bvs [17]) (fr := true) (ds := (bvs [17]).map D.v) M slb (zs := [.int .u8 0]) (by kernel_rfl) rfl (by decide) rfl (RdL.ofvals _) rfl ?_
  clear M; rintro g10 W M
  refine cc is_range (srange_any t [1, 1] [17] 9 (by omega) _ _ cs _ _ _ _ _ _ (M.da 2 rfl) (M.d1 1 rfl) (M.d1 0 rfl) M.olt ⟨by decide, by decide⟩) ?_
  rintro e W ⟨A1, n1, c1, Am1, nm1, cm1, he, rv, rm, hb⟩
  rw [r1] at he rv
  subst he
  have hn1 : n1 = 1 := rv.slen
  subst hn1
  replace M := (M.call hb).addD rv
  clear rv rm hb
  refine ⟨_, rfl, ?_⟩
  refine v_loadN cs agg_nd rfl hc5 (M.run 0 rfl) ?_
  refine cc is_back (sback_any t [] [] 2 (by omega) _ _ cs _ _ _ _ _ _ (M.da 3 rfl) (RdD.nil_ _ _) (RdD.nil_ _ _) M.olt ⟨by decide, by decide⟩) ?_
  rintro e W ⟨A2, n2, c2, Am2, nm2, cm2, he, rv, rm, hb⟩
  rw [r2] at he rv
  subst he
  have hn2 : n2 = 2 := rv.slen
  subst hn2
  replace M := (M.call hb).addD rv
  clear rv rm hb
  refine ⟨_, rfl, ?_⟩
  refine v_loadN cs agg_nd rfl hc5 (M.run 0 rfl) ?_
  refine s_bslice (bvs [2]) (fr := true) (ds := (bvs [2]).map D.v) M slb (zs := [.int .u8 0]) (by kernel_rfl) rfl (by decide) rfl (RdL.ofvals _) rfl ?_
  clear M; rintro g11 W M
  refine cc is_from (sfrom_any t [2] (by omega) _ _ cs _ _ _ (M.da 5 rfl) (M.d1 0 rfl) M.olt (by decide)) ?_
  rintro e W ⟨ps, Am3, nm3, cm3, he, rv, rm, hb⟩
  rw [r3] at he rv
  dsimp only at he rv
  subst he
  obtain ⟨Ak3, ck3, Av3, cv3, rfl, h1, h2⟩ := rv.pair
  replace M := ((M.call hb).addD h2).addD h1
  clear rv rm hb h1 h2
  refine ⟨_, rfl, ?_⟩
  refine s_alloc (zP) M al_pr ?_
  clear M
  rintro g12 W M
  refine s_storeA 0 (pcs ⟨[17], [99]⟩ Ak3 ck3 Av3 cv3) M rfl sz_pr rfl rfl rfl (all1 rfl) rfl ?_
  clear M; rintro W M
  dsimp only [setL] at M
  refine v_loadN cs agg_nd rfl hc5 (M.run 1 rfl) ?_
  refine cc is_r7fold (rfold_any t (by omega) _ _ _ (M.da 7 rfl) M.olt) ?_
  rintro e W ⟨csf, rfl, rf, hb⟩
  replace M := M.callF hb rf
  clear rf hb
  refine ⟨_, rfl, ?_⟩
  refine cc is_range (srange_any (foldN t) [] [] 1 kzf _ _ csf _ _ _ _ _ _ (M.da 0 rfl) (RdD.nil_ _ _) (RdD.nil_ _ _) M.olt ⟨by decide, by decide⟩) ?_
  rintro e W ⟨A4, n4, c4, Am4, nm4, cm4, he, rv, rm, hb⟩
  rw [r4] at he rv rm
  subst he
  have hnm : nm4 = 0 := rm.2.slen
  subst hnm
  replace M := M.call hb
  clear rv rm hb
  refine ⟨_, rfl, ?_⟩
  refine p_eq rfl rfl (fun _ => ?_) (fun e => absurd rfl e)
  refine p_len slp rfl ?_
  refine p_eq rfl rfl (fun _ => ?_) (fun e => absurd rfl e)
  obtain ⟨b1, o1, Ak1, ck1, Av1, cv1, rfl, M'⟩ := M.pair (i := 0) (p := ⟨[1, 2], [98]⟩) (M.d1 5 rfl) rfl
  replace M := M'; clear M'
  refine p_at (i := 0) slp rfl rfl rfl (by decide) ?_
  refine p_fld fP0 rfl ?_
  refine v_load agg_b rfl (M.lc 0 rfl 0 _ rfl) ?_
  refine s_bslice (bvs [1, 2]) (fr := true) (ds := (bvs [1, 2]).map D.v) M slb (zs := [.int .u8 0]) (by kernel_rfl) rfl (by decide) rfl (RdL.ofvals _) rfl ?_
  clear M; rintro g13 W M
  obtain ⟨q, hq, hc⟩ := same_tf (c1 := ck1) (c2 := 2) (M.rdb 2 rfl).2.2 (M.rdb (l := [1, 2]) 0 rfl).2.2
  obtain rfl := hq.2 rfl
  refine cc is_same0 hc ?_
  rintro e W' ⟨rfl, rfl⟩
  refine ⟨_, rfl, ?_⟩
  clear hq hc
  refine p_eq rfl rfl (fun _ => ?_) (fun e => absurd rfl e)
  refine p_len slp rfl ?_
  refine p_eq rfl rfl (fun _ => ?_) (fun e => absurd rfl e)
  obtain ⟨b2, o2, Ak2, ck2, Av2, cv2, rfl, M'⟩ := M.pair (i := 0) (p := ⟨[17], [99]⟩) (M.d1 8 rfl) rfl
  replace M := M'; clear M'
  refine p_at (i := 0) slp rfl rfl rfl (by decide) ?_
  refine p_fld fP0 rfl ?_
  refine v_load agg_b rfl (M.lc 0 rfl 0 _ rfl) ?_
  refine s_bslice (bvs [17]) (fr := true) (ds := (bvs [17]).map D.v) M slb (zs := [.int .u8 0]) (by kernel_rfl) rfl (by decide) rfl (RdL.ofvals _) rfl ?_
  clear M; rintro g14 W M
  obtain ⟨q, hq, hc⟩ := same_tf (c1 := ck2) (c2 := 1) (M.rdb 2 rfl).2.2 (M.rdb (l := [17]) 0 rfl).2.2
  obtain rfl := hq.2 rfl
  refine cc is_same0 hc ?_
  rintro e W' ⟨rfl, rfl⟩
  refine ⟨_, rfl, ?_⟩
  clear hq hc
  refine p_eq rfl rfl (fun _ => ?_) (fun e => absurd rfl e)
  refine p_fld fP1 rfl ?_
  refine v_load agg_b rfl ((M.B 0 rfl).at_ rfl) ?_
  refine s_bsliceB (bvs [99]) M slb (zs := [.int .u8 0]) (by kernel_rfl) rfl (by decide) rfl ?_
  clear M; rintro g15 W M
  refine s_cvtB [99] M rfl rfl (Nat.le_refl _) ?_
  clear M; rintro W M
  obtain ⟨q, hq, hc⟩ := same_tf (c1 := cv3) (c2 := 1) (M.rdb 11 rfl).2.2 (M.rdb (l := [99]) 0 rfl).2.2
  obtain rfl := hq.2 rfl
  refine cc is_same0 hc ?_
  rintro e W' ⟨rfl, rfl⟩
  refine ⟨_, rfl, ?_⟩
  clear hq hc
  refine p_len slb rfl ?_
  refine p_eq rfl rfl (fun _ => ?_) (fun e => absurd rfl e)
  refine p_eq rfl rfl (fun _ => ?_) (fun e => absurd rfl e)
  exact ⟨rfl, M.below⟩
end Go.Proofs.Ytkfbkhahkkmcoaa
namespace Go.Proofs.Ytkfbkhahkkmcoaa
open Go.RowKit


theorem is_kn9 : isFn Try.prog 17 = true := by kernel_rfl
set_option maxRecDepth 100000 in
set_option maxHeartbeats 4000000 in
theorem seekRanges_walk (w : World) {t : Nd} {cs : List Value} (hr : RdL w (Fd w []) (dN t) cs) (hz : sz t ≤ 1048576) {A1 : Option Addr} {n1 c1 : Nat} {low : List UInt8} (g1 : RdD w (Fd w []) (dB low) (.slice A1 n1 c1)) (_b1 : low.length ≤ 1048576) {A2 : Option Addr} {n2 c2 : Nat} {high : List UInt8} (g2 : RdD w (Fd w []) (dB high) (.slice A2 n2 c2)) (_b2 : high.length ≤ 1048576) (most : Int) (_ : -9223372036854775808 ≤ most ∧ most ≤ 9223372036854775807) :
    Calls Try.prog 3 #[.agg cs.toArray, .slice A1 n1 c1, .slice A2 n2 c2, .int .i64 most] w (RetTrue w) := by
  refine calls_ev (args := [.agg cs.toArray, .slice A1 n1 c1, .slice A2 n2 c2, .int .i64 most]) mixed Try.func3 rfl (by kernel_rfl) ?_
  have hcl := hr.len
  rw [dN_len] at hcl
  have en1 := g1.slen
  have en2 := g2.slen
  have M := (((St.start (w := w) (gs := []) (fun b h => by cases h)).addD g2).addD g1).addL hr
  clear g1 g2 hr
  refine s_box (cs) M rfl ?_
  clear M
  rintro g4 W M
  refine v_loadN cs agg_nd rfl hcl (M.run 0 rfl) ?_
  refine cc is_much9 (much9_any t (by omega) low high _ _ cs _ _ _ _ _ _ (M.da 0 rfl) (M.d1 1 rfl) (M.d1 2 rfl) M.olt) ?_
  rintro e W ⟨he, hb⟩
  obtain ⟨q, hq⟩ : ∃ q, q = much9P t low high := ⟨_, rfl⟩
  rw [← hq] at he
  subst he
  replace M := M.call hb
  clear hb
  refine ⟨_, rfl, ?_⟩
  cases q with
  | true =>
    refine cc is_kn9 (known9_any _) ?_
    rintro e W ⟨rfl, hb⟩
    replace M := M.call hb
    clear hb
    exact ⟨_, rfl, rfl, M.below⟩
  | false =>
  obtain ⟨hz2, hl1, hl2⟩ := much9_no hq.symm
  clear hq
  have l1 := range_len t low high most false
  have l2 := range_len t low high most true
  obtain ⟨R1, hR1⟩ : ∃ R, R = rangeP t low high most false := ⟨_, rfl⟩
  obtain ⟨R2, hR2⟩ : ∃ R, R = rangeP t low high most true := ⟨_, rfl⟩
  rw [← hR1] at l1
  rw [← hR2] at l2
  refine v_loadN cs agg_nd rfl hcl (M.run 0 rfl) ?_
  refine cc is_range (srange_any t low high most   (by omega) _ _ cs _ _ _ _ _ _ (M.da 0 rfl) (M.d1 1 rfl) (M.d1 2 rfl) M.olt ⟨by omega, by omega⟩) ?_
  rintro e W ⟨A9, n9, c9, Am9, nm9, cm3, he, rv, rm, hb⟩
  try rw [← range_ref] at he rv rm
  rw [← hR1] at he rv rm
  subst he
  replace M := ((M.call hb).addD (by first | exact rm | exact rm.toD)).addD rv
  clear rv rm hb
  refine ⟨_, rfl, ?_⟩
  refine v_loadN cs agg_nd rfl hcl (M.run 0 rfl) ?_
  refine cc is_rrange (rrange_any t low high most false (by omega) _ _ cs _ _ _ _ _ _ (M.da 2 rfl) (M.d1 3 rfl) (M.d1 4 rfl) M.olt ⟨by omega, by omega⟩) ?_
  rintro e W ⟨A9, n9, c9, Am9, nm9, cm4, he, rv, rm, hb⟩
  try rw [← range_ref] at he rv rm
  rw [← hR1] at he rv rm
  subst he
  replace M := ((M.call hb).addD (by first | exact rm | exact rm.toD)).addD rv
  clear rv rm hb
  refine ⟨_, rfl, ?_⟩
  refine v_loadN cs agg_nd rfl hcl (M.run 0 rfl) ?_
  refine cc is_back (sback_any t low high most   (by omega) _ _ cs _ _ _ _ _ _ (M.da 4 rfl) (M.d1 5 rfl) (M.d1 6 rfl) M.olt ⟨by omega, by omega⟩) ?_
  rintro e W ⟨A9, n9, c9, Am9, nm9, cm5, he, rv, rm, hb⟩
  try rw [← range_ref] at he rv rm
  rw [← hR2] at he rv rm
  subst he
  replace M := ((M.call hb).addD (by first | exact rm | exact rm.toD)).addD rv
  clear rv rm hb
  refine ⟨_, rfl, ?_⟩
  refine v_loadN cs agg_nd rfl hcl (M.run 0 rfl) ?_
  refine cc is_rrange (rrange_any t low high most true (by omega) _ _ cs _ _ _ _ _ _ (M.da 6 rfl) (M.d1 7 rfl) (M.d1 8 rfl) M.olt ⟨by omega, by omega⟩) ?_
  rintro e W ⟨A9, n9, c9, Am9, nm9, cm6, he, rv, rm, hb⟩
  try rw [← range_ref] at he rv rm
  rw [← hR2] at he rv rm
  subst he
  replace M := ((M.call hb).addD (by first | exact rm | exact rm.toD)).addD rv
  clear rv rm hb
  refine ⟨_, rfl, ?_⟩
  refine cc is_r8sp (r8sp_any (R1.l) (R1.l) _ _ _ _ _ _ _ _ (M.d1 6 rfl) (M.d1 4 rfl) M.olt ⟨by omega, by omega⟩) ?_
  rintro e W ⟨q, rfl, hq, hb⟩
  obtain rfl := hq.2 rfl
  replace M := M.call hb
  clear hb hq
  refine ⟨_, rfl, ?_⟩
  obtain ⟨q, hq, hc⟩ := same_tf (c1 := cm3) (c2 := cm4) (M.rdb 7 rfl).2.2 (M.rdb 5 rfl).2.2
  obtain rfl := hq.2 rfl
  refine cc is_same0 hc ?_
  rintro e W' ⟨rfl, rfl⟩
  refine ⟨_, rfl, ?_⟩
  clear hq hc
  refine p_eq rfl rfl (fun _ => ?_) (fun e => absurd rfl e)
  refine cc is_r8sp (r8sp_any (R2.l) (R2.l) _ _ _ _ _ _ _ _ (M.d1 2 rfl) (M.d1 0 rfl) M.olt ⟨by omega, by omega⟩) ?_
  rintro e W ⟨q, rfl, hq, hb⟩
  obtain rfl := hq.2 rfl
  replace M := M.call hb
  clear hb hq
  refine ⟨_, rfl, ?_⟩
  obtain ⟨q, hq, hc⟩ := same_tf (c1 := cm5) (c2 := cm6) (M.rdb 3 rfl).2.2 (M.rdb 1 rfl).2.2
  obtain rfl := hq.2 rfl
  refine cc is_same0 hc ?_
  rintro e W' ⟨rfl, rfl⟩
  refine ⟨_, rfl, ?_⟩
  clear hq hc
  refine p_eq rfl rfl (fun _ => ?_) (fun e => absurd rfl e)
  refine cc is_kn9 (known9_any _) ?_
  rintro e W ⟨rfl, hb⟩
  replace M := M.call hb
  clear hb
  exact ⟨_, rfl, rfl, M.below⟩
end Go.Proofs.Ytkfbkhahkkmcoaa
