/- Seek, plainly: the reference's Range. Reference 09: might. Reference 04: Next. -/
import Derived.Test.YtkfbkhahkkmcoaaG19
namespace Go.Proofs.Ytkfbkhahkkmcoaa
open Go.RowKit
theorem late_take : ∀ (w lo : List UInt8), (¬ cmpB (w.take (min w.length lo.length)) (lo.take (min w.length lo.length)) < 0) ↔ (0 ≤ cmpB w lo ∨ w <+: lo)
  | [], lo => by simp [cmpB_nil]
  | x :: w, [] => by
    rw [cmpB_cons_nil]
    simp [cmpB_nil]
  | x :: w, y :: lo => by
    have ih := late_take w lo
    rw [List.length_cons, List.length_cons, Nat.add_min_add_right, List.take_succ_cons, List.take_succ_cons, cmpB_cons, cmpB_cons, List.cons_prefix_cons]
    by_cases e : x = y
    · rw [if_pos e, if_pos e]
      simp only [e, true_and]
      exact ih
    · rw [if_neg e, if_neg e]
      by_cases h : x.toNat < y.toNat
      · rw [if_pos h]; simp [e]
      · rw [if_neg h]; simp
def mightR (w lo hi : List UInt8) (op : Bool) : Bool := !decide (cmpB (w.take (min w.length lo.length)) (lo.take (min w.length lo.length)) < 0) && (op || decide (cmpB (leastB w) hi < 0))
theorem might_meets (s : Span) (w : List UInt8) : mightR w s.lo s.hi s.op = meetsB s w := by
  unfold mightR meetsB
  congr 1
  rw [Bool.eq_iff_iff]
  simp only [Bool.not_eq_true', decide_eq_false_iff_not, Bool.or_eq_true, decide_eq_true_eq]
  exact late_take w s.lo
def inR (key low high : List UInt8) : Bool := decide (0 ≤ cmpB key low) && (decide (high.length = 0) || decide (cmpB key high < 0))
theorem has_in {low high p : List UInt8} (h : ofB (bytesL p) = p) : hasB (ofS low high) p = inR (bytesL p) low high := by
  unfold hasB inR ofS
  dsimp only
  conv => lhs; rw [← h]
  rw [cmpB_ofB, cmpB_ofB]
/-- The reference's loop, over the items in whichever order. -/
def rGo (low high : List UInt8) (most : Int) : List It → List Pr → PairsR
  | [], out => ⟨out, none, 0⟩
  | x :: l, out => if (out.length : Int) < most then
      (if x.stub = true ∧ mightR x.path (ofB low) (ofB high) (decide (high.length = 0)) = true then ⟨[], some x.path, 80⟩
       else rGo low high most l (if x.stub = false ∧ inR (bytesL x.path) low high = true then out ++ [⟨bytesL x.path, x.val⟩] else out))
    else ⟨out, none, 0⟩
theorem goF_pairs (most : Int) (ps : List Pr) : goF most (ps.map Fnd.pair) = decide ((ps.length : Int) ≠ most) := by
  unfold goF; rw [all_map, Bool.true_and, List.length_map]
theorem end_pairs (ps : List Pr) : endF (ps.map Fnd.pair) = ⟨ps, none, 0⟩ := by unfold endF; rw [missF_map, prsF_map]
theorem rGo_full (low high : List UInt8) (most : Int) (l : List It) (out : List Pr) (h : ¬ (out.length : Int) < most) : rGo low high most l out = ⟨out, none, 0⟩ := by
  cases l with
  | nil => rfl
  | cons x l => rw [rGo, if_neg h]
theorem feed_rGo (low high : List UInt8) (most : Int) : ∀ (l : List It) (ps : List Pr), (ps.length : Int) < most → (∀ x ∈ l, x.stub = false → ofB (bytesL x.path) = x.path) →
    endF (feed (goF most) (ps.map Fnd.pair) (l.filterMap (selS (ofS low high)))).1 = rGo low high most l ps
  | [], ps, h, _ => by rw [List.filterMap_nil]; exact end_pairs ps
  | x :: l, ps, h, he => by
    have ih := fun ps h => feed_rGo low high most l ps h (fun y hy => he y (by simp [hy]))
    have hm : mightR x.path (ofB low) (ofB high) (decide (high.length = 0)) = meetsB (ofS low high) x.path := might_meets (ofS low high) x.path
    rw [rGo, if_pos h, hm, List.filterMap_cons]
    unfold selS
    cases hs : x.stub with
    | true =>
      dsimp only
      cases hb : meetsB (ofS low high) x.path with
      | true =>
        rw [if_pos rfl, if_pos ⟨rfl, rfl⟩]
        dsimp only
        have hg : goF most (ps.map Fnd.pair ++ [.miss x.path]) = false := by unfold goF; rw [all_snoc]; rfl
        rw [feed, hg]
        dsimp only
        unfold endF
        rw [missF_snoc]
      | false =>
        rw [if_neg (by simp), if_neg (by simp), if_neg (by simp)]
        exact ih ps h
    | false =>
      dsimp only
      rw [has_in (he x (by simp) hs), if_neg (show ¬ (false = true ∧ meetsB (ofS low high) x.path = true) by simp)]
      cases hb : inR (bytesL x.path) low high with
      | true =>
        rw [if_pos rfl, if_pos ⟨rfl, rfl⟩]
        dsimp only
        have hmap : ps.map Fnd.pair ++ [.pair ⟨bytesL x.path, x.val⟩] = (ps ++ [(⟨bytesL x.path, x.val⟩ : Pr)]).map Fnd.pair := by rw [List.map_append]; rfl
        have hl : (ps ++ [(⟨bytesL x.path, x.val⟩ : Pr)]).length = ps.length + 1 := by simp
        rw [feed, hmap, goF_pairs, hl]
        by_cases hq : ((ps.length + 1 : Nat) : Int) = most
        · rw [decide_eq_false (by omega)]
          dsimp only
          rw [end_pairs, rGo_full _ _ _ _ _ (by rw [hl]; omega)]
        · rw [decide_eq_true hq]
          dsimp only
          exact ih _ (by rw [hl]; omega)
      | false =>
        rw [if_neg (by simp), if_neg (by simp)]
        exact ih ps h
/-- The program's Range is the reference's. -/
theorem some_ref {t : Nd} (hv : Val true t 0) (low high : List UInt8) (most : Int) (back : Bool) (h0 : 0 < most) :
    endF (feed (goF most) [] (walkP (ofS low high) back t [])).1 = rGo low high most (match back with | false => itemsP t [] true | true => (itemsP t [] true).reverse) [] := by
  have hev : ∀ x ∈ itemsP t [] true, x.path.length % 2 = 0 ∧ halvesB x.path = true ∨ x.stub = true := by
    intro x hx
    obtain ⟨r, hr, hh, hp⟩ := items_even hv [] true x hx
    cases hs : x.stub with
    | true => exact .inr rfl
    | false =>
      left
      rw [hr, List.nil_append]
      have := (hp hs).1
      exact ⟨by omega, hh⟩
  have hE : EvI (itemsP t [] true) := fun y hy hs => by
    rcases hev y hy with h | h
    · exact h.1
    · rw [hs] at h; cases h
  have hO : ∀ x ∈ itemsP t [] true, x.stub = false → ofB (bytesL x.path) = x.path := fun x hx hs => by
    rcases hev x hx with h | h
    · rw [(bytesE_ok h.2 h.1).2]; exact ofB_joinB _ h.2 h.1
    · rw [hs] at h; cases h
  cases back with
  | false =>
    rw [walk_items hv [] true hE]
    exact feed_rGo low high most _ [] h0 hO
  | true =>
    rw [walk_back, walk_items hv [] true hE, ← List.filterMap_reverse]
    exact feed_rGo low high most _ [] h0 (fun x hx => hO x (List.mem_reverse.1 hx))
/-- The reference's Range. -/
def rangeR (t : Nd) (low high : List UInt8) (most : Int) (back : Bool) : PairsR :=
  if checkE t = 0 then (if most < 0 then ⟨[], none, 2⟩ else rGo low high most (match back with | false => itemsP t [] true | true => (itemsP t [] true).reverse) []) else ⟨[], none, 2⟩
theorem val_of_check {t : Nd} (h : checkE t = 0) : Val true t 0 := by
  refine val_of_right true (sz t + 1) t 0 (by omega) ?_
  unfold checkE at h
  cases hr : rightP true t 0 with
  | true => rfl
  | false => rw [hr] at h; simp at h
theorem range_ref (t : Nd) (low high : List UInt8) (most : Int) (back : Bool) : rangeP t low high most back = rangeR t low high most back := by
  unfold rangeP rangeR someP
  by_cases hc : checkE t = 0
  · rw [if_pos hc, if_pos hc]
    by_cases hm : most < 0
    · rw [if_pos hm, if_pos hm]
    · rw [if_neg hm, if_neg hm]
      by_cases h0 : most = 0
      · rw [if_pos h0, rGo_full _ _ _ _ _ (by rw [h0]; simp)]
      · rw [if_neg h0]
        exact some_ref (val_of_check hc) low high most back (by omega)
  · rw [if_neg hc, if_neg hc]
end Go.Proofs.Ytkfbkhahkkmcoaa
namespace Go.Proofs.Ytkfbkhahkkmcoaa
open Go.RowKit
theorem is_might : isFn Try.prog 56 = true := by kernel_rfl
theorem is_rcmp6 : isFn Try.prog 74 = true := by kernel_rfl
set_option maxRecDepth 100000 in
set_option maxHeartbeats 2000000 in
theorem might_any (way lo hi : List UInt8) (op : Bool) (gs : List (Option Nat)) (w : World) (A1 A2 A3 : Option Addr) (n1 c1 n2 c2 n3 c3 : Nat) (h1 : RdD w (Fd w gs) (dB way) (.slice A1 n1 c1)) (h2 : RdD w (Fd w gs) (dB lo) (.slice A2 n2 c2)) (h3 : RdD w (Fd w gs) (dB hi) (.slice A3 n3 c3)) (hgs : ∀ b, some b ∈ gs → b < w.heap.size) (hz : n1 ≤ 1000000 ∧ n2 ≤ 1000000 ∧ n3 ≤ 1000000) :
    Calls Try.prog 56 #[.slice A1 n1 c1, .slice A2 n2 c2, .slice A3 n3 c3, .bool op] w fun e W' => e = .returned (.bool (mightR way lo hi op)) ∧ Below w.heap.size w W' := by
  refine calls_ev (args := [.slice A1 n1 c1, .slice A2 n2 c2, .slice A3 n3 c3, .bool op]) mixed Try.func56 rfl (by kernel_rfl) ?_
  have e1 := h1.slen
  have e2 := h2.slen
  have M := (((St.start hgs).addD h3).addD h2).addD h1
  clear h1 h2 h3
  obtain ⟨k, hk⟩ : ∃ k, k = min way.length lo.length := ⟨_, rfl⟩
  have hk1 : k ≤ n1 := by omega
  have hk2 : k ≤ n2 := by omega
  have hc1 : k ≤ c1 := Nat.le_trans hk1 (M.rdb 0 rfl).2.1
  have hc2 : k ≤ c2 := Nat.le_trans hk2 (M.rdb 1 rfl).2.1
  have b1 : k ≤ 100000000000 := by omega
  unfold mightR
  rw [← hk]
  refine p_len slb rfl ?_
  refine p_len slb rfl ?_
  refine p_min rfl rfl (r := (k : Int)) (by split <;> omega) ?_
  replace M := M.drew
  refine drT (Kp w gs [] []) (.take 0 (.take 1 (.take 2 (.take 3 (.take 4 (.take 5 (.one 6 (.take 7 (.nil))))))))) (by kernel_rfl) (M.kp (by simp) (by simp)) ?_
  refine p_slice (i := 0) (j := k) (m := c1) slb rfl rfl (bnd_i rfl) rfl rfl (Nat.zero_le _) hc1 (Nat.le_refl _) ?_
  refine p_slice (i := 0) (j := k) (m := c2) slb rfl rfl (bnd_i rfl) rfl rfl (Nat.zero_le _) hc2 (Nat.le_refl _) ?_
  rw [slA0, slA0, Nat.sub_zero, Nat.sub_zero, Nat.sub_zero]
  refine cc is_rcmp6 (refCmp_any A1 A2 k k c1 c2 _ (way.take k) (lo.take k) _ ((M.rdb 0 rfl).2.2.take hk1) ((M.rdb 1 rfl).2.2.take hk2) b1 b1) ?_
  rintro e W ⟨rfl, dd, rfl⟩
  replace M := M.drewN dd
  refine ⟨_, rfl, (M.kp (by simp) (by simp)), ?_⟩
  refine p_lt rfl rfl (fun h => ?_) (fun h => ?_)
  · rw [decide_eq_true h]
    exact ⟨rfl, M.below⟩
  rw [decide_eq_false h]
  simp only [Bool.not_false, Bool.true_and]
  replace M := M.nilR 5 1
  refine s_appB (l := []) M rfl rfl (M.rdb 0 rfl).2.2 (by omega) ?_
  clear M; rintro A4 c4 W M -
  rw [List.nil_append, Nat.zero_add] at M
  rw [Nat.zero_add]
  refine p_len slb rfl ?_
  refine p_remN (b := 2) rfl rfl (by decide) ?_
  refine p_eq rfl rfl (fun hodd => ?_) (fun hodd => ?_)
  · have hlw : leastB way = way ++ [0] := by unfold leastB; rw [if_pos (by omega)]
    refine s_bslice (bvs [0]) (fr := true) (ds := (bvs [0]).map D.v) M slb (zs := [.int .u8 0]) (by kernel_rfl) rfl (by decide) rfl (RdL.ofvals _) rfl ?_
    clear M; rintro g3 W M
    refine s_appB M rfl rfl (M.rdb (l := [0]) 0 rfl).2.2 (by omega) ?_
    clear M; rintro A5 c5 W M -
    replace M := M.frzO
    cases op with
    | true => exact ⟨rfl, M.below⟩
    | false =>
      refine cc is_rcmp6 (refCmp_any _ _ _ _ _ _ _ (way ++ [0]) hi _ (M.rdb 0 rfl).2.2 (M.rdb 4 rfl).2.2 (by omega) (by omega)) ?_
      rintro e W ⟨rfl, dd, rfl⟩
      replace M := M.drewN dd
      refine ⟨_, rfl, ?_⟩
      refine p_lt rfl rfl (fun h => ?_) (fun h => ?_)
      · exact ⟨ret_tf (by rw [hlw, decide_eq_true h]; rfl), M.below⟩
      · exact ⟨ret_tf (by rw [hlw, decide_eq_false h]; rfl), M.below⟩
  · have hlw : leastB way = way := by unfold leastB; rw [if_neg (by omega)]
    replace M := M.frzO
    cases op with
    | true => exact ⟨rfl, M.below⟩
    | false =>
      refine cc is_rcmp6 (refCmp_any _ _ _ _ _ _ _ way hi _ (M.rdb 0 rfl).2.2 (M.rdb 3 rfl).2.2 (by omega) (by omega)) ?_
      rintro e W ⟨rfl, dd, rfl⟩
      replace M := M.drewN dd
      refine ⟨_, rfl, ?_⟩
      refine p_lt rfl rfl (fun h => ?_) (fun h => ?_)
      · exact ⟨ret_tf (by rw [hlw, decide_eq_true h]; rfl), M.below⟩
      · exact ⟨ret_tf (by rw [hlw, decide_eq_false h]; rfl), M.below⟩
theorem is_rrange : isFn Try.prog 19 = true := by kernel_rfl
theorem is_rof06 : isFn Try.prog 50 = true := by kernel_rfl
set_option maxRecDepth 100000 in
set_option maxHeartbeats 4000000 in
theorem rrange_any (t : Nd) (low high : List UInt8) (most : Int) (back : Bool) (ht : sz t ≤ 1000000) (gs : List (Option Nat)) (w : World) (cs : List Value) (A1 A2 : Option Addr) (n1 c1 n2 c2 : Nat) (hn : RdL w (Fd w gs) (dN t) cs) (h1 : RdD w (Fd w gs) (dB low) (.slice A1 n1 c1)) (h2 : RdD w (Fd w gs) (dB high) (.slice A2 n2 c2)) (hgs : ∀ b, some b ∈ gs → b < w.heap.size) (hz : n1 ≤ 500000 ∧ n2 ≤ 500000) :
    Calls Try.prog 19 #[.agg cs.toArray, .slice A1 n1 c1, .slice A2 n2 c2, .int .i64 most, .bool back] w fun e W' => ∃ A n c Am nm cm, e = .returned (.tuple #[.slice A n c, .slice Am nm cm, .int .i64 (rangeR t low high most back).e]) ∧ RdD W' (Fd W' gs) (dPl (rangeR t low high most back).l) (.slice A n c) ∧ RdD W' (Fd W' gs) (dB ((rangeR t low high most back).miss.getD [])) (.slice Am nm cm) ∧ Below w.heap.size w W' := by
  refine calls_ev (args := [.agg cs.toArray, .slice A1 n1 c1, .slice A2 n2 c2, .int .i64 most, .bool back]) mixed Try.func19 rfl (by kernel_rfl) ?_
  have hl := hn.len
  rw [dN_len] at hl
  have e1 := h1.slen
  have e2 := h2.slen
  have M := (((St.start hgs).addD h2).addD h1).addL hn
  clear hn h1 h2
  refine s_box (cs) M rfl ?_
  clear M
  rintro g5 W M
  replace M := M.frzL
  refine v_loadN cs agg_nd rfl hl (M.lc 0 rfl) ?_
  refine cc is_r7check (r7check_any t (by omega) _ _ cs (M.da 1 rfl) M.olt) ?_
  rintro e W1 ⟨rfl, hb⟩
  replace M := M.call hb
  refine ⟨_, rfl, ?_⟩
  obtain ⟨RR, hRR⟩ : ∃ RR, RR = rangeR t low high most back := ⟨_, rfl⟩
  rw [← hRR]
  unfold rangeR at hRR
  refine p_ne rfl rfl (fun he => ?_) (fun he => ?_)
  · rw [if_pos he] at hRR
    refine p_lt rfl rfl (fun hm => ?_) (fun hm => ?_)
    · rw [if_pos hm] at hRR
      subst hRR
      exact ⟨none, 0, 0, none, 0, 0, rfl, RdD.nil_ _ _, RdD.nil_ _ _, M.below⟩
    rw [if_neg hm] at hRR
    refine v_loadN cs agg_nd rfl hl (M.lc 0 rfl) ?_
    refine cc is_items (items_any (sz t + 1) t (by omega) _ _ cs [] none 0 0 true (M.da 1 rfl) (RdD.nil_ _ _) M.olt (by omega)) ?_
    rintro e W2 ⟨A4, n4, c4, rfl, hA4, hb⟩
    replace M := M.callD hb (RdL.one hA4)
    have e4 := hA4.slen
    refine ⟨_, rfl, ?_⟩
    refine cc is_rof06 (rof_any A1 n1 c1 low _ (M.rdb 3 rfl).2.2 (by omega)) ?_
    rintro e W3 ⟨A6, c6, rfl, o6, hb⟩
    replace M := M.callO hb o6
    refine ⟨_, rfl, ?_⟩
    refine cc is_rof06 (rof_any A2 n2 c2 high _ (M.rdb 5 rfl).2.2 (by omega)) ?_
    rintro e W4 ⟨A7, c7, rfl, o7, hb⟩
    replace M := M.callO hb o7
    refine ⟨_, rfl, ?_⟩
    refine p_len slb rfl ?_
    refine p_eqD rfl rfl ?_
    have hop : decide ((n2 : Int) = 0) = decide (high.length = 0) := by rw [decide_eq_decide]; omega
    rw [hop]
    obtain ⟨LI, hLI⟩ : ∃ LI, LI = itemsP t [] true := ⟨_, rfl⟩
    rw [← hLI] at hRR M e4
    have hlen : LI.length ≤ 1000000 := by have := itemsP_len t [] true; rw [← hLI] at this; omega
    have hbig : ∀ x ∈ LI, x.path.length ≤ 1000000 ∧ x.val.length ≤ 1000000 := by
      intro x hx
      rw [hLI] at hx
      have := itemsP_big t [] true x hx
      simp only [List.length_nil] at this
      constructor <;> omega
    obtain ⟨LL, hLL⟩ : ∃ LL, LL = (match back with | false => LI | true => LI.reverse) := ⟨_, rfl⟩
    have hRR : RR = rGo low high most (LL.drop 0) [] := by rw [List.drop_zero, hLL]; exact hRR
    have hLn : LL.length = n4 := by rw [hLL]; cases back <;> simp <;> omega
    replace M := M.nilR 43 2
    refine lp (Nat × Option Addr × Nat × List Value × List Pr) (fun st W => st.1 ≤ n4 ∧ st.2.2.2.2.length ≤ st.1 ∧ St w gs W [] [⟨43, 2, st.2.1, st.2.2.2.2.length, st.2.2.1, st.2.2.2.1⟩] [.dat false (dPrs st.2.2.2.2) st.2.2.2.1, .dat true [dB (ofB high)] [.slice A7 (2 * n2) c7], .dat true [dB (ofB low)] [.slice A6 (2 * n1) c6], .dat false [dIl LI] [.slice A4 n4 c4], .dat false [dB low] [.slice A1 n1 c1], .dat false [dB high] [.slice A2 n2 c2]] ∧ RR = rGo low high most (LL.drop st.1) st.2.2.2.2)
      (fun st => [(1, .slice A1 n1 c1), (2, .slice A2 n2 c2), (3, .int .i64 most), (4, .bool back), (14, .slice A4 n4 c4), (15, .slice A6 (2 * n1) c6), (16, .slice A7 (2 * n2) c7), (17, .bool (decide (high.length = 0))), (18, .slice st.2.1 st.2.2.2.2.length st.2.2.1), (19, .int .i64 st.1)]) (fun st => n4 - st.1) (0, none, 0, [], [])
      ⟨Nat.zero_le _, Nat.le_refl _, (M.addL (ds := dPrs []) (cs := []) RdL.nil_).fsub _ (by intro f hf; simp only [List.mem_cons, List.not_mem_nil, or_false] at hf ⊢; rcases hf with h | h | h | h | h | h <;> simp [h]), hRR⟩ (by repeat (first | exact trivial | refine ⟨rfl, ?_⟩)) ?_
    clear M hRR
    rintro ⟨i, A, c, xs, out⟩ E7 W7 ⟨hi, hol, M, hR2⟩
    dsimp only at hi hol M hR2
    refine p_len sli rfl ?_
    refine p_lt rfl rfl (fun hlt => ?_) (fun hge => ?_)
    · refine p_len slp rfl ?_
      refine p_lt rfl rfl (fun hlo => ?_) (fun hlo => ?_)
      · have hiL : i < LI.length := by omega
        cases back with
        | false =>
          obtain ⟨x, hxi⟩ : ∃ x, LI[i]? = some x := ⟨_, List.getElem?_eq_getElem hiL⟩
          obtain ⟨b, off, Ap, cp, Av, cv, Ah, ch, rfl, M'⟩ := M.item (M.d1 3 rfl) hxi
          replace M := M'; clear M'
          refine p_at (i := i) sli rfl rfl rfl (by omega) ?_
          refine v_loadN (ics x Ap cp Av cv Ah ch) agg_it rfl rfl (M.lc 0 rfl) ?_
          refine s_alloc (zI) M (by kernel_rfl) ?_
          clear M
          rintro g20 W M
          first | refine s_storeA 0 (ics x Ap cp Av cv Ah ch) M rfl (by kernel_rfl) rfl rfl rfl (all1 rfl) rfl ?_ | refine s_storeA 1 (ics x Ap cp Av cv Ah ch) M rfl (by kernel_rfl) rfl rfl rfl (all1 rfl) rfl ?_ | refine s_storeA 2 (ics x Ap cp Av cv Ah ch) M rfl (by kernel_rfl) rfl rfl rfl (all1 rfl) rfl ?_ | refine s_storeA 3 (ics x Ap cp Av cv Ah ch) M rfl (by kernel_rfl) rfl rfl rfl (all1 rfl) rfl ?_
          clear M
          rintro W M
          dsimp only [setL] at M
          have hx := drop_get (l := LL) (i := i) (x := x) (by (rw [hLL]; exact hxi))
          rw [hx, rGo, if_pos hlo] at hR2
          have hxm := hbig x (List.mem_of_getElem? hxi)
          refine p_fld fI2 rfl ?_
          refine v_load agg_bo rfl (by first | exact (M.B 0 rfl).at_ rfl | exact (M.B 1 rfl).at_ rfl | exact (M.B 2 rfl).at_ rfl | exact (M.B 3 rfl).at_ rfl | exact (M.B 4 rfl).at_ rfl | exact M.lc 0 rfl _ _ rfl | exact M.lc 1 rfl _ _ rfl | exact M.lc 2 rfl _ _ rfl | exact M.lc 3 rfl _ _ rfl | exact M.lc 4 rfl _ _ rfl | exact M.lc 5 rfl _ _ rfl | exact M.lc 6 rfl _ _ rfl | exact M.lc 7 rfl _ _ rfl) ?_
          cases hs : x.stub with
          | true =>
            rw [hs] at hR2
            refine p_fld fI0 rfl ?_
            refine v_load agg_b rfl (by first | exact (M.B 0 rfl).at_ rfl | exact (M.B 1 rfl).at_ rfl | exact (M.B 2 rfl).at_ rfl | exact (M.B 3 rfl).at_ rfl | exact (M.B 4 rfl).at_ rfl | exact M.lc 0 rfl _ _ rfl | exact M.lc 1 rfl _ _ rfl | exact M.lc 2 rfl _ _ rfl | exact M.lc 3 rfl _ _ rfl | exact M.lc 4 rfl _ _ rfl | exact M.lc 5 rfl _ _ rfl | exact M.lc 6 rfl _ _ rfl | exact M.lc 7 rfl _ _ rfl) ?_
            refine cc is_might (might_any x.path (ofB low) (ofB high) (decide (high.length = 0)) _ _ _ A6 A7 _ cp _ c6 _ c7 (by first | with_reducible exact M.d1_0 | with_reducible exact M.d1_1 | with_reducible exact M.d1_2 | with_reducible exact M.d1_3 | with_reducible exact M.d1_4 | with_reducible exact M.d1_5 | with_reducible exact M.d1_6 | with_reducible exact M.d1_7 | with_reducible exact M.d1_8 | with_reducible exact M.d1_9 | with_reducible exact M.d1_10 | with_reducible exact M.d1_11) (by first | with_reducible exact M.d1_0 | with_reducible exact M.d1_1 | with_reducible exact M.d1_2 | with_reducible exact M.d1_3 | with_reducible exact M.d1_4 | with_reducible exact M.d1_5 | with_reducible exact M.d1_6 | with_reducible exact M.d1_7 | with_reducible exact M.d1_8 | with_reducible exact M.d1_9 | with_reducible exact M.d1_10 | with_reducible exact M.d1_11) (by first | with_reducible exact M.d1_0 | with_reducible exact M.d1_1 | with_reducible exact M.d1_2 | with_reducible exact M.d1_3 | with_reducible exact M.d1_4 | with_reducible exact M.d1_5 | with_reducible exact M.d1_6 | with_reducible exact M.d1_7 | with_reducible exact M.d1_8 | with_reducible exact M.d1_9 | with_reducible exact M.d1_10 | with_reducible exact M.d1_11) M.olt (by omega)) ?_
            rintro e W8 ⟨rfl, hb⟩
            replace M := M.call hb
            refine ⟨_, rfl, ?_⟩
            cases hmt : mightR x.path (ofB low) (ofB high) (decide (high.length = 0)) with
            | true =>
              rw [if_pos ⟨rfl, hmt⟩] at hR2
              replace M := M.drew
              refine drT (fun W => ∀ j v, (ics x Ap cp Av cv Ah ch)[j]? = some v → W.cell? ((⟨g20, 0, none⟩ : Addr).add j) = some v) (.take 0 (.take 1 (.take 2 (.take 3 (.take 4 (.nil)))))) (by kernel_rfl) (M.run 0 rfl) ?_
              refine p_fld fI0 rfl ?_
              refine t_load agg_b rfl (fun W h => h 0 _ rfl) ?_
              rw [hR2]
              exact ⟨none, 0, 0, Ap, _, cp, rfl, RdD.nil_ _ _, M.fin1 2 rfl, M.below⟩
            | false =>
              rw [if_neg (by rw [hmt]; simp), if_neg (by simp)] at hR2
              refine p_fld fI0 rfl ?_
              refine v_load agg_b rfl (by first | exact (M.B 0 rfl).at_ rfl | exact (M.B 1 rfl).at_ rfl | exact (M.B 2 rfl).at_ rfl | exact (M.B 3 rfl).at_ rfl | exact (M.B 4 rfl).at_ rfl | exact M.lc 0 rfl _ _ rfl | exact M.lc 1 rfl _ _ rfl | exact M.lc 2 rfl _ _ rfl | exact M.lc 3 rfl _ _ rfl | exact M.lc 4 rfl _ _ rfl | exact M.lc 5 rfl _ _ rfl | exact M.lc 6 rfl _ _ rfl | exact M.lc 7 rfl _ _ rfl) ?_
              refine cc is_rby (refBytes_any _ _ _ x.path _ (M.rdb 2 rfl).2.2 (by omega)) ?_
              rintro e W9 ⟨Ak, nk, ck, rfl, ok, hb⟩
              have ek := ok.len
              subst ek
              replace M := M.callO hb ok
              refine ⟨_, rfl, ?_⟩
              refine p_fld fI2 rfl ?_
              refine v_load agg_bo (v := .bool true) rfl (by rw [← hs]; exact (M.B 0 rfl).at_ rfl) ?_
              refine p_not rfl ?_
              refine p_add rfl rfl (r := ((i + 1 : Nat) : Int)) ((w64 (by omega)).trans (by omega)) ?_
              refine ⟨(i + 1, A, c, xs, out), ⟨by dsimp only; omega, by dsimp only; omega, M.dropL.fsub _ (by intro f hf; simp only [List.mem_cons, List.not_mem_nil, or_false] at hf ⊢; rcases hf with h | h | h | h | h | h <;> simp [h]), hR2⟩, (by repeat (first | exact trivial | refine ⟨rfl, ?_⟩)), by dsimp only; omega⟩
          | false =>
            rw [hs] at hR2
            rw [if_neg (by simp)] at hR2
            have hkl : (bytesL x.path).length ≤ 1000000 := by
              have := joinB_length x.path
              unfold bytesL
              split
              · split
                · simp
                · omega
              · simp
            refine p_fld fI0 rfl ?_
            refine v_load agg_b rfl (by first | exact (M.B 0 rfl).at_ rfl | exact (M.B 1 rfl).at_ rfl | exact (M.B 2 rfl).at_ rfl | exact (M.B 3 rfl).at_ rfl | exact (M.B 4 rfl).at_ rfl | exact M.lc 0 rfl _ _ rfl | exact M.lc 1 rfl _ _ rfl | exact M.lc 2 rfl _ _ rfl | exact M.lc 3 rfl _ _ rfl | exact M.lc 4 rfl _ _ rfl | exact M.lc 5 rfl _ _ rfl | exact M.lc 6 rfl _ _ rfl | exact M.lc 7 rfl _ _ rfl) ?_
            refine cc is_rby (refBytes_any _ _ _ x.path _ (M.rdb 2 rfl).2.2 (by omega)) ?_
            rintro e W9 ⟨Ak, nk, ck, rfl, ok, hb⟩
            have ek := ok.len
            subst ek
            replace M := M.callO hb ok
            refine ⟨_, rfl, ?_⟩
            refine p_fld fI2 rfl ?_
            refine v_load agg_bo (v := .bool false) rfl (by rw [← hs]; exact (M.B 0 rfl).at_ rfl) ?_
            refine p_not rfl ?_
            refine cc is_cmp04 (cmp04_any _ _ _ _ _ _ _ (bytesL x.path) low _ (M.rdb 0 rfl).2.2 (M.rdb 10 rfl).2.2 (by omega) (by omega)) ?_
            rintro e W10 ⟨rfl, dd, rfl⟩
            replace M := M.drewN dd
            refine ⟨_, rfl, ?_⟩
            refine p_ge rfl rfl (fun hge1 => ?_) (fun hge1 => ?_)
            · cases hop2 : decide (high.length = 0) with
              | true =>
                have hin : inR (bytesL x.path) low high = true := by unfold inR; rw [hop2, decide_eq_true (show 0 ≤ cmpB (bytesL x.path) low by omega)]; rfl
                rw [if_pos ⟨rfl, hin⟩] at hR2
                refine p_fld fI1 rfl ?_
                refine v_load agg_b rfl (by first | exact (M.B 0 rfl).at_ rfl | exact (M.B 1 rfl).at_ rfl | exact (M.B 2 rfl).at_ rfl | exact (M.B 3 rfl).at_ rfl | exact (M.B 4 rfl).at_ rfl | exact M.lc 0 rfl _ _ rfl | exact M.lc 1 rfl _ _ rfl | exact M.lc 2 rfl _ _ rfl | exact M.lc 3 rfl _ _ rfl | exact M.lc 4 rfl _ _ rfl | exact M.lc 5 rfl _ _ rfl | exact M.lc 6 rfl _ _ rfl | exact M.lc 7 rfl _ _ rfl) ?_
                refine cc is_copy0 (copy_any _ _ _ x.val _ (M.rdb 4 rfl).2.2 (by omega)) ?_
                rintro e W11 ⟨A8, c8, rfl, o8, hb⟩
                replace M := M.callO hb o8
                refine ⟨_, rfl, ?_⟩
                refine p_build (vs := [.slice Ak (bytesL x.path).length ck, .slice A8 x.val.length c8]) pl_pr z_pr rfl ?_
                refine s_bsliceB [.slice Ak (bytesL x.path).length ck, .slice A8 x.val.length c8] M slp z_pr rfl (by decide) rfl ?_
                clear M; rintro gl W12 M
                refine s_app M Try.underlying28 prinfo rfl (by decide) rfl rfl (Reads.blk (M.B 0 rfl) rfl) (all1 rfl) ⟨by omega, by decide⟩ ?_
                clear M; rintro A9 c9 W13 M -
                have hln : (out ++ [(⟨bytesL x.path, x.val⟩ : Pr)]).length = out.length + 1 := by simp
                have hX := M.addL (ds := dPrs (out ++ [⟨bytesL x.path, x.val⟩])) (cs := xs ++ [.slice Ak (bytesL x.path).length ck, .slice A8 x.val.length c8]) (by
                  rw [dPrs_snoc]
                  exact (M.da 7 rfl).app (RdL.cons (M.d1 1 rfl) (RdL.cons (M.d1 0 rfl) RdL.nil_)))
                refine p_add rfl rfl (r := ((i + 1 : Nat) : Int)) ((w64 (by omega)).trans (by omega)) ?_
                refine ⟨(i + 1, A9, c9, xs ++ [.slice Ak (bytesL x.path).length ck, .slice A8 x.val.length c8], out ++ [⟨bytesL x.path, x.val⟩]), ⟨by dsimp only; omega, by dsimp only; rw [hln]; omega, ?_, hR2⟩, (by dsimp only; rw [hln]; repeat (first | exact trivial | refine ⟨rfl, ?_⟩)), by dsimp only; omega⟩
                dsimp only
                rw [hln]
                exact hX.dropL.dropL.fsub _ (by intro f hf; simp only [List.mem_cons, List.not_mem_nil, or_false] at hf ⊢; rcases hf with h | h | h | h | h | h <;> simp [h])
              | false =>
                refine cc is_cmp04 (cmp04_any _ _ _ _ _ _ _ (bytesL x.path) high _ (M.rdb 0 rfl).2.2 (M.rdb 11 rfl).2.2 (by omega) (by omega)) ?_
                rintro e W10 ⟨rfl, dd2, rfl⟩
                replace M := M.drewN dd2
                refine ⟨_, rfl, ?_⟩
                refine p_lt rfl rfl (fun hlt2 => ?_) (fun hlt2 => ?_)
                · have hin : inR (bytesL x.path) low high = true := by unfold inR; rw [hop2, decide_eq_true (show 0 ≤ cmpB (bytesL x.path) low by omega), decide_eq_true hlt2]; rfl
                  rw [if_pos ⟨rfl, hin⟩] at hR2
                  refine p_fld fI1 rfl ?_
                  refine v_load agg_b rfl (by first | exact (M.B 0 rfl).at_ rfl | exact (M.B 1 rfl).at_ rfl | exact (M.B 2 rfl).at_ rfl | exact (M.B 3 rfl).at_ rfl | exact (M.B 4 rfl).at_ rfl | exact M.lc 0 rfl _ _ rfl | exact M.lc 1 rfl _ _ rfl | exact M.lc 2 rfl _ _ rfl | exact M.lc 3 rfl _ _ rfl | exact M.lc 4 rfl _ _ rfl | exact M.lc 5 rfl _ _ rfl | exact M.lc 6 rfl _ _ rfl | exact M.lc 7 rfl _ _ rfl) ?_
                  refine cc is_copy0 (copy_any _ _ _ x.val _ (M.rdb 4 rfl).2.2 (by omega)) ?_
                  rintro e W11 ⟨A8, c8, rfl, o8, hb⟩
                  replace M := M.callO hb o8
                  refine ⟨_, rfl, ?_⟩
                  refine p_build (vs := [.slice Ak (bytesL x.path).length ck, .slice A8 x.val.length c8]) pl_pr z_pr rfl ?_
                  refine s_bsliceB [.slice Ak (bytesL x.path).length ck, .slice A8 x.val.length c8] M slp z_pr rfl (by decide) rfl ?_
                  clear M; rintro gl W12 M
                  refine s_app M Try.underlying28 prinfo rfl (by decide) rfl rfl (Reads.blk (M.B 0 rfl) rfl) (all1 rfl) ⟨by omega, by decide⟩ ?_
                  clear M; rintro A9 c9 W13 M -
                  have hln : (out ++ [(⟨bytesL x.path, x.val⟩ : Pr)]).length = out.length + 1 := by simp
                  have hX := M.addL (ds := dPrs (out ++ [⟨bytesL x.path, x.val⟩])) (cs := xs ++ [.slice Ak (bytesL x.path).length ck, .slice A8 x.val.length c8]) (by
                    rw [dPrs_snoc]
                    exact (M.da 7 rfl).app (RdL.cons (M.d1 1 rfl) (RdL.cons (M.d1 0 rfl) RdL.nil_)))
                  refine p_add rfl rfl (r := ((i + 1 : Nat) : Int)) ((w64 (by omega)).trans (by omega)) ?_
                  refine ⟨(i + 1, A9, c9, xs ++ [.slice Ak (bytesL x.path).length ck, .slice A8 x.val.length c8], out ++ [⟨bytesL x.path, x.val⟩]), ⟨by dsimp only; omega, by dsimp only; rw [hln]; omega, ?_, hR2⟩, (by dsimp only; rw [hln]; repeat (first | exact trivial | refine ⟨rfl, ?_⟩)), by dsimp only; omega⟩
                  dsimp only
                  rw [hln]
                  exact hX.dropL.dropL.fsub _ (by intro f hf; simp only [List.mem_cons, List.not_mem_nil, or_false] at hf ⊢; rcases hf with h | h | h | h | h | h <;> simp [h])
                · have hin : inR (bytesL x.path) low high = false := by unfold inR; rw [hop2, decide_eq_false hlt2]; simp
                  rw [if_neg (by rw [hin]; simp)] at hR2
                  refine p_add rfl rfl (r := ((i + 1 : Nat) : Int)) ((w64 (by omega)).trans (by omega)) ?_
                  refine ⟨(i + 1, A, c, xs, out), ⟨by dsimp only; omega, by dsimp only; omega, M.dropL.fsub _ (by intro f hf; simp only [List.mem_cons, List.not_mem_nil, or_false] at hf ⊢; rcases hf with h | h | h | h | h | h <;> simp [h]), hR2⟩, (by repeat (first | exact trivial | refine ⟨rfl, ?_⟩)), by dsimp only; omega⟩
            · have hin : inR (bytesL x.path) low high = false := by unfold inR; rw [decide_eq_false (show ¬ 0 ≤ cmpB (bytesL x.path) low by omega)]; rfl
              rw [if_neg (by rw [hin]; simp)] at hR2
              refine p_add rfl rfl (r := ((i + 1 : Nat) : Int)) ((w64 (by omega)).trans (by omega)) ?_
              refine ⟨(i + 1, A, c, xs, out), ⟨by dsimp only; omega, by dsimp only; omega, M.dropL.fsub _ (by intro f hf; simp only [List.mem_cons, List.not_mem_nil, or_false] at hf ⊢; rcases hf with h | h | h | h | h | h <;> simp [h]), hR2⟩, (by repeat (first | exact trivial | refine ⟨rfl, ?_⟩)), by dsimp only; omega⟩
        | true =>
          obtain ⟨j, hj⟩ : ∃ j, j = n4 - 1 - i := ⟨_, rfl⟩
          have hjL : j < LI.length := by omega
          obtain ⟨y, hyi⟩ : ∃ y, LI[i]? = some y := ⟨_, List.getElem?_eq_getElem hiL⟩
          obtain ⟨x, hxi⟩ : ∃ x, LI[j]? = some x := ⟨_, List.getElem?_eq_getElem hjL⟩
          obtain ⟨b, off, Bp, bp, Bv, bv, Bh, bh, rfl, M'⟩ := M.item (M.d1 3 rfl) hyi
          obtain ⟨b2, off2, Ap, cp, Av, cv, Ah, ch, e2, M2⟩ := M.item (M.d1 3 rfl) hxi
          injection e2 with e2
          injection e2 with ea eb
          subst ea; subst eb
          have hly := M'.lc 0 rfl
          clear M'
          replace M := M2; clear M2
          refine p_at (i := i) sli rfl rfl rfl (by omega) ?_
          refine v_loadN (ics y Bp bp Bv bv Bh bh) agg_it rfl rfl hly ?_
          refine s_alloc (zI) M (by kernel_rfl) ?_
          clear M
          rintro g20 W M
          first | refine s_storeA 0 (ics y Bp bp Bv bv Bh bh) M rfl (by kernel_rfl) rfl rfl rfl (all1 rfl) rfl ?_ | refine s_storeA 1 (ics y Bp bp Bv bv Bh bh) M rfl (by kernel_rfl) rfl rfl rfl (all1 rfl) rfl ?_ | refine s_storeA 2 (ics y Bp bp Bv bv Bh bh) M rfl (by kernel_rfl) rfl rfl rfl (all1 rfl) rfl ?_ | refine s_storeA 3 (ics y Bp bp Bv bv Bh bh) M rfl (by kernel_rfl) rfl rfl rfl (all1 rfl) rfl ?_
          clear M
          rintro W M
          dsimp only [setL] at M
          refine p_len sli rfl ?_
          refine p_subN (a := n4) (b := 1) rfl rfl (by omega) (by omega) ?_
          refine p_subN (a := n4 - 1) (b := i) rfl rfl (by omega) (by omega) ?_
          rw [← hj]
          refine p_at (i := j) sli rfl rfl rfl (by omega) ?_
          refine v_loadN (ics x Ap cp Av cv Ah ch) agg_it rfl rfl (M.lc 0 rfl) ?_
          first | refine s_storeA 0 (ics x Ap cp Av cv Ah ch) M rfl (by kernel_rfl) rfl rfl rfl (all1 rfl) rfl ?_ | refine s_storeA 1 (ics x Ap cp Av cv Ah ch) M rfl (by kernel_rfl) rfl rfl rfl (all1 rfl) rfl ?_ | refine s_storeA 2 (ics x Ap cp Av cv Ah ch) M rfl (by kernel_rfl) rfl rfl rfl (all1 rfl) rfl ?_ | refine s_storeA 3 (ics x Ap cp Av cv Ah ch) M rfl (by kernel_rfl) rfl rfl rfl (all1 rfl) rfl ?_
          clear M
          rintro W M
          dsimp only [setL] at M
          have hx := drop_get (l := LL) (i := i) (x := x) (by (rw [hLL]; exact rev_get (by omega) hiL (by rw [show LI.length - 1 - i = j by omega]; exact hxi)))
          rw [hx, rGo, if_pos hlo] at hR2
          have hxm := hbig x (List.mem_of_getElem? hxi)
          refine p_fld fI2 rfl ?_
          refine v_load agg_bo rfl (by first | exact (M.B 0 rfl).at_ rfl | exact (M.B 1 rfl).at_ rfl | exact (M.B 2 rfl).at_ rfl | exact (M.B 3 rfl).at_ rfl | exact (M.B 4 rfl).at_ rfl | exact M.lc 0 rfl _ _ rfl | exact M.lc 1 rfl _ _ rfl | exact M.lc 2 rfl _ _ rfl | exact M.lc 3 rfl _ _ rfl | exact M.lc 4 rfl _ _ rfl | exact M.lc 5 rfl _ _ rfl | exact M.lc 6 rfl _ _ rfl | exact M.lc 7 rfl _ _ rfl) ?_
          cases hs : x.stub with
          | true =>
            rw [hs] at hR2
            refine p_fld fI0 rfl ?_
            refine v_load agg_b rfl (by first | exact (M.B 0 rfl).at_ rfl | exact (M.B 1 rfl).at_ rfl | exact (M.B 2 rfl).at_ rfl | exact (M.B 3 rfl).at_ rfl | exact (M.B 4 rfl).at_ rfl | exact M.lc 0 rfl _ _ rfl | exact M.lc 1 rfl _ _ rfl | exact M.lc 2 rfl _ _ rfl | exact M.lc 3 rfl _ _ rfl | exact M.lc 4 rfl _ _ rfl | exact M.lc 5 rfl _ _ rfl | exact M.lc 6 rfl _ _ rfl | exact M.lc 7 rfl _ _ rfl) ?_
            refine cc is_might (might_any x.path (ofB low) (ofB high) (decide (high.length = 0)) _ _ _ A6 A7 _ cp _ c6 _ c7 (by first | with_reducible exact M.d1_0 | with_reducible exact M.d1_1 | with_reducible exact M.d1_2 | with_reducible exact M.d1_3 | with_reducible exact M.d1_4 | with_reducible exact M.d1_5 | with_reducible exact M.d1_6 | with_reducible exact M.d1_7 | with_reducible exact M.d1_8 | with_reducible exact M.d1_9 | with_reducible exact M.d1_10 | with_reducible exact M.d1_11) (by first | with_reducible exact M.d1_0 | with_reducible exact M.d1_1 | with_reducible exact M.d1_2 | with_reducible exact M.d1_3 | with_reducible exact M.d1_4 | with_reducible exact M.d1_5 | with_reducible exact M.d1_6 | with_reducible exact M.d1_7 | with_reducible exact M.d1_8 | with_reducible exact M.d1_9 | with_reducible exact M.d1_10 | with_reducible exact M.d1_11) (by first | with_reducible exact M.d1_0 | with_reducible exact M.d1_1 | with_reducible exact M.d1_2 | with_reducible exact M.d1_3 | with_reducible exact M.d1_4 | with_reducible exact M.d1_5 | with_reducible exact M.d1_6 | with_reducible exact M.d1_7 | with_reducible exact M.d1_8 | with_reducible exact M.d1_9 | with_reducible exact M.d1_10 | with_reducible exact M.d1_11) M.olt (by omega)) ?_
            rintro e W8 ⟨rfl, hb⟩
            replace M := M.call hb
            refine ⟨_, rfl, ?_⟩
            cases hmt : mightR x.path (ofB low) (ofB high) (decide (high.length = 0)) with
            | true =>
              rw [if_pos ⟨rfl, hmt⟩] at hR2
              replace M := M.drew
              refine drT (fun W => ∀ j v, (ics x Ap cp Av cv Ah ch)[j]? = some v → W.cell? ((⟨g20, 0, none⟩ : Addr).add j) = some v) (.take 0 (.take 1 (.take 2 (.take 3 (.take 4 (.nil)))))) (by kernel_rfl) (M.run 0 rfl) ?_
              refine p_fld fI0 rfl ?_
              refine t_load agg_b rfl (fun W h => h 0 _ rfl) ?_
              rw [hR2]
              exact ⟨none, 0, 0, Ap, _, cp, rfl, RdD.nil_ _ _, M.fin1 2 rfl, M.below⟩
            | false =>
              rw [if_neg (by rw [hmt]; simp), if_neg (by simp)] at hR2
              refine p_fld fI0 rfl ?_
              refine v_load agg_b rfl (by first | exact (M.B 0 rfl).at_ rfl | exact (M.B 1 rfl).at_ rfl | exact (M.B 2 rfl).at_ rfl | exact (M.B 3 rfl).at_ rfl | exact (M.B 4 rfl).at_ rfl | exact M.lc 0 rfl _ _ rfl | exact M.lc 1 rfl _ _ rfl | exact M.lc 2 rfl _ _ rfl | exact M.lc 3 rfl _ _ rfl | exact M.lc 4 rfl _ _ rfl | exact M.lc 5 rfl _ _ rfl | exact M.lc 6 rfl _ _ rfl | exact M.lc 7 rfl _ _ rfl) ?_
              refine cc is_rby (refBytes_any _ _ _ x.path _ (M.rdb 2 rfl).2.2 (by omega)) ?_
              rintro e W9 ⟨Ak, nk, ck, rfl, ok, hb⟩
              have ek := ok.len
              subst ek
              replace M := M.callO hb ok
              refine ⟨_, rfl, ?_⟩
              refine p_fld fI2 rfl ?_
              refine v_load agg_bo (v := .bool true) rfl (by rw [← hs]; exact (M.B 0 rfl).at_ rfl) ?_
              refine p_not rfl ?_
              refine p_add rfl rfl (r := ((i + 1 : Nat) : Int)) ((w64 (by omega)).trans (by omega)) ?_
              refine ⟨(i + 1, A, c, xs, out), ⟨by dsimp only; omega, by dsimp only; omega, M.dropL.fsub _ (by intro f hf; simp only [List.mem_cons, List.not_mem_nil, or_false] at hf ⊢; rcases hf with h | h | h | h | h | h <;> simp [h]), hR2⟩, (by repeat (first | exact trivial | refine ⟨rfl, ?_⟩)), by dsimp only; omega⟩
          | false =>
            rw [hs] at hR2
            rw [if_neg (by simp)] at hR2
            have hkl : (bytesL x.path).length ≤ 1000000 := by
              have := joinB_length x.path
              unfold bytesL
              split
              · split
                · simp
                · omega
              · simp
            refine p_fld fI0 rfl ?_
            refine v_load agg_b rfl (by first | exact (M.B 0 rfl).at_ rfl | exact (M.B 1 rfl).at_ rfl | exact (M.B 2 rfl).at_ rfl | exact (M.B 3 rfl).at_ rfl | exact (M.B 4 rfl).at_ rfl | exact M.lc 0 rfl _ _ rfl | exact M.lc 1 rfl _ _ rfl | exact M.lc 2 rfl _ _ rfl | exact M.lc 3 rfl _ _ rfl | exact M.lc 4 rfl _ _ rfl | exact M.lc 5 rfl _ _ rfl | exact M.lc 6 rfl _ _ rfl | exact M.lc 7 rfl _ _ rfl) ?_
            refine cc is_rby (refBytes_any _ _ _ x.path _ (M.rdb 2 rfl).2.2 (by omega)) ?_
            rintro e W9 ⟨Ak, nk, ck, rfl, ok, hb⟩
            have ek := ok.len
            subst ek
            replace M := M.callO hb ok
            refine ⟨_, rfl, ?_⟩
            refine p_fld fI2 rfl ?_
            refine v_load agg_bo (v := .bool false) rfl (by rw [← hs]; exact (M.B 0 rfl).at_ rfl) ?_
            refine p_not rfl ?_
            refine cc is_cmp04 (cmp04_any _ _ _ _ _ _ _ (bytesL x.path) low _ (M.rdb 0 rfl).2.2 (M.rdb 10 rfl).2.2 (by omega) (by omega)) ?_
            rintro e W10 ⟨rfl, dd, rfl⟩
            replace M := M.drewN dd
            refine ⟨_, rfl, ?_⟩
            refine p_ge rfl rfl (fun hge1 => ?_) (fun hge1 => ?_)
            · cases hop2 : decide (high.length = 0) with
              | true =>
                have hin : inR (bytesL x.path) low high = true := by unfold inR; rw [hop2, decide_eq_true (show 0 ≤ cmpB (bytesL x.path) low by omega)]; rfl
                rw [if_pos ⟨rfl, hin⟩] at hR2
                refine p_fld fI1 rfl ?_
                refine v_load agg_b rfl (by first | exact (M.B 0 rfl).at_ rfl | exact (M.B 1 rfl).at_ rfl | exact (M.B 2 rfl).at_ rfl | exact (M.B 3 rfl).at_ rfl | exact (M.B 4 rfl).at_ rfl | exact M.lc 0 rfl _ _ rfl | exact M.lc 1 rfl _ _ rfl | exact M.lc 2 rfl _ _ rfl | exact M.lc 3 rfl _ _ rfl | exact M.lc 4 rfl _ _ rfl | exact M.lc 5 rfl _ _ rfl | exact M.lc 6 rfl _ _ rfl | exact M.lc 7 rfl _ _ rfl) ?_
                refine cc is_copy0 (copy_any _ _ _ x.val _ (M.rdb 4 rfl).2.2 (by omega)) ?_
                rintro e W11 ⟨A8, c8, rfl, o8, hb⟩
                replace M := M.callO hb o8
                refine ⟨_, rfl, ?_⟩
                refine p_build (vs := [.slice Ak (bytesL x.path).length ck, .slice A8 x.val.length c8]) pl_pr z_pr rfl ?_
                refine s_bsliceB [.slice Ak (bytesL x.path).length ck, .slice A8 x.val.length c8] M slp z_pr rfl (by decide) rfl ?_
                clear M; rintro gl W12 M
                refine s_app M Try.underlying28 prinfo rfl (by decide) rfl rfl (Reads.blk (M.B 0 rfl) rfl) (all1 rfl) ⟨by omega, by decide⟩ ?_
                clear M; rintro A9 c9 W13 M -
                have hln : (out ++ [(⟨bytesL x.path, x.val⟩ : Pr)]).length = out.length + 1 := by simp
                have hX := M.addL (ds := dPrs (out ++ [⟨bytesL x.path, x.val⟩])) (cs := xs ++ [.slice Ak (bytesL x.path).length ck, .slice A8 x.val.length c8]) (by
                  rw [dPrs_snoc]
                  exact (M.da 7 rfl).app (RdL.cons (M.d1 1 rfl) (RdL.cons (M.d1 0 rfl) RdL.nil_)))
                refine p_add rfl rfl (r := ((i + 1 : Nat) : Int)) ((w64 (by omega)).trans (by omega)) ?_
                refine ⟨(i + 1, A9, c9, xs ++ [.slice Ak (bytesL x.path).length ck, .slice A8 x.val.length c8], out ++ [⟨bytesL x.path, x.val⟩]), ⟨by dsimp only; omega, by dsimp only; rw [hln]; omega, ?_, hR2⟩, (by dsimp only; rw [hln]; repeat (first | exact trivial | refine ⟨rfl, ?_⟩)), by dsimp only; omega⟩
                dsimp only
                rw [hln]
                exact hX.dropL.dropL.fsub _ (by intro f hf; simp only [List.mem_cons, List.not_mem_nil, or_false] at hf ⊢; rcases hf with h | h | h | h | h | h <;> simp [h])
              | false =>
                refine cc is_cmp04 (cmp04_any _ _ _ _ _ _ _ (bytesL x.path) high _ (M.rdb 0 rfl).2.2 (M.rdb 11 rfl).2.2 (by omega) (by omega)) ?_
                rintro e W10 ⟨rfl, dd2, rfl⟩
                replace M := M.drewN dd2
                refine ⟨_, rfl, ?_⟩
                refine p_lt rfl rfl (fun hlt2 => ?_) (fun hlt2 => ?_)
                · have hin : inR (bytesL x.path) low high = true := by unfold inR; rw [hop2, decide_eq_true (show 0 ≤ cmpB (bytesL x.path) low by omega), decide_eq_true hlt2]; rfl
                  rw [if_pos ⟨rfl, hin⟩] at hR2
                  refine p_fld fI1 rfl ?_
                  refine v_load agg_b rfl (by first | exact (M.B 0 rfl).at_ rfl | exact (M.B 1 rfl).at_ rfl | exact (M.B 2 rfl).at_ rfl | exact (M.B 3 rfl).at_ rfl | exact (M.B 4 rfl).at_ rfl | exact M.lc 0 rfl _ _ rfl | exact M.lc 1 rfl _ _ rfl | exact M.lc 2 rfl _ _ rfl | exact M.lc 3 rfl _ _ rfl | exact M.lc 4 rfl _ _ rfl | exact M.lc 5 rfl _ _ rfl | exact M.lc 6 rfl _ _ rfl | exact M.lc 7 rfl _ _ rfl) ?_
                  refine cc is_copy0 (copy_any _ _ _ x.val _ (M.rdb 4 rfl).2.2 (by omega)) ?_
                  rintro e W11 ⟨A8, c8, rfl, o8, hb⟩
                  replace M := M.callO hb o8
                  refine ⟨_, rfl, ?_⟩
                  refine p_build (vs := [.slice Ak (bytesL x.path).length ck, .slice A8 x.val.length c8]) pl_pr z_pr rfl ?_
                  refine s_bsliceB [.slice Ak (bytesL x.path).length ck, .slice A8 x.val.length c8] M slp z_pr rfl (by decide) rfl ?_
                  clear M; rintro gl W12 M
                  refine s_app M Try.underlying28 prinfo rfl (by decide) rfl rfl (Reads.blk (M.B 0 rfl) rfl) (all1 rfl) ⟨by omega, by decide⟩ ?_
                  clear M; rintro A9 c9 W13 M -
                  have hln : (out ++ [(⟨bytesL x.path, x.val⟩ : Pr)]).length = out.length + 1 := by simp
                  have hX := M.addL (ds := dPrs (out ++ [⟨bytesL x.path, x.val⟩])) (cs := xs ++ [.slice Ak (bytesL x.path).length ck, .slice A8 x.val.length c8]) (by
                    rw [dPrs_snoc]
                    exact (M.da 7 rfl).app (RdL.cons (M.d1 1 rfl) (RdL.cons (M.d1 0 rfl) RdL.nil_)))
                  refine p_add rfl rfl (r := ((i + 1 : Nat) : Int)) ((w64 (by omega)).trans (by omega)) ?_
                  refine ⟨(i + 1, A9, c9, xs ++ [.slice Ak (bytesL x.path).length ck, .slice A8 x.val.length c8], out ++ [⟨bytesL x.path, x.val⟩]), ⟨by dsimp only; omega, by dsimp only; rw [hln]; omega, ?_, hR2⟩, (by dsimp only; rw [hln]; repeat (first | exact trivial | refine ⟨rfl, ?_⟩)), by dsimp only; omega⟩
                  dsimp only
                  rw [hln]
                  exact hX.dropL.dropL.fsub _ (by intro f hf; simp only [List.mem_cons, List.not_mem_nil, or_false] at hf ⊢; rcases hf with h | h | h | h | h | h <;> simp [h])
                · have hin : inR (bytesL x.path) low high = false := by unfold inR; rw [hop2, decide_eq_false hlt2]; simp
                  rw [if_neg (by rw [hin]; simp)] at hR2
                  refine p_add rfl rfl (r := ((i + 1 : Nat) : Int)) ((w64 (by omega)).trans (by omega)) ?_
                  refine ⟨(i + 1, A, c, xs, out), ⟨by dsimp only; omega, by dsimp only; omega, M.dropL.fsub _ (by intro f hf; simp only [List.mem_cons, List.not_mem_nil, or_false] at hf ⊢; rcases hf with h | h | h | h | h | h <;> simp [h]), hR2⟩, (by repeat (first | exact trivial | refine ⟨rfl, ?_⟩)), by dsimp only; omega⟩
            · have hin : inR (bytesL x.path) low high = false := by unfold inR; rw [decide_eq_false (show ¬ 0 ≤ cmpB (bytesL x.path) low by omega)]; rfl
              rw [if_neg (by rw [hin]; simp)] at hR2
              refine p_add rfl rfl (r := ((i + 1 : Nat) : Int)) ((w64 (by omega)).trans (by omega)) ?_
              refine ⟨(i + 1, A, c, xs, out), ⟨by dsimp only; omega, by dsimp only; omega, M.dropL.fsub _ (by intro f hf; simp only [List.mem_cons, List.not_mem_nil, or_false] at hf ⊢; rcases hf with h | h | h | h | h | h <;> simp [h]), hR2⟩, (by repeat (first | exact trivial | refine ⟨rfl, ?_⟩)), by dsimp only; omega⟩
      ·
        have hF : RR = ⟨out, none, 0⟩ := by (rw [hR2, rGo_full _ _ _ _ _ hlo])
        rw [hF]
        replace M := M.frzR (fr := false) ((M.dt 0 rfl).to fun b hb => ⟨rfl, hb⟩)
        exact ⟨A, _, c, none, 0, 0, rfl, M.fin1 0 rfl, RdD.nil_ _ _, M.below⟩
    ·
      have hF : RR = ⟨out, none, 0⟩ := by (rw [hR2, List.drop_of_length_le (by rw [hLn]; omega)]; rfl)
      rw [hF]
      replace M := M.frzR (fr := false) ((M.dt 0 rfl).to fun b hb => ⟨rfl, hb⟩)
      exact ⟨A, _, c, none, 0, 0, rfl, M.fin1 0 rfl, RdD.nil_ _ _, M.below⟩
  · rw [if_neg he] at hRR
    subst hRR
    exact ⟨none, 0, 0, none, 0, 0, rfl, RdD.nil_ _ _, RdD.nil_ _ _, M.below⟩
end Go.Proofs.Ytkfbkhahkkmcoaa
namespace Go.Proofs.Ytkfbkhahkkmcoaa
open Go.RowKit
theorem is_next04 : isFn Try.prog 31 = true := by kernel_rfl
set_option maxRecDepth 100000 in
set_option maxHeartbeats 1000000 in
theorem next04_any (l : List UInt8) (gs : List (Option Nat)) (w : World) (A1 : Option Addr) (n1 c1 : Nat) (h1 : RdD w (Fd w gs) (dB l) (.slice A1 n1 c1)) (hgs : ∀ b, some b ∈ gs → b < w.heap.size) (hz : n1 ≤ 500000) :
    Calls Try.prog 31 #[.slice A1 n1 c1] w fun e W' => ∃ A n c, e = .returned (.slice A n c) ∧ RdD W' (Fr w W') (dB (nextP l)) (.slice A n c) ∧ Below w.heap.size w W' := by
  refine calls_ev (args := [.slice A1 n1 c1]) mixed Try.func31 rfl (by kernel_rfl) ?_
  have e1 := h1.slen
  have M := (St.start hgs).addD h1
  clear h1
  have hc1 := (M.rdb 0 rfl).2.1
  refine p_len slb rfl ?_
  refine lp Nat (fun m W => m ≤ n1 ∧ trimN (l.take m) = trimN l ∧ St w gs W [] [] [.dat false [dB l] [.slice A1 n1 c1]]) (fun m => [(0, .slice A1 n1 c1), (3, .int .i64 m)]) (fun m => m) n1 ⟨Nat.le_refl _, by rw [List.take_of_length_le (by omega)], M⟩ (by repeat (first | exact trivial | refine ⟨rfl, ?_⟩)) ?_
  clear M
  rintro m E W ⟨hm, ht, M⟩
  cases m with
  | zero =>
    have hnil : trimN l = [] := by rw [← ht]; rfl
    have hx : nextP l = [] := by unfold nextP; rw [hnil]; rfl
    refine p_gt rfl rfl (fun h => absurd h (by simp)) (fun _ => ?_)
    refine p_eq rfl rfl (fun _ => ?_) (fun h => absurd rfl h)
    rw [hx]
    exact ⟨none, 0, 0, rfl, RdD.nil_ _ _, M.below⟩
  | succ k =>
    have hkl : k < l.length := by omega
    have e8 : at8 l k = ((l[k]).toNat : Int) := by unfold at8; rw [List.getD_eq_getElem?_getD, List.getElem?_eq_getElem hkl]; rfl
    have h256 : (l[k]).toNat < 256 := UInt8.toNat_lt _
    rw [tk_snoc hkl, trimN_snoc] at ht
    obtain ⟨b, off, rfl, hcell⟩ := (M.rdb 0 rfl).2.2.at_ (k := k) (by omega)
    have hcell' : W.cell? ((⟨b, off, none⟩ : Addr).add (k * 1)) = some (.int .u8 (at8 l k)) := by rw [Addr.add_lit, Nat.mul_one]; exact hcell
    refine p_gt rfl rfl (fun _ => ?_) (fun h => absurd (by omega) h)
    refine p_subN (a := k + 1) (b := 1) rfl rfl (by omega) (by omega) ?_
    refine p_at (i := k) slb rfl rfl rfl (by omega) ?_
    refine v_load agg_by' rfl hcell' ?_
    refine p_eq rfl rfl (fun h255 => ?_) (fun hne => ?_)
    · have h255' : l[k] = 255 := by apply UInt8.toNat_inj.1; have : (255 : UInt8).toNat = 255 := rfl; omega
      rw [if_pos h255'] at ht
      refine p_subN (a := k + 1) (b := 1) rfl rfl (by omega) (by omega) ?_
      exact ⟨k, ⟨by omega, ht, M⟩, (by repeat (first | exact trivial | refine ⟨rfl, ?_⟩)), by omega⟩
    · have hne' : ¬ l[k] = 255 := fun e => hne (by rw [e8, e]; rfl)
      have hlt : (l[k]).toNat ≤ 254 := by
        have : (l[k]).toNat ≠ 255 := fun e => hne (by rw [e8, e]; rfl)
        omega
      rw [if_neg hne'] at ht
      have hx : nextP l = l.take k ++ [l[k] + 1] := by unfold nextP; rw [← ht, incL_snoc]
      have hv : [Value.int .u8 (at8 l k + 1)] = bvs [l[k] + 1] := by
        unfold bvs u8v
        rw [List.map_cons, UInt8.toNat_add, e8, show (1 : UInt8).toNat = 1 from rfl, Nat.mod_eq_of_lt (by omega)]; rfl
      have hlen : (l.take k ++ [l[k] + 1]).length = k + 1 := by rw [List.length_append, List.length_take]; simp; omega
      refine p_eq rfl rfl (fun h => absurd h (by omega)) (fun _ => ?_)
      refine p_subN (a := k + 1) (b := 1) rfl rfl (by omega) (by omega) ?_
      refine p_slice (i := 0) (j := k) (m := c1) slb rfl rfl (bnd_i rfl) rfl rfl (Nat.zero_le _) (by omega) (Nat.le_refl _) ?_
      rw [slA0, Nat.sub_zero, Nat.sub_zero]
      replace M := M.nilR 5 1
      refine s_appB (l := []) M rfl rfl ((M.rdb 0 rfl).2.2.take (k := k) (by omega)) (by omega) ?_
      clear M; rintro A4 c4 W M -
      rw [List.nil_append, Nat.zero_add] at M
      rw [Nat.zero_add]
      obtain ⟨b', off', e', hc2⟩ := (M.rdb 0 rfl).2.2.at_ (k := k) (by omega)
      injection e' with e'
      injection e' with ea eb
      subst ea; subst eb
      refine p_subN (a := k + 1) (b := 1) rfl rfl (by omega) (by omega) ?_
      refine p_at (i := k) slb rfl rfl rfl (by omega) ?_
      refine v_load agg_by' rfl (by rw [Addr.add_lit, Nat.mul_one]; exact hc2) ?_
      refine p_add rfl rfl (r := at8 l k + 1) (by rw [IntKind.wrap_u8']; omega) ?_
      refine s_litB [.int .u8 (at8 l k + 1)] [l[k] + 1] M (by decide) rfl hv rfl ?_
      clear M; rintro g9 W M
      replace M := M.frzO
      refine s_appB M rfl rfl (M.rdb 0 rfl).2.2 (by omega) ?_
      clear M; rintro A5 c5 W M -
      replace M := M.frzO
      rw [hx]
      exact ⟨A5, _, c5, rfl, M.finF1 0 rfl, M.below⟩
end Go.Proofs.Ytkfbkhahkkmcoaa
