/- Reference 09: might. Reference 04: Next. Tries of which something is folded, plainly. No walk here. -/
import Derived.Test.YtkfbkhahkkmcoaaG19
namespace Go.Proofs.Ytkfbkhahkkmcoaa
open Go.RowKit
theorem is_might : isFn Try.prog 56 = true := by kernel_rfl
theorem is_rcmp6 : isFn Try.prog 74 = true := by kernel_rfl
set_option maxRecDepth 100000 in
set_option maxHeartbeats 2000000 in
theorem might_any (way lo hi : List UInt8) (op : Bool) (gs : List (Option Nat)) (w : World) (A1 A2 A3 : Option Addr) (n1 c1 n2 c2 n3 c3 : Nat) (h1 : RdD w (Fd w gs) (dB way) (.slice A1 n1 c1)) (h2 : RdD w (Fd w gs) (dB lo) (.slice A2 n2 c2)) (h3 : RdD w (Fd w gs) (dB hi) (.slice A3 n3 c3)) (hgs : ∀ b, some b ∈ gs → b < w.heap.size) (hz : n1 ≤ 1000000 ∧ n2 ≤ 1000000 ∧ n3 ≤ 1000000) :
    Calls Try.prog 56 #[.slice A1 n1 c1, .slice A2 n2 c2, .slice A3 n3 c3, .bool op] w fun e W' => e = .returned (.bool (mightR way lo hi op)) ∧ Below w.heap.size w W' := by
  refine calls_ev (args := [.slice A1 n1 c1, .slice A2 n2 c2, .slice A3 n3 c3, .bool op]) mixed Try.func56 rfl (by kernel_rfl) ?_
  have e1 := h1.slen
  have e2 := h2.slen
  have M := (((St.start hgs).addD h3).addD h2).addD h1
  clear h1 h2 h3
  obtain ⟨k, hk⟩ : ∃ k, k = min way.length lo.length := ⟨_, rfl⟩
  have hk1 : k ≤ n1 := by omega
  have hk2 : k ≤ n2 := by omega
  have hc1 : k ≤ c1 := Nat.le_trans hk1 (M.rdb 0 rfl).2.1
  have hc2 : k ≤ c2 := Nat.le_trans hk2 (M.rdb 1 rfl).2.1
  have b1 : k ≤ 100000000000 := by omega
  unfold mightR
  rw [← hk]
  refine p_len slb rfl ?_
  refine p_len slb rfl ?_
  refine p_min rfl rfl (r := (k : Int)) (by split <;> omega) ?_
  replace M := M.drew
  refine drT (Kp w gs [] []) (.take 0 (.take 1 (.take 2 (.take 3 (.take 4 (.take 5 (.one 6 (.take 7 (.nil))))))))) (by kernel_rfl) (M.kp (by simp) (by simp)) ?_
  refine p_slice (i := 0) (j := k) (m := c1) slb rfl rfl (bnd_i rfl) rfl rfl (Nat.zero_le _) hc1 (Nat.le_refl _) ?_
  refine p_slice (i := 0) (j := k) (m := c2) slb rfl rfl (bnd_i rfl) rfl rfl (Nat.zero_le _) hc2 (Nat.le_refl _) ?_
  rw [slA0, slA0, Nat.sub_zero, Nat.sub_zero, Nat.sub_zero]
  refine cc is_rcmp6 (refCmp_any A1 A2 k k c1 c2 _ (way.take k) (lo.take k) _ ((M.rdb 0 rfl).2.2.take hk1) ((M.rdb 1 rfl).2.2.take hk2) b1 b1) ?_
  rintro e W ⟨rfl, dd, rfl⟩
  replace M := M.drewN dd
  refine ⟨_, rfl, (M.kp (by simp) (by simp)), ?_⟩
  refine p_lt rfl rfl (fun h => ?_) (fun h => ?_)
  · rw [decide_eq_true h]
    exact ⟨rfl, M.below⟩
  rw [decide_eq_false h]
  simp only [Bool.not_false, Bool.true_and]
  replace M := M.nilR 5 1
  refine s_appB (l := []) M rfl rfl (M.rdb 0 rfl).2.2 (by omega) ?_
  clear M; rintro A4 c4 W M -
  rw [List.nil_append, Nat.zero_add] at M
  rw [Nat.zero_add]
  refine p_len slb rfl ?_
  refine p_remN (b := 2) rfl rfl (by decide) ?_
  refine p_eq rfl rfl (fun hodd => ?_) (fun hodd => ?_)
  · have hlw : leastB way = way ++ [0] := by unfold leastB; rw [if_pos (by omega)]
    refine s_bslice (bvs [0]) (fr := true) (ds := (bvs [0]).map D.v) M slb (zs := [.int .u8 0]) (by kernel_rfl) rfl (by decide) rfl (RdL.ofvals _) rfl ?_
    clear M; rintro g3 W M
    refine s_appB M rfl rfl (M.rdb (l := [0]) 0 rfl).2.2 (by omega) ?_
    clear M; rintro A5 c5 W M -
    replace M := M.frzO
    cases op with
    | true => exact ⟨rfl, M.below⟩
    | false =>
      refine cc is_rcmp6 (refCmp_any _ _ _ _ _ _ _ (way ++ [0]) hi _ (M.rdb 0 rfl).2.2 (M.rdb 4 rfl).2.2 (by omega) (by omega)) ?_
      rintro e W ⟨rfl, dd, rfl⟩
      replace M := M.drewN dd
      refine ⟨_, rfl, ?_⟩
      refine p_lt rfl rfl (fun h => ?_) (fun h => ?_)
      · exact ⟨ret_tf (by rw [hlw, decide_eq_true h]; rfl), M.below⟩
      · exact ⟨ret_tf (by rw [hlw, decide_eq_false h]; rfl), M.below⟩
  · have hlw : leastB way = way := by unfold leastB; rw [if_neg (by omega)]
    replace M := M.frzO
    cases op with
    | true => exact ⟨rfl, M.below⟩
    | false =>
      refine cc is_rcmp6 (refCmp_any _ _ _ _ _ _ _ way hi _ (M.rdb 0 rfl).2.2 (M.rdb 3 rfl).2.2 (by omega) (by omega)) ?_
      rintro e W ⟨rfl, dd, rfl⟩
      replace M := M.drewN dd
      refine ⟨_, rfl, ?_⟩
      refine p_lt rfl rfl (fun h => ?_) (fun h => ?_)
      · exact ⟨ret_tf (by rw [hlw, decide_eq_true h]; rfl), M.below⟩
      · exact ⟨ret_tf (by rw [hlw, decide_eq_false h]; rfl), M.below⟩
theorem is_rrange : isFn Try.prog 19 = true := by kernel_rfl
theorem is_rof06 : isFn Try.prog 50 = true := by kernel_rfl
set_option maxRecDepth 100000 in
set_option maxHeartbeats 4000000 in
theorem rrange_any (t : Nd) (low high : List UInt8) (most : Int) (back : Bool) (ht : sz t ≤ 1000000) (gs : List (Option Nat)) (w : World) (cs : List Value) (A1 A2 : Option Addr) (n1 c1 n2 c2 : Nat) (hn : RdL w (Fd w gs) (dN t) cs) (h1 : RdD w (Fd w gs) (dB low) (.slice A1 n1 c1)) (h2 : RdD w (Fd w gs) (dB high) (.slice A2 n2 c2)) (hgs : ∀ b, some b ∈ gs → b < w.heap.size) (hz : n1 ≤ 500000 ∧ n2 ≤ 500000) :
    Calls Try.prog 19 #[.agg cs.toArray, .slice A1 n1 c1, .slice A2 n2 c2, .int .i64 most, .bool back] w fun e W' => ∃ A n c Am nm cm, e = .returned (.tuple #[.slice A n c, .slice Am nm cm, .int .i64 (rangeR t low high most back).e]) ∧ RdD W' (Fd W' gs) (dPl (rangeR t low high most back).l) (.slice A n c) ∧ RdD W' (Fd W' gs) (dB ((rangeR t low high most back).miss.getD [])) (.slice Am nm cm) ∧ Below w.heap.size w W' := by
  refine calls_ev (args := [.agg cs.toArray, .slice A1 n1 c1, .slice A2 n2 c2, .int .i64 most, .bool back]) mixed Try.func19 rfl (by kernel_rfl) ?_
  have hl := hn.len
  rw [dN_len] at hl
  have e1 := h1.slen
  have e2 := h2.slen
  have M := (((St.start hgs).addD h2).addD h1).addL hn
  clear hn h1 h2
  refine s_box (cs) M rfl ?_
  clear M
  rintro g5 W M
  replace M := M.frzL
  refine v_loadN cs agg_nd rfl hl (M.lc 0 rfl) ?_
  refine cc is_r7check (r7check_any t (by omega) _ _ cs (M.da 1 rfl) M.olt) ?_
  rintro e W1 ⟨rfl, hb⟩
  replace M := M.call hb
  refine ⟨_, rfl, ?_⟩
  obtain ⟨RR, hRR⟩ : ∃ RR, RR = rangeR t low high most back := ⟨_, rfl⟩
  rw [← hRR]
  unfold rangeR at hRR
  refine p_ne rfl rfl (fun he => ?_) (fun he => ?_)
  · rw [if_pos he] at hRR
    refine p_lt rfl rfl (fun hm => ?_) (fun hm => ?_)
    · rw [if_pos hm] at hRR
      subst hRR
      exact ⟨none, 0, 0, none, 0, 0, rfl, RdD.nil_ _ _, RdD.nil_ _ _, M.below⟩
    rw [if_neg hm] at hRR
    refine v_loadN cs agg_nd rfl hl (M.lc 0 rfl) ?_
    refine cc is_items (items_any (sz t + 1) t (by omega) _ _ cs [] none 0 0 true (M.da 1 rfl) (RdD.nil_ _ _) M.olt (by omega)) ?_
    rintro e W2 ⟨A4, n4, c4, rfl, hA4, hb⟩
    replace M := M.callD hb (RdL.one hA4)
    have e4 := hA4.slen
    refine ⟨_, rfl, ?_⟩
    refine cc is_rof06 (rof_any A1 n1 c1 low _ (M.rdb 3 rfl).2.2 (by omega)) ?_
    rintro e W3 ⟨A6, c6, rfl, o6, hb⟩
    replace M := M.callO hb o6
    refine ⟨_, rfl, ?_⟩
    refine cc is_rof06 (rof_any A2 n2 c2 high _ (M.rdb 5 rfl).2.2 (by omega)) ?_
    rintro e W4 ⟨A7, c7, rfl, o7, hb⟩
    replace M := M.callO hb o7
    refine ⟨_, rfl, ?_⟩
    refine p_len slb rfl ?_
    refine p_eqD rfl rfl ?_
    have hop : decide ((n2 : Int) = 0) = decide (high.length = 0) := by rw [decide_eq_decide]; omega
    rw [hop]
    obtain ⟨LI, hLI⟩ : ∃ LI, LI = itemsP t [] true := ⟨_, rfl⟩
    rw [← hLI] at hRR M e4
    have hlen : LI.length ≤ 1000000 := by have := itemsP_len t [] true; rw [← hLI] at this; omega
    have hbig : ∀ x ∈ LI, x.path.length ≤ 1000000 ∧ x.val.length ≤ 1000000 := by
      intro x hx
      rw [hLI] at hx
      have := itemsP_big t [] true x hx
      simp only [List.length_nil] at this
      constructor <;> omega
    obtain ⟨LL, hLL⟩ : ∃ LL, LL = (match back with | false => LI | true => LI.reverse) := ⟨_, rfl⟩
    have hRR : RR = rGo low high most (LL.drop 0) [] := by rw [List.drop_zero, hLL]; exact hRR
    have hLn : LL.length = n4 := by rw [hLL]; cases back <;> simp <;> omega
    replace M := M.nilR 43 2
    refine lp (Nat × Option Addr × Nat × List Value × List Pr) (fun st W => st.1 ≤ n4 ∧ st.2.2.2.2.length ≤ st.1 ∧ St w gs W [] [⟨43, 2, st.2.1, st.2.2.2.2.length, st.2.2.1, st.2.2.2.1⟩] [.dat false (dPrs st.2.2.2.2) st.2.2.2.1, .dat true [dB (ofB high)] [.slice A7 (2 * n2) c7], .dat true [dB (ofB low)] [.slice A6 (2 * n1) c6], .dat false [dIl LI] [.slice A4 n4 c4], .dat false [dB low] [.slice A1 n1 c1], .dat false [dB high] [.slice A2 n2 c2]] ∧ RR = rGo low high most (LL.drop st.1) st.2.2.2.2)
      (fun st => [(1, .slice A1 n1 c1), (2, .slice A2 n2 c2), (3, .int .i64 most), (4, .bool back), (14, .slice A4 n4 c4), (15, .slice A6 (2 * n1) c6), (16, .slice A7 (2 * n2) c7), (17, .bool (decide (high.length = 0))), (18, .slice st.2.1 st.2.2.2.2.length st.2.2.1), (19, .int .i64 st.1)]) (fun st => n4 - st.1) (0, none, 0, [], [])
      ⟨Nat.zero_le _, Nat.le_refl _, (M.addL (ds := dPrs []) (cs := []) RdL.nil_).fsub _ (by intro f hf; simp only [List.mem_cons, List.not_mem_nil, or_false] at hf ⊢; rcases hf with h | h | h | h | h | h <;> simp [h]), hRR⟩ (by repeat (first | exact trivial | refine ⟨rfl, ?_⟩)) ?_
    clear M hRR
    rintro ⟨i, A, c, xs, out⟩ E7 W7 ⟨hi, hol, M, hR2⟩
    dsimp only at hi hol M hR2
    refine p_len sli rfl ?_
    refine p_lt rfl rfl (fun hlt => ?_) (fun hge => ?_)
    · refine p_len slp rfl ?_
      refine p_lt rfl rfl (fun hlo => ?_) (fun hlo => ?_)
      · have hiL : i < LI.length := by omega
        cases back with
        | false =>
          obtain ⟨x, hxi⟩ : ∃ x, LI[i]? = some x := ⟨_, List.getElem?_eq_getElem hiL⟩
          obtain ⟨b, off, Ap, cp, Av, cv, Ah, ch, rfl, M'⟩ := M.item (M.d1 3 rfl) hxi
          replace M := M'; clear M'
          refine p_at (i := i) sli rfl rfl rfl (by omega) ?_
          refine v_loadN (ics x Ap cp Av cv Ah ch) agg_it rfl rfl (M.lc 0 rfl) ?_
          refine s_alloc (zI) M (by kernel_rfl) ?_
          clear M
          rintro g20 W M
          first | refine s_storeA 0 (ics x Ap cp Av cv Ah ch) M rfl (by kernel_rfl) rfl rfl rfl (all1 rfl) rfl ?_ | refine s_storeA 1 (ics x Ap cp Av cv Ah ch) M rfl (by kernel_rfl) rfl rfl rfl (all1 rfl) rfl ?_ | refine s_storeA 2 (ics x Ap cp Av cv Ah ch) M rfl (by kernel_rfl) rfl rfl rfl (all1 rfl) rfl ?_ | refine s_storeA 3 (ics x Ap cp Av cv Ah ch) M rfl (by kernel_rfl) rfl rfl rfl (all1 rfl) rfl ?_
          clear M
          rintro W M
          dsimp only [setL] at M
          have hx := drop_get (l := LL) (i := i) (x := x) (by (rw [hLL]; exact hxi))
          rw [hx, rGo, if_pos hlo] at hR2
          have hxm := hbig x (List.mem_of_getElem? hxi)
          refine p_fld fI2 rfl ?_
          refine v_load agg_bo rfl (by first | exact (M.B 0 rfl).at_ rfl | exact (M.B 1 rfl).at_ rfl | exact (M.B 2 rfl).at_ rfl | exact (M.B 3 rfl).at_ rfl | exact (M.B 4 rfl).at_ rfl | exact M.lc 0 rfl _ _ rfl | exact M.lc 1 rfl _ _ rfl | exact M.lc 2 rfl _ _ rfl | exact M.lc 3 rfl _ _ rfl | exact M.lc 4 rfl _ _ rfl | exact M.lc 5 rfl _ _ rfl | exact M.lc 6 rfl _ _ rfl | exact M.lc 7 rfl _ _ rfl) ?_
          cases hs : x.stub with
          | true =>
            rw [hs] at hR2
            refine p_fld fI0 rfl ?_
            refine v_load agg_b rfl (by first | exact (M.B 0 rfl).at_ rfl | exact (M.B 1 rfl).at_ rfl | exact (M.B 2 rfl).at_ rfl | exact (M.B 3 rfl).at_ rfl | exact (M.B 4 rfl).at_ rfl | exact M.lc 0 rfl _ _ rfl | exact M.lc 1 rfl _ _ rfl | exact M.lc 2 rfl _ _ rfl | exact M.lc 3 rfl _ _ rfl | exact M.lc 4 rfl _ _ rfl | exact M.lc 5 rfl _ _ rfl | exact M.lc 6 rfl _ _ rfl | exact M.lc 7 rfl _ _ rfl) ?_
            refine cc is_might (might_any x.path (ofB low) (ofB high) (decide (high.length = 0)) _ _ _ A6 A7 _ cp _ c6 _ c7 (by first | with_reducible exact M.d1_0 | with_reducible exact M.d1_1 | with_reducible exact M.d1_2 | with_reducible exact M.d1_3 | with_reducible exact M.d1_4 | with_reducible exact M.d1_5 | with_reducible exact M.d1_6 | with_reducible exact M.d1_7 | with_reducible exact M.d1_8 | with_reducible exact M.d1_9 | with_reducible exact M.d1_10 | with_reducible exact M.d1_11) (by first | with_reducible exact M.d1_0 | with_reducible exact M.d1_1 | with_reducible exact M.d1_2 | with_reducible exact M.d1_3 | with_reducible exact M.d1_4 | with_reducible exact M.d1_5 | with_reducible exact M.d1_6 | with_reducible exact M.d1_7 | with_reducible exact M.d1_8 | with_reducible exact M.d1_9 | with_reducible exact M.d1_10 | with_reducible exact M.d1_11) (by first | with_reducible exact M.d1_0 | with_reducible exact M.d1_1 | with_reducible exact M.d1_2 | with_reducible exact M.d1_3 | with_reducible exact M.d1_4 | with_reducible exact M.d1_5 | with_reducible exact M.d1_6 | with_reducible exact M.d1_7 | with_reducible exact M.d1_8 | with_reducible exact M.d1_9 | with_reducible exact M.d1_10 | with_reducible exact M.d1_11) M.olt (by omega)) ?_
            rintro e W8 ⟨rfl, hb⟩
            replace M := M.call hb
            refine ⟨_, rfl, ?_⟩
            cases hmt : mightR x.path (ofB low) (ofB high) (decide (high.length = 0)) with
            | true =>
              rw [if_pos ⟨rfl, hmt⟩] at hR2
              replace M := M.drew
              refine drT (fun W => ∀ j v, (ics x Ap cp Av cv Ah ch)[j]? = some v → W.cell? ((⟨g20, 0, none⟩ : Addr).add j) = some v) (.take 0 (.take 1 (.take 2 (.take 3 (.take 4 (.nil)))))) (by kernel_rfl) (M.run 0 rfl) ?_
              refine p_fld fI0 rfl ?_
              refine t_load agg_b rfl (fun W h => h 0 _ rfl) ?_
              rw [hR2]
              exact ⟨none, 0, 0, Ap, _, cp, rfl, RdD.nil_ _ _, M.fin1 2 rfl, M.below⟩
            | false =>
              rw [if_neg (by rw [hmt]; simp), if_neg (by simp)] at hR2
              refine p_fld fI0 rfl ?_
              refine v_load agg_b rfl (by first | exact (M.B 0 rfl).at_ rfl | exact (M.B 1 rfl).at_ rfl | exact (M.B 2 rfl).at_ rfl | exact (M.B 3 rfl).at_ rfl | exact (M.B 4 rfl).at_ rfl | exact M.lc 0 rfl _ _ rfl | exact M.lc 1 rfl _ _ rfl | exact M.lc 2 rfl _ _ rfl | exact M.lc 3 rfl _ _ rfl | exact M.lc 4 rfl _ _ rfl | exact M.lc 5 rfl _ _ rfl | exact M.lc 6 rfl _ _ rfl | exact M.lc 7 rfl _ _ rfl) ?_
              refine cc is_rby (refBytes_any _ _ _ x.path _ (M.rdb 2 rfl).2.2 (by omega)) ?_
              rintro e W9 ⟨Ak, nk, ck, rfl, ok, hb⟩
              have ek := ok.len
              subst ek
              replace M := M.callO hb ok
              refine ⟨_, rfl, ?_⟩
              refine p_fld fI2 rfl ?_
              refine v_load agg_bo (v := .bool true) rfl (by rw [← hs]; exact (M.B 0 rfl).at_ rfl) ?_
              refine p_not rfl ?_
              refine p_add rfl rfl (r := ((i + 1 : Nat) : Int)) ((w64 (by omega)).trans (by omega)) ?_
              refine ⟨(i + 1, A, c, xs, out), ⟨by dsimp only; omega, by dsimp only; omega, M.dropL.fsub _ (by intro f hf; simp only [List.mem_cons, List.not_mem_nil, or_false] at hf ⊢; rcases hf with h | h | h | h | h | h <;> simp [h]), hR2⟩, (by repeat (first | exact trivial | refine ⟨rfl, ?_⟩)), by dsimp only; omega⟩
          | false =>
            rw [hs] at hR2
            rw [if_neg (by simp)] at hR2
            have hkl : (bytesL x.path).length ≤ 1000000 := by
              have := joinB_length x.path
              unfold bytesL
              split
              · split
                · simp
                · omega
              · simp
            refine p_fld fI0 rfl ?_
            refine v_load agg_b rfl (by first | exact (M.B 0 rfl).at_ rfl | exact (M.B 1 rfl).at_ rfl | exact (M.B 2 rfl).at_ rfl | exact (M.B 3 rfl).at_ rfl | exact (M.B 4 rfl).at_ rfl | exact M.lc 0 rfl _ _ rfl | exact M.lc 1 rfl _ _ rfl | exact M.lc 2 rfl _ _ rfl | exact M.lc 3 rfl _ _ rfl | exact M.lc 4 rfl _ _ rfl | exact M.lc 5 rfl _ _ rfl | exact M.lc 6 rfl _ _ rfl | exact M.lc 7 rfl _ _ rfl) ?_
            refine cc is_rby (refBytes_any _ _ _ x.path _ (M.rdb 2 rfl).2.2 (by omega)) ?_
            rintro e W9 ⟨Ak, nk, ck, rfl, ok, hb⟩
            have ek := ok.len
            subst ek
            replace M := M.callO hb ok
            refine ⟨_, rfl, ?_⟩
            refine p_fld fI2 rfl ?_
            refine v_load agg_bo (v := .bool false) rfl (by rw [← hs]; exact (M.B 0 rfl).at_ rfl) ?_
            refine p_not rfl ?_
            refine cc is_cmp04 (cmp04_any _ _ _ _ _ _ _ (bytesL x.path) low _ (M.rdb 0 rfl).2.2 (M.rdb 10 rfl).2.2 (by omega) (by omega)) ?_
            rintro e W10 ⟨rfl, dd, rfl⟩
            replace M := M.drewN dd
            refine ⟨_, rfl, ?_⟩
            refine p_ge rfl rfl (fun hge1 => ?_) (fun hge1 => ?_)
            · cases hop2 : decide (high.length = 0) with
              | true =>
                have hin : inR (bytesL x.path) low high = true := by unfold inR; rw [hop2, decide_eq_true (show 0 ≤ cmpB (bytesL x.path) low by omega)]; rfl
                rw [if_pos ⟨rfl, hin⟩] at hR2
                refine p_fld fI1 rfl ?_
                refine v_load agg_b rfl (by first | exact (M.B 0 rfl).at_ rfl | exact (M.B 1 rfl).at_ rfl | exact (M.B 2 rfl).at_ rfl | exact (M.B 3 rfl).at_ rfl | exact (M.B 4 rfl).at_ rfl | exact M.lc 0 rfl _ _ rfl | exact M.lc 1 rfl _ _ rfl | exact M.lc 2 rfl _ _ rfl | exact M.lc 3 rfl _ _ rfl | exact M.lc 4 rfl _ _ rfl | exact M.lc 5 rfl _ _ rfl | exact M.lc 6 rfl _ _ rfl | exact M.lc 7 rfl _ _ rfl) ?_
                refine cc is_copy0 (copy_any _ _ _ x.val _ (M.rdb 4 rfl).2.2 (by omega)) ?_
                rintro e W11 ⟨A8, c8, rfl, o8, hb⟩
                replace M := M.callO hb o8
                refine ⟨_, rfl, ?_⟩
                refine p_build (vs := [.slice Ak (bytesL x.path).length ck, .slice A8 x.val.length c8]) pl_pr z_pr rfl ?_
                refine s_bsliceB [.slice Ak (bytesL x.path).length ck, .slice A8 x.val.length c8] M slp z_pr rfl (by decide) rfl ?_
                clear M; rintro gl W12 M
                refine s_app M Try.underlying28 prinfo rfl (by decide) rfl rfl (Reads.blk (M.B 0 rfl) rfl) (all1 rfl) ⟨by omega, by decide⟩ ?_
                clear M; rintro A9 c9 W13 M -
                have hln : (out ++ [(⟨bytesL x.path, x.val⟩ : Pr)]).length = out.length + 1 := by simp
                have hX := M.addL (ds := dPrs (out ++ [⟨bytesL x.path, x.val⟩])) (cs := xs ++ [.slice Ak (bytesL x.path).length ck, .slice A8 x.val.length c8]) (by
                  rw [dPrs_snoc]
                  exact (M.da 7 rfl).app (RdL.cons (M.d1 1 rfl) (RdL.cons (M.d1 0 rfl) RdL.nil_)))
                refine p_add rfl rfl (r := ((i + 1 : Nat) : Int)) ((w64 (by omega)).trans (by omega)) ?_
                refine ⟨(i + 1, A9, c9, xs ++ [.slice Ak (bytesL x.path).length ck, .slice A8 x.val.length c8], out ++ [⟨bytesL x.path, x.val⟩]), ⟨by dsimp only; omega, by dsimp only; rw [hln]; omega, ?_, hR2⟩, (by dsimp only; rw [hln]; repeat (first | exact trivial | refine ⟨rfl, ?_⟩)), by dsimp only; omega⟩
                dsimp only
                rw [hln]
                exact hX.dropL.dropL.fsub _ (by intro f hf; simp only [List.mem_cons, List.not_mem_nil, or_false] at hf ⊢; rcases hf with h | h | h | h | h | h <;> simp [h])
              | false =>
                refine cc is_cmp04 (cmp04_any _ _ _ _ _ _ _ (bytesL x.path) high _ (M.rdb 0 rfl).2.2 (M.rdb 11 rfl).2.2 (by omega) (by omega)) ?_
                rintro e W10 ⟨rfl, dd2, rfl⟩
                replace M := M.drewN dd2
                refine ⟨_, rfl, ?_⟩
                refine p_lt rfl rfl (fun hlt2 => ?_) (fun hlt2 => ?_)
                · have hin : inR (bytesL x.path) low high = true := by unfold inR; rw [hop2, decide_eq_true (show 0 ≤ cmpB (bytesL x.path) low by omega), decide_eq_true hlt2]; rfl
                  rw [if_pos ⟨rfl, hin⟩] at hR2
                  refine p_fld fI1 rfl ?_
                  refine v_load agg_b rfl (by first | exact (M.B 0 rfl).at_ rfl | exact (M.B 1 rfl).at_ rfl | exact (M.B 2 rfl).at_ rfl | exact (M.B 3 rfl).at_ rfl | exact (M.B 4 rfl).at_ rfl | exact M.lc 0 rfl _ _ rfl | exact M.lc 1 rfl _ _ rfl | exact M.lc 2 rfl _ _ rfl | exact M.lc 3 rfl _ _ rfl | exact M.lc 4 rfl _ _ rfl | exact M.lc 5 rfl _ _ rfl | exact M.lc 6 rfl _ _ rfl | exact M.lc 7 rfl _ _ rfl) ?_
                  refine cc is_copy0 (copy_any _ _ _ x.val _ (M.rdb 4 rfl).2.2 (by omega)) ?_
                  rintro e W11 ⟨A8, c8, rfl, o8, hb⟩
                  replace M := M.callO hb o8
                  refine ⟨_, rfl, ?_⟩
                  refine p_build (vs := [.slice Ak (bytesL x.path).length ck, .slice A8 x.val.length c8]) pl_pr z_pr rfl ?_
                  refine s_bsliceB [.slice Ak (bytesL x.path).length ck, .slice A8 x.val.length c8] M slp z_pr rfl (by decide) rfl ?_
                  clear M; rintro gl W12 M
                  refine s_app M Try.underlying28 prinfo rfl (by decide) rfl rfl (Reads.blk (M.B 0 rfl) rfl) (all1 rfl) ⟨by omega, by decide⟩ ?_
                  clear M; rintro A9 c9 W13 M -
                  have hln : (out ++ [(⟨bytesL x.path, x.val⟩ : Pr)]).length = out.length + 1 := by simp
                  have hX := M.addL (ds := dPrs (out ++ [⟨bytesL x.path, x.val⟩])) (cs := xs ++ [.slice Ak (bytesL x.path).length ck, .slice A8 x.val.length c8]) (by
                    rw [dPrs_snoc]
                    exact (M.da 7 rfl).app (RdL.cons (M.d1 1 rfl) (RdL.cons (M.d1 0 rfl) RdL.nil_)))
                  refine p_add rfl rfl (r := ((i + 1 : Nat) : Int)) ((w64 (by omega)).trans (by omega)) ?_
                  refine ⟨(i + 1, A9, c9, xs ++ [.slice Ak (bytesL x.path).length ck, .slice A8 x.val.length c8], out ++ [⟨bytesL x.path, x.val⟩]), ⟨by dsimp only; omega, by dsimp only; rw [hln]; omega, ?_, hR2⟩, (by dsimp only; rw [hln]; repeat (first | exact trivial | refine ⟨rfl, ?_⟩)), by dsimp only; omega⟩
                  dsimp only
                  rw [hln]
                  exact hX.dropL.dropL.fsub _ (by intro f hf; simp only [List.mem_cons, List.not_mem_nil, or_false] at hf ⊢; rcases hf with h | h | h | h | h | h <;> simp [h])
                · have hin : inR (bytesL x.path) low high = false := by unfold inR; rw [hop2, decide_eq_false hlt2]; simp
                  rw [if_neg (by rw [hin]; simp)] at hR2
                  refine p_add rfl rfl (r := ((i + 1 : Nat) : Int)) ((w64 (by omega)).trans (by omega)) ?_
                  refine ⟨(i + 1, A, c, xs, out), ⟨by dsimp only; omega, by dsimp only; omega, M.dropL.fsub _ (by intro f hf; simp only [List.mem_cons, List.not_mem_nil, or_false] at hf ⊢; rcases hf with h | h | h | h | h | h <;> simp [h]), hR2⟩, (by repeat (first | exact trivial | refine ⟨rfl, ?_⟩)), by dsimp only; omega⟩
            · have hin : inR (bytesL x.path) low high = false := by unfold inR; rw [decide_eq_false (show ¬ 0 ≤ cmpB (bytesL x.path) low by omega)]; rfl
              rw [if_neg (by rw [hin]; simp)] at hR2
              refine p_add rfl rfl (r := ((i + 1 : Nat) : Int)) ((w64 (by omega)).trans (by omega)) ?_
              refine ⟨(i + 1, A, c, xs, out), ⟨by dsimp only; omega, by dsimp only; omega, M.dropL.fsub _ (by intro f hf; simp only [List.mem_cons, List.not_mem_nil, or_false] at hf ⊢; rcases hf with h | h | h | h | h | h <;> simp [h]), hR2⟩, (by repeat (first | exact trivial | refine ⟨rfl, ?_⟩)), by dsimp only; omega⟩
        | true =>
          obtain ⟨j, hj⟩ : ∃ j, j = n4 - 1 - i := ⟨_, rfl⟩
          have hjL : j < LI.length := by omega
          obtain ⟨y, hyi⟩ : ∃ y, LI[i]? = some y := ⟨_, List.getElem?_eq_getElem hiL⟩
          obtain ⟨x, hxi⟩ : ∃ x, LI[j]? = some x := ⟨_, List.getElem?_eq_getElem hjL⟩
          obtain ⟨b, off, Bp, bp, Bv, bv, Bh, bh, rfl, M'⟩ := M.item (M.d1 3 rfl) hyi
          obtain ⟨b2, off2, Ap, cp, Av, cv, Ah, ch, e2, M2⟩ := M.item (M.d1 3 rfl) hxi
          injection e2 with e2
          injection e2 with ea eb
          subst ea; subst eb
          have hly := M'.lc 0 rfl
          clear M'
          replace M := M2; clear M2
          refine p_at (i := i) sli rfl rfl rfl (by omega) ?_
          refine v_loadN (ics y Bp bp Bv bv Bh bh) agg_it rfl rfl hly ?_
          refine s_alloc (zI) M (by kernel_rfl) ?_
          clear M
          rintro g20 W M
          first | refine s_storeA 0 (ics y Bp bp Bv bv Bh bh) M rfl (by kernel_rfl) rfl rfl rfl (all1 rfl) rfl ?_ | refine s_storeA 1 (ics y Bp bp Bv bv Bh bh) M rfl (by kernel_rfl) rfl rfl rfl (all1 rfl) rfl ?_ | refine s_storeA 2 (ics y Bp bp Bv bv Bh bh) M rfl (by kernel_rfl) rfl rfl rfl (all1 rfl) rfl ?_ | refine s_storeA 3 (ics y Bp bp Bv bv Bh bh) M rfl (by kernel_rfl) rfl rfl rfl (all1 rfl) rfl ?_
          clear M
          rintro W M
          dsimp only [setL] at M
          refine p_len sli rfl ?_
          refine p_subN (a := n4) (b := 1) rfl rfl (by omega) (by omega) ?_
          refine p_subN (a := n4 - 1) (b := i) rfl rfl (by omega) (by omega) ?_
          rw [← hj]
          refine p_at (i := j) sli rfl rfl rfl (by omega) ?_
          refine v_loadN (ics x Ap cp Av cv Ah ch) agg_it rfl rfl (M.lc 0 rfl) ?_
          first | refine s_storeA 0 (ics x Ap cp Av cv Ah ch) M rfl (by kernel_rfl) rfl rfl rfl (all1 rfl) rfl ?_ | refine s_storeA 1 (ics x Ap cp Av cv Ah ch) M rfl (by kernel_rfl) rfl rfl rfl (all1 rfl) rfl ?_ | refine s_storeA 2 (ics x Ap cp Av cv Ah ch) M rfl (by kernel_rfl) rfl rfl rfl (all1 rfl) rfl ?_ | refine s_storeA 3 (ics x Ap cp Av cv Ah ch) M rfl (by kernel_rfl) rfl rfl rfl (all1 rfl) rfl ?_
          clear M
          rintro W M
          dsimp only [setL] at M
          have hx := drop_get (l := LL) (i := i) (x := x) (by (rw [hLL]; exact rev_get (by omega) hiL (by rw [show LI.length - 1 - i = j by omega]; exact hxi)))
          rw [hx, rGo, if_pos hlo] at hR2
          have hxm := hbig x (List.mem_of_getElem? hxi)
          refine p_fld fI2 rfl ?_
          refine v_load agg_bo rfl (by first | exact (M.B 0 rfl).at_ rfl | exact (M.B 1 rfl).at_ rfl | exact (M.B 2 rfl).at_ rfl | exact (M.B 3 rfl).at_ rfl | exact (M.B 4 rfl).at_ rfl | exact M.lc 0 rfl _ _ rfl | exact M.lc 1 rfl _ _ rfl | exact M.lc 2 rfl _ _ rfl | exact M.lc 3 rfl _ _ rfl | exact M.lc 4 rfl _ _ rfl | exact M.lc 5 rfl _ _ rfl | exact M.lc 6 rfl _ _ rfl | exact M.lc 7 rfl _ _ rfl) ?_
          cases hs : x.stub with
          | true =>
            rw [hs] at hR2
            refine p_fld fI0 rfl ?_
            refine v_load agg_b rfl (by first | exact (M.B 0 rfl).at_ rfl | exact (M.B 1 rfl).at_ rfl | exact (M.B 2 rfl).at_ rfl | exact (M.B 3 rfl).at_ rfl | exact (M.B 4 rfl).at_ rfl | exact M.lc 0 rfl _ _ rfl | exact M.lc 1 rfl _ _ rfl | exact M.lc 2 rfl _ _ rfl | exact M.lc 3 rfl _ _ rfl | exact M.lc 4 rfl _ _ rfl | exact M.lc 5 rfl _ _ rfl | exact M.lc 6 rfl _ _ rfl | exact M.lc 7 rfl _ _ rfl) ?_
            refine cc is_might (might_any x.path (ofB low) (ofB high) (decide (high.length = 0)) _ _ _ A6 A7 _ cp _ c6 _ c7 (by first | with_reducible exact M.d1_0 | with_reducible exact M.d1_1 | with_reducible exact M.d1_2 | with_reducible exact M.d1_3 | with_reducible exact M.d1_4 | with_reducible exact M.d1_5 | with_reducible exact M.d1_6 | with_reducible exact M.d1_7 | with_reducible exact M.d1_8 | with_reducible exact M.d1_9 | with_reducible exact M.d1_10 | with_reducible exact M.d1_11) (by first | with_reducible exact M.d1_0 | with_reducible exact M.d1_1 | with_reducible exact M.d1_2 | with_reducible exact M.d1_3 | with_reducible exact M.d1_4 | with_reducible exact M.d1_5 | with_reducible exact M.d1_6 | with_reducible exact M.d1_7 | with_reducible exact M.d1_8 | with_reducible exact M.d1_9 | with_reducible exact M.d1_10 | with_reducible exact M.d1_11) (by first | with_reducible exact M.d1_0 | with_reducible exact M.d1_1 | with_reducible exact M.d1_2 | with_reducible exact M.d1_3 | with_reducible exact M.d1_4 | with_reducible exact M.d1_5 | with_reducible exact M.d1_6 | with_reducible exact M.d1_7 | with_reducible exact M.d1_8 | with_reducible exact M.d1_9 | with_reducible exact M.d1_10 | with_reducible exact M.d1_11) M.olt (by omega)) ?_
            rintro e W8 ⟨rfl, hb⟩
            replace M := M.call hb
            refine ⟨_, rfl, ?_⟩
            cases hmt : mightR x.path (ofB low) (ofB high) (decide (high.length = 0)) with
            | true =>
              rw [if_pos ⟨rfl, hmt⟩] at hR2
              replace M := M.drew
              refine drT (fun W => ∀ j v, (ics x Ap cp Av cv Ah ch)[j]? = some v → W.cell? ((⟨g20, 0, none⟩ : Addr).add j) = some v) (.take 0 (.take 1 (.take 2 (.take 3 (.take 4 (.nil)))))) (by kernel_rfl) (M.run 0 rfl) ?_
              refine p_fld fI0 rfl ?_
              refine t_load agg_b rfl (fun W h => h 0 _ rfl) ?_
              rw [hR2]
              exact ⟨none, 0, 0, Ap, _, cp, rfl, RdD.nil_ _ _, M.fin1 2 rfl, M.below⟩
            | false =>
              rw [if_neg (by rw [hmt]; simp), if_neg (by simp)] at hR2
              refine p_fld fI0 rfl ?_
              refine v_load agg_b rfl (by first | exact (M.B 0 rfl).at_ rfl | exact (M.B 1 rfl).at_ rfl | exact (M.B 2 rfl).at_ rfl | exact (M.B 3 rfl).at_ rfl | exact (M.B 4 rfl).at_ rfl | exact M.lc 0 rfl _ _ rfl | exact M.lc 1 rfl _ _ rfl | exact M.lc 2 rfl _ _ rfl | exact M.lc 3 rfl _ _ rfl | exact M.lc 4 rfl _ _ rfl | exact M.lc 5 rfl _ _ rfl | exact M.lc 6 rfl _ _ rfl | exact M.lc 7 rfl _ _ rfl) ?_
              refine cc is_rby (refBytes_any _ _ _ x.path _ (M.rdb 2 rfl).2.2 (by omega)) ?_
              rintro e W9 ⟨Ak, nk, ck, rfl, ok, hb⟩
              have ek := ok.len
              subst ek
              replace M := M.callO hb ok
              refine ⟨_, rfl, ?_⟩
              refine p_fld fI2 rfl ?_
              refine v_load agg_bo (v := .bool true) rfl (by rw [← hs]; exact (M.B 0 rfl).at_ rfl) ?_
              refine p_not rfl ?_
              refine p_add rfl rfl (r := ((i + 1 : Nat) : Int)) ((w64 (by omega)).trans (by omega)) ?_
              refine ⟨(i + 1, A, c, xs, out), ⟨by dsimp only; omega, by dsimp only; omega, M.dropL.fsub _ (by intro f hf; simp only [List.mem_cons, List.not_mem_nil, or_false] at hf ⊢; rcases hf with h | h | h | h | h | h <;> simp [h]), hR2⟩, (by repeat (first | exact trivial | refine ⟨rfl, ?_⟩)), by dsimp only; omega⟩
          | false =>
            rw [hs] at hR2
            rw [if_neg (by simp)] at hR2
            have hkl : (bytesL x.path).length ≤ 1000000 := by
              have := joinB_length x.path
              unfold bytesL
              split
              · split
                · simp
                · omega
              · simp
            refine p_fld fI0 rfl ?_
            refine v_load agg_b rfl (by first | exact (M.B 0 rfl).at_ rfl | exact (M.B 1 rfl).at_ rfl | exact (M.B 2 rfl).at_ rfl | exact (M.B 3 rfl).at_ rfl | exact (M.B 4 rfl).at_ rfl | exact M.lc 0 rfl _ _ rfl | exact M.lc 1 rfl _ _ rfl | exact M.lc 2 rfl _ _ rfl | exact M.lc 3 rfl _ _ rfl | exact M.lc 4 rfl _ _ rfl | exact M.lc 5 rfl _ _ rfl | exact M.lc 6 rfl _ _ rfl | exact M.lc 7 rfl _ _ rfl) ?_
            refine cc is_rby (refBytes_any _ _ _ x.path _ (M.rdb 2 rfl).2.2 (by omega)) ?_
            rintro e W9 ⟨Ak, nk, ck, rfl, ok, hb⟩
            have ek := ok.len
            subst ek
            replace M := M.callO hb ok
            refine ⟨_, rfl, ?_⟩
            refine p_fld fI2 rfl ?_
            refine v_load agg_bo (v := .bool false) rfl (by rw [← hs]; exact (M.B 0 rfl).at_ rfl) ?_
            refine p_not rfl ?_
            refine cc is_cmp04 (cmp04_any _ _ _ _ _ _ _ (bytesL x.path) low _ (M.rdb 0 rfl).2.2 (M.rdb 10 rfl).2.2 (by omega) (by omega)) ?_
            rintro e W10 ⟨rfl, dd, rfl⟩
            replace M := M.drewN dd
            refine ⟨_, rfl, ?_⟩
            refine p_ge rfl rfl (fun hge1 => ?_) (fun hge1 => ?_)
            · cases hop2 : decide (high.length = 0) with
              | true =>
                have hin : inR (bytesL x.path) low high = true := by unfold inR; rw [hop2, decide_eq_true (show 0 ≤ cmpB (bytesL x.path) low by omega)]; rfl
                rw [if_pos ⟨rfl, hin⟩] at hR2
                refine p_fld fI1 rfl ?_
                refine v_load agg_b rfl (by first | exact (M.B 0 rfl).at_ rfl | exact (M.B 1 rfl).at_ rfl | exact (M.B 2 rfl).at_ rfl | exact (M.B 3 rfl).at_ rfl | exact (M.B 4 rfl).at_ rfl | exact M.lc 0 rfl _ _ rfl | exact M.lc 1 rfl _ _ rfl | exact M.lc 2 rfl _ _ rfl | exact M.lc 3 rfl _ _ rfl | exact M.lc 4 rfl _ _ rfl | exact M.lc 5 rfl _ _ rfl | exact M.lc 6 rfl _ _ rfl | exact M.lc 7 rfl _ _ rfl) ?_
                refine cc is_copy0 (copy_any _ _ _ x.val _ (M.rdb 4 rfl).2.2 (by omega)) ?_
                rintro e W11 ⟨A8, c8, rfl, o8, hb⟩
                replace M := M.callO hb o8
                refine ⟨_, rfl, ?_⟩
                refine p_build (vs := [.slice Ak (bytesL x.path).length ck, .slice A8 x.val.length c8]) pl_pr z_pr rfl ?_
                refine s_bsliceB [.slice Ak (bytesL x.path).length ck, .slice A8 x.val.length c8] M slp z_pr rfl (by decide) rfl ?_
                clear M; rintro gl W12 M
                refine s_app M Try.underlying28 prinfo rfl (by decide) rfl rfl (Reads.blk (M.B 0 rfl) rfl) (all1 rfl) ⟨by omega, by decide⟩ ?_
                clear M; rintro A9 c9 W13 M -
                have hln : (out ++ [(⟨bytesL x.path, x.val⟩ : Pr)]).length = out.length + 1 := by simp
                have hX := M.addL (ds := dPrs (out ++ [⟨bytesL x.path, x.val⟩])) (cs := xs ++ [.slice Ak (bytesL x.path).length ck, .slice A8 x.val.length c8]) (by
                  rw [dPrs_snoc]
                  exact (M.da 7 rfl).app (RdL.cons (M.d1 1 rfl) (RdL.cons (M.d1 0 rfl) RdL.nil_)))
                refine p_add rfl rfl (r := ((i + 1 : Nat) : Int)) ((w64 (by omega)).trans (by omega)) ?_
                refine ⟨(i + 1, A9, c9, xs ++ [.slice Ak (bytesL x.path).length ck, .slice A8 x.val.length c8], out ++ [⟨bytesL x.path, x.val⟩]), ⟨by dsimp only; omega, by dsimp only; rw [hln]; omega, ?_, hR2⟩, (by dsimp only; rw [hln]; repeat (first | exact trivial | refine ⟨rfl, ?_⟩)), by dsimp only; omega⟩
                dsimp only
                rw [hln]
                exact hX.dropL.dropL.fsub _ (by intro f hf; simp only [List.mem_cons, List.not_mem_nil, or_false] at hf ⊢; rcases hf with h | h | h | h | h | h <;> simp [h])
              | false =>
                refine cc is_cmp04 (cmp04_any _ _ _ _ _ _ _ (bytesL x.path) high _ (M.rdb 0 rfl).2.2 (M.rdb 11 rfl).2.2 (by omega) (by omega)) ?_
                rintro e W10 ⟨rfl, dd2, rfl⟩
                replace M := M.drewN dd2
                refine ⟨_, rfl, ?_⟩
                refine p_lt rfl rfl (fun hlt2 => ?_) (fun hlt2 => ?_)
                · have hin : inR (bytesL x.path) low high = true := by unfold inR; rw [hop2, decide_eq_true (show 0 ≤ cmpB (bytesL x.path) low by omega), decide_eq_true hlt2]; rfl
                  rw [if_pos ⟨rfl, hin⟩] at hR2
                  refine p_fld fI1 rfl ?_
                  refine v_load agg_b rfl (by first | exact (M.B 0 rfl).at_ rfl | exact (M.B 1 rfl).at_ rfl | exact (M.B 2 rfl).at_ rfl | exact (M.B 3 rfl).at_ rfl | exact (M.B 4 rfl).at_ rfl | exact M.lc 0 rfl _ _ rfl | exact M.lc 1 rfl _ _ rfl | exact M.lc 2 rfl _ _ rfl | exact M.lc 3 rfl _ _ rfl | exact M.lc 4 rfl _ _ rfl | exact M.lc 5 rfl _ _ rfl | exact M.lc 6 rfl _ _ rfl | exact M.lc 7 rfl _ _ rfl) ?_
                  refine cc is_copy0 (copy_any _ _ _ x.val _ (M.rdb 4 rfl).2.2 (by omega)) ?_
                  rintro e W11 ⟨A8, c8, rfl, o8, hb⟩
                  replace M := M.callO hb o8
                  refine ⟨_, rfl, ?_⟩
                  refine p_build (vs := [.slice Ak (bytesL x.path).length ck, .slice A8 x.val.length c8]) pl_pr z_pr rfl ?_
                  refine s_bsliceB [.slice Ak (bytesL x.path).length ck, .slice A8 x.val.length c8] M slp z_pr rfl (by decide) rfl ?_
                  clear M; rintro gl W12 M
                  refine s_app M Try.underlying28 prinfo rfl (by decide) rfl rfl (Reads.blk (M.B 0 rfl) rfl) (all1 rfl) ⟨by omega, by decide⟩ ?_
                  clear M; rintro A9 c9 W13 M -
                  have hln : (out ++ [(⟨bytesL x.path, x.val⟩ : Pr)]).length = out.length + 1 := by simp
                  have hX := M.addL (ds := dPrs (out ++ [⟨bytesL x.path, x.val⟩])) (cs := xs ++ [.slice Ak (bytesL x.path).length ck, .slice A8 x.val.length c8]) (by
                    rw [dPrs_snoc]
                    exact (M.da 7 rfl).app (RdL.cons (M.d1 1 rfl) (RdL.cons (M.d1 0 rfl) RdL.nil_)))
                  refine p_add rfl rfl (r := ((i + 1 : Nat) : Int)) ((w64 (by omega)).trans (by omega)) ?_
                  refine ⟨(i + 1, A9, c9, xs ++ [.slice Ak (bytesL x.path).length ck, .slice A8 x.val.length c8], out ++ [⟨bytesL x.path, x.val⟩]), ⟨by dsimp only; omega, by dsimp only; rw [hln]; omega, ?_, hR2⟩, (by dsimp only; rw [hln]; repeat (first | exact trivial | refine ⟨rfl, ?_⟩)), by dsimp only; omega⟩
                  dsimp only
                  rw [hln]
                  exact hX.dropL.dropL.fsub _ (by intro f hf; simp only [List.mem_cons, List.not_mem_nil, or_false] at hf ⊢; rcases hf with h | h | h | h | h | h <;> simp [h])
                · have hin : inR (bytesL x.path) low high = false := by unfold inR; rw [hop2, decide_eq_false hlt2]; simp
                  rw [if_neg (by rw [hin]; simp)] at hR2
                  refine p_add rfl rfl (r := ((i + 1 : Nat) : Int)) ((w64 (by omega)).trans (by omega)) ?_
                  refine ⟨(i + 1, A, c, xs, out), ⟨by dsimp only; omega, by dsimp only; omega, M.dropL.fsub _ (by intro f hf; simp only [List.mem_cons, List.not_mem_nil, or_false] at hf ⊢; rcases hf with h | h | h | h | h | h <;> simp [h]), hR2⟩, (by repeat (first | exact trivial | refine ⟨rfl, ?_⟩)), by dsimp only; omega⟩
            · have hin : inR (bytesL x.path) low high = false := by unfold inR; rw [decide_eq_false (show ¬ 0 ≤ cmpB (bytesL x.path) low by omega)]; rfl
              rw [if_neg (by rw [hin]; simp)] at hR2
              refine p_add rfl rfl (r := ((i + 1 : Nat) : Int)) ((w64 (by omega)).trans (by omega)) ?_
              refine ⟨(i + 1, A, c, xs, out), ⟨by dsimp only; omega, by dsimp only; omega, M.dropL.fsub _ (by intro f hf; simp only [List.mem_cons, List.not_mem_nil, or_false] at hf ⊢; rcases hf with h | h | h | h | h | h <;> simp [h]), hR2⟩, (by repeat (first | exact trivial | refine ⟨rfl, ?_⟩)), by dsimp only; omega⟩
      ·
        have hF : RR = ⟨out, none, 0⟩ := by (rw [hR2, rGo_full _ _ _ _ _ hlo])
        rw [hF]
        replace M := M.frzR (fr := false) ((M.dt 0 rfl).to fun b hb => ⟨rfl, hb⟩)
        exact ⟨A, _, c, none, 0, 0, rfl, M.fin1 0 rfl, RdD.nil_ _ _, M.below⟩
    ·
      have hF : RR = ⟨out, none, 0⟩ := by (rw [hR2, List.drop_of_length_le (by rw [hLn]; omega)]; rfl)
      rw [hF]
      replace M := M.frzR (fr := false) ((M.dt 0 rfl).to fun b hb => ⟨rfl, hb⟩)
      exact ⟨A, _, c, none, 0, 0, rfl, M.fin1 0 rfl, RdD.nil_ _ _, M.below⟩
  · rw [if_neg he] at hRR
    subst hRR
    exact ⟨none, 0, 0, none, 0, 0, rfl, RdD.nil_ _ _, RdD.nil_ _ _, M.below⟩
end Go.Proofs.Ytkfbkhahkkmcoaa
namespace Go.Proofs.Ytkfbkhahkkmcoaa
/-- The second one, with something folded. -/
inductive Fo : Nd → Nd → Prop
  | refl (t : Nd) : Fo t t
  | stub (t : Nd) (h0 : t.kind ≠ 0) : Fo (.mk 4 [] false [] [] (hashP t)) t
  | way (p : List UInt8) {k k' : Nd} (h : Fo k k') : Fo (.mk 2 p false [] [k] []) (.mk 2 p false [] [k'] [])
  | branch (has : Bool) (v : List UInt8) (ks ks' : List Nd) (hl : ks.length = ks'.length) (h : ∀ (i : Nat) (k k' : Nd), ks[i]? = some k → ks'[i]? = some k' → Fo k k') : Fo (.mk 3 [] has v ks []) (.mk 3 [] has v ks' [])
theorem Fo.kind {m n : Nd} (h : Fo m n) : (m.kind = 0 ↔ n.kind = 0) ∧ (m.kind ≠ 4 → m.kind = n.kind) := by
  cases h with
  | refl => exact ⟨Iff.rfl, fun _ => rfl⟩
  | stub _ h0 => exact ⟨⟨fun e => absurd (show (4 : Int) = 0 from e) (by decide), fun e => absurd e h0⟩, fun e => absurd rfl e⟩
  | way => exact ⟨⟨fun e => absurd (show (2 : Int) = 0 from e) (by decide), fun e => absurd (show (2 : Int) = 0 from e) (by decide)⟩, fun _ => rfl⟩
  | branch => exact ⟨⟨fun e => absurd (show (3 : Int) = 0 from e) (by decide), fun e => absurd (show (3 : Int) = 0 from e) (by decide)⟩, fun _ => rfl⟩
/-- Kids, each the other's or folded. -/
def Fos (ks ks' : List Nd) : Prop := ks.length = ks'.length ∧ ∀ (i : Nat) (k k' : Nd), ks[i]? = some k → ks'[i]? = some k' → Fo k k'
theorem Fos.refl (ks : List Nd) : Fos ks ks := ⟨rfl, fun i k k' h h' => by rw [h] at h'; injection h' with h'; rw [h']; exact .refl _⟩
theorem Fos.set {ks ks' : List Nd} (h : Fos ks ks') {a b : Nd} (hab : Fo a b) (i : Nat) : Fos (ks.set i a) (ks'.set i b) := by
  refine ⟨by rw [List.length_set, List.length_set]; exact h.1, fun j k k' hk hk' => ?_⟩
  by_cases e : i = j
  · subst e
    have h1 := (List.getElem?_eq_some_iff.1 hk).1
    have h2 := (List.getElem?_eq_some_iff.1 hk').1
    rw [List.length_set] at h1 h2
    rw [List.getElem?_set_self h1] at hk
    rw [List.getElem?_set_self h2] at hk'
    injection hk with hk; injection hk' with hk'
    rw [← hk, ← hk']; exact hab
  · rw [List.getElem?_set_ne e] at hk hk'
    exact h.2 j k k' hk hk'
theorem Fos.tail {k k' : Nd} {ks ks' : List Nd} (h : Fos (k :: ks) (k' :: ks')) : Fo k k' ∧ Fos ks ks' :=
  ⟨h.2 0 k k' rfl rfl, by have := h.1; simpa using this, fun i a b h1 h2 => h.2 (i + 1) a b (by simpa using h1) (by simpa using h2)⟩
theorem Fos.many : ∀ {ks ks' : List Nd}, Fos ks ks' → manyN ks = manyN ks'
  | [], [], _ => rfl
  | [], _ :: _, h => by have := h.1; simp at this
  | _ :: _, [], h => by have := h.1; simp at this
  | k :: ks, k' :: ks', h => by
    obtain ⟨h1, h2⟩ := h.tail
    rw [many_cons, many_cons, Fos.many h2]
    by_cases e : k.kind = 0
    · rw [if_pos e, if_pos (h1.kind.1.1 e)]
    · rw [if_neg e, if_neg (fun e' => e (h1.kind.1.2 e'))]
theorem Fos.scan {has : Bool} : ∀ {ks ks' : List Nd} {i : Nat} {o : Option Nat}, Fos ks ks' → scanK has ks i o = scanK has ks' i o
  | [], [], _, _, _ => rfl
  | [], _ :: _, _, _, h => by have := h.1; simp at this
  | _ :: _, [], _, _, h => by have := h.1; simp at this
  | k :: ks, k' :: ks', i, o, h => by
    obtain ⟨h1, h2⟩ := h.tail
    rw [scanK, scanK]
    by_cases e : k.kind = 0
    · rw [if_pos e, if_pos (h1.kind.1.1 e), Fos.scan h2]
    · rw [if_neg e, if_neg (fun e' => e (h1.kind.1.2 e')), Fos.scan h2]
theorem Fo.val {even : Bool} {m n : Nd} (h : Fo m n) : ∀ d, Val even n d → Val even m d := by
  induction h with
  | refl => exact fun d h => h
  | stub t h0 => exact fun d h => .stub d _ h.le (hashP_len h)
  | way p h ih =>
    intro d hv
    cases hv with
    | way _ _ _ hd hp h0 hk hr =>
      refine .way d p _ hd hp h0 ?_ (ih _ hr)
      rename_i k k'
      by_cases h4 : k.kind = 4
      · exact .inr h4
      · rw [h.kind.2 h4]; exact hk
  | branch has v ks ks' hl h ih =>
    intro d hv
    cases hv with
    | branch _ _ _ _ hd hv hv0 he h16 hr hm =>
      refine .branch d has v ks hd hv hv0 he (hl.trans h16) (fun k hk => ?_) (by rw [Fos.many ⟨hl, h⟩]; exact hm)
      obtain ⟨i, hi⟩ := List.getElem?_of_mem hk
      have hi' := (List.getElem?_eq_some_iff.1 hi).1
      have hk' : ks'[i]? = some (ks'[i]'(by omega)) := List.getElem?_eq_getElem (by omega)
      exact ih i k _ hi hk' _ (hr _ (List.mem_of_getElem? hk'))
theorem hashes_eq : ∀ {ks ks' : List Nd}, ks.length = ks'.length → (∀ (i : Nat) (k k' : Nd), ks[i]? = some k → ks'[i]? = some k' → (k.kind = 0 ↔ k'.kind = 0) ∧ hashP k = hashP k') → hashesP ks = hashesP ks'
  | [], [], _, _ => rfl
  | [], _ :: _, h, _ => by simp at h
  | _ :: _, [], h, _ => by simp at h
  | k :: ks, k' :: ks', h, hh => by
    obtain ⟨h1, h2⟩ := hh 0 k k' rfl rfl
    rw [hashesP, hashesP, hashes_eq (by simpa using h) (fun i a b ha hb => hh (i + 1) a b (by simpa using ha) (by simpa using hb)), h2]
    by_cases e : k.kind = 0
    · rw [if_neg (fun x => x e), if_neg (fun x => x (h1.1 e))]
    · rw [if_pos e, if_pos (fun x => e (h1.2 x))]
theorem kbit_eq {ks ks' : List Nd} (h : Fos ks ks') (i : Nat) : kbit ks i = kbit ks' i := by
  unfold kbit
  have : ((ks.getD i noneN).kind ≠ 0) ↔ ((ks'.getD i noneN).kind ≠ 0) := by
    rw [List.getD_eq_getElem?_getD, List.getD_eq_getElem?_getD]
    rcases Nat.lt_or_ge i ks.length with hi | hi
    · have h1 : ks[i]? = some (ks[i]'hi) := List.getElem?_eq_getElem hi
      have h2 : ks'[i]? = some (ks'[i]'(by have := h.1; omega)) := List.getElem?_eq_getElem (by have := h.1; omega)
      rw [h1, h2]
      exact not_congr (h.2 i _ _ h1 h2).kind.1
    · rw [List.getElem?_eq_none hi, List.getElem?_eq_none (by have := h.1; omega)]
  by_cases e : (ks.getD i noneN).kind ≠ 0
  · rw [if_pos e, if_pos (this.1 e)]
  · rw [if_neg e, if_neg (fun x => e (this.2 x))]
theorem kbits_eq {ks ks' : List Nd} (h : Fos ks ks') : ∀ i, kbits ks i = kbits ks' i
  | 0 => rfl
  | i + 1 => by rw [kbits, kbits, kbits_eq h i, kbit_eq h i]
theorem Fo.hash {m n : Nd} (h : Fo m n) : hashP m = hashP n := by
  induction h with
  | refl => rfl
  | stub t h0 => rw [hashP_eq]; exact if_pos rfl
  | @way p k k' h ih =>
    rw [hashP, hashP, if_neg (by decide), if_neg (by decide), hashes_eq (ks := [k]) (ks' := [k']) rfl (fun i a b ha hb => by
      match i, ha, hb with
      | 0, ha, hb =>
        simp at ha hb
        subst ha; subst hb
        exact ⟨h.kind.1, ih⟩)]
    rfl
  | branch has v ks ks' hl h ih =>
    rw [hashP, hashP, if_neg (by decide), if_neg (by decide), hashes_eq hl (fun i a b ha hb => ⟨(h i a b ha hb).kind.1, ih i a b ha hb⟩)]
    unfold encF
    rw [kbits_eq ⟨hl, h⟩ 16]
theorem ends_down {even : Bool} {d e : Nat} (h : endsP d even = true) (he : e ≤ d) : endsP e false = true := by
  have := endsP_le h
  unfold endsP
  rw [decide_eq_true (show e ≤ 400 by omega)]; rfl
theorem val_down {even : Bool} {t : Nd} {d : Nat} (h : Val even t d) : ∀ e, e ≤ d → Val false t e := by
  induction h with
  | none d hd => exact fun e he => .none e (by omega)
  | leaf d p v hd hp hv hend => exact fun e he => .leaf e p v (by omega) hp hv (ends_down hend (by omega))
  | stub d h hd hh => exact fun e he => .stub e h (by omega) hh
  | way d p k hd hp h0 hk hr ih => exact fun e he => .way e p k (by omega) hp h0 hk (ih _ (by omega))
  | branch d has v ks hd hv hv0 hend h16 hr hm ih => exact fun e he => .branch e has v ks (by omega) hv hv0 (fun x => ends_down (hend x) he) h16 (fun k hk => ih k hk _ (by omega)) hm
theorem hashR_val {even : Bool} {t : Nd} {d : Nat} (h : Val even t d) : hashR t = hashP t := by
  unfold hashR
  rw [right_of_val (val_down h 0 (Nat.zero_le _)), if_pos rfl]
theorem Fo.get {even : Bool} {m n : Nd} (h : Fo m n) : ∀ d, Val even n d → ∀ q, halvesB q = true → getP m q = getP n q ∨ ∃ r, (getP m q).miss = some r ∧ r <+: q := by
  induction h with
  | refl => exact fun _ _ _ _ => .inl rfl
  | stub t h0 => exact fun _ _ q _ => .inr ⟨[], by rw [getP_stub], List.nil_prefix⟩
  | way p h ih =>
    intro d hv q hq
    cases hv with
    | way _ _ _ hd hp h0 hk hr =>
      by_cases hpq : p <+: q
      · rw [getP_way hpq, getP_way hpq]
        rcases ih _ hr (q.drop p.length) (halvesB_drop hq) with e | ⟨r, e1, e2⟩
        · exact .inl (by rw [e])
        · refine .inr ⟨p ++ r, by simp only [e1]; rfl, ?_⟩
          obtain ⟨s, rfl⟩ := hpq
          rw [List.drop_left] at e2
          exact (List.prefix_append_right_inj _).2 e2
      · exact .inl (by rw [getP_way0 hpq, getP_way0 hpq])
  | branch has v ks ks' hl h ih =>
    intro d hv q hq
    cases hv with
    | branch _ _ _ _ hd hv hv0 he h16 hr hm =>
      match q, hq with
      | [], _ => exact .inl (by rw [getP_br0, getP_br0])
      | x :: q', hq =>
        have hx := halves_hd hq
        obtain ⟨k, hk⟩ : ∃ k, ks[x.toNat]? = some k := ⟨_, List.getElem?_eq_getElem (by omega)⟩
        obtain ⟨k', hk'⟩ : ∃ k', ks'[x.toNat]? = some k' := ⟨_, List.getElem?_eq_getElem (by omega)⟩
        rw [getP_br hk, getP_br hk']
        rcases ih _ k k' hk hk' _ (hr k' (List.mem_of_getElem? hk')) q' (by have := halvesB_drop (n := 1) hq; simpa using this) with e | ⟨r, e1, e2⟩
        · exact .inl (by rw [e])
        · exact .inr ⟨x :: r, by simp only [e1]; rfl, List.cons_prefix_cons.2 ⟨rfl, e2⟩⟩
theorem Fo.along {a b : Nd} (h : Fo a b) (p : List UInt8) : Fo (alongN p a) (alongN p b) := by
  unfold alongN
  split
  · exact h
  · exact .way p h
theorem Fos.hold {ks ks' : List Nd} (h : Fos ks ks') (has : Bool) (v p val : List UInt8) : (holdK has v ks p val).1 = (holdK has v ks' p val).1 ∧ (holdK has v ks p val).2.1 = (holdK has v ks' p val).2.1 ∧ Fos (holdK has v ks p val).2.2 (holdK has v ks' p val).2.2 := by
  cases p with
  | nil => exact ⟨rfl, rfl, h⟩
  | cons x r => exact ⟨rfl, rfl, h.set (.refl _) _⟩
theorem Fo.fork {k k' : Nd} (h : Fo k k') (p q val : List UInt8) : Fo (forkN (.mk 2 p false [] [k] []) q val) (forkN (.mk 2 p false [] [k'] []) q val) := by
  unfold forkN
  simp only [Nd.path, Nd.kind, Nd.val, Nd.kids, List.headD_cons, Int.reduceEq, if_false]
  refine Fo.along ?_ _
  obtain ⟨h1, h2, h3⟩ := ((Fos.refl (noneNs 16)).set (h.along (p.drop (commonB p q + 1))) (p.getD (commonB p q) 0).toNat).hold false [] (q.drop (commonB p q)) val
  rw [h1, h2]
  exact .branch _ _ _ _ h3.1 h3.2
theorem Fo.put {even : Bool} {m n : Nd} (h : Fo m n) : ∀ d, Val even n d → ∀ q val, halvesB q = true → (getP m q).miss = none → Fo (putP m q val).1 (putP n q val).1 := by
  induction h with
  | refl => exact fun _ _ _ _ _ _ => .refl _
  | stub t h0 => intro _ _ q _ _ hm; rw [getP_stub] at hm; cases hm
  | way p h ih =>
    intro d hv q val hq hm
    cases hv with
    | way _ _ _ hd hp h0 hk hr =>
      by_cases hpq : p <+: q
      · rw [getP_way hpq] at hm
        rw [putP_way hpq, putP_way hpq]
        exact .way p (ih _ hr _ val (halvesB_drop hq) (by simpa using hm))
      · rw [putP_way0 hpq, putP_way0 hpq]
        exact h.fork p q val
  | branch has v ks ks' hl h ih =>
    intro d hv q val hq hm
    cases hv with
    | branch _ _ _ _ hd hv hv0 he h16 hr hm' =>
      match q, hq, hm with
      | [], _, _ => rw [putP_br0, putP_br0]; exact .branch _ _ _ _ hl h
      | x :: q', hq, hm =>
        have hx := halves_hd hq
        obtain ⟨k, hk⟩ : ∃ k, ks[x.toNat]? = some k := ⟨_, List.getElem?_eq_getElem (by omega)⟩
        obtain ⟨k', hk'⟩ : ∃ k', ks'[x.toNat]? = some k' := ⟨_, List.getElem?_eq_getElem (by omega)⟩
        rw [getP_br hk] at hm
        rw [putP_br hk, putP_br hk']
        have := Fos.set (ks := ks) (ks' := ks') ⟨hl, h⟩ (ih _ k k' hk hk' _ (hr k' (List.mem_of_getElem? hk')) q' val (by have := halvesB_drop (n := 1) hq; simpa using this) (by simpa using hm)) x.toNat
        exact .branch _ _ _ _ this.1 this.2
theorem Fo.behind {a b : Nd} (h : Fo a b) (h4 : a.kind ≠ 4) (p : List UInt8) : Fo (behindN p a) (behindN p b) := by
  cases h with
  | refl => exact .refl _
  | stub => exact absurd rfl h4
  | way p' h => rw [behind_way, behind_way]; exact .way _ h
  | branch has v ks ks' hl h => rw [behind_br, behind_br]; exact (Fo.branch has v ks ks' hl h).along p
theorem Fos.settle {ks ks' : List Nd} (h : Fos ks ks') (h16 : ks.length = 16) (has : Bool) (v : List UInt8) (hm : (settleP (.mk 3 [] has v ks [])).2 = none) : Fo (settleP (.mk 3 [] has v ks [])).1 (settleP (.mk 3 [] has v ks' [])).1 := by
  unfold settleP at hm ⊢
  dsimp only [Nd.has, Nd.kids, Nd.val] at hm ⊢
  rw [← Fos.scan h]
  cases hs : scanK has ks 0 none with
  | none => exact .branch _ _ _ _ h.1 h.2
  | some o =>
    cases o with
    | none => exact .refl _
    | some i =>
      rw [hs] at hm
      dsimp only at hm ⊢
      have hi : i < ks.length := by
        rcases scan_lt hs with h | h
        · cases h
        · omega
      have h1 : ks[i]? = some (ks[i]'hi) := List.getElem?_eq_getElem hi
      have h2 : ks'[i]? = some (ks'[i]'(by have := h.1; omega)) := List.getElem?_eq_getElem (by have := h.1; omega)
      have e1 : ks.getD i noneN = ks[i]'hi := by rw [List.getD_eq_getElem?_getD, h1]; rfl
      have e2 : ks'.getD i noneN = ks'[i]'(by have := h.1; omega) := by rw [List.getD_eq_getElem?_getD, h2]; rfl
      simp only [e1, e2] at hm ⊢
      have hf := h.2 i _ _ h1 h2
      by_cases h4 : (ks[i]'hi).kind = 4
      · rw [if_pos h4] at hm; cases hm
      · rw [if_neg h4, if_neg (by rw [← hf.kind.2 h4]; exact h4)]
        exact hf.behind h4 _
theorem Fo.drop {even : Bool} {m n : Nd} (h : Fo m n) : ∀ d, Val even n d → ∀ q, halvesB q = true → (getP m q).has = true → (dropP m q).2 = none → (dropP n q).2 = none → Fo (dropP m q).1 (dropP n q).1 := by
  induction h with
  | refl => exact fun _ _ _ _ _ _ _ => .refl _
  | stub t h0 => intro _ _ q _ hm; rw [getP_stub] at hm; cases hm
  | @way p k k' h ih =>
    intro d hv q hq hg hm hn
    have hvm := (Fo.way p h).val d hv
    cases hv with
    | way _ _ _ hd hp h0 hk hr =>
      have hpre : p <+: q := by
        rcases Classical.em (p <+: q) with h | h
        · exact h
        · rw [getP_way0 h] at hg; cases hg
      rw [getP_way hpre] at hg
      rw [dropP_way] at hm
      rw [dropP_way, dropP_way]
      have hm' : (dropP k (q.drop p.length)).2 = none := by simpa using hm
      rw [dropP_way] at hn
      have := ih _ hr _ (halvesB_drop hq) hg hm' (by simpa using hn)
      refine this.behind ?_ p
      cases hvm with
      | way _ _ _ _ _ _ _ hr2 => exact ((drop_items hr2 _ (halvesB_drop hq) hg).1 hm').2.1
  | branch has v ks ks' hl h ih =>
    intro d hv q hq hg hmm hn
    have hvm := (Fo.branch has v ks ks' hl h).val d hv
    cases hv with
    | branch _ _ _ _ hd hv hv0 he h16 hr hm =>
      match q, hq, hg, hmm, hn with
      | [], _, _, hmm, _ =>
        rw [dropP_br0] at hmm
        rw [dropP_br0, dropP_br0]
        exact Fos.settle ⟨hl, h⟩ (by omega) _ _ hmm
      | x :: q', hq, hg, hmm, hn =>
        have hx := halves_hd hq
        obtain ⟨k, hk⟩ : ∃ k, ks[x.toNat]? = some k := ⟨_, List.getElem?_eq_getElem (by omega)⟩
        obtain ⟨k', hk'⟩ : ∃ k', ks'[x.toNat]? = some k' := ⟨_, List.getElem?_eq_getElem (by omega)⟩
        rw [getP_br hk] at hg
        rw [dropP_br hk] at hmm
        rw [dropP_br hk'] at hn
        rw [dropP_br hk, dropP_br hk']
        cases hd2 : (dropP k q').2 with
        | some r => rw [hd2] at hmm; simp at hmm
        | none =>
          have hd3 : (dropP k' q').2 = none := by
            cases hd3 : (dropP k' q').2 with
            | none => rfl
            | some r => rw [hd3] at hn; simp at hn
          have hq' : halvesB q' = true := by have := halvesB_drop (n := 1) hq; simpa using this
          have hF := ih _ k k' hk hk' _ (hr k' (List.mem_of_getElem? hk')) q' hq' hg hd2 hd3
          rw [hd2] at hmm
          rw [hd3]
          simp only [Option.isSome_none, Bool.false_eq_true, if_false] at hmm ⊢
          exact Fos.settle (Fos.set ⟨hl, h⟩ hF x.toNat) (by rw [List.length_set]; omega) _ _ hmm
mutual
theorem sz_foldN {even : Bool} {t : Nd} {d : Nat} (h : Val even t d) : sz (foldN t) ≤ sz t + 38 := by
  unfold foldN
  split
  · have e : sz noneN = 6 := rfl
    rw [e]; omega
  · rw [sz, hashR_val h, szs]
    have := hashP_len h
    simp only [List.length_nil]; omega
end
end Go.Proofs.Ytkfbkhahkkmcoaa
