/- The walk of the law VintOrder. -/
import Derived.Test.YtlmnkepgljbdiaaVintK
namespace Go.Proofs.Ytlmnkepgljbdiaa
open Go.RowKit

theorem putI_any (x : Int) (n : Nat) (hx : Hid (x = (n : Int))) (w : World) (hlen : (putN n).length ≤ 10) :
    Calls Try.prog 30 #[.int .u64 x] w fun e w' => ∃ A' c', e = .returned (.slice A' (putN n).length c') ∧ Own w' w.heap.size A' (putN n).length c' (putN n) ∧ Below w.heap.size w w' := by
  have := hx.out
  subst this
  exact put_any n w hlen
/-- What is read of a number's bytes alone. -/
theorem gAlone (n : Nat) (h : n < 18446744073709551616) : gE (putN n) 0 = 0 ∧ gN (putN n) 0 = (n : Int) := by
  have := g_put [] n [] h
  simp at this
  exact ⟨this.1, this.2.1⟩

set_option maxRecDepth 100000 in
set_option maxHeartbeats 4000000 in
theorem vintOrder_a (w : World) (n m : Int) (N M : Nat) (hN : n = (N : Int)) (hM : m = (M : Int)) (hN1 : N ≤ 18446744073709551615) (hM1 : M ≤ 18446744073709551615) (hr : 0 < N ∧ N < 144115188075855872) (k : Int) (hk2 : k = -9223372036854775808 ∨ k = 0) :
    Calls Try.prog 10 #[.int .u64 n, .int .u64 m, .int .i64 k] w (RetTrue w) := by
  have hl0 := putN_len10 (n := N) (by omega)
  have hl1 := putN_len10 (n := M) (by omega)
  have hd : (m < n ∧ ¬ n < m ∧ (putN M).length ≤ (putN N).length ∧ 1 ≤ (putN M).length) ∨ (¬ m < n ∧ ¬ n < m ∧ 1 ≤ (putN N).length ∧ True) ∨ (¬ m < n ∧ n < m ∧ (putN N).length ≤ (putN M).length ∧ 1 ≤ (putN N).length) := by
    rcases Nat.lt_trichotomy M N with h | h | h
    · exact .inl ⟨by omega, by omega, putN_mono _ M N (Nat.lt_succ_self _) (by omega), putN_pos M⟩
    · exact .inr (.inl ⟨by omega, by omega, putN_pos N, trivial⟩)
    · exact .inr (.inr ⟨by omega, by omega, putN_mono _ N M (Nat.lt_succ_self _) (by omega), putN_pos N⟩)
  have HN := Lib.hid hN
  have HM := Lib.hid hM
  obtain ⟨x, hx⟩ : ∃ x, IntKind.u64.wrap (128 * n) = x := ⟨_, rfl⟩
  have hw1 := Lib.hid (show x = ((128 * N : Nat) : Int) by rw [← hx, IntWalk.u64_in _ (by omega)]; omega)
  have hl2 := putN_len10 (n := 128 * N) (by omega)
  have hl3 := putN_len10 (n := N) (by omega)
  have h128 := Lib.hid (putN_128 (n := N) (by omega))
  have hr' : decide ((0 : Int) < n) = true ∧ decide (n < 144115188075855872) = true := by simp only [decide_eq_true_eq]; omega
  clear hr
  obtain ⟨hr1, hr2⟩ := hr'
  all_goals clear hN hM hN1 hM1
  all_goals rcases hd with ⟨hd1, hd2, hd3, hd4⟩ | ⟨hd1, hd2, hd3, hd4⟩ | ⟨hd1, hd2, hd3, hd4⟩
  all_goals have hk' : ((k == -9223372036854775808) = true) ∨ ((k == -9223372036854775808) = false ∧ (k == 0) = true) := by simp only [beq_iff_eq, beq_eq_false_iff_ne]; omega
  all_goals clear hk2
  all_goals rcases hk' with hk2 | ⟨hk2, hk3⟩
  all_goals
    go_enter Try.func10, Try.ntmps10
    go_wp2_with fail
    refine (putI_any _ _ (by assumption) _ (by assumption)).mono ?_
    rintro e w1 ⟨A1, c1, rfl, o1, b1⟩
    clear o1
    go_wp2_with fail
    refine (putI_any _ _ (by assumption) _ (by assumption)).mono ?_
    rintro e w2 ⟨A2, c2, rfl, o2, b2⟩
    clear o2
    have B2 := b1.trans (b2.mono b1.size)
    go_wp2_with fail
    refine (putI_any _ _ hw1 _ hl2).mono ?_
    rintro e w3 ⟨A3, c3, rfl, o3, b3⟩
    clear o3
    have B3 := B2.trans (b3.mono B2.size)
    go_wp2_with fail
    refine (putI_any _ _ HN _ hl3).mono ?_
    rintro e w4 ⟨A4, c4, rfl, o4, b4⟩
    clear o4
    have B2 := B3.trans (b4.mono B3.size)
    rw [h128.out]
    go_wp2_with fail
    refine (known01_any _).mono ?_
    rintro e w8 ⟨rfl, b8⟩
    go_wp2_with fail
    go_ret
    exact ⟨rfl, B2.trans (b8.mono B2.size)⟩

set_option maxRecDepth 100000 in
set_option maxHeartbeats 4000000 in
theorem vintOrder_b (w : World) (n m : Int) (N M : Nat) (hN : n = (N : Int)) (hM : m = (M : Int)) (hN1 : N ≤ 18446744073709551615) (hM1 : M ≤ 18446744073709551615) (hr : 0 < N ∧ N < 144115188075855872) (k : Int) (hk : -9223372036854775808 ≤ k ∧ k ≤ 9223372036854775807) (hk2 : k ≠ -9223372036854775808 ∧ k ≠ 0) :
    Calls Try.prog 10 #[.int .u64 n, .int .u64 m, .int .i64 k] w (RetTrue w) := by
  have hl0 := putN_len10 (n := N) (by omega)
  have hl1 := putN_len10 (n := M) (by omega)
  have hd : (m < n ∧ ¬ n < m ∧ (putN M).length ≤ (putN N).length ∧ 1 ≤ (putN M).length) ∨ (¬ m < n ∧ ¬ n < m ∧ 1 ≤ (putN N).length ∧ True) ∨ (¬ m < n ∧ n < m ∧ (putN N).length ≤ (putN M).length ∧ 1 ≤ (putN N).length) := by
    rcases Nat.lt_trichotomy M N with h | h | h
    · exact .inl ⟨by omega, by omega, putN_mono _ M N (Nat.lt_succ_self _) (by omega), putN_pos M⟩
    · exact .inr (.inl ⟨by omega, by omega, putN_pos N, trivial⟩)
    · exact .inr (.inr ⟨by omega, by omega, putN_mono _ N M (Nat.lt_succ_self _) (by omega), putN_pos N⟩)
  have HN := Lib.hid hN
  have HM := Lib.hid hM
  obtain ⟨x, hx⟩ : ∃ x, IntKind.u64.wrap (128 * n) = x := ⟨_, rfl⟩
  have hw1 := Lib.hid (show x = ((128 * N : Nat) : Int) by rw [← hx, IntWalk.u64_in _ (by omega)]; omega)
  have hl2 := putN_len10 (n := 128 * N) (by omega)
  have hl3 := putN_len10 (n := N) (by omega)
  have h128 := Lib.hid (putN_128 (n := N) (by omega))
  obtain ⟨K, hK, hK0, hK1⟩ : ∃ K : Nat, (k = K ∨ k = -(K : Int)) ∧ 0 < K ∧ K ≤ 9223372036854775807 := ⟨k.natAbs, by omega, by omega, by omega⟩
  have hneg : IntKind.i64.wrap (-(K : Int)) = -(K : Int) := IntWalk.i64_in _ (by omega)
  have hneg2 : IntKind.i64.wrap (K : Int) = (K : Int) := IntWalk.i64_in _ (by omega)
  have hA : -(K : Int) < K := by omega
  have hB : ¬ (K : Int) < -(K : Int) := by omega
  have hb1 : (k == -9223372036854775808) = false := by simp; omega
  have hb2 : (k == 0) = false := by simp; omega
  have z1 := Lib.hid (show zig (K : Int) = 2 * K by unfold zig; rw [if_neg (by omega)]; omega)
  have z2 := Lib.hid (show zig (-(K : Int)) = 2 * K - 1 by unfold zig; rw [if_pos (by omega)]; omega)
  have hz1 := putN_len10 (n := 2 * K) (by omega)
  have hz2 := putN_len10 (n := 2 * K - 1) (by omega)
  have g1 := Lib.hid (show gE (putN (2 * K)) 0 = 0 ∧ gN (putN (2 * K)) 0 = (2 * K : Int) by have := gAlone (2 * K) (by omega); exact ⟨this.1, by rw [this.2]; omega⟩)
  have g2 := Lib.hid (show gE (putN (2 * K - 1)) 0 = 0 ∧ gN (putN (2 * K - 1)) 0 = (2 * K - 1 : Int) by have := gAlone (2 * K - 1) (by omega); exact ⟨this.1, by rw [this.2]; omega⟩)
  have hw3 : IntKind.u64.wrap (2 * (K : Int) - 1 + 1) = 2 * (K : Int) := by rw [IntWalk.u64_in _ (by omega)]; omega
  have hw4 : 2 * (K : Int) % 2 = 0 := by omega
  have hr' : decide ((0 : Int) < n) = true ∧ decide (n < 144115188075855872) = true := by simp only [decide_eq_true_eq]; omega
  clear hr
  obtain ⟨hr1, hr2⟩ := hr'
  all_goals rcases hK with rfl | rfl
  all_goals clear hN hM hN1 hM1
  all_goals rcases hd with ⟨hd1, hd2, hd3, hd4⟩ | ⟨hd1, hd2, hd3, hd4⟩ | ⟨hd1, hd2, hd3, hd4⟩
  all_goals
    go_enter Try.func10, Try.ntmps10
    go_wp2_with fail
    refine (putI_any _ _ (by assumption) _ (by assumption)).mono ?_
    rintro e w1 ⟨A1, c1, rfl, o1, b1⟩
    clear o1
    go_wp2_with fail
    refine (putI_any _ _ (by assumption) _ (by assumption)).mono ?_
    rintro e w2 ⟨A2, c2, rfl, o2, b2⟩
    clear o2
    have B2 := b1.trans (b2.mono b1.size)
    go_wp2_with fail
    refine (putI_any _ _ hw1 _ hl2).mono ?_
    rintro e w3 ⟨A3, c3, rfl, o3, b3⟩
    clear o3
    have B3 := B2.trans (b3.mono B2.size)
    go_wp2_with fail
    refine (putI_any _ _ HN _ hl3).mono ?_
    rintro e w4 ⟨A4, c4, rfl, o4, b4⟩
    clear o4
    have B2 := B3.trans (b4.mono B3.size)
    rw [h128.out]
    go_wp2_with fail
    refine (putInt_any _ _ (by omega) (by omega)).mono ?_
    rintro e w5 ⟨A5, c5, rfl, o5, b5⟩
    rw [z1.out] at o5 ⊢
    have B5 := B2.trans (b5.mono B2.size)
    go_wp2_with fail
    refine (get_any _ _ _ _ _ _ _ o5.rd (by omega) o5.cap_).mono ?_
    rintro e w6 ⟨rfl, rfl⟩
    rw [g1.out.1, g1.out.2]
    go_wp2_with fail
    refine (putInt_any _ _ (by omega) (by omega)).mono ?_
    rintro e w6 ⟨A6, c6, rfl, o6, b6⟩
    rw [z2.out] at o6 ⊢
    have B6 := B5.trans (b6.mono B5.size)
    go_wp2_with fail
    refine (get_any _ _ _ _ _ _ _ o6.rd (by omega) o6.cap_).mono ?_
    rintro e w7 ⟨rfl, rfl⟩
    rw [g2.out.1, g2.out.2]
    go_wp2_with fail
    refine (known01_any _).mono ?_
    rintro e w8 ⟨rfl, b8⟩
    go_wp2_with fail
    go_ret
    exact ⟨rfl, B6.trans (b8.mono B6.size)⟩

set_option maxRecDepth 100000 in
set_option maxHeartbeats 4000000 in
theorem vintOrder_c (w : World) (n m : Int) (N M : Nat) (hN : n = (N : Int)) (hM : m = (M : Int)) (hN1 : N ≤ 18446744073709551615) (hM1 : M ≤ 18446744073709551615) (hr : N = 0 ∨ 144115188075855872 ≤ N) (k : Int) (hk2 : k = -9223372036854775808 ∨ k = 0) :
    Calls Try.prog 10 #[.int .u64 n, .int .u64 m, .int .i64 k] w (RetTrue w) := by
  have hl0 := putN_len10 (n := N) (by omega)
  have hl1 := putN_len10 (n := M) (by omega)
  have hd : (m < n ∧ ¬ n < m ∧ (putN M).length ≤ (putN N).length ∧ 1 ≤ (putN M).length) ∨ (¬ m < n ∧ ¬ n < m ∧ 1 ≤ (putN N).length ∧ True) ∨ (¬ m < n ∧ n < m ∧ (putN N).length ≤ (putN M).length ∧ 1 ≤ (putN N).length) := by
    rcases Nat.lt_trichotomy M N with h | h | h
    · exact .inl ⟨by omega, by omega, putN_mono _ M N (Nat.lt_succ_self _) (by omega), putN_pos M⟩
    · exact .inr (.inl ⟨by omega, by omega, putN_pos N, trivial⟩)
    · exact .inr (.inr ⟨by omega, by omega, putN_mono _ N M (Nat.lt_succ_self _) (by omega), putN_pos N⟩)
  have HN := Lib.hid hN
  have HM := Lib.hid hM
  have hr' : (decide ((0 : Int) < n) = false) ∨ (decide ((0 : Int) < n) = true ∧ decide (n < 144115188075855872) = false) := by simp only [decide_eq_true_eq, decide_eq_false_iff_not]; omega
  clear hr
  rcases hr' with hr1 | ⟨hr1, hr2⟩
  all_goals clear hN hM hN1 hM1
  all_goals rcases hd with ⟨hd1, hd2, hd3, hd4⟩ | ⟨hd1, hd2, hd3, hd4⟩ | ⟨hd1, hd2, hd3, hd4⟩
  all_goals have hk' : ((k == -9223372036854775808) = true) ∨ ((k == -9223372036854775808) = false ∧ (k == 0) = true) := by simp only [beq_iff_eq, beq_eq_false_iff_ne]; omega
  all_goals clear hk2
  all_goals rcases hk' with hk2 | ⟨hk2, hk3⟩
  all_goals
    go_enter Try.func10, Try.ntmps10
    go_wp2_with fail
    refine (putI_any _ _ (by assumption) _ (by assumption)).mono ?_
    rintro e w1 ⟨A1, c1, rfl, o1, b1⟩
    clear o1
    go_wp2_with fail
    refine (putI_any _ _ (by assumption) _ (by assumption)).mono ?_
    rintro e w2 ⟨A2, c2, rfl, o2, b2⟩
    clear o2
    have B2 := b1.trans (b2.mono b1.size)
    go_wp2_with fail
    refine (known01_any _).mono ?_
    rintro e w8 ⟨rfl, b8⟩
    go_wp2_with fail
    go_ret
    exact ⟨rfl, B2.trans (b8.mono B2.size)⟩

set_option maxRecDepth 100000 in
set_option maxHeartbeats 4000000 in
theorem vintOrder_d (w : World) (n m : Int) (N M : Nat) (hN : n = (N : Int)) (hM : m = (M : Int)) (hN1 : N ≤ 18446744073709551615) (hM1 : M ≤ 18446744073709551615) (hr : N = 0 ∨ 144115188075855872 ≤ N) (k : Int) (hk : -9223372036854775808 ≤ k ∧ k ≤ 9223372036854775807) (hk2 : k ≠ -9223372036854775808 ∧ k ≠ 0) :
    Calls Try.prog 10 #[.int .u64 n, .int .u64 m, .int .i64 k] w (RetTrue w) := by
  have hl0 := putN_len10 (n := N) (by omega)
  have hl1 := putN_len10 (n := M) (by omega)
  have hd : (m < n ∧ ¬ n < m ∧ (putN M).length ≤ (putN N).length ∧ 1 ≤ (putN M).length) ∨ (¬ m < n ∧ ¬ n < m ∧ 1 ≤ (putN N).length ∧ True) ∨ (¬ m < n ∧ n < m ∧ (putN N).length ≤ (putN M).length ∧ 1 ≤ (putN N).length) := by
    rcases Nat.lt_trichotomy M N with h | h | h
    · exact .inl ⟨by omega, by omega, putN_mono _ M N (Nat.lt_succ_self _) (by omega), putN_pos M⟩
    · exact .inr (.inl ⟨by omega, by omega, putN_pos N, trivial⟩)
    · exact .inr (.inr ⟨by omega, by omega, putN_mono _ N M (Nat.lt_succ_self _) (by omega), putN_pos N⟩)
  have HN := Lib.hid hN
  have HM := Lib.hid hM
  obtain ⟨K, hK, hK0, hK1⟩ : ∃ K : Nat, (k = K ∨ k = -(K : Int)) ∧ 0 < K ∧ K ≤ 9223372036854775807 := ⟨k.natAbs, by omega, by omega, by omega⟩
  have hneg : IntKind.i64.wrap (-(K : Int)) = -(K : Int) := IntWalk.i64_in _ (by omega)
  have hneg2 : IntKind.i64.wrap (K : Int) = (K : Int) := IntWalk.i64_in _ (by omega)
  have hA : -(K : Int) < K := by omega
  have hB : ¬ (K : Int) < -(K : Int) := by omega
  have hb1 : (k == -9223372036854775808) = false := by simp; omega
  have hb2 : (k == 0) = false := by simp; omega
  have z1 := Lib.hid (show zig (K : Int) = 2 * K by unfold zig; rw [if_neg (by omega)]; omega)
  have z2 := Lib.hid (show zig (-(K : Int)) = 2 * K - 1 by unfold zig; rw [if_pos (by omega)]; omega)
  have hz1 := putN_len10 (n := 2 * K) (by omega)
  have hz2 := putN_len10 (n := 2 * K - 1) (by omega)
  have g1 := Lib.hid (show gE (putN (2 * K)) 0 = 0 ∧ gN (putN (2 * K)) 0 = (2 * K : Int) by have := gAlone (2 * K) (by omega); exact ⟨this.1, by rw [this.2]; omega⟩)
  have g2 := Lib.hid (show gE (putN (2 * K - 1)) 0 = 0 ∧ gN (putN (2 * K - 1)) 0 = (2 * K - 1 : Int) by have := gAlone (2 * K - 1) (by omega); exact ⟨this.1, by rw [this.2]; omega⟩)
  have hw3 : IntKind.u64.wrap (2 * (K : Int) - 1 + 1) = 2 * (K : Int) := by rw [IntWalk.u64_in _ (by omega)]; omega
  have hw4 : 2 * (K : Int) % 2 = 0 := by omega
  have hr' : (decide ((0 : Int) < n) = false) ∨ (decide ((0 : Int) < n) = true ∧ decide (n < 144115188075855872) = false) := by simp only [decide_eq_true_eq, decide_eq_false_iff_not]; omega
  clear hr
  rcases hr' with hr1 | ⟨hr1, hr2⟩
  all_goals rcases hK with rfl | rfl
  all_goals clear hN hM hN1 hM1
  all_goals rcases hd with ⟨hd1, hd2, hd3, hd4⟩ | ⟨hd1, hd2, hd3, hd4⟩ | ⟨hd1, hd2, hd3, hd4⟩
  all_goals
    go_enter Try.func10, Try.ntmps10
    go_wp2_with fail
    refine (putI_any _ _ (by assumption) _ (by assumption)).mono ?_
    rintro e w1 ⟨A1, c1, rfl, o1, b1⟩
    clear o1
    go_wp2_with fail
    refine (putI_any _ _ (by assumption) _ (by assumption)).mono ?_
    rintro e w2 ⟨A2, c2, rfl, o2, b2⟩
    clear o2
    have B2 := b1.trans (b2.mono b1.size)
    go_wp2_with fail
    refine (putInt_any _ _ (by omega) (by omega)).mono ?_
    rintro e w5 ⟨A5, c5, rfl, o5, b5⟩
    rw [z1.out] at o5 ⊢
    have B5 := B2.trans (b5.mono B2.size)
    go_wp2_with fail
    refine (get_any _ _ _ _ _ _ _ o5.rd (by omega) o5.cap_).mono ?_
    rintro e w6 ⟨rfl, rfl⟩
    rw [g1.out.1, g1.out.2]
    go_wp2_with fail
    refine (putInt_any _ _ (by omega) (by omega)).mono ?_
    rintro e w6 ⟨A6, c6, rfl, o6, b6⟩
    rw [z2.out] at o6 ⊢
    have B6 := B5.trans (b6.mono B5.size)
    go_wp2_with fail
    refine (get_any _ _ _ _ _ _ _ o6.rd (by omega) o6.cap_).mono ?_
    rintro e w7 ⟨rfl, rfl⟩
    rw [g2.out.1, g2.out.2]
    go_wp2_with fail
    refine (known01_any _).mono ?_
    rintro e w8 ⟨rfl, b8⟩
    go_wp2_with fail
    go_ret
    exact ⟨rfl, B6.trans (b8.mono B6.size)⟩

theorem vintOrder_walk (w : World) (n : Int) (hn : 0 ≤ n ∧ n ≤ 18446744073709551615) (m : Int) (hm : 0 ≤ m ∧ m ≤ 18446744073709551615) (k : Int) (hk : -9223372036854775808 ≤ k ∧ k ≤ 9223372036854775807) :
    Calls Try.prog 10 #[.int .u64 n, .int .u64 m, .int .i64 k] w (RetTrue w) := by
  obtain ⟨N, rfl⟩ := Int.eq_ofNat_of_zero_le hn.1
  obtain ⟨M, rfl⟩ := Int.eq_ofNat_of_zero_le hm.1
  by_cases hr : 0 < N ∧ N < 144115188075855872
  · by_cases hk2 : k = -9223372036854775808 ∨ k = 0
    · exact vintOrder_a w _ _ N M rfl rfl (by omega) (by omega) hr k hk2
    · exact vintOrder_b w _ _ N M rfl rfl (by omega) (by omega) hr k hk (by omega)
  · by_cases hk2 : k = -9223372036854775808 ∨ k = 0
    · exact vintOrder_c w _ _ N M rfl rfl (by omega) (by omega) (by omega) k hk2
    · exact vintOrder_d w _ _ N M rfl rfl (by omega) (by omega) (by omega) k hk (by omega)
end Go.Proofs.Ytlmnkepgljbdiaa
