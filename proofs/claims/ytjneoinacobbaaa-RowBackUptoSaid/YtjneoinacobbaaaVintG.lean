/- Numbers and bytes in one way: the walk of vint.Get. -/
import Derived.Test.YtjneoinacobbaaaVintW
namespace Go.Proofs.Ytjneoinacobbaaa
open Go.RowKit

theorem ret3 {k1 k2 k3 : IntKind} {a b c a' b' c' : Int} (h1 : a = a') (h2 : b = b') (h3 : c = c') : Ending.returned (.tuple #[.int k1 a, .int k2 b, .int k3 c]) = Ending.returned (.tuple #[.int k1 a', .int k2 b', .int k3 c']) := by rw [h1, h2, h3]
theorem and127 (x : Int) (h0 : 0 ≤ x) (h1 : x ≤ 255) : bits .and .u8 x 127 = x % 128 := by
  have h : ∀ y : Fin 256, bits .and .u8 (y.val : Int) 127 = (y.val : Int) % 128 := by decide +kernel
  have := h ⟨x.toNat, by omega⟩
  simp only [Int.toNat_of_nonneg h0] at this
  exact this
theorem acc_lt {acc k x : Nat} (h : acc < 128 ^ k) (hx : x ≤ 127) : acc + x * 128 ^ k < 128 ^ (k + 1) := by
  have h1 : x * 128 ^ k ≤ 127 * 128 ^ k := Nat.mul_le_mul_right _ hx
  rw [Nat.pow_succ]; omega
/-- The number gets seven bits more. -/
theorem or_step (acc k : Nat) (x : Int) (h0 : 0 ≤ x) (h1 : x ≤ 255) (hacc : acc < 128 ^ k) (hk : k ≤ 9) (h9 : k = 9 → x ≤ 1) :
    bits .or .u64 (acc : Int) (IntKind.u64.wrap (IntKind.u64.wrap (bits .and .u8 x 127) * 2 ^ (7 * k))) = ((acc + (x.toNat % 128) * 128 ^ k : Nat) : Int) := by
  rw [and127 x h0 h1]
  obtain ⟨y, rfl⟩ := Int.eq_ofNat_of_zero_le h0
  have e1 : IntKind.u64.wrap ((y : Int) % 128) = ((y % 128 : Nat) : Int) := by rw [IntKind.wrap_u64]; omega
  have hp : (2 : Nat) ^ (7 * k) = 128 ^ k := by rw [Nat.pow_mul]
  have hb : (y % 128) * 128 ^ k < 18446744073709551616 := by
    by_cases e : k = 9
    · subst e
      have hp9 : (128 : Nat) ^ 9 = 9223372036854775808 := by decide
      rw [hp9]
      have : y % 128 ≤ 1 := by have := h9 rfl; omega
      have := Nat.mul_le_mul_right 9223372036854775808 this
      omega
    · have h2 : 128 ^ (k + 1) ≤ 128 ^ 9 := Nat.pow_le_pow_right (by omega) (by omega)
      have hp9 : (128 : Nat) ^ 9 = 9223372036854775808 := by decide
      have h3 : (y % 128) * 128 ^ k ≤ 127 * 128 ^ k := Nat.mul_le_mul_right _ (by omega)
      rw [hp9, Nat.pow_succ] at h2
      omega
  have hpz : (2 : Int) ^ (7 * k) = ((128 ^ k : Nat) : Int) := by
    have : ((2 ^ (7 * k) : Nat) : Int) = ((128 ^ k : Nat) : Int) := by rw [hp]
    rw [← this, Int.natCast_pow]; rfl
  rw [e1, hpz, Int.toNat_natCast, ← Int.natCast_mul]
  have e2 : IntKind.u64.wrap (((y % 128 * 128 ^ k : Nat)) : Int) = ((y % 128 * 128 ^ k : Nat) : Int) := by rw [IntKind.wrap_u64]; omega
  rw [e2]
  have ha : acc < 18446744073709551616 := by
    have h2 : 128 ^ k ≤ 128 ^ 9 := Nat.pow_le_pow_right (by omega) hk
    have hp9 : (128 : Nat) ^ 9 = 9223372036854775808 := by decide
    omega
  have := bits_or_u64_nat acc (y % 128 * 128 ^ k) ha hb
  rw [this]
  congr 1
  rw [Nat.mul_comm, ← hp, Nat.or_comm, ← Nat.two_pow_add_eq_or_of_lt (by rw [hp]; exact hacc), Nat.add_comm]
/-- What Get comes to. -/
def Got (w : World) (l : List UInt8) (at_ : Int) (e : Ending) (w' : World) : Prop := e = .returned (.tuple #[.int .u64 (gN l at_), .int .i64 (gTo l at_), .int .i64 (gE l at_)]) ∧ w = w'

set_option maxRecDepth 100000 in
set_option maxHeartbeats 1600000 in
theorem get_in (A : Option Addr) (n c B a : Nat) (l : List UInt8) (w : World) (hr : Rd w B A n l) (hn : n ≤ 100000000000) (hnc : n ≤ c) (ha : a < n) :
    Calls Try.prog 29 #[.slice A n c, .int .i64 a] w (Got w l a) := by
  obtain ⟨b, off, rfl, hB, hcells⟩ := hr.cells (by omega)
  have hln := Lib.hid hr.len
  have Hcells := Lib.hid hcells
  have hca : ¬ c = a := by omega
  clear hcells
  go_enter Try.func29, Try.ntmps29
  go_wp2
  go_step3
  go_wp2
  go_step3
  go_wp2
  go_loop [7, 8, 23] (fun v e i => ∃ (k acc : Nat), a + k ≤ n ∧ k ≤ 9 ∧ acc < 128 ^ k ∧ i = .int .i64 k ∧ v = .int .u64 acc ∧ e = .int .i64 10 ∧ getF (l.drop (a + k)) k acc = getF (l.drop a) 0 0) (fun _ _ i => n - (intOf i).toNat)
  case atStart => exact ⟨0, 0, by omega, by omega, by simp, rfl, rfl, rfl, rfl⟩
  case round =>
    obtain ⟨k, acc, hkn, hk9, hacc, rfl, rfl, rfl, hg⟩ := hrel
    have Hg := Lib.hid hg
    have Hacc := Lib.hid hacc
    have hal : Hid (a ≤ l.length) := Lib.hid (by rw [hln.out]; omega)
    clear hg hacc
    by_cases hlt : a + k < n
    · have hc : w.cell? ⟨b, off + a + k, none⟩ = some (.int .u8 (at8 l (a + k))) := by rw [Nat.add_assoc]; exact Hcells.out (a + k) hlt
      have h0 := at8_lo l (a + k)
      have h1 := at8_hi l (a + k)
      have hst := Lib.hid (getF_step l a k acc (by rw [hln.out]; exact hlt))
      by_cases h9 : k = 9
      · have hb9 : ((k : Int) == 9) = true := by simp; omega
        have hk0 : (0 : Int) < k := by omega
        by_cases hc1 : 1 < at8 l (a + k)
        · have F := Lib.hid (g_fail hal.out (by decide) (show getF (l.drop a) 0 0 = (0, 0, 11) by rw [← Hg.out, hst.out, if_pos (.inl ⟨h9, hc1⟩)]))
          clear h9
          go_wp2
          go_ret3
          exact ⟨ret3 F.out.2.1.symm F.out.2.2.symm F.out.1.symm, rfl⟩
        · have hd1 : decide (1 < at8 l (a + k)) = false := by simp; omega
          by_cases hz : at8 l (a + k) = 0
          · have hbz : (at8 l (a + k) == 0) = true := by simp [hz]
            have F := Lib.hid (g_fail hal.out (by decide) (show getF (l.drop a) 0 0 = (0, 0, 11) by rw [← Hg.out, hst.out, if_pos (.inr ⟨hz, by omega⟩)]))
            clear h9 hz
            go_wp2
            go_ret3
            exact ⟨ret3 F.out.2.1.symm F.out.2.2.symm F.out.1.symm, rfl⟩
          · have hbz : (at8 l (a + k) == 0) = false := by simp [hz]
            have hv := or_step acc k (at8 l (a + k)) h0 h1 Hacc.out hk9 (by omega)
            have F := Lib.hid (g_done hal.out (show getF (l.drop a) 0 0 = (acc + (at8 l (a + k)).toNat * 128 ^ k, k + 1, 0) by rw [← Hg.out, hst.out, if_neg (by omega), if_pos (by omega)]))
            rw [show (at8 l (a + k)).toNat % 128 = (at8 l (a + k)).toNat by omega] at hv
            have Hv := Lib.hid hv
            have hlt8 : at8 l (a + k) < 128 := by omega
            clear hv hz h9
            go_wp2
            go_ret3
            exact ⟨ret3 (by rw [Hv.out]; exact F.out.2.1.symm) (by rw [F.out.2.2]; omega) F.out.1.symm, rfl⟩
      · have hb9 : ((k : Int) == 9) = false := by simp; omega
        by_cases hz : at8 l (a + k) = 0
        · have hbz : (at8 l (a + k) == 0) = true := by simp [hz]
          by_cases hk0 : 0 < k
          · have hk0' : (0 : Int) < k := by omega
            have F := Lib.hid (g_fail hal.out (by decide) (show getF (l.drop a) 0 0 = (0, 0, 11) by rw [← Hg.out, hst.out, if_pos (.inr ⟨hz, by omega⟩)]))
            clear h9 hz
            go_wp2
            go_ret3
            exact ⟨ret3 F.out.2.1.symm F.out.2.2.symm F.out.1.symm, rfl⟩
          · have hk0' : decide ((0 : Int) < k) = false := by simp; omega
            have hv := or_step acc k (at8 l (a + k)) h0 h1 Hacc.out hk9 (by omega)
            have F := Lib.hid (g_done hal.out (show getF (l.drop a) 0 0 = (acc + (at8 l (a + k)).toNat * 128 ^ k, k + 1, 0) by rw [← Hg.out, hst.out, if_neg (by omega), if_pos (by omega)]))
            rw [show (at8 l (a + k)).toNat % 128 = (at8 l (a + k)).toNat by omega] at hv
            have Hv := Lib.hid hv
            have hlt8 : at8 l (a + k) < 128 := by omega
            clear hv hz h9
            go_wp2
            go_ret3
            exact ⟨ret3 (by rw [Hv.out]; exact F.out.2.1.symm) (by rw [F.out.2.2]; omega) F.out.1.symm, rfl⟩
        · have hbz : (at8 l (a + k) == 0) = false := by simp [hz]
          by_cases hs : at8 l (a + k) < 128
          · have hv := or_step acc k (at8 l (a + k)) h0 h1 Hacc.out hk9 (by omega)
            have F := Lib.hid (g_done hal.out (show getF (l.drop a) 0 0 = (acc + (at8 l (a + k)).toNat * 128 ^ k, k + 1, 0) by rw [← Hg.out, hst.out, if_neg (by omega), if_pos (by omega)]))
            rw [show (at8 l (a + k)).toNat % 128 = (at8 l (a + k)).toNat by omega] at hv
            have Hv := Lib.hid hv
            clear hv hz h9
            go_wp2
            go_ret3
            exact ⟨ret3 (by rw [Hv.out]; exact F.out.2.1.symm) (by rw [F.out.2.2]; omega) F.out.1.symm, rfl⟩
          · have hv := or_step acc k (at8 l (a + k)) h0 h1 Hacc.out hk9 (by omega)
            rw [show (at8 l (a + k)).toNat % 128 = (at8 l (a + k)).toNat - 128 by omega] at hv
            have Hv := Lib.hid hv
            have F := Lib.hid (show getF (l.drop (a + (k + 1))) (k + 1) (acc + ((at8 l (a + k)).toNat - 128) * 128 ^ k) = getF (l.drop a) 0 0 by rw [← Hg.out, hst.out, if_neg (by omega), if_neg (by omega)])
            have Hb := Lib.hid (acc_lt (x := (at8 l (a + k)).toNat - 128) Hacc.out (by omega))
            clear hv hz
            go_wp2
            go_round
            case rel => exact ⟨k + 1, _, by omega, by omega, Hb.out, by go_num, by rw [Hv.out], rfl, F.out⟩
            case measure => simp [intOf]; omega
    · have F := Lib.hid (g_fail hal.out (by decide) (show getF (l.drop a) 0 0 = (0, 0, 10) by rw [← Hg.out, getF_end l a k acc (by rw [hln.out]; omega)]))
      go_wp2
      go_ret3
      exact ⟨ret3 F.out.2.1.symm F.out.2.2.symm F.out.1.symm, rfl⟩

set_option maxRecDepth 100000 in
set_option maxHeartbeats 1600000 in
theorem get_end (A : Option Addr) (n c B : Nat) (l : List UInt8) (w : World) (hr : Rd w B A n l) :
    Calls Try.prog 29 #[.slice A n c, .int .i64 n] w (Got w l n) := by
  have F := Lib.hid (g_fail (l := l) (a := n) (x := 10) (by rw [hr.len]; exact Nat.le_refl _) (by decide) (by rw [List.drop_eq_nil_of_le (by rw [hr.len]; exact Nat.le_refl _)]; rfl))
  go_enter Try.func29, Try.ntmps29
  go_wp2
  go_step3
  go_wp2
  go_step3
  go_wp2
  all_goals
    refine wp_loop_rounds 1 ?_
    rw [rounds_succ]
    go_wp2
    go_ret3
    exact ⟨ret3 F.out.2.1.symm F.out.2.2.symm F.out.1.symm, rfl⟩

set_option maxRecDepth 100000 in
set_option maxHeartbeats 1600000 in
theorem get_any (A : Option Addr) (n c B : Nat) (at_ : Int) (l : List UInt8) (w : World) (hr : Rd w B A n l) (hn : n ≤ 100000000000) (hnc : n ≤ c) :
    Calls Try.prog 29 #[.slice A n c, .int .i64 at_] w (Got w l at_) := by
  by_cases ho : at_ < 0
  · have F := Lib.hid (g_out (l := l) (.inl ho))
    go_enter Try.func29, Try.ntmps29
    go_wp2
    go_step3
    go_wp2
    try rw [Exit.noGoto_ret]
    go_ret3
    exact ⟨ret3 F.out.2.1.symm F.out.2.2.symm F.out.1.symm, rfl⟩
  · by_cases hp : (n : Int) < at_
    · have F := Lib.hid (g_out (l := l) (a := at_) (.inr (by rw [hr.len]; exact hp)))
      go_enter Try.func29, Try.ntmps29
      go_wp2
      go_step3
      go_wp2
      try rw [Exit.noGoto_ret]
      go_ret3
      exact ⟨ret3 F.out.2.1.symm F.out.2.2.symm F.out.1.symm, rfl⟩
    · obtain ⟨a, rfl⟩ := Int.eq_ofNat_of_zero_le (show 0 ≤ at_ by omega)
      by_cases he : a = n
      · subst he
        exact get_end A a c B l w hr
      · exact get_in A n c B a l w hr hn hnc (by omega)

theorem xor_0 (x : Int) (h0 : 0 ≤ x) (h1 : x ≤ 9223372036854775807) : bits .xor .i64 x 0 = x := by
  obtain ⟨y, rfl⟩ := Int.eq_ofNat_of_zero_le h0
  show IntKind.i64.wrap (((BitVec.ofInt 64 (y : Int)) ^^^ (BitVec.ofInt 64 0)).toNat : Int) = _
  rw [show BitVec.ofInt 64 0 = 0#64 from rfl, BitVec.xor_zero, BitVec.ofInt_natCast, BitVec.toNat_ofNat, IntKind.wrap_i64]
  omega
theorem xor_1 (x : Int) (h0 : 0 ≤ x) (h1 : x ≤ 9223372036854775807) : bits .xor .i64 x (-1) = -x - 1 := by
  obtain ⟨y, rfl⟩ := Int.eq_ofNat_of_zero_le h0
  show IntKind.i64.wrap (((BitVec.ofInt 64 (y : Int)) ^^^ (BitVec.ofInt 64 (-1))).toNat : Int) = _
  have e : BitVec.ofInt 64 (-1) = BitVec.allOnes 64 := by decide
  rw [e, BitVec.xor_allOnes, BitVec.toNat_not, BitVec.ofInt_natCast, BitVec.toNat_ofNat, IntKind.wrap_i64]
  omega
/-- What GetInt comes to. -/
def GotInt (w : World) (l : List UInt8) (at_ : Int) (e : Ending) (w' : World) : Prop := e = .returned (.tuple #[.int .i64 (zag (gN l at_)), .int .i64 (gTo l at_), .int .i64 (gE l at_)]) ∧ w = w'

set_option maxRecDepth 100000 in
set_option maxHeartbeats 1600000 in
theorem getInt_any (A : Option Addr) (n c B : Nat) (at_ : Int) (l : List UInt8) (w : World) (hr : Rd w B A n l) (hn : n ≤ 100000000000) (hnc : n ≤ c) :
    Calls Try.prog 50 #[.slice A n c, .int .i64 at_] w (GotInt w l at_) := by
  have h0 := gN_nonneg l at_
  have h1 := gN_lt l at_
  obtain ⟨x, hx⟩ : ∃ x, gN l at_ = x := ⟨_, rfl⟩
  rw [hx] at h0 h1
  have Hx := Lib.hid hx
  clear hx
  have ha := and_one_u64 x h0 (by omega)
  have hw := IntWalk.i64_in (x / 2) (by omega)
  by_cases ho : x % 2 = 1
  · have hz := Lib.hid (show -(x / 2) - 1 = zag x by unfold zag; rw [if_pos ho])
    have hx1 := xor_1 (x / 2) (by omega) (by omega)
    rw [ho] at ha
    go_enter Try.func50, Try.ntmps50
    go_wp2_with fail
    refine (get_any _ _ _ _ _ _ _ hr hn hnc).mono ?_
    rintro e w' ⟨rfl, rfl⟩
    rw [Hx.out]
    go_wp2_with fail
    go_ret3
    exact ⟨ret3 (by rw [Hx.out]; exact hz.out) rfl rfl, rfl⟩
  · have he : x % 2 = 0 := by omega
    have hz := Lib.hid (show x / 2 = zag x by unfold zag; rw [if_neg ho])
    have hx1 := xor_0 (x / 2) (by omega) (by omega)
    rw [he] at ha
    go_enter Try.func50, Try.ntmps50
    go_wp2_with fail
    refine (get_any _ _ _ _ _ _ _ hr hn hnc).mono ?_
    rintro e w' ⟨rfl, rfl⟩
    rw [Hx.out]
    go_wp2_with fail
    go_ret3
    exact ⟨ret3 (by rw [Hx.out]; exact hz.out) rfl rfl, rfl⟩
end Go.Proofs.Ytjneoinacobbaaa
