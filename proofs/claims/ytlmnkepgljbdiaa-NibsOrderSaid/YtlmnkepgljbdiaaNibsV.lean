/- Halves of bytes: the walks of what only reads. -/
import Derived.Test.YtlmnkepgljbdiaaNibsL
import Derived.Deep.QuietTactic
import Derived.BigQuiet
namespace Go.Proofs.Ytlmnkepgljbdiaa
open Go.RowKit

set_option maxHeartbeats 400000 in
theorem halves_any (A : Option Addr) (n c B : Nat) (l : List UInt8) (w : World) (hr : Rd w B A n l) (hn : n ≤ 100000000000) :
    Calls Try.prog 49 #[.slice A n c] w fun e w' => e = .returned (.bool (halvesB l)) ∧ w = w' := by
  go_enter Try.func49, Try.ntmps49
  go_wp2
  go_loop [7] (fun i => ∃ (k : Nat), k ≤ n ∧ i = .int .i64 k ∧ halvesB (l.take k) = true) (fun i => n - (intOf i).toNat)
  case atStart => exact ⟨0, Nat.zero_le _, rfl, rfl⟩
  case round =>
    obtain ⟨k, hk, rfl, ht⟩ := hrel
    have Ht := Lib.hid ht
    clear ht
    have hln := hr.len
    by_cases hlt : k < n
    · obtain ⟨bb, off, rfl, hc⟩ := hr.at_ hlt
      have h0 := at8_lo l k
      have h1 := at8_hi l k
      have hkl : k < l.length := by omega
      clear hln
      by_cases h15 : at8 l k ≤ 15
      · go_wp2
        go_round
        case rel => exact ⟨k + 1, by omega, by go_num, halvesB_take l k hkl Ht.out h15⟩
        case measure => simp [intOf]; omega
      · go_wp2
        go_ret
        exact ⟨ret_bool (halvesB_no l k hkl (by omega)).symm, rfl⟩
    · have hkn : l.length ≤ k := by omega
      clear hln
      go_wp2
      go_ret
      exact ⟨ret_bool (by have := Ht.out; rw [List.take_of_length_le hkn] at this; exact this.symm), rfl⟩

set_option maxHeartbeats 400000 in
theorem right_any (A : Option Addr) (n c B : Nat) (l : List UInt8) (w : World) (hr : Rd w B A n l) (hn : n ≤ 100000000000) :
    Calls Try.prog 51 #[.slice A n c] w fun e w' => e = .returned (.bool (halvesB l)) ∧ w = w' := by
  go_enter Try.func51, Try.ntmps51
  go_wp2
  go_loop [3] (fun i => ∃ (k : Nat), k ≤ n ∧ i = .int .i64 k ∧ halvesB (l.take k) = true) (fun i => n - (intOf i).toNat)
  case atStart => exact ⟨0, Nat.zero_le _, rfl, rfl⟩
  case round =>
    obtain ⟨k, hk, rfl, ht⟩ := hrel
    have Ht := Lib.hid ht
    clear ht
    have hln := hr.len
    by_cases hlt : k < n
    · obtain ⟨bb, off, rfl, hc⟩ := hr.at_ hlt
      have h0 := at8_lo l k
      have h1 := at8_hi l k
      have hkl : k < l.length := by omega
      clear hln
      by_cases h15 : at8 l k ≤ 15
      · go_wp2
        go_round
        case rel => exact ⟨k + 1, by omega, by go_num, halvesB_take l k hkl Ht.out h15⟩
        case measure => simp [intOf]; omega
      · go_wp2
        go_ret
        exact ⟨ret_bool (halvesB_no l k hkl (by omega)).symm, rfl⟩
    · have hkn : l.length ≤ k := by omega
      clear hln
      go_wp2
      go_ret
      exact ⟨ret_bool (by have := Ht.out; rw [List.take_of_length_le hkn] at this; exact this.symm), rfl⟩

set_option maxHeartbeats 800000 in
theorem common_any (A1 A2 : Option Addr) (n m c1 c2 B : Nat) (a b : List UInt8) (w : World) (h1 : Rd w B A1 n a) (h2 : Rd w B A2 m b) (hn : n ≤ 100000000000) (hm : m ≤ 100000000000) :
    Calls Try.prog 23 #[.slice A1 n c1, .slice A2 m c2] w fun e w' => e = .returned (.int .i64 (commonB a b)) ∧ ∃ d, w' = w.drewN d := by
  by_cases hmn : m < n
  all_goals
    go_enter Try.func23, Try.ntmps23
    go_wp2
    go_loopw [11] (fun i wr => ∃ (k d : Nat), k ≤ n ∧ k ≤ m ∧ i = .int .i64 k ∧ a.take k = b.take k ∧ wr = w.drewN d) (fun i _ => n - (intOf i).toNat)
    case atStart => exact ⟨0, 0, Nat.zero_le _, Nat.zero_le _, rfl, rfl, rfl⟩
    case round =>
      obtain ⟨k, d, hkn, hkm, rfl, ht, rfl⟩ := hrel
      have Ht := Lib.hid ht
      clear ht
      have hla := h1.len
      have hlb := h2.len
      by_cases hlt : k < n ∧ k < m
      · obtain ⟨hlt1, hlt2⟩ := hlt
        obtain ⟨bb1, off1, rfl, hc1⟩ := h1.at_ hlt1
        obtain ⟨bb2, off2, rfl, hc2⟩ := h2.at_ hlt2
        have hka : k < a.length := by omega
        have hkb : k < b.length := by omega
        clear hla hlb
        by_cases heq : at8 a k = at8 b k
        · have hq : (at8 a k != at8 b k) = false := by simp [heq]
          have He := Lib.hid heq
          clear heq
          go_wp2
          go_quiet (fail)
          go_wp2
          go_roundw
          case rel => exact ⟨k + 1, _, by omega, by omega, by go_num, take_both a b k Ht.out hka hkb ((at8_eq_iff a b k).1 He.out), rfl⟩
          case measure => simp [intOf]; omega
        · have hq : (at8 a k != at8 b k) = true := by simp [heq]
          have He := Lib.hid heq
          clear heq
          go_wp2
          go_quiet (fail)
          go_wp2
          go_ret
          exact ⟨ret_int (by rw [commonB_at a b k Ht.out hka hkb (fun e => He.out ((at8_eq_iff a b k).2 e))]), _, World.drewN_drewN ..⟩
      · have hmin : k = min a.length b.length := by omega
        have Hm := Lib.hid hmin
        clear hla hlb hmin
        go_wp2
        go_ret
        exact ⟨ret_int (by rw [commonB_end a b k Ht.out Hm.out]; have := Hm.out; have := h1.len; have := h2.len; omega), _, rfl⟩
end Go.Proofs.Ytlmnkepgljbdiaa
