/- Halves of bytes: the walks. -/
import Derived.Test.YtlmnkepgljbdiaaNibsV
import Derived.StillTailTactics
import Derived.Deep.RegionHeld3
import Derived.Deep.RegionLaw
namespace Go.Proofs.Ytlmnkepgljbdiaa
open Go.RowKit

set_option maxHeartbeats 400000 in
theorem of_any (A : Option Addr) (n c : Nat) (l : List UInt8) (w : World) (hr : Rd w w.heap.size A n l) (hn : n ≤ 100000000000) :
    Calls Try.prog 22 #[.slice A n c] w fun e w' => ∃ A' c', e = .returned (.slice A' (2 * n) c') ∧ Own w' w.heap.size A' (2 * n) c' (ofB l) ∧ Below w.heap.size w w' := by
  go_enter Try.func22, Try.ntmps22
  go_wp2
  go_loopw [3, 8] (fun v i wr => ∃ (k : Nat) (A' : Option Addr) (c' : Nat), k ≤ n ∧ i = .int .i64 k ∧ v = .slice A' (2 * k) c' ∧ Own wr w.heap.size A' (2 * k) c' (ofB (l.take k)) ∧ Below w.heap.size w wr) (fun _ i _ => n - (intOf i).toNat)
  case atStart => exact ⟨0, none, 0, Nat.zero_le _, rfl, rfl, Own.nil_ _ _, Below.refl _ _⟩
  case round =>
    obtain ⟨k, A', c', hk, rfl, rfl, hown, hb⟩ := hrel
    have hln := hr.len
    by_cases hlt : k < n
    · obtain ⟨bb, off, rfl, hc⟩ := (hr.below hb).at_ hlt
      have h0 := at8_lo l k
      have h1 := at8_hi l k
      clear hln
      go_wp2_with (at_builtin; refine wpList_app rfl _ _ rfl rfl (hown.alloc _) rfl (Rd.lit2 _ _ _ (by omega) (by omega)) (by omega) (by simp; have := hb.size; omega) ?_; intro A2 c2 w2 hown2 hg2)
      have hb2 := (hb.alloc hb.size (.cells #[.int .u8 (at8 l k / 16), .int .u8 (at8 l k % 16)] 5)).grown hg2 (by simp; have := hb.size; omega) hown.lo
      go_roundw
      case rel => exact ⟨k + 1, A2, c2, by omega, by go_num, rfl, by rw [ofB_take l k (by rw [hr.len]; exact hlt)]; exact hown2, hb2⟩
      case measure => simp [intOf]; omega
    · have hk : k = n := by omega
      subst hk
      go_wp2
      go_ret
      exact ⟨A', c', rfl, by rw [List.take_of_length_le (by omega)] at hown; exact hown, hb⟩
set_option maxHeartbeats 400000 in
theorem joined_any (A : Option Addr) (n c : Nat) (l : List UInt8) (w : World) (hr : Rd w w.heap.size A n l) (hn : n ≤ 100000000000) (hh : halvesB l = true) :
    Calls Try.prog 50 #[.slice A n c] w fun e w' => ∃ A' c', e = .returned (.slice A' (n / 2) c') ∧ Own w' w.heap.size A' (n / 2) c' (joinB l) ∧ Below w.heap.size w w' := by
  have Hh := Lib.hid hh
  clear hh
  go_enter Try.func50, Try.ntmps50
  go_wp2
  go_loopw [3, 4] (fun v i wr => ∃ (k : Nat) (A' : Option Addr) (c' : Nat), 2 * k ≤ n ∧ i = .int .i64 ((2 * k + 1 : Nat) : Int) ∧ v = .slice A' k c' ∧ Own wr w.heap.size A' k c' (joinB (l.take (2 * k))) ∧ Below w.heap.size w wr) (fun _ i _ => n + 1 - (intOf i).toNat)
  case atStart => exact ⟨0, none, 0, by omega, rfl, rfl, Own.nil_ _ _, Below.refl _ _⟩
  case round =>
    obtain ⟨k, A', c', hk, rfl, rfl, hown, hb⟩ := hrel
    have hln := hr.len
    by_cases hlt : 2 * k + 1 < n
    · obtain ⟨bb, off, rfl, hc⟩ := (hr.below hb).at_ (k := 2 * k) (by omega)
      obtain ⟨bb', off', e, hc'⟩ := (hr.below hb).at_ (k := 2 * k + 1) (by omega)
      injection e with e
      injection e with e1 e2
      subst e1 e2
      have h0 := at8_lo l (2 * k)
      have h1 := at8_lo l (2 * k + 1)
      have h2 := halvesB_at l Hh.out (2 * k)
      have h3 := halvesB_at l Hh.out (2 * k + 1)
      have hkl : 2 * k + 1 < l.length := by omega
      clear hln
      have hor := or_halves (at8 l (2 * k)) (at8 l (2 * k + 1)) h0 h2 h1 h3
      have hown' := Lib.hid hown
      have hw1 : IntKind.i64.wrap (2 * (k : Int)) = 2 * (k : Int) := IntWalk.i64_in _ (by omega)
      have hw2 : (2 * (k : Int)).toNat = 2 * k := by omega
      have hw4 : (2 * (k : Int) + 1).toNat = 2 * k + 1 := by omega
      have hw5 : (0 : Int) ≤ 2 * (k : Int) := by omega
      have hw6 : (2 * (k : Int)) < (n : Int) := by omega
      have hw7 : (0 : Int) ≤ 2 * (k : Int) + 1 := by omega
      have hw8 : (2 * (k : Int) + 1) < (n : Int) := by omega
      have hw3 : IntKind.u8.wrap (at8 l (2 * k) * 16) = at8 l (2 * k) * 16 := IntWalk.u8_in _ (by omega)
      go_wp2
      go_region_law (refine step_app rfl _ _ rfl rfl ((hown'.out).drew.alloc _) rfl (Rd.lit1 _ _ (by omega)) (by omega) (by simp; have := hb.size; omega) ?_; intro A2 c2 w2 hown2 hg2)
      all_goals
        have hb2 := ((hb.alloc hb.size (.cells #[.int .u8 (at8 l (2 * k) * 16 + at8 l (2 * k + 1))] 5)).drew).grown hg2 (by simp; have := hb.size; omega) hown.lo
        have hj := Lib.hid (joinB_take8 l k hkl Hh.out)
        clear hown hb hor hw1 hw2 hw3 hw4 hc hc' hown' hg2
        go_wp2
        go_roundw
        case rel => exact ⟨k + 1, A2, c2, by omega, by go_num, rfl, by rw [hj.out]; exact hown2, hb2⟩
        case measure => simp [intOf]; omega
    · have hkn : k = n / 2 := by omega
      have hend := Lib.hid (joinB_all l k (by omega) (by omega))
      have Hk := Lib.hid hkn
      clear hln hkn
      go_wp2
      go_ret
      exact ⟨A', c', ret_slice Hk.out, by rw [hend.out] at hown; rw [← Hk.out]; exact hown, hb⟩

end Go.Proofs.Ytlmnkepgljbdiaa
