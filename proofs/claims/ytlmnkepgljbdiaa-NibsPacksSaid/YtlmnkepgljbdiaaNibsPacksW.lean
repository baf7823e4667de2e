/- The walk of the law NibsPacks. -/
import Derived.Test.YtlmnkepgljbdiaaNibsK
namespace Go.Proofs.Ytlmnkepgljbdiaa
open Go.RowKit

set_option maxHeartbeats 1600000 in
theorem nibsPacks_walk (w : World) {A1 A2 : Option Addr} {n1 c1 n2 c2 : Nat} {l1 l2 : List UInt8} (h1 : Rd w w.heap.size A1 n1 l1) (k1 : n1 ≤ c1) (leaf : Bool) (h2 : Rd w w.heap.size A2 n2 l2) (k2 : n2 ≤ c2) :
    Calls Try.prog 3 #[.slice A1 n1 c1, .bool leaf, .slice A2 n2 c2] w (RetTrue w) := by
  by_cases hb : 2000 < n2
  · go_enter Try.func3, Try.ntmps3
    go_wp2_with (go_at_call 15; refine (known06_any _).mono ?_; rintro e w1 ⟨rfl, hb1⟩)
    go_ret
    exact ⟨rfl, hb1⟩
  · by_cases hn : 2000 < n1
    · go_enter Try.func3, Try.ntmps3
      go_wp2_with (go_at_call 15; refine (known06_any _).mono ?_; rintro e w1 ⟨rfl, hb1⟩)
      go_ret
      exact ⟨rfl, hb1⟩
    · go_enter Try.func3, Try.ntmps3
      go_wp2_with fail
      refine (pack_any _ _ _ _ _ _ h1 (by omega) k1).mono ?_
      rintro e w1 ⟨A3, n3, c3, rfl, o1, b1⟩
      go_wp2_with fail
      refine (refPack_any _ _ _ _ _ _ (h1.up b1) (by omega)).mono ?_
      rintro e w2 ⟨A4, n4, c4, rfl, o2, b2⟩
      have B2 := b1.trans (b2.mono b1.size)
      have o1' := o1.below b2
      clear o1
      go_wp2_with fail
      refine (unpack_any _ _ _ _ _ (h2.up B2) (by omega) k2).mono ?_
      rintro e w3 ⟨A5, n5, c5, rfl, o3, b3⟩
      have B3 := B2.trans (b3.mono B2.size)
      have o1 := o1'.below b3
      have o2' := o2.below b3
      clear o1' o2
      go_wp2_with fail
      refine (refUnpack_any _ _ _ _ _ (h2.up B3) (by omega)).mono ?_
      rintro e w4 ⟨A6, n6, c6, rfl, o4, b4⟩
      have B4 := B3.trans (b4.mono B3.size)
      have o1' := o1.below b4
      have o2 := o2'.below b4
      have o3' := o3.below b4
      clear o1 o2' o3
      go_wp2_with fail
      refine (same_yes _ _ _ _ _ _ _ _ _ _ _ o1'.rd o2.rd rfl).mono ?_
      rintro e w5 ⟨rfl, rfl⟩
      go_wp2_with fail
      refine (same_yes _ _ _ _ _ _ _ _ _ _ _ o3'.rd o4 rfl).mono ?_
      rintro e w5 ⟨rfl, rfl⟩
      go_wp2_with fail
      refine (known06_any _).mono ?_
      rintro e w5 ⟨rfl, b5⟩
      go_wp2
      go_ret
      exact ⟨rfl, B4.trans (b5.mono B4.size)⟩
end Go.Proofs.Ytlmnkepgljbdiaa
