/- The walks of the laws VintNumbers, VintReads. -/
import Derived.Test.YtlmnkepgljbdiaaVintK
namespace Go.Proofs.Ytlmnkepgljbdiaa
open Go.RowKit

set_option maxRecDepth 100000 in
set_option maxHeartbeats 1600000 in
theorem vintNumbers_walk (w : World) (n : Int) (hn : 0 ≤ n ∧ n ≤ 18446744073709551615) (k : Int) (hk : -9223372036854775808 ≤ k ∧ k ≤ 9223372036854775807) {A1 : Option Addr} {n1 c1 : Nat} {l1 : List UInt8} (h1 : Rd w w.heap.size A1 n1 l1) (_k1 : n1 ≤ c1) :
    Calls Try.prog 12 #[.int .u64 n, .int .i64 k, .slice A1 n1 c1] w (RetTrue w) := by
  obtain ⟨N, rfl⟩ := Int.eq_ofNat_of_zero_le hn.1
  by_cases hb : 4000 < n1
  · go_enter Try.func12, Try.ntmps12
    go_wp2_with (go_at_call 27; refine (known01_any _).mono ?_; rintro e w1 ⟨rfl, hb1⟩)
    go_ret
    exact ⟨rfl, hb1⟩
  · have hl1 := Lib.hid h1.len
    have hNl := putN_len10 (n := N) (by omega)
    have hZl := putN_len10 (zig_lt hk.1 hk.2)
    have hN1 : (N : Int) ≤ 18446744073709551615 := hn.2
    obtain ⟨X, hX⟩ : ∃ X, X = l1 ++ putN N ++ putN (zig k) := ⟨_, rfl⟩
    have G1 := Lib.hid (show gE X (n1 : Int) = 0 ∧ gN X (n1 : Int) = N ∧ gTo X (n1 : Int) = ((n1 + (putN N).length : Nat) : Int) by
      have := g_put l1 N (putN (zig k)) (by omega)
      rw [hl1.out, ← List.append_assoc, ← hX] at this; exact this)
    have G2 := Lib.hid (show gE X ((n1 : Int) + ((putN N).length : Int)) = 0 ∧ gN X ((n1 : Int) + ((putN N).length : Int)) = (zig k : Int) ∧ gTo X ((n1 : Int) + ((putN N).length : Int)) = ((n1 + (putN N).length + (putN (zig k)).length : Nat) : Int) by
      have := g_put (l1 ++ putN N) (zig k) [] (zig_lt hk.1 hk.2)
      rw [List.length_append, hl1.out, List.append_nil, ← hX] at this; rw [← Int.natCast_add]; exact this)
    have HX := Lib.hid hX
    clear hX
    have hz := Lib.hid (zag_zig k)
    go_enter Try.func12, Try.ntmps12
    go_wp2_with fail
    refine (put_any _ _ hNl).mono ?_
    rintro e w1 ⟨A3, c3, rfl, o1, b1⟩
    go_wp2_with fail
    refine (putInt_any _ _ hk.1 hk.2).mono ?_
    rintro e w2 ⟨A4, c4, rfl, o2, b2⟩
    have B2 := b1.trans (b2.mono b1.size)
    have o1' := o1.below b2
    clear o1
    go_wp2_with fail
    refine (refPut_any _ _ (by omega)).mono ?_
    rintro e w3 ⟨A5, c5, rfl, o3, b3⟩
    have B3 := B2.trans (b3.mono B2.size)
    have o1 := o1'.below b3
    have o2' := o2.below b3
    clear o1' o2
    go_wp2_with fail
    refine (same_yes _ _ _ _ _ _ _ _ _ _ _ o1.rd o3.rd rfl).mono ?_
    rintro e w4 ⟨rfl, rfl⟩
    go_wp2_with fail
    refine (refPutInt_any _ _ hk.1 hk.2).mono ?_
    rintro e w4 ⟨A6, c6, rfl, o4, b4⟩
    have B4 := B3.trans (b4.mono B3.size)
    have o1' := o1.below b4
    have o2 := o2'.below b4
    clear o1 o2' o3
    go_wp2_with fail
    refine (same_yes _ _ _ _ _ _ _ _ _ _ _ o2.rd o4.rd rfl).mono ?_
    rintro e w5 ⟨rfl, rfl⟩
    go_wp2_with fail
    refine (copy_any _ _ _ _ _ (h1.up B4) (by omega)).mono ?_
    rintro e w5 ⟨A7, c7, rfl, o5, b5⟩
    have B5 := B4.trans (b5.mono B4.size)
    have r1 := o1'.rd.below b5
    have r2 := o2.rd
    clear o1' o2 o4
    go_wp2_with (at_builtin; first
      | (refine wpList_app rfl _ _ rfl rfl o5 rfl r1 (by omega) b5.size ?_; intro A8 c8 w6 o6 g6; have b6 := below_own b5 o5 g6)
      | (refine wpList_app rfl _ _ rfl rfl o6 rfl (r2.below b6) (by omega) b6.size ?_; intro A9 c9 w7 o7 g7; have b7 := below_own b6 o6 g7))
    have B7 := B4.trans (b7.mono B4.size)
    have r7 := o7.rd
    rw [← HX.out] at r7
    have k7 := o7.cap_
    clear o5 o6 o7 g6 g7 b5 b6 b7 r1 r2
    refine (get_any _ _ _ _ _ _ _ r7 (by omega) k7).mono ?_
    rintro e w8 ⟨rfl, rfl⟩
    rw [G1.out.1, G1.out.2.1, G1.out.2.2]
    go_wp2_with fail
    refine (getInt_any _ _ _ _ _ _ _ r7 (by omega) k7).mono ?_
    rintro e w8 ⟨rfl, rfl⟩
    rw [G2.out.1, G2.out.2.1, G2.out.2.2, hz.out]
    go_wp2_with fail
    refine (known01_any _).mono ?_
    rintro e w8 ⟨rfl, b8⟩
    go_wp2
    go_ret
    exact ⟨rfl, B7.trans (b8.mono B7.size)⟩

set_option maxRecDepth 100000 in
set_option maxHeartbeats 1600000 in
theorem vintReads_walk (w : World) {A1 : Option Addr} {n1 c1 : Nat} {l1 : List UInt8} (h1 : Rd w w.heap.size A1 n1 l1) (k1 : n1 ≤ c1) (at_ : Int) (_ : -9223372036854775808 ≤ at_ ∧ at_ ≤ 9223372036854775807) :
    Calls Try.prog 13 #[.slice A1 n1 c1, .int .i64 at_] w (RetTrue w) := by
  by_cases hb : 4000 < n1
  · go_enter Try.func13, Try.ntmps13
    go_wp2_with (go_at_call 27; refine (known01_any _).mono ?_; rintro e w1 ⟨rfl, hb1⟩)
    go_ret
    exact ⟨rfl, hb1⟩
  · go_enter Try.func13, Try.ntmps13
    go_wp2_with fail
    refine (get_any _ _ _ _ _ _ _ h1 (by omega) k1).mono ?_
    rintro e w8 ⟨rfl, rfl⟩
    go_wp2_with fail
    refine (refGet_any _ _ _ _ _ _ _ h1 (by omega)).mono ?_
    rintro e w8 ⟨rfl, rfl⟩
    go_wp2_with fail
    refine (getInt_any _ _ _ _ _ _ _ h1 (by omega) k1).mono ?_
    rintro e w8 ⟨rfl, rfl⟩
    go_wp2_with fail
    refine (refGetInt_any _ _ _ _ _ _ _ h1 (by omega)).mono ?_
    rintro e w8 ⟨rfl, rfl⟩
    go_wp2_with fail
    refine (getBytes_any _ _ _ _ _ _ h1 (by omega) k1).mono ?_
    rintro e w1 ⟨A3, n3, c3, rfl, o1, b1⟩
    go_wp2_with fail
    refine (refGetBytes_any _ _ _ _ _ _ (h1.up b1) (by omega) k1).mono ?_
    rintro e w2 ⟨A4, n4, c4, rfl, o2, b2⟩
    have B2 := b1.trans (b2.mono b1.size)
    have r1 := (o1.below b2).rd
    have r2 := o2.rd
    clear o1 o2 b1 b2
    go_wp2_with fail
    refine (same_yes _ _ _ _ _ _ _ _ _ _ _ r1 r2 rfl).mono ?_
    rintro e w5 ⟨rfl, rfl⟩
    go_wp2_with fail
    refine (known01_any _).mono ?_
    rintro e w8 ⟨rfl, b8⟩
    go_wp2
    go_ret
    exact ⟨rfl, B2.trans (b8.mono B2.size)⟩
end Go.Proofs.Ytlmnkepgljbdiaa
