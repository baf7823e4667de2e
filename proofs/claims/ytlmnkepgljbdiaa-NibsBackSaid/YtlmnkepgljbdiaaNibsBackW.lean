/- The walk of the law NibsBack. -/
import Derived.Test.YtlmnkepgljbdiaaNibsLawsW
namespace Go.Proofs.Ytlmnkepgljbdiaa
open Go.RowKit

theorem unpackL_len (b : List UInt8) : (unpackL b).length ≤ 2 * b.length := by
  unfold unpackL
  split
  · simp
  · split
    · rw [List.length_append, ofB_length, List.length_drop]
      split <;> simp <;> omega
    · simp
set_option maxHeartbeats 1600000 in
/-- The second half: bytes that are unpacked are packed as they were. -/
theorem nibsBack_walk (w : World) {A1 A2 : Option Addr} {n1 c1 n2 c2 : Nat} {l1 l2 : List UInt8} (h1 : Rd w w.heap.size A1 n1 l1) (k1 : n1 ≤ c1) (leaf : Bool) (h2 : Rd w w.heap.size A2 n2 l2) (k2 : n2 ≤ c2) :
    Calls Try.prog 4 #[.slice A1 n1 c1, .bool leaf, .slice A2 n2 c2] w (RetTrue w) := by
  by_cases hb : 2000 < n2
  · go_enter Try.func4, Try.ntmps4
    go_wp2_with (go_at_call 15; refine (known06_any _).mono ?_; rintro e w1 ⟨rfl, hb1⟩)
    go_ret
    exact ⟨rfl, hb1⟩
  · by_cases hn : 2000 < n1
    · go_enter Try.func4, Try.ntmps4
      go_wp2_with (go_at_call 15; refine (known06_any _).mono ?_; rintro e w1 ⟨rfl, hb1⟩)
      go_ret
      exact ⟨rfl, hb1⟩
    · have Q := Lib.hid (bytes_ofB l2)
      have N1 := Lib.hid h1.len
      have N2 := Lib.hid h2.len
      go_enter Try.func4, Try.ntmps4
      go_wp2_with fail
      refine (of_any _ _ _ _ _ h2 (by omega)).mono ?_
      rintro e w1 ⟨A3, c3, rfl, o1, b1⟩
      go_wp2_with fail
      refine (bytes_any _ _ _ _ _ o1.rd (by omega)).mono ?_
      rintro e w2 ⟨A4, n4, c4, rfl, o2, b2⟩
      have B2 := b1.trans (b2.mono b1.size)
      rw [Q.out.1]
      rw [Q.out.2] at o2
      go_wp2_with fail
      refine (same_yes _ _ _ _ _ _ _ _ _ _ _ o2.rd (h2.up B2) rfl).mono ?_
      rintro e w3 ⟨rfl, rfl⟩
      clear o1 o2
      go_wp2_with fail
      refine (pack_any _ _ _ _ _ _ (h1.up B2) (by omega) k1).mono ?_
      rintro e w3 ⟨A5, n5, c5, rfl, o5, b3⟩
      have B3 := B2.trans (b3.mono B2.size)
      by_cases hh : halvesB l1 = true
      · obtain ⟨u1, u2, u3, u4⟩ := unpack_pack l1 leaf hh
        have P := Lib.hid (packE_ok hh)
        have U := Lib.hid (show unpackE (packL l1 leaf) = 0 ∧ unpackB (packL l1 leaf) = leaf ∧ unpackL (packL l1 leaf) = l1 from ⟨u1, u2, u3⟩)
        have e5 : n5 = n1 / 2 + 1 := by have := o5.len; rw [u4, N1.out] at this; omega
        subst e5
        clear u1 u2 u3 u4 hh
        rw [P.out]
        go_wp2_with fail
        refine (unpack_any _ _ _ _ _ o5.rd (by omega) o5.cap_).mono ?_
        rintro e w4 ⟨A6, n6, c6, rfl, o6, b4⟩
        have B4 := B3.trans (b4.mono B3.size)
        rw [U.out.1, U.out.2.1]
        rw [U.out.2.2] at o6
        clear o5
        have hl : (leaf != leaf) = false := by simp
        go_wp2_with fail
        refine (same_yes _ _ _ _ _ _ _ _ _ _ _ o6.rd (h1.up B4) rfl).mono ?_
        rintro e w5 ⟨rfl, rfl⟩
        clear o6 hl
        go_wp2_with fail
        refine (unpack_any _ _ _ _ _ (h2.up B4) (by omega) k2).mono ?_
        rintro e w5 ⟨A7, n7, c7, rfl, o7, b5⟩
        have B5 := B4.trans (b5.mono B4.size)
        have e7 : n7 ≤ 2 * n2 := by have := unpackL_len l2; rw [o7.len, N2.out] at this; exact this
        by_cases hu : unpackE l2 = 0
        · have V := Lib.hid (pack_unpack l2 hu)
          rw [hu]
          clear hu
          go_wp2_with fail
          refine (pack_any _ _ _ _ _ _ o7.rd (by omega) o7.cap_).mono ?_
          rintro e w6 ⟨A8, n8, c8, rfl, o8, b6⟩
          have B6 := B5.trans (b6.mono B5.size)
          rw [V.out.1]
          rw [V.out.2] at o8
          clear o7
          go_wp2_with fail
          refine (same_yes _ _ _ _ _ _ _ _ _ _ _ o8.rd (h2.up B6) rfl).mono ?_
          rintro e w7 ⟨rfl, rfl⟩
          clear o8
          go_wp2_with fail
          refine (known06_any _).mono ?_
          rintro e w7 ⟨rfl, b7⟩
          have B7 := B6.trans (b7.mono B6.size)
          go_wp2
          go_ret
          exact ⟨rfl, B7⟩
        · have V := unpack_fail l2 hu
          have e7' : n7 = 0 := by have := o7.len; rw [V.1] at this; simpa using this.symm
          subst e7'
          rw [V.2]
          have hne : (unpackE l2 != 0) = true := by simp [hu]
          clear V hu o7 e7
          go_wp2_with fail
          refine (known06_any _).mono ?_
          rintro e w7 ⟨rfl, b7⟩
          have B7 := B5.trans (b7.mono B5.size)
          go_wp2
          go_ret
          exact ⟨rfl, B7⟩
      · have P := Lib.hid (packE_no (by simpa using hh : halvesB l1 = false) leaf)
        have hne : (packE l1 == 0) = false := by rw [P.out.1]; rfl
        clear o5 hh
        go_wp2_with fail
        refine (unpack_any _ _ _ _ _ (h2.up B3) (by omega) k2).mono ?_
        rintro e w5 ⟨A7, n7, c7, rfl, o7, b5⟩
        have B5 := B3.trans (b5.mono B3.size)
        have e7 : n7 ≤ 2 * n2 := by have := unpackL_len l2; rw [o7.len, N2.out] at this; exact this
        by_cases hu : unpackE l2 = 0
        · have V := Lib.hid (pack_unpack l2 hu)
          rw [hu]
          clear hu
          go_wp2_with fail
          refine (pack_any _ _ _ _ _ _ o7.rd (by omega) o7.cap_).mono ?_
          rintro e w6 ⟨A8, n8, c8, rfl, o8, b6⟩
          have B6 := B5.trans (b6.mono B5.size)
          rw [V.out.1]
          rw [V.out.2] at o8
          clear o7
          go_wp2_with fail
          refine (same_yes _ _ _ _ _ _ _ _ _ _ _ o8.rd (h2.up B6) rfl).mono ?_
          rintro e w7 ⟨rfl, rfl⟩
          clear o8
          go_wp2_with fail
          refine (known06_any _).mono ?_
          rintro e w7 ⟨rfl, b7⟩
          have B7 := B6.trans (b7.mono B6.size)
          go_wp2
          go_ret
          exact ⟨rfl, B7⟩
        · have V := unpack_fail l2 hu
          have e7' : n7 = 0 := by have := o7.len; rw [V.1] at this; simpa using this.symm
          subst e7'
          rw [V.2]
          have hne : (unpackE l2 != 0) = true := by simp [hu]
          clear V hu o7 e7
          go_wp2_with fail
          refine (known06_any _).mono ?_
          rintro e w7 ⟨rfl, b7⟩
          have B7 := B5.trans (b7.mono B5.size)
          go_wp2
          go_ret
          exact ⟨rfl, B7⟩
end Go.Proofs.Ytlmnkepgljbdiaa
