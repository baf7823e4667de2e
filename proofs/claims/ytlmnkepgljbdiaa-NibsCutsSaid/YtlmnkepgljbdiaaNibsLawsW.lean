/- The walks of the laws NibsBack, NibsOrder, NibsJoin, NibsCuts. -/
import Derived.Test.YtlmnkepgljbdiaaNibsK
import Derived.Test.YtlmnkepgljbdiaaNibsM
namespace Go.Proofs.Ytlmnkepgljbdiaa
open Go.RowKit

theorem cmpB_range (a b : List UInt8) : -1 ≤ cmpB a b ∧ cmpB a b ≤ 1 := by unfold cmpB; dsimp only; split <;> (try split) <;> omega

set_option maxHeartbeats 1600000 in
theorem nibsOrder_walk (w : World) {A1 A2 : Option Addr} {n1 c1 n2 c2 : Nat} {l1 l2 : List UInt8} (h1 : Rd w w.heap.size A1 n1 l1) (_k1 : n1 ≤ c1) (h2 : Rd w w.heap.size A2 n2 l2) (_k2 : n2 ≤ c2) :
    Calls Try.prog 5 #[.slice A1 n1 c1, .slice A2 n2 c2] w (RetTrue w) := by
  by_cases hb : 2000 < n2
  · go_enter Try.func5, Try.ntmps5
    go_wp2_with (go_at_call 15; refine (known06_any _).mono ?_; rintro e w1 ⟨rfl, hb1⟩)
    go_ret
    exact ⟨rfl, hb1⟩
  · by_cases hn : 2000 < n1
    · go_enter Try.func5, Try.ntmps5
      go_wp2_with (go_at_call 15; refine (known06_any _).mono ?_; rintro e w1 ⟨rfl, hb1⟩)
      go_ret
      exact ⟨rfl, hb1⟩
    · obtain ⟨k, hk⟩ : ∃ k, commonB l1 l2 = k := ⟨_, rfl⟩
      obtain ⟨m, hm⟩ : ∃ m, commonB (ofB l1) (ofB l2) = m := ⟨_, rfl⟩
      have hkm := commonB_ofB l1 l2
      rw [hk, hm] at hkm
      obtain ⟨hk1, hk2⟩ := hkm
      have hkn : k ≤ n1 := by have := (commonB_le l1 l2).1; rw [hk, h1.len] at this; exact this
      have Hk := Lib.hid hk
      have Hm := Lib.hid hm
      have Hc := Lib.hid (cmpB_ofB l1 l2)
      have Hs := Lib.hid (show commonB (ofB l1) (ofB l1) = 2 * n1 by rw [commonB_self, ofB_length, h1.len])
      clear hk hm
      go_enter Try.func5, Try.ntmps5
      go_wp2_with fail
      refine (of_any _ _ _ _ _ h1 (by omega)).mono ?_
      rintro e w1 ⟨A3, c3, rfl, o1, b1⟩
      go_wp2_with fail
      refine (of_any _ _ _ _ _ (h2.up b1) (by omega)).mono ?_
      rintro e w2 ⟨A4, c4, rfl, o2, b2⟩
      have B2 := b1.trans (b2.mono b1.size)
      have r1 := (o1.below b2).rd
      have r2 := o2.rd
      have s1 := h1.up B2
      have s2 := h2.up B2
      clear o1 o2 h1 h2
      go_wp2_with fail
      refine (common_any _ _ _ _ _ _ _ _ _ _ s1 s2 (by omega) (by omega)).mono ?_
      rintro e w' ⟨rfl, d, rfl⟩
      rw [Hk.out]
      go_wp2_with fail
      refine (common_any _ _ _ _ _ _ _ _ _ _ (r1.drewN d) (r2.drewN d) (by omega) (by omega)).mono ?_
      rintro e w' ⟨rfl, d', rfl⟩
      rw [Hm.out, World.drewN_drewN]
      go_wp2_with fail
      refine (cmp_any _ _ _ _ _ _ _ _ _ _ (r1.drewN _) (r2.drewN _) (by omega) (by omega)).mono ?_
      rintro e w' ⟨rfl, d'', rfl⟩
      rw [Hc.out, World.drewN_drewN]
      go_wp2_with fail
      refine (cmp04_any _ _ _ _ _ _ _ _ _ _ (s1.drewN _) (s2.drewN _) (by omega) (by omega)).mono ?_
      rintro e w' ⟨rfl, d3, rfl⟩
      rw [World.drewN_drewN]
      go_wp2_with fail
      refine (common_any _ _ _ _ _ _ _ _ _ _ (r1.drewN _) (r1.drewN _) (by omega) (by omega)).mono ?_
      rintro e w' ⟨rfl, d4, rfl⟩
      rw [Hs.out, World.drewN_drewN]
      go_wp2_with fail
      refine (known06_any _).mono ?_
      rintro e w5 ⟨rfl, b5⟩
      have B5 := (below_drewN B2 _).trans (b5.mono B2.size)
      go_wp2
      go_ret
      exact ⟨rfl, B5⟩

set_option maxHeartbeats 1600000 in
theorem nibsJoin_walk (w : World) {A1 A2 : Option Addr} {n1 c1 n2 c2 : Nat} {l1 l2 : List UInt8} (h1 : Rd w w.heap.size A1 n1 l1) (_k1 : n1 ≤ c1) (h2 : Rd w w.heap.size A2 n2 l2) (_k2 : n2 ≤ c2) (leaf : Bool) :
    Calls Try.prog 6 #[.slice A1 n1 c1, .slice A2 n2 c2, .bool leaf] w (RetTrue w) := by
  by_cases hb : 2000 < n1
  · go_enter Try.func6, Try.ntmps6
    go_wp2_with (go_at_call 15; refine (known06_any _).mono ?_; rintro e w1 ⟨rfl, hb1⟩)
    go_ret
    exact ⟨rfl, hb1⟩
  · by_cases hn : 2000 < n2
    · go_enter Try.func6, Try.ntmps6
      go_wp2_with (go_at_call 15; refine (known06_any _).mono ?_; rintro e w1 ⟨rfl, hb1⟩)
      go_ret
      exact ⟨rfl, hb1⟩
    · have q1 : halvesB (ofB l1) = true := halvesB_ofB l1
      have q2 : halvesB (ofB l1 ++ ofB l2) = true := by rw [← ofB_append]; exact halvesB_ofB _
      have P1 := Lib.hid (packE_ok q1)
      have P2 := Lib.hid (packE_ok q2)
      have L1 := Lib.hid (unpack_pack (ofB l1) leaf q1).2.2.2
      have L2 := Lib.hid (unpack_pack (ofB l1 ++ ofB l2) leaf q2).2.2.2
      have N1 := Lib.hid h1.len
      have N2 := Lib.hid h2.len
      have Hc := Lib.hid (show commonB (ofB l1) (ofB l1 ++ ofB l2) = 2 * n1 by rw [commonB_append, ofB_length, h1.len])
      have hx := cmpB_append (ofB l1) (ofB l2)
      clear q1 q2
      go_enter Try.func6, Try.ntmps6
      go_wp2_with fail
      refine (copy_any _ _ _ _ _ h1 (by omega)).mono ?_
      rintro e w1 ⟨A3, c3, rfl, o1, b1⟩
      go_wp2_with (at_builtin; refine wpList_app rfl _ _ rfl rfl o1 rfl (h2.up b1) (by omega) b1.size ?_; intro A4 c4 w2 o2 g2)
      have B2 := below_own b1 o1 g2
      refine (of_any _ _ _ _ _ (h1.up B2) (by omega)).mono ?_
      rintro e w3 ⟨A5, c5, rfl, o3, b3⟩
      have B3 := B2.trans (b3.mono B2.size)
      have ra := o2.rd.up b3
      have rx := o3.rd
      have k5 := o3.cap_
      clear o1 o2 o3
      go_wp2_with fail
      refine (copy_any _ _ _ _ _ rx (by omega)).mono ?_
      rintro e w4 ⟨A6, c6, rfl, o4, b4⟩
      have B4 := B3.trans (b4.mono B3.size)
      go_wp2_with fail
      refine (of_any _ _ _ _ _ (h2.up B4) (by omega)).mono ?_
      rintro e w5 ⟨A7, c7, rfl, o5, b5⟩
      have B5 := B4.trans (b5.mono B4.size)
      have b35 := b4.trans (b5.mono b4.size)
      have o4' := o4.below b5
      clear o4
      go_wp2_with (at_builtin; refine wpList_app rfl _ _ rfl rfl o4' rfl o5.rd (by omega) (Nat.le_trans b4.size b5.size) ?_; intro A8 c8 w6 o6 g6)
      have b36 := below_own b35 o4' g6
      have B6 := B3.trans (b36.mono B3.size)
      have ra6 := ra.up b36
      have rx6 := rx.up b36
      have ry6 := o6.rd
      have k8 := o6.cap_
      clear o4' o5 o6 ra rx g6 g2
      refine (pack_any _ _ _ _ _ _ rx6 (by omega) k5).mono ?_
      rintro e w7 ⟨A9, n9, c9, rfl, o9, b7⟩
      have B7 := B6.trans (b7.mono B6.size)
      have e9 : n9 = n1 + 1 := by have := o9.len; rw [L1.out, ofB_length, N1.out] at this; omega
      subst e9
      rw [P1.out]
      have ra7 := ra6.up b7
      have rx7 := rx6.up b7
      have ry7 := ry6.up b7
      clear o9 ra6 rx6 ry6
      go_wp2_with fail
      refine (pack_any _ _ _ _ _ _ ry7 (by omega) k8).mono ?_
      rintro e w8 ⟨A10, n10, c10, rfl, o10, b8⟩
      have B8 := B7.trans (b8.mono B7.size)
      have e10 : n10 = n1 + n2 + 1 := by have := o10.len; rw [L2.out, List.length_append, ofB_length, ofB_length, N1.out, N2.out] at this; omega
      subst e10
      rw [P2.out]
      have ra8 := ra7.up b8
      have rx8 := rx7.up b8
      have ry8 := ry7.up b8
      clear o10 ra7 rx7 ry7
      go_wp2_with fail
      refine (of_any _ _ _ _ _ ra8 (by omega)).mono ?_
      rintro e w9 ⟨A11, c11, rfl, o11, b9⟩
      have B9 := B8.trans (b9.mono B8.size)
      have rx9 := rx8.up b9
      have ry9 := ry8.up b9
      clear ra8 rx8 ry8
      go_wp2_with fail
      refine (same_yes _ _ _ _ _ _ _ _ _ _ _ o11.rd ry9 (ofB_append _ _)).mono ?_
      rintro e w10 ⟨rfl, rfl⟩
      clear o11
      go_wp2_with fail
      refine (common_any _ _ _ _ _ _ _ _ _ _ rx9 ry9 (by omega) (by omega)).mono ?_
      rintro e w10 ⟨rfl, d, rfl⟩
      rw [Hc.out]
      go_wp2_with fail
      refine (cmp_any _ _ _ _ _ _ _ _ _ _ (rx9.drewN _) (ry9.drewN _) (by omega) (by omega)).mono ?_
      rintro e w10 ⟨rfl, d', rfl⟩
      rw [World.drewN_drewN]
      go_wp2_with fail
      refine (known06_any _).mono ?_
      rintro e w10 ⟨rfl, b10⟩
      have B10 := (below_drewN B9 _).trans (b10.mono B9.size)
      go_wp2
      go_ret
      exact ⟨rfl, B10⟩

set_option maxHeartbeats 1600000 in
theorem nibsCuts_walk (w : World) {A1 A2 : Option Addr} {n1 c1 n2 c2 : Nat} {l1 l2 : List UInt8} (h1 : Rd w w.heap.size A1 n1 l1) (_k1 : n1 ≤ c1) (h2 : Rd w w.heap.size A2 n2 l2) (_k2 : n2 ≤ c2) :
    Calls Try.prog 14 #[.slice A1 n1 c1, .slice A2 n2 c2] w (RetTrue w) := by
  by_cases hb : 2000 < n1
  · go_enter Try.func14, Try.ntmps14
    go_wp2_with (go_at_call 15; refine (known06_any _).mono ?_; rintro e w1 ⟨rfl, hb1⟩)
    go_ret
    exact ⟨rfl, hb1⟩
  · by_cases hn : 2000 < n2
    · go_enter Try.func14, Try.ntmps14
      go_wp2_with (go_at_call 15; refine (known06_any _).mono ?_; rintro e w1 ⟨rfl, hb1⟩)
      go_ret
      exact ⟨rfl, hb1⟩
    · obtain ⟨q1, q2⟩ := cmpB_range l1 l2
      have Hc := Lib.hid (cmpB_symm l1 l2)
      go_enter Try.func14, Try.ntmps14
      go_wp2_with fail
      refine (bytes_any _ _ _ _ _ h2 (by omega)).mono ?_
      rintro e w1 ⟨A3, n3, c3, rfl, o1, b1⟩
      go_wp2_with fail
      refine (refBytes_any _ _ _ _ _ (h2.up b1) (by omega)).mono ?_
      rintro e w2 ⟨A4, n4, c4, rfl, o2, b2⟩
      have B2 := b1.trans (b2.mono b1.size)
      have r1 := o1.rd.up b2
      have r2 := o2.rd
      clear o1 o2
      go_wp2_with fail
      refine (of_any _ _ _ _ _ (h1.up B2) (by omega)).mono ?_
      rintro e w3 ⟨A5, c5, rfl, o3, b3⟩
      have B3 := B2.trans (b3.mono B2.size)
      have r1' := r1.up b3
      have r2' := r2.up b3
      have r3 := o3.rd
      clear r1 r2 o3
      go_wp2_with fail
      refine (refOf_any _ _ _ _ _ (h1.up B3) (by omega)).mono ?_
      rintro e w4 ⟨rfl, o4, b4⟩
      have B4 := B3.trans (b4.mono B3.size)
      have r1 := r1'.up b4
      have r2 := r2'.up b4
      have r3' := r3.up b4
      have r4 := o4.rd
      have s1 := h1.up B4
      have s2 := h2.up B4
      clear r1' r2' r3 o4 h1 h2
      go_wp2_with fail
      refine (same_yes _ _ _ _ _ _ _ _ _ _ _ r3' r4 rfl).mono ?_
      rintro e w5 ⟨rfl, rfl⟩
      go_wp2_with fail
      refine (same_yes _ _ _ _ _ _ _ _ _ _ _ r1 r2 rfl).mono ?_
      rintro e w5 ⟨rfl, rfl⟩
      clear r1 r2 r3' r4
      go_wp2_with fail
      refine (common_any _ _ _ _ _ _ _ _ _ _ s1 s2 (by omega) (by omega)).mono ?_
      rintro e w5 ⟨rfl, d, rfl⟩
      go_wp2_with fail
      refine (refCommon_any _ _ _ _ _ _ _ _ _ _ (s1.drewN _) (s2.drewN _) (by omega) (by omega)).mono ?_
      rintro e w5 ⟨rfl, d2, rfl⟩
      rw [World.drewN_drewN]
      go_wp2_with fail
      refine (cmp_any _ _ _ _ _ _ _ _ _ _ (s1.drewN _) (s2.drewN _) (by omega) (by omega)).mono ?_
      rintro e w5 ⟨rfl, d3, rfl⟩
      rw [World.drewN_drewN]
      go_wp2_with fail
      refine (refCmp_any _ _ _ _ _ _ _ _ _ _ (s1.drewN _) (s2.drewN _) (by omega) (by omega)).mono ?_
      rintro e w5 ⟨rfl, d4, rfl⟩
      rw [World.drewN_drewN]
      go_wp2_with fail
      refine (cmp_any _ _ _ _ _ _ _ _ _ _ (s2.drewN _) (s1.drewN _) (by omega) (by omega)).mono ?_
      rintro e w5 ⟨rfl, d5, rfl⟩
      rw [World.drewN_drewN, Hc.out]
      go_wp2_with fail
      refine (cmp_any _ _ _ _ _ _ _ _ _ _ (s1.drewN _) (s2.drewN _) (by omega) (by omega)).mono ?_
      rintro e w5 ⟨rfl, d6, rfl⟩
      rw [World.drewN_drewN]
      go_wp2_with fail
      refine (known06_any _).mono ?_
      rintro e w10 ⟨rfl, b10⟩
      have B10 := (below_drewN B4 _).trans (b10.mono B4.size)
      go_wp2
      go_ret
      exact ⟨rfl, B10⟩
end Go.Proofs.Ytlmnkepgljbdiaa
