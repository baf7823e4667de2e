/- Halves of bytes: what the chapter's examples fix. -/
import Derived.Test.YtlmnkepgljbdiaaNibsQ
import Derived.Test.YtlmnkepgljbdiaaLaw
namespace Go.Proofs.Ytlmnkepgljbdiaa
open Go.RowKit


theorem belowA {W w : World} (h : Below W.heap.size W w) (o : Obj) : Below W.heap.size W (w.alloc o) := h.alloc h.size o
theorem below_drewN {B : Nat} {a w : World} (h : Below B a w) (n : Nat) : Below B a (w.drewN n) := ⟨h.os, h.tape, h.output, h.size, h.block⟩

set_option maxHeartbeats 1600000 in
theorem known06_any (w : World) : Calls Try.prog 15 #[] w (RetTrue w) := by
  have p1 := Lib.hid (show packE (List.map b8 [1, 2, 3]) = 0 ∧ packL (List.map b8 [1, 2, 3]) true = [b8 49, b8 35] by decide +kernel)
  have p2 := Lib.hid (show packE (List.map b8 [1, 2]) = 0 ∧ packL (List.map b8 [1, 2]) false = [b8 0, b8 18] by decide +kernel)
  have p3 := Lib.hid (show unpackE (List.map b8 [1]) = 11 by decide +kernel)
  have p4 := Lib.hid (show ofB (List.map b8 [161, 5]) = [b8 10, b8 1, b8 0, b8 5] by decide +kernel)
  have p5 := Lib.hid (show commonB (List.map b8 [1, 2]) (List.map b8 [1, 3]) = 1 by decide +kernel)
  go_enter Try.func15, Try.ntmps15
  go_wp2_with fail
  refine (pack_any _ _ _ _ _ _ (Rd.litH _ _ rfl [1, 2, 3] 3 rfl (by decide) |>.more (by simp)) (by omega) (by omega)).mono ?_
  rintro e w1 ⟨A1, n1, c1, rfl, hown1, hb1⟩
  have B1 := below_new _ hb1
  rw [p1.out.1]
  rw [p1.out.2] at hown1
  go_wp2_with fail
  refine (pack_any _ _ _ _ _ _ (Rd.litH _ _ rfl [1, 2] 2 rfl (by decide) |>.more (by simp)) (by omega) (by omega)).mono ?_
  rintro e w2 ⟨A2, n2, c2, rfl, hown2, hb2⟩
  have B2 := B1.trans ((below_new _ hb2).mono B1.size)
  rw [p2.out.1]
  rw [p2.out.2] at hown2
  have o1' := (hown1.alloc _).below hb2
  clear hown1
  go_wp2_with fail
  refine (unpack_any _ _ _ _ _ (Rd.litH _ _ rfl [1] 1 rfl (by decide) |>.more (by simp)) (by omega) (by omega)).mono ?_
  rintro e w3 ⟨A3, n3, c3, rfl, hown3, hb3⟩
  have B3 := B2.trans ((below_new _ hb3).mono B2.size)
  rw [p3.out]
  have o1 := (o1'.alloc _).below hb3
  have o2' := (hown2.alloc _).below hb3
  clear hown3 o1' hown2
  go_wp2_with fail
  refine (of_any _ _ _ _ _ (Rd.litH _ _ rfl [161, 5] 2 rfl (by decide) |>.more (by simp)) (by omega)).mono ?_
  rintro e w4 ⟨A4, c4, rfl, hown4, hb4⟩
  have B4 := B3.trans ((below_new _ hb4).mono B3.size)
  have o1' := (o1.alloc _).below hb4
  have o2 := (o2'.alloc _).below hb4
  rw [p4.out] at hown4
  clear o1 o2'
  go_wp2_with fail
  refine (same_yes _ _ _ _ _ _ _ _ _ _ _ ((hown4.alloc _).rd) (Rd.litH _ _ rfl [10, 1, 0, 5] 4 rfl (by decide)) rfl).mono ?_
  rintro e w5 ⟨rfl, rfl⟩
  go_wp2_with fail
  refine (same_yes _ _ _ _ _ _ _ _ _ _ _ (((o1'.alloc _).alloc _).rd) (Rd.litH _ _ (World.size_alloc ..) [49, 35] 2 rfl (by decide)) rfl).mono ?_
  rintro e w5 ⟨rfl, rfl⟩
  go_wp2_with fail
  refine (same_yes _ _ _ _ _ _ _ _ _ _ _ ((((o2.alloc _).alloc _).alloc _).rd) (Rd.litH _ _ (by simp) [0, 18] 2 rfl (by decide)) rfl).mono ?_
  rintro e w5 ⟨rfl, rfl⟩
  go_wp2_with fail
  refine (common_any _ _ _ _ _ _ (w4.heap.size + 1 + 1 + 1 + 1 + 1) _ _ _ (((Rd.litH _ _ (by simp) [1, 2] 2 rfl (by decide)).alloc (by simp) _).more (by omega)) (Rd.litH _ _ (by simp) [1, 3] 2 rfl (by decide)) (by omega) (by omega)).mono ?_
  rintro e w5 ⟨rfl, d, rfl⟩
  rw [p5.out]
  clear hown4 o1' o2 hb1 hb2 hb3 hb4
  go_wp2
  go_ret
  exact ⟨rfl, below_drewN (belowA (belowA (belowA (belowA (belowA B4 _) _) _) _) _) _⟩
end Go.Proofs.Ytlmnkepgljbdiaa
