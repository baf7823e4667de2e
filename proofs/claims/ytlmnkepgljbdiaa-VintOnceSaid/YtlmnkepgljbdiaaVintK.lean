/- Numbers, bytes, lists: what the chapter's examples fix. -/
import Derived.Test.YtlmnkepgljbdiaaVintQ
import Derived.Test.YtlmnkepgljbdiaaLaw
namespace Go.Proofs.Ytlmnkepgljbdiaa
open Go.RowKit

/-- A row of two lists, of which the second is empty. -/
theorem pair_rd (w : World) (H : Nat) (hH : w.heap.size = H) {A : Option Addr} {n c : Nat} {l : List UInt8} (h : Rd w H A n l) (hc : n ≤ c) :
    RdS (w.alloc (.cells #[.slice A n c, .slice none 0 0] 22)) (w.alloc (.cells #[.slice A n c, .slice none 0 0] 22)).heap.size (some ⟨H, 0, none⟩) 2 [l, []] := by
  subst hH
  refine ⟨[.slice A n c, .slice none 0 0], ⟨rfl, fun _ => ⟨_, 0, rfl, by simp, fun j u hu => ?_⟩⟩, rfl, fun k v l' h1 h2 => ?_⟩
  · rw [Nat.zero_add, World.cell?_alloc_at _ _ _ _ rfl]
    simpa using hu
  · rcases k with _ | _ | k
    · simp at h1 h2; subst h1; subst h2; exact ⟨A, n, c, rfl, hc, h.upA _⟩
    · simp at h1 h2; subst h1; subst h2; exact ⟨none, 0, 0, rfl, Nat.le_refl _, Rd.nil_⟩
    · simp at h1
set_option maxRecDepth 100000 in
set_option maxHeartbeats 1600000 in
theorem known01_any (w : World) : Calls Try.prog 27 #[] w (RetTrue w) := by
  have p1 := Lib.hid (show gN (List.map b8 [172, 2, 7]) 0 = 300 ∧ gTo (List.map b8 [172, 2, 7]) 0 = 2 ∧ gE (List.map b8 [172, 2, 7]) 0 = 0 by decide +kernel)
  have p2 := Lib.hid (show gE (List.map b8 [128, 0]) 0 = 11 by decide +kernel)
  have p3 := Lib.hid (show gE (List.map b8 [128]) 0 = 10 by decide +kernel)
  have p4 := Lib.hid (show spE (List.map b8 [2, 1, 97, 0]) = 0 ∧ (spL (List.map b8 [2, 1, 97, 0])).length = 2 by decide +kernel)
  have p5 := Lib.hid (show putN 300 = List.map b8 [172, 2] by decide +kernel)
  have p6 := Lib.hid (show putN (zig (-1)) = List.map b8 [1] by decide +kernel)
  have p7 := Lib.hid (show joinL [List.map b8 [97], []] = List.map b8 [2, 1, 97, 0] by decide +kernel)
  go_enter Try.func27, Try.ntmps27
  go_wp2_with fail
  refine (get_any _ _ _ _ _ _ _ (Rd.litH _ _ rfl [172, 2, 7] 3 rfl (by decide)) (by omega) (by omega)).mono ?_
  rintro e w1 ⟨rfl, rfl⟩
  rw [p1.out.1, p1.out.2.1, p1.out.2.2]
  go_wp2_with fail
  refine (get_any _ _ _ _ _ _ _ (Rd.litH _ _ (by simp) [128, 0] 2 rfl (by decide)) (by omega) (by omega)).mono ?_
  rintro e w1 ⟨rfl, rfl⟩
  rw [p2.out]
  go_wp2_with fail
  refine (get_any _ _ _ _ _ _ _ (Rd.litH _ _ (by simp) [128] 1 rfl (by decide)) (by omega) (by omega)).mono ?_
  rintro e w1 ⟨rfl, rfl⟩
  rw [p3.out]
  go_wp2_with fail
  refine (split_any _ _ _ _ _ (Rd.litH _ _ (by simp) [2, 1, 97, 0] 4 rfl (by decide) |>.more (by simp)) (by omega) (by omega)).mono ?_
  rintro e w1 ⟨A1, n1, c1, rfl, o1, b1⟩
  rw [p4.out.1]
  have e1 := o1.len
  rw [p4.out.2] at e1
  subst e1
  have B1 := below_new _ (below_new _ (below_new _ (below_new _ b1)))
  go_wp2_with fail
  refine (put_any 300 _ (putN_len10 (by omega))).mono ?_
  rintro e w2 ⟨A2, c2, rfl, o2, b2⟩
  rw [p5.out] at o2 ⊢
  have B2 := B1.trans (b2.mono B1.size)
  go_wp2_with fail
  refine (same_yes _ _ _ _ _ _ _ _ _ _ _ ((o2.alloc _).rd) (Rd.litH _ _ rfl [172, 2] 2 rfl (by decide)) rfl).mono ?_
  rintro e w3 ⟨rfl, rfl⟩
  have B3 := belowA B2 (.cells #[.int .u8 172, .int .u8 2] 5)
  clear B1 B2 b1 b2 o1 o2
  go_wp2_with fail
  refine (putInt_any (-1) _ (by omega) (by omega)).mono ?_
  rintro e w4 ⟨A4, c4, rfl, o4, b4⟩
  rw [p6.out] at o4 ⊢
  have B4 := B3.trans (b4.mono B3.size)
  go_wp2_with fail
  refine (same_yes _ _ _ _ _ _ _ _ _ _ _ ((o4.alloc _).rd) (Rd.litH _ _ rfl [1] 1 rfl (by decide)) rfl).mono ?_
  rintro e w5 ⟨rfl, rfl⟩
  have B5 := belowA B4 (.cells (List.map (Value.int .u8) [1]).toArray 5)
  generalize w4.alloc (.cells (List.map (Value.int .u8) [1]).toArray 5) = W5 at B5 ⊢
  clear B3 B4 b4 o4
  go_wp2_with fail
  refine (join_any _ _ _ [List.map b8 [97], []] _ (pair_rd _ _ (by simp) (Rd.litH _ _ rfl [97] 1 rfl (by decide)) (Nat.le_refl _)) (by omega) (by rw [p7.out]; simp)).mono ?_
  rintro e w6 ⟨A6, n6, c6, rfl, o6, b6⟩
  rw [p7.out] at o6
  have e6 := o6.len
  subst e6
  have B6 := (belowA (belowA B5 _) _).trans (b6.mono (by have := B5.size; simp; omega))
  clear B5 b6
  go_wp2_with fail
  refine (same_yes _ _ _ _ _ _ _ _ _ _ _ ((o6.alloc _).rd) (Rd.litH _ _ rfl [2, 1, 97, 0] 4 rfl (by decide)) rfl).mono ?_
  rintro e w7 ⟨rfl, rfl⟩
  go_wp2_with fail
  go_ret
  exact ⟨rfl, belowA B6 _⟩
end Go.Proofs.Ytlmnkepgljbdiaa
