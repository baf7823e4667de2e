/- Values and rows read from bytes, plainly. -/
import Derived.Test.YtjneoinacobbaaaRowL
namespace Go.Proofs.Ytjneoinacobbaaa

theorem gE_drop {l : List UInt8} {p : Nat} (hp : p ≤ l.length) (x : Nat) : gE (l.drop p) (x : Int) = gE l ((p + x : Nat) : Int) ∧ gN (l.drop p) (x : Int) = gN l ((p + x : Nat) : Int) := by
  unfold gE gN
  rw [List.length_drop, Int.toNat_natCast, Int.toNat_natCast, List.drop_drop]
  by_cases h : l.length < p + x
  · rw [if_pos (by omega), if_pos (by omega), if_pos (by omega), if_pos (by omega)]; exact ⟨rfl, rfl⟩
  · rw [if_neg (by omega), if_neg (by omega), if_neg (by omega), if_neg (by omega)]; exact ⟨rfl, rfl⟩
theorem gTo_drop {l : List UInt8} {p : Nat} (hp : p ≤ l.length) (x : Nat) (h : gE l ((p + x : Nat) : Int) = 0) : gTo l ((p + x : Nat) : Int) = p + gTo (l.drop p) (x : Int) := by
  have h1 := (gE_drop hp x).1
  unfold gTo
  rw [if_pos h, if_pos (h1.trans h), Int.toNat_natCast, Int.toNat_natCast, List.drop_drop]
  omega
theorem gb_drop {l : List UInt8} {p : Nat} (hp : p ≤ l.length) (x : Nat) : gbE (l.drop p) (x : Int) = gbE l ((p + x : Nat) : Int) ∧ gbL (l.drop p) (x : Int) = gbL l ((p + x : Nat) : Int) ∧ (gbE l ((p + x : Nat) : Int) = 0 → gbTo l ((p + x : Nat) : Int) = p + gbTo (l.drop p) (x : Int)) := by
  obtain ⟨h1, h2⟩ := gE_drop hp x
  rcases gb_cases l ((p + x : Nat) : Int) with h | ⟨h, k⟩ | ⟨h, k, m⟩ | ⟨h, k, m⟩
  · have F := gb_err1 h
    have G := gb_err1 (l := l.drop p) (a := (x : Int)) (by rw [h1]; exact h)
    exact ⟨by rw [F.1, G.1, h1], by rw [F.2.1, G.2.1], fun e => absurd (F.1.symm.trans e) h⟩
  · have F := gb_err2 h k
    have G := gb_err2 (l := l.drop p) (a := (x : Int)) (by rw [h1]; exact h) (by rw [h2]; exact k)
    exact ⟨by rw [F.1, G.1], by rw [F.2.1, G.2.1], fun e => by rw [F.1] at e; cases e⟩
  · have ht := gTo_drop hp x h
    have F := gb_err3 h k m
    have G := gb_err3 (l := l.drop p) (a := (x : Int)) (by rw [h1]; exact h) (by rw [h2]; exact k) (by rw [h2, List.length_drop]; omega)
    exact ⟨by rw [F.1, G.1], by rw [F.2.1, G.2.1], fun e => by rw [F.1] at e; cases e⟩
  · have ht := gTo_drop hp x h
    have F := gb_ok h k m
    have G := gb_ok (l := l.drop p) (a := (x : Int)) (by rw [h1]; exact h) (by rw [h2]; exact k) (by rw [h2, List.length_drop]; omega)
    obtain ⟨y, t, hy, hyl, _, hT, _, hle, _⟩ := g_ok (l := l.drop p) (a := (x : Int)) (by rw [h1]; exact h)
    refine ⟨by rw [F.1, G.1], ?_, fun _ => by rw [F.2.2, G.2.2, ht, h2]; omega⟩
    rw [F.2.1, G.2.1, h2, ht, hT, List.drop_drop]
    congr 2
/-- What is read at a place: why there is nothing, the value, the place behind. -/
def fin (v : Val) (to : Nat) : Int × Val × Nat := if rightB v then (0, v, to) else (11, v, to)
def no (e : Int) : Int × Val × Nat := (e, ⟨0, 0, []⟩, 0)
def vR (l : List UInt8) (a : Nat) : Int × Val × Nat :=
  if l.length ≤ a then no 10
  else if at8 l a = 1 then (0, ⟨1, 0, []⟩, a + 1)
  else if at8 l a = 2 then (if l.length ≤ a + 1 then no 10 else fin ⟨2, at8 l (a + 1), []⟩ (a + 2))
  else if at8 l a = 3 then (if gE l ((a + 1 : Nat) : Int) ≠ 0 then no (gE l ((a + 1 : Nat) : Int)) else (0, ⟨3, zag (gN l ((a + 1 : Nat) : Int)), []⟩, (gTo l ((a + 1 : Nat) : Int)).toNat))
  else if at8 l a = 4 ∨ at8 l a = 5 then
    (if gE l ((a + 1 : Nat) : Int) ≠ 0 then no (gE l ((a + 1 : Nat) : Int))
    else if 1000 < gN l ((a + 1 : Nat) : Int) then no 11
    else if gbE l ((a + 1 : Nat) : Int) ≠ 0 then no (if at8 l a = 4 ∧ (l.drop (gTo l ((a + 1 : Nat) : Int)).toNat).all vis = false then 11 else 10)
    else fin ⟨at8 l a, 0, gbL l ((a + 1 : Nat) : Int)⟩ (gbTo l ((a + 1 : Nat) : Int)).toNat)
  else no 11
theorem at8_drop (l : List UInt8) (p x : Nat) : at8 (l.drop p) x = at8 l (p + x) := by
  unfold at8; simp [List.getD_eq_getElem?_getD]
theorem fin_shift (v : Val) (p to : Nat) : fin v (p + to) = ((fin v to).1, (fin v to).2.1, p + (fin v to).2.2) := by unfold fin; split <;> rfl
/-- Read of what is left, it is the same. -/
theorem vR_drop {l : List UInt8} {p : Nat} (hp : p ≤ l.length) : (vR (l.drop p) 0).1 = (vR l p).1 ∧ ((vR l p).1 = 0 → (vR (l.drop p) 0).2.1 = (vR l p).2.1 ∧ (vR l p).2.2 = p + (vR (l.drop p) 0).2.2) := by
  have h1 := gE_drop hp 1
  have h2 := gb_drop hp 1
  have hl : (l.drop p).length = l.length - p := List.length_drop
  have h8 := at8_drop l p 0
  have h81 := at8_drop l p 1
  rw [Nat.add_zero] at h8
  unfold vR
  rw [hl, h8, h81, Nat.zero_add, h1.1, h1.2, h2.1, h2.2.1]
  by_cases c1 : l.length ≤ p
  · rw [if_pos (by omega), if_pos c1]; exact ⟨rfl, fun h => by cases h⟩
  rw [if_neg (by omega), if_neg c1]
  by_cases c2 : at8 l p = 1
  · rw [if_pos c2, if_pos c2]; exact ⟨rfl, fun _ => ⟨rfl, rfl⟩⟩
  rw [if_neg c2, if_neg c2]
  by_cases c3 : at8 l p = 2
  · rw [if_pos c3, if_pos c3]
    by_cases c4 : l.length ≤ p + 1
    · rw [if_pos (by omega), if_pos c4]; exact ⟨rfl, fun h => by cases h⟩
    have e := fin_shift ⟨2, at8 l (p + 1), []⟩ p (0 + 2)
    rw [if_neg (by omega), if_neg c4, show p + 2 = p + (0 + 2) by omega, e]
    exact ⟨rfl, fun _ => ⟨rfl, rfl⟩⟩
  rw [if_neg c3, if_neg c3]
  by_cases c4 : at8 l p = 3
  · rw [if_pos c4, if_pos c4]
    by_cases c5 : gE l ((p + 1 : Nat) : Int) ≠ 0
    · rw [if_pos c5, if_pos c5]; exact ⟨rfl, fun h => absurd h c5⟩
    rw [if_neg c5, if_neg c5]
    have ht := gTo_drop hp 1 (by simpa using c5)
    obtain ⟨y, t, hy, _, _, hT, _⟩ := g_ok (l := l.drop p) (a := ((1 : Nat) : Int)) (by rw [h1.1]; simpa using c5)
    exact ⟨rfl, fun _ => ⟨rfl, by show (gTo l _).toNat = p + (gTo (l.drop p) _).toNat; rw [ht, hT]; omega⟩⟩
  rw [if_neg c4, if_neg c4]
  by_cases c5 : at8 l p = 4 ∨ at8 l p = 5
  · rw [if_pos c5, if_pos c5]
    by_cases c6 : gE l ((p + 1 : Nat) : Int) ≠ 0
    · rw [if_pos c6, if_pos c6]; exact ⟨rfl, fun h => absurd h c6⟩
    rw [if_neg c6, if_neg c6]
    by_cases c7 : 1000 < gN l ((p + 1 : Nat) : Int)
    · rw [if_pos c7, if_pos c7]; exact ⟨rfl, fun h => by cases h⟩
    rw [if_neg c7, if_neg c7]
    have ht := gTo_drop hp 1 (by simpa using c6)
    obtain ⟨y, t, hy, _, _, hT, _⟩ := g_ok (l := l.drop p) (a := ((1 : Nat) : Int)) (by rw [h1.1]; simpa using c6)
    by_cases c8 : gbE l ((p + 1 : Nat) : Int) ≠ 0
    · rw [if_pos c8, if_pos c8]
      have e : (l.drop p).drop (gTo (l.drop p) ((1 : Nat) : Int)).toNat = l.drop (gTo l ((p + 1 : Nat) : Int)).toNat := by
        rw [List.drop_drop, ht, hT]; congr 1
      rw [e]
      refine ⟨rfl, fun h => ?_⟩
      exfalso
      revert h
      show (if _ then (11 : Int) else 10) = 0 → False
      split <;> intro h <;> cases h
    rw [if_neg c8, if_neg c8]
    have hb := h2.2.2 (by simpa using c8)
    have hb0 : 0 ≤ gbTo (l.drop p) ((1 : Nat) : Int) := by
      unfold gbTo
      rw [if_pos (by rw [h2.1]; simpa using c8), hT]
      have := gN_nonneg (l.drop p) ((1 : Nat) : Int)
      omega
    rw [hb, show (p + gbTo (l.drop p) ((1 : Nat) : Int)).toNat = p + (gbTo (l.drop p) ((1 : Nat) : Int)).toNat by omega, fin_shift]
    exact ⟨rfl, fun _ => ⟨rfl, rfl⟩⟩
  rw [if_neg c5, if_neg c5]
  exact ⟨rfl, fun h => by cases h⟩
end Go.Proofs.Ytjneoinacobbaaa
