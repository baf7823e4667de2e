/- Many rows, plainly. -/
import Derived.Test.YtjneoinacobbaaaRowB
namespace Go.Proofs.Ytjneoinacobbaaa

/-- The first row that is none: why. -/
def manyE : List (List Val) → Int
  | [] => 0
  | l :: r => if encE l ≠ 0 then encE l else manyE r
def manyB (ll : List (List Val)) : List UInt8 := if manyE ll = 0 then joinL (ll.map encB) else []
theorem manyE_ok {ll : List (List Val)} (h : ∀ l ∈ ll, encE l = 0) : manyE ll = 0 := by
  induction ll with
  | nil => rfl
  | cons l r ih =>
    unfold manyE
    rw [if_neg (by simp [h l (by simp)])]
    exact ih (fun x hx => h x (by simp [hx]))
theorem manyE_bad : ∀ {ll : List (List Val)} {i : Nat} {l : List Val}, ll[i]? = some l → (∀ x ∈ ll.take i, encE x = 0) → encE l ≠ 0 → manyE ll = encE l
  | [], i, l, h, _, _ => by simp at h
  | x :: r, 0, l, h, _, hl => by
    simp at h
    subst h
    unfold manyE
    rw [if_pos hl]
  | x :: r, i + 1, l, h, ha, hl => by
    unfold manyE
    rw [if_neg (by simp [ha x (by simp)])]
    exact manyE_bad (i := i) (by simpa using h) (fun y hy => ha y (by simp [hy])) hl
/-- The first bytes that are no row: why. -/
def fewF : List (List UInt8) → Int
  | [] => 0
  | l :: r => if decE l ≠ 0 then decE l else fewF r
def fewE (b : List UInt8) : Int := if spE b ≠ 0 then spE b else fewF (spL b)
def fewL (b : List UInt8) : List (List Val) := if fewE b = 0 then (spL b).map decL else []
theorem fewF_ok {ll : List (List UInt8)} (h : ∀ l ∈ ll, decE l = 0) : fewF ll = 0 := by
  induction ll with
  | nil => rfl
  | cons l r ih =>
    unfold fewF
    rw [if_neg (by simp [h l (by simp)])]
    exact ih (fun x hx => h x (by simp [hx]))
theorem fewF_bad : ∀ {ll : List (List UInt8)} {i : Nat} {l : List UInt8}, ll[i]? = some l → (∀ x ∈ ll.take i, decE x = 0) → decE l ≠ 0 → fewF ll = decE l
  | [], i, l, h, _, _ => by simp at h
  | x :: r, 0, l, h, _, hl => by
    simp at h
    subst h
    unfold fewF
    rw [if_pos hl]
  | x :: r, i + 1, l, h, ha, hl => by
    unfold fewF
    rw [if_neg (by simp [ha x (by simp)])]
    exact fewF_bad (i := i) (by simpa using h) (fun y hy => ha y (by simp [hy])) hl
theorem all_take_snoc {α : Type} {p : α → Prop} {l : List α} {i : Nat} {x : α} (h : ∀ y ∈ l.take i, p y) (hx : l[i]? = some x) (hp : p x) : ∀ y ∈ l.take (i + 1), p y := by
  intro y hy
  rw [List.take_add_one, hx] at hy
  simp at hy
  rcases hy with hy | rfl
  · exact h y hy
  · exact hp
theorem map_take_snoc {α β : Type} (f : α → β) {l : List α} {i : Nat} {x : α} (hx : l[i]? = some x) : (l.take (i + 1)).map f = (l.take i).map f ++ [f x] := by
  rw [List.take_add_one, hx]; simp
theorem encB_len {l : List Val} (ho : ∀ v ∈ l, VOk v) (ht : tot l ≤ 1000000) : (encB l).length ≤ 1000010 := by
  unfold encB
  split
  · have := flat_len l ho
    have h1 := tot_len l
    have := putN_len10 (n := l.length) (by omega)
    rw [List.length_append]; omega
  · simp
theorem many_len : ∀ (ll : List (List Val)), (∀ l ∈ ll, (∀ v ∈ l, VOk v) ∧ tot l ≤ 1000000) → ((ll.map encB).flatMap putB).length ≤ ll.length * 1000020
  | [], _ => Nat.zero_le _
  | l :: r, h => by
    have h1 := many_len r (fun x hx => h x (by simp [hx]))
    have h2 := encB_len (h l (by simp)).1 (h l (by simp)).2
    have h3 := putN_len10 (n := (encB l).length) (by omega)
    rw [List.map_cons, List.flatMap_cons, List.length_append, List.length_cons]
    unfold putB
    unfold putB at h1
    rw [List.length_append]; omega
end Go.Proofs.Ytjneoinacobbaaa
