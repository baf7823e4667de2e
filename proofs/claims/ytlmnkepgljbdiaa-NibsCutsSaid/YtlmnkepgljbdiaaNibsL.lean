/- Halves of bytes: the plain functions. -/
import Derived.Test.YtlmnkepgljbdiaaBy
namespace Go.Proofs.Ytlmnkepgljbdiaa

/-- Of each byte its upper half, and its lower half. -/
def ofB (l : List UInt8) : List UInt8 := l.flatMap fun c => [c / 16, c % 16]
theorem ofB_length (l : List UInt8) : (ofB l).length = 2 * l.length := by
  induction l with
  | nil => rfl
  | cons c l ih => simp [ofB, List.flatMap_cons] at *; omega
theorem ofB_append (l m : List UInt8) : ofB (l ++ m) = ofB l ++ ofB m := by simp [ofB, List.flatMap_append]
theorem take_snoc (l : List UInt8) (k : Nat) (h : k < l.length) : l.take (k + 1) = l.take k ++ [l.getD k 0] := by
  rw [List.take_succ_eq_append_getElem h, List.getD_eq_getElem?_getD, List.getElem?_eq_getElem h]; rfl
theorem ofB_take (l : List UInt8) (k : Nat) (h : k < l.length) : ofB (l.take (k + 1)) = ofB (l.take k) ++ [b8 (at8 l k / 16), b8 (at8 l k % 16)] := by
  rw [take_snoc l k h, ofB_append]
  congr 1
  have e : at8 l k = ((l.getD k 0).toNat : Int) := rfl
  rw [e]
  generalize l.getD k 0 = c
  have e1 : b8 ((c.toNat : Int) / 16) = c / 16 := by unfold b8; apply UInt8.toNat_inj.1; rw [UInt8.toNat_ofNat', UInt8.toNat_div]; simp; have := c.toNat_lt; omega
  have e2 : b8 ((c.toNat : Int) % 16) = c % 16 := by unfold b8; apply UInt8.toNat_inj.1; rw [UInt8.toNat_ofNat', UInt8.toNat_mod]; simp; have := c.toNat_lt; omega
  rw [e1, e2]; rfl
theorem at8_eq_iff (l m : List UInt8) (k : Nat) : at8 l k = at8 m k ↔ l.getD k 0 = m.getD k 0 := by
  unfold at8; constructor
  · intro h; exact UInt8.toNat_inj.1 (by omega)
  · intro h; rw [h]
theorem b8_add (a b : UInt8) (ha : a ≤ 15) (hb : b ≤ 15) : b8 (16 * (a.toNat : Int) + b.toNat) = 16 * a + b := by
  unfold b8; apply UInt8.toNat_inj.1
  have h1 := UInt8.le_iff_toNat_le.1 ha
  have h2 := UInt8.le_iff_toNat_le.1 hb
  rw [UInt8.toNat_ofNat', UInt8.toNat_add, UInt8.toNat_mul]
  simp at *; omega

/-- Are all halves? -/
def halvesB (l : List UInt8) : Bool := l.all fun c => decide (c ≤ 15)
theorem halvesB_take (l : List UInt8) (k : Nat) (h : k < l.length) (ht : halvesB (l.take k) = true) (hk : at8 l k ≤ 15) : halvesB (l.take (k + 1)) = true := by
  rw [take_snoc l k h]
  unfold halvesB at *
  rw [List.all_append, ht]
  have : l.getD k 0 ≤ 15 := by rw [UInt8.le_iff_toNat_le]; unfold at8 at hk; simp at *; omega
  simp only [List.all_cons, List.all_nil, Bool.and_true, Bool.true_and, decide_eq_true_eq]; exact this
theorem halvesB_no (l : List UInt8) (k : Nat) (h : k < l.length) (hk : 15 < at8 l k) : halvesB l = false := by
  unfold halvesB
  rw [List.all_eq_false]
  refine ⟨l[k], List.getElem_mem h, ?_⟩
  rw [at8_of l k h] at hk
  rw [decide_eq_true_eq, UInt8.le_iff_toNat_le]
  simp; omega
theorem halvesB_at (l : List UInt8) (h : halvesB l = true) (k : Nat) : at8 l k ≤ 15 := by
  by_cases hk : k < l.length
  · unfold halvesB at h
    rw [List.all_eq_true] at h
    have := h l[k] (List.getElem_mem hk)
    rw [decide_eq_true_eq, UInt8.le_iff_toNat_le] at this
    rw [at8_of l k hk]
    simp at this; omega
  · unfold at8
    rw [List.getD_eq_getElem?_getD, List.getElem?_eq_none (by omega)]; simp
theorem halvesB_le (l : List UInt8) (h : halvesB l = true) (c : UInt8) (hc : c ∈ l) : c ≤ 15 := by
  unfold halvesB at h
  rw [List.all_eq_true] at h
  simpa using h c hc
theorem halvesB_ofB (l : List UInt8) : halvesB (ofB l) = true := by
  unfold halvesB ofB
  rw [List.all_flatMap, List.all_eq_true]
  intro c _
  have h1 : c / 16 ≤ 15 := by rw [UInt8.le_iff_toNat_le, UInt8.toNat_div]; have := c.toNat_lt; simp; omega
  have h2 : c % 16 ≤ 15 := by rw [UInt8.le_iff_toNat_le, UInt8.toNat_mod]; have := c.toNat_lt; simp; omega
  simp [h1, h2]

/-- Two to a byte. -/
def joinB : List UInt8 → List UInt8
  | a :: b :: r => (16 * a + b) :: joinB r
  | _ => []
theorem joinB_length : ∀ l : List UInt8, (joinB l).length = l.length / 2
  | a :: b :: r => by rw [joinB, List.length_cons, joinB_length r, List.length_cons, List.length_cons]; omega
  | [a] => by simp [joinB]
  | [] => by simp [joinB]
theorem joinB_take : ∀ (l : List UInt8) (k : Nat), 2 * k + 1 < l.length → joinB (l.take (2 * (k + 1))) = joinB (l.take (2 * k)) ++ [16 * l.getD (2 * k) 0 + l.getD (2 * k + 1) 0]
  | a :: b :: r, 0, _ => by simp [joinB]
  | a :: b :: r, k + 1, h => by
    have ih := joinB_take r k (by simp at h; omega)
    have e1 : 2 * (k + 1 + 1) = 2 * (k + 1) + 1 + 1 := by omega
    have e2 : 2 * (k + 1) = 2 * k + 1 + 1 := by omega
    rw [e1, e2]
    simp only [List.take_succ_cons, joinB, List.cons_append, List.getD_cons_succ]
    rw [← e2, ih]
  | [a], k, h => by simp at h
  | [], k, h => by simp at h
theorem joinB_take8 (l : List UInt8) (k : Nat) (h : 2 * k + 1 < l.length) (hh : halvesB l = true) : joinB (l.take (2 * (k + 1))) = joinB (l.take (2 * k)) ++ [b8 (at8 l (2 * k) * 16 + at8 l (2 * k + 1))] := by
  rw [joinB_take l k h]
  congr 2
  rw [at8_of l (2 * k) (by omega), at8_of l (2 * k + 1) h, Int.mul_comm, b8_add _ _ (halvesB_le l hh _ (List.getElem_mem _)) (halvesB_le l hh _ (List.getElem_mem _))]
  rw [List.getD_eq_getElem?_getD, List.getD_eq_getElem?_getD, List.getElem?_eq_getElem (by omega), List.getElem?_eq_getElem h]; rfl
theorem joinB_all (l : List UInt8) (k : Nat) (h : l.length ≤ 2 * k + 1) (hk : 2 * k ≤ l.length) : joinB (l.take (2 * k)) = joinB l := by
  induction l using joinB.induct generalizing k with
  | case1 a b r ih =>
    obtain ⟨j, rfl⟩ : ∃ j, k = j + 1 := ⟨k - 1, by simp at h; omega⟩
    have e2 : 2 * (j + 1) = 2 * j + 1 + 1 := by omega
    rw [e2]
    simp only [List.take_succ_cons, joinB]
    rw [ih j (by simp at h; omega) (by simp at hk; omega)]
  | case2 t x =>
    rcases t with _ | ⟨a, _ | ⟨b, r⟩⟩
    · simp
    · have : k = 0 := by simp at hk; omega
      subst this; simp [joinB]
    · exact absurd rfl (x a b r)

/-- How many stand at the begin of both. -/
def commonB : List UInt8 → List UInt8 → Nat
  | a :: l, b :: m => if a = b then commonB l m + 1 else 0
  | _, _ => 0
theorem commonB_le : ∀ l m : List UInt8, commonB l m ≤ l.length ∧ commonB l m ≤ m.length
  | a :: l, b :: m => by
    have := commonB_le l m
    unfold commonB; split <;> simp <;> omega
  | [], _ => by simp [commonB]
  | _ :: _, [] => by simp [commonB]
theorem commonB_at : ∀ (l m : List UInt8) (k : Nat), l.take k = m.take k → k < l.length → k < m.length → l.getD k 0 ≠ m.getD k 0 → commonB l m = k
  | a :: l, b :: m, 0, _, _, _, h => by simp at h; simp [commonB, h]
  | a :: l, b :: m, k + 1, ht, h1, h2, h => by
    simp only [List.take_succ_cons, List.cons.injEq] at ht
    unfold commonB
    rw [if_pos ht.1, commonB_at l m k ht.2 (by simpa using h1) (by simpa using h2) (by simpa using h)]
  | [], _, _, _, h, _, _ => by simp at h
  | _ :: _, [], _, _, _, h, _ => by simp at h
theorem commonB_end : ∀ (l m : List UInt8) (k : Nat), l.take k = m.take k → k = min l.length m.length → commonB l m = k
  | a :: l, b :: m, 0, _, h => by simp at h
  | a :: l, b :: m, k + 1, ht, h => by
    simp only [List.take_succ_cons, List.cons.injEq] at ht
    unfold commonB
    rw [if_pos ht.1, commonB_end l m k ht.2 (by simp at h; omega)]
  | [], m, k, _, h => by simp at h; subst h; simp [commonB]
  | _ :: _, [], k, _, h => by simp at h; subst h; simp [commonB]
theorem take_both (l m : List UInt8) (k : Nat) (ht : l.take k = m.take k) (h1 : k < l.length) (h2 : k < m.length) (h : l.getD k 0 = m.getD k 0) : l.take (k + 1) = m.take (k + 1) := by
  rw [take_snoc l k h1, take_snoc m k h2, ht, h]

theorem commonB_pre : ∀ l m : List UInt8, l.take (commonB l m) = m.take (commonB l m)
  | a :: l, b :: m => by
    unfold commonB
    by_cases h : a = b
    · rw [if_pos h]; simp [h, commonB_pre l m]
    · rw [if_neg h]; rfl
  | [], m => by simp [commonB]
  | _ :: _, [] => by simp [commonB]
theorem commonB_stop : ∀ (l m : List UInt8) (k : Nat), commonB l m = k → k < l.length → k < m.length → l.getD k 0 ≠ m.getD k 0
  | a :: l, b :: m, k, h, h1, h2 => by
    unfold commonB at h
    by_cases e : a = b
    · rw [if_pos e] at h
      subst h
      simpa using commonB_stop l m _ rfl (by simpa using h1) (by simpa using h2)
    · rw [if_neg e] at h
      subst h
      simpa using e
  | [], _, _, _, h, _ => by simp at h
  | _ :: _, [], _, _, _, h => by simp at h
/-- Half by half: what is a beginning comes first. -/
def cmpB (a b : List UInt8) : Int :=
  let n := commonB a b
  if n = a.length ∧ n = b.length then 0 else if n = a.length ∨ n < b.length ∧ at8 a n < at8 b n then -1 else 1

def bytesE (l : List UInt8) : Int := if halvesB l = true then (if l.length % 2 = 1 then 11 else 0) else 2
def bytesL (l : List UInt8) : List UInt8 := if halvesB l = true then (if l.length % 2 = 1 then [] else joinB l) else []
def packE (l : List UInt8) : Int := if halvesB l = true then 0 else 2
def packL (l : List UInt8) (leaf : Bool) : List UInt8 :=
  if halvesB l = true then (if l.length % 2 = 1 then b8 ((if leaf = true then 32 else 0) + 16 + at8 l 0) :: joinB (l.drop 1) else b8 (if leaf = true then 32 else 0) :: joinB l) else []
def unpackOk (b : List UInt8) : Bool := decide (at8 b 0 < 64) && (decide (at8 b 0 / 16 % 2 = 1) || decide (at8 b 0 % 16 = 0))
def unpackE (b : List UInt8) : Int := if b.length = 0 then 10 else if unpackOk b = true then 0 else 11
def unpackB (b : List UInt8) : Bool := decide (b.length ≠ 0) && unpackOk b && decide (at8 b 0 / 32 % 2 = 1)
def unpackL (b : List UInt8) : List UInt8 := if b.length = 0 then [] else if unpackOk b = true then (if at8 b 0 / 16 % 2 = 1 then [b8 (at8 b 0 % 16)] else []) ++ ofB (b.drop 1) else []
theorem or_halves (a b : Int) (h0 : 0 ≤ a) (h1 : a ≤ 15) (h2 : 0 ≤ b) (h3 : b ≤ 15) : bits .or .u8 (a * 16) b = a * 16 + b := by
  have h : ∀ x y : Fin 16, bits .or .u8 ((x.val : Int) * 16) (y.val : Int) = (x.val : Int) * 16 + (y.val : Int) := by decide +kernel
  have := h ⟨a.toNat, by omega⟩ ⟨b.toNat, by omega⟩
  simp only [Int.toNat_of_nonneg h0, Int.toNat_of_nonneg h2] at this
  exact this
end Go.Proofs.Ytlmnkepgljbdiaa
