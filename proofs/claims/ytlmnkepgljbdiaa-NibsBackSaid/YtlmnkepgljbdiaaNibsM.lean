/- Halves of bytes: plain laws of the functions: there and back, order, what is joined. -/
import Derived.Test.YtlmnkepgljbdiaaNibsQ
namespace Go.Proofs.Ytlmnkepgljbdiaa

theorem ofB_cons (c : UInt8) (l : List UInt8) : ofB (c :: l) = c / 16 :: c % 16 :: ofB l := rfl
theorem div_mod (c : UInt8) : 16 * (c / 16) + c % 16 = c := by
  apply UInt8.toNat_inj.1
  rw [UInt8.toNat_add, UInt8.toNat_mul, UInt8.toNat_div, UInt8.toNat_mod]
  have := c.toNat_lt
  simp; omega
theorem joinB_ofB (l : List UInt8) : joinB (ofB l) = l := by
  induction l with
  | nil => rfl
  | cons c l ih => rw [ofB_cons, joinB, ih, div_mod]
theorem bytes_ofB (l : List UInt8) : bytesE (ofB l) = 0 ∧ bytesL (ofB l) = l := by
  obtain ⟨h1, h2⟩ := bytesE_ok (halvesB_ofB l) (by rw [ofB_length]; omega)
  exact ⟨h1, by rw [h2, joinB_ofB]⟩
theorem up (a b : UInt8) (ha : a ≤ 15) (hb : b ≤ 15) : (16 * a + b) / 16 = a ∧ (16 * a + b) % 16 = b := by
  have h1 := UInt8.le_iff_toNat_le.1 ha
  have h2 := UInt8.le_iff_toNat_le.1 hb
  constructor <;> apply UInt8.toNat_inj.1
  · rw [UInt8.toNat_div, UInt8.toNat_add, UInt8.toNat_mul]; simp at *; omega
  · rw [UInt8.toNat_mod, UInt8.toNat_add, UInt8.toNat_mul]; simp at *; omega
theorem ofB_joinB : ∀ (l : List UInt8), halvesB l = true → l.length % 2 = 0 → ofB (joinB l) = l
  | a :: b :: r, h, k => by
    have ha := halvesB_le _ h a (by simp)
    have hb := halvesB_le _ h b (by simp)
    have hr : halvesB r = true := halvesB_drop (l := a :: b :: r) h 2
    rw [joinB, ofB_cons, (up a b ha hb).1, (up a b ha hb).2, ofB_joinB r hr (by simp at k; omega)]
  | [a], _, k => by simp at k
  | [], _, _ => rfl
theorem at8_b8 (x : Int) (h0 : 0 ≤ x) (h1 : x ≤ 255) (l : List UInt8) : at8 (b8 x :: l) 0 = x := by
  show (((b8 x).toNat : Nat) : Int) = x
  unfold b8; rw [UInt8.toNat_ofNat']; omega
theorem b8_at0 (c : UInt8) (l : List UInt8) : b8 (at8 (c :: l) 0) = c := b8_nat c

/-- What is packed is unpacked as it was. -/
theorem unpack_pack (l : List UInt8) (leaf : Bool) (h : halvesB l = true) : unpackE (packL l leaf) = 0 ∧ unpackB (packL l leaf) = leaf ∧ unpackL (packL l leaf) = l ∧ (packL l leaf).length = l.length / 2 + 1 := by
  by_cases hodd : l.length % 2 = 1
  · have e := packL_odd h hodd leaf _ rfl
    have a0 := at8_lo l 0
    have a1 := halvesB_at l h 0
    obtain ⟨x, hx⟩ : ∃ x : Int, x = (if leaf = true then 32 else 0) + 16 + at8 l 0 := ⟨_, rfl⟩
    have hx' : 0 ≤ x ∧ x ≤ 63 ∧ x / 16 % 2 = 1 ∧ x % 16 = at8 l 0 ∧ (x / 32 % 2 = 1 ↔ leaf = true) := by subst hx; cases leaf <;> simp <;> omega
    rw [← hx] at e
    rw [e, List.singleton_append]
    have hat := at8_b8 x (by omega) (by omega) (joinB (l.drop 1))
    have hok : unpackOk (b8 x :: joinB (l.drop 1)) = true := by unfold unpackOk; rw [hat]; simp [hx'.2.2.1]; omega
    obtain ⟨u1, u2, u3⟩ := unpack_ok (b := b8 x :: joinB (l.drop 1)) (by simp) hok
    rw [hat] at u2 u3
    refine ⟨u1, ?_, ?_, ?_⟩
    · rw [u2, Bool.eq_iff_iff]; simp [hx'.2.2.2.2]
    · rw [u3, if_pos hx'.2.2.1, hx'.2.2.2.1]
      rw [show (b8 x :: joinB (l.drop 1)).drop 1 = joinB (l.drop 1) from rfl, ofB_joinB _ (halvesB_drop h 1) (by rw [List.length_drop]; omega)]
      rcases l with _ | ⟨c, l⟩
      · simp at hodd
      · rw [b8_at0]; rfl
    · rw [List.length_cons, joinB_length, List.length_drop]; omega
  · have e := packL_even h (by omega) leaf _ rfl
    obtain ⟨x, hx⟩ : ∃ x : Int, x = if leaf = true then 32 else 0 := ⟨_, rfl⟩
    have hx' : 0 ≤ x ∧ x ≤ 63 ∧ x / 16 % 2 = 0 ∧ x % 16 = 0 ∧ (x / 32 % 2 = 1 ↔ leaf = true) := by subst hx; cases leaf <;> simp
    rw [← hx] at e
    rw [e, List.singleton_append]
    have hat := at8_b8 x (by omega) (by omega) (joinB l)
    have hok : unpackOk (b8 x :: joinB l) = true := by unfold unpackOk; rw [hat]; simp [hx'.2.2.2.1]; omega
    obtain ⟨u1, u2, u3⟩ := unpack_ok (b := b8 x :: joinB l) (by simp) hok
    rw [hat] at u2 u3
    refine ⟨u1, ?_, ?_, ?_⟩
    · rw [u2, Bool.eq_iff_iff]; simp [hx'.2.2.2.2]
    · rw [u3, if_neg (by omega)]
      rw [show (b8 x :: joinB l).drop 1 = joinB l from rfl, ofB_joinB _ h (by omega)]; rfl
    · rw [List.length_cons, joinB_length]

/-- What is unpacked is packed as it was. -/
theorem pack_unpack (b : List UInt8) (h : unpackE b = 0) : packE (unpackL b) = 0 ∧ packL (unpackL b) (unpackB b) = b := by
  by_cases hl : b.length = 0
  · simp [unpackE, hl] at h
  · have hok : unpackOk b = true := by
      by_cases hk : unpackOk b = true
      · exact hk
      · simp [unpackE, hl, hk] at h
    obtain ⟨_, u2, u3⟩ := unpack_ok hl hok
    rcases b with _ | ⟨c, r⟩
    · simp at hl
    · have e0 : at8 (c :: r) 0 = (c.toNat : Int) := rfl
      have c1 := c.toNat_lt
      unfold unpackOk at hok
      rw [e0] at u2 u3 hok
      simp only [Bool.and_eq_true, Bool.or_eq_true, decide_eq_true_eq] at hok
      rw [show (c :: r).drop 1 = r from rfl] at u3
      have hr := halvesB_ofB r
      by_cases hodd : (c.toNat : Int) / 16 % 2 = 1
      · rw [if_pos hodd] at u3
        have hm : 0 ≤ (c.toNat : Int) % 16 ∧ (c.toNat : Int) % 16 ≤ 15 := by omega
        have hh : halvesB ([b8 ((c.toNat : Int) % 16)] ++ ofB r) = true := halvesB_cons _ _ (b8_le _ hm.1 hm.2) hr
        rw [u3, u2]
        refine ⟨packE_ok hh, ?_⟩
        rw [packL_odd hh (by rw [List.length_append, ofB_length]; simp) _ _ rfl]
        simp only [List.singleton_append]
        rw [at8_b8 _ hm.1 (by omega)]
        rw [show (b8 ((c.toNat : Int) % 16) :: ofB r).drop 1 = ofB r from rfl, joinB_ofB]
        congr 1
        rw [← b8_nat c]
        congr 1
        rw [b8_nat c]
        by_cases h32 : (c.toNat : Int) / 32 % 2 = 1 <;> simp [h32] <;> omega
      · rw [if_neg hodd, List.nil_append] at u3
        rw [u3, u2]
        refine ⟨packE_ok hr, ?_⟩
        rw [packL_even hr (by rw [ofB_length]; omega) _ _ rfl, joinB_ofB, List.singleton_append]
        congr 1
        rw [← b8_nat c]
        congr 1
        rw [b8_nat c]
        by_cases h32 : (c.toNat : Int) / 32 % 2 = 1 <;> simp [h32] <;> omega
theorem unpack_fail (b : List UInt8) (h : unpackE b ≠ 0) : unpackL b = [] ∧ unpackB b = false := by
  by_cases hl : b.length = 0
  · exact ⟨(unpack_nil hl).2.2, (unpack_nil hl).2.1⟩
  · have hk : unpackOk b = false := by
      cases hk : unpackOk b with
      | true => exact absurd (unpack_ok hl hk).1 h
      | false => rfl
    exact ⟨(unpack_no hl hk).2.2, (unpack_no hl hk).2.1⟩
theorem packE_iff (l : List UInt8) : packE l = 0 ↔ halvesB l = true := by
  unfold packE; split <;> simp_all

theorem half_eq (a b : UInt8) (h1 : a / 16 = b / 16) (h2 : a % 16 = b % 16) : a = b := by rw [← div_mod a, ← div_mod b, h1, h2]
theorem commonB_self (l : List UInt8) : commonB l l = l.length := by
  induction l with
  | nil => rfl
  | cons c l ih => unfold commonB; rw [if_pos rfl, ih]; rfl
theorem commonB_ofB : ∀ a b : List UInt8, 2 * commonB a b ≤ commonB (ofB a) (ofB b) ∧ commonB (ofB a) (ofB b) ≤ 2 * commonB a b + 1
  | x :: a, y :: b => by
    rw [ofB_cons, ofB_cons]
    have ih := commonB_ofB a b
    by_cases h : x = y
    · subst h
      simp only [commonB, if_true]
      omega
    · have e : commonB (x :: a) (y :: b) = 0 := by simp [commonB, h]
      rw [e]
      by_cases h1 : x / 16 = y / 16
      · by_cases h2 : x % 16 = y % 16
        · exact absurd (half_eq x y h1 h2) h
        · simp [commonB, h1, h2]
      · simp [commonB, h1]
  | [], b => by simp [commonB, ofB]
  | _ :: _, [] => by simp [commonB, ofB]
theorem commonB_append (x y : List UInt8) : commonB x (x ++ y) = x.length := by
  induction x with
  | nil => simp [commonB]
  | cons c l ih => simp [commonB, ih]
theorem cmpB_append (x y : List UInt8) : cmpB x (x ++ y) ≤ 0 := by
  by_cases h : y = []
  · rw [cmpB_eq (commonB_append x y) rfl (by simp [h])]; omega
  · rw [cmpB_lt (commonB_append x y) rfl (fun e => h (List.eq_nil_of_length_eq_zero (by rw [List.length_append] at e; omega)))]; omega
theorem commonB_symm : ∀ a b : List UInt8, commonB a b = commonB b a
  | x :: a, y :: b => by
    unfold commonB
    by_cases h : x = y
    · rw [if_pos h, if_pos h.symm, commonB_symm a b]
    · rw [if_neg h, if_neg (fun e => h e.symm)]
  | [], [] => rfl
  | [], _ :: _ => by simp [commonB]
  | _ :: _, [] => by simp [commonB]
/-- cmpB, one byte at a time. -/
theorem cmpB_cons (x y : UInt8) (a b : List UInt8) : cmpB (x :: a) (y :: b) = if x = y then cmpB a b else if x.toNat < y.toNat then -1 else 1 := by
  by_cases h : x = y
  · subst h
    rw [if_pos rfl]
    unfold cmpB
    simp only [commonB, if_true, List.length_cons, Nat.add_right_cancel_iff, Nat.add_lt_add_iff_right]
    have e : ∀ (l : List UInt8) (k : Nat), at8 (x :: l) (k + 1) = at8 l k := fun l k => by unfold at8; rfl
    simp only [e]
  · rw [if_neg h]
    have hc : commonB (x :: a) (y :: b) = 0 := by simp [commonB, h]
    by_cases hlt : x.toNat < y.toNat
    · rw [if_pos hlt, cmpB_at_lt hc (by simp) (by show ((x.toNat : Nat) : Int) < (y.toNat : Nat); omega) (by simp)]
    · rw [if_neg hlt, cmpB_at_ge hc (by simp) (by show ¬ ((x.toNat : Nat) : Int) < (y.toNat : Nat); omega)]
theorem cmpB_nil : cmpB [] [] = 0 := rfl
theorem cmpB_nil_cons (y : UInt8) (b : List UInt8) : cmpB [] (y :: b) = -1 := cmpB_lt (n := 0) (by simp [commonB]) rfl (by simp)
theorem cmpB_cons_nil (x : UInt8) (a : List UInt8) : cmpB (x :: a) [] = 1 := cmpB_gt (n := 0) (by simp [commonB]) (by simp) (by simp)
theorem cmpB_symm : ∀ a b : List UInt8, cmpB b a = - cmpB a b
  | x :: a, y :: b => by
    rw [cmpB_cons, cmpB_cons]
    by_cases h : x = y
    · rw [if_pos h, if_pos h.symm, cmpB_symm a b]
    · have hn : x.toNat ≠ y.toNat := fun e => h (UInt8.toNat_inj.1 e)
      rw [if_neg h, if_neg (fun e => h e.symm)]
      by_cases hlt : x.toNat < y.toNat
      · rw [if_pos hlt, if_neg (by omega)]; rfl
      · rw [if_neg hlt, if_pos (by omega)]
  | [], [] => rfl
  | [], _ :: _ => by rw [cmpB_nil_cons, cmpB_cons_nil]; rfl
  | _ :: _, [] => by rw [cmpB_nil_cons, cmpB_cons_nil]
theorem cmpB_ofB : ∀ a b : List UInt8, cmpB (ofB a) (ofB b) = cmpB a b
  | x :: a, y :: b => by
    rw [ofB_cons, ofB_cons, cmpB_cons, cmpB_cons, cmpB_cons, cmpB_ofB a b]
    have hx := x.toNat_lt
    have hy := y.toNat_lt
    by_cases h : x = y
    · subst h; simp
    · rw [if_neg h]
      by_cases h1 : x / 16 = y / 16
      · have h2 : ¬ x % 16 = y % 16 := fun e => h (half_eq x y h1 e)
        have e1 : x.toNat / 16 = y.toNat / 16 := by have := congrArg UInt8.toNat h1; simpa [UInt8.toNat_div] using this
        rw [if_pos h1, if_neg h2, UInt8.toNat_mod, UInt8.toNat_mod]
        simp only [show (16 : UInt8).toNat = 16 from rfl]
        by_cases hlt : x.toNat < y.toNat
        · rw [if_pos hlt, if_pos (by omega)]
        · rw [if_neg hlt, if_neg (by omega)]
      · have e1 : x.toNat / 16 ≠ y.toNat / 16 := fun e => h1 (UInt8.toNat_inj.1 (by simpa [UInt8.toNat_div] using e))
        rw [if_neg h1, UInt8.toNat_div, UInt8.toNat_div]
        simp only [show (16 : UInt8).toNat = 16 from rfl]
        by_cases hlt : x.toNat < y.toNat
        · rw [if_pos hlt, if_pos (by omega)]
        · rw [if_neg hlt, if_neg (by omega)]
  | [], [] => rfl
  | [], y :: b => by rw [ofB_cons, cmpB_nil_cons]; exact cmpB_nil_cons _ _
  | x :: a, [] => by rw [ofB_cons, cmpB_cons_nil]; exact cmpB_cons_nil _ _
end Go.Proofs.Ytlmnkepgljbdiaa
