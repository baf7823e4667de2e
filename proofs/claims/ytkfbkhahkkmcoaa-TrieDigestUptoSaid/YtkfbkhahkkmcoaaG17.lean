/- Halves of bytes: plain laws of the functions: there and back, order, what is joined. Reference 08: the walks of right, stub, Get. -/
import Derived.Test.YtkfbkhahkkmcoaaG15
import Derived.Test.YtkfbkhahkkmcoaaG16
import Derived.Test.YtkfbkhahkkmcoaaG13
namespace Go.Proofs.Ytkfbkhahkkmcoaa

theorem ofB_cons (c : UInt8) (l : List UInt8) : ofB (c :: l) = c / 16 :: c % 16 :: ofB l := rfl
theorem div_mod (c : UInt8) : 16 * (c / 16) + c % 16 = c := by
  apply UInt8.toNat_inj.1
  rw [UInt8.toNat_add, UInt8.toNat_mul, UInt8.toNat_div, UInt8.toNat_mod]
  have := c.toNat_lt
  simp; omega
theorem joinB_ofB (l : List UInt8) : joinB (ofB l) = l := by
  induction l with
  | nil => rfl
  | cons c l ih => rw [ofB_cons, joinB, ih, div_mod]
theorem bytes_ofB (l : List UInt8) : bytesE (ofB l) = 0 ∧ bytesL (ofB l) = l := by
  obtain ⟨h1, h2⟩ := bytesE_ok (halvesB_ofB l) (by rw [ofB_length]; omega)
  exact ⟨h1, by rw [h2, joinB_ofB]⟩
theorem up (a b : UInt8) (ha : a ≤ 15) (hb : b ≤ 15) : (16 * a + b) / 16 = a ∧ (16 * a + b) % 16 = b := by
  have h1 := UInt8.le_iff_toNat_le.1 ha
  have h2 := UInt8.le_iff_toNat_le.1 hb
  constructor <;> apply UInt8.toNat_inj.1
  · rw [UInt8.toNat_div, UInt8.toNat_add, UInt8.toNat_mul]; simp at *; omega
  · rw [UInt8.toNat_mod, UInt8.toNat_add, UInt8.toNat_mul]; simp at *; omega
theorem ofB_joinB : ∀ (l : List UInt8), halvesB l = true → l.length % 2 = 0 → ofB (joinB l) = l
  | a :: b :: r, h, k => by
    have ha := halvesB_le _ h a (by simp)
    have hb := halvesB_le _ h b (by simp)
    have hr : halvesB r = true := halvesB_dropP (l := a :: b :: r) h 2
    rw [joinB, ofB_cons, (up a b ha hb).1, (up a b ha hb).2, ofB_joinB r hr (by simp at k; omega)]
  | [a], _, k => by simp at k
  | [], _, _ => rfl
theorem at8_b8 (x : Int) (h0 : 0 ≤ x) (h1 : x ≤ 255) (l : List UInt8) : at8 (b8 x :: l) 0 = x := by
  show (((b8 x).toNat : Nat) : Int) = x
  unfold b8; rw [UInt8.toNat_ofNat']; omega
theorem b8_at0 (c : UInt8) (l : List UInt8) : b8 (at8 (c :: l) 0) = c := b8_nat c

/-- What is packed is unpacked as it was. -/
theorem unpack_pack (l : List UInt8) (leaf : Bool) (h : halvesB l = true) : unpackE (packL l leaf) = 0 ∧ unpackB (packL l leaf) = leaf ∧ unpackL (packL l leaf) = l ∧ (packL l leaf).length = l.length / 2 + 1 := by
  by_cases hodd : l.length % 2 = 1
  · have e := packL_odd h hodd leaf _ rfl
    have a0 := at8_lo l 0
    have a1 := halvesB_at l h 0
    obtain ⟨x, hx⟩ : ∃ x : Int, x = (if leaf = true then 32 else 0) + 16 + at8 l 0 := ⟨_, rfl⟩
    have hx' : 0 ≤ x ∧ x ≤ 63 ∧ x / 16 % 2 = 1 ∧ x % 16 = at8 l 0 ∧ (x / 32 % 2 = 1 ↔ leaf = true) := by subst hx; cases leaf <;> simp <;> omega
    rw [← hx] at e
    rw [e, List.singleton_append]
    have hat := at8_b8 x (by omega) (by omega) (joinB (l.drop 1))
    have hok : unpackOk (b8 x :: joinB (l.drop 1)) = true := by unfold unpackOk; rw [hat]; simp [hx'.2.2.1]; omega
    obtain ⟨u1, u2, u3⟩ := unpack_ok (b := b8 x :: joinB (l.drop 1)) (by simp) hok
    rw [hat] at u2 u3
    refine ⟨u1, ?_, ?_, ?_⟩
    · rw [u2, Bool.eq_iff_iff]; simp [hx'.2.2.2.2]
    · rw [u3, if_pos hx'.2.2.1, hx'.2.2.2.1]
      rw [show (b8 x :: joinB (l.drop 1)).drop 1 = joinB (l.drop 1) from rfl, ofB_joinB _ (halvesB_dropP h 1) (by rw [List.length_drop]; omega)]
      rcases l with _ | ⟨c, l⟩
      · simp at hodd
      · rw [b8_at0]; rfl
    · rw [List.length_cons, joinB_length, List.length_drop]; omega
  · have e := packL_even h (by omega) leaf _ rfl
    obtain ⟨x, hx⟩ : ∃ x : Int, x = if leaf = true then 32 else 0 := ⟨_, rfl⟩
    have hx' : 0 ≤ x ∧ x ≤ 63 ∧ x / 16 % 2 = 0 ∧ x % 16 = 0 ∧ (x / 32 % 2 = 1 ↔ leaf = true) := by subst hx; cases leaf <;> simp
    rw [← hx] at e
    rw [e, List.singleton_append]
    have hat := at8_b8 x (by omega) (by omega) (joinB l)
    have hok : unpackOk (b8 x :: joinB l) = true := by unfold unpackOk; rw [hat]; simp [hx'.2.2.2.1]; omega
    obtain ⟨u1, u2, u3⟩ := unpack_ok (b := b8 x :: joinB l) (by simp) hok
    rw [hat] at u2 u3
    refine ⟨u1, ?_, ?_, ?_⟩
    · rw [u2, Bool.eq_iff_iff]; simp [hx'.2.2.2.2]
    · rw [u3, if_neg (by omega)]
      rw [show (b8 x :: joinB l).drop 1 = joinB l from rfl, ofB_joinB _ h (by omega)]; rfl
    · rw [List.length_cons, joinB_length]

/-- What is unpacked is packed as it was. -/
theorem pack_unpack (b : List UInt8) (h : unpackE b = 0) : packE (unpackL b) = 0 ∧ packL (unpackL b) (unpackB b) = b := by
  by_cases hl : b.length = 0
  · simp [unpackE, hl] at h
  · have hok : unpackOk b = true := by
      by_cases hk : unpackOk b = true
      · exact hk
      · simp [unpackE, hl, hk] at h
    obtain ⟨_, u2, u3⟩ := unpack_ok hl hok
    rcases b with _ | ⟨c, r⟩
    · simp at hl
    · have e0 : at8 (c :: r) 0 = (c.toNat : Int) := rfl
      have c1 := c.toNat_lt
      unfold unpackOk at hok
      rw [e0] at u2 u3 hok
      simp only [Bool.and_eq_true, Bool.or_eq_true, decide_eq_true_eq] at hok
      rw [show (c :: r).drop 1 = r from rfl] at u3
      have hr := halvesB_ofB r
      by_cases hodd : (c.toNat : Int) / 16 % 2 = 1
      · rw [if_pos hodd] at u3
        have hm : 0 ≤ (c.toNat : Int) % 16 ∧ (c.toNat : Int) % 16 ≤ 15 := by omega
        have hh : halvesB ([b8 ((c.toNat : Int) % 16)] ++ ofB r) = true := halvesB_cons _ _ (b8_le _ hm.1 hm.2) hr
        rw [u3, u2]
        refine ⟨packE_ok hh, ?_⟩
        rw [packL_odd hh (by rw [List.length_append, ofB_length]; simp) _ _ rfl]
        simp only [List.singleton_append]
        rw [at8_b8 _ hm.1 (by omega)]
        rw [show (b8 ((c.toNat : Int) % 16) :: ofB r).drop 1 = ofB r from rfl, joinB_ofB]
        congr 1
        rw [← b8_nat c]
        congr 1
        rw [b8_nat c]
        by_cases h32 : (c.toNat : Int) / 32 % 2 = 1 <;> simp [h32] <;> omega
      · rw [if_neg hodd, List.nil_append] at u3
        rw [u3, u2]
        refine ⟨packE_ok hr, ?_⟩
        rw [packL_even hr (by rw [ofB_length]; omega) _ _ rfl, joinB_ofB, List.singleton_append]
        congr 1
        rw [← b8_nat c]
        congr 1
        rw [b8_nat c]
        by_cases h32 : (c.toNat : Int) / 32 % 2 = 1 <;> simp [h32] <;> omega
theorem unpack_fail (b : List UInt8) (h : unpackE b ≠ 0) : unpackL b = [] ∧ unpackB b = false := by
  by_cases hl : b.length = 0
  · exact ⟨(unpack_nil hl).2.2, (unpack_nil hl).2.1⟩
  · have hk : unpackOk b = false := by
      cases hk : unpackOk b with
      | true => exact absurd (unpack_ok hl hk).1 h
      | false => rfl
    exact ⟨(unpack_no hl hk).2.2, (unpack_no hl hk).2.1⟩
theorem packE_iff (l : List UInt8) : packE l = 0 ↔ halvesB l = true := by
  unfold packE; split <;> simp_all

theorem half_eq (a b : UInt8) (h1 : a / 16 = b / 16) (h2 : a % 16 = b % 16) : a = b := by rw [← div_mod a, ← div_mod b, h1, h2]
theorem commonB_self (l : List UInt8) : commonB l l = l.length := by
  induction l with
  | nil => rfl
  | cons c l ih => unfold commonB; rw [if_pos rfl, ih]; rfl
theorem commonB_ofB : ∀ a b : List UInt8, 2 * commonB a b ≤ commonB (ofB a) (ofB b) ∧ commonB (ofB a) (ofB b) ≤ 2 * commonB a b + 1
  | x :: a, y :: b => by
    rw [ofB_cons, ofB_cons]
    have ih := commonB_ofB a b
    by_cases h : x = y
    · subst h
      simp only [commonB, if_true]
      omega
    · have e : commonB (x :: a) (y :: b) = 0 := by simp [commonB, h]
      rw [e]
      by_cases h1 : x / 16 = y / 16
      · by_cases h2 : x % 16 = y % 16
        · exact absurd (half_eq x y h1 h2) h
        · simp [commonB, h1, h2]
      · simp [commonB, h1]
  | [], b => by simp [commonB, ofB]
  | _ :: _, [] => by simp [commonB, ofB]
theorem commonB_append (x y : List UInt8) : commonB x (x ++ y) = x.length := by
  induction x with
  | nil => simp [commonB]
  | cons c l ih => simp [commonB, ih]
theorem cmpB_append (x y : List UInt8) : cmpB x (x ++ y) ≤ 0 := by
  by_cases h : y = []
  · rw [cmpB_eq (commonB_append x y) rfl (by simp [h])]; omega
  · rw [cmpB_lt (commonB_append x y) rfl (fun e => h (List.eq_nil_of_length_eq_zero (by rw [List.length_append] at e; omega)))]; omega
theorem commonB_symm : ∀ a b : List UInt8, commonB a b = commonB b a
  | x :: a, y :: b => by
    unfold commonB
    by_cases h : x = y
    · rw [if_pos h, if_pos h.symm, commonB_symm a b]
    · rw [if_neg h, if_neg (fun e => h e.symm)]
  | [], [] => rfl
  | [], _ :: _ => by simp [commonB]
  | _ :: _, [] => by simp [commonB]
/-- cmpB, one byte at a time. -/
theorem cmpB_cons (x y : UInt8) (a b : List UInt8) : cmpB (x :: a) (y :: b) = if x = y then cmpB a b else if x.toNat < y.toNat then -1 else 1 := by
  by_cases h : x = y
  · subst h
    rw [if_pos rfl]
    unfold cmpB
    simp only [commonB, if_true, List.length_cons, Nat.add_right_cancel_iff, Nat.add_lt_add_iff_right]
    have e : ∀ (l : List UInt8) (k : Nat), at8 (x :: l) (k + 1) = at8 l k := fun l k => by unfold at8; rfl
    simp only [e]
  · rw [if_neg h]
    have hc : commonB (x :: a) (y :: b) = 0 := by simp [commonB, h]
    by_cases hlt : x.toNat < y.toNat
    · rw [if_pos hlt, cmpB_at_lt hc (by simp) (by show ((x.toNat : Nat) : Int) < (y.toNat : Nat); omega) (by simp)]
    · rw [if_neg hlt, cmpB_at_ge hc (by simp) (by show ¬ ((x.toNat : Nat) : Int) < (y.toNat : Nat); omega)]
theorem cmpB_nil : cmpB [] [] = 0 := rfl
theorem cmpB_nil_cons (y : UInt8) (b : List UInt8) : cmpB [] (y :: b) = -1 := cmpB_lt (n := 0) (by simp [commonB]) rfl (by simp)
theorem cmpB_cons_nil (x : UInt8) (a : List UInt8) : cmpB (x :: a) [] = 1 := cmpB_gt (n := 0) (by simp [commonB]) (by simp) (by simp)
theorem cmpB_symm : ∀ a b : List UInt8, cmpB b a = - cmpB a b
  | x :: a, y :: b => by
    rw [cmpB_cons, cmpB_cons]
    by_cases h : x = y
    · rw [if_pos h, if_pos h.symm, cmpB_symm a b]
    · have hn : x.toNat ≠ y.toNat := fun e => h (UInt8.toNat_inj.1 e)
      rw [if_neg h, if_neg (fun e => h e.symm)]
      by_cases hlt : x.toNat < y.toNat
      · rw [if_pos hlt, if_neg (by omega)]; rfl
      · rw [if_neg hlt, if_pos (by omega)]
  | [], [] => rfl
  | [], _ :: _ => by rw [cmpB_nil_cons, cmpB_cons_nil]; rfl
  | _ :: _, [] => by rw [cmpB_nil_cons, cmpB_cons_nil]
theorem cmpB_ofB : ∀ a b : List UInt8, cmpB (ofB a) (ofB b) = cmpB a b
  | x :: a, y :: b => by
    rw [ofB_cons, ofB_cons, cmpB_cons, cmpB_cons, cmpB_cons, cmpB_ofB a b]
    have hx := x.toNat_lt
    have hy := y.toNat_lt
    by_cases h : x = y
    · subst h; simp
    · rw [if_neg h]
      by_cases h1 : x / 16 = y / 16
      · have h2 : ¬ x % 16 = y % 16 := fun e => h (half_eq x y h1 e)
        have e1 : x.toNat / 16 = y.toNat / 16 := by have := congrArg UInt8.toNat h1; simpa [UInt8.toNat_div] using this
        rw [if_pos h1, if_neg h2, UInt8.toNat_mod, UInt8.toNat_mod]
        simp only [show (16 : UInt8).toNat = 16 from rfl]
        by_cases hlt : x.toNat < y.toNat
        · rw [if_pos hlt, if_pos (by omega)]
        · rw [if_neg hlt, if_neg (by omega)]
      · have e1 : x.toNat / 16 ≠ y.toNat / 16 := fun e => h1 (UInt8.toNat_inj.1 (by simpa [UInt8.toNat_div] using e))
        rw [if_neg h1, UInt8.toNat_div, UInt8.toNat_div]
        simp only [show (16 : UInt8).toNat = 16 from rfl]
        by_cases hlt : x.toNat < y.toNat
        · rw [if_pos hlt, if_pos (by omega)]
        · rw [if_neg hlt, if_neg (by omega)]
  | [], [] => rfl
  | [], y :: b => by rw [ofB_cons, cmpB_nil_cons]; exact cmpB_nil_cons _ _
  | x :: a, [] => by rw [ofB_cons, cmpB_cons_nil]; exact cmpB_cons_nil _ _
end Go.Proofs.Ytkfbkhahkkmcoaa
namespace Go.Proofs.Ytkfbkhahkkmcoaa
open Go.RowKit
theorem is_begins : isFn Try.prog 32 = true := by kernel_rfl
theorem is_cmp04 : isFn Try.prog 26 = true := by kernel_rfl
theorem is_r8right : isFn Try.prog 68 = true := by kernel_rfl
theorem is_r8stub : isFn Try.prog 69 = true := by kernel_rfl
theorem is_r8get : isFn Try.prog 41 = true := by kernel_rfl
theorem is_rof : isFn Try.prog 50 = true := by kernel_rfl
theorem cmpB_zero : ∀ {a b : List UInt8}, cmpB a b = 0 ↔ a = b
  | [], [] => by simp [cmpB_nil]
  | [], y :: b => by rw [cmpB_nil_cons]; simp
  | x :: a, [] => by rw [cmpB_cons_nil]; simp
  | x :: a, y :: b => by
    rw [cmpB_cons]
    by_cases h : x = y
    · rw [if_pos h, cmpB_zero (a := a) (b := b), h]; simp
    · rw [if_neg h]
      constructor
      · intro e; split at e <;> exact absurd e (by decide)
      · intro e; injection e with e; exact absurd e h
theorem pre_take {a b : List UInt8} : b <+: a ↔ b.length ≤ a.length ∧ a.take b.length = b :=
  ⟨fun h => ⟨h.length_le, (List.prefix_iff_eq_take.1 h).symm⟩, fun h => List.prefix_iff_eq_take.2 h.2.symm⟩
set_option maxRecDepth 100000 in
theorem begins_any (A1 A2 : Option Addr) (n m c1 c2 : Nat) (a b : List UInt8) (w : World) (h1 : Rd w w.heap.size A1 n a) (hc1 : n ≤ c1) (h2 : Rd w w.heap.size A2 m b) (hn : n ≤ 1000000000) (hm : m ≤ 1000000000) :
    Calls Try.prog 32 #[.slice A1 n c1, .slice A2 m c2] w fun e w' => ∃ q : Bool, e = .returned (.bool q) ∧ (q = true ↔ b <+: a) ∧ Below w.heap.size w w' := by
  refine calls_ev (args := [.slice A1 n c1, .slice A2 m c2]) mixed Try.func32 rfl (by kernel_rfl) ?_
  have e1 := h1.len
  have e2 := h2.len
  refine p_len slb rfl ?_
  refine p_len slb rfl ?_
  refine p_ge rfl rfl (fun h => ?_) (fun h => ?_)
  · refine p_len slb rfl ?_
    refine p_slice (i := 0) (j := m) (m := c1) slb rfl rfl (bnd_i rfl) rfl rfl (by omega) (by omega) (Nat.le_refl _) ?_
    refine cc is_cmp04 (cmp04_any _ _ _ _ _ _ _ (a.take m) b _ (h1.slh (by omega) (by omega)) h2 (by omega) (by omega)) ?_
    rintro e W ⟨rfl, d, rfl⟩
    refine ⟨_, rfl, ?_⟩
    refine p_eq rfl rfl (fun h0 => ?_) (fun h0 => ?_)
    · exact ⟨true, rfl, ⟨fun _ => pre_take.2 ⟨by omega, by rw [e2]; exact cmpB_zero.1 h0⟩, fun _ => rfl⟩, below_drewN (Below.refl _ _) d⟩
    · exact ⟨false, rfl, ⟨(fun h => by cases h), fun h => absurd (cmpB_zero.2 (by have := (pre_take.1 h).2; rw [e2] at this; exact this)) h0⟩, below_drewN (Below.refl _ _) d⟩
  · exact ⟨false, rfl, ⟨(fun h => by cases h), fun h' => absurd h'.length_le (by omega)⟩, Below.refl _ _⟩
set_option maxRecDepth 100000 in
theorem r8right_any (t : Nd) (ht : sz t < 1000000000) (gs : List (Option Nat)) (w : World) (cs : List Value) (Ak Av : Option Addr) (nk ck nv cv : Nat) (hr : RdL w (Fd w gs) (dN t) cs) (hgs : ∀ b, some b ∈ gs → b < w.heap.size) :
    Calls Try.prog 68 #[.agg cs.toArray, .slice Ak nk ck, .slice Av nv cv] w fun e w' => e = .returned (.bool (tri t nk nv)) ∧ Below w.heap.size w w' := by
  refine calls_ev (args := [.agg cs.toArray, .slice Ak nk ck, .slice Av nv cv]) mixed Try.func68 rfl (by kernel_rfl) ?_
  have hl := hr.len
  rw [dN_len] at hl
  have M := (St.start hgs).addL hr
  refine s_box (cs) M rfl ?_
  clear M
  rintro g3 W M
  refine v_loadN cs agg_nd rfl hl (M.run 0 rfl) ?_
  refine cc is_r7check (r7check_any t ht _ _ cs (by first | with_reducible exact M.da_0 | with_reducible exact M.da_1 | with_reducible exact M.da_2 | with_reducible exact M.da_3 | with_reducible exact M.da_4 | with_reducible exact M.da_5 | with_reducible exact M.da_6 | with_reducible exact M.da_7 | with_reducible exact M.da_8 | with_reducible exact M.da_9 | with_reducible exact M.da_10 | with_reducible exact M.da_11) M.olt) ?_
  rintro e W ⟨rfl, hb⟩
  refine ⟨_, rfl, ?_⟩
  replace M := M.call hb
  unfold checkE tri
  cases h : rightP true t 0 with
  | false =>
    refine p_eq rfl rfl (fun h => absurd (show (2 : Int) = 0 from h) (by decide)) (fun _ => ?_)
    exact ⟨rfl, M.below⟩
  | true =>
    refine p_eq rfl rfl (fun _ => ?_) (fun h => absurd (show (0 : Int) = 0 from rfl) h)
    refine p_len slb rfl ?_
    refine p_le rfl rfl (fun h1 => ?_) (fun h1 => ?_)
    · refine p_len slb rfl ?_
      refine p_le rfl rfl (fun h2 => ?_) (fun h2 => ?_)
      · exact ⟨by rw [decide_eq_true (show nk ≤ 200 by omega), decide_eq_true (show nv ≤ 4000 by omega)]; rfl, M.below⟩
      · exact ⟨by rw [decide_eq_true (show nk ≤ 200 by omega), decide_eq_false (show ¬ nv ≤ 4000 by omega)]; rfl, M.below⟩
    · exact ⟨by rw [decide_eq_false (show ¬ nk ≤ 200 by omega)]; rfl, M.below⟩
/-- The first stub on the way of halves. -/
def stubL (l : List It) (q : List UInt8) : Option (List UInt8) := (l.find? fun x => x.stub && decide (x.path <+: q)).map (·.path)
theorem find_drop {p : It → Bool} {l : List It} {i : Nat} {x : It} (h : l[i]? = some x) : (l.drop i).find? p = if p x then some x else (l.drop (i + 1)).find? p := by
  have h1 := List.getElem?_eq_some_iff.1 h
  rw [List.drop_eq_getElem_cons h1.1, h1.2, List.find?_cons]
  cases p x <;> rfl
set_option maxRecDepth 100000 in
set_option maxHeartbeats 1000000 in
theorem r8stub_any (l : List It) (q : List UInt8) (gs : List (Option Nat)) (w : World) (A Aq : Option Addr) (n c nq cq : Nat) (hr : RdD w (Fd w gs) (dIl l) (.slice A n c)) (hq : RdD w (Fd w gs) (dB q) (.slice Aq nq cq)) (hgs : ∀ b, some b ∈ gs → b < w.heap.size) (hb : itBig l) (hqb : nq ≤ 1000000000) :
    Calls Try.prog 69 #[.slice A n c, .slice Aq nq cq] w fun e w' => ∃ A' n' c', e = .returned (.tuple #[.slice A' n' c', .bool (stubL l q).isSome]) ∧ RdD w' (Fd w' gs) (dB ((stubL l q).getD [])) (.slice A' n' c') ∧ Below w.heap.size w w' := by
  refine calls_ev (args := [.slice A n c, .slice Aq nq cq]) mixed Try.func69 rfl (by kernel_rfl) ?_
  have en := hr.slen
  have M := ((St.start hgs).addD hq).addD hr
  obtain ⟨hb1, hb2⟩ := hb
  obtain ⟨T, hT⟩ : ∃ T, T = stubL l q := ⟨_, rfl⟩
  rw [← hT]
  obtain ⟨p, hp⟩ : ∃ p : It → Bool, p = fun x => x.stub && decide (x.path <+: q) := ⟨_, rfl⟩
  replace hT : T = (l.find? p).map (·.path) := by rw [hT, hp]; rfl
  refine lp Nat (fun i W => i ≤ n ∧ St w gs W [] [] [.dat false [dIl l] [.slice A n c], .dat false [dB q] [.slice Aq nq cq]] ∧ T = ((l.drop i).find? p).map (·.path)) (fun i => [(0, .slice A n c), (1, .slice Aq nq cq), (6, .int .i64 i)]) (fun i => n - i) 0 ⟨Nat.zero_le _, M, hT⟩ (by repeat (first | exact trivial | refine ⟨rfl, ?_⟩)) ?_
  clear M hT
  rintro i E5 W5 ⟨hi, M, hT⟩
  refine p_len sli rfl ?_
  refine p_lt rfl rfl (fun hlt => ?_) (fun hge => ?_)
  · obtain ⟨x, hxi⟩ : ∃ x, l[i]? = some x := ⟨_, List.getElem?_eq_getElem (by omega)⟩
    have hbx := hb2 x (List.mem_of_getElem? hxi)
    rw [find_drop hxi] at hT
    obtain ⟨b, off, Ap, cp, Av, cv, Ah, ch, rfl, M'⟩ := M.item (i := i) (M.d1 0 rfl) hxi
    replace M := M'; clear M'
    refine p_at sli rfl rfl rfl (by omega) ?_
    refine p_fld fI2 rfl ?_
    refine v_load agg_bo rfl (by first | exact (M.B 0 rfl).at_ rfl | exact (M.B 1 rfl).at_ rfl | exact (M.B 2 rfl).at_ rfl | exact (M.B 3 rfl).at_ rfl | exact (M.B 4 rfl).at_ rfl | exact M.lc 0 rfl _ _ rfl | exact M.lc 1 rfl _ _ rfl | exact M.lc 2 rfl _ _ rfl | exact M.lc 3 rfl _ _ rfl | exact M.lc 4 rfl _ _ rfl | exact M.lc 5 rfl _ _ rfl | exact M.lc 6 rfl _ _ rfl | exact M.lc 7 rfl _ _ rfl) ?_
    cases hst : x.stub with
    | false =>
      rw [if_neg (by rw [hp]; simp [hst])] at hT
      refine p_addN (b := 1) rfl rfl (by omega) ?_
      exact ⟨i + 1, ⟨by omega, M.fsub _ (by simp), hT⟩, (by repeat (first | exact trivial | refine ⟨rfl, ?_⟩)), by omega⟩
    | true =>
      refine p_at sli rfl rfl rfl (by omega) ?_
      refine p_fld fI0 rfl ?_
      refine v_load agg_b rfl (by first | exact (M.B 0 rfl).at_ rfl | exact (M.B 1 rfl).at_ rfl | exact (M.B 2 rfl).at_ rfl | exact (M.B 3 rfl).at_ rfl | exact (M.B 4 rfl).at_ rfl | exact M.lc 0 rfl _ _ rfl | exact M.lc 1 rfl _ _ rfl | exact M.lc 2 rfl _ _ rfl | exact M.lc 3 rfl _ _ rfl | exact M.lc 4 rfl _ _ rfl | exact M.lc 5 rfl _ _ rfl | exact M.lc 6 rfl _ _ rfl | exact M.lc 7 rfl _ _ rfl) ?_
      refine cc is_begins (begins_any _ _ _ _ _ _ q x.path _ (M.rdb 6 rfl).2.2 (M.rdb 6 rfl).2.1 (M.rdb 2 rfl).2.2 (by omega) (by omega)) ?_
      rintro e W ⟨s, rfl, hs, hbel⟩
      replace M := M.call hbel
      refine ⟨_, rfl, ?_⟩
      cases s with
      | false =>
        rw [if_neg (by rw [hp]; simp [hst]; exact fun h => absurd (hs.2 h) (by decide))] at hT
        refine p_addN (b := 1) rfl rfl (by omega) ?_
        exact ⟨i + 1, ⟨by omega, M.fsub _ (by simp), hT⟩, (by repeat (first | exact trivial | refine ⟨rfl, ?_⟩)), by omega⟩
      | true =>
        rw [if_pos (by rw [hp]; simp [hst]; exact hs.1 rfl)] at hT
        refine p_at sli rfl rfl rfl (by omega) ?_
        refine p_fld fI0 rfl ?_
        refine v_load agg_b rfl (by first | exact (M.B 0 rfl).at_ rfl | exact (M.B 1 rfl).at_ rfl | exact (M.B 2 rfl).at_ rfl | exact (M.B 3 rfl).at_ rfl | exact (M.B 4 rfl).at_ rfl | exact M.lc 0 rfl _ _ rfl | exact M.lc 1 rfl _ _ rfl | exact M.lc 2 rfl _ _ rfl | exact M.lc 3 rfl _ _ rfl | exact M.lc 4 rfl _ _ rfl | exact M.lc 5 rfl _ _ rfl | exact M.lc 6 rfl _ _ rfl | exact M.lc 7 rfl _ _ rfl) ?_
        rw [hT]
        exact ⟨Ap, _, cp, rfl, M.fin1 2 rfl, M.below⟩
  · rw [List.drop_of_length_le (by omega)] at hT
    rw [hT]
    exact ⟨none, 0, 0, rfl, RdD.nil_ _ _, M.below⟩
mutual
theorem itemsP_big : ∀ (t : Nd) (way : List UInt8) (known : Bool), ∀ x ∈ itemsP t way known, x.path.length + 6 ≤ way.length + sz t ∧ x.val.length ≤ sz t ∧ x.hash.length ≤ sz t
  | .mk k p has v ks h, way, known, x, hx => by
    rw [itemsP] at hx
    rw [sz]
    split at hx
    · simp only [List.mem_cons, List.not_mem_nil, or_false] at hx
      subst hx
      simp only [List.length_append, List.length_nil]; omega
    · rcases List.mem_append.1 hx with hx | hx
      · split at hx
        · simp only [List.mem_cons, List.not_mem_nil, or_false] at hx
          subst hx
          simp only [List.length_append, List.length_nil]; omega
        · cases hx
      · have := itemsK_big ks _ _ _ _ x hx
        simp only [List.length_append] at this
        omega
theorem itemsK_big : ∀ (ks : List Nd) (br known : Bool) (i : Nat) (at_ : List UInt8), ∀ x ∈ itemsK ks br known i at_, x.path.length + 5 ≤ at_.length + szs ks ∧ x.val.length ≤ szs ks ∧ x.hash.length ≤ szs ks
  | [], _, _, _, _, x, hx => by rw [itemsK] at hx; cases hx
  | t :: ts, br, known, i, at_, x, hx => by
    rw [itemsK] at hx
    rw [szs]
    rcases List.mem_append.1 hx with hx | hx
    · have := itemsP_big t _ _ x hx
      split at this
      · simp only [List.length_append, List.length_cons, List.length_nil] at this; omega
      · omega
    · have := itemsK_big ts _ _ _ _ x hx
      omega
end
theorem items_itBig {t : Nd} (h : sz t ≤ 10000000) (known : Bool) : itBig (itemsP t [] known) :=
  ⟨by have := itemsP_len t [] known; omega, fun x hx => by have := itemsP_big t [] known x hx; simp only [List.length_nil] at this; omega⟩
theorem rof_any (A : Option Addr) (n c : Nat) (l : List UInt8) (w : World) (hr : Rd w w.heap.size A n l) (hn : n ≤ 100000000000) :
    Calls Try.prog 50 #[.slice A n c] w fun e w' => ∃ A' c', e = .returned (.slice A' (2 * n) c') ∧ Own w' w.heap.size A' (2 * n) c' (ofB l) ∧ Below w.heap.size w w' :=
  (refOf_any A n c l w hr hn).mono fun _ _ ⟨h1, h2, h3⟩ => ⟨_, _, h1, h2, h3⟩
def rGet (t : Nd) (key : List UInt8) : GotE :=
  if tri t key.length 0 then (match stubL (itemsP t [] true) (ofB key) with
    | some r => ⟨[], false, some r, 80⟩
    | none => (match (itemsP t [] true).find? (fun x => decide (x.path = ofB key)) with
      | some x => ⟨x.val, true, none, 0⟩
      | none => ⟨[], false, none, 0⟩))
  else ⟨[], false, none, 2⟩
set_option maxRecDepth 100000 in
set_option maxHeartbeats 1000000 in
theorem r8get_any (t : Nd) (ht : sz t ≤ 10000000) (key : List UInt8) (gs : List (Option Nat)) (w : World) (cs : List Value) (A : Option Addr) (n c : Nat) (hr : RdL w (Fd w gs) (dN t) cs) (hk : RdD w (Fd w gs) (dB key) (.slice A n c)) (hgs : ∀ b, some b ∈ gs → b < w.heap.size) :
    Calls Try.prog 41 #[.agg cs.toArray, .slice A n c] w fun e w' => ∃ A' n' c' Am nm cm, e = .returned (.tuple #[.slice A' n' c', .bool (rGet t key).has, .slice Am nm cm, .int .i64 (rGet t key).e]) ∧ RdD w' (Fd w' gs) (dB (rGet t key).v) (.slice A' n' c') ∧ RdD w' (Fd w' gs) (dB ((rGet t key).miss.getD [])) (.slice Am nm cm) ∧ Below w.heap.size w w' := by
  refine calls_ev (args := [.agg cs.toArray, .slice A n c]) mixed Try.func41 rfl (by kernel_rfl) ?_
  have hl := hr.len
  rw [dN_len] at hl
  have en := hk.slen
  subst en
  have M := ((St.start hgs).addD hk).addL hr
  refine s_box (cs) M rfl ?_
  clear M
  rintro g2 W M
  refine v_loadN cs agg_nd rfl hl (M.run 0 rfl) ?_
  refine cc is_r8right (r8right_any t (by omega) _ _ cs A none _ c 0 0 (by first | with_reducible exact M.da_0 | with_reducible exact M.da_1 | with_reducible exact M.da_2 | with_reducible exact M.da_3 | with_reducible exact M.da_4 | with_reducible exact M.da_5 | with_reducible exact M.da_6 | with_reducible exact M.da_7 | with_reducible exact M.da_8 | with_reducible exact M.da_9 | with_reducible exact M.da_10 | with_reducible exact M.da_11) M.olt) ?_
  rintro e W ⟨rfl, hb⟩
  refine ⟨_, rfl, ?_⟩
  replace M := M.call hb
  refine p_not rfl ?_
  unfold rGet
  cases htri : tri t key.length 0 with
  | false => exact ⟨none, 0, 0, none, 0, 0, rfl, RdD.nil_ _ _, RdD.nil_ _ _, M.below⟩
  | true =>
  rw [if_pos rfl]
  have hkl : key.length ≤ 200 := by
    unfold tri at htri
    simp only [Bool.and_eq_true, decide_eq_true_eq] at htri
    exact htri.2.1
  refine v_loadN cs agg_nd rfl hl (M.run 0 rfl) ?_
  refine cc is_items (items_any (sz t + 1) t (by omega) _ _ cs [] none 0 0 true (by first | with_reducible exact M.da_0 | with_reducible exact M.da_1 | with_reducible exact M.da_2 | with_reducible exact M.da_3 | with_reducible exact M.da_4 | with_reducible exact M.da_5 | with_reducible exact M.da_6 | with_reducible exact M.da_7 | with_reducible exact M.da_8 | with_reducible exact M.da_9 | with_reducible exact M.da_10 | with_reducible exact M.da_11) (RdD.nil_ _ _) M.olt (by omega)) ?_
  rintro e W ⟨A1, n1, c1, rfl, h1, hb⟩
  refine ⟨_, rfl, ?_⟩
  replace M := (M.call hb).addD h1
  have en1 := h1.slen
  obtain ⟨l, hlI⟩ : ∃ l, l = itemsP t [] true := ⟨_, rfl⟩
  have hbig := items_itBig ht true
  rw [← hlI] at M en1 hbig ⊢
  clear h1
  refine cc is_rof (rof_any A _ c key _ (M.rdb 2 rfl).2.2 (by omega)) ?_
  rintro e W ⟨A5, c5, rfl, o5, hb⟩
  replace M := M.callO hb o5
  refine ⟨_, rfl, ?_⟩
  refine cc is_r8stub (r8stub_any l (ofB key) _ _ _ _ _ _ _ _ (by first | with_reducible exact M.d1_0 | with_reducible exact M.d1_1 | with_reducible exact M.d1_2 | with_reducible exact M.d1_3 | with_reducible exact M.d1_4 | with_reducible exact M.d1_5 | with_reducible exact M.d1_6 | with_reducible exact M.d1_7 | with_reducible exact M.d1_8 | with_reducible exact M.d1_9 | with_reducible exact M.d1_10 | with_reducible exact M.d1_11) (by first | with_reducible exact M.d1_0 | with_reducible exact M.d1_1 | with_reducible exact M.d1_2 | with_reducible exact M.d1_3 | with_reducible exact M.d1_4 | with_reducible exact M.d1_5 | with_reducible exact M.d1_6 | with_reducible exact M.d1_7 | with_reducible exact M.d1_8 | with_reducible exact M.d1_9 | with_reducible exact M.d1_10 | with_reducible exact M.d1_11) M.olt hbig (by omega)) ?_
  rintro e W ⟨A6, n6, c6, rfl, h6, hb⟩
  replace M := (M.call hb).addD h6
  refine ⟨_, rfl, ?_⟩
  clear h6 o5
  cases hsl : stubL l (ofB key) with
  | some r =>
    rw [hsl] at M
    exact ⟨none, 0, 0, A6, n6, c6, rfl, RdD.nil_ _ _, M.fin1 0 rfl, M.below⟩
  | none =>
    obtain ⟨p, hp⟩ : ∃ p : It → Bool, p = fun x => decide (x.path = ofB key) := ⟨_, rfl⟩
    rw [← hp]
    obtain ⟨T, hT⟩ : ∃ T, T = l.find? p := ⟨_, rfl⟩
    rw [← hT]
    obtain ⟨hb1, hb2⟩ := hbig
    obtain ⟨H, hH⟩ : ∃ H, H = 2 * key.length := ⟨_, rfl⟩
    rw [← hH] at M ⊢
    refine lp Nat (fun i W' => i ≤ n1 ∧ St w gs W' [(g2, 25, cs)] [] [.dat false [dIl l] [.slice A1 n1 c1], .dat true [dB (ofB key)] [.slice A5 H c5]] ∧ T = (l.drop i).find? p) (fun i => [(2, .pointer (some ⟨g2, 0, none⟩)), (8, .slice A1 n1 c1), (9, .slice A5 H c5), (12, .int .i64 i)]) (fun i => n1 - i) 0 ⟨Nat.zero_le _, M.fsub _ (by simp), hT⟩ (by repeat (first | exact trivial | refine ⟨rfl, ?_⟩)) ?_
    clear M hT
    rintro i E5 W5 ⟨hi, M, hT⟩
    refine p_len sli rfl ?_
    refine p_lt rfl rfl (fun hlt => ?_) (fun hge => ?_)
    · obtain ⟨x, hxi⟩ : ∃ x, l[i]? = some x := ⟨_, List.getElem?_eq_getElem (by omega)⟩
      have hbx := hb2 x (List.mem_of_getElem? hxi)
      rw [find_drop hxi] at hT
      obtain ⟨b, off, Ap, cp, Av, cv, Ah, ch, rfl, M'⟩ := M.item (i := i) (M.d1 0 rfl) hxi
      replace M := M'; clear M'
      refine p_at sli rfl rfl rfl (by omega) ?_
      refine p_fld fI0 rfl ?_
      refine v_load agg_b rfl (by first | exact (M.B 0 rfl).at_ rfl | exact (M.B 1 rfl).at_ rfl | exact (M.B 2 rfl).at_ rfl | exact (M.B 3 rfl).at_ rfl | exact (M.B 4 rfl).at_ rfl | exact M.lc 0 rfl _ _ rfl | exact M.lc 1 rfl _ _ rfl | exact M.lc 2 rfl _ _ rfl | exact M.lc 3 rfl _ _ rfl | exact M.lc 4 rfl _ _ rfl | exact M.lc 5 rfl _ _ rfl | exact M.lc 6 rfl _ _ rfl | exact M.lc 7 rfl _ _ rfl) ?_
      obtain ⟨q, hq, hc⟩ := same_tf (c1 := cp) (c2 := c5) (M.rdb 2 rfl).2.2 (M.rdb 6 rfl).2.2
      cases q with
      | false =>
        rw [if_neg (by rw [hp]; simp; exact fun h => absurd (hq.2 h) (by decide))] at hT
        refine cc is_same0 hc ?_
        rintro e W' ⟨rfl, rfl⟩
        refine ⟨_, rfl, ?_⟩
        refine p_addN (b := 1) rfl rfl (by omega) ?_
        exact ⟨i + 1, ⟨by omega, M.fsub _ (by simp), hT⟩, (by repeat (first | exact trivial | refine ⟨rfl, ?_⟩)), by omega⟩
      | true =>
        rw [if_pos (by rw [hp]; simp; exact hq.1 rfl)] at hT
        refine cc is_same0 hc ?_
        rintro e W' ⟨rfl, rfl⟩
        refine ⟨_, rfl, ?_⟩
        refine p_at sli rfl rfl rfl (by omega) ?_
        refine p_fld fI1 rfl ?_
        refine v_load agg_b rfl (by first | exact (M.B 0 rfl).at_ rfl | exact (M.B 1 rfl).at_ rfl | exact (M.B 2 rfl).at_ rfl | exact (M.B 3 rfl).at_ rfl | exact (M.B 4 rfl).at_ rfl | exact M.lc 0 rfl _ _ rfl | exact M.lc 1 rfl _ _ rfl | exact M.lc 2 rfl _ _ rfl | exact M.lc 3 rfl _ _ rfl | exact M.lc 4 rfl _ _ rfl | exact M.lc 5 rfl _ _ rfl | exact M.lc 6 rfl _ _ rfl | exact M.lc 7 rfl _ _ rfl) ?_
        refine cc is_copy0 (copy_any _ _ _ x.val _ (M.rdb 3 rfl).2.2 (by omega)) ?_
        rintro e W' ⟨A7, c7, rfl, o7, hbel⟩
        replace M := M.callO hbel o7
        refine ⟨_, rfl, ?_⟩
        rw [hT]
        exact ⟨A7, _, c7, none, 0, 0, rfl, M.fin1 0 rfl, RdD.nil_ _ _, M.below⟩
    · rw [List.drop_of_length_le (by omega)] at hT
      rw [hT]
      exact ⟨none, 0, 0, none, 0, 0, rfl, RdD.nil_ _ _, RdD.nil_ _ _, M.below⟩
end Go.Proofs.Ytkfbkhahkkmcoaa
