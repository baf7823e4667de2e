/- Numbers and bytes in one way: the plain functions and their laws. -/
import Derived.Test.YtjneoinacobbaaaBy
import Derived.Test.YtjneoinacobbaaaPlain
import Derived.WalkSmall
namespace Go.Proofs.Ytjneoinacobbaaa

/-- A number's bytes: seven bits each, the lowest first (so many at most as the first argument says). -/
def putF : Nat → Nat → List UInt8
  | 0, _ => []
  | f + 1, n => if n < 128 then [b8 (n : Int)] else b8 ((n % 128 + 128 : Nat) : Int) :: putF f (n / 128)
def putN (n : Nat) : List UInt8 := putF (n + 1) n
theorem putF_any : ∀ (f g n : Nat), n < f → n < g → putF f n = putF g n
  | f + 1, g + 1, n, hf, hg => by
    unfold putF
    by_cases h : n < 128
    · rw [if_pos h, if_pos h]
    · rw [if_neg h, if_neg h, putF_any f g (n / 128) (by omega) (by omega)]
theorem putN_lt {n : Nat} (h : n < 128) : putN n = [b8 (n : Int)] := by unfold putN putF; rw [if_pos h]
theorem putN_ge {n : Nat} (h : ¬ n < 128) : putN n = b8 ((n % 128 + 128 : Nat) : Int) :: putN (n / 128) := by
  unfold putN; rw [putF, if_neg h, putF_any n (n / 128 + 1) (n / 128) (by omega) (by omega)]
theorem putN_pos (n : Nat) : 1 ≤ (putN n).length := by
  by_cases h : n < 128
  · rw [putN_lt h]; simp
  · rw [putN_ge h]; simp
theorem putN_len : ∀ (k n : Nat), n < 128 ^ (k + 1) → (putN n).length ≤ k + 1
  | 0, n, h => by rw [putN_lt (by simpa using h)]; simp
  | k + 1, n, h => by
    by_cases h1 : n < 128
    · rw [putN_lt h1]; simp
    · rw [putN_ge h1, List.length_cons]
      have := putN_len k (n / 128) (by rw [Nat.div_lt_iff_lt_mul (by omega)]; rw [Nat.pow_succ] at h; exact h)
      omega
theorem putN_len10 {n : Nat} (h : n < 18446744073709551616) : (putN n).length ≤ 10 := putN_len 9 n (Nat.lt_of_lt_of_le h (by decide))
theorem putN_mono : ∀ (f n m : Nat), n < f → n ≤ m → (putN n).length ≤ (putN m).length
  | f + 1, n, m, hf, h => by
    by_cases h1 : n < 128
    · rw [putN_lt h1]; have := putN_pos m; simpa using this
    · rw [putN_ge h1, putN_ge (n := m) (by omega), List.length_cons, List.length_cons]
      have := putN_mono f (n / 128) (m / 128) (by omega) (Nat.div_le_div_right h)
      omega
theorem putN_128 {n : Nat} (h : 0 < n) : (putN (128 * n)).length = (putN n).length + 1 := by
  rw [putN_ge (by omega), List.length_cons, Nat.mul_div_cancel_left _ (by omega)]

/-- The number that stands at the head of some bytes, at the i-th of which we are: the number, how many bytes, an error. -/
def getF : List UInt8 → Nat → Nat → Nat × Nat × Int
  | [], _, _ => (0, 0, 10)
  | c :: l, i, acc => if (i = 9 ∧ 1 < c.toNat) ∨ (c.toNat = 0 ∧ 0 < i) then (0, 0, 11) else if c.toNat < 128 then (acc + c.toNat * 128 ^ i, i + 1, 0) else getF l (i + 1) (acc + (c.toNat - 128) * 128 ^ i)

theorem getF_step (l : List UInt8) (a k acc : Nat) (h : a + k < l.length) : getF (l.drop (a + k)) k acc =
    if (k = 9 ∧ 1 < at8 l (a + k)) ∨ (at8 l (a + k) = 0 ∧ 0 < k) then (0, 0, 11) else if at8 l (a + k) < 128 then (acc + (at8 l (a + k)).toNat * 128 ^ k, k + 1, 0) else getF (l.drop (a + (k + 1))) (k + 1) (acc + ((at8 l (a + k)).toNat - 128) * 128 ^ k) := by
  rw [List.drop_eq_getElem_cons h, getF, at8_of l _ h, Int.toNat_natCast]
  have e1 : ((k = 9 ∧ 1 < l[a + k].toNat) ∨ (l[a + k].toNat = 0 ∧ 0 < k)) ↔ ((k = 9 ∧ (1 : Int) < (l[a + k].toNat : Int)) ∨ ((l[a + k].toNat : Int) = 0 ∧ 0 < k)) := by omega
  have e2 : (l[a + k].toNat < 128) ↔ ((l[a + k].toNat : Int) < 128) := by omega
  simp only [e1, e2]
  rfl
theorem getF_end (l : List UInt8) (a k acc : Nat) (h : l.length ≤ a + k) : getF (l.drop (a + k)) k acc = (0, 0, 10) := by
  rw [List.drop_eq_nil_of_le h]; rfl

/-- What is read is a number of 64 bits, no more than there is, and written as the bytes that stand there. -/
theorem getF_ok : ∀ (l : List UInt8) (i acc n t : Nat), acc < 128 ^ i → i ≤ 9 → getF l i acc = (n, t, 0) → ∃ m, n = acc + m * 128 ^ i ∧ n < 18446744073709551616 ∧ t = i + (putN m).length ∧ t ≤ i + l.length ∧ l.take (putN m).length = putN m ∧ (0 < i → 0 < m)
  | [], i, acc, n, t, _, _, h => by simp [getF] at h
  | c :: l, i, acc, n, t, ha, hi, h => by
    rw [getF] at h
    split at h
    · simp at h
    · rename_i hc
      have hc1 : ¬ (i = 9 ∧ 1 < c.toNat) := fun e => hc (.inl e)
      have hc2 : ¬ (c.toNat = 0 ∧ 0 < i) := fun e => hc (.inr e)
      have c256 := c.toNat_lt
      split at h
      · rename_i hlt
        simp only [Prod.mk.injEq, and_true] at h
        obtain ⟨rfl, rfl⟩ := h
        have e : putN c.toNat = [c] := by rw [putN_lt hlt, b8_nat]
        refine ⟨c.toNat, rfl, ?_, by rw [e]; rfl, by simp, by rw [e]; rfl, by omega⟩
        by_cases h9 : i = 9
        · subst h9
          have : c.toNat ≤ 1 := by omega
          have hp : (128 : Nat) ^ 9 = 9223372036854775808 := by decide
          rw [hp] at ha ⊢
          have : c.toNat * 9223372036854775808 ≤ 1 * 9223372036854775808 := Nat.mul_le_mul_right _ this
          omega
        · have h1 : c.toNat * 128 ^ i ≤ 127 * 128 ^ i := Nat.mul_le_mul_right _ (by omega)
          have h2 : 128 ^ (i + 1) ≤ 128 ^ 9 := Nat.pow_le_pow_right (by omega) (by omega)
          have hp : (128 : Nat) ^ 9 = 9223372036854775808 := by decide
          rw [hp, Nat.pow_succ] at h2
          omega
      · rename_i hge
        have hi8 : i ≤ 8 := by omega
        have hpow : 128 ^ (i + 1) = 128 ^ i * 128 := Nat.pow_succ ..
        have h1 : (c.toNat - 128) * 128 ^ i ≤ 127 * 128 ^ i := Nat.mul_le_mul_right _ (by omega)
        obtain ⟨m, hn, hlt, ht, hl, htk, hm⟩ := getF_ok l (i + 1) _ n t (by rw [hpow]; omega) (by omega) h
        have hm0 := hm (by omega)
        have e : putN (c.toNat - 128 + 128 * m) = c :: putN m := by
          rw [putN_ge (by omega)]
          rw [show (c.toNat - 128 + 128 * m) % 128 + 128 = c.toNat by omega, show (c.toNat - 128 + 128 * m) / 128 = m by omega, b8_nat]
        refine ⟨c.toNat - 128 + 128 * m, ?_, hlt, by rw [e, ht, List.length_cons]; omega, by rw [List.length_cons]; omega, by rw [e, List.length_cons, List.take_succ_cons, htk], by omega⟩
        rw [hn, hpow, Nat.add_mul, Nat.add_assoc, Nat.mul_comm (128 ^ i) 128, ← Nat.mul_assoc, Nat.mul_comm m 128]
/-- A number's bytes are read as it. -/
theorem getF_put : ∀ (f m i acc : Nat) (r : List UInt8), m < f → (0 < i → 0 < m) → i ≤ 9 → m * 128 ^ i < 18446744073709551616 → getF (putN m ++ r) i acc = (acc + m * 128 ^ i, i + (putN m).length, 0)
  | f + 1, m, i, acc, r, hf, h0, hi, hm => by
    have hb : ∀ x : Nat, x < 256 → (b8 (x : Int)).toNat = x := fun x hx => by unfold b8; rw [UInt8.toNat_ofNat']; omega
    by_cases h : m < 128
    · rw [putN_lt h, List.singleton_append, getF, hb m (by omega)]
      have h9 : ¬ (i = 9 ∧ 1 < m) := by
        rintro ⟨rfl, h1⟩
        have hp : (128 : Nat) ^ 9 = 9223372036854775808 := by decide
        rw [hp] at hm; omega
      rw [if_neg (by omega), if_pos h]
      rfl
    · rw [putN_ge h, List.cons_append, getF, hb _ (by omega)]
      have h9 : i ≤ 8 := by
        by_cases e : i = 9
        · subst e
          have hp : (128 : Nat) ^ 9 = 9223372036854775808 := by decide
          rw [hp] at hm; omega
        · omega
      rw [if_neg (by omega), if_neg (by omega)]
      have hd : m % 128 + m / 128 * 128 = m := by omega
      have hpow : 128 ^ (i + 1) = 128 ^ i * 128 := Nat.pow_succ ..
      have hle : m / 128 * 128 ^ (i + 1) ≤ m * 128 ^ i := by
        rw [hpow, Nat.mul_comm (128 ^ i) 128, ← Nat.mul_assoc]
        exact Nat.mul_le_mul_right _ (by omega)
      rw [getF_put f (m / 128) (i + 1) _ r (by omega) (by omega) (by omega) (by omega)]
      have e : m % 128 + 128 - 128 = m % 128 := by omega
      rw [e, List.length_cons]
      refine Prod.ext ?_ (Prod.ext ?_ rfl)
      · show acc + m % 128 * 128 ^ i + m / 128 * 128 ^ (i + 1) = acc + m * 128 ^ i
        rw [hpow, Nat.mul_comm (128 ^ i) 128, ← Nat.mul_assoc, Nat.add_assoc, ← Nat.add_mul, hd]
      · show i + 1 + (putN (m / 128)).length = i + ((putN (m / 128)).length + 1)
        omega
/-- A number's bytes, cut short, end too soon. -/
theorem getF_cut : ∀ (f m i acc k : Nat), m < f → (0 < i → 0 < m) → i ≤ 9 → m * 128 ^ i < 18446744073709551616 → k < (putN m).length → getF ((putN m).take k) i acc = (0, 0, 10)
  | f + 1, m, i, acc, 0, hf, h0, hi, hm, hk => by simp [getF]
  | f + 1, m, i, acc, k + 1, hf, h0, hi, hm, hk => by
    have hb : ∀ x : Nat, x < 256 → (b8 (x : Int)).toNat = x := fun x hx => by unfold b8; rw [UInt8.toNat_ofNat']; omega
    by_cases h : m < 128
    · rw [putN_lt h] at hk; simp at hk
    · rw [putN_ge h] at hk ⊢
      rw [List.take_succ_cons, getF, hb _ (by omega)]
      have h9 : i ≤ 8 := by
        by_cases e : i = 9
        · subst e
          have hp : (128 : Nat) ^ 9 = 9223372036854775808 := by decide
          rw [hp] at hm; omega
        · omega
      rw [if_neg (by omega), if_neg (by omega)]
      have hpow : 128 ^ (i + 1) = 128 ^ i * 128 := Nat.pow_succ ..
      have hle : m / 128 * 128 ^ (i + 1) ≤ m * 128 ^ i := by
        rw [hpow, Nat.mul_comm (128 ^ i) 128, ← Nat.mul_assoc]
        exact Nat.mul_le_mul_right _ (by omega)
      exact getF_cut f (m / 128) (i + 1) _ k (by omega) (by omega) (by omega) (by omega) (by simpa using hk)
/-- An error's number is one of these. -/
theorem getF_err : ∀ (l : List UInt8) (i acc : Nat), (getF l i acc).2.2 = 0 ∨ ((getF l i acc).2.2 = 10 ∧ (getF l i acc).1 = 0) ∨ ((getF l i acc).2.2 = 11 ∧ (getF l i acc).1 = 0)
  | [], i, acc => by simp [getF]
  | c :: l, i, acc => by
    unfold getF
    split
    · simp
    · split
      · simp
      · exact getF_err l _ _

/-- Get: the error, the number, the place behind it. -/
def gE (l : List UInt8) (at_ : Int) : Int := if at_ < 0 ∨ (l.length : Int) < at_ then 2 else (getF (l.drop at_.toNat) 0 0).2.2
def gN (l : List UInt8) (at_ : Int) : Int := if at_ < 0 ∨ (l.length : Int) < at_ then 0 else ((getF (l.drop at_.toNat) 0 0).1 : Int)
def gTo (l : List UInt8) (at_ : Int) : Int := if gE l at_ = 0 then at_ + ((getF (l.drop at_.toNat) 0 0).2.1 : Int) else 0
theorem g_out {l : List UInt8} {a : Int} (h : a < 0 ∨ (l.length : Int) < a) : gE l a = 2 ∧ gN l a = 0 ∧ gTo l a = 0 := by
  have e : gE l a = 2 := by unfold gE; rw [if_pos h]
  exact ⟨e, by unfold gN; rw [if_pos h], by unfold gTo; rw [e]; rfl⟩
theorem g_in {l : List UInt8} {a : Nat} (h : a ≤ l.length) : gE l (a : Int) = (getF (l.drop a) 0 0).2.2 ∧ gN l (a : Int) = ((getF (l.drop a) 0 0).1 : Int) := by
  have hn : ¬ ((a : Int) < 0 ∨ (l.length : Int) < (a : Int)) := by omega
  exact ⟨by unfold gE; rw [if_neg hn]; rfl, by unfold gN; rw [if_neg hn]; rfl⟩
theorem g_fail {l : List UInt8} {a : Nat} {x : Int} (h : a ≤ l.length) (hx : x ≠ 0) (k : getF (l.drop a) 0 0 = (0, 0, x)) : gE l (a : Int) = x ∧ gN l (a : Int) = 0 ∧ gTo l (a : Int) = 0 := by
  obtain ⟨h1, h2⟩ := g_in h
  rw [k] at h1 h2
  exact ⟨h1, h2, by unfold gTo; rw [h1]; rw [if_neg hx]⟩
theorem g_done {l : List UInt8} {a n t : Nat} (h : a ≤ l.length) (k : getF (l.drop a) 0 0 = (n, t, 0)) : gE l (a : Int) = 0 ∧ gN l (a : Int) = (n : Int) ∧ gTo l (a : Int) = ((a + t : Nat) : Int) := by
  obtain ⟨h1, h2⟩ := g_in h
  rw [k] at h1 h2
  refine ⟨h1, h2, ?_⟩
  unfold gTo; rw [h1, if_pos rfl, Int.toNat_natCast, k]; simp
theorem gN_nonneg (l : List UInt8) (a : Int) : 0 ≤ gN l a := by unfold gN; split <;> omega
/-- What has been read, in full. -/
theorem g_ok {l : List UInt8} {a : Int} (h : gE l a = 0) : ∃ (x t : Nat), a = (x : Int) ∧ x ≤ l.length ∧ t = (putN (gN l a).toNat).length ∧ gTo l a = ((x + t : Nat) : Int) ∧ 1 ≤ t ∧ x + t ≤ l.length ∧ (l.drop x).take t = putN (gN l a).toNat ∧ gN l a < 18446744073709551616 := by
  by_cases ho : a < 0 ∨ (l.length : Int) < a
  · rw [(g_out ho).1] at h; cases h
  · obtain ⟨x, rfl⟩ := Int.eq_ofNat_of_zero_le (show 0 ≤ a by omega)
    have hx : x ≤ l.length := by omega
    obtain ⟨h1, h2⟩ := g_in hx
    rw [h] at h1
    obtain ⟨n, t, hk⟩ : ∃ n t, getF (l.drop x) 0 0 = (n, t, 0) := ⟨(getF (l.drop x) 0 0).1, (getF (l.drop x) 0 0).2.1, Prod.ext rfl (Prod.ext rfl h1.symm)⟩
    obtain ⟨d1, d2, d3⟩ := g_done hx hk
    obtain ⟨m, hn, hlt, ht, hl, htk, _⟩ := getF_ok (l.drop x) 0 0 n t (by simp) (by omega) hk
    have hmn : m = n := by simpa using hn.symm
    subst hmn
    have hp := putN_pos m
    rw [List.length_drop] at hl
    refine ⟨x, t, rfl, hx, ?_, d3, by omega, by omega, ?_, by rw [d2]; omega⟩
    · rw [d2, Int.toNat_natCast]; omega
    · rw [d2, Int.toNat_natCast]; rw [show t = (putN m).length by omega]; exact htk
theorem gN_lt (l : List UInt8) (a : Int) : gN l a < 18446744073709551616 := by
  by_cases h : gE l a = 0
  · obtain ⟨_, _, _, _, _, _, _, _, _, hlt⟩ := g_ok h; exact hlt
  · by_cases ho : a < 0 ∨ (l.length : Int) < a
    · rw [(g_out ho).2.1]; omega
    · obtain ⟨x, rfl⟩ := Int.eq_ofNat_of_zero_le (show 0 ≤ a by omega)
      obtain ⟨h1, h2⟩ := g_in (l := l) (a := x) (by omega)
      rcases getF_err (l.drop x) 0 0 with e | e | e
      · exact absurd (h1.trans e) h
      · rw [h2, e.2]; omega
      · rw [h2, e.2]; omega
theorem g_err {l : List UInt8} {a : Int} (h : gE l a ≠ 0) : gN l a = 0 ∧ gTo l a = 0 := by
  refine ⟨?_, by unfold gTo; rw [if_neg h]⟩
  by_cases ho : a < 0 ∨ (l.length : Int) < a
  · exact (g_out ho).2.1
  · obtain ⟨x, rfl⟩ := Int.eq_ofNat_of_zero_le (show 0 ≤ a by omega)
    obtain ⟨h1, h2⟩ := g_in (l := l) (a := x) (by omega)
    rcases getF_err (l.drop x) 0 0 with e | e | e
    · exact absurd (h1.trans e) h
    · rw [h2, e.2]; rfl
    · rw [h2, e.2]; rfl
/-- Bytes behind others: what stands there is read. -/
theorem g_put (p : List UInt8) (n : Nat) (r : List UInt8) (h : n < 18446744073709551616) : gE (p ++ (putN n ++ r)) (p.length : Int) = 0 ∧ gN (p ++ (putN n ++ r)) (p.length : Int) = (n : Int) ∧ gTo (p ++ (putN n ++ r)) (p.length : Int) = ((p.length + (putN n).length : Nat) : Int) := by
  have e := getF_put (n + 1) n 0 0 r (by omega) (by omega) (by omega) (by simpa using h)
  rw [show 0 + n * 128 ^ 0 = n by simp, Nat.zero_add] at e
  exact g_done (by simp) (by rw [List.drop_left]; exact e)

/-- PutInt: a number with a sign. -/
def zig (n : Int) : Nat := if n < 0 then (-2 * n - 1).toNat else (2 * n).toNat
/-- GetInt: back. -/
def zag (n : Int) : Int := if n % 2 = 1 then -(n / 2) - 1 else n / 2
theorem zag_zig (n : Int) : zag (zig n : Int) = n := by
  unfold zig zag; split <;> split <;> omega
theorem zig_zag (n : Nat) : zig (zag (n : Int)) = n := by
  unfold zag; split <;> unfold zig <;> split <;> omega
theorem zig_lt {n : Int} (h0 : -9223372036854775808 ≤ n) (h1 : n ≤ 9223372036854775807) : zig n < 18446744073709551616 := by unfold zig; split <;> omega

/-- GetBytes: the error, the bytes, the place behind. -/
def gbE (l : List UInt8) (a : Int) : Int := if gE l a ≠ 0 then gE l a else if 1048576 < gN l a then 3 else if (l.length : Int) - gTo l a < gN l a then 10 else 0
def gbL (l : List UInt8) (a : Int) : List UInt8 := if gbE l a = 0 then (l.drop (gTo l a).toNat).take (gN l a).toNat else []
def gbTo (l : List UInt8) (a : Int) : Int := if gbE l a = 0 then gTo l a + gN l a else 0
theorem gb_err1 {l : List UInt8} {a : Int} (h : gE l a ≠ 0) : gbE l a = gE l a ∧ gbL l a = [] ∧ gbTo l a = 0 := by
  have e : gbE l a = gE l a := by unfold gbE; rw [if_pos h]
  exact ⟨e, by unfold gbL; rw [if_neg (by rw [e]; exact h)], by unfold gbTo; rw [if_neg (by rw [e]; exact h)]⟩
theorem gb_err2 {l : List UInt8} {a : Int} (h : gE l a = 0) (k : 1048576 < gN l a) : gbE l a = 3 ∧ gbL l a = [] ∧ gbTo l a = 0 := by
  have e : gbE l a = 3 := by unfold gbE; rw [if_neg (fun x => x h), if_pos k]
  exact ⟨e, by unfold gbL; rw [if_neg (by rw [e]; decide)], by unfold gbTo; rw [if_neg (by rw [e]; decide)]⟩
theorem gb_err3 {l : List UInt8} {a : Int} (h : gE l a = 0) (k : ¬ 1048576 < gN l a) (m : (l.length : Int) - gTo l a < gN l a) : gbE l a = 10 ∧ gbL l a = [] ∧ gbTo l a = 0 := by
  have e : gbE l a = 10 := by unfold gbE; rw [if_neg (fun x => x h), if_neg k, if_pos m]
  exact ⟨e, by unfold gbL; rw [if_neg (by rw [e]; decide)], by unfold gbTo; rw [if_neg (by rw [e]; decide)]⟩
theorem gb_ok {l : List UInt8} {a : Int} (h : gE l a = 0) (k : ¬ 1048576 < gN l a) (m : ¬ (l.length : Int) - gTo l a < gN l a) : gbE l a = 0 ∧ gbL l a = (l.drop (gTo l a).toNat).take (gN l a).toNat ∧ gbTo l a = gTo l a + gN l a := by
  have e : gbE l a = 0 := by unfold gbE; rw [if_neg (fun x => x h), if_neg k, if_neg m]
  exact ⟨e, by unfold gbL; rw [if_pos e], by unfold gbTo; rw [if_pos e]⟩
theorem gb_cases (l : List UInt8) (a : Int) : (gE l a ≠ 0) ∨ (gE l a = 0 ∧ 1048576 < gN l a) ∨ (gE l a = 0 ∧ ¬ 1048576 < gN l a ∧ (l.length : Int) - gTo l a < gN l a) ∨ (gE l a = 0 ∧ ¬ 1048576 < gN l a ∧ ¬ (l.length : Int) - gTo l a < gN l a) := by
  by_cases h1 : gE l a = 0
  · by_cases h2 : 1048576 < gN l a
    · exact .inr (.inl ⟨h1, h2⟩)
    · by_cases h3 : (l.length : Int) - gTo l a < gN l a
      · exact .inr (.inr (.inl ⟨h1, h2, h3⟩))
      · exact .inr (.inr (.inr ⟨h1, h2, h3⟩))
  · exact .inl h1
/-- PutBytes. -/
def putB (s : List UInt8) : List UInt8 := putN s.length ++ s
end Go.Proofs.Ytjneoinacobbaaa
