/- Numbers and bytes in one way: plain laws of what stands at a place. -/
import Derived.Test.YtjneoinacobbaaaVintL
namespace Go.Proofs.Ytjneoinacobbaaa

/-- What is read at a place stands there; the bytes up to behind it. -/
theorem g_split {l : List UInt8} {a : Nat} (h : gE l (a : Int) = 0) : ∃ N t : Nat, gN l (a : Int) = N ∧ N < 18446744073709551616 ∧ gTo l (a : Int) = ((a + t : Nat) : Int) ∧ t = (putN N).length ∧ 1 ≤ t ∧ a + t ≤ l.length ∧ (l.drop a).take t = putN N ∧ l.take (a + t) = l.take a ++ putN N := by
  obtain ⟨x, t, hx, hxl, ht, hT, h1, hle, htk, hlt⟩ := g_ok h
  have hax : a = x := by omega
  subst hax
  obtain ⟨N, hN⟩ := Int.eq_ofNat_of_zero_le (gN_nonneg l (a : Int))
  rw [hN] at ht htk hlt
  refine ⟨N, t, hN, by omega, hT, ht, h1, hle, htk, ?_⟩
  rw [Int.toNat_natCast] at htk
  rw [← htk, List.take_add]
/-- The same number stands there when others stand behind. -/
theorem g_more {l m : List UInt8} {a N t : Nat} (ha : a ≤ l.length) (hN : N < 18446744073709551616) (ht : t = (putN N).length) (htk : l.take (a + t) = l.take a ++ putN N) :
    gE (l.take (a + t) ++ m) (a : Int) = 0 ∧ gN (l.take (a + t) ++ m) (a : Int) = N ∧ gTo (l.take (a + t) ++ m) (a : Int) = ((a + t : Nat) : Int) := by
  have hl : (l.take a).length = a := by rw [List.length_take]; omega
  have := g_put (l.take a) N m hN
  rw [hl, ← List.append_assoc, ← htk, ← ht] at this
  exact this
/-- With one byte less there is no number. -/
theorem g_less {l : List UInt8} {a N t : Nat} (ha : a ≤ l.length) (hN : N < 18446744073709551616) (ht : t = (putN N).length) (h1 : 1 ≤ t) (htk : l.take (a + t) = l.take a ++ putN N) :
    gE (l.take (a + t - 1)) (a : Int) = 10 := by
  have hl : (l.take a).length = a := by rw [List.length_take]; omega
  have e : l.take (a + t - 1) = l.take a ++ (putN N).take (t - 1) := by
    have : l.take (a + t - 1) = (l.take (a + t)).take (a + t - 1) := by rw [List.take_take]; congr 1; omega
    rw [this, htk, List.take_append, hl, List.take_take]
    congr 2 <;> omega
  rw [e]
  have hcut := getF_cut _ N 0 0 (t - 1) (Nat.lt_succ_self _) (by omega) (by omega) (by omega) (by omega)
  have := (g_in (l := l.take a ++ (putN N).take (t - 1)) (a := a) (by rw [List.length_append, hl]; omega)).1
  rw [this, List.drop_append_of_le_length (by omega), List.drop_of_length_le (by omega), List.nil_append, hcut]
/-- Bytes that are read are written as they stand there. -/
theorem gb_same {l : List UInt8} {a : Nat} (h : gbE l (a : Int) = 0) : ∃ E : Nat, gbTo l (a : Int) = (E : Int) ∧ E ≤ l.length ∧ gTo l (a : Int) ≤ (E : Int) ∧ a ≤ E ∧ (l.drop a).take (E - a) = putB (gbL l (a : Int)) ∧ gbL l (a : Int) = (l.drop (gTo l (a : Int)).toNat).take (gN l (a : Int)).toNat ∧ (gbL l (a : Int)).length ≤ 1048576 := by
  rcases gb_cases l (a : Int) with e | ⟨e, k⟩ | ⟨e, k, m⟩ | ⟨e, k, m⟩
  · rw [(gb_err1 e).1] at h; exact absurd h e
  · rw [(gb_err2 e k).1] at h; cases h
  · rw [(gb_err3 e k m).1] at h; cases h
  · obtain ⟨_, hL, hTo⟩ := gb_ok e k m
    obtain ⟨N, t, hN, hN1, hT, ht, h1, hle, htk, _⟩ := g_split e
    rw [hN, hT] at hL hTo m
    rw [hN] at k
    rw [hT, hN]
    rw [Int.toNat_natCast, Int.toNat_natCast] at hL
    have hlen : (gbL l (a : Int)).length = N := by rw [hL, List.length_take, List.length_drop]; omega
    refine ⟨a + t + N, by rw [hTo]; omega, by omega, by omega, by omega, ?_, by rw [hL, Int.toNat_natCast, Int.toNat_natCast], by omega⟩
    unfold putB
    rw [hlen, hL, show a + t + N - a = t + N by omega, List.take_add, htk, List.drop_drop]
end Go.Proofs.Ytjneoinacobbaaa
