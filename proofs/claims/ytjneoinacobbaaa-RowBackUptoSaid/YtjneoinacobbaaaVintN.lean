/- Lists of bytes as bytes: plain laws: what is joined is split as it was, what is split is joined as it was, one byte more, one byte less. -/
import Derived.Test.YtjneoinacobbaaaVintP
import Derived.Test.YtjneoinacobbaaaVintO
namespace Go.Proofs.Ytjneoinacobbaaa

theorem putB_ne (s : List UInt8) : putB s ≠ [] := by
  intro h
  have := congrArg List.length h
  rw [putB_len, List.length_nil] at this
  have := putN_pos s.length
  omega
/-- Bytes that were written are read, wherever they stand. -/
theorem gb_put (p s r : List UInt8) (h : s.length ≤ 1048576) : gbE (p ++ (putB s ++ r)) (p.length : Int) = 0 ∧ gbL (p ++ (putB s ++ r)) (p.length : Int) = s ∧ gbTo (p ++ (putB s ++ r)) (p.length : Int) = ((p.length + (putB s).length : Nat) : Int) := by
  have e : putB s ++ r = putN s.length ++ (s ++ r) := by unfold putB; rw [List.append_assoc]
  rw [e]
  obtain ⟨g1, g2, g3⟩ := g_put p s.length (s ++ r) (by omega)
  obtain ⟨k1, k2, k3⟩ := gb_ok g1 (by rw [g2]; omega) (by rw [g2, g3]; simp only [List.length_append]; omega)
  refine ⟨k1, ?_, ?_⟩
  · rw [k2, g2, g3, Int.toNat_natCast, Int.toNat_natCast, ← List.append_assoc, List.drop_append_of_le_length (by simp), List.drop_of_length_le (by simp), List.nil_append, List.take_append_of_le_length (Nat.le_refl _), List.take_length]
  · rw [k3, g2, g3, putB_len]; omega
theorem dropLast_take (l : List UInt8) : l.dropLast = l.take (l.length - 1) := List.dropLast_eq_take
/-- Bytes that were written, but for the last one, are not read. -/
theorem gb_cut (p s : List UInt8) (h : s.length ≤ 1048576) : gbE (p ++ (putB s).dropLast) (p.length : Int) = 10 := by
  rcases List.eq_nil_or_concat s with rfl | ⟨s', c, rfl⟩
  rotate_left
  all_goals try rw [List.concat_eq_append] at h ⊢
  rotate_left
  · have hcut := getF_cut _ 0 0 0 0 (Nat.lt_succ_self _) (by omega) (by omega) (by omega) (putN_pos 0)
    have h1 := (g_in (l := p ++ (putB []).dropLast) (a := p.length) (by simp)).1
    rw [List.drop_append_of_le_length (Nat.le_refl _), List.drop_length, List.nil_append] at h1
    rw [show (putB []).dropLast = [] by decide +kernel] at h1 ⊢
    rw [show getF [] 0 0 = (0, 0, 10) from hcut] at h1
    rw [(gb_err1 (by rw [h1]; decide)).1, h1]
  · have e : (putB (s' ++ [c])).dropLast = putN (s' ++ [c]).length ++ s' := by
      unfold putB
      rw [← List.append_assoc, List.dropLast_concat]
    rw [e]
    have hl : (s' ++ [c]).length = s'.length + 1 := by simp
    obtain ⟨g1, g2, g3⟩ := g_put p (s' ++ [c]).length s' (by omega)
    exact (gb_err3 g1 (by rw [g2]; omega) (by rw [g2, g3]; simp only [List.length_append, hl]; omega)).1

def short (ll : List (List UInt8)) : Prop := ∀ s ∈ ll, s.length ≤ 1048576
theorem splitF_join : ∀ (ll : List (List UInt8)) (p r : List UInt8), short ll → splitF (p ++ (ll.flatMap putB ++ r)) ll.length (p.length : Int) = (ll, ((p.length + (ll.flatMap putB).length : Nat) : Int), 0)
  | [], p, r, _ => by simp [splitF_zero]
  | s :: ll, p, r, h => by
    obtain ⟨g1, g2, g3⟩ := gb_put p s (ll.flatMap putB ++ r) (h s (by simp))
    rw [List.flatMap_cons, List.append_assoc, List.length_cons, splitF_step g1, g2, g3]
    have ih := splitF_join ll (p ++ putB s) r (fun x hx => h x (by simp [hx]))
    rw [List.append_assoc, List.length_append] at ih
    rw [ih]
    simp [Nat.add_assoc]
theorem flat_ne {ll : List (List UInt8)} (h : ll ≠ []) : ll.flatMap putB ≠ [] := by
  cases ll with
  | nil => exact absurd rfl h
  | cons s ll =>
    rw [List.flatMap_cons]
    intro e
    exact putB_ne s (List.append_eq_nil_iff.1 e).1
theorem splitF_cut : ∀ (ll : List (List UInt8)) (p : List UInt8), ll ≠ [] → short ll → (splitF (p ++ (ll.flatMap putB).dropLast) ll.length (p.length : Int)).2.2 = 10
  | [], p, h, _ => absurd rfl h
  | [s], p, _, h => by
    have g := gb_cut p s (h s (by simp))
    rw [List.flatMap_cons, List.flatMap_nil, List.append_nil, List.length_singleton, splitF_err (by rw [g]; decide), g]
  | s :: u :: ll, p, _, h => by
    have hne := flat_ne (ll := u :: ll) (by simp)
    have e : ((s :: u :: ll).flatMap putB).dropLast = putB s ++ ((u :: ll).flatMap putB).dropLast := by
      rw [List.flatMap_cons, List.dropLast_append_of_ne_nil hne]
    rw [e]
    obtain ⟨g1, g2, g3⟩ := gb_put p s ((u :: ll).flatMap putB).dropLast (h s (by simp))
    rw [List.length_cons, splitF_step g1, g3]
    have ih := splitF_cut (u :: ll) (p ++ putB s) (by simp) (fun x hx => h x (by simp [hx]))
    rw [List.append_assoc, List.length_append] at ih
    exact ih

theorem join_parts (ll : List (List UInt8)) (hn : ll.length < 18446744073709551616) (r : List UInt8) : gE (joinL ll ++ r) 0 = 0 ∧ spR (joinL ll ++ r) = splitF (putN ll.length ++ (ll.flatMap putB ++ r)) ll.length ((putN ll.length).length : Int) := by
  have e : joinL ll ++ r = putN ll.length ++ (ll.flatMap putB ++ r) := by unfold joinL; rw [List.append_assoc]
  obtain ⟨g1, g2, g3⟩ := g_put [] ll.length (ll.flatMap putB ++ r) hn
  rw [List.nil_append, List.length_nil, Int.natCast_zero] at g1 g2 g3
  rw [Nat.zero_add] at g3
  rw [e]
  refine ⟨g1, ?_⟩
  unfold spR
  rw [g2, g3, Int.toNat_natCast]
theorem split_join (ll : List (List UInt8)) (hn : ll.length < 18446744073709551616) (h : short ll) : spE (joinL ll) = 0 ∧ spL (joinL ll) = ll := by
  obtain ⟨h1, h2⟩ := join_parts ll hn []
  rw [splitF_join ll _ [] h, List.append_nil] at h2
  rw [List.append_nil] at h1
  obtain ⟨k1, k2⟩ := sp_ok h1 (by rw [h2]) (by rw [h2]; unfold joinL; simp)
  exact ⟨k1, by rw [k2, h2]⟩
theorem split_more (ll : List (List UInt8)) (hn : ll.length < 18446744073709551616) (h : short ll) (c : UInt8) : spE (joinL ll ++ [c]) = 11 := by
  obtain ⟨h1, h2⟩ := join_parts ll hn [c]
  rw [splitF_join ll _ [c] h] at h2
  exact (sp_err3 h1 (by rw [h2]) (by rw [h2]; unfold joinL; simp; omega)).1
theorem split_less (ll : List (List UInt8)) (hn : ll.length < 18446744073709551616) (h : short ll) : spE (joinL ll).dropLast = 10 := by
  by_cases hne : ll = []
  · subst hne; decide +kernel
  · have e : (joinL ll).dropLast = putN ll.length ++ (ll.flatMap putB).dropLast := by
      unfold joinL
      rw [List.dropLast_append_of_ne_nil (flat_ne hne)]
    obtain ⟨g1, g2, g3⟩ := g_put [] ll.length (ll.flatMap putB).dropLast hn
    rw [List.nil_append, List.length_nil, Int.natCast_zero] at g1 g2 g3
    rw [Nat.zero_add] at g3
    have k := splitF_cut ll (putN ll.length) hne h
    have e2 : (spR (putN ll.length ++ (ll.flatMap putB).dropLast)).2.2 = 10 := by unfold spR; rw [g2, g3, Int.toNat_natCast]; exact k
    rw [e, (sp_err2 g1 (by rw [e2]; decide)).1, e2]

theorem splitF_ok : ∀ (l : List UInt8) (m A : Nat) (xs : List (List UInt8)) (T : Int), A ≤ l.length → splitF l m (A : Int) = (xs, T, 0) → xs.length = m ∧ ∃ E : Nat, T = (E : Int) ∧ A ≤ E ∧ E ≤ l.length ∧ (l.drop A).take (E - A) = xs.flatMap putB ∧ short xs
  | l, 0, A, xs, T, hA, h => by
    rw [splitF_zero] at h
    injection h with h1 h2
    injection h2 with h2 h3
    subst h1; subst h2
    exact ⟨rfl, A, rfl, Nat.le_refl _, hA, by simp, fun x hx => by simp at hx⟩
  | l, m + 1, A, xs, T, hA, h => by
    by_cases hg : gbE l (A : Int) = 0
    · obtain ⟨E, hE, hEl, _, hAE, htk, _, hlen⟩ := gb_same hg
      rw [splitF_step hg, hE] at h
      injection h with h1 h2
      obtain ⟨h3, E2, h4, h5, h6, h7, h8⟩ := splitF_ok l m E (splitF l m (E : Int)).1 T hEl (by rw [← h2])
      refine ⟨by rw [← h1, List.length_cons, h3], E2, h4, by omega, h6, ?_, ?_⟩
      · rw [← h1, List.flatMap_cons, ← htk, ← h7, show E2 - A = (E - A) + (E2 - E) by omega, List.take_add, List.drop_drop, show A + (E - A) = E by omega]
      · rw [← h1]
        intro x hx
        rcases List.mem_cons.1 hx with rfl | hx
        · exact hlen
        · exact h8 x hx
    · rw [splitF_err hg] at h
      injection h with h1 h2
      injection h2 with h2 h3
      exact absurd h3 hg
theorem join_split (l : List UInt8) (h : spE l = 0) : joinL (spL l) = l ∧ short (spL l) := by
  have hg : gE l 0 = 0 := by
    by_cases hg : gE l 0 = 0
    · exact hg
    · rw [(sp_err1 hg).1] at h; exact absurd h hg
  have hr : (spR l).2.2 = 0 := by
    by_cases hr : (spR l).2.2 = 0
    · exact hr
    · rw [(sp_err2 hg hr).1] at h; exact absurd h hr
  have hm : ¬ (spR l).2.1 < (l.length : Int) := by
    intro hm
    rw [(sp_err3 hg hr hm).1] at h; cases h
  rw [(sp_ok hg hr hm).2]
  obtain ⟨N, t, hN, hN1, hT, ht, h1, hle, htk, hcat⟩ := g_split (a := 0) (by simpa using hg)
  have hN' : gN l 0 = (N : Int) := by simpa using hN
  have hT' : gTo l 0 = (t : Int) := by simpa using hT
  have hF : splitF l N (t : Int) = spR l := by unfold spR; rw [hN', hT', Int.toNat_natCast]
  obtain ⟨k1, E, k2, k3, k4, k5, k6⟩ := splitF_ok l N t (spR l).1 (spR l).2.1 (by omega) (by rw [hF, ← hr])
  refine ⟨?_, k6⟩
  rw [k2] at hm
  have hE : E = l.length := by omega
  unfold joinL
  rw [k1, ← k5, hE, ← htk, List.drop_zero, List.take_of_length_le (l := l.drop t) (by rw [List.length_drop]; omega), List.take_append_drop]
end Go.Proofs.Ytjneoinacobbaaa
