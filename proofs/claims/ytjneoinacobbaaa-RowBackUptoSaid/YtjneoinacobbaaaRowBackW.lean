/- The walk of the law RowBack. -/
import Derived.Test.YtjneoinacobbaaaRowManyW
namespace Go.Proofs.Ytjneoinacobbaaa
open Go.RowKit
theorem decF_err : ∀ (n : Nat) (l : List UInt8) (a : Nat), (decF n l a).1 ≠ 0 → (decF n l a).1 = 10 ∨ (decF n l a).1 = 11
  | 0, l, a, h => absurd rfl h
  | n + 1, l, a, h => by
    unfold decF at h ⊢
    by_cases h1 : (vR l a).1 ≠ 0
    · rw [if_pos h1] at h ⊢; exact vR_err h1
    · rw [if_neg h1] at h ⊢; exact decF_err n l _ h
theorem decE_err {l : List UInt8} (h : decE l ≠ 0) : decE l = 10 ∨ decE l = 11 := by
  unfold decE at h ⊢
  by_cases h1 : gE l 0 ≠ 0
  · rw [if_pos h1]
    have := gE_err l 0 (by omega)
    replace this : gE l 0 = 0 ∨ gE l 0 = 10 ∨ gE l 0 = 11 := this
    rcases this with h2 | h2
    · exact absurd h2 h1
    · exact h2
  rw [if_neg h1] at h ⊢
  by_cases h2 : 100 < gN l 0
  · rw [if_pos h2]; exact .inr rfl
  rw [if_neg h2] at h ⊢
  by_cases h3 : (decR l).1 ≠ 0
  · rw [if_pos h3]; exact decF_err _ _ _ h3
  rw [if_neg h3] at h ⊢
  by_cases h4 : (decR l).2.2 < l.length
  · rw [if_pos h4]; exact .inr rfl
  · rw [if_neg h4] at h; exact absurd rfl h
theorem tot_le {l : List Val} {k : Nat} (h : ∀ v ∈ l, v.s.length ≤ k) : tot l ≤ l.length * (40 + k) := by
  induction l with
  | nil => simp [tot]
  | cons v l ih =>
    have h1 := ih (fun u hu => h u (by simp [hu]))
    have h2 := h v (by simp)
    rw [tot_cons, List.length_cons, Nat.succ_mul]; omega
theorem decL_tot {l : List UInt8} (h : decE l = 0) (hl : l.length ≤ 4000) : tot (decL l) ≤ 1000000 := by
  have h1 := (enc_ok (enc_dec (by omega) h).1).2.1
  have h2 := tot_le (l := decL l) (k := 4000) (fun v hv => by have := (decL_ok (by omega) v hv).2.2; omega)
  have : (decL l).length * (40 + 4000) ≤ 100 * (40 + 4000) := Nat.mul_le_mul_right _ h1
  omega
/-- A row, none, the same row. -/
theorem trio {l : List Val} (h : encE l = 0) (ho : ∀ v ∈ l, VOk v) (ht : tot l ≤ 1000000) : FitsL [l, [], l] ∧ manyE [l, [], l] = 0 ∧ fewE (manyB [l, [], l]) = 0 ∧ fewL (manyB [l, [], l]) = [l, [], l] := by
  have hE : ∀ x ∈ [l, [], l], encE x = 0 := by
    intro x hx
    simp only [List.mem_cons, List.not_mem_nil, or_false] at hx
    rcases hx with rfl | rfl | rfl
    · exact h
    · rfl
    · exact h
  have hO : ∀ x ∈ [l, [], l], (∀ v ∈ x, VOk v) ∧ tot x ≤ 1000000 := by
    intro x hx
    simp only [List.mem_cons, List.not_mem_nil, or_false] at hx
    rcases hx with rfl | rfl | rfl
    · exact ⟨ho, ht⟩
    · exact ⟨by simp, by simp [tot]⟩
    · exact ⟨ho, ht⟩
  have e1 := manyE_ok hE
  have e2 : manyB [l, [], l] = joinL ([l, [], l].map encB) := by unfold manyB; rw [if_pos e1]
  have hs : short ([l, [], l].map encB) := by
    intro s hs
    obtain ⟨x, hx, rfl⟩ := List.mem_map.1 hs
    have := encB_len (hO x hx).1 (hO x hx).2
    omega
  obtain ⟨s1, s2⟩ := split_join _ (by simp) hs
  have hd : ∀ s ∈ [l, [], l].map encB, decE s = 0 := by
    intro s hs
    obtain ⟨x, hx, rfl⟩ := List.mem_map.1 hs
    exact (dec_enc (hE x hx) (hO x hx).1).1
  have e3 : fewE (manyB [l, [], l]) = 0 := by
    unfold fewE
    rw [e2, s1, if_neg (by decide), s2]; exact fewF_ok hd
  refine ⟨⟨by simp, hO⟩, e1, e3, ?_⟩
  unfold fewL
  rw [if_pos e3, e2, s2, List.map_map]
  have : ∀ x ∈ [l, [], l], (decL ∘ encB) x = x := fun x hx => (dec_enc (hE x hx) (hO x hx).1).2
  conv => rhs; rw [← List.map_id [l, [], l]]
  exact List.map_congr_left this
set_option maxRecDepth 100000 in
theorem rowBack_walk (w : World) {A0 : Option Addr} {n0 c0 : Nat} {l0 : List Val} (g0 : RdV w w.heap.size A0 n0 l0) (k0 : n0 ≤ c0) (o0 : ∀ v ∈ l0, VOk v) (b0 : vbulk l0 ≤ 1048576)
    {A1 : Option Addr} {n1 c1 : Nat} {l1 : List UInt8} (g1 : Rd w w.heap.size A1 n1 l1) (k1 : n1 ≤ c1) :
    Calls Try.prog 7 #[.slice A0 n0 c0, .slice A1 n1 c1] w (RetTrue w) := by
  refine calls_ev (args := [.slice A0 n0 c0, .slice A1 n1 c1]) mixed Try.func7 rfl (by kernel_rfl) ?_
  have hl0 := g0.len
  have hv := vbulk_long l0
  refine cc is_long (long_any _ _ _ _ _ _ g0 (by omega)) ?_
  rintro e W ⟨b, rfl, hb, rfl⟩
  refine ⟨_, rfl, ?_⟩
  cases b
  rotate_left
  · refine cc is_known (known03_any _) ?_
    rintro e W ⟨rfl, b1⟩
    exact ⟨_, rfl, rfl, b1⟩
  have ht := long_tot (l := l0) (by simpa [hl0] using hb)
  have hl1 := g1.len
  refine p_len slb rfl ?_
  refine p_gt rfl rfl (fun h1 => ?_) (fun h1 => ?_)
  · refine cc is_known (known03_any _) ?_
    rintro e W ⟨rfl, b1⟩
    exact ⟨_, rfl, rfl, b1⟩
  refine cc is_encode (encode_any _ _ _ _ _ g0 o0 ht) ?_
  rintro e W1 ⟨A2, n2, c2, rfl, o2, b1⟩
  refine ⟨_, rfl, ?_⟩
  have q2 := o2.rd
  have k2 := o2.cap_
  have hn2 := q2.len
  have hlen := encB_len o0 ht
  replace g0 := g0.up b1
  replace g1 := g1.up b1
  refine p_eq rfl rfl (fun h0 => ?_) (fun h0 => ?_)
  rotate_left
  · refine cc is_decode (decode_any _ _ _ _ _ g1 (by omega) k1) ?_
    rintro e W3 ⟨A4, n4, c4, rfl, o4, b3⟩
    refine ⟨_, rfl, ?_⟩
    have q4 := o4.rd
    have hn4 := q4.len
    replace g1 := g1.up b3
    replace b1 := b1.trans (b3.mono b1.size)
    refine p_ne rfl rfl (fun hd => ?_) (fun hd => ?_)
    rotate_left
    · have hL : decL l1 = [] := by unfold decL; rw [if_neg hd]
      have hn40 : n4 = 0 := by rw [hL] at hn4; simpa using hn4.symm
      refine p_len slv rfl ?_
      refine p_eq rfl rfl (fun _ => ?_) (fun h => absurd (by omega) h)
      rcases decE_err hd with h10 | h11
      · refine p_eq rfl rfl (fun _ => ?_) (fun h => absurd h10 h)
        refine cc is_known (known03_any _) ?_
        rintro e W7 ⟨rfl, b7⟩
        exact ⟨_, rfl, rfl, b1.trans (b7.mono b1.size)⟩
      · refine p_eq rfl rfl (fun h => by rw [h11] at h; cases h) (fun _ => ?_)
        refine p_eq rfl rfl (fun _ => ?_) (fun h => absurd h11 h)
        refine cc is_known (known03_any _) ?_
        rintro e W7 ⟨rfl, b7⟩
        exact ⟨_, rfl, rfl, b1.trans (b7.mono b1.size)⟩
    obtain ⟨d1, d2⟩ := enc_dec (l := l1) (by omega) hd
    refine cc is_encode (encode_any _ _ _ _ _ q4 (fun v hv => (decL_ok (by omega) v hv).2.1) (decL_tot hd (by omega))) ?_
    rintro e W4 ⟨A5, n5, c5, rfl, o5, b4⟩
    refine ⟨_, rfl, ?_⟩
    have q5 := o5.rd
    replace g1 := g1.up b4
    replace b1 := b1.trans (b4.mono b1.size)
    refine p_eq rfl rfl (fun _ => ?_) (fun h => absurd d1 h)
    refine cc is_same (same_yes _ _ _ _ _ _ _ _ _ _ _ q5 g1 d2) ?_
    rintro e W5 ⟨rfl, rfl⟩
    refine ⟨_, rfl, ?_⟩
    refine cc is_known (known03_any _) ?_
    rintro e W7 ⟨rfl, b7⟩
    exact ⟨_, rfl, rfl, b1.trans (b7.mono b1.size)⟩
  obtain ⟨t1, t2, t3, t4⟩ := trio h0 o0 ht
  refine cc is_decode (decode_any _ _ _ _ _ q2 (by omega) k2) ?_
  rintro e W2 ⟨A6, n6, c6, rfl, o6, b2⟩
  refine ⟨_, rfl, ?_⟩
  obtain ⟨d1, d2⟩ := dec_enc h0 o0
  rw [d2] at o6
  have q6 := o6.rd
  replace g0 := g0.up b2
  replace g1 := g1.up b2
  replace b1 := b1.trans (b2.mono b1.size)
  refine v_bslice (vs := [.slice A0 n0 c0, .slice none 0 0, .slice A0 n0 c0]) slvv zlv rfl (by decide) rfl ?_
  rintro g7 W7 hg7 hB7 hb7 hs7
  rw [hg7] at hb7
  replace g0 := g0.up hb7
  replace g1 := g1.up hb7
  replace q6 := q6.up hb7
  replace b1 := b1.trans (hb7.mono b1.size)
  have tr : ∀ {W : World} {g : Nat}, Blk W g 22 [.slice A0 n0 c0, .slice none 0 0, .slice A0 n0 c0] → RdV W W.heap.size A0 n0 l0 → RdVS W W.heap.size (some ⟨g, 0, none⟩) 3 [l0, [], l0] := by
    intro W g hB h
    refine ⟨_, Reads.blk hB rfl, rfl, fun k v xs h1 h2 => ?_⟩
    match k, h1, h2 with
    | 0, h1, h2 => simp at h1 h2; subst h1; subst h2; exact ⟨_, _, _, rfl, k0, h⟩
    | 1, h1, h2 => simp at h1 h2; subst h1; subst h2; exact ⟨_, _, _, rfl, Nat.le_refl _, Reads.none_⟩
    | 2, h1, h2 => simp at h1 h2; subst h1; subst h2; exact ⟨_, _, _, rfl, k0, h⟩
  refine cc is_many (many_any _ _ _ _ _ (tr hB7 g0) t1) ?_
  rintro e W8 ⟨A8, n8, c8, rfl, o8, b8_⟩
  refine ⟨_, rfl, ?_⟩
  have q8 := o8.rd
  have k8 := o8.cap_
  have hn8 := q8.len
  have hn8' : n8 ≤ 100000000 := by
    have h1 := many_len [l0, [], l0] t1.2
    have e : manyB [l0, [], l0] = joinL ([l0, [], l0].map encB) := by unfold manyB; rw [if_pos t2]
    have h3 := putN_len10 (n := ([l0, [], l0].map encB).length) (by simp)
    rw [← hn8, e]
    unfold joinL
    rw [List.length_append]
    simp only [List.length_cons, List.length_nil] at h1
    omega
  replace g0 := g0.up b8_
  replace g1 := g1.up b8_
  replace q6 := q6.up b8_
  replace b1 := b1.trans (b8_.mono b1.size)
  refine cc is_few (few_any _ _ _ _ _ q8 hn8' k8) ?_
  rintro e W9 ⟨A9, n9, c9, rfl, o9, b9⟩
  refine ⟨_, rfl, ?_⟩
  rw [t4] at o9
  have q9 : RdVS W9 W9.heap.size A9 n9 [l0, [], l0] := o9.rd
  replace g0 := g0.up b9
  replace g1 := g1.up b9
  replace q6 := q6.up b9
  replace b1 := b1.trans (b9.mono b1.size)
  have hn6 := q6.len
  have hn9 := q9.len
  refine p_ne rfl rfl (fun _ => ?_) (fun h => absurd d1 h)
  refine cc is_rows (rows_any _ _ _ _ _ _ _ _ _ q6 g0 (by omega) (by omega)) ?_
  rintro e W10 ⟨r, rfl, hr, b10⟩
  refine ⟨_, rfl, ?_⟩
  replace g0 := g0.up b10
  replace g1 := g1.up b10
  replace q9 := q9.up b10
  replace b1 := b1.trans (b10.mono b1.size)
  refine p_ne rfl rfl (fun _ => ?_) (fun h => absurd (hr.2 rfl) h)
  refine p_ne rfl rfl (fun _ => ?_) (fun h => absurd t2 h)
  refine p_ne rfl rfl (fun _ => ?_) (fun h => absurd t3 h)
  refine v_bslice (vs := [.slice A0 n0 c0, .slice none 0 0, .slice A0 n0 c0]) slvv zlv rfl (by decide) rfl ?_
  rintro g11 W11 hg11 hB11 hb11 hs11
  rw [hg11] at hb11
  replace g0 := g0.up hb11
  replace g1 := g1.up hb11
  replace q9 := q9.up hb11
  replace b1 := b1.trans (hb11.mono b1.size)
  have hlen3 : ∀ l ∈ [l0, [], l0], l.length ≤ 1000000000 := by
    intro x hx
    simp only [List.mem_cons, List.not_mem_nil, or_false] at hx
    rcases hx with rfl | rfl | rfl
    · omega
    · simp
    · omega
  refine cc is_srows (sameRows_any _ _ _ _ _ _ _ _ _ q9 (tr hB11 g0) (by rw [← hn9]; simp) hlen3 hlen3) ?_
  rintro e W12 ⟨r, rfl, hr, b12⟩
  refine ⟨_, rfl, ?_⟩
  obtain rfl : r = true := by rw [hr]; simp
  replace g1 := g1.up b12
  replace b1 := b1.trans (b12.mono b1.size)
  refine p_not rfl ?_
  refine cc is_decode (decode_any _ _ _ _ _ g1 (by omega) k1) ?_
  rintro e W3 ⟨A4, n4, c4, rfl, o4, b3⟩
  refine ⟨_, rfl, ?_⟩
  have q4 := o4.rd
  have hn4 := q4.len
  replace g1 := g1.up b3
  replace b1 := b1.trans (b3.mono b1.size)
  refine p_ne rfl rfl (fun hd => ?_) (fun hd => ?_)
  rotate_left
  · have hL : decL l1 = [] := by unfold decL; rw [if_neg hd]
    have hn40 : n4 = 0 := by rw [hL] at hn4; simpa using hn4.symm
    refine p_len slv rfl ?_
    refine p_eq rfl rfl (fun _ => ?_) (fun h => absurd (by omega) h)
    rcases decE_err hd with h10 | h11
    · refine p_eq rfl rfl (fun _ => ?_) (fun h => absurd h10 h)
      refine cc is_known (known03_any _) ?_
      rintro e W7 ⟨rfl, b7⟩
      exact ⟨_, rfl, rfl, b1.trans (b7.mono b1.size)⟩
    · refine p_eq rfl rfl (fun h => by rw [h11] at h; cases h) (fun _ => ?_)
      refine p_eq rfl rfl (fun _ => ?_) (fun h => absurd h11 h)
      refine cc is_known (known03_any _) ?_
      rintro e W7 ⟨rfl, b7⟩
      exact ⟨_, rfl, rfl, b1.trans (b7.mono b1.size)⟩
  obtain ⟨d1, d2⟩ := enc_dec (l := l1) (by omega) hd
  refine cc is_encode (encode_any _ _ _ _ _ q4 (fun v hv => (decL_ok (by omega) v hv).2.1) (decL_tot hd (by omega))) ?_
  rintro e W4 ⟨A5, n5, c5, rfl, o5, b4⟩
  refine ⟨_, rfl, ?_⟩
  have q5 := o5.rd
  replace g1 := g1.up b4
  replace b1 := b1.trans (b4.mono b1.size)
  refine p_eq rfl rfl (fun _ => ?_) (fun h => absurd d1 h)
  refine cc is_same (same_yes _ _ _ _ _ _ _ _ _ _ _ q5 g1 d2) ?_
  rintro e W5 ⟨rfl, rfl⟩
  refine ⟨_, rfl, ?_⟩
  refine cc is_known (known03_any _) ?_
  rintro e W7 ⟨rfl, b7⟩
  exact ⟨_, rfl, rfl, b1.trans (b7.mono b1.size)⟩
end Go.Proofs.Ytjneoinacobbaaa
