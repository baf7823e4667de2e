/- Rows as bytes: plain laws: what is written is read; cut short; with more behind; what is read is written. -/
import Derived.Test.YtjneoinacobbaaaRowE
import Derived.Test.YtjneoinacobbaaaVintN
namespace Go.Proofs.Ytjneoinacobbaaa

theorem at8_head {x : Int} (h : 0 ≤ x ∧ x ≤ 255) (l : List UInt8) : at8 (b8 x :: l) 0 = x := by
  unfold at8 b8
  rw [List.getD_cons_zero, UInt8.toNat_ofNat']
  omega
theorem at8_tail (c : UInt8) (l : List UInt8) (k : Nat) : at8 (c :: l) (k + 1) = at8 l k := by
  unfold at8; rw [List.getD_cons_succ]
theorem right_cases {v : Val} (h : rightB v = true) : v = ⟨1, 0, []⟩ ∨ (∃ n, v = ⟨2, n, []⟩ ∧ (n = 0 ∨ n = 1)) ∨ (∃ n, v = ⟨3, n, []⟩) ∨ (∃ s, v = ⟨4, 0, s⟩ ∧ s.length ≤ 1000 ∧ s.all vis = true) ∨ ∃ s, v = ⟨5, 0, s⟩ ∧ s.length ≤ 1000 := by
  obtain ⟨k, n, s⟩ := v
  unfold rightB at h
  dsimp only at h
  split at h
  · rename_i e; subst e
    simp at h
    obtain ⟨rfl, rfl⟩ := h
    exact .inl rfl
  split at h
  · rename_i e; subst e
    simp at h
    obtain ⟨h1, rfl⟩ := h
    exact .inr (.inl ⟨n, rfl, h1⟩)
  split at h
  · rename_i e; subst e
    simp at h
    subst h
    exact .inr (.inr (.inl ⟨n, rfl⟩))
  split at h
  · rename_i e; subst e
    rw [Bool.and_eq_true, Bool.and_eq_true, decide_eq_true_eq, decide_eq_true_eq] at h
    obtain ⟨rfl, h1, h2⟩ := h
    exact .inr (.inr (.inr (.inl ⟨s, rfl, by omega, h2⟩)))
  split at h
  · rename_i e; subst e
    rw [Bool.and_eq_true, decide_eq_true_eq, decide_eq_true_eq] at h
    obtain ⟨rfl, h1⟩ := h
    exact .inr (.inr (.inr (.inr ⟨s, rfl, by omega⟩)))
  · cases h
theorem fin_right {v : Val} (h : rightB v = true) (to : Nat) : fin v to = (0, v, to) := by unfold fin; rw [if_pos h]
/-- What was written is read: at the begin. -/
theorem vR_put0 {v : Val} (h : rightB v = true) (ho : VOk v) (r : List UInt8) : vR (oneL v ++ r) 0 = (0, v, (oneL v).length) := by
  rcases right_cases h with rfl | ⟨n, rfl, hn⟩ | ⟨n, rfl⟩ | ⟨s, rfl, hs, hv⟩ | ⟨s, rfl, hs⟩
  · have e : oneL ⟨1, 0, []⟩ ++ r = b8 1 :: r := rfl
    have h8 := at8_head (x := 1) (by omega) r
    rw [e]
    unfold vR
    rw [if_neg (by simp), if_pos h8]
    rfl
  · have e : oneL ⟨2, n, []⟩ ++ r = b8 2 :: b8 n :: r := rfl
    have h8 := at8_head (x := 2) (by omega) (b8 n :: r)
    have h9 : at8 (b8 2 :: b8 n :: r) (0 + 1) = n := by rw [at8_tail]; exact at8_head (by omega) r
    rw [e]
    unfold vR
    rw [if_neg (by simp), if_neg (by rw [h8]; decide), if_pos h8, if_neg (by simp), h9, fin_right h]
    rfl
  · have e : oneL ⟨3, n, []⟩ ++ r = [b8 3] ++ (putN (zig n) ++ r) := rfl
    have h8 : at8 ([b8 3] ++ (putN (zig n) ++ r)) 0 = 3 := at8_head (x := 3) (by omega) _
    obtain ⟨g1, g2, g3⟩ := g_put [b8 3] (zig n) r (zig_lt ho.n0.1 ho.n0.2)
    replace g1 : gE ([b8 3] ++ (putN (zig n) ++ r)) ((0 + 1 : Nat) : Int) = 0 := g1
    replace g2 : gN ([b8 3] ++ (putN (zig n) ++ r)) ((0 + 1 : Nat) : Int) = zig n := g2
    replace g3 : gTo ([b8 3] ++ (putN (zig n) ++ r)) ((0 + 1 : Nat) : Int) = ((1 + (putN (zig n)).length : Nat) : Int) := g3
    rw [e]
    unfold vR
    rw [if_neg (by simp), if_neg (by rw [h8]; decide), if_neg (by rw [h8]; decide), if_pos h8, if_neg (by rw [g1]; decide), g2, g3, zag_zig, Int.toNat_natCast]
    have e2 : (oneL ⟨3, n, []⟩).length = 1 + (putN (zig n)).length := by
      show (b8 3 :: putN (zig n)).length = _
      rw [List.length_cons]; omega
    rw [e2]
  · have e : oneL ⟨4, 0, s⟩ ++ r = [b8 4] ++ (putB s ++ r) := rfl
    have h8 : at8 ([b8 4] ++ (putB s ++ r)) 0 = 4 := at8_head (x := 4) (by omega) _
    have g := g_put [b8 4] s.length (s ++ r) (by omega)
    have eB : putB s ++ r = putN s.length ++ (s ++ r) := by unfold putB; rw [List.append_assoc]
    rw [← eB] at g
    obtain ⟨k1, k2, k3⟩ := gb_put [b8 4] s r (by omega)
    replace g1 : gE ([b8 4] ++ (putB s ++ r)) ((0 + 1 : Nat) : Int) = 0 := g.1
    replace g2 : gN ([b8 4] ++ (putB s ++ r)) ((0 + 1 : Nat) : Int) = s.length := g.2.1
    replace k1 : gbE ([b8 4] ++ (putB s ++ r)) ((0 + 1 : Nat) : Int) = 0 := k1
    replace k2 : gbL ([b8 4] ++ (putB s ++ r)) ((0 + 1 : Nat) : Int) = s := k2
    replace k3 : gbTo ([b8 4] ++ (putB s ++ r)) ((0 + 1 : Nat) : Int) = ((1 + (putB s).length : Nat) : Int) := k3
    rw [e]
    unfold vR
    rw [if_neg (by simp), if_neg (by rw [h8]; decide), if_neg (by rw [h8]; decide), if_neg (by rw [h8]; decide), if_pos (.inl h8), if_neg (by rw [g1]; decide), if_neg (by rw [g2]; omega), if_neg (by rw [k1]; decide), k2, k3, h8, fin_right h, Int.toNat_natCast]
    have e2 : (oneL ⟨4, 0, s⟩).length = 1 + (putB s).length := by
      show (b8 4 :: putB s).length = _
      rw [List.length_cons]; omega
    rw [e2]
  · have e : oneL ⟨5, 0, s⟩ ++ r = [b8 5] ++ (putB s ++ r) := rfl
    have h8 : at8 ([b8 5] ++ (putB s ++ r)) 0 = 5 := at8_head (x := 5) (by omega) _
    have g := g_put [b8 5] s.length (s ++ r) (by omega)
    have eB : putB s ++ r = putN s.length ++ (s ++ r) := by unfold putB; rw [List.append_assoc]
    rw [← eB] at g
    obtain ⟨k1, k2, k3⟩ := gb_put [b8 5] s r (by omega)
    replace g1 : gE ([b8 5] ++ (putB s ++ r)) ((0 + 1 : Nat) : Int) = 0 := g.1
    replace g2 : gN ([b8 5] ++ (putB s ++ r)) ((0 + 1 : Nat) : Int) = s.length := g.2.1
    replace k1 : gbE ([b8 5] ++ (putB s ++ r)) ((0 + 1 : Nat) : Int) = 0 := k1
    replace k2 : gbL ([b8 5] ++ (putB s ++ r)) ((0 + 1 : Nat) : Int) = s := k2
    replace k3 : gbTo ([b8 5] ++ (putB s ++ r)) ((0 + 1 : Nat) : Int) = ((1 + (putB s).length : Nat) : Int) := k3
    rw [e]
    unfold vR
    rw [if_neg (by simp), if_neg (by rw [h8]; decide), if_neg (by rw [h8]; decide), if_neg (by rw [h8]; decide), if_pos (.inr h8), if_neg (by rw [g1]; decide), if_neg (by rw [g2]; omega), if_neg (by rw [k1]; decide), k2, k3, h8, fin_right h, Int.toNat_natCast]
    have e2 : (oneL ⟨5, 0, s⟩).length = 1 + (putB s).length := by
      show (b8 5 :: putB s).length = _
      rw [List.length_cons]; omega
    rw [e2]
theorem vR_shift (p X : List UInt8) : (vR X 0).1 = (vR (p ++ X) p.length).1 ∧ ((vR X 0).1 = 0 → vR (p ++ X) p.length = (0, (vR X 0).2.1, p.length + (vR X 0).2.2)) := by
  have h := vR_drop (l := p ++ X) (p := p.length) (by simp)
  rw [List.drop_append_of_le_length (Nat.le_refl _), List.drop_length, List.nil_append] at h
  refine ⟨h.1, fun h0 => ?_⟩
  obtain ⟨h2, h3⟩ := h.2 (h.1.symm.trans h0)
  rw [h2, ← h3]
  exact Prod.ext (h.1.symm.trans h0) rfl
theorem vR_put (p : List UInt8) {v : Val} (h : rightB v = true) (ho : VOk v) (r : List UInt8) : vR (p ++ (oneL v ++ r)) p.length = (0, v, p.length + (oneL v).length) := by
  have h0 := vR_put0 h ho r
  have := (vR_shift p (oneL v ++ r)).2 (by rw [h0])
  rw [this, h0]
theorem all_take {s : List UInt8} (h : s.all vis = true) (k : Nat) : (s.take k).all vis = true := by
  rw [List.all_eq_true] at h ⊢
  exact fun x hx => h x (List.mem_of_mem_take hx)
/-- Cut short it ends too soon. -/
theorem vR_cut0 {v : Val} (h : rightB v = true) (ho : VOk v) {k : Nat} (hk : k < (oneL v).length) : (vR ((oneL v).take k) 0).1 = 10 := by
  rcases Nat.eq_zero_or_pos k with rfl | hk0
  · unfold vR; rw [if_pos (by simp)]; rfl
  obtain ⟨j, rfl⟩ : ∃ j, k = j + 1 := ⟨k - 1, by omega⟩
  have num : ∀ (x : UInt8) (N : Nat), N < 18446744073709551616 → j < (putN N).length → gE ([x] ++ (putN N).take j) ((0 + 1 : Nat) : Int) = 10 := by
    intro x N hN hj
    have hcut := getF_cut _ N 0 0 j (Nat.lt_succ_self _) (by omega) (by omega) (by omega) hj
    have := (g_in (l := [x] ++ (putN N).take j) (a := 1) (by simp)).1
    rw [show ([x] ++ (putN N).take j).drop 1 = (putN N).take j from rfl, hcut] at this
    exact this
  have text : ∀ (x : UInt8) (s : List UInt8), s.length ≤ 1000 → ¬ j < (putN s.length).length → j < (putB s).length →
      gE ([x] ++ (putB s).take j) ((0 + 1 : Nat) : Int) = 0 ∧ gN ([x] ++ (putB s).take j) ((0 + 1 : Nat) : Int) = s.length ∧ gbE ([x] ++ (putB s).take j) ((0 + 1 : Nat) : Int) = 10 ∧ ([x] ++ (putB s).take j).drop (gTo ([x] ++ (putB s).take j) ((0 + 1 : Nat) : Int)).toNat = s.take (j - (putN s.length).length) := by
    intro x s hs hj hB
    have e : (putB s).take j = putN s.length ++ s.take (j - (putN s.length).length) := by
      unfold putB; rw [List.take_append, List.take_of_length_le (by omega)]
    have hlen : (putB s).length = (putN s.length).length + s.length := by unfold putB; rw [List.length_append]
    rw [e]
    obtain ⟨g1, g2, g3⟩ := g_put [x] s.length (s.take (j - (putN s.length).length)) (by omega)
    refine ⟨g1, g2, (gb_err3 g1 (by rw [g2]; omega) (by rw [g2, g3]; simp only [List.length_append, List.length_take, List.length_singleton]; omega)).1, ?_⟩
    have : (gTo ([x] ++ (putN s.length ++ s.take (j - (putN s.length).length))) ((0 + 1 : Nat) : Int)).toNat = ([x] ++ putN s.length).length := by
      rw [show gTo ([x] ++ (putN s.length ++ s.take (j - (putN s.length).length))) ((0 + 1 : Nat) : Int) = _ from g3, Int.toNat_natCast, List.length_append]
    rw [this, ← List.append_assoc, List.drop_append_of_le_length (Nat.le_refl _), List.drop_length, List.nil_append]
  rcases right_cases h with rfl | ⟨n, rfl, hn⟩ | ⟨n, rfl⟩ | ⟨s, rfl, hs, hv⟩ | ⟨s, rfl, hs⟩
  · replace hk : j + 1 < 1 := hk
    omega
  · replace hk : j + 1 < 2 := hk
    have hj : j = 0 := by omega
    subst hj
    have e : (oneL ⟨2, n, []⟩).take (0 + 1) = [b8 2] := rfl
    have h8 := at8_head (x := 2) (by omega) []
    rw [e]
    unfold vR
    rw [if_neg (by simp), if_neg (by rw [h8]; decide), if_pos h8, if_pos (by simp)]
    rfl
  · have e : (oneL ⟨3, n, []⟩).take (j + 1) = [b8 3] ++ (putN (zig n)).take j := rfl
    replace hk : j + 1 < (b8 3 :: putN (zig n)).length := hk
    rw [List.length_cons] at hk
    have h8 : at8 ([b8 3] ++ (putN (zig n)).take j) 0 = 3 := at8_head (x := 3) (by omega) _
    have g := num (b8 3) (zig n) (zig_lt ho.n0.1 ho.n0.2) (by omega)
    rw [e]
    unfold vR
    rw [if_neg (by simp), if_neg (by rw [h8]; decide), if_neg (by rw [h8]; decide), if_pos h8, if_pos (by rw [g]; decide), g]
    rfl
  · have e : (oneL ⟨4, 0, s⟩).take (j + 1) = [b8 4] ++ (putB s).take j := rfl
    replace hk : j + 1 < (b8 4 :: putB s).length := hk
    rw [List.length_cons] at hk
    have h8 : at8 ([b8 4] ++ (putB s).take j) 0 = 4 := at8_head (x := 4) (by omega) _
    rw [e]
    unfold vR
    rw [if_neg (by simp), if_neg (by rw [h8]; decide), if_neg (by rw [h8]; decide), if_neg (by rw [h8]; decide), if_pos (.inl h8)]
    by_cases hj : j < (putN s.length).length
    · have g := num (b8 4) s.length (by omega) hj
      have eB : (putB s).take j = (putN s.length).take j := by unfold putB; rw [List.take_append_of_le_length (by omega)]
      rw [← eB] at g
      rw [if_pos (by rw [g]; decide), g]
      rfl
    · obtain ⟨t1, t2, t3, t4⟩ := text (b8 4) s hs hj (by omega)
      rw [if_neg (by rw [t1]; decide), if_neg (by rw [t2]; omega), if_pos (by rw [t3]; decide), t4, all_take hv, if_neg (by simp)]
      rfl
  · have e : (oneL ⟨5, 0, s⟩).take (j + 1) = [b8 5] ++ (putB s).take j := rfl
    replace hk : j + 1 < (b8 5 :: putB s).length := hk
    rw [List.length_cons] at hk
    have h8 : at8 ([b8 5] ++ (putB s).take j) 0 = 5 := at8_head (x := 5) (by omega) _
    rw [e]
    unfold vR
    rw [if_neg (by simp), if_neg (by rw [h8]; decide), if_neg (by rw [h8]; decide), if_neg (by rw [h8]; decide), if_pos (.inr h8)]
    by_cases hj : j < (putN s.length).length
    · have g := num (b8 5) s.length (by omega) hj
      have eB : (putB s).take j = (putN s.length).take j := by unfold putB; rw [List.take_append_of_le_length (by omega)]
      rw [← eB] at g
      rw [if_pos (by rw [g]; decide), g]
      rfl
    · obtain ⟨t1, t2, t3, t4⟩ := text (b8 5) s hs hj (by omega)
      rw [if_neg (by rw [t1]; decide), if_neg (by rw [t2]; omega), if_pos (by rw [t3]; decide), if_neg (fun hc => by rw [h8] at hc; exact absurd hc.1 (by decide))]
      rfl
theorem vR_cut (p : List UInt8) {v : Val} (h : rightB v = true) (ho : VOk v) {k : Nat} (hk : k < (oneL v).length) : (vR (p ++ (oneL v).take k) p.length).1 = 10 :=
  (vR_shift p _).1.symm.trans (vR_cut0 h ho hk)

theorem decF_put : ∀ (l : List Val) (p r : List UInt8), allR l = true → (∀ v ∈ l, VOk v) → decF l.length (p ++ (l.flatMap oneL ++ r)) p.length = (0, l, p.length + (l.flatMap oneL).length)
  | [], p, r, _, _ => rfl
  | v :: l, p, r, h, ho => by
    unfold allR at h
    rw [List.all_cons, Bool.and_eq_true] at h
    have h1 := vR_put p h.1 (ho v (by simp)) (l.flatMap oneL ++ r)
    have ih := decF_put l (p ++ oneL v) r h.2 (fun u hu => ho u (by simp [hu]))
    have e : p ++ ((v :: l).flatMap oneL ++ r) = p ++ (oneL v ++ (l.flatMap oneL ++ r)) := by rw [List.flatMap_cons, List.append_assoc]
    rw [List.append_assoc, List.length_append] at ih
    rw [e]
    unfold decF
    rw [List.length_cons]
    dsimp only
    rw [h1, if_neg (by simp), ih, List.flatMap_cons, List.length_append]
    dsimp only
    rw [Nat.add_assoc]
theorem decF_cut : ∀ (l : List Val) (p : List UInt8) (k : Nat), allR l = true → (∀ v ∈ l, VOk v) → k < (l.flatMap oneL).length → (decF l.length (p ++ (l.flatMap oneL).take k) p.length).1 = 10
  | [], p, k, _, _, hk => by simp at hk
  | v :: l, p, k, h, ho, hk => by
    unfold allR at h
    rw [List.all_cons, Bool.and_eq_true] at h
    rw [List.flatMap_cons, List.length_append] at hk
    unfold decF
    rw [List.length_cons]
    dsimp only
    rw [List.flatMap_cons]
    by_cases hj : k < (oneL v).length
    · rw [List.take_append_of_le_length (by omega)]
      have h1 := vR_cut p h.1 (ho v (by simp)) hj
      rw [if_pos (by rw [h1]; decide), h1]
    · have e : (oneL v ++ l.flatMap oneL).take k = oneL v ++ (l.flatMap oneL).take (k - (oneL v).length) := by
        rw [List.take_append, List.take_of_length_le (by omega)]
      have h1 := vR_put p h.1 (ho v (by simp)) ((l.flatMap oneL).take (k - (oneL v).length))
      have ih := decF_cut l (p ++ oneL v) (k - (oneL v).length) h.2 (fun u hu => ho u (by simp [hu])) (by omega)
      rw [List.append_assoc, List.length_append] at ih
      rw [e, h1, if_neg (by simp)]
      exact ih
theorem enc_ok {l : List Val} (h : encE l = 0) : allR l = true ∧ l.length ≤ 100 ∧ encB l = putN l.length ++ l.flatMap oneL := by
  refine ⟨?_, ?_, by unfold encB; rw [if_pos h]⟩
  · unfold encE at h
    split at h
    · assumption
    · cases h
  · unfold encE at h
    split at h
    · split at h
      · cases h
      · omega
    · cases h
/-- A row's bytes are that row; with anything behind they are none. -/
theorem dec_more {l : List Val} (h : encE l = 0) (ho : ∀ v ∈ l, VOk v) (t : List UInt8) : decE (encB l ++ t) = (if t = [] then 0 else 11) ∧ (t = [] → decL (encB l ++ t) = l) := by
  obtain ⟨h1, h2, h3⟩ := enc_ok h
  obtain ⟨g1, g2, g3⟩ := g_put [] l.length (l.flatMap oneL ++ t) (by omega)
  rw [List.nil_append] at g1 g2 g3
  replace g1 : gE (putN l.length ++ (l.flatMap oneL ++ t)) 0 = 0 := g1
  replace g2 : gN (putN l.length ++ (l.flatMap oneL ++ t)) 0 = l.length := g2
  replace g3 : gTo (putN l.length ++ (l.flatMap oneL ++ t)) 0 = ((0 + (putN l.length).length : Nat) : Int) := g3
  have hF := decF_put l (putN l.length) t h1 ho
  have e : encB l ++ t = putN l.length ++ (l.flatMap oneL ++ t) := by rw [h3, List.append_assoc]
  have hR : decR (encB l ++ t) = (0, l, (putN l.length).length + (l.flatMap oneL).length) := by
    unfold decR
    rw [e, g2, g3, Nat.zero_add, Int.toNat_natCast, Int.toNat_natCast, hF]
  have hE : decE (encB l ++ t) = (if t = [] then 0 else 11) := by
    unfold decE
    rw [hR, e, if_neg (by rw [g1]; decide), if_neg (by rw [g2]; omega), if_neg (by simp)]
    by_cases ht : t = []
    · rw [if_neg (by subst ht; simp), if_pos ht]
    · have : 0 < t.length := List.length_pos_iff.2 ht
      rw [if_pos (by simp only [List.length_append]; omega), if_neg ht]
  refine ⟨hE, fun ht => ?_⟩
  unfold decL
  rw [hE, if_pos ht, if_pos rfl, hR]
theorem dec_enc {l : List Val} (h : encE l = 0) (ho : ∀ v ∈ l, VOk v) : decE (encB l) = 0 ∧ decL (encB l) = l := by
  have := dec_more h ho []
  rw [List.append_nil] at this
  exact ⟨this.1, this.2 rfl⟩
/-- Cut short it ends too soon. -/
theorem dec_cut {l : List Val} (h : encE l = 0) (ho : ∀ v ∈ l, VOk v) {k : Nat} (hk : k < (encB l).length) : decE ((encB l).take k) = 10 := by
  obtain ⟨h1, h2, h3⟩ := enc_ok h
  rw [h3] at hk ⊢
  by_cases hj : k < (putN l.length).length
  · rw [List.take_append_of_le_length (by omega)]
    have hcut := getF_cut _ l.length 0 0 k (Nat.lt_succ_self _) (by omega) (by omega) (by omega) hj
    have := (g_in (l := (putN l.length).take k) (a := 0) (by omega)).1
    rw [List.drop_zero, hcut] at this
    replace this : gE ((putN l.length).take k) 0 = 10 := this
    unfold decE
    rw [if_pos (by rw [this]; decide), this]
  · rw [List.length_append] at hk
    rw [List.take_append, List.take_of_length_le (by omega)]
    obtain ⟨g1, g2, g3⟩ := g_put [] l.length ((l.flatMap oneL).take (k - (putN l.length).length)) (by omega)
    rw [List.nil_append] at g1 g2 g3
    have hF := decF_cut l (putN l.length) (k - (putN l.length).length) h1 ho (by omega)
    have hR : (decR (putN l.length ++ (l.flatMap oneL).take (k - (putN l.length).length))).1 = 10 := by
      unfold decR
      rw [show gN (putN l.length ++ (l.flatMap oneL).take (k - (putN l.length).length)) 0 = _ from g2, show gTo (putN l.length ++ (l.flatMap oneL).take (k - (putN l.length).length)) 0 = _ from g3, Int.toNat_natCast, Int.toNat_natCast]
      rw [show ([] : List UInt8).length + (putN l.length).length = (putN l.length).length by simp]
      exact hF
    unfold decE
    rw [if_neg (by rw [show gE (putN l.length ++ (l.flatMap oneL).take (k - (putN l.length).length)) 0 = _ from g1]; decide), if_neg (by rw [show gN (putN l.length ++ (l.flatMap oneL).take (k - (putN l.length).length)) 0 = _ from g2]; omega), if_pos (by rw [hR]; decide), hR]
/-- Two rows one of which begins with the other's bytes are the same. -/
theorem enc_pre {a b : List Val} (ha : encE a = 0) (hb : encE b = 0) (oa : ∀ v ∈ a, VOk v) (ob : ∀ v ∈ b, VOk v) {t : List UInt8} (h : encB b = encB a ++ t) : a = b := by
  have h1 := dec_more ha oa t
  have h2 := dec_enc hb ob
  rw [h] at h2
  by_cases ht : t = []
  · rw [← h1.2 ht, h2.2]
  · rw [h1.1, if_neg ht] at h2; cases h2.1
end Go.Proofs.Ytjneoinacobbaaa
