/- Tries, open as far as they are wanted, plainly. Package reveal: Only. -/
import Derived.Test.YtojjfkbffjkojaaDoorG22
import Derived.Test.YtojjfkbffjkojaaDoorG05
namespace Go.Proofs.YtojjfkbffjkojaaDoor
open Go.RowKit
mutual
/-- A node at a place, open where S says so; else folded. -/
def onP (S : List UInt8 → Bool) : Nd → List UInt8 → Nd
  | .mk k p has v ks h, a => if S a = false ∨ k = 4 then foldN (.mk k p has v ks h) else .mk k p has v (onsP S ks (a ++ p) (decide (k = 3)) 0) h
def onsP (S : List UInt8 → Bool) : List Nd → List UInt8 → Bool → Nat → List Nd
  | [], _, _, _ => []
  | t :: ts, b, br, i => onP S t (b ++ if br then [UInt8.ofNat i] else []) :: onsP S ts b br (i + 1)
end
theorem onP_eq (S : List UInt8 → Bool) (t : Nd) (a : List UInt8) : onP S t a = if S a = false ∨ t.kind = 4 then foldN t else .mk t.kind t.path t.has t.val (onsP S t.kids (a ++ t.path) (decide (t.kind = 3)) 0) t.hash := by
  cases t; rw [onP]; rfl
theorem onP_open {S : List UInt8 → Bool} {t : Nd} {a : List UInt8} (h : S a = true) (h4 : t.kind ≠ 4) : onP S t a = .mk t.kind t.path t.has t.val (onsP S t.kids (a ++ t.path) (decide (t.kind = 3)) 0) t.hash := by
  rw [onP_eq, if_neg (by rintro (h' | h'); rw [h] at h'; cases h'; exact h4 h')]
theorem onP_shut {S : List UInt8 → Bool} {t : Nd} {a : List UInt8} (h : S a = false) : onP S t a = foldN t := by rw [onP_eq, if_pos (.inl h)]
theorem onsP_get (S : List UInt8 → Bool) : ∀ (ks : List Nd) (b : List UInt8) (br : Bool) (i j : Nat), (onsP S ks b br i)[j]? = (ks[j]?).map fun k => onP S k (b ++ if br then [UInt8.ofNat (i + j)] else [])
  | [], b, br, i, j => by rw [onsP]; rfl
  | t :: ts, b, br, i, 0 => by rw [onsP]; rfl
  | t :: ts, b, br, i, j + 1 => by rw [onsP, List.getElem?_cons_succ, List.getElem?_cons_succ, onsP_get S ts b br (i + 1) j, show i + 1 + j = i + (j + 1) by omega]
theorem onsP_len (S : List UInt8 → Bool) : ∀ (ks : List Nd) (b : List UInt8) (br : Bool) (i : Nat), (onsP S ks b br i).length = ks.length
  | [], b, br, i => by rw [onsP]
  | t :: ts, b, br, i => by rw [onsP, List.length_cons, List.length_cons, onsP_len]
theorem foldN_k4 {t : Nd} (h : t.kind ≠ 0) : (foldN t).kind = 4 := by unfold foldN; rw [if_neg h]; rfl
theorem foldN_k0 {t : Nd} (h : t.kind = 0) : (foldN t).kind = 0 := by unfold foldN; rw [if_pos h]; rfl
theorem onP_k0 (S : List UInt8 → Bool) (t : Nd) (a : List UInt8) : (onP S t a).kind = 0 ↔ t.kind = 0 := by
  rw [onP_eq]
  by_cases h0 : t.kind = 0
  · refine ⟨fun _ => h0, fun _ => ?_⟩
    split
    · exact foldN_k0 h0
    · exact h0
  · refine ⟨fun h => ?_, fun h => absurd h h0⟩
    split at h
    · rw [foldN_k4 h0] at h; cases h
    · exact h
theorem at_stop {t : Nd} {q : List UInt8} (h0 : q ≠ []) (h2 : t.kind ≠ 2) (h3 : t.kind ≠ 3) : atP t q = none := atP_no h0 (fun h => h2 h.1) (fun h => h3 h.1)
theorem at_fold {t : Nd} {q : List UInt8} (h0 : q ≠ []) : atP (foldN t) q = none := by
  by_cases h : t.kind = 0
  · exact at_stop h0 (by rw [foldN_k0 h]; decide) (by rw [foldN_k0 h]; decide)
  · exact at_stop h0 (by rw [foldN_k4 h]; decide) (by rw [foldN_k4 h]; decide)
theorem at_wayN {p : List UInt8} {k : Nd} {q : List UInt8} (h0 : p ≠ []) : atP (.mk 2 p false [] [k] []) (p ++ q) = atP k q := by
  have hne : p ++ q ≠ [] := fun e => h0 (List.append_eq_nil_iff.1 e).1
  rw [atP_way (t := .mk 2 p false [] [k] []) hne rfl (List.prefix_append p q) rfl]
  show atP k ((p ++ q).drop p.length) = _
  rw [List.drop_left]
theorem at_wayNo {p : List UInt8} {k : Nd} {q : List UInt8} (h0 : q ≠ []) (h : ¬ p <+: q) : atP (.mk 2 p false [] [k] []) q = none := atP_no h0 (fun e => h e.2.1) (fun e => absurd (show (2 : Int) = 3 from e.1) (by decide))
theorem at_brN {has : Bool} {v : List UInt8} {ks : List Nd} {c : UInt8} {q : List UInt8} {k : Nd} (hk : ks[c.toNat]? = some k) (h0 : k.kind ≠ 0) : atP (.mk 3 [] has v ks []) (c :: q) = atP k q := by
  have hl := (List.getElem?_eq_some_iff.1 hk).1
  have hg : ks.getD c.toNat noneN = k := by rw [List.getD_eq_getElem?_getD, hk]; rfl
  rw [atP_br (t := .mk 3 [] has v ks []) (w := c :: q) (by simp) rfl hl (by show (ks.getD c.toNat noneN).kind ≠ 0; rw [hg]; exact h0)]
  show atP (ks.getD c.toNat noneN) q = _
  rw [hg]
theorem at_brNo {has : Bool} {v : List UInt8} {ks : List Nd} {c : UInt8} {q : List UInt8} (h : ∀ k, ks[c.toNat]? = some k → k.kind = 0) : atP (.mk 3 [] has v ks []) (c :: q) = none := by
  refine atP_no (by simp) (fun e => absurd (show (3 : Int) = 2 from e.1) (by decide)) (fun e => ?_)
  obtain ⟨-, h2, h3⟩ := e
  have h2 : c.toNat < ks.length := h2
  have h3 : (ks.getD c.toNat noneN).kind ≠ 0 := h3
  obtain ⟨k, hk⟩ : ∃ k, ks[c.toNat]? = some k := ⟨_, List.getElem?_eq_getElem h2⟩
  have hg : ks.getD c.toNat noneN = k := by rw [List.getD_eq_getElem?_getD, hk]; rfl
  rw [hg] at h3
  exact h3 (h k hk)
/-- A way on. -/
theorem atP_app : ∀ (N : Nat) (t : Nd) (q s : List UInt8) (x : Nd), sz t < N → atP t q = some x → atP t (q ++ s) = atP x s
  | 0, t, q, s, x, h, _ => by omega
  | N + 1, t, q, s, x, h, ha => by
    by_cases h0 : q = []
    · subst h0
      rw [atP_eq, if_pos rfl] at ha
      injection ha with ha
      rw [ha]; rfl
    have hqs : q ++ s ≠ [] := fun e => h0 (List.append_eq_nil_iff.1 e).1
    rcases at_some (by rw [ha]; rfl) h0 with ⟨h1, h2, h3, -⟩ | ⟨h1, h2, h3, -⟩
    · rw [atP_way h0 h1 h2 h3] at ha
      have := sz_kidD t (i := 0) (by omega)
      rw [atP_way hqs h1 (h2.trans (List.prefix_append q s)) h3, List.drop_append_of_le_length h2.length_le]
      exact atP_app N _ _ s x (by omega) ha
    · have := sz_kidD t h2
      have e : (q ++ s).getD 0 0 = q.getD 0 0 := by
        cases q with
        | nil => exact absurd rfl h0
        | cons c q => rfl
      have e2 : (q ++ s).drop 1 = q.drop 1 ++ s := by
        cases q with
        | nil => exact absurd rfl h0
        | cons c q => rfl
      rw [atP_br h0 h1 h2 h3] at ha
      rw [atP_br hqs h1 (by rw [e]; exact h2) (by rw [e]; exact h3), e, e2]
      exact atP_app N _ _ s x (by omega) ha
/-- What lies at the end of a way, open as far as S says. -/
theorem at_on {even : Bool} (S : List UInt8 → Bool) : ∀ (N : Nat) (t : Nd) (d : Nat) (a q : List UInt8), sz t < N → Val even t d →
    (atP t q = none → atP (onP S t a) q = none) ∧ (∀ x, atP t q = some x → (∀ r y, r <+: q → r ≠ q → atP t r = some y → S (a ++ r) = true) → atP (onP S t a) q = some (onP S x (a ++ q))) ∧
    ((atP (onP S t a) q).isSome = true → ∀ r y, r <+: q → r ≠ q → atP t r = some y → S (a ++ r) = true)
  | 0, t, d, a, q, h, _ => by omega
  | N + 1, t, d, a, q, hN, hv => by
    by_cases h0 : q = []
    · subst h0
      have e : ∀ t, atP t [] = some t := fun t => by rw [atP_eq, if_pos rfl]
      refine ⟨fun h => (by rw [e] at h; cases h), fun x hx _ => ?_, fun _ r y hr hne => absurd (List.prefix_nil.1 hr) hne⟩
      rw [e] at hx ⊢
      injection hx with hx
      rw [hx, List.append_nil]
    have nil_ : ∀ y, S a = false → (∀ r y, r <+: q → r ≠ q → atP t r = some y → S (a ++ r) = true) → atP (onP S t a) q = some y := fun y hs h => by
      have := h [] t List.nil_prefix (fun e => h0 e.symm) (by rw [atP_eq, if_pos rfl])
      rw [List.append_nil, hs] at this; cases this
    have shut : S a = false → atP (onP S t a) q = none := fun hs => by rw [onP_shut hs]; exact at_fold h0
    by_cases hs : S a = false
    · exact ⟨fun _ => shut hs, fun x _ h => nil_ _ hs h, fun h => by rw [shut hs] at h; cases h⟩
    have hs : S a = true := by simpa using hs
    have dead : ∀ t, t.kind ≠ 2 → t.kind ≠ 3 → (atP (onP S t a) q = none ∧ atP t q = none) := fun t k2 k3 => ⟨by
      by_cases k4 : t.kind = 4
      · rw [onP_eq, if_pos (.inr k4)]; exact at_fold h0
      · rw [onP_open hs k4]; exact at_stop h0 k2 k3, at_stop h0 k2 k3⟩
    have deadc : ∀ {P : Prop}, t.kind ≠ 2 → t.kind ≠ 3 → (atP t q = none → atP (onP S t a) q = none) ∧ (∀ x, atP t q = some x → (∀ r y, r <+: q → r ≠ q → atP t r = some y → S (a ++ r) = true) → atP (onP S t a) q = some (onP S x (a ++ q))) ∧ ((atP (onP S t a) q).isSome = true → P) := fun k2 k3 =>
      ⟨fun _ => (dead t k2 k3).1, fun x hx => (by rw [(dead t k2 k3).2] at hx; cases hx), fun h => by rw [(dead t k2 k3).1] at h; cases h⟩
    cases hv with
    | none => exact deadc (show (0 : Int) ≠ 2 by decide) (show (0 : Int) ≠ 3 by decide)
    | leaf => exact deadc (show (1 : Int) ≠ 2 by decide) (show (1 : Int) ≠ 3 by decide)
    | stub => exact deadc (show (4 : Int) ≠ 2 by decide) (show (4 : Int) ≠ 3 by decide)
    | way d p k hd hp hp0 hk hr =>
      have hzk : sz k < N := by
        have := sz_kidD (.mk 2 p false [] [k] []) (i := 0) (by decide : 0 < 1)
        have e : (Nd.mk 2 p false [] [k] []).kids.getD 0 noneN = k := rfl
        rw [e] at this; omega
      have eon : onP S (.mk 2 p false [] [k] []) a = .mk 2 p false [] [onP S k (a ++ p)] [] := by
        rw [onP_open (t := .mk 2 p false [] [k] []) hs (show (2 : Int) ≠ 4 by decide)]
        show Nd.mk 2 p false [] (onsP S [k] (a ++ p) false 0) [] = _
        rw [onsP, onsP]
        show Nd.mk 2 p false [] [onP S k (a ++ p ++ [])] [] = _
        rw [List.append_nil]
      rw [eon]
      by_cases hpq : p <+: q
      · obtain ⟨q', rfl⟩ := hpq
        obtain ⟨i1, i2, i3⟩ := at_on S N k _ (a ++ p) q' hzk hr
        rw [at_wayN hp0, at_wayN hp0]
        refine ⟨i1, fun x hx h => ?_, fun h r y hr' hne hy => ?_⟩
        · rw [i2 x hx (fun r y hr' hne hy => by rw [List.append_assoc]; exact h (p ++ r) y (List.prefix_append_right_inj p |>.2 hr') (fun e => hne (List.append_cancel_left e)) (by rw [at_wayN hp0]; exact hy)), List.append_assoc]
        · by_cases hr0 : r = []
          · rw [hr0, List.append_nil]; exact hs
          by_cases hpr : p <+: r
          · obtain ⟨r', rfl⟩ := hpr
            rw [at_wayN hp0] at hy
            have := i3 h r' y ((List.prefix_append_right_inj p).1 hr') (fun e => hne (by rw [e])) hy
            rw [List.append_assoc] at this; exact this
          · rw [at_wayNo hr0 hpr] at hy; cases hy
      · rw [at_wayNo h0 hpq, at_wayNo h0 hpq]
        exact ⟨fun _ => rfl, fun x hx => (by cases hx), fun h => (by cases h)⟩
    | branch d has v ks hd hv hv0 he h16 hr hm =>
      have eon : onP S (.mk 3 [] has v ks []) a = .mk 3 [] has v (onsP S ks a true 0) [] := by
        rw [onP_open (t := .mk 3 [] has v ks []) hs (show (3 : Int) ≠ 4 by decide)]
        show Nd.mk 3 [] has v (onsP S ks (a ++ []) true 0) [] = _
        rw [List.append_nil]
      rw [eon]
      cases q with
      | nil => exact absurd rfl h0
      | cons c q' =>
        cases hk : ks[c.toNat]? with
        | none =>
          have hk2 : (onsP S ks a true 0)[c.toNat]? = none := by rw [onsP_get, hk]; rfl
          rw [at_brNo (fun k h => by rw [hk] at h; cases h), at_brNo (fun k h => by rw [hk2] at h; cases h)]
          exact ⟨fun _ => rfl, fun x hx => (by cases hx), fun h => (by cases h)⟩
        | some k =>
          have hk2 : (onsP S ks a true 0)[c.toNat]? = some (onP S k (a ++ [c])) := by
            rw [onsP_get, hk, Nat.zero_add]
            show some (onP S k (a ++ [UInt8.ofNat c.toNat])) = _
            rw [UInt8.ofNat_toNat]
          by_cases hk0 : k.kind = 0
          · rw [at_brNo (fun k' h => by rw [hk] at h; injection h with h; rw [← h]; exact hk0), at_brNo (fun k' h => by rw [hk2] at h; injection h with h; rw [← h]; exact (onP_k0 S k _).2 hk0)]
            exact ⟨fun _ => rfl, fun x hx => (by cases hx), fun h => (by cases h)⟩
          · have hzk : sz k < N := by
              have h1 := sz_eq (.mk 3 [] has v ks [])
              have h2 := szs_mem (List.mem_of_getElem? hk)
              have e : (Nd.mk 3 [] has v ks []).kids = ks := rfl
              rw [e] at h1; omega
            obtain ⟨i1, i2, i3⟩ := at_on S N k _ (a ++ [c]) q' hzk (hr k (List.mem_of_getElem? hk))
            have hk0' : (onP S k (a ++ [c])).kind ≠ 0 := fun h => hk0 ((onP_k0 S k _).1 h)
            rw [at_brN hk hk0, at_brN hk2 hk0']
            refine ⟨i1, fun x hx h => ?_, fun h r y hr' hne hy => ?_⟩
            · rw [i2 x hx (fun r y hr' hne hy => by
                rw [List.append_assoc]
                exact h (c :: r) y (by simpa using hr') (fun e => hne (by simpa using e)) (by rw [at_brN hk hk0]; exact hy)), List.append_assoc]
              rfl
            · cases r with
              | nil => rw [List.append_nil]; exact hs
              | cons c' r' =>
                have hcc := List.cons_prefix_cons.1 hr'
                obtain ⟨rfl, hrq⟩ := hcc
                rw [at_brN hk hk0] at hy
                have := i3 h r' y hrq (fun e => hne (by rw [e])) hy
                rw [List.append_assoc] at this; exact this
theorem onP_none (S : List UInt8 → Bool) (a : List UInt8) : onP S noneN a = noneN := by
  rw [onP_eq]
  split
  · rfl
  · show Nd.mk 0 [] false [] (onsP S [] (a ++ []) (decide ((0 : Int) = 3)) 0) [] = noneN
    rw [onsP]; rfl
theorem on_way {S : List UInt8 → Bool} {a p : List UInt8} {k : Nd} (hs : S a = true) : onP S (.mk 2 p false [] [k] []) a = .mk 2 p false [] [onP S k (a ++ p)] [] := by
  rw [onP_open (t := .mk 2 p false [] [k] []) hs (show (2 : Int) ≠ 4 by decide)]
  show Nd.mk 2 p false [] (onsP S [k] (a ++ p) false 0) [] = _
  rw [onsP, onsP]
  show Nd.mk 2 p false [] [onP S k (a ++ p ++ [])] [] = _
  rw [List.append_nil]
theorem on_br {S : List UInt8 → Bool} {a : List UInt8} {has : Bool} {v : List UInt8} {ks : List Nd} (hs : S a = true) : onP S (.mk 3 [] has v ks []) a = .mk 3 [] has v (onsP S ks a true 0) [] := by
  rw [onP_open (t := .mk 3 [] has v ks []) hs (show (3 : Int) ≠ 4 by decide)]
  show Nd.mk 3 [] has v (onsP S ks (a ++ []) true 0) [] = _
  rw [List.append_nil]
theorem ons_br (S : List UInt8 → Bool) (ks : List Nd) (a : List UInt8) (j : Nat) : (onsP S ks a true 0)[j]? = (ks[j]?).map fun k => onP S k (a ++ [UInt8.ofNat j]) := by
  rw [onsP_get, Nat.zero_add]; rfl
/-- Only what is said of the nodes' places counts. -/
theorem on_congr {even : Bool} {S S' : List UInt8 → Bool} : ∀ (N : Nat) (t : Nd) (d : Nat) (a : List UInt8), sz t < N → Val even t d → (∀ r x, atP t r = some x → x.kind ≠ 4 → x.kind ≠ 0 → S (a ++ r) = S' (a ++ r)) → onP S t a = onP S' t a
  | 0, t, d, a, h, _, _ => by omega
  | N + 1, t, d, a, hN, hv, h => by
    have top : t.kind ≠ 4 → t.kind ≠ 0 → S a = S' a := fun k4 k0 => by
      have := h [] t (by rw [atP_eq, if_pos rfl]) k4 k0
      rw [List.append_nil] at this; exact this
    cases hv with
    | none => rw [onP_none, onP_none]
    | stub d hh hd hl => rw [onP_eq, onP_eq S', if_pos (.inr rfl), if_pos (.inr rfl)]
    | leaf d p v hd hp hv he =>
      have e := top (show (1 : Int) ≠ 4 by decide) (show (1 : Int) ≠ 0 by decide)
      rw [onP_eq, onP_eq S', e]
      show (if _ then _ else Nd.mk 1 p false v (onsP S [] _ _ 0) []) = (if _ then _ else Nd.mk 1 p false v (onsP S' [] _ _ 0) [])
      rw [onsP, onsP]
    | way d p k hd hp hp0 hk hr =>
      have e := top (show (2 : Int) ≠ 4 by decide) (show (2 : Int) ≠ 0 by decide)
      by_cases hs : S a = false
      · rw [onP_shut hs, onP_shut (e ▸ hs)]
      have hs : S a = true := by simpa using hs
      rw [on_way hs, on_way (e ▸ hs)]
      have hzk : sz k < N := by
        have := sz_kidD (.mk 2 p false [] [k] []) (i := 0) (by decide : 0 < 1)
        have e : (Nd.mk 2 p false [] [k] []).kids.getD 0 noneN = k := rfl
        rw [e] at this; omega
      rw [on_congr (S := S) (S' := S') N k _ (a ++ p) hzk hr (fun r x hx k4 k0 => by rw [List.append_assoc]; exact h (p ++ r) x (by rw [at_wayN hp0]; exact hx) k4 k0)]
    | branch d has v ks hd hv hv0 he h16 hr hm =>
      have e := top (show (3 : Int) ≠ 4 by decide) (show (3 : Int) ≠ 0 by decide)
      by_cases hs : S a = false
      · rw [onP_shut hs, onP_shut (e ▸ hs)]
      have hs : S a = true := by simpa using hs
      rw [on_br hs, on_br (e ▸ hs)]
      have hks : onsP S ks a true 0 = onsP S' ks a true 0 := by
        refine List.ext_getElem? fun j => ?_
        rw [ons_br, ons_br]
        cases hk : ks[j]? with
        | none => rfl
        | some k =>
          have hj := (List.getElem?_eq_some_iff.1 hk).1
          have hzk : sz k < N := by
            have h1 := sz_eq (.mk 3 [] has v ks [])
            have h2 := szs_mem (List.mem_of_getElem? hk)
            have e : (Nd.mk 3 [] has v ks []).kids = ks := rfl
            rw [e] at h1; omega
          have hjn : (UInt8.ofNat j).toNat = j := by rw [UInt8.toNat_ofNat', Nat.mod_eq_of_lt (by omega)]
          show some (onP S k (a ++ [UInt8.ofNat j])) = some (onP S' k (a ++ [UInt8.ofNat j]))
          rw [on_congr (S := S) (S' := S') N k _ (a ++ [UInt8.ofNat j]) hzk (hr k (List.mem_of_getElem? hk)) (fun r x hx k4 k0 => by
            by_cases hk0 : k.kind = 0
            · by_cases hr0 : r = []
              · rw [hr0, atP_eq, if_pos rfl] at hx; injection hx with hx; rw [← hx] at k0; exact absurd hk0 k0
              · rw [at_stop hr0 (by omega) (by omega)] at hx; cases hx
            · rw [List.append_assoc]
              exact h (UInt8.ofNat j :: r) x (by rw [at_brN (by rw [hjn]; exact hk) hk0]; exact hx) k4 k0)]
      rw [hks]
/-- One more is opened. -/
theorem on_step {even : Bool} {S : List UInt8 → Bool} : ∀ (N : Nat) (t : Nd) (d : Nat) (a q : List UInt8) (x : Nd), sz t < N → Val even t d → atP t q = some x → x.kind ≠ 4 → (atP (onP S t a) q).isSome = true → S (a ++ q) = false → (∀ r, r ≠ [] → S (a ++ q ++ r) = false) →
    laidP (onP S t a) q (shutK x) = onP (fun r => S r || decide (r = a ++ q)) t a
  | 0, t, d, a, q, x, h, _, _, _, _, _, _ => by omega
  | N + 1, t, d, a, q, x, hN, hv, hx, hx4, hso, hsf, hse => by
    by_cases h0 : q = []
    · subst h0
      rw [atP_eq, if_pos rfl] at hx
      injection hx with hx
      subst hx
      rw [laidP_nil]
      rw [List.append_nil] at hsf hse ⊢
      have hS : (fun r => S r || decide (r = a)) a = true := by simp
      have hF : ∀ r, r ≠ [] → (fun r => S r || decide (r = a)) (a ++ r) = false := fun r hr => by
        show (S (a ++ r) || decide (a ++ r = a)) = false
        rw [hse r hr, decide_eq_false (fun e => hr (by simpa using e))]; rfl
      cases hv with
      | none => rw [onP_none]; rfl
      | stub d hh hd hl => exact absurd rfl hx4
      | leaf d p v hd hp hv he =>
        rw [onP_open (t := .mk 1 p false v [] []) hS (show (1 : Int) ≠ 4 by decide)]
        show Nd.mk 1 p false v ([].map foldN) [] = Nd.mk 1 p false v (onsP _ [] _ _ 0) []
        rw [onsP]; rfl
      | way d p k hd hp hp0 hk hr =>
        rw [on_way hS, onP_shut (hF p hp0)]
        rfl
      | branch d has v ks hd hv hv0 he h16 hr hm =>
        rw [on_br hS]
        show Nd.mk 3 [] has v (ks.map foldN) [] = _
        have hks : ks.map foldN = onsP (fun r => S r || decide (r = a)) ks a true 0 := by
          refine List.ext_getElem? fun j => ?_
          rw [ons_br, List.getElem?_map]
          cases ks[j]? with
          | none => rfl
          | some k => show some (foldN k) = some (onP (fun r => S r || decide (r = a)) k (a ++ [UInt8.ofNat j])); rw [onP_shut (hF [UInt8.ofNat j] (by simp))]
        rw [hks]
    have hon := (at_on S (N + 1) t d a q hN hv).2.2 hso
    have hs : S a = true := by
      have := hon [] t List.nil_prefix (fun e => h0 e.symm) (by rw [atP_eq, if_pos rfl])
      rw [List.append_nil] at this; exact this
    have hS : (fun r => S r || decide (r = a ++ q)) a = true := by show (S a || _) = true; rw [hs]; rfl
    cases hv with
    | none => exact absurd (hx.symm.trans (at_stop h0 (show (0 : Int) ≠ 2 by decide) (show (0 : Int) ≠ 3 by decide))) (by simp)
    | stub => exact absurd (hx.symm.trans (at_stop h0 (show (4 : Int) ≠ 2 by decide) (show (4 : Int) ≠ 3 by decide))) (by simp)
    | leaf => exact absurd (hx.symm.trans (at_stop h0 (show (1 : Int) ≠ 2 by decide) (show (1 : Int) ≠ 3 by decide))) (by simp)
    | way d p k hd hp hp0 hk hr =>
      have hzk : sz k < N := by
        have := sz_kidD (.mk 2 p false [] [k] []) (i := 0) (by decide : 0 < 1)
        have e : (Nd.mk 2 p false [] [k] []).kids.getD 0 noneN = k := rfl
        rw [e] at this; omega
      by_cases hpq : p <+: q
      · obtain ⟨q', rfl⟩ := hpq
        rw [at_wayN hp0] at hx
        rw [on_way hs, at_wayN hp0] at hso
        rw [on_way hs, on_way hS]
        have ih := on_step N k _ (a ++ p) q' x hzk hr hx hx4 hso (by rw [List.append_assoc]; exact hsf) (fun r hr => by rw [List.append_assoc a p q']; exact hse r hr)
        have ed : (p ++ q').drop p.length = q' := List.drop_left
        rw [laidP_way (t := .mk 2 p false [] [onP S k (a ++ p)] []) (shutK x) h0 rfl rfl (by show (atP (onP S k (a ++ p)) ((p ++ q').drop p.length)).isSome = true; rw [ed]; exact hso)]
        show Nd.mk 2 p false [] [laidP (onP S k (a ++ p)) ((p ++ q').drop p.length) (shutK x)] [] = _
        rw [ed, ih, List.append_assoc]
      · rw [at_wayNo h0 hpq] at hx; cases hx
    | branch d has v ks hd hv hv0 he h16 hr hm =>
      cases q with
      | nil => exact absurd rfl h0
      | cons c q' =>
        cases hk : ks[c.toNat]? with
        | none => rw [at_brNo (fun k h => by rw [hk] at h; cases h)] at hx; cases hx
        | some k =>
          by_cases hk0 : k.kind = 0
          · rw [at_brNo (fun k' h => by rw [hk] at h; injection h with h; rw [← h]; exact hk0)] at hx; cases hx
          have hkl := (List.getElem?_eq_some_iff.1 hk).1
          have hk0' : (onP S k (a ++ [c])).kind ≠ 0 := fun h => hk0 ((onP_k0 S k _).1 h)
          have hk2 : (onsP S ks a true 0)[c.toNat]? = some (onP S k (a ++ [c])) := by
            rw [ons_br, hk]
            show some (onP S k (a ++ [UInt8.ofNat c.toNat])) = _
            rw [UInt8.ofNat_toNat]
          have hzk : sz k < N := by
            have h1 := sz_eq (.mk 3 [] has v ks [])
            have h2 := szs_mem (List.mem_of_getElem? hk)
            have e : (Nd.mk 3 [] has v ks []).kids = ks := rfl
            rw [e] at h1; omega
          rw [at_brN hk hk0] at hx
          rw [on_br hs, at_brN hk2 hk0'] at hso
          rw [on_br hs, on_br hS]
          have hac : a ++ (c :: q') = a ++ [c] ++ q' := by rw [List.append_assoc]; rfl
          rw [hac] at hsf hse
          have ih := on_step N k _ (a ++ [c]) q' x hzk (hr k (List.mem_of_getElem? hk)) hx hx4 hso hsf hse
          have hg : (onsP S ks a true 0).getD c.toNat noneN = onP S k (a ++ [c]) := by rw [List.getD_eq_getElem?_getD, hk2]; rfl
          have hl2 : c.toNat < (onsP S ks a true 0).length := by rw [onsP_len]; exact hkl
          rw [laidP_br (t := .mk 3 [] has v (onsP S ks a true 0) []) (w := c :: q') (shutK x) h0 rfl hl2 (by show (atP ((onsP S ks a true 0).getD c.toNat noneN) q').isSome = true; rw [hg]; exact hso)]
          show Nd.mk 3 [] has v ((onsP S ks a true 0).set c.toNat (laidP ((onsP S ks a true 0).getD c.toNat noneN) q' (shutK x))) [] = _
          rw [hg, ih, ← hac]
          have hks : (onsP S ks a true 0).set c.toNat (onP (fun r => S r || decide (r = a ++ (c :: q'))) k (a ++ [c])) = onsP (fun r => S r || decide (r = a ++ (c :: q'))) ks a true 0 := by
            refine List.ext_getElem? fun j => ?_
            by_cases hj : c.toNat = j
            · subst hj
              rw [List.getElem?_set_self hl2, ons_br, hk]
              show _ = some (onP _ k (a ++ [UInt8.ofNat c.toNat]))
              rw [UInt8.ofNat_toNat]
            · rw [List.getElem?_set_ne hj, ons_br, ons_br]
              cases hkj : ks[j]? with
              | none => rfl
              | some kj =>
                have hjl := (List.getElem?_eq_some_iff.1 hkj).1
                have hjn : (UInt8.ofNat j).toNat = j := by rw [UInt8.toNat_ofNat', Nat.mod_eq_of_lt (by omega)]
                show some (onP S kj (a ++ [UInt8.ofNat j])) = some (onP (fun r => S r || decide (r = a ++ (c :: q'))) kj (a ++ [UInt8.ofNat j]))
                rw [on_congr (S := S) (S' := fun r => S r || decide (r = a ++ (c :: q'))) (sz kj + 1) kj _ (a ++ [UInt8.ofNat j]) (Nat.lt_succ_self _) (hr kj (List.mem_of_getElem? hkj)) (fun r x hx k4 k0 => by
                  show S _ = (S _ || _)
                  rw [decide_eq_false (fun e => hj (by
                    rw [List.append_assoc] at e
                    have := List.append_cancel_left e
                    injection this with this
                    rw [← this]; exact hjn)), Bool.or_false])]
          rw [hks]
/-- Places that are open: those ahead, and on a way the first ones. -/
def Sb (S : List UInt8 → Bool) (w : List UInt8) (b : Nat) (q : List UInt8) : Bool := S q || (decide (q <+: w) && decide (q.length < b))
def Closed (S : List UInt8 → Bool) : Prop := ∀ q r, r <+: q → S q = true → S r = true
theorem Sb_closed {S : List UInt8 → Bool} (h : Closed S) (w : List UInt8) (b : Nat) : Closed (Sb S w b) := fun q r hr hq => by
  unfold Sb at hq ⊢
  rw [Bool.or_eq_true, Bool.and_eq_true] at hq ⊢
  rcases hq with hq | ⟨h1, h2⟩
  · exact .inl (h q r hr hq)
  · exact .inr ⟨decide_eq_true (hr.trans (of_decide_eq_true h1)), decide_eq_true (by have := hr.length_le; have := of_decide_eq_true h2; omega)⟩
theorem Sb_in {S : List UInt8 → Bool} {w q : List UInt8} {b : Nat} (h : q <+: w) (hl : q.length < b) : Sb S w b q = true := by
  unfold Sb; rw [decide_eq_true h, decide_eq_true hl, Bool.and_self, Bool.or_true]
theorem Sb_out {S : List UInt8 → Bool} {w q : List UInt8} {b : Nat} (h : ¬ q <+: w) : Sb S w b q = S q := by
  unfold Sb; rw [decide_eq_false h, Bool.false_and, Bool.or_false]
theorem at_mid {t x y : Nd} {q s : List UInt8} (h : atP t q = some y) (hs : s ≠ []) (hx : atP t (q ++ s) = some x) : y.kind = 2 ∨ y.kind = 3 := by
  rw [atP_app (sz t + 1) t q s y (Nat.lt_succ_self _) h] at hx
  rcases at_some (by rw [hx]; rfl) hs with ⟨h, -⟩ | ⟨h, -⟩
  · exact .inl h
  · exact .inr h
theorem pre_takeV {q w : List UInt8} (h : q <+: w) : q = w.take q.length := by
  obtain ⟨s, rfl⟩ := h; rw [List.take_left]
theorem pre_pre {q r w : List UInt8} (h1 : q <+: w) (h2 : r <+: w) (h : q.length ≤ r.length) : q <+: r := List.prefix_of_prefix_length_le h1 h2 h
/-- What the nearest stub tells. -/
theorem near_some {even : Bool} {t : Nd} {S : List UInt8 → Bool} {w : List UInt8} {a b : Nat} (hv : Val even t 0) (hS : Closed S) (ha : a ≤ w.length) (hst : stubB (onP (Sb S w b) t []) (w.take a) = true) :
    ∃ x, atP t (w.take a) = some x ∧ (x.kind = 4 → onP (Sb S w b) t [] = onP (Sb S w (w.length + 1)) t []) ∧ (x.kind ≠ 4 → b ≤ a ∧ laidP (onP (Sb S w b) t []) (w.take a) (shutK x) = onP (Sb S w (a + 1)) t []) := by
  obtain ⟨q, hq⟩ : ∃ q, q = w.take a := ⟨_, rfl⟩
  have hqw : q <+: w := by rw [hq]; exact List.take_prefix a w
  have hql : q.length = a := by rw [hq, List.length_take]; omega
  rw [← hq] at hst ⊢
  obtain ⟨i1, i2, i3⟩ := at_on (Sb S w b) (sz t + 1) t 0 [] q (Nat.lt_succ_self _) hv
  unfold stubB at hst
  cases hy : atP (onP (Sb S w b) t []) q with
  | none => rw [hy] at hst; cases hst
  | some y =>
    rw [hy] at hst
    have hy4 : y.kind = 4 := of_decide_eq_true hst
    cases hx : atP t q with
    | none => rw [i1 hx] at hy; cases hy
    | some x =>
      have i3 := i3 (by rw [hy]; rfl)
      have i2 := i2 x hx i3
      rw [hy] at i2
      injection i2 with i2
      rw [List.nil_append] at i2
      have hanc : ∀ r x', r <+: w → r.length < a → atP t r = some x' → Sb S w b r = true := fun r x' hr hl hrx => by
        have := i3 r x' (pre_pre hr hqw (by omega)) (fun e => by rw [e] at hl; omega) hrx
        rw [List.nil_append] at this; exact this
      refine ⟨x, rfl, fun hx4 => ?_, fun hx4 => ?_⟩
      · refine on_congr (sz t + 1) t 0 [] (Nat.lt_succ_self _) hv fun r x' hrx k4 k0 => ?_
        rw [List.nil_append]
        by_cases hrw : r <+: w
        · rw [Sb_in (b := w.length + 1) hrw (by have := hrw.length_le; omega)]
          rcases Nat.lt_trichotomy r.length a with h | h | h
          · exact hanc r x' hrw h hrx
          · have e : r = q := by rw [pre_takeV hrw, h, hq]
            rw [e, hx] at hrx; injection hrx with hrx; rw [← hrx] at k4; exact absurd hx4 k4
          · obtain ⟨s, hs⟩ := pre_pre hqw hrw (by omega)
            subst hs
            have hs0 : s ≠ [] := fun e => by rw [e, List.append_nil] at h; omega
            rcases at_mid hx hs0 hrx with h | h <;> omega
        · rw [Sb_out hrw, Sb_out hrw]
      · have hx0 : x.kind ≠ 0 := fun e => by have := (onP_k0 (Sb S w b) x q).2 e; rw [← i2] at this; omega
        have hsq : Sb S w b q = false := by
          cases h : Sb S w b q with
          | false => rfl
          | true => rw [onP_open h hx4] at i2; rw [i2] at hy4; exact absurd hy4 hx4
        have hba : b ≤ a := by
          rcases Nat.lt_or_ge a b with h | h
          · rw [Sb_in hqw (by omega)] at hsq; cases hsq
          · exact h
        refine ⟨hba, ?_⟩
        have hst := on_step (S := Sb S w b) (sz t + 1) t 0 [] q x (Nat.lt_succ_self _) hv hx hx4 (by rw [hy]; rfl) (by rw [List.nil_append]; exact hsq) (fun r hr => by
          rw [List.nil_append]
          cases h : Sb S w b (q ++ r) with
          | false => rfl
          | true => rw [Sb_closed hS w b (q ++ r) q (List.prefix_append q r) h] at hsq; cases hsq)
        rw [hst]
        refine on_congr (sz t + 1) t 0 [] (Nat.lt_succ_self _) hv fun r x' hrx k4 k0 => ?_
        rw [List.nil_append, List.nil_append]
        show (Sb S w b r || decide (r = q)) = _
        by_cases hrw : r <+: w
        · rcases Nat.lt_trichotomy r.length a with h | h | h
          · rw [hanc r x' hrw h hrx, Bool.true_or, Sb_in hrw (by omega)]
          · have e : r = q := by rw [pre_takeV hrw, h, hq]
            rw [decide_eq_true e, Bool.or_true, Sb_in hrw (by omega)]
          · have e : r ≠ q := fun e => by rw [e] at h; omega
            rw [decide_eq_false e, Bool.or_false]
            unfold Sb
            rw [decide_eq_false (show ¬ r.length < b by omega), decide_eq_false (show ¬ r.length < a + 1 by omega)]
        · rw [Sb_out hrw, Sb_out hrw, decide_eq_false (fun e => hrw (by rw [e]; exact hqw)), Bool.or_false]
theorem near_none {even : Bool} {t : Nd} {S : List UInt8 → Bool} {w : List UInt8} {b : Nat} (hv : Val even t 0) (h : ∀ a, a ≤ w.length → stubB (onP (Sb S w b) t []) (w.take a) = false) : onP (Sb S w b) t [] = onP (Sb S w (w.length + 1)) t [] := by
  have key : ∀ (n : Nat) (r : List UInt8) (x : Nd), r.length < n → r <+: w → atP t r = some x → x.kind ≠ 4 → x.kind ≠ 0 → Sb S w b r = true := by
    intro n
    induction n with
    | zero => intro r x h; omega
    | succ n ih =>
      intro r x hl hrw hx k4 k0
      cases hs : Sb S w b r with
      | true => rfl
      | false =>
        exfalso
        obtain ⟨-, i2, -⟩ := at_on (Sb S w b) (sz t + 1) t 0 [] r (Nat.lt_succ_self _) hv
        have i2 := i2 x hx (fun r' y hr' hne hy => by
          rw [List.nil_append]
          obtain ⟨s, rfl⟩ := hr'
          have hs0 : s ≠ [] := fun e => hne (by rw [e, List.append_nil])
          have hlen : 0 < s.length := List.length_pos_iff.2 hs0
          rw [List.length_append] at hl
          have hk := at_mid hy hs0 hx
          exact ih r' y (by omega) ((List.prefix_append r' s).trans hrw) hy (by rcases hk with h | h <;> omega) (by rcases hk with h | h <;> omega))
        rw [List.nil_append, onP_shut hs] at i2
        have hst := h r.length hrw.length_le
        rw [← pre_takeV hrw] at hst
        unfold stubB at hst
        rw [i2] at hst
        exact absurd (foldN_k4 k0) (of_decide_eq_false hst)
  refine on_congr (sz t + 1) t 0 [] (Nat.lt_succ_self _) hv fun r x' hrx k4 k0 => ?_
  rw [List.nil_append]
  by_cases hrw : r <+: w
  · rw [key (r.length + 1) r x' (Nat.lt_succ_self _) hrw hrx k4 k0, Sb_in hrw (by have := hrw.length_le; omega)]
  · rw [Sb_out hrw, Sb_out hrw]
end Go.Proofs.YtojjfkbffjkojaaDoor
namespace Go.Proofs.YtojjfkbffjkojaaDoor
open Go.RowKit
theorem RdD.atL {W : World} {F : Nat → Prop} {ll : List (List UInt8)} {A : Option Addr} {n c i : Nat} {l : List UInt8} (h : RdD W F (dLs ll) (.slice A n c)) (hk : ll[i]? = some l) :
    ∃ b off A1 c1, A = some ⟨b, off, none⟩ ∧ F b ∧ RdD W F (dB l) (.slice A1 l.length c1) ∧ W.cell? ((⟨b, off, none⟩ : Addr).add (i * 1)) = some (.slice A1 l.length c1) := by
  have hn := h.slen
  have hi := (List.getElem?_eq_some_iff.1 hk).1
  obtain ⟨b, off, es, e1, hF, hes, hel, hc⟩ := h.at_ (i := i) (by omega)
  have e : ((ll.map dB).drop (i * 1)).take 1 = [dB l] := by
    rw [Nat.mul_one]
    refine List.ext_getElem? fun j => ?_
    cases j with
    | zero => rw [List.getElem?_take_of_lt (by omega), List.getElem?_drop, List.getElem?_map, Nat.add_zero, hk]; rfl
    | succ j => rw [List.getElem?_take_eq_none (by omega)]; rfl
  rw [e] at hes
  match es, hel with
  | [u], _ =>
    have hu := hes.hd
    obtain ⟨A1, c1, cs1, h1, -⟩ := RdD.sl_iff.1 hu
    subst h1
    exact ⟨b, off, A1, c1, e1, hF, hu, by rw [Addr.add_lit]; have := hc 0 _ rfl; rwa [Nat.add_zero] at this⟩
theorem hashR_le (t : Nd) : (hashR t).length ≤ 32 := by
  unfold hashR
  split
  · rename_i h
    rw [hashP_len (val_of_right false _ t 0 (Nat.lt_succ_self _) h)]; exact Nat.le_refl _
  · exact Nat.zero_le _
theorem fold_sz (t : Nd) : sz (foldN t) ≤ 38 := by
  unfold foldN
  split
  · have e : sz noneN = 6 := rfl
    omega
  · have := hashR_le t
    rw [sz, szs]; simp only [List.length_nil]; omega
theorem ons_sz {S : List UInt8 → Bool} : ∀ (ks : List Nd) (b : List UInt8) (br : Bool) (i : Nat), (∀ k ∈ ks, ∀ a, sz (onP S k a) ≤ 7 * sz k) → szs (onsP S ks b br i) ≤ 7 * szs ks
  | [], b, br, i, _ => by rw [onsP, szs]; exact Nat.zero_le _
  | k :: ks, b, br, i, h => by
    have h1 := h k (List.mem_cons_self ..) (b ++ if br then [UInt8.ofNat i] else [])
    have h2 := ons_sz ks b br (i + 1) (fun k hk => h k (List.mem_cons_of_mem _ hk))
    rw [onsP, szs, szs]; omega
theorem on_sz {S : List UInt8 → Bool} : ∀ (N : Nat) (t : Nd) (a : List UInt8), sz t < N → sz (onP S t a) ≤ 7 * sz t
  | 0, t, a, h => by omega
  | N + 1, t, a, h => by
    have hsz := sz_eq t
    rw [onP_eq]
    split
    · have := fold_sz t; omega
    · have hk := ons_sz (S := S) t.kids (a ++ t.path) (decide (t.kind = 3)) 0 (fun k hk a => on_sz N k a (by have := szs_mem hk; omega))
      rw [sz]; omega
/-- Places on some ways. -/
def Sof (ways : List (List UInt8)) (q : List UInt8) : Bool := ways.any fun w => decide (q <+: w)
theorem Sof_closed (ways : List (List UInt8)) : Closed (Sof ways) := fun q r hr h => by
  unfold Sof at h ⊢
  rw [List.any_eq_true] at h ⊢
  obtain ⟨w, hw, h⟩ := h
  exact ⟨w, hw, decide_eq_true (hr.trans (of_decide_eq_true h))⟩
theorem Sb0 (S : List UInt8 → Bool) (w : List UInt8) : Sb S w 0 = S := by
  funext q
  unfold Sb
  rw [decide_eq_false (show ¬ q.length < 0 by omega), Bool.and_false, Bool.or_false]
theorem Sb_all (ways : List (List UInt8)) (w : List UInt8) : Sb (Sof ways) w (w.length + 1) = Sof (ways ++ [w]) := by
  funext q
  unfold Sb Sof
  rw [List.any_append]
  congr 1
  show _ = (decide (q <+: w) || false)
  rw [Bool.or_false]
  by_cases h : q <+: w
  · rw [decide_eq_true h, decide_eq_true (show q.length < w.length + 1 by have := h.length_le; omega)]; rfl
  · rw [decide_eq_false h]; rfl
/-- What lies on some ways. -/
def onlyP (t : Nd) (ways : List (List UInt8)) : Nd × Int := if checkE t = 0 then (onP (Sof ways) t [], 0) else (noneN, 2)
theorem check_val {t : Nd} (h : checkE t = 0) : Val true t 0 := by
  unfold checkE at h
  split at h
  · rename_i h'; exact val_of_right true _ t 0 (Nat.lt_succ_self _) h'
  · cases h
theorem is_vonly : isFn Tryd.prog 16 = true := by kernel_rfl
theorem slls : slOf Tryd.prog 41 = some (23, 1) := by kernel_rfl
set_option maxRecDepth 100000 in
set_option maxHeartbeats 4000000 in
theorem vonly_any (t : Nd) (hz : sz t ≤ 100000) (ways : List (List UInt8)) (gs : List (Option Nat)) (w : World) (cs : List Value) (hG : GL w gs) (hr : RdL w (Fd w gs) (dN t) cs) {A : Option Addr} {n c : Nat} (hw : RdD w (Fd w gs) (dLs ways) (.slice A n c)) (hgs : ∀ b, some b ∈ gs → b < w.heap.size) (hn : n ≤ 1000000) (hwl : ∀ l ∈ ways, l.length ≤ 10000000) :
    Calls Tryd.prog 16 #[.agg cs.toArray, .slice A n c] w fun e w' => ∃ cs', e = .returned (.tuple #[.agg cs'.toArray, .int .i64 (onlyP t ways).2]) ∧ RdL w' (Fd w' gs) (dN (onlyP t ways).1) cs' ∧ Below w.heap.size w w' := by
  refine calls_ev (args := [.agg cs.toArray, .slice A n c]) mixed Tryd.func16 rfl (by kernel_rfl) ?_
  have hl0 := hr.len
  rw [dN_len] at hl0
  have en := hw.slen
  have en : n = ways.length := en
  subst en
  have M := ((St.start hgs).addD hw).addL hr
  clear hr hw
  refine s_box (cs) M rfl ?_
  clear M
  rintro g2 W M
  refine s_alloc (zN) M al_nd ?_
  clear M
  rintro g4 W M
  unfold onlyP
  refine v_loadN cs agg_nd rfl hl0 (M.run 1 rfl) ?_
  refine cc is_ncheck (ncheck_any t (by omega) _ _ _ (M.da 0 rfl) M.olt) ?_
  rintro e W ⟨rfl, hb⟩
  replace M := M.call hb
  clear hb
  refine ⟨_, rfl, ?_⟩
  refine p_ne rfl rfl (fun h1 => ?_) (fun h1 => ?_)
  rotate_left
  · have h1 : ¬ checkE t = 0 := h1
    rw [if_neg h1]
    refine p_build (vs := zN) pl_nd z_nd rfl ?_
    refine s_storeA 0 zN M rfl sz_nd rfl rfl rfl (all1 rfl) rfl ?_
    clear M; rintro W M
    dsimp only [setL] at M
    refine c_loadN zN agg_nd rfl rfl (M.run 0 rfl) ?_
    exact ⟨zN, rfl, RdL.znone, M.below⟩
  have h1 : checkE t = 0 := h1
  have hv := check_val h1
  rw [if_pos h1]
  have hon : ∀ S, sz (onP S t []) ≤ 700000 := fun S => by have := on_sz (S := S) (sz t + 1) t [] (Nat.lt_succ_self _); omega
  have e0 : onP (Sof ([] : List (List UInt8))) t [] = foldN t := onP_shut rfl
  refine v_loadN cs agg_nd rfl hl0 (M.run 1 rfl) ?_
  refine cc is_nFold (nFold_any t (by omega) _ _ _ (M.gl hG) (M.da 0 rfl) M.olt) ?_
  rintro e W ⟨cs6, rfl, r9, hb⟩
  have hc6 := r9.len
  rw [dN_len] at hc6
  rw [← e0] at r9
  replace M := (M.call hb).addL (r9.to fun b q => ⟨rfl, q.2.1, fun e => by have := M.olt b e; have := q.1; omega⟩)
  clear r9 hb e0
  refine ⟨_, rfl, ?_⟩
  refine s_alloc (zN) M al_nd ?_
  clear M
  rintro g6 W M
  refine s_storeA 0 cs6 M rfl sz_nd rfl rfl hc6 ((M.da 0 rfl).ones (dN_one _)) rfl ?_
  clear M; rintro W M
  dsimp only [setL] at M
  refine p_len slls rfl ?_
  refine lp (Nat × List Value) (fun s W => s.1 ≤ ways.length ∧ s.2.length = 6 ∧ St w gs W [(g6, 26, s.2), (g4, 26, zN), (g2, 26, cs)] [] [.dat false (dN (onP (Sof (ways.take s.1)) t [])) s.2, .dat false (dN t) cs, .dat false [dLs ways] [.slice A ways.length c]])
    (fun s => [(2, .pointer (some ⟨g2, 0, none⟩)), (4, .pointer (some ⟨g4, 0, none⟩)), (6, .pointer (some ⟨g6, 0, none⟩)), (18, .slice A ways.length c), (19, .int .i64 (ways.length : Nat)), (20, .int .i64 (s.1 : Nat))]) (fun s => ways.length - s.1) (0, cs6) ⟨Nat.zero_le _, hc6, M⟩ (by repeat (first | exact trivial | refine ⟨rfl, ?_⟩)) ?_
  clear M hc6
  rintro ⟨i, cs6⟩ E1 W1 ⟨hi, hc6, M⟩
  dsimp only at hi hc6 M
  refine p_lt rfl rfl (fun hlt => ?_) (fun hge => ?_)
  rotate_left
  · have hge : i = ways.length := by have h : ¬ (i : Int) < (ways.length : Int) := hge; omega
    subst hge
    rw [List.take_length] at M
    refine v_loadN cs6 agg_nd rfl hc6 (M.run 0 rfl) ?_
    refine s_storeA 1 cs6 M rfl sz_nd rfl rfl hc6 ((M.da 0 rfl).ones (dN_one _)) rfl ?_
    clear M; rintro W M
    dsimp only [setL] at M
    refine c_loadN cs6 agg_nd rfl hc6 (M.run 1 rfl) ?_
    exact ⟨cs6, rfl, M.fin 0 rfl, M.below⟩
  have hlt : i < ways.length := by have h : (i : Int) < (ways.length : Int) := hlt; omega
  obtain ⟨l, hl⟩ : ∃ l, ways[i]? = some l := ⟨_, List.getElem?_eq_getElem hlt⟩
  have hll := hwl l (List.mem_of_getElem? hl)
  have htk : ways.take (i + 1) = ways.take i ++ [l] := by rw [List.take_add_one, hl]; rfl
  obtain ⟨S, hS⟩ : ∃ S, S = Sof (ways.take i) := ⟨_, rfl⟩
  have hSc : Closed S := by rw [hS]; exact Sof_closed _
  have hSa : Sb S l (l.length + 1) = Sof (ways.take (i + 1)) := by rw [hS, Sb_all, htk]
  rw [← hS] at M
  clear hS
  refine ev_assoc ?_
  refine cutS (List Value) (fun s W => s.length = 6 ∧ St w gs W [(g6, 26, s), (g4, 26, zN), (g2, 26, cs)] [] [.dat false (dN (onP (Sof (ways.take (i + 1))) t [])) s, .dat false (dN t) cs, .dat false [dLs ways] [.slice A ways.length c]])
    (fun _ => [(2, .pointer (some ⟨g2, 0, none⟩)), (4, .pointer (some ⟨g4, 0, none⟩)), (6, .pointer (some ⟨g6, 0, none⟩)), (18, .slice A ways.length c), (19, .int .i64 (ways.length : Nat)), (20, .int .i64 (i : Nat))]) ?_ ?_
  · obtain ⟨b1, o1, A8, c8, e1, hF, r8, hcell⟩ := (M.d1 2 rfl).atL hl
    subst e1
    refine p_at (i := i) slls rfl rfl rfl hlt ?_
    refine v_load agg_b rfl hcell ?_
    replace M := M.addD r8
    clear hcell hF r8
    rw [← hSa]
    refine v_loadN cs6 agg_nd rfl hc6 (M.run 0 rfl) ?_
    refine cc is_vnear (vnear_any _ (by have := hon S; omega) l _ _ cs6 (M.da 1 rfl) (M.d1 0 rfl) M.olt (by omega)) ?_
    rintro e W ⟨r, rfl, hrn, hb⟩
    replace M := M.call hb
    clear hb
    refine ⟨_, rfl, ?_⟩
    refine lp (Nat × List Value × Int) (fun s W => s.1 ≤ l.length + 1 ∧ s.2.1.length = 6 ∧ NearOk (onP (Sb S l s.1) t []) l s.2.2 ∧ St w gs W [(g6, 26, s.2.1), (g4, 26, zN), (g2, 26, cs)] [] [.dat false (dN (onP (Sb S l s.1) t [])) s.2.1, .dat false [dB l] [.slice A8 l.length c8], .dat false (dN t) cs, .dat false [dLs ways] [.slice (some ⟨b1, o1, none⟩) ways.length c]])
      (fun s => [(2, .pointer (some ⟨g2, 0, none⟩)), (4, .pointer (some ⟨g4, 0, none⟩)), (6, .pointer (some ⟨g6, 0, none⟩)), (8, .slice A8 l.length c8), (9, .int .i64 s.2.2), (18, .slice (some ⟨b1, o1, none⟩) ways.length c), (19, .int .i64 (ways.length : Nat)), (20, .int .i64 (i : Nat))]) (fun s => l.length + 1 - s.1) (0, cs6, r) ⟨Nat.zero_le _, hc6, (by rw [Sb0]; exact hrn), by rw [Sb0]; exact M.fsub _ (by simp)⟩ (by repeat (first | exact trivial | refine ⟨rfl, ?_⟩)) ?_
    clear M hrn hc6
    rintro ⟨b, cs6, r⟩ E2 W2 ⟨hb, hc6, hrn, M⟩
    dsimp only at hb hc6 hrn M
    rcases hrn with ⟨a, rfl, hal, hst, -⟩ | ⟨rfl, hno⟩
    rotate_left
    · refine p_ge rfl rfl (fun h => absurd (show (0 : Int) ≤ -1 from h) (by decide)) (fun _ => ?_)
      rw [near_none hv hno] at M
      exact ⟨cs6, ⟨hc6, M.fsub _ (by simp)⟩, (by repeat (first | exact trivial | refine ⟨rfl, ?_⟩))⟩
    refine p_ge rfl rfl (fun _ => ?_) (fun h => absurd (show (0 : Int) ≤ (a : Int) by omega) h)
    obtain ⟨x, hx, hx4, hx5⟩ := near_some hv hSc hal hst
    have hsx : ∃ y, atP (onP (Sb S l b) t []) (l.take a) = some y ∧ y.kind = 4 := by
      unfold stubB at hst
      cases hy : atP (onP (Sb S l b) t []) (l.take a) with
      | none => rw [hy] at hst; cases hst
      | some y => rw [hy] at hst; exact ⟨y, rfl, of_decide_eq_true hst⟩
    obtain ⟨y, hy, hy4⟩ := hsx
    have hcap := (M.d1 1 rfl).scap
    have hcut := (M.d1 1 rfl).cutB (i := 0) (j := a) (m := c8) (Nat.zero_le _) hal (by omega)
    rw [List.drop_zero, Nat.sub_zero, Nat.sub_zero] at hcut
    replace M := M.addD hcut
    clear hcut
    obtain ⟨O, hO⟩ : ∃ O, O = openP (onP (Sb S l b) t []) t (l.take a) := ⟨_, rfl⟩
    have hO2 := hO
    unfold openP at hO2
    rw [hy, hx] at hO2
    dsimp only at hO2
    refine cutV (Nat × List Value) (fun s W => s.2.length = 6 ∧ St w gs W [(s.1, 26, s.2), (g6, 26, cs6), (g4, 26, zN), (g2, 26, cs)] [] [.dat false (dN O.1) s.2, .dat false [dB (l.take a)] [.slice (slA A8 c8 0 1) a c8], .dat false (dN (onP (Sb S l b) t [])) cs6, .dat false [dB l] [.slice A8 l.length c8], .dat false (dN t) cs, .dat false [dLs ways] [.slice (some ⟨b1, o1, none⟩) ways.length c]])
      (fun s => [(2, .pointer (some ⟨g2, 0, none⟩)), (4, .pointer (some ⟨g4, 0, none⟩)), (6, .pointer (some ⟨g6, 0, none⟩)), (8, .slice A8 l.length c8), (10, .pointer (some ⟨s.1, 0, none⟩)), (11, .int .i64 O.2), (18, .slice (some ⟨b1, o1, none⟩) ways.length c), (19, .int .i64 (ways.length : Nat)), (20, .int .i64 (i : Nat))]) ?_ ?_
    · replace M := M.drew
      refine drT (Kp w gs [(g6, 26, cs6), (g2, 26, cs)] []) (.take 0 (.take 1 (.take 2 (.take 3 (.take 4 (.two 5 (.take 6 (.take 7 (.take 8 (.one 9 (.one 10 (.take 11 (.nil))))))) 9 (.one 5 (.take 6 (.take 7 (.take 8 (.one 10 (.take 11 (.nil))))))))))))) (by kernel_rfl) (M.kp (by simp) (by simp)) ?_
      refine t_loadN cs6 agg_nd rfl hc6 (fun W K => K.run 0 rfl) ?_
      refine t_loadN cs agg_nd rfl hl0 (fun W K => K.run 1 rfl) ?_
      refine p_slice (i := 0) (j := a) (m := c8) slb rfl rfl (bnd_i rfl) rfl rfl (Nat.zero_le _) (by omega) (Nat.le_refl _) ?_
      rw [Nat.sub_zero, Nat.sub_zero]
      refine ⟨?_, ?_⟩
      ·
        have ca := vopen_any (onP (Sb S l b) t []) t (by have := hon (Sb S l b); omega) (by omega) (l.take a) _ _ cs6 cs (M.gl hG) (M.da 1 rfl) (M.da 3 rfl) (M.d1 0 rfl) M.olt (by omega)
        rw [← hO] at ca
        refine cc is_vopen ca ?_
        clear ca
        rintro e W ⟨cs9, rfl, r9, hb9⟩
        have hc9 := r9.len
        rw [dN_len] at hc9
        replace M := (M.call hb9).addL r9
        clear r9 hb9
        refine ⟨_, rfl, (M.kp (by simp) (by simp)), ?_⟩
        refine s_alloc (zN) M al_nd ?_
        clear M
        rintro g10 W M
        refine ⟨(M.kp (by simp) (by simp)), ?_⟩
        refine s_storeA 0 cs9 M rfl sz_nd rfl rfl hc9 ((M.da 0 rfl).ones (dN_one _)) rfl ?_
        clear M; rintro W M
        dsimp only [setL] at M
        refine ⟨(M.kp (by simp) (by simp)), ?_⟩
        exact ⟨(g10, cs9), ⟨hc9, M⟩, (by repeat (first | exact trivial | refine ⟨rfl, ?_⟩))⟩
      ·
        refine s_alloc (zN) M al_nd ?_
        clear M
        rintro g10 W M
        refine ⟨(M.kp (by simp) (by simp)), ?_⟩
        have ca := vopen_any (onP (Sb S l b) t []) t (by have := hon (Sb S l b); omega) (by omega) (l.take a) _ _ cs6 cs (M.gl hG) (M.da 1 rfl) (M.da 3 rfl) (M.d1 0 rfl) M.olt (by omega)
        rw [← hO] at ca
        refine cc is_vopen ca ?_
        clear ca
        rintro e W ⟨cs9, rfl, r9, hb9⟩
        have hc9 := r9.len
        rw [dN_len] at hc9
        replace M := (M.call hb9).addL r9
        clear r9 hb9
        refine ⟨_, rfl, (M.kp (by simp) (by simp)), ?_⟩
        refine s_storeA 0 cs9 M rfl sz_nd rfl rfl hc9 ((M.da 0 rfl).ones (dN_one _)) rfl ?_
        clear M; rintro W M
        dsimp only [setL] at M
        refine ⟨(M.kp (by simp) (by simp)), ?_⟩
        exact ⟨(g10, cs9), ⟨hc9, M⟩, (by repeat (first | exact trivial | refine ⟨rfl, ?_⟩))⟩
    · clear M
      rintro ⟨g10, cs9⟩ B0 W0 ⟨hc9, M⟩
      dsimp only at hc9 M
      by_cases h4 : x.kind = 4
      · rw [if_neg (fun h => h.2 h4)] at hO2
        rw [hO2]
        refine p_ne rfl rfl (fun h => absurd h (by decide)) (fun _ => ?_)
        rw [hx4 h4] at M
        exact ⟨cs6, ⟨hc6, M.dropL.fsub _ (by simp)⟩, (by repeat (first | exact trivial | refine ⟨rfl, ?_⟩))⟩
      · obtain ⟨hba, hlaid⟩ := hx5 h4
        rw [if_pos ⟨hy4, h4⟩, hlaid] at hO2
        rw [hO2] at M ⊢
        dsimp only at M ⊢
        refine p_ne rfl rfl (fun _ => ?_) (fun h => absurd rfl h)
        refine v_loadN cs9 agg_nd rfl hc9 (M.run 0 rfl) ?_
        refine s_storeA 1 cs9 M rfl sz_nd rfl rfl hc9 ((M.da 0 rfl).ones (dN_one _)) hc6 ?_
        clear M; rintro W M
        dsimp only [setL] at M
        refine v_loadN cs9 agg_nd rfl hc9 (M.run 1 rfl) ?_
        refine cc is_vnear (vnear_any _ (by have := hon (Sb S l (a + 1)); omega) l _ _ cs9 (M.da 0 rfl) (M.d1 3 rfl) M.olt (by omega)) ?_
        rintro e W ⟨r, rfl, hrn, hb9⟩
        replace M := M.call hb9
        clear hb9
        refine ⟨_, rfl, ?_⟩
        exact ⟨(a + 1, cs9, r), ⟨by dsimp only; omega, hc9, hrn, M.dropL.fsub _ (by simp)⟩, (by repeat (first | exact trivial | refine ⟨rfl, ?_⟩)), by dsimp only; omega⟩
  · clear M
    rintro cs7 B0 W0 ⟨hc7, M⟩
    refine p_addN (b := 1) rfl rfl (by omega) ?_
    exact ⟨(i + 1, cs7), ⟨by dsimp only; omega, hc7, M⟩, (by repeat (first | exact trivial | refine ⟨rfl, ?_⟩)), by dsimp only; omega⟩
end Go.Proofs.YtojjfkbffjkojaaDoor
