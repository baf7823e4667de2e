/- Tries, plainly: drop takes one away; what is read. No walk here. Tries, plainly: what the program answers is what the reference answers. No walk here. Seek: a span; the walks of of, has, meets. -/
import Derived.Test.YtdlljmmgkoeilaaDoorG17
import Derived.Test.YtdlljmmgkoeilaaDoorG14
namespace Go.Proofs.YtdlljmmgkoeilaaDoor
theorem kind0 {even : Bool} {t : Nd} {d : Nat} (h : Val even t d) (h0 : t.kind = 0) : t = noneN := by
  cases h with
  | none => rfl
  | _ => cases h0
theorem many_cons (t : Nd) (ks : List Nd) : manyN (t :: ks) = (if t.kind = 0 then 0 else 1) + manyN ks := by
  unfold manyN
  rw [List.filter_cons]
  by_cases h : t.kind = 0
  · rw [if_neg (by simp [h]), if_pos h, Nat.zero_add]
  · rw [if_pos (by simp [h]), if_neg h, List.length_cons]; omega
theorem many_zero : ∀ {ks : List Nd}, manyN ks = 0 → ∀ k ∈ ks, k.kind = 0
  | t :: ks, h, k, hk => by
    rw [many_cons] at h
    rcases List.mem_cons.1 hk with rfl | hk
    · split at h
      · assumption
      · omega
    · exact many_zero (by omega) k hk
theorem many_set_ge : ∀ {ks : List Nd} {i : Nat} {k' : Nd}, manyN ks ≤ manyN (ks.set i k') + 1
  | [], i, k' => by simp [manyN]
  | t :: ks, 0, k' => by rw [List.set_cons_zero, many_cons, many_cons]; split <;> split <;> omega
  | t :: ks, i + 1, k' => by
    have := many_set_ge (ks := ks) (i := i) (k' := k')
    rw [List.set_cons_succ, many_cons, many_cons]; omega
theorem scan_some {has : Bool} {j : Nat} : ∀ {ks : List Nd} {i : Nat}, scanK has ks i (some j) = if manyN ks = 0 then some (some j) else none
  | [], i => rfl
  | t :: ks, i => by
    rw [scanK, many_cons]
    by_cases h : t.kind = 0
    · rw [if_pos h, if_pos h, scan_some, Nat.zero_add]
    · rw [if_neg h, if_neg h, if_pos (show ((some j : Option Nat).isSome || has) = true from rfl), if_neg (by omega)]
theorem scan_none {has : Bool} : ∀ {ks : List Nd} {i : Nat}, (manyN ks = 0 ∧ scanK has ks i none = some none) ∨ (1 ≤ manyN ks ∧ (has = true ∨ 2 ≤ manyN ks) ∧ scanK has ks i none = none) ∨
    (manyN ks = 1 ∧ has = false ∧ ∃ j k, ks[j]? = some k ∧ k.kind ≠ 0 ∧ (∀ j' k', ks[j']? = some k' → j' ≠ j → k'.kind = 0) ∧ scanK has ks i none = some (some (i + j)))
  | [], i => .inl ⟨rfl, rfl⟩
  | t :: ks, i => by
    rw [scanK, many_cons]
    by_cases h : t.kind = 0
    · rw [if_pos h, if_pos h, Nat.zero_add]
      rcases scan_none (has := has) (ks := ks) (i := i + 1) with h1 | h1 | ⟨h1, h2, j, k, h3, h4, h5, h6⟩
      · exact .inl h1
      · exact .inr (.inl h1)
      · refine .inr (.inr ⟨h1, h2, j + 1, k, h3, h4, fun j' k' hj hne => ?_, by rw [h6, show i + 1 + j = i + (j + 1) by omega]⟩)
        cases j' with
        | zero => simp at hj; rw [← hj]; exact h
        | succ j' => exact h5 j' k' (by simpa using hj) (by omega)
    · rw [if_neg h, if_neg h]
      cases has with
      | true => exact .inr (.inl ⟨by omega, .inl rfl, rfl⟩)
      | false =>
        have e : (if ((none : Option Nat).isSome || false) = true then none else scanK false ks (i + 1) (some i)) = scanK false ks (i + 1) (some i) := rfl
        rw [e, scan_some]
        by_cases h0 : manyN ks = 0
        · rw [if_pos h0]
          refine .inr (.inr ⟨by omega, rfl, 0, t, rfl, h, fun j' k' hj hne => ?_, rfl⟩)
          cases j' with
          | zero => exact absurd rfl hne
          | succ j' => exact many_zero h0 k' (List.mem_of_getElem? (by simpa using hj))
        · rw [if_neg h0]
          exact .inr (.inl ⟨by omega, .inr (by omega), rfl⟩)
theorem behind_none (p : List UInt8) : behindN p noneN = noneN := rfl
theorem behind_leaf (p p' v : List UInt8) : behindN p (.mk 1 p' false v [] []) = .mk 1 (p ++ p') false v [] [] := rfl
theorem behind_way (p p' : List UInt8) (k : Nd) : behindN p (.mk 2 p' false [] [k] []) = .mk 2 (p ++ p') false [] [k] [] := rfl
theorem behind_br (p : List UInt8) (has : Bool) (v : List UInt8) (ks : List Nd) : behindN p (.mk 3 [] has v ks []) = alongN p (.mk 3 [] has v ks []) := rfl
theorem items_behind {even : Bool} {t : Nd} {d : Nat} (h : Val even t d) (h4 : t.kind ≠ 4) (p way : List UInt8) (kn kn' : Bool) : itemsP (behindN p t) way kn = itemsP t (way ++ p) kn' := by
  cases h with
  | none => rw [behind_none, items_none, items_none]
  | leaf d p' v => rw [behind_leaf, items_leaf, items_leaf, List.append_assoc]
  | stub => exact absurd rfl h4
  | way d p' k => rw [behind_way, items_way, items_way, List.append_assoc]
  | branch d has v ks => rw [behind_br, items_along3, items_br]
theorem behind_val {even : Bool} {t : Nd} {d : Nat} {p : List UInt8} (h : Val even t (d + p.length)) (h4 : t.kind ≠ 4) (hd : d ≤ 400) (hp : halvesB p = true) : Val even (behindN p t) d := by
  cases h with
  | none => rw [behind_none]; exact .none d hd
  | leaf _ p' v hd' hp' hv he =>
    rw [behind_leaf]
    exact .leaf d (p ++ p') v hd (by rw [halvesB_app, hp, hp']; rfl) hv (by rw [List.length_append, ← Nat.add_assoc]; exact he)
  | stub => exact absurd rfl h4
  | way _ p' k hd' hp' h0 hk hr =>
    rw [behind_way]
    exact .way d (p ++ p') k hd (by rw [halvesB_app, hp, hp']; rfl) (by simp [h0]) hk (by rw [List.length_append, ← Nat.add_assoc]; exact hr)
  | branch _ has v ks hd' hv hv0 he h16 hr hm =>
    rw [behind_br]
    exact along_val hd hp (.inl rfl) (.branch _ has v ks hd' hv hv0 he h16 hr hm)
theorem behind_kind {t : Nd} (h4 : t.kind ≠ 4) (p : List UInt8) : (behindN p t).kind ≠ 4 := by
  unfold behindN
  split
  · exact h4
  · split
    · exact h4
    · unfold alongN
      split
      · exact h4
      · exact (show (2 : Int) ≠ 4 by decide)
theorem only_items {even : Bool} {d : Nat} {ks : List Nd} (hr : ∀ k ∈ ks, Val even k d) {j : Nat} {k : Nd} (hj : ks[j]? = some k) (ho : ∀ j' k', ks[j']? = some k' → j' ≠ j → k'.kind = 0) (way : List UInt8) : itemsK ks true false 0 way = itemsP k (way ++ [UInt8.ofNat j]) false := by
  have := filterK (pr := fun _ => true) (kn := false) (at_ := way) (ks := ks) (i := 0) (x := j) (kx := k) (fun j' k' h1 hne y hy => by
    rw [kind0 (hr k' (List.mem_of_getElem? h1)) (ho j' k' h1 hne), items_none] at hy; cases hy) hj
  rw [Nat.zero_add, List.filter_eq_self.2 (fun _ _ => rfl), List.filter_eq_self.2 (fun _ _ => rfl)] at this
  exact this
theorem items_k0 {ks : List Nd} (h : ∀ k ∈ ks, k = noneN) (way : List UInt8) : ∀ i, itemsK ks true false i way = [] := by
  induction ks with
  | nil => intro i; rfl
  | cons t ks ih => intro i; rw [itemsK, h t (by simp), items_none, ih (fun k hk => h k (by simp [hk]))]; rfl
theorem settle_ok {even : Bool} {d : Nat} {has : Bool} {v : List UInt8} {ks : List Nd} (hd : d ≤ 400) (hv : v.length ≤ 4000) (hv0 : has = true ∨ v = []) (he : has = true → endsP d even = true) (h16 : ks.length = 16) (hr : ∀ k ∈ ks, Val even k (d + 1)) (hm : 1 ≤ (if has then 1 else 0) + manyN ks) :
    ((settleP (.mk 3 [] has v ks [])).2 = none → Val even (settleP (.mk 3 [] has v ks [])).1 d ∧ (settleP (.mk 3 [] has v ks [])).1.kind ≠ 4 ∧ ∀ way kn, itemsP (settleP (.mk 3 [] has v ks [])).1 way kn = ownI has v way ++ itemsK ks true false 0 way) ∧
    (∀ m, (settleP (.mk 3 [] has v ks [])).2 = some m → ∃ j h, j < 16 ∧ m = [UInt8.ofNat j] ∧ ∀ way, ownI has v way ++ itemsK ks true false 0 way = [⟨way ++ [UInt8.ofNat j], [], true, false, h⟩]) := by
  unfold settleP
  dsimp only [Nd.has, Nd.kids, Nd.val]
  rcases scan_none (has := has) (ks := ks) (i := 0) with ⟨h1, h2⟩ | ⟨h1, h2, h3⟩ | ⟨h1, h2, j, k, h3, h4, h5, h6⟩
  · rw [h2]
    dsimp only
    have hh : has = true := by cases has with | true => rfl | false => simp [h1] at hm
    subst hh
    refine ⟨fun _ => ⟨.leaf d [] v hd rfl hv (he rfl), (show (1 : Int) ≠ 4 by decide), fun way kn => ?_⟩, fun m h => by cases h⟩
    rw [items_leafN, items_k0 (fun k hk => kind0 (hr k hk) (many_zero h1 k hk)), List.append_nil, List.append_nil]; rfl
  · rw [h3]
    dsimp only
    refine ⟨fun _ => ⟨.branch d has v ks hd hv hv0 he h16 hr ?_, (show (3 : Int) ≠ 4 by decide), fun way kn => items_br has v ks way kn⟩, fun m h => by cases h⟩
    rcases h2 with h | h
    · rw [if_pos h]; omega
    · omega
  · rw [h6, Nat.zero_add]
    dsimp only
    have e : ks.getD j noneN = k := by rw [List.getD_eq_getElem?_getD, h3]; rfl
    simp only [e]
    have hj := (List.getElem?_eq_some_iff.1 h3).1
    have hk := hr k (List.mem_of_getElem? h3)
    subst h2
    by_cases hk4 : k.kind = 4
    · rw [if_pos hk4]
      refine ⟨fun h => (by cases h), fun m h => ?_⟩
      injection h with h
      cases hk with
      | stub _ hs =>
        refine ⟨j, hs, by omega, h.symm, fun way => ?_⟩
        rw [only_items hr h3 h5, items_stub]; rfl
      | _ => cases hk4
    · rw [if_neg hk4]
      refine ⟨fun _ => ⟨behind_val hk hk4 hd ?_, behind_kind hk4 _, fun way kn => ?_⟩, fun m h => by cases h⟩
      · have := ofNat_half (show j < 16 by omega)
        unfold halvesB
        simp only [List.all_cons, List.all_nil, Bool.and_true, decide_eq_true_eq]
        have h15 : (UInt8.ofNat j).toNat ≤ 15 := by omega
        exact h15
      · rw [items_behind hk hk4 _ way kn false, only_items hr h3 h5]; rfl
theorem single_bad {N at_ : Nat} {y : It} {m : List UInt8} (h : (buildA N [y] at_).2 = some m) : y.stub = true ∧ y.known = false ∧ at_ < y.path.length ∧ m = y.path := by
  cases N with
  | zero => rw [buildA] at h; cases h
  | succ n =>
    rw [build_one] at h
    split at h
    · cases h
    · rename_i hs
      split at h
      · rename_i hlt
        split at h
        · rename_i hk
          injection h with h
          exact ⟨by cases hq : y.stub; exact absurd hq hs; rfl, hk, by omega, h.symm⟩
        · rename_i hk
          dsimp only at h
          exfalso
          cases n with
          | zero => rw [buildA] at h; cases h
          | succ n =>
            rw [build_one, if_neg hs, if_neg (by omega)] at h
            cases h
      · cases h
theorem bad_single {N at_ : Nat} {y : It} (h1 : y.stub = true) (h2 : y.known = false) (h3 : at_ < y.path.length) (hN : y.path.length < at_ + N) : (buildA N [y] at_).2 = some y.path := by
  obtain ⟨n, rfl⟩ : ∃ n, N = n + 1 := ⟨N - 1, by omega⟩
  rw [build_one, if_neg (by rw [h1]; decide), if_pos (by omega), if_pos h2]
theorem bad_ne {N at_ : Nat} {l : List It} {m : List UInt8} (h : (buildA N l at_).2 = some m) : l ≠ [] := by
  rintro rfl
  cases N <;> (rw [buildA] at h; cases h)
theorem alike_shift {l : List It} {at_ : Nat} {p : List UInt8} (h0 : l ≠ []) (hc : ∀ x ∈ l, p <+: x.path.drop at_) : alikeP l at_ = p.length + alikeP l (at_ + p.length) := by
  have hd : ∀ x ∈ l, x.path.drop at_ = p ++ x.path.drop (at_ + p.length) := fun x hx => by
    obtain ⟨r, hr⟩ := hc x hx
    rw [← List.drop_drop, ← hr, List.drop_left]
  have h1 := alike_sh at_ h0
  have h2 := alike_sh (at_ + p.length) h0
  have h3 : p.length ≤ alikeP l at_ := alike_max h0 ⟨p, rfl, hc⟩
  have h4 : p.length + alikeP l (at_ + p.length) ≤ alikeP l at_ := by
    obtain ⟨c, e, hs⟩ := h2
    refine alike_max h0 ⟨p ++ c, by rw [List.length_append, e], fun x hx => ?_⟩
    rw [hd x hx]
    exact (List.prefix_append_right_inj _).2 (hs x hx)
  have h5 : alikeP l at_ - p.length ≤ alikeP l (at_ + p.length) := by
    obtain ⟨c, e, hs⟩ := h1
    refine alike_max h0 ⟨c.drop p.length, by rw [List.length_drop, e], fun x hx => ?_⟩
    have := hs x hx
    rw [hd x hx] at this
    obtain ⟨z, hz⟩ := this
    have h6 : c = p ++ c.drop p.length := by
      have := congrArg (List.take p.length) hz
      rw [List.take_append_of_le_length (by omega), List.take_left' rfl] at this
      rw [← List.take_append_drop p.length c, this]; simp
    rw [h6, List.append_assoc] at hz
    exact ⟨z, List.append_cancel_left hz⟩
  omega
theorem bad_way {l : List It} {at_ : Nat} {p m : List UInt8} (h0 : p ≠ []) (hc : ∀ x ∈ l, p <+: x.path.drop at_) (h : ∀ N, (∀ x ∈ l, x.path.length < at_ + p.length + N) → (buildA N l (at_ + p.length)).2 = some m) (hlen : ∀ x ∈ l, at_ + p.length ≤ x.path.length) {N : Nat} (hN : ∀ x ∈ l, x.path.length < at_ + N) : (buildA N l at_).2 = some m := by
  have hp0 : 0 < p.length := List.length_pos_iff.2 h0
  have hN' : ∀ x ∈ l, x.path.length < at_ + p.length + N := fun x hx => by have := hN x hx; omega
  have hb := h N hN'
  have hne := bad_ne hb
  obtain ⟨y0, r0, hy0⟩ := List.exists_cons_of_ne_nil hne
  have hl0 := hN y0 (by rw [hy0]; simp)
  have hl1 := hlen y0 (by rw [hy0]; simp)
  obtain ⟨n, rfl⟩ : ∃ n, N = n + 1 := ⟨N - 1, by omega⟩
  by_cases h2 : 2 ≤ l.length
  · have hs := alike_shift hne hc
    by_cases hK : alikeP l (at_ + p.length) = 0
    · rw [build_way h2 hc (by omega) h0]
      exact h n fun x hx => by have := hN x hx; omega
    · obtain ⟨c', e', hs'⟩ := alike_sh (at_ + p.length) hne
      have hc' : c' ≠ [] := fun e => by rw [e] at e'; exact hK e'.symm
      rw [build_way h2 hs' e'.symm hc'] at hb
      have hcc : ∀ x ∈ l, p ++ c' <+: x.path.drop at_ := fun x hx => by
        obtain ⟨r, hr⟩ := hc x hx
        have := hs' x hx
        rw [← List.drop_drop, ← hr, List.drop_left] at this
        rw [← hr]
        exact (List.prefix_append_right_inj _).2 this
      rw [build_way h2 hcc (by rw [List.length_append]; omega) (by simp [h0])]
      rw [List.length_append, ← Nat.add_assoc]
      exact hb
  · have : r0 = [] := by
      rw [hy0, List.length_cons] at h2
      exact List.eq_nil_of_length_eq_zero (by omega)
    subst this
    subst hy0
    obtain ⟨a1, a2, a3, a4⟩ := single_bad hb
    rw [a4]
    exact bad_single a1 a2 (by omega) hl0
theorem branch_two {has : Bool} {ks : List Nd} {way : List UInt8} {l : List It} (h16 : ks.length = 16) (hm : 2 ≤ (if has then 1 else 0) + manyN ks) (ho : has = true → ∃ y ∈ l, y.path = way) (hk : ∀ j k, ks[j]? = some k → k.kind ≠ 0 → ∃ y ∈ l, way ++ [UInt8.ofNat j] <+: y.path) : 2 ≤ l.length ∧ ¬ Sh l way.length 1 := by
  have j16 : ∀ {j : Nat} {k : Nd}, ks[j]? = some k → j < 16 := fun h => by have := (List.getElem?_eq_some_iff.1 h).1; omega
  have hns : ¬ Sh l way.length 1 := by
    rintro ⟨c, hc, hs⟩
    obtain ⟨a, rfl⟩ : ∃ a, c = [a] := by match c, hc with | [a], _ => exact ⟨a, rfl⟩
    cases has with
    | true =>
      obtain ⟨y, hy, hp⟩ := ho rfl
      have := hs y hy
      rw [hp, List.drop_of_length_le (Nat.le_refl _)] at this
      have := this.length_le
      simp at this
    | false =>
      have := many1 (ks := ks) (c := a.toNat) fun j k hj hkk => ?_
      · simp only [Bool.false_eq_true, if_false] at hm; omega
      obtain ⟨y, hy, hp⟩ := hk j k hj hkk
      obtain ⟨r2, h2⟩ := pre_cons hp
      have := hs y hy
      rw [h2] at this
      rw [(List.cons_prefix_cons.1 this).1, ofNat_half (j16 hj)]
  refine ⟨?_, hns⟩
  rcases Nat.lt_or_ge l.length 2 with h | h
  · exfalso
    match l, h with
    | [], _ =>
      have h0 : manyN ks = 0 := many0 fun k hkm => by
        obtain ⟨j, hj⟩ := List.getElem?_of_mem hkm
        rcases Classical.em (k.kind = 0) with h | h
        · exact h
        · obtain ⟨y, hy, _⟩ := hk j k hj h; cases hy
      rw [h0] at hm
      split at hm <;> omega
    | [y], _ =>
      cases has with
      | true =>
        obtain ⟨y', hy', hp⟩ := ho rfl
        rw [List.mem_singleton] at hy'
        subst hy'
        have h0 : manyN ks = 0 := many0 fun k hkm => by
          obtain ⟨j, hj⟩ := List.getElem?_of_mem hkm
          rcases Classical.em (k.kind = 0) with h | h
          · exact h
          · obtain ⟨z, hz, hzp⟩ := hk j k hj h
            rw [List.mem_singleton] at hz
            subst hz
            have := (pre_at hzp).1
            rw [hp] at this; omega
        rw [h0, if_pos rfl] at hm; omega
      | false =>
        have := many1 (ks := ks) (c := (y.path.getD way.length 0).toNat) fun j k hj hkk => ?_
        · simp only [Bool.false_eq_true, if_false] at hm; omega
        obtain ⟨z, hz, hzp⟩ := hk j k hj hkk
        rw [List.mem_singleton] at hz
        subst hz
        rw [(pre_at hzp).2, ofNat_half (j16 hj)]
  · exact h
theorem items_len_pre {t : Nd} {way : List UInt8} {kn : Bool} : ∀ y ∈ itemsP t way kn, way <+: y.path := fun y hy => (List.prefix_append _ _).trans (items_pre t way kn y hy)
theorem drop_items {even : Bool} {t : Nd} {d : Nat} (hv : Val even t d) : ∀ q, halvesB q = true → (getP t q).has = true →
    ((dropP t q).2 = none → Val even (dropP t q).1 d ∧ (dropP t q).1.kind ≠ 4 ∧ ∀ way kn, itemsP (dropP t q).1 way kn = (itemsP t way kn).filter (keepI (way ++ q))) ∧
    (∀ m, (dropP t q).2 = some m → ∀ way kn N, (∀ x ∈ (itemsP t way kn).filter (keepI (way ++ q)), x.path.length < way.length + N) → (buildA N ((itemsP t way kn).filter (keepI (way ++ q))) way.length).2 = some (way ++ m)) := by
  have settled : ∀ {d : Nat} {has : Bool} {v q : List UInt8} {ks : List Nd} {f : List UInt8 → List It}, d ≤ 400 → v.length ≤ 4000 → (has = true ∨ v = []) → (has = true → endsP d even = true) → ks.length = 16 → (∀ k ∈ ks, Val even k (d + 1)) → 1 ≤ (if has then 1 else 0) + manyN ks → (∀ way, f way = ownI has v way ++ itemsK ks true false 0 way) →
      ((settleP (.mk 3 [] has v ks [])).2 = none → Val even (settleP (.mk 3 [] has v ks [])).1 d ∧ (settleP (.mk 3 [] has v ks [])).1.kind ≠ 4 ∧ ∀ way (kn : Bool), itemsP (settleP (.mk 3 [] has v ks [])).1 way kn = f way) ∧
      (∀ m, (settleP (.mk 3 [] has v ks [])).2 = some m → ∀ way (kn : Bool) N, (∀ x ∈ f way, x.path.length < way.length + N) → (buildA N (f way) way.length).2 = some (way ++ m)) := by
    intro d has v q ks f hd hv hv0 he h16 hr hm hf
    obtain ⟨s1, s2⟩ := settle_ok hd hv hv0 he h16 hr hm
    refine ⟨fun h => ?_, fun m h way kn N hN => ?_⟩
    · obtain ⟨a, b, c⟩ := s1 h
      exact ⟨a, b, fun way kn => by rw [hf]; exact c way kn⟩
    · obtain ⟨j, hs, hj, rfl, e⟩ := s2 m h
      rw [hf way, e way] at hN ⊢
      exact bad_single rfl rfl (by show way.length < (way ++ [UInt8.ofNat j]).length; rw [List.length_append]; simp) (hN _ (by simp))
  induction hv with
  | none d hd => intro q _ hg; rw [getP_none] at hg; cases hg
  | leaf d p v hd hp hv he =>
    intro q hq hg
    have hpq : p = q := by
      have : (getP (.mk 1 p false v [] []) q).has = decide (p = q) := by unfold getP; simp
      rw [this] at hg
      exact of_decide_eq_true hg
    subst hpq
    rw [dropP_leaf]
    refine ⟨fun _ => ⟨.none d hd, (show (0 : Int) ≠ 4 by decide), fun way kn => ?_⟩, fun m h => by cases h⟩
    rw [items_none, items_leaf, List.filter_cons, if_neg (by rw [show (⟨way ++ p, v, false, false, []⟩ : It) = newI (way ++ p) v from rfl, keep_new]; decide)]; rfl
  | stub d h hd hh => intro q _ hg; rw [getP_stub] at hg; cases hg
  | way d p k hd hp h0 hk hr ih =>
    intro q hq hg
    have hpre : p <+: q := by
      rcases Classical.em (p <+: q) with h | h
      · exact h
      · rw [getP_way0 h] at hg; cases hg
    rw [getP_way hpre] at hg
    obtain ⟨i1, i2⟩ := ih (q.drop p.length) (halvesB_drop hq) hg
    have e : ∀ way, way ++ p ++ q.drop p.length = way ++ q := fun way => by
      obtain ⟨r, rfl⟩ := hpre
      rw [List.drop_left, List.append_assoc]
    rw [dropP_way]
    refine ⟨fun h => ?_, fun m h way kn N hN => ?_⟩
    · obtain ⟨j1, j2, j3⟩ := i1 (by simpa using h)
      refine ⟨behind_val j1 j2 hd hp, behind_kind j2 p, fun way kn => ?_⟩
      rw [items_behind j1 j2 p way kn true, j3, items_way, e]
    · cases hm : (dropP k (q.drop p.length)).2 with
      | none => rw [hm] at h; cases h
      | some m' =>
        rw [hm] at h
        injection h with h
        subst h
        rw [items_way] at hN ⊢
        have i3 := i2 m' hm (way ++ p) true
        rw [e, List.append_assoc] at i3
        have hpx : ∀ x ∈ (itemsP k (way ++ p) true).filter (keepI (way ++ q)), way ++ p <+: x.path := fun x hx => items_len_pre x (List.mem_filter.1 hx).1
        refine bad_way h0 (fun x hx => ?_) (fun N' hN' => ?_) (fun x hx => ?_) hN
        · obtain ⟨r, hr⟩ := hpx x hx
          rw [← hr, List.append_assoc, List.drop_left]
          exact List.prefix_append _ _
        · have := i3 N' (fun x hx => by rw [List.length_append]; exact hN' x hx)
          rw [List.length_append] at this
          exact this
        · have := (hpx x hx).length_le
          rw [List.length_append] at this
          exact this
  | branch d has v ks hd hv hv0 he h16 hr hm ih =>
    intro q hq hg
    match q, hq, hg with
    | [], hq, hg =>
      rw [getP_br0] at hg
      have hh : has = true := hg
      subst hh
      rw [dropP_br0]
      have := settled (has := false) (v := []) (q := []) (ks := ks) (f := fun way => (itemsP (.mk 3 [] true v ks []) way true).filter (keepI (way ++ []))) hd (by simp) (.inr rfl) (fun h => by cases h) h16 hr (by simp only [if_pos, Bool.false_eq_true, if_false] at *; omega) (fun way => by
        rw [items_br, List.filter_append, own_filter_nil, kids_keep]; rfl)
      refine ⟨fun h => ?_, fun m h way kn => ?_⟩
      · obtain ⟨a, b, c⟩ := this.1 h
        exact ⟨a, b, fun way kn => by rw [c, items_br, items_br]⟩
      · have := this.2 m h way kn
        rw [items_br] at this
        rw [items_br]; exact this
    | x :: q', hq, hg =>
      have hx := halves_hd hq
      obtain ⟨k, hki⟩ : ∃ k, ks[x.toNat]? = some k := ⟨_, List.getElem?_eq_getElem (by omega)⟩
      rw [getP_br hki] at hg
      rw [dropP_br hki]
      have hkm := List.mem_of_getElem? hki
      obtain ⟨i1, i2⟩ := ih k hkm q' (by have := halvesB_drop (n := 1) hq; simpa using this) hg
      have ew : ∀ way : List UInt8, way ++ [x] ++ q' = way ++ x :: q' := fun way => by simp
      cases hmm : (dropP k q').2 with
      | none =>
        rw [if_neg (by simp)]
        obtain ⟨j1, j2, j3⟩ := i1 hmm
        have := settled (has := has) (v := v) (q := []) (ks := ks.set x.toNat (dropP k q').1) (f := fun way => (itemsP (.mk 3 [] has v ks []) way true).filter (keepI (way ++ x :: q'))) hd hv hv0 he (by rw [List.length_set]; exact h16) (fun y hy => by
          rcases List.mem_or_eq_of_mem_set hy with hy | rfl
          · exact hr y hy
          · exact j1) (by have := many_set_ge (ks := ks) (i := x.toNat) (k' := (dropP k q').1); omega) (fun way => by
          obtain ⟨A, B, e1, e2, e3, e4⟩ := set_keep hki (keepI (way ++ x :: q')) false way (kid_keep h16)
          rw [items_br, List.filter_append, own_filter_cons, e1, e2, List.filter_append, List.filter_append, e3, e4, ofNat_toNat, j3, ew])
        refine ⟨fun h => ?_, fun m h way kn => ?_⟩
        · obtain ⟨a, b, c⟩ := this.1 h
          exact ⟨a, b, fun way kn => by rw [c, items_br, items_br]⟩
        · have := this.2 m h way kn
          rw [items_br] at this
          rw [items_br]; exact this
      | some m' =>
        rw [if_pos (by simp)]
        refine ⟨fun h => (by cases h), fun m h way kn N hN => ?_⟩
        injection h with h
        subst h
        rw [items_br] at hN ⊢
        obtain ⟨l, hl⟩ : ∃ l, l = (ownI has v way ++ itemsK ks true false 0 way).filter (keepI (way ++ x :: q')) := ⟨_, rfl⟩
        rw [← hl] at hN ⊢
        have hgr : ∀ h kh, ks[h]? = some kh → groupA l way.length h = (itemsP kh (way ++ [UInt8.ofNat h]) false).filter (keepI (way ++ x :: q')) := fun h kh hk => by
          rw [← group_items (has := has) (v := v) (way := way) h16 hk, hl]
          unfold groupA
          rw [List.filter_filter, List.filter_filter]
          congr 1
          funext y
          exact Bool.and_comm _ _
        have hgk : ∀ h kh, ks[h]? = some kh → h ≠ x.toNat → groupA l way.length h = itemsP kh (way ++ [UInt8.ofNat h]) false := fun h kh hk hne => by
          rw [hgr h kh hk, List.filter_eq_self]
          exact kid_keep h16 h kh hk hne
        have hgx : groupA l way.length x.toNat = (itemsP k (way ++ [x]) false).filter (keepI (way ++ [x] ++ q')) := by
          rw [hgr _ k hki, ofNat_toNat, ew]
        have hgm : ∀ h, ∀ y ∈ groupA l way.length h, y ∈ l := fun h y hy => (List.mem_filter.1 hy).1
        have hbx : ∀ n, (∀ y ∈ l, y.path.length < way.length + 1 + n) → (buildA n (groupA l way.length x.toNat) (way.length + 1)).2 = some (way ++ x :: m') := fun n hn => by
          have := i2 m' hmm (way ++ [x]) false n (fun y hy => by
            rw [← hgx] at hy
            have := hn y (hgm _ y hy)
            rw [List.length_append]; exact this)
          rw [← hgx, List.length_append, List.append_assoc] at this
          exact this
        have hgne : groupA l way.length x.toNat ≠ [] := bad_ne (hbx _ (fun y hy => Nat.lt_of_lt_of_le (Nat.lt_add_of_pos_left (Nat.succ_pos _)) (Nat.add_le_add_left (show y.path.length ≤ (l.map (fun y => y.path.length)).sum from sum_mem (fun y : It => y.path.length) hy) _)))
        have hsub : ∀ y ∈ itemsP k (way ++ [x]) false, y ∈ l ∨ True := fun _ _ => .inr trivial
        obtain ⟨two, hns⟩ := branch_two (has := has) (way := way) (l := l) h16 hm (fun e => by
          refine ⟨⟨way, v, false, false, []⟩, ?_, rfl⟩
          rw [hl, List.filter_append, own_filter_cons]
          refine List.mem_append_left _ ?_
          rw [e]; unfold ownI; simp) (fun j kj hj hkj => by
          rcases Classical.em (j = x.toNat) with rfl | hne
          · obtain ⟨y, r, hy⟩ := List.exists_cons_of_ne_nil hgne
            have hym : y ∈ groupA l way.length x.toNat := by rw [hy]; simp
            refine ⟨y, hgm _ y hym, ?_⟩
            rw [hgx] at hym
            rw [ofNat_toNat]
            exact items_len_pre y (List.mem_filter.1 hym).1
          · obtain ⟨y, r, hy⟩ := List.exists_cons_of_ne_nil (items_ne (hr kj (List.mem_of_getElem? hj)) hkj (way ++ [UInt8.ofNat j]) false)
            have hym : y ∈ itemsP kj (way ++ [UInt8.ofNat j]) false := by rw [hy]; simp
            refine ⟨y, ?_, items_len_pre y hym⟩
            rw [← hgk j kj hj hne] at hym
            exact hgm _ y hym)
        have hlne : l ≠ [] := fun e => by rw [e] at two; exact absurd two (by decide)
        have hal : alikeP l way.length = 0 := alike_eq hlne ⟨[], rfl, fun x _ => List.nil_prefix⟩ hns
        have hwl : ∀ y ∈ l, way.length ≤ y.path.length := fun y hy => by
          rw [hl] at hy
          rcases List.mem_append.1 (List.mem_filter.1 hy).1 with hy | hy
          · unfold ownI at hy
            cases has with
            | true => simp only [if_pos, List.mem_singleton] at hy; subst hy; exact Nat.le_refl _
            | false => cases hy
          · exact (itemsK_pre ks _ _ _ _ y hy).length_le
        obtain ⟨y0, r0, hy0⟩ := List.exists_cons_of_ne_nil hlne
        have hl0 := hN y0 (by rw [hy0]; simp)
        have hl1 := hwl y0 (by rw [hy0]; simp)
        obtain ⟨n, rfl⟩ : ∃ n, N = n + 1 := ⟨N - 1, by omega⟩
        rw [build_br two hal, bad_some (x := x.toNat) (m := way ++ x :: m') (fun i _ hi => ?_) (Nat.zero_le _) (by omega) (hbx n fun y hy => by have := hN y hy; omega)]
        obtain ⟨ki, hki'⟩ : ∃ ki, ks[i]? = some ki := ⟨_, List.getElem?_eq_getElem (by omega)⟩
        show (buildA n (groupA l way.length i) (way.length + 1)).2 = none
        have hi' := hgk i ki hki' (by omega)
        have := build_like (hr ki (List.mem_of_getElem? hki')) (way ++ [UInt8.ofNat i]) false (groupA l way.length i) n (by rw [hi']; exact .refl _) (fun y hy => by
          have := hN y (hgm _ y hy)
          rw [List.length_append, List.length_cons, List.length_nil]; omega)
        rw [List.length_append] at this
        rw [show way.length + 1 = way.length + [UInt8.ofNat i].length from rfl, this]
end Go.Proofs.YtdlljmmgkoeilaaDoor
namespace Go.Proofs.YtdlljmmgkoeilaaDoor
theorem rPairs_app : ∀ (a b : List It), (rPairsF (a ++ b)).2 = (match (rPairsF a).2 with | some m => some m | none => (rPairsF b).2) ∧ ((rPairsF (a ++ b)).2 = none → (rPairsF (a ++ b)).1 = (rPairsF a).1 ++ (rPairsF b).1)
  | [], b => ⟨rfl, fun _ => rfl⟩
  | x :: a, b => by
    obtain ⟨h1, h2⟩ := rPairs_app a b
    rw [List.cons_append, rPairsF, rPairsF]
    cases x.stub with
    | true => exact ⟨rfl, fun h => by cases h⟩
    | false =>
      simp only [Bool.false_eq_true, if_false]
      cases ha : (rPairsF a).2 with
      | some m =>
        rw [ha] at h1
        rw [h1]
        exact ⟨rfl, fun h => by cases h⟩
      | none =>
        rw [ha] at h1
        dsimp only at h1 ⊢
        cases hb : (rPairsF (a ++ b)).2 with
        | some m => rw [hb] at h1; exact ⟨h1, fun h => by cases h⟩
        | none =>
          rw [hb] at h1
          refine ⟨h1, fun _ => ?_⟩
          dsimp only
          rw [h2 hb]; rfl
mutual
theorem pairs_items : ∀ (t : Nd) (way : List UInt8) (kn : Bool), (pairsP t way).2 = (rPairsF (itemsP t way kn)).2 ∧ ((pairsP t way).2 = none → (pairsP t way).1 = (rPairsF (itemsP t way kn)).1)
  | .mk k p has v ks h, way, kn => by
    rw [pairsP, itemsP]
    by_cases h4 : k = 4
    · rw [if_pos h4, if_pos h4]
      exact ⟨rfl, fun h => by cases h⟩
    · rw [if_neg h4, if_neg h4]
      obtain ⟨k1, k2⟩ := pairsK_items ks (decide (k = 3)) (decide (k = 2)) 0 (way ++ p)
      obtain ⟨a1, a2⟩ := rPairs_app (if k = 1 ∨ has = true then [⟨way ++ p, v, false, false, []⟩] else []) (itemsK ks (decide (k = 3)) (decide (k = 2)) 0 (way ++ p))
      have o : rPairsF (if k = 1 ∨ has = true then [⟨way ++ p, v, false, false, []⟩] else []) = (if k = 1 ∨ has = true then [⟨bytesL (way ++ p), v⟩] else [], none) := by split <;> rfl
      rw [o] at a1 a2
      dsimp only at a1 ⊢
      rw [a1]
      refine ⟨k1, fun h => ?_⟩
      rw [a2 (by rw [a1, ← k1]; exact h), k2 h]
theorem pairsK_items : ∀ (ks : List Nd) (br kn : Bool) (i : Nat) (at_ : List UInt8), (pairsK ks br i at_).2 = (rPairsF (itemsK ks br kn i at_)).2 ∧ ((pairsK ks br i at_).2 = none → (pairsK ks br i at_).1 = (rPairsF (itemsK ks br kn i at_)).1)
  | [], _, _, _, _ => ⟨rfl, fun _ => rfl⟩
  | t :: ts, br, kn, i, at_ => by
    obtain ⟨t1, t2⟩ := pairs_items t (if br then at_ ++ [UInt8.ofNat i] else at_) kn
    obtain ⟨k1, k2⟩ := pairsK_items ts br kn (i + 1) at_
    rw [pairsK, itemsK]
    obtain ⟨a1, a2⟩ := rPairs_app (itemsP t (if br then at_ ++ [UInt8.ofNat i] else at_) kn) (itemsK ts br kn (i + 1) at_)
    rw [← t1] at a1
    cases hm : (pairsP t (if br then at_ ++ [UInt8.ofNat i] else at_)).2 with
    | some m =>
      rw [hm] at a1
      exact ⟨a1.symm, fun h => by cases h⟩
    | none =>
      rw [hm] at a1
      dsimp only at a1 ⊢
      rw [a1]
      exact ⟨k1, fun h => by rw [a2 (by rw [a1, ← k1]; exact h), t2 hm, k2 h]⟩
end
theorem items_le {even : Bool} {t : Nd} {d : Nat} (hv : Val even t d) : ∀ (way : List UInt8) (kn : Bool), ∀ x ∈ itemsP t way kn, x.path.length + d ≤ way.length + 400 := by
  induction hv with
  | none => intro way kn x hx; rw [items_none] at hx; cases hx
  | leaf d p v hd hp hv he =>
    intro way kn x hx
    rw [items_leaf, List.mem_singleton] at hx
    subst hx
    have := endsP_le he
    rw [List.length_append]; omega
  | stub d h hd hh =>
    intro way kn x hx
    rw [items_stub, List.mem_singleton] at hx
    subst hx
    dsimp only; omega
  | way d p k hd hp h0 hk hr ih =>
    intro way kn x hx
    rw [items_way] at hx
    have := ih _ _ x hx
    rw [List.length_append] at this; omega
  | branch d has v ks hd hv hv0 he h16 hr hm ih =>
    intro way kn x hx
    rw [items_br] at hx
    rcases List.mem_append.1 hx with hx | hx
    · unfold ownI at hx
      cases has with
      | true => simp only [if_pos, List.mem_singleton] at hx; subst hx; dsimp only; omega
      | false => cases hx
    · obtain ⟨j, k, h1, h2⟩ := kid_mem hx
      have := ih k (List.mem_of_getElem? h1) _ _ x h2
      rw [List.length_append, List.length_cons, List.length_nil] at this; omega
theorem tri_ends {key : List UInt8} (h : key.length ≤ 200) : endsP (0 + (ofB key).length) true = true := by
  rw [ofB_length, Nat.zero_add]
  unfold endsP
  rw [decide_eq_true (show 2 * key.length ≤ 400 by omega), decide_eq_true (show 2 * key.length % 2 = 0 by omega)]; rfl
/-- Put, where nothing is in the way. -/
theorem put_sum {t : Nd} {key val : List UInt8} (hv : Val true t 0) (hk : key.length ≤ 200) (hl : val.length ≤ 4000) (hm : (putP t (ofB key) val).2 = none) :
    Val true (putP t (ofB key) val).1 0 ∧ Like (itemsP (putP t (ofB key) val).1 [] true) (newI (ofB key) val :: (itemsP t [] true).filter (keepI (ofB key))) := by
  refine ⟨put_val hv _ _ (halvesB_ofB key) (tri_ends hk) hl hm, ?_⟩
  have := put_items hv (ofB key) val [] true (halvesB_ofB key) hm
  simpa using this
end Go.Proofs.YtdlljmmgkoeilaaDoor
namespace Go.Proofs.YtdlljmmgkoeilaaDoor
open Go.RowKit
structure Span where
  lo : List UInt8
  hi : List UInt8
  op : Bool
def hasB (s : Span) (way : List UInt8) : Bool := decide (0 ≤ cmpB way s.lo) && (s.op || decide (cmpB way s.hi < 0))
def leastB (way : List UInt8) : List UInt8 := if way.length % 2 = 1 then way ++ [0] else way
def meetsB (s : Span) (way : List UInt8) : Bool := (decide (0 ≤ cmpB way s.lo) || decide (way <+: s.lo)) && (s.op || decide (cmpB (leastB way) s.hi < 0))
def ofS (low high : List UInt8) : Span := ⟨ofB low, ofB high, decide (high.length = 0)⟩
def dSp (s : Span) : List D := [dB s.lo, dB s.hi, .v (.bool s.op)]
def scs (s : Span) (Al : Option Addr) (cl : Nat) (Ah : Option Addr) (ch : Nat) : List Value := [.slice Al s.lo.length cl, .slice Ah s.hi.length ch, .bool s.op]
theorem RdL.span {W : World} {F : Nat → Prop} {s : Span} {cs : List Value} (h : RdL W F (dSp s) cs) : ∃ Al cl Ah ch, cs = scs s Al cl Ah ch ∧ RdD W F (dB s.lo) (.slice Al s.lo.length cl) ∧ RdD W F (dB s.hi) (.slice Ah s.hi.length ch) := by
  obtain ⟨u0, _, rfl, h0, h⟩ := (show RdL W F [dB s.lo, dB s.hi, .v (.bool s.op)] cs from h).uncons
  obtain ⟨u1, _, rfl, h1, h⟩ := h.uncons
  obtain ⟨u2, _, rfl, h2, h⟩ := h.uncons
  rw [h.isnil]
  obtain ⟨A0, c0, e0, _⟩ := h0.open_
  obtain ⟨A1, c1, e1, _⟩ := h1.open_
  have e2 := RdD.val.1 h2
  subst e0; subst e1; subst e2
  exact ⟨A0, c0, A1, c1, rfl, h0, h1⟩
theorem RdL.ofspan {W : World} {F : Nat → Prop} {s : Span} {Al Ah : Option Addr} {cl ch : Nat} (h0 : RdD W F (dB s.lo) (.slice Al s.lo.length cl)) (h1 : RdD W F (dB s.hi) (.slice Ah s.hi.length ch)) : RdL W F (dSp s) (scs s Al cl Ah ch) :=
  RdL.cons h0 (RdL.cons h1 (RdL.cons (RdD.ofv _) RdL.nil_))
theorem agg_sp : aggOf Tryd.prog 101 = some (true, 3) := by kernel_rfl
theorem fS0 : fieldOff Tryd.prog 101 0 = some 0 := by kernel_rfl
theorem fS1 : fieldOff Tryd.prog 101 1 = some 1 := by kernel_rfl
theorem fS2 : fieldOff Tryd.prog 101 2 = some 2 := by kernel_rfl
def zSp : List Value := [.slice none 0 0, .slice none 0 0, .bool false]
theorem al_sp : (Tryd.prog.info? 101).map (fun i => i.zero.map fun z => z.cells.toList) = some (some zSp) := by kernel_rfl
theorem sz_sp : (Tryd.prog.info? 101).map (·.size) = some 3 := by kernel_rfl
theorem pl_sp : placesOf Tryd.prog 101 = some [(0, 1), (1, 1), (2, 1)] := by kernel_rfl
theorem z_sp : zeroOf Tryd.prog 101 = some zSp := by kernel_rfl
theorem is_sof : isFn Tryd.prog 52 = true := by kernel_rfl
theorem is_ncmp : isFn Tryd.prog 93 = true := by kernel_rfl
theorem is_shas : isFn Tryd.prog 89 = true := by kernel_rfl
theorem is_smeets : isFn Tryd.prog 87 = true := by kernel_rfl
theorem is_hpre : isFn Tryd.prog 61 = true := by kernel_rfl
theorem is_scl : isFn Tryd.prog 59 = true := by kernel_rfl
set_option maxRecDepth 100000 in
set_option maxHeartbeats 1000000 in
theorem sof_any (low high : List UInt8) (gs : List (Option Nat)) (w : World) (A1 A2 : Option Addr) (n1 c1 n2 c2 : Nat) (h1 : RdD w (Fd w gs) (dB low) (.slice A1 n1 c1)) (h2 : RdD w (Fd w gs) (dB high) (.slice A2 n2 c2)) (hgs : ∀ b, some b ∈ gs → b < w.heap.size) (hz : n1 ≤ 100000000 ∧ n2 ≤ 100000000) :
    Calls Tryd.prog 52 #[.slice A1 n1 c1, .slice A2 n2 c2] w fun e w' => ∃ cs, e = .returned (.agg cs.toArray) ∧ RdL w' (Fr w w') (dSp (ofS low high)) cs ∧ Below w.heap.size w w' := by
  refine calls_ev (args := [.slice A1 n1 c1, .slice A2 n2 c2]) mixed Tryd.func52 rfl (by kernel_rfl) ?_
  have en1 := h1.slen
  have en2 := h2.slen
  subst en1; subst en2
  have M := ((St.start hgs).addD h2).addD h1
  clear h1 h2
  refine s_alloc (zSp) M al_sp ?_
  clear M
  rintro g4 W M
  refine cc is_nof (of_any _ _ _ low _ (M.rdb 0 rfl).2.2 (by omega)) ?_
  rintro e W ⟨A3, c3, rfl, o3, hb⟩
  replace M := M.callO hb o3
  clear o3 hb
  refine ⟨_, rfl, ?_⟩
  refine cc is_nof (of_any _ _ _ high _ (M.rdb 2 rfl).2.2 (by omega)) ?_
  rintro e W ⟨A4, c4, rfl, o4, hb⟩
  replace M := M.callO hb o4
  clear o4 hb
  refine ⟨_, rfl, ?_⟩
  refine p_len slb rfl ?_
  refine p_eqD rfl rfl ?_
  have hl1 : 2 * low.length = (ofB low).length := (ofB_length low).symm
  have hl2 : 2 * high.length = (ofB high).length := (ofB_length high).symm
  have hop : decide ((high.length : Int) = 0) = (ofS low high).op := by unfold ofS; dsimp only; rw [decide_eq_decide]; omega
  refine p_build (vs := [.slice A3 (2 * low.length) c3, .slice A4 (2 * high.length) c4, .bool (decide ((high.length : Int) = 0))]) pl_sp z_sp rfl ?_
  refine s_storeA 0 [.slice A3 (2 * low.length) c3, .slice A4 (2 * high.length) c4, .bool (decide ((high.length : Int) = 0))] M rfl sz_sp rfl rfl rfl (all1 rfl) rfl ?_
  clear M; rintro W M
  dsimp only [setL] at M
  refine c_loadN [.slice A3 (2 * low.length) c3, .slice A4 (2 * high.length) c4, .bool (decide ((high.length : Int) = 0))] agg_sp rfl rfl (M.run 0 rfl) ?_
  refine ⟨_, rfl, ?_, M.below⟩
  rw [hop]
  rw [hl1, hl2] at M ⊢
  exact RdL.ofspan (s := ofS low high) (M.finF1 1 rfl) (M.finF1 0 rfl)
set_option maxRecDepth 100000 in
set_option maxHeartbeats 1000000 in
theorem shas_any (s : Span) (way : List UInt8) (gs : List (Option Nat)) (w : World) (cs : List Value) (A : Option Addr) (n c : Nat) (h1 : RdL w (Fd w gs) (dSp s) cs) (h2 : RdD w (Fd w gs) (dB way) (.slice A n c)) (hgs : ∀ b, some b ∈ gs → b < w.heap.size) (hz : n ≤ 100000000 ∧ s.lo.length ≤ 100000000 ∧ s.hi.length ≤ 100000000) :
    Calls Tryd.prog 89 #[.agg cs.toArray, .slice A n c] w fun e w' => e = .returned (.bool (hasB s way)) ∧ Below w.heap.size w w' := by
  refine calls_ev (args := [.agg cs.toArray, .slice A n c]) mixed Tryd.func89 rfl (by kernel_rfl) ?_
  obtain ⟨Al, cl, Ah, ch, rfl, r0, r1⟩ := h1.span
  have M := (((St.start hgs).addD r1).addD r0).addD h2
  clear h1 h2 r0 r1
  refine s_box (scs s Al cl Ah ch) M rfl ?_
  clear M
  rintro g2 W M
  unfold hasB
  refine p_fld fS0 rfl ?_
  refine v_load agg_b rfl ((M.B 0 rfl).at_ rfl) ?_
  refine cc is_ncmp (cmp_any _ _ _ _ _ _ _ way s.lo _ (M.rdb 0 rfl).2.2 (M.rdb 1 rfl).2.2 (by omega) (by omega)) ?_
  rintro e W ⟨rfl, dd, rfl⟩
  replace M := M.drewN dd
  refine ⟨_, rfl, ?_⟩
  refine p_ge rfl rfl (fun h => ?_) (fun h => ?_)
  · rw [decide_eq_true (show 0 ≤ cmpB way s.lo by omega), Bool.true_and]
    refine p_fld fS2 rfl ?_
    refine v_load agg_bo rfl ((M.B 0 rfl).at_ rfl) ?_
    cases hop : s.op with
    | true => exact ⟨rfl, M.below⟩
    | false =>
      refine p_fld fS1 rfl ?_
      refine v_load agg_b rfl ((M.B 0 rfl).at_ rfl) ?_
      refine cc is_ncmp (cmp_any _ _ _ _ _ _ _ way s.hi _ (M.rdb 0 rfl).2.2 (M.rdb 2 rfl).2.2 (by omega) (by omega)) ?_
      rintro e W ⟨rfl, dd, rfl⟩
      replace M := M.drewN dd
      refine ⟨_, rfl, ?_⟩
      refine p_lt rfl rfl (fun h => ?_) (fun h => ?_)
      · exact ⟨ret_tf (by rw [decide_eq_true (show cmpB way s.hi < 0 by omega)]; rfl), M.below⟩
      · exact ⟨ret_tf (by rw [decide_eq_false (show ¬ cmpB way s.hi < 0 by omega)]; rfl), M.below⟩
  · rw [decide_eq_false (show ¬ 0 ≤ cmpB way s.lo by omega), Bool.false_and]
    exact ⟨rfl, M.below⟩
set_option maxRecDepth 100000 in
set_option maxHeartbeats 2000000 in
theorem smeets_any (s : Span) (way : List UInt8) (gs : List (Option Nat)) (w : World) (cs : List Value) (A : Option Addr) (n c : Nat) (h1 : RdL w (Fd w gs) (dSp s) cs) (h2 : RdD w (Fd w gs) (dB way) (.slice A n c)) (hgs : ∀ b, some b ∈ gs → b < w.heap.size) (hz : n ≤ 100000000 ∧ s.lo.length ≤ 100000000 ∧ s.hi.length ≤ 100000000) :
    Calls Tryd.prog 87 #[.agg cs.toArray, .slice A n c] w fun e w' => e = .returned (.bool (meetsB s way)) ∧ Below w.heap.size w w' := by
  refine calls_ev (args := [.agg cs.toArray, .slice A n c]) mixed Tryd.func87 rfl (by kernel_rfl) ?_
  obtain ⟨Al, cl, Ah, ch, rfl, r0, r1⟩ := h1.span
  have en := h2.slen
  subst en
  have M := (((St.start hgs).addD r1).addD r0).addD h2
  clear h1 h2 r0 r1
  refine s_box (scs s Al cl Ah ch) M rfl ?_
  clear M
  rintro g2 W M
  refine p_fld fS0 rfl ?_
  refine v_load agg_b rfl ((M.B 0 rfl).at_ rfl) ?_
  refine cc is_ncmp (cmp_any _ _ _ _ _ _ _ way s.lo _ (M.rdb 0 rfl).2.2 (M.rdb 1 rfl).2.2 (by omega) (by omega)) ?_
  rintro e W ⟨rfl, dd, rfl⟩
  replace M := M.drewN dd
  refine ⟨_, rfl, ?_⟩
  unfold meetsB
  refine p_ge rfl rfl (fun h => ?_) (fun h => ?_)
  · have hlate : (decide (0 ≤ cmpB way s.lo) || decide (way <+: s.lo)) = true := by rw [decide_eq_true (show 0 ≤ cmpB way s.lo by omega)]; rfl
    refine p_len slb rfl ?_
    refine p_remN (b := 2) rfl rfl (by decide) ?_
    refine p_eq rfl rfl (fun hodd => ?_) (fun hodd => ?_)
    · have hlw : leastB way = way ++ [0] := by unfold leastB; rw [if_pos (by omega)]
      refine cc is_scl (sclone_any _ _ _ _ way _ (M.d1 0 rfl) (by omega)) ?_
      rintro e W ⟨A3, c3, rfl, o3, -, hb⟩
      replace M := M.callR (r := ⟨5, 1, A3, way.length, c3, bvs way⟩) hb o3
      clear o3 hb
      refine ⟨_, rfl, ?_⟩
      refine s_bslice (bvs [0]) (fr := true) (ds := (bvs [0]).map D.v) M slb (zs := [.int .u8 0]) (by kernel_rfl) rfl (by decide) rfl (RdL.ofvals _) rfl ?_
      clear M; rintro g3 W M
      refine s_appB M rfl rfl (M.rdb (l := [0]) 0 rfl).2.2 (by omega) ?_
      clear M; rintro A4 c4 W M -
      replace M := M.frzO
      refine p_fld fS2 rfl ?_
      refine v_load agg_bo rfl ((M.B 0 rfl).at_ rfl) ?_
      cases hop : s.op with
      | true => exact ⟨ret_tf (by rw [hlate]; rfl), M.below⟩
      | false =>
        refine p_fld fS1 rfl ?_
        refine v_load agg_b rfl ((M.B 0 rfl).at_ rfl) ?_
        refine cc is_ncmp (cmp_any _ _ _ _ _ _ _ (way ++ [0]) s.hi _ (M.rdb 0 rfl).2.2 (M.rdb 4 rfl).2.2 (by omega) (by omega)) ?_
        rintro e W ⟨rfl, dd, rfl⟩
        replace M := M.drewN dd
        refine ⟨_, rfl, ?_⟩
        refine p_lt rfl rfl (fun h => ?_) (fun h => ?_)
        · exact ⟨ret_tf (by rw [hlate, hlw, decide_eq_true (show cmpB (way ++ [0]) s.hi < 0 by omega)]; rfl), M.below⟩
        · exact ⟨ret_tf (by rw [hlate, hlw, decide_eq_false (show ¬ cmpB (way ++ [0]) s.hi < 0 by omega)]; rfl), M.below⟩
    · have hlw : leastB way = way := by unfold leastB; rw [if_neg (by omega)]
      refine p_fld fS2 rfl ?_
      refine v_load agg_bo rfl ((M.B 0 rfl).at_ rfl) ?_
      cases hop : s.op with
      | true => exact ⟨ret_tf (by rw [hlate]; rfl), M.below⟩
      | false =>
        refine p_fld fS1 rfl ?_
        refine v_load agg_b rfl ((M.B 0 rfl).at_ rfl) ?_
        refine cc is_ncmp (cmp_any _ _ _ _ _ _ _ way s.hi _ (M.rdb 0 rfl).2.2 (M.rdb 2 rfl).2.2 (by omega) (by omega)) ?_
        rintro e W ⟨rfl, dd, rfl⟩
        replace M := M.drewN dd
        refine ⟨_, rfl, ?_⟩
        refine p_lt rfl rfl (fun h => ?_) (fun h => ?_)
        · exact ⟨ret_tf (by rw [hlate, hlw, decide_eq_true (show cmpB way s.hi < 0 by omega)]; rfl), M.below⟩
        · exact ⟨ret_tf (by rw [hlate, hlw, decide_eq_false (show ¬ cmpB way s.hi < 0 by omega)]; rfl), M.below⟩
  ·
    refine p_fld fS0 rfl ?_
    refine v_load agg_b rfl ((M.B 0 rfl).at_ rfl) ?_
    refine cc is_hpre (bpre_any _ _ _ _ _ _ _ _ s.lo way _ (M.rdb 1 rfl).2.2 (M.rdb 1 rfl).2.1 (M.rdb 0 rfl).2.2) ?_
    rintro e W ⟨he, rfl⟩
    obtain ⟨q, hq⟩ : ∃ q, q = decide (way <+: s.lo) := ⟨_, rfl⟩
    rw [← hq] at he
    subst he
    refine ⟨_, rfl, ?_⟩
    have hlate : (decide (0 ≤ cmpB way s.lo) || decide (way <+: s.lo)) = q := by rw [decide_eq_false (show ¬ 0 ≤ cmpB way s.lo by omega), ← hq]; rfl
    cases q with
    | true =>
      refine p_len slb rfl ?_
      refine p_remN (b := 2) rfl rfl (by decide) ?_
      refine p_eq rfl rfl (fun hodd => ?_) (fun hodd => ?_)
      · have hlw : leastB way = way ++ [0] := by unfold leastB; rw [if_pos (by omega)]
        refine cc is_scl (sclone_any _ _ _ _ way _ (M.d1 0 rfl) (by omega)) ?_
        rintro e W ⟨A3, c3, rfl, o3, -, hb⟩
        replace M := M.callR (r := ⟨5, 1, A3, way.length, c3, bvs way⟩) hb o3
        clear o3 hb
        refine ⟨_, rfl, ?_⟩
        refine s_bslice (bvs [0]) (fr := true) (ds := (bvs [0]).map D.v) M slb (zs := [.int .u8 0]) (by kernel_rfl) rfl (by decide) rfl (RdL.ofvals _) rfl ?_
        clear M; rintro g3 W M
        refine s_appB M rfl rfl (M.rdb (l := [0]) 0 rfl).2.2 (by omega) ?_
        clear M; rintro A4 c4 W M -
        replace M := M.frzO
        refine p_fld fS2 rfl ?_
        refine v_load agg_bo rfl ((M.B 0 rfl).at_ rfl) ?_
        cases hop : s.op with
        | true => exact ⟨ret_tf (by rw [hlate]; rfl), M.below⟩
        | false =>
          refine p_fld fS1 rfl ?_
          refine v_load agg_b rfl ((M.B 0 rfl).at_ rfl) ?_
          refine cc is_ncmp (cmp_any _ _ _ _ _ _ _ (way ++ [0]) s.hi _ (M.rdb 0 rfl).2.2 (M.rdb 4 rfl).2.2 (by omega) (by omega)) ?_
          rintro e W ⟨rfl, dd, rfl⟩
          replace M := M.drewN dd
          refine ⟨_, rfl, ?_⟩
          refine p_lt rfl rfl (fun h => ?_) (fun h => ?_)
          · exact ⟨ret_tf (by rw [hlate, hlw, decide_eq_true (show cmpB (way ++ [0]) s.hi < 0 by omega)]; rfl), M.below⟩
          · exact ⟨ret_tf (by rw [hlate, hlw, decide_eq_false (show ¬ cmpB (way ++ [0]) s.hi < 0 by omega)]; rfl), M.below⟩
      · have hlw : leastB way = way := by unfold leastB; rw [if_neg (by omega)]
        refine p_fld fS2 rfl ?_
        refine v_load agg_bo rfl ((M.B 0 rfl).at_ rfl) ?_
        cases hop : s.op with
        | true => exact ⟨ret_tf (by rw [hlate]; rfl), M.below⟩
        | false =>
          refine p_fld fS1 rfl ?_
          refine v_load agg_b rfl ((M.B 0 rfl).at_ rfl) ?_
          refine cc is_ncmp (cmp_any _ _ _ _ _ _ _ way s.hi _ (M.rdb 0 rfl).2.2 (M.rdb 2 rfl).2.2 (by omega) (by omega)) ?_
          rintro e W ⟨rfl, dd, rfl⟩
          replace M := M.drewN dd
          refine ⟨_, rfl, ?_⟩
          refine p_lt rfl rfl (fun h => ?_) (fun h => ?_)
          · exact ⟨ret_tf (by rw [hlate, hlw, decide_eq_true (show cmpB way s.hi < 0 by omega)]; rfl), M.below⟩
          · exact ⟨ret_tf (by rw [hlate, hlw, decide_eq_false (show ¬ cmpB way s.hi < 0 by omega)]; rfl), M.below⟩
    | false =>
      refine p_len slb rfl ?_
      refine p_remN (b := 2) rfl rfl (by decide) ?_
      refine p_eq rfl rfl (fun hodd => ?_) (fun hodd => ?_)
      · have hlw : leastB way = way ++ [0] := by unfold leastB; rw [if_pos (by omega)]
        refine cc is_scl (sclone_any _ _ _ _ way _ (M.d1 0 rfl) (by omega)) ?_
        rintro e W ⟨A3, c3, rfl, o3, -, hb⟩
        replace M := M.callR (r := ⟨5, 1, A3, way.length, c3, bvs way⟩) hb o3
        clear o3 hb
        refine ⟨_, rfl, ?_⟩
        refine s_bslice (bvs [0]) (fr := true) (ds := (bvs [0]).map D.v) M slb (zs := [.int .u8 0]) (by kernel_rfl) rfl (by decide) rfl (RdL.ofvals _) rfl ?_
        clear M; rintro g3 W M
        refine s_appB M rfl rfl (M.rdb (l := [0]) 0 rfl).2.2 (by omega) ?_
        clear M; rintro A4 c4 W M -
        replace M := M.frzO
        exact ⟨ret_tf (by rw [hlate]; rfl), M.below⟩
      · have hlw : leastB way = way := by unfold leastB; rw [if_neg (by omega)]
        exact ⟨ret_tf (by rw [hlate]; rfl), M.below⟩
end Go.Proofs.YtdlljmmgkoeilaaDoor
