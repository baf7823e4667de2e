/- Tries, plainly: drop takes one away; what is read. No walk here. Tries, plainly: what the program answers is what the reference answers. No walk here. law08: long, much. law08: copied. A [][]byte that came in, opened to lists. A node, a pair, and rows of them, that came in, opened. No walk here. The walks of the laws TrieGets and TriePuts. Tries without stubs, plainly, as rising rows of pairs. No walk here. Tries without stubs, plainly: what Get, Put, Drop, Pairs, Of answer of them. No walk here. The walk of the law TrieTwo. The walks of the laws TrieOf and TrieDigest. law08: folded. law07: folded (which says, too, whether it did fold). Tries of which something is folded, plainly. No walk here. Lists of bytes as bytes: the walk of vint.Split. Numbers and bytes in one way: plain laws of what stands at a place. Lists of bytes as bytes: plain laws: what is joined is split as it was, what is -/
import Derived.Test.YtliccofjlheceaaG11
import Derived.Test.YtliccofjlheceaaG10
import Derived.Test.YtliccofjlheceaaG05
import Derived.ChangeArms
import Derived.Test.YtliccofjlheceaaG08
namespace Go.Proofs.Ytliccofjlheceaa
theorem kind0 {even : Bool} {t : Nd} {d : Nat} (h : Val even t d) (h0 : t.kind = 0) : t = noneN := by
  cases h with
  | none => rfl
  | _ => cases h0
theorem many_cons (t : Nd) (ks : List Nd) : manyN (t :: ks) = (if t.kind = 0 then 0 else 1) + manyN ks := by
  unfold manyN
  rw [List.filter_cons]
  by_cases h : t.kind = 0
  · rw [if_neg (by simp [h]), if_pos h, Nat.zero_add]
  · rw [if_pos (by simp [h]), if_neg h, List.length_cons]; omega
theorem many_zero : ∀ {ks : List Nd}, manyN ks = 0 → ∀ k ∈ ks, k.kind = 0
  | t :: ks, h, k, hk => by
    rw [many_cons] at h
    rcases List.mem_cons.1 hk with rfl | hk
    · split at h
      · assumption
      · omega
    · exact many_zero (by omega) k hk
theorem many_set_ge : ∀ {ks : List Nd} {i : Nat} {k' : Nd}, manyN ks ≤ manyN (ks.set i k') + 1
  | [], i, k' => by simp [manyN]
  | t :: ks, 0, k' => by rw [List.set_cons_zero, many_cons, many_cons]; split <;> split <;> omega
  | t :: ks, i + 1, k' => by
    have := many_set_ge (ks := ks) (i := i) (k' := k')
    rw [List.set_cons_succ, many_cons, many_cons]; omega
theorem scan_some {has : Bool} {j : Nat} : ∀ {ks : List Nd} {i : Nat}, scanK has ks i (some j) = if manyN ks = 0 then some (some j) else none
  | [], i => rfl
  | t :: ks, i => by
    rw [scanK, many_cons]
    by_cases h : t.kind = 0
    · rw [if_pos h, if_pos h, scan_some, Nat.zero_add]
    · rw [if_neg h, if_neg h, if_pos (show ((some j : Option Nat).isSome || has) = true from rfl), if_neg (by omega)]
theorem scan_none {has : Bool} : ∀ {ks : List Nd} {i : Nat}, (manyN ks = 0 ∧ scanK has ks i none = some none) ∨ (1 ≤ manyN ks ∧ (has = true ∨ 2 ≤ manyN ks) ∧ scanK has ks i none = none) ∨
    (manyN ks = 1 ∧ has = false ∧ ∃ j k, ks[j]? = some k ∧ k.kind ≠ 0 ∧ (∀ j' k', ks[j']? = some k' → j' ≠ j → k'.kind = 0) ∧ scanK has ks i none = some (some (i + j)))
  | [], i => .inl ⟨rfl, rfl⟩
  | t :: ks, i => by
    rw [scanK, many_cons]
    by_cases h : t.kind = 0
    · rw [if_pos h, if_pos h, Nat.zero_add]
      rcases scan_none (has := has) (ks := ks) (i := i + 1) with h1 | h1 | ⟨h1, h2, j, k, h3, h4, h5, h6⟩
      · exact .inl h1
      · exact .inr (.inl h1)
      · refine .inr (.inr ⟨h1, h2, j + 1, k, h3, h4, fun j' k' hj hne => ?_, by rw [h6, show i + 1 + j = i + (j + 1) by omega]⟩)
        cases j' with
        | zero => simp at hj; rw [← hj]; exact h
        | succ j' => exact h5 j' k' (by simpa using hj) (by omega)
    · rw [if_neg h, if_neg h]
      cases has with
      | true => exact .inr (.inl ⟨by omega, .inl rfl, rfl⟩)
      | false =>
        have e : (if ((none : Option Nat).isSome || false) = true then none else scanK false ks (i + 1) (some i)) = scanK false ks (i + 1) (some i) := rfl
        rw [e, scan_some]
        by_cases h0 : manyN ks = 0
        · rw [if_pos h0]
          refine .inr (.inr ⟨by omega, rfl, 0, t, rfl, h, fun j' k' hj hne => ?_, rfl⟩)
          cases j' with
          | zero => exact absurd rfl hne
          | succ j' => exact many_zero h0 k' (List.mem_of_getElem? (by simpa using hj))
        · rw [if_neg h0]
          exact .inr (.inl ⟨by omega, .inr (by omega), rfl⟩)
theorem behind_none (p : List UInt8) : behindN p noneN = noneN := rfl
theorem behind_leaf (p p' v : List UInt8) : behindN p (.mk 1 p' false v [] []) = .mk 1 (p ++ p') false v [] [] := rfl
theorem behind_way (p p' : List UInt8) (k : Nd) : behindN p (.mk 2 p' false [] [k] []) = .mk 2 (p ++ p') false [] [k] [] := rfl
theorem behind_br (p : List UInt8) (has : Bool) (v : List UInt8) (ks : List Nd) : behindN p (.mk 3 [] has v ks []) = alongN p (.mk 3 [] has v ks []) := rfl
theorem items_behind {even : Bool} {t : Nd} {d : Nat} (h : Val even t d) (h4 : t.kind ≠ 4) (p way : List UInt8) (kn kn' : Bool) : itemsP (behindN p t) way kn = itemsP t (way ++ p) kn' := by
  cases h with
  | none => rw [behind_none, items_none, items_none]
  | leaf d p' v => rw [behind_leaf, items_leaf, items_leaf, List.append_assoc]
  | stub => exact absurd rfl h4
  | way d p' k => rw [behind_way, items_way, items_way, List.append_assoc]
  | branch d has v ks => rw [behind_br, items_along3, items_br]
theorem behind_val {even : Bool} {t : Nd} {d : Nat} {p : List UInt8} (h : Val even t (d + p.length)) (h4 : t.kind ≠ 4) (hd : d ≤ 400) (hp : halvesB p = true) : Val even (behindN p t) d := by
  cases h with
  | none => rw [behind_none]; exact .none d hd
  | leaf _ p' v hd' hp' hv he =>
    rw [behind_leaf]
    exact .leaf d (p ++ p') v hd (by rw [halvesB_app, hp, hp']; rfl) hv (by rw [List.length_append, ← Nat.add_assoc]; exact he)
  | stub => exact absurd rfl h4
  | way _ p' k hd' hp' h0 hk hr =>
    rw [behind_way]
    exact .way d (p ++ p') k hd (by rw [halvesB_app, hp, hp']; rfl) (by simp [h0]) hk (by rw [List.length_append, ← Nat.add_assoc]; exact hr)
  | branch _ has v ks hd' hv hv0 he h16 hr hm =>
    rw [behind_br]
    exact along_val hd hp (.inl rfl) (.branch _ has v ks hd' hv hv0 he h16 hr hm)
theorem behind_kind {t : Nd} (h4 : t.kind ≠ 4) (p : List UInt8) : (behindN p t).kind ≠ 4 := by
  unfold behindN
  split
  · exact h4
  · split
    · exact h4
    · unfold alongN
      split
      · exact h4
      · exact (show (2 : Int) ≠ 4 by decide)
theorem only_items {even : Bool} {d : Nat} {ks : List Nd} (hr : ∀ k ∈ ks, Val even k d) {j : Nat} {k : Nd} (hj : ks[j]? = some k) (ho : ∀ j' k', ks[j']? = some k' → j' ≠ j → k'.kind = 0) (way : List UInt8) : itemsK ks true false 0 way = itemsP k (way ++ [UInt8.ofNat j]) false := by
  have := filterK (pr := fun _ => true) (kn := false) (at_ := way) (ks := ks) (i := 0) (x := j) (kx := k) (fun j' k' h1 hne y hy => by
    rw [kind0 (hr k' (List.mem_of_getElem? h1)) (ho j' k' h1 hne), items_none] at hy; cases hy) hj
  rw [Nat.zero_add, List.filter_eq_self.2 (fun _ _ => rfl), List.filter_eq_self.2 (fun _ _ => rfl)] at this
  exact this
theorem items_k0 {ks : List Nd} (h : ∀ k ∈ ks, k = noneN) (way : List UInt8) : ∀ i, itemsK ks true false i way = [] := by
  induction ks with
  | nil => intro i; rfl
  | cons t ks ih => intro i; rw [itemsK, h t (by simp), items_none, ih (fun k hk => h k (by simp [hk]))]; rfl
theorem settle_ok {even : Bool} {d : Nat} {has : Bool} {v : List UInt8} {ks : List Nd} (hd : d ≤ 400) (hv : v.length ≤ 4000) (hv0 : has = true ∨ v = []) (he : has = true → endsP d even = true) (h16 : ks.length = 16) (hr : ∀ k ∈ ks, Val even k (d + 1)) (hm : 1 ≤ (if has then 1 else 0) + manyN ks) :
    ((settleP (.mk 3 [] has v ks [])).2 = none → Val even (settleP (.mk 3 [] has v ks [])).1 d ∧ (settleP (.mk 3 [] has v ks [])).1.kind ≠ 4 ∧ ∀ way kn, itemsP (settleP (.mk 3 [] has v ks [])).1 way kn = ownI has v way ++ itemsK ks true false 0 way) ∧
    (∀ m, (settleP (.mk 3 [] has v ks [])).2 = some m → ∃ j h, j < 16 ∧ m = [UInt8.ofNat j] ∧ ∀ way, ownI has v way ++ itemsK ks true false 0 way = [⟨way ++ [UInt8.ofNat j], [], true, false, h⟩]) := by
  unfold settleP
  dsimp only [Nd.has, Nd.kids, Nd.val]
  rcases scan_none (has := has) (ks := ks) (i := 0) with ⟨h1, h2⟩ | ⟨h1, h2, h3⟩ | ⟨h1, h2, j, k, h3, h4, h5, h6⟩
  · rw [h2]
    dsimp only
    have hh : has = true := by cases has with | true => rfl | false => simp [h1] at hm
    subst hh
    refine ⟨fun _ => ⟨.leaf d [] v hd rfl hv (he rfl), (show (1 : Int) ≠ 4 by decide), fun way kn => ?_⟩, fun m h => by cases h⟩
    rw [items_leafN, items_k0 (fun k hk => kind0 (hr k hk) (many_zero h1 k hk)), List.append_nil, List.append_nil]; rfl
  · rw [h3]
    dsimp only
    refine ⟨fun _ => ⟨.branch d has v ks hd hv hv0 he h16 hr ?_, (show (3 : Int) ≠ 4 by decide), fun way kn => items_br has v ks way kn⟩, fun m h => by cases h⟩
    rcases h2 with h | h
    · rw [if_pos h]; omega
    · omega
  · rw [h6, Nat.zero_add]
    dsimp only
    have e : ks.getD j noneN = k := by rw [List.getD_eq_getElem?_getD, h3]; rfl
    simp only [e]
    have hj := (List.getElem?_eq_some_iff.1 h3).1
    have hk := hr k (List.mem_of_getElem? h3)
    subst h2
    by_cases hk4 : k.kind = 4
    · rw [if_pos hk4]
      refine ⟨fun h => (by cases h), fun m h => ?_⟩
      injection h with h
      cases hk with
      | stub _ hs =>
        refine ⟨j, hs, by omega, h.symm, fun way => ?_⟩
        rw [only_items hr h3 h5, items_stub]; rfl
      | _ => cases hk4
    · rw [if_neg hk4]
      refine ⟨fun _ => ⟨behind_val hk hk4 hd ?_, behind_kind hk4 _, fun way kn => ?_⟩, fun m h => by cases h⟩
      · have := ofNat_half (show j < 16 by omega)
        unfold halvesB
        simp only [List.all_cons, List.all_nil, Bool.and_true, decide_eq_true_eq]
        have h15 : (UInt8.ofNat j).toNat ≤ 15 := by omega
        exact h15
      · rw [items_behind hk hk4 _ way kn false, only_items hr h3 h5]; rfl
theorem single_bad {N at_ : Nat} {y : It} {m : List UInt8} (h : (buildA N [y] at_).2 = some m) : y.stub = true ∧ y.known = false ∧ at_ < y.path.length ∧ m = y.path := by
  cases N with
  | zero => rw [buildA] at h; cases h
  | succ n =>
    rw [build_one] at h
    split at h
    · cases h
    · rename_i hs
      split at h
      · rename_i hlt
        split at h
        · rename_i hk
          injection h with h
          exact ⟨by cases hq : y.stub; exact absurd hq hs; rfl, hk, by omega, h.symm⟩
        · rename_i hk
          dsimp only at h
          exfalso
          cases n with
          | zero => rw [buildA] at h; cases h
          | succ n =>
            rw [build_one, if_neg hs, if_neg (by omega)] at h
            cases h
      · cases h
theorem bad_single {N at_ : Nat} {y : It} (h1 : y.stub = true) (h2 : y.known = false) (h3 : at_ < y.path.length) (hN : y.path.length < at_ + N) : (buildA N [y] at_).2 = some y.path := by
  obtain ⟨n, rfl⟩ : ∃ n, N = n + 1 := ⟨N - 1, by omega⟩
  rw [build_one, if_neg (by rw [h1]; decide), if_pos (by omega), if_pos h2]
theorem bad_ne {N at_ : Nat} {l : List It} {m : List UInt8} (h : (buildA N l at_).2 = some m) : l ≠ [] := by
  rintro rfl
  cases N <;> (rw [buildA] at h; cases h)
theorem alike_shift {l : List It} {at_ : Nat} {p : List UInt8} (h0 : l ≠ []) (hc : ∀ x ∈ l, p <+: x.path.drop at_) : alikeP l at_ = p.length + alikeP l (at_ + p.length) := by
  have hd : ∀ x ∈ l, x.path.drop at_ = p ++ x.path.drop (at_ + p.length) := fun x hx => by
    obtain ⟨r, hr⟩ := hc x hx
    rw [← List.drop_drop, ← hr, List.drop_left]
  have h1 := alike_sh at_ h0
  have h2 := alike_sh (at_ + p.length) h0
  have h3 : p.length ≤ alikeP l at_ := alike_max h0 ⟨p, rfl, hc⟩
  have h4 : p.length + alikeP l (at_ + p.length) ≤ alikeP l at_ := by
    obtain ⟨c, e, hs⟩ := h2
    refine alike_max h0 ⟨p ++ c, by rw [List.length_append, e], fun x hx => ?_⟩
    rw [hd x hx]
    exact (List.prefix_append_right_inj _).2 (hs x hx)
  have h5 : alikeP l at_ - p.length ≤ alikeP l (at_ + p.length) := by
    obtain ⟨c, e, hs⟩ := h1
    refine alike_max h0 ⟨c.drop p.length, by rw [List.length_drop, e], fun x hx => ?_⟩
    have := hs x hx
    rw [hd x hx] at this
    obtain ⟨z, hz⟩ := this
    have h6 : c = p ++ c.drop p.length := by
      have := congrArg (List.take p.length) hz
      rw [List.take_append_of_le_length (by omega), List.take_left' rfl] at this
      rw [← List.take_append_drop p.length c, this]; simp
    rw [h6, List.append_assoc] at hz
    exact ⟨z, List.append_cancel_left hz⟩
  omega
theorem bad_way {l : List It} {at_ : Nat} {p m : List UInt8} (h0 : p ≠ []) (hc : ∀ x ∈ l, p <+: x.path.drop at_) (h : ∀ N, (∀ x ∈ l, x.path.length < at_ + p.length + N) → (buildA N l (at_ + p.length)).2 = some m) (hlen : ∀ x ∈ l, at_ + p.length ≤ x.path.length) {N : Nat} (hN : ∀ x ∈ l, x.path.length < at_ + N) : (buildA N l at_).2 = some m := by
  have hp0 : 0 < p.length := List.length_pos_iff.2 h0
  have hN' : ∀ x ∈ l, x.path.length < at_ + p.length + N := fun x hx => by have := hN x hx; omega
  have hb := h N hN'
  have hne := bad_ne hb
  obtain ⟨y0, r0, hy0⟩ := List.exists_cons_of_ne_nil hne
  have hl0 := hN y0 (by rw [hy0]; simp)
  have hl1 := hlen y0 (by rw [hy0]; simp)
  obtain ⟨n, rfl⟩ : ∃ n, N = n + 1 := ⟨N - 1, by omega⟩
  by_cases h2 : 2 ≤ l.length
  · have hs := alike_shift hne hc
    by_cases hK : alikeP l (at_ + p.length) = 0
    · rw [build_way h2 hc (by omega) h0]
      exact h n fun x hx => by have := hN x hx; omega
    · obtain ⟨c', e', hs'⟩ := alike_sh (at_ + p.length) hne
      have hc' : c' ≠ [] := fun e => by rw [e] at e'; exact hK e'.symm
      rw [build_way h2 hs' e'.symm hc'] at hb
      have hcc : ∀ x ∈ l, p ++ c' <+: x.path.drop at_ := fun x hx => by
        obtain ⟨r, hr⟩ := hc x hx
        have := hs' x hx
        rw [← List.drop_drop, ← hr, List.drop_left] at this
        rw [← hr]
        exact (List.prefix_append_right_inj _).2 this
      rw [build_way h2 hcc (by rw [List.length_append]; omega) (by simp [h0])]
      rw [List.length_append, ← Nat.add_assoc]
      exact hb
  · have : r0 = [] := by
      rw [hy0, List.length_cons] at h2
      exact List.eq_nil_of_length_eq_zero (by omega)
    subst this
    subst hy0
    obtain ⟨a1, a2, a3, a4⟩ := single_bad hb
    rw [a4]
    exact bad_single a1 a2 (by omega) hl0
theorem branch_two {has : Bool} {ks : List Nd} {way : List UInt8} {l : List It} (h16 : ks.length = 16) (hm : 2 ≤ (if has then 1 else 0) + manyN ks) (ho : has = true → ∃ y ∈ l, y.path = way) (hk : ∀ j k, ks[j]? = some k → k.kind ≠ 0 → ∃ y ∈ l, way ++ [UInt8.ofNat j] <+: y.path) : 2 ≤ l.length ∧ ¬ Sh l way.length 1 := by
  have j16 : ∀ {j : Nat} {k : Nd}, ks[j]? = some k → j < 16 := fun h => by have := (List.getElem?_eq_some_iff.1 h).1; omega
  have hns : ¬ Sh l way.length 1 := by
    rintro ⟨c, hc, hs⟩
    obtain ⟨a, rfl⟩ : ∃ a, c = [a] := by match c, hc with | [a], _ => exact ⟨a, rfl⟩
    cases has with
    | true =>
      obtain ⟨y, hy, hp⟩ := ho rfl
      have := hs y hy
      rw [hp, List.drop_of_length_le (Nat.le_refl _)] at this
      have := this.length_le
      simp at this
    | false =>
      have := many1 (ks := ks) (c := a.toNat) fun j k hj hkk => ?_
      · simp only [Bool.false_eq_true, if_false] at hm; omega
      obtain ⟨y, hy, hp⟩ := hk j k hj hkk
      obtain ⟨r2, h2⟩ := pre_cons hp
      have := hs y hy
      rw [h2] at this
      rw [(List.cons_prefix_cons.1 this).1, ofNat_half (j16 hj)]
  refine ⟨?_, hns⟩
  rcases Nat.lt_or_ge l.length 2 with h | h
  · exfalso
    match l, h with
    | [], _ =>
      have h0 : manyN ks = 0 := many0 fun k hkm => by
        obtain ⟨j, hj⟩ := List.getElem?_of_mem hkm
        rcases Classical.em (k.kind = 0) with h | h
        · exact h
        · obtain ⟨y, hy, _⟩ := hk j k hj h; cases hy
      rw [h0] at hm
      split at hm <;> omega
    | [y], _ =>
      cases has with
      | true =>
        obtain ⟨y', hy', hp⟩ := ho rfl
        rw [List.mem_singleton] at hy'
        subst hy'
        have h0 : manyN ks = 0 := many0 fun k hkm => by
          obtain ⟨j, hj⟩ := List.getElem?_of_mem hkm
          rcases Classical.em (k.kind = 0) with h | h
          · exact h
          · obtain ⟨z, hz, hzp⟩ := hk j k hj h
            rw [List.mem_singleton] at hz
            subst hz
            have := (pre_at hzp).1
            rw [hp] at this; omega
        rw [h0, if_pos rfl] at hm; omega
      | false =>
        have := many1 (ks := ks) (c := (y.path.getD way.length 0).toNat) fun j k hj hkk => ?_
        · simp only [Bool.false_eq_true, if_false] at hm; omega
        obtain ⟨z, hz, hzp⟩ := hk j k hj hkk
        rw [List.mem_singleton] at hz
        subst hz
        rw [(pre_at hzp).2, ofNat_half (j16 hj)]
  · exact h
theorem items_len_pre {t : Nd} {way : List UInt8} {kn : Bool} : ∀ y ∈ itemsP t way kn, way <+: y.path := fun y hy => (List.prefix_append _ _).trans (items_pre t way kn y hy)
theorem drop_items {even : Bool} {t : Nd} {d : Nat} (hv : Val even t d) : ∀ q, halvesB q = true → (getP t q).has = true →
    ((dropP t q).2 = none → Val even (dropP t q).1 d ∧ (dropP t q).1.kind ≠ 4 ∧ ∀ way kn, itemsP (dropP t q).1 way kn = (itemsP t way kn).filter (keepI (way ++ q))) ∧
    (∀ m, (dropP t q).2 = some m → ∀ way kn N, (∀ x ∈ (itemsP t way kn).filter (keepI (way ++ q)), x.path.length < way.length + N) → (buildA N ((itemsP t way kn).filter (keepI (way ++ q))) way.length).2 = some (way ++ m)) := by
  have settled : ∀ {d : Nat} {has : Bool} {v q : List UInt8} {ks : List Nd} {f : List UInt8 → List It}, d ≤ 400 → v.length ≤ 4000 → (has = true ∨ v = []) → (has = true → endsP d even = true) → ks.length = 16 → (∀ k ∈ ks, Val even k (d + 1)) → 1 ≤ (if has then 1 else 0) + manyN ks → (∀ way, f way = ownI has v way ++ itemsK ks true false 0 way) →
      ((settleP (.mk 3 [] has v ks [])).2 = none → Val even (settleP (.mk 3 [] has v ks [])).1 d ∧ (settleP (.mk 3 [] has v ks [])).1.kind ≠ 4 ∧ ∀ way (kn : Bool), itemsP (settleP (.mk 3 [] has v ks [])).1 way kn = f way) ∧
      (∀ m, (settleP (.mk 3 [] has v ks [])).2 = some m → ∀ way (kn : Bool) N, (∀ x ∈ f way, x.path.length < way.length + N) → (buildA N (f way) way.length).2 = some (way ++ m)) := by
    intro d has v q ks f hd hv hv0 he h16 hr hm hf
    obtain ⟨s1, s2⟩ := settle_ok hd hv hv0 he h16 hr hm
    refine ⟨fun h => ?_, fun m h way kn N hN => ?_⟩
    · obtain ⟨a, b, c⟩ := s1 h
      exact ⟨a, b, fun way kn => by rw [hf]; exact c way kn⟩
    · obtain ⟨j, hs, hj, rfl, e⟩ := s2 m h
      rw [hf way, e way] at hN ⊢
      exact bad_single rfl rfl (by show way.length < (way ++ [UInt8.ofNat j]).length; rw [List.length_append]; simp) (hN _ (by simp))
  induction hv with
  | none d hd => intro q _ hg; rw [getP_none] at hg; cases hg
  | leaf d p v hd hp hv he =>
    intro q hq hg
    have hpq : p = q := by
      have : (getP (.mk 1 p false v [] []) q).has = decide (p = q) := by unfold getP; simp
      rw [this] at hg
      exact of_decide_eq_true hg
    subst hpq
    rw [dropP_leaf]
    refine ⟨fun _ => ⟨.none d hd, (show (0 : Int) ≠ 4 by decide), fun way kn => ?_⟩, fun m h => by cases h⟩
    rw [items_none, items_leaf, List.filter_cons, if_neg (by rw [show (⟨way ++ p, v, false, false, []⟩ : It) = newI (way ++ p) v from rfl, keep_new]; decide)]; rfl
  | stub d h hd hh => intro q _ hg; rw [getP_stub] at hg; cases hg
  | way d p k hd hp h0 hk hr ih =>
    intro q hq hg
    have hpre : p <+: q := by
      rcases Classical.em (p <+: q) with h | h
      · exact h
      · rw [getP_way0 h] at hg; cases hg
    rw [getP_way hpre] at hg
    obtain ⟨i1, i2⟩ := ih (q.drop p.length) (halvesB_drop hq) hg
    have e : ∀ way, way ++ p ++ q.drop p.length = way ++ q := fun way => by
      obtain ⟨r, rfl⟩ := hpre
      rw [List.drop_left, List.append_assoc]
    rw [dropP_way]
    refine ⟨fun h => ?_, fun m h way kn N hN => ?_⟩
    · obtain ⟨j1, j2, j3⟩ := i1 (by simpa using h)
      refine ⟨behind_val j1 j2 hd hp, behind_kind j2 p, fun way kn => ?_⟩
      rw [items_behind j1 j2 p way kn true, j3, items_way, e]
    · cases hm : (dropP k (q.drop p.length)).2 with
      | none => rw [hm] at h; cases h
      | some m' =>
        rw [hm] at h
        injection h with h
        subst h
        rw [items_way] at hN ⊢
        have i3 := i2 m' hm (way ++ p) true
        rw [e, List.append_assoc] at i3
        have hpx : ∀ x ∈ (itemsP k (way ++ p) true).filter (keepI (way ++ q)), way ++ p <+: x.path := fun x hx => items_len_pre x (List.mem_filter.1 hx).1
        refine bad_way h0 (fun x hx => ?_) (fun N' hN' => ?_) (fun x hx => ?_) hN
        · obtain ⟨r, hr⟩ := hpx x hx
          rw [← hr, List.append_assoc, List.drop_left]
          exact List.prefix_append _ _
        · have := i3 N' (fun x hx => by rw [List.length_append]; exact hN' x hx)
          rw [List.length_append] at this
          exact this
        · have := (hpx x hx).length_le
          rw [List.length_append] at this
          exact this
  | branch d has v ks hd hv hv0 he h16 hr hm ih =>
    intro q hq hg
    match q, hq, hg with
    | [], hq, hg =>
      rw [getP_br0] at hg
      have hh : has = true := hg
      subst hh
      rw [dropP_br0]
      have := settled (has := false) (v := []) (q := []) (ks := ks) (f := fun way => (itemsP (.mk 3 [] true v ks []) way true).filter (keepI (way ++ []))) hd (by simp) (.inr rfl) (fun h => by cases h) h16 hr (by simp only [if_pos, Bool.false_eq_true, if_false] at *; omega) (fun way => by
        rw [items_br, List.filter_append, own_filter_nil, kids_keep]; rfl)
      refine ⟨fun h => ?_, fun m h way kn => ?_⟩
      · obtain ⟨a, b, c⟩ := this.1 h
        exact ⟨a, b, fun way kn => by rw [c, items_br, items_br]⟩
      · have := this.2 m h way kn
        rw [items_br] at this
        rw [items_br]; exact this
    | x :: q', hq, hg =>
      have hx := halves_hd hq
      obtain ⟨k, hki⟩ : ∃ k, ks[x.toNat]? = some k := ⟨_, List.getElem?_eq_getElem (by omega)⟩
      rw [getP_br hki] at hg
      rw [dropP_br hki]
      have hkm := List.mem_of_getElem? hki
      obtain ⟨i1, i2⟩ := ih k hkm q' (by have := halvesB_drop (n := 1) hq; simpa using this) hg
      have ew : ∀ way : List UInt8, way ++ [x] ++ q' = way ++ x :: q' := fun way => by simp
      cases hmm : (dropP k q').2 with
      | none =>
        rw [if_neg (by simp)]
        obtain ⟨j1, j2, j3⟩ := i1 hmm
        have := settled (has := has) (v := v) (q := []) (ks := ks.set x.toNat (dropP k q').1) (f := fun way => (itemsP (.mk 3 [] has v ks []) way true).filter (keepI (way ++ x :: q'))) hd hv hv0 he (by rw [List.length_set]; exact h16) (fun y hy => by
          rcases List.mem_or_eq_of_mem_set hy with hy | rfl
          · exact hr y hy
          · exact j1) (by have := many_set_ge (ks := ks) (i := x.toNat) (k' := (dropP k q').1); omega) (fun way => by
          obtain ⟨A, B, e1, e2, e3, e4⟩ := set_keep hki (keepI (way ++ x :: q')) false way (kid_keep h16)
          rw [items_br, List.filter_append, own_filter_cons, e1, e2, List.filter_append, List.filter_append, e3, e4, ofNat_toNat, j3, ew])
        refine ⟨fun h => ?_, fun m h way kn => ?_⟩
        · obtain ⟨a, b, c⟩ := this.1 h
          exact ⟨a, b, fun way kn => by rw [c, items_br, items_br]⟩
        · have := this.2 m h way kn
          rw [items_br] at this
          rw [items_br]; exact this
      | some m' =>
        rw [if_pos (by simp)]
        refine ⟨fun h => (by cases h), fun m h way kn N hN => ?_⟩
        injection h with h
        subst h
        rw [items_br] at hN ⊢
        obtain ⟨l, hl⟩ : ∃ l, l = (ownI has v way ++ itemsK ks true false 0 way).filter (keepI (way ++ x :: q')) := ⟨_, rfl⟩
        rw [← hl] at hN ⊢
        have hgr : ∀ h kh, ks[h]? = some kh → groupA l way.length h = (itemsP kh (way ++ [UInt8.ofNat h]) false).filter (keepI (way ++ x :: q')) := fun h kh hk => by
          rw [← group_items (has := has) (v := v) (way := way) h16 hk, hl]
          unfold groupA
          rw [List.filter_filter, List.filter_filter]
          congr 1
          funext y
          exact Bool.and_comm _ _
        have hgk : ∀ h kh, ks[h]? = some kh → h ≠ x.toNat → groupA l way.length h = itemsP kh (way ++ [UInt8.ofNat h]) false := fun h kh hk hne => by
          rw [hgr h kh hk, List.filter_eq_self]
          exact kid_keep h16 h kh hk hne
        have hgx : groupA l way.length x.toNat = (itemsP k (way ++ [x]) false).filter (keepI (way ++ [x] ++ q')) := by
          rw [hgr _ k hki, ofNat_toNat, ew]
        have hgm : ∀ h, ∀ y ∈ groupA l way.length h, y ∈ l := fun h y hy => (List.mem_filter.1 hy).1
        have hbx : ∀ n, (∀ y ∈ l, y.path.length < way.length + 1 + n) → (buildA n (groupA l way.length x.toNat) (way.length + 1)).2 = some (way ++ x :: m') := fun n hn => by
          have := i2 m' hmm (way ++ [x]) false n (fun y hy => by
            rw [← hgx] at hy
            have := hn y (hgm _ y hy)
            rw [List.length_append]; exact this)
          rw [← hgx, List.length_append, List.append_assoc] at this
          exact this
        have hgne : groupA l way.length x.toNat ≠ [] := bad_ne (hbx _ (fun y hy => Nat.lt_of_lt_of_le (Nat.lt_add_of_pos_left (Nat.succ_pos _)) (Nat.add_le_add_left (show y.path.length ≤ (l.map (fun y => y.path.length)).sum from sum_mem (fun y : It => y.path.length) hy) _)))
        have hsub : ∀ y ∈ itemsP k (way ++ [x]) false, y ∈ l ∨ True := fun _ _ => .inr trivial
        obtain ⟨two, hns⟩ := branch_two (has := has) (way := way) (l := l) h16 hm (fun e => by
          refine ⟨⟨way, v, false, false, []⟩, ?_, rfl⟩
          rw [hl, List.filter_append, own_filter_cons]
          refine List.mem_append_left _ ?_
          rw [e]; unfold ownI; simp) (fun j kj hj hkj => by
          rcases Classical.em (j = x.toNat) with rfl | hne
          · obtain ⟨y, r, hy⟩ := List.exists_cons_of_ne_nil hgne
            have hym : y ∈ groupA l way.length x.toNat := by rw [hy]; simp
            refine ⟨y, hgm _ y hym, ?_⟩
            rw [hgx] at hym
            rw [ofNat_toNat]
            exact items_len_pre y (List.mem_filter.1 hym).1
          · obtain ⟨y, r, hy⟩ := List.exists_cons_of_ne_nil (items_ne (hr kj (List.mem_of_getElem? hj)) hkj (way ++ [UInt8.ofNat j]) false)
            have hym : y ∈ itemsP kj (way ++ [UInt8.ofNat j]) false := by rw [hy]; simp
            refine ⟨y, ?_, items_len_pre y hym⟩
            rw [← hgk j kj hj hne] at hym
            exact hgm _ y hym)
        have hlne : l ≠ [] := fun e => by rw [e] at two; exact absurd two (by decide)
        have hal : alikeP l way.length = 0 := alike_eq hlne ⟨[], rfl, fun x _ => List.nil_prefix⟩ hns
        have hwl : ∀ y ∈ l, way.length ≤ y.path.length := fun y hy => by
          rw [hl] at hy
          rcases List.mem_append.1 (List.mem_filter.1 hy).1 with hy | hy
          · unfold ownI at hy
            cases has with
            | true => simp only [if_pos, List.mem_singleton] at hy; subst hy; exact Nat.le_refl _
            | false => cases hy
          · exact (itemsK_pre ks _ _ _ _ y hy).length_le
        obtain ⟨y0, r0, hy0⟩ := List.exists_cons_of_ne_nil hlne
        have hl0 := hN y0 (by rw [hy0]; simp)
        have hl1 := hwl y0 (by rw [hy0]; simp)
        obtain ⟨n, rfl⟩ : ∃ n, N = n + 1 := ⟨N - 1, by omega⟩
        rw [build_br two hal, bad_some (x := x.toNat) (m := way ++ x :: m') (fun i _ hi => ?_) (Nat.zero_le _) (by omega) (hbx n fun y hy => by have := hN y hy; omega)]
        obtain ⟨ki, hki'⟩ : ∃ ki, ks[i]? = some ki := ⟨_, List.getElem?_eq_getElem (by omega)⟩
        show (buildA n (groupA l way.length i) (way.length + 1)).2 = none
        have hi' := hgk i ki hki' (by omega)
        have := build_like (hr ki (List.mem_of_getElem? hki')) (way ++ [UInt8.ofNat i]) false (groupA l way.length i) n (by rw [hi']; exact .refl _) (fun y hy => by
          have := hN y (hgm _ y hy)
          rw [List.length_append, List.length_cons, List.length_nil]; omega)
        rw [List.length_append] at this
        rw [show way.length + 1 = way.length + [UInt8.ofNat i].length from rfl, this]
end Go.Proofs.Ytliccofjlheceaa
namespace Go.Proofs.Ytliccofjlheceaa
open Go.ChangeShapes Go.WideShapes Go.ChangeAt Go.RowKit

section
variable {H : Type} {enc : TypeId × Value → H} {W : World}
theorem lits_bulk (k : IntKind) : ∀ zs : List Int, Rows.uptoBulkAll (lits (H := H) k zs) = zs.length
  | [] => rfl
  | z :: zs => by
    have := lits_bulk k zs
    show Rows.uptoBulk (DataW.lit (.int k z)) + Rows.uptoBulkAll (lits k zs) = _
    rw [this, List.length_cons]
    show 1 + zs.length = _
    omega
set_option maxRecDepth 100000 in
theorem rd_trod {fuel : Nat} {cs : List Value} {d : DataW H} {p : List MemPlace} (hf : DataW.trod enc Try.prog W 0 (fun _ => true) true fuel 23 cs = some (d, p)) (hlt : ∀ x ∈ p, x.block < W.heap.size) :
    ∃ A n c l, cs = [.slice A n c] ∧ Rd W W.heap.size A n l ∧ n ≤ c ∧ c ≤ maxLen ∧ l.length + 1 ≤ Rows.uptoBulk d ∧ ∀ R, (∀ x ∈ d.weights Try.prog 23, x ≤ R) → l.length ≤ R := by
  rcases open_ints Try.underlying23 Try.underlying5 (by kernel_rfl) hf with ⟨hcs, hx⟩ | ⟨x, l, c, zs, hcs, _, hl, hm, hz, hx, hcell, hwz⟩
  · simp only [Prod.mk.injEq] at hx
    obtain ⟨rfl, rfl⟩ := hx
    exact ⟨none, 0, 0, [], hcs, Rd.nil_, Nat.le_refl _, Nat.zero_le _, Nat.le_refl _, fun _ _ => Nat.zero_le _⟩
  · simp only [if_true] at hz
    simp only [Prod.mk.injEq] at hx
    obtain ⟨rfl, rfl⟩ := hx
    refine ⟨some x, l, c, (zs.take l).map b8, hcs, ⟨by rw [bvs_length]; simp; omega, fun hn => ?_⟩, hl, hm, ?_, ?_⟩
    · obtain ⟨b, off, spot⟩ := x
      have hspot : spot = none := by simpa [Addr.add] using World.cell?_spot (hcell 0 (by omega))
      subst hspot
      have hbW : b < W.heap.size := hlt (.cell b off) (MemPlace.mem_row.2 ⟨0, by omega, by simp⟩)
      refine ⟨b, off, rfl, hbW, fun j u hu => ?_⟩
      have e : bvs ((zs.take l).map b8) = (zs.take l).map (Value.int .u8) := by
        unfold bvs
        rw [List.map_map]
        refine List.map_congr_left fun z hz => ?_
        have := hwz z (List.mem_of_mem_take hz)
        have hr : 0 ≤ z ∧ z ≤ 255 := by simpa [Lit.wf, IntKind.min, IntKind.max, IntKind.signed, IntKind.bits] using this
        exact u8v_b8 z hr.1 hr.2
      rw [e, List.getElem?_map] at hu
      obtain ⟨z, hz1, rfl⟩ := Option.map_eq_some_iff.1 hu
      have hj : j < l := by
        rw [List.getElem?_take] at hz1
        split at hz1
        · assumption
        · cases hz1
      have hc := hcell j (by omega)
      rw [Addr.add_lit] at hc
      rw [hc]
      rw [List.getElem?_take, if_pos hj] at hz1
      rw [List.getD_eq_getElem?_getD, hz1]
      rfl
    · show _ ≤ Rows.uptoBulkAll (lits .u8 (zs.take l)) + Rows.uptoBulkAll (lits .u8 (zs.drop l)) + 1
      rw [lits_bulk, lits_bulk]
      simp
    · intro R hR
      have hb : Try.prog.bytesOf 5 = 1 := by kernel_rfl
      have := hR (((lits (H := H) .u8 (zs.take l)).length + (lits (H := H) .u8 (zs.drop l)).length) * Try.prog.bytesOf 5) (by
        unfold DataW.weights; rw [Try.underlying23]; simp)
      rw [hb] at this
      have h3 : (lits (H := H) .u8 (zs.take l)).length = (zs.take l).length := by simp [lits]
      rw [List.length_map, ← h3]; omega
end

end Go.Proofs.Ytliccofjlheceaa
namespace Go.Proofs.Ytliccofjlheceaa
open Go.ChangeShapes Go.WideShapes Go.ChangeAt Go.RowKit
section
variable {H : Type} {enc : TypeId × Value → H} {W : World}
set_option maxRecDepth 100000 in
theorem bytes_trod {fuel : Nat} {cs : List Value} {x : DataW H × List MemPlace} (hf : DataW.trod enc Try.prog W 0 (fun _ => true) true fuel 23 cs = some x) (hlt : ∀ q ∈ x.2, q.block < W.heap.size) :
    ∃ l u, cs = [u] ∧ RdD W (Fd W []) (dB l) u ∧ l.length + 1 ≤ Rows.uptoBulk x.1 := by
  obtain ⟨A, n, c, l, rfl, hr, hc, _, hb, _⟩ := rd_trod (d := x.1) (p := x.2) hf hlt
  exact ⟨l, _, rfl, RdD.ofbytes hr hc (fun b off _ h => ⟨h, by simp⟩), hb⟩
set_option maxRecDepth 100000 in
/-- Bytes that came in, as data. -/
theorem by_open {base : Nat} {v : Value} {d : DataW H} {p : List MemPlace} (hv : Value.okWide Try.prog W .any base 23 v)
    (h : DataW.Trod enc Try.prog W 0 (fun _ => true) true 23 v d p) : ∃ A n c l, v = .slice A n c ∧ RdD W (Fd W []) (dB l) (.slice A n c) ∧ l.length + 1 ≤ Rows.uptoBulk d := by
  obtain ⟨a0, len, cap, rfl⟩ := okWide_slice Try.underlying23 hv
  have hlt : ∀ x ∈ p, x.block < W.heap.size := by obtain ⟨m, hm⟩ := h; exact DataW.trod_lt m _ _ _ hm
  obtain ⟨fuel, hf⟩ := h
  obtain ⟨l, u, hu, hr, hb⟩ := bytes_trod (x := (d, p)) hf hlt
  simp [Value.cells] at hu
  subst hu
  exact ⟨_, _, _, l, rfl, hr, hb⟩
end
end Go.Proofs.Ytliccofjlheceaa
namespace Go.Proofs.Ytliccofjlheceaa
open Go.RowKit
/-- A row as a block. -/
theorem St.rowBlk {w W : World} {gs : List (Option Nat)} {L : Lc} {R : List Row} {fs : List Fact} {e : TypeId} {s n c : Nat} {A : Option Addr} {xs : List Value} (M : St w gs W L (⟨e, s, A, n, c, xs⟩ :: R) fs) (hn : 0 < n) : ∃ g rest, A = some ⟨g, 0, none⟩ ∧ n ≤ c ∧ St w gs W ((g, e, xs ++ rest) :: L) R fs := by
  have hrow := M.row _ (List.mem_cons_self ..)
  rcases hrow.2 with ⟨hv, h0⟩ | ⟨g, cap, cur, hv, hb, hh, h1, h2, h3, h4⟩
  · simp only at h0; omega
  · injection hv with e1 e2 e3
    simp only at e1 e3 h4
    subst e1
    have hx : xs ++ cur.toList.drop (n * s) = cur.toList := by rw [← h4, List.take_append_drop]
    refine ⟨g, cur.toList.drop (n * s), rfl, by dsimp only at h1; omega, ⟨M.below, M.lt, fun y hy => ?_, fun r hr => M.row r (by simp [hr]), ?_, fun f hf => ?_⟩⟩
    · rcases List.mem_cons.1 hy with rfl | hy
      · exact ⟨by show Blk W g e (xs ++ cur.toList.drop (n * s)); rw [hx]; exact hh, hb⟩
      · exact M.blk y hy
    · have hp := List.Perm.pairwise (l' := bk (some ⟨g, 0, none⟩) :: (L.map (fun x => some x.1) ++ R.map (fun r => bk r.A))) (by rw [List.map_cons]; exact List.perm_middle) M.ap (fun h => apart_comm h)
      exact hp
    · refine (M.fct f hf).up ⟨Nat.le_refl _, fun _ _ _ => rfl, fun b _ e => ?_⟩
      unfold own at *
      simp only [List.map_cons, List.cons_append, List.mem_append, List.mem_cons] at e ⊢
      rcases e with e | e | e | e
      · exact .inr (.inl (by rw [e]; rfl))
      · exact .inl e
      · exact .inr (.inr (.inl e))
      · exact .inr (.inr (.inr e))
end Go.Proofs.Ytliccofjlheceaa
namespace Go.Proofs.Ytliccofjlheceaa
/-- The second one, with something folded. -/
inductive Fo : Nd → Nd → Prop
  | refl (t : Nd) : Fo t t
  | stub (t : Nd) (h0 : t.kind ≠ 0) : Fo (.mk 4 [] false [] [] (hashP t)) t
  | way (p : List UInt8) {k k' : Nd} (h : Fo k k') : Fo (.mk 2 p false [] [k] []) (.mk 2 p false [] [k'] [])
  | branch (has : Bool) (v : List UInt8) (ks ks' : List Nd) (hl : ks.length = ks'.length) (h : ∀ (i : Nat) (k k' : Nd), ks[i]? = some k → ks'[i]? = some k' → Fo k k') : Fo (.mk 3 [] has v ks []) (.mk 3 [] has v ks' [])
theorem Fo.kind {m n : Nd} (h : Fo m n) : (m.kind = 0 ↔ n.kind = 0) ∧ (m.kind ≠ 4 → m.kind = n.kind) := by
  cases h with
  | refl => exact ⟨Iff.rfl, fun _ => rfl⟩
  | stub _ h0 => exact ⟨⟨fun e => absurd (show (4 : Int) = 0 from e) (by decide), fun e => absurd e h0⟩, fun e => absurd rfl e⟩
  | way => exact ⟨⟨fun e => absurd (show (2 : Int) = 0 from e) (by decide), fun e => absurd (show (2 : Int) = 0 from e) (by decide)⟩, fun _ => rfl⟩
  | branch => exact ⟨⟨fun e => absurd (show (3 : Int) = 0 from e) (by decide), fun e => absurd (show (3 : Int) = 0 from e) (by decide)⟩, fun _ => rfl⟩
/-- Kids, each the other's or folded. -/
def Fos (ks ks' : List Nd) : Prop := ks.length = ks'.length ∧ ∀ (i : Nat) (k k' : Nd), ks[i]? = some k → ks'[i]? = some k' → Fo k k'
theorem Fos.refl (ks : List Nd) : Fos ks ks := ⟨rfl, fun i k k' h h' => by rw [h] at h'; injection h' with h'; rw [h']; exact .refl _⟩
theorem Fos.set {ks ks' : List Nd} (h : Fos ks ks') {a b : Nd} (hab : Fo a b) (i : Nat) : Fos (ks.set i a) (ks'.set i b) := by
  refine ⟨by rw [List.length_set, List.length_set]; exact h.1, fun j k k' hk hk' => ?_⟩
  by_cases e : i = j
  · subst e
    have h1 := (List.getElem?_eq_some_iff.1 hk).1
    have h2 := (List.getElem?_eq_some_iff.1 hk').1
    rw [List.length_set] at h1 h2
    rw [List.getElem?_set_self h1] at hk
    rw [List.getElem?_set_self h2] at hk'
    injection hk with hk; injection hk' with hk'
    rw [← hk, ← hk']; exact hab
  · rw [List.getElem?_set_ne e] at hk hk'
    exact h.2 j k k' hk hk'
theorem Fos.tail {k k' : Nd} {ks ks' : List Nd} (h : Fos (k :: ks) (k' :: ks')) : Fo k k' ∧ Fos ks ks' :=
  ⟨h.2 0 k k' rfl rfl, by have := h.1; simpa using this, fun i a b h1 h2 => h.2 (i + 1) a b (by simpa using h1) (by simpa using h2)⟩
theorem Fos.many : ∀ {ks ks' : List Nd}, Fos ks ks' → manyN ks = manyN ks'
  | [], [], _ => rfl
  | [], _ :: _, h => by have := h.1; simp at this
  | _ :: _, [], h => by have := h.1; simp at this
  | k :: ks, k' :: ks', h => by
    obtain ⟨h1, h2⟩ := h.tail
    rw [many_cons, many_cons, Fos.many h2]
    by_cases e : k.kind = 0
    · rw [if_pos e, if_pos (h1.kind.1.1 e)]
    · rw [if_neg e, if_neg (fun e' => e (h1.kind.1.2 e'))]
theorem Fos.scan {has : Bool} : ∀ {ks ks' : List Nd} {i : Nat} {o : Option Nat}, Fos ks ks' → scanK has ks i o = scanK has ks' i o
  | [], [], _, _, _ => rfl
  | [], _ :: _, _, _, h => by have := h.1; simp at this
  | _ :: _, [], _, _, h => by have := h.1; simp at this
  | k :: ks, k' :: ks', i, o, h => by
    obtain ⟨h1, h2⟩ := h.tail
    rw [scanK, scanK]
    by_cases e : k.kind = 0
    · rw [if_pos e, if_pos (h1.kind.1.1 e), Fos.scan h2]
    · rw [if_neg e, if_neg (fun e' => e (h1.kind.1.2 e')), Fos.scan h2]
theorem Fo.val {even : Bool} {m n : Nd} (h : Fo m n) : ∀ d, Val even n d → Val even m d := by
  induction h with
  | refl => exact fun d h => h
  | stub t h0 => exact fun d h => .stub d _ h.le (hashP_len h)
  | way p h ih =>
    intro d hv
    cases hv with
    | way _ _ _ hd hp h0 hk hr =>
      refine .way d p _ hd hp h0 ?_ (ih _ hr)
      rename_i k k'
      by_cases h4 : k.kind = 4
      · exact .inr h4
      · rw [h.kind.2 h4]; exact hk
  | branch has v ks ks' hl h ih =>
    intro d hv
    cases hv with
    | branch _ _ _ _ hd hv hv0 he h16 hr hm =>
      refine .branch d has v ks hd hv hv0 he (hl.trans h16) (fun k hk => ?_) (by rw [Fos.many ⟨hl, h⟩]; exact hm)
      obtain ⟨i, hi⟩ := List.getElem?_of_mem hk
      have hi' := (List.getElem?_eq_some_iff.1 hi).1
      have hk' : ks'[i]? = some (ks'[i]'(by omega)) := List.getElem?_eq_getElem (by omega)
      exact ih i k _ hi hk' _ (hr _ (List.mem_of_getElem? hk'))
theorem hashes_eq : ∀ {ks ks' : List Nd}, ks.length = ks'.length → (∀ (i : Nat) (k k' : Nd), ks[i]? = some k → ks'[i]? = some k' → (k.kind = 0 ↔ k'.kind = 0) ∧ hashP k = hashP k') → hashesP ks = hashesP ks'
  | [], [], _, _ => rfl
  | [], _ :: _, h, _ => by simp at h
  | _ :: _, [], h, _ => by simp at h
  | k :: ks, k' :: ks', h, hh => by
    obtain ⟨h1, h2⟩ := hh 0 k k' rfl rfl
    rw [hashesP, hashesP, hashes_eq (by simpa using h) (fun i a b ha hb => hh (i + 1) a b (by simpa using ha) (by simpa using hb)), h2]
    by_cases e : k.kind = 0
    · rw [if_neg (fun x => x e), if_neg (fun x => x (h1.1 e))]
    · rw [if_pos e, if_pos (fun x => e (h1.2 x))]
theorem kbit_eq {ks ks' : List Nd} (h : Fos ks ks') (i : Nat) : kbit ks i = kbit ks' i := by
  unfold kbit
  have : ((ks.getD i noneN).kind ≠ 0) ↔ ((ks'.getD i noneN).kind ≠ 0) := by
    rw [List.getD_eq_getElem?_getD, List.getD_eq_getElem?_getD]
    rcases Nat.lt_or_ge i ks.length with hi | hi
    · have h1 : ks[i]? = some (ks[i]'hi) := List.getElem?_eq_getElem hi
      have h2 : ks'[i]? = some (ks'[i]'(by have := h.1; omega)) := List.getElem?_eq_getElem (by have := h.1; omega)
      rw [h1, h2]
      exact not_congr (h.2 i _ _ h1 h2).kind.1
    · rw [List.getElem?_eq_none hi, List.getElem?_eq_none (by have := h.1; omega)]
  by_cases e : (ks.getD i noneN).kind ≠ 0
  · rw [if_pos e, if_pos (this.1 e)]
  · rw [if_neg e, if_neg (fun x => e (this.2 x))]
theorem kbits_eq {ks ks' : List Nd} (h : Fos ks ks') : ∀ i, kbits ks i = kbits ks' i
  | 0 => rfl
  | i + 1 => by rw [kbits, kbits, kbits_eq h i, kbit_eq h i]
theorem Fo.hash {m n : Nd} (h : Fo m n) : hashP m = hashP n := by
  induction h with
  | refl => rfl
  | stub t h0 => rw [hashP_eq]; exact if_pos rfl
  | @way p k k' h ih =>
    rw [hashP, hashP, if_neg (by decide), if_neg (by decide), hashes_eq (ks := [k]) (ks' := [k']) rfl (fun i a b ha hb => by
      match i, ha, hb with
      | 0, ha, hb =>
        simp at ha hb
        subst ha; subst hb
        exact ⟨h.kind.1, ih⟩)]
    rfl
  | branch has v ks ks' hl h ih =>
    rw [hashP, hashP, if_neg (by decide), if_neg (by decide), hashes_eq hl (fun i a b ha hb => ⟨(h i a b ha hb).kind.1, ih i a b ha hb⟩)]
    unfold encF
    rw [kbits_eq ⟨hl, h⟩ 16]
theorem Fo.along {a b : Nd} (h : Fo a b) (p : List UInt8) : Fo (alongN p a) (alongN p b) := by
  unfold alongN
  split
  · exact h
  · exact .way p h
theorem Fos.hold {ks ks' : List Nd} (h : Fos ks ks') (has : Bool) (v p val : List UInt8) : (holdK has v ks p val).1 = (holdK has v ks' p val).1 ∧ (holdK has v ks p val).2.1 = (holdK has v ks' p val).2.1 ∧ Fos (holdK has v ks p val).2.2 (holdK has v ks' p val).2.2 := by
  cases p with
  | nil => exact ⟨rfl, rfl, h⟩
  | cons x r => exact ⟨rfl, rfl, h.set (.refl _) _⟩
theorem Fo.fork {k k' : Nd} (h : Fo k k') (p q val : List UInt8) : Fo (forkN (.mk 2 p false [] [k] []) q val) (forkN (.mk 2 p false [] [k'] []) q val) := by
  unfold forkN
  simp only [Nd.path, Nd.kind, Nd.val, Nd.kids, List.headD_cons, Int.reduceEq, if_false]
  refine Fo.along ?_ _
  obtain ⟨h1, h2, h3⟩ := ((Fos.refl (noneNs 16)).set (h.along (p.drop (commonB p q + 1))) (p.getD (commonB p q) 0).toNat).hold false [] (q.drop (commonB p q)) val
  rw [h1, h2]
  exact .branch _ _ _ _ h3.1 h3.2
theorem Fo.put {even : Bool} {m n : Nd} (h : Fo m n) : ∀ d, Val even n d → ∀ q val, halvesB q = true → (getP m q).miss = none → Fo (putP m q val).1 (putP n q val).1 := by
  induction h with
  | refl => exact fun _ _ _ _ _ _ => .refl _
  | stub t h0 => intro _ _ q _ _ hm; rw [getP_stub] at hm; cases hm
  | way p h ih =>
    intro d hv q val hq hm
    cases hv with
    | way _ _ _ hd hp h0 hk hr =>
      by_cases hpq : p <+: q
      · rw [getP_way hpq] at hm
        rw [putP_way hpq, putP_way hpq]
        exact .way p (ih _ hr _ val (halvesB_drop hq) (by simpa using hm))
      · rw [putP_way0 hpq, putP_way0 hpq]
        exact h.fork p q val
  | branch has v ks ks' hl h ih =>
    intro d hv q val hq hm
    cases hv with
    | branch _ _ _ _ hd hv hv0 he h16 hr hm' =>
      match q, hq, hm with
      | [], _, _ => rw [putP_br0, putP_br0]; exact .branch _ _ _ _ hl h
      | x :: q', hq, hm =>
        have hx := halves_hd hq
        obtain ⟨k, hk⟩ : ∃ k, ks[x.toNat]? = some k := ⟨_, List.getElem?_eq_getElem (by omega)⟩
        obtain ⟨k', hk'⟩ : ∃ k', ks'[x.toNat]? = some k' := ⟨_, List.getElem?_eq_getElem (by omega)⟩
        rw [getP_br hk] at hm
        rw [putP_br hk, putP_br hk']
        have := Fos.set (ks := ks) (ks' := ks') ⟨hl, h⟩ (ih _ k k' hk hk' _ (hr k' (List.mem_of_getElem? hk')) q' val (by have := halvesB_drop (n := 1) hq; simpa using this) (by simpa using hm)) x.toNat
        exact .branch _ _ _ _ this.1 this.2
theorem Fo.behind {a b : Nd} (h : Fo a b) (h4 : a.kind ≠ 4) (p : List UInt8) : Fo (behindN p a) (behindN p b) := by
  cases h with
  | refl => exact .refl _
  | stub => exact absurd rfl h4
  | way p' h => rw [behind_way, behind_way]; exact .way _ h
  | branch has v ks ks' hl h => rw [behind_br, behind_br]; exact (Fo.branch has v ks ks' hl h).along p
theorem Fos.settle {ks ks' : List Nd} (h : Fos ks ks') (h16 : ks.length = 16) (has : Bool) (v : List UInt8) (hm : (settleP (.mk 3 [] has v ks [])).2 = none) : Fo (settleP (.mk 3 [] has v ks [])).1 (settleP (.mk 3 [] has v ks' [])).1 := by
  unfold settleP at hm ⊢
  dsimp only [Nd.has, Nd.kids, Nd.val] at hm ⊢
  rw [← Fos.scan h]
  cases hs : scanK has ks 0 none with
  | none => exact .branch _ _ _ _ h.1 h.2
  | some o =>
    cases o with
    | none => exact .refl _
    | some i =>
      rw [hs] at hm
      dsimp only at hm ⊢
      have hi : i < ks.length := by
        rcases scan_lt hs with h | h
        · cases h
        · omega
      have h1 : ks[i]? = some (ks[i]'hi) := List.getElem?_eq_getElem hi
      have h2 : ks'[i]? = some (ks'[i]'(by have := h.1; omega)) := List.getElem?_eq_getElem (by have := h.1; omega)
      have e1 : ks.getD i noneN = ks[i]'hi := by rw [List.getD_eq_getElem?_getD, h1]; rfl
      have e2 : ks'.getD i noneN = ks'[i]'(by have := h.1; omega) := by rw [List.getD_eq_getElem?_getD, h2]; rfl
      simp only [e1, e2] at hm ⊢
      have hf := h.2 i _ _ h1 h2
      by_cases h4 : (ks[i]'hi).kind = 4
      · rw [if_pos h4] at hm; cases hm
      · rw [if_neg h4, if_neg (by rw [← hf.kind.2 h4]; exact h4)]
        exact hf.behind h4 _
theorem Fo.drop {even : Bool} {m n : Nd} (h : Fo m n) : ∀ d, Val even n d → ∀ q, halvesB q = true → (getP m q).has = true → (dropP m q).2 = none → (dropP n q).2 = none → Fo (dropP m q).1 (dropP n q).1 := by
  induction h with
  | refl => exact fun _ _ _ _ _ _ _ => .refl _
  | stub t h0 => intro _ _ q _ hm; rw [getP_stub] at hm; cases hm
  | @way p k k' h ih =>
    intro d hv q hq hg hm hn
    have hvm := (Fo.way p h).val d hv
    cases hv with
    | way _ _ _ hd hp h0 hk hr =>
      have hpre : p <+: q := by
        rcases Classical.em (p <+: q) with h | h
        · exact h
        · rw [getP_way0 h] at hg; cases hg
      rw [getP_way hpre] at hg
      rw [dropP_way] at hm
      rw [dropP_way, dropP_way]
      have hm' : (dropP k (q.drop p.length)).2 = none := by simpa using hm
      rw [dropP_way] at hn
      have := ih _ hr _ (halvesB_drop hq) hg hm' (by simpa using hn)
      refine this.behind ?_ p
      cases hvm with
      | way _ _ _ _ _ _ _ hr2 => exact ((drop_items hr2 _ (halvesB_drop hq) hg).1 hm').2.1
  | branch has v ks ks' hl h ih =>
    intro d hv q hq hg hmm hn
    have hvm := (Fo.branch has v ks ks' hl h).val d hv
    cases hv with
    | branch _ _ _ _ hd hv hv0 he h16 hr hm =>
      match q, hq, hg, hmm, hn with
      | [], _, _, hmm, _ =>
        rw [dropP_br0] at hmm
        rw [dropP_br0, dropP_br0]
        exact Fos.settle ⟨hl, h⟩ (by omega) _ _ hmm
      | x :: q', hq, hg, hmm, hn =>
        have hx := halves_hd hq
        obtain ⟨k, hk⟩ : ∃ k, ks[x.toNat]? = some k := ⟨_, List.getElem?_eq_getElem (by omega)⟩
        obtain ⟨k', hk'⟩ : ∃ k', ks'[x.toNat]? = some k' := ⟨_, List.getElem?_eq_getElem (by omega)⟩
        rw [getP_br hk] at hg
        rw [dropP_br hk] at hmm
        rw [dropP_br hk'] at hn
        rw [dropP_br hk, dropP_br hk']
        cases hd2 : (dropP k q').2 with
        | some r => rw [hd2] at hmm; simp at hmm
        | none =>
          have hd3 : (dropP k' q').2 = none := by
            cases hd3 : (dropP k' q').2 with
            | none => rfl
            | some r => rw [hd3] at hn; simp at hn
          have hq' : halvesB q' = true := by have := halvesB_drop (n := 1) hq; simpa using this
          have hF := ih _ k k' hk hk' _ (hr k' (List.mem_of_getElem? hk')) q' hq' hg hd2 hd3
          rw [hd2] at hmm
          rw [hd3]
          simp only [Option.isSome_none, Bool.false_eq_true, if_false] at hmm ⊢
          exact Fos.settle (Fos.set ⟨hl, h⟩ hF x.toNat) (by rw [List.length_set]; omega) _ _ hmm
end Go.Proofs.Ytliccofjlheceaa
namespace Go.Proofs.Ytliccofjlheceaa

/-- What is read at a place stands there; the bytes up to behind it. -/
theorem g_split {l : List UInt8} {a : Nat} (h : gE l (a : Int) = 0) : ∃ N t : Nat, gN l (a : Int) = N ∧ N < 18446744073709551616 ∧ gTo l (a : Int) = ((a + t : Nat) : Int) ∧ t = (putN N).length ∧ 1 ≤ t ∧ a + t ≤ l.length ∧ (l.drop a).take t = putN N ∧ l.take (a + t) = l.take a ++ putN N := by
  obtain ⟨x, t, hx, hxl, ht, hT, h1, hle, htk, hlt⟩ := g_ok h
  have hax : a = x := by omega
  subst hax
  obtain ⟨N, hN⟩ := Int.eq_ofNat_of_zero_le (gN_nonneg l (a : Int))
  rw [hN] at ht htk hlt
  refine ⟨N, t, hN, by omega, hT, ht, h1, hle, htk, ?_⟩
  rw [Int.toNat_natCast] at htk
  rw [← htk, List.take_add]
/-- Bytes that are read are written as they stand there. -/
theorem gb_same {l : List UInt8} {a : Nat} (h : gbE l (a : Int) = 0) : ∃ E : Nat, gbTo l (a : Int) = (E : Int) ∧ E ≤ l.length ∧ gTo l (a : Int) ≤ (E : Int) ∧ a ≤ E ∧ (l.drop a).take (E - a) = putB (gbL l (a : Int)) ∧ gbL l (a : Int) = (l.drop (gTo l (a : Int)).toNat).take (gN l (a : Int)).toNat ∧ (gbL l (a : Int)).length ≤ 1048576 := by
  rcases gb_cases l (a : Int) with e | ⟨e, k⟩ | ⟨e, k, m⟩ | ⟨e, k, m⟩
  · rw [(gb_err1 e).1] at h; exact absurd h e
  · rw [(gb_err2 e k).1] at h; cases h
  · rw [(gb_err3 e k m).1] at h; cases h
  · obtain ⟨_, hL, hTo⟩ := gb_ok e k m
    obtain ⟨N, t, hN, hN1, hT, ht, h1, hle, htk, _⟩ := g_split e
    rw [hN, hT] at hL hTo m
    rw [hN] at k
    rw [hT, hN]
    rw [Int.toNat_natCast, Int.toNat_natCast] at hL
    have hlen : (gbL l (a : Int)).length = N := by rw [hL, List.length_take, List.length_drop]; omega
    refine ⟨a + t + N, by rw [hTo]; omega, by omega, by omega, by omega, ?_, by rw [hL, Int.toNat_natCast, Int.toNat_natCast], by omega⟩
    unfold putB
    rw [hlen, hL, show a + t + N - a = t + N by omega, List.take_add, htk, List.drop_drop]
end Go.Proofs.Ytliccofjlheceaa
namespace Go.Proofs.Ytliccofjlheceaa

/-- Bytes that were written are read, wherever they stand. -/
theorem gb_put (p s r : List UInt8) (h : s.length ≤ 1048576) : gbE (p ++ (putB s ++ r)) (p.length : Int) = 0 ∧ gbL (p ++ (putB s ++ r)) (p.length : Int) = s ∧ gbTo (p ++ (putB s ++ r)) (p.length : Int) = ((p.length + (putB s).length : Nat) : Int) := by
  have e : putB s ++ r = putN s.length ++ (s ++ r) := by unfold putB; rw [List.append_assoc]
  rw [e]
  obtain ⟨g1, g2, g3⟩ := g_put p s.length (s ++ r) (by omega)
  obtain ⟨k1, k2, k3⟩ := gb_ok g1 (by rw [g2]; omega) (by rw [g2, g3]; simp only [List.length_append]; omega)
  refine ⟨k1, ?_, ?_⟩
  · rw [k2, g2, g3, Int.toNat_natCast, Int.toNat_natCast, ← List.append_assoc, List.drop_append_of_le_length (by simp), List.drop_of_length_le (by simp), List.nil_append, List.take_append_of_le_length (Nat.le_refl _), List.take_length]
  · rw [k3, g2, g3, putB_len]; omega
end Go.Proofs.Ytliccofjlheceaa
namespace Go.Proofs.Ytliccofjlheceaa
open Go.RowKit
def by8 (a b c d e f g h : Bool) : Nat := (if a then 128 else 0) + (if b then 64 else 0) + (if c then 32 else 0) + (if d then 16 else 0) + (if e then 8 else 0) + (if f then 4 else 0) + (if g then 2 else 0) + (if h then 1 else 0)
theorem by8_bits : ∀ a b c d e f g h : Bool, by8 a b c d e f g h < 256 ∧ decide (by8 a b c d e f g h / 128 % 2 = 1) = a ∧ decide (by8 a b c d e f g h / 64 % 2 = 1) = b ∧ decide (by8 a b c d e f g h / 32 % 2 = 1) = c ∧ decide (by8 a b c d e f g h / 16 % 2 = 1) = d ∧ decide (by8 a b c d e f g h / 8 % 2 = 1) = e ∧ decide (by8 a b c d e f g h / 4 % 2 = 1) = f ∧ decide (by8 a b c d e f g h / 2 % 2 = 1) = g ∧ decide (by8 a b c d e f g h / 1 % 2 = 1) = h := by decide +kernel
def nz (ks : List Nd) (i : Nat) : Bool := decide ((ks.getD i noneN).kind ≠ 0)
theorem kbit_nz (ks : List Nd) (i c : Nat) (h : 128 / 2 ^ (i % 8) = c) : kbit ks i = if nz ks i then c else 0 := by
  unfold kbit nz
  rw [h]
  by_cases hk : (ks.getD i noneN).kind ≠ 0
  · rw [if_pos hk, decide_eq_true hk]; rfl
  · rw [if_neg hk, decide_eq_false hk]; rfl
theorem kbits_by8 (ks : List Nd) : kbits ks 16 = (by8 (nz ks 0) (nz ks 1) (nz ks 2) (nz ks 3) (nz ks 4) (nz ks 5) (nz ks 6) (nz ks 7), by8 (nz ks 8) (nz ks 9) (nz ks 10) (nz ks 11) (nz ks 12) (nz ks 13) (nz ks 14) (nz ks 15)) := by
  have e : kbits ks 16 = (kbit ks 0 + kbit ks 1 + kbit ks 2 + kbit ks 3 + kbit ks 4 + kbit ks 5 + kbit ks 6 + kbit ks 7, kbit ks 8 + kbit ks 9 + kbit ks 10 + kbit ks 11 + kbit ks 12 + kbit ks 13 + kbit ks 14 + kbit ks 15) := by simp [kbits]
  rw [e]
  unfold by8
  rw [kbit_nz ks 0 128 (by decide), kbit_nz ks 1 64 (by decide), kbit_nz ks 2 32 (by decide), kbit_nz ks 3 16 (by decide), kbit_nz ks 4 8 (by decide), kbit_nz ks 5 4 (by decide), kbit_nz ks 6 2 (by decide), kbit_nz ks 7 1 (by decide), kbit_nz ks 8 128 (by decide), kbit_nz ks 9 64 (by decide), kbit_nz ks 10 32 (by decide), kbit_nz ks 11 16 (by decide), kbit_nz ks 12 8 (by decide), kbit_nz ks 13 4 (by decide), kbit_nz ks 14 2 (by decide), kbit_nz ks 15 1 (by decide)]
theorem bitB_nz (ks : List Nd) {i : Nat} (hi : i < 16) : bitB [UInt8.ofNat (kbits ks 16).1, UInt8.ofNat (kbits ks 16).2] i = nz ks i := by
  rw [kbits_by8]
  obtain ⟨h1, a0, a1, a2, a3, a4, a5, a6, a7⟩ := by8_bits (nz ks 0) (nz ks 1) (nz ks 2) (nz ks 3) (nz ks 4) (nz ks 5) (nz ks 6) (nz ks 7)
  obtain ⟨h2, b0, b1, b2, b3, b4, b5, b6, b7⟩ := by8_bits (nz ks 8) (nz ks 9) (nz ks 10) (nz ks 11) (nz ks 12) (nz ks 13) (nz ks 14) (nz ks 15)
  dsimp only
  generalize by8 (nz ks 0) (nz ks 1) (nz ks 2) (nz ks 3) (nz ks 4) (nz ks 5) (nz ks 6) (nz ks 7) = x at *
  generalize by8 (nz ks 8) (nz ks 9) (nz ks 10) (nz ks 11) (nz ks 12) (nz ks 13) (nz ks 14) (nz ks 15) = y at *
  have ex : (UInt8.ofNat x).toNat = x := by rw [UInt8.toNat_ofNat', Nat.mod_eq_of_lt h1]
  have ey : (UInt8.ofNat y).toNat = y := by rw [UInt8.toNat_ofNat', Nat.mod_eq_of_lt h2]
  have key : ∀ i, i < 16 → bitB [UInt8.ofNat x, UInt8.ofNat y] i = decide ((if i < 8 then x else y) / 2 ^ (7 - i % 8) % 2 = 1) := by
    intro i hi
    unfold bitB
    by_cases h8 : i < 8
    · rw [if_pos h8, show i / 8 = 0 by omega]; show decide ((UInt8.ofNat x).toNat / _ % 2 = 1) = _; rw [ex]
    · rw [if_neg h8, show i / 8 = 1 by omega]; show decide ((UInt8.ofNat y).toNat / _ % 2 = 1) = _; rw [ey]
  rw [key i hi]
  have hc : i = 0 ∨ i = 1 ∨ i = 2 ∨ i = 3 ∨ i = 4 ∨ i = 5 ∨ i = 6 ∨ i = 7 ∨ i = 8 ∨ i = 9 ∨ i = 10 ∨ i = 11 ∨ i = 12 ∨ i = 13 ∨ i = 14 ∨ i = 15 := by omega
  rcases hc with rfl | rfl | rfl | rfl | rfl | rfl | rfl | rfl | rfl | rfl | rfl | rfl | rfl | rfl | rfl | rfl <;> assumption
end Go.Proofs.Ytliccofjlheceaa
