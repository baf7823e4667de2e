/- Tries without stubs, plainly, as rising rows of pairs. No walk here. Tries without stubs, plainly: what Get, Put, Drop, Pairs, Of answer of them. No walk here. The walk of the law TrieTwo. The walks of the laws TrieOf and TrieDigest. -/
import Derived.Test.YtkfbkhahkkmcoaaG15
import Derived.Test.YtkfbkhahkkmcoaaG13
import Derived.Test.YtkfbkhahkkmcoaaG18
namespace Go.Proofs.Ytkfbkhahkkmcoaa
theorem cmp_app (w a b : List UInt8) : cmpB (w ++ a) (w ++ b) = cmpB a b := by
  induction w with
  | nil => rfl
  | cons x w ih => rw [List.cons_append, List.cons_append, cmpB_cons, if_pos rfl, ih]
theorem cmp_zero : ∀ {a b : List UInt8}, cmpB a b = 0 ↔ a = b
  | [], [] => by simp [cmpB_nil]
  | [], y :: b => by rw [cmpB_nil_cons]; simp
  | x :: a, [] => by rw [cmpB_cons_nil]; simp
  | x :: a, y :: b => by
    rw [cmpB_cons]
    by_cases h : x = y
    · subst h
      rw [if_pos rfl, cmp_zero]; simp
    · rw [if_neg h]
      constructor
      · intro e; split at e <;> cases e
      · intro e; injection e with e; exact absurd e h
theorem cmp_self (a : List UInt8) : cmpB a a = 0 := cmp_zero.2 rfl
theorem cmp_trans : ∀ {a b c : List UInt8}, cmpB a b < 0 → cmpB b c < 0 → cmpB a c < 0
  | a, [], c, h, _ => by
    cases a with
    | nil => rw [cmpB_nil] at h; omega
    | cons x a => rw [cmpB_cons_nil] at h; omega
  | _, y :: b, [], _, h => by rw [cmpB_cons_nil] at h; omega
  | [], y :: b, z :: c, _, _ => by rw [cmpB_nil_cons]; decide
  | x :: a, y :: b, z :: c, h1, h2 => by
    rw [cmpB_cons] at h1 h2 ⊢
    by_cases e1 : x = y
    · subst e1
      rw [if_pos rfl] at h1
      by_cases e2 : x = z
      · rw [if_pos e2] at h2 ⊢; exact cmp_trans h1 h2
      · rw [if_neg e2] at h2 ⊢; exact h2
    · rw [if_neg e1] at h1
      have l1 : x.toNat < y.toNat := by split at h1; assumption; omega
      by_cases e2 : y = z
      · subst e2
        rw [if_neg e1, if_pos l1]; decide
      · rw [if_neg e2] at h2
        have l2 : y.toNat < z.toNat := by split at h2; assumption; omega
        have e3 : x ≠ z := fun e => by rw [e] at l1; omega
        rw [if_neg e3, if_pos (by omega)]; decide
theorem cmp_anti {a b : List UInt8} (h : cmpB a b < 0) : ¬ cmpB b a < 0 := fun k => by have := cmpB_symm a b; omega
theorem cmp_ne {a b : List UInt8} (h : cmpB a b < 0) : a ≠ b := fun e => by rw [e, cmp_self] at h; omega
theorem cmp_pre {w p : List UInt8} (h : w <+: p) (hn : w.length < p.length) : cmpB w p < 0 := by
  obtain ⟨r, rfl⟩ := h
  have := cmp_app w [] r
  rw [List.append_nil] at this
  rw [this]
  cases r with
  | nil => simp at hn
  | cons x r => rw [cmpB_nil_cons]; decide
theorem cmp_diff {w p q : List UInt8} {a b : UInt8} (hp : w ++ [a] <+: p) (hq : w ++ [b] <+: q) (h : a.toNat < b.toNat) : cmpB p q < 0 := by
  obtain ⟨r, rfl⟩ := hp
  obtain ⟨s, rfl⟩ := hq
  rw [List.append_assoc, List.append_assoc, cmp_app, List.singleton_append, List.singleton_append, cmpB_cons, if_neg (fun e => by rw [e] at h; omega), if_pos h]; decide
def Ris (l : List Pr) : Prop := l.Pairwise fun a b => cmpB a.k b.k < 0
theorem insP_mem : ∀ {l : List Pr} {p y : Pr}, Ris l → (y ∈ insP l p ↔ y = p ∨ (y ∈ l ∧ y.k ≠ p.k))
  | [], p, y, _ => by rw [insP]; simp
  | x :: r, p, y, h => by
    have h' := List.pairwise_cons.1 h
    rw [insP]
    split
    · rename_i h1
      have := insP_mem (l := r) (p := p) (y := y) h'.2
      rw [List.mem_cons, this, List.mem_cons]
      have hx := cmp_ne h1
      constructor
      · rintro (rfl | rfl | ⟨a, b⟩)
        · exact .inr ⟨.inl rfl, hx⟩
        · exact .inl rfl
        · exact .inr ⟨.inr a, b⟩
      · rintro (rfl | ⟨rfl | a, b⟩)
        · exact .inr (.inl rfl)
        · exact .inl rfl
        · exact .inr (.inr ⟨a, b⟩)
    · rename_i h1
      split
      · rename_i h2
        have e := cmp_zero.1 h2
        rw [List.mem_cons, List.mem_cons]
        constructor
        · rintro (rfl | a)
          · exact .inl rfl
          · have := cmp_ne (h'.1 y a)
            rw [e] at this
            exact .inr ⟨.inr a, fun e2 => this e2.symm⟩
        · rintro (rfl | ⟨rfl | a, b⟩)
          · exact .inl rfl
          · exact absurd e b
          · exact .inr a
      · rename_i h2
        have h3 : cmpB p.k x.k < 0 := by have := cmpB_symm p.k x.k; omega
        rw [List.mem_cons, List.mem_cons]
        constructor
        · rintro (rfl | rfl | a)
          · exact .inl rfl
          · exact .inr ⟨.inl rfl, fun e => cmp_ne h3 e.symm⟩
          · exact .inr ⟨.inr a, fun e => cmp_ne (cmp_trans h3 (h'.1 y a)) e.symm⟩
        · rintro (rfl | ⟨rfl | a, b⟩)
          · exact .inl rfl
          · exact .inr (.inl rfl)
          · exact .inr (.inr a)
theorem ins_ris : ∀ {l : List Pr} (p : Pr), Ris l → Ris (insP l p)
  | [], p, _ => List.pairwise_singleton _ _
  | x :: r, p, h => by
    have h' := List.pairwise_cons.1 h
    rw [insP]
    split
    · rename_i h1
      refine List.pairwise_cons.2 ⟨fun y hy => ?_, ins_ris p h'.2⟩
      rcases (insP_mem h'.2).1 hy with rfl | ⟨a, _⟩
      · exact h1
      · exact h'.1 y a
    · rename_i h1
      split
      · rename_i h2
        have e := cmp_zero.1 h2
        exact List.pairwise_cons.2 ⟨fun y hy => by rw [← e]; exact h'.1 y hy, h'.2⟩
      · rename_i h2
        have h3 : cmpB p.k x.k < 0 := by have := cmpB_symm p.k x.k; omega
        refine List.pairwise_cons.2 ⟨fun y hy => ?_, h⟩
        rcases List.mem_cons.1 hy with rfl | hy
        · exact h3
        · exact cmp_trans h3 (h'.1 y hy)
theorem ris_ext : ∀ {a b : List Pr}, Ris a → Ris b → (∀ y, y ∈ a ↔ y ∈ b) → a = b
  | [], [], _, _, _ => rfl
  | [], y :: b, _, _, h => by have := (h y).2 (by simp); cases this
  | x :: a, [], _, _, h => by have := (h x).1 (by simp); cases this
  | x :: a, y :: b, ha, hb, h => by
    have ha' := List.pairwise_cons.1 ha
    have hb' := List.pairwise_cons.1 hb
    have hxy : x = y := by
      rcases List.mem_cons.1 ((h x).1 (by simp)) with e | hx
      · exact e
      · rcases List.mem_cons.1 ((h y).2 (by simp)) with e | hy
        · exact e.symm
        · exact absurd (ha'.1 y hy) (cmp_anti (hb'.1 x hx))
    subst hxy
    congr 1
    refine ris_ext ha'.2 hb'.2 fun z => ?_
    constructor
    · intro hz
      rcases List.mem_cons.1 ((h z).1 (by simp [hz])) with rfl | h2
      · exact absurd rfl (cmp_ne (ha'.1 z hz))
      · exact h2
    · intro hz
      rcases List.mem_cons.1 ((h z).2 (by simp [hz])) with rfl | h2
      · exact absurd rfl (cmp_ne (hb'.1 z hz))
      · exact h2
theorem ris_key : ∀ {l : List Pr} {x y : Pr}, Ris l → x ∈ l → y ∈ l → x.k = y.k → x = y
  | z :: l, x, y, h, hx, hy, e => by
    have h' := List.pairwise_cons.1 h
    rcases List.mem_cons.1 hx with e1 | hx1
    · rcases List.mem_cons.1 hy with e2 | hy1
      · rw [e1, e2]
      · exact absurd e (by rw [e1]; exact cmp_ne (h'.1 y hy1))
    · rcases List.mem_cons.1 hy with e2 | hy1
      · exact absurd e.symm (by rw [e2]; exact cmp_ne (h'.1 x hx1))
      · exact ris_key h'.2 hx1 hy1 e
theorem fold_ris : ∀ {l o : List Pr}, Ris o → Ris (l.foldl insP o)
  | [], _, h => h
  | p :: l, _, h => fold_ris (l := l) (ins_ris p h)
theorem rising_ris (l : List Pr) : Ris (risingP l) := fold_ris List.Pairwise.nil
def RisI (l : List It) : Prop := l.Pairwise fun a b => cmpB a.path b.path < 0
theorem kids_ris {ks : List Nd} {kn : Bool} {at_ : List UInt8} : ∀ (i : Nat), i + ks.length ≤ 16 → (∀ k ∈ ks, ∀ way, RisI (itemsP k way kn)) → RisI (itemsK ks true kn i at_) := by
  induction ks with
  | nil => intro i _ _; rw [itemsK]; exact List.Pairwise.nil
  | cons t ks ih =>
    intro i hi h
    rw [List.length_cons] at hi
    rw [itemsK]
    refine List.pairwise_append.2 ⟨h t (by simp) _, ih (i + 1) (by omega) (fun k hk => h k (by simp [hk])), fun x hx y hy => ?_⟩
    obtain ⟨j, k, h1, h2⟩ := itemsK_mem hy
    have hj := (List.getElem?_eq_some_iff.1 h1).1
    exact cmp_diff (kid_pre hx) (kid_pre h2) (by rw [ofNat_half (by omega), ofNat_half (by omega)]; omega)
theorem items_ris {even : Bool} {t : Nd} {d : Nat} (hv : Val even t d) : ∀ (way : List UInt8) (kn : Bool), RisI (itemsP t way kn) := by
  induction hv with
  | none => intro way kn; rw [items_none]; exact List.Pairwise.nil
  | leaf => intro way kn; rw [items_leaf]; exact List.pairwise_singleton _ _
  | stub => intro way kn; rw [items_stub]; exact List.pairwise_singleton _ _
  | way d p k hd hp h0 hk hr ih => intro way kn; rw [items_way]; exact ih _ _
  | branch d has v ks hd hv hv0 he h16 hr hm ih =>
    intro way kn
    rw [items_br]
    refine List.pairwise_append.2 ⟨?_, kids_ris 0 (by omega) (fun k hk way => ih k hk way false), fun x hx y hy => ?_⟩
    · unfold ownI
      cases has with
      | true => exact List.pairwise_singleton _ _
      | false => exact List.Pairwise.nil
    · have hxp : x.path = way := by
        unfold ownI at hx
        cases has with
        | true => simp only [if_pos, List.mem_singleton] at hx; subst hx; rfl
        | false => cases hx
      rw [hxp]
      obtain ⟨j, k, _, h2⟩ := kid_mem hy
      exact cmp_pre ((List.prefix_append _ _).trans (kid_pre h2)) (pre_at (kid_pre h2)).1
theorem items_even {t : Nd} {d : Nat} (hv : Val true t d) : ∀ (way : List UInt8) (kn : Bool), ∀ x ∈ itemsP t way kn, ∃ r, x.path = way ++ r ∧ halvesB r = true ∧ (x.stub = false → (d + r.length) % 2 = 0 ∧ x.known = false ∧ x.hash = []) := by
  have ends : ∀ {d : Nat}, endsP d true = true → d % 2 = 0 := fun h => by
    unfold endsP at h
    simp at h
    omega
  induction hv with
  | none => intro way kn x hx; rw [items_none] at hx; cases hx
  | leaf d p v hd hp hv he =>
    intro way kn x hx
    rw [items_leaf, List.mem_singleton] at hx
    subst hx
    exact ⟨p, rfl, hp, fun _ => ⟨ends he, rfl, rfl⟩⟩
  | stub d h hd hh =>
    intro way kn x hx
    rw [items_stub, List.mem_singleton] at hx
    subst hx
    exact ⟨[], by simp, rfl, fun h => by cases h⟩
  | way d p k hd hp h0 hk hr ih =>
    intro way kn x hx
    rw [items_way] at hx
    obtain ⟨r, h1, h2, h3⟩ := ih _ _ x hx
    exact ⟨p ++ r, by rw [h1, List.append_assoc], by rw [halvesB_app, hp, h2]; rfl, fun h => by
      rw [List.length_append, ← Nat.add_assoc]; exact h3 h⟩
  | branch d has v ks hd hv hv0 he h16 hr hm ih =>
    intro way kn x hx
    rw [items_br] at hx
    rcases List.mem_append.1 hx with hx | hx
    · unfold ownI at hx
      cases has with
      | true => simp only [if_pos, List.mem_singleton] at hx; subst hx; exact ⟨[], by simp, rfl, fun _ => ⟨ends (he rfl), rfl, rfl⟩⟩
      | false => cases hx
    · obtain ⟨j, k, h1, h2⟩ := kid_mem hx
      have hj : j < 16 := by have := (List.getElem?_eq_some_iff.1 h1).1; omega
      obtain ⟨r, k1, k2, k3⟩ := ih k (List.mem_of_getElem? h1) _ _ x h2
      refine ⟨UInt8.ofNat j :: r, by rw [k1, List.append_assoc]; rfl, ?_, fun h => ?_⟩
      · have := ofNat_half hj
        unfold halvesB at k2 ⊢
        simp only [List.all_cons, Bool.and_eq_true, decide_eq_true_eq]
        have h15 : (UInt8.ofNat j).toNat ≤ 15 := by omega
        exact ⟨h15, k2⟩
      · rw [List.length_cons, show d + (r.length + 1) = d + 1 + r.length by omega]; exact k3 h
theorem sf_items {even : Bool} {t : Nd} {d : Nat} (hv : Val even t d) : ∀ (way : List UInt8) (kn : Bool), sfB t = true ↔ ∀ x ∈ itemsP t way kn, x.stub = false := by
  induction hv with
  | none => intro way kn; rw [items_none]; simp [sf_none]
  | leaf d p v => intro way kn; rw [items_leaf]; simp [show sfB (.mk 1 p false v [] []) = true from sf_leaf p v]
  | stub d h => intro way kn; rw [items_stub, sfB_mk]; simp
  | way d p k hd hp h0 hk hr ih =>
    intro way kn
    rw [items_way, ← ih (way ++ p) true, sfB_mk, sfsB, sfsB]; simp
  | branch d has v ks hd hv hv0 he h16 hr hm ih =>
    intro way kn
    rw [items_br, sfB_mk, Bool.and_eq_true, sfsB_all]
    constructor
    · rintro ⟨_, h⟩ x hx
      rcases List.mem_append.1 hx with hx | hx
      · unfold ownI at hx
        cases has with
        | true => simp only [if_pos, List.mem_singleton] at hx; subst hx; rfl
        | false => cases hx
      · obtain ⟨j, k, h1, h2⟩ := kid_mem hx
        exact (ih k (List.mem_of_getElem? h1) _ _).1 (h k (List.mem_of_getElem? h1)) x h2
    · intro h
      refine ⟨by decide, fun k hk => ?_⟩
      obtain ⟨j, hj⟩ := List.getElem?_of_mem hk
      exact (ih k hk (way ++ [UInt8.ofNat j]) false).2 fun x hx => h x (List.mem_append_right _ (kid_of hj hx))
theorem ofB_inj {a b : List UInt8} (h : ofB a = ofB b) : a = b := by rw [← joinB_ofB a, h, joinB_ofB]
theorem itOf_inj {a b : Pr} (h : itOf a = itOf b) : a = b := by
  unfold itOf at h
  injection h with h1 h2
  obtain ⟨k, v⟩ := a
  obtain ⟨k', v'⟩ := b
  dsimp only at h1 h2
  rw [ofB_inj h1, h2]
theorem map_inj {α β : Type} {f : α → β} (hf : ∀ a b, f a = f b → a = b) : ∀ {l m : List α}, l.map f = m.map f → l = m
  | [], [], _ => rfl
  | [], _ :: _, h => by cases h
  | _ :: _, [], h => by cases h
  | x :: l, y :: m, h => by
    rw [List.map_cons, List.map_cons] at h
    injection h with h1 h2
    rw [hf _ _ h1, map_inj hf h2]
/-- A trie without stubs that may be. -/
def Full (t : Nd) : Prop := Val true t 0 ∧ sfB t = true
def prsT (t : Nd) : List Pr := (pairsP t []).1
theorem rPairs_map : ∀ {l : List It}, (∀ x ∈ l, x.stub = false) → rPairsF l = (l.map fun x => ⟨bytesL x.path, x.val⟩, none)
  | [], _ => rfl
  | x :: l, h => by
    have := rPairs_map (l := l) (fun y hy => h y (by simp [hy]))
    rw [rPairsF, h x (by simp), this]; rfl
theorem full_pairs {t : Nd} (h : Full t) : (pairsP t []).2 = none ∧ prsT t = (itemsP t [] true).map fun x => ⟨bytesL x.path, x.val⟩ := by
  obtain ⟨h1, h2⟩ := pairs_items t [] true
  rw [rPairs_map ((sf_items h.1 [] true).1 h.2)] at h1 h2
  exact ⟨h1, h2 h1⟩
theorem prs_items {t : Nd} (h : Full t) : itemsP t [] true = (prsT t).map itOf := by
  rw [(full_pairs h).2, List.map_map]
  have : ∀ x ∈ itemsP t [] true, (itOf ∘ fun x : It => (⟨bytesL x.path, x.val⟩ : Pr)) x = x := fun x hx => by
    have hs := (sf_items h.1 [] true).1 h.2 x hx
    obtain ⟨r, h1, h2, h3⟩ := items_even h.1 [] true x hx
    obtain ⟨h4, h5, h6⟩ := h3 hs
    rw [List.nil_append] at h1
    obtain ⟨p, v, s, k, hh⟩ := x
    dsimp only at h1 hs h5 h6
    subst h1; subst hs; subst h5; subst h6
    show itOf ⟨bytesL p, v⟩ = _
    unfold itOf
    dsimp only
    rw [(bytesE_ok h2 (by omega)).2, ofB_joinB p h2 (by omega)]
  conv => lhs; rw [← List.map_id (itemsP t [] true)]
  exact List.map_congr_left fun x hx => (this x hx).symm
theorem prs_mem {t : Nd} (h : Full t) {p : Pr} : p ∈ prsT t ↔ itOf p ∈ itemsP t [] true := by
  rw [prs_items h, List.mem_map]
  constructor
  · intro hp; exact ⟨p, hp, rfl⟩
  · rintro ⟨q, hq, e⟩
    rw [← itOf_inj e]; exact hq
theorem prs_ris {t : Nd} (h : Full t) : Ris (prsT t) := by
  have := items_ris h.1 [] true
  rw [prs_items h] at this
  unfold RisI at this
  rw [List.pairwise_map] at this
  refine this.imp fun {a b} hab => ?_
  have e : cmpB (ofB a.k) (ofB b.k) < 0 := hab
  rw [cmpB_ofB] at e
  exact e
theorem build_prs {t : Nd} (h : Full t) {N : Nat} (hN : 401 ≤ N) : buildA N ((prsT t).map itOf) 0 = (t, none) := by
  rw [← prs_items h]
  have := build_like h.1 [] true _ N (Like.refl _) (fun x hx => by
    have := items_le h.1 [] true x hx
    rw [List.length_nil] at this ⊢; omega)
  rw [List.length_nil] at this
  exact this
theorem prs_inj {a b : Nd} (ha : Full a) (hb : Full b) (h : prsT a = prsT b) : a = b := by
  have h1 := build_prs ha (Nat.le_refl 401)
  have h2 := build_prs hb (Nat.le_refl 401)
  rw [h, h2] at h1
  injection h1 with h1
  exact h1.symm
theorem full_none : Full noneN := ⟨.none 0 (by decide), sf_none⟩
theorem prs_none : prsT noneN = [] := by rw [(full_pairs full_none).2, items_none]; rfl
theorem keep_itOf (k : List UInt8) (p : Pr) : keepI (ofB k) (itOf p) = decide (p.k ≠ k) := by
  unfold keepI itOf
  dsimp only
  rw [Bool.false_or]
  by_cases h : p.k = k
  · rw [h]; simp
  · have : ofB p.k ≠ ofB k := fun e => h (ofB_inj e)
    simp [h, this]
theorem put_prs {t : Nd} (h : Full t) {k v : List UInt8} (hk : k.length ≤ 200) (hl : v.length ≤ 4000) : (putP t (ofB k) v).2 = none ∧ Full (putP t (ofB k) v).1 ∧ prsT (putP t (ofB k) v).1 = insP (prsT t) ⟨k, v⟩ := by
  obtain ⟨hm, hs⟩ := sf_put h.1 h.2 (ofB k) v (halvesB_ofB k)
  obtain ⟨hv, hlike⟩ := put_sum h.1 hk hl hm
  have hf : Full (putP t (ofB k) v).1 := ⟨hv, hs⟩
  refine ⟨hm, hf, ris_ext (prs_ris hf) (ins_ris _ (prs_ris h)) fun y => ?_⟩
  rw [prs_mem hf, insP_mem (prs_ris h)]
  have up_it : ∀ {x z : It}, Up x z → ∀ {p : Pr}, (x = itOf p → z.known = false → z = itOf p) := fun hu p e hk => by
    subst e
    rename_i x z
    obtain ⟨a, b, c, d, e⟩ := z
    obtain ⟨u1, u2, u3, u4, _⟩ := hu
    dsimp only at u1 u2 u3 u4 hk
    subst hk; subst u1; subst u2; subst u3; subst u4; rfl
  constructor
  · intro hy
    obtain ⟨z, hz, hu⟩ := hlike.mem_l _ hy
    rcases List.mem_cons.1 hz with rfl | hz
    · left
      have h1 : ofB k = ofB y.k := hu.1
      have h2 : v = y.v := hu.2.1
      obtain ⟨yk, yv⟩ := y
      dsimp only at h1 h2
      rw [ofB_inj h1, h2]
    · right
      obtain ⟨hz1, hz2⟩ := List.mem_filter.1 hz
      rw [prs_items h] at hz1
      obtain ⟨q, hq, rfl⟩ := List.mem_map.1 hz1
      have h1 : ofB q.k = ofB y.k := hu.1
      have h2 : q.v = y.v := hu.2.1
      have e : q = y := by
        obtain ⟨yk, yv⟩ := y
        obtain ⟨qk, qv⟩ := q
        dsimp only at h1 h2
        rw [ofB_inj h1, h2]
      subst e
      rw [keep_itOf] at hz2
      exact ⟨hq, of_decide_eq_true hz2⟩
  · intro hy
    have : itOf y ∈ newI (ofB k) v :: (itemsP t [] true).filter (keepI (ofB k)) := by
      rcases hy with rfl | ⟨h1, h2⟩
      · exact List.mem_cons_self ..
      · exact List.mem_cons_of_mem _ (List.mem_filter.2 ⟨(prs_mem h).1 h1, by rw [keep_itOf]; exact decide_eq_true h2⟩)
    obtain ⟨x, hx, hu⟩ := hlike.mem_r _ this
    have hxs := (sf_items hf.1 [] true).1 hf.2 x hx
    rw [prs_items hf] at hx ⊢
    obtain ⟨q, hq, rfl⟩ := List.mem_map.1 hx
    have h1 : ofB y.k = ofB q.k := hu.1
    have h2 : y.v = q.v := hu.2.1
    have e : q = y := by
      obtain ⟨yk, yv⟩ := y
      obtain ⟨qk, qv⟩ := q
      dsimp only at h1 h2
      rw [ofB_inj h1, h2]
    subst e
    exact List.mem_map_of_mem hq
theorem build_nostub : ∀ (N : Nat) (l : List It) (at_ : Nat), (∀ x ∈ l, x.stub = false) → (buildA N l at_).2 = none
  | 0, _, _, _ => by rw [buildA]
  | N + 1, [], _, _ => by rw [buildA]
  | N + 1, [x], at_, h => by rw [build_one, if_pos (h x (by simp))]
  | N + 1, x :: y :: r, at_, h => by
    by_cases hK : alikeP (x :: y :: r) at_ = 0
    · rw [build_br (by simp) hK, bad_none (f := fun h => buildA N (groupA (x :: y :: r) at_ h) (at_ + 1)) fun i _ _ => build_nostub N _ _ fun z hz => h z (List.mem_filter.1 hz).1]
    · obtain ⟨c, hc, hs⟩ := alike_sh (l := x :: y :: r) at_ (by simp)
      rw [build_way (by simp) hs hc.symm (fun e => hK (by rw [← hc, e]; rfl))]
      exact build_nostub N _ _ h
theorem get_prs {t : Nd} (h : Full t) (k : List UInt8) : (getP t (ofB k)).miss = none ∧ ((getP t (ofB k)).has = true → ⟨k, (getP t (ofB k)).v⟩ ∈ prsT t) ∧ ((getP t (ofB k)).has = false → ∀ p ∈ prsT t, p.k ≠ k) := by
  obtain ⟨h1, h2⟩ := get_items0 h.1 (ofB k) (halvesB_ofB k)
  have hs := (sf_items h.1 [] true).1 h.2
  have hm : (getP t (ofB k)).miss = none := by
    rw [← h1]
    exact stubL_none fun x hx e => by rw [hs x hx] at e; cases e
  have h3 := h2 hm
  refine ⟨hm, fun hh => ?_, fun hh p hp e => ?_⟩
  · rw [hh, if_pos rfl] at h3
    have := List.mem_of_find?_eq_some h3
    rw [prs_mem h]; exact this
  · rw [hh, if_neg (by decide), List.find?_eq_none] at h3
    have := h3 _ ((prs_mem h).1 hp)
    refine this (decide_eq_true ?_)
    show ofB p.k = _
    rw [e]
theorem drop_prs {t : Nd} (h : Full t) {k : List UInt8} (hh : (getP t (ofB k)).has = true) : (dropP t (ofB k)).2 = none ∧ Full (dropP t (ofB k)).1 ∧ prsT (dropP t (ofB k)).1 = (prsT t).filter fun p => decide (p.k ≠ k) := by
  obtain ⟨d1, d2⟩ := drop_items h.1 (ofB k) (halvesB_ofB k) hh
  have hs := (sf_items h.1 [] true).1 h.2
  have hm : (dropP t (ofB k)).2 = none := by
    cases hm : (dropP t (ofB k)).2 with
    | none => rfl
    | some m =>
      have := d2 m hm [] true 401 (fun x hx => by
        have := items_le h.1 [] true x (List.mem_filter.1 hx).1
        rw [List.length_nil] at this ⊢; omega)
      rw [build_nostub _ _ _ fun x hx => hs x (List.mem_filter.1 hx).1] at this
      cases this
  obtain ⟨e1, e2, e3⟩ := d1 hm
  have e4 := e3 [] true
  rw [List.nil_append] at e4
  have hf : Full (dropP t (ofB k)).1 := ⟨e1, (sf_items e1 [] true).2 fun x hx => by rw [e4] at hx; exact hs x (List.mem_filter.1 hx).1⟩
  refine ⟨hm, hf, map_inj (fun a b => itOf_inj) ?_⟩
  rw [← prs_items hf, e4, prs_items h, List.filter_map]
  congr 1
  refine List.filter_congr fun p hp => ?_
  exact keep_itOf k p
theorem of_prs : ∀ (l : List Pr) (t : Nd), longPr l = false → Full t → (tOfF l t).2 = 0 ∧ Full (tOfF l t).1 ∧ prsT (tOfF l t).1 = l.foldl insP (prsT t)
  | [], t, _, h => ⟨rfl, h, rfl⟩
  | p :: l, t, hl, h => by
    unfold longPr at hl
    rw [List.any_cons, Bool.or_eq_false_iff, decide_eq_false_iff_not] at hl
    obtain ⟨h1, h2, h3⟩ := put_prs h (k := p.k) (v := p.v) (by omega) (by omega)
    rw [tOfF, if_neg (by omega), List.foldl_cons]
    have := of_prs l _ hl.2 h2
    rw [h3] at this
    exact this
theorem tOf_prs {l : List Pr} (hl : longPr l = false) : (tOf l).2 = 0 ∧ Full (tOf l).1 ∧ prsT (tOf l).1 = risingP l := by
  have := of_prs l noneN hl full_none
  rw [prs_none] at this
  exact this
end Go.Proofs.Ytkfbkhahkkmcoaa
namespace Go.Proofs.Ytkfbkhahkkmcoaa
theorem longN_cons (p : Pr) (l : List Pr) : longN (p :: l) = 10 + p.k.length + p.v.length + longN l := by unfold longN; rw [List.map_cons, List.sum_cons]
theorem prBulk_cons (p : Pr) (l : List Pr) : prBulk (p :: l) = 140 + 2 * p.k.length + p.v.length + prBulk l := by unfold prBulk; rw [List.map_cons, List.sum_cons]
theorem longN_up : ∀ l : List Pr, longN l ≤ 4 * (l.map fun t => t.k.length + t.v.length + 3).sum
  | [] => Nat.zero_le _
  | p :: l => by have := longN_up l; rw [longN_cons, List.map_cons, List.sum_cons]; omega
theorem full_tri {t : Nd} (h : Full t) {nk nv : Nat} (h1 : nk ≤ 200) (h2 : nv ≤ 4000) : tri t nk nv = true := tri_of h.1 h1 h2
theorem tPut_full {t : Nd} (h : Full t) {k v : List UInt8} (h1 : k.length ≤ 200) (h2 : v.length ≤ 4000) : ∃ t', tPut t k v = (t', none, 0) ∧ Full t' ∧ prsT t' = insP (prsT t) ⟨k, v⟩ ∧ sz t' ≤ sz t + 130 + 2 * k.length + v.length := by
  obtain ⟨p1, p2, p3⟩ := put_prs h h1 h2
  have e : tPut t k v = ((putP t (ofB k) v).1, none, 0) := by unfold tPut; rw [full_tri h h1 h2, if_pos rfl, p1]
  refine ⟨_, e, p2, p3, ?_⟩
  have := sz_put h.1 (ofB k) v (halvesB_ofB _)
  rw [ofB_length] at this; exact this
theorem tGet_full {t : Nd} (h : Full t) {k : List UInt8} (h1 : k.length ≤ 200) : ∃ v has, tGet t k = ⟨v, has, none, 0⟩ ∧ (has = true → ⟨k, v⟩ ∈ prsT t) ∧ (has = false → v = [] ∧ ∀ p ∈ prsT t, p.k ≠ k) := by
  obtain ⟨g1, g2, g3⟩ := get_prs h k
  rcases tGet_cases t k with ⟨a, b⟩ | ⟨a, ⟨r, b, c⟩ | ⟨b, c, d⟩ | ⟨b, c, d⟩⟩
  · rw [full_tri h h1 (by decide)] at a; cases a
  · rw [g1] at b; cases b
  · exact ⟨_, _, d, fun _ => g2 c, fun h => by cases h⟩
  · exact ⟨_, _, d, fun h => (by cases h), fun _ => ⟨rfl, g3 c⟩⟩
theorem tGet_in {t : Nd} (h : Full t) {k v : List UInt8} (h1 : k.length ≤ 200) (hm : ⟨k, v⟩ ∈ prsT t) : tGet t k = ⟨v, true, none, 0⟩ := by
  obtain ⟨v', has, e, a, b⟩ := tGet_full h h1
  cases has with
  | true =>
    have := ris_key (prs_ris h) (a rfl) hm rfl
    injection this with _ e2
    rw [e, e2]
  | false => exact absurd rfl ((b rfl).2 _ hm)
theorem tGet_out {t : Nd} (h : Full t) {k : List UInt8} (h1 : k.length ≤ 200) (hm : ∀ p ∈ prsT t, p.k ≠ k) : tGet t k = ⟨[], false, none, 0⟩ := by
  obtain ⟨v', has, e, a, b⟩ := tGet_full h h1
  cases has with
  | true => exact absurd rfl (hm _ (a rfl))
  | false => rw [e, (b rfl).1]
theorem tDrop_full {t : Nd} (h : Full t) {k : List UInt8} (h1 : k.length ≤ 200) : ∃ t' has, tDrop t k = ⟨t', has, none, 0⟩ ∧ Full t' ∧ prsT t' = (prsT t).filter (fun p => decide (p.k ≠ k)) ∧ (has = true ↔ ∃ p ∈ prsT t, p.k = k) ∧ sz t' ≤ sz t := by
  obtain ⟨g1, g2, g3⟩ := get_prs h k
  unfold tDrop
  rcases tGet_cases t k with ⟨a, b⟩ | ⟨a, ⟨r, b, c⟩ | ⟨b, c, d⟩ | ⟨b, c, d⟩⟩
  · rw [full_tri h h1 (by decide)] at a; cases a
  · rw [g1] at b; cases b
  · obtain ⟨d1, d2, d3⟩ := drop_prs h c
    rw [d, if_pos rfl, if_pos rfl, d1]
    exact ⟨_, _, rfl, d2, d3, ⟨fun _ => ⟨_, g2 c, rfl⟩, fun _ => rfl⟩, sz_drop h.1 (ofB k) (halvesB_ofB k) c⟩
  · rw [d, if_pos rfl, if_neg (by decide)]
    refine ⟨_, _, rfl, h, (List.filter_eq_self.2 fun p hp => decide_eq_true (g3 c p hp)).symm, ⟨fun h => (by cases h), ?_⟩, Nat.le_refl _⟩
    rintro ⟨p, hp, e⟩
    exact absurd e (g3 c p hp)
theorem fold_inj_mem : ∀ {l o : List Pr}, Ris o → (∀ x ∈ l ++ o, ∀ y ∈ l ++ o, x.k = y.k → x = y) → ∀ y, y ∈ l.foldl insP o ↔ y ∈ l ∨ y ∈ o
  | [], o, _, _, y => by simp
  | p :: l, o, ho, hi, y => by
    rw [List.foldl_cons]
    have hm : ∀ z, z ∈ insP o p ↔ z = p ∨ z ∈ o := fun z => by
      rw [insP_mem ho]
      constructor
      · rintro (rfl | h)
        · exact .inl rfl
        · exact .inr h.1
      · rintro (rfl | h)
        · exact .inl rfl
        · by_cases hk : z.k = p.k
          · exact .inl (hi z (by simp [h]) p (by simp) hk)
          · exact .inr ⟨h, hk⟩
    have hi' : ∀ x ∈ l ++ insP o p, ∀ y ∈ l ++ insP o p, x.k = y.k → x = y := fun x hx y hy e => by
      have conv : ∀ z ∈ l ++ insP o p, z ∈ (p :: l) ++ o := fun z hz => by
        rcases List.mem_append.1 hz with h | h
        · simp [h]
        · rcases (hm z).1 h with rfl | h <;> simp [*]
      exact hi x (conv x hx) y (conv y hy) e
    rw [fold_inj_mem (ins_ris p ho) hi' y, hm, List.mem_cons]
    constructor
    · rintro (h | h | h) <;> simp [h]
    · rintro ((h | h) | h) <;> simp [h]
theorem rising_same {r back : List Pr} (h : Ris r) (hm : ∀ y, y ∈ back ↔ y ∈ r) : risingP back = r := by
  refine ris_ext (rising_ris back) h fun y => ?_
  unfold risingP
  rw [fold_inj_mem List.Pairwise.nil (fun x hx y hy e => by
    rw [List.append_nil] at hx hy
    exact ris_key h ((hm x).1 hx) ((hm y).1 hy) e), hm]
  simp
end Go.Proofs.Ytkfbkhahkkmcoaa
