/- Tries without stubs, plainly, as rising rows of pairs. No walk here. Tries without stubs, plainly: what Get, Put, Drop, Pairs, Of answer of them. No walk here. The walk of the law TrieTwo. The walks of the laws TrieOf and TrieDigest. law08: folded. The walks of slices.EqualFunc over nodes, for any function; of node.Same. Package reveal: Shut, agrees, Agrees. -/
import Derived.Test.YtojjfkbffjkojaaDoorG17
import Derived.Test.YtojjfkbffjkojaaDoorG14
import Derived.Test.YtojjfkbffjkojaaDoorG08
import Derived.Test.YtojjfkbffjkojaaDoorG05
import Derived.Test.YtojjfkbffjkojaaDoorG07
namespace Go.Proofs.YtojjfkbffjkojaaDoor
theorem cmp_app (w a b : List UInt8) : cmpB (w ++ a) (w ++ b) = cmpB a b := by
  induction w with
  | nil => rfl
  | cons x w ih => rw [List.cons_append, List.cons_append, cmpB_cons, if_pos rfl, ih]
theorem cmp_zero : ∀ {a b : List UInt8}, cmpB a b = 0 ↔ a = b
  | [], [] => by simp [cmpB_nil]
  | [], y :: b => by rw [cmpB_nil_cons]; simp
  | x :: a, [] => by rw [cmpB_cons_nil]; simp
  | x :: a, y :: b => by
    rw [cmpB_cons]
    by_cases h : x = y
    · subst h
      rw [if_pos rfl, cmp_zero]; simp
    · rw [if_neg h]
      constructor
      · intro e; split at e <;> cases e
      · intro e; injection e with e; exact absurd e h
theorem cmp_self (a : List UInt8) : cmpB a a = 0 := cmp_zero.2 rfl
theorem cmp_trans : ∀ {a b c : List UInt8}, cmpB a b < 0 → cmpB b c < 0 → cmpB a c < 0
  | a, [], c, h, _ => by
    cases a with
    | nil => rw [cmpB_nil] at h; omega
    | cons x a => rw [cmpB_cons_nil] at h; omega
  | _, y :: b, [], _, h => by rw [cmpB_cons_nil] at h; omega
  | [], y :: b, z :: c, _, _ => by rw [cmpB_nil_cons]; decide
  | x :: a, y :: b, z :: c, h1, h2 => by
    rw [cmpB_cons] at h1 h2 ⊢
    by_cases e1 : x = y
    · subst e1
      rw [if_pos rfl] at h1
      by_cases e2 : x = z
      · rw [if_pos e2] at h2 ⊢; exact cmp_trans h1 h2
      · rw [if_neg e2] at h2 ⊢; exact h2
    · rw [if_neg e1] at h1
      have l1 : x.toNat < y.toNat := by split at h1; assumption; omega
      by_cases e2 : y = z
      · subst e2
        rw [if_neg e1, if_pos l1]; decide
      · rw [if_neg e2] at h2
        have l2 : y.toNat < z.toNat := by split at h2; assumption; omega
        have e3 : x ≠ z := fun e => by rw [e] at l1; omega
        rw [if_neg e3, if_pos (by omega)]; decide
theorem cmp_anti {a b : List UInt8} (h : cmpB a b < 0) : ¬ cmpB b a < 0 := fun k => by have := cmpB_symm a b; omega
theorem cmp_ne {a b : List UInt8} (h : cmpB a b < 0) : a ≠ b := fun e => by rw [e, cmp_self] at h; omega
theorem cmp_pre {w p : List UInt8} (h : w <+: p) (hn : w.length < p.length) : cmpB w p < 0 := by
  obtain ⟨r, rfl⟩ := h
  have := cmp_app w [] r
  rw [List.append_nil] at this
  rw [this]
  cases r with
  | nil => simp at hn
  | cons x r => rw [cmpB_nil_cons]; decide
theorem cmp_diff {w p q : List UInt8} {a b : UInt8} (hp : w ++ [a] <+: p) (hq : w ++ [b] <+: q) (h : a.toNat < b.toNat) : cmpB p q < 0 := by
  obtain ⟨r, rfl⟩ := hp
  obtain ⟨s, rfl⟩ := hq
  rw [List.append_assoc, List.append_assoc, cmp_app, List.singleton_append, List.singleton_append, cmpB_cons, if_neg (fun e => by rw [e] at h; omega), if_pos h]; decide
def Ris (l : List Pr) : Prop := l.Pairwise fun a b => cmpB a.k b.k < 0
theorem insP_mem : ∀ {l : List Pr} {p y : Pr}, Ris l → (y ∈ insP l p ↔ y = p ∨ (y ∈ l ∧ y.k ≠ p.k))
  | [], p, y, _ => by rw [insP]; simp
  | x :: r, p, y, h => by
    have h' := List.pairwise_cons.1 h
    rw [insP]
    split
    · rename_i h1
      have := insP_mem (l := r) (p := p) (y := y) h'.2
      rw [List.mem_cons, this, List.mem_cons]
      have hx := cmp_ne h1
      constructor
      · rintro (rfl | rfl | ⟨a, b⟩)
        · exact .inr ⟨.inl rfl, hx⟩
        · exact .inl rfl
        · exact .inr ⟨.inr a, b⟩
      · rintro (rfl | ⟨rfl | a, b⟩)
        · exact .inr (.inl rfl)
        · exact .inl rfl
        · exact .inr (.inr ⟨a, b⟩)
    · rename_i h1
      split
      · rename_i h2
        have e := cmp_zero.1 h2
        rw [List.mem_cons, List.mem_cons]
        constructor
        · rintro (rfl | a)
          · exact .inl rfl
          · have := cmp_ne (h'.1 y a)
            rw [e] at this
            exact .inr ⟨.inr a, fun e2 => this e2.symm⟩
        · rintro (rfl | ⟨rfl | a, b⟩)
          · exact .inl rfl
          · exact absurd e b
          · exact .inr a
      · rename_i h2
        have h3 : cmpB p.k x.k < 0 := by have := cmpB_symm p.k x.k; omega
        rw [List.mem_cons, List.mem_cons]
        constructor
        · rintro (rfl | rfl | a)
          · exact .inl rfl
          · exact .inr ⟨.inl rfl, fun e => cmp_ne h3 e.symm⟩
          · exact .inr ⟨.inr a, fun e => cmp_ne (cmp_trans h3 (h'.1 y a)) e.symm⟩
        · rintro (rfl | ⟨rfl | a, b⟩)
          · exact .inl rfl
          · exact .inr (.inl rfl)
          · exact .inr (.inr a)
theorem ins_ris : ∀ {l : List Pr} (p : Pr), Ris l → Ris (insP l p)
  | [], p, _ => List.pairwise_singleton _ _
  | x :: r, p, h => by
    have h' := List.pairwise_cons.1 h
    rw [insP]
    split
    · rename_i h1
      refine List.pairwise_cons.2 ⟨fun y hy => ?_, ins_ris p h'.2⟩
      rcases (insP_mem h'.2).1 hy with rfl | ⟨a, _⟩
      · exact h1
      · exact h'.1 y a
    · rename_i h1
      split
      · rename_i h2
        have e := cmp_zero.1 h2
        exact List.pairwise_cons.2 ⟨fun y hy => by rw [← e]; exact h'.1 y hy, h'.2⟩
      · rename_i h2
        have h3 : cmpB p.k x.k < 0 := by have := cmpB_symm p.k x.k; omega
        refine List.pairwise_cons.2 ⟨fun y hy => ?_, h⟩
        rcases List.mem_cons.1 hy with rfl | hy
        · exact h3
        · exact cmp_trans h3 (h'.1 y hy)
theorem ris_ext : ∀ {a b : List Pr}, Ris a → Ris b → (∀ y, y ∈ a ↔ y ∈ b) → a = b
  | [], [], _, _, _ => rfl
  | [], y :: b, _, _, h => by have := (h y).2 (by simp); cases this
  | x :: a, [], _, _, h => by have := (h x).1 (by simp); cases this
  | x :: a, y :: b, ha, hb, h => by
    have ha' := List.pairwise_cons.1 ha
    have hb' := List.pairwise_cons.1 hb
    have hxy : x = y := by
      rcases List.mem_cons.1 ((h x).1 (by simp)) with e | hx
      · exact e
      · rcases List.mem_cons.1 ((h y).2 (by simp)) with e | hy
        · exact e.symm
        · exact absurd (ha'.1 y hy) (cmp_anti (hb'.1 x hx))
    subst hxy
    congr 1
    refine ris_ext ha'.2 hb'.2 fun z => ?_
    constructor
    · intro hz
      rcases List.mem_cons.1 ((h z).1 (by simp [hz])) with rfl | h2
      · exact absurd rfl (cmp_ne (ha'.1 z hz))
      · exact h2
    · intro hz
      rcases List.mem_cons.1 ((h z).2 (by simp [hz])) with rfl | h2
      · exact absurd rfl (cmp_ne (hb'.1 z hz))
      · exact h2
def RisI (l : List It) : Prop := l.Pairwise fun a b => cmpB a.path b.path < 0
theorem kids_ris {ks : List Nd} {kn : Bool} {at_ : List UInt8} : ∀ (i : Nat), i + ks.length ≤ 16 → (∀ k ∈ ks, ∀ way, RisI (itemsP k way kn)) → RisI (itemsK ks true kn i at_) := by
  induction ks with
  | nil => intro i _ _; rw [itemsK]; exact List.Pairwise.nil
  | cons t ks ih =>
    intro i hi h
    rw [List.length_cons] at hi
    rw [itemsK]
    refine List.pairwise_append.2 ⟨h t (by simp) _, ih (i + 1) (by omega) (fun k hk => h k (by simp [hk])), fun x hx y hy => ?_⟩
    obtain ⟨j, k, h1, h2⟩ := itemsK_mem hy
    have hj := (List.getElem?_eq_some_iff.1 h1).1
    exact cmp_diff (kid_pre hx) (kid_pre h2) (by rw [ofNat_half (by omega), ofNat_half (by omega)]; omega)
theorem items_ris {even : Bool} {t : Nd} {d : Nat} (hv : Val even t d) : ∀ (way : List UInt8) (kn : Bool), RisI (itemsP t way kn) := by
  induction hv with
  | none => intro way kn; rw [items_none]; exact List.Pairwise.nil
  | leaf => intro way kn; rw [items_leaf]; exact List.pairwise_singleton _ _
  | stub => intro way kn; rw [items_stub]; exact List.pairwise_singleton _ _
  | way d p k hd hp h0 hk hr ih => intro way kn; rw [items_way]; exact ih _ _
  | branch d has v ks hd hv hv0 he h16 hr hm ih =>
    intro way kn
    rw [items_br]
    refine List.pairwise_append.2 ⟨?_, kids_ris 0 (by omega) (fun k hk way => ih k hk way false), fun x hx y hy => ?_⟩
    · unfold ownI
      cases has with
      | true => exact List.pairwise_singleton _ _
      | false => exact List.Pairwise.nil
    · have hxp : x.path = way := by
        unfold ownI at hx
        cases has with
        | true => simp only [if_pos, List.mem_singleton] at hx; subst hx; rfl
        | false => cases hx
      rw [hxp]
      obtain ⟨j, k, _, h2⟩ := kid_mem hy
      exact cmp_pre ((List.prefix_append _ _).trans (kid_pre h2)) (pre_at (kid_pre h2)).1
theorem items_even {t : Nd} {d : Nat} (hv : Val true t d) : ∀ (way : List UInt8) (kn : Bool), ∀ x ∈ itemsP t way kn, ∃ r, x.path = way ++ r ∧ halvesB r = true ∧ (x.stub = false → (d + r.length) % 2 = 0 ∧ x.known = false ∧ x.hash = []) := by
  have ends : ∀ {d : Nat}, endsP d true = true → d % 2 = 0 := fun h => by
    unfold endsP at h
    simp at h
    omega
  induction hv with
  | none => intro way kn x hx; rw [items_none] at hx; cases hx
  | leaf d p v hd hp hv he =>
    intro way kn x hx
    rw [items_leaf, List.mem_singleton] at hx
    subst hx
    exact ⟨p, rfl, hp, fun _ => ⟨ends he, rfl, rfl⟩⟩
  | stub d h hd hh =>
    intro way kn x hx
    rw [items_stub, List.mem_singleton] at hx
    subst hx
    exact ⟨[], by simp, rfl, fun h => by cases h⟩
  | way d p k hd hp h0 hk hr ih =>
    intro way kn x hx
    rw [items_way] at hx
    obtain ⟨r, h1, h2, h3⟩ := ih _ _ x hx
    exact ⟨p ++ r, by rw [h1, List.append_assoc], by rw [halvesB_app, hp, h2]; rfl, fun h => by
      rw [List.length_append, ← Nat.add_assoc]; exact h3 h⟩
  | branch d has v ks hd hv hv0 he h16 hr hm ih =>
    intro way kn x hx
    rw [items_br] at hx
    rcases List.mem_append.1 hx with hx | hx
    · unfold ownI at hx
      cases has with
      | true => simp only [if_pos, List.mem_singleton] at hx; subst hx; exact ⟨[], by simp, rfl, fun _ => ⟨ends (he rfl), rfl, rfl⟩⟩
      | false => cases hx
    · obtain ⟨j, k, h1, h2⟩ := kid_mem hx
      have hj : j < 16 := by have := (List.getElem?_eq_some_iff.1 h1).1; omega
      obtain ⟨r, k1, k2, k3⟩ := ih k (List.mem_of_getElem? h1) _ _ x h2
      refine ⟨UInt8.ofNat j :: r, by rw [k1, List.append_assoc]; rfl, ?_, fun h => ?_⟩
      · have := ofNat_half hj
        unfold halvesB at k2 ⊢
        simp only [List.all_cons, Bool.and_eq_true, decide_eq_true_eq]
        have h15 : (UInt8.ofNat j).toNat ≤ 15 := by omega
        exact ⟨h15, k2⟩
      · rw [List.length_cons, show d + (r.length + 1) = d + 1 + r.length by omega]; exact k3 h
theorem sf_items {even : Bool} {t : Nd} {d : Nat} (hv : Val even t d) : ∀ (way : List UInt8) (kn : Bool), sfB t = true ↔ ∀ x ∈ itemsP t way kn, x.stub = false := by
  induction hv with
  | none => intro way kn; rw [items_none]; simp [sf_none]
  | leaf d p v => intro way kn; rw [items_leaf]; simp [show sfB (.mk 1 p false v [] []) = true from sf_leaf p v]
  | stub d h => intro way kn; rw [items_stub, sfB_mk]; simp
  | way d p k hd hp h0 hk hr ih =>
    intro way kn
    rw [items_way, ← ih (way ++ p) true, sfB_mk, sfsB, sfsB]; simp
  | branch d has v ks hd hv hv0 he h16 hr hm ih =>
    intro way kn
    rw [items_br, sfB_mk, Bool.and_eq_true, sfsB_all]
    constructor
    · rintro ⟨_, h⟩ x hx
      rcases List.mem_append.1 hx with hx | hx
      · unfold ownI at hx
        cases has with
        | true => simp only [if_pos, List.mem_singleton] at hx; subst hx; rfl
        | false => cases hx
      · obtain ⟨j, k, h1, h2⟩ := kid_mem hx
        exact (ih k (List.mem_of_getElem? h1) _ _).1 (h k (List.mem_of_getElem? h1)) x h2
    · intro h
      refine ⟨by decide, fun k hk => ?_⟩
      obtain ⟨j, hj⟩ := List.getElem?_of_mem hk
      exact (ih k hk (way ++ [UInt8.ofNat j]) false).2 fun x hx => h x (List.mem_append_right _ (kid_of hj hx))
theorem ofB_inj {a b : List UInt8} (h : ofB a = ofB b) : a = b := by rw [← joinB_ofB a, h, joinB_ofB]
theorem itOf_inj {a b : Pr} (h : itOf a = itOf b) : a = b := by
  unfold itOf at h
  injection h with h1 h2
  obtain ⟨k, v⟩ := a
  obtain ⟨k', v'⟩ := b
  dsimp only at h1 h2
  rw [ofB_inj h1, h2]
/-- A trie without stubs that may be. -/
def Full (t : Nd) : Prop := Val true t 0 ∧ sfB t = true
def prsT (t : Nd) : List Pr := (pairsP t []).1
theorem rPairs_map : ∀ {l : List It}, (∀ x ∈ l, x.stub = false) → rPairsF l = (l.map fun x => ⟨bytesL x.path, x.val⟩, none)
  | [], _ => rfl
  | x :: l, h => by
    have := rPairs_map (l := l) (fun y hy => h y (by simp [hy]))
    rw [rPairsF, h x (by simp), this]; rfl
theorem full_pairs {t : Nd} (h : Full t) : (pairsP t []).2 = none ∧ prsT t = (itemsP t [] true).map fun x => ⟨bytesL x.path, x.val⟩ := by
  obtain ⟨h1, h2⟩ := pairs_items t [] true
  rw [rPairs_map ((sf_items h.1 [] true).1 h.2)] at h1 h2
  exact ⟨h1, h2 h1⟩
theorem prs_items {t : Nd} (h : Full t) : itemsP t [] true = (prsT t).map itOf := by
  rw [(full_pairs h).2, List.map_map]
  have : ∀ x ∈ itemsP t [] true, (itOf ∘ fun x : It => (⟨bytesL x.path, x.val⟩ : Pr)) x = x := fun x hx => by
    have hs := (sf_items h.1 [] true).1 h.2 x hx
    obtain ⟨r, h1, h2, h3⟩ := items_even h.1 [] true x hx
    obtain ⟨h4, h5, h6⟩ := h3 hs
    rw [List.nil_append] at h1
    obtain ⟨p, v, s, k, hh⟩ := x
    dsimp only at h1 hs h5 h6
    subst h1; subst hs; subst h5; subst h6
    show itOf ⟨bytesL p, v⟩ = _
    unfold itOf
    dsimp only
    rw [(bytesE_ok h2 (by omega)).2, ofB_joinB p h2 (by omega)]
  conv => lhs; rw [← List.map_id (itemsP t [] true)]
  exact List.map_congr_left fun x hx => (this x hx).symm
theorem prs_mem {t : Nd} (h : Full t) {p : Pr} : p ∈ prsT t ↔ itOf p ∈ itemsP t [] true := by
  rw [prs_items h, List.mem_map]
  constructor
  · intro hp; exact ⟨p, hp, rfl⟩
  · rintro ⟨q, hq, e⟩
    rw [← itOf_inj e]; exact hq
theorem prs_ris {t : Nd} (h : Full t) : Ris (prsT t) := by
  have := items_ris h.1 [] true
  rw [prs_items h] at this
  unfold RisI at this
  rw [List.pairwise_map] at this
  refine this.imp fun {a b} hab => ?_
  have e : cmpB (ofB a.k) (ofB b.k) < 0 := hab
  rw [cmpB_ofB] at e
  exact e
theorem build_prs {t : Nd} (h : Full t) {N : Nat} (hN : 401 ≤ N) : buildA N ((prsT t).map itOf) 0 = (t, none) := by
  rw [← prs_items h]
  have := build_like h.1 [] true _ N (Like.refl _) (fun x hx => by
    have := items_le h.1 [] true x hx
    rw [List.length_nil] at this ⊢; omega)
  rw [List.length_nil] at this
  exact this
theorem full_none : Full noneN := ⟨.none 0 (by decide), sf_none⟩
theorem prs_none : prsT noneN = [] := by rw [(full_pairs full_none).2, items_none]; rfl
theorem keep_itOf (k : List UInt8) (p : Pr) : keepI (ofB k) (itOf p) = decide (p.k ≠ k) := by
  unfold keepI itOf
  dsimp only
  rw [Bool.false_or]
  by_cases h : p.k = k
  · rw [h]; simp
  · have : ofB p.k ≠ ofB k := fun e => h (ofB_inj e)
    simp [h, this]
theorem put_prs {t : Nd} (h : Full t) {k v : List UInt8} (hk : k.length ≤ 200) (hl : v.length ≤ 4000) : (putP t (ofB k) v).2 = none ∧ Full (putP t (ofB k) v).1 ∧ prsT (putP t (ofB k) v).1 = insP (prsT t) ⟨k, v⟩ := by
  obtain ⟨hm, hs⟩ := sf_put h.1 h.2 (ofB k) v (halvesB_ofB k)
  obtain ⟨hv, hlike⟩ := put_sum h.1 hk hl hm
  have hf : Full (putP t (ofB k) v).1 := ⟨hv, hs⟩
  refine ⟨hm, hf, ris_ext (prs_ris hf) (ins_ris _ (prs_ris h)) fun y => ?_⟩
  rw [prs_mem hf, insP_mem (prs_ris h)]
  have up_it : ∀ {x z : It}, Up x z → ∀ {p : Pr}, (x = itOf p → z.known = false → z = itOf p) := fun hu p e hk => by
    subst e
    rename_i x z
    obtain ⟨a, b, c, d, e⟩ := z
    obtain ⟨u1, u2, u3, u4, _⟩ := hu
    dsimp only at u1 u2 u3 u4 hk
    subst hk; subst u1; subst u2; subst u3; subst u4; rfl
  constructor
  · intro hy
    obtain ⟨z, hz, hu⟩ := hlike.mem_l _ hy
    rcases List.mem_cons.1 hz with rfl | hz
    · left
      have h1 : ofB k = ofB y.k := hu.1
      have h2 : v = y.v := hu.2.1
      obtain ⟨yk, yv⟩ := y
      dsimp only at h1 h2
      rw [ofB_inj h1, h2]
    · right
      obtain ⟨hz1, hz2⟩ := List.mem_filter.1 hz
      rw [prs_items h] at hz1
      obtain ⟨q, hq, rfl⟩ := List.mem_map.1 hz1
      have h1 : ofB q.k = ofB y.k := hu.1
      have h2 : q.v = y.v := hu.2.1
      have e : q = y := by
        obtain ⟨yk, yv⟩ := y
        obtain ⟨qk, qv⟩ := q
        dsimp only at h1 h2
        rw [ofB_inj h1, h2]
      subst e
      rw [keep_itOf] at hz2
      exact ⟨hq, of_decide_eq_true hz2⟩
  · intro hy
    have : itOf y ∈ newI (ofB k) v :: (itemsP t [] true).filter (keepI (ofB k)) := by
      rcases hy with rfl | ⟨h1, h2⟩
      · exact List.mem_cons_self ..
      · exact List.mem_cons_of_mem _ (List.mem_filter.2 ⟨(prs_mem h).1 h1, by rw [keep_itOf]; exact decide_eq_true h2⟩)
    obtain ⟨x, hx, hu⟩ := hlike.mem_r _ this
    have hxs := (sf_items hf.1 [] true).1 hf.2 x hx
    rw [prs_items hf] at hx ⊢
    obtain ⟨q, hq, rfl⟩ := List.mem_map.1 hx
    have h1 : ofB y.k = ofB q.k := hu.1
    have h2 : y.v = q.v := hu.2.1
    have e : q = y := by
      obtain ⟨yk, yv⟩ := y
      obtain ⟨qk, qv⟩ := q
      dsimp only at h1 h2
      rw [ofB_inj h1, h2]
    subst e
    exact List.mem_map_of_mem hq
theorem get_prs {t : Nd} (h : Full t) (k : List UInt8) : (getP t (ofB k)).miss = none ∧ ((getP t (ofB k)).has = true → ⟨k, (getP t (ofB k)).v⟩ ∈ prsT t) ∧ ((getP t (ofB k)).has = false → ∀ p ∈ prsT t, p.k ≠ k) := by
  obtain ⟨h1, h2⟩ := get_items0 h.1 (ofB k) (halvesB_ofB k)
  have hs := (sf_items h.1 [] true).1 h.2
  have hm : (getP t (ofB k)).miss = none := by
    rw [← h1]
    exact stubL_none fun x hx e => by rw [hs x hx] at e; cases e
  have h3 := h2 hm
  refine ⟨hm, fun hh => ?_, fun hh p hp e => ?_⟩
  · rw [hh, if_pos rfl] at h3
    have := List.mem_of_find?_eq_some h3
    rw [prs_mem h]; exact this
  · rw [hh, if_neg (by decide), List.find?_eq_none] at h3
    have := h3 _ ((prs_mem h).1 hp)
    refine this (decide_eq_true ?_)
    show ofB p.k = _
    rw [e]
theorem of_prs : ∀ (l : List Pr) (t : Nd), longPr l = false → Full t → (tOfF l t).2 = 0 ∧ Full (tOfF l t).1 ∧ prsT (tOfF l t).1 = l.foldl insP (prsT t)
  | [], t, _, h => ⟨rfl, h, rfl⟩
  | p :: l, t, hl, h => by
    unfold longPr at hl
    rw [List.any_cons, Bool.or_eq_false_iff, decide_eq_false_iff_not] at hl
    obtain ⟨h1, h2, h3⟩ := put_prs h (k := p.k) (v := p.v) (by omega) (by omega)
    rw [tOfF, if_neg (by omega), List.foldl_cons]
    have := of_prs l _ hl.2 h2
    rw [h3] at this
    exact this
theorem of_long : ∀ (l : List Pr) (t : Nd), longPr l = true → tOfF l t = (noneN, 2)
  | p :: l, t, hl => by
    unfold longPr at hl
    rw [List.any_cons, Bool.or_eq_true, decide_eq_true_eq] at hl
    rw [tOfF]
    split
    · rfl
    · rename_i h
      exact of_long l _ (hl.resolve_left (by omega))
theorem tOf_prs {l : List Pr} (hl : longPr l = false) : (tOf l).2 = 0 ∧ Full (tOf l).1 ∧ prsT (tOf l).1 = risingP l := by
  have := of_prs l noneN hl full_none
  rw [prs_none] at this
  exact this
theorem tOf_eq {N : Nat} (hN : 401 ≤ N) (l : List Pr) : tOf l = rOf N l := by
  unfold rOf
  cases hl : longPr l with
  | true => rw [if_pos rfl]; exact of_long l _ hl
  | false =>
    obtain ⟨h1, h2, h3⟩ := tOf_prs hl
    rw [if_neg (by decide), ← h3, build_prs h2 hN, ← h1]
end Go.Proofs.YtojjfkbffjkojaaDoor
namespace Go.Proofs.YtojjfkbffjkojaaDoor
theorem longN_cons (p : Pr) (l : List Pr) : longN (p :: l) = 10 + p.k.length + p.v.length + longN l := by unfold longN; rw [List.map_cons, List.sum_cons]
theorem prBulk_cons (p : Pr) (l : List Pr) : prBulk (p :: l) = 140 + 2 * p.k.length + p.v.length + prBulk l := by unfold prBulk; rw [List.map_cons, List.sum_cons]
theorem longN_mem : ∀ {l : List Pr} {p : Pr}, p ∈ l → 10 + p.k.length + p.v.length ≤ longN l
  | q :: l, p, h => by
    rw [longN_cons]
    rcases List.mem_cons.1 h with rfl | h
    · omega
    · have := longN_mem h; omega
theorem longN_big {l : List Pr} (h : longN l ≤ 10000000) : prBig l := by
  have := longN_len l
  exact ⟨by omega, fun p hp => by have := longN_mem hp; omega⟩
theorem tOfF_sz : ∀ (l : List Pr) (t : Nd), Full t → sz (tOfF l t).1 ≤ sz t + prBulk l
  | [], t, _ => Nat.le_add_right _ _
  | p :: l, t, h => by
    rw [tOfF, prBulk_cons]
    split
    · have e : sz noneN = 6 := rfl
      have := sz_eq t
      show sz noneN ≤ _
      omega
    · obtain ⟨_, h2, _⟩ := put_prs h (k := p.k) (v := p.v) (by omega) (by omega)
      have h3 := tOfF_sz l _ h2
      have h4 := sz_put h.1 (ofB p.k) p.v (halvesB_ofB _)
      rw [ofB_length] at h4
      omega
theorem tOf_sz (l : List Pr) : sz (tOf l).1 ≤ 6 + prBulk l := tOfF_sz l noneN full_none
theorem full_tri {t : Nd} (h : Full t) {nk nv : Nat} (h1 : nk ≤ 200) (h2 : nv ≤ 4000) : tri t nk nv = true := tri_of h.1 h1 h2
theorem tGet_full {t : Nd} (h : Full t) {k : List UInt8} (h1 : k.length ≤ 200) : ∃ v has, tGet t k = ⟨v, has, none, 0⟩ ∧ (has = true → ⟨k, v⟩ ∈ prsT t) ∧ (has = false → v = [] ∧ ∀ p ∈ prsT t, p.k ≠ k) := by
  obtain ⟨g1, g2, g3⟩ := get_prs h k
  rcases tGet_cases t k with ⟨a, b⟩ | ⟨a, ⟨r, b, c⟩ | ⟨b, c, d⟩ | ⟨b, c, d⟩⟩
  · rw [full_tri h h1 (by decide)] at a; cases a
  · rw [g1] at b; cases b
  · exact ⟨_, _, d, fun _ => g2 c, fun h => by cases h⟩
  · exact ⟨_, _, d, fun h => (by cases h), fun _ => ⟨rfl, g3 c⟩⟩
end Go.Proofs.YtojjfkbffjkojaaDoor
namespace Go.Proofs.YtojjfkbffjkojaaDoor
open Go.RowKit

theorem of_ok {l : List Pr} {T : Nd × Int} (hT : T = tOf l) (h0 : T.2 = 0) : longPr l = false ∧ Full T.1 ∧ prsT T.1 = risingP l := by
  cases hl : longPr l with
  | true =>
    have : T = (noneN, 2) := hT.trans (of_long l _ hl)
    rw [this] at h0
    exact absurd h0 (by decide)
  | false =>
    obtain ⟨_, h2, h3⟩ := tOf_prs hl
    rw [hT]
    exact ⟨rfl, h2, h3⟩
end Go.Proofs.YtojjfkbffjkojaaDoor
namespace Go.Proofs.YtojjfkbffjkojaaDoor
open Go.RowKit
/-- A row as a block. -/
theorem St.rowBlk {w W : World} {gs : List (Option Nat)} {L : Lc} {R : List Row} {fs : List Fact} {e : TypeId} {s n c : Nat} {A : Option Addr} {xs : List Value} (M : St w gs W L (⟨e, s, A, n, c, xs⟩ :: R) fs) (hn : 0 < n) : ∃ g rest, A = some ⟨g, 0, none⟩ ∧ n ≤ c ∧ St w gs W ((g, e, xs ++ rest) :: L) R fs := by
  have hrow := M.row _ (List.mem_cons_self ..)
  rcases hrow.2 with ⟨hv, h0⟩ | ⟨g, cap, cur, hv, hb, hh, h1, h2, h3, h4⟩
  · simp only at h0; omega
  · injection hv with e1 e2 e3
    simp only at e1 e3 h4
    subst e1
    have hx : xs ++ cur.toList.drop (n * s) = cur.toList := by rw [← h4, List.take_append_drop]
    refine ⟨g, cur.toList.drop (n * s), rfl, by dsimp only at h1; omega, ⟨M.below, M.lt, fun y hy => ?_, fun r hr => M.row r (by simp [hr]), ?_, fun f hf => ?_⟩⟩
    · rcases List.mem_cons.1 hy with rfl | hy
      · exact ⟨by show Blk W g e (xs ++ cur.toList.drop (n * s)); rw [hx]; exact hh, hb⟩
      · exact M.blk y hy
    · have hp := List.Perm.pairwise (l' := bk (some ⟨g, 0, none⟩) :: (L.map (fun x => some x.1) ++ R.map (fun r => bk r.A))) (by rw [List.map_cons]; exact List.perm_middle) M.ap (fun h => apart_comm h)
      exact hp
    · refine (M.fct f hf).up ⟨Nat.le_refl _, fun _ _ _ => rfl, fun b _ e => ?_⟩
      unfold own at *
      simp only [List.map_cons, List.cons_append, List.mem_append, List.mem_cons] at e ⊢
      rcases e with e | e | e | e
      · exact .inr (.inl (by rw [e]; rfl))
      · exact .inl e
      · exact .inr (.inr (.inl e))
      · exact .inr (.inr (.inr e))
end Go.Proofs.YtojjfkbffjkojaaDoor
namespace Go.Proofs.YtojjfkbffjkojaaDoor
open Go.RowKit
theorem is_eqfn : isFn Tryd.prog 78 = true := by kernel_rfl
/-- Pair by pair. -/
def All2 (P : Nd → Nd → Prop) (a b : List Nd) : Prop := a.length = b.length ∧ ∀ (i : Nat) (x y : Nd), a[i]? = some x → b[i]? = some y → P x y
set_option maxRecDepth 100000 in
set_option maxHeartbeats 1000000 in
theorem eqfn_any (F : Nat) (hF : isFn Tryd.prog F = true) (P : Nd → Nd → Prop) (Q : World → List (Option Nat) → Prop) (ks ls : List Nd) (gs : List (Option Nat)) (w : World) (A B : Option Addr) (n c m d : Nat)
    (hQ : ∀ W L R fs, St w gs W L R fs → Q W (own L R gs))
    (ih : ∀ (i : Nat) (a b : Nd), ks[i]? = some a → ls[i]? = some b → ∀ (gs : List (Option Nat)) (w : World) (ca cb : List Value), Q w gs → RdL w (Fd w gs) (dN a) ca → RdL w (Fd w gs) (dN b) cb → (∀ b, some b ∈ gs → b < w.heap.size) → Calls Tryd.prog F #[.agg ca.toArray, .agg cb.toArray] w fun e w' => ∃ q : Bool, e = .returned (.bool q) ∧ (q = true ↔ P a b) ∧ Below w.heap.size w w')
    (ha : RdD w (Fd w gs) (dKs ks) (.slice A n c)) (hb : RdD w (Fd w gs) (dKs ls) (.slice B m d)) (hgs : ∀ b, some b ∈ gs → b < w.heap.size) (hz : n ≤ 1000000000 ∧ m ≤ 1000000000) :
    Calls Tryd.prog 78 #[.slice A n c, .slice B m d, .func (.func F) #[] #[]] w fun e w' => ∃ q : Bool, e = .returned (.bool q) ∧ (q = true ↔ All2 P ks ls) ∧ Below w.heap.size w w' := by
  refine calls_ev (args := [.slice A n c, .slice B m d, .func (.func F) #[] #[]]) mixed Tryd.func78 rfl (by kernel_rfl) ?_
  have en := ha.slen
  have em := hb.slen
  subst en; subst em
  have M := ((St.start hgs).addD hb).addD ha
  clear ha hb
  refine p_len sln rfl ?_
  refine p_len sln rfl ?_
  refine p_ne rfl rfl (fun hl => ?_) (fun hl => ?_)
  rotate_left
  · exact ⟨false, rfl, ⟨(fun h => by cases h), fun h => absurd (by rw [h.1]) hl⟩, M.below⟩
  have hl' : ks.length = ls.length := by omega
  refine p_len sln rfl ?_
  refine lp Nat (fun i W => i ≤ ks.length ∧ (∀ (j : Nat) (x y : Nd), j < i → ks[j]? = some x → ls[j]? = some y → P x y) ∧ St w gs W [] [] [.dat false [dKs ks] [.slice A ks.length c], .dat false [dKs ls] [.slice B ls.length d]])
    (fun i => [(1, .slice B ls.length d), (2, .func (.func F) #[] #[]), (15, .slice A ks.length c), (16, .int .i64 ks.length), (17, .int .i64 i)]) (fun i => ks.length - i) 0 ⟨Nat.zero_le _, (fun j x y h => absurd h (by omega)), M⟩ (by repeat (first | exact trivial | refine ⟨rfl, ?_⟩)) ?_
  clear M
  rintro i E W ⟨hi, hP, M⟩
  refine p_lt rfl rfl (fun hlt => ?_) (fun hge => ?_)
  · have hlt' : i < ks.length := by omega
    obtain ⟨x, hx⟩ : ∃ x, ks[i]? = some x := ⟨_, List.getElem?_eq_getElem hlt'⟩
    obtain ⟨y, hy⟩ : ∃ y, ls[i]? = some y := ⟨_, List.getElem?_eq_getElem (by omega)⟩
    obtain ⟨b1, o1, xs, rfl, hxl, M'⟩ := M.kid (M.d1 0 rfl) hx
    replace M := M'; clear M'
    obtain ⟨b2, o2, ys, rfl, hyl, M'⟩ := M.kid (M.d1 3 rfl) hy
    replace M := M'; clear M'
    obtain ⟨Ap5, cp5, Av5, cv5, Ak5, ck5, Ah5, ch5, rfl, -⟩ := (M.da 3 rfl).node
    obtain ⟨Ap6, cp6, Av6, cv6, Ak6, ck6, Ah6, ch6, rfl, -⟩ := (M.da 1 rfl).node
    refine p_at sln rfl rfl rfl (by omega) ?_
    refine v_loadN (ncs x Ap5 cp5 Av5 cv5 Ak5 ck5 Ah5 ch5) agg_nd rfl hxl (M.lc 2 rfl) ?_
    refine s_alloc (zN) M al_nd ?_
    clear M
    rintro g8 W M
    first | refine s_storeA 0 (ncs x Ap5 cp5 Av5 cv5 Ak5 ck5 Ah5 ch5) M rfl (by kernel_rfl) rfl rfl rfl (all1 rfl) rfl ?_ | refine s_storeA 1 (ncs x Ap5 cp5 Av5 cv5 Ak5 ck5 Ah5 ch5) M rfl (by kernel_rfl) rfl rfl rfl (all1 rfl) rfl ?_ | refine s_storeA 2 (ncs x Ap5 cp5 Av5 cv5 Ak5 ck5 Ah5 ch5) M rfl (by kernel_rfl) rfl rfl rfl (all1 rfl) rfl ?_ | refine s_storeA 3 (ncs x Ap5 cp5 Av5 cv5 Ak5 ck5 Ah5 ch5) M rfl (by kernel_rfl) rfl rfl rfl (all1 rfl) rfl ?_
    clear M
    rintro W M
    dsimp only [setL] at M
    refine p_at sln rfl rfl rfl (by omega) ?_
    refine v_loadN (ncs y Ap6 cp6 Av6 cv6 Ak6 ck6 Ah6 ch6) agg_nd rfl hyl (M.lc 0 rfl) ?_
    refine s_alloc (zN) M al_nd ?_
    clear M
    rintro g9 W M
    first | refine s_storeA 0 (ncs y Ap6 cp6 Av6 cv6 Ak6 ck6 Ah6 ch6) M rfl (by kernel_rfl) rfl rfl rfl (all1 rfl) rfl ?_ | refine s_storeA 1 (ncs y Ap6 cp6 Av6 cv6 Ak6 ck6 Ah6 ch6) M rfl (by kernel_rfl) rfl rfl rfl (all1 rfl) rfl ?_ | refine s_storeA 2 (ncs y Ap6 cp6 Av6 cv6 Ak6 ck6 Ah6 ch6) M rfl (by kernel_rfl) rfl rfl rfl (all1 rfl) rfl ?_ | refine s_storeA 3 (ncs y Ap6 cp6 Av6 cv6 Ak6 ck6 Ah6 ch6) M rfl (by kernel_rfl) rfl rfl rfl (all1 rfl) rfl ?_
    clear M
    rintro W M
    dsimp only [setL] at M
    refine v_loadN (ncs x Ap5 cp5 Av5 cv5 Ak5 ck5 Ah5 ch5) agg_nd rfl hxl (M.run 1 rfl) ?_
    refine v_loadN (ncs y Ap6 cp6 Av6 cv6 Ak6 ck6 Ah6 ch6) agg_nd rfl hyl (M.run 0 rfl) ?_
    refine cc hF (ih i x y hx hy _ _ _ _ (hQ _ _ _ _ M) (M.da 3 rfl) (M.da 1 rfl) M.olt) ?_
    rintro e W ⟨q, rfl, hq, hb⟩
    replace M := M.call hb
    refine ⟨_, rfl, ?_⟩
    refine p_not rfl ?_
    cases q with
    | false =>
      exact ⟨false, rfl, ⟨(fun h => by cases h), fun h => absurd (hq.2 (h.2 i x y hx hy)) (by decide)⟩, M.below⟩
    | true =>
      refine p_addN (b := 1) rfl rfl (by omega) ?_
      refine ⟨i + 1, ⟨by omega, fun j a b hj ha hb => ?_, (M.dropL.dropL).fsub _ (by simp)⟩, (by repeat (first | exact trivial | refine ⟨rfl, ?_⟩)), by omega⟩
      by_cases e : j = i
      · subst e
        rw [hx] at ha; rw [hy] at hb
        injection ha with ha; injection hb with hb
        subst ha; subst hb
        exact hq.1 rfl
      · exact hP j a b (by omega) ha hb
  · exact ⟨true, rfl, ⟨fun _ => ⟨hl', fun j x y hx hy => hP j x y (by have := (List.getElem?_eq_some_iff.1 hx).1; omega) hx hy⟩, fun _ => rfl⟩, M.below⟩
end Go.Proofs.YtojjfkbffjkojaaDoor
namespace Go.Proofs.YtojjfkbffjkojaaDoor
open Go.RowKit
/-- A copy, its kids a row. -/
theorem St.callC {w W W' : World} {gs : List (Option Nat)} {L : Lc} {R : List Row} {fs : List Fact} (M : St w gs W L R fs) (hb : Below W.heap.size W W') {t : Nd} {Ap Av Ak Ah : Option Addr} {cp cv ck ch : Nat} {xs : List Value}
    (hrow : W'.ownsRow W.heap.size 26 6 (.slice Ak t.kids.length ck) t.kids.length xs) (hxs : RdL W' (Fz W.heap.size W' [bk Ak]) (dNs t.kids) xs)
    (h1 : RdD W' (Fz W.heap.size W' [bk Ak]) (dB t.path) (.slice Ap t.path.length cp)) (h2 : RdD W' (Fz W.heap.size W' [bk Ak]) (dB t.val) (.slice Av t.val.length cv)) (h3 : RdD W' (Fz W.heap.size W' [bk Ak]) (dB t.hash) (.slice Ah t.hash.length ch)) :
    St w gs W' L (⟨26, 6, Ak, t.kids.length, ck, xs⟩ :: R) (.dat true (dNs t.kids) xs :: .dat true [dB t.path] [.slice Ap t.path.length cp] :: .dat true [dB t.val] [.slice Av t.val.length cv] :: .dat true [dB t.hash] [.slice Ah t.hash.length ch] :: fs) := by
  have hol := M.olt
  have hms := M.size
  have M1 := M.callR (r := ⟨26, 6, Ak, t.kids.length, ck, xs⟩) hb hrow
  have hF : ∀ b, Fz W.heap.size W' [bk Ak] b → W'.heap[b]? = W'.heap[b]? ∧ Ft w W' (own L (⟨26, 6, Ak, t.kids.length, ck, xs⟩ :: R) gs) true b := fun b q => ⟨rfl, q.2.1, fun e => by
    unfold own at e hol
    rcases List.mem_append.1 e with e | e
    · have := hol b (List.mem_append_left _ e); have := q.1; omega
    rcases List.mem_append.1 e with e | e
    · rw [List.map_cons] at e
      rcases List.mem_cons.1 e with e | e
      · exact q.2.2.1 (by rw [e]; exact List.mem_cons_self ..)
      · have := hol b (List.mem_append_right _ (List.mem_append_left _ e)); have := q.1; omega
    · have := hol b (List.mem_append_right _ (List.mem_append_right _ e)); have := q.1; omega, fun _ => ⟨Nat.le_trans hms q.1, q.2.2.2⟩⟩
  exact (((M1.addT (fr := true) (RdL.one (h3.to hF))).addT (fr := true) (RdL.one (h2.to hF))).addT (fr := true) (RdL.one (h1.to hF))).addT (fr := true) (hxs.to hF)
def shutK (t : Nd) : Nd := .mk t.kind t.path t.has t.val (t.kids.map foldN) t.hash
theorem is_vshut : isFn Tryd.prog 81 = true := by kernel_rfl
set_option maxRecDepth 100000 in
set_option maxHeartbeats 4000000 in
theorem vshut_any (t : Nd) (ht : sz t ≤ 1000000) (gs : List (Option Nat)) (w : World) (cs : List Value) (hG : GL w gs) (hr : RdL w (Fd w gs) (dN t) cs) (hgs : ∀ b, some b ∈ gs → b < w.heap.size) :
    Calls Tryd.prog 81 #[.agg cs.toArray] w fun e w' => ∃ cs', e = .returned (.agg cs'.toArray) ∧ RdL w' (Fr w w') (dN (shutK t)) cs' ∧ Below w.heap.size w w' := by
  refine calls_ev (args := [.agg cs.toArray]) mixed Tryd.func81 rfl (by kernel_rfl) ?_
  have hl0 := hr.len
  rw [dN_len] at hl0
  have hsz := sz_eq t
  have hsl := szs_len t.kids
  have M := (St.start hgs).addL hr
  clear hr
  refine s_box (cs) M rfl ?_
  clear M
  rintro g1 W M
  refine s_alloc (zN) M al_nd ?_
  clear M
  rintro g2 W M
  refine v_loadN cs agg_nd rfl hl0 (M.run 1 rfl) ?_
  refine cc is_ncopy (ncopyR_any t (by omega) _ _ _ (M.da 0 rfl) M.olt) ?_
  rintro e W ⟨Ap, cp, Av, cv, Ak, ck, Ah, ch, xs, rfl, hrow, hxs, ⟨h1, h2, h3⟩, hb⟩
  replace M := M.callC hb hrow hxs h1 h2 h3
  clear hrow hxs h1 h2 h3 hb
  refine ⟨_, rfl, ?_⟩
  refine s_alloc (zN) M al_nd ?_
  clear M
  rintro g3 W M
  first | refine s_storeA 0 (ncs t Ap cp Av cv Ak ck Ah ch) M rfl (by kernel_rfl) rfl rfl rfl (all1 rfl) rfl ?_ | refine s_storeA 1 (ncs t Ap cp Av cv Ak ck Ah ch) M rfl (by kernel_rfl) rfl rfl rfl (all1 rfl) rfl ?_ | refine s_storeA 2 (ncs t Ap cp Av cv Ak ck Ah ch) M rfl (by kernel_rfl) rfl rfl rfl (all1 rfl) rfl ?_ | refine s_storeA 3 (ncs t Ap cp Av cv Ak ck Ah ch) M rfl (by kernel_rfl) rfl rfl rfl (all1 rfl) rfl ?_
  clear M
  rintro W M
  dsimp only [setL] at M
  refine p_fld fN4 rfl ?_
  refine v_load agg_ns rfl ((M.B 0 rfl).at_ rfl) ?_
  refine p_len sln rfl ?_
  by_cases hk0 : t.kids = []
  · refine lp Unit (fun _ W => St w gs W [(g3, 26, ncs t Ap cp Av cv Ak ck Ah ch), (g2, 26, zN), (g1, 26, cs)] [⟨26, 6, Ak, t.kids.length, ck, xs⟩] [.dat true [dB t.path] [.slice Ap t.path.length cp], .dat true [dB t.val] [.slice Av t.val.length cv], .dat true [dB t.hash] [.slice Ah t.hash.length ch], .dat true (dNs t.kids) xs])
      (fun _ => [(2, .pointer (some ⟨g2, 0, none⟩)), (3, .pointer (some ⟨g3, 0, none⟩)), (10, .int .i64 (t.kids.length : Nat)), (11, .int .i64 0)]) (fun _ => 0) () (M.fsub _ (by simp)) (by repeat (first | exact trivial | refine ⟨rfl, ?_⟩)) ?_
    clear M
    rintro - E W M
    have hkl : t.kids.length = 0 := by rw [hk0]; rfl
    refine p_lt rfl rfl (fun h => absurd (show (0 : Int) < (t.kids.length : Int) from h) (by omega)) (fun _ => ?_)
    refine v_loadN (ncs t Ap cp Av cv Ak ck Ah ch) agg_nd rfl rfl (M.run 0 rfl) ?_
    refine s_storeA 1 (ncs t Ap cp Av cv Ak ck Ah ch) M rfl sz_nd rfl rfl rfl (all1 rfl) rfl ?_
    clear M; rintro W M
    dsimp only [setL] at M
    refine c_loadN (ncs t Ap cp Av cv Ak ck Ah ch) agg_nd rfl rfl (M.run 1 rfl) ?_
    have hkd : RdD W (Fr w W) (dKs t.kids) (.slice Ak t.kids.length ck) := rdD_row (M.row _ (List.mem_cons_self ..)) (M.finF 3 rfl) (fun b q1 q2 q3 => ⟨q1, q2, row_thaw (M.row _ (List.mem_cons_self ..)) (by rw [← own_bk]; exact q3)⟩)
    refine ⟨_, rfl, ?_, M.below⟩
    have e : shutK t = .mk t.kind t.path t.has t.val t.kids t.hash := by unfold shutK; rw [hk0]; rfl
    rw [e]
    exact RdL.ofnode (t := .mk t.kind t.path t.has t.val t.kids t.hash) (M.finF1 0 rfl) (M.finF1 1 rfl) hkd (M.finF1 2 rfl)
  have hkn : 0 < t.kids.length := List.length_pos_iff.2 hk0
  obtain ⟨gk, rest, rfl, hgc, M'⟩ := M.rowBlk hkn
  replace M := M'; clear M'
  refine lp (Nat × List Value) (fun s W => s.1 ≤ t.kids.length ∧ St w gs W [(gk, 26, s.2 ++ rest), (g3, 26, ncs t Ap cp Av cv (some ⟨gk, 0, none⟩) ck Ah ch), (g2, 26, zN), (g1, 26, cs)] [] [.dat true (dNs ((t.kids.map foldN).take s.1 ++ t.kids.drop s.1)) s.2, .dat true [dB t.path] [.slice Ap t.path.length cp], .dat true [dB t.val] [.slice Av t.val.length cv], .dat true [dB t.hash] [.slice Ah t.hash.length ch]])
    (fun s => [(2, .pointer (some ⟨g2, 0, none⟩)), (3, .pointer (some ⟨g3, 0, none⟩)), (9, .slice (some ⟨gk, 0, none⟩) t.kids.length ck), (10, .int .i64 (t.kids.length : Nat)), (11, .int .i64 s.1)]) (fun s => t.kids.length - s.1) (0, xs) ⟨Nat.zero_le _, M.fsub _ (by simp)⟩ (by repeat (first | exact trivial | refine ⟨rfl, ?_⟩)) ?_
  clear M
  rintro ⟨i, ys⟩ E W ⟨hi, M⟩
  dsimp only at hi M
  have hyl := (M.da 0 rfl).len
  rw [dNs_len, List.length_append, List.length_take, List.length_map, List.length_drop] at hyl
  refine p_lt rfl rfl (fun hlt => ?_) (fun hge => ?_)
  · have hlt : i < t.kids.length := by have h : (i : Int) < (t.kids.length : Int) := hlt; omega
    obtain ⟨k, hk⟩ : ∃ k, t.kids[i]? = some k := ⟨_, List.getElem?_eq_getElem hlt⟩
    have hkz := szs_mem (List.mem_of_getElem? hk)
    have hkd : ((t.kids.map foldN).take i ++ t.kids.drop i)[i]? = some k := by
      rw [List.getElem?_append_right (by rw [List.length_take, List.length_map]; omega), List.length_take, List.length_map, List.getElem?_drop, show i + (i - min i t.kids.length) = i by omega, hk]
    have hes := ((M.dt 0 rfl).drop (i * 6)).take 6
    rw [dNs_at hkd] at hes
    have hel := hes.len
    rw [dN_len] at hel
    obtain ⟨es, he⟩ : ∃ es, es = (ys.drop (i * 6)).take 6 := ⟨_, rfl⟩
    rw [← he] at hes hel
    have hcell : ∀ j v, es[j]? = some v → W.cell? ((⟨gk, i * 6, none⟩ : Addr).add j) = some v := fun j v hj => by
      have hj6 : j < 6 := by rw [← hel]; exact (List.getElem?_eq_some_iff.1 hj).1
      have h := M.run 0 rfl (i * 6 + j) v (by
        rw [he, List.getElem?_take_of_lt hj6, List.getElem?_drop] at hj
        rw [List.getElem?_append_left (by omega)]
        exact hj)
      rw [Addr.add_lit] at h ⊢
      rw [Nat.zero_add] at h
      exact h
    replace M := M.addT hes
    refine p_atL (i := i) (q := i * 6) sln rfl rfl rfl hlt (by omega) ?_
    refine v_loadN es agg_nd rfl hel hcell ?_
    clear hcell
    refine s_alloc (zN) M al_nd ?_
    clear M
    rintro g5 W M
    refine s_storeA 0 es M rfl sz_nd rfl rfl hel ((M.da 0 rfl).ones (dN_one _)) rfl ?_
    clear M; rintro W M
    dsimp only [setL] at M
    replace M := M.drew
    refine drT (Kp w gs [(g5, 26, es), (g3, 26, ncs t Ap cp Av cv (some ⟨gk, 0, none⟩) ck Ah ch)] []) (.take 0 (.take 1 (.take 2 (.take 3 (.one 4 (.take 5 (.one 6 (.nil)))))))) (by kernel_rfl) (M.kp (by simp) (by simp)) ?_
    refine p_fld fN4 rfl ?_
    refine t_load agg_ns rfl (fun W K => (K.B 1 rfl).at_ rfl) ?_
    refine t_loadN es agg_nd rfl hel (fun W K => K.run 0 rfl) ?_
    refine cc is_nFold (nFold_any k (by omega) _ _ _ (M.gl hG) (M.da 0 rfl) M.olt) ?_
    rintro e W ⟨csf, rfl, rf, hb⟩
    have hcf := rf.len
    rw [dN_len] at hcf
    replace M := M.callF hb rf
    clear rf hb
    refine ⟨_, rfl, (M.kp (by simp) (by simp)), ?_⟩
    refine p_atL (i := i) (q := i * 6) sln rfl rfl rfl hlt (by omega) ?_
    refine s_storeP 1 (n := 6) (off := i * 6) csf _ M rfl sz_nd rfl rfl hcf ((M.da 0 rfl).ones (dN_one _)) (by rw [List.length_append]; omega) rfl ?_
    clear M; rintro W M
    dsimp only [setL] at M
    refine ⟨(M.kp (by simp) (by simp)), ?_⟩
    have e1 : (ys ++ rest).take (i * 6) = ys.take (i * 6) := List.take_append_of_le_length (by omega)
    have e2 : (ys ++ rest).drop (i * 6 + 6) = ys.drop (i * 6 + 6) ++ rest := List.drop_append_of_le_length (by omega)
    rw [e1, e2, ← List.append_assoc] at M
    have hX := M.dt 2 rfl
    have hX2 := ((hX.take (i * 6)).app (M.dt 0 rfl)).app (hX.drop (i * 6 + 6))
    rw [← dNs_set (foldN k) (by rw [List.length_append, List.length_take, List.length_map, List.length_drop]; omega)] at hX2
    have hst : ((t.kids.map foldN).take i ++ t.kids.drop i).set i (foldN k) = (t.kids.map foldN).take (i + 1) ++ t.kids.drop (i + 1) := by
      rw [List.set_append_right _ _ (by rw [List.length_take]; omega), List.length_take, List.length_map, show i - min i t.kids.length = 0 by omega, List.drop_eq_getElem_cons hlt, List.set_cons_zero, List.take_add_one, List.getElem?_map, hk, List.append_assoc]
      rfl
    rw [hst] at hX2
    replace M := (M.addT hX2).dropL
    refine p_addN (b := 1) rfl rfl (by dsimp only; omega) ?_
    exact ⟨(i + 1, _), ⟨by dsimp only; omega, M.fsub _ (by simp)⟩, (by repeat (first | exact trivial | refine ⟨rfl, ?_⟩)), by dsimp only; omega⟩
  · have hge : i = t.kids.length := by have h : ¬ (i : Int) < (t.kids.length : Int) := hge; omega
    subst hge
    rw [List.take_of_length_le (by rw [List.length_map]; omega), List.drop_length, List.append_nil] at M
    obtain ⟨ks, hks⟩ : ∃ ks, ks = t.kids.map foldN := ⟨_, rfl⟩
    have hkl : ks.length = t.kids.length := by rw [hks, List.length_map]
    unfold shutK
    rw [← hks] at M ⊢
    replace M := M.frzB' (fr := true) (s := 6) (n := ks.length) (c := ck) (M.dt 0 rfl) (dNs_len ks) (by omega)
    refine v_loadN (ncs t Ap cp Av cv (some ⟨gk, 0, none⟩) ck Ah ch) agg_nd rfl rfl (M.run 0 rfl) ?_
    refine s_storeA 1 (ncs t Ap cp Av cv (some ⟨gk, 0, none⟩) ck Ah ch) M rfl sz_nd rfl rfl rfl (all1 rfl) rfl ?_
    clear M; rintro W M
    dsimp only [setL] at M
    refine c_loadN (ncs t Ap cp Av cv (some ⟨gk, 0, none⟩) ck Ah ch) agg_nd rfl rfl (M.run 1 rfl) ?_
    have hn := RdL.ofnode (t := .mk t.kind t.path t.has t.val ks t.hash) (M.finF1 2 rfl) (M.finF1 3 rfl) (M.finF1 0 rfl) (M.finF1 4 rfl)
    refine ⟨_, rfl, ?_, M.below⟩
    unfold ncs at hn ⊢
    rw [show (Nd.mk t.kind t.path t.has t.val ks t.hash).kids.length = t.kids.length from hkl] at hn
    exact hn
mutual
/-- Node for node, but where a stub stands. -/
def agP : Nd → Nd → Bool
  | .mk k p has v ks h, f => if k = 4 then decide (hashR (.mk k p has v ks h) = hashR f) else decide (k = f.kind) && (decide (has = f.has) && (decide (p = f.path) && (decide (v = f.val) && agsP ks f.kids)))
def agsP : List Nd → List Nd → Bool
  | [], [] => true
  | a :: xs, b :: ys => agP a b && agsP xs ys
  | [], _ :: _ => false
  | _ :: _, [] => false
end
theorem agP_eq (t f : Nd) : agP t f = if t.kind = 4 then decide (hashR t = hashR f) else decide (t.kind = f.kind) && (decide (t.has = f.has) && (decide (t.path = f.path) && (decide (t.val = f.val) && agsP t.kids f.kids))) := by
  cases t; rw [agP]; rfl
theorem agsP_iff : ∀ (xs ys : List Nd), agsP xs ys = true ↔ All2 (fun a b => agP a b = true) xs ys
  | [], [] => ⟨fun _ => ⟨rfl, fun i x y h => by simp at h⟩, fun _ => by rw [agsP]⟩
  | [], b :: ys => ⟨fun h => (by rw [agsP] at h; cases h), fun h => (by cases h.1)⟩
  | a :: xs, [] => ⟨fun h => (by rw [agsP] at h; cases h), fun h => (by cases h.1)⟩
  | a :: xs, b :: ys => by
    have ih := agsP_iff xs ys
    rw [agsP, Bool.and_eq_true]
    constructor
    · rintro ⟨h1, h2⟩
      obtain ⟨k1, k2⟩ := ih.1 h2
      refine ⟨by simp [k1], fun i x y hx hy => ?_⟩
      cases i with
      | zero =>
        simp only [List.getElem?_cons_zero] at hx hy
        injection hx with hx; injection hy with hy
        subst hx; subst hy; exact h1
      | succ i => exact k2 i x y hx hy
    · rintro ⟨h1, h2⟩
      exact ⟨h2 0 a b rfl rfl, ih.2 ⟨by simpa using h1, fun i x y hx hy => h2 (i + 1) x y hx hy⟩⟩
theorem is_vagr : isFn Tryd.prog 58 = true := by kernel_rfl
theorem is_vAgr : isFn Tryd.prog 24 = true := by kernel_rfl
def VAgrOk (a : Nd) : Prop := ∀ (b : Nd) (gs : List (Option Nat)) (w : World) (ca cb : List Value), GL w gs → RdL w (Fd w gs) (dN a) ca → RdL w (Fd w gs) (dN b) cb → (∀ b, some b ∈ gs → b < w.heap.size) → sz b ≤ 1000000 →
  Calls Tryd.prog 58 #[.agg ca.toArray, .agg cb.toArray] w fun e w' => ∃ q : Bool, e = .returned (.bool q) ∧ (q = true ↔ agP a b = true) ∧ Below w.heap.size w w'
set_option maxRecDepth 100000 in
set_option maxHeartbeats 2000000 in
theorem vagr_step (N : Nat) (ih : ∀ k : Nd, sz k < N → VAgrOk k) (a : Nd) (ht : sz a ≤ N) (hN : N ≤ 1000000) : VAgrOk a := by
  intro b gs w ca cb hG hra hrb hgs hzb
  refine calls_ev (args := [.agg ca.toArray, .agg cb.toArray]) mixed Tryd.func58 rfl (by kernel_rfl) ?_
  obtain ⟨Ap, cp, Av, cv, Ak, ck, Ah, ch, rfl, r1, r3, r4, r5⟩ := id hra.node
  obtain ⟨Bp, dp, Bv, dv, Bk, dk, Bh, dh, rfl, s1, s3, s4, s5⟩ := id hrb.node
  have hsz := sz_eq a
  have hsl := szs_len a.kids
  have hsz' := sz_eq b
  have hsl' := szs_len b.kids
  have M := ((((((((St.start hgs).addL hrb).addL hra).addD r3).addD r1).addD s3).addD s1).addD s4).addD r4
  clear r1 r3 r4 r5 hra s1 s3 s4 s5 hrb
  refine s_box (ncs a Ap cp Av cv Ak ck Ah ch) M rfl ?_
  clear M
  rintro g2 W M
  refine s_box (ncs b Bp dp Bv dv Bk dk Bh dh) M rfl ?_
  clear M
  rintro g3 W M
  have hB := M.B 0 rfl
  have hC := M.B 1 rfl
  unfold ncs at hB hC
  refine p_fld fN0 rfl ?_
  refine v_load agg_int rfl (hC.at_ rfl) ?_
  refine p_eq rfl rfl (fun h4 => ?_) (fun h4 => ?_)
  · have h4 : a.kind = 4 := h4
    clear hB hC
    replace M := M.drew
    refine drT (Kp w gs [(g3, 26, ncs b Bp dp Bv dv Bk dk Bh dh), (g2, 26, ncs a Ap cp Av cv Ak ck Ah ch)] []) (.take 0 (.take 2 (.one 1 (.one 3 (.one 4 (.take 5 (.nil))))))) (by kernel_rfl) (M.kp (by simp) (by simp)) ?_
    refine t_loadN (ncs a Ap cp Av cv Ak ck Ah ch) agg_nd rfl rfl (fun W K => K.run 1 rfl) ?_
    refine t_loadN (ncs b Bp dp Bv dv Bk dk Bh dh) agg_nd rfl rfl (fun W K => K.run 0 rfl) ?_
    refine cc is_nHash (nHash_any a (by omega) _ _ _ (M.gl hG) (M.da 6 rfl) M.olt) ?_
    rintro e W ⟨A5, n5, c5, rfl, o, hb⟩
    replace M := M.callO hb o
    clear o hb
    refine ⟨_, rfl, (M.kp (by simp) (by simp)), ?_⟩
    refine cc is_nHash (nHash_any b (by omega) _ _ _ (M.gl hG) (M.da 8 rfl) M.olt) ?_
    rintro e W ⟨A6, n6, c6, rfl, o, hb⟩
    replace M := M.callO hb o
    clear o hb
    refine ⟨_, rfl, (M.kp (by simp) (by simp)), ?_⟩
    refine cc is_beq (beq_any _ _ _ _ c5 c6 _ _ (hashR a) (hashR b) _ (M.rdb 1 rfl).2.2 (M.rdb 0 rfl).2.2) ?_
    rintro e W' ⟨rfl, rfl⟩
    refine ⟨_, rfl, (M.kp (by simp) (by simp)), ?_⟩
    exact ⟨_, rfl, by rw [agP_eq, if_pos h4], M.below⟩
  have h4 : ¬ a.kind = 4 := h4
  repeat' first
    | (refine p_fld fN0 rfl ?_)
    | (refine v_load agg_int rfl (hB.at_ rfl) ?_)
    | (refine v_load agg_int rfl (hC.at_ rfl) ?_)
  refine p_eq rfl rfl (fun hk => ?_) (fun hk => ?_)
  rotate_left
  · have hk : ¬ a.kind = b.kind := hk
    exact ⟨false, rfl, ⟨(fun h => by cases h), fun h => by rw [agP_eq, if_neg h4] at h; simp only [Bool.and_eq_true, decide_eq_true_eq] at h; exact absurd h.1 hk⟩, M.below⟩
  have hk : a.kind = b.kind := hk
  repeat' first
    | (refine p_fld fN2 rfl ?_)
    | (refine v_load agg_bo rfl (hB.at_ rfl) ?_)
    | (refine v_load agg_bo rfl (hC.at_ rfl) ?_)
  refine p_beqC u_bool rfl rfl (fun hh => ?_) (fun hh => ?_)
  rotate_left
  ·
    exact ⟨false, rfl, ⟨(fun h => by cases h), fun h => by rw [agP_eq, if_neg h4] at h; simp only [Bool.and_eq_true, decide_eq_true_eq] at h; exact absurd h.2.1 hh⟩, M.below⟩
  repeat' first
    | (refine p_fld fN1 rfl ?_)
    | (refine v_load agg_b rfl (hB.at_ rfl) ?_)
    | (refine v_load agg_b rfl (hC.at_ rfl) ?_)
  refine cc is_beq (beq_any _ _ _ _ cp dp _ _ a.path b.path _ (M.rdb 4 rfl).2.2 (M.rdb 2 rfl).2.2) ?_
  rintro e W' ⟨rfl, rfl⟩
  refine ⟨_, rfl, ?_⟩
  by_cases hp : a.path = b.path
  rotate_left
  · rw [decide_eq_false hp]
    exact ⟨false, rfl, ⟨(fun h => by cases h), fun h => by rw [agP_eq, if_neg h4] at h; simp only [Bool.and_eq_true, decide_eq_true_eq] at h; exact absurd h.2.2.1 hp⟩, M.below⟩
  rw [decide_eq_true hp]
  repeat' first
    | (refine p_fld fN3 rfl ?_)
    | (refine v_load agg_b rfl (hB.at_ rfl) ?_)
    | (refine v_load agg_b rfl (hC.at_ rfl) ?_)
  refine cc is_beq (beq_any _ _ _ _ cv dv _ _ a.val b.val _ (M.rdb 5 rfl).2.2 (M.rdb 3 rfl).2.2) ?_
  rintro e W' ⟨rfl, rfl⟩
  refine ⟨_, rfl, ?_⟩
  by_cases hv : a.val = b.val
  rotate_left
  · rw [decide_eq_false hv]
    exact ⟨false, rfl, ⟨(fun h => by cases h), fun h => by rw [agP_eq, if_neg h4] at h; simp only [Bool.and_eq_true, decide_eq_true_eq] at h; exact absurd h.2.2.2.1 hv⟩, M.below⟩
  rw [decide_eq_true hv]
  repeat' first
    | (refine p_fld fN4 rfl ?_)
    | (refine v_load agg_ns rfl (hB.at_ rfl) ?_)
    | (refine v_load agg_ns rfl (hC.at_ rfl) ?_)
  refine cc is_eqfn (eqfn_any _ is_vagr (fun x y => agP x y = true) GL a.kids b.kids _ _ Ak Bk _ ck _ dk (fun _ _ _ _ M' => M'.gl (M.gl hG)) (fun i x y hx hy gs w ca cb hG h1 h2 h3 => ?_) (M.d1 0 rfl) (M.d1 1 rfl) M.olt ⟨by omega, by omega⟩) ?_
  · have hxz := szs_mem (List.mem_of_getElem? hx)
    have hyz := szs_mem (List.mem_of_getElem? hy)
    exact ih x (by omega) y gs w ca cb hG h1 h2 h3 (by omega)
  · rintro e W ⟨q, rfl, hq, hb⟩
    replace M := M.call hb
    refine ⟨_, rfl, ?_⟩
    refine ⟨q, rfl, hq.trans ?_, M.below⟩
    rw [← agsP_iff, agP_eq, if_neg h4, decide_eq_true hk, decide_eq_true hh, decide_eq_true hp, decide_eq_true hv]
    simp
theorem vagr_any : ∀ (N : Nat), N ≤ 1000000 → ∀ t : Nd, sz t < N → VAgrOk t
  | 0, _, t, h => by omega
  | N + 1, hN, t, h => vagr_step N (fun k hk => vagr_any N (by omega) k hk) t (by omega) (by omega)
/-- Do they agree? -/
def AgrP (p f : Nd) : Bool := decide (0 < (hashR p).length) && (decide (hashR p = hashR f) && agP p f)
set_option maxRecDepth 100000 in
set_option maxHeartbeats 2000000 in
theorem vAgr_any (a b : Nd) (ha : sz a < 1000000) (hbz : sz b < 1000000) (gs : List (Option Nat)) (w : World) (ca cb : List Value) (hG : GL w gs) (hra : RdL w (Fd w gs) (dN a) ca) (hrb : RdL w (Fd w gs) (dN b) cb) (hgs : ∀ b, some b ∈ gs → b < w.heap.size) :
    Calls Tryd.prog 24 #[.agg ca.toArray, .agg cb.toArray] w fun e w' => e = .returned (.bool (AgrP a b)) ∧ Below w.heap.size w w' := by
  refine calls_ev (args := [.agg ca.toArray, .agg cb.toArray]) mixed Tryd.func24 rfl (by kernel_rfl) ?_
  have hla := hra.len
  have hlb := hrb.len
  rw [dN_len] at hla hlb
  have M := ((St.start hgs).addL hrb).addL hra
  clear hra hrb
  refine s_box (ca) M rfl ?_
  clear M
  rintro g2 W M
  refine s_box (cb) M rfl ?_
  clear M
  rintro g3 W M
  refine v_loadN ca agg_nd rfl hla (M.run 1 rfl) ?_
  refine cc is_nHash (nHash_any a (by omega) _ _ _ (M.gl hG) (M.da 0 rfl) M.olt) ?_
  rintro e W ⟨A5, n5, c5, rfl, o, hb⟩
  have e5 := o.len
  replace M := M.callO hb o
  clear o hb
  refine ⟨_, rfl, ?_⟩
  unfold AgrP
  refine p_len slb rfl ?_
  refine p_gt rfl rfl (fun hgt => ?_) (fun hgt => ?_)
  rotate_left
  · have hgt : ¬ 0 < (hashR a).length := fun h => hgt (by show (0 : Int) < ((n5 : Nat) : Int); omega)
    rw [decide_eq_false hgt, Bool.false_and]
    exact ⟨rfl, M.below⟩
  have hgt : 0 < (hashR a).length := by have h : (0 : Int) < ((n5 : Nat) : Int) := hgt; omega
  rw [decide_eq_true hgt, Bool.true_and]
  refine v_loadN cb agg_nd rfl hlb (M.run 0 rfl) ?_
  refine cc is_nHash (nHash_any b (by omega) _ _ _ (M.gl hG) (M.da 2 rfl) M.olt) ?_
  rintro e W ⟨A6, n6, c6, rfl, o, hb⟩
  replace M := M.callO hb o
  clear o hb
  refine ⟨_, rfl, ?_⟩
  refine cc is_beq (beq_any _ _ _ _ c5 c6 _ _ (hashR a) (hashR b) _ (M.rdb 1 rfl).2.2 (M.rdb 0 rfl).2.2) ?_
  rintro e W' ⟨rfl, rfl⟩
  refine ⟨_, rfl, ?_⟩
  by_cases hh : hashR a = hashR b
  rotate_left
  · rw [decide_eq_false hh, Bool.false_and]
    exact ⟨rfl, M.below⟩
  rw [decide_eq_true hh, Bool.true_and]
  refine v_loadN ca agg_nd rfl hla (M.run 1 rfl) ?_
  refine v_loadN cb agg_nd rfl hlb (M.run 0 rfl) ?_
  refine cc is_vagr (vagr_any 1000000 (Nat.le_refl _) a ha b _ _ _ _ (M.gl hG) (M.da 2 rfl) (M.da 3 rfl) M.olt (by omega)) ?_
  rintro e W ⟨q, rfl, hq, hb⟩
  replace M := M.call hb
  refine ⟨_, rfl, ?_⟩
  have : q = agP a b := by
    cases q with
    | true => exact (hq.1 rfl).symm
    | false => cases h : agP a b with
      | false => rfl
      | true => exact hq.2 h
  exact ⟨by rw [← this]; rfl, M.below⟩
end Go.Proofs.YtojjfkbffjkojaaDoor
