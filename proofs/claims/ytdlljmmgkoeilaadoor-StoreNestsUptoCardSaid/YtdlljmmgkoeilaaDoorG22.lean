/- Tries without stubs, plainly, as rising rows of pairs. No walk here. Tries without stubs, plainly: what Get, Put, Drop, Pairs, Of answer of them. No walk here. The walk of the law TrieTwo. The walks of the laws TrieOf and TrieDigest. law08: folded. The walks of slices.EqualFunc over nodes, for any function; of node.Same. Package reveal: Shut, agrees, Agrees. Package store: its methods, in the state of whoever calls. Package reveal: laid, open, Open, nearest. Tries, open as far as they are wanted, plainly. Package reveal: Only. Reference 10: At, Shut, below, Agrees. Reference 10: Shut, put, Open. Package store: what makes one, and what is saved. What is done to a store, as data. -/
import Derived.Test.YtdlljmmgkoeilaaDoorG14
import Derived.Test.YtdlljmmgkoeilaaDoorG13
import Derived.Test.YtdlljmmgkoeilaaDoorG21
import Derived.Test.YtdlljmmgkoeilaaDoorG18
import Derived.Test.YtdlljmmgkoeilaaDoorG05
import Derived.Test.YtdlljmmgkoeilaaDoorG07
import Derived.Test.YtdlljmmgkoeilaaDoorG11
import Derived.Test.YtdlljmmgkoeilaaDoorG03
import Derived.Test.YtdlljmmgkoeilaaDoorG06
import Derived.Test.YtdlljmmgkoeilaaDoorG19
namespace Go.Proofs.YtdlljmmgkoeilaaDoor
theorem cmp_app (w a b : List UInt8) : cmpB (w ++ a) (w ++ b) = cmpB a b := by
  induction w with
  | nil => rfl
  | cons x w ih => rw [List.cons_append, List.cons_append, cmpB_cons, if_pos rfl, ih]
theorem cmp_zero : ∀ {a b : List UInt8}, cmpB a b = 0 ↔ a = b
  | [], [] => by simp [cmpB_nil]
  | [], y :: b => by rw [cmpB_nil_cons]; simp
  | x :: a, [] => by rw [cmpB_cons_nil]; simp
  | x :: a, y :: b => by
    rw [cmpB_cons]
    by_cases h : x = y
    · subst h
      rw [if_pos rfl, cmp_zero]; simp
    · rw [if_neg h]
      constructor
      · intro e; split at e <;> cases e
      · intro e; injection e with e; exact absurd e h
theorem cmp_self (a : List UInt8) : cmpB a a = 0 := cmp_zero.2 rfl
theorem cmp_trans : ∀ {a b c : List UInt8}, cmpB a b < 0 → cmpB b c < 0 → cmpB a c < 0
  | a, [], c, h, _ => by
    cases a with
    | nil => rw [cmpB_nil] at h; omega
    | cons x a => rw [cmpB_cons_nil] at h; omega
  | _, y :: b, [], _, h => by rw [cmpB_cons_nil] at h; omega
  | [], y :: b, z :: c, _, _ => by rw [cmpB_nil_cons]; decide
  | x :: a, y :: b, z :: c, h1, h2 => by
    rw [cmpB_cons] at h1 h2 ⊢
    by_cases e1 : x = y
    · subst e1
      rw [if_pos rfl] at h1
      by_cases e2 : x = z
      · rw [if_pos e2] at h2 ⊢; exact cmp_trans h1 h2
      · rw [if_neg e2] at h2 ⊢; exact h2
    · rw [if_neg e1] at h1
      have l1 : x.toNat < y.toNat := by split at h1; assumption; omega
      by_cases e2 : y = z
      · subst e2
        rw [if_neg e1, if_pos l1]; decide
      · rw [if_neg e2] at h2
        have l2 : y.toNat < z.toNat := by split at h2; assumption; omega
        have e3 : x ≠ z := fun e => by rw [e] at l1; omega
        rw [if_neg e3, if_pos (by omega)]; decide
theorem cmp_anti {a b : List UInt8} (h : cmpB a b < 0) : ¬ cmpB b a < 0 := fun k => by have := cmpB_symm a b; omega
theorem cmp_ne {a b : List UInt8} (h : cmpB a b < 0) : a ≠ b := fun e => by rw [e, cmp_self] at h; omega
theorem cmp_pre {w p : List UInt8} (h : w <+: p) (hn : w.length < p.length) : cmpB w p < 0 := by
  obtain ⟨r, rfl⟩ := h
  have := cmp_app w [] r
  rw [List.append_nil] at this
  rw [this]
  cases r with
  | nil => simp at hn
  | cons x r => rw [cmpB_nil_cons]; decide
theorem cmp_diff {w p q : List UInt8} {a b : UInt8} (hp : w ++ [a] <+: p) (hq : w ++ [b] <+: q) (h : a.toNat < b.toNat) : cmpB p q < 0 := by
  obtain ⟨r, rfl⟩ := hp
  obtain ⟨s, rfl⟩ := hq
  rw [List.append_assoc, List.append_assoc, cmp_app, List.singleton_append, List.singleton_append, cmpB_cons, if_neg (fun e => by rw [e] at h; omega), if_pos h]; decide
def Ris (l : List Pr) : Prop := l.Pairwise fun a b => cmpB a.k b.k < 0
theorem insP_mem : ∀ {l : List Pr} {p y : Pr}, Ris l → (y ∈ insP l p ↔ y = p ∨ (y ∈ l ∧ y.k ≠ p.k))
  | [], p, y, _ => by rw [insP]; simp
  | x :: r, p, y, h => by
    have h' := List.pairwise_cons.1 h
    rw [insP]
    split
    · rename_i h1
      have := insP_mem (l := r) (p := p) (y := y) h'.2
      rw [List.mem_cons, this, List.mem_cons]
      have hx := cmp_ne h1
      constructor
      · rintro (rfl | rfl | ⟨a, b⟩)
        · exact .inr ⟨.inl rfl, hx⟩
        · exact .inl rfl
        · exact .inr ⟨.inr a, b⟩
      · rintro (rfl | ⟨rfl | a, b⟩)
        · exact .inr (.inl rfl)
        · exact .inl rfl
        · exact .inr (.inr ⟨a, b⟩)
    · rename_i h1
      split
      · rename_i h2
        have e := cmp_zero.1 h2
        rw [List.mem_cons, List.mem_cons]
        constructor
        · rintro (rfl | a)
          · exact .inl rfl
          · have := cmp_ne (h'.1 y a)
            rw [e] at this
            exact .inr ⟨.inr a, fun e2 => this e2.symm⟩
        · rintro (rfl | ⟨rfl | a, b⟩)
          · exact .inl rfl
          · exact absurd e b
          · exact .inr a
      · rename_i h2
        have h3 : cmpB p.k x.k < 0 := by have := cmpB_symm p.k x.k; omega
        rw [List.mem_cons, List.mem_cons]
        constructor
        · rintro (rfl | rfl | a)
          · exact .inl rfl
          · exact .inr ⟨.inl rfl, fun e => cmp_ne h3 e.symm⟩
          · exact .inr ⟨.inr a, fun e => cmp_ne (cmp_trans h3 (h'.1 y a)) e.symm⟩
        · rintro (rfl | ⟨rfl | a, b⟩)
          · exact .inl rfl
          · exact .inr (.inl rfl)
          · exact .inr (.inr a)
theorem ins_ris : ∀ {l : List Pr} (p : Pr), Ris l → Ris (insP l p)
  | [], p, _ => List.pairwise_singleton _ _
  | x :: r, p, h => by
    have h' := List.pairwise_cons.1 h
    rw [insP]
    split
    · rename_i h1
      refine List.pairwise_cons.2 ⟨fun y hy => ?_, ins_ris p h'.2⟩
      rcases (insP_mem h'.2).1 hy with rfl | ⟨a, _⟩
      · exact h1
      · exact h'.1 y a
    · rename_i h1
      split
      · rename_i h2
        have e := cmp_zero.1 h2
        exact List.pairwise_cons.2 ⟨fun y hy => by rw [← e]; exact h'.1 y hy, h'.2⟩
      · rename_i h2
        have h3 : cmpB p.k x.k < 0 := by have := cmpB_symm p.k x.k; omega
        refine List.pairwise_cons.2 ⟨fun y hy => ?_, h⟩
        rcases List.mem_cons.1 hy with rfl | hy
        · exact h3
        · exact cmp_trans h3 (h'.1 y hy)
theorem ris_ext : ∀ {a b : List Pr}, Ris a → Ris b → (∀ y, y ∈ a ↔ y ∈ b) → a = b
  | [], [], _, _, _ => rfl
  | [], y :: b, _, _, h => by have := (h y).2 (by simp); cases this
  | x :: a, [], _, _, h => by have := (h x).1 (by simp); cases this
  | x :: a, y :: b, ha, hb, h => by
    have ha' := List.pairwise_cons.1 ha
    have hb' := List.pairwise_cons.1 hb
    have hxy : x = y := by
      rcases List.mem_cons.1 ((h x).1 (by simp)) with e | hx
      · exact e
      · rcases List.mem_cons.1 ((h y).2 (by simp)) with e | hy
        · exact e.symm
        · exact absurd (ha'.1 y hy) (cmp_anti (hb'.1 x hx))
    subst hxy
    congr 1
    refine ris_ext ha'.2 hb'.2 fun z => ?_
    constructor
    · intro hz
      rcases List.mem_cons.1 ((h z).1 (by simp [hz])) with rfl | h2
      · exact absurd rfl (cmp_ne (ha'.1 z hz))
      · exact h2
    · intro hz
      rcases List.mem_cons.1 ((h z).2 (by simp [hz])) with rfl | h2
      · exact absurd rfl (cmp_ne (hb'.1 z hz))
      · exact h2
theorem ris_key : ∀ {l : List Pr} {x y : Pr}, Ris l → x ∈ l → y ∈ l → x.k = y.k → x = y
  | z :: l, x, y, h, hx, hy, e => by
    have h' := List.pairwise_cons.1 h
    rcases List.mem_cons.1 hx with e1 | hx1
    · rcases List.mem_cons.1 hy with e2 | hy1
      · rw [e1, e2]
      · exact absurd e (by rw [e1]; exact cmp_ne (h'.1 y hy1))
    · rcases List.mem_cons.1 hy with e2 | hy1
      · exact absurd e.symm (by rw [e2]; exact cmp_ne (h'.1 x hx1))
      · exact ris_key h'.2 hx1 hy1 e
theorem fold_ris : ∀ {l o : List Pr}, Ris o → Ris (l.foldl insP o)
  | [], _, h => h
  | p :: l, _, h => fold_ris (l := l) (ins_ris p h)
theorem rising_ris (l : List Pr) : Ris (risingP l) := fold_ris List.Pairwise.nil
def RisI (l : List It) : Prop := l.Pairwise fun a b => cmpB a.path b.path < 0
theorem kids_ris {ks : List Nd} {kn : Bool} {at_ : List UInt8} : ∀ (i : Nat), i + ks.length ≤ 16 → (∀ k ∈ ks, ∀ way, RisI (itemsP k way kn)) → RisI (itemsK ks true kn i at_) := by
  induction ks with
  | nil => intro i _ _; rw [itemsK]; exact List.Pairwise.nil
  | cons t ks ih =>
    intro i hi h
    rw [List.length_cons] at hi
    rw [itemsK]
    refine List.pairwise_append.2 ⟨h t (by simp) _, ih (i + 1) (by omega) (fun k hk => h k (by simp [hk])), fun x hx y hy => ?_⟩
    obtain ⟨j, k, h1, h2⟩ := itemsK_mem hy
    have hj := (List.getElem?_eq_some_iff.1 h1).1
    exact cmp_diff (kid_pre hx) (kid_pre h2) (by rw [ofNat_half (by omega), ofNat_half (by omega)]; omega)
theorem items_ris {even : Bool} {t : Nd} {d : Nat} (hv : Val even t d) : ∀ (way : List UInt8) (kn : Bool), RisI (itemsP t way kn) := by
  induction hv with
  | none => intro way kn; rw [items_none]; exact List.Pairwise.nil
  | leaf => intro way kn; rw [items_leaf]; exact List.pairwise_singleton _ _
  | stub => intro way kn; rw [items_stub]; exact List.pairwise_singleton _ _
  | way d p k hd hp h0 hk hr ih => intro way kn; rw [items_way]; exact ih _ _
  | branch d has v ks hd hv hv0 he h16 hr hm ih =>
    intro way kn
    rw [items_br]
    refine List.pairwise_append.2 ⟨?_, kids_ris 0 (by omega) (fun k hk way => ih k hk way false), fun x hx y hy => ?_⟩
    · unfold ownI
      cases has with
      | true => exact List.pairwise_singleton _ _
      | false => exact List.Pairwise.nil
    · have hxp : x.path = way := by
        unfold ownI at hx
        cases has with
        | true => simp only [if_pos, List.mem_singleton] at hx; subst hx; rfl
        | false => cases hx
      rw [hxp]
      obtain ⟨j, k, _, h2⟩ := kid_mem hy
      exact cmp_pre ((List.prefix_append _ _).trans (kid_pre h2)) (pre_at (kid_pre h2)).1
theorem items_even {t : Nd} {d : Nat} (hv : Val true t d) : ∀ (way : List UInt8) (kn : Bool), ∀ x ∈ itemsP t way kn, ∃ r, x.path = way ++ r ∧ halvesB r = true ∧ (x.stub = false → (d + r.length) % 2 = 0 ∧ x.known = false ∧ x.hash = []) := by
  have ends : ∀ {d : Nat}, endsP d true = true → d % 2 = 0 := fun h => by
    unfold endsP at h
    simp at h
    omega
  induction hv with
  | none => intro way kn x hx; rw [items_none] at hx; cases hx
  | leaf d p v hd hp hv he =>
    intro way kn x hx
    rw [items_leaf, List.mem_singleton] at hx
    subst hx
    exact ⟨p, rfl, hp, fun _ => ⟨ends he, rfl, rfl⟩⟩
  | stub d h hd hh =>
    intro way kn x hx
    rw [items_stub, List.mem_singleton] at hx
    subst hx
    exact ⟨[], by simp, rfl, fun h => by cases h⟩
  | way d p k hd hp h0 hk hr ih =>
    intro way kn x hx
    rw [items_way] at hx
    obtain ⟨r, h1, h2, h3⟩ := ih _ _ x hx
    exact ⟨p ++ r, by rw [h1, List.append_assoc], by rw [halvesB_app, hp, h2]; rfl, fun h => by
      rw [List.length_append, ← Nat.add_assoc]; exact h3 h⟩
  | branch d has v ks hd hv hv0 he h16 hr hm ih =>
    intro way kn x hx
    rw [items_br] at hx
    rcases List.mem_append.1 hx with hx | hx
    · unfold ownI at hx
      cases has with
      | true => simp only [if_pos, List.mem_singleton] at hx; subst hx; exact ⟨[], by simp, rfl, fun _ => ⟨ends (he rfl), rfl, rfl⟩⟩
      | false => cases hx
    · obtain ⟨j, k, h1, h2⟩ := kid_mem hx
      have hj : j < 16 := by have := (List.getElem?_eq_some_iff.1 h1).1; omega
      obtain ⟨r, k1, k2, k3⟩ := ih k (List.mem_of_getElem? h1) _ _ x h2
      refine ⟨UInt8.ofNat j :: r, by rw [k1, List.append_assoc]; rfl, ?_, fun h => ?_⟩
      · have := ofNat_half hj
        unfold halvesB at k2 ⊢
        simp only [List.all_cons, Bool.and_eq_true, decide_eq_true_eq]
        have h15 : (UInt8.ofNat j).toNat ≤ 15 := by omega
        exact ⟨h15, k2⟩
      · rw [List.length_cons, show d + (r.length + 1) = d + 1 + r.length by omega]; exact k3 h
theorem sf_items {even : Bool} {t : Nd} {d : Nat} (hv : Val even t d) : ∀ (way : List UInt8) (kn : Bool), sfB t = true ↔ ∀ x ∈ itemsP t way kn, x.stub = false := by
  induction hv with
  | none => intro way kn; rw [items_none]; simp [sf_none]
  | leaf d p v => intro way kn; rw [items_leaf]; simp [show sfB (.mk 1 p false v [] []) = true from sf_leaf p v]
  | stub d h => intro way kn; rw [items_stub, sfB_mk]; simp
  | way d p k hd hp h0 hk hr ih =>
    intro way kn
    rw [items_way, ← ih (way ++ p) true, sfB_mk, sfsB, sfsB]; simp
  | branch d has v ks hd hv hv0 he h16 hr hm ih =>
    intro way kn
    rw [items_br, sfB_mk, Bool.and_eq_true, sfsB_all]
    constructor
    · rintro ⟨_, h⟩ x hx
      rcases List.mem_append.1 hx with hx | hx
      · unfold ownI at hx
        cases has with
        | true => simp only [if_pos, List.mem_singleton] at hx; subst hx; rfl
        | false => cases hx
      · obtain ⟨j, k, h1, h2⟩ := kid_mem hx
        exact (ih k (List.mem_of_getElem? h1) _ _).1 (h k (List.mem_of_getElem? h1)) x h2
    · intro h
      refine ⟨by decide, fun k hk => ?_⟩
      obtain ⟨j, hj⟩ := List.getElem?_of_mem hk
      exact (ih k hk (way ++ [UInt8.ofNat j]) false).2 fun x hx => h x (List.mem_append_right _ (kid_of hj hx))
theorem ofB_inj {a b : List UInt8} (h : ofB a = ofB b) : a = b := by rw [← joinB_ofB a, h, joinB_ofB]
theorem itOf_inj {a b : Pr} (h : itOf a = itOf b) : a = b := by
  unfold itOf at h
  injection h with h1 h2
  obtain ⟨k, v⟩ := a
  obtain ⟨k', v'⟩ := b
  dsimp only at h1 h2
  rw [ofB_inj h1, h2]
/-- A trie without stubs that may be. -/
def Full (t : Nd) : Prop := Val true t 0 ∧ sfB t = true
def prsT (t : Nd) : List Pr := (pairsP t []).1
theorem rPairs_map : ∀ {l : List It}, (∀ x ∈ l, x.stub = false) → rPairsF l = (l.map fun x => ⟨bytesL x.path, x.val⟩, none)
  | [], _ => rfl
  | x :: l, h => by
    have := rPairs_map (l := l) (fun y hy => h y (by simp [hy]))
    rw [rPairsF, h x (by simp), this]; rfl
theorem full_pairs {t : Nd} (h : Full t) : (pairsP t []).2 = none ∧ prsT t = (itemsP t [] true).map fun x => ⟨bytesL x.path, x.val⟩ := by
  obtain ⟨h1, h2⟩ := pairs_items t [] true
  rw [rPairs_map ((sf_items h.1 [] true).1 h.2)] at h1 h2
  exact ⟨h1, h2 h1⟩
theorem prs_items {t : Nd} (h : Full t) : itemsP t [] true = (prsT t).map itOf := by
  rw [(full_pairs h).2, List.map_map]
  have : ∀ x ∈ itemsP t [] true, (itOf ∘ fun x : It => (⟨bytesL x.path, x.val⟩ : Pr)) x = x := fun x hx => by
    have hs := (sf_items h.1 [] true).1 h.2 x hx
    obtain ⟨r, h1, h2, h3⟩ := items_even h.1 [] true x hx
    obtain ⟨h4, h5, h6⟩ := h3 hs
    rw [List.nil_append] at h1
    obtain ⟨p, v, s, k, hh⟩ := x
    dsimp only at h1 hs h5 h6
    subst h1; subst hs; subst h5; subst h6
    show itOf ⟨bytesL p, v⟩ = _
    unfold itOf
    dsimp only
    rw [(bytesE_ok h2 (by omega)).2, ofB_joinB p h2 (by omega)]
  conv => lhs; rw [← List.map_id (itemsP t [] true)]
  exact List.map_congr_left fun x hx => (this x hx).symm
theorem prs_mem {t : Nd} (h : Full t) {p : Pr} : p ∈ prsT t ↔ itOf p ∈ itemsP t [] true := by
  rw [prs_items h, List.mem_map]
  constructor
  · intro hp; exact ⟨p, hp, rfl⟩
  · rintro ⟨q, hq, e⟩
    rw [← itOf_inj e]; exact hq
theorem prs_ris {t : Nd} (h : Full t) : Ris (prsT t) := by
  have := items_ris h.1 [] true
  rw [prs_items h] at this
  unfold RisI at this
  rw [List.pairwise_map] at this
  refine this.imp fun {a b} hab => ?_
  have e : cmpB (ofB a.k) (ofB b.k) < 0 := hab
  rw [cmpB_ofB] at e
  exact e
theorem build_prs {t : Nd} (h : Full t) {N : Nat} (hN : 401 ≤ N) : buildA N ((prsT t).map itOf) 0 = (t, none) := by
  rw [← prs_items h]
  have := build_like h.1 [] true _ N (Like.refl _) (fun x hx => by
    have := items_le h.1 [] true x hx
    rw [List.length_nil] at this ⊢; omega)
  rw [List.length_nil] at this
  exact this
theorem prs_inj {a b : Nd} (ha : Full a) (hb : Full b) (h : prsT a = prsT b) : a = b := by
  have h1 := build_prs ha (Nat.le_refl 401)
  have h2 := build_prs hb (Nat.le_refl 401)
  rw [h, h2] at h1
  injection h1 with h1
  exact h1.symm
theorem full_none : Full noneN := ⟨.none 0 (by decide), sf_none⟩
theorem prs_none : prsT noneN = [] := by rw [(full_pairs full_none).2, items_none]; rfl
theorem keep_itOf (k : List UInt8) (p : Pr) : keepI (ofB k) (itOf p) = decide (p.k ≠ k) := by
  unfold keepI itOf
  dsimp only
  rw [Bool.false_or]
  by_cases h : p.k = k
  · rw [h]; simp
  · have : ofB p.k ≠ ofB k := fun e => h (ofB_inj e)
    simp [h, this]
theorem put_prs {t : Nd} (h : Full t) {k v : List UInt8} (hk : k.length ≤ 200) (hl : v.length ≤ 4000) : (putP t (ofB k) v).2 = none ∧ Full (putP t (ofB k) v).1 ∧ prsT (putP t (ofB k) v).1 = insP (prsT t) ⟨k, v⟩ := by
  obtain ⟨hm, hs⟩ := sf_put h.1 h.2 (ofB k) v (halvesB_ofB k)
  obtain ⟨hv, hlike⟩ := put_sum h.1 hk hl hm
  have hf : Full (putP t (ofB k) v).1 := ⟨hv, hs⟩
  refine ⟨hm, hf, ris_ext (prs_ris hf) (ins_ris _ (prs_ris h)) fun y => ?_⟩
  rw [prs_mem hf, insP_mem (prs_ris h)]
  have up_it : ∀ {x z : It}, Up x z → ∀ {p : Pr}, (x = itOf p → z.known = false → z = itOf p) := fun hu p e hk => by
    subst e
    rename_i x z
    obtain ⟨a, b, c, d, e⟩ := z
    obtain ⟨u1, u2, u3, u4, _⟩ := hu
    dsimp only at u1 u2 u3 u4 hk
    subst hk; subst u1; subst u2; subst u3; subst u4; rfl
  constructor
  · intro hy
    obtain ⟨z, hz, hu⟩ := hlike.mem_l _ hy
    rcases List.mem_cons.1 hz with rfl | hz
    · left
      have h1 : ofB k = ofB y.k := hu.1
      have h2 : v = y.v := hu.2.1
      obtain ⟨yk, yv⟩ := y
      dsimp only at h1 h2
      rw [ofB_inj h1, h2]
    · right
      obtain ⟨hz1, hz2⟩ := List.mem_filter.1 hz
      rw [prs_items h] at hz1
      obtain ⟨q, hq, rfl⟩ := List.mem_map.1 hz1
      have h1 : ofB q.k = ofB y.k := hu.1
      have h2 : q.v = y.v := hu.2.1
      have e : q = y := by
        obtain ⟨yk, yv⟩ := y
        obtain ⟨qk, qv⟩ := q
        dsimp only at h1 h2
        rw [ofB_inj h1, h2]
      subst e
      rw [keep_itOf] at hz2
      exact ⟨hq, of_decide_eq_true hz2⟩
  · intro hy
    have : itOf y ∈ newI (ofB k) v :: (itemsP t [] true).filter (keepI (ofB k)) := by
      rcases hy with rfl | ⟨h1, h2⟩
      · exact List.mem_cons_self ..
      · exact List.mem_cons_of_mem _ (List.mem_filter.2 ⟨(prs_mem h).1 h1, by rw [keep_itOf]; exact decide_eq_true h2⟩)
    obtain ⟨x, hx, hu⟩ := hlike.mem_r _ this
    have hxs := (sf_items hf.1 [] true).1 hf.2 x hx
    rw [prs_items hf] at hx ⊢
    obtain ⟨q, hq, rfl⟩ := List.mem_map.1 hx
    have h1 : ofB y.k = ofB q.k := hu.1
    have h2 : y.v = q.v := hu.2.1
    have e : q = y := by
      obtain ⟨yk, yv⟩ := y
      obtain ⟨qk, qv⟩ := q
      dsimp only at h1 h2
      rw [ofB_inj h1, h2]
    subst e
    exact List.mem_map_of_mem hq
theorem of_prs : ∀ (l : List Pr) (t : Nd), longPr l = false → Full t → (tOfF l t).2 = 0 ∧ Full (tOfF l t).1 ∧ prsT (tOfF l t).1 = l.foldl insP (prsT t)
  | [], t, _, h => ⟨rfl, h, rfl⟩
  | p :: l, t, hl, h => by
    unfold longPr at hl
    rw [List.any_cons, Bool.or_eq_false_iff, decide_eq_false_iff_not] at hl
    obtain ⟨h1, h2, h3⟩ := put_prs h (k := p.k) (v := p.v) (by omega) (by omega)
    rw [tOfF, if_neg (by omega), List.foldl_cons]
    have := of_prs l _ hl.2 h2
    rw [h3] at this
    exact this
theorem of_long : ∀ (l : List Pr) (t : Nd), longPr l = true → tOfF l t = (noneN, 2)
  | p :: l, t, hl => by
    unfold longPr at hl
    rw [List.any_cons, Bool.or_eq_true, decide_eq_true_eq] at hl
    rw [tOfF]
    split
    · rfl
    · rename_i h
      exact of_long l _ (hl.resolve_left (by omega))
theorem tOf_prs {l : List Pr} (hl : longPr l = false) : (tOf l).2 = 0 ∧ Full (tOf l).1 ∧ prsT (tOf l).1 = risingP l := by
  have := of_prs l noneN hl full_none
  rw [prs_none] at this
  exact this
theorem rising_mem : ∀ {l o : List Pr} {y : Pr}, Ris o → y ∈ l.foldl insP o → y ∈ l ∨ y ∈ o
  | [], o, y, _, h => .inr h
  | p :: l, o, y, ho, h => by
    rw [List.foldl_cons] at h
    rcases rising_mem (ins_ris p ho) h with h | h
    · exact .inl (by simp [h])
    · rcases (insP_mem ho).1 h with rfl | ⟨h, _⟩
      · exact .inl (by simp)
      · exact .inr h
end Go.Proofs.YtdlljmmgkoeilaaDoor
namespace Go.Proofs.YtdlljmmgkoeilaaDoor
theorem put_comm {r : List Pr} (h : Ris r) {a b : Pr} (hk : a.k ≠ b.k) : insP (insP r a) b = insP (insP r b) a := by
  have ha := ins_ris a h
  have hb := ins_ris b h
  refine ris_ext (ins_ris b ha) (ins_ris a hb) fun y => ?_
  rw [insP_mem ha, insP_mem h, insP_mem hb, insP_mem h]
  constructor
  · rintro (rfl | ⟨rfl | ⟨h1, h2⟩, h3⟩)
    · exact .inr ⟨.inl rfl, fun e => hk e.symm⟩
    · exact .inl rfl
    · exact .inr ⟨.inr ⟨h1, h3⟩, h2⟩
  · rintro (rfl | ⟨rfl | ⟨h1, h2⟩, h3⟩)
    · exact .inr ⟨.inl rfl, hk⟩
    · exact .inl rfl
    · exact .inr ⟨.inr ⟨h1, h3⟩, h2⟩
theorem fold_inj_mem : ∀ {l o : List Pr}, Ris o → (∀ x ∈ l ++ o, ∀ y ∈ l ++ o, x.k = y.k → x = y) → ∀ y, y ∈ l.foldl insP o ↔ y ∈ l ∨ y ∈ o
  | [], o, _, _, y => by simp
  | p :: l, o, ho, hi, y => by
    rw [List.foldl_cons]
    have hm : ∀ z, z ∈ insP o p ↔ z = p ∨ z ∈ o := fun z => by
      rw [insP_mem ho]
      constructor
      · rintro (rfl | h)
        · exact .inl rfl
        · exact .inr h.1
      · rintro (rfl | h)
        · exact .inl rfl
        · by_cases hk : z.k = p.k
          · exact .inl (hi z (by simp [h]) p (by simp) hk)
          · exact .inr ⟨h, hk⟩
    have hi' : ∀ x ∈ l ++ insP o p, ∀ y ∈ l ++ insP o p, x.k = y.k → x = y := fun x hx y hy e => by
      have conv : ∀ z ∈ l ++ insP o p, z ∈ (p :: l) ++ o := fun z hz => by
        rcases List.mem_append.1 hz with h | h
        · simp [h]
        · rcases (hm z).1 h with rfl | h <;> simp [*]
      exact hi x (conv x hx) y (conv y hy) e
    rw [fold_inj_mem (ins_ris p ho) hi' y, hm, List.mem_cons]
    constructor
    · rintro (h | h | h) <;> simp [h]
    · rintro ((h | h) | h) <;> simp [h]
theorem rising_same {r back : List Pr} (h : Ris r) (hm : ∀ y, y ∈ back ↔ y ∈ r) : risingP back = r := by
  refine ris_ext (rising_ris back) h fun y => ?_
  unfold risingP
  rw [fold_inj_mem List.Pairwise.nil (fun x hx y hy e => by
    rw [List.append_nil] at hx hy
    exact ris_key h ((hm x).1 hx) ((hm y).1 hy) e), hm]
  simp
theorem longPr_mem {l : List Pr} (h : longPr l = false) {p : Pr} (hp : p ∈ l) : p.k.length ≤ 200 ∧ p.v.length ≤ 4000 := by
  unfold longPr at h
  rw [List.any_eq_false] at h
  have := h p hp
  rw [decide_eq_true_eq] at this
  omega
theorem longPr_sub {l m : List Pr} (h : longPr l = false) (hm : ∀ p ∈ m, p ∈ l) : longPr m = false := by
  unfold longPr
  rw [List.any_eq_false]
  intro p hp
  have := longPr_mem h (hm p hp)
  rw [decide_eq_true_eq]; omega
theorem rising_sub (l : List Pr) : ∀ p ∈ risingP l, p ∈ l := fun p hp => by
  rcases rising_mem List.Pairwise.nil hp with h | h
  · exact h
  · cases h
end Go.Proofs.YtdlljmmgkoeilaaDoor
namespace Go.Proofs.YtdlljmmgkoeilaaDoor
open Go.RowKit

theorem of_ok {l : List Pr} {T : Nd × Int} (hT : T = tOf l) (h0 : T.2 = 0) : longPr l = false ∧ Full T.1 ∧ prsT T.1 = risingP l := by
  cases hl : longPr l with
  | true =>
    have : T = (noneN, 2) := hT.trans (of_long l _ hl)
    rw [this] at h0
    exact absurd h0 (by decide)
  | false =>
    obtain ⟨_, h2, h3⟩ := tOf_prs hl
    rw [hT]
    exact ⟨rfl, h2, h3⟩
end Go.Proofs.YtdlljmmgkoeilaaDoor
namespace Go.Proofs.YtdlljmmgkoeilaaDoor
open Go.RowKit

/-- The same pairs, in whichever order. -/
theorem of_same {l back : List Pr} {T : Nd × Int} (hT : T = tOf l) (h0 : T.2 = 0) (hm : ∀ y, y ∈ back ↔ y ∈ risingP l) : T = tOf back := by
  obtain ⟨hl, hF, hr⟩ := of_ok hT h0
  have hb : longPr back = false := longPr_sub hl fun p hp => rising_sub l p ((hm p).1 hp)
  obtain ⟨e, hF2, hr2⟩ := tOf_prs hb
  have h1 : T.1 = (tOf back).1 := prs_inj hF hF2 (by rw [hr, hr2]; exact (rising_same (rising_ris l) hm).symm)
  exact Prod.ext h1 (h0.trans e.symm)
end Go.Proofs.YtdlljmmgkoeilaaDoor
namespace Go.Proofs.YtdlljmmgkoeilaaDoor
open Go.RowKit
theorem is_sGet : isFn Tryd.prog 26 = true := by kernel_rfl
theorem is_sPut : isFn Tryd.prog 27 = true := by kernel_rfl
theorem is_sDrop : isFn Tryd.prog 28 = true := by kernel_rfl
theorem is_sRange : isFn Tryd.prog 29 = true := by kernel_rfl
theorem is_sTold : isFn Tryd.prog 38 = true := by kernel_rfl
theorem is_sHash : isFn Tryd.prog 12 = true := by kernel_rfl
theorem is_sNew : isFn Tryd.prog 14 = true := by kernel_rfl
theorem is_sSave : isFn Tryd.prog 15 = true := by kernel_rfl
theorem is_sSaves : isFn Tryd.prog 11 = true := by kernel_rfl
theorem is_sLast : isFn Tryd.prog 33 = true := by kernel_rfl
theorem is_sKeep : isFn Tryd.prog 20 = true := by kernel_rfl
theorem is_sUndo : isFn Tryd.prog 18 = true := by kernel_rfl
theorem fSt0 : fieldOff Tryd.prog 74 0 = some 0 := by kernel_rfl
theorem fSt1 : fieldOff Tryd.prog 74 1 = some 6 := by kernel_rfl
theorem fSt2 : fieldOff Tryd.prog 74 2 = some 7 := by kernel_rfl
theorem fT0 : fieldOff Tryd.prog 71 0 = some 0 := by kernel_rfl
theorem agg_stt : aggOf Tryd.prog 71 = some (true, 6) := by kernel_rfl
theorem agg_sts : aggOf Tryd.prog 72 = some (false, 1) := by kernel_rfl
theorem sz_stt : (Tryd.prog.info? 71).map (·.size) = some 6 := by kernel_rfl
theorem sz_sts : (Tryd.prog.info? 72).map (·.size) = some 1 := by kernel_rfl
theorem sz_slB : (Tryd.prog.info? 23).map (·.size) = some 1 := by kernel_rfl
theorem slst : slOf Tryd.prog 72 = some (71, 6) := by kernel_rfl
theorem inf_st : (Tryd.prog.info? 71).map (fun i => (i.zero, i.size, i.bytes)) = some (some (.agg zN.toArray), 6, 112) := by kernel_rfl
theorem z_stt : zeroOf Tryd.prog 71 = some zN := by kernel_rfl
theorem al_stt : (Tryd.prog.info? 71).map (fun i => i.zero.map fun z => z.cells.toList) = some (some zN) := by kernel_rfl
theorem pl_stt : placesOf Tryd.prog 71 = some [(0, 6)] := by kernel_rfl
theorem z_sto : zeroOf Tryd.prog 74 = some (zN ++ [.slice none 0 0, .slice none 0 0]) := by kernel_rfl
theorem pl_sto : placesOf Tryd.prog 74 = some [(0, 6), (6, 1), (7, 1)] := by kernel_rfl
theorem isp_sto : isPtr Tryd.prog 34 = true := by kernel_rfl
abbrev Pts := (Option Addr × Nat) × (Option Addr × Nat) × (Option Addr × Nat) × (Option Addr × Nat)
/-- A node's cells, the places in one. -/
def pcN (t : Nd) (p : Pts) : List Value := ncs t p.1.1 p.1.2 p.2.1.1 p.2.1.2 p.2.2.1.1 p.2.2.1.2 p.2.2.2.1 p.2.2.2.2
theorem node_pts {W : World} {F : Nat → Prop} {t : Nd} {cs : List Value} (h : RdL W F (dN t) cs) : ∃ p, cs = pcN t p := by
  obtain ⟨Ap, cp, Av, cv, Ak, ck, Ah, ch, e, -⟩ := h.node
  exact ⟨((Ap, cp), (Av, cv), (Ak, ck), (Ah, ch)), e⟩
theorem Blk.pre {W : World} {g : Nat} {T : TypeId} {vs rest : List Value} (h : Blk W g T (vs ++ rest)) : ∀ j v, vs[j]? = some v → W.cell? ((⟨g, 0, none⟩ : Addr).add j) = some v :=
  h.run 0 vs fun j v hj => by rw [Nat.zero_add, List.getElem?_append_left (List.getElem?_eq_some_iff.1 hj).1]; exact hj
/-- A store, in the state of whoever holds it. -/
def Sto (w : World) (gs : List (Option Nat)) (W : World) (g : Nat) (t : Nd) (sv : Value) (L : Lc) (R : List Row) (fs : List Fact) : Prop :=
  ∃ p Am nm cm, St w gs W ((g, 74, pcN t p ++ [sv, .slice Am nm cm]) :: L) R (.dat false (dN t) (pcN t p) :: fs)
section
variable {w W : World} {gs : List (Option Nat)} {g : Nat} {t : Nd} {sv : Value} {L : Lc} {R : List Row} {fs : List Fact}
set_option maxRecDepth 100000 in
set_option maxHeartbeats 2000000 in
theorem told_any {p : Pts} {A0 : Option Addr} {n0 c0 : Nat} (M : St w gs W ((g, 74, pcN t p ++ [sv, .slice A0 n0 c0]) :: L) R fs) {t0 : Nd} {m : Option (List UInt8)} {e : Int} {Am : Option Addr} {nm cm : Nat}
    (hm : RdD W (Fd W (some g :: own L R gs)) (dB (m.getD [])) (.slice Am nm cm)) (hw : WayOk t0 m e) (hz : sz t0 ≤ 100000000) :
    Calls Tryd.prog 38 #[.pointer (some ⟨g, 0, none⟩), .slice Am nm cm, .int .i64 e] W fun en W' => en = .returned (.int .i64 e) ∧ ∃ A' n' c', St w gs W' ((g, 74, pcN t p ++ [sv, .slice A' n' c']) :: L) R fs := by
  refine calls_ev (args := [.pointer (some ⟨g, 0, none⟩), .slice Am nm cm, .int .i64 e]) mixed Tryd.func38 rfl (by kernel_rfl) ?_
  refine p_eq rfl rfl (fun he => ?_) (fun he => ?_)
  rotate_left
  · exact ⟨rfl, _, _, _, M⟩
  cases m with
  | none => exact absurd he hw
  | some r =>
  obtain ⟨-, hl⟩ := hw
  have hr : RdD W (Fd W (some g :: own L R gs)) (dB r) (.slice Am nm cm) := hm
  have hnm : nm = r.length := hr.slen
  have M := M.add (f := .dat false [dB r] [.slice Am nm cm]) (RdL.one (hr.to fun b hb => ⟨rfl, hb.1, hb.2, fun e => by cases e⟩))
  refine s_bslice0 M slb ?_
  clear M; rintro g2 W M
  refine s_appB (l := []) M rfl rfl (by first | with_reducible exact M.rd_0 | with_reducible exact M.rd_1 | with_reducible exact M.rd_2 | with_reducible exact M.rd_3 | with_reducible exact M.rd_4 | with_reducible exact M.rd_5 | with_reducible exact M.rd_6 | with_reducible exact M.rd_7 | with_reducible exact M.rd_8 | with_reducible exact M.rd_9 | with_reducible exact M.rd_10 | with_reducible exact M.rd_11) (by omega) ?_
  clear M; rintro A' c' W M -
  refine p_nil rfl ?_
  refine p_fld fSt2 rfl ?_
  refine s_set 0 (off := 7) (.slice A' (0 + nm) c') (pcN t p ++ [sv, .slice A' (0 + nm) c']) M rfl sz_slB rfl rfl rfl (by show 7 < 8; decide) rfl ?_
  clear M; rintro W M
  dsimp only [setL] at M
  exact ⟨rfl, _, _, _, M.dropR.fsub _ (fun f hf => List.mem_cons_of_mem _ hf)⟩
set_option maxRecDepth 100000 in
set_option maxHeartbeats 2000000 in
/-- What a store answers: a key's value. -/
theorem sGet_any (hS : Sto w gs W g t sv L R fs) (hz : sz t ≤ 1000000) {key : List UInt8} {A : Option Addr} {n c : Nat} (hk : RdD W (Fd W (some g :: own L R gs)) (dB key) (.slice A n c)) :
    Calls Tryd.prog 26 #[.pointer (some ⟨g, 0, none⟩), .slice A n c] W fun e W' => ∃ A' n' c', e = .returned (.tuple #[.slice A' n' c', .bool (tGet t key).has, .int .i64 (tGet t key).e]) ∧ Sto w gs W' g t sv L R (.dat false [dB (tGet t key).v] [.slice A' n' c'] :: fs) := by
  refine calls_ev (args := [.pointer (some ⟨g, 0, none⟩), .slice A n c]) mixed Tryd.func26 rfl (by kernel_rfl) ?_
  obtain ⟨p, A0, n0, c0, M⟩ := hS
  refine p_peq isp_sto rfl rfl ?_
  refine p_nil rfl ?_
  refine p_fld fSt0 rfl ?_
  refine p_fld fT0 rfl ?_
  refine v_loadN (pcN t p) agg_nd rfl rfl (M.B 0 rfl).pre ?_
  refine cc is_tGet (tGet_any t hz _ _ (pcN t p) key A n c (M.da 0 rfl) hk M.olt) ?_
  rintro e W1 ⟨A', n', c', Am, nm, cm, rfl, hv, hm, hb⟩
  replace M := M.callF2 hb hv hm.toD
  refine ⟨_, rfl, ?_⟩
  refine cc is_sTold (told_any M (M.d1 1 rfl) (wayGet t key) (by omega)) ?_
  rintro e W2 ⟨rfl, A2, n2, c2, M⟩
  refine ⟨_, rfl, ?_⟩
  refine ⟨A', n', c', rfl, p, A2, n2, c2, ?_⟩
  have M2 := M.addD (M.d1 0 rfl)
  exact M2.fsub _ (by intro f hf; simp only [List.mem_cons] at hf ⊢; rcases hf with h | h | h <;> simp [h])
/-- The first cells of a block, written over. -/
theorem pts_set {cs : List Value} {t t' : Nd} {p p' : Pts} {q : List Value} (e : cs = pcN t' p') : (pcN t p ++ q).take 0 ++ cs ++ (pcN t p ++ q).drop (0 + 6) = pcN t' p' ++ q := by subst e; rfl
set_option maxRecDepth 100000 in
set_option maxHeartbeats 2000000 in
theorem sPut_any (hS : Sto w gs W g t sv L R fs) (hz : sz t < 1000000) {key val : List UInt8} {A B : Option Addr} {n c m d : Nat} (hk : RdD W (Fd W (some g :: own L R gs)) (dB key) (.slice A n c)) (hv : RdD W (Fd W (some g :: own L R gs)) (dB val) (.slice B m d)) :
    Calls Tryd.prog 27 #[.pointer (some ⟨g, 0, none⟩), .slice A n c, .slice B m d] W fun e W' => e = .returned (.int .i64 (tPut t key val).2.2) ∧ Sto w gs W' g (stepT t 2 key val) sv L R fs := by
  refine calls_ev (args := [.pointer (some ⟨g, 0, none⟩), .slice A n c, .slice B m d]) mixed Tryd.func27 rfl (by kernel_rfl) ?_
  obtain ⟨p, A0, n0, c0, M⟩ := hS
  refine p_peq isp_sto rfl rfl ?_
  refine p_nil rfl ?_
  refine p_fld fSt0 rfl ?_
  refine p_fld fT0 rfl ?_
  refine v_loadN (pcN t p) agg_nd rfl rfl (M.B 0 rfl).pre ?_
  refine cc is_tPut (tPut_any t hz key val _ _ (pcN t p) _ _ _ _ _ _ (M.da 0 rfl) hk hv M.olt) ?_
  rintro e W1 ⟨cs', Am, nm, cm, rfl, rv, hm, hb⟩
  have hw := wayPut t key val
  have hs : stepT t 2 key val = if (tPut t key val).2.2 = 0 then (tPut t key val).1 else t := by unfold stepT; rw [if_pos rfl]
  obtain ⟨q, hq⟩ : ∃ q, q = tPut t key val := ⟨_, rfl⟩
  rw [← hq] at rv hm hw hs ⊢
  obtain ⟨p', e'⟩ := node_pts rv
  replace M := M.callFD hb rv hm.toD
  clear rv hm hb
  refine ⟨_, rfl, ?_⟩
  refine s_alloc (zN) M al_nd ?_
  clear M
  rintro g7 W M
  refine s_storeA 0 cs' M rfl sz_nd rfl rfl (by rw [e']; rfl) ((M.da 0 rfl).ones (dN_one _)) rfl ?_
  clear M; rintro W M
  dsimp only [setL] at M
  refine p_eq rfl rfl (fun he => ?_) (fun he => ?_)
  · have he : q.2.2 = 0 := he
    rw [if_pos he] at hs
    refine v_loadN cs' agg_nd rfl (by rw [e']; rfl) (M.run 0 rfl) ?_
    refine p_nil rfl ?_
    refine p_fld fSt0 rfl ?_
    refine p_fld fT0 rfl ?_
    refine s_storeP 1 (off := 0) cs' (pcN q.1 p' ++ [sv, .slice A0 n0 c0]) M rfl sz_nd rfl rfl (by rw [e']; rfl) ((M.da 0 rfl).ones (dN_one _)) (by show 6 ≤ 8; decide) (pts_set e') ?_
    clear M; rintro W M
    dsimp only [setL] at M
    replace M := M.dropL
    refine cc is_sTold (told_any M (M.d1 1 rfl) hw (by omega)) ?_
    rintro e W2 ⟨rfl, A2, n2, c2, M⟩
    refine ⟨_, rfl, ?_⟩
    refine ⟨rfl, p', A2, n2, c2, ?_⟩
    rw [hs, ← e'] at *
    exact M.fsub _ (by intro f hf; simp only [List.mem_cons] at hf ⊢; rcases hf with h | h <;> simp [h])
  · have he : ¬ q.2.2 = 0 := he
    rw [if_neg he] at hs
    replace M := M.dropL
    refine cc is_sTold (told_any M (M.d1 1 rfl) hw (by omega)) ?_
    rintro e W2 ⟨rfl, A2, n2, c2, M⟩
    refine ⟨_, rfl, ?_⟩
    refine ⟨rfl, p, A2, n2, c2, ?_⟩
    rw [hs]
    exact M.fsub _ (by intro f hf; simp only [List.mem_cons] at hf ⊢; rcases hf with h | h <;> simp [h])
set_option maxRecDepth 100000 in
set_option maxHeartbeats 2000000 in
theorem sDrop_any (hS : Sto w gs W g t sv L R fs) (hz : sz t < 500000) {key : List UInt8} (val : List UInt8) {A : Option Addr} {n c : Nat} (hk : RdD W (Fd W (some g :: own L R gs)) (dB key) (.slice A n c)) :
    Calls Tryd.prog 28 #[.pointer (some ⟨g, 0, none⟩), .slice A n c] W fun e W' => e = .returned (.tuple #[.bool (tDrop t key).has, .int .i64 (tDrop t key).e]) ∧ Sto w gs W' g (stepT t 3 key val) sv L R fs := by
  refine calls_ev (args := [.pointer (some ⟨g, 0, none⟩), .slice A n c]) mixed Tryd.func28 rfl (by kernel_rfl) ?_
  obtain ⟨p, A0, n0, c0, M⟩ := hS
  refine p_peq isp_sto rfl rfl ?_
  refine p_nil rfl ?_
  refine p_fld fSt0 rfl ?_
  refine p_fld fT0 rfl ?_
  refine v_loadN (pcN t p) agg_nd rfl rfl (M.B 0 rfl).pre ?_
  refine cc is_tDrop (tDrop_any t hz key _ _ (pcN t p) _ _ _ (M.da 0 rfl) hk M.olt) ?_
  rintro e W1 ⟨cs', Am, nm, cm, rfl, rv, hm, hb⟩
  have hw := wayDrop t key
  have hs : stepT t 3 key val = if (tDrop t key).e = 0 then (tDrop t key).t else t := by unfold stepT; rw [if_neg (by decide), if_pos rfl]
  obtain ⟨q, hq⟩ : ∃ q, q = tDrop t key := ⟨_, rfl⟩
  rw [← hq] at rv hm hw hs ⊢
  obtain ⟨p', e'⟩ := node_pts rv
  replace M := M.callFD hb rv hm.toD
  clear rv hm hb
  refine ⟨_, rfl, ?_⟩
  refine s_alloc (zN) M al_nd ?_
  clear M
  rintro g7 W M
  refine s_storeA 0 cs' M rfl sz_nd rfl rfl (by rw [e']; rfl) ((M.da 0 rfl).ones (dN_one _)) rfl ?_
  clear M; rintro W M
  dsimp only [setL] at M
  refine p_eq rfl rfl (fun he => ?_) (fun he => ?_)
  · have he : q.e = 0 := he
    rw [if_pos he] at hs
    refine v_loadN cs' agg_nd rfl (by rw [e']; rfl) (M.run 0 rfl) ?_
    refine p_nil rfl ?_
    refine p_fld fSt0 rfl ?_
    refine p_fld fT0 rfl ?_
    refine s_storeP 1 (off := 0) cs' (pcN q.t p' ++ [sv, .slice A0 n0 c0]) M rfl sz_nd rfl rfl (by rw [e']; rfl) ((M.da 0 rfl).ones (dN_one _)) (by show 6 ≤ 8; decide) (pts_set e') ?_
    clear M; rintro W M
    dsimp only [setL] at M
    replace M := M.dropL
    refine cc is_sTold (told_any M (M.d1 1 rfl) hw (by omega)) ?_
    rintro e W2 ⟨rfl, A2, n2, c2, M⟩
    refine ⟨_, rfl, ?_⟩
    refine ⟨rfl, p', A2, n2, c2, ?_⟩
    rw [hs, ← e'] at *
    exact M.fsub _ (by intro f hf; simp only [List.mem_cons] at hf ⊢; rcases hf with h | h <;> simp [h])
  · have he : ¬ q.e = 0 := he
    rw [if_neg he] at hs
    replace M := M.dropL
    refine cc is_sTold (told_any M (M.d1 1 rfl) hw (by omega)) ?_
    rintro e W2 ⟨rfl, A2, n2, c2, M⟩
    refine ⟨_, rfl, ?_⟩
    refine ⟨rfl, p, A2, n2, c2, ?_⟩
    rw [hs]
    exact M.fsub _ (by intro f hf; simp only [List.mem_cons] at hf ⊢; rcases hf with h | h <;> simp [h])
set_option maxRecDepth 100000 in
set_option maxHeartbeats 2000000 in
theorem sRange_any (hS : Sto w gs W g t sv L R fs) (hz : sz t ≤ 1000000) {low high : List UInt8} {most : Int} {A B : Option Addr} {n c m d : Nat} (hk : RdD W (Fd W (some g :: own L R gs)) (dB low) (.slice A n c)) (hv : RdD W (Fd W (some g :: own L R gs)) (dB high) (.slice B m d)) (hn : n ≤ 500000 ∧ m ≤ 500000) :
    Calls Tryd.prog 29 #[.pointer (some ⟨g, 0, none⟩), .slice A n c, .slice B m d, .int .i64 most] W fun e W' => ∃ A' n' c', e = .returned (.tuple #[.slice A' n' c', .int .i64 (rangeP t low high most false).e]) ∧ Sto w gs W' g t sv L R fs := by
  refine calls_ev (args := [.pointer (some ⟨g, 0, none⟩), .slice A n c, .slice B m d, .int .i64 most]) mixed Tryd.func29 rfl (by kernel_rfl) ?_
  obtain ⟨p, A0, n0, c0, M⟩ := hS
  refine p_peq isp_sto rfl rfl ?_
  refine p_nil rfl ?_
  refine p_fld fSt0 rfl ?_
  refine p_fld fT0 rfl ?_
  refine v_loadN (pcN t p) agg_nd rfl rfl (M.B 0 rfl).pre ?_
  refine cc is_range (srange_any t low high most hz _ _ (pcN t p) _ _ _ _ _ _ (M.da 0 rfl) hk hv M.olt hn) ?_
  rintro e W1 ⟨A', n', c', Am, nm, cm, rfl, rv, hm, hb⟩
  have hw := wayRange t low high most
  replace M := (M.call hb).addD hm.toD
  clear rv hm hb
  refine ⟨_, rfl, ?_⟩
  refine cc is_sTold (told_any M (M.d1 0 rfl) hw (by omega)) ?_
  rintro e W2 ⟨rfl, A2, n2, c2, M⟩
  refine ⟨_, rfl, ?_⟩
  exact ⟨A', n', c', rfl, p, A2, n2, c2, M.fsub _ (by intro f hf; simp only [List.mem_cons] at hf ⊢; rcases hf with h | h <;> simp [h])⟩
end
end Go.Proofs.YtdlljmmgkoeilaaDoor
namespace Go.Proofs.YtdlljmmgkoeilaaDoor
open Go.RowKit
theorem dNs_drop : ∀ (ks : List Nd) (i : Nat), (dNs ks).drop (i * 6) = dNs (ks.drop i)
  | ks, 0 => by rw [Nat.zero_mul, List.drop_zero, List.drop_zero]
  | [], i + 1 => by rw [dNs]; simp [dNs]
  | k :: ks, i + 1 => by
    rw [dNs, List.drop_succ_cons, ← dNs_drop ks i, show (i + 1) * 6 = (dN k).length + i * 6 by rw [dN_len]; omega, List.drop_length_add_append]
theorem dNs_take : ∀ (ks : List Nd) (i : Nat), (dNs ks).take (i * 6) = dNs (ks.take i)
  | ks, 0 => by rw [Nat.zero_mul, List.take_zero, List.take_zero, dNs]
  | [], i + 1 => by rw [dNs]; simp [dNs]
  | k :: ks, i + 1 => by
    rw [dNs, List.take_succ_cons, dNs, ← dNs_take ks i, show (i + 1) * 6 = (dN k).length + i * 6 by rw [dN_len]; omega, List.take_length_add_append]
theorem RdD.cutK {W : World} {F : Nat → Prop} {ks : List Nd} {A : Option Addr} {n c i j m : Nat} (h : RdD W F (dKs ks) (.slice A n c)) (hij : i ≤ j) (hj : j ≤ n) (hm : j ≤ m) : RdD W F (dKs ((ks.drop i).take (j - i))) (.slice (slA A m i 6) (j - i) (m - i)) := by
  have hn := h.slen
  have h2 := RdD.cut h hij hj hm
  rw [dNs_drop, dNs_take] at h2
  have e : ((ks.drop i).take (j - i)).length = j - i := by rw [List.length_take, List.length_drop]; omega
  unfold dKs
  rw [e]
  exact h2
end Go.Proofs.YtdlljmmgkoeilaaDoor
namespace Go.Proofs.YtdlljmmgkoeilaaDoor
open Go.RowKit
section
variable {w W : World} {gs : List (Option Nat)} {g : Nat} {t : Nd} {sv : Value} {L : Lc} {R : List Row} {fs : List Fact}
/-- A store: what is saved may grow. -/
def StG (w : World) (gs : List (Option Nat)) (W : World) (g : Nat) (t : Nd) (ss : List Nd) (L : Lc) (R : List Row) (fs : List Fact) : Prop :=
  ∃ A c xs, Sto w gs W g t (.slice A ss.length c) L (⟨71, 6, A, ss.length, c, xs⟩ :: R) (.dat false (dNs ss) xs :: fs)
/-- A store: what is saved grows no more. -/
def StF (w : World) (gs : List (Option Nat)) (W : World) (g : Nat) (t : Nd) (ss : List Nd) (L : Lc) (R : List Row) (fs : List Fact) : Prop :=
  ∃ A c, Sto w gs W g t (.slice A ss.length c) L R (.dat false [dKs ss] [.slice A ss.length c] :: fs)
theorem StG.frz {ss : List Nd} (h : StG w gs W g t ss L R fs) : StF w gs W g t ss L R fs := by
  obtain ⟨A, c, xs, p, Am, nm, cm, M⟩ := h
  refine ⟨A, c, p, Am, nm, cm, ?_⟩
  have M2 := M.frzR (fr := false) (ds := dNs ss) (M.dt 1 rfl)
  exact M2.fsub _ (by intro f hf; simp only [List.mem_cons] at hf ⊢; rcases hf with h | h | h <;> simp [h])
theorem Sto.fsub {fs' : List Fact} (h : Sto w gs W g t sv L R fs) (hf : ∀ f ∈ fs', f ∈ fs) : Sto w gs W g t sv L R fs' := by
  obtain ⟨p, Am, nm, cm, M⟩ := h
  exact ⟨p, Am, nm, cm, M.fsub _ (by intro f h; simp only [List.mem_cons] at h ⊢; rcases h with h | h <;> simp [h, hf])⟩
set_option maxRecDepth 100000 in
set_option maxHeartbeats 2000000 in
/-- New: of whatever trie. -/
theorem sNew_any (M : St w gs W L R fs) {cs : List Value} (hr : RdL W (Fd W (own L R gs)) (dN t) cs) (hz : sz t < 100000000) :
    Calls Tryd.prog 14 #[.agg cs.toArray] W fun e W' => (checkE t ≠ 0 ∧ e = .returned (.tuple #[.pointer none, .int .i64 (checkE t)]) ∧ St w gs W' L R fs) ∨ (checkE t = 0 ∧ ∃ g, e = .returned (.tuple #[.pointer (some ⟨g, 0, none⟩), .int .i64 0]) ∧ StG w gs W' g t [] L R fs) := by
  refine calls_ev (args := [.agg cs.toArray]) mixed Tryd.func14 rfl (by kernel_rfl) ?_
  have hcl := hr.len
  rw [dN_len] at hcl
  have M := M.addL hr
  clear hr
  refine s_box (cs) M rfl ?_
  clear M
  rintro g1 W M
  refine v_loadN cs agg_nd rfl hcl (M.run 0 rfl) ?_
  refine cc is_ncheck (ncheck_any t (by omega) _ _ cs (M.da 0 rfl) M.olt) ?_
  rintro e W1 ⟨rfl, hb⟩
  replace M := M.call hb
  clear hb
  refine ⟨_, rfl, ?_⟩
  obtain ⟨q, hq⟩ : ∃ q, q = checkE t := ⟨_, rfl⟩
  rw [← hq]
  refine p_ne rfl rfl (fun he => ?_) (fun he => ?_)
  rotate_left
  · exact .inl ⟨he, rfl, M.dropL.fsub _ (fun f hf => List.mem_cons_of_mem _ hf)⟩
  have he : q = 0 := he
  refine v_loadN cs agg_nd rfl hcl (M.run 0 rfl) ?_
  refine cc is_ncopy (ncopy_any 100000000 (by decide) t hz _ _ cs (M.da 0 rfl) M.olt) ?_
  rintro e W2 ⟨cs', rfl, r9, hb⟩
  obtain ⟨p', e'⟩ := node_pts r9
  replace M := M.callF hb r9
  clear r9 hb
  refine ⟨_, rfl, ?_⟩
  subst e'
  refine p_build (vs := pcN t p') pl_stt z_stt rfl ?_
  refine p_build (vs := pcN t p' ++ [.slice none 0 0, .slice none 0 0]) pl_sto z_sto rfl ?_
  refine s_box (pcN t p' ++ [.slice none 0 0, .slice none 0 0]) M rfl ?_
  clear M; rintro g2 W M
  refine .inr ⟨he, g2, rfl, none, 0, [], p', none, 0, 0, ?_⟩
  have M2 := (((M.swp.dropL).addL (M.swp.dropL.da 0 rfl)).nilR 71 6).addL (ds := dNs []) (cs := []) RdL.nil_
  exact M2.fsub _ (by intro f hf; simp only [List.mem_cons] at hf ⊢; rcases hf with h | h | h <;> simp [h])
set_option maxRecDepth 100000 in
set_option maxHeartbeats 2000000 in
/-- Hash: of what it holds. -/
theorem sHash_any (hG : GL w gs) (hS : Sto w gs W g t sv L R fs) (hz : sz t ≤ 90000000) :
    Calls Tryd.prog 12 #[.pointer (some ⟨g, 0, none⟩)] W fun e W' => ∃ A n c, e = .returned (.slice A n c) ∧ Sto w gs W' g t sv L R (.dat true [dB (hashR t)] [.slice A n c] :: fs) := by
  refine calls_ev (args := [.pointer (some ⟨g, 0, none⟩)]) mixed Tryd.func12 rfl (by kernel_rfl) ?_
  obtain ⟨p, A0, n0, c0, M⟩ := hS
  refine p_peq isp_sto rfl rfl ?_
  refine p_nil rfl ?_
  refine p_fld fSt0 rfl ?_
  refine p_fld fT0 rfl ?_
  refine v_loadN (pcN t p) agg_nd rfl rfl (M.B 0 rfl).pre ?_
  refine cc is_nHash (nHash_any t hz _ _ _ (M.gl hG) (M.da 0 rfl) M.olt) ?_
  rintro e W1 ⟨A, n, c, rfl, o, hb⟩
  replace M := M.callO hb o
  refine ⟨_, rfl, ?_⟩
  exact ⟨A, n, c, rfl, p, A0, n0, c0, M.fsub _ (by intro f hf; simp only [List.mem_cons] at hf ⊢; rcases hf with h | h | h <;> simp [h])⟩
set_option maxRecDepth 100000 in
set_option maxHeartbeats 2000000 in
theorem sSaves_any {A : Option Addr} {n c : Nat} (hS : Sto w gs W g t (.slice A n c) L R fs) :
    Calls Tryd.prog 11 #[.pointer (some ⟨g, 0, none⟩)] W fun e W' => e = .returned (.int .i64 (n : Int)) ∧ W' = W := by
  refine calls_ev (args := [.pointer (some ⟨g, 0, none⟩)]) mixed Tryd.func11 rfl (by kernel_rfl) ?_
  obtain ⟨p, A0, n0, c0, M⟩ := hS
  refine p_peq isp_sto rfl rfl ?_
  refine p_nil rfl ?_
  refine p_fld fSt1 rfl ?_
  refine v_load agg_sts rfl ((M.B 0 rfl).at_ rfl) ?_
  refine p_len slst rfl ?_
  exact ⟨rfl, rfl⟩
set_option maxRecDepth 100000 in
set_option maxHeartbeats 2000000 in
/-- Save: so long as there are fewer than twenty. -/
theorem sSave_any {ss : List Nd} (hS : StG w gs W g t ss L R fs) (hn : ss.length < 20) :
    Calls Tryd.prog 15 #[.pointer (some ⟨g, 0, none⟩)] W fun e W' => e = .returned (.int .i64 0) ∧ StG w gs W' g t (ss ++ [t]) L R fs := by
  refine calls_ev (args := [.pointer (some ⟨g, 0, none⟩)]) mixed Tryd.func15 rfl (by kernel_rfl) ?_
  obtain ⟨A, c, xs, p, A0, n0, c0, M⟩ := hS
  refine p_peq isp_sto rfl rfl ?_
  refine p_nil rfl ?_
  refine p_fld fSt1 rfl ?_
  refine v_load agg_sts rfl ((M.B 0 rfl).at_ rfl) ?_
  refine p_len slst rfl ?_
  refine p_eq rfl rfl (fun h => absurd (show ((ss.length : Nat) : Int) = 20 from h) (by omega)) (fun _ => ?_)
  replace M := M.drew
  refine drZ 13 (Kp w gs [(g, 74, pcN t p ++ [.slice A ss.length c, .slice A0 n0 c0])] []) [(0, true), (1, true), (2, true), (3, true), (4, true), (5, true), (6, true), (7, true), (8, true), (9, false), (10, false), (11, true), (12, true)] (by kernel_rfl) (M.kp (by simp) (by simp)) ?_
  refine p_nil rfl ?_
  refine p_fld fSt1 rfl ?_
  refine t_load agg_sts rfl (fun W K => (K.B 0 rfl).at_ rfl) ?_
  refine p_nil rfl ?_
  refine p_fld fSt0 rfl ?_
  refine t_loadN (pcN t p) agg_stt rfl rfl (fun W K => (K.B 0 rfl).pre) ?_
  refine s_bslice (fr := false) (ds := dN t) (pcN t p) M slst z_stt rfl (by decide) rfl (M.dw 0 rfl) (dN_len t) ?_
  clear M; rintro g9 W M
  refine ⟨(M.kp (by simp) (by simp)), ?_⟩
  obtain ⟨news, hrd, hnd⟩ := (M.d1 0 rfl).reads (fun b h => h.1)
  replace M := M.addL hnd
  refine s_app (z := .agg zN.toArray) (news := news) M Tryd.underlying72 inf_st rfl (by decide) rfl rfl hrd (hnd.ones (dN_one t)) ⟨by omega, by decide⟩ ?_
  clear M; rintro A' c' W M -
  refine ⟨(M.kp (by simp) (by simp)), ?_⟩
  refine p_nil rfl ?_
  refine p_fld fSt1 rfl ?_
  refine s_set 0 (off := 6) (.slice A' (ss.length + 1) c') (pcN t p ++ [.slice A' (ss.length + 1) c', .slice A0 n0 c0]) M rfl sz_sts rfl rfl rfl (by show 6 < 8; decide) rfl ?_
  clear M; rintro W M
  dsimp only [setL] at M
  have e1 : (ss ++ [t]).length = ss.length + 1 := by simp
  have e2 : dNs (ss ++ [t]) = dNs ss ++ dN t := by rw [dNs_appN, dNs, dNs, List.append_nil]
  refine ⟨rfl, A', c', xs ++ news, p, A0, n0, c0, ?_⟩
  have hd := (M.da 3 rfl).app (M.da 0 rfl)
  rw [← e2] at hd
  rw [e1]
  exact (M.addL hd).fsub _ (by intro f hf; simp only [List.mem_cons] at hf ⊢; rcases hf with h | h | h <;> simp [h])
set_option maxRecDepth 100000 in
set_option maxHeartbeats 2000000 in
/-- What was saved last, out of the row. -/
theorem sLast_any {ss : List Nd} {t0 : Nd} (hS : StF w gs W g t (ss ++ [t0]) L R fs) (hn : ss.length < 100) :
    Calls Tryd.prog 33 #[.pointer (some ⟨g, 0, none⟩)] W fun e W' => ∃ cs A c, e = .returned (.tuple #[.agg cs.toArray, .int .i64 0]) ∧ Sto w gs W' g t (.slice A ss.length c) L R (.dat false (dN t0) cs :: .dat false [dKs ss] [.slice A ss.length c] :: fs) := by
  refine calls_ev (args := [.pointer (some ⟨g, 0, none⟩)]) mixed Tryd.func33 rfl (by kernel_rfl) ?_
  obtain ⟨A, c, p, A0, n0, c0, M⟩ := hS
  have el : (ss ++ [t0]).length = ss.length + 1 := by simp
  rw [el] at M
  have hk : (ss ++ [t0])[ss.length]? = some t0 := by simp
  refine s_alloc (zN) M al_stt ?_
  clear M
  rintro g2 W M
  refine p_peq isp_sto rfl rfl ?_
  refine p_nil rfl ?_
  refine p_fld fSt1 rfl ?_
  refine v_load agg_sts rfl ((M.B 1 rfl).at_ rfl) ?_
  refine p_len slst rfl ?_
  refine p_subN (b := 1) rfl rfl (by omega) (by omega) ?_
  refine p_lt rfl rfl (fun h => absurd (show (((ss.length + 1 - 1 : Nat)) : Int) < 0 from h) (by omega)) (fun _ => ?_)
  have es1 : ss.length + 1 - 1 = ss.length := by omega
  obtain ⟨b1, o1, es, rfl, hl1, M'⟩ := M.kid (M.d1 1 rfl) hk
  replace M := M'; clear M'
  refine p_nil rfl ?_
  refine p_fld fSt1 rfl ?_
  refine v_load agg_sts rfl ((M.B 1 rfl).at_ rfl) ?_
  refine p_at (i := ss.length) slst rfl rfl (by rw [es1]) (by omega) ?_
  refine v_loadN es agg_stt rfl hl1 (M.lc 0 rfl) ?_
  refine s_alloc (zN) M al_stt ?_
  clear M
  rintro g5 W M
  refine s_storeA 0 es M rfl sz_stt rfl rfl hl1 ((M.da 1 rfl).ones (dN_one _)) rfl ?_
  clear M; rintro W M
  dsimp only [setL] at M
  refine p_nil rfl ?_
  refine p_fld fSt1 rfl ?_
  refine v_load agg_sts rfl ((M.B 2 rfl).at_ rfl) ?_
  have hnc : ss.length + 1 ≤ c := by obtain ⟨A', c', e, h, -⟩ := (M.d1 3 rfl).open_; injection e with _ _ e; subst e; rw [← el]; exact h
  refine p_slice (i := 0) (j := ss.length) (m := ss.length) slst rfl rfl (bnd_e rfl (by rw [es1])) (bnd_e rfl (by rw [es1])) rfl (Nat.zero_le _) (Nat.le_refl _) (by omega) ?_
  have hcut := RdD.cutK (M.d1 3 rfl) (i := 0) (j := ss.length) (m := ss.length) (Nat.zero_le _) (by omega) (Nat.le_refl _)
  rw [slA0, Nat.sub_zero, List.drop_zero, List.take_left'] at hcut
  rotate_left
  · rfl
  rw [slA0, Nat.sub_zero]
  refine p_nil rfl ?_
  refine p_fld fSt1 rfl ?_
  replace M := M.addD hcut
  clear hcut
  refine s_set 2 (off := 6) (.slice (some ⟨b1, o1, none⟩) ss.length ss.length) (pcN t p ++ [.slice (some ⟨b1, o1, none⟩) ss.length ss.length, .slice A0 n0 c0]) M rfl sz_sts rfl rfl rfl (by show 6 < 8; decide) rfl ?_
  clear M; rintro W M
  dsimp only [setL] at M
  refine v_loadN es agg_stt rfl hl1 (M.run 0 rfl) ?_
  refine s_storeA 1 es M rfl sz_stt rfl rfl hl1 ((M.da 2 rfl).ones (dN_one _)) rfl ?_
  clear M; rintro W M
  dsimp only [setL] at M
  refine c_loadN es agg_stt rfl hl1 (M.run 1 rfl) ?_
  refine ⟨es, some ⟨b1, o1, none⟩, ss.length, rfl, p, A0, n0, c0, ?_⟩
  exact M.dropL.dropL.fsub _ (by intro f hf; simp only [List.mem_cons] at hf ⊢; rcases hf with h | h | h | h <;> simp [h])
set_option maxRecDepth 100000 in
set_option maxHeartbeats 2000000 in
/-- Nothing is saved. -/
theorem sLast_none (hS : StF w gs W g t [] L R fs) :
    Calls Tryd.prog 33 #[.pointer (some ⟨g, 0, none⟩)] W fun e W' => ∃ cs : List Value, cs.length = 6 ∧ (∀ u ∈ cs, u.oneCell' = true) ∧ e = .returned (.tuple #[.agg cs.toArray, .int .i64 4]) ∧ StF w gs W' g t [] L R fs := by
  refine calls_ev (args := [.pointer (some ⟨g, 0, none⟩)]) mixed Tryd.func33 rfl (by kernel_rfl) ?_
  obtain ⟨A, c, p, A0, n0, c0, M⟩ := hS
  refine s_alloc (zN) M al_stt ?_
  clear M
  rintro g2 W M
  refine p_peq isp_sto rfl rfl ?_
  refine p_nil rfl ?_
  refine p_fld fSt1 rfl ?_
  refine v_load agg_sts rfl ((M.B 1 rfl).at_ rfl) ?_
  refine p_len slst rfl ?_
  refine p_sub (r := -1) rfl rfl rfl ?_
  refine p_lt rfl rfl (fun _ => ?_) (fun h => absurd (by decide) h)
  refine p_build (vs := zN) pl_stt z_stt rfl ?_
  refine s_storeA 0 zN M rfl sz_stt rfl rfl rfl (all1 rfl) rfl ?_
  clear M; rintro W M
  dsimp only [setL] at M
  refine c_loadN zN agg_stt rfl rfl (M.run 0 rfl) ?_
  exact ⟨zN, rfl, all1 rfl, rfl, A, c, p, A0, n0, c0, M.dropL⟩
set_option maxRecDepth 100000 in
set_option maxHeartbeats 2000000 in
theorem sKeep_any {ss : List Nd} {t0 : Nd} (hS : StF w gs W g t (ss ++ [t0]) L R fs) (hn : ss.length < 100) :
    Calls Tryd.prog 20 #[.pointer (some ⟨g, 0, none⟩)] W fun e W' => e = .returned (.int .i64 0) ∧ StF w gs W' g t ss L R fs := by
  refine calls_ev (args := [.pointer (some ⟨g, 0, none⟩)]) mixed Tryd.func20 rfl (by kernel_rfl) ?_
  refine cc is_sLast (sLast_any hS hn) ?_
  rintro e W ⟨cs, A, c, rfl, p, A0, n0, c0, M⟩
  refine ⟨_, rfl, ?_⟩
  have hcl := (M.da 1 rfl).len
  rw [dN_len] at hcl
  refine s_alloc (zN) M al_stt ?_
  clear M
  rintro g3 W M
  refine s_storeA 0 cs M rfl sz_stt rfl rfl hcl ((M.da 1 rfl).ones (dN_one _)) rfl ?_
  clear M; rintro W M
  dsimp only [setL] at M
  exact ⟨rfl, A, c, p, A0, n0, c0, M.dropL.fsub _ (by intro f hf; simp only [List.mem_cons] at hf ⊢; rcases hf with h | h | h <;> simp [h])⟩
set_option maxRecDepth 100000 in
set_option maxHeartbeats 2000000 in
theorem sUndo_any {ss : List Nd} {t0 : Nd} (hS : StF w gs W g t (ss ++ [t0]) L R fs) (hn : ss.length < 100) :
    Calls Tryd.prog 18 #[.pointer (some ⟨g, 0, none⟩)] W fun e W' => e = .returned (.int .i64 0) ∧ StF w gs W' g t0 ss L R fs := by
  refine calls_ev (args := [.pointer (some ⟨g, 0, none⟩)]) mixed Tryd.func18 rfl (by kernel_rfl) ?_
  refine cc is_sLast (sLast_any hS hn) ?_
  rintro e W ⟨cs, A, c, rfl, p, A0, n0, c0, M⟩
  refine ⟨_, rfl, ?_⟩
  obtain ⟨p', e'⟩ := node_pts (M.da 1 rfl)
  refine s_alloc (zN) M al_stt ?_
  clear M
  rintro g3 W M
  refine s_storeA 0 cs M rfl sz_stt rfl rfl (by rw [e']; rfl) ((M.da 1 rfl).ones (dN_one _)) rfl ?_
  clear M; rintro W M
  dsimp only [setL] at M
  refine p_eq rfl rfl (fun _ => ?_) (fun h => absurd rfl h)
  refine v_loadN cs agg_stt rfl (by rw [e']; rfl) (M.run 0 rfl) ?_
  refine p_nil rfl ?_
  refine p_fld fSt0 rfl ?_
  refine s_storeP 1 (off := 0) cs (pcN t0 p' ++ [.slice A ss.length c, .slice A0 n0 c0]) M rfl sz_stt rfl rfl (by rw [e']; rfl) ((M.da 1 rfl).ones (dN_one _)) (by show 6 ≤ 8; decide) (pts_set e') ?_
  clear M; rintro W M
  dsimp only [setL] at M
  refine ⟨rfl, A, c, p', A0, n0, c0, ?_⟩
  subst e'
  exact M.dropL.fsub _ (by intro f hf; simp only [List.mem_cons] at hf ⊢; rcases hf with h | h | h <;> simp [h])
set_option maxRecDepth 100000 in
set_option maxHeartbeats 2000000 in
theorem sUndo_none (hS : StF w gs W g t [] L R fs) :
    Calls Tryd.prog 18 #[.pointer (some ⟨g, 0, none⟩)] W fun e W' => e = .returned (.int .i64 4) ∧ StF w gs W' g t [] L R fs := by
  refine calls_ev (args := [.pointer (some ⟨g, 0, none⟩)]) mixed Tryd.func18 rfl (by kernel_rfl) ?_
  refine cc is_sLast (sLast_none hS) ?_
  rintro e W ⟨cs, hcl, h1, rfl, A, c, p, A0, n0, c0, M⟩
  refine ⟨_, rfl, ?_⟩
  refine s_alloc (zN) M al_stt ?_
  clear M
  rintro g3 W M
  refine s_storeA 0 cs M rfl sz_stt rfl rfl hcl h1 rfl ?_
  clear M; rintro W M
  dsimp only [setL] at M
  refine p_eq rfl rfl (fun h => absurd (show (4 : Int) = 0 from h) (by decide)) (fun _ => ?_)
  exact ⟨rfl, A, c, p, A0, n0, c0, M.dropL⟩
end
section
variable {w W : World} {gs : List (Option Nat)} {L : Lc} {R : List Row} {fs : List Fact}
end
end Go.Proofs.YtdlljmmgkoeilaaDoor
namespace Go.Proofs.YtdlljmmgkoeilaaDoor
open Go.RowKit
/-- Something that is done: the kind, a key, a value (or how far), how many at most. -/
structure Do where
  kind : Int
  key : List UInt8
  val : List UInt8
  most : Int
def dDo (d : Do) : List D := [.v (.int .i64 d.kind), dB d.key, dB d.val, .v (.int .i64 d.most)]
theorem dDo_len (d : Do) : (dDo d).length = 4 := rfl
abbrev dDl (l : List Do) : D := .sl 4 l.length (l.flatMap dDo)
def dcs (d : Do) (Ak : Option Addr) (ck : Nat) (Av : Option Addr) (cv : Nat) : List Value := [.int .i64 d.kind, .slice Ak d.key.length ck, .slice Av d.val.length cv, .int .i64 d.most]
theorem RdL.do_ {W : World} {F : Nat → Prop} {d : Do} {cs : List Value} (h : RdL W F (dDo d) cs) : ∃ Ak ck Av cv, cs = dcs d Ak ck Av cv ∧ RdD W F (dB d.key) (.slice Ak d.key.length ck) ∧ RdD W F (dB d.val) (.slice Av d.val.length cv) := by
  obtain ⟨u0, _, rfl, h0, h⟩ := (show RdL W F [.v (.int .i64 d.kind), dB d.key, dB d.val, .v (.int .i64 d.most)] cs from h).uncons
  obtain ⟨u1, _, rfl, h1, h⟩ := h.uncons
  obtain ⟨u2, _, rfl, h2, h⟩ := h.uncons
  obtain ⟨u3, _, rfl, h3, h⟩ := h.uncons
  rw [h.isnil]
  obtain ⟨A1, c1, e1, _⟩ := h1.open_
  obtain ⟨A2, c2, e2, _⟩ := h2.open_
  subst e1; subst e2
  obtain rfl := RdD.val.1 h0
  obtain rfl := RdD.val.1 h3
  exact ⟨A1, c1, A2, c2, rfl, h1, h2⟩
/-- One of a slice that stays. -/
theorem St.do_ {w W : World} {gs : List (Option Nat)} {L : Lc} {R : List Row} {fs : List Fact} (M : St w gs W L R fs) {l : List Do} {A : Option Addr} {n c i : Nat} {d : Do} (h : RdD W (Fd W (own L R gs)) (dDl l) (.slice A n c)) (hi : l[i]? = some d) :
    ∃ b off Ak ck Av cv, A = some ⟨b, off, none⟩ ∧ St w gs W L R (.loc ((⟨b, off, none⟩ : Addr).add (i * 4)) (dcs d Ak ck Av cv) :: .dat false (dDo d) (dcs d Ak ck Av cv) :: fs) := by
  obtain ⟨b, off, es, e, hF, hes, hel, hc⟩ := RdD.elt dDo 4 dDo_len h hi
  obtain ⟨Ak, ck, Av, cv, rfl, h1, h2⟩ := hes.do_
  exact ⟨b, off, Ak, ck, Av, cv, e, (M.addL hes).addC (by rw [block_of_add]; exact hF) hc⟩
/-- What a store holds behind what is done, one behind the other: only what does not save. -/
def stepsT (t : Nd) (l : List Do) : Nd := l.foldl (fun t d => if d.kind ≤ 4 then stepT t d.kind d.key d.val else t) t
/-- How much there is to be done: as the law counts it. -/
def doN (l : List Do) : Nat := (l.map fun d => 1 + (d.key.length + d.val.length) / 50).sum
theorem doN_cons (d : Do) (l : List Do) : doN (d :: l) = 1 + (d.key.length + d.val.length) / 50 + doN l := by unfold doN; rw [List.map_cons, List.sum_cons]
theorem steps_ok : ∀ (l : List Do) {t : Nd}, checkE t = 0 → checkE (stepsT t l) = 0 ∧ sz (stepsT t l) ≤ sz t + 228 * doN l
  | [], t, h => ⟨h, by unfold stepsT; simp⟩
  | d :: l, t, h => by
    have h1 : checkE (if d.kind ≤ 4 then stepT t d.kind d.key d.val else t) = 0 ∧ sz (if d.kind ≤ 4 then stepT t d.kind d.key d.val else t) ≤ sz t + 130 + 2 * d.key.length + d.val.length := by
      split
      · exact step_ok _ _ _ h
      · exact ⟨h, by omega⟩
    have h2 := steps_ok l h1.1
    rw [doN_cons]
    unfold stepsT at h2 ⊢
    rw [List.foldl_cons]
    exact ⟨h2.1, by omega⟩
theorem steps_snoc (t : Nd) (l : List Do) {i : Nat} {d : Do} (h : l[i]? = some d) : stepsT t (l.take (i + 1)) = (if d.kind ≤ 4 then stepT (stepsT t (l.take i)) d.kind d.key d.val else stepsT t (l.take i)) := by
  have hi := (List.getElem?_eq_some_iff.1 h).1
  unfold stepsT
  rw [List.take_add_one, h, List.foldl_append]
  rfl
theorem doN_take (l : List Do) {i : Nat} {d : Do} (h : l[i]? = some d) : doN (l.take (i + 1)) = doN (l.take i) + 1 + (d.key.length + d.val.length) / 50 := by
  unfold doN
  rw [List.take_add_one, h, List.map_append, List.sum_append]
  simp only [Option.toList_some, List.map_cons, List.map_nil, List.sum_cons, List.sum_nil]
  omega
theorem doN_mem {l : List Do} {d : Do} (h : d ∈ l) : d.key.length + d.val.length ≤ 50 * doN l := by
  unfold doN
  induction l with
  | nil => cases h
  | cons x l ih =>
    rw [List.map_cons, List.sum_cons]
    rcases List.mem_cons.1 h with rfl | h
    · omega
    · have := ih h; omega
theorem doN_le (l : List Do) : doN l ≤ (l.map fun d => d.key.length + d.val.length + 4).sum := by
  unfold doN
  induction l with
  | nil => exact Nat.le_refl _
  | cons x l ih => rw [List.map_cons, List.sum_cons, List.map_cons, List.sum_cons]; omega
end Go.Proofs.YtdlljmmgkoeilaaDoor
