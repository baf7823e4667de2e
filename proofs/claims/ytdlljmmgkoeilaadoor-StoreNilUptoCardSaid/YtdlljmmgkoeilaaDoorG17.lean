/- Tries, plainly: what is built of what a trie holds, in whichever order, is that trie. No walk here. Tries, plainly: put lays one more. No walk here. -/
import Derived.Test.YtdlljmmgkoeilaaDoorG16
import Derived.Test.YtdlljmmgkoeilaaDoorG13
namespace Go.Proofs.YtdlljmmgkoeilaaDoor
/-- The same, or known where it was not. -/
def Up (x y : It) : Prop := y.path = x.path ∧ y.val = x.val ∧ y.stub = x.stub ∧ y.hash = x.hash ∧ (x.known = true → y.known = true)
theorem Up.refl (x : It) : Up x x := ⟨rfl, rfl, rfl, rfl, id⟩
theorem Up.trans {x y z : It} (h : Up x y) (k : Up y z) : Up x z := ⟨k.1.trans h.1, k.2.1.trans h.2.1, k.2.2.1.trans h.2.2.1, k.2.2.2.1.trans h.2.2.2.1, fun e => k.2.2.2.2 (h.2.2.2.2 e)⟩
/-- The same in another order, some of it known that was not. -/
inductive Like : List It → List It → Prop
  | nil : Like [] []
  | cons {x y : It} {l m : List It} (h : Up x y) (t : Like l m) : Like (x :: l) (y :: m)
  | swap (x y : It) (l : List It) : Like (x :: y :: l) (y :: x :: l)
  | trans {a b c : List It} (h : Like a b) (t : Like b c) : Like a c
theorem Like.refl : ∀ l, Like l l
  | [] => .nil
  | x :: l => .cons (.refl x) (Like.refl l)
theorem Like.perm {l m : List It} (h : l.Perm m) : Like l m := by
  induction h with
  | nil => exact .nil
  | cons x _ ih => exact .cons (.refl x) ih
  | swap x y l => exact .swap y x l
  | trans _ _ a b => exact .trans a b
theorem Like.len {l m : List It} (h : Like l m) : m.length = l.length := by
  induction h with
  | nil => rfl
  | cons _ _ ih => rw [List.length_cons, List.length_cons, ih]
  | swap x y l => rfl
  | trans _ _ a b => exact b.trans a
theorem Like.filter {l m : List It} (p : It → Bool) (hp : ∀ x y, Up x y → p y = p x) (h : Like l m) : Like (l.filter p) (m.filter p) := by
  induction h with
  | nil => exact .nil
  | @cons x y l m hu _ ih =>
    rw [List.filter_cons, List.filter_cons, hp x y hu]
    split
    · exact .cons hu ih
    · exact ih
  | swap x y l =>
    rw [List.filter_cons, List.filter_cons, List.filter_cons, List.filter_cons]
    split <;> split <;> first | exact .swap _ _ _ | exact .refl _
  | trans _ _ a b => exact .trans a b
theorem Like.cons' (x : It) {l m : List It} (h : Like l m) : Like (x :: l) (x :: m) := .cons (.refl x) h
theorem Like.appl : ∀ (k : List It) {l m : List It}, Like l m → Like (k ++ l) (k ++ m)
  | [], _, _, h => h
  | x :: k, _, _, h => .cons (.refl x) (Like.appl k h)
theorem Like.appr {l m : List It} (k : List It) (h : Like l m) : Like (l ++ k) (m ++ k) := by
  induction h with
  | nil => exact .refl _
  | cons hu _ ih => exact .cons hu ih
  | swap x y l => exact .swap _ _ _
  | trans _ _ a b => exact .trans a b
theorem Like.app {l m l' m' : List It} (h : Like l m) (h' : Like l' m') : Like (l ++ l') (m ++ m') := .trans (h.appr l') (h'.appl m)
theorem Like.mem_r {l m : List It} (h : Like l m) : ∀ y ∈ m, ∃ x ∈ l, Up x y := by
  induction h with
  | nil => intro y h; cases h
  | @cons x y l m hu _ ih =>
    intro z hz
    rcases List.mem_cons.1 hz with rfl | hz
    · exact ⟨x, by simp, hu⟩
    · obtain ⟨x', h1, h2⟩ := ih z hz; exact ⟨x', by simp [h1], h2⟩
  | swap x y l => intro z hz; exact ⟨z, by simp only [List.mem_cons] at hz ⊢; rcases hz with h | h | h <;> simp [h], .refl z⟩
  | trans _ _ a b =>
    intro z hz
    obtain ⟨y, h1, h2⟩ := b z hz
    obtain ⟨x, h3, h4⟩ := a y h1
    exact ⟨x, h3, h4.trans h2⟩
theorem Like.mem_l {l m : List It} (h : Like l m) : ∀ x ∈ l, ∃ y ∈ m, Up x y := by
  induction h with
  | nil => intro y h; cases h
  | @cons x y l m hu _ ih =>
    intro z hz
    rcases List.mem_cons.1 hz with rfl | hz
    · exact ⟨y, by simp, hu⟩
    · obtain ⟨x', h1, h2⟩ := ih z hz; exact ⟨x', by simp [h1], h2⟩
  | swap x y l => intro z hz; exact ⟨z, by simp only [List.mem_cons] at hz ⊢; rcases hz with h | h | h <;> simp [h], .refl z⟩
  | trans _ _ a b =>
    intro z hz
    obtain ⟨y, h1, h2⟩ := a z hz
    obtain ⟨x, h3, h4⟩ := b y h1
    exact ⟨x, h3, h2.trans h4⟩
/-- All begin alike with so many, from a place on. -/
def Sh (l : List It) (at_ K : Nat) : Prop := ∃ c : List UInt8, c.length = K ∧ ∀ x ∈ l, c <+: x.path.drop at_
theorem Sh.mono {l : List It} {at_ K K' : Nat} (h : Sh l at_ K) (hk : K' ≤ K) : Sh l at_ K' := by
  obtain ⟨c, h1, h2⟩ := h
  exact ⟨c.take K', by rw [List.length_take]; omega, fun x hx => (List.take_prefix _ _).trans (h2 x hx)⟩
theorem common_pre : ∀ {c a b : List UInt8}, c <+: a → c <+: b → c.length ≤ commonB a b
  | [], _, _, _, _ => Nat.zero_le _
  | x :: c, a, b, ha, hb => by
    obtain ⟨a', rfl⟩ := ha
    obtain ⟨b', rfl⟩ := hb
    rw [List.cons_append, List.cons_append, commonB, if_pos rfl, List.length_cons]
    have := common_pre (List.prefix_append c a') (List.prefix_append c b')
    omega
theorem take_common {a b : List UInt8} {n : Nat} (h : n ≤ commonB a b) : a.take n <+: b := by
  have h1 := (common_split a b).1
  have : a.take n = (a.take (commonB a b)).take n := by rw [List.take_take]; congr 1; omega
  rw [this, h1, List.take_take]
  exact List.take_prefix _ _
theorem alikef_le {x : It} {at_ : Nat} : ∀ {r : List It} {n : Nat} {y : It}, y ∈ r → r.foldl (alikeF x at_) n ≤ commonB (x.path.drop at_) (y.path.drop at_)
  | z :: r, n, y, h => by
    rw [List.foldl_cons]
    rcases List.mem_cons.1 h with rfl | h
    · exact Nat.le_trans (alike_le r x at_ _) (Nat.min_le_right _ _)
    · exact alikef_le h
theorem alikef_ge {x : It} {at_ K : Nat} : ∀ {r : List It} {n : Nat}, K ≤ n → (∀ y ∈ r, K ≤ commonB (x.path.drop at_) (y.path.drop at_)) → K ≤ r.foldl (alikeF x at_) n
  | [], n, h, _ => h
  | z :: r, n, h, hy => by
    rw [List.foldl_cons]
    exact alikef_ge (Nat.le_min.2 ⟨h, hy z (by simp)⟩) (fun y hm => hy y (by simp [hm]))
theorem alike_sh {l : List It} (at_ : Nat) (h0 : l ≠ []) : Sh l at_ (alikeP l at_) := by
  cases l with
  | nil => exact absurd rfl h0
  | cons x r =>
    have hle := alike_le r x at_ (x.path.length - at_)
    refine ⟨(x.path.drop at_).take (alikeP (x :: r) at_), by rw [List.length_take, List.length_drop]; have e : alikeP (x :: r) at_ = r.foldl (alikeF x at_) (x.path.length - at_) := rfl; omega, fun y hy => ?_⟩
    rcases List.mem_cons.1 hy with rfl | hy
    · exact List.take_prefix _ _
    · exact take_common (alikef_le hy)
theorem alike_max {l : List It} {at_ K : Nat} (h0 : l ≠ []) (h : Sh l at_ K) : K ≤ alikeP l at_ := by
  cases l with
  | nil => exact absurd rfl h0
  | cons x r =>
    obtain ⟨c, rfl, hc⟩ := h
    have hx := hc x (by simp)
    exact alikef_ge (by have := hx.length_le; rw [List.length_drop] at this; exact this) fun y hy => common_pre hx (hc y (by simp [hy]))
theorem alike_eq {l : List It} {at_ K : Nat} (h0 : l ≠ []) (h : Sh l at_ K) (h1 : ¬ Sh l at_ (K + 1)) : alikeP l at_ = K := by
  have := alike_max h0 h
  rcases Nat.lt_or_ge K (alikeP l at_) with h2 | h2
  · exact absurd ((alike_sh at_ h0).mono h2) h1
  · omega
theorem build_way {n at_ : Nat} {l : List It} {c : List UInt8} (h2 : 2 ≤ l.length) (hc : ∀ x ∈ l, c <+: x.path.drop at_) (hK : alikeP l at_ = c.length) (h0 : c ≠ []) :
    buildA (n + 1) l at_ = (.mk 2 c false [] [(buildA n l (at_ + c.length)).1] [], (buildA n l (at_ + c.length)).2) := by
  match l, h2 with
  | x :: y :: r, _ =>
    have hl : 0 < c.length := List.length_pos_iff.2 h0
    rw [buildA, if_neg (fun h => by cases h.1), hK, if_pos hl, if_neg (fun h => by cases h.1)]
    obtain ⟨z, hz⟩ := hc x (by simp)
    rw [← hz, List.take_left' rfl]
theorem build_br {n at_ : Nat} {l : List It} (h2 : 2 ≤ l.length) (hK : alikeP l at_ = 0) : buildA (n + 1) l at_ = match badF (fun h => buildA n (groupA l at_ h) (at_ + 1)) 0 16 with
      | some m => (noneN, some m)
      | none => (.mk 3 [] (lastV l at_).1 (lastV l at_).2 (kidsF fun h => buildA n (groupA l at_ h) (at_ + 1)) [], none) := by
  match l, h2 with
  | x :: y :: r, _ => rw [buildA, if_neg (fun h => by cases h.1), hK, if_neg (by omega), if_neg (fun h => by cases h)]; try (cases badF (fun h => buildA n (groupA (x :: y :: r) at_ h) (at_ + 1)) 0 16 <;> rfl)
theorem build_one {n at_ : Nat} {x : It} : buildA (n + 1) [x] at_ = if x.stub = false then (leafN (x.path.drop at_) x.val, none)
    else if 0 < x.path.length - at_ then (if x.known = false then (noneN, some x.path)
       else (.mk 2 (x.path.drop at_) false [] [(buildA n [x] (at_ + (x.path.length - at_))).1] [], (buildA n [x] (at_ + (x.path.length - at_))).2))
    else (.mk 4 [] false [] [] x.hash, none) := by
  have e : alikeP [x] at_ = x.path.length - at_ := rfl
  rw [buildA, e]
  simp only [true_and, if_pos]
  split
  · rfl
  · split
    · rw [show (x.path.drop at_).take (x.path.length - at_) = x.path.drop at_ from List.take_of_length_le (by rw [List.length_drop]; omega)]
    · rfl
theorem bad_none {f : Nat → Nd × Option (List UInt8)} : ∀ {j h : Nat}, (∀ i, h ≤ i → i < h + j → (f i).2 = none) → badF f h j = none
  | 0, _, _ => rfl
  | j + 1, h, hf => by
    rw [badF, hf h (Nat.le_refl _) (by omega)]
    exact bad_none fun i h1 h2 => hf i (by omega) (by omega)
theorem bad_some {f : Nat → Nd × Option (List UInt8)} {x : Nat} {m : List UInt8} : ∀ {j h : Nat}, (∀ i, h ≤ i → i < x → (f i).2 = none) → h ≤ x → x < h + j → (f x).2 = some m → badF f h j = some m
  | 0, _, _, _, _, _ => by omega
  | j + 1, h, hf, h1, h2, hm => by
    rw [badF]
    rcases Nat.lt_or_ge h x with h3 | h3
    · rw [hf h (Nat.le_refl _) h3]
      exact bad_some (fun i a b => hf i (by omega) b) (by omega) (by omega) hm
    · have : h = x := by omega
      subst this
      rw [hm]
theorem kids_eq {f : Nat → Nd × Option (List UInt8)} {ks : List Nd} (h16 : ks.length = 16) (h : ∀ i k, ks[i]? = some k → (f i).1 = k) : kidsF f = ks := by
  unfold kidsF
  refine List.ext_getElem? fun i => ?_
  rw [List.getElem?_map]
  rcases Nat.lt_or_ge i 16 with hi | hi
  · rw [List.getElem?_range hi, List.getElem?_eq_getElem (by omega)]
    exact congrArg some (h i _ (List.getElem?_eq_getElem (by omega)))
  · rw [List.getElem?_eq_none (by rw [List.length_range]; omega), List.getElem?_eq_none (by omega)]
    rfl
theorem last_eq {l : List It} {at_ : Nat} {has : Bool} {v : List UInt8} (h1 : ∀ x ∈ l, x.path.length = at_ → x.val = v) (h2 : has = true ↔ ∃ x ∈ l, x.path.length = at_) (h3 : has = false → v = []) : lastV l at_ = (has, v) := by
  have key : ∀ (l : List It) (s : Bool × List UInt8), (∀ x ∈ l, x.path.length = at_ → x.val = v) → l.foldl (fun s x => if x.path.length = at_ then (true, x.val) else s) s = if (∃ x ∈ l, x.path.length = at_) then (true, v) else s := by
    intro l
    induction l with
    | nil => intro s _; simp
    | cons y l ih =>
      intro s hv
      rw [List.foldl_cons, ih _ (fun x hx => hv x (by simp [hx]))]
      by_cases hy : y.path.length = at_
      · have e := hv y (by simp) hy
        rw [if_pos hy, e]
        have : ∃ x ∈ y :: l, x.path.length = at_ := ⟨y, by simp, hy⟩
        rw [if_pos this]
        split <;> rfl
      · rw [if_neg hy]
        have : (∃ x ∈ l, x.path.length = at_) ↔ ∃ x ∈ y :: l, x.path.length = at_ := by
          constructor
          · rintro ⟨x, a, b⟩; exact ⟨x, by simp [a], b⟩
          · rintro ⟨x, a, b⟩
            rcases List.mem_cons.1 a with rfl | a
            · exact absurd b hy
            · exact ⟨x, a, b⟩
        simp only [this]
  unfold lastV
  rw [key l _ h1]
  cases has with
  | true => rw [if_pos (h2.1 rfl)]
  | false => rw [if_neg (fun h => by have := h2.2 h; cases this), h3 rfl]
theorem itemsK_mem {y : It} {br kn : Bool} {at_ : List UInt8} : ∀ {ks : List Nd} {i : Nat}, y ∈ itemsK ks br kn i at_ → ∃ j k, ks[j]? = some k ∧ y ∈ itemsP k (if br then at_ ++ [UInt8.ofNat (i + j)] else at_) kn
  | [], i, h => by rw [itemsK] at h; cases h
  | t :: ts, i, h => by
    rw [itemsK] at h
    rcases List.mem_append.1 h with h | h
    · exact ⟨0, t, rfl, h⟩
    · obtain ⟨j, k, h1, h2⟩ := itemsK_mem h
      exact ⟨j + 1, k, h1, by rw [show i + (j + 1) = i + 1 + j by omega]; exact h2⟩
theorem itemsK_of {y : It} {br kn : Bool} {at_ : List UInt8} : ∀ {ks : List Nd} {i j : Nat} {k : Nd}, ks[j]? = some k → y ∈ itemsP k (if br then at_ ++ [UInt8.ofNat (i + j)] else at_) kn → y ∈ itemsK ks br kn i at_
  | t :: ts, i, 0, k, h, hy => by
    simp at h; subst h
    rw [itemsK]; exact List.mem_append_left _ hy
  | t :: ts, i, j + 1, k, h, hy => by
    rw [itemsK]
    refine List.mem_append_right _ (itemsK_of (j := j) (k := k) (by simpa using h) ?_)
    rw [show i + 1 + j = i + (j + 1) by omega]; exact hy
mutual
theorem items_pre : ∀ (t : Nd) (way : List UInt8) (kn : Bool), ∀ y ∈ itemsP t way kn, way ++ t.path <+: y.path
  | .mk k p has v ks h, way, kn => by
    intro y hy
    rw [itemsP] at hy
    show way ++ p <+: y.path
    split at hy
    · simp only [List.mem_singleton] at hy
      subst hy; exact List.prefix_refl _
    · rcases List.mem_append.1 hy with hy | hy
      · split at hy
        · simp only [List.mem_singleton] at hy
          subst hy; exact List.prefix_refl _
        · cases hy
      · exact itemsK_pre ks _ _ _ _ y hy
theorem itemsK_pre : ∀ (ks : List Nd) (br kn : Bool) (i : Nat) (at_ : List UInt8), ∀ y ∈ itemsK ks br kn i at_, at_ <+: y.path
  | [], _, _, _, _ => by intro y hy; rw [itemsK] at hy; cases hy
  | t :: ts, br, kn, i, at_ => by
    intro y hy
    rw [itemsK] at hy
    rcases List.mem_append.1 hy with hy | hy
    · have := items_pre t _ _ y hy
      have h2 : at_ <+: (if br then at_ ++ [UInt8.ofNat i] else at_) := by split; exact List.prefix_append _ _; exact List.prefix_refl _
      exact h2.trans ((List.prefix_append _ _).trans this)
    · exact itemsK_pre ts br kn (i + 1) at_ y hy
end
theorem items_none (way : List UInt8) (kn : Bool) : itemsP noneN way kn = [] := by unfold noneN; rw [itemsP]; rfl
theorem items_leaf (p v way : List UInt8) (kn : Bool) : itemsP (.mk 1 p false v [] []) way kn = [⟨way ++ p, v, false, false, []⟩] := by rw [itemsP]; rfl
theorem items_stub (h way : List UInt8) (kn : Bool) : itemsP (.mk 4 [] false [] [] h) way kn = [⟨way, [], true, kn, h⟩] := by rw [itemsP, List.append_nil]; rfl
theorem items_way (p : List UInt8) (k : Nd) (way : List UInt8) (kn : Bool) : itemsP (.mk 2 p false [] [k] []) way kn = itemsP k (way ++ p) true := by
  rw [itemsP]
  rw [if_neg (by decide), if_neg (by decide), List.nil_append, itemsK, itemsK, List.append_nil]; rfl
def ownI (has : Bool) (v way : List UInt8) : List It := if has then [⟨way, v, false, false, []⟩] else []
theorem items_br (has : Bool) (v : List UInt8) (ks : List Nd) (way : List UInt8) (kn : Bool) : itemsP (.mk 3 [] has v ks []) way kn = ownI has v way ++ itemsK ks true false 0 way := by
  rw [itemsP]
  rw [if_neg (by decide), List.append_nil]
  unfold ownI
  cases has <;> rfl
theorem items_kn {even : Bool} {t : Nd} {d : Nat} (h : Val even t d) (h4 : t.kind ≠ 4) (way : List UInt8) (kn kn' : Bool) : itemsP t way kn = itemsP t way kn' := by
  cases h with
  | none => rw [items_none, items_none]
  | leaf => rw [items_leaf, items_leaf]
  | stub => exact absurd rfl h4
  | way => rw [items_way, items_way]
  | branch => rw [items_br, items_br]
theorem items_up {even : Bool} {t : Nd} {d : Nat} (h : Val even t d) (way : List UInt8) (kn : Bool) : Like (itemsP t way kn) (itemsP t way true) := by
  by_cases h4 : t.kind = 4
  · cases h with
    | stub => rw [items_stub, items_stub]; exact .cons ⟨rfl, rfl, rfl, rfl, fun _ => rfl⟩ .nil
    | _ => cases h4
  · rw [items_kn h h4 way kn true]; exact .refl _
theorem ofNat_half {j : Nat} (h : j < 16) : (UInt8.ofNat j).toNat = j := by simp; omega
theorem kid_mem {y : It} {kn : Bool} {at_ : List UInt8} {ks : List Nd} (h : y ∈ itemsK ks true kn 0 at_) : ∃ j k, ks[j]? = some k ∧ y ∈ itemsP k (at_ ++ [UInt8.ofNat j]) kn := by
  obtain ⟨j, k, h1, h2⟩ := itemsK_mem h
  rw [Nat.zero_add] at h2
  exact ⟨j, k, h1, h2⟩
theorem kid_of {y : It} {kn : Bool} {at_ : List UInt8} {ks : List Nd} {j : Nat} {k : Nd} (h : ks[j]? = some k) (hy : y ∈ itemsP k (at_ ++ [UInt8.ofNat j]) kn) : y ∈ itemsK ks true kn 0 at_ :=
  itemsK_of h (by rw [Nat.zero_add]; exact hy)
theorem kid_pre {y : It} {kn : Bool} {at_ : List UInt8} {j : Nat} {k : Nd} (hy : y ∈ itemsP k (at_ ++ [UInt8.ofNat j]) kn) : at_ ++ [UInt8.ofNat j] <+: y.path := (List.prefix_append _ _).trans (items_pre k _ kn y hy)
theorem items_ne {even : Bool} {t : Nd} {d : Nat} (h : Val even t d) : t.kind ≠ 0 → ∀ (way : List UInt8) (kn : Bool), itemsP t way kn ≠ [] := by
  induction h with
  | none => intro h; exact absurd rfl h
  | leaf => intro _ way kn; rw [items_leaf]; exact List.cons_ne_nil _ _
  | stub => intro _ way kn; rw [items_stub]; exact List.cons_ne_nil _ _
  | way d p k hd hp h0 hk hr ih => intro _ way kn; rw [items_way]; exact ih (by rcases hk with h | h <;> rw [h] <;> decide) _ _
  | branch d has v ks hd hv hv0 he h16 hr hm ih =>
    intro _ way kn e
    rw [items_br, List.append_eq_nil_iff] at e
    obtain ⟨e1, e2⟩ := e
    have : manyN ks = 0 := by
      unfold manyN
      rw [List.length_eq_zero_iff, List.filter_eq_nil_iff]
      intro k hk h
      obtain ⟨j, hj⟩ := List.getElem?_of_mem hk
      obtain ⟨y, r, hy⟩ := List.exists_cons_of_ne_nil (ih k hk (of_decide_eq_true h) (way ++ [UInt8.ofNat j]) false)
      have := kid_of (kn := false) (at_ := way) hj (show y ∈ _ by rw [hy]; simp)
      rw [e2] at this; cases this
    cases has with
    | true => cases e1
    | false => simp only [this] at hm; exact absurd hm (by decide)
theorem many_le {ks : List Nd} {even : Bool} {d : Nat} (hr : ∀ k ∈ ks, Val even k d) (kn : Bool) (at_ : List UInt8) : ∀ i, manyN ks ≤ (itemsK ks true kn i at_).length := by
  induction ks with
  | nil => intro i; exact Nat.zero_le _
  | cons t ks ih =>
    intro i
    have := ih (fun k hk => hr k (by simp [hk])) (i + 1)
    rw [itemsK, List.length_append]
    unfold manyN at *
    rw [List.filter_cons]
    split
    · rename_i h
      have := List.length_pos_iff.2 (items_ne (hr t (by simp)) (of_decide_eq_true h) (if true = true then at_ ++ [UInt8.ofNat i] else at_) kn)
      rw [List.length_cons]; omega
    · omega
theorem many0 {ks : List Nd} (h : ∀ k ∈ ks, k.kind = 0) : manyN ks = 0 := by
  unfold manyN
  rw [List.length_eq_zero_iff, List.filter_eq_nil_iff]
  intro k hk h'
  exact (of_decide_eq_true h') (h k hk)
theorem many1 : ∀ {ks : List Nd} {c : Nat}, (∀ j k, ks[j]? = some k → k.kind ≠ 0 → j = c) → manyN ks ≤ 1
  | [], _, _ => Nat.zero_le _
  | t :: ks, c, h => by
    by_cases ht : t.kind = 0
    · have : manyN (t :: ks) = manyN ks := by unfold manyN; rw [List.filter_cons, if_neg (by simp [ht])]
      rw [this]
      refine many1 (c := c - 1) fun j k hj hk => ?_
      have := h (j + 1) k (by simpa using hj) hk
      omega
    · have h0 := h 0 t rfl ht
      have e : manyN (t :: ks) = manyN ks + 1 := by unfold manyN; rw [List.filter_cons, if_pos (by simp [ht]), List.length_cons]
      rw [e, many0 (ks := ks) fun k hk => ?_]
      · exact Nat.le_refl _
      · obtain ⟨j, hj⟩ := List.getElem?_of_mem hk
        rcases Classical.em (k.kind = 0) with hk0 | hk0
        · exact hk0
        · have := h (j + 1) k (by simpa using hj) hk0
          omega
theorem pre_cons {way : List UInt8} {a : UInt8} {p : List UInt8} (h : way ++ [a] <+: p) : ∃ r, p.drop way.length = a :: r := by
  obtain ⟨r, rfl⟩ := h
  exact ⟨r, by rw [List.append_assoc, List.drop_left]; rfl⟩
theorem branch_nsh {even : Bool} {d : Nat} {has : Bool} {v : List UInt8} {ks : List Nd} (h16 : ks.length = 16) (hr : ∀ k ∈ ks, Val even k d) (hm : 2 ≤ (if has then 1 else 0) + manyN ks) (way : List UInt8) {l : List It}
    (hl : ∀ x ∈ ownI has v way ++ itemsK ks true false 0 way, ∃ y ∈ l, y.path = x.path) : ¬ Sh l way.length 1 := by
  rintro ⟨c, hc, hs⟩
  obtain ⟨a, rfl⟩ : ∃ a, c = [a] := by
    match c, hc with
    | [a], _ => exact ⟨a, rfl⟩
  cases has with
  | true =>
    obtain ⟨y, hy, hp⟩ := hl ⟨way, v, false, false, []⟩ (List.mem_append_left _ (by unfold ownI; simp))
    have := hs y hy
    rw [hp, List.drop_of_length_le (Nat.le_refl _)] at this
    have := this.length_le
    simp at this
  | false =>
    have := many1 (ks := ks) (c := a.toNat) fun j k hj hk => ?_
    · simp only [Bool.false_eq_true, if_false] at hm; omega
    have hj16 : j < 16 := by have := (List.getElem?_eq_some_iff.1 hj).1; omega
    obtain ⟨x, r, hx⟩ := List.exists_cons_of_ne_nil (items_ne (hr k (List.mem_of_getElem? hj)) hk (way ++ [UInt8.ofNat j]) false)
    have hxm : x ∈ itemsP k (way ++ [UInt8.ofNat j]) false := by rw [hx]; simp
    obtain ⟨y, hy, hp⟩ := hl x (List.mem_append_right _ (kid_of hj hxm))
    obtain ⟨r2, h2⟩ := pre_cons (kid_pre hxm)
    have := hs y hy
    rw [hp, h2] at this
    have := (List.cons_prefix_cons.1 this).1
    rw [this, ofNat_half hj16]
theorem filterK {pr : It → Bool} {kn : Bool} {at_ : List UInt8} : ∀ {ks : List Nd} {i x : Nat} {kx : Nd}, (∀ j k, ks[j]? = some k → j ≠ x → ∀ y ∈ itemsP k (at_ ++ [UInt8.ofNat (i + j)]) kn, pr y = false) → ks[x]? = some kx → (itemsK ks true kn i at_).filter pr = (itemsP kx (at_ ++ [UInt8.ofNat (i + x)]) kn).filter pr
  | t :: ts, i, 0, kx, h, hx => by
    simp at hx; subst hx
    rw [itemsK, List.filter_append]
    have : (itemsK ts true kn (i + 1) at_).filter pr = [] := by
      rw [List.filter_eq_nil_iff]
      intro y hy
      obtain ⟨j, k, h1, h2⟩ := itemsK_mem hy
      have := h (j + 1) k (by simpa using h1) (by omega) y (by rw [show i + (j + 1) = i + 1 + j by omega]; exact h2)
      simp [this]
    rw [this, List.append_nil]; rfl
  | t :: ts, i, x + 1, kx, h, hx => by
    rw [itemsK, List.filter_append]
    have : (itemsP t (if true = true then at_ ++ [UInt8.ofNat i] else at_) kn).filter pr = [] := by
      rw [List.filter_eq_nil_iff]
      intro y hy
      have := h 0 t rfl (by omega) y hy
      simp [this]
    rw [this, List.nil_append]
    have := filterK (pr := pr) (kn := kn) (at_ := at_) (ks := ts) (i := i + 1) (x := x) (kx := kx) (fun j k hj hne y hy => h (j + 1) k (by simpa using hj) (by omega) y (by rw [show i + (j + 1) = i + 1 + j by omega]; exact hy)) (by simpa using hx)
    rw [this, show i + 1 + x = i + (x + 1) by omega]
theorem group_up (at_ h : Nat) : ∀ x y, Up x y → (fun x : It => decide (at_ < x.path.length ∧ (x.path.getD at_ 0).toNat = h)) y = (fun x : It => decide (at_ < x.path.length ∧ (x.path.getD at_ 0).toNat = h)) x := by
  intro x y hu
  dsimp only
  rw [hu.1]
theorem pre_at {way p : List UInt8} {a : UInt8} (h : way ++ [a] <+: p) : way.length < p.length ∧ p.getD way.length 0 = a := by
  obtain ⟨r, rfl⟩ := h
  refine ⟨by simp, ?_⟩
  rw [List.getD_eq_getElem?_getD, List.append_assoc, List.getElem?_append_right (Nat.le_refl _), Nat.sub_self]; rfl
theorem group_items {has : Bool} {v : List UInt8} {ks : List Nd} {way : List UInt8} (h16 : ks.length = 16) {h : Nat} {kh : Nd} (hk : ks[h]? = some kh) : groupA (ownI has v way ++ itemsK ks true false 0 way) way.length h = itemsP kh (way ++ [UInt8.ofNat h]) false := by
  have hh : h < 16 := by have := (List.getElem?_eq_some_iff.1 hk).1; omega
  unfold groupA
  rw [List.filter_append]
  have e1 : (ownI has v way).filter (fun x => decide (way.length < x.path.length ∧ (x.path.getD way.length 0).toNat = h)) = [] := by
    unfold ownI; cases has <;> simp
  have e2 := filterK (pr := fun x => decide (way.length < x.path.length ∧ (x.path.getD way.length 0).toNat = h)) (kn := false) (at_ := way) (ks := ks) (i := 0) (x := h) (kx := kh) (fun j k hj hne y hy => by
    have hj16 : j < 16 := by have := (List.getElem?_eq_some_iff.1 hj).1; omega
    rw [Nat.zero_add] at hy
    have := (pre_at (kid_pre hy)).2
    refine decide_eq_false fun h' => hne ?_
    rw [← h'.2, this, ofNat_half hj16]) hk
  rw [Nat.zero_add] at e2
  rw [e1, e2, List.nil_append, List.filter_eq_self]
  intro y hy
  obtain ⟨h1, h2⟩ := pre_at (kid_pre hy)
  exact decide_eq_true ⟨h1, by rw [h2, ofNat_half hh]⟩
theorem own_len (has : Bool) (v way : List UInt8) : (ownI has v way).length = if has then 1 else 0 := by unfold ownI; cases has <;> rfl
theorem Like.paths {l m : List It} (h : Like l m) : ∀ x ∈ l, ∃ y ∈ m, y.path = x.path := fun x hx => by
  obtain ⟨y, h1, h2⟩ := h.mem_l x hx
  exact ⟨y, h1, h2.1⟩
theorem build_like {even : Bool} {t : Nd} {d : Nat} (hv : Val even t d) : ∀ (way : List UInt8) (kn : Bool) (l : List It) (N : Nat), Like (itemsP t way kn) l → (∀ x ∈ l, x.path.length < way.length + N) → buildA N l way.length = (t, none) := by
  induction hv with
  | none d hd =>
    intro way kn l N hl hN
    rw [items_none] at hl
    have := hl.len
    have : l = [] := List.eq_nil_of_length_eq_zero this
    subst this
    cases N <;> rw [buildA]
  | leaf d p v hd hp hv he =>
    intro way kn l N hl hN
    rw [items_leaf] at hl
    have h1 := hl.len
    obtain ⟨y, rfl⟩ : ∃ y, l = [y] := by match l, h1 with | [y], _ => exact ⟨y, rfl⟩
    obtain ⟨x, hx, hu⟩ := hl.mem_r y (by simp)
    simp only [List.mem_singleton] at hx
    subst hx
    obtain ⟨u1, u2, u3, u4, u5⟩ := hu
    have := hN y (by simp)
    rw [u1, List.length_append] at this
    obtain ⟨n, rfl⟩ : ∃ n, N = n + 1 := ⟨N - 1, by omega⟩
    rw [build_one, if_pos u3, u1, u2]
    simp only [List.drop_left]; rfl
  | stub d h hd hh =>
    intro way kn l N hl hN
    rw [items_stub] at hl
    have h1 := hl.len
    obtain ⟨y, rfl⟩ : ∃ y, l = [y] := by match l, h1 with | [y], _ => exact ⟨y, rfl⟩
    obtain ⟨x, hx, hu⟩ := hl.mem_r y (by simp)
    simp only [List.mem_singleton] at hx
    subst hx
    obtain ⟨u1, u2, u3, u4, u5⟩ := hu
    dsimp only at u1 u3 u4
    have := hN y (by simp)
    rw [u1] at this
    obtain ⟨n, rfl⟩ : ∃ n, N = n + 1 := ⟨N - 1, by omega⟩
    rw [build_one, if_neg (by rw [u3]; decide), u1, if_neg (by omega), u4]
  | way d p k hd hp h0 hk hr ih =>
    intro way kn l N hl hN
    rw [items_way] at hl
    have hp0 : 0 < p.length := List.length_pos_iff.2 h0
    have hk0 : k.kind ≠ 0 := by rcases hk with h | h <;> rw [h] <;> decide
    have hlne : l ≠ [] := fun e => by
      have := hl.len
      rw [e] at this
      exact items_ne hr hk0 (way ++ p) true (List.eq_nil_of_length_eq_zero this.symm)
    have hpre : ∀ y ∈ l, way ++ p <+: y.path := fun y hy => by
      obtain ⟨x, hx, hu⟩ := hl.mem_r y hy
      rw [hu.1]
      exact (List.prefix_append _ _).trans (items_pre k _ _ x hx)
    have hc : ∀ y ∈ l, p <+: y.path.drop way.length := fun y hy => by
      obtain ⟨r, hr⟩ := hpre y hy
      rw [← hr, List.append_assoc, List.drop_left]
      exact List.prefix_append _ _
    obtain ⟨y0, r0, hy0⟩ := List.exists_cons_of_ne_nil hlne
    have hlen0 := hN y0 (by rw [hy0]; simp)
    have hlen1 := (hpre y0 (by rw [hy0]; simp)).length_le
    rw [List.length_append] at hlen1
    obtain ⟨n, rfl⟩ : ∃ n, N = n + 1 := ⟨N - 1, by omega⟩
    have hb := ih (way ++ p) true l n hl (fun x hx => by have := hN x hx; rw [List.length_append]; omega)
    rw [List.length_append] at hb
    cases hr with
    | stub d' h hd' hh =>
      rw [items_stub] at hl
      have h1 := hl.len
      obtain ⟨y, rfl⟩ : ∃ y, l = [y] := by match l, h1 with | [y], _ => exact ⟨y, rfl⟩
      obtain ⟨x, hx, hu⟩ := hl.mem_r y (by simp)
      simp only [List.mem_singleton] at hx
      subst hx
      obtain ⟨u1, u2, u3, u4, u5⟩ := hu
      dsimp only at u1 u3 u4
      have e : y.path.length - way.length = p.length := by rw [u1, List.length_append]; omega
      rw [build_one, if_neg (by rw [u3]; decide), e, if_pos hp0, if_neg (by rw [u5 rfl]; decide), hb, u1, List.drop_left]
    | branch d' has v ks hd' hv hv0 he h16 hr hm =>
      rw [items_br] at hl
      have hl2 : 2 ≤ l.length := by
        have := hl.len
        rw [List.length_append, own_len] at this
        have := many_le hr false (way ++ p) 0
        omega
      have hns := branch_nsh h16 hr hm (way ++ p) hl.paths
      rw [build_way hl2 hc ?_ h0, hb]
      refine alike_eq hlne ⟨p, rfl, hc⟩ fun h => hns ?_
      obtain ⟨c, h1, h2⟩ := h
      obtain ⟨a, ha⟩ : ∃ a, c.drop p.length = [a] := by
        have : (c.drop p.length).length = 1 := by rw [List.length_drop]; omega
        match hq : c.drop p.length, this with
        | [a], _ => exact ⟨a, rfl⟩
      refine ⟨[a], rfl, fun y hy => ?_⟩
      obtain ⟨z, hz⟩ := h2 y hy
      refine ⟨z, ?_⟩
      rw [List.length_append, ← List.drop_drop, ← hz, List.drop_append_of_le_length (by omega), ha]
    | none => rcases hk with h | h <;> cases h
    | leaf => rcases hk with h | h <;> cases h
    | way => rcases hk with h | h <;> cases h
  | branch d has v ks hd hv hv0 he h16 hr hm ih =>
    intro way kn l N hl hN
    rw [items_br] at hl
    have hl2 : 2 ≤ l.length := by
      have := hl.len
      rw [List.length_append, own_len] at this
      have := many_le hr false way 0
      omega
    have hlne : l ≠ [] := fun e => by rw [e] at hl2; exact absurd hl2 (by decide)
    have hns := branch_nsh h16 hr hm way hl.paths
    have hal : alikeP l way.length = 0 := alike_eq hlne ⟨[], rfl, fun x _ => List.nil_prefix⟩ hns
    have hpre : ∀ y ∈ l, way <+: y.path := fun y hy => by
      obtain ⟨x, hx, hu⟩ := hl.mem_r y hy
      rw [hu.1]
      rcases List.mem_append.1 hx with hx | hx
      · unfold ownI at hx
        cases has with
        | true => simp only [if_pos, List.mem_singleton] at hx; subst hx; exact List.prefix_refl _
        | false => cases hx
      · exact itemsK_pre ks _ _ _ _ x hx
    obtain ⟨y0, r0, hy0⟩ := List.exists_cons_of_ne_nil hlne
    have hlen0 := hN y0 (by rw [hy0]; simp)
    have hlen1 := (hpre y0 (by rw [hy0]; simp)).length_le
    obtain ⟨n, rfl⟩ : ∃ n, N = n + 1 := ⟨N - 1, by omega⟩
    have hf : ∀ h k, ks[h]? = some k → buildA n (groupA l way.length h) (way.length + 1) = (k, none) := fun h k hk => by
      have e := ih k (List.mem_of_getElem? hk) (way ++ [UInt8.ofNat h]) false (groupA l way.length h) n (by
        rw [← group_items (has := has) (v := v) h16 hk]
        exact hl.filter _ (group_up _ _)) (fun x hx => by
          have := hN x (List.mem_filter.1 hx).1
          rw [List.length_append, List.length_cons, List.length_nil]; omega)
      rw [List.length_append] at e
      exact e
    have hbad : badF (fun h => buildA n (groupA l way.length h) (way.length + 1)) 0 16 = none := bad_none fun i _ hi => by
      show (buildA n (groupA l way.length i) (way.length + 1)).2 = none
      rw [hf i _ (List.getElem?_eq_getElem (by omega))]
    have hkids : (kidsF fun h => buildA n (groupA l way.length h) (way.length + 1)) = ks := kids_eq h16 fun i k hk => by
      show (buildA n (groupA l way.length i) (way.length + 1)).1 = k
      rw [hf i k hk]
    have kid_long : ∀ x ∈ itemsK ks true false 0 way, way.length < x.path.length := fun x hx => by
      obtain ⟨j, k, _, h2⟩ := kid_mem hx
      exact (pre_at (kid_pre h2)).1
    have hlast : lastV l way.length = (has, v) := by
      refine last_eq (fun y hy hyl => ?_) ⟨fun e => ?_, ?_⟩ (fun e => ?_)
      · obtain ⟨x, hx, hu⟩ := hl.mem_r y hy
        rcases List.mem_append.1 hx with hx | hx
        · unfold ownI at hx
          cases has with
          | true => simp only [if_pos, List.mem_singleton] at hx; subst hx; exact hu.2.1
          | false => cases hx
        · have := kid_long x hx
          rw [hu.1] at hyl; omega
      · subst e
        obtain ⟨y, hy, hu⟩ := hl.mem_l ⟨way, v, false, false, []⟩ (List.mem_append_left _ (by unfold ownI; simp))
        exact ⟨y, hy, by rw [hu.1]⟩
      · rintro ⟨y, hy, hyl⟩
        obtain ⟨x, hx, hu⟩ := hl.mem_r y hy
        rcases List.mem_append.1 hx with hx | hx
        · cases has with
          | true => rfl
          | false => cases hx
        · have := kid_long x hx
          rw [hu.1] at hyl; omega
      · rcases hv0 with h | h
        · rw [h] at e; cases e
        · exact h
    rw [build_br hl2 hal, hbad, hkids, hlast]
end Go.Proofs.YtdlljmmgkoeilaaDoor
namespace Go.Proofs.YtdlljmmgkoeilaaDoor
def newI (p v : List UInt8) : It := ⟨p, v, false, false, []⟩
theorem keep_of {q : List UInt8} {x : It} (h : x.path ≠ q) : keepI q x = true := by unfold keepI; rw [decide_eq_false h]; simp
theorem keep_new {q v : List UInt8} : keepI q (newI q v) = false := by unfold keepI newI; simp
theorem itemsK_app {br kn : Bool} {at_ : List UInt8} : ∀ (A B : List Nd) (i : Nat), itemsK (A ++ B) br kn i at_ = itemsK A br kn i at_ ++ itemsK B br kn (i + A.length) at_
  | [], B, i => by rw [List.nil_append, itemsK, List.nil_append]; rfl
  | t :: A, B, i => by
    rw [List.cons_append, itemsK, itemsK, itemsK_app A B (i + 1), List.append_assoc, List.length_cons, show i + 1 + A.length = i + (A.length + 1) by omega]
theorem split_at {ks : List Nd} {i : Nat} {k : Nd} (h : ks[i]? = some k) : ∃ A B, ks = A ++ k :: B ∧ A.length = i ∧ ∀ k', ks.set i k' = A ++ k' :: B := by
  obtain ⟨h1, h2⟩ := List.getElem?_eq_some_iff.1 h
  refine ⟨ks.take i, ks.drop (i + 1), ?_, by rw [List.length_take]; omega, fun k' => ?_⟩
  · rw [← h2, List.getElem_cons_drop, List.take_append_drop]
  · rw [List.set_eq_take_append_cons_drop, if_pos h1]
theorem set_keep {ks : List Nd} {i : Nat} {k : Nd} (h : ks[i]? = some k) (pr : It → Bool) (kn : Bool) (at_ : List UInt8) (hp : ∀ j kj, ks[j]? = some kj → j ≠ i → ∀ y ∈ itemsP kj (at_ ++ [UInt8.ofNat j]) kn, pr y = true) :
    ∃ A B, itemsK ks true kn 0 at_ = A ++ (itemsP k (at_ ++ [UInt8.ofNat i]) kn ++ B) ∧ (∀ k', itemsK (ks.set i k') true kn 0 at_ = A ++ (itemsP k' (at_ ++ [UInt8.ofNat i]) kn ++ B)) ∧ A.filter pr = A ∧ B.filter pr = B := by
  obtain ⟨A, B, e1, e2, e3⟩ := split_at h
  refine ⟨itemsK A true kn 0 at_, itemsK B true kn (i + 1) at_, ?_, fun k' => ?_, ?_, ?_⟩
  · rw [e1, itemsK_app, itemsK, e2, Nat.zero_add]; rfl
  · rw [e3, itemsK_app, itemsK, e2, Nat.zero_add]; rfl
  · rw [List.filter_eq_self]
    intro y hy
    obtain ⟨j, kj, h1, h2⟩ := kid_mem hy
    have hj := (List.getElem?_eq_some_iff.1 h1).1
    exact hp j kj (by rw [e1, List.getElem?_append_left hj]; exact h1) (by omega) y h2
  · rw [List.filter_eq_self]
    intro y hy
    obtain ⟨j, kj, h1, h2⟩ := itemsK_mem hy
    refine hp (i + 1 + j) kj ?_ (by omega) y h2
    rw [e1, List.getElem?_append_right (by omega), e2, show i + 1 + j - i = j + 1 by omega]
    exact h1
theorem items_along3 (p : List UInt8) (has : Bool) (v : List UInt8) (ks : List Nd) (way : List UInt8) (kn : Bool) : itemsP (alongN p (.mk 3 [] has v ks [])) way kn = ownI has v (way ++ p) ++ itemsK ks true false 0 (way ++ p) := by
  unfold alongN
  split
  · rename_i h; subst h; rw [List.append_nil, items_br]
  · rw [items_way, items_br]
theorem items_along {even : Bool} {t : Nd} {d : Nat} (hv : Val even t d) (p way : List UInt8) (kn : Bool) : Like (itemsP (alongN p t) way kn) (itemsP t (way ++ p) true) := by
  unfold alongN
  split
  · rename_i h; subst h; rw [List.append_nil]; exact items_up hv way kn
  · rw [items_way]; exact .refl _
def brI (s : Bool × List UInt8 × List Nd) (way : List UInt8) : List It := ownI s.1 s.2.1 way ++ itemsK s.2.2 true false 0 way
theorem items_leafN (p v way : List UInt8) (kn : Bool) : itemsP (leafN p v) way kn = [newI (way ++ p) v] := items_leaf p v way kn
theorem ofNat_toNat (x : UInt8) : UInt8.ofNat x.toNat = x := by simp
theorem hold_items {has : Bool} {v val : List UInt8} {ks : List Nd} {p way : List UInt8} (h0 : p = [] → has = false) (hx : ∀ x r, p = x :: r → ks[x.toNat]? = some noneN) : Like (brI (holdK has v ks p val) way) (newI (way ++ p) val :: brI (has, v, ks) way) := by
  cases p with
  | nil =>
    rw [h0 rfl, List.append_nil]
    exact .refl _
  | cons x r =>
    obtain ⟨A, B, e1, e2, -, -⟩ := set_keep (hx x r rfl) (fun _ => true) false way (fun _ _ _ _ _ _ => rfl)
    unfold brI holdK
    dsimp only
    have e : way ++ [x] ++ r = way ++ x :: r := by simp
    rw [e1, e2, items_leafN, items_none, ofNat_toNat, e, List.nil_append, List.singleton_append, ← List.append_assoc, ← List.append_assoc]
    exact .perm List.perm_middle
theorem none_items (way : List UInt8) (n : Nat) : ∀ i, itemsK (noneNs n) true false i way = [] := by
  induction n with
  | zero => intro i; rfl
  | succ n ih =>
    intro i
    show itemsK (noneN :: noneNs n) true false i way = []
    rw [itemsK, items_none, ih]; rfl
theorem none_at {i : Nat} (h : i < 16) : (noneNs 16)[i]? = some noneN := by unfold noneNs; rw [List.getElem?_replicate, if_pos h]
theorem drop_hd {p : List UInt8} {K : Nat} {a : UInt8} {r : List UInt8} (h : p.drop K = a :: r) : p.getD K 0 = a ∧ p.drop (K + 1) = r := by
  constructor
  · have := congrArg (fun l => l.getD 0 0) h
    simp [List.getD_eq_getElem?_getD] at this
    rw [List.getD_eq_getElem?_getD]; exact this
  · rw [← List.drop_drop, h]; rfl
theorem fork_leaf {p v q val way : List UInt8} {kn : Bool} (hp : halvesB p = true) (hq : halvesB q = true) (hne : p ≠ q) : Like (itemsP (forkN (.mk 1 p false v [] []) q val) way kn) [newI (way ++ q) val, newI (way ++ p) v] := by
  obtain ⟨hs1, hs2⟩ := common_split p q
  unfold forkN
  simp only [Nd.path, Nd.kind, Nd.val, if_pos]
  obtain ⟨K, hK⟩ : ∃ K, K = commonB p q := ⟨_, rfl⟩
  rw [← hK] at hs1 hs2 ⊢
  obtain ⟨b, hb⟩ : ∃ b, b = holdK false [] (noneNs 16) (p.drop K) v := ⟨_, rfl⟩
  rw [← hb, items_along3]
  have hW : ∀ w : List UInt8, way ++ q.take K ++ w.drop K = way ++ (q.take K ++ w.drop K) := fun w => List.append_assoc _ _ _
  have hWq : way ++ q.take K ++ q.drop K = way ++ q := by rw [hW, List.take_append_drop]
  have hWp : way ++ q.take K ++ p.drop K = way ++ p := by rw [hW, ← hs1, List.take_append_drop]
  have both : ¬ (p.drop K = [] ∧ q.drop K = []) := fun ⟨h1, h2⟩ => hne (by rw [← List.take_append_drop K p, ← List.take_append_drop K q, h1, h2, hs1])
  have hpx : ∀ x r, p.drop K = x :: r → x.toNat < 16 := fun x r h => halves_hd (h ▸ halvesB_drop hp)
  have hqx : ∀ x r, q.drop K = x :: r → x.toNat < 16 := fun x r h => halves_hd (h ▸ halvesB_drop hq)
  have L1 : Like (brI b (way ++ q.take K)) [newI (way ++ p) v] := by
    have := hold_items (has := false) (v := []) (val := v) (ks := noneNs 16) (p := p.drop K) (way := way ++ q.take K) (fun _ => rfl) (fun x r h => none_at (hpx x r h))
    rw [hWp, ← hb] at this
    have e : brI (false, [], noneNs 16) (way ++ q.take K) = [] := by unfold brI; dsimp only; rw [none_items]; rfl
    rw [e] at this
    exact this
  have L2 := hold_items (has := b.1) (v := b.2.1) (val := val) (ks := b.2.2) (p := q.drop K) (way := way ++ q.take K) (fun h => by
    rw [hb]
    cases hpk : p.drop K with
    | nil => exact absurd ⟨hpk, h⟩ both
    | cons x r => rfl) (fun x r h => by
    rw [hb]
    cases hpk : p.drop K with
    | nil => exact none_at (hqx x r h)
    | cons a p' =>
      have hax : a ≠ x := by
        rcases hs2 with (h' | h') | ⟨a', b', p'', q'', hab, h1, h2⟩
        · rw [hpk] at h'; cases h'
        · rw [h] at h'; cases h'
        · rw [hpk] at h1; rw [h] at h2
          injection h1 with e1; injection h2 with e2
          rw [e1, e2]; exact hab
      show ((noneNs 16).set a.toNat _)[x.toNat]? = _
      rw [List.getElem?_set_ne (fun e => hax (UInt8.toNat_inj.1 e))]
      exact none_at (hqx x r h))
  rw [hWq] at L2
  exact .trans L2 (L1.cons' _)
theorem fork_way {even : Bool} {d : Nat} {k : Nd} {p q val way : List UInt8} {kn : Bool} (hk : Val even k d) (hp : halvesB p = true) (hq : halvesB q = true) (hne : ¬ p <+: q) : Like (itemsP (forkN (.mk 2 p false [] [k] []) q val) way kn) (newI (way ++ q) val :: itemsP k (way ++ p) true) := by
  obtain ⟨hs1, hs2⟩ := common_split p q
  unfold forkN
  simp only [Nd.path, Nd.kind, Nd.val, Nd.kids, List.headD_cons, Int.reduceEq, if_false]
  obtain ⟨K, hK⟩ : ∃ K, K = commonB p q := ⟨_, rfl⟩
  rw [← hK] at hs1 hs2 ⊢
  have hpk : p.drop K ≠ [] := fun h => hne (by
    have : p = q.take K := by rw [← hs1, ← List.append_nil (p.take K), ← h, List.take_append_drop]
    rw [this]; exact List.take_prefix _ _)
  obtain ⟨a, p', hpk⟩ := List.exists_cons_of_ne_nil hpk
  obtain ⟨ea, ep⟩ := drop_hd hpk
  rw [ea, ep, items_along3]
  have ha : a.toNat < 16 := halves_hd (hpk ▸ halvesB_drop hp)
  have hWq : way ++ q.take K ++ q.drop K = way ++ q := by rw [List.append_assoc, List.take_append_drop]
  have hWp : way ++ q.take K ++ [a] ++ p' = way ++ p := by rw [List.append_assoc, List.append_assoc, ← hs1, List.singleton_append, ← hpk, List.take_append_drop]
  have L1 : Like (brI (false, [], (noneNs 16).set a.toNat (alongN p' k)) (way ++ q.take K)) (itemsP k (way ++ p) true) := by
    obtain ⟨A, B, e1, e2, -, -⟩ := set_keep (none_at ha) (fun _ => true) false (way ++ q.take K) (fun _ _ _ _ _ _ => rfl)
    rw [none_items, items_none] at e1
    have e1' := e1.symm
    rw [List.append_eq_nil_iff, List.append_eq_nil_iff] at e1'
    obtain ⟨rfl, -, rfl⟩ := e1'
    unfold brI
    dsimp only
    rw [e2, List.append_nil, ofNat_toNat]
    have := items_along hk p' (way ++ q.take K ++ [a]) false
    rw [hWp] at this
    exact this
  have L2 := hold_items (has := false) (v := []) (val := val) (ks := (noneNs 16).set a.toNat (alongN p' k)) (p := q.drop K) (way := way ++ q.take K) (fun _ => rfl) (fun x r h => by
    have hx : x.toNat < 16 := halves_hd (h ▸ halvesB_drop hq)
    have hax : a ≠ x := by
      rcases hs2 with (h' | h') | ⟨a', b', p'', q'', hab, h1, h2⟩
      · rw [hpk] at h'; cases h'
      · rw [h] at h'; cases h'
      · rw [hpk] at h1; rw [h] at h2
        injection h1 with e1; injection h2 with e2
        rw [e1, e2]; exact hab
    rw [List.getElem?_set_ne (fun e => hax (UInt8.toNat_inj.1 e))]
    exact none_at hx)
  rw [hWq] at L2
  exact .trans L2 (L1.cons' _)
theorem pre_ne {way : List UInt8} {a : UInt8} {p r : List UInt8} {x : UInt8} (h : way ++ [a] <+: p) (hx : a ≠ x) : p ≠ way ++ x :: r := by
  rintro rfl
  obtain ⟨z, hz⟩ := h
  rw [List.append_assoc] at hz
  have := List.append_cancel_left hz
  rw [List.singleton_append] at this
  injection this with e
  exact hx e
theorem own_filter_nil {has : Bool} {v way : List UInt8} : (ownI has v way).filter (keepI (way ++ [])) = [] := by
  unfold ownI
  rw [List.append_nil]
  cases has with
  | true => rw [if_pos rfl, List.filter_cons, if_neg (by rw [show (⟨way, v, false, false, []⟩ : It) = newI way v from rfl, keep_new]; decide)]; rfl
  | false => rfl
theorem own_filter_cons {has : Bool} {v way : List UInt8} {x : UInt8} {r : List UInt8} : (ownI has v way).filter (keepI (way ++ x :: r)) = ownI has v way := by
  unfold ownI
  cases has with
  | true =>
    rw [if_pos rfl, List.filter_cons, if_pos (keep_of (fun e => ?_))]; rfl
    have := congrArg List.length e
    rw [List.length_append, List.length_cons] at this
    dsimp only at this
    omega
  | false => rfl
theorem kids_keep {ks : List Nd} {way : List UInt8} : (itemsK ks true false 0 way).filter (keepI (way ++ [])) = itemsK ks true false 0 way := by
  rw [List.filter_eq_self]
  intro y hy
  obtain ⟨j, k, h1, h2⟩ := kid_mem hy
  have := (pre_at (kid_pre h2)).1
  refine keep_of fun e => ?_
  rw [e, List.append_nil] at this; omega
theorem kid_keep {ks : List Nd} (h16 : ks.length = 16) {way : List UInt8} {x : UInt8} {r : List UInt8} : ∀ j kj, ks[j]? = some kj → j ≠ x.toNat → ∀ y ∈ itemsP kj (way ++ [UInt8.ofNat j]) false, keepI (way ++ x :: r) y = true := by
  intro j kj hj hne y hy
  have hj16 : j < 16 := by have := (List.getElem?_eq_some_iff.1 hj).1; omega
  refine keep_of (pre_ne (kid_pre hy) fun e => hne ?_)
  rw [← e, ofNat_half hj16]
theorem put_items {even : Bool} {t : Nd} {d : Nat} (hv : Val even t d) : ∀ (q val way : List UInt8) (kn : Bool), halvesB q = true → (putP t q val).2 = none → Like (itemsP (putP t q val).1 way kn) (newI (way ++ q) val :: (itemsP t way kn).filter (keepI (way ++ q))) := by
  induction hv with
  | none d hd => intro q val way kn hq _; rw [putP_none, items_none, items_leafN]; exact .refl _
  | leaf d p v hd hp hv' he' =>
    intro q val way kn hq _
    rw [putP_leaf, items_leaf]
    by_cases h : p = q
    · subst h
      dsimp only
      rw [if_pos rfl, items_leafN]
      have : [(⟨way ++ p, v, false, false, []⟩ : It)].filter (keepI (way ++ p)) = [] := by
        rw [List.filter_cons, if_neg (by rw [show (⟨way ++ p, v, false, false, []⟩ : It) = newI (way ++ p) v from rfl, keep_new]; decide)]; rfl
      rw [this]; exact .refl _
    · dsimp only
      rw [if_neg h]
      have : [(⟨way ++ p, v, false, false, []⟩ : It)].filter (keepI (way ++ q)) = [newI (way ++ p) v] := by
        rw [List.filter_cons, if_pos (keep_of (fun e => h (List.append_cancel_left e)))]; rfl
      rw [this]
      exact fork_leaf hp hq h
  | stub d h hd hh => intro q val way kn hq hm; rw [putP_stub] at hm; cases hm
  | way d p k hd hp h0 hk hr ih =>
    intro q val way kn hq hm
    rw [items_way]
    by_cases hpq : p <+: q
    · rw [putP_way hpq] at hm ⊢
      dsimp only at hm ⊢
      have hm' : (putP k (q.drop p.length) val).2 = none := by simpa using hm
      have e : way ++ p ++ q.drop p.length = way ++ q := by
        obtain ⟨r, rfl⟩ := hpq
        rw [List.drop_left, List.append_assoc]
      have := ih (q.drop p.length) val (way ++ p) true (halvesB_drop hq) hm'
      rw [e] at this
      rw [items_way]; exact this
    · rw [putP_way0 hpq]
      have : (itemsP k (way ++ p) true).filter (keepI (way ++ q)) = itemsP k (way ++ p) true := by
        rw [List.filter_eq_self]
        intro y hy
        refine keep_of fun e => hpq ?_
        have := (List.prefix_append _ _).trans (items_pre k _ _ y hy)
        rw [e] at this
        exact (List.prefix_append_right_inj _).1 this
      rw [this]
      exact fork_way hr hp hq hpq
  | branch d has v ks hd hv' hv0 he' h16 hr hm ih =>
    intro q val way kn hq hmm
    rw [items_br, List.filter_append]
    match q, hq, hmm with
    | [], hq, _ =>
      rw [putP_br0, items_br, own_filter_nil, kids_keep, List.append_nil]
      exact .refl _
    | x :: q', hq, hmm =>
      have hx := halves_hd hq
      obtain ⟨k, hki⟩ : ∃ k, ks[x.toNat]? = some k := ⟨_, List.getElem?_eq_getElem (by omega)⟩
      rw [putP_br hki] at hmm ⊢
      dsimp only at hmm ⊢
      have hm' : (putP k q' val).2 = none := by simpa using hmm
      obtain ⟨A, B, e1, e2, e3, e4⟩ := set_keep hki (keepI (way ++ x :: q')) false way (kid_keep h16)
      have := ih k (List.mem_of_getElem? hki) q' val (way ++ [x]) false (by have := halvesB_drop (n := 1) hq; simpa using this) hm'
      rw [List.append_assoc, List.singleton_append] at this
      rw [items_br, own_filter_cons, e1, e2, List.filter_append, List.filter_append, e3, e4, ofNat_toNat]
      refine .trans (Like.appl _ (Like.appl _ (this.appr B))) (.perm ?_)
      rw [← List.append_assoc, List.cons_append, ← List.append_assoc]
      exact List.perm_middle
end Go.Proofs.YtdlljmmgkoeilaaDoor
