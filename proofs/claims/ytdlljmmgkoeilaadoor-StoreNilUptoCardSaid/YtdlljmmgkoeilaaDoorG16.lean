/- Halves of bytes: plain laws of the functions: there and back, order, what is joined. Reference 08: the walks of right, stub, Get. Reference 08: the walks of Put and Drop. Tries without stubs, plainly. The walks of trie.Of, pairs and Pairs. Reference 08: the walks of SamePairs, Pairs, Rising, Of. -/
import Derived.Test.YtdlljmmgkoeilaaDoorG14
import Derived.Test.YtdlljmmgkoeilaaDoorG15
import Derived.Test.YtdlljmmgkoeilaaDoorG13
namespace Go.Proofs.YtdlljmmgkoeilaaDoor

theorem ofB_cons (c : UInt8) (l : List UInt8) : ofB (c :: l) = c / 16 :: c % 16 :: ofB l := rfl
theorem div_mod (c : UInt8) : 16 * (c / 16) + c % 16 = c := by
  apply UInt8.toNat_inj.1
  rw [UInt8.toNat_add, UInt8.toNat_mul, UInt8.toNat_div, UInt8.toNat_mod]
  have := c.toNat_lt
  simp; omega
theorem joinB_ofB (l : List UInt8) : joinB (ofB l) = l := by
  induction l with
  | nil => rfl
  | cons c l ih => rw [ofB_cons, joinB, ih, div_mod]
theorem up (a b : UInt8) (ha : a ≤ 15) (hb : b ≤ 15) : (16 * a + b) / 16 = a ∧ (16 * a + b) % 16 = b := by
  have h1 := UInt8.le_iff_toNat_le.1 ha
  have h2 := UInt8.le_iff_toNat_le.1 hb
  constructor <;> apply UInt8.toNat_inj.1
  · rw [UInt8.toNat_div, UInt8.toNat_add, UInt8.toNat_mul]; simp at *; omega
  · rw [UInt8.toNat_mod, UInt8.toNat_add, UInt8.toNat_mul]; simp at *; omega
theorem ofB_joinB : ∀ (l : List UInt8), halvesB l = true → l.length % 2 = 0 → ofB (joinB l) = l
  | a :: b :: r, h, k => by
    have ha := halvesB_le _ h a (by simp)
    have hb := halvesB_le _ h b (by simp)
    have hr : halvesB r = true := halvesB_dropP (l := a :: b :: r) h 2
    rw [joinB, ofB_cons, (up a b ha hb).1, (up a b ha hb).2, ofB_joinB r hr (by simp at k; omega)]
  | [a], _, k => by simp at k
  | [], _, _ => rfl
theorem half_eq (a b : UInt8) (h1 : a / 16 = b / 16) (h2 : a % 16 = b % 16) : a = b := by rw [← div_mod a, ← div_mod b, h1, h2]
/-- cmpB, one byte at a time. -/
theorem cmpB_cons (x y : UInt8) (a b : List UInt8) : cmpB (x :: a) (y :: b) = if x = y then cmpB a b else if x.toNat < y.toNat then -1 else 1 := by
  by_cases h : x = y
  · subst h
    rw [if_pos rfl]
    unfold cmpB
    simp only [commonB, if_true, List.length_cons, Nat.add_right_cancel_iff, Nat.add_lt_add_iff_right]
    have e : ∀ (l : List UInt8) (k : Nat), at8 (x :: l) (k + 1) = at8 l k := fun l k => by unfold at8; rfl
    simp only [e]
  · rw [if_neg h]
    have hc : commonB (x :: a) (y :: b) = 0 := by simp [commonB, h]
    by_cases hlt : x.toNat < y.toNat
    · rw [if_pos hlt, cmpB_at_lt hc (by simp) (by show ((x.toNat : Nat) : Int) < (y.toNat : Nat); omega) (by simp)]
    · rw [if_neg hlt, cmpB_at_ge hc (by simp) (by show ¬ ((x.toNat : Nat) : Int) < (y.toNat : Nat); omega)]
theorem cmpB_nil : cmpB [] [] = 0 := rfl
theorem cmpB_nil_cons (y : UInt8) (b : List UInt8) : cmpB [] (y :: b) = -1 := cmpB_lt (n := 0) (by simp [commonB]) rfl (by simp)
theorem cmpB_cons_nil (x : UInt8) (a : List UInt8) : cmpB (x :: a) [] = 1 := cmpB_gt (n := 0) (by simp [commonB]) (by simp) (by simp)
theorem cmpB_symm : ∀ a b : List UInt8, cmpB b a = - cmpB a b
  | x :: a, y :: b => by
    rw [cmpB_cons, cmpB_cons]
    by_cases h : x = y
    · rw [if_pos h, if_pos h.symm, cmpB_symm a b]
    · have hn : x.toNat ≠ y.toNat := fun e => h (UInt8.toNat_inj.1 e)
      rw [if_neg h, if_neg (fun e => h e.symm)]
      by_cases hlt : x.toNat < y.toNat
      · rw [if_pos hlt, if_neg (by omega)]; rfl
      · rw [if_neg hlt, if_pos (by omega)]
  | [], [] => rfl
  | [], _ :: _ => by rw [cmpB_nil_cons, cmpB_cons_nil]; rfl
  | _ :: _, [] => by rw [cmpB_nil_cons, cmpB_cons_nil]
theorem cmpB_ofB : ∀ a b : List UInt8, cmpB (ofB a) (ofB b) = cmpB a b
  | x :: a, y :: b => by
    rw [ofB_cons, ofB_cons, cmpB_cons, cmpB_cons, cmpB_cons, cmpB_ofB a b]
    have hx := x.toNat_lt
    have hy := y.toNat_lt
    by_cases h : x = y
    · subst h; simp
    · rw [if_neg h]
      by_cases h1 : x / 16 = y / 16
      · have h2 : ¬ x % 16 = y % 16 := fun e => h (half_eq x y h1 e)
        have e1 : x.toNat / 16 = y.toNat / 16 := by have := congrArg UInt8.toNat h1; simpa [UInt8.toNat_div] using this
        rw [if_pos h1, if_neg h2, UInt8.toNat_mod, UInt8.toNat_mod]
        simp only [show (16 : UInt8).toNat = 16 from rfl]
        by_cases hlt : x.toNat < y.toNat
        · rw [if_pos hlt, if_pos (by omega)]
        · rw [if_neg hlt, if_neg (by omega)]
      · have e1 : x.toNat / 16 ≠ y.toNat / 16 := fun e => h1 (UInt8.toNat_inj.1 (by simpa [UInt8.toNat_div] using e))
        rw [if_neg h1, UInt8.toNat_div, UInt8.toNat_div]
        simp only [show (16 : UInt8).toNat = 16 from rfl]
        by_cases hlt : x.toNat < y.toNat
        · rw [if_pos hlt, if_pos (by omega)]
        · rw [if_neg hlt, if_neg (by omega)]
  | [], [] => rfl
  | [], y :: b => by rw [ofB_cons, cmpB_nil_cons]; exact cmpB_nil_cons _ _
  | x :: a, [] => by rw [ofB_cons, cmpB_cons_nil]; exact cmpB_cons_nil _ _
end Go.Proofs.YtdlljmmgkoeilaaDoor
namespace Go.Proofs.YtdlljmmgkoeilaaDoor
open Go.RowKit
theorem is_cmp04 : isFn Tryd.prog 34 = true := by kernel_rfl
theorem is_rof : isFn Tryd.prog 22 = true := by kernel_rfl
theorem rof_any (A : Option Addr) (n c : Nat) (l : List UInt8) (w : World) (hr : Rd w w.heap.size A n l) (hn : n ≤ 100000000000) :
    Calls Tryd.prog 22 #[.slice A n c] w fun e w' => ∃ A' c', e = .returned (.slice A' (2 * n) c') ∧ Own w' w.heap.size A' (2 * n) c' (ofB l) ∧ Below w.heap.size w w' :=
  (refOf_any A n c l w hr hn).mono fun _ _ ⟨h1, h2, h3⟩ => ⟨_, _, h1, h2, h3⟩
end Go.Proofs.YtdlljmmgkoeilaaDoor
namespace Go.Proofs.YtdlljmmgkoeilaaDoor
open Go.RowKit
def keepI (q : List UInt8) (x : It) : Bool := x.stub || !decide (x.path = q)
end Go.Proofs.YtdlljmmgkoeilaaDoor
namespace Go.Proofs.YtdlljmmgkoeilaaDoor
mutual
def sfB : Nd → Bool
  | .mk k _ _ _ ks _ => decide (k ≠ 4) && sfsB ks
def sfsB : List Nd → Bool
  | [] => true
  | t :: ts => sfB t && sfsB ts
end
theorem sfB_mk (k : Int) (p : List UInt8) (h : Bool) (v : List UInt8) (ks : List Nd) (hs : List UInt8) : sfB (.mk k p h v ks hs) = (decide (k ≠ 4) && sfsB ks) := by rw [sfB]
theorem sfsB_all : ∀ {ks : List Nd}, sfsB ks = true ↔ ∀ k ∈ ks, sfB k = true
  | [] => by simp [sfsB]
  | t :: ts => by rw [sfsB, Bool.and_eq_true, sfsB_all (ks := ts)]; simp
theorem sf_none : sfB noneN = true := by decide
theorem sf_leaf (p v : List UInt8) : sfB (leafN p v) = true := by unfold leafN; rw [sfB_mk]; rfl
theorem sf_along {p : List UInt8} {t : Nd} (h : sfB t = true) : sfB (alongN p t) = true := by
  unfold alongN; split
  · exact h
  · rw [sfB_mk, sfsB, sfsB, h]; rfl
theorem sf_set {ks : List Nd} {i : Nat} {k : Nd} (h : sfsB ks = true) (hk : sfB k = true) : sfsB (ks.set i k) = true :=
  sfsB_all.2 fun x hx => by
    rcases List.mem_or_eq_of_mem_set hx with hx | rfl
    · exact sfsB_all.1 h x hx
    · exact hk
theorem sf_hold {has : Bool} {v : List UInt8} {ks : List Nd} (p val : List UInt8) (h : sfsB ks = true) : sfsB (holdK has v ks p val).2.2 = true := by
  cases p with
  | nil => exact h
  | cons x q => exact sf_set h (sf_leaf _ _)
theorem sf_nones (n : Nat) : sfsB (noneNs n) = true := sfsB_all.2 fun x hx => by rw [noneNs_mem hx]; exact sf_none
theorem sf_fork {t : Nd} (p val : List UInt8) (h : sfB t = true) : sfB (forkN t p val) = true := by
  unfold forkN
  refine sf_along ?_
  rw [sfB_mk]
  rw [Bool.and_eq_true]
  refine ⟨rfl, sf_hold _ _ ?_⟩
  split
  · exact sf_hold _ _ (sf_nones _)
  · refine sf_set (sf_nones _) (sf_along ?_)
    obtain ⟨k, p, hh, v, ks, hs⟩ := t
    rw [sfB_mk, Bool.and_eq_true] at h
    show sfB (ks.headD noneN) = true
    cases ks with
    | nil => exact sf_none
    | cons k0 ks => exact sfsB_all.1 h.2 k0 (by simp)
theorem sf_put {even : Bool} {t : Nd} {d : Nat} (h : Val even t d) : sfB t = true → ∀ (q val : List UInt8), halvesB q = true → (putP t q val).2 = none ∧ sfB (putP t q val).1 = true := by
  induction h with
  | none d hd => intro _ q val _; rw [putP_none]; exact ⟨rfl, sf_leaf _ _⟩
  | leaf d p v hd hp hv' he' =>
    intro hs q val hq
    rw [putP_leaf]
    refine ⟨rfl, ?_⟩
    show sfB (if p = q then leafN q val else forkN (.mk 1 p false v [] []) q val) = true
    split
    · exact sf_leaf _ _
    · exact sf_fork _ _ hs
  | stub d h hd hh => intro hs; rw [sfB_mk] at hs; cases hs
  | way d p k hd hp h0 hk hr ih =>
    intro hs q val hq
    have hs' := hs
    rw [sfB_mk, Bool.and_eq_true] at hs'
    by_cases hpq : p <+: q
    · rw [putP_way hpq]
      obtain ⟨h1, h2⟩ := ih (sfsB_all.1 hs'.2 k (by simp)) (q.drop p.length) val (halvesB_drop hq)
      rw [h1]
      exact ⟨rfl, by rw [sfB_mk, sfsB, sfsB, h2]; rfl⟩
    · rw [putP_way0 hpq]; exact ⟨rfl, sf_fork _ _ hs⟩
  | branch d has v ks hd hv' hv0 he' h16 hr hm ih =>
    intro hs q val hq
    have hs' := hs
    rw [sfB_mk, Bool.and_eq_true] at hs'
    match q, hq with
    | [], _ => rw [putP_br0]; exact ⟨rfl, by rw [sfB_mk, hs'.2]; rfl⟩
    | x :: q', hq =>
      have hx := halves_hd hq
      obtain ⟨k, hki⟩ : ∃ k, ks[x.toNat]? = some k := ⟨_, List.getElem?_eq_getElem (by omega)⟩
      rw [putP_br hki]
      obtain ⟨h1, h2⟩ := ih k (List.mem_of_getElem? hki) (sfsB_all.1 hs'.2 k (List.mem_of_getElem? hki)) q' val (by have := halvesB_drop (n := 1) hq; simpa using this)
      rw [h1]
      exact ⟨rfl, by rw [sfB_mk, sf_set hs'.2 h2]; rfl⟩
theorem sum_mem {α : Type} (f : α → Nat) : ∀ {l : List α} {x : α}, x ∈ l → f x ≤ (l.map f).sum
  | y :: l, x, h => by
    rw [List.map_cons, List.sum_cons]
    rcases List.mem_cons.1 h with rfl | h
    · omega
    · have := sum_mem f h; omega
/-- What trie.Of comes to. -/
def tOfF : List Pr → Nd → Nd × Int
  | [], n => (n, 0)
  | p :: l, n => if p.k.length > 200 ∨ p.v.length > 4000 then (noneN, 2) else tOfF l (putP n (ofB p.k) p.v).1
def tOf (l : List Pr) : Nd × Int := tOfF l noneN
def prBulk (l : List Pr) : Nat := (l.map fun p => 140 + 2 * p.k.length + p.v.length).sum
end Go.Proofs.YtdlljmmgkoeilaaDoor
namespace Go.Proofs.YtdlljmmgkoeilaaDoor
open Go.RowKit
mutual
/-- What trie.pairs comes to: the pairs; the way to a stub. -/
def pairsP : Nd → List UInt8 → List Pr × Option (List UInt8)
  | .mk k p has v ks _, way =>
    if k = 4 then ([], some (way ++ p))
    else ((if k = 1 ∨ has = true then [⟨bytesL (way ++ p), v⟩] else []) ++ (pairsK ks (decide (k = 3)) 0 (way ++ p)).1, (pairsK ks (decide (k = 3)) 0 (way ++ p)).2)
def pairsK : List Nd → Bool → Nat → List UInt8 → List Pr × Option (List UInt8)
  | [], _, _, _ => ([], none)
  | t :: ts, br, i, at_ => match (pairsP t (if br then at_ ++ [UInt8.ofNat i] else at_)).2 with
    | some m => ([], some m)
    | none => ((pairsP t (if br then at_ ++ [UInt8.ofNat i] else at_)).1 ++ (pairsK ts br (i + 1) at_).1, (pairsK ts br (i + 1) at_).2)
end
theorem is_nby : isFn Tryd.prog 90 = true := by kernel_rfl
theorem sz_prs : (Tryd.prog.info? 22).map (·.size) = some 1 := by kernel_rfl
theorem dPrs_snoc (l : List Pr) (p : Pr) : dPrs (l ++ [p]) = dPrs l ++ dPr p := by unfold dPrs; simp
structure PairsR where
  l : List Pr
  miss : Option (List UInt8)
  e : Int
end Go.Proofs.YtdlljmmgkoeilaaDoor
namespace Go.Proofs.YtdlljmmgkoeilaaDoor
open Go.RowKit
theorem is_rising : isFn Tryd.prog 21 = true := by kernel_rfl
theorem is_r8of : isFn Tryd.prog 6 = true := by kernel_rfl
def prBig (l : List Pr) : Prop := l.length ≤ 10000000 ∧ ∀ p ∈ l, p.k.length ≤ 100000000 ∧ p.v.length ≤ 100000000
def rPairsF : List It → List Pr × Option (List UInt8)
  | [] => ([], none)
  | x :: l => if x.stub then ([], some x.path) else (match (rPairsF l).2 with
    | some m => ([], some m)
    | none => (⟨bytesL x.path, x.val⟩ :: (rPairsF l).1, none))
def insP : List Pr → Pr → List Pr
  | [], p => [p]
  | x :: r, p => if cmpB x.k p.k < 0 then x :: insP r p else if cmpB x.k p.k = 0 then p :: r else p :: x :: r
def risingP (l : List Pr) : List Pr := l.foldl insP []
theorem ins_end : ∀ {o : List Pr} {p : Pr}, (∀ x ∈ o, cmpB x.k p.k < 0) → insP o p = o ++ [p]
  | [], p, _ => rfl
  | x :: r, p, h => by rw [insP, if_pos (h x (by simp)), ins_end (fun y hy => h y (by simp [hy]))]; rfl
theorem ins_at : ∀ {o : List Pr} {p x : Pr} {k : Nat}, (∀ y ∈ o.take k, cmpB y.k p.k < 0) → o[k]? = some x → ¬ cmpB x.k p.k < 0 → insP o p = o.take k ++ p :: (if cmpB x.k p.k = 0 then o.drop (k + 1) else o.drop k)
  | y :: o, p, x, 0, _, hk, hn => by
    simp at hk; subst hk
    rw [insP, if_neg hn]
    split <;> rfl
  | y :: o, p, x, k + 1, h, hk, hn => by
    rw [insP, if_pos (h y (by simp)), ins_at (k := k) (fun z hz => h z (by simp [hz])) (by simpa using hk) hn]
    rfl
theorem ins_mem {p : Pr} : ∀ {o : List Pr}, ∀ x ∈ insP o p, x = p ∨ x ∈ o
  | [], x, h => by simp [insP] at h; exact .inl h
  | y :: r, x, h => by
    rw [insP] at h
    split at h
    · rcases List.mem_cons.1 h with rfl | h
      · exact .inr (by simp)
      · rcases ins_mem x h with h | h
        · exact .inl h
        · exact .inr (by simp [h])
    · split at h
      · rcases List.mem_cons.1 h with h | h
        · exact .inl h
        · exact .inr (by simp [h])
      · rcases List.mem_cons.1 h with h | h
        · exact .inl h
        · exact .inr h
theorem ins_len {p : Pr} : ∀ {o : List Pr}, (insP o p).length ≤ o.length + 1
  | [] => by simp [insP]
  | y :: r => by
    have := ins_len (p := p) (o := r)
    rw [insP]
    split
    · simp; omega
    · split <;> simp
theorem rising_take {l : List Pr} {i : Nat} {p : Pr} (h : l[i]? = some p) : risingP (l.take (i + 1)) = insP (risingP (l.take i)) p := by
  have h1 := List.getElem?_eq_some_iff.1 h
  unfold risingP
  rw [List.take_succ_eq_append_getElem h1.1, h1.2, List.foldl_append]; rfl
theorem rising_big {l : List Pr} : (risingP l).length ≤ l.length ∧ ∀ x ∈ risingP l, x ∈ l := by
  have : ∀ (l o : List Pr), (l.foldl insP o).length ≤ o.length + l.length ∧ ∀ x ∈ l.foldl insP o, x ∈ o ∨ x ∈ l := by
    intro l
    induction l with
    | nil => intro o; exact ⟨by simp, fun x h => .inl h⟩
    | cons p l ih =>
      intro o
      obtain ⟨h1, h2⟩ := ih (insP o p)
      have := ins_len (p := p) (o := o)
      refine ⟨by rw [List.foldl_cons, List.length_cons]; omega, fun x h => ?_⟩
      rw [List.foldl_cons] at h
      rcases h2 x h with h | h
      · rcases ins_mem x h with h | h
        · exact .inr (by simp [h])
        · exact .inl h
      · exact .inr (by simp [h])
  obtain ⟨h1, h2⟩ := this l []
  refine ⟨by simpa [risingP] using h1, fun x h => ?_⟩
  rcases h2 x h with h | h
  · cases h
  · exact h
theorem dPrs_drop : ∀ (l : List Pr) (k : Nat), (dPrs l).drop (k * 2) = dPrs (l.drop k)
  | l, 0 => by simp
  | [], k + 1 => by simp [dPrs]
  | p :: l, k + 1 => by
    rw [show (k + 1) * 2 = (dPr p).length + k * 2 by rw [dPr_len]; omega, List.drop_succ_cons, ← dPrs_drop l k]
    show (dPr p ++ dPrs l).drop _ = _
    rw [← List.drop_drop, List.drop_left]
theorem RdD.cutP {W : World} {F : Nat → Prop} {l : List Pr} {A : Option Addr} {n c k : Nat} (h : RdD W F (dPl l) (.slice A n c)) (hk : k ≤ n) : RdD W F (dPl (l.drop k)) (.slice (slA A c k 2) (n - k) (c - k)) := by
  have hn := h.slen
  have h2 := h.cut (i := k) (j := n) (m := c) hk (Nat.le_refl _) h.scap
  have e1 : (dPrs l).drop (k * 2) = dPrs (l.drop k) := dPrs_drop l k
  have e2 : (l.drop k).length = n - k := by rw [List.length_drop]; omega
  rw [e1, List.take_of_length_le (by unfold dPrs; rw [flat_len dPr_len, e2]; omega)] at h2
  show RdD W F (.sl 2 (l.drop k).length (dPrs (l.drop k))) _
  rw [e2]
  exact h2
theorem dPrs_app (a b : List Pr) : dPrs (a ++ b) = dPrs a ++ dPrs b := by unfold dPrs; simp
theorem dPrs_one (l : List Pr) : ∀ d ∈ dPrs l, d.One := by
  intro d hd
  unfold dPrs at hd
  obtain ⟨x, _, hx⟩ := List.mem_flatMap.1 hd
  simp only [dPr, List.mem_cons, List.not_mem_nil, or_false] at hx
  rcases hx with rfl | rfl <;> trivial
set_option maxRecDepth 100000 in
set_option maxHeartbeats 2000000 in
theorem rising_any (l : List Pr) (gs : List (Option Nat)) (w : World) (A : Option Addr) (n c : Nat) (hr : RdD w (Fd w gs) (dPl l) (.slice A n c)) (hgs : ∀ b, some b ∈ gs → b < w.heap.size) (hbig : prBig l) :
    Calls Tryd.prog 21 #[.slice A n c] w fun e w' => ∃ A' n' c', e = .returned (.slice A' n' c') ∧ RdD w' (Fd w' gs) (dPl (risingP l)) (.slice A' n' c') ∧ Below w.heap.size w w' := by
  refine calls_ev (args := [.slice A n c]) mixed Tryd.func21 rfl (by kernel_rfl) ?_
  have en := hr.slen
  obtain ⟨hb1, hb2⟩ := hbig
  have M := ((St.start hgs).addD hr).addD (d := dPl []) (u := .slice none 0 0) (RdD.nil_ _ _)
  refine lp (Nat × Option Addr × Nat × Nat) (fun s W => s.1 ≤ n ∧ St w gs W [] [] [.dat false [dPl (risingP (l.take s.1))] [.slice s.2.1 s.2.2.1 s.2.2.2], .dat false [dPl l] [.slice A n c]]) (fun s => [(0, .slice A n c), (3, .slice s.2.1 s.2.2.1 s.2.2.2), (4, .int .i64 s.1)]) (fun s => n - s.1) (0, none, 0, 0) ⟨Nat.zero_le _, M⟩ (by repeat (first | exact trivial | refine ⟨rfl, ?_⟩)) ?_
  clear M
  rintro ⟨i, Ao, no, co⟩ E5 W5 ⟨hi, M⟩
  dsimp only at hi M
  refine p_len slp rfl ?_
  refine p_lt rfl rfl (fun hlt => ?_) (fun hge => ?_)
  rotate_left
  · dsimp only at hge
    rw [List.take_of_length_le (by omega)] at M
    exact ⟨Ao, no, co, rfl, M.fin1 0 rfl, M.below⟩
  dsimp only at hlt
  obtain ⟨p, hp⟩ : ∃ p, l[i]? = some p := ⟨_, List.getElem?_eq_getElem (by omega)⟩
  have hpb := hb2 p (List.mem_of_getElem? hp)
  have hrt := rising_take hp
  obtain ⟨o, ho⟩ : ∃ o, o = risingP (l.take i) := ⟨_, rfl⟩
  have hob : o.length ≤ 10000000 ∧ ∀ x ∈ o, x.k.length ≤ 100000000 := by
    have := rising_big (l := l.take i)
    rw [← ho] at this
    refine ⟨by have h1 := this.1; rw [List.length_take] at h1; omega, fun x hx => (hb2 x (List.mem_of_mem_take (this.2 x hx))).1⟩
  rw [← ho] at hrt M
  have eno := (M.d1 0 rfl).slen
  refine evOps_nil ?_
  refine nx ?_
  refine ev_ift rfl ?_
  refine ev_skp ?_
  refine nx ?_
  refine ev_sq ?_
  refine ev_blk ?_
  refine ev_assoc (ev_assoc ?_)
  refine cutS (Nat × Option Addr × Nat × Nat × List Value) (fun s W => s.1 ≤ no ∧ St w gs W [] [⟨55, 2, s.2.1, s.2.2.1, s.2.2.2.1, s.2.2.2.2⟩] [.dat false (dPrs (o.take s.1)) s.2.2.2.2, .dat false [dPl o] [.slice Ao no co], .dat false [dPl l] [.slice A n c]] ∧ s.2.2.1 = s.1 ∧ (∀ y ∈ o.take s.1, cmpB y.k p.k < 0) ∧ (s.1 < no → ∀ y, o[s.1]? = some y → ¬ cmpB y.k p.k < 0))
    (fun s => [(0, .slice A n c), (3, .slice Ao no co), (4, .int .i64 i), (5, .slice s.2.1 s.2.2.1 s.2.2.2.1), (6, .int .i64 s.1)]) ?_ ?_
  · replace M := (M.nilR 55 2).addT (fr := false) (ds := dPrs []) (cs := []) RdL.nil_
    refine lp (Nat × Option Addr × Nat × Nat × List Value) (fun s W => s.1 ≤ no ∧ St w gs W [] [⟨55, 2, s.2.1, s.2.2.1, s.2.2.2.1, s.2.2.2.2⟩] [.dat false (dPrs (o.take s.1)) s.2.2.2.2, .dat false [dPl o] [.slice Ao no co], .dat false [dPl l] [.slice A n c]] ∧ s.2.2.1 = s.1 ∧ (∀ y ∈ o.take s.1, cmpB y.k p.k < 0))
      (fun s => [(0, .slice A n c), (3, .slice Ao no co), (4, .int .i64 i), (5, .slice s.2.1 s.2.2.1 s.2.2.2.1), (6, .int .i64 s.1)]) (fun s => no - s.1) (0, none, 0, 0, []) ⟨Nat.zero_le _, M.fsub _ (by simp), rfl, (fun y hy => by simp at hy)⟩ (by repeat (first | exact trivial | refine ⟨rfl, ?_⟩)) ?_
    clear M
    rintro ⟨k, A7, n7, c7, xs7⟩ E7 W7 ⟨hk, M, hn7, hall⟩
    dsimp only at hk M hn7 hall
    replace M := M.drew
    obtain ⟨b1, o1, Ak, ck, Av, cv, rfl, M'⟩ := M.pair (M.d1 2 rfl) hp
    replace M := M'; clear M'
    rcases Nat.lt_or_ge k no with hkn | hkn
    · obtain ⟨y, hy⟩ : ∃ y, o[k]? = some y := ⟨_, List.getElem?_eq_getElem (by omega)⟩
      have hyb := hob.2 y (List.mem_of_getElem? hy)
      have hy1 := List.getElem?_eq_some_iff.1 hy
      obtain ⟨b2, o2, Bk, dk, Bv, dv, rfl, M'⟩ := M.pair (M.d1 4 rfl) hy
      replace M := M'; clear M'
      refine drT (Kp w gs [] [.loc ((⟨b1, o1, none⟩ : Addr).add (i * 2)) (pcs p Ak ck Av cv), .loc ((⟨b2, o2, none⟩ : Addr).add (k * 2)) (pcs y Bk dk Bv dv)]) (.take 0 (.take 1 (.take 2 (.take 3 (.take 4 (.take 5 (.take 6 (.take 7 (.take 8 (.take 9 (.take 10 (.take 11 (.take 12 (.take 13 (.take 14 (.one 15 (.take 16 (.take 17 (.nil))))))))))))))))))) (by kernel_rfl) (M.kp (by simp) (by simp)) ?_
      refine p_len slp rfl ?_
      refine p_lt rfl rfl (fun _ => ?_) (fun h => absurd (by omega) h)
      refine p_at slp rfl rfl rfl (by omega) ?_
      refine p_fld fP0 rfl ?_
      refine t_load agg_b rfl (fun W K => by first | exact (K.B 0 rfl).at_ rfl | exact (K.B 1 rfl).at_ rfl | exact (K.B 2 rfl).at_ rfl | exact (K.B 3 rfl).at_ rfl | exact K.lc 0 rfl _ _ rfl | exact K.lc 1 rfl _ _ rfl | exact K.lc 2 rfl _ _ rfl | exact K.lc 3 rfl _ _ rfl) ?_
      refine p_at slp rfl rfl rfl (by omega) ?_
      refine p_fld fP0 rfl ?_
      refine t_load agg_b rfl (fun W K => by first | exact (K.B 0 rfl).at_ rfl | exact (K.B 1 rfl).at_ rfl | exact (K.B 2 rfl).at_ rfl | exact (K.B 3 rfl).at_ rfl | exact K.lc 0 rfl _ _ rfl | exact K.lc 1 rfl _ _ rfl | exact K.lc 2 rfl _ _ rfl | exact K.lc 3 rfl _ _ rfl) ?_
      refine cc is_cmp04 (cmp04_any _ _ _ _ _ _ _ y.k p.k _ (M.rdb 1 rfl).2.2 (M.rdb 4 rfl).2.2 (by omega) (by omega)) ?_
      rintro e W ⟨rfl, dd, rfl⟩
      replace M := M.drewN dd
      refine ⟨_, rfl, (M.kp (by simp) (by simp)), ?_⟩
      refine p_lt rfl rfl (fun hc => ?_) (fun hc => ?_)
      · refine p_at slp rfl rfl rfl (by omega) ?_
        refine v_loadN (pcs y Bk dk Bv dv) agg_pr rfl rfl (by first | exact M.run 0 rfl | exact M.run 1 rfl | exact M.run 2 rfl | exact M.run 3 rfl | exact M.run 4 rfl | exact M.lc 0 rfl | exact M.lc 1 rfl | exact M.lc 2 rfl | exact M.lc 3 rfl | exact M.lc 4 rfl | exact M.lc 5 rfl | exact M.lc 6 rfl | exact M.lc 7 rfl) ?_
        refine s_bsliceB (pcs y Bk dk Bv dv) M slp z_pr rfl (by decide) rfl ?_
        clear M; rintro g6 W M
        refine s_app M Tryd.underlying22 prinfo rfl (by decide) rfl rfl (Reads.blk (M.B 0 rfl) rfl) (all1 rfl) ⟨by omega, by decide⟩ ?_
        clear M; rintro A5 c5 W M -
        have hX := (M.dw 6 rfl).app (RdL.cons (M.w1_1) (M.dw 2 rfl))
        rw [show [dB y.k, dB y.v] = dPr y from rfl, ← dPrs_snoc] at hX
        have hts : o.take (k + 1) = o.take k ++ [y] := by rw [List.take_succ_eq_append_getElem hy1.1, hy1.2]
        rw [← hts] at hX
        refine p_addN (b := 1) rfl rfl (by omega) ?_
        refine ⟨(k + 1, A5, n7 + 1, c5, xs7 ++ pcs y Bk dk Bv dv), ⟨by dsimp only; omega, (M.addT (cs := xs7 ++ pcs y Bk dk Bv dv) hX).dropL.fsub _ (by simp), by dsimp only; omega, fun z hz => ?_⟩, (by repeat (first | exact trivial | refine ⟨rfl, ?_⟩)), by dsimp only; omega⟩
        dsimp only at hz
        rw [hts] at hz
        rcases List.mem_append.1 hz with hz | hz
        · exact hall z hz
        · rw [List.mem_singleton] at hz; rw [hz]; exact hc
      · exact ⟨(k, A7, n7, c7, xs7), ⟨by dsimp only; omega, M.fsub _ (by simp), hn7, hall, fun _ z hz => by dsimp only at hz; rw [hy] at hz; injection hz with hz; rw [← hz]; exact hc⟩, (by repeat (first | exact trivial | refine ⟨rfl, ?_⟩))⟩
    ·
      refine drT (Kp w gs [] []) (.take 0 (.take 1 (.take 2 (.take 3 (.take 4 (.take 5 (.take 6 (.take 7 (.take 8 (.take 9 (.take 10 (.take 11 (.take 12 (.take 13 (.take 14 (.one 15 (.take 16 (.take 17 (.nil))))))))))))))))))) (by kernel_rfl) (M.kp (by simp) (by simp)) ?_
      refine p_len slp rfl ?_
      refine p_lt rfl rfl (fun h => absurd h (by omega)) (fun _ => ?_)
      exact ⟨(k, A7, n7, c7, xs7), ⟨by dsimp only; omega, M.fsub _ (by simp), hn7, hall, fun h => absurd (show k < no from h) (by omega)⟩, (by repeat (first | exact trivial | refine ⟨rfl, ?_⟩))⟩
  · clear M
    rintro ⟨k, A7, n7, c7, xs7⟩ B7 W7 ⟨hk, M, hn7, hall, hend⟩
    dsimp only at hk M hn7 hall hend
    obtain ⟨b1, o1, Ak, ck, Av, cv, rfl, M'⟩ := M.pair (M.d1 2 rfl) hp
    replace M := M'; clear M'
    refine p_at slp rfl rfl rfl (by omega) ?_
    refine v_loadN (pcs p Ak ck Av cv) agg_pr rfl rfl (by first | exact M.run 0 rfl | exact M.run 1 rfl | exact M.run 2 rfl | exact M.run 3 rfl | exact M.run 4 rfl | exact M.lc 0 rfl | exact M.lc 1 rfl | exact M.lc 2 rfl | exact M.lc 3 rfl | exact M.lc 4 rfl | exact M.lc 5 rfl | exact M.lc 6 rfl | exact M.lc 7 rfl) ?_
    refine s_bsliceB (pcs p Ak ck Av cv) M slp z_pr rfl (by decide) rfl ?_
    clear M; rintro g6 W M
    refine s_app M Tryd.underlying22 prinfo rfl (by decide) rfl rfl (Reads.blk (M.B 0 rfl) rfl) (all1 rfl) ⟨by omega, by decide⟩ ?_
    clear M; rintro A8 c8 W M -
    have hX := (M.dw 3 rfl).app (RdL.cons (M.w1_1) (M.dw 2 rfl))
    rw [show [dB p.k, dB p.v] = dPr p from rfl, ← dPrs_snoc] at hX
    replace M := (M.addT (cs := xs7 ++ pcs p Ak ck Av cv) hX).dropL.drew
    clear hX
    rcases Nat.lt_or_ge k no with hkn | hkn
    · obtain ⟨y, hy⟩ : ∃ y, o[k]? = some y := ⟨_, List.getElem?_eq_getElem (by omega)⟩
      have hyb := hob.2 y (List.mem_of_getElem? hy)
      have hia := ins_at hall hy (hend hkn y hy)
      obtain ⟨b2, o2, Bk, dk, Bv, dv, rfl, M'⟩ := M.pair (M.d1 5 rfl) hy
      replace M := M'; clear M'
      have hon : k + 1 ≤ no := hkn
      refine drT (Kp w gs [] [.loc ((⟨b1, o1, none⟩ : Addr).add (i * 2)) (pcs p Ak ck Av cv), .loc ((⟨b2, o2, none⟩ : Addr).add (k * 2)) (pcs y Bk dk Bv dv)]) (.take 0 (.take 1 (.take 2 (.take 3 (.take 4 (.take 5 (.take 6 (.take 7 (.take 8 (.take 9 (.take 10 (.take 11 (.take 12 (.take 13 (.take 14 (.one 15 (.take 16 (.take 17 (.nil))))))))))))))))))) (by kernel_rfl) (M.kp (by simp) (by simp)) ?_
      refine p_len slp rfl ?_
      refine p_lt rfl rfl (fun _ => ?_) (fun h => absurd (by omega) h)
      refine p_at slp rfl rfl rfl (by omega) ?_
      refine p_fld fP0 rfl ?_
      refine t_load agg_b rfl (fun W K => by first | exact (K.B 0 rfl).at_ rfl | exact (K.B 1 rfl).at_ rfl | exact (K.B 2 rfl).at_ rfl | exact (K.B 3 rfl).at_ rfl | exact K.lc 0 rfl _ _ rfl | exact K.lc 1 rfl _ _ rfl | exact K.lc 2 rfl _ _ rfl | exact K.lc 3 rfl _ _ rfl) ?_
      refine p_at slp rfl rfl rfl (by omega) ?_
      refine p_fld fP0 rfl ?_
      refine t_load agg_b rfl (fun W K => by first | exact (K.B 0 rfl).at_ rfl | exact (K.B 1 rfl).at_ rfl | exact (K.B 2 rfl).at_ rfl | exact (K.B 3 rfl).at_ rfl | exact K.lc 0 rfl _ _ rfl | exact K.lc 1 rfl _ _ rfl | exact K.lc 2 rfl _ _ rfl | exact K.lc 3 rfl _ _ rfl) ?_
      refine cc is_cmp04 (cmp04_any _ _ _ _ _ _ _ y.k p.k _ (M.rdb 1 rfl).2.2 (M.rdb 5 rfl).2.2 (by omega) (by omega)) ?_
      rintro e W ⟨rfl, dd, rfl⟩
      replace M := M.drewN dd
      refine ⟨_, rfl, (M.kp (by simp) (by simp)), ?_⟩
      refine p_eq rfl rfl (fun hc => ?_) (fun hc => ?_)
      · rw [if_pos hc] at hia
        refine p_addN (b := 1) rfl rfl (by omega) ?_
        have hcp := (show RdD _ _ (dPl o) (.slice (some ⟨b2, o2, none⟩) no co) from M.d1 8 rfl).cutP (k := (k+1)) (by omega)
        replace M := M.addD hcp
        obtain ⟨ys, hrd, hys⟩ := hcp.reads Fd.lt
        replace M := M.addL hys
        have hcap := (show RdD _ _ (dPl o) (.slice (some ⟨b2, o2, none⟩) no co) from M.d1 10 rfl).scap
        refine p_slice (i := (k+1)) (j := no) (m := co) slp rfl (bnd_i rfl) rfl rfl rfl (by omega) hcap (Nat.le_refl _) ?_
        refine s_app M Tryd.underlying22 prinfo rfl (by decide) rfl rfl hrd (hys.ones (dPrs_one _)) ⟨by omega, by decide⟩ ?_
        clear M hcp hrd; rintro A9 c9 W M -
        have hX := (M.dw 5 rfl).app (M.dw 0 rfl)
        rw [← dPrs_app, show o.take k ++ [p] ++ o.drop ((k+1)) = insP o p by (rw [hia]; simp)] at hX
        have hlen : n7 + 1 + (no - ((k+1))) = (insP o p).length := by
          have h := hX.len
          have h2 := (M.row _ (List.mem_cons_self ..)).1
          simp only at h2
          rw [h] at h2
          unfold dPrs at h2
          rw [flat_len dPr_len] at h2
          omega
        replace M := M.addT hX
        have hfz := M.frzR (fr := false) (M.dt 0 rfl)
        dsimp only at hfz
        rw [hlen] at hfz ⊢
        refine p_addN (b := 1) rfl rfl (by omega) ?_
        exact ⟨(i + 1, A9, (insP o p).length, c9), ⟨by dsimp only; omega, by dsimp only; rw [hrt]; exact hfz.fsub _ (by simp)⟩, (by repeat (first | exact trivial | refine ⟨rfl, ?_⟩)), by dsimp only; omega⟩
      · rw [if_neg hc] at hia
        have hcp := (show RdD _ _ (dPl o) (.slice (some ⟨b2, o2, none⟩) no co) from M.d1 8 rfl).cutP (k := k) (by omega)
        replace M := M.addD hcp
        obtain ⟨ys, hrd, hys⟩ := hcp.reads Fd.lt
        replace M := M.addL hys
        have hcap := (show RdD _ _ (dPl o) (.slice (some ⟨b2, o2, none⟩) no co) from M.d1 10 rfl).scap
        refine p_slice (i := k) (j := no) (m := co) slp rfl (bnd_i rfl) rfl rfl rfl (by omega) hcap (Nat.le_refl _) ?_
        refine s_app M Tryd.underlying22 prinfo rfl (by decide) rfl rfl hrd (hys.ones (dPrs_one _)) ⟨by omega, by decide⟩ ?_
        clear M hcp hrd; rintro A9 c9 W M -
        have hX := (M.dw 5 rfl).app (M.dw 0 rfl)
        rw [← dPrs_app, show o.take k ++ [p] ++ o.drop (k) = insP o p by (rw [hia]; simp)] at hX
        have hlen : n7 + 1 + (no - (k)) = (insP o p).length := by
          have h := hX.len
          have h2 := (M.row _ (List.mem_cons_self ..)).1
          simp only at h2
          rw [h] at h2
          unfold dPrs at h2
          rw [flat_len dPr_len] at h2
          omega
        replace M := M.addT hX
        have hfz := M.frzR (fr := false) (M.dt 0 rfl)
        dsimp only at hfz
        rw [hlen] at hfz ⊢
        refine p_addN (b := 1) rfl rfl (by omega) ?_
        exact ⟨(i + 1, A9, (insP o p).length, c9), ⟨by dsimp only; omega, by dsimp only; rw [hrt]; exact hfz.fsub _ (by simp)⟩, (by repeat (first | exact trivial | refine ⟨rfl, ?_⟩)), by dsimp only; omega⟩
    ·
      refine drT (Kp w gs [] []) (.take 0 (.take 1 (.take 2 (.take 3 (.take 4 (.take 5 (.take 6 (.take 7 (.take 8 (.take 9 (.take 10 (.take 11 (.take 12 (.take 13 (.take 14 (.one 15 (.take 16 (.take 17 (.nil))))))))))))))))))) (by kernel_rfl) (M.kp (by simp) (by simp)) ?_
      refine p_len slp rfl ?_
      refine p_lt rfl rfl (fun h => absurd h (by omega)) (fun _ => ?_)
      have hkl : o.length ≤ k := by omega
      have hia : insP o p = o ++ [p] := ins_end (fun y hy => hall y (by rw [List.take_of_length_le hkl]; exact hy))
      have hcp := (show RdD _ _ (dPl o) (.slice Ao no co) from M.d1 5 rfl).cutP (k := k) (by omega)
      replace M := M.addD hcp
      obtain ⟨ys, hrd, hys⟩ := hcp.reads Fd.lt
      replace M := M.addL hys
      have hcap := (show RdD _ _ (dPl o) (.slice Ao no co) from M.d1 7 rfl).scap
      refine p_slice (i := k) (j := no) (m := co) slp rfl (bnd_i rfl) rfl rfl rfl (by omega) hcap (Nat.le_refl _) ?_
      refine s_app M Tryd.underlying22 prinfo rfl (by decide) rfl rfl hrd (hys.ones (dPrs_one _)) ⟨by omega, by decide⟩ ?_
      clear M hcp hrd; rintro A9 c9 W M -
      have hX := (M.dw 2 rfl).app (M.dw 0 rfl)
      rw [← dPrs_app, show o.take k ++ [p] ++ o.drop (k) = insP o p by (rw [hia, List.take_of_length_le hkl, List.drop_of_length_le hkl]; simp)] at hX
      have hlen : n7 + 1 + (no - (k)) = (insP o p).length := by
        have h := hX.len
        have h2 := (M.row _ (List.mem_cons_self ..)).1
        simp only at h2
        rw [h] at h2
        unfold dPrs at h2
        rw [flat_len dPr_len] at h2
        omega
      replace M := M.addT hX
      have hfz := M.frzR (fr := false) (M.dt 0 rfl)
      dsimp only at hfz
      rw [hlen] at hfz ⊢
      refine p_addN (b := 1) rfl rfl (by omega) ?_
      exact ⟨(i + 1, A9, (insP o p).length, c9), ⟨by dsimp only; omega, by dsimp only; rw [hrt]; exact hfz.fsub _ (by simp)⟩, (by repeat (first | exact trivial | refine ⟨rfl, ?_⟩)), by dsimp only; omega⟩
def longPr (l : List Pr) : Bool := l.any fun p => decide (200 < p.k.length ∨ 4000 < p.v.length)
def itOf (p : Pr) : It := ⟨ofB p.k, p.v, false, false, []⟩
def rOf (N : Nat) (l : List Pr) : Nd × Int := if longPr l then (noneN, 2) else ((buildA N ((risingP l).map itOf) 0).1, 0)
set_option maxRecDepth 100000 in
set_option maxHeartbeats 2000000 in
theorem r8of_any (N : Nat) (hN : 401 ≤ N) (l : List Pr) (gs : List (Option Nat)) (w : World) (A : Option Addr) (n c : Nat) (hr : RdD w (Fd w gs) (dPl l) (.slice A n c)) (hgs : ∀ b, some b ∈ gs → b < w.heap.size) (hbig : prBig l) :
    Calls Tryd.prog 6 #[.slice A n c] w fun e w' => ∃ cs', e = .returned (.tuple #[.agg cs'.toArray, .int .i64 (rOf N l).2]) ∧ RdL w' (Fd w' gs) (dN (rOf N l).1) cs' ∧ Below w.heap.size w w' := by
  refine calls_ev (args := [.slice A n c]) mixed Tryd.func6 rfl (by kernel_rfl) ?_
  have en := hr.slen
  have M := (St.start hgs).addD hr
  refine s_alloc (zN) M al_nd ?_
  clear M
  rintro g2 W M
  refine cc is_rising (rising_any l _ _ A n c (by first | with_reducible exact M.d1_0 | with_reducible exact M.d1_1 | with_reducible exact M.d1_2 | with_reducible exact M.d1_3 | with_reducible exact M.d1_4 | with_reducible exact M.d1_5 | with_reducible exact M.d1_6 | with_reducible exact M.d1_7 | with_reducible exact M.d1_8 | with_reducible exact M.d1_9 | with_reducible exact M.d1_10 | with_reducible exact M.d1_11) M.olt hbig) ?_
  rintro e W ⟨A1, n1, c1, rfl, h1, hb⟩
  refine ⟨_, rfl, ?_⟩
  replace M := (M.call hb).addD h1
  have en1 := h1.slen
  obtain ⟨hb1, hb2⟩ := hbig
  obtain ⟨r, hrr⟩ : ∃ r, r = risingP l := ⟨_, rfl⟩
  have hrb := rising_big (l := l)
  unfold rOf
  rw [← hrr] at M en1 hrb ⊢
  clear h1
  refine lp Nat (fun i W => i ≤ n ∧ St w gs W [(g2, 28, zN)] [] [.dat false [dPl r] [.slice A1 n1 c1], .dat false [dPl l] [.slice A n c]] ∧ longPr (l.take i) = false) (fun i => [(0, .slice A n c), (2, .pointer (some ⟨g2, 0, none⟩)), (4, .slice none 0 0), (5, .slice A1 n1 c1), (6, .int .i64 i)]) (fun i => n - i) 0 ⟨Nat.zero_le _, M.fsub _ (by simp), rfl⟩ (by repeat (first | exact trivial | refine ⟨rfl, ?_⟩)) ?_
  clear M
  rintro i E5 W5 ⟨hi, M, hlo⟩
  refine p_len slp rfl ?_
  refine p_lt rfl rfl (fun hlt => ?_) (fun hge => ?_)
  · obtain ⟨p, hp⟩ : ∃ p, l[i]? = some p := ⟨_, List.getElem?_eq_getElem (by omega)⟩
    have hpb := hb2 p (List.mem_of_getElem? hp)
    have h1 := List.getElem?_eq_some_iff.1 hp
    obtain ⟨b1, o1, Ak, ck, Av, cv, rfl, M'⟩ := M.pair (M.d1 1 rfl) hp
    replace M := M'; clear M'
    refine p_at slp rfl rfl rfl (by omega) ?_
    refine p_fld fP0 rfl ?_
    refine v_load agg_b rfl (by first | exact (M.B 0 rfl).at_ rfl | exact (M.B 1 rfl).at_ rfl | exact (M.B 2 rfl).at_ rfl | exact (M.B 3 rfl).at_ rfl | exact (M.B 4 rfl).at_ rfl | exact M.lc 0 rfl _ _ rfl | exact M.lc 1 rfl _ _ rfl | exact M.lc 2 rfl _ _ rfl | exact M.lc 3 rfl _ _ rfl | exact M.lc 4 rfl _ _ rfl | exact M.lc 5 rfl _ _ rfl | exact M.lc 6 rfl _ _ rfl | exact M.lc 7 rfl _ _ rfl) ?_
    refine p_len slb rfl ?_
    refine p_gt rfl rfl (fun hk => ?_) (fun hk => ?_)
    ·
      refine p_build (vs := zN) pl_nd z_nd rfl ?_
      first | refine s_storeA 0 (zN) M rfl (by kernel_rfl) rfl rfl rfl (all1 rfl) rfl ?_ | refine s_storeA 1 (zN) M rfl (by kernel_rfl) rfl rfl rfl (all1 rfl) rfl ?_ | refine s_storeA 2 (zN) M rfl (by kernel_rfl) rfl rfl rfl (all1 rfl) rfl ?_ | refine s_storeA 3 (zN) M rfl (by kernel_rfl) rfl rfl rfl (all1 rfl) rfl ?_
      clear M
      rintro W M
      dsimp only [setL] at M
      refine c_loadN (zN) agg_nd rfl rfl (by first | exact M.run 0 rfl | exact M.run 1 rfl | exact M.run 2 rfl | exact M.run 3 rfl | exact M.run 4 rfl | exact M.lc 0 rfl | exact M.lc 1 rfl | exact M.lc 2 rfl | exact M.lc 3 rfl | exact M.lc 4 rfl | exact M.lc 5 rfl | exact M.lc 6 rfl | exact M.lc 7 rfl) ?_
      have hl : longPr l = true := by
        unfold longPr
        rw [List.any_eq_true]
        exact ⟨p, List.mem_of_getElem? hp, decide_eq_true (by omega)⟩
      rw [hl]
      exact ⟨zN, rfl, RdL.znone, M.below⟩
    · refine p_at slp rfl rfl rfl (by omega) ?_
      refine p_fld fP1 rfl ?_
      refine v_load agg_b rfl (by first | exact (M.B 0 rfl).at_ rfl | exact (M.B 1 rfl).at_ rfl | exact (M.B 2 rfl).at_ rfl | exact (M.B 3 rfl).at_ rfl | exact (M.B 4 rfl).at_ rfl | exact M.lc 0 rfl _ _ rfl | exact M.lc 1 rfl _ _ rfl | exact M.lc 2 rfl _ _ rfl | exact M.lc 3 rfl _ _ rfl | exact M.lc 4 rfl _ _ rfl | exact M.lc 5 rfl _ _ rfl | exact M.lc 6 rfl _ _ rfl | exact M.lc 7 rfl _ _ rfl) ?_
      refine p_len slb rfl ?_
      refine p_gt rfl rfl (fun hv => ?_) (fun hv => ?_)
      ·
        refine p_build (vs := zN) pl_nd z_nd rfl ?_
        first | refine s_storeA 0 (zN) M rfl (by kernel_rfl) rfl rfl rfl (all1 rfl) rfl ?_ | refine s_storeA 1 (zN) M rfl (by kernel_rfl) rfl rfl rfl (all1 rfl) rfl ?_ | refine s_storeA 2 (zN) M rfl (by kernel_rfl) rfl rfl rfl (all1 rfl) rfl ?_ | refine s_storeA 3 (zN) M rfl (by kernel_rfl) rfl rfl rfl (all1 rfl) rfl ?_
        clear M
        rintro W M
        dsimp only [setL] at M
        refine c_loadN (zN) agg_nd rfl rfl (by first | exact M.run 0 rfl | exact M.run 1 rfl | exact M.run 2 rfl | exact M.run 3 rfl | exact M.run 4 rfl | exact M.lc 0 rfl | exact M.lc 1 rfl | exact M.lc 2 rfl | exact M.lc 3 rfl | exact M.lc 4 rfl | exact M.lc 5 rfl | exact M.lc 6 rfl | exact M.lc 7 rfl) ?_
        have hl : longPr l = true := by
          unfold longPr
          rw [List.any_eq_true]
          exact ⟨p, List.mem_of_getElem? hp, decide_eq_true (by omega)⟩
        rw [hl]
        exact ⟨zN, rfl, RdL.znone, M.below⟩
      · refine p_addN (b := 1) rfl rfl (by omega) ?_
        refine ⟨i + 1, ⟨by omega, M.fsub _ (by simp), ?_⟩, (by repeat (first | exact trivial | refine ⟨rfl, ?_⟩)), by omega⟩
        unfold longPr at hlo ⊢
        rw [List.take_succ_eq_append_getElem h1.1, h1.2, List.any_append, hlo, List.any_cons, decide_eq_false (by omega)]; rfl
  · rw [List.take_of_length_le (by omega)] at hlo
    rw [hlo, if_neg (by simp)]
    have hsm : ∀ p ∈ r, p.k.length ≤ 200 ∧ p.v.length ≤ 4000 := fun p hp => by
      have h1 := hrb.2 p hp
      unfold longPr at hlo
      rw [List.any_eq_false] at hlo
      have := hlo p h1
      rw [decide_eq_true_eq] at this
      omega
    replace M := (M.nilR 58 5).addT (fr := false) (ds := dIs []) (cs := []) RdL.nil_
    refine lp (Nat × Option Addr × Nat × Nat × List Value) (fun s W => s.1 ≤ n1 ∧ St w gs W [(g2, 28, zN)] [⟨58, 5, s.2.1, s.2.2.1, s.2.2.2.1, s.2.2.2.2⟩] [.dat false (dIs ((r.take s.1).map itOf)) s.2.2.2.2, .dat false [dPl r] [.slice A1 n1 c1]] ∧ s.2.2.1 = s.1) (fun s => [(2, .pointer (some ⟨g2, 0, none⟩)), (4, .slice s.2.1 s.2.2.1 s.2.2.2.1), (5, .slice A1 n1 c1), (7, .int .i64 s.1)]) (fun s => n1 - s.1) (0, none, 0, 0, []) ⟨Nat.zero_le _, M.fsub _ (by simp), rfl⟩ (by repeat (first | exact trivial | refine ⟨rfl, ?_⟩)) ?_
    clear M
    rintro ⟨j, A7, n7, c7, xs7⟩ E7 W7 ⟨hj, M, hn7⟩
    dsimp only at hj M hn7
    refine p_len slp rfl ?_
    refine p_lt rfl rfl (fun hlt2 => ?_) (fun hge2 => ?_)
    · dsimp only at hlt2
      obtain ⟨p, hp⟩ : ∃ p, r[j]? = some p := ⟨_, List.getElem?_eq_getElem (by omega)⟩
      have hpb := hsm p (List.mem_of_getElem? hp)
      have h1 := List.getElem?_eq_some_iff.1 hp
      obtain ⟨b1, o1, Ak, ck, Av, cv, rfl, M'⟩ := M.pair (M.d1 1 rfl) hp
      replace M := M'.drew; clear M'
      refine drT (Kp w gs [] [.loc ((⟨b1, o1, none⟩ : Addr).add (j * 2)) (pcs p Ak ck Av cv)]) (.take 0 (.take 1 (.take 2 (.take 3 (.take 4 (.take 5 (.take 7 (.take 8 (.take 9 (.take 10 (.take 11 (.one 6 (.take 12 (.one 13 (.one 14 (.take 15 (.nil))))))))))))))))) (by kernel_rfl) (M.kp (by simp) (by simp)) ?_
      refine p_at slp rfl rfl rfl (by omega) ?_
      refine p_fld fP0 rfl ?_
      refine t_load agg_b rfl (fun W K => by first | exact (K.B 0 rfl).at_ rfl | exact (K.B 1 rfl).at_ rfl | exact (K.B 2 rfl).at_ rfl | exact (K.B 3 rfl).at_ rfl | exact K.lc 0 rfl _ _ rfl | exact K.lc 1 rfl _ _ rfl | exact K.lc 2 rfl _ _ rfl | exact K.lc 3 rfl _ _ rfl) ?_
      refine p_at slp rfl rfl rfl (by omega) ?_
      refine p_fld fP1 rfl ?_
      refine t_load agg_b rfl (fun W K => by first | exact (K.B 0 rfl).at_ rfl | exact (K.B 1 rfl).at_ rfl | exact (K.B 2 rfl).at_ rfl | exact (K.B 3 rfl).at_ rfl | exact K.lc 0 rfl _ _ rfl | exact K.lc 1 rfl _ _ rfl | exact K.lc 2 rfl _ _ rfl | exact K.lc 3 rfl _ _ rfl) ?_
      refine cc is_rof (rof_any Ak _ ck p.k _ (M.rdb 1 rfl).2.2 (by omega)) ?_
      rintro e W ⟨A5, c5, rfl, o5, hb⟩
      replace M := M.callO hb o5
      refine ⟨_, rfl, (M.kp (by simp) (by simp)), ?_⟩
      have hI := RdL.cons (M.w1_0) (RdL.cons (M.w1_3) (RdL.cons (RdD.ofv (.bool false)) (RdL.cons (RdD.ofv (.bool false)) (RdL.cons (d := dB []) (RdD.nil_ none 0) RdL.nil_))))
      refine p_build (vs := [.slice A5 (2 * p.k.length) c5, .slice Av p.v.length cv, .bool false, .bool false, .slice none 0 0]) pl_it z_it rfl ?_
      refine s_bsliceB [.slice A5 (2 * p.k.length) c5, .slice Av p.v.length cv, .bool false, .bool false, .slice none 0 0] (M.addT hI) sli z_it rfl (by decide) rfl ?_
      clear M hI; rintro g9 W M
      refine ⟨(M.kp (by simp) (by simp)), ?_⟩
      refine s_app M Tryd.underlying52 itinfo rfl (by decide) rfl rfl (Reads.blk (M.B 0 rfl) rfl) (all1 rfl) ⟨by omega, by decide⟩ ?_
      clear M; rintro A8 c8 W M -
      refine ⟨(M.kp (by simp) (by simp)), ?_⟩
      have hX := (M.dw 5 rfl).app (M.dw 0 rfl)
      have hts : (r.take (j + 1)).map itOf = (r.take j).map itOf ++ [itOf p] := by rw [List.take_succ_eq_append_getElem h1.1, h1.2, List.map_append]; rfl
      rw [show [dB (ofB p.k), dB p.v, .v (.bool false), .v (.bool false), dB []] = dIs [itOf p] by unfold dIs; simp [dI, itOf], ← dIs_app, ← hts] at hX
      refine p_addN (b := 1) rfl rfl (by omega) ?_
      exact ⟨(j + 1, A8, n7 + 1, c8, xs7 ++ [.slice A5 (2 * p.k.length) c5, .slice Av p.v.length cv, .bool false, .bool false, .slice none 0 0]), ⟨by dsimp only; omega, (M.addT (cs := xs7 ++ [.slice A5 (2 * p.k.length) c5, .slice Av p.v.length cv, .bool false, .bool false, .slice none 0 0]) hX).dropL.fsub _ (by simp), by dsimp only; omega⟩, (by repeat (first | exact trivial | refine ⟨rfl, ?_⟩)), by dsimp only; omega⟩
    · dsimp only at hge2
      rw [List.take_of_length_le (by omega)] at M
      have hlm : (r.map itOf).length = n7 := by rw [List.length_map]; omega
      have hbI : itBig (r.map itOf) := ⟨by rw [List.length_map]; omega, fun y hy => by
        obtain ⟨p, hp, rfl⟩ := List.mem_map.1 hy
        have := hsm p hp
        simp only [itOf, ofB_length, List.length_nil]; omega⟩
      have hat : ∀ y ∈ r.map itOf, 0 ≤ y.path.length ∧ y.path.length < 0 + N := fun y hy => by
        obtain ⟨p, hp, rfl⟩ := List.mem_map.1 hy
        have := hsm p hp
        simp only [itOf, ofB_length]; omega
      subst hlm
      replace M := M.frzR (fr := false) (M.dt 0 rfl)
      refine cc is_build (build_any N (r.map itOf) 0 _ _ _ _ c7 (M.d1 0 rfl) M.olt hat hbI) ?_
      rintro e W ⟨cs5, Am, nm, cm, rfl, hres, hm5, hbel⟩
      replace M := (M.call hbel).addL hres
      have hl5 := hres.len
      rw [dN_len] at hl5
      have hones := hres.ones (dN_one _)
      clear hbel hm5 hres
      refine ⟨_, rfl, ?_⟩
      refine s_alloc (zN) M al_nd ?_
      clear M
      rintro g15 W M
      refine s_storeA 0 cs5 M rfl sz_nd rfl rfl hl5 hones rfl ?_
      clear M; rintro W M
      dsimp only [setL] at M
      refine v_loadN cs5 agg_nd rfl hl5 (M.run 0 rfl) ?_
      refine s_storeA 1 cs5 M rfl sz_nd rfl rfl hl5 hones rfl ?_
      clear M; rintro W M
      dsimp only [setL] at M
      refine c_loadN cs5 agg_nd rfl hl5 (M.run 1 rfl) ?_
      exact ⟨cs5, rfl, M.fin 0 rfl, M.below⟩
end Go.Proofs.YtdlljmmgkoeilaaDoor
