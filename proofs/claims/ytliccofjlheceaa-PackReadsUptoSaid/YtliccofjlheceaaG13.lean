/- Package pack: what is sent and what is read, plainly. Package pack: what is sent is read. A state's own blocks and rows, in another order. Package pack: the sender. -/
import Derived.Test.YtliccofjlheceaaG12
import Derived.Test.YtliccofjlheceaaG11
import Derived.Test.YtliccofjlheceaaG04
import Derived.Test.YtliccofjlheceaaG06
import Derived.Test.YtliccofjlheceaaG10
namespace Go.Proofs.Ytliccofjlheceaa
open Go.RowKit
mutual
/-- Are two nodes the same? -/
def eqN : Nd → Nd → Bool
  | .mk k p h v ks hs, .mk k' p' h' v' ks' hs' => decide (k = k') && (decide (p = p') && (decide (h = h') && (decide (v = v') && (decide (hs = hs') && eqNs ks ks'))))
def eqNs : List Nd → List Nd → Bool
  | [], [] => true
  | a :: l, b :: m => eqN a b && eqNs l m
  | _, _ => false
end
mutual
theorem eqN_iff : ∀ a b : Nd, eqN a b = true ↔ a = b
  | .mk k p h v ks hs, .mk k' p' h' v' ks' hs' => by
    rw [eqN]
    simp only [Bool.and_eq_true, decide_eq_true_eq, eqNs_iff ks ks', Nd.mk.injEq]
    constructor
    · rintro ⟨h1, h2, h3, h4, h5, h6⟩; exact ⟨h1, h2, h3, h4, h6, h5⟩
    · rintro ⟨h1, h2, h3, h4, h5, h6⟩; exact ⟨h1, h2, h3, h4, h6, h5⟩
theorem eqNs_iff : ∀ a b : List Nd, eqNs a b = true ↔ a = b
  | [], [] => by rw [eqNs]; simp
  | [], b :: m => by rw [eqNs] <;> simp
  | a :: l, [] => by rw [eqNs] <;> simp
  | a :: l, b :: m => by
    rw [eqNs, Bool.and_eq_true, eqN_iff a b, eqNs_iff l m, List.cons.injEq]
end
/-- Where a node has come before. -/
def idxN (l : List Nd) (t : Nd) : Option Nat := l.findIdx? fun x => eqN x t
theorem idxN_some {l : List Nd} {t : Nd} {i : Nat} (h : idxN l t = some i) : i < l.length ∧ l.getD i noneN = t ∧ ∀ j, j < i → l.getD j noneN ≠ t := by
  unfold idxN at h
  rw [List.findIdx?_eq_some_iff_getElem] at h
  obtain ⟨h1, h2, h3⟩ := h
  refine ⟨h1, ?_, fun j hj e => ?_⟩
  · rw [List.getD_eq_getElem?_getD, List.getElem?_eq_getElem h1]
    exact (eqN_iff _ _).1 h2
  · have := h3 j hj
    rw [List.getD_eq_getElem?_getD, List.getElem?_eq_getElem (by omega)] at e
    exact this ((eqN_iff _ _).2 e)
theorem idxN_none {l : List Nd} {t : Nd} : idxN l t = none ↔ ∀ x ∈ l, x ≠ t := by
  unfold idxN
  rw [List.findIdx?_eq_none_iff]
  refine forall_congr' fun x => forall_congr' fun _ => ?_
  rw [← Bool.not_eq_true, eqN_iff]
/-- What is sent of a node itself. -/
def headP (t : Nd) : List UInt8 := if t.kind = 4 then 4 :: t.hash else encF t.kind t.path t.has t.val t.kids []
mutual
/-- What is sent of a node, with all below it, behind what has come; and what has come then. -/
def sdP : Nd → List Nd → List UInt8 × List Nd
  | .mk k p has v ks h, done => match idxN done (.mk k p has v ks h) with
    | some i => (5 :: putN i, done)
    | none => (headP (.mk k p has v ks h) ++ (sdK ks done).1, (sdK ks done).2 ++ [.mk k p has v ks h])
def sdK : List Nd → List Nd → List UInt8 × List Nd
  | [], done => ([], done)
  | t :: ts, done => if t.kind = 0 then sdK ts done else ((sdP t done).1 ++ (sdK ts (sdP t done).2).1, (sdK ts (sdP t done).2).2)
end
theorem sdP_eq (t : Nd) (done : List Nd) : sdP t done = match idxN done t with
    | some i => (5 :: putN i, done)
    | none => (headP t ++ (sdK t.kids done).1, (sdK t.kids done).2 ++ [t]) := by cases t; rw [sdP]; rfl
def packP (t : Nd) : List UInt8 × Int := if checkE t ≠ 0 then ([], checkE t) else if 5000 < (cntP t).1 then ([], 3) else ((sdP t []).1, 0)
/-- What comes of reading. -/
inductive Rr where
  | bad (e : Int)
  | got (n : Nd) (b : List UInt8) (done : List Nd) (left : Int)
inductive Rk where
  | bad (e : Int)
  | got (ks : List Nd) (b : List UInt8) (done : List Nd) (left : Int)
def textX (b : List UInt8) : Option (List UInt8 × List UInt8) := if gbE b 0 = 0 then some (gbL b 0, b.drop (gbTo b 0).toNat) else none
def againX (b : List UInt8) (done : List Nd) (left : Int) : Rr :=
  if gE b 0 = 0 ∧ gN b 0 < (done.length : Int) then
    (if left - ((cntP (done.getD (gN b 0).toNat noneN)).1 : Int) < 0 then .bad 3 else .got (done.getD (gN b 0).toNat noneN) (b.drop (gTo b 0).toNat) done (left - ((cntP (done.getD (gN b 0).toNat noneN)).1 : Int)))
  else .bad 11
def kidsA (f : List UInt8 → List Nd → Int → Rr) (set : List UInt8) : Nat → Nat → List Nd → List UInt8 → List Nd → Int → Rk
  | 0, _, acc, b, done, left => .got acc b done left
  | n + 1, i, acc, b, done, left => if bitB set i = true then (match f b done left with
      | .bad e => .bad e
      | .got k b1 d1 l1 => kidsA f set n (i + 1) (acc ++ [k]) b1 d1 l1)
    else kidsA f set n (i + 1) (acc ++ [noneN]) b done left
def bodyX (f : List UInt8 → List Nd → Int → Rr) (c : UInt8) (b : List UInt8) (done : List Nd) (left : Int) : Rr :=
  if c = 1 ∨ c = 2 then (match textX b with
    | none => .bad 11
    | some (p, b1) => if unpackE p ≠ 0 ∨ unpackB p ≠ decide (c = 1) then .bad 11
      else if c = 1 then (match textX b1 with
        | none => .bad 11
        | some (v, b2) => .got (.mk 1 (unpackL p) false v [] []) b2 (done ++ [.mk 1 (unpackL p) false v [] []]) left)
      else (match f b1 done left with
        | .bad e => .bad e
        | .got k b2 d2 l2 => .got (.mk 2 (unpackL p) false [] [k] []) b2 (d2 ++ [.mk 2 (unpackL p) false [] [k] []]) l2))
  else if c = 3 then (match b with
    | [] => .bad 11
    | h :: b1 => (match (if h = 1 then textX b1 else some ([], b1)) with
      | none => .bad 11
      | some (v, b2) => if b2.length < 2 then .bad 11 else (match kidsA f (b2.take 2) 16 0 [] (b2.drop 2) done left with
        | .bad e => .bad e
        | .got ks b3 d3 l3 => .got (.mk 3 [] (decide (h = 1)) v ks []) b3 (d3 ++ [.mk 3 [] (decide (h = 1)) v ks []]) l3)))
  else if c = 4 then (if b.length < 32 then .bad 11 else .got (.mk 4 [] false [] [] (b.take 32)) (b.drop 32) (done ++ [.mk 4 [] false [] [] (b.take 32)]) left)
  else .got noneN b (done ++ [noneN]) left
/-- A node, with all below it; F: so many nodes down at most. -/
def oneF : Nat → List UInt8 → List Nd → Int → Rr
  | _, [], _, _ => .bad 11
  | 0, c :: b, done, left => if c = 5 then againX b done left else .bad 11
  | F + 1, c :: b, done, left => if c = 5 then againX b done left else if 4 < c.toNat then .bad 11
    else if c ≠ 0 ∧ left - 1 < 0 then .bad 3 else bodyX (oneF F) c b done (if c = 0 then left else left - 1)
def unpP (b : List UInt8) : Nd × Int := if 1048576 < b.length then (noneN, 3) else match oneF 403 b [] 5000 with
  | .bad e => (noneN, e)
  | .got n r _ _ => if 0 < r.length ∨ packP n ≠ (b, 0) then (noneN, 11) else (n, 0)
theorem oneF_nil (F : Nat) (done : List Nd) (left : Int) : oneF F [] done left = .bad 11 := by cases F <;> rw [oneF]
theorem oneF_cons (F : Nat) (c : UInt8) (b : List UInt8) (done : List Nd) (left : Int) : oneF (F + 1) (c :: b) done left = if c = 5 then againX b done left else if 4 < c.toNat then .bad 11
    else if c ≠ 0 ∧ left - 1 < 0 then .bad 3 else bodyX (oneF F) c b done (if c = 0 then left else left - 1) := by rw [oneF]
mutual
def smP (B : Nat) : Nd → Prop
  | .mk k p _ v ks h => p.length + v.length + h.length ≤ B ∧ ks.length ≤ 16 ∧ (k = 0 → p = [] ∧ v = [] ∧ h = [] ∧ ks = []) ∧ smsP B ks
def smsP (B : Nat) : List Nd → Prop
  | [] => True
  | t :: ts => smP B t ∧ smsP B ts
end
theorem sms_all {B : Nat} : ∀ {ks : List Nd}, smsP B ks ↔ ∀ k ∈ ks, smP B k
  | [] => by rw [smsP]; simp
  | t :: ts => by rw [smsP, sms_all]; simp
mutual
theorem sm_sz (B : Nat) : ∀ t : Nd, smP B t → sz t ≤ (102 + B) * (cntP t).1 + 6
  | .mk k p has v ks h, hs => by
    rw [smP] at hs
    obtain ⟨h1, h2, h3, h4⟩ := hs
    have := sms_sz B ks h4
    rw [sz, cntP]
    dsimp only
    by_cases h0 : k = 0
    · obtain ⟨e1, e2, e3, e4⟩ := h3 h0
      subst e1; subst e2; subst e3; subst e4
      rw [if_pos h0, szs, cntsP]
      simp
    · rw [if_neg h0, Nat.mul_add, Nat.mul_one]
      omega
theorem sms_sz (B : Nat) : ∀ ks : List Nd, smsP B ks → szs ks ≤ (102 + B) * (cntsP ks).1 + 6 * ks.length
  | [], _ => by rw [szs]; exact Nat.zero_le _
  | t :: ts, hs => by
    rw [smsP] at hs
    have h1 := sm_sz B t hs.1
    have h2 := sms_sz B ts hs.2
    rw [szs, cntsP, List.length_cons, Nat.mul_add]
    omega
end
theorem sm_none (B : Nat) : smP B noneN := by unfold noneN; rw [smP, smsP]; simp
def smC (B : Nat) (t : Nd) : Prop := smP B t ∧ (cntP t).1 ≤ 5000
theorem smC_none (B : Nat) : smC B noneN := ⟨sm_none B, Nat.zero_le _⟩
theorem sm_get {B : Nat} {l : List Nd} (h : ∀ x ∈ l, smC B x) (i : Nat) : smC B (l.getD i noneN) := by
  by_cases hi : i < l.length
  · rw [List.getD_eq_getElem?_getD, List.getElem?_eq_getElem hi]
    exact h _ (List.getElem_mem hi)
  · rw [List.getD_eq_getElem?_getD, List.getElem?_eq_none (by omega)]
    exact smC_none B
theorem textX_le {b s r : List UInt8} (h : textX b = some (s, r)) : s.length ≤ b.length ∧ r.length ≤ b.length := by
  have h1 := textP_le ⟨b, false⟩
  unfold textP at h1
  dsimp only at h1
  unfold textX at h
  split at h
  · injection h with h
    injection h with e1 e2
    rw [← e1, ← e2]
    exact ⟨h1.2, h1.1⟩
  · cases h
/-- What a reading leaves: small, and no more than was there. -/
def Sz (B : Nat) (b : List UInt8) (done : List Nd) (left : Int) : Rr → Prop
  | .bad e => e = 3 ∨ e = 11
  | .got n b' d' l' => smC B n ∧ (∀ x ∈ d', smC B x) ∧ 0 ≤ l' ∧ ((cntP n).1 : Int) + l' ≤ left ∧ d'.length + b'.length ≤ done.length + b.length ∧ b'.length ≤ b.length
def SzK (B : Nat) (acc : List Nd) (m : Nat) (b : List UInt8) (done : List Nd) (left : Int) : Rk → Prop
  | .bad e => e = 3 ∨ e = 11
  | .got ks b' d' l' => (∀ x ∈ ks, smC B x) ∧ ks.length = m ∧ (∀ x ∈ d', smC B x) ∧ 0 ≤ l' ∧ ((cntsP ks).1 : Int) + l' ≤ (cntsP acc).1 + left ∧ d'.length + b'.length ≤ done.length + b.length ∧ b'.length ≤ b.length
theorem again_sz {B : Nat} {b : List UInt8} {done : List Nd} {left : Int} (hd : ∀ x ∈ done, smC B x) : Sz B b done left (againX b done left) := by
  unfold againX
  split
  · split
    · exact .inl rfl
    · refine ⟨sm_get hd _, hd, by omega, by omega, ?_, ?_⟩ <;> rw [List.length_drop] <;> omega
  · exact .inr rfl
theorem kids_sz {B : Nat} {f : List UInt8 → List Nd → Int → Rr} {set : List UInt8} (hf : ∀ b done left, 0 ≤ left → left ≤ 5000 → (∀ x ∈ done, smC B x) → 3 * b.length + 32 ≤ B → Sz B b done left (f b done left)) :
    ∀ (n i : Nat) (acc : List Nd) (b : List UInt8) (done : List Nd) (left : Int), 0 ≤ left → left ≤ 5000 → (∀ x ∈ acc, smC B x) → (∀ x ∈ done, smC B x) → 3 * b.length + 32 ≤ B → SzK B acc (acc.length + n) b done left (kidsA f set n i acc b done left)
  | 0, i, acc, b, done, left, h0, h5, ha, hd, hb => by
    rw [kidsA]
    exact ⟨ha, rfl, hd, h0, Int.le_refl _, Nat.le_refl _, Nat.le_refl _⟩
  | n + 1, i, acc, b, done, left, h0, h5, ha, hd, hb => by
    rw [kidsA]
    split
    · have h := hf b done left h0 h5 hd hb
      cases hr : f b done left with
      | bad e => rw [hr] at h; exact h
      | got k b1 d1 l1 =>
        rw [hr] at h
        obtain ⟨s1, s2, s3, s4, s5, s6⟩ := h
        have := kids_sz (set := set) hf n (i + 1) (acc ++ [k]) b1 d1 l1 s3 (by omega) (fun x hx => by
          rcases List.mem_append.1 hx with hx | hx
          · exact ha x hx
          · rw [List.mem_singleton.1 hx]; exact s1) s2 (by omega)
        dsimp only
        cases hk : kidsA f set n (i + 1) (acc ++ [k]) b1 d1 l1 with
        | bad e => rw [hk] at this; exact this
        | got ks b' d' l' =>
          rw [hk] at this
          obtain ⟨t1, t2, t3, t4, t5, t6, t7⟩ := this
          rw [cntsP_snoc] at t5
          rw [List.length_append, List.length_singleton] at t2
          exact ⟨t1, by omega, t3, t4, by dsimp only at t5; omega, by omega, by omega⟩
    · have := kids_sz (set := set) hf n (i + 1) (acc ++ [noneN]) b done left h0 h5 (fun x hx => by
        rcases List.mem_append.1 hx with hx | hx
        · exact ha x hx
        · rw [List.mem_singleton.1 hx]; exact smC_none B) hd hb
      cases hk : kidsA f set n (i + 1) (acc ++ [noneN]) b done left with
      | bad e => rw [hk] at this; exact this
      | got ks b' d' l' =>
        rw [hk] at this
        obtain ⟨t1, t2, t3, t4, t5, t6, t7⟩ := this
        rw [cntsP_snoc] at t5
        have e0 : (cntP noneN).1 = 0 := rfl
        rw [List.length_append, List.length_singleton] at t2
        exact ⟨t1, by omega, t3, t4, by dsimp only at t5; omega, t6, t7⟩
theorem body_sz {B : Nat} {f : List UInt8 → List Nd → Int → Rr} (hf : ∀ b done left, 0 ≤ left → left ≤ 5000 → (∀ x ∈ done, smC B x) → 3 * b.length + 32 ≤ B → Sz B b done left (f b done left))
    (c : UInt8) (b : List UInt8) (done : List Nd) (left : Int) (h0 : 0 ≤ left) (h5 : left + 1 ≤ 5000 ∨ (c = 0 ∧ left ≤ 5000)) (hd : ∀ x ∈ done, smC B x) (hb : 3 * b.length + 32 ≤ B) : Sz B (c :: b) done (if c = 0 then left else left + 1) (bodyX f c b done left) := by
  have hsn : ∀ {l : List Nd} {x : Nd}, (∀ y ∈ l, smC B y) → smC B x → ∀ y ∈ l ++ [x], smC B y := fun h1 h2 y hy => by
    rcases List.mem_append.1 hy with hy | hy
    · exact h1 y hy
    · rw [List.mem_singleton.1 hy]; exact h2
  unfold bodyX
  by_cases h12 : c = 1 ∨ c = 2
  · rw [if_pos h12]
    have hc0 : ¬ c = 0 := by rcases h12 with h | h <;> rw [h] <;> decide
    have h5 : left + 1 ≤ 5000 := h5.resolve_right fun h => hc0 h.1
    rw [if_neg hc0]
    cases ht : textX b with
    | none => exact .inr rfl
    | some r =>
      obtain ⟨p, b1⟩ := r
      have h1 := textX_le ht
      have hu := unpackL_len p
      dsimp only
      split
      · exact .inr rfl
      · split
        · cases ht2 : textX b1 with
          | none => exact .inr rfl
          | some r =>
            obtain ⟨v, b2⟩ := r
            have h2 := textX_le ht2
            have hs0 : smP B (.mk 1 (unpackL p) false v [] []) := by
              rw [smP, smsP]
              exact ⟨by rw [List.length_nil]; omega, by simp, fun h => absurd h (by decide), trivial⟩
            have hs : smC B (.mk 1 (unpackL p) false v [] []) := ⟨hs0, (by rw [cntP, cntsP]; simp)⟩
            exact ⟨hs, hsn hd hs, h0, by rw [cntP, cntsP]; simp; omega, by rw [List.length_append, List.length_cons, List.length_cons, List.length_nil]; omega, by rw [List.length_cons]; omega⟩
        · have h := hf b1 done left h0 (by omega) hd (by omega)
          cases hr : f b1 done left with
          | bad e => rw [hr] at h; exact h
          | got k b2 d2 l2 =>
            rw [hr] at h
            obtain ⟨s1, s2, s3, s4, s5, s6⟩ := h
            have hs0 : smP B (.mk 2 (unpackL p) false [] [k] []) := by
              rw [smP, smsP, smsP]
              exact ⟨by simp; omega, by simp, fun h => absurd h (by decide), s1.1, trivial⟩
            have hs : smC B (.mk 2 (unpackL p) false [] [k] []) := ⟨hs0, (by rw [cntP, cntsP, cntsP]; simp; omega)⟩
            exact ⟨hs, hsn s2 hs, s3, by rw [cntP, cntsP, cntsP]; simp; omega, by rw [List.length_append, List.length_cons, List.length_cons, List.length_nil]; omega, by rw [List.length_cons]; omega⟩
  rw [if_neg h12]
  by_cases h3 : c = 3
  · rw [if_pos h3]
    have hc0 : ¬ c = 0 := by rw [h3]; decide
    have h5 : left + 1 ≤ 5000 := h5.resolve_right fun h => hc0 h.1
    rw [if_neg hc0]
    cases b with
    | nil => exact .inr rfl
    | cons h b1 =>
      rw [List.length_cons] at hb
      dsimp only
      have key : ∀ v b2, (if h = 1 then textX b1 else some ([], b1)) = some (v, b2) → v.length ≤ b1.length ∧ b2.length ≤ b1.length := by
        intro v b2 e
        split at e
        · exact textX_le e
        · injection e with e; injection e with e1 e2; rw [← e1, ← e2]; exact ⟨Nat.zero_le _, Nat.le_refl _⟩
      cases ht : (if h = 1 then textX b1 else some ([], b1)) with
      | none => exact .inr rfl
      | some r =>
        obtain ⟨v, b2⟩ := r
        have h1 := key v b2 ht
        dsimp only
        split
        · exact .inr rfl
        · rename_i hl
          have hK := kids_sz (B := B) (set := b2.take 2) hf 16 0 [] (b2.drop 2) done left h0 (by omega) (fun x hx => by cases hx) hd (by rw [List.length_drop]; omega)
          cases hk : kidsA f (b2.take 2) 16 0 [] (b2.drop 2) done left with
          | bad e => rw [hk] at hK; exact hK
          | got ks b3 d3 l3 =>
            rw [hk] at hK
            obtain ⟨t1, t2, t3, t4, t5, t6, t7⟩ := hK
            rw [List.length_drop] at t6 t7
            have e0 : (cntsP []).1 = 0 := by rw [cntsP]
            have hs0 : smP B (.mk 3 [] (decide (h = 1)) v ks []) := by
              rw [smP]
              exact ⟨by simp; omega, by rw [t2]; simp, fun h => absurd h (by decide), sms_all.2 fun x hx => (t1 x hx).1⟩
            have hs : smC B (.mk 3 [] (decide (h = 1)) v ks []) := ⟨hs0, (by rw [cntP]; simp; omega)⟩
            exact ⟨hs, hsn t3 hs, t4, by rw [cntP]; simp; omega, by rw [List.length_append, List.length_cons, List.length_cons, List.length_cons, List.length_nil]; omega, by rw [List.length_cons, List.length_cons]; omega⟩
  rw [if_neg h3]
  by_cases h4 : c = 4
  · rw [if_pos h4]
    have hc0 : ¬ c = 0 := by rw [h4]; decide
    have h5 : left + 1 ≤ 5000 := h5.resolve_right fun h => hc0 h.1
    rw [if_neg hc0]
    split
    · exact .inr rfl
    · have hs0 : smP B (.mk 4 [] false [] [] (b.take 32)) := by
        rw [smP, smsP]
        exact ⟨by rw [List.length_take]; simp; omega, by simp, fun h => absurd h (by decide), trivial⟩
      have hs : smC B (.mk 4 [] false [] [] (b.take 32)) := ⟨hs0, (by rw [cntP, cntsP]; simp)⟩
      exact ⟨hs, hsn hd hs, h0, by rw [cntP, cntsP]; simp; omega, by rw [List.length_append, List.length_cons, List.length_cons, List.length_nil, List.length_drop]; omega, by rw [List.length_cons, List.length_drop]; omega⟩
  rw [if_neg h4]
  have e0 : (cntP noneN).1 = 0 := rfl
  refine ⟨smC_none B, hsn hd (smC_none B), h0, ?_, by rw [List.length_append, List.length_cons, List.length_cons, List.length_nil]; omega, by rw [List.length_cons]; omega⟩
  rw [e0]; split <;> omega
theorem one_sz {B : Nat} : ∀ (F : Nat) (b : List UInt8) (done : List Nd) (left : Int), 0 ≤ left → left ≤ 5000 → (∀ x ∈ done, smC B x) → 3 * b.length + 32 ≤ B → Sz B b done left (oneF F b done left)
  | F, [], done, left, _, _, _, _ => by rw [oneF_nil]; exact .inr rfl
  | 0, c :: b, done, left, h0, h5, hd, hb => by
    rw [oneF]
    split
    · have := again_sz (B := B) (b := b) (left := left) hd
      cases hr : againX b done left with
      | bad e => rw [hr] at this; exact this
      | got n b' d' l' =>
        rw [hr] at this
        obtain ⟨s1, s2, s3, s4, s5, s6⟩ := this
        exact ⟨s1, s2, s3, s4, by rw [List.length_cons]; omega, by rw [List.length_cons]; omega⟩
    · exact .inr rfl
  | F + 1, c :: b, done, left, h0, h5, hd, hb => by
    rw [List.length_cons] at hb
    rw [oneF]
    split
    · have := again_sz (B := B) (b := b) (left := left) hd
      cases hr : againX b done left with
      | bad e => rw [hr] at this; exact this
      | got n b' d' l' =>
        rw [hr] at this
        obtain ⟨s1, s2, s3, s4, s5, s6⟩ := this
        exact ⟨s1, s2, s3, s4, by rw [List.length_cons]; omega, by rw [List.length_cons]; omega⟩
    · split
      · exact .inr rfl
      · split
        · exact .inl rfl
        · rename_i hl
          by_cases hc : c = 0
          · rw [if_pos hc]
            have := body_sz (B := B) (f := oneF F) (fun b done left h0 h5 hd hb => one_sz F b done left h0 h5 hd hb) c b done left h0 (.inr ⟨hc, h5⟩) hd (by omega)
            rw [if_pos hc] at this
            exact this
          · rw [if_neg hc]
            have hl2 : ¬ left - 1 < 0 := fun h => hl ⟨hc, h⟩
            have := body_sz (B := B) (f := oneF F) (fun b done left h0 h5 hd hb => one_sz F b done left h0 h5 hd hb) c b done (left - 1) (by omega) (.inl (by omega)) hd (by omega)
            rw [if_neg hc, Int.sub_add_cancel] at this
            exact this
end Go.Proofs.Ytliccofjlheceaa
namespace Go.Proofs.Ytliccofjlheceaa
open Go.RowKit
theorem sdP_none {t : Nd} {done : List Nd} (h : idxN done t = none) : sdP t done = (headP t ++ (sdK t.kids done).1, (sdK t.kids done).2 ++ [t]) := by rw [sdP_eq, h]
theorem sdP_some {t : Nd} {done : List Nd} {i : Nat} (h : idxN done t = some i) : sdP t done = (5 :: putN i, done) := by rw [sdP_eq, h]
mutual
theorem sd_len : ∀ (t : Nd) (done : List Nd), (sdP t done).2.length ≤ done.length + sz t
  | .mk k p has v ks h, done => by
    rw [sdP, sz]
    split
    · dsimp only; omega
    · have := sdK_len ks done
      dsimp only
      rw [List.length_append, List.length_singleton]; omega
theorem sdK_len : ∀ (ks : List Nd) (done : List Nd), (sdK ks done).2.length ≤ done.length + szs ks
  | [], done => by rw [sdK]; exact Nat.le_add_right _ _
  | t :: ts, done => by
    rw [sdK, szs]
    split
    · have := sdK_len ts done; omega
    · have h1 := sd_len t done
      have h2 := sdK_len ts (sdP t done).2
      dsimp only
      omega
end
theorem textX_put {s r : List UInt8} (h : s.length ≤ 1048576) : textX (putB s ++ r) = some (s, r) := by
  obtain ⟨h1, h2, h3⟩ := gb_put [] s r h
  rw [List.nil_append] at h1 h2 h3
  have h1 : gbE (putB s ++ r) 0 = 0 := h1
  have h2 : gbL (putB s ++ r) 0 = s := h2
  have h3 : gbTo (putB s ++ r) 0 = (((putB s).length : Nat) : Int) := by simpa using h3
  unfold textX
  rw [if_pos h1, h2, h3, Int.toNat_natCast, List.drop_left]
theorem textX_same {b s r : List UInt8} (h : textX b = some (s, r)) : b = putB s ++ r ∧ s.length ≤ 1048576 := by
  unfold textX at h
  split at h
  · rename_i h0
    obtain ⟨E, e1, e2, -, -, e5, -, e7⟩ := gb_same (l := b) (a := 0) h0
    injection h with h
    injection h with h1 h2
    rw [show ((0 : Nat) : Int) = 0 from rfl] at e1 e5 e7
    rw [h1] at e5 e7
    rw [e1, Int.toNat_natCast] at h2
    rw [List.drop_zero, Nat.sub_zero] at e5
    exact ⟨by rw [← e5, ← h2, List.take_append_drop], e7⟩
  · cases h
theorem g_put0 (n : Nat) (r : List UInt8) (h : n < 18446744073709551616) : gE (putN n ++ r) 0 = 0 ∧ gN (putN n ++ r) 0 = (n : Int) ∧ (gTo (putN n ++ r) 0).toNat = (putN n).length := by
  have := g_put [] n r h
  simp only [List.nil_append, List.length_nil, Nat.zero_add] at this
  obtain ⟨h1, h2, h3⟩ := this
  refine ⟨h1, h2, ?_⟩
  have h3 : gTo (putN n ++ r) 0 = (((putN n).length : Nat) : Int) := h3
  rw [h3, Int.toNat_natCast]
theorem again_put {i : Nat} {done : List Nd} {r : List UInt8} {left : Int} (hi : i < done.length) (hb : done.length ≤ 1000000000000000000) (hl : ((cntP (done.getD i noneN)).1 : Int) ≤ left) : againX (putN i ++ r) done left = .got (done.getD i noneN) r done (left - ((cntP (done.getD i noneN)).1 : Int)) := by
  obtain ⟨h1, h2, h3⟩ := g_put0 i r (by omega)
  unfold againX
  rw [h1, h2, h3, if_pos ⟨rfl, by omega⟩, Int.toNat_natCast, if_neg (by omega), List.drop_left]
theorem one_again {F i : Nat} {t : Nd} {done : List Nd} {rest : List UInt8} {left : Int} (h : idxN done t = some i) (hb : done.length ≤ 1000000000000000000) (hl : ((cntP t).1 : Int) ≤ left) : oneF (F + 1) ((sdP t done).1 ++ rest) done left = .got t rest (sdP t done).2 (left - ((cntP t).1 : Int)) := by
  obtain ⟨h1, h2, -⟩ := idxN_some h
  rw [sdP_some h]
  show oneF (F + 1) (5 :: (putN i ++ rest)) done left = _
  rw [oneF_cons, if_pos rfl, again_put h1 hb (by rw [h2]; exact hl), h2]
theorem one_head {F : Nat} {c : UInt8} {b : List UInt8} {done : List Nd} {left : Int} (h5 : c ≠ 5) (h4 : c.toNat ≤ 4) (h0 : c ≠ 0 → 1 ≤ left) : oneF (F + 1) (c :: b) done left = bodyX (oneF F) c b done (if c = 0 then left else left - 1) := by
  rw [oneF_cons, if_neg h5, if_neg (by omega), if_neg (fun h => by have := h0 h.1; omega)]
theorem kids_rt {f : List UInt8 → List Nd → Int → Rr} {set : List UInt8} {all : List Nd} (hb : ∀ i, i < 16 → bitB set i = nz all i) :
    ∀ (n i : Nat) (acc ks done : List Nd) (left : Int) (rest : List UInt8), i + n = 16 → ks.length = n → ks = all.drop i → (∀ k ∈ ks, k.kind = 0 → k = noneN) →
    (∀ k ∈ ks, k.kind ≠ 0 → ∀ done left rest, ((cntP k).1 : Int) ≤ left → done.length + sz k ≤ 1000000000000000000 → f ((sdP k done).1 ++ rest) done left = .got k rest (sdP k done).2 (left - ((cntP k).1 : Int))) →
    ((cntsP ks).1 : Int) ≤ left → done.length + szs ks ≤ 1000000000000000000 → kidsA f set n i acc ((sdK ks done).1 ++ rest) done left = .got (acc ++ ks) rest (sdK ks done).2 (left - ((cntsP ks).1 : Int))
  | 0, i, acc, ks, done, left, rest, _, hl, _, _, _, _, _ => by
    obtain rfl := List.eq_nil_of_length_eq_zero hl
    rw [kidsA, sdK, cntsP, List.append_nil]
    simp
  | n + 1, i, acc, [], done, left, rest, _, hl, _, _, _, _, _ => by cases hl
  | n + 1, i, acc, k :: ks, done, left, rest, hin, hl, hdr, hnone, hf, hc, hz => by
    have hk : all.getD i noneN = k := by
      have : (all.drop i)[0]? = some k := by rw [← hdr]; rfl
      rw [List.getElem?_drop, Nat.add_zero] at this
      rw [List.getD_eq_getElem?_getD, this]; rfl
    have hdr2 : ks = all.drop (i + 1) := by
      rw [← List.drop_drop, ← hdr]; rfl
    rw [szs] at hz
    rw [cntsP] at hc
    dsimp only at hc
    have hl2 : ks.length = n := by simpa using hl
    by_cases h0 : k.kind = 0
    · have hkn := hnone k (List.mem_cons_self ..) h0
      have e0 : (cntP noneN).1 = 0 := rfl
      rw [kidsA, hb i (by omega)]
      have : nz all i = false := by unfold nz; rw [hk]; exact decide_eq_false (fun h => h h0)
      rw [this, if_neg (by decide), sdK, if_pos h0, kids_rt hb n (i + 1) (acc ++ [noneN]) ks done left rest (by omega) hl2 hdr2 (fun k hk => hnone k (List.mem_cons_of_mem _ hk)) (fun k hk => hf k (List.mem_cons_of_mem _ hk)) (by omega) (by omega), hkn, cntsP]
      dsimp only
      rw [e0, Nat.zero_add, List.append_assoc]; rfl
    · rw [kidsA, hb i (by omega)]
      have : nz all i = true := by unfold nz; rw [hk]; exact decide_eq_true h0
      rw [this, if_pos rfl, sdK, if_neg h0]
      dsimp only
      rw [List.append_assoc, hf k (List.mem_cons_self ..) h0 done left _ (by omega) (by omega)]
      dsimp only
      have hl3 := sd_len k done
      rw [kids_rt hb n (i + 1) (acc ++ [k]) ks (sdP k done).2 (left - ((cntP k).1 : Int)) rest (by omega) hl2 hdr2 (fun k hk => hnone k (List.mem_cons_of_mem _ hk)) (fun k hk => hf k (List.mem_cons_of_mem _ hk)) (by omega) (by omega), cntsP]
      dsimp only
      rw [List.append_assoc]
      congr 1
      omega
theorem one_rt {even : Bool} {t : Nd} {d : Nat} (hv : Val even t d) : ∀ (F : Nat), 403 ≤ F + d → ∀ (done : List Nd) (left : Int) (rest : List UInt8), ((cntP t).1 : Int) ≤ left → done.length + sz t ≤ 1000000000000000000 → oneF F ((sdP t done).1 ++ rest) done left = .got t rest (sdP t done).2 (left - ((cntP t).1 : Int)) := by
  induction hv with
  | none d hd =>
    intro F hF done left rest hl hz
    obtain ⟨F, rfl⟩ : ∃ F', F = F' + 1 := ⟨F - 1, by omega⟩
    cases hi : idxN done noneN with
    | some i => exact one_again hi (by omega) hl
    | none =>
      have e0 : (cntP noneN).1 = 0 := rfl
      rw [sdP_none hi, e0]
      have e1 : headP noneN ++ (sdK noneN.kids done).1 ++ rest = 0 :: rest := by
        have : (sdK noneN.kids done).1 = [] := by show (sdK [] done).1 = []; rw [sdK]
        rw [this, List.append_nil]; rfl
      have e2 : (sdK noneN.kids done).2 = done := by show (sdK [] done).2 = done; rw [sdK]
      dsimp only
      rw [e1, e2, one_head (by decide) (by decide) (fun h => absurd rfl h), if_pos rfl]
      unfold bodyX
      rw [if_neg (by decide), if_neg (by decide), if_neg (by decide)]
      simp
  | leaf d p v hd hp hv he =>
    intro F hF done left rest hl hz
    obtain ⟨F, rfl⟩ : ∃ F', F = F' + 1 := ⟨F - 1, by omega⟩
    cases hi : idxN done (.mk 1 p false v [] []) with
    | some i => exact one_again hi (by omega) hl
    | none =>
      have hpl := packL_len p true
      have hen := endsP_le he
      obtain ⟨u1, u2, u3, -⟩ := unpack_pack p true hp
      have ec : (cntP (.mk 1 p false v [] [])).1 = 1 := by rw [cntP, cntsP]; rfl
      rw [ec] at hl ⊢
      rw [sdP_none hi]
      have e1 : headP (.mk 1 p false v [] []) ++ (sdK (Nd.mk 1 p false v [] []).kids done).1 ++ rest = 1 :: (putB (packL p true) ++ (putB v ++ rest)) := by
        have : (sdK (Nd.mk 1 p false v [] []).kids done).1 = [] := by show (sdK [] done).1 = []; rw [sdK]
        rw [this, List.append_nil, ← List.append_assoc]; rfl
      have e2 : (sdK (Nd.mk 1 p false v [] []).kids done).2 = done := by show (sdK [] done).2 = done; rw [sdK]
      dsimp only
      rw [e1, e2, one_head (by decide) (by decide) (fun _ => hl), if_neg (by decide)]
      unfold bodyX
      rw [if_pos (.inl rfl), textX_put (by omega)]
      dsimp only
      rw [u1, u2, u3, if_neg (by simp), if_pos rfl, textX_put (by omega)]
      rfl
  | stub d h hd hh =>
    intro F hF done left rest hl hz
    obtain ⟨F, rfl⟩ : ∃ F', F = F' + 1 := ⟨F - 1, by omega⟩
    cases hi : idxN done (.mk 4 [] false [] [] h) with
    | some i => exact one_again hi (by omega) hl
    | none =>
      have ec : (cntP (.mk 4 [] false [] [] h)).1 = 1 := by rw [cntP, cntsP]; rfl
      rw [ec] at hl ⊢
      rw [sdP_none hi]
      have e1 : headP (.mk 4 [] false [] [] h) ++ (sdK (Nd.mk 4 [] false [] [] h).kids done).1 ++ rest = 4 :: (h ++ rest) := by
        have : (sdK (Nd.mk 4 [] false [] [] h).kids done).1 = [] := by show (sdK [] done).1 = []; rw [sdK]
        rw [this, List.append_nil]; rfl
      have e2 : (sdK (Nd.mk 4 [] false [] [] h).kids done).2 = done := by show (sdK [] done).2 = done; rw [sdK]
      dsimp only
      rw [e1, e2, one_head (by decide) (by decide) (fun _ => hl), if_neg (by decide)]
      unfold bodyX
      rw [if_neg (by decide), if_neg (by decide), if_pos rfl, if_neg (by rw [List.length_append]; omega)]
      have t1 : (h ++ rest).take 32 = h := by rw [← hh, List.take_left]
      have t2 : (h ++ rest).drop 32 = rest := by rw [← hh, List.drop_left]
      rw [t1, t2]
      rfl
  | way d p k hd hp h0 hk hr ih =>
    intro F hF done left rest hl hz
    obtain ⟨F, rfl⟩ : ∃ F', F = F' + 1 := ⟨F - 1, by omega⟩
    cases hi : idxN done (.mk 2 p false [] [k] []) with
    | some i => exact one_again hi (by omega) hl
    | none =>
      have hpl := packL_len p false
      have hen := hr.le
      have hp1 : 1 ≤ p.length := by cases p with | nil => exact absurd rfl h0 | cons _ _ => simp
      have hk0 : k.kind ≠ 0 := by rcases hk with h | h <;> rw [h] <;> decide
      obtain ⟨u1, u2, u3, -⟩ := unpack_pack p false hp
      have ec : (cntP (.mk 2 p false [] [k] [])).1 = 1 + (cntP k).1 := by rw [cntP, cntsP, cntsP]; simp
      have es : sz (.mk 2 p false [] [k] []) = 6 + p.length + sz k := by rw [sz, szs, szs]; simp
      rw [ec] at hl ⊢
      rw [es] at hz
      rw [sdP_none hi]
      have eK : sdK (Nd.mk 2 p false [] [k] []).kids done = ((sdP k done).1 ++ [], (sdP k done).2) := by
        show sdK [k] done = _
        rw [sdK, if_neg hk0, sdK]
      rw [eK]
      dsimp only
      have e1 : headP (.mk 2 p false [] [k] []) ++ ((sdP k done).1 ++ []) ++ rest = 2 :: (putB (packL p false) ++ ((sdP k done).1 ++ rest)) := by
        have eh : headP (.mk 2 p false [] [k] []) = 2 :: (putB (packL p false) ++ []) := rfl
        rw [eh, List.append_nil, List.append_nil, List.cons_append, List.cons_append, List.append_assoc]
      rw [e1, one_head (by decide) (by decide) (fun _ => by omega), if_neg (by decide)]
      unfold bodyX
      rw [if_pos (.inr rfl), textX_put (by omega)]
      dsimp only
      rw [u1, u2, u3, if_neg (by simp), if_neg (by decide), ih F (by omega) done (left - 1) rest (by omega) (by omega)]
      dsimp only
      congr 1
      omega
  | branch d has v ks hd hv hv0 he h16 hr hm ih =>
    intro F hF done left rest hl hz
    obtain ⟨F, rfl⟩ : ∃ F', F = F' + 1 := ⟨F - 1, by omega⟩
    cases hi : idxN done (.mk 3 [] has v ks []) with
    | some i => exact one_again hi (by omega) hl
    | none =>
      have ec : (cntP (.mk 3 [] has v ks [])).1 = 1 + (cntsP ks).1 := by rw [cntP]; simp
      have es : sz (.mk 3 [] has v ks []) = 6 + v.length + szs ks := by rw [sz]; simp
      rw [ec] at hl ⊢
      rw [es] at hz
      rw [sdP_none hi]
      show oneF (F + 1) (headP (.mk 3 [] has v ks []) ++ (sdK ks done).1 ++ rest) done left = .got (.mk 3 [] has v ks []) rest ((sdK ks done).2 ++ [.mk 3 [] has v ks []]) _
      have eh : headP (.mk 3 [] has v ks []) = 3 :: ((if has then (1 : UInt8) :: putB v else [0]) ++ (UInt8.ofNat (kbits ks 16).1 :: UInt8.ofNat (kbits ks 16).2 :: [])) := rfl
      have hks := kids_rt (f := oneF F) (set := [UInt8.ofNat (kbits ks 16).1, UInt8.ofNat (kbits ks 16).2]) (all := ks) (fun i hi => bitB_nz ks hi) 16 0 [] ks done (left - 1) rest rfl h16 List.drop_zero.symm (fun k hk h0 => kind0 (hr k hk) h0)
        (fun k hk h0 done left rest h1 h2 => ih k hk F (by omega) done left rest h1 h2) (by omega) (by omega)
      rw [List.nil_append] at hks
      obtain ⟨s0, hs0⟩ : ∃ x, x = UInt8.ofNat (kbits ks 16).1 := ⟨_, rfl⟩
      obtain ⟨s1, hs1⟩ : ∃ x, x = UInt8.ofNat (kbits ks 16).2 := ⟨_, rfl⟩
      rw [← hs0, ← hs1] at hks eh
      have efin : left - 1 - ((cntsP ks).1 : Int) = left - ((1 + (cntsP ks).1 : Nat) : Int) := by omega
      rw [eh]
      cases has with
      | true =>
        have e1 : 3 :: ((if true = true then (1 : UInt8) :: putB v else [0]) ++ [s0, s1]) ++ (sdK ks done).1 ++ rest = 3 :: 1 :: (putB v ++ (s0 :: s1 :: ((sdK ks done).1 ++ rest))) := by
          rw [if_pos rfl]
          simp only [List.cons_append, List.append_assoc, List.nil_append]
        rw [e1, one_head (by decide) (by decide) (fun _ => by omega), if_neg (by decide)]
        unfold bodyX
        rw [if_neg (by decide), if_pos rfl]
        dsimp only
        rw [if_pos rfl, textX_put (by omega)]
        dsimp only
        rw [if_neg (by simp only [List.length_cons]; omega)]
        show (match kidsA (oneF F) [s0, s1] 16 0 [] ((sdK ks done).1 ++ rest) done (left - 1) with | .bad e => Rr.bad e | .got ks b3 d3 l3 => Rr.got (.mk 3 [] (decide ((1 : UInt8) = 1)) v ks []) b3 (d3 ++ [Nd.mk 3 [] (decide ((1 : UInt8) = 1)) v ks []]) l3) = _
        rw [hks, efin]
        rfl
      | false =>
        have hv' : v = [] := hv0.resolve_left (by decide)
        subst hv'
        have e1 : 3 :: ((if false = true then (1 : UInt8) :: putB [] else [0]) ++ [s0, s1]) ++ (sdK ks done).1 ++ rest = 3 :: 0 :: s0 :: s1 :: ((sdK ks done).1 ++ rest) := by
          rw [if_neg (by decide)]
          simp only [List.cons_append, List.append_assoc, List.nil_append]
        rw [e1, one_head (by decide) (by decide) (fun _ => by omega), if_neg (by decide)]
        unfold bodyX
        rw [if_neg (by decide), if_pos rfl]
        dsimp only
        rw [if_neg (by decide)]
        dsimp only
        rw [if_neg (by simp only [List.length_cons]; omega)]
        show (match kidsA (oneF F) [s0, s1] 16 0 [] ((sdK ks done).1 ++ rest) done (left - 1) with | .bad e => Rr.bad e | .got ks b3 d3 l3 => Rr.got (.mk 3 [] (decide ((0 : UInt8) = 1)) [] ks []) b3 (d3 ++ [Nd.mk 3 [] (decide ((0 : UInt8) = 1)) [] ks []]) l3) = _
        rw [hks, efin]
        rfl
/-- How many bytes are sent. -/
theorem head_len (t : Nd) (h : t.path.length + t.val.length ≤ 1000000000000000000) : (headP t).length ≤ 24 + t.path.length + t.val.length + t.hash.length := by
  have hn : ∀ n : Nat, n ≤ 1000000000000000001 → (putN n).length ≤ 10 := fun n hn => putN_len10 (by omega)
  have hp := packL_len t.path true
  have hp2 := packL_len t.path false
  unfold headP
  split
  · rw [List.length_cons]; omega
  · unfold encF
    rw [List.length_cons]
    split
    · have h1 := hn (packL t.path true).length (by omega)
      have h2 := hn t.val.length (by omega)
      unfold putB
      simp only [List.length_append]; omega
    · split
      · have h1 := hn (packL t.path false).length (by omega)
        unfold putB
        simp only [List.length_append, List.length_nil]; omega
      · split
        · have h2 := hn t.val.length (by omega)
          cases t.has with
          | true => rw [if_pos rfl]; unfold putB; simp only [List.length_append, List.length_cons, List.length_nil]; omega
          | false => rw [if_neg (by decide)]; simp only [List.length_append, List.length_cons, List.length_nil]; omega
        · rw [List.length_nil]; omega
mutual
theorem sd_size : ∀ (t : Nd) (done : List Nd), done.length + sz t ≤ 1000000000000000000 → (sdP t done).1.length ≤ 5 * sz t
  | .mk k p has v ks h, done, hz => by
    have hh := head_len (.mk k p has v ks h)
    have ep : (Nd.mk k p has v ks h).path = p := rfl
    have ev : (Nd.mk k p has v ks h).val = v := rfl
    have es : (Nd.mk k p has v ks h).hash = h := rfl
    rw [ep, ev, es] at hh
    rw [sz] at hz ⊢
    rw [sdP]
    split
    · rename_i i hi
      have := (idxN_some hi).1
      have := putN_len10 (n := i) (by omega)
      rw [List.length_cons]; omega
    · have := sdK_size ks done (by omega)
      have := hh (by omega)
      dsimp only
      rw [List.length_append]; omega
theorem sdK_size : ∀ (ks : List Nd) (done : List Nd), done.length + szs ks ≤ 1000000000000000000 → (sdK ks done).1.length ≤ 5 * szs ks
  | [], done, _ => by rw [sdK]; exact Nat.zero_le _
  | t :: ts, done, hz => by
    rw [szs] at hz ⊢
    rw [sdK]
    split
    · have := sdK_size ts done (by omega); omega
    · have h1 := sd_size t done (by omega)
      have h2 := sd_len t done
      have h3 := sdK_size ts (sdP t done).2 (by omega)
      dsimp only
      rw [List.length_append]; omega
end
end Go.Proofs.Ytliccofjlheceaa
namespace Go.Proofs.Ytliccofjlheceaa
open Go.RowKit
section
variable {w W : World} {gs : List (Option Nat)} {L L' : Lc} {R R' : List Row} {fs : List Fact}
theorem own_perm (hL : L.Perm L') (hR : R.Perm R') (gs : List (Option Nat)) {b : Option Nat} : b ∈ own L' R' gs → b ∈ own L R gs := by
  unfold own
  intro h
  rcases List.mem_append.1 h with h | h
  · exact List.mem_append_left _ ((hL.map _).mem_iff.2 h)
  · rcases List.mem_append.1 h with h | h
    · exact List.mem_append_right _ (List.mem_append_left _ ((hR.map _).mem_iff.2 h))
    · exact List.mem_append_right _ (List.mem_append_right _ h)
theorem St.perm (M : St w gs W L R fs) (hL : L.Perm L') (hR : R.Perm R') : St w gs W L' R' fs :=
  ⟨M.below, M.lt, fun x hx => M.blk x (hL.mem_iff.2 hx), fun r hr => M.row r (hR.mem_iff.2 hr), List.Perm.pairwise ((hL.map _).append (hR.map _)) M.ap (fun h => apart_comm h),
    fun f hf => (M.fct f hf).up ⟨Nat.le_refl _, fun _ _ _ => rfl, fun _ _ e => own_perm hL hR gs e⟩⟩
theorem St.permL (M : St w gs W L R fs) (hL : L.Perm L') : St w gs W L' R fs := M.perm hL (List.Perm.refl _)
theorem St.permR (M : St w gs W L R fs) (hR : R.Perm R') : St w gs W L R' fs := M.perm (List.Perm.refl _) hR
theorem St.swpR {x y : Row} (M : St w gs W L (x :: y :: R) fs) : St w gs W L (y :: x :: R) fs := M.permR (List.Perm.swap ..)
/-- The third one first. -/
theorem perm3 {α : Type} (x y z : α) (l : List α) : (x :: y :: z :: l).Perm (z :: x :: y :: l) := ((List.Perm.swap z y l).cons x).trans (List.Perm.swap z x (y :: l))
theorem perm3' {α : Type} (x y z : α) (l : List α) : (z :: x :: y :: l).Perm (x :: y :: z :: l) := (perm3 x y z l).symm
end
end Go.Proofs.Ytliccofjlheceaa
namespace Go.Proofs.Ytliccofjlheceaa
open Go.RowKit
/-- An element of a row that grows. -/
theorem St.rowN {w W : World} {gs : List (Option Nat)} {L : Lc} {R : List Row} {fs : List Fact} (M : St w gs W L R fs) (j f : Nat) {A : Option Addr} {n c i : Nat} {xs : List Value} {ks : List Nd} {k : Nd} {fr : Bool} (hR : nth R j = some ⟨38, 6, A, n, c, xs⟩) (hf : nth fs f = some (.dat fr (dNs ks) xs)) (hk : ks[i]? = some k) :
    ∃ g es, A = some ⟨g, 0, none⟩ ∧ i < n ∧ es.length = 6 ∧ RdL W (Ft w W (own L R gs) fr) (dN k) es ∧ ∀ j v, es[j]? = some v → W.cell? (((⟨g, 0, none⟩ : Addr).add (i * 6)).add j) = some v := by
  have hrow := M.row _ (nth_mem hR)
  have hd := M.dt f hf
  have hxl := hrow.1
  have hdl := hd.len
  rw [dNs_len] at hdl
  have hi := (List.getElem?_eq_some_iff.1 hk).1
  dsimp only at hxl
  have hcells := row_cells hrow
  rcases hrow.2 with ⟨hv, h0⟩ | ⟨g, cap, cur, hv, _⟩
  · dsimp only at h0; omega
  · injection hv with e1 e2 e3
    dsimp only at e1
    subst e1
    refine ⟨g, (xs.drop (i * 6)).take 6, rfl, by omega, ?_, ?_, ?_⟩
    · rw [List.length_take, List.length_drop]; omega
    · have := (hd.drop (i * 6)).take 6
      rw [dNs_at hk] at this
      exact this
    · intro j v hj
      have hj6 : j < 6 := by
        have := (List.getElem?_eq_some_iff.1 hj).1
        rw [List.length_take] at this; omega
      rw [List.getElem?_take_of_lt hj6, List.getElem?_drop] at hj
      have := hcells ⟨g, 0, none⟩ rfl (i * 6 + j) v hj
      rw [Addr.add_lit] at this
      rw [Addr.add_lit, Addr.add_lit]
      rw [← Nat.add_assoc] at this
      exact this
/-- A row as a block, and back. -/
theorem St.rowBlkS {w W : World} {gs : List (Option Nat)} {L : Lc} {R : List Row} {fs : List Fact} {e : TypeId} {s n c : Nat} {A : Option Addr} {xs : List Value} (M : St w gs W L (⟨e, s, A, n, c, xs⟩ :: R) fs) (hn : 0 < n) : ∃ g rest, A = some ⟨g, 0, none⟩ ∧ n ≤ c ∧ c ≤ maxLen ∧ xs.length = n * s ∧ (xs ++ rest).length = c * s ∧ St w gs W ((g, e, xs ++ rest) :: L) R fs := by
  have hrow := M.row _ (List.mem_cons_self ..)
  obtain ⟨g, rest, hA, hnc, M2⟩ := M.rowBlk hn
  subst hA
  rcases hrow.2 with ⟨hv, h0⟩ | ⟨g', cap, cur, hv, hb, hh, h1, h2, h3, h4⟩
  · simp only at h0; omega
  · injection hv with e1 e2 e3
    dsimp only at e1 e3 h4
    injection e1 with e1
    injection e1 with e1 _ _
    subst e1; subst e3
    refine ⟨_, rest, rfl, hnc, h2, hrow.1, ?_, M2⟩
    have hB := M2.B 0 rfl
    unfold Blk at hB
    dsimp only at hh
    rw [hh] at hB
    injection hB with hB
    injection hB with hB _ _
    have := congrArg Array.size hB
    simp only [List.size_toArray] at this
    rw [← this, h3]
theorem St.blkRow {w W : World} {gs : List (Option Nat)} {L : Lc} {R : List Row} {fs : List Fact} {e : TypeId} {s n c g : Nat} {xs rest : List Value} (M : St w gs W ((g, e, xs ++ rest) :: L) R fs) (hnc : n ≤ c) (hm : c ≤ maxLen) (hx : xs.length = n * s) (hc : (xs ++ rest).length = c * s) : St w gs W L (⟨e, s, some ⟨g, 0, none⟩, n, c, xs⟩ :: R) fs := by
  have hB := M.blk _ (List.mem_cons_self ..)
  refine ⟨M.below, M.lt, fun y hy => M.blk y (List.mem_cons_of_mem _ hy), fun r hr => ?_, ?_, fun f hf => ?_⟩
  · rcases List.mem_cons.1 hr with rfl | hr
    · refine ⟨hx, .inr ⟨g, c, (xs ++ rest).toArray, rfl, hB.2, hB.1, hnc, hm, by simpa using hc, ?_⟩⟩
      dsimp only
      rw [← hx, List.take_left]
    · exact M.row r hr
  · have hp := List.Perm.pairwise (l' := L.map (fun x => some x.1) ++ (bk (some (⟨g, 0, none⟩ : Addr)) :: R.map (fun r => bk r.A))) (by rw [List.map_cons]; exact List.perm_middle.symm) M.ap (fun h => apart_comm h)
    exact hp
  · refine (M.fct f hf).up ⟨Nat.le_refl _, fun _ _ _ => rfl, fun b _ e => ?_⟩
    unfold own at *
    simp only [List.map_cons, List.cons_append, List.mem_append, List.mem_cons] at e ⊢
    rcases e with e | e | e | e
    · exact .inr (.inl e)
    · exact .inl (by rw [e]; rfl)
    · exact .inr (.inr (.inl e))
    · exact .inr (.inr (.inr e))
theorem is_pfn : isFn Try.prog 63 = true := by kernel_rfl
theorem is_pidx : isFn Try.prog 62 = true := by kernel_rfl
def fsn (g : Nat) : Value := .func (.func 63) #[] #[.pointer (some ⟨g, 0, none⟩)]
set_option maxRecDepth 100000 in
set_option maxHeartbeats 2000000 in
theorem pfn_any (t x : Nd) (ht : sz t < 1000000000) (hx : sz x < 1000000000) (w W : World) (gs : List (Option Nat)) (g : Nat) (T : TypeId) (hT : T = 38) (cs es : List Value) (L : Lc) (R : List Row) (fs : List Fact) (M : St w gs W ((g, T, cs) :: L) R fs)
    (ht' : RdL W (Fd W (own ((g, T, cs) :: L) R gs)) (dN t) cs) (hx' : RdL W (Fd W (own ((g, T, cs) :: L) R gs)) (dN x) es) :
    Calls Try.prog 63 #[.agg es.toArray, .pointer (some ⟨g, 0, none⟩)] W fun e W' => ∃ q : Bool, e = .returned (.bool q) ∧ (q = true ↔ x = t) ∧ St w gs W' ((g, T, cs) :: L) R fs := by
  refine calls_ev (args := [.agg es.toArray, .pointer (some ⟨g, 0, none⟩)]) mixed Try.func63 rfl (by kernel_rfl) ?_
  have h1 := ht'.len
  have h2 := hx'.len
  rw [dN_len] at h1 h2
  replace M := (M.addL hx').addL ht'
  clear hx' ht'
  subst hT
  refine s_box (es) M rfl ?_
  clear M
  rintro g2 W M
  refine v_loadN es agg_nd rfl h2 (M.run 0 rfl) ?_
  refine v_loadN cs agg_nd rfl h1 (M.run 1 rfl) ?_
  refine cc is_nsame (nsame_any 1000000000 (Nat.le_refl _) x hx t _ _ _ _ (M.da 1 rfl) (M.da 0 rfl) M.olt (Nat.le_of_lt ht)) ?_
  rintro e W ⟨q, rfl, hq, hb⟩
  replace M := M.call hb
  exact ⟨_, rfl, q, rfl, hq, M.dropL.fsub _ (fun f h => by simp [h])⟩
theorem idxN_of {l : List Nd} {t : Nd} {i : Nat} (h1 : i < l.length) (h2 : l.getD i noneN = t) (h3 : ∀ j, j < i → l.getD j noneN ≠ t) : idxN l t = some i := by
  unfold idxN
  rw [List.findIdx?_eq_some_iff_getElem]
  refine ⟨h1, ?_, fun j hj e => ?_⟩
  · rw [List.getD_eq_getElem?_getD, List.getElem?_eq_getElem h1] at h2
    exact (eqN_iff _ _).2 h2
  · have := h3 j hj
    rw [List.getD_eq_getElem?_getD, List.getElem?_eq_getElem (by omega)] at this
    exact this ((eqN_iff _ _).1 e)
def idxI (l : List Nd) (t : Nd) : Int := match idxN l t with | some i => (i : Int) | none => -1
set_option maxRecDepth 100000 in
set_option maxHeartbeats 2000000 in
theorem pidx_any (t : Nd) (ht : sz t < 1000000000) (done : List Nd) (hds : ∀ x ∈ done, sz x < 1000000000) (hdl : done.length ≤ 1000000000) (w W : World) (gs : List (Option Nat)) (g : Nat) (cs : List Value) (Ad : Option Addr) (nd cd : Nat) (xs : List Value) (L : Lc) (r0 : Row) (R : List Row) (fs : List Fact)
    (M : St w gs W ((g, 38, cs) :: L) (r0 :: ⟨38, 6, Ad, nd, cd, xs⟩ :: R) (.dat false (dN t) cs :: .dat false (dNs done) xs :: fs)) :
    Calls Try.prog 62 #[.slice Ad nd cd, fsn g] W fun e W' => e = .returned (.int .i64 (idxI done t)) ∧
      St w gs W' ((g, 38, cs) :: L) (r0 :: ⟨38, 6, Ad, nd, cd, xs⟩ :: R) (.dat false (dN t) cs :: .dat false (dNs done) xs :: fs) := by
  refine calls_ev (args := [.slice Ad nd cd, fsn g]) mixed Try.func62 rfl (by kernel_rfl) ?_
  have hnd : nd = done.length := by
    have h1 := (M.dt 1 rfl).len
    have h2 := (M.row _ (List.mem_cons_of_mem _ (List.mem_cons_self ..))).1
    rw [dNs_len] at h1
    dsimp only at h2
    omega
  subst hnd
  refine p_len sln rfl ?_
  refine lp Nat (fun i W => i ≤ done.length ∧ (∀ j, j < i → done.getD j noneN ≠ t) ∧ St w gs W ((g, 38, cs) :: L) (r0 :: ⟨38, 6, Ad, done.length, cd, xs⟩ :: R) (.dat false (dN t) cs :: .dat false (dNs done) xs :: fs))
    (fun i => [(0, .slice Ad done.length cd), (1, fsn g), (7, .int .i64 (done.length : Nat)), (8, .int .i64 (i : Nat))]) (fun i => done.length - i) 0 ⟨Nat.zero_le _, (fun j hj => absurd hj (Nat.not_lt_zero j)), M⟩ (by repeat (first | exact trivial | refine ⟨rfl, ?_⟩)) ?_
  clear M
  rintro i E W ⟨hi, hne, M⟩
  refine p_lt rfl rfl (fun hlt => ?_) (fun hge => ?_)
  · have hlt : i < done.length := by have h : (i : Int) < (done.length : Int) := hlt; omega
    obtain ⟨k, hk⟩ : ∃ k, done[i]? = some k := ⟨_, List.getElem?_eq_getElem hlt⟩
    have hkd : done.getD i noneN = k := by rw [List.getD_eq_getElem?_getD, hk]; rfl
    have hkz := hds k (List.mem_of_getElem? hk)
    obtain ⟨gd, es, e1, -, hel, hes, hcell⟩ := M.rowN 1 1 rfl rfl hk
    subst e1
    refine p_at (i := i) sln rfl rfl rfl hlt ?_
    refine v_loadN es agg_nd rfl hel hcell ?_
    refine cc is_pfn (pfn_any t k ht hkz w _ gs g _ rfl cs es L _ _ M (M.da 0 rfl) (hes.to fun b hb => ⟨rfl, hb.1, hb.2.1⟩)) ?_
    clear M hes hcell
    rintro e W ⟨q, rfl, hq, M⟩
    refine ⟨_, rfl, ?_⟩
    cases q with
    | true =>
      have hkt := hq.1 rfl
      refine ⟨?_, M⟩
      unfold idxI
      rw [idxN_of hlt (hkd.trans hkt) hne]
      rfl
    | false =>
      have hkt : k ≠ t := fun e => by have := hq.2 e; cases this
      refine p_addN (b := 1) rfl rfl (by omega) ?_
      exact ⟨i + 1, ⟨by omega, fun j hj => by
        rcases Nat.lt_or_ge j i with h | h
        · exact hne j h
        · have : j = i := by omega
          rw [this, hkd]; exact hkt, M⟩, (by repeat (first | exact trivial | refine ⟨rfl, ?_⟩)), by omega⟩
  · have hge : i = done.length := by have h : ¬ (i : Int) < (done.length : Int) := hge; omega
    subst hge
    refine ⟨?_, M⟩
    unfold idxI
    rw [idxN_none.2 fun x hx e => by
      obtain ⟨j, hj⟩ := List.getElem?_of_mem hx
      have hjl := (List.getElem?_eq_some_iff.1 hj).1
      exact hne j hjl (by rw [List.getD_eq_getElem?_getD, hj]; exact e)]
    rfl
end Go.Proofs.Ytliccofjlheceaa
