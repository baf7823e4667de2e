/- The bytes of values and rows, plainly. -/
import Derived.Test.YtjneoinacobbaaaVal
import Derived.Test.YtjneoinacobbaaaVintL
namespace Go.Proofs.Ytjneoinacobbaaa

/-- A value's bytes. -/
def oneL (v : Val) : List UInt8 :=
  b8 v.k :: (if v.k = 2 then [b8 v.n] else if v.k = 3 then putN (zig v.n) else if v.k = 4 ∨ v.k = 5 then putB v.s else [])
structure VOk (v : Val) : Prop where
  k0 : -9223372036854775808 ≤ v.k ∧ v.k ≤ 9223372036854775807
  n0 : -9223372036854775808 ≤ v.n ∧ v.n ≤ 9223372036854775807
  s0 : v.s.length ≤ 9223372036854775807
def tot (l : List Val) : Nat := (l.map fun v => 40 + v.s.length).sum
theorem tot_cons (v : Val) (l : List Val) : tot (v :: l) = 40 + v.s.length + tot l := by simp [tot]
theorem tot_mem {l : List Val} {v : Val} (h : v ∈ l) : 40 + v.s.length ≤ tot l := by
  induction l with
  | nil => cases h
  | cons u l ih =>
    rw [tot_cons]
    rcases List.mem_cons.1 h with rfl | h
    · omega
    · have := ih h; omega
theorem tot_len (l : List Val) : 40 * l.length ≤ tot l := by
  induction l with
  | nil => simp
  | cons u l ih => rw [tot_cons, List.length_cons]; omega
theorem oneL_len (v : Val) (h : VOk v) : (oneL v).length ≤ 12 + v.s.length := by
  have h3 := putN_len10 (zig_lt h.n0.1 h.n0.2)
  have h4 := putN_len10 (n := v.s.length) (by have := h.s0; omega)
  unfold oneL
  rw [List.length_cons]
  split
  · simp; omega
  · split
    · omega
    · split
      · unfold putB; rw [List.length_append]; omega
      · simp; omega
theorem flat_len : ∀ (l : List Val), (∀ v ∈ l, VOk v) → (l.flatMap oneL).length ≤ tot l
  | [], _ => by simp [tot]
  | v :: l, h => by
    have h1 := oneL_len v (h v (by simp))
    have h2 := flat_len l (fun u hu => h u (by simp [hu]))
    rw [List.flatMap_cons, List.length_append, tot_cons]; omega
theorem flat_take_len (l : List Val) (i : Nat) (h : ∀ v ∈ l, VOk v) : ((l.take i).flatMap oneL).length ≤ tot l := by
  have h1 := flat_len l h
  have : l.flatMap oneL = (l.take i).flatMap oneL ++ (l.drop i).flatMap oneL := by rw [← List.flatMap_append, List.take_append_drop]
  rw [this, List.length_append] at h1
  omega
/-- May all values be? -/
def allR (l : List Val) : Bool := l.all rightB
/-- A row's bytes, and why there are none. -/
def encE (l : List Val) : Int := if allR l then (if 100 < l.length then 3 else 0) else 2
def encB (l : List Val) : List UInt8 := if encE l = 0 then putN l.length ++ l.flatMap oneL else []
theorem allR_take {l : List Val} {i : Nat} {v : Val} (hi : l[i]? = some v) (h : allR (l.take i) = true) : allR (l.take (i + 1)) = rightB v := by
  obtain ⟨hlt, hv⟩ := List.getElem?_eq_some_iff.1 hi
  unfold allR at h ⊢
  rw [List.take_succ_eq_append_getElem hlt, List.all_append, h, hv]; simp
theorem allR_bad {l : List Val} {i : Nat} {v : Val} (hi : l[i]? = some v) (h : rightB v = false) : allR l = false := by
  unfold allR
  rw [List.all_eq_false]
  exact ⟨v, List.mem_of_getElem? hi, by rw [h]; simp⟩
theorem chkE_ne {v : Val} (h : ¬ chkE v = 0) : rightB v = false ∧ chkE v = 2 := by
  unfold chkE at h ⊢
  cases hb : rightB v
  · exact ⟨rfl, rfl⟩
  · rw [hb] at h; exact absurd rfl h
theorem chkE_eq {v : Val} (h : chkE v = 0) : rightB v = true := by
  unfold chkE at h
  cases hb : rightB v
  · rw [hb] at h; cases h
  · rfl
theorem flat_step {l : List Val} {i : Nat} {v : Val} (hi : l[i]? = some v) : (l.take (i + 1)).flatMap oneL = (l.take i).flatMap oneL ++ oneL v := by
  obtain ⟨hlt, hv⟩ := List.getElem?_eq_some_iff.1 hi
  rw [List.take_succ_eq_append_getElem hlt, List.flatMap_append, hv]; simp
end Go.Proofs.Ytjneoinacobbaaa
