/- Values: their cells, rows of them; which may be. -/
import Derived.Test.YtjneoinacobbaaaOpB
import Derived.Test.YtjneoinacobbaaaBlk
namespace Go.Proofs.Ytjneoinacobbaaa
open Go.RowKit

theorem u_str : Try.prog.underlying 9 = some .string := by kernel_rfl
theorem agg_str : aggOf Try.prog 9 = some (false, 1) := by kernel_rfl
theorem agg_val : aggOf Try.prog 52 = some (true, 3) := by kernel_rfl
theorem slv : slOf Try.prog 22 = some (52, 3) := by kernel_rfl
theorem fv0 : fieldOff Try.prog 52 0 = some 0 := by kernel_rfl
theorem fv1 : fieldOff Try.prog 52 1 = some 1 := by kernel_rfl
theorem fv2 : fieldOff Try.prog 52 2 = some 2 := by kernel_rfl
structure Val where
  k : Int
  n : Int
  s : List UInt8
def vc (v : Val) : List Value := [.int .i64 v.k, .int .i64 v.n, .string (sb v.s)]
def vv_ (v : Val) : Value := .agg (vc v).toArray
def vcs (l : List Val) : List Value := l.flatMap vc
theorem vc_len (v : Val) : (vc v).length = 3 := rfl
theorem vcs_len (l : List Val) : (vcs l).length = l.length * 3 := by
  induction l with
  | nil => rfl
  | cons v l ih => simp only [vcs, List.flatMap_cons, List.length_append, vc_len, List.length_cons] at ih ⊢; omega
theorem vcs_at : ∀ (l : List Val) (i j : Nat) (v : Val), l[i]? = some v → j < 3 → (vcs l)[i * 3 + j]? = (vc v)[j]?
  | [], i, j, v, h, _ => by simp at h
  | u :: l, 0, j, v, h, hj => by
    simp at h
    subst h
    simp only [vcs, List.flatMap_cons, Nat.zero_mul, Nat.zero_add]
    rw [List.getElem?_append_left (by rw [vc_len]; exact hj)]
  | u :: l, i + 1, j, v, h, hj => by
    have ih := vcs_at l i j v (by simpa using h) hj
    simp only [vcs, List.flatMap_cons] at ih ⊢
    rw [List.getElem?_append_right (by rw [vc_len]; omega), vc_len, show (i + 1) * 3 + j - 3 = i * 3 + j by omega]
    exact ih
theorem vcs_append (l m : List Val) : vcs (l ++ m) = vcs l ++ vcs m := by simp [vcs]
theorem vcs_one (l : List Val) : ∀ u ∈ vcs l, u.oneCell' = true := by
  intro u hu
  obtain ⟨v, _, hv⟩ := List.mem_flatMap.1 hu
  simp [vc] at hv
  rcases hv with rfl | rfl | rfl <;> rfl
/-- A slice of n values that reads as l, below block B. -/
def RdV (w : World) (B : Nat) (A : Option Addr) (n : Nat) (l : List Val) : Prop := Reads w B 3 A n (vcs l)
section
variable {w w' : World} {B B' n : Nat} {A : Option Addr} {l : List Val}
theorem RdV.len (h : RdV w B A n l) : l.length = n := by have := h.1; rw [vcs_len] at this; omega
theorem RdV.nil_ : RdV w B A 0 [] := Reads.none_
theorem RdV.keep (h : RdV w B A n l) (hk : ∀ p : Addr, p.block < B → w'.cell? p = w.cell? p) : RdV w' B A n l := Reads.keep h hk
theorem RdV.more (h : RdV w B A n l) (hB : B ≤ B') : RdV w B' A n l := Reads.more h hB
theorem RdV.below (h : RdV w B A n l) (hb : Below B w w') : RdV w' B A n l := Reads.below h hb
theorem RdV.up (h : RdV w w.heap.size A n l) (hb : Below w.heap.size w w') : RdV w' w'.heap.size A n l := (h.below hb).more hb.size
theorem RdV.drew (h : RdV w B A n l) : RdV w.drew B A n l := h
/-- The i-th value's cells. -/
theorem RdV.at_ (h : RdV w B A n l) {i : Nat} {v : Val} (hi : l[i]? = some v) : ∃ ad, A = some ad ∧ ad.block < B ∧ ad.spot = none ∧ ∀ j u, (vc v)[j]? = some u → w.cell? ((ad.add (i * 3)).add j) = some u := by
  have hil : i < l.length := (List.getElem?_eq_some_iff.1 hi).1
  obtain ⟨b, off, rfl, hb, hc⟩ := h.2 (by rw [← h.len]; omega)
  refine ⟨_, rfl, hb, rfl, fun j u hu => ?_⟩
  rw [Addr.add_lit, Addr.add_lit, Nat.add_assoc]
  refine hc _ u ?_
  have hj : j < 3 := by
    have := (List.getElem?_eq_some_iff.1 hu).1
    rw [vc_len] at this; exact this
  rw [vcs_at l i j v hi hj]; exact hu
end

/-- Is a byte one that is seen? -/
def vis (c : UInt8) : Bool := decide (32 ≤ (c.toNat : Int)) && decide ((c.toNat : Int) ≤ 126)
/-- May a value be? -/
def rightB (v : Val) : Bool :=
  if v.k = 1 then decide (v.n = 0) && v.s.isEmpty
  else if v.k = 2 then (decide (v.n = 0) || decide (v.n = 1)) && v.s.isEmpty
  else if v.k = 3 then v.s.isEmpty
  else if v.k = 4 then decide (v.n = 0) && (decide ((v.s.length : Int) ≤ 1000) && v.s.all vis)
  else if v.k = 5 then decide (v.n = 0) && decide ((v.s.length : Int) ≤ 1000)
  else false
def chkE (v : Val) : Int := if rightB v then 0 else 2
theorem sb_size (l : List UInt8) : (sb l).size = l.length := by simp [sb, ByteArray.size]
theorem sb_get (l : List UInt8) (i : Nat) : (sb l)[i]? = l[i]? := by
  by_cases h : i < l.length
  · rw [getElem?_pos (sb l) i (by show i < (sb l).size; rw [sb_size]; exact h), List.getElem?_eq_getElem h]; rfl
  · rw [getElem?_neg (sb l) i (by show ¬ i < (sb l).size; rw [sb_size]; exact h), List.getElem?_eq_none (by omega)]
end Go.Proofs.Ytjneoinacobbaaa
