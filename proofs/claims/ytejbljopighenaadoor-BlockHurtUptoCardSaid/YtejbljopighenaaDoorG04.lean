/- Data in blocks that nobody writes any more: what cells read as; the blocks that are still written are told apart. No program in sight. Rows that came in, element by element. No walk here. Single operations on bytes, for the walk that reckons. Values: their cells, rows of them; which may be. Numbers and bytes in one way: the plain functions and their laws. The bytes of values and rows, plainly. A []Value, a [][]Value and a Value that came in, opened to lists. -/
import Derived.Test.YtejbljopighenaaDoorG03
import Derived.Test.YtejbljopighenaaDoorG01
import Derived.WalkSmall
import Derived.Deep.Strs
namespace Go.Proofs.YtejbljopighenaaDoor
open Go.RowKit

theorem slA0 (A : Option Addr) (m s : Nat) : slA A m 0 s = A := by
  unfold slA
  split
  · rfl
  · cases A <;> simp [Addr.add]
/-- What a cell reads as: a value; a slice of so many elements, of so many cells each, told one behind the other. -/
inductive D where
  | v (x : Value)
  | sl (s n : Nat) (l : List D)

mutual
def RdD (W : World) (F : Nat → Prop) : D → Value → Prop
  | .v x, u => u = x
  | .sl s n l, u => ∃ A c cs, u = .slice A n c ∧ n ≤ c ∧ l.length = n * s ∧ RdL W F l cs ∧ (0 < n → ∃ b off, A = some ⟨b, off, none⟩ ∧ F b ∧ ∀ j x, cs[j]? = some x → W.cell? ⟨b, off + j, none⟩ = some x)
def RdL (W : World) (F : Nat → Prop) : List D → List Value → Prop
  | [], cs => cs = []
  | d :: ds, cs => ∃ u us, cs = u :: us ∧ RdD W F d u ∧ RdL W F ds us
end
section
variable {W W' : World} {F F' : Nat → Prop}
mutual
theorem RdD.to (h : ∀ b, F b → W'.heap[b]? = W.heap[b]? ∧ F' b) : ∀ {d : D} {u : Value}, RdD W F d u → RdD W' F' d u
  | .v x, u, hd => by unfold RdD at hd ⊢; exact hd
  | .sl s n l, u, hd => by
    unfold RdD at hd ⊢
    obtain ⟨A, c, cs, h1, h2, h3, h4, h5⟩ := hd
    refine ⟨A, c, cs, h1, h2, h3, RdL.to h h4, fun hn => ?_⟩
    obtain ⟨b, off, h6, h7, h8⟩ := h5 hn
    exact ⟨b, off, h6, (h b h7).2, fun j x hx => (World.cell?_of_block (w := W) (a := ⟨b, off + j, none⟩) (h b h7).1).trans (h8 j x hx)⟩
theorem RdL.to (h : ∀ b, F b → W'.heap[b]? = W.heap[b]? ∧ F' b) : ∀ {ds : List D} {cs : List Value}, RdL W F ds cs → RdL W' F' ds cs
  | [], cs, hd => by unfold RdL at hd ⊢; exact hd
  | d :: ds, cs, hd => by
    unfold RdL at hd ⊢
    obtain ⟨u, us, h1, h2, h3⟩ := hd
    exact ⟨u, us, h1, RdD.to h h2, RdL.to h h3⟩
end
theorem RdL.nil_ : RdL W F [] [] := by unfold RdL; rfl
theorem RdL.cons {d : D} {u : Value} {ds : List D} {us : List Value} (h : RdD W F d u) (hs : RdL W F ds us) : RdL W F (d :: ds) (u :: us) := by unfold RdL; exact ⟨u, us, rfl, h, hs⟩
theorem RdL.uncons {d : D} {ds : List D} {cs : List Value} (h : RdL W F (d :: ds) cs) : ∃ u us, cs = u :: us ∧ RdD W F d u ∧ RdL W F ds us := by unfold RdL at h; exact h
theorem RdL.isnil {cs : List Value} (h : RdL W F [] cs) : cs = [] := by unfold RdL at h; exact h
theorem RdD.val {x u : Value} : RdD W F (.v x) u ↔ u = x := by unfold RdD; exact Iff.rfl
theorem RdD.ofv (x : Value) : RdD W F (.v x) x := RdD.val.2 rfl
theorem RdL.len : ∀ {ds : List D} {cs : List Value}, RdL W F ds cs → cs.length = ds.length
  | [], cs, h => by rw [h.isnil]; rfl
  | d :: ds, cs, h => by obtain ⟨u, us, rfl, _, h2⟩ := h.uncons; simp [RdL.len h2]
theorem RdL.get : ∀ {ds : List D} {cs : List Value} {i : Nat} {d : D}, RdL W F ds cs → ds[i]? = some d → ∃ u, cs[i]? = some u ∧ RdD W F d u
  | [], cs, i, d, h, hi => by simp at hi
  | d0 :: ds, cs, 0, d, h, hi => by
    obtain ⟨u, us, rfl, h1, _⟩ := h.uncons
    simp at hi; subst hi
    exact ⟨u, rfl, h1⟩
  | d0 :: ds, cs, i + 1, d, h, hi => by
    obtain ⟨u, us, rfl, _, h2⟩ := h.uncons
    simpa using RdL.get h2 (by simpa using hi)
theorem RdL.app : ∀ {d1 d2 : List D} {c1 c2 : List Value}, RdL W F d1 c1 → RdL W F d2 c2 → RdL W F (d1 ++ d2) (c1 ++ c2)
  | [], d2, c1, c2, h1, h2 => by rw [h1.isnil]; exact h2
  | d :: d1, d2, c1, c2, h1, h2 => by
    obtain ⟨u, us, rfl, h3, h4⟩ := h1.uncons
    exact RdL.cons h3 (RdL.app h4 h2)
theorem RdL.drop : ∀ {ds : List D} {cs : List Value} (i : Nat), RdL W F ds cs → RdL W F (ds.drop i) (cs.drop i)
  | ds, cs, 0, h => by simpa using h
  | [], cs, i + 1, h => by rw [h.isnil]; simpa using RdL.nil_
  | d :: ds, cs, i + 1, h => by
    obtain ⟨u, us, rfl, _, h2⟩ := h.uncons
    simpa using RdL.drop i h2
theorem RdL.take : ∀ {ds : List D} {cs : List Value} (i : Nat), RdL W F ds cs → RdL W F (ds.take i) (cs.take i)
  | ds, cs, 0, h => by simpa using RdL.nil_
  | [], cs, i + 1, h => by rw [h.isnil]; simpa using RdL.nil_
  | d :: ds, cs, i + 1, h => by
    obtain ⟨u, us, rfl, h1, h2⟩ := h.uncons
    simpa using RdL.cons h1 (RdL.take i h2)
theorem RdL.split {d1 d2 : List D} {cs : List Value} (h : RdL W F (d1 ++ d2) cs) : ∃ c1 c2, cs = c1 ++ c2 ∧ RdL W F d1 c1 ∧ RdL W F d2 c2 := by
  refine ⟨cs.take d1.length, cs.drop d1.length, (List.take_append_drop _ _).symm, ?_, ?_⟩
  · simpa using h.take d1.length
  · simpa using h.drop d1.length
theorem RdL.vals : ∀ {xs cs : List Value}, RdL W F (xs.map D.v) cs → cs = xs
  | [], cs, h => h.isnil
  | x :: xs, cs, h => by
    obtain ⟨u, us, rfl, h1, h2⟩ := h.uncons
    rw [RdD.val.1 h1, RdL.vals h2]
theorem RdL.ofvals : ∀ (xs : List Value), RdL W F (xs.map D.v) xs
  | [] => RdL.nil_
  | x :: xs => RdL.cons (RdD.ofv x) (RdL.ofvals xs)
theorem RdL.one {d : D} {u : Value} (h : RdD W F d u) : RdL W F [d] [u] := RdL.cons h RdL.nil_
theorem RdL.set : ∀ {ds : List D} {cs : List Value} (i : Nat) {d : D} {u : Value}, RdL W F ds cs → RdD W F d u → RdL W F (ds.set i d) (cs.set i u)
  | [], cs, i, d, u, h, hd => by rw [h.isnil]; simpa using RdL.nil_
  | d0 :: ds, cs, 0, d, u, h, hd => by
    obtain ⟨u0, us, rfl, h1, h2⟩ := h.uncons
    exact RdL.cons hd h2
  | d0 :: ds, cs, i + 1, d, u, h, hd => by
    obtain ⟨u0, us, rfl, h1, h2⟩ := h.uncons
    exact RdL.cons h1 (RdL.set i h2 hd)

theorem RdD.sl_iff {s n : Nat} {l : List D} {u : Value} : RdD W F (.sl s n l) u ↔ ∃ A c cs, u = .slice A n c ∧ n ≤ c ∧ l.length = n * s ∧ RdL W F l cs ∧ (0 < n → ∃ b off, A = some ⟨b, off, none⟩ ∧ F b ∧ ∀ j x, cs[j]? = some x → W.cell? ⟨b, off + j, none⟩ = some x) := by
  rw [RdD]
/-- A slice opened. -/
theorem RdD.open_ {s n : Nat} {l : List D} {u : Value} (h : RdD W F (.sl s n l) u) : ∃ A c, u = .slice A n c ∧ n ≤ c ∧ l.length = n * s := by
  obtain ⟨A, c, cs, h1, h2, h3, _⟩ := RdD.sl_iff.1 h
  exact ⟨A, c, h1, h2, h3⟩
theorem RdD.len {s n : Nat} {l : List D} {u : Value} (h : RdD W F (.sl s n l) u) : l.length = n * s := by
  obtain ⟨A, c, h1, h2, h3⟩ := h.open_
  exact h3
/-- An element of a slice. -/
theorem RdD.at_ {s n n' c i : Nat} {l : List D} {A : Option Addr} (h : RdD W F (.sl s n l) (.slice A n' c)) (hi : i < n') :
    ∃ b off es, A = some ⟨b, off, none⟩ ∧ F b ∧ RdL W F ((l.drop (i * s)).take s) es ∧ es.length = s ∧ ∀ j x, es[j]? = some x → W.cell? ⟨b, off + i * s + j, none⟩ = some x := by
  obtain ⟨A', c', cs, h1, h2, h3, h4, h5⟩ := RdD.sl_iff.1 h
  injection h1 with e1 en _
  subst e1; subst en
  obtain ⟨b, off, h6, h7, h8⟩ := h5 (by omega)
  refine ⟨b, off, (cs.drop (i * s)).take s, h6, h7, (h4.drop _).take _, ?_, fun j x hx => ?_⟩
  · rw [List.length_take, List.length_drop, h4.len, h3]
    have : i * s + s ≤ n' * s := by
      have := Nat.mul_le_mul_right s (show i + 1 ≤ n' by omega)
      rw [Nat.add_mul, Nat.one_mul] at this; exact this
    omega
  · rw [List.getElem?_take] at hx
    split at hx
    · rw [List.getElem?_drop] at hx
      rw [Nat.add_assoc]
      exact h8 _ _ hx
    · cases hx
/-- A slice cut. -/
theorem RdD.cut {s n n' c i j m : Nat} {l : List D} {A : Option Addr} (h : RdD W F (.sl s n l) (.slice A n' c)) (hij : i ≤ j) (hj : j ≤ n') (hm : j ≤ m) : RdD W F (.sl s (j - i) ((l.drop (i * s)).take ((j - i) * s))) (.slice (slA A m i s) (j - i) (m - i)) := by
  obtain ⟨A', c', cs, h1, h2, h3, h4, h5⟩ := RdD.sl_iff.1 h
  injection h1 with e1 en _
  subst e1; subst en
  refine RdD.sl_iff.2 ⟨_, _, _, rfl, by omega, ?_, (h4.drop _).take _, fun hn => ?_⟩
  · rw [List.length_take, List.length_drop, h3]
    have : j * s ≤ n' * s := Nat.mul_le_mul_right s hj
    rw [Nat.sub_mul]
    omega
  · obtain ⟨b, off, h6, h7, h8⟩ := h5 (by omega)
    subst h6
    have hne : m ≠ i := by omega
    refine ⟨b, off + i * s, by unfold slA; rw [if_neg hne]; simp [Addr.add_lit], h7, fun k x hx => ?_⟩
    rw [List.getElem?_take] at hx
    split at hx
    · rw [List.getElem?_drop] at hx
      rw [Nat.add_assoc]
      exact h8 _ _ hx
    · cases hx
theorem RdD.nil_ {s : Nat} (A : Option Addr) (c : Nat) : RdD W F (.sl s 0 []) (.slice A 0 c) := RdD.sl_iff.2 ⟨A, c, [], rfl, Nat.zero_le _, by simp, RdL.nil_, fun h => absurd h (by omega)⟩

theorem RdD.slen {s n n' c : Nat} {l : List D} {A : Option Addr} (h : RdD W F (.sl s n l) (.slice A n' c)) : n' = n := by
  obtain ⟨A', c2, h1, _⟩ := h.open_
  injection h1
theorem RdD.scap {s n n' c : Nat} {l : List D} {A : Option Addr} (h : RdD W F (.sl s n l) (.slice A n' c)) : n' ≤ c := by
  obtain ⟨A', c2, h1, h2, _⟩ := h.open_
  injection h1; omega
theorem RdD.none0 {s n n' c : Nat} {l : List D} {A : Option Addr} (h : RdD W F (.sl s n l) (.slice A n' c)) (hA : A = none) : n' = 0 := by
  have hs := h.slen
  obtain ⟨A', c2, cs, h1, h2, h3, h4, h5⟩ := RdD.sl_iff.1 h
  injection h1 with e1 _ _
  subst e1; subst hs
  rcases Nat.eq_zero_or_pos n' with h0 | h0
  · exact h0
  · obtain ⟨b, off, h6, _⟩ := h5 h0
    rw [hA] at h6; cases h6
/-- Another capacity. -/
theorem RdD.cap {s n n' c c' : Nat} {l : List D} {A : Option Addr} (h : RdD W F (.sl s n l) (.slice A n' c)) (hc : n' ≤ c') : RdD W F (.sl s n l) (.slice A n' c') := by
  have hs := h.slen
  obtain ⟨A', c2, cs, h1, h2, h3, h4, h5⟩ := RdD.sl_iff.1 h
  injection h1 with e1 _ _
  subst e1; subst hs
  exact RdD.sl_iff.2 ⟨_, _, cs, rfl, hc, h3, h4, h5⟩
/-- Bytes. -/
def dB (l : List UInt8) : D := .sl 1 l.length ((bvs l).map D.v)
theorem RdD.bytes {l : List UInt8} {u : Value} (h : RdD W F (dB l) u) (hF : ∀ b, F b → b < W.heap.size) : ∃ A c, u = .slice A l.length c ∧ l.length ≤ c ∧ Rd W W.heap.size A l.length l := by
  obtain ⟨A, c, cs, h1, h2, h3, h4, h5⟩ := RdD.sl_iff.1 h
  rw [h4.vals] at h5
  refine ⟨A, c, h1, h2, by rw [bvs_length]; omega, fun hn => ?_⟩
  obtain ⟨b, off, h6, h7, h8⟩ := h5 hn
  exact ⟨b, off, h6, hF b h7, h8⟩
/-- Bytes cut. -/
theorem RdD.cutB {l : List UInt8} {A : Option Addr} {n c i j m : Nat} (h : RdD W F (dB l) (.slice A n c)) (hij : i ≤ j) (hj : j ≤ n) (hm : j ≤ m) : RdD W F (dB ((l.drop i).take (j - i))) (.slice (slA A m i 1) (j - i) (m - i)) := by
  have hn := h.slen
  have h2 := h.cut hij hj hm
  have e : dB ((l.drop i).take (j - i)) = D.sl 1 (j - i) ((((bvs l).map D.v).drop (i * 1)).take ((j - i) * 1)) := by
    unfold dB
    rw [Nat.mul_one, Nat.mul_one, List.length_take, List.length_drop, ← hn, Nat.min_eq_left (by omega), ← List.map_drop, ← List.map_take, bvs_take, bvs_drop]
  rw [e]; exact h2
theorem RdD.rd {l : List UInt8} {A : Option Addr} {n c : Nat} (h : RdD W F (dB l) (.slice A n c)) (hF : ∀ b, F b → b < W.heap.size) : n = l.length ∧ n ≤ c ∧ Rd W W.heap.size A n l := by
  obtain ⟨A', c', e1, e2, e3⟩ := h.bytes hF
  injection e1 with e1 e4 e5
  subst e1; subst e4; subst e5
  exact ⟨rfl, e2, e3⟩
theorem RdD.ofbytes {l : List UInt8} {A : Option Addr} {n c B : Nat} (h : Rd W B A n l) (hc : n ≤ c) (hF : ∀ b off, A = some ⟨b, off, none⟩ → b < B → F b) : RdD W F (dB l) (.slice A n c) := by
  have hl := h.len
  subst hl
  refine RdD.sl_iff.2 ⟨A, c, bvs l, rfl, hc, by simp [bvs_length], RdL.ofvals _, fun hn => ?_⟩
  obtain ⟨b, off, h6, h7, h8⟩ := h.2 hn
  exact ⟨b, off, h6, hF b off h6 h7, h8⟩
end

/-- The block of a slice. -/
def bk (A : Option Addr) : Option Nat := A.map (·.block)
theorem own_bk (A : Option Addr) (n c : Nat) : (Value.slice A n c).ownBlock = bk A := by cases A <;> rfl
/-- Blocks that are there, and not among those that are still written. -/
def Fd (W : World) (gs : List (Option Nat)) (b : Nat) : Prop := b < W.heap.size ∧ some b ∉ gs
theorem Fd.lt {W : World} {gs : List (Option Nat)} : ∀ b, Fd W gs b → b < W.heap.size := fun _ h => h.1
/-- New blocks. -/
def Thaw (W : World) (b : Nat) : Prop := ∀ cs T z, W.heap[b]? = some (.cells cs T z) → z = (0, 0)
theorem Thaw.same {W W' : World} {b : Nat} (h : Thaw W b) (e : W'.heap[b]? = W.heap[b]?) : Thaw W' b := fun cs T z hc => h cs T z (e ▸ hc)
theorem Thaw.of {W : World} {b : Nat} {cs : Array Value} {T : TypeId} (h : W.heap[b]? = some (.cells cs T)) : Thaw W b := fun cs' T' z hc => by rw [h] at hc; injection hc with hc; injection hc with _ _ hc; exact hc.symm
theorem Thaw.free {W : World} {b : Nat} (h : Thaw W b) (i : Nat) : W.frozen? ⟨b, i, none⟩ = false := by
  unfold World.frozen?
  cases hc : W.heap[b]? with
  | none => simp [hc]
  | some o =>
    cases o with
    | cells cs T z =>
      have e := h cs T z hc
      subst e
      simp [hc]
    | _ => simp [hc]
theorem row_thaw {W : World} {base n c s : Nat} {e : TypeId} {A : Option Addr} {xs : List Value} (h : W.ownsRow base e s (.slice A n c) n xs) {b : Nat} (hA : bk A = some b) : Thaw W b := by
  rcases h.2 with ⟨hv, h0⟩ | ⟨g, cap, cur, hv, _, hh, _⟩
  · injection hv with e1
    subst e1
    cases hA
  · injection hv with e1
    subst e1
    have : g = b := by simpa [bk] using hA
    subst this
    exact Thaw.of hh
def Fr (w W : World) (b : Nat) : Prop := w.heap.size ≤ b ∧ b < W.heap.size ∧ Thaw W b
/-- From one world to the next: what is not among gs stays; among gs' are no others of these. -/
structure Stp (W : World) (gs : List (Option Nat)) (W' : World) (gs' : List (Option Nat)) : Prop where
  size : W.heap.size ≤ W'.heap.size
  block : ∀ b, b < W.heap.size → some b ∉ gs → W'.heap[b]? = W.heap[b]?
  own : ∀ b, b < W.heap.size → some b ∈ gs' → some b ∈ gs
section
variable {w W W' W'' : World} {gs gs' gs'' : List (Option Nat)}
theorem RdL.up {ds : List D} {cs : List Value} (h : RdL W (Fd W gs) ds cs) (s : Stp W gs W' gs') : RdL W' (Fd W' gs') ds cs :=
  h.to fun b hb => ⟨s.block b hb.1 hb.2, by have := s.size; have := hb.1; omega, fun e => hb.2 (s.own b hb.1 e)⟩
theorem RdD.up {d : D} {u : Value} (h : RdD W (Fd W gs) d u) (s : Stp W gs W' gs') : RdD W' (Fd W' gs') d u :=
  h.to fun b hb => ⟨s.block b hb.1 hb.2, by have := s.size; have := hb.1; omega, fun e => hb.2 (s.own b hb.1 e)⟩
theorem Stp.refl : Stp W gs W gs := ⟨Nat.le_refl _, fun _ _ _ => rfl, fun _ _ h => h⟩
theorem Stp.trans (h : Stp W gs W' gs') (k : Stp W' gs' W'' gs'') : Stp W gs W'' gs'' :=
  ⟨Nat.le_trans h.size k.size, fun b hb hg => (k.block b (by have := h.size; omega) (fun e => hg (h.own b hb e))).trans (h.block b hb hg), fun b hb e => h.own b hb (k.own b (by have := h.size; omega) e)⟩
theorem Stp.below (hb : Below W.heap.size W W') : Stp W gs W' gs := ⟨hb.size, fun b h _ => hb.block b h, fun _ _ h => h⟩
/-- One more that is written from here on. -/
theorem Stp.new {g : Option Nat} (hb : Below W.heap.size W W') (hg : ∀ b, g = some b → W.heap.size ≤ b) : Stp W gs W' (g :: gs) :=
  ⟨hb.size, fun b h _ => hb.block b h, fun b h e => by
    rcases List.mem_cons.1 e with e | e
    · have := hg b e.symm; omega
    · exact e⟩
/-- One is written. -/
theorem Stp.wrote {r : Option Nat} (hg : W.grownBy W' r) (hr : r ∈ gs) : Stp W gs W' gs :=
  ⟨hg.size, fun b h hn => hg.block b h (fun e => hn (e ▸ hr)), fun _ _ h => h⟩
/-- append: the first of those that are written is written, or another one takes its place. -/
theorem Stp.app {r r' : Option Nat} (hg : W.grownBy W' r) (hr : ∀ b, r' = some b → r' = r ∨ W.heap.size ≤ b) : Stp W (r :: gs) W' (r' :: gs) :=
  ⟨hg.size, fun b h hn => hg.block b h (fun e => hn (by simp [e])), fun b h e => by
    rcases List.mem_cons.1 e with e | e
    · rcases hr b e.symm with h2 | h2
      · rw [e, h2]; simp
      · omega
    · simp [e]⟩
/-- The first one is written no more. -/
theorem Stp.drop {g : Option Nat} : Stp W (g :: gs) W gs := ⟨Nat.le_refl _, fun _ _ _ => rfl, fun b _ e => by simp [e]⟩
theorem Stp.drew : Stp W gs W.drew gs := ⟨Nat.le_refl _, fun _ _ _ => rfl, fun _ _ h => h⟩

/-- Where a call stands: of what was there nothing has turned; what it writes is there. -/
structure At (w : World) (W : World) (gs : List (Option Nat)) : Prop where
  below : Below w.heap.size w W
  lt : ∀ b, some b ∈ gs → b < W.heap.size
theorem At.start (h : ∀ b, some b ∈ gs → b < w.heap.size) : At w w gs := ⟨Below.refl _ _, h⟩
theorem At.size (h : At w W gs) : w.heap.size ≤ W.heap.size := h.below.size
theorem At.drew (h : At w W gs) : At w W.drew gs := ⟨h.below.drew, h.lt⟩
/-- Behind a call. -/
theorem At.call (h : At w W gs) (hb : Below W.heap.size W W') : At w W' gs := ⟨h.below.trans (hb.mono h.below.size), fun b e => by have := h.lt b e; have := hb.size; omega⟩
theorem At.new {g : Option Nat} (h : At w W gs) (hb : Below W.heap.size W W') (hg : ∀ b, g = some b → b < W'.heap.size) : At w W' (g :: gs) := ⟨(h.call hb).below, fun b e => by
    rcases List.mem_cons.1 e with e | e
    · exact hg b e.symm
    · exact (h.call hb).lt b e⟩
theorem At.wrote {r : Option Nat} (h : At w W gs) (hg : W.grownBy W' r) (hr : ∀ b, r = some b → w.heap.size ≤ b) : At w W' gs :=
  ⟨h.below.grown hg h.below.size hr, fun b e => by have := h.lt b e; have := hg.size; omega⟩
theorem At.app {r r' : Option Nat} (h : At w W (r :: gs)) (hg : W.grownBy W' r) (hr : ∀ b, r = some b → w.heap.size ≤ b) (hr' : ∀ b, r' = some b → b < W'.heap.size) : At w W' (r' :: gs) :=
  ⟨h.below.grown hg h.below.size hr, fun b e => by
    rcases List.mem_cons.1 e with e | e
    · exact hr' b e.symm
    · have := h.lt b (by simp [e]); have := hg.size; omega⟩
theorem At.drop {g : Option Nat} (h : At w W (g :: gs)) : At w W gs := ⟨h.below, fun b e => h.lt b (by simp [e])⟩
/-- What is new is not among those that are written. -/
theorem RdD.fresh {d : D} {u : Value} (h : RdD W' (Fr W W') d u) (hg : ∀ b, some b ∈ gs → b < W.heap.size) : RdD W' (Fd W' gs) d u := h.to fun b hb => ⟨rfl, hb.2.1, fun e => by have := hg b e; have := hb.1; omega⟩
theorem RdL.fresh {ds : List D} {cs : List Value} (h : RdL W' (Fr W W') ds cs) (hg : ∀ b, some b ∈ gs → b < W.heap.size) : RdL W' (Fd W' gs) ds cs := h.to fun b hb => ⟨rfl, hb.2.1, fun e => by have := hg b e; have := hb.1; omega⟩
theorem RdD.any {d : D} {u : Value} (h : RdD W (Fd W gs) d u) : RdD W (Fd W []) d u := h.to fun b hb => ⟨rfl, hb.1, by simp⟩
theorem RdL.any {ds : List D} {cs : List Value} (h : RdL W (Fd W gs) ds cs) : RdL W (Fd W []) ds cs := h.to fun b hb => ⟨rfl, hb.1, by simp⟩
theorem RdD.rdB {l : List UInt8} {u : Value} (h : RdD W (Fd W gs) (dB l) u) : ∃ A c, u = .slice A l.length c ∧ l.length ≤ c ∧ Rd W W.heap.size A l.length l := h.bytes Fd.lt
/-- A row of bytes of the call's own, read by itself. -/
theorem Own.frB {base n c : Nat} {A : Option Addr} {l : List UInt8} (h : Own W base A n c l) {F : Nat → Prop} (hF : ∀ b, base ≤ b → b < W.heap.size → bk A = some b → F b) : RdD W F (dB l) (.slice A n c) := by
  refine RdD.ofbytes h.rd h.cap_ fun b off e hb => hF b ?_ hb (by rw [e]; rfl)
  subst e
  exact h.lo b rfl
/-- A row of the call's own, read. -/
theorem rdD_row {base n c s : Nat} {e : TypeId} {A : Option Addr} {xs : List Value} {ds : List D} (h : W.ownsRow base e s (.slice A n c) n xs) {F : Nat → Prop} (hd : RdL W F ds xs) (hF : ∀ b, base ≤ b → b < W.heap.size → (Value.slice A n c).ownBlock = some b → F b) : RdD W F (.sl s n ds) (.slice A n c) := by
  refine RdD.sl_iff.2 ⟨A, c, xs, rfl, ?_, by rw [← hd.len]; exact h.1, hd, fun hn => ?_⟩
  · rcases h.2 with ⟨hv, hn⟩ | ⟨g, cap, cur, hv, _, _, hc, _⟩
    · omega
    · injection hv with _ _ hc'; omega
  · obtain ⟨b, off, e1, e2, e3⟩ := (Reads.of_own h).2 hn
    subst e1
    exact ⟨b, off, rfl, hF b (World.ownsRow.lt h b rfl).1 e2 rfl, e3⟩
/-- New blocks that are not among those that are written. -/
def Fz (base : Nat) (W : World) (gs : List (Option Nat)) (b : Nat) : Prop := base ≤ b ∧ b < W.heap.size ∧ some b ∉ gs ∧ Thaw W b
/-- A row of bytes that a call has made. -/
theorem Own.zb {base n c : Nat} {A : Option Addr} {l : List UInt8} (h : Own W' W.heap.size A n c l) (hb : base ≤ W.heap.size) (hg : ∀ b, some b ∈ gs → b < W.heap.size) : RdD W' (Fz base W' gs) (dB l) (.slice A n c) :=
  h.frB fun b h1 h2 h3 => ⟨Nat.le_trans hb h1, h2, fun e => by have := hg b e; omega, row_thaw h h3⟩
/-- A block that is written no more. -/
structure FB (W : World) (gs : List (Option Nat)) (g : Nat) (T : TypeId) (cs : List Value) : Prop where
  blk : Blk W g T cs
  out : some g ∉ gs
theorem FB.up {g : Nat} {T : TypeId} {cs : List Value} (h : FB W gs g T cs) (s : Stp W gs W' gs') : FB W' gs' g T cs :=
  ⟨(s.block g h.blk.lt h.out).trans h.blk, fun e => h.out (s.own g h.blk.lt e)⟩
theorem FB.new {g : Nat} {T : TypeId} {cs : List Value} (h : Blk W' g T cs) (hA : ∀ b, some b ∈ gs → b < W.heap.size) (hg : W.heap.size ≤ g) : FB W' gs g T cs := ⟨h, fun e => by have := hA g e; omega⟩
theorem FB.at_ {g i : Nat} {T : TypeId} {cs : List Value} {v : Value} (h : FB W gs g T cs) (hi : cs[i]? = some v) : W.cell? ⟨g, i, none⟩ = some v := h.blk.at_ hi
end
end Go.Proofs.YtejbljopighenaaDoor
namespace Go.Proofs.YtejbljopighenaaDoor
open Go.ChangeShapes Go.WideShapes Go.ChangeAt Go.RowKit
section
variable {H : Type} {enc : TypeId × Value → H} {W : World}
theorem rdD_elts {α : Type} (dE : α → List D) (s : Nat) (hd : ∀ a, (dE a).length = s) {P : Nat → α → Prop} {F : Nat → Prop} {b off : Nat} : ∀ (n : Nat), (∀ i, i < n → ∃ a es, P i a ∧ RdL W F (dE a) es ∧ ∀ j u, es[j]? = some u → W.cell? ⟨b, off + i * s + j, none⟩ = some u) →
    ∃ (l : List α) (cs : List Value), l.length = n ∧ (∀ i a, l[i]? = some a → P i a) ∧ RdL W F (l.flatMap dE) cs ∧ ∀ j u, cs[j]? = some u → W.cell? ⟨b, off + j, none⟩ = some u
  | 0, _ => ⟨[], [], rfl, (fun i a h => by simp at h), RdL.nil_, fun j u h => by simp at h⟩
  | n + 1, h => by
    obtain ⟨l, cs, h1, h2, h3, h4⟩ := rdD_elts dE s hd n (fun i hi => h i (by omega))
    obtain ⟨a, es, k1, k2, k3⟩ := h n (by omega)
    have hl : cs.length = n * s := by
      rw [h3.len, ← h1]
      clear h1 h2 h3 h4
      induction l with
      | nil => simp
      | cons x l ih => rw [List.flatMap_cons, List.length_append, ih, hd, List.length_cons, Nat.succ_mul]; omega
    refine ⟨l ++ [a], cs ++ es, by simp [h1], fun i x hx => ?_, by rw [List.flatMap_append]; simp only [List.flatMap_cons, List.flatMap_nil, List.append_nil]; exact h3.app k2, fun j u hu => ?_⟩
    · by_cases hi : i < n
      · rw [List.getElem?_append_left (by omega)] at hx; exact h2 i x hx
      · have hin : i = n := by
          have := (List.getElem?_eq_some_iff.1 hx).1
          simp [h1] at this; omega
        subst hin
        rw [List.getElem?_append_right (by omega), h1, Nat.sub_self] at hx
        simp at hx
        subst hx
        exact k1
    · by_cases hj : j < n * s
      · rw [List.getElem?_append_left (by omega)] at hu; exact h4 j u hu
      · rw [List.getElem?_append_right (by omega), hl] at hu
        have := k3 _ u hu
        rw [show off + n * s + (j - n * s) = off + j by omega] at this
        exact this
/-- A row whose elements read as data. -/
theorem trod_elts {α : Type} (dE : α → List D) (s : Nat) (hd : ∀ a, (dE a).length = s) (hs : 0 < s) {P : DataW H → α → Prop} {ts te : TypeId} (hT : Tryd.prog.underlying ts = some (.slice te)) (hc : Program.cellsOf Tryd.prog te = s) {fuel : Nat} {cs : List Value} {x : DataW H × List MemPlace}
    (hf : DataW.trod enc Tryd.prog W 0 (fun _ => true) true fuel ts cs = some x) (hlt : ∀ q ∈ x.2, q.block < W.heap.size)
    (he : ∀ m cs' y, m < fuel → DataW.trod enc Tryd.prog W 0 (fun _ => true) true m te cs' = some y → (∀ q ∈ y.2, q.block < W.heap.size) → ∃ a, P y.1 a ∧ RdL W (Fd W []) (dE a) cs') :
    ∃ (A : Option Addr) (n c : Nat) (l : List α) (ds rest : List (DataW H)), cs = [.slice A n c] ∧ (x.1 = .slice ds rest ∨ (x.1 = .nil ∧ ds = [])) ∧ l.length = n ∧ l.length = ds.length ∧ (∀ (i : Nat) (a : α) (d : DataW H), l[i]? = some a → ds[i]? = some d → P d a) ∧ RdD W (Fd W []) (.sl s n (l.flatMap dE)) (.slice A n c) := by
  rcases DataW.trod_slice hT hf with ⟨hcs, hx⟩ | ⟨a, l, c, elems, rest, m, hm0, hcs, hx, _, hl, hm, hlen, hel, _⟩
  · subst hx
    exact ⟨none, 0, 0, [], [], [], hcs, .inr ⟨rfl, rfl⟩, rfl, rfl, (fun i a d h => by cases h), RdD.nil_ _ _⟩
  · subst hx
    dsimp only at hlt ⊢
    have each : ∀ i, i < l → ∃ (u : α) (es : List Value), (∀ y, elems[i]? = some y → P y.1 u) ∧ RdL W (Fd W []) (dE u) es ∧ es.length = s ∧ ∀ j, j < s → W.cell? ((a.add (i * s)).add j) = es[j]? := by
      intro i hi
      have hE := hel i hi
      rw [hc, List.getElem?_eq_getElem (by omega), Option.bind_eq_some_iff] at hE
      obtain ⟨cs', hcs', hy⟩ := hE
      obtain ⟨u, h1, h2⟩ := he m cs' _ (by omega) hy (fun q hq => hlt q (List.mem_append_right _ (List.mem_flatMap.2 ⟨elems[i]'(by omega), List.mem_append_left _ (List.getElem_mem _), hq⟩)))
      obtain ⟨_, hc1, hc2⟩ := World.cells?_some hcs'
      have hcl : cs'.length = s := by rw [h2.len, hd]
      refine ⟨u, cs', fun y hy2 => ?_, h2, hcl, fun j hj => ?_⟩
      · rw [List.getElem?_eq_getElem (by omega)] at hy2
        injection hy2 with hy2
        subst hy2
        exact h1
      · exact hc2 j (by omega)
    by_cases h0 : l = 0
    · subst h0
      refine ⟨some a, 0, c, [], [], rest.map (·.1), hcs, .inl ?_, rfl, rfl, (fun i a d h => by cases h), RdD.nil_ _ _⟩
      rw [List.eq_nil_of_length_eq_zero hlen]; rfl
    · obtain ⟨b, off, spot⟩ := a
      obtain ⟨u0, es0, _, k2, k3, k4⟩ := each 0 (by omega)
      have hspot : spot = none := by
        have := k4 0 hs
        rw [List.getElem?_eq_getElem (by omega)] at this
        simpa [Addr.add] using World.cell?_spot this
      subst hspot
      have hbW : b < W.heap.size := hlt (.cell b off) (List.mem_append_left _ (MemPlace.mem_row.2 ⟨0, by rw [hc, hlen]; exact Nat.mul_pos (by omega) hs, by simp⟩))
      obtain ⟨ul, us, e1, e2, e3, e4⟩ := rdD_elts (P := fun i u => ∀ y, elems[i]? = some y → P y.1 u) (F := Fd W []) (b := b) (off := off) dE s hd l (fun i hi => by
        obtain ⟨u, es, f1, f2, f3, f4⟩ := each i hi
        refine ⟨u, es, f1, f2, fun j v hv => ?_⟩
        have := f4 j (by have := (List.getElem?_eq_some_iff.1 hv).1; omega)
        rw [Addr.add_lit, Addr.add_lit, hv] at this
        exact this)
      refine ⟨some ⟨b, off, none⟩, l, c, ul, elems.map (·.1), rest.map (·.1), hcs, .inl rfl, e1, by simp [e1, hlen], fun i u d h1 h2 => ?_, ?_⟩
      · rw [List.getElem?_map] at h2
        obtain ⟨y, hy, rfl⟩ := Option.map_eq_some_iff.1 h2
        exact e2 i u h1 y hy
      · refine RdD.sl_iff.2 ⟨_, c, us, rfl, hl, ?_, e3, fun _ => ⟨b, off, rfl, ⟨hbW, by simp⟩, e4⟩⟩
        rw [← e1]
        clear e1 e2 e3 e4
        induction ul with
        | nil => simp
        | cons x ul ih => rw [List.flatMap_cons, List.length_append, ih, hd, List.length_cons, Nat.succ_mul]; omega
theorem bulk_sums {α : Type} (f : α → Nat) : ∀ (ll : List α) (ds : List (DataW H)), ll.length = ds.length → (∀ (i : Nat) (l : α) (d : DataW H), ll[i]? = some l → ds[i]? = some d → f l ≤ Rows.uptoBulk d) → (ll.map f).sum ≤ Rows.uptoBulkAll ds
  | [], ds, h, _ => Nat.zero_le _
  | l :: ll, [], h, _ => by simp at h
  | l :: ll, d :: ds, h, k => by
    have h0 := k 0 l d rfl rfl
    have := bulk_sums f ll ds (by simpa using h) (fun i l' d' h1 h2 => k (i + 1) l' d' (by simpa using h1) (by simpa using h2))
    show _ ≤ Rows.uptoBulk d + Rows.uptoBulkAll ds
    rw [List.map_cons, List.sum_cons]; omega
set_option maxRecDepth 100000 in
theorem bytes_trod {fuel : Nat} {cs : List Value} {x : DataW H × List MemPlace} (hf : DataW.trod enc Tryd.prog W 0 (fun _ => true) true fuel 22 cs = some x) (hlt : ∀ q ∈ x.2, q.block < W.heap.size) :
    ∃ l u, cs = [u] ∧ RdD W (Fd W []) (dB l) u ∧ l.length + 1 ≤ Rows.uptoBulk x.1 := by
  obtain ⟨A, n, c, l, rfl, hr, hc, _, hb, _⟩ := rd_trod (d := x.1) (p := x.2) hf hlt
  exact ⟨l, _, rfl, RdD.ofbytes hr hc (fun b off _ h => ⟨h, by simp⟩), hb⟩
theorem list2 {α : Type} {l : List α} (h : l.length = 2) : ∃ a b, l = [a, b] := by
  match l, h with
  | [a, b], _ => exact ⟨a, b, rfl⟩
theorem c1int : Program.cellsOf Tryd.prog 3 = 1 := by kernel_rfl
theorem c1bytes : Program.cellsOf Tryd.prog 22 = 1 := by kernel_rfl
end
end Go.Proofs.YtejbljopighenaaDoor
namespace Go.Proofs.YtejbljopighenaaDoor
open Go.RowKit

theorem mixed : Tryd.prog.follows .mixedOrders = true := by kernel_rfl
theorem slb : slOf Tryd.prog 22 = some (5, 1) := by kernel_rfl
theorem agg_u8 : aggOf Tryd.prog 5 = some (false, 1) := by kernel_rfl
theorem agg_b : aggOf Tryd.prog 22 = some (false, 1) := by kernel_rfl
theorem agg_int : aggOf Tryd.prog 3 = some (false, 1) := by kernel_rfl

/-- Bytes that are cut out. -/
theorem Rd.sl {w : World} {B n i j m : Nat} {A : Option Addr} {l : List UInt8} (h : Rd w B A n l) (hij : i + j ≤ n) (hm : i + j ≤ m) : Rd w B (slA A m i 1) j ((l.drop i).take j) := by
  have e : slA A m i 1 = if m = i then A else A.map (·.add i) := by unfold slA; rw [Nat.mul_one]
  rw [e]
  by_cases hmi : m = i
  · have hj : j = 0 := by omega
    subst hj
    rw [List.take_zero]
    exact ⟨rfl, fun h => absurd h (by omega)⟩
  · rw [if_neg hmi]
    have h2 := Rd.mid (c := n + i + 1) h hij (by omega)
    rw [if_neg (by omega)] at h2
    exact h2
/-- Bytes that are cut out, to the end. -/
theorem Rd.sle {w : World} {B n i m : Nat} {A : Option Addr} {l : List UInt8} (h : Rd w B A n l) (hij : i ≤ n) (hm : n ≤ m) : Rd w B (slA A m i 1) (n - i) (l.drop i) := by
  have := h.sl (i := i) (j := n - i) (m := m) (by omega) (by omega)
  rw [List.take_of_length_le (by rw [List.length_drop, h.len]; exact Nat.le_refl _)] at this
  exact this
section
variable {E : Env} {d : Option Nat} {ty : TypeId} {p : String} {af : Array Edge} {g : Option (Nat × Bool)} {x y z : Operand} {kw : Value → World → Prop} {w : World} {S : World → Prop} {k : Value → Prop}
/-- append of bytes. -/
theorem v_app {base : Nat} {A : Option Addr} {n c : Nat} {l : List UInt8} (hx : val E x = .slice A n c) (hown : Own w base A n c l) {B : Nat} {A2 : Option Addr} {m c2 : Nat} {l2 : List UInt8} (hy : val E y = .slice A2 m c2) (hr : Rd w B A2 m l2) (hsz : n + m ≤ 1000000000000) (hbase : base ≤ w.heap.size)
    (h : ∀ A' c' w', Own w' base A' (n + m) c' (l ++ l2) → w.grownBy w' (Value.slice A n c).ownBlock → (A' = none ↔ A = none ∧ m = 0) → kw (.slice A' (n + m) c') w') :
    VVal Tryd.prog E { dst := d, op := .call { callee := .builtin .append, args := #[x, y], argTypes := #[22, 22] }, type := ty, pos := p, after := af, guard := g } w kw := by
  obtain ⟨A', c', w', hrun, h2, h3, _, h5⟩ := run_app (c2 := c2) hown hr hsz hbase ty
  refine vv (v := .slice A' (n + m) c') (w' := w') ?_ (h A' c' w' h2 h3 h5)
  simp [execOp, resolve, invoke, builtin, hx, hy, hrun]
/-- string(b) -/
theorem v_str {B : Nat} {A : Option Addr} {n c : Nat} {l : List UInt8} (hx : val E x = .slice A n c) (hr : Rd w B A n l) (h : kw (.string (sb l)) w) :
    VVal Tryd.prog E { dst := d, op := .convert 22 9 x, type := ty, pos := p, after := af, guard := g } w kw :=
  vv (by simp only [execOp, hx, Sem.run_bind, run_str hr c, Result.andThen_ok, Sem.run_pure]; rfl) h
theorem sb_inj {a b : List UInt8} : sb a = sb b ↔ a = b := by
  constructor
  · intro h
    have := congrArg (fun x : ByteArray => x.data.toList) h
    simpa [sb] using this
  · intro h; rw [h]
end
end Go.Proofs.YtejbljopighenaaDoor
namespace Go.Proofs.YtejbljopighenaaDoor
open Go.RowKit

theorem u_str : Tryd.prog.underlying 9 = some .string := by kernel_rfl
theorem agg_str : aggOf Tryd.prog 9 = some (false, 1) := by kernel_rfl
theorem agg_val : aggOf Tryd.prog 61 = some (true, 3) := by kernel_rfl
theorem slv : slOf Tryd.prog 59 = some (61, 3) := by kernel_rfl
theorem fv0 : fieldOff Tryd.prog 61 0 = some 0 := by kernel_rfl
theorem fv1 : fieldOff Tryd.prog 61 1 = some 1 := by kernel_rfl
theorem fv2 : fieldOff Tryd.prog 61 2 = some 2 := by kernel_rfl
structure Val where
  k : Int
  n : Int
  s : List UInt8
def vc (v : Val) : List Value := [.int .i64 v.k, .int .i64 v.n, .string (sb v.s)]
def vv_ (v : Val) : Value := .agg (vc v).toArray
def vcs (l : List Val) : List Value := l.flatMap vc
theorem vc_len (v : Val) : (vc v).length = 3 := rfl
theorem vcs_len (l : List Val) : (vcs l).length = l.length * 3 := by
  induction l with
  | nil => rfl
  | cons v l ih => simp only [vcs, List.flatMap_cons, List.length_append, vc_len, List.length_cons] at ih ⊢; omega
theorem vcs_at : ∀ (l : List Val) (i j : Nat) (v : Val), l[i]? = some v → j < 3 → (vcs l)[i * 3 + j]? = (vc v)[j]?
  | [], i, j, v, h, _ => by simp at h
  | u :: l, 0, j, v, h, hj => by
    simp at h
    subst h
    simp only [vcs, List.flatMap_cons, Nat.zero_mul, Nat.zero_add]
    rw [List.getElem?_append_left (by rw [vc_len]; exact hj)]
  | u :: l, i + 1, j, v, h, hj => by
    have ih := vcs_at l i j v (by simpa using h) hj
    simp only [vcs, List.flatMap_cons] at ih ⊢
    rw [List.getElem?_append_right (by rw [vc_len]; omega), vc_len, show (i + 1) * 3 + j - 3 = i * 3 + j by omega]
    exact ih
theorem vcs_append (l m : List Val) : vcs (l ++ m) = vcs l ++ vcs m := by simp [vcs]
theorem vcs_one (l : List Val) : ∀ u ∈ vcs l, u.oneCell' = true := by
  intro u hu
  obtain ⟨v, _, hv⟩ := List.mem_flatMap.1 hu
  simp [vc] at hv
  rcases hv with rfl | rfl | rfl <;> rfl
/-- A slice of n values that reads as l, below block B. -/
def RdV (w : World) (B : Nat) (A : Option Addr) (n : Nat) (l : List Val) : Prop := Reads w B 3 A n (vcs l)
section
variable {w w' : World} {B B' n : Nat} {A : Option Addr} {l : List Val}
theorem RdV.len (h : RdV w B A n l) : l.length = n := by have := h.1; rw [vcs_len] at this; omega
theorem RdV.nil_ : RdV w B A 0 [] := Reads.none_
theorem RdV.keep (h : RdV w B A n l) (hk : ∀ p : Addr, p.block < B → w'.cell? p = w.cell? p) : RdV w' B A n l := Reads.keep h hk
theorem RdV.more (h : RdV w B A n l) (hB : B ≤ B') : RdV w B' A n l := Reads.more h hB
theorem RdV.below (h : RdV w B A n l) (hb : Below B w w') : RdV w' B A n l := Reads.below h hb
theorem RdV.up (h : RdV w w.heap.size A n l) (hb : Below w.heap.size w w') : RdV w' w'.heap.size A n l := (h.below hb).more hb.size
theorem RdV.drew (h : RdV w B A n l) : RdV w.drew B A n l := h
/-- The i-th value's cells. -/
theorem RdV.at_ (h : RdV w B A n l) {i : Nat} {v : Val} (hi : l[i]? = some v) : ∃ ad, A = some ad ∧ ad.block < B ∧ ad.spot = none ∧ ∀ j u, (vc v)[j]? = some u → w.cell? ((ad.add (i * 3)).add j) = some u := by
  have hil : i < l.length := (List.getElem?_eq_some_iff.1 hi).1
  obtain ⟨b, off, rfl, hb, hc⟩ := h.2 (by rw [← h.len]; omega)
  refine ⟨_, rfl, hb, rfl, fun j u hu => ?_⟩
  rw [Addr.add_lit, Addr.add_lit, Nat.add_assoc]
  refine hc _ u ?_
  have hj : j < 3 := by
    have := (List.getElem?_eq_some_iff.1 hu).1
    rw [vc_len] at this; exact this
  rw [vcs_at l i j v hi hj]; exact hu
end

/-- Is a byte one that is seen? -/
def vis (c : UInt8) : Bool := decide (32 ≤ (c.toNat : Int)) && decide ((c.toNat : Int) ≤ 126)
/-- May a value be? -/
def rightB (v : Val) : Bool :=
  if v.k = 1 then decide (v.n = 0) && v.s.isEmpty
  else if v.k = 2 then (decide (v.n = 0) || decide (v.n = 1)) && v.s.isEmpty
  else if v.k = 3 then v.s.isEmpty
  else if v.k = 4 then decide (v.n = 0) && (decide ((v.s.length : Int) ≤ 1000) && v.s.all vis)
  else if v.k = 5 then decide (v.n = 0) && decide ((v.s.length : Int) ≤ 1000)
  else false
def chkE (v : Val) : Int := if rightB v then 0 else 2
theorem sb_size (l : List UInt8) : (sb l).size = l.length := by simp [sb, ByteArray.size]
theorem sb_get (l : List UInt8) (i : Nat) : (sb l)[i]? = l[i]? := by
  by_cases h : i < l.length
  · rw [getElem?_pos (sb l) i (by show i < (sb l).size; rw [sb_size]; exact h), List.getElem?_eq_getElem h]; rfl
  · rw [getElem?_neg (sb l) i (by show ¬ i < (sb l).size; rw [sb_size]; exact h), List.getElem?_eq_none (by omega)]
end Go.Proofs.YtejbljopighenaaDoor
namespace Go.Proofs.YtejbljopighenaaDoor

/-- A number's bytes: seven bits each, the lowest first (so many at most as the first argument says). -/
def putF : Nat → Nat → List UInt8
  | 0, _ => []
  | f + 1, n => if n < 128 then [b8 (n : Int)] else b8 ((n % 128 + 128 : Nat) : Int) :: putF f (n / 128)
def putN (n : Nat) : List UInt8 := putF (n + 1) n
theorem putF_any : ∀ (f g n : Nat), n < f → n < g → putF f n = putF g n
  | f + 1, g + 1, n, hf, hg => by
    unfold putF
    by_cases h : n < 128
    · rw [if_pos h, if_pos h]
    · rw [if_neg h, if_neg h, putF_any f g (n / 128) (by omega) (by omega)]
theorem putN_lt {n : Nat} (h : n < 128) : putN n = [b8 (n : Int)] := by unfold putN putF; rw [if_pos h]
theorem putN_ge {n : Nat} (h : ¬ n < 128) : putN n = b8 ((n % 128 + 128 : Nat) : Int) :: putN (n / 128) := by
  unfold putN; rw [putF, if_neg h, putF_any n (n / 128 + 1) (n / 128) (by omega) (by omega)]
theorem putN_pos (n : Nat) : 1 ≤ (putN n).length := by
  by_cases h : n < 128
  · rw [putN_lt h]; simp
  · rw [putN_ge h]; simp
theorem putN_len : ∀ (k n : Nat), n < 128 ^ (k + 1) → (putN n).length ≤ k + 1
  | 0, n, h => by rw [putN_lt (by simpa using h)]; simp
  | k + 1, n, h => by
    by_cases h1 : n < 128
    · rw [putN_lt h1]; simp
    · rw [putN_ge h1, List.length_cons]
      have := putN_len k (n / 128) (by rw [Nat.div_lt_iff_lt_mul (by omega)]; rw [Nat.pow_succ] at h; exact h)
      omega
theorem putN_len10 {n : Nat} (h : n < 18446744073709551616) : (putN n).length ≤ 10 := putN_len 9 n (Nat.lt_of_lt_of_le h (by decide))
/-- The number that stands at the head of some bytes, at the i-th of which we are: the number, how many bytes, an error. -/
def getF : List UInt8 → Nat → Nat → Nat × Nat × Int
  | [], _, _ => (0, 0, 10)
  | c :: l, i, acc => if (i = 9 ∧ 1 < c.toNat) ∨ (c.toNat = 0 ∧ 0 < i) then (0, 0, 11) else if c.toNat < 128 then (acc + c.toNat * 128 ^ i, i + 1, 0) else getF l (i + 1) (acc + (c.toNat - 128) * 128 ^ i)

theorem getF_step (l : List UInt8) (a k acc : Nat) (h : a + k < l.length) : getF (l.drop (a + k)) k acc =
    if (k = 9 ∧ 1 < at8 l (a + k)) ∨ (at8 l (a + k) = 0 ∧ 0 < k) then (0, 0, 11) else if at8 l (a + k) < 128 then (acc + (at8 l (a + k)).toNat * 128 ^ k, k + 1, 0) else getF (l.drop (a + (k + 1))) (k + 1) (acc + ((at8 l (a + k)).toNat - 128) * 128 ^ k) := by
  rw [List.drop_eq_getElem_cons h, getF, at8_of l _ h, Int.toNat_natCast]
  have e1 : ((k = 9 ∧ 1 < l[a + k].toNat) ∨ (l[a + k].toNat = 0 ∧ 0 < k)) ↔ ((k = 9 ∧ (1 : Int) < (l[a + k].toNat : Int)) ∨ ((l[a + k].toNat : Int) = 0 ∧ 0 < k)) := by omega
  have e2 : (l[a + k].toNat < 128) ↔ ((l[a + k].toNat : Int) < 128) := by omega
  simp only [e1, e2]
  rfl
theorem getF_end (l : List UInt8) (a k acc : Nat) (h : l.length ≤ a + k) : getF (l.drop (a + k)) k acc = (0, 0, 10) := by
  rw [List.drop_eq_nil_of_le h]; rfl

/-- What is read is a number of 64 bits, no more than there is, and written as the bytes that stand there. -/
theorem getF_ok : ∀ (l : List UInt8) (i acc n t : Nat), acc < 128 ^ i → i ≤ 9 → getF l i acc = (n, t, 0) → ∃ m, n = acc + m * 128 ^ i ∧ n < 18446744073709551616 ∧ t = i + (putN m).length ∧ t ≤ i + l.length ∧ l.take (putN m).length = putN m ∧ (0 < i → 0 < m)
  | [], i, acc, n, t, _, _, h => by simp [getF] at h
  | c :: l, i, acc, n, t, ha, hi, h => by
    rw [getF] at h
    split at h
    · simp at h
    · rename_i hc
      have hc1 : ¬ (i = 9 ∧ 1 < c.toNat) := fun e => hc (.inl e)
      have hc2 : ¬ (c.toNat = 0 ∧ 0 < i) := fun e => hc (.inr e)
      have c256 := c.toNat_lt
      split at h
      · rename_i hlt
        simp only [Prod.mk.injEq, and_true] at h
        obtain ⟨rfl, rfl⟩ := h
        have e : putN c.toNat = [c] := by rw [putN_lt hlt, b8_nat]
        refine ⟨c.toNat, rfl, ?_, by rw [e]; rfl, by simp, by rw [e]; rfl, by omega⟩
        by_cases h9 : i = 9
        · subst h9
          have : c.toNat ≤ 1 := by omega
          have hp : (128 : Nat) ^ 9 = 9223372036854775808 := by decide
          rw [hp] at ha ⊢
          have : c.toNat * 9223372036854775808 ≤ 1 * 9223372036854775808 := Nat.mul_le_mul_right _ this
          omega
        · have h1 : c.toNat * 128 ^ i ≤ 127 * 128 ^ i := Nat.mul_le_mul_right _ (by omega)
          have h2 : 128 ^ (i + 1) ≤ 128 ^ 9 := Nat.pow_le_pow_right (by omega) (by omega)
          have hp : (128 : Nat) ^ 9 = 9223372036854775808 := by decide
          rw [hp, Nat.pow_succ] at h2
          omega
      · rename_i hge
        have hi8 : i ≤ 8 := by omega
        have hpow : 128 ^ (i + 1) = 128 ^ i * 128 := Nat.pow_succ ..
        have h1 : (c.toNat - 128) * 128 ^ i ≤ 127 * 128 ^ i := Nat.mul_le_mul_right _ (by omega)
        obtain ⟨m, hn, hlt, ht, hl, htk, hm⟩ := getF_ok l (i + 1) _ n t (by rw [hpow]; omega) (by omega) h
        have hm0 := hm (by omega)
        have e : putN (c.toNat - 128 + 128 * m) = c :: putN m := by
          rw [putN_ge (by omega)]
          rw [show (c.toNat - 128 + 128 * m) % 128 + 128 = c.toNat by omega, show (c.toNat - 128 + 128 * m) / 128 = m by omega, b8_nat]
        refine ⟨c.toNat - 128 + 128 * m, ?_, hlt, by rw [e, ht, List.length_cons]; omega, by rw [List.length_cons]; omega, by rw [e, List.length_cons, List.take_succ_cons, htk], by omega⟩
        rw [hn, hpow, Nat.add_mul, Nat.add_assoc, Nat.mul_comm (128 ^ i) 128, ← Nat.mul_assoc, Nat.mul_comm m 128]
/-- A number's bytes are read as it. -/
theorem getF_put : ∀ (f m i acc : Nat) (r : List UInt8), m < f → (0 < i → 0 < m) → i ≤ 9 → m * 128 ^ i < 18446744073709551616 → getF (putN m ++ r) i acc = (acc + m * 128 ^ i, i + (putN m).length, 0)
  | f + 1, m, i, acc, r, hf, h0, hi, hm => by
    have hb : ∀ x : Nat, x < 256 → (b8 (x : Int)).toNat = x := fun x hx => by unfold b8; rw [UInt8.toNat_ofNat']; omega
    by_cases h : m < 128
    · rw [putN_lt h, List.singleton_append, getF, hb m (by omega)]
      have h9 : ¬ (i = 9 ∧ 1 < m) := by
        rintro ⟨rfl, h1⟩
        have hp : (128 : Nat) ^ 9 = 9223372036854775808 := by decide
        rw [hp] at hm; omega
      rw [if_neg (by omega), if_pos h]
      rfl
    · rw [putN_ge h, List.cons_append, getF, hb _ (by omega)]
      have h9 : i ≤ 8 := by
        by_cases e : i = 9
        · subst e
          have hp : (128 : Nat) ^ 9 = 9223372036854775808 := by decide
          rw [hp] at hm; omega
        · omega
      rw [if_neg (by omega), if_neg (by omega)]
      have hd : m % 128 + m / 128 * 128 = m := by omega
      have hpow : 128 ^ (i + 1) = 128 ^ i * 128 := Nat.pow_succ ..
      have hle : m / 128 * 128 ^ (i + 1) ≤ m * 128 ^ i := by
        rw [hpow, Nat.mul_comm (128 ^ i) 128, ← Nat.mul_assoc]
        exact Nat.mul_le_mul_right _ (by omega)
      rw [getF_put f (m / 128) (i + 1) _ r (by omega) (by omega) (by omega) (by omega)]
      have e : m % 128 + 128 - 128 = m % 128 := by omega
      rw [e, List.length_cons]
      refine Prod.ext ?_ (Prod.ext ?_ rfl)
      · show acc + m % 128 * 128 ^ i + m / 128 * 128 ^ (i + 1) = acc + m * 128 ^ i
        rw [hpow, Nat.mul_comm (128 ^ i) 128, ← Nat.mul_assoc, Nat.add_assoc, ← Nat.add_mul, hd]
      · show i + 1 + (putN (m / 128)).length = i + ((putN (m / 128)).length + 1)
        omega
/-- An error's number is one of these. -/
theorem getF_err : ∀ (l : List UInt8) (i acc : Nat), (getF l i acc).2.2 = 0 ∨ ((getF l i acc).2.2 = 10 ∧ (getF l i acc).1 = 0) ∨ ((getF l i acc).2.2 = 11 ∧ (getF l i acc).1 = 0)
  | [], i, acc => by simp [getF]
  | c :: l, i, acc => by
    unfold getF
    split
    · simp
    · split
      · simp
      · exact getF_err l _ _

/-- Get: the error, the number, the place behind it. -/
def gE (l : List UInt8) (at_ : Int) : Int := if at_ < 0 ∨ (l.length : Int) < at_ then 2 else (getF (l.drop at_.toNat) 0 0).2.2
def gN (l : List UInt8) (at_ : Int) : Int := if at_ < 0 ∨ (l.length : Int) < at_ then 0 else ((getF (l.drop at_.toNat) 0 0).1 : Int)
def gTo (l : List UInt8) (at_ : Int) : Int := if gE l at_ = 0 then at_ + ((getF (l.drop at_.toNat) 0 0).2.1 : Int) else 0
theorem g_out {l : List UInt8} {a : Int} (h : a < 0 ∨ (l.length : Int) < a) : gE l a = 2 ∧ gN l a = 0 ∧ gTo l a = 0 := by
  have e : gE l a = 2 := by unfold gE; rw [if_pos h]
  exact ⟨e, by unfold gN; rw [if_pos h], by unfold gTo; rw [e]; rfl⟩
theorem g_in {l : List UInt8} {a : Nat} (h : a ≤ l.length) : gE l (a : Int) = (getF (l.drop a) 0 0).2.2 ∧ gN l (a : Int) = ((getF (l.drop a) 0 0).1 : Int) := by
  have hn : ¬ ((a : Int) < 0 ∨ (l.length : Int) < (a : Int)) := by omega
  exact ⟨by unfold gE; rw [if_neg hn]; rfl, by unfold gN; rw [if_neg hn]; rfl⟩
theorem g_fail {l : List UInt8} {a : Nat} {x : Int} (h : a ≤ l.length) (hx : x ≠ 0) (k : getF (l.drop a) 0 0 = (0, 0, x)) : gE l (a : Int) = x ∧ gN l (a : Int) = 0 ∧ gTo l (a : Int) = 0 := by
  obtain ⟨h1, h2⟩ := g_in h
  rw [k] at h1 h2
  exact ⟨h1, h2, by unfold gTo; rw [h1]; rw [if_neg hx]⟩
theorem g_done {l : List UInt8} {a n t : Nat} (h : a ≤ l.length) (k : getF (l.drop a) 0 0 = (n, t, 0)) : gE l (a : Int) = 0 ∧ gN l (a : Int) = (n : Int) ∧ gTo l (a : Int) = ((a + t : Nat) : Int) := by
  obtain ⟨h1, h2⟩ := g_in h
  rw [k] at h1 h2
  refine ⟨h1, h2, ?_⟩
  unfold gTo; rw [h1, if_pos rfl, Int.toNat_natCast, k]; simp
theorem gN_nonneg (l : List UInt8) (a : Int) : 0 ≤ gN l a := by unfold gN; split <;> omega
/-- What has been read, in full. -/
theorem g_ok {l : List UInt8} {a : Int} (h : gE l a = 0) : ∃ (x t : Nat), a = (x : Int) ∧ x ≤ l.length ∧ t = (putN (gN l a).toNat).length ∧ gTo l a = ((x + t : Nat) : Int) ∧ 1 ≤ t ∧ x + t ≤ l.length ∧ (l.drop x).take t = putN (gN l a).toNat ∧ gN l a < 18446744073709551616 := by
  by_cases ho : a < 0 ∨ (l.length : Int) < a
  · rw [(g_out ho).1] at h; cases h
  · obtain ⟨x, rfl⟩ := Int.eq_ofNat_of_zero_le (show 0 ≤ a by omega)
    have hx : x ≤ l.length := by omega
    obtain ⟨h1, h2⟩ := g_in hx
    rw [h] at h1
    obtain ⟨n, t, hk⟩ : ∃ n t, getF (l.drop x) 0 0 = (n, t, 0) := ⟨(getF (l.drop x) 0 0).1, (getF (l.drop x) 0 0).2.1, Prod.ext rfl (Prod.ext rfl h1.symm)⟩
    obtain ⟨d1, d2, d3⟩ := g_done hx hk
    obtain ⟨m, hn, hlt, ht, hl, htk, _⟩ := getF_ok (l.drop x) 0 0 n t (by simp) (by omega) hk
    have hmn : m = n := by simpa using hn.symm
    subst hmn
    have hp := putN_pos m
    rw [List.length_drop] at hl
    refine ⟨x, t, rfl, hx, ?_, d3, by omega, by omega, ?_, by rw [d2]; omega⟩
    · rw [d2, Int.toNat_natCast]; omega
    · rw [d2, Int.toNat_natCast]; rw [show t = (putN m).length by omega]; exact htk
theorem gN_lt (l : List UInt8) (a : Int) : gN l a < 18446744073709551616 := by
  by_cases h : gE l a = 0
  · obtain ⟨_, _, _, _, _, _, _, _, _, hlt⟩ := g_ok h; exact hlt
  · by_cases ho : a < 0 ∨ (l.length : Int) < a
    · rw [(g_out ho).2.1]; omega
    · obtain ⟨x, rfl⟩ := Int.eq_ofNat_of_zero_le (show 0 ≤ a by omega)
      obtain ⟨h1, h2⟩ := g_in (l := l) (a := x) (by omega)
      rcases getF_err (l.drop x) 0 0 with e | e | e
      · exact absurd (h1.trans e) h
      · rw [h2, e.2]; omega
      · rw [h2, e.2]; omega
/-- Bytes behind others: what stands there is read. -/
theorem g_put (p : List UInt8) (n : Nat) (r : List UInt8) (h : n < 18446744073709551616) : gE (p ++ (putN n ++ r)) (p.length : Int) = 0 ∧ gN (p ++ (putN n ++ r)) (p.length : Int) = (n : Int) ∧ gTo (p ++ (putN n ++ r)) (p.length : Int) = ((p.length + (putN n).length : Nat) : Int) := by
  have e := getF_put (n + 1) n 0 0 r (by omega) (by omega) (by omega) (by simpa using h)
  rw [show 0 + n * 128 ^ 0 = n by simp, Nat.zero_add] at e
  exact g_done (by simp) (by rw [List.drop_left]; exact e)

/-- PutInt: a number with a sign. -/
def zig (n : Int) : Nat := if n < 0 then (-2 * n - 1).toNat else (2 * n).toNat
/-- GetInt: back. -/
def zag (n : Int) : Int := if n % 2 = 1 then -(n / 2) - 1 else n / 2
theorem zag_zig (n : Int) : zag (zig n : Int) = n := by
  unfold zig zag; split <;> split <;> omega
theorem zig_zag (n : Nat) : zig (zag (n : Int)) = n := by
  unfold zag; split <;> unfold zig <;> split <;> omega
theorem zig_lt {n : Int} (h0 : -9223372036854775808 ≤ n) (h1 : n ≤ 9223372036854775807) : zig n < 18446744073709551616 := by unfold zig; split <;> omega

/-- GetBytes: the error, the bytes, the place behind. -/
def gbE (l : List UInt8) (a : Int) : Int := if gE l a ≠ 0 then gE l a else if 1048576 < gN l a then 3 else if (l.length : Int) - gTo l a < gN l a then 10 else 0
def gbL (l : List UInt8) (a : Int) : List UInt8 := if gbE l a = 0 then (l.drop (gTo l a).toNat).take (gN l a).toNat else []
def gbTo (l : List UInt8) (a : Int) : Int := if gbE l a = 0 then gTo l a + gN l a else 0
theorem gb_err1 {l : List UInt8} {a : Int} (h : gE l a ≠ 0) : gbE l a = gE l a ∧ gbL l a = [] ∧ gbTo l a = 0 := by
  have e : gbE l a = gE l a := by unfold gbE; rw [if_pos h]
  exact ⟨e, by unfold gbL; rw [if_neg (by rw [e]; exact h)], by unfold gbTo; rw [if_neg (by rw [e]; exact h)]⟩
theorem gb_err2 {l : List UInt8} {a : Int} (h : gE l a = 0) (k : 1048576 < gN l a) : gbE l a = 3 ∧ gbL l a = [] ∧ gbTo l a = 0 := by
  have e : gbE l a = 3 := by unfold gbE; rw [if_neg (fun x => x h), if_pos k]
  exact ⟨e, by unfold gbL; rw [if_neg (by rw [e]; decide)], by unfold gbTo; rw [if_neg (by rw [e]; decide)]⟩
theorem gb_err3 {l : List UInt8} {a : Int} (h : gE l a = 0) (k : ¬ 1048576 < gN l a) (m : (l.length : Int) - gTo l a < gN l a) : gbE l a = 10 ∧ gbL l a = [] ∧ gbTo l a = 0 := by
  have e : gbE l a = 10 := by unfold gbE; rw [if_neg (fun x => x h), if_neg k, if_pos m]
  exact ⟨e, by unfold gbL; rw [if_neg (by rw [e]; decide)], by unfold gbTo; rw [if_neg (by rw [e]; decide)]⟩
theorem gb_ok {l : List UInt8} {a : Int} (h : gE l a = 0) (k : ¬ 1048576 < gN l a) (m : ¬ (l.length : Int) - gTo l a < gN l a) : gbE l a = 0 ∧ gbL l a = (l.drop (gTo l a).toNat).take (gN l a).toNat ∧ gbTo l a = gTo l a + gN l a := by
  have e : gbE l a = 0 := by unfold gbE; rw [if_neg (fun x => x h), if_neg k, if_neg m]
  exact ⟨e, by unfold gbL; rw [if_pos e], by unfold gbTo; rw [if_pos e]⟩
theorem gb_cases (l : List UInt8) (a : Int) : (gE l a ≠ 0) ∨ (gE l a = 0 ∧ 1048576 < gN l a) ∨ (gE l a = 0 ∧ ¬ 1048576 < gN l a ∧ (l.length : Int) - gTo l a < gN l a) ∨ (gE l a = 0 ∧ ¬ 1048576 < gN l a ∧ ¬ (l.length : Int) - gTo l a < gN l a) := by
  by_cases h1 : gE l a = 0
  · by_cases h2 : 1048576 < gN l a
    · exact .inr (.inl ⟨h1, h2⟩)
    · by_cases h3 : (l.length : Int) - gTo l a < gN l a
      · exact .inr (.inr (.inl ⟨h1, h2, h3⟩))
      · exact .inr (.inr (.inr ⟨h1, h2, h3⟩))
  · exact .inl h1
/-- PutBytes. -/
def putB (s : List UInt8) : List UInt8 := putN s.length ++ s
end Go.Proofs.YtejbljopighenaaDoor
namespace Go.Proofs.YtejbljopighenaaDoor

/-- A value's bytes. -/
def oneL (v : Val) : List UInt8 :=
  b8 v.k :: (if v.k = 2 then [b8 v.n] else if v.k = 3 then putN (zig v.n) else if v.k = 4 ∨ v.k = 5 then putB v.s else [])
structure VOk (v : Val) : Prop where
  k0 : -9223372036854775808 ≤ v.k ∧ v.k ≤ 9223372036854775807
  n0 : -9223372036854775808 ≤ v.n ∧ v.n ≤ 9223372036854775807
  s0 : v.s.length ≤ 9223372036854775807
def tot (l : List Val) : Nat := (l.map fun v => 40 + v.s.length).sum
theorem tot_cons (v : Val) (l : List Val) : tot (v :: l) = 40 + v.s.length + tot l := by simp [tot]
theorem tot_mem {l : List Val} {v : Val} (h : v ∈ l) : 40 + v.s.length ≤ tot l := by
  induction l with
  | nil => cases h
  | cons u l ih =>
    rw [tot_cons]
    rcases List.mem_cons.1 h with rfl | h
    · omega
    · have := ih h; omega
theorem tot_len (l : List Val) : 40 * l.length ≤ tot l := by
  induction l with
  | nil => simp
  | cons u l ih => rw [tot_cons, List.length_cons]; omega
theorem oneL_len (v : Val) (h : VOk v) : (oneL v).length ≤ 12 + v.s.length := by
  have h3 := putN_len10 (zig_lt h.n0.1 h.n0.2)
  have h4 := putN_len10 (n := v.s.length) (by have := h.s0; omega)
  unfold oneL
  rw [List.length_cons]
  split
  · simp; omega
  · split
    · omega
    · split
      · unfold putB; rw [List.length_append]; omega
      · simp; omega
theorem flat_len : ∀ (l : List Val), (∀ v ∈ l, VOk v) → (l.flatMap oneL).length ≤ tot l
  | [], _ => by simp [tot]
  | v :: l, h => by
    have h1 := oneL_len v (h v (by simp))
    have h2 := flat_len l (fun u hu => h u (by simp [hu]))
    rw [List.flatMap_cons, List.length_append, tot_cons]; omega
theorem flat_take_len (l : List Val) (i : Nat) (h : ∀ v ∈ l, VOk v) : ((l.take i).flatMap oneL).length ≤ tot l := by
  have h1 := flat_len l h
  have : l.flatMap oneL = (l.take i).flatMap oneL ++ (l.drop i).flatMap oneL := by rw [← List.flatMap_append, List.take_append_drop]
  rw [this, List.length_append] at h1
  omega
/-- May all values be? -/
def allR (l : List Val) : Bool := l.all rightB
/-- A row's bytes, and why there are none. -/
def encE (l : List Val) : Int := if allR l then (if 100 < l.length then 3 else 0) else 2
def encB (l : List Val) : List UInt8 := if encE l = 0 then putN l.length ++ l.flatMap oneL else []
theorem allR_take {l : List Val} {i : Nat} {v : Val} (hi : l[i]? = some v) (h : allR (l.take i) = true) : allR (l.take (i + 1)) = rightB v := by
  obtain ⟨hlt, hv⟩ := List.getElem?_eq_some_iff.1 hi
  unfold allR at h ⊢
  rw [List.take_succ_eq_append_getElem hlt, List.all_append, h, hv]; simp
theorem allR_bad {l : List Val} {i : Nat} {v : Val} (hi : l[i]? = some v) (h : rightB v = false) : allR l = false := by
  unfold allR
  rw [List.all_eq_false]
  exact ⟨v, List.mem_of_getElem? hi, by rw [h]; simp⟩
theorem chkE_ne {v : Val} (h : ¬ chkE v = 0) : rightB v = false ∧ chkE v = 2 := by
  unfold chkE at h ⊢
  cases hb : rightB v
  · exact ⟨rfl, rfl⟩
  · rw [hb] at h; exact absurd rfl h
theorem chkE_eq {v : Val} (h : chkE v = 0) : rightB v = true := by
  unfold chkE at h
  cases hb : rightB v
  · rw [hb] at h; cases h
  · rfl
theorem flat_step {l : List Val} {i : Nat} {v : Val} (hi : l[i]? = some v) : (l.take (i + 1)).flatMap oneL = (l.take i).flatMap oneL ++ oneL v := by
  obtain ⟨hlt, hv⟩ := List.getElem?_eq_some_iff.1 hi
  rw [List.take_succ_eq_append_getElem hlt, List.flatMap_append, hv]; simp
end Go.Proofs.YtejbljopighenaaDoor
namespace Go.Proofs.YtejbljopighenaaDoor
open Go.ChangeShapes Go.WideShapes Go.ChangeAt Go.RowKit

section
variable {H : Type} {enc : TypeId × Value → H} {W : World}
theorem cells1 : Program.cellsOf Tryd.prog 3 = 1 := by kernel_rfl
theorem cells1s : Program.cellsOf Tryd.prog 9 = 1 := by kernel_rfl
theorem cells3 : Program.cellsOf Tryd.prog 61 = 3 := by kernel_rfl
set_option maxRecDepth 100000 in
/-- A Value among what came in. -/
theorem val_trod {fuel : Nat} {cs : List Value} {x : DataW H × List MemPlace} (hf : DataW.trod enc Tryd.prog W 0 (fun _ => true) true fuel 61 cs = some x) :
    ∃ v, cs = vc v ∧ VOk v ∧ v.s.length + 4 ≤ Rows.uptoBulk x.1 := by
  obtain ⟨y0, y1, y2, n, rfl, hl, h0, h1, h2⟩ := Go.Deep.trod_struct3 Tryd.underlying61 hf
  rw [cells3] at hl
  obtain ⟨a, b, c, rfl⟩ : ∃ a b c, cs = [a, b, c] := by
    match cs, hl with
    | [a, b, c], _ => exact ⟨a, b, c, rfl⟩
  have e0 : (([a, b, c] : List Value).drop 0).take 1 = [a] := rfl
  have e1 : (([a, b, c] : List Value).drop 1).take 1 = [b] := rfl
  have e2 : (([a, b, c] : List Value).drop 2).take 1 = [c] := rfl
  replace h0 : DataW.trod enc Tryd.prog W 0 (fun _ => true) true n 3 (([a, b, c].drop 0).take (Program.cellsOf Tryd.prog 3)) = some y0 := h0
  replace h1 : DataW.trod enc Tryd.prog W 0 (fun _ => true) true n 3 (([a, b, c].drop 1).take (Program.cellsOf Tryd.prog 3)) = some y1 := h1
  replace h2 : DataW.trod enc Tryd.prog W 0 (fun _ => true) true n 9 (([a, b, c].drop 2).take (Program.cellsOf Tryd.prog 9)) = some y2 := h2
  rw [cells1, e0] at h0
  rw [cells1, e1] at h1
  rw [cells1s, e2] at h2
  obtain ⟨k, hk, rfl, wk⟩ := DataW.trod_int Tryd.underlying3 h0
  obtain ⟨m, hm, rfl, wm⟩ := DataW.trod_int Tryd.underlying3 h1
  obtain ⟨s, hs, rfl, ws⟩ := DataW.trod_string Tryd.underlying9 h2
  injection hk with hk _
  injection hm with hm _
  injection hs with hs _
  subst hk; subst hm; subst hs
  have ss : s.data.toList.length = s.size := by rw [Array.length_toList]; rfl
  refine ⟨⟨k, m, s.data.toList⟩, ?_, ⟨wf_i64 wk, wf_i64 wm, ?_⟩, ?_⟩
  · simp [vc, sb]
  · show s.data.toList.length ≤ _
    rw [ss]; exact Nat.le_trans ws (by decide)
  · show s.data.toList.length + 4 ≤ 1 + (1 + (s.data.toList.length + 1 + 0)) + 1
    omega
end
end Go.Proofs.YtejbljopighenaaDoor
