/- Data in blocks that nobody writes any more: what cells read as; the blocks that are still written are told apart. No program in sight. -/
import Derived.Test.YtjneoinacobbaaaDoorBlk
import Derived.Test.YtjneoinacobbaaaDoorBy
namespace Go.Proofs.YtjneoinacobbaaaDoor
open Go.RowKit

/-- What a cell reads as: a value; a slice of so many elements, of so many cells each, told one behind the other. -/
inductive D where
  | v (x : Value)
  | sl (s n : Nat) (l : List D)

mutual
def RdD (W : World) (F : Nat → Prop) : D → Value → Prop
  | .v x, u => u = x
  | .sl s n l, u => ∃ A c cs, u = .slice A n c ∧ n ≤ c ∧ l.length = n * s ∧ RdL W F l cs ∧ (0 < n → ∃ b off, A = some ⟨b, off, none⟩ ∧ F b ∧ ∀ j x, cs[j]? = some x → W.cell? ⟨b, off + j, none⟩ = some x)
def RdL (W : World) (F : Nat → Prop) : List D → List Value → Prop
  | [], cs => cs = []
  | d :: ds, cs => ∃ u us, cs = u :: us ∧ RdD W F d u ∧ RdL W F ds us
end
section
variable {W W' : World} {F F' : Nat → Prop}
mutual
theorem RdD.to (h : ∀ b, F b → W'.heap[b]? = W.heap[b]? ∧ F' b) : ∀ {d : D} {u : Value}, RdD W F d u → RdD W' F' d u
  | .v x, u, hd => by unfold RdD at hd ⊢; exact hd
  | .sl s n l, u, hd => by
    unfold RdD at hd ⊢
    obtain ⟨A, c, cs, h1, h2, h3, h4, h5⟩ := hd
    refine ⟨A, c, cs, h1, h2, h3, RdL.to h h4, fun hn => ?_⟩
    obtain ⟨b, off, h6, h7, h8⟩ := h5 hn
    exact ⟨b, off, h6, (h b h7).2, fun j x hx => (World.cell?_of_block (w := W) (a := ⟨b, off + j, none⟩) (h b h7).1).trans (h8 j x hx)⟩
theorem RdL.to (h : ∀ b, F b → W'.heap[b]? = W.heap[b]? ∧ F' b) : ∀ {ds : List D} {cs : List Value}, RdL W F ds cs → RdL W' F' ds cs
  | [], cs, hd => by unfold RdL at hd ⊢; exact hd
  | d :: ds, cs, hd => by
    unfold RdL at hd ⊢
    obtain ⟨u, us, h1, h2, h3⟩ := hd
    exact ⟨u, us, h1, RdD.to h h2, RdL.to h h3⟩
end
theorem RdL.nil_ : RdL W F [] [] := by unfold RdL; rfl
theorem RdL.cons {d : D} {u : Value} {ds : List D} {us : List Value} (h : RdD W F d u) (hs : RdL W F ds us) : RdL W F (d :: ds) (u :: us) := by unfold RdL; exact ⟨u, us, rfl, h, hs⟩
theorem RdL.uncons {d : D} {ds : List D} {cs : List Value} (h : RdL W F (d :: ds) cs) : ∃ u us, cs = u :: us ∧ RdD W F d u ∧ RdL W F ds us := by unfold RdL at h; exact h
theorem RdL.isnil {cs : List Value} (h : RdL W F [] cs) : cs = [] := by unfold RdL at h; exact h
theorem RdD.val {x u : Value} : RdD W F (.v x) u ↔ u = x := by unfold RdD; exact Iff.rfl
theorem RdD.ofv (x : Value) : RdD W F (.v x) x := RdD.val.2 rfl
theorem RdL.len : ∀ {ds : List D} {cs : List Value}, RdL W F ds cs → cs.length = ds.length
  | [], cs, h => by rw [h.isnil]; rfl
  | d :: ds, cs, h => by obtain ⟨u, us, rfl, _, h2⟩ := h.uncons; simp [RdL.len h2]
theorem RdL.get : ∀ {ds : List D} {cs : List Value} {i : Nat} {d : D}, RdL W F ds cs → ds[i]? = some d → ∃ u, cs[i]? = some u ∧ RdD W F d u
  | [], cs, i, d, h, hi => by simp at hi
  | d0 :: ds, cs, 0, d, h, hi => by
    obtain ⟨u, us, rfl, h1, _⟩ := h.uncons
    simp at hi; subst hi
    exact ⟨u, rfl, h1⟩
  | d0 :: ds, cs, i + 1, d, h, hi => by
    obtain ⟨u, us, rfl, _, h2⟩ := h.uncons
    simpa using RdL.get h2 (by simpa using hi)
theorem RdL.app : ∀ {d1 d2 : List D} {c1 c2 : List Value}, RdL W F d1 c1 → RdL W F d2 c2 → RdL W F (d1 ++ d2) (c1 ++ c2)
  | [], d2, c1, c2, h1, h2 => by rw [h1.isnil]; exact h2
  | d :: d1, d2, c1, c2, h1, h2 => by
    obtain ⟨u, us, rfl, h3, h4⟩ := h1.uncons
    exact RdL.cons h3 (RdL.app h4 h2)
theorem RdL.drop : ∀ {ds : List D} {cs : List Value} (i : Nat), RdL W F ds cs → RdL W F (ds.drop i) (cs.drop i)
  | ds, cs, 0, h => by simpa using h
  | [], cs, i + 1, h => by rw [h.isnil]; simpa using RdL.nil_
  | d :: ds, cs, i + 1, h => by
    obtain ⟨u, us, rfl, _, h2⟩ := h.uncons
    simpa using RdL.drop i h2
theorem RdL.take : ∀ {ds : List D} {cs : List Value} (i : Nat), RdL W F ds cs → RdL W F (ds.take i) (cs.take i)
  | ds, cs, 0, h => by simpa using RdL.nil_
  | [], cs, i + 1, h => by rw [h.isnil]; simpa using RdL.nil_
  | d :: ds, cs, i + 1, h => by
    obtain ⟨u, us, rfl, h1, h2⟩ := h.uncons
    simpa using RdL.cons h1 (RdL.take i h2)
theorem RdL.split {d1 d2 : List D} {cs : List Value} (h : RdL W F (d1 ++ d2) cs) : ∃ c1 c2, cs = c1 ++ c2 ∧ RdL W F d1 c1 ∧ RdL W F d2 c2 := by
  refine ⟨cs.take d1.length, cs.drop d1.length, (List.take_append_drop _ _).symm, ?_, ?_⟩
  · simpa using h.take d1.length
  · simpa using h.drop d1.length
theorem RdL.vals : ∀ {xs cs : List Value}, RdL W F (xs.map D.v) cs → cs = xs
  | [], cs, h => h.isnil
  | x :: xs, cs, h => by
    obtain ⟨u, us, rfl, h1, h2⟩ := h.uncons
    rw [RdD.val.1 h1, RdL.vals h2]
theorem RdL.ofvals : ∀ (xs : List Value), RdL W F (xs.map D.v) xs
  | [] => RdL.nil_
  | x :: xs => RdL.cons (RdD.ofv x) (RdL.ofvals xs)
theorem RdL.one {d : D} {u : Value} (h : RdD W F d u) : RdL W F [d] [u] := RdL.cons h RdL.nil_
theorem RdL.set : ∀ {ds : List D} {cs : List Value} (i : Nat) {d : D} {u : Value}, RdL W F ds cs → RdD W F d u → RdL W F (ds.set i d) (cs.set i u)
  | [], cs, i, d, u, h, hd => by rw [h.isnil]; simpa using RdL.nil_
  | d0 :: ds, cs, 0, d, u, h, hd => by
    obtain ⟨u0, us, rfl, h1, h2⟩ := h.uncons
    exact RdL.cons hd h2
  | d0 :: ds, cs, i + 1, d, u, h, hd => by
    obtain ⟨u0, us, rfl, h1, h2⟩ := h.uncons
    exact RdL.cons h1 (RdL.set i h2 hd)

theorem RdD.sl_iff {s n : Nat} {l : List D} {u : Value} : RdD W F (.sl s n l) u ↔ ∃ A c cs, u = .slice A n c ∧ n ≤ c ∧ l.length = n * s ∧ RdL W F l cs ∧ (0 < n → ∃ b off, A = some ⟨b, off, none⟩ ∧ F b ∧ ∀ j x, cs[j]? = some x → W.cell? ⟨b, off + j, none⟩ = some x) := by
  rw [RdD]
/-- A slice opened. -/
theorem RdD.open_ {s n : Nat} {l : List D} {u : Value} (h : RdD W F (.sl s n l) u) : ∃ A c, u = .slice A n c ∧ n ≤ c ∧ l.length = n * s := by
  obtain ⟨A, c, cs, h1, h2, h3, _⟩ := RdD.sl_iff.1 h
  exact ⟨A, c, h1, h2, h3⟩
theorem RdD.len {s n : Nat} {l : List D} {u : Value} (h : RdD W F (.sl s n l) u) : l.length = n * s := by
  obtain ⟨A, c, h1, h2, h3⟩ := h.open_
  exact h3
/-- An element of a slice. -/
theorem RdD.at_ {s n n' c i : Nat} {l : List D} {A : Option Addr} (h : RdD W F (.sl s n l) (.slice A n' c)) (hi : i < n') :
    ∃ b off es, A = some ⟨b, off, none⟩ ∧ F b ∧ RdL W F ((l.drop (i * s)).take s) es ∧ es.length = s ∧ ∀ j x, es[j]? = some x → W.cell? ⟨b, off + i * s + j, none⟩ = some x := by
  obtain ⟨A', c', cs, h1, h2, h3, h4, h5⟩ := RdD.sl_iff.1 h
  injection h1 with e1 en _
  subst e1; subst en
  obtain ⟨b, off, h6, h7, h8⟩ := h5 (by omega)
  refine ⟨b, off, (cs.drop (i * s)).take s, h6, h7, (h4.drop _).take _, ?_, fun j x hx => ?_⟩
  · rw [List.length_take, List.length_drop, h4.len, h3]
    have : i * s + s ≤ n' * s := by
      have := Nat.mul_le_mul_right s (show i + 1 ≤ n' by omega)
      rw [Nat.add_mul, Nat.one_mul] at this; exact this
    omega
  · rw [List.getElem?_take] at hx
    split at hx
    · rw [List.getElem?_drop] at hx
      rw [Nat.add_assoc]
      exact h8 _ _ hx
    · cases hx
/-- A slice cut. -/
theorem RdD.cut {s n n' c i j m : Nat} {l : List D} {A : Option Addr} (h : RdD W F (.sl s n l) (.slice A n' c)) (hij : i ≤ j) (hj : j ≤ n') (hm : j ≤ m) : RdD W F (.sl s (j - i) ((l.drop (i * s)).take ((j - i) * s))) (.slice (slA A m i s) (j - i) (m - i)) := by
  obtain ⟨A', c', cs, h1, h2, h3, h4, h5⟩ := RdD.sl_iff.1 h
  injection h1 with e1 en _
  subst e1; subst en
  refine RdD.sl_iff.2 ⟨_, _, _, rfl, by omega, ?_, (h4.drop _).take _, fun hn => ?_⟩
  · rw [List.length_take, List.length_drop, h3]
    have : j * s ≤ n' * s := Nat.mul_le_mul_right s hj
    rw [Nat.sub_mul]
    omega
  · obtain ⟨b, off, h6, h7, h8⟩ := h5 (by omega)
    subst h6
    have hne : m ≠ i := by omega
    refine ⟨b, off + i * s, by unfold slA; rw [if_neg hne]; simp [Addr.add_lit], h7, fun k x hx => ?_⟩
    rw [List.getElem?_take] at hx
    split at hx
    · rw [List.getElem?_drop] at hx
      rw [Nat.add_assoc]
      exact h8 _ _ hx
    · cases hx
theorem RdD.nil_ {s : Nat} (A : Option Addr) (c : Nat) : RdD W F (.sl s 0 []) (.slice A 0 c) := RdD.sl_iff.2 ⟨A, c, [], rfl, Nat.zero_le _, by simp, RdL.nil_, fun h => absurd h (by omega)⟩

theorem RdD.slen {s n n' c : Nat} {l : List D} {A : Option Addr} (h : RdD W F (.sl s n l) (.slice A n' c)) : n' = n := by
  obtain ⟨A', c2, h1, _⟩ := h.open_
  injection h1
theorem RdD.scap {s n n' c : Nat} {l : List D} {A : Option Addr} (h : RdD W F (.sl s n l) (.slice A n' c)) : n' ≤ c := by
  obtain ⟨A', c2, h1, h2, _⟩ := h.open_
  injection h1; omega
theorem RdD.none0 {s n n' c : Nat} {l : List D} {A : Option Addr} (h : RdD W F (.sl s n l) (.slice A n' c)) (hA : A = none) : n' = 0 := by
  have hs := h.slen
  obtain ⟨A', c2, cs, h1, h2, h3, h4, h5⟩ := RdD.sl_iff.1 h
  injection h1 with e1 _ _
  subst e1; subst hs
  rcases Nat.eq_zero_or_pos n' with h0 | h0
  · exact h0
  · obtain ⟨b, off, h6, _⟩ := h5 h0
    rw [hA] at h6; cases h6
/-- Another capacity. -/
theorem RdD.cap {s n n' c c' : Nat} {l : List D} {A : Option Addr} (h : RdD W F (.sl s n l) (.slice A n' c)) (hc : n' ≤ c') : RdD W F (.sl s n l) (.slice A n' c') := by
  have hs := h.slen
  obtain ⟨A', c2, cs, h1, h2, h3, h4, h5⟩ := RdD.sl_iff.1 h
  injection h1 with e1 _ _
  subst e1; subst hs
  exact RdD.sl_iff.2 ⟨_, _, cs, rfl, hc, h3, h4, h5⟩
/-- Bytes. -/
def dB (l : List UInt8) : D := .sl 1 l.length ((bvs l).map D.v)
theorem RdD.bytes {l : List UInt8} {u : Value} (h : RdD W F (dB l) u) (hF : ∀ b, F b → b < W.heap.size) : ∃ A c, u = .slice A l.length c ∧ l.length ≤ c ∧ Rd W W.heap.size A l.length l := by
  obtain ⟨A, c, cs, h1, h2, h3, h4, h5⟩ := RdD.sl_iff.1 h
  rw [h4.vals] at h5
  refine ⟨A, c, h1, h2, by rw [bvs_length]; omega, fun hn => ?_⟩
  obtain ⟨b, off, h6, h7, h8⟩ := h5 hn
  exact ⟨b, off, h6, hF b h7, h8⟩
/-- Bytes cut. -/
theorem RdD.cutB {l : List UInt8} {A : Option Addr} {n c i j m : Nat} (h : RdD W F (dB l) (.slice A n c)) (hij : i ≤ j) (hj : j ≤ n) (hm : j ≤ m) : RdD W F (dB ((l.drop i).take (j - i))) (.slice (slA A m i 1) (j - i) (m - i)) := by
  have hn := h.slen
  have h2 := h.cut hij hj hm
  have e : dB ((l.drop i).take (j - i)) = D.sl 1 (j - i) ((((bvs l).map D.v).drop (i * 1)).take ((j - i) * 1)) := by
    unfold dB
    rw [Nat.mul_one, Nat.mul_one, List.length_take, List.length_drop, ← hn, Nat.min_eq_left (by omega), ← List.map_drop, ← List.map_take, bvs_take, bvs_drop]
  rw [e]; exact h2
theorem RdD.rd {l : List UInt8} {A : Option Addr} {n c : Nat} (h : RdD W F (dB l) (.slice A n c)) (hF : ∀ b, F b → b < W.heap.size) : n = l.length ∧ n ≤ c ∧ Rd W W.heap.size A n l := by
  obtain ⟨A', c', e1, e2, e3⟩ := h.bytes hF
  injection e1 with e1 e4 e5
  subst e1; subst e4; subst e5
  exact ⟨rfl, e2, e3⟩
theorem RdD.ofbytes {l : List UInt8} {A : Option Addr} {n c B : Nat} (h : Rd W B A n l) (hc : n ≤ c) (hF : ∀ b off, A = some ⟨b, off, none⟩ → b < B → F b) : RdD W F (dB l) (.slice A n c) := by
  have hl := h.len
  subst hl
  refine RdD.sl_iff.2 ⟨A, c, bvs l, rfl, hc, by simp [bvs_length], RdL.ofvals _, fun hn => ?_⟩
  obtain ⟨b, off, h6, h7, h8⟩ := h.2 hn
  exact ⟨b, off, h6, hF b off h6 h7, h8⟩
end

/-- The block of a slice. -/
def bk (A : Option Addr) : Option Nat := A.map (·.block)
theorem own_bk (A : Option Addr) (n c : Nat) : (Value.slice A n c).ownBlock = bk A := by cases A <;> rfl
/-- Blocks that are there, and not among those that are still written. -/
def Fd (W : World) (gs : List (Option Nat)) (b : Nat) : Prop := b < W.heap.size ∧ some b ∉ gs
theorem Fd.lt {W : World} {gs : List (Option Nat)} : ∀ b, Fd W gs b → b < W.heap.size := fun _ h => h.1
/-- New blocks. -/
def Fr (w W : World) (b : Nat) : Prop := w.heap.size ≤ b ∧ b < W.heap.size
/-- From one world to the next: what is not among gs stays; among gs' are no others of these. -/
structure Stp (W : World) (gs : List (Option Nat)) (W' : World) (gs' : List (Option Nat)) : Prop where
  size : W.heap.size ≤ W'.heap.size
  block : ∀ b, b < W.heap.size → some b ∉ gs → W'.heap[b]? = W.heap[b]?
  own : ∀ b, b < W.heap.size → some b ∈ gs' → some b ∈ gs
section
variable {w W W' W'' : World} {gs gs' gs'' : List (Option Nat)}
theorem RdL.up {ds : List D} {cs : List Value} (h : RdL W (Fd W gs) ds cs) (s : Stp W gs W' gs') : RdL W' (Fd W' gs') ds cs :=
  h.to fun b hb => ⟨s.block b hb.1 hb.2, by have := s.size; have := hb.1; omega, fun e => hb.2 (s.own b hb.1 e)⟩
theorem RdD.up {d : D} {u : Value} (h : RdD W (Fd W gs) d u) (s : Stp W gs W' gs') : RdD W' (Fd W' gs') d u :=
  h.to fun b hb => ⟨s.block b hb.1 hb.2, by have := s.size; have := hb.1; omega, fun e => hb.2 (s.own b hb.1 e)⟩
theorem Stp.refl : Stp W gs W gs := ⟨Nat.le_refl _, fun _ _ _ => rfl, fun _ _ h => h⟩
theorem Stp.trans (h : Stp W gs W' gs') (k : Stp W' gs' W'' gs'') : Stp W gs W'' gs'' :=
  ⟨Nat.le_trans h.size k.size, fun b hb hg => (k.block b (by have := h.size; omega) (fun e => hg (h.own b hb e))).trans (h.block b hb hg), fun b hb e => h.own b hb (k.own b (by have := h.size; omega) e)⟩
theorem Stp.below (hb : Below W.heap.size W W') : Stp W gs W' gs := ⟨hb.size, fun b h _ => hb.block b h, fun _ _ h => h⟩
/-- One more that is written from here on. -/
theorem Stp.new {g : Option Nat} (hb : Below W.heap.size W W') (hg : ∀ b, g = some b → W.heap.size ≤ b) : Stp W gs W' (g :: gs) :=
  ⟨hb.size, fun b h _ => hb.block b h, fun b h e => by
    rcases List.mem_cons.1 e with e | e
    · have := hg b e.symm; omega
    · exact e⟩
/-- One is written. -/
theorem Stp.wrote {r : Option Nat} (hg : W.grownBy W' r) (hr : r ∈ gs) : Stp W gs W' gs :=
  ⟨hg.size, fun b h hn => hg.block b h (fun e => hn (e ▸ hr)), fun _ _ h => h⟩
/-- append: the first of those that are written is written, or another one takes its place. -/
theorem Stp.app {r r' : Option Nat} (hg : W.grownBy W' r) (hr : ∀ b, r' = some b → r' = r ∨ W.heap.size ≤ b) : Stp W (r :: gs) W' (r' :: gs) :=
  ⟨hg.size, fun b h hn => hg.block b h (fun e => hn (by simp [e])), fun b h e => by
    rcases List.mem_cons.1 e with e | e
    · rcases hr b e.symm with h2 | h2
      · rw [e, h2]; simp
      · omega
    · simp [e]⟩
/-- The first one is written no more. -/
theorem Stp.drop {g : Option Nat} : Stp W (g :: gs) W gs := ⟨Nat.le_refl _, fun _ _ _ => rfl, fun b _ e => by simp [e]⟩
theorem Stp.drew : Stp W gs W.drew gs := ⟨Nat.le_refl _, fun _ _ _ => rfl, fun _ _ h => h⟩

/-- Where a call stands: of what was there nothing has turned; what it writes is there. -/
structure At (w : World) (W : World) (gs : List (Option Nat)) : Prop where
  below : Below w.heap.size w W
  lt : ∀ b, some b ∈ gs → b < W.heap.size
theorem At.start (h : ∀ b, some b ∈ gs → b < w.heap.size) : At w w gs := ⟨Below.refl _ _, h⟩
theorem At.size (h : At w W gs) : w.heap.size ≤ W.heap.size := h.below.size
theorem At.drew (h : At w W gs) : At w W.drew gs := ⟨h.below.drew, h.lt⟩
/-- Behind a call. -/
theorem At.call (h : At w W gs) (hb : Below W.heap.size W W') : At w W' gs := ⟨h.below.trans (hb.mono h.below.size), fun b e => by have := h.lt b e; have := hb.size; omega⟩
theorem At.new {g : Option Nat} (h : At w W gs) (hb : Below W.heap.size W W') (hg : ∀ b, g = some b → b < W'.heap.size) : At w W' (g :: gs) := ⟨(h.call hb).below, fun b e => by
    rcases List.mem_cons.1 e with e | e
    · exact hg b e.symm
    · exact (h.call hb).lt b e⟩
theorem At.wrote {r : Option Nat} (h : At w W gs) (hg : W.grownBy W' r) (hr : ∀ b, r = some b → w.heap.size ≤ b) : At w W' gs :=
  ⟨h.below.grown hg h.below.size hr, fun b e => by have := h.lt b e; have := hg.size; omega⟩
theorem At.app {r r' : Option Nat} (h : At w W (r :: gs)) (hg : W.grownBy W' r) (hr : ∀ b, r = some b → w.heap.size ≤ b) (hr' : ∀ b, r' = some b → b < W'.heap.size) : At w W' (r' :: gs) :=
  ⟨h.below.grown hg h.below.size hr, fun b e => by
    rcases List.mem_cons.1 e with e | e
    · exact hr' b e.symm
    · have := h.lt b (by simp [e]); have := hg.size; omega⟩
theorem At.drop {g : Option Nat} (h : At w W (g :: gs)) : At w W gs := ⟨h.below, fun b e => h.lt b (by simp [e])⟩
/-- What is new is not among those that are written. -/
theorem RdD.fresh {d : D} {u : Value} (h : RdD W' (Fr W W') d u) (hg : ∀ b, some b ∈ gs → b < W.heap.size) : RdD W' (Fd W' gs) d u := h.to fun b hb => ⟨rfl, hb.2, fun e => by have := hg b e; have := hb.1; omega⟩
theorem RdL.fresh {ds : List D} {cs : List Value} (h : RdL W' (Fr W W') ds cs) (hg : ∀ b, some b ∈ gs → b < W.heap.size) : RdL W' (Fd W' gs) ds cs := h.to fun b hb => ⟨rfl, hb.2, fun e => by have := hg b e; have := hb.1; omega⟩
theorem RdD.any {d : D} {u : Value} (h : RdD W (Fd W gs) d u) : RdD W (Fd W []) d u := h.to fun b hb => ⟨rfl, hb.1, by simp⟩
theorem RdL.any {ds : List D} {cs : List Value} (h : RdL W (Fd W gs) ds cs) : RdL W (Fd W []) ds cs := h.to fun b hb => ⟨rfl, hb.1, by simp⟩
theorem RdD.rdB {l : List UInt8} {u : Value} (h : RdD W (Fd W gs) (dB l) u) : ∃ A c, u = .slice A l.length c ∧ l.length ≤ c ∧ Rd W W.heap.size A l.length l := h.bytes Fd.lt
/-- A row of bytes of the call's own, read by itself. -/
theorem Own.frB {base n c : Nat} {A : Option Addr} {l : List UInt8} (h : Own W base A n c l) {F : Nat → Prop} (hF : ∀ b, base ≤ b → b < W.heap.size → bk A = some b → F b) : RdD W F (dB l) (.slice A n c) := by
  refine RdD.ofbytes h.rd h.cap_ fun b off e hb => hF b ?_ hb (by rw [e]; rfl)
  subst e
  exact h.lo b rfl
/-- A row of the call's own, read. -/
theorem rdD_row {base n c s : Nat} {e : TypeId} {A : Option Addr} {xs : List Value} {ds : List D} (h : W.ownsRow base e s (.slice A n c) n xs) {F : Nat → Prop} (hd : RdL W F ds xs) (hF : ∀ b, base ≤ b → b < W.heap.size → (Value.slice A n c).ownBlock = some b → F b) : RdD W F (.sl s n ds) (.slice A n c) := by
  refine RdD.sl_iff.2 ⟨A, c, xs, rfl, ?_, by rw [← hd.len]; exact h.1, hd, fun hn => ?_⟩
  · rcases h.2 with ⟨hv, hn⟩ | ⟨g, cap, cur, hv, _, _, hc, _⟩
    · omega
    · injection hv with _ _ hc'; omega
  · obtain ⟨b, off, e1, e2, e3⟩ := (Reads.of_own h).2 hn
    subst e1
    exact ⟨b, off, rfl, hF b (World.ownsRow.lt h b rfl).1 e2 rfl, e3⟩
/-- A block that is written no more. -/
structure FB (W : World) (gs : List (Option Nat)) (g : Nat) (T : TypeId) (cs : List Value) : Prop where
  blk : Blk W g T cs
  out : some g ∉ gs
theorem FB.up {g : Nat} {T : TypeId} {cs : List Value} (h : FB W gs g T cs) (s : Stp W gs W' gs') : FB W' gs' g T cs :=
  ⟨(s.block g h.blk.lt h.out).trans h.blk, fun e => h.out (s.own g h.blk.lt e)⟩
theorem FB.new {g : Nat} {T : TypeId} {cs : List Value} (h : Blk W' g T cs) (hA : ∀ b, some b ∈ gs → b < W.heap.size) (hg : W.heap.size ≤ g) : FB W' gs g T cs := ⟨h, fun e => by have := hA g e; omega⟩
theorem FB.at_ {g i : Nat} {T : TypeId} {cs : List Value} {v : Value} (h : FB W gs g T cs) (hi : cs[i]? = some v) : W.cell? ⟨g, i, none⟩ = some v := h.blk.at_ hi
end
end Go.Proofs.YtjneoinacobbaaaDoor
