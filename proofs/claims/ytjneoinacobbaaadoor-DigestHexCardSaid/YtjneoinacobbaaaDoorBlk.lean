/- Blocks that are known whole: cells of the call's own. No program in sight. -/
import Derived.Test.YtjneoinacobbaaaDoorCut
import Derived.Test.YtjneoinacobbaaaDoorMem
namespace Go.Proofs.YtjneoinacobbaaaDoor
open Go.RowKit

/-- Block g holds these cells, and nobody shares them with a string. -/
def Blk (w : World) (g : Nat) (T : TypeId) (cs : List Value) : Prop := w.heap[g]? = some (.cells cs.toArray T (0, 0))
section
variable {w w' : World} {g : Nat} {T : TypeId} {cs : List Value}
theorem Blk.lt (h : Blk w g T cs) : g < w.heap.size := (Array.getElem?_eq_some_iff.1 h).1
theorem Blk.cell (h : Blk w g T cs) (i : Nat) : w.cell? ⟨g, i, none⟩ = cs[i]? := by
  unfold Blk at h
  simp [World.cell?, h]
theorem Blk.at_ (h : Blk w g T cs) {i : Nat} {v : Value} (hi : cs[i]? = some v) : w.cell? ⟨g, i, none⟩ = some v := (h.cell i).trans hi
theorem Blk.free (h : Blk w g T cs) (i : Nat) : w.frozen? ⟨g, i, none⟩ = false := by
  unfold Blk at h
  simp [World.frozen?, h]
theorem Blk.new (w : World) (cs : List Value) (T : TypeId) : Blk (w.alloc (.cells cs.toArray T)) w.heap.size T cs := by
  show (w.heap.push _)[w.heap.size]? = _
  simp
theorem Blk.new' (w : World) (cs : Array Value) (T : TypeId) : Blk (w.alloc (.cells cs T)) w.heap.size T cs.toList := by
  have := Blk.new w cs.toList T
  simpa using this
theorem Blk.old (h : Blk w g T cs) (o : Obj) : Blk (w.alloc o) g T cs := (Below.heap_alloc w o g h.lt).trans h
theorem Blk.drew (h : Blk w g T cs) : Blk w.drew g T cs := h
theorem Blk.below (h : Blk w g T cs) (hb : Below w.heap.size w w') : Blk w' g T cs := (hb.block g h.lt).trans h
theorem Blk.belowB {B : Nat} (h : Blk w g T cs) (hb : Below B w w') (hg : g < B) : Blk w' g T cs := (hb.block g hg).trans h
theorem Blk.set (h : Blk w g T cs) (i : Nat) (v : Value) : Blk (w.setCell ⟨g, i, none⟩ v) g T (cs.set i v) := by
  unfold Blk at h ⊢
  simp only [World.setCell, Array.getElem?_modify, h]
  simp
theorem Blk.other (h : Blk w g T cs) {p : Addr} (hp : p.block ≠ g) (v : Value) : Blk (w.setCell p v) g T cs := (Below.heap_setCell w p v g (fun e => hp e.symm)).trans h
theorem Blk.grown {row : Option Nat} (h : Blk w g T cs) (hg : w.grownBy w' row) (hr : row ≠ some g) : Blk w' g T cs := (hg.block g h.lt (fun e => hr e.symm)).trans h
theorem Blk.grownN {g' : Nat} (h : Blk w g T cs) (hg : w.grownBy w' (some g')) (hr : g' ≠ g) : Blk w' g T cs := h.grown hg (fun e => hr (by injection e))
theorem Blk.inj {T' : TypeId} {cs' : List Value} (h : Blk w g T cs) (h' : Blk w g T' cs') : cs = cs' := by
  have := h.symm.trans h'
  injection this with this
  injection this with this
  simpa using this
/-- Cells one behind the other. -/
theorem Blk.run (h : Blk w g T cs) (i : Nat) (vs : List Value) (hv : ∀ j v, vs[j]? = some v → cs[i + j]? = some v) : ∀ j v, vs[j]? = some v → w.cell? ((⟨g, i, none⟩ : Addr).add j) = some v := by
  intro j v hj
  rw [Addr.add_lit]
  exact h.at_ (hv j v hj)
end

theorem gtrans {w w1 w2 : World} {r : Option Nat} (h : w.grownBy w1 r) (k : w1.grownBy w2 r) : w.grownBy w2 r :=
  ⟨k.os.trans h.os, k.tape.trans h.tape, k.output.trans h.output, Nat.le_trans h.size k.size, fun i hi hne => (k.block i (Nat.lt_of_lt_of_le hi h.size) hne).trans (h.block i hi hne)⟩
theorem gbelow {w w1 : World} {r : Option Nat} (h : Below w.heap.size w w1) : w.grownBy w1 r := ⟨h.os, h.tape, h.output, h.size, fun i hi _ => h.block i hi⟩
theorem gdrew {w : World} {r : Option Nat} : w.grownBy w.drew r := ⟨rfl, rfl, rfl, Nat.le_refl _, fun _ _ _ => rfl⟩

section
variable {P : Program} {E : Env} {d : Option Nat} {ty : TypeId} {p : String} {af : Array Edge} {gd : Option (Nat × Bool)} {x y : Operand} {t : TypeId} {kw : Value → World → Prop} {w : World}
/-- A new block. -/
theorem v_boxB (vs : List Value) (hx : (val E x).cells = vs.toArray) (h : ∀ g w', g = w.heap.size → Blk w' g t vs → Below g w w' → w'.heap.size = g + 1 → kw (.pointer (some ⟨g, 0, none⟩)) w') :
    VVal P E { dst := d, op := .box t x, type := ty, pos := p, after := af, guard := gd } w kw :=
  v_box rfl (h _ _ rfl (by rw [hx]; exact Blk.new w vs t) ((Below.refl _ _).alloc (Nat.le_refl _) _) (by simp))
theorem v_allocB (vs : List Value) (hz : (P.info? t).map (fun i => i.zero.map fun z => z.cells.toList) = some (some vs)) (h : ∀ g w', g = w.heap.size → Blk w' g t vs → Below g w w' → w'.heap.size = g + 1 → kw (.pointer (some ⟨g, 0, none⟩)) w') :
    VVal P E { dst := d, op := .alloc t, type := ty, pos := p, after := af, guard := gd } w kw := by
  obtain ⟨i, hi1, hi2⟩ := Option.map_eq_some_iff.1 hz
  obtain ⟨z, hz1, hz2⟩ := Option.map_eq_some_iff.1 hi2
  refine v_alloc (zz := z) (by rw [hi1]; simp [hz1]) (h _ _ rfl ?_ ((Below.refl _ _).alloc (Nat.le_refl _) _) (by simp))
  have := Blk.new' w z.cells t
  rwa [hz2] at this
/-- A literal slice. -/
theorem run_storeB {g : Nat} {T : TypeId} : ∀ (vs : List Value) (i off : Nat) (w : World) (cs : List Value), Blk w g T cs → (∀ u ∈ vs, u.oneCell' = true) → off + i + vs.length ≤ cs.length →
    ∃ w', (storeCells ⟨g, off, none⟩ vs i).run P w = .ok () w' ∧ Blk w' g T (cs.take (off + i) ++ vs ++ cs.drop (off + i + vs.length)) ∧ w.grownBy w' (some g) ∧ w'.heap.size = w.heap.size
  | [], i, off, w, cs, hB, _, _ => ⟨w, rfl, by simpa using hB, World.grownBy.refl w _, rfl⟩
  | v :: vs, i, off, w, cs, hB, h1, hl => by
    have hlt : off + i < cs.length := by simp only [List.length_cons] at hl; omega
    have hc : w.cell? ⟨g, off + i, none⟩ = some cs[off + i] := hB.at_ (List.getElem?_eq_getElem hlt)
    have hB2 := hB.set (off + i) v
    obtain ⟨w', hr, hB', hg, hsz⟩ := run_storeB vs (i + 1) off (w.setCell ⟨g, off + i, none⟩ v) (cs.set (off + i) v) hB2 (fun u hu => h1 u (by simp [hu])) (by simp only [List.length_set, List.length_cons] at hl ⊢; omega)
    refine ⟨w', ?_, ?_, ?_, by rw [hsz]; simp⟩
    · rw [storeCells, Addr.add_lit]
      have hst : (store (⟨g, off + i, none⟩ : Addr) v).run P w = .ok () (w.setCell ⟨g, off + i, none⟩ v) := by
        rw [run_store P w _ v _ (h1 v (by simp))]
        simp [hc, hB.free]
      simp only [Sem.run_bind, hst, Result.andThen_ok, hr]
    · have e : (cs.set (off + i) v).take (off + (i + 1)) ++ vs ++ (cs.set (off + i) v).drop (off + (i + 1) + vs.length) = cs.take (off + i) ++ v :: vs ++ cs.drop (off + i + (v :: vs).length) := by
        rw [show off + (i + 1) = off + i + 1 by omega, List.take_succ_eq_append_getElem (by rw [List.length_set]; exact hlt), List.getElem_set_self, List.take_set_of_le (by omega), List.drop_set_of_lt (by omega), List.length_cons]
        rw [show off + i + 1 + vs.length = off + i + (vs.length + 1) by omega]
        simp only [List.append_assoc, List.cons_append, List.nil_append]
      rw [← e]; exact hB'
    · have h0 : w.grownBy (w.setCell ⟨g, off + i, none⟩ v) (some g) := ⟨rfl, rfl, rfl, by simp, fun k _ hk => Below.heap_setCell _ _ _ _ (fun e => hk (by rw [e]))⟩
      exact ⟨hg.os.trans h0.os, hg.tape.trans h0.tape, hg.output.trans h0.output, Nat.le_trans h0.size hg.size, fun k hk hne => (hg.block k (by simpa using hk) hne).trans (h0.block k hk hne)⟩
/-- A store into one cell of a block. -/
theorem v_set {g i : Nat} {T : TypeId} {cs : List Value} (v : Value) (hT : (P.info? t).map (·.size) = some 1) (hB : Blk w g T cs) (hx : val E x = .pointer (some ⟨g, i, none⟩)) (hy : val E y = v) (h1 : v.oneCell' = true) (hi : i < cs.length)
    (h : ∀ w', Blk w' g T (cs.set i v) → w.grownBy w' (some g) → w'.heap.size = w.heap.size → kw undef w') : VSkip P E { dst := d, op := .store t x y, type := ty, pos := p, after := af, guard := gd } w kw :=
  v_store hT hx hy h1 (hB.at_ (List.getElem?_eq_getElem hi)) (hB.free i) (h _ (hB.set i v) ⟨rfl, rfl, rfl, by simp, fun k _ hk => Below.heap_setCell _ _ _ _ (fun e => hk (by rw [e]))⟩ (by simp))
/-- A store of a value of parts, over a whole block. -/
theorem v_storeA {g n : Nat} {T : TypeId} {cs : List Value} (vs : List Value) (hT : (P.info? t).map (·.size) = some n) (hx : val E x = .pointer (some ⟨g, 0, none⟩)) (hy : (val E y).cells = vs.toArray) (hn : vs.length = n) (h1 : ∀ u ∈ vs, u.oneCell' = true) (hB : Blk w g T cs) (hl : cs.length = n)
    (h : ∀ w', Blk w' g T vs → w.grownBy w' (some g) → w'.heap.size = w.heap.size → kw undef w') : VSkip P E { dst := d, op := .store t x y, type := ty, pos := p, after := af, guard := gd } w kw := by
  obtain ⟨w', hr, hB', hg, hsz⟩ := run_storeB (P := P) vs 0 0 w cs hB h1 (by omega)
  refine vs_ (w' := w') ?_ (h w' ?_ hg hsz)
  · obtain ⟨i, hi1, hi2⟩ := Option.map_eq_some_iff.1 hT
    simp only [execOp, hx, Instr.storeAt, Instr.sureAddr, Sem.run_bind, Sem.run_pure, Result.andThen_ok, storeVar, sizeOf, typeInfo, run_program, hi1, hi2, hy]
    simp [hn, hr]
  · have e : cs.take (0 + 0) ++ vs ++ cs.drop (0 + 0 + vs.length) = vs := by simp [hn, ← hl]
    rw [e] at hB'; exact hB'
/-- A store into a part of a block. -/
theorem v_storeP {g n i : Nat} {T : TypeId} {cs : List Value} (vs : List Value) (hT : (P.info? t).map (·.size) = some n) (hx : val E x = .pointer (some ⟨g, i, none⟩)) (hy : (val E y).cells = vs.toArray) (hn : vs.length = n) (h1 : ∀ u ∈ vs, u.oneCell' = true) (hB : Blk w g T cs) (hl : i + n ≤ cs.length)
    (h : ∀ w', Blk w' g T (cs.take i ++ vs ++ cs.drop (i + n)) → w.grownBy w' (some g) → w'.heap.size = w.heap.size → kw undef w') : VSkip P E { dst := d, op := .store t x y, type := ty, pos := p, after := af, guard := gd } w kw := by
  obtain ⟨w', hr, hB', hg, hsz⟩ := run_storeB (P := P) vs 0 i w cs hB h1 (by omega)
  refine vs_ (w' := w') ?_ (h w' ?_ hg hsz)
  · obtain ⟨j, hi1, hi2⟩ := Option.map_eq_some_iff.1 hT
    simp only [execOp, hx, Instr.storeAt, Instr.sureAddr, Sem.run_bind, Sem.run_pure, Result.andThen_ok, storeVar, sizeOf, typeInfo, run_program, hi1, hi2, hy]
    simp [hn, hr]
  · rw [Nat.add_zero, hn] at hB'; exact hB'
end
end Go.Proofs.YtjneoinacobbaaaDoor
