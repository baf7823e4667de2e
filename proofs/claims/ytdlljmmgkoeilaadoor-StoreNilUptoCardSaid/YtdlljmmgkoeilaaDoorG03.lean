/- Bytes in memory: a slice that reads as a list of bytes ('Rd'), a row of bytes of the call's own ('Own'), append onto it. Data in blocks that nobody writes any more: what cells read as; the blocks that are still written are told apart. No program in sight. Bytes as a string; the same bytes; a copy. Single operations on bytes, for the walk that reckons. Values and slices that are built of parts; bytes of a string. More single operations. No program in sight. -/
import Derived.Test.YtdlljmmgkoeilaaDoorProg
import Derived.Test.YtdlljmmgkoeilaaDoorG02
import Derived.Laws.IdiomStrings
namespace Go.Proofs.YtdlljmmgkoeilaaDoor
open Go.RowKit

theorem u8info : (Tryd.prog.info? 5).map (fun i => (i.zero, i.size, i.bytes)) = some (some (.int .u8 0), 1, 1) := by kernel_rfl

/-- The byte at a place, as a number; 0 behind the end. -/
def at8 (l : List UInt8) (k : Nat) : Int := ((l.getD k 0).toNat : Int)
theorem at8_lo (l : List UInt8) (k : Nat) : 0 ≤ at8 l k := by unfold at8; omega
theorem at8_hi (l : List UInt8) (k : Nat) : at8 l k ≤ 255 := by unfold at8; have := (l.getD k 0).toNat_lt; omega
theorem at8_of (l : List UInt8) (k : Nat) (h : k < l.length) : at8 l k = (l[k].toNat : Int) := by unfold at8; rw [List.getD_eq_getElem?_getD, List.getElem?_eq_getElem h]; rfl
/-- The byte that a number is. -/
def b8 (x : Int) : UInt8 := UInt8.ofNat x.toNat
def u8v (c : UInt8) : Value := .int .u8 (c.toNat : Int)
def bvs (l : List UInt8) : List Value := l.map u8v
theorem u8v_b8 (x : Int) (h0 : 0 ≤ x) (h1 : x ≤ 255) : u8v (b8 x) = .int .u8 x := by
  unfold u8v b8
  congr 1
  rw [UInt8.toNat_ofNat']
  omega
theorem u8v_at8 (l : List UInt8) (k : Nat) (h : k < l.length) : u8v l[k] = .int .u8 (at8 l k) := by rw [at8_of l k h]; rfl
theorem bvs_length (l : List UInt8) : (bvs l).length = l.length := by simp [bvs]
theorem bvs_append (l m : List UInt8) : bvs (l ++ m) = bvs l ++ bvs m := by simp [bvs]
theorem bvs_drop (l : List UInt8) (k : Nat) : bvs (l.drop k) = (bvs l).drop k := by simp [bvs]
theorem bvs_take (l : List UInt8) (k : Nat) : bvs (l.take k) = (bvs l).take k := by simp [bvs]
theorem bvs_one (l : List UInt8) : ∀ u ∈ bvs l, u.oneCell' = true := by
  intro u hu
  obtain ⟨_, _, rfl⟩ := List.mem_map.1 hu
  rfl
theorem bvs_get (l : List UInt8) (k : Nat) (h : k < l.length) : (bvs l)[k]? = some (.int .u8 (at8 l k)) := by
  unfold bvs
  rw [List.getElem?_map, List.getElem?_eq_getElem h, Option.map_some, u8v_at8]
theorem ret_bool {a b : Bool} (h : a = b) : Ending.returned (.bool a) = Ending.returned (.bool b) := by rw [h]
theorem ret_slice {A : Option Addr} {n m c : Nat} (h : n = m) : Ending.returned (.slice A n c) = Ending.returned (.slice A m c) := by rw [h]
theorem ret_int {k : IntKind} {a b : Int} (h : a = b) : Ending.returned (.int k a) = Ending.returned (.int k b) := by rw [h]
/-- A slice of n bytes that reads as l, below block B. -/
def Rd (w : World) (B : Nat) (A : Option Addr) (n : Nat) (l : List UInt8) : Prop := Reads w B 1 A n (bvs l)
/-- A slice of n bytes of the call's own (from block 'base' on), that reads as l. -/
def Own (w : World) (base : Nat) (A : Option Addr) (n c : Nat) (l : List UInt8) : Prop := w.ownsRow base 5 1 (.slice A n c) n (bvs l)

section
variable {w w' : World} {B B' base n c : Nat} {A : Option Addr} {l : List UInt8}
theorem Rd.len (h : Rd w B A n l) : l.length = n := by have := h.1; rw [bvs_length] at this; omega
theorem Rd.nil_ : Rd w B A 0 [] := Reads.none_
theorem Rd.at_ {k : Nat} (h : Rd w B A n l) (hk : k < n) : ∃ b off, A = some ⟨b, off, none⟩ ∧ w.cell? ⟨b, off + k, none⟩ = some (.int .u8 (at8 l k)) := by
  obtain ⟨b, off, u, e, _, hu, hc⟩ := Reads.at_ h hk
  rw [bvs_get l k (by rw [h.len]; exact hk)] at hu
  injection hu with hu
  subst hu
  exact ⟨b, off, e, hc⟩
theorem Rd.cells (h : Rd w B A n l) (hn : 0 < n) : ∃ b off, A = some ⟨b, off, none⟩ ∧ b < B ∧ ∀ k, k < n → w.cell? ⟨b, off + k, none⟩ = some (.int .u8 (at8 l k)) := by
  obtain ⟨b, off, e, hb, hc⟩ := h.2 hn
  exact ⟨b, off, e, hb, fun k hk => hc k _ (bvs_get l k (by rw [h.len]; exact hk))⟩
theorem Rd.atB {k : Nat} (h : Rd w B A n l) (hk : k < n) : ∃ b off, A = some ⟨b, off, none⟩ ∧ b < B ∧ w.cell? ⟨b, off + k, none⟩ = some (.int .u8 (at8 l k)) := by
  obtain ⟨b, off, u, e, hb, hu, hc⟩ := Reads.at_ h hk
  rw [bvs_get l k (by rw [h.len]; exact hk)] at hu
  injection hu with hu
  subst hu
  exact ⟨b, off, e, hb, hc⟩
theorem Rd.keep (h : Rd w B A n l) (hk : ∀ p : Addr, p.block < B → w'.cell? p = w.cell? p) : Rd w' B A n l := Reads.keep h hk
theorem Rd.more (h : Rd w B A n l) (hB : B ≤ B') : Rd w B' A n l := Reads.more h hB
theorem Rd.below (h : Rd w B A n l) (hb : Below B w w') : Rd w' B A n l := Reads.below h hb
theorem Rd.drew (h : Rd w B A n l) : Rd w.drew B A n l := h
theorem Rd.drewN (h : Rd w B A n l) (k : Nat) : Rd (w.drewN k) B A n l := h
theorem Rd.alloc (h : Rd w B A n l) (hB : B ≤ w.heap.size) (o : Obj) : Rd (w.alloc o) B A n l := Reads.alloc h hB o
theorem Rd.grown (h : Rd w B A n l) {row : Option Nat} (hg : w.grownBy w' row) (hB : B ≤ w.heap.size) (hr : ∀ g, row = some g → B ≤ g) : Rd w' B A n l := Reads.grown h hg hB hr
theorem Rd.cut (h : Rd w B A n l) {k cap : Nat} (hk : k ≤ n) (hc : n ≤ cap) : Rd w B (if cap = k then A else A.map (·.add k)) (n - k) (l.drop k) := by
  have := Reads.cut h hk hc
  simp only [Nat.mul_one, ← bvs_drop] at this
  exact this
theorem Rd.take (h : Rd w B A n l) {k : Nat} (hk : k ≤ n) : Rd w B A k (l.take k) := by
  have := Reads.take h hk
  simp only [Nat.mul_one, ← bvs_take] at this
  exact this
theorem Rd.up (h : Rd w w.heap.size A n l) (hb : Below w.heap.size w w') : Rd w' w'.heap.size A n l := (h.below hb).more hb.size
theorem Rd.mid {i j : Nat} (h : Rd w B A n l) (hij : i + j ≤ n) (hc : n ≤ c) : Rd w B (if c = i then A else A.map (·.add i)) j ((l.drop i).take j) := by
  have h1 := h.cut (k := i) (cap := c) (by omega) hc
  exact h1.take (by omega)
theorem Own.rd (h : Own w base A n c l) : Rd w w.heap.size A n l := Reads.of_own h
theorem Own.len (h : Own w base A n c l) : l.length = n := by have := h.1; rw [bvs_length] at this; omega
theorem Own.nil_ (w : World) (base : Nat) : Own w base none 0 0 [] := World.ownsRow_nil _ _ _ _
theorem Own.alloc (h : Own w base A n c l) (o : Obj) : Own (w.alloc o) base A n c l := World.ownsRow.alloc h o
theorem Own.drew (h : Own w base A n c l) : Own w.drew base A n c l := h
theorem Own.drewN (h : Own w base A n c l) (k : Nat) : Own (w.drewN k) base A n c l := h
theorem Own.kept {row : Option Nat} (h : Own w base A n c l) (hg : w.grownBy w' row) (hne : (Value.slice A n c).ownBlock = none ∨ (Value.slice A n c).ownBlock ≠ row) : Own w' base A n c l := World.ownsRow.kept h hg hne
theorem Own.below (h : Own w base A n c l) (hb : Below w.heap.size w w') : Own w' base A n c l :=
  World.ownsRow.kept h (row := none) ⟨hb.os, hb.tape, hb.output, hb.size, fun k hk _ => hb.block k hk⟩ (by cases (Value.slice A n c).ownBlock <;> simp)
theorem Own.lo (h : Own w base A n c l) : ∀ k, (Value.slice A n c).ownBlock = some k → base ≤ k := fun k hk => (World.ownsRow.lt h k hk).1
theorem Own.cap_ (h : Own w base A n c l) : n ≤ c := by
  rcases h.2 with ⟨hv, h0⟩ | ⟨g, cap, cur, hv, _, _, hle, _⟩
  · injection hv with _ h1 h2; omega
  · injection hv with _ h1 h2; omega
end

/-- A new block of one, two, four bytes reads as these. -/
theorem Rd.lit (w : World) (xs : List Int) (n : Nat) (hn : xs.length = n) (h : ∀ x ∈ xs, 0 ≤ x ∧ x ≤ 255) :
    Rd (w.alloc (.cells (xs.map (Value.int .u8)).toArray 5)) (w.heap.size + 1) (some ⟨w.heap.size, 0, none⟩) n (xs.map b8) := by
  have e : bvs (xs.map b8) = xs.map (Value.int .u8) := by
    unfold bvs
    rw [List.map_map]
    refine List.map_congr_left fun x hx => ?_
    exact u8v_b8 x (h x hx).1 (h x hx).2
  refine ⟨by rw [bvs_length]; simp [hn], fun _ => ⟨_, 0, rfl, by simp, fun j u hu => ?_⟩⟩
  rw [e] at hu
  rw [Nat.zero_add, World.cell?_alloc_at _ _ _ _ rfl]
  simpa using hu
theorem Rd.lit1 (w : World) (x : Int) (h : 0 ≤ x ∧ x ≤ 255) : Rd (w.alloc (.cells #[.int .u8 x] 5)) (w.heap.size + 1) (some ⟨w.heap.size, 0, none⟩) 1 [b8 x] :=
  Rd.lit w [x] 1 rfl (by simpa using h)
theorem Rd.lit2 (w : World) (x y : Int) (h : 0 ≤ x ∧ x ≤ 255) (k : 0 ≤ y ∧ y ≤ 255) : Rd (w.alloc (.cells #[.int .u8 x, .int .u8 y] 5)) (w.heap.size + 1) (some ⟨w.heap.size, 0, none⟩) 2 [b8 x, b8 y] :=
  Rd.lit w [x, y] 2 rfl (by simp; omega)

theorem Own.lit (w : World) (base : Nat) (hb : base ≤ w.heap.size) (xs : List Int) (n : Nat) (hn : xs.length = n) (hm : n ≤ 1000000) (h : ∀ x ∈ xs, 0 ≤ x ∧ x ≤ 255) :
    Own (w.alloc (.cells (xs.map (Value.int .u8)).toArray 5)) base (some ⟨w.heap.size, 0, none⟩) n n (xs.map b8) := by
  have e : bvs (xs.map b8) = xs.map (Value.int .u8) := by
    unfold bvs
    rw [List.map_map]
    refine List.map_congr_left fun x hx => ?_
    exact u8v_b8 x (h x hx).1 (h x hx).2
  have := World.ownsRow_lit (base := base) (e := 5) (size := 1) w (xs.map (Value.int .u8)).toArray n hb (by unfold maxLen; omega) (by simp [hn])
  unfold Own
  rw [e]
  simpa using this
theorem Own.lit1 (w : World) (base : Nat) (hb : base ≤ w.heap.size) (x : Int) (h : 0 ≤ x ∧ x ≤ 255) : Own (w.alloc (.cells #[.int .u8 x] 5)) base (some ⟨w.heap.size, 0, none⟩) 1 1 [b8 x] :=
  Own.lit w base hb [x] 1 rfl (by omega) (by simpa using h)
/-- append of bytes onto bytes of the call's own. -/
theorem run_app {w : World} {base : Nat} {A : Option Addr} {n c : Nat} {l : List UInt8} (hown : Own w base A n c l)
    {B : Nat} {A2 : Option Addr} {m c2 : Nat} {l2 : List UInt8} (hr : Rd w B A2 m l2) (hsz : n + m ≤ 1000000000000) (hbase : base ≤ w.heap.size) (ty : TypeId) :
    ∃ A' c' w', (Builtin.append_ #[23, 23] ty #[.slice A n c, .slice A2 m c2]).run Tryd.prog w = .ok (.slice A' (n + m) c') w' ∧ Own w' base A' (n + m) c' (l ++ l2) ∧ w.grownBy w' (Value.slice A n c).ownBlock ∧
      ((Value.slice A' (n + m) c').ownBlock = (Value.slice A n c).ownBlock ∨ (Value.slice A' (n + m) c').ownBlock = some w.heap.size) ∧ (A' = none ↔ A = none ∧ m = 0) := by
  obtain ⟨i0, hi, hz0, hz1, hz2⟩ := info_parts u8info
  obtain ⟨v', w', hrun, h2, h3, h4, h5⟩ := run_append_any (P := Tryd.prog) w base 23 ty 5 i0 (.int .u8 0) 1 1 Tryd.underlying23 hi hz0 hz1 hz2 rfl (by omega) _ n _ hown B A2 m c2 _ hr (bvs_one l2) (by unfold maxLen; omega) (by omega) hbase
  obtain ⟨A', c', rfl⟩ := own_slice h2
  refine ⟨A', c', w', hrun, by unfold Own; rw [bvs_append]; exact h2, h3, h4, ?_⟩
  have hx1 := h2.2
  have hx0 := hown.2
  constructor
  · rintro rfl
    have : Value.slice none (n + m) c' = .slice none 0 0 := by
      rcases hx1 with ⟨e, _⟩ | ⟨g, cap, cur, e, _⟩
      · exact e
      · simp at e
    obtain ⟨e1, e2⟩ := h5.1 this
    injection e1 with e1
    exact ⟨e1, e2⟩
  · rintro ⟨rfl, rfl⟩
    have : Value.slice none n c = .slice none 0 0 := by
      rcases hx0 with ⟨e, _⟩ | ⟨g, cap, cur, e, _⟩
      · exact e
      · simp at e
    have := h5.2 ⟨this, rfl⟩
    injection this

set_option maxRecDepth 100000 in
theorem wp_app {o : Oper} {a : Act} {w : World} {K : Act → World → Prop} {Q : Exit → Act → World → Prop} (s x : Operand)
    (ho : o.op = .call { callee := .builtin .append, args := #[s, x], argTypes := #[23, 23] })
    {base : Nat} {A : Option Addr} {n c : Nat} {l : List UInt8} (hs : a.eval s = .slice A n c) (hown : Own w base A n c l)
    {B : Nat} {A2 : Option Addr} {m c2 : Nat} {l2 : List UInt8} (hx : a.eval x = .slice A2 m c2) (hr : Rd w B A2 m l2) (hsz : n + m ≤ 1000000000000) (hbase : base ≤ w.heap.size)
    (h : ∀ A' c' w', Own w' base A' (n + m) c' (l ++ l2) → w.grownBy w' (Value.slice A n c).ownBlock → K (a.put o.dst (.slice A' (n + m) c')) w') : o.wp Tryd.prog a w K Q := by
  obtain ⟨A', c', w', hrun, h2, h3, _⟩ := run_app (c2 := c2) hown hr hsz hbase o.type
  unfold Oper.wp execOp
  simp only [ho, resolve, invoke, builtin, Sem.run_bind, Sem.run_pure, Result.andThen_ok, List.map_toArray, List.map_cons, List.map_nil, hs, hx, hrun]
  exact h A' c' w' h2 h3

set_option maxRecDepth 100000 in
theorem wpList_app {ops : Array Oper} {rest : List Oper} {o : Oper} {a : Act} {w : World} {Q : Exit → Act → World → Prop} (hgd : o.guard = none) (s x : Operand)
    (ho : o.op = .call { callee := .builtin .append, args := #[s, x], argTypes := #[23, 23] })
    {base : Nat} {A : Option Addr} {n c : Nat} {l : List UInt8} (hs : a.eval s = .slice A n c) (hown : Own w base A n c l)
    {B : Nat} {A2 : Option Addr} {m c2 : Nat} {l2 : List UInt8} (hx : a.eval x = .slice A2 m c2) (hr : Rd w B A2 m l2) (hsz : n + m ≤ 1000000000000) (hbase : base ≤ w.heap.size)
    (h : ∀ A' c' w', Own w' base A' (n + m) c' (l ++ l2) → w.grownBy w' (Value.slice A n c).ownBlock → wpList Tryd.prog ops Q rest (a.put o.dst (.slice A' (n + m) c')) w') : wpList Tryd.prog ops Q (o :: rest) a w :=
  wpList_plain hgd fun _ hK => wp_app s x ho hs hown hx hr hsz hbase fun A' c' w' h2 h3 => hK _ _ (h A' c' w' h2 h3)
set_option maxRecDepth 100000 in
theorem step_app {ops : Array Oper} {o : Oper} {a : Act} {w : World} {K : Act → World → Prop} {Q : Exit → Act → World → Prop} {E : Prop} (hgd : o.guard = none) (s x : Operand)
    (ho : o.op = .call { callee := .builtin .append, args := #[s, x], argTypes := #[23, 23] })
    {base : Nat} {A : Option Addr} {n c : Nat} {l : List UInt8} (hs : a.eval s = .slice A n c) (hown : Own w base A n c l)
    {B : Nat} {A2 : Option Addr} {m c2 : Nat} {l2 : List UInt8} (hx : a.eval x = .slice A2 m c2) (hr : Rd w B A2 m l2) (hsz : n + m ≤ 1000000000000) (hbase : base ≤ w.heap.size)
    (h : ∀ A' c' w', Own w' base A' (n + m) c' (l ++ l2) → w.grownBy w' (Value.slice A n c).ownBlock → K (a.put o.dst (.slice A' (n + m) c')) w') :
    if Region.wanted o (yielded ops a.tmps) = true then Oper.wp Tryd.prog o a w K Q else E := by
  have hw : Region.wanted o (yielded ops a.tmps) = true := by simp [Region.wanted, hgd]
  rw [if_pos hw]
  exact wp_app s x ho hs hown hx hr hsz hbase h

set_option maxRecDepth 100000 in
/-- make([]byte, n) -/
theorem wpList_mk {ops : Array Oper} {rest : List Oper} {o : Oper} {a : Act} {w : World} {Q : Exit → Act → World → Prop} (hgd : o.guard = none) (l c : Operand) (ho : o.op = Op.makeSlice 23 l c)
    {kl kc : IntKind} {L C : Int} {n : Nat} (hl : a.eval l = .int kl L) (hc : a.eval c = .int kc C) (hL : L = (n : Int)) (hC : C = (n : Int)) (hn : n ≤ 1000000000000) {base : Nat} (hbase : base ≤ w.heap.size)
    (h : ∀ w', Own w' base (some ⟨w.heap.size, 0, none⟩) n n (List.replicate n 0) → w.grownBy w' none → wpList Tryd.prog ops Q rest (a.put o.dst (.slice (some ⟨w.heap.size, 0, none⟩) n n)) w') : wpList Tryd.prog ops Q (o :: rest) a w := by
  obtain ⟨i0, hi, hz0, hz1, hz2⟩ := info_parts u8info
  refine wpList_make_full w hgd l c 23 ho base 5 i0 (.int .u8 0) 1 Tryd.underlying23 hi hz0 hz1 kl kc L C n hl hc hL hC (by rw [hz2]; omega) (by unfold maxLen; omega) hbase fun w' h1 h2 => h w' ?_ h2
  unfold Own
  have e : bvs (List.replicate n 0) = (madeCells (Value.int .u8 0).cells (n * 1)).toList := by
    rw [Nat.mul_one]
    show _ = (madeCells #[Value.int .u8 0] n).toList
    rw [toList_madeCells_one]
    unfold bvs
    rw [List.map_replicate]
    rfl
  rw [e]
  exact h1
section
variable {w w' : World} {base n c g : Nat} {l : List UInt8}
/-- A byte of the call's own is written. -/
theorem Own.set (h : Own w base (some ⟨g, 0, none⟩) n c l) {j : Nat} {x : Int} (h0 : 0 ≤ x) (h1 : x ≤ 255) : Own (w.setCell ⟨g, j, none⟩ (.int .u8 x)) base (some ⟨g, 0, none⟩) n c (l.set j (b8 x)) := by
  have := (World.ownsRow.stored (g := g) (cap := c) h j (.int .u8 x)).1
  unfold Own
  have e : bvs (l.set j (b8 x)) = (bvs l).set j (.int .u8 x) := by
    unfold bvs
    rw [List.map_set, u8v_b8 x h0 h1]
  rw [e]
  exact this
theorem Own.cell (h : Own w base (some ⟨g, 0, none⟩) n c l) {j : Nat} (hj : j < n) : w.cell? ⟨g, j, none⟩ = some (.int .u8 (at8 l j)) := by
  rw [World.ownsRow.cellAt (g := g) (cap := c) h j (by omega), bvs_get l j (by rw [h.len]; exact hj)]
theorem Own.free (h : Own w base (some ⟨g, 0, none⟩) n c l) (j : Nat) : w.frozen? ⟨g, j, none⟩ = false := World.ownsRow.frozenAt (g := g) (cap := c) h j
end
end Go.Proofs.YtdlljmmgkoeilaaDoor
namespace Go.Proofs.YtdlljmmgkoeilaaDoor
open Go.RowKit

theorem slA0 (A : Option Addr) (m s : Nat) : slA A m 0 s = A := by
  unfold slA
  split
  · rfl
  · cases A <;> simp [Addr.add]
/-- What a cell reads as: a value; a slice of so many elements, of so many cells each, told one behind the other. -/
inductive D where
  | v (x : Value)
  | sl (s n : Nat) (l : List D)

mutual
def RdD (W : World) (F : Nat → Prop) : D → Value → Prop
  | .v x, u => u = x
  | .sl s n l, u => ∃ A c cs, u = .slice A n c ∧ n ≤ c ∧ l.length = n * s ∧ RdL W F l cs ∧ (0 < n → ∃ b off, A = some ⟨b, off, none⟩ ∧ F b ∧ ∀ j x, cs[j]? = some x → W.cell? ⟨b, off + j, none⟩ = some x)
def RdL (W : World) (F : Nat → Prop) : List D → List Value → Prop
  | [], cs => cs = []
  | d :: ds, cs => ∃ u us, cs = u :: us ∧ RdD W F d u ∧ RdL W F ds us
end
section
variable {W W' : World} {F F' : Nat → Prop}
mutual
theorem RdD.to (h : ∀ b, F b → W'.heap[b]? = W.heap[b]? ∧ F' b) : ∀ {d : D} {u : Value}, RdD W F d u → RdD W' F' d u
  | .v x, u, hd => by unfold RdD at hd ⊢; exact hd
  | .sl s n l, u, hd => by
    unfold RdD at hd ⊢
    obtain ⟨A, c, cs, h1, h2, h3, h4, h5⟩ := hd
    refine ⟨A, c, cs, h1, h2, h3, RdL.to h h4, fun hn => ?_⟩
    obtain ⟨b, off, h6, h7, h8⟩ := h5 hn
    exact ⟨b, off, h6, (h b h7).2, fun j x hx => (World.cell?_of_block (w := W) (a := ⟨b, off + j, none⟩) (h b h7).1).trans (h8 j x hx)⟩
theorem RdL.to (h : ∀ b, F b → W'.heap[b]? = W.heap[b]? ∧ F' b) : ∀ {ds : List D} {cs : List Value}, RdL W F ds cs → RdL W' F' ds cs
  | [], cs, hd => by unfold RdL at hd ⊢; exact hd
  | d :: ds, cs, hd => by
    unfold RdL at hd ⊢
    obtain ⟨u, us, h1, h2, h3⟩ := hd
    exact ⟨u, us, h1, RdD.to h h2, RdL.to h h3⟩
end
theorem RdL.nil_ : RdL W F [] [] := by unfold RdL; rfl
theorem RdL.cons {d : D} {u : Value} {ds : List D} {us : List Value} (h : RdD W F d u) (hs : RdL W F ds us) : RdL W F (d :: ds) (u :: us) := by unfold RdL; exact ⟨u, us, rfl, h, hs⟩
theorem RdL.uncons {d : D} {ds : List D} {cs : List Value} (h : RdL W F (d :: ds) cs) : ∃ u us, cs = u :: us ∧ RdD W F d u ∧ RdL W F ds us := by unfold RdL at h; exact h
theorem RdL.isnil {cs : List Value} (h : RdL W F [] cs) : cs = [] := by unfold RdL at h; exact h
theorem RdD.val {x u : Value} : RdD W F (.v x) u ↔ u = x := by unfold RdD; exact Iff.rfl
theorem RdD.ofv (x : Value) : RdD W F (.v x) x := RdD.val.2 rfl
theorem RdL.len : ∀ {ds : List D} {cs : List Value}, RdL W F ds cs → cs.length = ds.length
  | [], cs, h => by rw [h.isnil]; rfl
  | d :: ds, cs, h => by obtain ⟨u, us, rfl, _, h2⟩ := h.uncons; simp [RdL.len h2]
theorem RdL.get : ∀ {ds : List D} {cs : List Value} {i : Nat} {d : D}, RdL W F ds cs → ds[i]? = some d → ∃ u, cs[i]? = some u ∧ RdD W F d u
  | [], cs, i, d, h, hi => by simp at hi
  | d0 :: ds, cs, 0, d, h, hi => by
    obtain ⟨u, us, rfl, h1, _⟩ := h.uncons
    simp at hi; subst hi
    exact ⟨u, rfl, h1⟩
  | d0 :: ds, cs, i + 1, d, h, hi => by
    obtain ⟨u, us, rfl, _, h2⟩ := h.uncons
    simpa using RdL.get h2 (by simpa using hi)
theorem RdL.app : ∀ {d1 d2 : List D} {c1 c2 : List Value}, RdL W F d1 c1 → RdL W F d2 c2 → RdL W F (d1 ++ d2) (c1 ++ c2)
  | [], d2, c1, c2, h1, h2 => by rw [h1.isnil]; exact h2
  | d :: d1, d2, c1, c2, h1, h2 => by
    obtain ⟨u, us, rfl, h3, h4⟩ := h1.uncons
    exact RdL.cons h3 (RdL.app h4 h2)
theorem RdL.drop : ∀ {ds : List D} {cs : List Value} (i : Nat), RdL W F ds cs → RdL W F (ds.drop i) (cs.drop i)
  | ds, cs, 0, h => by simpa using h
  | [], cs, i + 1, h => by rw [h.isnil]; simpa using RdL.nil_
  | d :: ds, cs, i + 1, h => by
    obtain ⟨u, us, rfl, _, h2⟩ := h.uncons
    simpa using RdL.drop i h2
theorem RdL.take : ∀ {ds : List D} {cs : List Value} (i : Nat), RdL W F ds cs → RdL W F (ds.take i) (cs.take i)
  | ds, cs, 0, h => by simpa using RdL.nil_
  | [], cs, i + 1, h => by rw [h.isnil]; simpa using RdL.nil_
  | d :: ds, cs, i + 1, h => by
    obtain ⟨u, us, rfl, h1, h2⟩ := h.uncons
    simpa using RdL.cons h1 (RdL.take i h2)
theorem RdL.split {d1 d2 : List D} {cs : List Value} (h : RdL W F (d1 ++ d2) cs) : ∃ c1 c2, cs = c1 ++ c2 ∧ RdL W F d1 c1 ∧ RdL W F d2 c2 := by
  refine ⟨cs.take d1.length, cs.drop d1.length, (List.take_append_drop _ _).symm, ?_, ?_⟩
  · simpa using h.take d1.length
  · simpa using h.drop d1.length
theorem RdL.vals : ∀ {xs cs : List Value}, RdL W F (xs.map D.v) cs → cs = xs
  | [], cs, h => h.isnil
  | x :: xs, cs, h => by
    obtain ⟨u, us, rfl, h1, h2⟩ := h.uncons
    rw [RdD.val.1 h1, RdL.vals h2]
theorem RdL.ofvals : ∀ (xs : List Value), RdL W F (xs.map D.v) xs
  | [] => RdL.nil_
  | x :: xs => RdL.cons (RdD.ofv x) (RdL.ofvals xs)
theorem RdL.one {d : D} {u : Value} (h : RdD W F d u) : RdL W F [d] [u] := RdL.cons h RdL.nil_
theorem RdL.set : ∀ {ds : List D} {cs : List Value} (i : Nat) {d : D} {u : Value}, RdL W F ds cs → RdD W F d u → RdL W F (ds.set i d) (cs.set i u)
  | [], cs, i, d, u, h, hd => by rw [h.isnil]; simpa using RdL.nil_
  | d0 :: ds, cs, 0, d, u, h, hd => by
    obtain ⟨u0, us, rfl, h1, h2⟩ := h.uncons
    exact RdL.cons hd h2
  | d0 :: ds, cs, i + 1, d, u, h, hd => by
    obtain ⟨u0, us, rfl, h1, h2⟩ := h.uncons
    exact RdL.cons h1 (RdL.set i h2 hd)

theorem RdD.sl_iff {s n : Nat} {l : List D} {u : Value} : RdD W F (.sl s n l) u ↔ ∃ A c cs, u = .slice A n c ∧ n ≤ c ∧ l.length = n * s ∧ RdL W F l cs ∧ (0 < n → ∃ b off, A = some ⟨b, off, none⟩ ∧ F b ∧ ∀ j x, cs[j]? = some x → W.cell? ⟨b, off + j, none⟩ = some x) := by
  rw [RdD]
/-- A slice opened. -/
theorem RdD.open_ {s n : Nat} {l : List D} {u : Value} (h : RdD W F (.sl s n l) u) : ∃ A c, u = .slice A n c ∧ n ≤ c ∧ l.length = n * s := by
  obtain ⟨A, c, cs, h1, h2, h3, _⟩ := RdD.sl_iff.1 h
  exact ⟨A, c, h1, h2, h3⟩
theorem RdD.len {s n : Nat} {l : List D} {u : Value} (h : RdD W F (.sl s n l) u) : l.length = n * s := by
  obtain ⟨A, c, h1, h2, h3⟩ := h.open_
  exact h3
/-- An element of a slice. -/
theorem RdD.at_ {s n n' c i : Nat} {l : List D} {A : Option Addr} (h : RdD W F (.sl s n l) (.slice A n' c)) (hi : i < n') :
    ∃ b off es, A = some ⟨b, off, none⟩ ∧ F b ∧ RdL W F ((l.drop (i * s)).take s) es ∧ es.length = s ∧ ∀ j x, es[j]? = some x → W.cell? ⟨b, off + i * s + j, none⟩ = some x := by
  obtain ⟨A', c', cs, h1, h2, h3, h4, h5⟩ := RdD.sl_iff.1 h
  injection h1 with e1 en _
  subst e1; subst en
  obtain ⟨b, off, h6, h7, h8⟩ := h5 (by omega)
  refine ⟨b, off, (cs.drop (i * s)).take s, h6, h7, (h4.drop _).take _, ?_, fun j x hx => ?_⟩
  · rw [List.length_take, List.length_drop, h4.len, h3]
    have : i * s + s ≤ n' * s := by
      have := Nat.mul_le_mul_right s (show i + 1 ≤ n' by omega)
      rw [Nat.add_mul, Nat.one_mul] at this; exact this
    omega
  · rw [List.getElem?_take] at hx
    split at hx
    · rw [List.getElem?_drop] at hx
      rw [Nat.add_assoc]
      exact h8 _ _ hx
    · cases hx
/-- A slice cut. -/
theorem RdD.cut {s n n' c i j m : Nat} {l : List D} {A : Option Addr} (h : RdD W F (.sl s n l) (.slice A n' c)) (hij : i ≤ j) (hj : j ≤ n') (hm : j ≤ m) : RdD W F (.sl s (j - i) ((l.drop (i * s)).take ((j - i) * s))) (.slice (slA A m i s) (j - i) (m - i)) := by
  obtain ⟨A', c', cs, h1, h2, h3, h4, h5⟩ := RdD.sl_iff.1 h
  injection h1 with e1 en _
  subst e1; subst en
  refine RdD.sl_iff.2 ⟨_, _, _, rfl, by omega, ?_, (h4.drop _).take _, fun hn => ?_⟩
  · rw [List.length_take, List.length_drop, h3]
    have : j * s ≤ n' * s := Nat.mul_le_mul_right s hj
    rw [Nat.sub_mul]
    omega
  · obtain ⟨b, off, h6, h7, h8⟩ := h5 (by omega)
    subst h6
    have hne : m ≠ i := by omega
    refine ⟨b, off + i * s, by unfold slA; rw [if_neg hne]; simp [Addr.add_lit], h7, fun k x hx => ?_⟩
    rw [List.getElem?_take] at hx
    split at hx
    · rw [List.getElem?_drop] at hx
      rw [Nat.add_assoc]
      exact h8 _ _ hx
    · cases hx
theorem RdD.nil_ {s : Nat} (A : Option Addr) (c : Nat) : RdD W F (.sl s 0 []) (.slice A 0 c) := RdD.sl_iff.2 ⟨A, c, [], rfl, Nat.zero_le _, by simp, RdL.nil_, fun h => absurd h (by omega)⟩

theorem RdD.slen {s n n' c : Nat} {l : List D} {A : Option Addr} (h : RdD W F (.sl s n l) (.slice A n' c)) : n' = n := by
  obtain ⟨A', c2, h1, _⟩ := h.open_
  injection h1
theorem RdD.scap {s n n' c : Nat} {l : List D} {A : Option Addr} (h : RdD W F (.sl s n l) (.slice A n' c)) : n' ≤ c := by
  obtain ⟨A', c2, h1, h2, _⟩ := h.open_
  injection h1; omega
theorem RdD.none0 {s n n' c : Nat} {l : List D} {A : Option Addr} (h : RdD W F (.sl s n l) (.slice A n' c)) (hA : A = none) : n' = 0 := by
  have hs := h.slen
  obtain ⟨A', c2, cs, h1, h2, h3, h4, h5⟩ := RdD.sl_iff.1 h
  injection h1 with e1 _ _
  subst e1; subst hs
  rcases Nat.eq_zero_or_pos n' with h0 | h0
  · exact h0
  · obtain ⟨b, off, h6, _⟩ := h5 h0
    rw [hA] at h6; cases h6
/-- Another capacity. -/
theorem RdD.cap {s n n' c c' : Nat} {l : List D} {A : Option Addr} (h : RdD W F (.sl s n l) (.slice A n' c)) (hc : n' ≤ c') : RdD W F (.sl s n l) (.slice A n' c') := by
  have hs := h.slen
  obtain ⟨A', c2, cs, h1, h2, h3, h4, h5⟩ := RdD.sl_iff.1 h
  injection h1 with e1 _ _
  subst e1; subst hs
  exact RdD.sl_iff.2 ⟨_, _, cs, rfl, hc, h3, h4, h5⟩
/-- Bytes. -/
def dB (l : List UInt8) : D := .sl 1 l.length ((bvs l).map D.v)
theorem RdD.bytes {l : List UInt8} {u : Value} (h : RdD W F (dB l) u) (hF : ∀ b, F b → b < W.heap.size) : ∃ A c, u = .slice A l.length c ∧ l.length ≤ c ∧ Rd W W.heap.size A l.length l := by
  obtain ⟨A, c, cs, h1, h2, h3, h4, h5⟩ := RdD.sl_iff.1 h
  rw [h4.vals] at h5
  refine ⟨A, c, h1, h2, by rw [bvs_length]; omega, fun hn => ?_⟩
  obtain ⟨b, off, h6, h7, h8⟩ := h5 hn
  exact ⟨b, off, h6, hF b h7, h8⟩
/-- Bytes cut. -/
theorem RdD.cutB {l : List UInt8} {A : Option Addr} {n c i j m : Nat} (h : RdD W F (dB l) (.slice A n c)) (hij : i ≤ j) (hj : j ≤ n) (hm : j ≤ m) : RdD W F (dB ((l.drop i).take (j - i))) (.slice (slA A m i 1) (j - i) (m - i)) := by
  have hn := h.slen
  have h2 := h.cut hij hj hm
  have e : dB ((l.drop i).take (j - i)) = D.sl 1 (j - i) ((((bvs l).map D.v).drop (i * 1)).take ((j - i) * 1)) := by
    unfold dB
    rw [Nat.mul_one, Nat.mul_one, List.length_take, List.length_drop, ← hn, Nat.min_eq_left (by omega), ← List.map_drop, ← List.map_take, bvs_take, bvs_drop]
  rw [e]; exact h2
theorem RdD.rd {l : List UInt8} {A : Option Addr} {n c : Nat} (h : RdD W F (dB l) (.slice A n c)) (hF : ∀ b, F b → b < W.heap.size) : n = l.length ∧ n ≤ c ∧ Rd W W.heap.size A n l := by
  obtain ⟨A', c', e1, e2, e3⟩ := h.bytes hF
  injection e1 with e1 e4 e5
  subst e1; subst e4; subst e5
  exact ⟨rfl, e2, e3⟩
theorem RdD.ofbytes {l : List UInt8} {A : Option Addr} {n c B : Nat} (h : Rd W B A n l) (hc : n ≤ c) (hF : ∀ b off, A = some ⟨b, off, none⟩ → b < B → F b) : RdD W F (dB l) (.slice A n c) := by
  have hl := h.len
  subst hl
  refine RdD.sl_iff.2 ⟨A, c, bvs l, rfl, hc, by simp [bvs_length], RdL.ofvals _, fun hn => ?_⟩
  obtain ⟨b, off, h6, h7, h8⟩ := h.2 hn
  exact ⟨b, off, h6, hF b off h6 h7, h8⟩
end

/-- The block of a slice. -/
def bk (A : Option Addr) : Option Nat := A.map (·.block)
theorem own_bk (A : Option Addr) (n c : Nat) : (Value.slice A n c).ownBlock = bk A := by cases A <;> rfl
/-- Blocks that are there, and not among those that are still written. -/
def Fd (W : World) (gs : List (Option Nat)) (b : Nat) : Prop := b < W.heap.size ∧ some b ∉ gs
theorem Fd.lt {W : World} {gs : List (Option Nat)} : ∀ b, Fd W gs b → b < W.heap.size := fun _ h => h.1
/-- New blocks. -/
def Thaw (W : World) (b : Nat) : Prop := ∀ cs T z, W.heap[b]? = some (.cells cs T z) → z = (0, 0)
theorem Thaw.same {W W' : World} {b : Nat} (h : Thaw W b) (e : W'.heap[b]? = W.heap[b]?) : Thaw W' b := fun cs T z hc => h cs T z (e ▸ hc)
theorem Thaw.of {W : World} {b : Nat} {cs : Array Value} {T : TypeId} (h : W.heap[b]? = some (.cells cs T)) : Thaw W b := fun cs' T' z hc => by rw [h] at hc; injection hc with hc; injection hc with _ _ hc; exact hc.symm
theorem Thaw.free {W : World} {b : Nat} (h : Thaw W b) (i : Nat) : W.frozen? ⟨b, i, none⟩ = false := by
  unfold World.frozen?
  cases hc : W.heap[b]? with
  | none => simp [hc]
  | some o =>
    cases o with
    | cells cs T z =>
      have e := h cs T z hc
      subst e
      simp [hc]
    | _ => simp [hc]
theorem row_thaw {W : World} {base n c s : Nat} {e : TypeId} {A : Option Addr} {xs : List Value} (h : W.ownsRow base e s (.slice A n c) n xs) {b : Nat} (hA : bk A = some b) : Thaw W b := by
  rcases h.2 with ⟨hv, h0⟩ | ⟨g, cap, cur, hv, _, hh, _⟩
  · injection hv with e1
    subst e1
    cases hA
  · injection hv with e1
    subst e1
    have : g = b := by simpa [bk] using hA
    subst this
    exact Thaw.of hh
def Fr (w W : World) (b : Nat) : Prop := w.heap.size ≤ b ∧ b < W.heap.size ∧ Thaw W b
/-- From one world to the next: what is not among gs stays; among gs' are no others of these. -/
structure Stp (W : World) (gs : List (Option Nat)) (W' : World) (gs' : List (Option Nat)) : Prop where
  size : W.heap.size ≤ W'.heap.size
  block : ∀ b, b < W.heap.size → some b ∉ gs → W'.heap[b]? = W.heap[b]?
  own : ∀ b, b < W.heap.size → some b ∈ gs' → some b ∈ gs
section
variable {w W W' W'' : World} {gs gs' gs'' : List (Option Nat)}
theorem RdL.up {ds : List D} {cs : List Value} (h : RdL W (Fd W gs) ds cs) (s : Stp W gs W' gs') : RdL W' (Fd W' gs') ds cs :=
  h.to fun b hb => ⟨s.block b hb.1 hb.2, by have := s.size; have := hb.1; omega, fun e => hb.2 (s.own b hb.1 e)⟩
theorem RdD.up {d : D} {u : Value} (h : RdD W (Fd W gs) d u) (s : Stp W gs W' gs') : RdD W' (Fd W' gs') d u :=
  h.to fun b hb => ⟨s.block b hb.1 hb.2, by have := s.size; have := hb.1; omega, fun e => hb.2 (s.own b hb.1 e)⟩
theorem Stp.refl : Stp W gs W gs := ⟨Nat.le_refl _, fun _ _ _ => rfl, fun _ _ h => h⟩
theorem Stp.trans (h : Stp W gs W' gs') (k : Stp W' gs' W'' gs'') : Stp W gs W'' gs'' :=
  ⟨Nat.le_trans h.size k.size, fun b hb hg => (k.block b (by have := h.size; omega) (fun e => hg (h.own b hb e))).trans (h.block b hb hg), fun b hb e => h.own b hb (k.own b (by have := h.size; omega) e)⟩
theorem Stp.below (hb : Below W.heap.size W W') : Stp W gs W' gs := ⟨hb.size, fun b h _ => hb.block b h, fun _ _ h => h⟩
/-- One more that is written from here on. -/
theorem Stp.new {g : Option Nat} (hb : Below W.heap.size W W') (hg : ∀ b, g = some b → W.heap.size ≤ b) : Stp W gs W' (g :: gs) :=
  ⟨hb.size, fun b h _ => hb.block b h, fun b h e => by
    rcases List.mem_cons.1 e with e | e
    · have := hg b e.symm; omega
    · exact e⟩
/-- One is written. -/
theorem Stp.wrote {r : Option Nat} (hg : W.grownBy W' r) (hr : r ∈ gs) : Stp W gs W' gs :=
  ⟨hg.size, fun b h hn => hg.block b h (fun e => hn (e ▸ hr)), fun _ _ h => h⟩
/-- append: the first of those that are written is written, or another one takes its place. -/
theorem Stp.app {r r' : Option Nat} (hg : W.grownBy W' r) (hr : ∀ b, r' = some b → r' = r ∨ W.heap.size ≤ b) : Stp W (r :: gs) W' (r' :: gs) :=
  ⟨hg.size, fun b h hn => hg.block b h (fun e => hn (by simp [e])), fun b h e => by
    rcases List.mem_cons.1 e with e | e
    · rcases hr b e.symm with h2 | h2
      · rw [e, h2]; simp
      · omega
    · simp [e]⟩
/-- The first one is written no more. -/
theorem Stp.drop {g : Option Nat} : Stp W (g :: gs) W gs := ⟨Nat.le_refl _, fun _ _ _ => rfl, fun b _ e => by simp [e]⟩
theorem Stp.drew : Stp W gs W.drew gs := ⟨Nat.le_refl _, fun _ _ _ => rfl, fun _ _ h => h⟩

/-- Where a call stands: of what was there nothing has turned; what it writes is there. -/
structure At (w : World) (W : World) (gs : List (Option Nat)) : Prop where
  below : Below w.heap.size w W
  lt : ∀ b, some b ∈ gs → b < W.heap.size
theorem At.start (h : ∀ b, some b ∈ gs → b < w.heap.size) : At w w gs := ⟨Below.refl _ _, h⟩
theorem At.size (h : At w W gs) : w.heap.size ≤ W.heap.size := h.below.size
theorem At.drew (h : At w W gs) : At w W.drew gs := ⟨h.below.drew, h.lt⟩
/-- Behind a call. -/
theorem At.call (h : At w W gs) (hb : Below W.heap.size W W') : At w W' gs := ⟨h.below.trans (hb.mono h.below.size), fun b e => by have := h.lt b e; have := hb.size; omega⟩
theorem At.new {g : Option Nat} (h : At w W gs) (hb : Below W.heap.size W W') (hg : ∀ b, g = some b → b < W'.heap.size) : At w W' (g :: gs) := ⟨(h.call hb).below, fun b e => by
    rcases List.mem_cons.1 e with e | e
    · exact hg b e.symm
    · exact (h.call hb).lt b e⟩
theorem At.wrote {r : Option Nat} (h : At w W gs) (hg : W.grownBy W' r) (hr : ∀ b, r = some b → w.heap.size ≤ b) : At w W' gs :=
  ⟨h.below.grown hg h.below.size hr, fun b e => by have := h.lt b e; have := hg.size; omega⟩
theorem At.app {r r' : Option Nat} (h : At w W (r :: gs)) (hg : W.grownBy W' r) (hr : ∀ b, r = some b → w.heap.size ≤ b) (hr' : ∀ b, r' = some b → b < W'.heap.size) : At w W' (r' :: gs) :=
  ⟨h.below.grown hg h.below.size hr, fun b e => by
    rcases List.mem_cons.1 e with e | e
    · exact hr' b e.symm
    · have := h.lt b (by simp [e]); have := hg.size; omega⟩
theorem At.drop {g : Option Nat} (h : At w W (g :: gs)) : At w W gs := ⟨h.below, fun b e => h.lt b (by simp [e])⟩
/-- What is new is not among those that are written. -/
theorem RdD.fresh {d : D} {u : Value} (h : RdD W' (Fr W W') d u) (hg : ∀ b, some b ∈ gs → b < W.heap.size) : RdD W' (Fd W' gs) d u := h.to fun b hb => ⟨rfl, hb.2.1, fun e => by have := hg b e; have := hb.1; omega⟩
theorem RdL.fresh {ds : List D} {cs : List Value} (h : RdL W' (Fr W W') ds cs) (hg : ∀ b, some b ∈ gs → b < W.heap.size) : RdL W' (Fd W' gs) ds cs := h.to fun b hb => ⟨rfl, hb.2.1, fun e => by have := hg b e; have := hb.1; omega⟩
theorem RdD.any {d : D} {u : Value} (h : RdD W (Fd W gs) d u) : RdD W (Fd W []) d u := h.to fun b hb => ⟨rfl, hb.1, by simp⟩
theorem RdL.any {ds : List D} {cs : List Value} (h : RdL W (Fd W gs) ds cs) : RdL W (Fd W []) ds cs := h.to fun b hb => ⟨rfl, hb.1, by simp⟩
/-- A row of bytes of the call's own, read by itself. -/
theorem Own.frB {base n c : Nat} {A : Option Addr} {l : List UInt8} (h : Own W base A n c l) {F : Nat → Prop} (hF : ∀ b, base ≤ b → b < W.heap.size → bk A = some b → F b) : RdD W F (dB l) (.slice A n c) := by
  refine RdD.ofbytes h.rd h.cap_ fun b off e hb => hF b ?_ hb (by rw [e]; rfl)
  subst e
  exact h.lo b rfl
/-- A row of the call's own, read. -/
theorem rdD_row {base n c s : Nat} {e : TypeId} {A : Option Addr} {xs : List Value} {ds : List D} (h : W.ownsRow base e s (.slice A n c) n xs) {F : Nat → Prop} (hd : RdL W F ds xs) (hF : ∀ b, base ≤ b → b < W.heap.size → (Value.slice A n c).ownBlock = some b → F b) : RdD W F (.sl s n ds) (.slice A n c) := by
  refine RdD.sl_iff.2 ⟨A, c, xs, rfl, ?_, by rw [← hd.len]; exact h.1, hd, fun hn => ?_⟩
  · rcases h.2 with ⟨hv, hn⟩ | ⟨g, cap, cur, hv, _, _, hc, _⟩
    · omega
    · injection hv with _ _ hc'; omega
  · obtain ⟨b, off, e1, e2, e3⟩ := (Reads.of_own h).2 hn
    subst e1
    exact ⟨b, off, rfl, hF b (World.ownsRow.lt h b rfl).1 e2 rfl, e3⟩
/-- New blocks that are not among those that are written. -/
def Fz (base : Nat) (W : World) (gs : List (Option Nat)) (b : Nat) : Prop := base ≤ b ∧ b < W.heap.size ∧ some b ∉ gs ∧ Thaw W b
theorem RdD.upz {base : Nat} {d : D} {u : Value} (h : RdD W (Fz base W gs) d u) (s : Stp W gs W' gs') : RdD W' (Fz base W' gs') d u :=
  h.to fun b hb => ⟨s.block b hb.2.1 hb.2.2.1, hb.1, by have := s.size; have := hb.2.1; omega, fun e => hb.2.2.1 (s.own b hb.2.1 e), hb.2.2.2.same (s.block b hb.2.1 hb.2.2.1)⟩
theorem RdL.upz {base : Nat} {ds : List D} {cs : List Value} (h : RdL W (Fz base W gs) ds cs) (s : Stp W gs W' gs') : RdL W' (Fz base W' gs') ds cs :=
  h.to fun b hb => ⟨s.block b hb.2.1 hb.2.2.1, hb.1, by have := s.size; have := hb.2.1; omega, fun e => hb.2.2.1 (s.own b hb.2.1 e), hb.2.2.2.same (s.block b hb.2.1 hb.2.2.1)⟩
theorem RdD.z0 {base : Nat} {d : D} {u : Value} (h : RdD W (Fz base W gs) d u) : RdD W (Fd W gs) d u := h.to fun b hb => ⟨rfl, hb.2.1, hb.2.2.1⟩
theorem RdL.z0 {base : Nat} {ds : List D} {cs : List Value} (h : RdL W (Fz base W gs) ds cs) : RdL W (Fd W gs) ds cs := h.to fun b hb => ⟨rfl, hb.2.1, hb.2.2.1⟩
/-- What a call has made, and nobody writes. -/
theorem RdL.zfr {base : Nat} {ds : List D} {cs : List Value} (h : RdL W' (Fr W W') ds cs) (hb : base ≤ W.heap.size) (hg : ∀ b, some b ∈ gs → b < W.heap.size) : RdL W' (Fz base W' gs) ds cs := h.to fun b h => ⟨rfl, Nat.le_trans hb h.1, h.2.1, fun e => by have := hg b e; have := h.1; omega, h.2.2⟩
theorem RdD.zfr {base : Nat} {d : D} {u : Value} (h : RdD W' (Fr W W') d u) (hb : base ≤ W.heap.size) (hg : ∀ b, some b ∈ gs → b < W.heap.size) : RdD W' (Fz base W' gs) d u := h.to fun b h => ⟨rfl, Nat.le_trans hb h.1, h.2.1, fun e => by have := hg b e; have := h.1; omega, h.2.2⟩
theorem RdL.frz {ds : List D} {cs : List Value} (h : RdL W (Fz w.heap.size W gs) ds cs) : RdL W (Fr w W) ds cs := h.to fun b h => ⟨rfl, h.1, h.2.1, h.2.2.2⟩
theorem RdD.frz {d : D} {u : Value} (h : RdD W (Fz w.heap.size W gs) d u) : RdD W (Fr w W) d u := h.to fun b h => ⟨rfl, h.1, h.2.1, h.2.2.2⟩
/-- A row of bytes that a call has made. -/
theorem Own.zb {base n c : Nat} {A : Option Addr} {l : List UInt8} (h : Own W' W.heap.size A n c l) (hb : base ≤ W.heap.size) (hg : ∀ b, some b ∈ gs → b < W.heap.size) : RdD W' (Fz base W' gs) (dB l) (.slice A n c) :=
  h.frB fun b h1 h2 h3 => ⟨Nat.le_trans hb h1, h2, fun e => by have := hg b e; omega, row_thaw h h3⟩
/-- A cell that was there. -/
theorem cellB {a : Addr} {v : Value} (h : Below W.heap.size W W') (hc : W.cell? a = some v) : W'.cell? a = some v := (h.cell (World.block_lt_of_cell? W a hc)).trans hc
theorem below_tr {W1 : World} (h : Below W.heap.size W W1) (k : Below W1.heap.size W1 W') : Below W.heap.size W W' := h.trans (k.mono h.size)
/-- A block that is written no more. -/
structure FB (W : World) (gs : List (Option Nat)) (g : Nat) (T : TypeId) (cs : List Value) : Prop where
  blk : Blk W g T cs
  out : some g ∉ gs
theorem FB.up {g : Nat} {T : TypeId} {cs : List Value} (h : FB W gs g T cs) (s : Stp W gs W' gs') : FB W' gs' g T cs :=
  ⟨(s.block g h.blk.lt h.out).trans h.blk, fun e => h.out (s.own g h.blk.lt e)⟩
theorem FB.new {g : Nat} {T : TypeId} {cs : List Value} (h : Blk W' g T cs) (hA : ∀ b, some b ∈ gs → b < W.heap.size) (hg : W.heap.size ≤ g) : FB W' gs g T cs := ⟨h, fun e => by have := hA g e; omega⟩
theorem FB.at_ {g i : Nat} {T : TypeId} {cs : List Value} {v : Value} (h : FB W gs g T cs) (hi : cs[i]? = some v) : W.cell? ⟨g, i, none⟩ = some v := h.blk.at_ hi
end
end Go.Proofs.YtdlljmmgkoeilaaDoor
namespace Go.Proofs.YtdlljmmgkoeilaaDoor
open Go.RowKit

/-- string(b) -/
theorem run_str {w : World} {B : Nat} {A : Option Addr} {n : Nat} {l : List UInt8} (hr : Rd w B A n l) (c : Nat) :
    (convert 23 9 (.slice A n c)).run Tryd.prog w = .ok (.string ⟨l.toArray⟩) w := by
  rw [run_convert_bytes_string w 23 9 5 A n c Tryd.underlying23 Tryd.underlying5 Tryd.underlying9]
  rcases A with _ | a
  · have h0 : n = 0 := by
      rcases Nat.eq_zero_or_pos n with h0 | h0
      · exact h0
      · obtain ⟨b, off, h, _⟩ := hr.2 h0
        cases h
    have hl := hr.len
    rw [h0] at hl
    obtain rfl := List.eq_nil_of_length_eq_zero hl
    rfl
  · have hc : ∀ j v, (bvs l)[j]? = some v → w.cell? (a.add j) = some v := by
      intro j v hv
      have hn : 0 < n := by
        rw [← hr.len]
        rcases l with _ | ⟨x, l⟩
        · simp [bvs] at hv
        · simp
      obtain ⟨b, off, h, _, hcell⟩ := hr.2 hn
      injection h with h
      subst h
      rw [Addr.add_lit]
      exact hcell j v hv
    have hl := run_loadCells_list (P := Tryd.prog) w a (bvs l) hc
    rw [bvs_length, hr.len] at hl
    have e : bvs l = (l.map fun b => (b.toNat : Int)).map (Value.int .u8) := by
      unfold bvs; rw [List.map_map]; rfl
    rw [e] at hl
    rw [run_bytesToString w a n c _ hl, foldl_push_byteCells]
    show Result.ok (Value.string ⟨(#[] : Array UInt8) ++ l.toArray⟩) w = _
    rw [Array.empty_append]

set_option maxHeartbeats 400000 in
theorem same_any (A1 A2 : Option Addr) (n m c1 c2 B1 B2 : Nat) (a b : List UInt8) (w : World) (h1 : Rd w B1 A1 n a) (h2 : Rd w B2 A2 m b) :
    Calls Tryd.prog 19 #[.slice A1 n c1, .slice A2 m c2] w fun e w' => e = .returned (.bool (decide (a = b))) ∧ w = w' := by
  have e1 := run_str h1 c1
  have e2 := run_str h2 c2
  go_enter Tryd.func19, Tryd.ntmps19
  go_wp2
  go_ret
  exact ⟨ret_bool (by rw [Bool.eq_iff_iff]; simp), rfl⟩
set_option maxHeartbeats 400000 in
theorem copy_any (A : Option Addr) (n c : Nat) (l : List UInt8) (w : World) (hr : Rd w w.heap.size A n l) (hn : n ≤ 100000000000) :
    Calls Tryd.prog 36 #[.slice A n c] w fun e w' => ∃ A' c', e = .returned (.slice A' n c') ∧ Own w' w.heap.size A' n c' l ∧ Below w.heap.size w w' := by
  go_enter Tryd.func36, Tryd.ntmps36
  go_wp2_with (at_builtin; refine wpList_app rfl _ _ rfl rfl (Own.nil_ w w.heap.size) rfl hr (by omega) (by omega) ?_; intro A2 c2 w2 hown2 hg2)
  go_ret
  exact ⟨A2, c2, ret_slice (by omega), by simpa using hown2, (Below.refl _ _).grown hg2 (Nat.le_refl _) (by simp [Value.ownBlock])⟩
end Go.Proofs.YtdlljmmgkoeilaaDoor
namespace Go.Proofs.YtdlljmmgkoeilaaDoor
open Go.RowKit

theorem mixed : Tryd.prog.follows .mixedOrders = true := by kernel_rfl
theorem slb : slOf Tryd.prog 23 = some (5, 1) := by kernel_rfl
theorem agg_b : aggOf Tryd.prog 23 = some (false, 1) := by kernel_rfl
theorem agg_int : aggOf Tryd.prog 3 = some (false, 1) := by kernel_rfl

/-- Bytes that are cut out. -/
theorem Rd.sl {w : World} {B n i j m : Nat} {A : Option Addr} {l : List UInt8} (h : Rd w B A n l) (hij : i + j ≤ n) (hm : i + j ≤ m) : Rd w B (slA A m i 1) j ((l.drop i).take j) := by
  have e : slA A m i 1 = if m = i then A else A.map (·.add i) := by unfold slA; rw [Nat.mul_one]
  rw [e]
  by_cases hmi : m = i
  · have hj : j = 0 := by omega
    subst hj
    rw [List.take_zero]
    exact ⟨rfl, fun h => absurd h (by omega)⟩
  · rw [if_neg hmi]
    have h2 := Rd.mid (c := n + i + 1) h hij (by omega)
    rw [if_neg (by omega)] at h2
    exact h2
section
variable {E : Env} {d : Option Nat} {ty : TypeId} {p : String} {af : Array Edge} {g : Option (Nat × Bool)} {x y z : Operand} {kw : Value → World → Prop} {w : World} {S : World → Prop} {k : Value → Prop}
/-- string(b) -/
theorem v_str {B : Nat} {A : Option Addr} {n c : Nat} {l : List UInt8} (hx : val E x = .slice A n c) (hr : Rd w B A n l) (h : kw (.string (sb l)) w) :
    VVal Tryd.prog E { dst := d, op := .convert 23 9 x, type := ty, pos := p, after := af, guard := g } w kw :=
  vv (by simp only [execOp, hx, Sem.run_bind, run_str hr c, Result.andThen_ok, Sem.run_pure]; rfl) h
theorem sb_inj {a b : List UInt8} : sb a = sb b ↔ a = b := by
  constructor
  · intro h
    have := congrArg (fun x : ByteArray => x.data.toList) h
    simpa [sb] using this
  · intro h; rw [h]
end
end Go.Proofs.YtdlljmmgkoeilaaDoor
namespace Go.Proofs.YtdlljmmgkoeilaaDoor
open Go.RowKit

def putAt (cs : List Value) : Nat → List Value → List Value
  | _, [] => cs
  | i, v :: r => putAt (cs.set i v) (i + 1) r
def fillL (place : Nat → Option (Nat × Nat)) (cells : List Value) : List (Nat × Value) → Option (List Value)
  | [] => some cells
  | (i, v) :: rest => match place i with
    | none => none
    | some (off, size) => match Nat.beq v.cells.size size && Nat.ble (off + v.cells.size) cells.length with
      | true => fillL place (putAt cells off v.cells.toList) rest
      | false => none
theorem foldl_put : ∀ (r : List Value) (off j : Nat) (cs : List Value), (r.zipIdx j).foldl (fun cs x => cs.setIfInBounds (off + x.2) x.1) cs.toArray = (putAt cs (off + j) r).toArray
  | [], off, j, cs => rfl
  | v :: r, off, j, cs => by
    simp only [List.zipIdx_cons, List.foldl_cons, List.setIfInBounds_toArray, putAt]
    rw [foldl_put r off (j + 1), Nat.add_assoc]
theorem fill_eq (place : Nat → Option (Nat × Nat)) : ∀ (parts : List (Nat × Value)) (cs vs : List Value), fillL place cs parts = some vs → Instr.fill place cs.toArray parts = some vs.toArray
  | [], cs, vs, h => by
    injection h with h
    subst h
    rfl
  | (i, v) :: rest, cs, vs, h => by
    unfold fillL at h
    unfold Instr.fill
    cases hp : place i with
    | none => rw [hp] at h; cases h
    | some q =>
      obtain ⟨off, size⟩ := q
      rw [hp] at h
      simp only [] at h ⊢
      split at h
      · rename_i hb
        simp only [Bool.and_eq_true] at hb
        have h1 : v.cells.size = size := Nat.eq_of_beq_eq_true hb.1
        have h2 : off + v.cells.size ≤ cs.length := Nat.le_of_ble_eq_true hb.2
        have hc : ¬ ((v.cells.size ≠ size || off + v.cells.size > cs.toArray.size) = true) := by simp [h1]; omega
        have e : v.cells.zipIdx.foldl (fun cs x => cs.setIfInBounds (off + x.2) x.1) cs.toArray = (putAt cs off v.cells.toList).toArray := by
          rw [← Array.foldl_toList, Array.toList_zipIdx]
          exact foldl_put v.cells.toList off 0 cs
        rw [if_neg hc]
        have ih := fill_eq place rest _ _ h
        rw [← e] at ih
        exact ih
      · cases h

/-- A struct's fields: where each begins, how many cells it has. -/
def placesOf (P : Program) (t : TypeId) : Option (List (Nat × Nat)) :=
  match P.underlying t with
  | some (.struct fs) => fs.toList.mapM fun f => (P.info? f.type).map fun i => (f.offset, i.size)
  | _ => none
def zeroOf (P : Program) (t : TypeId) : Option (List Value) := (P.info? t).bind fun i => i.zero.map fun z => z.cells.toList

section
variable {P : Program} {E : Env} {d : Option Nat} {ty : TypeId} {p : String} {af : Array Edge} {gd : Option (Nat × Bool)} {x y : Operand} {t : TypeId} {k : Value → Prop} {kw : Value → World → Prop} {w : World}
theorem zero_run {zs : List Value} (h : zeroOf P t = some zs) (w : World) : ∃ z, (zeroValue t).run P w = .ok z w ∧ z.cells.toList = zs := by
  obtain ⟨i, hi1, hi2⟩ := Option.bind_eq_some_iff.1 h
  obtain ⟨z, hz1, hz2⟩ := Option.map_eq_some_iff.1 hi2
  exact ⟨z, by simp [zeroValue, typeInfo, hi1, hz1], hz2⟩
theorem mapM_places {P : Program} : ∀ (fs : List Field) (ps : List (Nat × Nat)) (w : World), fs.mapM (fun f => (P.info? f.type).map fun i => (f.offset, i.size)) = some ps → (fs.mapM (m := Sem) fun f => do pure (f.offset, ← sizeOf f.type)).run P w = .ok ps w
  | [], ps, w, h => by injection h with h; subst h; rfl
  | f :: fs, ps, w, h => by
    rw [List.mapM_cons] at h
    obtain ⟨q, hq, h⟩ := Option.bind_eq_some_iff.1 h
    obtain ⟨qs, hqs, h⟩ := Option.bind_eq_some_iff.1 h
    injection h with h
    subst h
    obtain ⟨i, hi, rfl⟩ := Option.map_eq_some_iff.1 hq
    have ih := mapM_places fs qs w hqs
    simp only [List.mapM_cons, Sem.run_bind, sizeOf, typeInfo, run_program, Result.andThen_ok, hi, Sem.run_pure] at ih ⊢
    simp only [ih, Result.andThen_ok]
theorem p_build {parts : Array (Nat × Operand)} {ps : List (Nat × Nat)} {zs vs : List Value} (hp : placesOf P t = some ps) (hz : zeroOf P t = some zs) (hv : fillL (nth ps) zs (parts.toList.map fun x => (x.1, val E x.2)) = some vs) (h : k (.agg vs.toArray)) :
    VPure P E { dst := d, op := .build t parts, type := ty, pos := p, after := af, guard := gd } k := by
  refine pp (fun w => ?_) h
  unfold placesOf at hp
  split at hp
  · rename_i fs hu
    obtain ⟨z, hzr, hzc⟩ := zero_run hz w
    have hm := mapM_places _ _ w hp
    have hf := fill_eq _ _ _ _ hv
    have e1 : (parts.map fun x => (x.1, val E x.2)).toList = parts.toList.map fun x => (x.1, val E x.2) := by simp
    have e2 : (nth ps) = (ps.toArray[·]?) := by funext j; rw [nth_eq]; simp
    rw [e2, ← hzc] at hf
    simp only [execOp, Instr.build, Sem.run_bind, hzr, Result.andThen_ok, run_underlying hu, Array.mapM_eq_mapM_toList, Sem.run_map]
    rw [hm]
    simp only [Result.andThen_ok, e1]
    have e3 : z.cells = z.cells.toList.toArray := by simp
    rw [e3, hf]
    rfl
  · cases hp
/-- A slice that is built: a new block. -/
theorem v_bslice {parts : Array (Nat × Operand)} {n s : Nat} {e : TypeId} {zs vs : List Value} (hT : slOf P t = some (e, s)) (hz : zeroOf P e = some zs) (hzl : zs.length = s) (hn : (Nat.ble 1 (n * s) && Nat.ble (n * s) 1000) = true)
    (hv : fillL (fun i => some (i * s, s)) ((List.range (n * s)).map fun i => zs.getD (i % s) (.tuple #[])) (parts.toList.map fun x => (x.1, val E x.2)) = some vs)
    (h : ∀ g w', g = w.heap.size → Blk w' g e vs → Below g w w' → w'.heap.size = g + 1 → kw (.slice (some ⟨g, 0, none⟩) n n) w') :
    VVal P E { dst := d, op := .buildSlice t n parts, type := ty, pos := p, after := af, guard := gd } w kw := by
  obtain ⟨hu, info, hi1, hi2⟩ := slOf_spec hT
  obtain ⟨z, hzr, hzc⟩ := zero_run hz w
  simp only [Bool.and_eq_true] at hn
  have h1 : 1 ≤ n * s := Nat.le_of_ble_eq_true hn.1
  have h2 : n * s ≤ 1000 := Nat.le_of_ble_eq_true hn.2
  refine vv (v := .slice (some ⟨w.heap.size, 0, none⟩) n n) (w' := w.alloc (.cells vs.toArray e)) ?_ (h _ _ rfl (Blk.new w vs e) ((Below.refl _ _).alloc (Nat.le_refl _) _) (by simp))
  have hf := fill_eq _ _ _ _ hv
  have e1 : (parts.map fun x => (x.1, val E x.2)).toList = parts.toList.map fun x => (x.1, val E x.2) := by simp
  have hsz : (sizeOf e).run P w = .ok s w := by simp [sizeOf, typeInfo, hi1, hi2]
  have hzs : z.cells.size = s := by rw [← hzl, ← hzc]; simp
  have hs0 : 0 < s := Nat.pos_of_ne_zero (fun e => by subst e; simp at h1)
  have e2 : ((Array.range (n * s)).map fun i => z.cells[i % z.cells.size]!) = ((List.range (n * s)).map fun i => zs.getD (i % s) (.tuple #[])).toArray := by
    apply Array.toList_inj.1
    simp only [Array.toList_map, Array.toList_range]
    refine List.map_congr_left fun i _ => ?_
    have hlt : i % s < z.cells.size := by rw [hzs]; exact Nat.mod_lt _ hs0
    rw [hzs, ← hzc]
    simp [hlt]
  simp only [execOp, Instr.buildSlice, Sem.run_bind, run_underlying hu, Result.andThen_ok, hsz]
  rw [if_neg (show ¬ n * s > 2 ^ 24 by omega), if_neg (show ¬ n * s = 0 by omega)]
  simp only [Sem.run_bind, Sem.run_pure, Result.andThen_ok, hzr, e2, e1, hf]
  simp [newRow]
end

end Go.Proofs.YtdlljmmgkoeilaaDoor
namespace Go.Proofs.YtdlljmmgkoeilaaDoor
open Go.RowKit
section
variable {P : Program} {E : Env} {d : Option Nat} {ty : TypeId} {p : String} {af : Array Edge} {g : Option (Nat × Bool)} {x y z : Operand} {t u : TypeId} {k : Value → Prop} {S : World → Prop} {kw : Value → World → Prop} {w w' : World} {o : Oper} {v : Value}
def isPtr (P : Program) (t : TypeId) : Bool := match P.underlying t with | some (.pointer _) => true | _ => false
def isSl (P : Program) (t : TypeId) : Bool := match P.underlying t with | some (.slice _) => true | _ => false
theorem isPtr_spec (h : isPtr P t = true) : ∃ e, P.underlying t = some (.pointer e) := by
  unfold isPtr at h; split at h <;> simp_all
theorem isSl_spec (h : isSl P t = true) : ∃ e, P.underlying t = some (.slice e) := by
  unfold isSl at h; split at h <;> simp_all
theorem eq_ptr1 {e : TypeId} (he : P.underlying t = some (.pointer e)) (d : Nat) (ad : Addr) (w : World) : (Op.equalIn (d + 1) t (.pointer (some ad)) (.pointer none)).run P w = .ok false w := by
  simp [Op.equalIn, run_underlying he]
theorem eq_ptr0 {e : TypeId} (he : P.underlying t = some (.pointer e)) (d : Nat) (w : World) : (Op.equalIn (d + 1) t (.pointer none) (.pointer none)).run P w = .ok true w := by
  simp [Op.equalIn, run_underlying he]
theorem eq_sl1 {e : TypeId} (he : P.underlying t = some (.slice e)) (d : Nat) (ad : Addr) (n c : Nat) (w : World) : (Op.equalIn (d + 1) t (.slice (some ad) n c) (.slice none 0 0)).run P w = .ok false w := by
  simp [Op.equalIn, run_underlying he]
theorem eq_sl0 {e : TypeId} (he : P.underlying t = some (.slice e)) (d n c : Nat) (w : World) : (Op.equalIn (d + 1) t (.slice none n c) (.slice none 0 0)).run P w = .ok true w := by
  simp [Op.equalIn, run_underlying he]
theorem eq_of {a b : Value} {q : Bool} (h : ∀ d, (Op.equalIn (d + 1) t a b).run P w = .ok q w) : (Op.equal t a b).run P w = .ok q w := h 9999
/-- A pointer that is there is not nil. -/
theorem p_peq {ad : Addr} (hT : isPtr P t = true) (hx : val E x = .pointer (some ad)) (hy : val E y = .pointer none) (h : k (.bool false)) : VPure P E { dst := d, op := .binOp .eql t x y u, type := ty, pos := p, after := af, guard := g } k :=
  pp (fun w => by
    obtain ⟨e, he⟩ := isPtr_spec hT
    simp [execOp, hx, hy, eqGuard, binOp, eq_of (fun d => eq_ptr1 (P := P) he d ad w)]) h
theorem p_peq0 (hT : isPtr P t = true) (hx : val E x = .pointer none) (hy : val E y = .pointer none) (h : k (.bool true)) : VPure P E { dst := d, op := .binOp .eql t x y u, type := ty, pos := p, after := af, guard := g } k :=
  pp (fun w => by
    obtain ⟨e, he⟩ := isPtr_spec hT
    simp [execOp, hx, hy, eqGuard, binOp, eq_of (fun d => eq_ptr0 (P := P) he d w)]) h
/-- A slice held against nil. -/
theorem p_sln {A : Option Addr} {n c : Nat} (hT : isSl P t = true) (hx : val E x = .slice A n c) (hy : val E y = .slice none 0 0) (h0 : A = none → k (.bool true)) (h1 : A ≠ none → k (.bool false)) : VPure P E { dst := d, op := .binOp .eql t x y u, type := ty, pos := p, after := af, guard := g } k := by
  obtain ⟨e, he⟩ := isSl_spec hT
  cases A with
  | none => exact pp (fun w => by simp [execOp, hx, hy, eqGuard, binOp, eq_of (fun d => eq_sl0 (P := P) he d n c w)]) (h0 rfl)
  | some ad => exact pp (fun w => by simp [execOp, hx, hy, eqGuard, binOp, eq_of (fun d => eq_sl1 (P := P) he d ad n c w)]) (h1 (by simp))
theorem p_slnn {A : Option Addr} {n c : Nat} (hT : isSl P t = true) (hx : val E x = .slice A n c) (hy : val E y = .slice none 0 0) (h0 : A = none → k (.bool false)) (h1 : A ≠ none → k (.bool true)) : VPure P E { dst := d, op := .binOp .neq t x y u, type := ty, pos := p, after := af, guard := g } k := by
  obtain ⟨e, he⟩ := isSl_spec hT
  cases A with
  | none => exact pp (fun w => by simp [execOp, hx, hy, eqGuard, binOp, eq_of (fun d => eq_sl0 (P := P) he d n c w)]) (h0 rfl)
  | some ad => exact pp (fun w => by simp [execOp, hx, hy, eqGuard, binOp, eq_of (fun d => eq_sl1 (P := P) he d ad n c w)]) (h1 (by simp))
theorem p_bne {a b : Bool} (hT : P.underlying t = some .bool) (hx : val E x = .bool a) (hy : val E y = .bool b) (h : k (.bool (!(a == b)))) : VPure P E { dst := d, op := .binOp .neq t x y u, type := ty, pos := p, after := af, guard := g } k :=
  pp (fun w => by simp [execOp, hx, hy, eqGuard, binOp, run_equal_bool (P := P) w t a b hT]) h
/-- A result that lies in memory. -/
theorem c_loadN {n a : Nat} {ad : Addr} (vs : List Value) (hT : aggOf P t = some (true, n)) (hx : E a = .pointer (some ad)) (hn : vs.length = n) (hc : ∀ j v, vs[j]? = some v → w.cell? (ad.add j) = some v) (h : k (.agg vs.toArray)) : VCell P E a t w k :=
  ⟨ad, _, hx, run_loadN hT vs hn hc, h⟩
theorem c_load1 {n a : Nat} {ad : Addr} (hT : aggOf P t = some (false, n)) (hx : E a = .pointer (some ad)) (hc : w.cell? ad = some v) (h : k v) : VCell P E a t w k :=
  ⟨ad, _, hx, run_load1 hT hc, h⟩
end
end Go.Proofs.YtdlljmmgkoeilaaDoor
