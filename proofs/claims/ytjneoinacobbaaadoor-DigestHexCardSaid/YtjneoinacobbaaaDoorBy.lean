/- Bytes in memory: a slice that reads as a list of bytes ('Rd'), a row of bytes of the call's own ('Own'), append onto it. -/
import Derived.Test.YtjneoinacobbaaaDoorProg
import Derived.Test.YtjneoinacobbaaaDoorMem
namespace Go.Proofs.YtjneoinacobbaaaDoor
open Go.RowKit

theorem u8info : (Tryd.prog.info? 5).map (fun i => (i.zero, i.size, i.bytes)) = some (some (.int .u8 0), 1, 1) := by kernel_rfl

/-- The byte at a place, as a number; 0 behind the end. -/
def at8 (l : List UInt8) (k : Nat) : Int := ((l.getD k 0).toNat : Int)
theorem at8_lo (l : List UInt8) (k : Nat) : 0 ≤ at8 l k := by unfold at8; omega
theorem at8_hi (l : List UInt8) (k : Nat) : at8 l k ≤ 255 := by unfold at8; have := (l.getD k 0).toNat_lt; omega
theorem at8_of (l : List UInt8) (k : Nat) (h : k < l.length) : at8 l k = (l[k].toNat : Int) := by unfold at8; rw [List.getD_eq_getElem?_getD, List.getElem?_eq_getElem h]; rfl
/-- The byte that a number is. -/
def b8 (x : Int) : UInt8 := UInt8.ofNat x.toNat
def u8v (c : UInt8) : Value := .int .u8 (c.toNat : Int)
def bvs (l : List UInt8) : List Value := l.map u8v
theorem u8v_b8 (x : Int) (h0 : 0 ≤ x) (h1 : x ≤ 255) : u8v (b8 x) = .int .u8 x := by
  unfold u8v b8
  congr 1
  rw [UInt8.toNat_ofNat']
  omega
theorem b8_at8 (l : List UInt8) (k : Nat) : b8 (at8 l k) = l.getD k 0 := by
  unfold b8 at8; rw [Int.toNat_natCast, UInt8.ofNat_toNat]
theorem b8_nat (c : UInt8) : b8 (c.toNat : Int) = c := by unfold b8; rw [Int.toNat_natCast, UInt8.ofNat_toNat]
theorem u8v_at8 (l : List UInt8) (k : Nat) (h : k < l.length) : u8v l[k] = .int .u8 (at8 l k) := by rw [at8_of l k h]; rfl
theorem bvs_length (l : List UInt8) : (bvs l).length = l.length := by simp [bvs]
theorem bvs_append (l m : List UInt8) : bvs (l ++ m) = bvs l ++ bvs m := by simp [bvs]
theorem bvs_drop (l : List UInt8) (k : Nat) : bvs (l.drop k) = (bvs l).drop k := by simp [bvs]
theorem bvs_take (l : List UInt8) (k : Nat) : bvs (l.take k) = (bvs l).take k := by simp [bvs]
theorem bvs_one (l : List UInt8) : ∀ u ∈ bvs l, u.oneCell' = true := by
  intro u hu
  obtain ⟨_, _, rfl⟩ := List.mem_map.1 hu
  rfl
theorem bvs_get (l : List UInt8) (k : Nat) (h : k < l.length) : (bvs l)[k]? = some (.int .u8 (at8 l k)) := by
  unfold bvs
  rw [List.getElem?_map, List.getElem?_eq_getElem h, Option.map_some, u8v_at8]
theorem bvs_inj {l m : List UInt8} (h : bvs l = bvs m) : l = m := by
  refine (List.map_inj_right ?_).1 h
  intro a b hab
  unfold u8v at hab
  injection hab with _ hab
  exact UInt8.toNat_inj.1 (by omega)

theorem ret_bool {a b : Bool} (h : a = b) : Ending.returned (.bool a) = Ending.returned (.bool b) := by rw [h]
theorem ret_slice {A : Option Addr} {n m c : Nat} (h : n = m) : Ending.returned (.slice A n c) = Ending.returned (.slice A m c) := by rw [h]
theorem ret_int {k : IntKind} {a b : Int} (h : a = b) : Ending.returned (.int k a) = Ending.returned (.int k b) := by rw [h]
/-- A slice of n bytes that reads as l, below block B. -/
def Rd (w : World) (B : Nat) (A : Option Addr) (n : Nat) (l : List UInt8) : Prop := Reads w B 1 A n (bvs l)
/-- A slice of n bytes of the call's own (from block 'base' on), that reads as l. -/
def Own (w : World) (base : Nat) (A : Option Addr) (n c : Nat) (l : List UInt8) : Prop := w.ownsRow base 5 1 (.slice A n c) n (bvs l)

section
variable {w w' : World} {B B' base n c : Nat} {A : Option Addr} {l : List UInt8}
theorem Rd.len (h : Rd w B A n l) : l.length = n := by have := h.1; rw [bvs_length] at this; omega
theorem Rd.nil_ : Rd w B A 0 [] := Reads.none_
theorem Rd.at_ {k : Nat} (h : Rd w B A n l) (hk : k < n) : ∃ b off, A = some ⟨b, off, none⟩ ∧ w.cell? ⟨b, off + k, none⟩ = some (.int .u8 (at8 l k)) := by
  obtain ⟨b, off, u, e, _, hu, hc⟩ := Reads.at_ h hk
  rw [bvs_get l k (by rw [h.len]; exact hk)] at hu
  injection hu with hu
  subst hu
  exact ⟨b, off, e, hc⟩
theorem Rd.cells (h : Rd w B A n l) (hn : 0 < n) : ∃ b off, A = some ⟨b, off, none⟩ ∧ b < B ∧ ∀ k, k < n → w.cell? ⟨b, off + k, none⟩ = some (.int .u8 (at8 l k)) := by
  obtain ⟨b, off, e, hb, hc⟩ := h.2 hn
  exact ⟨b, off, e, hb, fun k hk => hc k _ (bvs_get l k (by rw [h.len]; exact hk))⟩
theorem Rd.atB {k : Nat} (h : Rd w B A n l) (hk : k < n) : ∃ b off, A = some ⟨b, off, none⟩ ∧ b < B ∧ w.cell? ⟨b, off + k, none⟩ = some (.int .u8 (at8 l k)) := by
  obtain ⟨b, off, u, e, hb, hu, hc⟩ := Reads.at_ h hk
  rw [bvs_get l k (by rw [h.len]; exact hk)] at hu
  injection hu with hu
  subst hu
  exact ⟨b, off, e, hb, hc⟩
theorem Rd.at0 (h : Rd w B A n l) (hk : 0 < n) : ∃ b off, A = some ⟨b, off, none⟩ ∧ w.cell? ⟨b, off, none⟩ = some (.int .u8 (at8 l 0)) := h.at_ hk
theorem Rd.shift {b off k : Nat} (h : Rd w B (some ⟨b, off, none⟩) n l) (hk : k ≤ n) : Rd w B (some ⟨b, off + k, none⟩) (n - k) (l.drop k) := by
  have hl := h.len
  refine ⟨by rw [bvs_length, List.length_drop]; omega, fun hn => ?_⟩
  obtain ⟨b', off', e, hb, hc⟩ := h.2 (by omega)
  injection e with e
  injection e with e1 e2
  subst e1 e2
  refine ⟨b, off + k, rfl, hb, fun j u hu => ?_⟩
  rw [Nat.add_assoc]
  exact hc _ u (by rw [← hu, bvs_drop, List.getElem?_drop])
theorem Rd.gone {A' : Option Addr} {k : Nat} (h : Rd w B A n l) (hk : n ≤ k) : Rd w B A' (n - k) (l.drop k) := by
  have hl := h.len
  have e : n - k = 0 := by omega
  rw [e, List.drop_eq_nil_of_le (by omega)]
  exact ⟨rfl, fun h => absurd h (by omega)⟩
theorem Rd.keep (h : Rd w B A n l) (hk : ∀ p : Addr, p.block < B → w'.cell? p = w.cell? p) : Rd w' B A n l := Reads.keep h hk
theorem Rd.more (h : Rd w B A n l) (hB : B ≤ B') : Rd w B' A n l := Reads.more h hB
theorem Rd.below (h : Rd w B A n l) (hb : Below B w w') : Rd w' B A n l := Reads.below h hb
theorem Rd.drew (h : Rd w B A n l) : Rd w.drew B A n l := h
theorem Rd.drewN (h : Rd w B A n l) (k : Nat) : Rd (w.drewN k) B A n l := h
theorem Rd.alloc (h : Rd w B A n l) (hB : B ≤ w.heap.size) (o : Obj) : Rd (w.alloc o) B A n l := Reads.alloc h hB o
theorem Rd.grown (h : Rd w B A n l) {row : Option Nat} (hg : w.grownBy w' row) (hB : B ≤ w.heap.size) (hr : ∀ g, row = some g → B ≤ g) : Rd w' B A n l := Reads.grown h hg hB hr
theorem Rd.cut (h : Rd w B A n l) {k cap : Nat} (hk : k ≤ n) (hc : n ≤ cap) : Rd w B (if cap = k then A else A.map (·.add k)) (n - k) (l.drop k) := by
  have := Reads.cut h hk hc
  simp only [Nat.mul_one, ← bvs_drop] at this
  exact this
theorem Rd.take (h : Rd w B A n l) {k : Nat} (hk : k ≤ n) : Rd w B A k (l.take k) := by
  have := Reads.take h hk
  simp only [Nat.mul_one, ← bvs_take] at this
  exact this
theorem Rd.up (h : Rd w w.heap.size A n l) (hb : Below w.heap.size w w') : Rd w' w'.heap.size A n l := (h.below hb).more hb.size
theorem Rd.upA (h : Rd w w.heap.size A n l) (o : Obj) : Rd (w.alloc o) (w.alloc o).heap.size A n l := (h.alloc (Nat.le_refl _) o).more (by simp)
theorem Rd.mid {i j : Nat} (h : Rd w B A n l) (hij : i + j ≤ n) (hc : n ≤ c) : Rd w B (if c = i then A else A.map (·.add i)) j ((l.drop i).take j) := by
  have h1 := h.cut (k := i) (cap := c) (by omega) hc
  exact h1.take (by omega)
theorem Own.rd (h : Own w base A n c l) : Rd w w.heap.size A n l := Reads.of_own h
theorem Own.len (h : Own w base A n c l) : l.length = n := by have := h.1; rw [bvs_length] at this; omega
theorem Own.nil_ (w : World) (base : Nat) : Own w base none 0 0 [] := World.ownsRow_nil _ _ _ _
theorem Own.alloc (h : Own w base A n c l) (o : Obj) : Own (w.alloc o) base A n c l := World.ownsRow.alloc h o
theorem Own.drew (h : Own w base A n c l) : Own w.drew base A n c l := h
theorem Own.drewN (h : Own w base A n c l) (k : Nat) : Own (w.drewN k) base A n c l := h
theorem Own.kept {row : Option Nat} (h : Own w base A n c l) (hg : w.grownBy w' row) (hne : (Value.slice A n c).ownBlock = none ∨ (Value.slice A n c).ownBlock ≠ row) : Own w' base A n c l := World.ownsRow.kept h hg hne
theorem Own.below (h : Own w base A n c l) (hb : Below w.heap.size w w') : Own w' base A n c l :=
  World.ownsRow.kept h (row := none) ⟨hb.os, hb.tape, hb.output, hb.size, fun k hk _ => hb.block k hk⟩ (by cases (Value.slice A n c).ownBlock <;> simp)
theorem Own.lo (h : Own w base A n c l) : ∀ k, (Value.slice A n c).ownBlock = some k → base ≤ k := fun k hk => (World.ownsRow.lt h k hk).1
theorem below_new {w w' : World} (o : Obj) (hb : Below (w.alloc o).heap.size (w.alloc o) w') : Below w.heap.size w w' :=
  ((Below.refl _ _).alloc (Nat.le_refl _) o).trans (hb.mono (by simp))
theorem below_nil {w w' : World} {v : Value} (hv : v.ownBlock = none) (hg : w.grownBy w' v.ownBlock) : Below w.heap.size w w' :=
  (Below.refl _ _).grown hg (Nat.le_refl _) (by rw [hv]; intro k h; cases h)
theorem below_own {W w w' : World} (hb : Below W.heap.size W w) {A : Option Addr} {n c : Nat} {l : List UInt8} (hown : Own w W.heap.size A n c l) (hg : w.grownBy w' (Value.slice A n c).ownBlock) : Below W.heap.size W w' :=
  hb.grown hg hb.size (fun k hk => (World.ownsRow.lt hown k hk).1)
theorem Own.less (h : Own w base A n c l) {base' : Nat} (hb : base' ≤ base) : Own w base' A n c l := by
  refine ⟨h.1, ?_⟩
  rcases h.2 with h2 | ⟨g, cap, cur, hv, hg, r⟩
  · exact .inl h2
  · exact .inr ⟨g, cap, cur, hv, by omega, r⟩
theorem Own.cap_ (h : Own w base A n c l) : n ≤ c := by
  rcases h.2 with ⟨hv, h0⟩ | ⟨g, cap, cur, hv, _, _, hle, _⟩
  · injection hv with _ h1 h2; omega
  · injection hv with _ h1 h2; omega
end

/-- A new block of one, two, four bytes reads as these. -/
theorem Rd.lit (w : World) (xs : List Int) (n : Nat) (hn : xs.length = n) (h : ∀ x ∈ xs, 0 ≤ x ∧ x ≤ 255) :
    Rd (w.alloc (.cells (xs.map (Value.int .u8)).toArray 5)) (w.heap.size + 1) (some ⟨w.heap.size, 0, none⟩) n (xs.map b8) := by
  have e : bvs (xs.map b8) = xs.map (Value.int .u8) := by
    unfold bvs
    rw [List.map_map]
    refine List.map_congr_left fun x hx => ?_
    exact u8v_b8 x (h x hx).1 (h x hx).2
  refine ⟨by rw [bvs_length]; simp [hn], fun _ => ⟨_, 0, rfl, by simp, fun j u hu => ?_⟩⟩
  rw [e] at hu
  rw [Nat.zero_add, World.cell?_alloc_at _ _ _ _ rfl]
  simpa using hu
theorem Rd.lit1 (w : World) (x : Int) (h : 0 ≤ x ∧ x ≤ 255) : Rd (w.alloc (.cells #[.int .u8 x] 5)) (w.heap.size + 1) (some ⟨w.heap.size, 0, none⟩) 1 [b8 x] :=
  Rd.lit w [x] 1 rfl (by simpa using h)
theorem Rd.lit2 (w : World) (x y : Int) (h : 0 ≤ x ∧ x ≤ 255) (k : 0 ≤ y ∧ y ≤ 255) : Rd (w.alloc (.cells #[.int .u8 x, .int .u8 y] 5)) (w.heap.size + 1) (some ⟨w.heap.size, 0, none⟩) 2 [b8 x, b8 y] :=
  Rd.lit w [x, y] 2 rfl (by simp; omega)

theorem Own.lit (w : World) (base : Nat) (hb : base ≤ w.heap.size) (xs : List Int) (n : Nat) (hn : xs.length = n) (hm : n ≤ 1000000) (h : ∀ x ∈ xs, 0 ≤ x ∧ x ≤ 255) :
    Own (w.alloc (.cells (xs.map (Value.int .u8)).toArray 5)) base (some ⟨w.heap.size, 0, none⟩) n n (xs.map b8) := by
  have e : bvs (xs.map b8) = xs.map (Value.int .u8) := by
    unfold bvs
    rw [List.map_map]
    refine List.map_congr_left fun x hx => ?_
    exact u8v_b8 x (h x hx).1 (h x hx).2
  have := World.ownsRow_lit (base := base) (e := 5) (size := 1) w (xs.map (Value.int .u8)).toArray n hb (by unfold maxLen; omega) (by simp [hn])
  unfold Own
  rw [e]
  simpa using this
theorem Own.lit1 (w : World) (base : Nat) (hb : base ≤ w.heap.size) (x : Int) (h : 0 ≤ x ∧ x ≤ 255) : Own (w.alloc (.cells #[.int .u8 x] 5)) base (some ⟨w.heap.size, 0, none⟩) 1 1 [b8 x] :=
  Own.lit w base hb [x] 1 rfl (by omega) (by simpa using h)
theorem Rd.lit1H (w : World) (H : Nat) (hH : w.heap.size = H) (x : Int) (h : 0 ≤ x ∧ x ≤ 255) : Rd (w.alloc (.cells #[.int .u8 x] 5)) (H + 1) (some ⟨H, 0, none⟩) 1 [b8 x] := by
  subst hH; exact Rd.lit1 w x h
theorem Rd.lit2H (w : World) (H : Nat) (hH : w.heap.size = H) (x y : Int) (h : 0 ≤ x ∧ x ≤ 255) (k : 0 ≤ y ∧ y ≤ 255) : Rd (w.alloc (.cells #[.int .u8 x, .int .u8 y] 5)) (H + 1) (some ⟨H, 0, none⟩) 2 [b8 x, b8 y] := by
  subst hH; exact Rd.lit2 w x y h k
theorem Rd.litH (w : World) (H : Nat) (hH : w.heap.size = H) (xs : List Int) (n : Nat) (hn : xs.length = n) (h : ∀ x ∈ xs, 0 ≤ x ∧ x ≤ 255) :
    Rd (w.alloc (.cells (xs.map (Value.int .u8)).toArray 5)) (H + 1) (some ⟨H, 0, none⟩) n (xs.map b8) := by
  subst hH; exact Rd.lit w xs n hn h
/-- append of bytes onto bytes of the call's own. -/
theorem run_app {w : World} {base : Nat} {A : Option Addr} {n c : Nat} {l : List UInt8} (hown : Own w base A n c l)
    {B : Nat} {A2 : Option Addr} {m c2 : Nat} {l2 : List UInt8} (hr : Rd w B A2 m l2) (hsz : n + m ≤ 1000000000000) (hbase : base ≤ w.heap.size) (ty : TypeId) :
    ∃ A' c' w', (Builtin.append_ #[23, 23] ty #[.slice A n c, .slice A2 m c2]).run Tryd.prog w = .ok (.slice A' (n + m) c') w' ∧ Own w' base A' (n + m) c' (l ++ l2) ∧ w.grownBy w' (Value.slice A n c).ownBlock ∧
      ((Value.slice A' (n + m) c').ownBlock = (Value.slice A n c).ownBlock ∨ (Value.slice A' (n + m) c').ownBlock = some w.heap.size) ∧ (A' = none ↔ A = none ∧ m = 0) := by
  obtain ⟨i0, hi, hz0, hz1, hz2⟩ := info_parts u8info
  obtain ⟨v', w', hrun, h2, h3, h4, h5⟩ := run_append_any (P := Tryd.prog) w base 23 ty 5 i0 (.int .u8 0) 1 1 Tryd.underlying23 hi hz0 hz1 hz2 rfl (by omega) _ n _ hown B A2 m c2 _ hr (bvs_one l2) (by unfold maxLen; omega) (by omega) hbase
  obtain ⟨A', c', rfl⟩ := own_slice h2
  refine ⟨A', c', w', hrun, by unfold Own; rw [bvs_append]; exact h2, h3, h4, ?_⟩
  have hx1 := h2.2
  have hx0 := hown.2
  constructor
  · rintro rfl
    have : Value.slice none (n + m) c' = .slice none 0 0 := by
      rcases hx1 with ⟨e, _⟩ | ⟨g, cap, cur, e, _⟩
      · exact e
      · injection e with e; cases e
    obtain ⟨e1, e2⟩ := h5.1 this
    injection e1 with e1
    exact ⟨e1, e2⟩
  · rintro ⟨rfl, rfl⟩
    have : Value.slice none n c = .slice none 0 0 := by
      rcases hx0 with ⟨e, _⟩ | ⟨g, cap, cur, e, _⟩
      · exact e
      · injection e with e; cases e
    have := h5.2 ⟨this, rfl⟩
    injection this

theorem wp_app {o : Oper} {a : Act} {w : World} {K : Act → World → Prop} {Q : Exit → Act → World → Prop} (s x : Operand)
    (ho : o.op = .call { callee := .builtin .append, args := #[s, x], argTypes := #[23, 23] })
    {base : Nat} {A : Option Addr} {n c : Nat} {l : List UInt8} (hs : a.eval s = .slice A n c) (hown : Own w base A n c l)
    {B : Nat} {A2 : Option Addr} {m c2 : Nat} {l2 : List UInt8} (hx : a.eval x = .slice A2 m c2) (hr : Rd w B A2 m l2) (hsz : n + m ≤ 1000000000000) (hbase : base ≤ w.heap.size)
    (h : ∀ A' c' w', Own w' base A' (n + m) c' (l ++ l2) → w.grownBy w' (Value.slice A n c).ownBlock → K (a.put o.dst (.slice A' (n + m) c')) w') : o.wp Tryd.prog a w K Q := by
  obtain ⟨A', c', w', hrun, h2, h3, _⟩ := run_app (c2 := c2) hown hr hsz hbase o.type
  unfold Oper.wp execOp
  simp only [ho, resolve, invoke, builtin, Sem.run_bind, Sem.run_pure, Result.andThen_ok, List.map_toArray, List.map_cons, List.map_nil, hs, hx, hrun]
  exact h A' c' w' h2 h3

theorem wpList_app {ops : Array Oper} {rest : List Oper} {o : Oper} {a : Act} {w : World} {Q : Exit → Act → World → Prop} (hgd : o.guard = none) (s x : Operand)
    (ho : o.op = .call { callee := .builtin .append, args := #[s, x], argTypes := #[23, 23] })
    {base : Nat} {A : Option Addr} {n c : Nat} {l : List UInt8} (hs : a.eval s = .slice A n c) (hown : Own w base A n c l)
    {B : Nat} {A2 : Option Addr} {m c2 : Nat} {l2 : List UInt8} (hx : a.eval x = .slice A2 m c2) (hr : Rd w B A2 m l2) (hsz : n + m ≤ 1000000000000) (hbase : base ≤ w.heap.size)
    (h : ∀ A' c' w', Own w' base A' (n + m) c' (l ++ l2) → w.grownBy w' (Value.slice A n c).ownBlock → wpList Tryd.prog ops Q rest (a.put o.dst (.slice A' (n + m) c')) w') : wpList Tryd.prog ops Q (o :: rest) a w :=
  wpList_plain hgd fun _ hK => wp_app s x ho hs hown hx hr hsz hbase fun A' c' w' h2 h3 => hK _ _ (h A' c' w' h2 h3)
theorem step_app {ops : Array Oper} {o : Oper} {a : Act} {w : World} {K : Act → World → Prop} {Q : Exit → Act → World → Prop} {E : Prop} (hgd : o.guard = none) (s x : Operand)
    (ho : o.op = .call { callee := .builtin .append, args := #[s, x], argTypes := #[23, 23] })
    {base : Nat} {A : Option Addr} {n c : Nat} {l : List UInt8} (hs : a.eval s = .slice A n c) (hown : Own w base A n c l)
    {B : Nat} {A2 : Option Addr} {m c2 : Nat} {l2 : List UInt8} (hx : a.eval x = .slice A2 m c2) (hr : Rd w B A2 m l2) (hsz : n + m ≤ 1000000000000) (hbase : base ≤ w.heap.size)
    (h : ∀ A' c' w', Own w' base A' (n + m) c' (l ++ l2) → w.grownBy w' (Value.slice A n c).ownBlock → K (a.put o.dst (.slice A' (n + m) c')) w') :
    if Region.wanted o (yielded ops a.tmps) = true then Oper.wp Tryd.prog o a w K Q else E := by
  have hw : Region.wanted o (yielded ops a.tmps) = true := by simp [Region.wanted, hgd]
  rw [if_pos hw]
  exact wp_app s x ho hs hown hx hr hsz hbase h

/-- make([]byte, n) -/
theorem wpList_mk {ops : Array Oper} {rest : List Oper} {o : Oper} {a : Act} {w : World} {Q : Exit → Act → World → Prop} (hgd : o.guard = none) (l c : Operand) (ho : o.op = Op.makeSlice 23 l c)
    {kl kc : IntKind} {L C : Int} {n : Nat} (hl : a.eval l = .int kl L) (hc : a.eval c = .int kc C) (hL : L = (n : Int)) (hC : C = (n : Int)) (hn : n ≤ 1000000000000) {base : Nat} (hbase : base ≤ w.heap.size)
    (h : ∀ w', Own w' base (some ⟨w.heap.size, 0, none⟩) n n (List.replicate n 0) → w.grownBy w' none → wpList Tryd.prog ops Q rest (a.put o.dst (.slice (some ⟨w.heap.size, 0, none⟩) n n)) w') : wpList Tryd.prog ops Q (o :: rest) a w := by
  obtain ⟨i0, hi, hz0, hz1, hz2⟩ := info_parts u8info
  refine wpList_make_full w hgd l c 23 ho base 5 i0 (.int .u8 0) 1 Tryd.underlying23 hi hz0 hz1 kl kc L C n hl hc hL hC (by rw [hz2]; omega) (by unfold maxLen; omega) hbase fun w' h1 h2 => h w' ?_ h2
  unfold Own
  have e : bvs (List.replicate n 0) = (madeCells (Value.int .u8 0).cells (n * 1)).toList := by
    rw [Nat.mul_one]
    show _ = (madeCells #[Value.int .u8 0] n).toList
    rw [toList_madeCells_one]
    unfold bvs
    rw [List.map_replicate]
    rfl
  rw [e]
  exact h1
section
variable {w w' : World} {base n c g : Nat} {l : List UInt8}
/-- A byte of the call's own is written. -/
theorem Own.set (h : Own w base (some ⟨g, 0, none⟩) n c l) {j : Nat} {x : Int} (h0 : 0 ≤ x) (h1 : x ≤ 255) : Own (w.setCell ⟨g, j, none⟩ (.int .u8 x)) base (some ⟨g, 0, none⟩) n c (l.set j (b8 x)) := by
  have := (World.ownsRow.stored (g := g) (cap := c) h j (.int .u8 x)).1
  unfold Own
  have e : bvs (l.set j (b8 x)) = (bvs l).set j (.int .u8 x) := by
    unfold bvs
    rw [List.map_set, u8v_b8 x h0 h1]
  rw [e]
  exact this
theorem Own.cell (h : Own w base (some ⟨g, 0, none⟩) n c l) {j : Nat} (hj : j < n) : w.cell? ⟨g, j, none⟩ = some (.int .u8 (at8 l j)) := by
  rw [World.ownsRow.cellAt (g := g) (cap := c) h j (by omega), bvs_get l j (by rw [h.len]; exact hj)]
theorem Own.free (h : Own w base (some ⟨g, 0, none⟩) n c l) (j : Nat) : w.frozen? ⟨g, j, none⟩ = false := World.ownsRow.frozenAt (g := g) (cap := c) h j
theorem Own.lo' (h : Own w base (some ⟨g, 0, none⟩) n c l) : base ≤ g := h.lo g rfl
end
end Go.Proofs.YtjneoinacobbaaaDoor
