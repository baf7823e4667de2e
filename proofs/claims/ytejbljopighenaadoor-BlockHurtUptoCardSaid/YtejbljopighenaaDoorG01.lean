/- Words for memory: bytes that a slice reads as; a row of the call's own; what stays of both. No program in sight. (Two blocks turned out of the kit's page of words to copy.) Bytes in memory: a slice that reads as a list of bytes ('Rd'), a row of bytes of the call's own ('Own'), append onto it. From a walk that returns true and writes nothing that was there to the row; arguments opened to lists. Bytes as a string; the same bytes; a copy. Plain lemmas on lists and results that several texts use. No program in sight. Lists of bytes in memory: a [][]byte that reads as lists ('RdS'); one of the call's own, its elements too ('OwnS'); append onto it. A [][]byte that came in, opened to lists. -/
import Derived.WalkKit
import Derived.Handy
import Derived.Lib.Hide
import Derived.Deep.AppendLies
import Derived.Deep.Draws
import Derived.Maps.AppendAt
import Derived.Test.YtejbljopighenaaDoorProg
import Derived.Test.YtejbljopighenaaDoorRows
import Derived.ProofKit
import Derived.OpenShut
import Derived.ChangeOld
import Derived.WideKeyArgs
import Derived.JoinedCond
import Derived.Deep.QuietTactic
import Derived.BigQuiet
import Derived.ChangeArms
namespace Go.Proofs.YtejbljopighenaaDoor
open Go.RowKit

theorem block_of_add (a : Addr) (n : Nat) : (a.add n).block = a.block := by unfold Addr.add; split <;> rfl
def Reads (w : World) (B size : Nat) (A : Option Addr) (n : Nat) (xs : List Value) : Prop :=
  xs.length = n * size ∧ (0 < n → ∃ b off, A = some ⟨b, off, none⟩ ∧ b < B ∧ ∀ j u, xs[j]? = some u → w.cell? ⟨b, off + j, none⟩ = some u)

section
variable {w w' : World} {B B' size n : Nat} {A : Option Addr} {xs : List Value}
theorem Reads.none_ : Reads w B size A 0 [] := ⟨by simp, fun h => absurd h (by omega)⟩
theorem Reads.at_ {k : Nat} (h : Reads w B 1 A n xs) (hk : k < n) : ∃ b off u, A = some ⟨b, off, none⟩ ∧ b < B ∧ xs[k]? = some u ∧ w.cell? ⟨b, off + k, none⟩ = some u := by
  obtain ⟨b, off, e, hb, hc⟩ := h.2 (by omega)
  have hl : k < xs.length := by have := h.1; omega
  exact ⟨b, off, xs[k], e, hb, List.getElem?_eq_getElem hl, hc k _ (List.getElem?_eq_getElem hl)⟩
theorem Reads.keep (h : Reads w B size A n xs) (hk : ∀ p : Addr, p.block < B → w'.cell? p = w.cell? p) : Reads w' B size A n xs :=
  ⟨h.1, fun hn => by
    obtain ⟨b, off, e, hb, hc⟩ := h.2 hn
    exact ⟨b, off, e, hb, fun j u hu => (hk _ hb).trans (hc j u hu)⟩⟩
theorem Reads.more (h : Reads w B size A n xs) (hB : B ≤ B') : Reads w B' size A n xs :=
  ⟨h.1, fun hn => by
    obtain ⟨b, off, e, hb, hc⟩ := h.2 hn
    exact ⟨b, off, e, by omega, hc⟩⟩
theorem Reads.below (h : Reads w B size A n xs) (hb : Below B w w') : Reads w' B size A n xs := h.keep fun _ hp => hb.cell hp
theorem Reads.drew (h : Reads w B size A n xs) : Reads w.drew B size A n xs := h
theorem Reads.alloc (h : Reads w B size A n xs) (hB : B ≤ w.heap.size) (o : Obj) : Reads (w.alloc o) B size A n xs := h.keep fun p hp => World.cell?_alloc_lt w o p (by omega)
theorem Reads.setCell (h : Reads w B size A n xs) {p : Addr} (hB : B ≤ p.block) (u : Value) : Reads (w.setCell p u) B size A n xs :=
  h.keep fun q hq => World.cell?_setCell_other w p q u (fun e => by subst e; omega)
theorem Reads.grown (h : Reads w B size A n xs) {row : Option Nat} (hg : w.grownBy w' row) (hB : B ≤ w.heap.size) (hr : ∀ g, row = some g → B ≤ g) : Reads w' B size A n xs :=
  h.keep fun p hp => World.cell?_of_block (hg.block p.block (by omega) (fun e => by have := hr _ e.symm; omega))
theorem Reads.cut (h : Reads w B size A n xs) {k cap : Nat} (hk : k ≤ n) (hc : n ≤ cap) :
    Reads w B size (if cap = k then A else A.map (·.add (k * size))) (n - k) (xs.drop (k * size)) := by
  refine ⟨by rw [List.length_drop, h.1, Nat.sub_mul], fun hn => ?_⟩
  obtain ⟨b, off, rfl, hb, hcell⟩ := h.2 (by omega)
  rw [if_neg (by omega)]
  refine ⟨b, off + k * size, by simp [Addr.add_lit], hb, fun j u hu => ?_⟩
  rw [Nat.add_assoc]
  exact hcell _ u (by rw [← hu, List.getElem?_drop])
theorem Reads.take (h : Reads w B size A n xs) {k : Nat} (hk : k ≤ n) : Reads w B size A k (xs.take (k * size)) := by
  refine ⟨by rw [List.length_take, h.1]; exact Nat.min_eq_left (Nat.mul_le_mul_right _ hk), fun hn => ?_⟩
  obtain ⟨b, off, rfl, hb, hcell⟩ := h.2 (by omega)
  refine ⟨b, off, rfl, hb, fun j u hu => hcell j u ?_⟩
  rw [List.getElem?_take] at hu
  split at hu
  · exact hu
  · cases hu
theorem Reads.of_own {base : Nat} {e : TypeId} {c : Nat} (h : w.ownsRow base e size (.slice A n c) n xs) : Reads w w.heap.size size A n xs := by
  refine ⟨h.1, fun hn => ?_⟩
  obtain ⟨g, cap, hv, _, hlt⟩ := h.form hn
  have hA : A = some ⟨g, 0, none⟩ := by injection hv
  subst hA
  refine ⟨g, 0, rfl, hlt, fun j u hu => ?_⟩
  have := h.cells (g := g) rfl j u hu
  rwa [Addr.add_lit] at this
end

section
variable {P : Program} (w : World)

theorem run_append_of_nil (base : Nat) (t ty e : TypeId) (i : TypeInfo) (size : Nat) (ht : P.underlying t = some (.slice e)) (hi : P.info? e = some i)
    (v : Value) (n : Nat) (xs : List Value) (hown : w.ownsRow base e size v n xs) (c : Nat) : (Builtin.append_ #[t, t] ty #[v, .slice none 0 c]).run P w = .ok v w := by
  rcases hown.2 with ⟨rfl, rfl⟩ | ⟨g, cap, cur, rfl, _, _, hnc, _⟩
  · simp [Builtin.append_, run_underlying ht, sizeOf, typeInfo, hi, Builtin.lenOf, Builtin.firstCells]
  · simp [Builtin.append_, run_underlying ht, sizeOf, typeInfo, hi, Builtin.lenOf, Builtin.firstCells, hnc, storeCells]

theorem run_append_any (base : Nat) (t ty e : TypeId) (i : TypeInfo) (z : Value) (size bytes : Nat) (ht : P.underlying t = some (.slice e)) (hi : P.info? e = some i) (hz : i.zero = some z)
    (hsize : i.size = size) (hby : i.bytes = bytes) (hzs : z.cells.size = size) (hsz : 0 < size)
    (v : Value) (n : Nat) (xs : List Value) (hown : w.ownsRow base e size v n xs)
    (B : Nat) (A : Option Addr) (m c : Nat) (news : List Value) (hr : Reads w B size A m news) (h1 : ∀ u ∈ news, u.oneCell' = true)
    (h63 : n + m ≤ maxLen) (hbytes : (n + m) * bytes ≤ 140737488355328) (hbase : base ≤ w.heap.size) :
    ∃ v' w', (Builtin.append_ #[t, t] ty #[v, .slice A m c]).run P w = .ok v' w' ∧ w'.ownsRow base e size v' (n + m) (xs ++ news) ∧ w.grownBy w' v.ownBlock ∧
      (v'.ownBlock = v.ownBlock ∨ v'.ownBlock = some w.heap.size) ∧ (v' = .slice none 0 0 ↔ v = .slice none 0 0 ∧ m = 0) := by
  rcases A with _ | ad
  · have hm : m = 0 := by
      rcases Nat.eq_zero_or_pos m with h0 | h0
      · exact h0
      · obtain ⟨b, off, h, _⟩ := hr.2 h0
        cases h
    subst hm
    have hn : news = [] := List.eq_nil_of_length_eq_zero (by simpa using hr.1)
    subst hn
    exact ⟨v, w, run_append_of_nil w base t ty e i size ht hi v n xs hown c, by simpa using hown, World.grownBy.refl w _, .inl rfl, by simp⟩
  · have hcells : ∀ j u, news[j]? = some u → w.cell? (ad.add j) = some u := by
      intro j u hu
      rcases Nat.eq_zero_or_pos m with h0 | h0
      · subst h0
        have hn : news = [] := List.eq_nil_of_length_eq_zero (by simpa using hr.1)
        subst hn
        simp at hu
      · obtain ⟨b, off, h, _, hc⟩ := hr.2 h0
        injection h with h
        subst h
        rw [Addr.add_lit]
        exact hc j u hu
    obtain ⟨v', w', hrun, h2, h3, h4, h5⟩ := run_append_own_at (P := P) w base t ty e i z size bytes ht hi hz hsize hby hzs hsz v n xs hown ad m c news hr.1 hcells h1 h63 hbytes hbase
    exact ⟨v', w', hrun, h2, h3, h5, h4⟩
end

/-- What owns a row is nil or a slice of so many. -/
theorem own_slice {w : World} {base : Nat} {e : TypeId} {size : Nat} {v : Value} {n : Nat} {xs : List Value} (h : w.ownsRow base e size v n xs) : ∃ A c, v = .slice A n c := by
  rcases h.2 with ⟨rfl, rfl⟩ | ⟨g, cap, cur, rfl, _⟩
  · exact ⟨none, 0, rfl⟩
  · exact ⟨_, cap, rfl⟩
end Go.Proofs.YtejbljopighenaaDoor
namespace Go.Proofs.YtejbljopighenaaDoor
open Go.RowKit

theorem u8info : (Tryd.prog.info? 5).map (fun i => (i.zero, i.size, i.bytes)) = some (some (.int .u8 0), 1, 1) := by kernel_rfl

/-- The byte at a place, as a number; 0 behind the end. -/
def at8 (l : List UInt8) (k : Nat) : Int := ((l.getD k 0).toNat : Int)
theorem at8_lo (l : List UInt8) (k : Nat) : 0 ≤ at8 l k := by unfold at8; omega
theorem at8_hi (l : List UInt8) (k : Nat) : at8 l k ≤ 255 := by unfold at8; have := (l.getD k 0).toNat_lt; omega
theorem at8_of (l : List UInt8) (k : Nat) (h : k < l.length) : at8 l k = (l[k].toNat : Int) := by unfold at8; rw [List.getD_eq_getElem?_getD, List.getElem?_eq_getElem h]; rfl
/-- The byte that a number is. -/
def b8 (x : Int) : UInt8 := UInt8.ofNat x.toNat
def u8v (c : UInt8) : Value := .int .u8 (c.toNat : Int)
def bvs (l : List UInt8) : List Value := l.map u8v
theorem u8v_b8 (x : Int) (h0 : 0 ≤ x) (h1 : x ≤ 255) : u8v (b8 x) = .int .u8 x := by
  unfold u8v b8
  congr 1
  rw [UInt8.toNat_ofNat']
  omega
theorem b8_at8 (l : List UInt8) (k : Nat) : b8 (at8 l k) = l.getD k 0 := by
  unfold b8 at8; rw [Int.toNat_natCast, UInt8.ofNat_toNat]
theorem b8_nat (c : UInt8) : b8 (c.toNat : Int) = c := by unfold b8; rw [Int.toNat_natCast, UInt8.ofNat_toNat]
theorem u8v_at8 (l : List UInt8) (k : Nat) (h : k < l.length) : u8v l[k] = .int .u8 (at8 l k) := by rw [at8_of l k h]; rfl
theorem bvs_length (l : List UInt8) : (bvs l).length = l.length := by simp [bvs]
theorem bvs_append (l m : List UInt8) : bvs (l ++ m) = bvs l ++ bvs m := by simp [bvs]
theorem bvs_drop (l : List UInt8) (k : Nat) : bvs (l.drop k) = (bvs l).drop k := by simp [bvs]
theorem bvs_take (l : List UInt8) (k : Nat) : bvs (l.take k) = (bvs l).take k := by simp [bvs]
theorem bvs_one (l : List UInt8) : ∀ u ∈ bvs l, u.oneCell' = true := by
  intro u hu
  obtain ⟨_, _, rfl⟩ := List.mem_map.1 hu
  rfl
theorem bvs_get (l : List UInt8) (k : Nat) (h : k < l.length) : (bvs l)[k]? = some (.int .u8 (at8 l k)) := by
  unfold bvs
  rw [List.getElem?_map, List.getElem?_eq_getElem h, Option.map_some, u8v_at8]
theorem ret_bool {a b : Bool} (h : a = b) : Ending.returned (.bool a) = Ending.returned (.bool b) := by rw [h]
theorem ret_slice {A : Option Addr} {n m c : Nat} (h : n = m) : Ending.returned (.slice A n c) = Ending.returned (.slice A m c) := by rw [h]
/-- A slice of n bytes that reads as l, below block B. -/
def Rd (w : World) (B : Nat) (A : Option Addr) (n : Nat) (l : List UInt8) : Prop := Reads w B 1 A n (bvs l)
/-- A slice of n bytes of the call's own (from block 'base' on), that reads as l. -/
def Own (w : World) (base : Nat) (A : Option Addr) (n c : Nat) (l : List UInt8) : Prop := w.ownsRow base 5 1 (.slice A n c) n (bvs l)

section
variable {w w' : World} {B B' base n c : Nat} {A : Option Addr} {l : List UInt8}
theorem Rd.len (h : Rd w B A n l) : l.length = n := by have := h.1; rw [bvs_length] at this; omega
theorem Rd.nil_ : Rd w B A 0 [] := Reads.none_
theorem Rd.at_ {k : Nat} (h : Rd w B A n l) (hk : k < n) : ∃ b off, A = some ⟨b, off, none⟩ ∧ w.cell? ⟨b, off + k, none⟩ = some (.int .u8 (at8 l k)) := by
  obtain ⟨b, off, u, e, _, hu, hc⟩ := Reads.at_ h hk
  rw [bvs_get l k (by rw [h.len]; exact hk)] at hu
  injection hu with hu
  subst hu
  exact ⟨b, off, e, hc⟩
theorem Rd.cells (h : Rd w B A n l) (hn : 0 < n) : ∃ b off, A = some ⟨b, off, none⟩ ∧ b < B ∧ ∀ k, k < n → w.cell? ⟨b, off + k, none⟩ = some (.int .u8 (at8 l k)) := by
  obtain ⟨b, off, e, hb, hc⟩ := h.2 hn
  exact ⟨b, off, e, hb, fun k hk => hc k _ (bvs_get l k (by rw [h.len]; exact hk))⟩
theorem Rd.atB {k : Nat} (h : Rd w B A n l) (hk : k < n) : ∃ b off, A = some ⟨b, off, none⟩ ∧ b < B ∧ w.cell? ⟨b, off + k, none⟩ = some (.int .u8 (at8 l k)) := by
  obtain ⟨b, off, u, e, hb, hu, hc⟩ := Reads.at_ h hk
  rw [bvs_get l k (by rw [h.len]; exact hk)] at hu
  injection hu with hu
  subst hu
  exact ⟨b, off, e, hb, hc⟩
theorem Rd.shift {b off k : Nat} (h : Rd w B (some ⟨b, off, none⟩) n l) (hk : k ≤ n) : Rd w B (some ⟨b, off + k, none⟩) (n - k) (l.drop k) := by
  have hl := h.len
  refine ⟨by rw [bvs_length, List.length_drop]; omega, fun hn => ?_⟩
  obtain ⟨b', off', e, hb, hc⟩ := h.2 (by omega)
  injection e with e
  injection e with e1 e2
  subst e1 e2
  refine ⟨b, off + k, rfl, hb, fun j u hu => ?_⟩
  rw [Nat.add_assoc]
  exact hc _ u (by rw [← hu, bvs_drop, List.getElem?_drop])
theorem Rd.keep (h : Rd w B A n l) (hk : ∀ p : Addr, p.block < B → w'.cell? p = w.cell? p) : Rd w' B A n l := Reads.keep h hk
theorem Rd.more (h : Rd w B A n l) (hB : B ≤ B') : Rd w B' A n l := Reads.more h hB
theorem Rd.below (h : Rd w B A n l) (hb : Below B w w') : Rd w' B A n l := Reads.below h hb
theorem Rd.drew (h : Rd w B A n l) : Rd w.drew B A n l := h
theorem Rd.alloc (h : Rd w B A n l) (hB : B ≤ w.heap.size) (o : Obj) : Rd (w.alloc o) B A n l := Reads.alloc h hB o
theorem Rd.grown (h : Rd w B A n l) {row : Option Nat} (hg : w.grownBy w' row) (hB : B ≤ w.heap.size) (hr : ∀ g, row = some g → B ≤ g) : Rd w' B A n l := Reads.grown h hg hB hr
theorem Rd.cut (h : Rd w B A n l) {k cap : Nat} (hk : k ≤ n) (hc : n ≤ cap) : Rd w B (if cap = k then A else A.map (·.add k)) (n - k) (l.drop k) := by
  have := Reads.cut h hk hc
  simp only [Nat.mul_one, ← bvs_drop] at this
  exact this
theorem Rd.take (h : Rd w B A n l) {k : Nat} (hk : k ≤ n) : Rd w B A k (l.take k) := by
  have := Reads.take h hk
  simp only [Nat.mul_one, ← bvs_take] at this
  exact this
theorem Rd.up (h : Rd w w.heap.size A n l) (hb : Below w.heap.size w w') : Rd w' w'.heap.size A n l := (h.below hb).more hb.size
theorem Rd.mid {i j : Nat} (h : Rd w B A n l) (hij : i + j ≤ n) (hc : n ≤ c) : Rd w B (if c = i then A else A.map (·.add i)) j ((l.drop i).take j) := by
  have h1 := h.cut (k := i) (cap := c) (by omega) hc
  exact h1.take (by omega)
theorem Own.rd (h : Own w base A n c l) : Rd w w.heap.size A n l := Reads.of_own h
theorem Own.len (h : Own w base A n c l) : l.length = n := by have := h.1; rw [bvs_length] at this; omega
theorem Own.nil_ (w : World) (base : Nat) : Own w base none 0 0 [] := World.ownsRow_nil _ _ _ _
theorem Own.alloc (h : Own w base A n c l) (o : Obj) : Own (w.alloc o) base A n c l := World.ownsRow.alloc h o
theorem Own.drew (h : Own w base A n c l) : Own w.drew base A n c l := h
theorem Own.kept {row : Option Nat} (h : Own w base A n c l) (hg : w.grownBy w' row) (hne : (Value.slice A n c).ownBlock = none ∨ (Value.slice A n c).ownBlock ≠ row) : Own w' base A n c l := World.ownsRow.kept h hg hne
theorem Own.below (h : Own w base A n c l) (hb : Below w.heap.size w w') : Own w' base A n c l :=
  World.ownsRow.kept h (row := none) ⟨hb.os, hb.tape, hb.output, hb.size, fun k hk _ => hb.block k hk⟩ (by cases (Value.slice A n c).ownBlock <;> simp)
theorem Own.lo (h : Own w base A n c l) : ∀ k, (Value.slice A n c).ownBlock = some k → base ≤ k := fun k hk => (World.ownsRow.lt h k hk).1
theorem below_nil {w w' : World} {v : Value} (hv : v.ownBlock = none) (hg : w.grownBy w' v.ownBlock) : Below w.heap.size w w' :=
  (Below.refl _ _).grown hg (Nat.le_refl _) (by rw [hv]; intro k h; cases h)
theorem below_own {W w w' : World} (hb : Below W.heap.size W w) {A : Option Addr} {n c : Nat} {l : List UInt8} (hown : Own w W.heap.size A n c l) (hg : w.grownBy w' (Value.slice A n c).ownBlock) : Below W.heap.size W w' :=
  hb.grown hg hb.size (fun k hk => (World.ownsRow.lt hown k hk).1)
theorem Own.less (h : Own w base A n c l) {base' : Nat} (hb : base' ≤ base) : Own w base' A n c l := by
  refine ⟨h.1, ?_⟩
  rcases h.2 with h2 | ⟨g, cap, cur, hv, hg, r⟩
  · exact .inl h2
  · exact .inr ⟨g, cap, cur, hv, by omega, r⟩
theorem Own.cap_ (h : Own w base A n c l) : n ≤ c := by
  rcases h.2 with ⟨hv, h0⟩ | ⟨g, cap, cur, hv, _, _, hle, _⟩
  · injection hv with _ h1 h2; omega
  · injection hv with _ h1 h2; omega
end

/-- A new block of one, two, four bytes reads as these. -/
theorem Rd.lit (w : World) (xs : List Int) (n : Nat) (hn : xs.length = n) (h : ∀ x ∈ xs, 0 ≤ x ∧ x ≤ 255) :
    Rd (w.alloc (.cells (xs.map (Value.int .u8)).toArray 5)) (w.heap.size + 1) (some ⟨w.heap.size, 0, none⟩) n (xs.map b8) := by
  have e : bvs (xs.map b8) = xs.map (Value.int .u8) := by
    unfold bvs
    rw [List.map_map]
    refine List.map_congr_left fun x hx => ?_
    exact u8v_b8 x (h x hx).1 (h x hx).2
  refine ⟨by rw [bvs_length]; simp [hn], fun _ => ⟨_, 0, rfl, by simp, fun j u hu => ?_⟩⟩
  rw [e] at hu
  rw [Nat.zero_add, World.cell?_alloc_at _ _ _ _ rfl]
  simpa using hu
theorem Rd.lit1 (w : World) (x : Int) (h : 0 ≤ x ∧ x ≤ 255) : Rd (w.alloc (.cells #[.int .u8 x] 5)) (w.heap.size + 1) (some ⟨w.heap.size, 0, none⟩) 1 [b8 x] :=
  Rd.lit w [x] 1 rfl (by simpa using h)
theorem Own.lit (w : World) (base : Nat) (hb : base ≤ w.heap.size) (xs : List Int) (n : Nat) (hn : xs.length = n) (hm : n ≤ 1000000) (h : ∀ x ∈ xs, 0 ≤ x ∧ x ≤ 255) :
    Own (w.alloc (.cells (xs.map (Value.int .u8)).toArray 5)) base (some ⟨w.heap.size, 0, none⟩) n n (xs.map b8) := by
  have e : bvs (xs.map b8) = xs.map (Value.int .u8) := by
    unfold bvs
    rw [List.map_map]
    refine List.map_congr_left fun x hx => ?_
    exact u8v_b8 x (h x hx).1 (h x hx).2
  have := World.ownsRow_lit (base := base) (e := 5) (size := 1) w (xs.map (Value.int .u8)).toArray n hb (by unfold maxLen; omega) (by simp [hn])
  unfold Own
  rw [e]
  simpa using this
theorem Own.lit1 (w : World) (base : Nat) (hb : base ≤ w.heap.size) (x : Int) (h : 0 ≤ x ∧ x ≤ 255) : Own (w.alloc (.cells #[.int .u8 x] 5)) base (some ⟨w.heap.size, 0, none⟩) 1 1 [b8 x] :=
  Own.lit w base hb [x] 1 rfl (by omega) (by simpa using h)
/-- append of bytes onto bytes of the call's own. -/
theorem run_app {w : World} {base : Nat} {A : Option Addr} {n c : Nat} {l : List UInt8} (hown : Own w base A n c l)
    {B : Nat} {A2 : Option Addr} {m c2 : Nat} {l2 : List UInt8} (hr : Rd w B A2 m l2) (hsz : n + m ≤ 1000000000000) (hbase : base ≤ w.heap.size) (ty : TypeId) :
    ∃ A' c' w', (Builtin.append_ #[22, 22] ty #[.slice A n c, .slice A2 m c2]).run Tryd.prog w = .ok (.slice A' (n + m) c') w' ∧ Own w' base A' (n + m) c' (l ++ l2) ∧ w.grownBy w' (Value.slice A n c).ownBlock ∧
      ((Value.slice A' (n + m) c').ownBlock = (Value.slice A n c).ownBlock ∨ (Value.slice A' (n + m) c').ownBlock = some w.heap.size) ∧ (A' = none ↔ A = none ∧ m = 0) := by
  obtain ⟨i0, hi, hz0, hz1, hz2⟩ := info_parts u8info
  obtain ⟨v', w', hrun, h2, h3, h4, h5⟩ := run_append_any (P := Tryd.prog) w base 22 ty 5 i0 (.int .u8 0) 1 1 Tryd.underlying22 hi hz0 hz1 hz2 rfl (by omega) _ n _ hown B A2 m c2 _ hr (bvs_one l2) (by unfold maxLen; omega) (by omega) hbase
  obtain ⟨A', c', rfl⟩ := own_slice h2
  refine ⟨A', c', w', hrun, by unfold Own; rw [bvs_append]; exact h2, h3, h4, ?_⟩
  have hx1 := h2.2
  have hx0 := hown.2
  constructor
  · rintro rfl
    have : Value.slice none (n + m) c' = .slice none 0 0 := by
      rcases hx1 with ⟨e, _⟩ | ⟨g, cap, cur, e, _⟩
      · exact e
      · simp at e
    obtain ⟨e1, e2⟩ := h5.1 this
    injection e1 with e1
    exact ⟨e1, e2⟩
  · rintro ⟨rfl, rfl⟩
    have : Value.slice none n c = .slice none 0 0 := by
      rcases hx0 with ⟨e, _⟩ | ⟨g, cap, cur, e, _⟩
      · exact e
      · simp at e
    have := h5.2 ⟨this, rfl⟩
    injection this

set_option maxRecDepth 100000 in
theorem wp_app {o : Oper} {a : Act} {w : World} {K : Act → World → Prop} {Q : Exit → Act → World → Prop} (s x : Operand)
    (ho : o.op = .call { callee := .builtin .append, args := #[s, x], argTypes := #[22, 22] })
    {base : Nat} {A : Option Addr} {n c : Nat} {l : List UInt8} (hs : a.eval s = .slice A n c) (hown : Own w base A n c l)
    {B : Nat} {A2 : Option Addr} {m c2 : Nat} {l2 : List UInt8} (hx : a.eval x = .slice A2 m c2) (hr : Rd w B A2 m l2) (hsz : n + m ≤ 1000000000000) (hbase : base ≤ w.heap.size)
    (h : ∀ A' c' w', Own w' base A' (n + m) c' (l ++ l2) → w.grownBy w' (Value.slice A n c).ownBlock → K (a.put o.dst (.slice A' (n + m) c')) w') : o.wp Tryd.prog a w K Q := by
  obtain ⟨A', c', w', hrun, h2, h3, _⟩ := run_app (c2 := c2) hown hr hsz hbase o.type
  unfold Oper.wp execOp
  simp only [ho, resolve, invoke, builtin, Sem.run_bind, Sem.run_pure, Result.andThen_ok, List.map_toArray, List.map_cons, List.map_nil, hs, hx, hrun]
  exact h A' c' w' h2 h3

set_option maxRecDepth 100000 in
theorem wpList_app {ops : Array Oper} {rest : List Oper} {o : Oper} {a : Act} {w : World} {Q : Exit → Act → World → Prop} (hgd : o.guard = none) (s x : Operand)
    (ho : o.op = .call { callee := .builtin .append, args := #[s, x], argTypes := #[22, 22] })
    {base : Nat} {A : Option Addr} {n c : Nat} {l : List UInt8} (hs : a.eval s = .slice A n c) (hown : Own w base A n c l)
    {B : Nat} {A2 : Option Addr} {m c2 : Nat} {l2 : List UInt8} (hx : a.eval x = .slice A2 m c2) (hr : Rd w B A2 m l2) (hsz : n + m ≤ 1000000000000) (hbase : base ≤ w.heap.size)
    (h : ∀ A' c' w', Own w' base A' (n + m) c' (l ++ l2) → w.grownBy w' (Value.slice A n c).ownBlock → wpList Tryd.prog ops Q rest (a.put o.dst (.slice A' (n + m) c')) w') : wpList Tryd.prog ops Q (o :: rest) a w :=
  wpList_plain hgd fun _ hK => wp_app s x ho hs hown hx hr hsz hbase fun A' c' w' h2 h3 => hK _ _ (h A' c' w' h2 h3)
section
variable {w w' : World} {base n c g : Nat} {l : List UInt8}
/-- A byte of the call's own is written. -/
theorem Own.set (h : Own w base (some ⟨g, 0, none⟩) n c l) {j : Nat} {x : Int} (h0 : 0 ≤ x) (h1 : x ≤ 255) : Own (w.setCell ⟨g, j, none⟩ (.int .u8 x)) base (some ⟨g, 0, none⟩) n c (l.set j (b8 x)) := by
  have := (World.ownsRow.stored (g := g) (cap := c) h j (.int .u8 x)).1
  unfold Own
  have e : bvs (l.set j (b8 x)) = (bvs l).set j (.int .u8 x) := by
    unfold bvs
    rw [List.map_set, u8v_b8 x h0 h1]
  rw [e]
  exact this
theorem Own.cell (h : Own w base (some ⟨g, 0, none⟩) n c l) {j : Nat} (hj : j < n) : w.cell? ⟨g, j, none⟩ = some (.int .u8 (at8 l j)) := by
  rw [World.ownsRow.cellAt (g := g) (cap := c) h j (by omega), bvs_get l j (by rw [h.len]; exact hj)]
theorem Own.free (h : Own w base (some ⟨g, 0, none⟩) n c l) (j : Nat) : w.frozen? ⟨g, j, none⟩ = false := World.ownsRow.frozenAt (g := g) (cap := c) h j
end
end Go.Proofs.YtejbljopighenaaDoor
namespace Go.Proofs.YtejbljopighenaaDoor
open Go.ChangeShapes Go.WideShapes Go.ChangeAt Go.RowKit

theorem own_ : ownKnob Tryd.prog.godebug = none := by kernel_rfl
theorem laidOut : laidOutB Tryd.prog = true := by kernel_rfl

/-- A call returns true, and below the heap's old size all is as it was. -/
def RetTrue (w : World) (e : Ending) (w' : World) : Prop := e = .returned (.bool true) ∧ Below w.heap.size w w'

section
variable {H : Type} {enc : TypeId × Value → H} {P : Program}
theorem trodAll_stays (hl : laidOutB P = true) {W W' : World} (hb : Below W.heap.size W W') {sp : Nat → Bool} : ∀ (ts : List TypeId) (vs : List Value) (ds : List (DataW H)) (p : List MemPlace),
    (ts.all fun t => P.readableRec t && decide (t < P.types.size)) = true → DataW.TrodAll enc P W 0 (fun _ => true) true ts vs ds p → (∀ x ∈ p, x.block < W.heap.size) → (∀ x ∈ p, sp x.block = true) → DataW.TrodAll enc P W' 0 sp true ts vs ds p
  | [], vs, ds, p, _, h, _, _ => by
    obtain ⟨rfl, rfl, rfl⟩ := trodAll_nil h
    exact trodAll_mk0
  | t :: ts, vs, ds, p, ht, h, hlt, hsp => by
    obtain ⟨v, vs', d, ds', p0, q0, rfl, rfl, rfl, h0, r0⟩ := trodAll_cons h
    rw [List.all_cons, Bool.and_eq_true, Bool.and_eq_true, decide_eq_true_eq] at ht
    refine trodAll_cons_mk (WideElems.Trod_stays hl ht.1.1 ht.1.2 h0 (fun x hx => hb.same (hlt x (by simp [hx]))) (fun x hx => hsp x (by simp [hx]))) (trodAll_stays hl hb ts vs' ds' q0 ht.2 r0 (fun x hx => hlt x (by simp [hx])) (fun x hx => hsp x (by simp [hx])))

theorem post_of_below {f : Func} {s : ChangeSpec} {apart fresh handsOn again : Bool} {W W' : World} {args : Array Value} {v : Value} {ds gs : List (DataW H)} {before pa pv : List MemPlace}
    (hW : DataW.Whole enc P f.params.toList s.vars apart W args.toList ds gs before)
    (hres : ∀ (b : Nat) (sp : Nat → Bool) (hd : Bool), DataW.TrodAll enc P W' b sp hd f.resultTypes.toList (v.resultList f.resultTypes.size) (s.fn H (ds ++ gs)).results [])
    (hargs : ∀ sp : Nat → Bool, (∀ p ∈ before, sp p.block = true) → DataW.TrodAll enc P W' 0 sp true f.params.toList args.toList (s.fn H (ds ++ gs)).args pa)
    (hvars : ∀ sp : Nat → Bool, (∀ p ∈ before, sp p.block = true) → DataW.TrodVars enc P W' sp s.vars (s.fn H (ds ++ gs)).vars pv)
    (hps : before = pa ++ pv) (hb : Below W.heap.size W W')
    (hok : ∀ (j : Nat) (t : TypeId) (r : Value), f.resultTypes[j]? = some t → (v.resultList f.resultTypes.size)[j]? = some r → Value.okWide P W' .any 0 t r) :
    s.post enc P f apart fresh handsOn again W args v W' := by
  have hlt : ∀ p ∈ before, p.block < W.heap.size := fun p hp => hW.lt p hp
  have hold : ∀ p ∈ before, (fun b => decide (b < W.heap.size)) p.block = true := fun p hp => by simpa using hlt p hp
  refine ⟨ds, gs, before, [], pa, pv, hW, hres _ _ _, hargs _ hold, hvars _ hold, World.keptBut_mono (fun p hp => ⟨hp, ?_⟩) (hb.frame (· ∈ before)), fun _ => ?_⟩
  · rw [hps, List.mem_append] at hp
    exact Or.inr hp
  · obtain ⟨_, _, _, _, _, hz, hn⟩ := hW
    refine ⟨hok, _, _, ([] ++ pa) ++ pv, ⟨[] ++ pa, pv, trodAll_append (hargs _ (fun _ _ => rfl)) (hres _ _ _), hvars _ (fun _ _ => rfl), rfl, ?_, ?_⟩, ?_⟩
    · intro b off hp
      have hin : MemPlace.cell b off ∈ before := by rw [hps]; simpa using hp
      rw [hb.frozen (hlt _ hin)]
      exact hz b off hin
    · intro ha
      have := hn ha
      rw [hps] at this
      simpa using this
    · intro p hp _
      rw [hps]
      simpa using hp

/-- THE ROW'S LAST STEP: the law has returned true, nothing that was there has turned. -/
theorem law_post (hl : laidOutB P = true) {tb : TypeId} (hbool : P.underlying tb = some .bool) {f : Func} {s : ChangeSpec} {W W' : World} {args : Array Value} {ds gs : List (DataW H)} {before : List MemPlace}
    (hvars : s.vars = []) (hW : DataW.Whole enc P f.params.toList s.vars false W args.toList ds gs before)
    (hts : (f.params.toList.all fun t => P.readableRec t && decide (t < P.types.size)) = true) (hrt : f.resultTypes = #[tb])
    (hres : (s.fn H (ds ++ gs)).results = [.lit (.bool true)]) (hargs : (s.fn H (ds ++ gs)).args = ds) (hvs : (s.fn H (ds ++ gs)).vars = []) (hb : Below W.heap.size W W') :
    s.post enc P f false true false false W args (.bool true) W' := by
  have hW' := hW
  obtain ⟨p, q, hA, hV, rfl, hfz, hnd⟩ := hW
  rw [hvars] at hV
  obtain ⟨rfl, rfl⟩ := trodVars_none hV
  have hlt : ∀ x ∈ p, x.block < W.heap.size := fun x hx => hW'.lt x (by simp [hx])
  refine post_of_below (pa := p) (pv := []) hW' ?_ ?_ ?_ rfl hb ?_
  · intro b sp hd
    rw [hres, hrt]
    exact trodAll_cons_mk (shut_bool hbool _) trodAll_mk0
  · intro sp hsp
    rw [hargs]
    exact trodAll_stays hl hb _ _ _ _ hts hA hlt (fun x hx => hsp x (by simp [hx]))
  · intro sp hsp
    rw [hvars, hvs]
    rfl
  · exact ok_one hrt rfl (okWide_bool_mk hbool _)
end

theorem wf_i64 {n : Int} (h : (Lit.int .i64 n).wf = true) : -9223372036854775808 ≤ n ∧ n ≤ 9223372036854775807 := by
  simpa [Lit.wf, IntKind.min, IntKind.max, IntKind.signed, IntKind.bits] using h
theorem wf_u8 {n : Int} (h : (Lit.int .u8 n).wf = true) : 0 ≤ n ∧ n ≤ 255 := by
  simpa [Lit.wf, IntKind.min, IntKind.max, IntKind.signed, IntKind.bits] using h
end Go.Proofs.YtejbljopighenaaDoor
namespace Go.Proofs.YtejbljopighenaaDoor
open Go.RowKit

/-- string(b) -/
theorem run_str {w : World} {B : Nat} {A : Option Addr} {n : Nat} {l : List UInt8} (hr : Rd w B A n l) (c : Nat) :
    (convert 22 9 (.slice A n c)).run Tryd.prog w = .ok (.string ⟨l.toArray⟩) w := by
  rw [run_convert_bytes_string w 22 9 5 A n c Tryd.underlying22 Tryd.underlying5 Tryd.underlying9]
  rcases A with _ | a
  · have h0 : n = 0 := by
      rcases Nat.eq_zero_or_pos n with h0 | h0
      · exact h0
      · obtain ⟨b, off, h, _⟩ := hr.2 h0
        cases h
    have hl := hr.len
    rw [h0] at hl
    obtain rfl := List.eq_nil_of_length_eq_zero hl
    rfl
  · have hc : ∀ j v, (bvs l)[j]? = some v → w.cell? (a.add j) = some v := by
      intro j v hv
      have hn : 0 < n := by
        rw [← hr.len]
        rcases l with _ | ⟨x, l⟩
        · simp [bvs] at hv
        · simp
      obtain ⟨b, off, h, _, hcell⟩ := hr.2 hn
      injection h with h
      subst h
      rw [Addr.add_lit]
      exact hcell j v hv
    have hl := run_loadCells_list (P := Tryd.prog) w a (bvs l) hc
    rw [bvs_length, hr.len] at hl
    have e : bvs l = (l.map fun b => (b.toNat : Int)).map (Value.int .u8) := by
      unfold bvs; rw [List.map_map]; rfl
    rw [e] at hl
    rw [run_bytesToString w a n c _ hl, foldl_push_byteCells]
    show Result.ok (Value.string ⟨(#[] : Array UInt8) ++ l.toArray⟩) w = _
    rw [Array.empty_append]

set_option maxHeartbeats 400000 in
theorem same_any (A1 A2 : Option Addr) (n m c1 c2 B1 B2 : Nat) (a b : List UInt8) (w : World) (h1 : Rd w B1 A1 n a) (h2 : Rd w B2 A2 m b) :
    Calls Tryd.prog 13 #[.slice A1 n c1, .slice A2 m c2] w fun e w' => e = .returned (.bool (decide (a = b))) ∧ w = w' := by
  have e1 := run_str h1 c1
  have e2 := run_str h2 c2
  go_enter Tryd.func13, Tryd.ntmps13
  go_wp2
  go_ret
  exact ⟨ret_bool (by rw [Bool.eq_iff_iff]; simp), rfl⟩
set_option maxHeartbeats 400000 in
theorem copy_any (A : Option Addr) (n c : Nat) (l : List UInt8) (w : World) (hr : Rd w w.heap.size A n l) (hn : n ≤ 100000000000) :
    Calls Tryd.prog 22 #[.slice A n c] w fun e w' => ∃ A' c', e = .returned (.slice A' n c') ∧ Own w' w.heap.size A' n c' l ∧ Below w.heap.size w w' := by
  go_enter Tryd.func22, Tryd.ntmps22
  go_wp2_with (at_builtin; refine wpList_app rfl _ _ rfl rfl (Own.nil_ w w.heap.size) rfl hr (by omega) (by omega) ?_; intro A2 c2 w2 hown2 hg2)
  go_ret
  exact ⟨A2, c2, ret_slice (by omega), by simpa using hown2, (Below.refl _ _).grown hg2 (Nat.le_refl _) (by simp [Value.ownBlock])⟩
end Go.Proofs.YtejbljopighenaaDoor
namespace Go.Proofs.YtejbljopighenaaDoor

theorem belowA {W w : World} (h : Go.RowKit.Below W.heap.size W w) (o : Obj) : Go.RowKit.Below W.heap.size W (w.alloc o) := h.alloc h.size o
end Go.Proofs.YtejbljopighenaaDoor
namespace Go.Proofs.YtejbljopighenaaDoor
open Go.RowKit

theorem lsinfo : (Tryd.prog.info? 22).map (fun i => (i.zero, i.size, i.bytes)) = some (some (.slice none 0 0), 1, 24) := by kernel_rfl

/-- The values vs are slices of bytes that read as these lists, below block B. -/
structure Els (w : World) (B : Nat) (vs : List Value) (ll : List (List UInt8)) : Prop where
  len : vs.length = ll.length
  rd : ∀ (k : Nat) (v : Value) (l : List UInt8), vs[k]? = some v → ll[k]? = some l → ∃ A n c, v = .slice A n c ∧ n ≤ c ∧ Rd w B A n l
/-- A slice of n slices of bytes that reads as these lists, below block B. -/
def RdS (w : World) (B : Nat) (A : Option Addr) (n : Nat) (ll : List (List UInt8)) : Prop := ∃ vs, Reads w B 1 A n vs ∧ Els w B vs ll

section
variable {w w' : World} {B B' base n c : Nat} {A : Option Addr} {ll : List (List UInt8)} {vs : List Value}
theorem Els.keep (h : Els w B vs ll) (hk : ∀ p : Addr, p.block < B → w'.cell? p = w.cell? p) : Els w' B vs ll :=
  ⟨h.len, fun k v l h1 h2 => let ⟨A, n, c, hv, hn, hr⟩ := h.rd k v l h1 h2; ⟨A, n, c, hv, hn, hr.keep hk⟩⟩
theorem Els.more (h : Els w B vs ll) (hB : B ≤ B') : Els w B' vs ll :=
  ⟨h.len, fun k v l h1 h2 => let ⟨A, n, c, hv, hn, hr⟩ := h.rd k v l h1 h2; ⟨A, n, c, hv, hn, hr.more hB⟩⟩
theorem RdS.keep (h : RdS w B A n ll) (hk : ∀ p : Addr, p.block < B → w'.cell? p = w.cell? p) : RdS w' B A n ll := let ⟨vs, h1, h2⟩ := h; ⟨vs, h1.keep hk, h2.keep hk⟩
theorem RdS.more (h : RdS w B A n ll) (hB : B ≤ B') : RdS w B' A n ll := let ⟨vs, h1, h2⟩ := h; ⟨vs, h1.more hB, h2.more hB⟩
theorem RdS.below (h : RdS w B A n ll) (hb : Below B w w') : RdS w' B A n ll := h.keep fun _ hp => hb.cell hp
theorem RdS.alloc (h : RdS w B A n ll) (hB : B ≤ w.heap.size) (o : Obj) : RdS (w.alloc o) B A n ll := h.keep fun p hp => World.cell?_alloc_lt w o p (by omega)
theorem RdS.up (h : RdS w w.heap.size A n ll) (hb : Below w.heap.size w w') : RdS w' w'.heap.size A n ll := (h.below hb).more hb.size
theorem RdS.len (h : RdS w B A n ll) : ll.length = n := by obtain ⟨vs, h1, h2⟩ := h; have := h1.1; rw [h2.len] at this; omega
theorem RdS.nil_ : RdS w B A 0 [] := ⟨[], Reads.none_, rfl, fun k v l h => by simp at h⟩
/-- The k-th element: its cell, and what it reads as. -/
theorem RdS.at_ (h : RdS w B A n ll) {k : Nat} (hk : k < n) : ∃ b off A' m c', A = some ⟨b, off, none⟩ ∧ b < B ∧ w.cell? ⟨b, off + k, none⟩ = some (.slice A' m c') ∧ m ≤ c' ∧ Rd w B A' m (ll.getD k []) := by
  have hl := h.len
  obtain ⟨vs, h1, h2⟩ := h
  obtain ⟨b, off, u, e, hb, hu, hc⟩ := h1.at_ hk
  obtain ⟨A', m, c', rfl, hm, hr⟩ := h2.rd k u (ll[k]'(by omega)) hu (List.getElem?_eq_getElem (by omega))
  refine ⟨b, off, A', m, c', e, hb, hc, hm, ?_⟩
  rw [List.getD_eq_getElem?_getD, List.getElem?_eq_getElem (by omega)]
  exact hr
end

/-- The values vs are slices of bytes of the call's own, that read as these lists, each in a block of its own. -/
structure ElsOwn (w : World) (base : Nat) (vs : List Value) (ll : List (List UInt8)) : Prop where
  len : vs.length = ll.length
  own : ∀ (k : Nat) (v : Value) (l : List UInt8), vs[k]? = some v → ll[k]? = some l → ∃ A n c, v = .slice A n c ∧ Own w base A n c l
  far : ∀ (i j : Nat) (v u : Value), vs[i]? = some v → vs[j]? = some u → i ≠ j → v.ownBlock = none ∨ v.ownBlock ≠ u.ownBlock
/-- A slice of n slices of bytes of the call's own, its elements too. -/
def OwnS (w : World) (base : Nat) (A : Option Addr) (n c : Nat) (ll : List (List UInt8)) : Prop := ∃ vs, w.ownsRow base 22 1 (.slice A n c) n vs ∧ ElsOwn w base vs ll

section
variable {w w' : World} {base n c : Nat} {A : Option Addr} {ll : List (List UInt8)} {vs : List Value}
theorem ElsOwn.nil_ : ElsOwn w base [] [] := ⟨rfl, fun k v l h => by simp at h, fun i j v u h => by simp at h⟩
theorem ElsOwn.kept {row : Option Nat} (h : ElsOwn w base vs ll) (hg : w.grownBy w' row) (hne : ∀ v ∈ vs, v.ownBlock = none ∨ v.ownBlock ≠ row) : ElsOwn w' base vs ll :=
  ⟨h.len, fun k v l h1 h2 => by
    obtain ⟨A, n, c, rfl, ho⟩ := h.own k v l h1 h2
    exact ⟨A, n, c, rfl, ho.kept hg (hne _ (List.mem_of_getElem? h1))⟩, h.far⟩
theorem ElsOwn.below (h : ElsOwn w base vs ll) (hb : Below w.heap.size w w') : ElsOwn w' base vs ll :=
  h.kept (row := none) ⟨hb.os, hb.tape, hb.output, hb.size, fun k hk _ => hb.block k hk⟩ (fun v _ => by cases v.ownBlock <;> simp)
theorem ElsOwn.less (h : ElsOwn w base vs ll) {base' : Nat} (hb : base' ≤ base) : ElsOwn w base' vs ll :=
  ⟨h.len, fun k v l h1 h2 => let ⟨A, n, c, hv, ho⟩ := h.own k v l h1 h2; ⟨A, n, c, hv, ho.less hb⟩, h.far⟩
theorem ElsOwn.lt (h : ElsOwn w base vs ll) : ∀ v ∈ vs, ∀ g, v.ownBlock = some g → base ≤ g ∧ g < w.heap.size := by
  intro v hv g hg
  obtain ⟨k, hk⟩ := List.getElem?_of_mem hv
  have hkl : k < ll.length := by rw [← h.len]; exact (List.getElem?_eq_some_iff.1 hk).1
  obtain ⟨A, n, c, rfl, ho⟩ := h.own k v ll[k] hk (List.getElem?_eq_getElem hkl)
  exact World.ownsRow.lt ho g hg
/-- One more, which lies in a block that was not there when the others were made. -/
theorem ElsOwn.snoc (h : ElsOwn w base vs ll) {A' : Option Addr} {m c' H : Nat} {l : List UInt8} (ho : Own w base A' m c' l) (hH : ∀ v ∈ vs, ∀ g, v.ownBlock = some g → g < H) (hN : ∀ g, (Value.slice A' m c').ownBlock = some g → H ≤ g) : ElsOwn w base (vs ++ [.slice A' m c']) (ll ++ [l]) := by
  refine ⟨by simp [h.len], ?_, ?_⟩
  · intro k v l' h1 h2
    by_cases hk : k < vs.length
    · rw [List.getElem?_append_left hk] at h1
      rw [List.getElem?_append_left (by rw [← h.len]; exact hk)] at h2
      exact h.own k v l' h1 h2
    · rw [List.getElem?_append_right (by omega)] at h1
      rw [List.getElem?_append_right (by rw [← h.len]; omega)] at h2
      have e : k - vs.length = 0 := by
        have := (List.getElem?_eq_some_iff.1 h1).1
        simp at this; omega
      rw [e] at h1
      rw [show k - ll.length = 0 by rw [← h.len]; exact e] at h2
      simp at h1 h2
      subst h1; subst h2
      exact ⟨A', m, c', rfl, ho⟩
  · intro i j v u h1 h2 hij
    have key : ∀ v u, v ∈ vs → u = Value.slice A' m c' → (v.ownBlock = none ∨ v.ownBlock ≠ u.ownBlock) ∧ (u.ownBlock = none ∨ u.ownBlock ≠ v.ownBlock) := by
      rintro v u hv rfl
      cases hvb : v.ownBlock with
      | none => cases hub : (Value.slice A' m c').ownBlock <;> simp
      | some g =>
        cases hub : (Value.slice A' m c').ownBlock with
        | none => simp
        | some g' =>
          have h1 := hH v hv g hvb
          have h2 := hN g' hub
          constructor <;> right <;> intro e <;> injection e with e <;> omega
    have two : ∀ k v, (vs ++ [Value.slice A' m c'])[k]? = some v → (k < vs.length ∧ vs[k]? = some v) ∨ (k = vs.length ∧ v = Value.slice A' m c') := by
      intro k v hk
      by_cases hlt : k < vs.length
      · exact .inl ⟨hlt, by rw [List.getElem?_append_left hlt] at hk; exact hk⟩
      · rw [List.getElem?_append_right (by omega)] at hk
        have e : k - vs.length = 0 := by
          have := (List.getElem?_eq_some_iff.1 hk).1
          simp at this; omega
        rw [e] at hk
        simp at hk
        exact .inr ⟨by omega, hk.symm⟩
    rcases two i v h1 with ⟨_, e1⟩ | ⟨i1, e1⟩ <;> rcases two j u h2 with ⟨_, e2⟩ | ⟨j1, e2⟩
    · exact h.far i j v u e1 e2 hij
    · exact (key v u (List.mem_of_getElem? e1) e2).1
    · exact (key u v (List.mem_of_getElem? e2) e1).2
    · omega
theorem OwnS.nil_ (w : World) (base : Nat) : OwnS w base none 0 0 [] := ⟨[], World.ownsRow_nil _ _ _ _, ElsOwn.nil_⟩
theorem OwnS.len (h : OwnS w base A n c ll) : ll.length = n := by obtain ⟨vs, h1, h2⟩ := h; have := h1.1; rw [h2.len] at this; omega
theorem OwnS.cap_ (h : OwnS w base A n c ll) : n ≤ c := by
  obtain ⟨vs, h, _⟩ := h
  rcases h.2 with ⟨hv, h0⟩ | ⟨g, cap, cur, hv, _, _, hle, _⟩
  · injection hv with _ h1 h2; omega
  · injection hv with _ h1 h2; omega
theorem OwnS.rd (h : OwnS w base A n c ll) : RdS w w.heap.size A n ll := by
  obtain ⟨vs, h1, h2⟩ := h
  refine ⟨vs, Reads.of_own h1, h2.len, fun k v l e1 e2 => ?_⟩
  obtain ⟨A', n', c', hv, ho⟩ := h2.own k v l e1 e2
  exact ⟨A', n', c', hv, ho.cap_, ho.rd⟩
theorem OwnS.below (h : OwnS w base A n c ll) (hb : Below w.heap.size w w') : OwnS w' base A n c ll := by
  obtain ⟨vs, h1, h2⟩ := h
  exact ⟨vs, World.ownsRow.kept h1 (row := none) ⟨hb.os, hb.tape, hb.output, hb.size, fun k hk _ => hb.block k hk⟩ (by cases (Value.slice A n c).ownBlock <;> simp), h2.below hb⟩
theorem OwnS.alloc (h : OwnS w base A n c ll) (o : Obj) : OwnS (w.alloc o) base A n c ll := h.below ((Below.refl _ _).alloc (Nat.le_refl _) o)
theorem OwnS.less (h : OwnS w base A n c ll) {base' : Nat} (hb : base' ≤ base) : OwnS w base' A n c ll := by
  obtain ⟨vs, h1, h2⟩ := h
  refine ⟨vs, ⟨h1.1, ?_⟩, h2.less hb⟩
  rcases h1.2 with h3 | ⟨g, cap, cur, hv, hg, r⟩
  · exact .inl h3
  · exact .inr ⟨g, cap, cur, hv, by omega, r⟩
end

/-- Two rows whose elements are of two types lie in two blocks. -/
theorem rows_apart {w : World} {b1 b2 : Nat} {e1 e2 : TypeId} (he : e1 ≠ e2) {s1 s2 : Nat} {v1 v2 : Value} {n1 n2 : Nat} {x1 x2 : List Value} (h1 : w.ownsRow b1 e1 s1 v1 n1 x1) (h2 : w.ownsRow b2 e2 s2 v2 n2 x2) : v1.ownBlock = none ∨ v1.ownBlock ≠ v2.ownBlock := by
  rcases h1.2 with ⟨rfl, _⟩ | ⟨g1, c1, u1, rfl, _, hh1, _⟩
  · exact .inl rfl
  · right
    rcases h2.2 with ⟨rfl, _⟩ | ⟨g2, c2, u2, rfl, _, hh2, _⟩
    · simp [Value.ownBlock]
    · intro e
      have : g1 = g2 := by simpa [Value.ownBlock] using e
      subst this
      rw [hh1] at hh2
      injection hh2 with hh2
      injection hh2 with _ ht
      exact he ht

/-- append(out, s), out and s of the call's own, s made behind all that is in out. -/
theorem run_appS {w : World} {base : Nat} {A : Option Addr} {n c : Nat} {ll : List (List UInt8)} {vs : List Value} (hrow : w.ownsRow base 22 1 (.slice A n c) n vs) (hels : ElsOwn w base vs ll)
    {A' : Option Addr} {m c' H : Nat} {l : List UInt8} (ho : Own w base A' m c' l) (hH : ∀ v ∈ vs, ∀ g, v.ownBlock = some g → g < H) (hN : ∀ g, (Value.slice A' m c').ownBlock = some g → H ≤ g)
    {B : Nat} {A2 : Option Addr} {c2 : Nat} (hr : Reads w B 1 A2 1 [.slice A' m c']) (hsz : n ≤ 1000000000000) (hbase : base ≤ w.heap.size) (ty : TypeId) :
    ∃ A3 c3 w', (Builtin.append_ #[62, 62] ty #[.slice A n c, .slice A2 1 c2]).run Tryd.prog w = .ok (.slice A3 (n + 1) c3) w' ∧ OwnS w' base A3 (n + 1) c3 (ll ++ [l]) ∧ w.grownBy w' (Value.slice A n c).ownBlock := by
  obtain ⟨i0, hi, hz0, hz1, hz2⟩ := info_parts lsinfo
  obtain ⟨v', w', hrun, h2, h3, h4, h5⟩ := run_append_any (P := Tryd.prog) w base 62 ty 22 i0 (.slice none 0 0) 1 24 Tryd.underlying62 hi hz0 hz1 hz2 rfl (by omega) _ n _ hrow B A2 1 c2 _ hr (by intro u hu; simp at hu; subst hu; rfl) (by unfold maxLen; omega) (by omega) hbase
  obtain ⟨A3, c3, rfl⟩ := own_slice h2
  refine ⟨A3, c3, w', hrun, ⟨vs ++ [.slice A' m c'], h2, ?_⟩, h3⟩
  refine (hels.snoc ho hH hN).kept h3 ?_
  intro v hv
  rcases List.mem_append.1 hv with hv | hv
  · obtain ⟨k, hk⟩ := List.getElem?_of_mem hv
    have hkl : k < ll.length := by rw [← hels.len]; exact (List.getElem?_eq_some_iff.1 hk).1
    obtain ⟨A4, n4, c4, rfl, ho4⟩ := hels.own k v ll[k] hk (List.getElem?_eq_getElem hkl)
    exact rows_apart (by decide) ho4 hrow
  · simp at hv
    subst hv
    exact rows_apart (by decide) ho hrow
theorem wpList_appS {ops : Array Oper} {rest : List Oper} {o : Oper} {a : Act} {w : World} {Q : Exit → Act → World → Prop} (hgd : o.guard = none) (s x : Operand)
    (hop : o.op = .call { callee := .builtin .append, args := #[s, x], argTypes := #[62, 62] })
    {base : Nat} {A : Option Addr} {n c : Nat} {ll : List (List UInt8)} {vs : List Value} (hs : a.eval s = .slice A n c) (hrow : w.ownsRow base 22 1 (.slice A n c) n vs) (hels : ElsOwn w base vs ll)
    {A' : Option Addr} {m c' H : Nat} {l : List UInt8} (ho : Own w base A' m c' l) (hH : ∀ v ∈ vs, ∀ g, v.ownBlock = some g → g < H) (hN : ∀ g, (Value.slice A' m c').ownBlock = some g → H ≤ g)
    {B : Nat} {A2 : Option Addr} {c2 : Nat} (hx : a.eval x = .slice A2 1 c2) (hr : Reads w B 1 A2 1 [.slice A' m c']) (hsz : n ≤ 1000000000000) (hbase : base ≤ w.heap.size)
    (h : ∀ A3 c3 w', OwnS w' base A3 (n + 1) c3 (ll ++ [l]) → w.grownBy w' (Value.slice A n c).ownBlock → wpList Tryd.prog ops Q rest (a.put o.dst (.slice A3 (n + 1) c3)) w') : wpList Tryd.prog ops Q (o :: rest) a w := by
  refine wpList_plain hgd fun K hK => ?_
  obtain ⟨A3, c3, w', hrun, h2, h3⟩ := run_appS (c2 := c2) hrow hels ho hH hN hr hsz hbase o.type
  unfold Oper.wp execOp
  simp only [hop, resolve, invoke, builtin, Sem.run_bind, Sem.run_pure, Result.andThen_ok, List.map_toArray, List.map_cons, List.map_nil, hs, hx, hrun]
  exact hK _ _ (h A3 c3 w' h2 h3)
/-- A new block of one value reads as that. -/
theorem Reads.lit1 (w : World) (H : Nat) (hH : w.heap.size = H) (v : Value) (t : TypeId) : Reads (w.alloc (.cells #[v] t)) (H + 1) 1 (some ⟨H, 0, none⟩) 1 [v] := by
  subst hH
  refine ⟨rfl, fun _ => ⟨_, 0, rfl, by omega, fun j u hu => ?_⟩⟩
  rw [Nat.zero_add, World.cell?_alloc_at _ _ _ _ rfl]
  simpa using hu

end Go.Proofs.YtejbljopighenaaDoor
namespace Go.Proofs.YtejbljopighenaaDoor
open Go.ChangeShapes Go.WideShapes Go.ChangeAt Go.RowKit

section
variable {H : Type} {enc : TypeId × Value → H} {W : World}
theorem lits_bulk (k : IntKind) : ∀ zs : List Int, Rows.uptoBulkAll (lits (H := H) k zs) = zs.length
  | [] => rfl
  | z :: zs => by
    have := lits_bulk k zs
    show Rows.uptoBulk (DataW.lit (.int k z)) + Rows.uptoBulkAll (lits k zs) = _
    rw [this, List.length_cons]
    show 1 + zs.length = _
    omega
set_option maxRecDepth 100000 in
theorem rd_trod {fuel : Nat} {cs : List Value} {d : DataW H} {p : List MemPlace} (hf : DataW.trod enc Tryd.prog W 0 (fun _ => true) true fuel 22 cs = some (d, p)) (hlt : ∀ x ∈ p, x.block < W.heap.size) :
    ∃ A n c l, cs = [.slice A n c] ∧ Rd W W.heap.size A n l ∧ n ≤ c ∧ c ≤ maxLen ∧ l.length + 1 ≤ Rows.uptoBulk d ∧ ∀ R, (∀ x ∈ d.weights Tryd.prog 22, x ≤ R) → l.length ≤ R := by
  rcases open_ints Tryd.underlying22 Tryd.underlying5 (by kernel_rfl) hf with ⟨hcs, hx⟩ | ⟨x, l, c, zs, hcs, _, hl, hm, hz, hx, hcell, hwz⟩
  · simp only [Prod.mk.injEq] at hx
    obtain ⟨rfl, rfl⟩ := hx
    exact ⟨none, 0, 0, [], hcs, Rd.nil_, Nat.le_refl _, Nat.zero_le _, Nat.le_refl _, fun _ _ => Nat.zero_le _⟩
  · simp only [if_true] at hz
    simp only [Prod.mk.injEq] at hx
    obtain ⟨rfl, rfl⟩ := hx
    refine ⟨some x, l, c, (zs.take l).map b8, hcs, ⟨by rw [bvs_length]; simp; omega, fun hn => ?_⟩, hl, hm, ?_, ?_⟩
    · obtain ⟨b, off, spot⟩ := x
      have hspot : spot = none := by simpa [Addr.add] using World.cell?_spot (hcell 0 (by omega))
      subst hspot
      have hbW : b < W.heap.size := hlt (.cell b off) (MemPlace.mem_row.2 ⟨0, by omega, by simp⟩)
      refine ⟨b, off, rfl, hbW, fun j u hu => ?_⟩
      have e : bvs ((zs.take l).map b8) = (zs.take l).map (Value.int .u8) := by
        unfold bvs
        rw [List.map_map]
        refine List.map_congr_left fun z hz => ?_
        have := hwz z (List.mem_of_mem_take hz)
        have hr : 0 ≤ z ∧ z ≤ 255 := by simpa [Lit.wf, IntKind.min, IntKind.max, IntKind.signed, IntKind.bits] using this
        exact u8v_b8 z hr.1 hr.2
      rw [e, List.getElem?_map] at hu
      obtain ⟨z, hz1, rfl⟩ := Option.map_eq_some_iff.1 hu
      have hj : j < l := by
        rw [List.getElem?_take] at hz1
        split at hz1
        · assumption
        · cases hz1
      have hc := hcell j (by omega)
      rw [Addr.add_lit] at hc
      rw [hc]
      rw [List.getElem?_take, if_pos hj] at hz1
      rw [List.getD_eq_getElem?_getD, hz1]
      rfl
    · show _ ≤ Rows.uptoBulkAll (lits .u8 (zs.take l)) + Rows.uptoBulkAll (lits .u8 (zs.drop l)) + 1
      rw [lits_bulk, lits_bulk]
      simp
    · intro R hR
      have hb : Tryd.prog.bytesOf 5 = 1 := by kernel_rfl
      have := hR (((lits (H := H) .u8 (zs.take l)).length + (lits (H := H) .u8 (zs.drop l)).length) * Tryd.prog.bytesOf 5) (by
        unfold DataW.weights; rw [Tryd.underlying22]; simp)
      rw [hb] at this
      have h3 : (lits (H := H) .u8 (zs.take l)).length = (zs.take l).length := by simp [lits]
      rw [List.length_map, ← h3]; omega
end

end Go.Proofs.YtejbljopighenaaDoor
