/- What single operations give, for the walk that reckons. No program in sight. Cuts in the walk that reckons: what follows asks no more of what stands ahead than what the cut says. Words for memory: bytes that a slice reads as; a row of the call's own; what stays of both. No program in sight. (Two blocks turned out of the kit's page of words to copy.) Blocks that are known whole: cells of the call's own. No program in sight. Bytes in memory: a slice that reads as a list of bytes ('Rd'), a row of bytes of the call's own ('Own'), append onto it. Data in blocks that nobody writes any more: what cells read as; the blocks that are still written are told apart. No program in sight. Bytes as a string; the same bytes; a copy. Single operations on bytes, for the walk that reckons. -/
import Derived.Test.YtliccofjlheceaaG01
import Derived.WalkKit
import Derived.Handy
import Derived.Lib.Hide
import Derived.Deep.AppendLies
import Derived.Deep.Draws
import Derived.Maps.AppendAt
import Derived.Test.YtliccofjlheceaaProg
namespace Go.Proofs.Ytliccofjlheceaa
open Go.RowKit

section
variable {P : Program} {E : Env} {d : Option Nat} {ty : TypeId} {p : String} {af : Array Edge} {g : Option (Nat × Bool)} {x y z : Operand} {t u : TypeId} {kd kd2 : IntKind} {a b r : Int} {k : Value → Prop} {S : World → Prop} {kw : Value → World → Prop} {w w' : World} {o : Oper} {v : Value}

theorem pp (h : ∀ w, (execOp (val E) o).run P w = .ok (.value v) w) (hk : k v) : VPure P E o k := ⟨v, h, hk⟩
theorem vv (h : (execOp (val E) o).run P w = .ok (.value v) w') (hk : kw v w') : VVal P E o w kw := ⟨v, w', h, hk⟩
theorem th (h : ∀ w, S w → (execOp (val E) o).run P w = .ok (.value v) w) (hk : k v) : VHeld P S E o k := ⟨v, h, hk⟩
theorem vs_ (h : (execOp (val E) o).run P w = .ok .skip w') (hk : kw undef w') : VSkip P E o w kw := ⟨w', h, hk⟩
theorem cc {f : Nat} {args : Array Value} {R : Ending → World → Prop} (hi : isFn P f = true) (c : Calls P f args w R) (h : ∀ e w', R e w' → ∃ v, e = .returned v ∧ kw v w') : VCall P f args w kw := ⟨hi, c.mono h⟩

theorem w64 {x : Int} (h : -9223372036854775808 ≤ x ∧ x ≤ 9223372036854775807) : IntKind.i64.wrap x = x := IntWalk.i64_in _ h
theorem g_ar {op : BinOp} {res : Int} (hop : Op.intArith op kd a b = pure (.int kd res)) (hb : (op == .add || (op == .sub || op == .mul)) = true) (hx : val E x = .int kd a) (hy : val E y = .int kd b) (w : World) :
    (execOp (val E) { dst := d, op := .binOp op t x y u, type := ty, pos := p, after := af, guard := g }).run P w = .ok (.value (.int kd res)) w := by
  simp only [execOp, hx, hy]
  cases op <;> first | (cases hb; done) | (simp [eqGuard, binOp, hop])
theorem p_add (hx : val E x = .int kd a) (hy : val E y = .int kd b) (hr : kd.wrap (a + b) = r) (h : k (.int kd r)) : VPure P E { dst := d, op := .binOp .add t x y u, type := ty, pos := p, after := af, guard := g } k :=
  pp (g_ar (by subst hr; rfl) rfl hx hy) h
theorem p_mul (hx : val E x = .int kd a) (hy : val E y = .int kd b) (hr : kd.wrap (a * b) = r) (h : k (.int kd r)) : VPure P E { dst := d, op := .binOp .mul t x y u, type := ty, pos := p, after := af, guard := g } k :=
  pp (g_ar (by subst hr; rfl) rfl hx hy) h
theorem p_rem (hx : val E x = .int kd a) (hy : val E y = .int kd b) (hb : b ≠ 0) (hr : a.tmod b = r) (h : k (.int kd r)) : VPure P E { dst := d, op := .binOp .rem t x y u, type := ty, pos := p, after := af, guard := g } k :=
  pp (fun w => by simp only [execOp, hx, hy]; simp [eqGuard, binOp, Op.intDiv, hb, hr]) h
theorem g_cmp {op : BinOp} {q : Bool} (hop : Op.intCmp op a b = pure (.bool q)) (hb : (op == .eql || (op == .neq || (op == .lss || (op == .leq || (op == .gtr || op == .geq))))) = true) (hx : val E x = .int kd a) (hy : val E y = .int kd b) (w : World) :
    (execOp (val E) { dst := d, op := .binOp op t x y u, type := ty, pos := p, after := af, guard := g }).run P w = .ok (.value (.bool q)) w := by
  simp only [execOp, hx, hy]
  cases op <;> first | (cases hb; done) | (simp [eqGuard, binOp, hop])
theorem split_dec {q : Prop} [Decidable q] (h1 : q → k (.bool true)) (h2 : ¬ q → k (.bool false)) : k (.bool (decide q)) := by
  by_cases h : q
  · rw [decide_eq_true h]; exact h1 h
  · rw [decide_eq_false h]; exact h2 h
theorem p_lt (hx : val E x = .int kd a) (hy : val E y = .int kd b) (h1 : a < b → k (.bool true)) (h2 : ¬ a < b → k (.bool false)) : VPure P E { dst := d, op := .binOp .lss t x y u, type := ty, pos := p, after := af, guard := g } k :=
  pp (g_cmp rfl rfl hx hy) (split_dec h1 h2)
theorem p_gt (hx : val E x = .int kd a) (hy : val E y = .int kd b) (h1 : b < a → k (.bool true)) (h2 : ¬ b < a → k (.bool false)) : VPure P E { dst := d, op := .binOp .gtr t x y u, type := ty, pos := p, after := af, guard := g } k :=
  pp (g_cmp rfl rfl hx hy) (split_dec (q := a > b) h1 h2)
theorem p_eq (hx : val E x = .int kd a) (hy : val E y = .int kd b) (h1 : a = b → k (.bool true)) (h2 : ¬ a = b → k (.bool false)) : VPure P E { dst := d, op := .binOp .eql t x y u, type := ty, pos := p, after := af, guard := g } k :=
  pp (g_cmp (q := decide (a = b)) (by simp only [Op.intCmp]; congr 2) rfl hx hy) (split_dec h1 h2)
theorem p_ne (hx : val E x = .int kd a) (hy : val E y = .int kd b) (h1 : a = b → k (.bool false)) (h2 : ¬ a = b → k (.bool true)) : VPure P E { dst := d, op := .binOp .neq t x y u, type := ty, pos := p, after := af, guard := g } k := by
  refine pp (g_cmp (q := !decide (a = b)) (by simp only [Op.intCmp, bne]; congr 2) rfl hx hy) ?_
  by_cases h : a = b
  · rw [decide_eq_true h]; exact h1 h
  · rw [decide_eq_false h]; exact h2 h
/-- What a slice type's element is, and how many cells it has. -/
def slOf (P : Program) (t : TypeId) : Option (TypeId × Nat) :=
  match P.underlying t with
  | some (.slice e) => (P.info? e).map fun i => (e, i.size)
  | _ => none
/-- Is a type one of parts, and how many cells has it? -/
def aggOf (P : Program) (t : TypeId) : Option (Bool × Nat) :=
  match P.underlying t with
  | none => none
  | some d => (P.info? t).map fun i => (match d with | .struct _ => true | .array _ _ => true | _ => false, i.size)
theorem slOf_spec {e : TypeId} {s : Nat} (h : slOf P t = some (e, s)) : P.underlying t = some (.slice e) ∧ ∃ i, P.info? e = some i ∧ i.size = s := by
  unfold slOf at h
  split at h
  · rename_i e' hu
    obtain ⟨i, hi, he⟩ := Option.map_eq_some_iff.1 h
    injection he with he1 he2
    subst he1
    exact ⟨hu, i, hi, he2⟩
  · cases h
theorem aggOf_run {q : Bool} {s : Nat} (h : aggOf P t = some (q, s)) (w : World) : (isAgg t).run P w = .ok q w ∧ (sizeOf t).run P w = .ok s w := by
  unfold aggOf at h
  split at h
  · cases h
  · rename_i dd hu
    obtain ⟨i, hi, he⟩ := Option.map_eq_some_iff.1 h
    injection he with he1 he2
    subst he1 he2
    refine ⟨?_, by simp [sizeOf, typeInfo, hi]⟩
    cases dd <;> simp [isAgg, run_underlying hu]

theorem p_len {A : Option Addr} {n c : Nat} {e : TypeId} {s : Nat} (hT : slOf P t = some (e, s)) (hx : val E x = .slice A n c) (h : k (.int .i64 n)) : VPure P E { dst := d, op := .call { callee := .builtin .len, args := #[x], argTypes := #[t] }, type := ty, pos := p, after := af, guard := g } k :=
  pp (fun w => by
    have hu := (slOf_spec hT).1
    simp [execOp, resolve, invoke, builtin, Builtin.len_, hx, run_underlying hu, goInt]) h
theorem v_cvt {dst : TypeId} {kd' : IntKind} {w : World} (hs : (P.underlying t).isSome = true) (hd : P.underlying dst = some (.int kd')) (hx : val E x = .int kd a) (hr : kd'.wrap a = r) (h : kw (.int kd' r) w) : VVal P E { dst := d, op := .convert t dst x, type := ty, pos := p, after := af, guard := g } w kw :=
  vv (by
    obtain ⟨dd, hd'⟩ := Option.isSome_iff_exists.mp hs
    subst hr; simp [execOp, hx, convert, run_underlying hd', run_underlying hd, Conv.intToInt]) h
def slA (A : Option Addr) (m l s : Nat) : Option Addr := if m = l then A else A.map (·.add (l * s))
theorem p_at {ad : Addr} {n c i : Nat} {e : TypeId} {s : Nat} {j : Int} (hT : slOf P t = some (e, s)) (hx : val E x = .slice (some ad) n c) (hy : val E y = .int kd j) (hj : j = (i : Int)) (hi : i < n)
    (h : k (.pointer (some (ad.add (i * s))))) : VPure P E { dst := d, op := .indexAddr t x y, type := ty, pos := p, after := af, guard := g } k :=
  pp (fun w => by
    obtain ⟨hu, info, hi1, hi2⟩ := slOf_spec hT
    subst hj
    simp [execOp, hx, hy, Instr.indexAt, run_underlying hu, asIntOf, hi, sizeOf, typeInfo, hi1, hi2]) h
theorem run_load1 {n : Nat} {ad : Addr} {w : World} (hT : aggOf P t = some (false, n)) (hc : w.cell? ad = some v) : (loadVar t ad).run P w = .ok v w := by
  simp only [loadVar, Sem.run_bind, (aggOf_run hT w).1, Result.andThen_ok]
  simp [hc]
theorem v_load {n : Nat} {ad : Addr} {w : World} (hT : aggOf P t = some (false, n)) (hx : val E x = .pointer (some ad)) (hc : w.cell? ad = some v) (h : kw v w) : VVal P E { dst := d, op := .load t x, type := ty, pos := p, after := af, guard := g } w kw :=
  vv (by simp only [execOp, hx, Instr.loadAt, Instr.sureAddr, Sem.run_bind, Sem.run_pure, Result.andThen_ok, run_load1 hT hc]) h
theorem v_store {ad : Addr} {w : World} {old : Value} (hT : (P.info? t).map (·.size) = some 1) (hx : val E x = .pointer (some ad)) (hy : val E y = v) (h1 : v.oneCell' = true) (hc : w.cell? ad = some old) (hf : w.frozen? ad = false) (h : kw undef (w.setCell ad v)) : VSkip P E { dst := d, op := .store t x y, type := ty, pos := p, after := af, guard := g } w kw :=
  vs_ (by
    obtain ⟨i, hi1, hi2⟩ := Option.map_eq_some_iff.1 hT
    have e : v.cells = #[v] := by cases v <;> first | rfl | cases h1
    simp only [execOp, hx, hy, Instr.storeAt, Instr.sureAddr, Sem.run_bind, Sem.run_pure, Result.andThen_ok, storeVar, sizeOf, typeInfo, run_program, hi1, hi2, e]
    simp [storeCells, Addr.add, run_store P w ad v _ h1, hc, hf]) h
end
end Go.Proofs.Ytliccofjlheceaa
namespace Go.Proofs.Ytliccofjlheceaa
open Go.RowKit

section
variable {P : Program} {ops : Array Oper} {E : Env} {w : World} {K : Env → World → Prop}
/-- A loop. -/
theorem lp {B : Env → World → Kont → Prop} {K : Kont} (S : Type) (I : S → World → Prop) (L : S → List (Nat × Value)) (μ : S → Nat) (s0 : S) (h0 : I s0 w) (ha : agrees E (L s0))
    (hr : ∀ s E w, I s w → B (over E (L s)) w (fun x E' w' => match x with | .normal => ∃ s', I s' w' ∧ agrees E' (L s') ∧ μ s' < μ s | x => K x E' w')) : VLoop B E w K := ⟨S, I, L, μ, ⟨s0, h0, ha⟩, hr⟩
end
end Go.Proofs.Ytliccofjlheceaa
namespace Go.Proofs.Ytliccofjlheceaa
open Go.RowKit

theorem block_of_add (a : Addr) (n : Nat) : (a.add n).block = a.block := by unfold Addr.add; split <;> rfl
def Reads (w : World) (B size : Nat) (A : Option Addr) (n : Nat) (xs : List Value) : Prop :=
  xs.length = n * size ∧ (0 < n → ∃ b off, A = some ⟨b, off, none⟩ ∧ b < B ∧ ∀ j u, xs[j]? = some u → w.cell? ⟨b, off + j, none⟩ = some u)

section
variable {w w' : World} {B B' size n : Nat} {A : Option Addr} {xs : List Value}
theorem Reads.none_ : Reads w B size A 0 [] := ⟨by simp, fun h => absurd h (by omega)⟩
theorem Reads.at_ {k : Nat} (h : Reads w B 1 A n xs) (hk : k < n) : ∃ b off u, A = some ⟨b, off, none⟩ ∧ b < B ∧ xs[k]? = some u ∧ w.cell? ⟨b, off + k, none⟩ = some u := by
  obtain ⟨b, off, e, hb, hc⟩ := h.2 (by omega)
  have hl : k < xs.length := by have := h.1; omega
  exact ⟨b, off, xs[k], e, hb, List.getElem?_eq_getElem hl, hc k _ (List.getElem?_eq_getElem hl)⟩
theorem Reads.keep (h : Reads w B size A n xs) (hk : ∀ p : Addr, p.block < B → w'.cell? p = w.cell? p) : Reads w' B size A n xs :=
  ⟨h.1, fun hn => by
    obtain ⟨b, off, e, hb, hc⟩ := h.2 hn
    exact ⟨b, off, e, hb, fun j u hu => (hk _ hb).trans (hc j u hu)⟩⟩
theorem Reads.more (h : Reads w B size A n xs) (hB : B ≤ B') : Reads w B' size A n xs :=
  ⟨h.1, fun hn => by
    obtain ⟨b, off, e, hb, hc⟩ := h.2 hn
    exact ⟨b, off, e, by omega, hc⟩⟩
theorem Reads.below (h : Reads w B size A n xs) (hb : Below B w w') : Reads w' B size A n xs := h.keep fun _ hp => hb.cell hp
theorem Reads.drew (h : Reads w B size A n xs) : Reads w.drew B size A n xs := h
theorem Reads.drewN (h : Reads w B size A n xs) (k : Nat) : Reads (w.drewN k) B size A n xs := h
theorem Reads.alloc (h : Reads w B size A n xs) (hB : B ≤ w.heap.size) (o : Obj) : Reads (w.alloc o) B size A n xs := h.keep fun p hp => World.cell?_alloc_lt w o p (by omega)
theorem Reads.setCell (h : Reads w B size A n xs) {p : Addr} (hB : B ≤ p.block) (u : Value) : Reads (w.setCell p u) B size A n xs :=
  h.keep fun q hq => World.cell?_setCell_other w p q u (fun e => by subst e; omega)
theorem Reads.grown (h : Reads w B size A n xs) {row : Option Nat} (hg : w.grownBy w' row) (hB : B ≤ w.heap.size) (hr : ∀ g, row = some g → B ≤ g) : Reads w' B size A n xs :=
  h.keep fun p hp => World.cell?_of_block (hg.block p.block (by omega) (fun e => by have := hr _ e.symm; omega))
theorem Reads.cut (h : Reads w B size A n xs) {k cap : Nat} (hk : k ≤ n) (hc : n ≤ cap) :
    Reads w B size (if cap = k then A else A.map (·.add (k * size))) (n - k) (xs.drop (k * size)) := by
  refine ⟨by rw [List.length_drop, h.1, Nat.sub_mul], fun hn => ?_⟩
  obtain ⟨b, off, rfl, hb, hcell⟩ := h.2 (by omega)
  rw [if_neg (by omega)]
  refine ⟨b, off + k * size, by simp [Addr.add_lit], hb, fun j u hu => ?_⟩
  rw [Nat.add_assoc]
  exact hcell _ u (by rw [← hu, List.getElem?_drop])
theorem Reads.take (h : Reads w B size A n xs) {k : Nat} (hk : k ≤ n) : Reads w B size A k (xs.take (k * size)) := by
  refine ⟨by rw [List.length_take, h.1]; exact Nat.min_eq_left (Nat.mul_le_mul_right _ hk), fun hn => ?_⟩
  obtain ⟨b, off, rfl, hb, hcell⟩ := h.2 (by omega)
  refine ⟨b, off, rfl, hb, fun j u hu => hcell j u ?_⟩
  rw [List.getElem?_take] at hu
  split at hu
  · exact hu
  · cases hu
theorem Reads.of_own {base : Nat} {e : TypeId} {c : Nat} (h : w.ownsRow base e size (.slice A n c) n xs) : Reads w w.heap.size size A n xs := by
  refine ⟨h.1, fun hn => ?_⟩
  obtain ⟨g, cap, hv, _, hlt⟩ := h.form hn
  have hA : A = some ⟨g, 0, none⟩ := by injection hv
  subst hA
  refine ⟨g, 0, rfl, hlt, fun j u hu => ?_⟩
  have := h.cells (g := g) rfl j u hu
  rwa [Addr.add_lit] at this
end

section
variable {P : Program} (w : World)

theorem run_append_of_nil (base : Nat) (t ty e : TypeId) (i : TypeInfo) (size : Nat) (ht : P.underlying t = some (.slice e)) (hi : P.info? e = some i)
    (v : Value) (n : Nat) (xs : List Value) (hown : w.ownsRow base e size v n xs) (c : Nat) : (Builtin.append_ #[t, t] ty #[v, .slice none 0 c]).run P w = .ok v w := by
  rcases hown.2 with ⟨rfl, rfl⟩ | ⟨g, cap, cur, rfl, _, _, hnc, _⟩
  · simp [Builtin.append_, run_underlying ht, sizeOf, typeInfo, hi, Builtin.lenOf, Builtin.firstCells]
  · simp [Builtin.append_, run_underlying ht, sizeOf, typeInfo, hi, Builtin.lenOf, Builtin.firstCells, hnc, storeCells]

theorem run_append_any (base : Nat) (t ty e : TypeId) (i : TypeInfo) (z : Value) (size bytes : Nat) (ht : P.underlying t = some (.slice e)) (hi : P.info? e = some i) (hz : i.zero = some z)
    (hsize : i.size = size) (hby : i.bytes = bytes) (hzs : z.cells.size = size) (hsz : 0 < size)
    (v : Value) (n : Nat) (xs : List Value) (hown : w.ownsRow base e size v n xs)
    (B : Nat) (A : Option Addr) (m c : Nat) (news : List Value) (hr : Reads w B size A m news) (h1 : ∀ u ∈ news, u.oneCell' = true)
    (h63 : n + m ≤ maxLen) (hbytes : (n + m) * bytes ≤ 140737488355328) (hbase : base ≤ w.heap.size) :
    ∃ v' w', (Builtin.append_ #[t, t] ty #[v, .slice A m c]).run P w = .ok v' w' ∧ w'.ownsRow base e size v' (n + m) (xs ++ news) ∧ w.grownBy w' v.ownBlock ∧
      (v'.ownBlock = v.ownBlock ∨ v'.ownBlock = some w.heap.size) ∧ (v' = .slice none 0 0 ↔ v = .slice none 0 0 ∧ m = 0) := by
  rcases A with _ | ad
  · have hm : m = 0 := by
      rcases Nat.eq_zero_or_pos m with h0 | h0
      · exact h0
      · obtain ⟨b, off, h, _⟩ := hr.2 h0
        cases h
    subst hm
    have hn : news = [] := List.eq_nil_of_length_eq_zero (by simpa using hr.1)
    subst hn
    exact ⟨v, w, run_append_of_nil w base t ty e i size ht hi v n xs hown c, by simpa using hown, World.grownBy.refl w _, .inl rfl, by simp⟩
  · have hcells : ∀ j u, news[j]? = some u → w.cell? (ad.add j) = some u := by
      intro j u hu
      rcases Nat.eq_zero_or_pos m with h0 | h0
      · subst h0
        have hn : news = [] := List.eq_nil_of_length_eq_zero (by simpa using hr.1)
        subst hn
        simp at hu
      · obtain ⟨b, off, h, _, hc⟩ := hr.2 h0
        injection h with h
        subst h
        rw [Addr.add_lit]
        exact hc j u hu
    obtain ⟨v', w', hrun, h2, h3, h4, h5⟩ := run_append_own_at (P := P) w base t ty e i z size bytes ht hi hz hsize hby hzs hsz v n xs hown ad m c news hr.1 hcells h1 h63 hbytes hbase
    exact ⟨v', w', hrun, h2, h3, h5, h4⟩
end

/-- What owns a row is nil or a slice of so many. -/
theorem own_slice {w : World} {base : Nat} {e : TypeId} {size : Nat} {v : Value} {n : Nat} {xs : List Value} (h : w.ownsRow base e size v n xs) : ∃ A c, v = .slice A n c := by
  rcases h.2 with ⟨rfl, rfl⟩ | ⟨g, cap, cur, rfl, _⟩
  · exact ⟨none, 0, rfl⟩
  · exact ⟨_, cap, rfl⟩
end Go.Proofs.Ytliccofjlheceaa
namespace Go.Proofs.Ytliccofjlheceaa
open Go.RowKit

/-- Block g holds these cells, and nobody shares them with a string. -/
def Blk (w : World) (g : Nat) (T : TypeId) (cs : List Value) : Prop := w.heap[g]? = some (.cells cs.toArray T (0, 0))
section
variable {w w' : World} {g : Nat} {T : TypeId} {cs : List Value}
theorem Blk.lt (h : Blk w g T cs) : g < w.heap.size := (Array.getElem?_eq_some_iff.1 h).1
theorem Blk.cell (h : Blk w g T cs) (i : Nat) : w.cell? ⟨g, i, none⟩ = cs[i]? := by
  unfold Blk at h
  simp [World.cell?, h]
theorem Blk.at_ (h : Blk w g T cs) {i : Nat} {v : Value} (hi : cs[i]? = some v) : w.cell? ⟨g, i, none⟩ = some v := (h.cell i).trans hi
theorem Blk.free (h : Blk w g T cs) (i : Nat) : w.frozen? ⟨g, i, none⟩ = false := by
  unfold Blk at h
  simp [World.frozen?, h]
theorem Blk.new (w : World) (cs : List Value) (T : TypeId) : Blk (w.alloc (.cells cs.toArray T)) w.heap.size T cs := by
  show (w.heap.push _)[w.heap.size]? = _
  simp
theorem Blk.old (h : Blk w g T cs) (o : Obj) : Blk (w.alloc o) g T cs := (Below.heap_alloc w o g h.lt).trans h
theorem Blk.drew (h : Blk w g T cs) : Blk w.drew g T cs := h
theorem Blk.below (h : Blk w g T cs) (hb : Below w.heap.size w w') : Blk w' g T cs := (hb.block g h.lt).trans h
theorem Blk.set (h : Blk w g T cs) (i : Nat) (v : Value) : Blk (w.setCell ⟨g, i, none⟩ v) g T (cs.set i v) := by
  unfold Blk at h ⊢
  simp only [World.setCell, Array.getElem?_modify, h]
  simp
theorem Blk.other (h : Blk w g T cs) {p : Addr} (hp : p.block ≠ g) (v : Value) : Blk (w.setCell p v) g T cs := (Below.heap_setCell w p v g (fun e => hp e.symm)).trans h
theorem Blk.grown {row : Option Nat} (h : Blk w g T cs) (hg : w.grownBy w' row) (hr : row ≠ some g) : Blk w' g T cs := (hg.block g h.lt (fun e => hr e.symm)).trans h
theorem Blk.grownN {g' : Nat} (h : Blk w g T cs) (hg : w.grownBy w' (some g')) (hr : g' ≠ g) : Blk w' g T cs := h.grown hg (fun e => hr (by injection e))
/-- Cells one behind the other. -/
theorem Blk.run (h : Blk w g T cs) (i : Nat) (vs : List Value) (hv : ∀ j v, vs[j]? = some v → cs[i + j]? = some v) : ∀ j v, vs[j]? = some v → w.cell? ((⟨g, i, none⟩ : Addr).add j) = some v := by
  intro j v hj
  rw [Addr.add_lit]
  exact h.at_ (hv j v hj)
end

section
variable {P : Program} {E : Env} {d : Option Nat} {ty : TypeId} {p : String} {af : Array Edge} {gd : Option (Nat × Bool)} {x y : Operand} {t : TypeId} {kw : Value → World → Prop} {w : World}
end
end Go.Proofs.Ytliccofjlheceaa
namespace Go.Proofs.Ytliccofjlheceaa
open Go.RowKit

theorem u8info : (Try.prog.info? 5).map (fun i => (i.zero, i.size, i.bytes)) = some (some (.int .u8 0), 1, 1) := by kernel_rfl

/-- The byte at a place, as a number; 0 behind the end. -/
def at8 (l : List UInt8) (k : Nat) : Int := ((l.getD k 0).toNat : Int)
theorem at8_lo (l : List UInt8) (k : Nat) : 0 ≤ at8 l k := by unfold at8; omega
theorem at8_hi (l : List UInt8) (k : Nat) : at8 l k ≤ 255 := by unfold at8; have := (l.getD k 0).toNat_lt; omega
theorem at8_of (l : List UInt8) (k : Nat) (h : k < l.length) : at8 l k = (l[k].toNat : Int) := by unfold at8; rw [List.getD_eq_getElem?_getD, List.getElem?_eq_getElem h]; rfl
/-- The byte that a number is. -/
def b8 (x : Int) : UInt8 := UInt8.ofNat x.toNat
def u8v (c : UInt8) : Value := .int .u8 (c.toNat : Int)
def bvs (l : List UInt8) : List Value := l.map u8v
theorem u8v_b8 (x : Int) (h0 : 0 ≤ x) (h1 : x ≤ 255) : u8v (b8 x) = .int .u8 x := by
  unfold u8v b8
  congr 1
  rw [UInt8.toNat_ofNat']
  omega
theorem b8_nat (c : UInt8) : b8 (c.toNat : Int) = c := by unfold b8; rw [Int.toNat_natCast, UInt8.ofNat_toNat]
theorem u8v_at8 (l : List UInt8) (k : Nat) (h : k < l.length) : u8v l[k] = .int .u8 (at8 l k) := by rw [at8_of l k h]; rfl
theorem bvs_length (l : List UInt8) : (bvs l).length = l.length := by simp [bvs]
theorem bvs_append (l m : List UInt8) : bvs (l ++ m) = bvs l ++ bvs m := by simp [bvs]
theorem bvs_drop (l : List UInt8) (k : Nat) : bvs (l.drop k) = (bvs l).drop k := by simp [bvs]
theorem bvs_take (l : List UInt8) (k : Nat) : bvs (l.take k) = (bvs l).take k := by simp [bvs]
theorem bvs_one (l : List UInt8) : ∀ u ∈ bvs l, u.oneCell' = true := by
  intro u hu
  obtain ⟨_, _, rfl⟩ := List.mem_map.1 hu
  rfl
theorem bvs_get (l : List UInt8) (k : Nat) (h : k < l.length) : (bvs l)[k]? = some (.int .u8 (at8 l k)) := by
  unfold bvs
  rw [List.getElem?_map, List.getElem?_eq_getElem h, Option.map_some, u8v_at8]
theorem ret_bool {a b : Bool} (h : a = b) : Ending.returned (.bool a) = Ending.returned (.bool b) := by rw [h]
theorem ret_slice {A : Option Addr} {n m c : Nat} (h : n = m) : Ending.returned (.slice A n c) = Ending.returned (.slice A m c) := by rw [h]
/-- A slice of n bytes that reads as l, below block B. -/
def Rd (w : World) (B : Nat) (A : Option Addr) (n : Nat) (l : List UInt8) : Prop := Reads w B 1 A n (bvs l)
/-- A slice of n bytes of the call's own (from block 'base' on), that reads as l. -/
def Own (w : World) (base : Nat) (A : Option Addr) (n c : Nat) (l : List UInt8) : Prop := w.ownsRow base 5 1 (.slice A n c) n (bvs l)

section
variable {w w' : World} {B B' base n c : Nat} {A : Option Addr} {l : List UInt8}
theorem Rd.len (h : Rd w B A n l) : l.length = n := by have := h.1; rw [bvs_length] at this; omega
theorem Rd.nil_ : Rd w B A 0 [] := Reads.none_
theorem Rd.at_ {k : Nat} (h : Rd w B A n l) (hk : k < n) : ∃ b off, A = some ⟨b, off, none⟩ ∧ w.cell? ⟨b, off + k, none⟩ = some (.int .u8 (at8 l k)) := by
  obtain ⟨b, off, u, e, _, hu, hc⟩ := Reads.at_ h hk
  rw [bvs_get l k (by rw [h.len]; exact hk)] at hu
  injection hu with hu
  subst hu
  exact ⟨b, off, e, hc⟩
theorem Rd.cells (h : Rd w B A n l) (hn : 0 < n) : ∃ b off, A = some ⟨b, off, none⟩ ∧ b < B ∧ ∀ k, k < n → w.cell? ⟨b, off + k, none⟩ = some (.int .u8 (at8 l k)) := by
  obtain ⟨b, off, e, hb, hc⟩ := h.2 hn
  exact ⟨b, off, e, hb, fun k hk => hc k _ (bvs_get l k (by rw [h.len]; exact hk))⟩
theorem Rd.gone {A' : Option Addr} {k : Nat} (h : Rd w B A n l) (hk : n ≤ k) : Rd w B A' (n - k) (l.drop k) := by
  have hl := h.len
  have e : n - k = 0 := by omega
  rw [e, List.drop_eq_nil_of_le (by omega)]
  exact ⟨rfl, fun h => absurd h (by omega)⟩
theorem Rd.keep (h : Rd w B A n l) (hk : ∀ p : Addr, p.block < B → w'.cell? p = w.cell? p) : Rd w' B A n l := Reads.keep h hk
theorem Rd.more (h : Rd w B A n l) (hB : B ≤ B') : Rd w B' A n l := Reads.more h hB
theorem Rd.below (h : Rd w B A n l) (hb : Below B w w') : Rd w' B A n l := Reads.below h hb
theorem Rd.drew (h : Rd w B A n l) : Rd w.drew B A n l := h
theorem Rd.drewN (h : Rd w B A n l) (k : Nat) : Rd (w.drewN k) B A n l := h
theorem Rd.alloc (h : Rd w B A n l) (hB : B ≤ w.heap.size) (o : Obj) : Rd (w.alloc o) B A n l := Reads.alloc h hB o
theorem Rd.grown (h : Rd w B A n l) {row : Option Nat} (hg : w.grownBy w' row) (hB : B ≤ w.heap.size) (hr : ∀ g, row = some g → B ≤ g) : Rd w' B A n l := Reads.grown h hg hB hr
theorem Rd.cut (h : Rd w B A n l) {k cap : Nat} (hk : k ≤ n) (hc : n ≤ cap) : Rd w B (if cap = k then A else A.map (·.add k)) (n - k) (l.drop k) := by
  have := Reads.cut h hk hc
  simp only [Nat.mul_one, ← bvs_drop] at this
  exact this
theorem Rd.take (h : Rd w B A n l) {k : Nat} (hk : k ≤ n) : Rd w B A k (l.take k) := by
  have := Reads.take h hk
  simp only [Nat.mul_one, ← bvs_take] at this
  exact this
theorem Rd.up (h : Rd w w.heap.size A n l) (hb : Below w.heap.size w w') : Rd w' w'.heap.size A n l := (h.below hb).more hb.size
theorem Rd.upA (h : Rd w w.heap.size A n l) (o : Obj) : Rd (w.alloc o) (w.alloc o).heap.size A n l := (h.alloc (Nat.le_refl _) o).more (by simp)
theorem Rd.mid {i j : Nat} (h : Rd w B A n l) (hij : i + j ≤ n) (hc : n ≤ c) : Rd w B (if c = i then A else A.map (·.add i)) j ((l.drop i).take j) := by
  have h1 := h.cut (k := i) (cap := c) (by omega) hc
  exact h1.take (by omega)
theorem Own.rd (h : Own w base A n c l) : Rd w w.heap.size A n l := Reads.of_own h
theorem Own.len (h : Own w base A n c l) : l.length = n := by have := h.1; rw [bvs_length] at this; omega
theorem Own.nil_ (w : World) (base : Nat) : Own w base none 0 0 [] := World.ownsRow_nil _ _ _ _
theorem Own.alloc (h : Own w base A n c l) (o : Obj) : Own (w.alloc o) base A n c l := World.ownsRow.alloc h o
theorem Own.drew (h : Own w base A n c l) : Own w.drew base A n c l := h
theorem Own.drewN (h : Own w base A n c l) (k : Nat) : Own (w.drewN k) base A n c l := h
theorem Own.kept {row : Option Nat} (h : Own w base A n c l) (hg : w.grownBy w' row) (hne : (Value.slice A n c).ownBlock = none ∨ (Value.slice A n c).ownBlock ≠ row) : Own w' base A n c l := World.ownsRow.kept h hg hne
theorem Own.below (h : Own w base A n c l) (hb : Below w.heap.size w w') : Own w' base A n c l :=
  World.ownsRow.kept h (row := none) ⟨hb.os, hb.tape, hb.output, hb.size, fun k hk _ => hb.block k hk⟩ (by cases (Value.slice A n c).ownBlock <;> simp)
theorem Own.lo (h : Own w base A n c l) : ∀ k, (Value.slice A n c).ownBlock = some k → base ≤ k := fun k hk => (World.ownsRow.lt h k hk).1
theorem below_new {w w' : World} (o : Obj) (hb : Below (w.alloc o).heap.size (w.alloc o) w') : Below w.heap.size w w' :=
  ((Below.refl _ _).alloc (Nat.le_refl _) o).trans (hb.mono (by simp))
theorem below_nil {w w' : World} {v : Value} (hv : v.ownBlock = none) (hg : w.grownBy w' v.ownBlock) : Below w.heap.size w w' :=
  (Below.refl _ _).grown hg (Nat.le_refl _) (by rw [hv]; intro k h; cases h)
theorem below_own {W w w' : World} (hb : Below W.heap.size W w) {A : Option Addr} {n c : Nat} {l : List UInt8} (hown : Own w W.heap.size A n c l) (hg : w.grownBy w' (Value.slice A n c).ownBlock) : Below W.heap.size W w' :=
  hb.grown hg hb.size (fun k hk => (World.ownsRow.lt hown k hk).1)
theorem Own.less (h : Own w base A n c l) {base' : Nat} (hb : base' ≤ base) : Own w base' A n c l := by
  refine ⟨h.1, ?_⟩
  rcases h.2 with h2 | ⟨g, cap, cur, hv, hg, r⟩
  · exact .inl h2
  · exact .inr ⟨g, cap, cur, hv, by omega, r⟩
theorem Own.cap_ (h : Own w base A n c l) : n ≤ c := by
  rcases h.2 with ⟨hv, h0⟩ | ⟨g, cap, cur, hv, _, _, hle, _⟩
  · injection hv with _ h1 h2; omega
  · injection hv with _ h1 h2; omega
end

/-- A new block of one, two, four bytes reads as these. -/
theorem Rd.lit (w : World) (xs : List Int) (n : Nat) (hn : xs.length = n) (h : ∀ x ∈ xs, 0 ≤ x ∧ x ≤ 255) :
    Rd (w.alloc (.cells (xs.map (Value.int .u8)).toArray 5)) (w.heap.size + 1) (some ⟨w.heap.size, 0, none⟩) n (xs.map b8) := by
  have e : bvs (xs.map b8) = xs.map (Value.int .u8) := by
    unfold bvs
    rw [List.map_map]
    refine List.map_congr_left fun x hx => ?_
    exact u8v_b8 x (h x hx).1 (h x hx).2
  refine ⟨by rw [bvs_length]; simp [hn], fun _ => ⟨_, 0, rfl, by simp, fun j u hu => ?_⟩⟩
  rw [e] at hu
  rw [Nat.zero_add, World.cell?_alloc_at _ _ _ _ rfl]
  simpa using hu
theorem Rd.lit1 (w : World) (x : Int) (h : 0 ≤ x ∧ x ≤ 255) : Rd (w.alloc (.cells #[.int .u8 x] 5)) (w.heap.size + 1) (some ⟨w.heap.size, 0, none⟩) 1 [b8 x] :=
  Rd.lit w [x] 1 rfl (by simpa using h)
theorem Own.lit (w : World) (base : Nat) (hb : base ≤ w.heap.size) (xs : List Int) (n : Nat) (hn : xs.length = n) (hm : n ≤ 1000000) (h : ∀ x ∈ xs, 0 ≤ x ∧ x ≤ 255) :
    Own (w.alloc (.cells (xs.map (Value.int .u8)).toArray 5)) base (some ⟨w.heap.size, 0, none⟩) n n (xs.map b8) := by
  have e : bvs (xs.map b8) = xs.map (Value.int .u8) := by
    unfold bvs
    rw [List.map_map]
    refine List.map_congr_left fun x hx => ?_
    exact u8v_b8 x (h x hx).1 (h x hx).2
  have := World.ownsRow_lit (base := base) (e := 5) (size := 1) w (xs.map (Value.int .u8)).toArray n hb (by unfold maxLen; omega) (by simp [hn])
  unfold Own
  rw [e]
  simpa using this
theorem Own.lit1 (w : World) (base : Nat) (hb : base ≤ w.heap.size) (x : Int) (h : 0 ≤ x ∧ x ≤ 255) : Own (w.alloc (.cells #[.int .u8 x] 5)) base (some ⟨w.heap.size, 0, none⟩) 1 1 [b8 x] :=
  Own.lit w base hb [x] 1 rfl (by omega) (by simpa using h)
theorem Rd.litH (w : World) (H : Nat) (hH : w.heap.size = H) (xs : List Int) (n : Nat) (hn : xs.length = n) (h : ∀ x ∈ xs, 0 ≤ x ∧ x ≤ 255) :
    Rd (w.alloc (.cells (xs.map (Value.int .u8)).toArray 5)) (H + 1) (some ⟨H, 0, none⟩) n (xs.map b8) := by
  subst hH; exact Rd.lit w xs n hn h
/-- append of bytes onto bytes of the call's own. -/
theorem run_app {w : World} {base : Nat} {A : Option Addr} {n c : Nat} {l : List UInt8} (hown : Own w base A n c l)
    {B : Nat} {A2 : Option Addr} {m c2 : Nat} {l2 : List UInt8} (hr : Rd w B A2 m l2) (hsz : n + m ≤ 1000000000000) (hbase : base ≤ w.heap.size) (ty : TypeId) :
    ∃ A' c' w', (Builtin.append_ #[23, 23] ty #[.slice A n c, .slice A2 m c2]).run Try.prog w = .ok (.slice A' (n + m) c') w' ∧ Own w' base A' (n + m) c' (l ++ l2) ∧ w.grownBy w' (Value.slice A n c).ownBlock ∧
      ((Value.slice A' (n + m) c').ownBlock = (Value.slice A n c).ownBlock ∨ (Value.slice A' (n + m) c').ownBlock = some w.heap.size) ∧ (A' = none ↔ A = none ∧ m = 0) := by
  obtain ⟨i0, hi, hz0, hz1, hz2⟩ := info_parts u8info
  obtain ⟨v', w', hrun, h2, h3, h4, h5⟩ := run_append_any (P := Try.prog) w base 23 ty 5 i0 (.int .u8 0) 1 1 Try.underlying23 hi hz0 hz1 hz2 rfl (by omega) _ n _ hown B A2 m c2 _ hr (bvs_one l2) (by unfold maxLen; omega) (by omega) hbase
  obtain ⟨A', c', rfl⟩ := own_slice h2
  refine ⟨A', c', w', hrun, by unfold Own; rw [bvs_append]; exact h2, h3, h4, ?_⟩
  have hx1 := h2.2
  have hx0 := hown.2
  constructor
  · rintro rfl
    have : Value.slice none (n + m) c' = .slice none 0 0 := by
      rcases hx1 with ⟨e, _⟩ | ⟨g, cap, cur, e, _⟩
      · exact e
      · simp at e
    obtain ⟨e1, e2⟩ := h5.1 this
    injection e1 with e1
    exact ⟨e1, e2⟩
  · rintro ⟨rfl, rfl⟩
    have : Value.slice none n c = .slice none 0 0 := by
      rcases hx0 with ⟨e, _⟩ | ⟨g, cap, cur, e, _⟩
      · exact e
      · simp at e
    have := h5.2 ⟨this, rfl⟩
    injection this

set_option maxRecDepth 100000 in
theorem wp_app {o : Oper} {a : Act} {w : World} {K : Act → World → Prop} {Q : Exit → Act → World → Prop} (s x : Operand)
    (ho : o.op = .call { callee := .builtin .append, args := #[s, x], argTypes := #[23, 23] })
    {base : Nat} {A : Option Addr} {n c : Nat} {l : List UInt8} (hs : a.eval s = .slice A n c) (hown : Own w base A n c l)
    {B : Nat} {A2 : Option Addr} {m c2 : Nat} {l2 : List UInt8} (hx : a.eval x = .slice A2 m c2) (hr : Rd w B A2 m l2) (hsz : n + m ≤ 1000000000000) (hbase : base ≤ w.heap.size)
    (h : ∀ A' c' w', Own w' base A' (n + m) c' (l ++ l2) → w.grownBy w' (Value.slice A n c).ownBlock → K (a.put o.dst (.slice A' (n + m) c')) w') : o.wp Try.prog a w K Q := by
  obtain ⟨A', c', w', hrun, h2, h3, _⟩ := run_app (c2 := c2) hown hr hsz hbase o.type
  unfold Oper.wp execOp
  simp only [ho, resolve, invoke, builtin, Sem.run_bind, Sem.run_pure, Result.andThen_ok, List.map_toArray, List.map_cons, List.map_nil, hs, hx, hrun]
  exact h A' c' w' h2 h3

set_option maxRecDepth 100000 in
theorem wpList_app {ops : Array Oper} {rest : List Oper} {o : Oper} {a : Act} {w : World} {Q : Exit → Act → World → Prop} (hgd : o.guard = none) (s x : Operand)
    (ho : o.op = .call { callee := .builtin .append, args := #[s, x], argTypes := #[23, 23] })
    {base : Nat} {A : Option Addr} {n c : Nat} {l : List UInt8} (hs : a.eval s = .slice A n c) (hown : Own w base A n c l)
    {B : Nat} {A2 : Option Addr} {m c2 : Nat} {l2 : List UInt8} (hx : a.eval x = .slice A2 m c2) (hr : Rd w B A2 m l2) (hsz : n + m ≤ 1000000000000) (hbase : base ≤ w.heap.size)
    (h : ∀ A' c' w', Own w' base A' (n + m) c' (l ++ l2) → w.grownBy w' (Value.slice A n c).ownBlock → wpList Try.prog ops Q rest (a.put o.dst (.slice A' (n + m) c')) w') : wpList Try.prog ops Q (o :: rest) a w :=
  wpList_plain hgd fun _ hK => wp_app s x ho hs hown hx hr hsz hbase fun A' c' w' h2 h3 => hK _ _ (h A' c' w' h2 h3)
section
variable {w w' : World} {base n c g : Nat} {l : List UInt8}
/-- A byte of the call's own is written. -/
theorem Own.set (h : Own w base (some ⟨g, 0, none⟩) n c l) {j : Nat} {x : Int} (h0 : 0 ≤ x) (h1 : x ≤ 255) : Own (w.setCell ⟨g, j, none⟩ (.int .u8 x)) base (some ⟨g, 0, none⟩) n c (l.set j (b8 x)) := by
  have := (World.ownsRow.stored (g := g) (cap := c) h j (.int .u8 x)).1
  unfold Own
  have e : bvs (l.set j (b8 x)) = (bvs l).set j (.int .u8 x) := by
    unfold bvs
    rw [List.map_set, u8v_b8 x h0 h1]
  rw [e]
  exact this
theorem Own.cell (h : Own w base (some ⟨g, 0, none⟩) n c l) {j : Nat} (hj : j < n) : w.cell? ⟨g, j, none⟩ = some (.int .u8 (at8 l j)) := by
  rw [World.ownsRow.cellAt (g := g) (cap := c) h j (by omega), bvs_get l j (by rw [h.len]; exact hj)]
theorem Own.free (h : Own w base (some ⟨g, 0, none⟩) n c l) (j : Nat) : w.frozen? ⟨g, j, none⟩ = false := World.ownsRow.frozenAt (g := g) (cap := c) h j
end
end Go.Proofs.Ytliccofjlheceaa
namespace Go.Proofs.Ytliccofjlheceaa
open Go.RowKit

theorem slA0 (A : Option Addr) (m s : Nat) : slA A m 0 s = A := by
  unfold slA
  split
  · rfl
  · cases A <;> simp [Addr.add]
/-- What a cell reads as: a value; a slice of so many elements, of so many cells each, told one behind the other. -/
inductive D where
  | v (x : Value)
  | sl (s n : Nat) (l : List D)

mutual
def RdD (W : World) (F : Nat → Prop) : D → Value → Prop
  | .v x, u => u = x
  | .sl s n l, u => ∃ A c cs, u = .slice A n c ∧ n ≤ c ∧ l.length = n * s ∧ RdL W F l cs ∧ (0 < n → ∃ b off, A = some ⟨b, off, none⟩ ∧ F b ∧ ∀ j x, cs[j]? = some x → W.cell? ⟨b, off + j, none⟩ = some x)
def RdL (W : World) (F : Nat → Prop) : List D → List Value → Prop
  | [], cs => cs = []
  | d :: ds, cs => ∃ u us, cs = u :: us ∧ RdD W F d u ∧ RdL W F ds us
end
section
variable {W W' : World} {F F' : Nat → Prop}
mutual
theorem RdD.to (h : ∀ b, F b → W'.heap[b]? = W.heap[b]? ∧ F' b) : ∀ {d : D} {u : Value}, RdD W F d u → RdD W' F' d u
  | .v x, u, hd => by unfold RdD at hd ⊢; exact hd
  | .sl s n l, u, hd => by
    unfold RdD at hd ⊢
    obtain ⟨A, c, cs, h1, h2, h3, h4, h5⟩ := hd
    refine ⟨A, c, cs, h1, h2, h3, RdL.to h h4, fun hn => ?_⟩
    obtain ⟨b, off, h6, h7, h8⟩ := h5 hn
    exact ⟨b, off, h6, (h b h7).2, fun j x hx => (World.cell?_of_block (w := W) (a := ⟨b, off + j, none⟩) (h b h7).1).trans (h8 j x hx)⟩
theorem RdL.to (h : ∀ b, F b → W'.heap[b]? = W.heap[b]? ∧ F' b) : ∀ {ds : List D} {cs : List Value}, RdL W F ds cs → RdL W' F' ds cs
  | [], cs, hd => by unfold RdL at hd ⊢; exact hd
  | d :: ds, cs, hd => by
    unfold RdL at hd ⊢
    obtain ⟨u, us, h1, h2, h3⟩ := hd
    exact ⟨u, us, h1, RdD.to h h2, RdL.to h h3⟩
end
theorem RdL.nil_ : RdL W F [] [] := by unfold RdL; rfl
theorem RdL.cons {d : D} {u : Value} {ds : List D} {us : List Value} (h : RdD W F d u) (hs : RdL W F ds us) : RdL W F (d :: ds) (u :: us) := by unfold RdL; exact ⟨u, us, rfl, h, hs⟩
theorem RdL.uncons {d : D} {ds : List D} {cs : List Value} (h : RdL W F (d :: ds) cs) : ∃ u us, cs = u :: us ∧ RdD W F d u ∧ RdL W F ds us := by unfold RdL at h; exact h
theorem RdL.isnil {cs : List Value} (h : RdL W F [] cs) : cs = [] := by unfold RdL at h; exact h
theorem RdD.val {x u : Value} : RdD W F (.v x) u ↔ u = x := by unfold RdD; exact Iff.rfl
theorem RdD.ofv (x : Value) : RdD W F (.v x) x := RdD.val.2 rfl
theorem RdL.len : ∀ {ds : List D} {cs : List Value}, RdL W F ds cs → cs.length = ds.length
  | [], cs, h => by rw [h.isnil]; rfl
  | d :: ds, cs, h => by obtain ⟨u, us, rfl, _, h2⟩ := h.uncons; simp [RdL.len h2]
theorem RdL.get : ∀ {ds : List D} {cs : List Value} {i : Nat} {d : D}, RdL W F ds cs → ds[i]? = some d → ∃ u, cs[i]? = some u ∧ RdD W F d u
  | [], cs, i, d, h, hi => by simp at hi
  | d0 :: ds, cs, 0, d, h, hi => by
    obtain ⟨u, us, rfl, h1, _⟩ := h.uncons
    simp at hi; subst hi
    exact ⟨u, rfl, h1⟩
  | d0 :: ds, cs, i + 1, d, h, hi => by
    obtain ⟨u, us, rfl, _, h2⟩ := h.uncons
    simpa using RdL.get h2 (by simpa using hi)
theorem RdL.app : ∀ {d1 d2 : List D} {c1 c2 : List Value}, RdL W F d1 c1 → RdL W F d2 c2 → RdL W F (d1 ++ d2) (c1 ++ c2)
  | [], d2, c1, c2, h1, h2 => by rw [h1.isnil]; exact h2
  | d :: d1, d2, c1, c2, h1, h2 => by
    obtain ⟨u, us, rfl, h3, h4⟩ := h1.uncons
    exact RdL.cons h3 (RdL.app h4 h2)
theorem RdL.drop : ∀ {ds : List D} {cs : List Value} (i : Nat), RdL W F ds cs → RdL W F (ds.drop i) (cs.drop i)
  | ds, cs, 0, h => by simpa using h
  | [], cs, i + 1, h => by rw [h.isnil]; simpa using RdL.nil_
  | d :: ds, cs, i + 1, h => by
    obtain ⟨u, us, rfl, _, h2⟩ := h.uncons
    simpa using RdL.drop i h2
theorem RdL.take : ∀ {ds : List D} {cs : List Value} (i : Nat), RdL W F ds cs → RdL W F (ds.take i) (cs.take i)
  | ds, cs, 0, h => by simpa using RdL.nil_
  | [], cs, i + 1, h => by rw [h.isnil]; simpa using RdL.nil_
  | d :: ds, cs, i + 1, h => by
    obtain ⟨u, us, rfl, h1, h2⟩ := h.uncons
    simpa using RdL.cons h1 (RdL.take i h2)
theorem RdL.split {d1 d2 : List D} {cs : List Value} (h : RdL W F (d1 ++ d2) cs) : ∃ c1 c2, cs = c1 ++ c2 ∧ RdL W F d1 c1 ∧ RdL W F d2 c2 := by
  refine ⟨cs.take d1.length, cs.drop d1.length, (List.take_append_drop _ _).symm, ?_, ?_⟩
  · simpa using h.take d1.length
  · simpa using h.drop d1.length
theorem RdL.vals : ∀ {xs cs : List Value}, RdL W F (xs.map D.v) cs → cs = xs
  | [], cs, h => h.isnil
  | x :: xs, cs, h => by
    obtain ⟨u, us, rfl, h1, h2⟩ := h.uncons
    rw [RdD.val.1 h1, RdL.vals h2]
theorem RdL.ofvals : ∀ (xs : List Value), RdL W F (xs.map D.v) xs
  | [] => RdL.nil_
  | x :: xs => RdL.cons (RdD.ofv x) (RdL.ofvals xs)
theorem RdL.one {d : D} {u : Value} (h : RdD W F d u) : RdL W F [d] [u] := RdL.cons h RdL.nil_
theorem RdL.set : ∀ {ds : List D} {cs : List Value} (i : Nat) {d : D} {u : Value}, RdL W F ds cs → RdD W F d u → RdL W F (ds.set i d) (cs.set i u)
  | [], cs, i, d, u, h, hd => by rw [h.isnil]; simpa using RdL.nil_
  | d0 :: ds, cs, 0, d, u, h, hd => by
    obtain ⟨u0, us, rfl, h1, h2⟩ := h.uncons
    exact RdL.cons hd h2
  | d0 :: ds, cs, i + 1, d, u, h, hd => by
    obtain ⟨u0, us, rfl, h1, h2⟩ := h.uncons
    exact RdL.cons h1 (RdL.set i h2 hd)

theorem RdD.sl_iff {s n : Nat} {l : List D} {u : Value} : RdD W F (.sl s n l) u ↔ ∃ A c cs, u = .slice A n c ∧ n ≤ c ∧ l.length = n * s ∧ RdL W F l cs ∧ (0 < n → ∃ b off, A = some ⟨b, off, none⟩ ∧ F b ∧ ∀ j x, cs[j]? = some x → W.cell? ⟨b, off + j, none⟩ = some x) := by
  rw [RdD]
/-- A slice opened. -/
theorem RdD.open_ {s n : Nat} {l : List D} {u : Value} (h : RdD W F (.sl s n l) u) : ∃ A c, u = .slice A n c ∧ n ≤ c ∧ l.length = n * s := by
  obtain ⟨A, c, cs, h1, h2, h3, _⟩ := RdD.sl_iff.1 h
  exact ⟨A, c, h1, h2, h3⟩
theorem RdD.len {s n : Nat} {l : List D} {u : Value} (h : RdD W F (.sl s n l) u) : l.length = n * s := by
  obtain ⟨A, c, h1, h2, h3⟩ := h.open_
  exact h3
/-- An element of a slice. -/
theorem RdD.at_ {s n n' c i : Nat} {l : List D} {A : Option Addr} (h : RdD W F (.sl s n l) (.slice A n' c)) (hi : i < n') :
    ∃ b off es, A = some ⟨b, off, none⟩ ∧ F b ∧ RdL W F ((l.drop (i * s)).take s) es ∧ es.length = s ∧ ∀ j x, es[j]? = some x → W.cell? ⟨b, off + i * s + j, none⟩ = some x := by
  obtain ⟨A', c', cs, h1, h2, h3, h4, h5⟩ := RdD.sl_iff.1 h
  injection h1 with e1 en _
  subst e1; subst en
  obtain ⟨b, off, h6, h7, h8⟩ := h5 (by omega)
  refine ⟨b, off, (cs.drop (i * s)).take s, h6, h7, (h4.drop _).take _, ?_, fun j x hx => ?_⟩
  · rw [List.length_take, List.length_drop, h4.len, h3]
    have : i * s + s ≤ n' * s := by
      have := Nat.mul_le_mul_right s (show i + 1 ≤ n' by omega)
      rw [Nat.add_mul, Nat.one_mul] at this; exact this
    omega
  · rw [List.getElem?_take] at hx
    split at hx
    · rw [List.getElem?_drop] at hx
      rw [Nat.add_assoc]
      exact h8 _ _ hx
    · cases hx
/-- A slice cut. -/
theorem RdD.cut {s n n' c i j m : Nat} {l : List D} {A : Option Addr} (h : RdD W F (.sl s n l) (.slice A n' c)) (hij : i ≤ j) (hj : j ≤ n') (hm : j ≤ m) : RdD W F (.sl s (j - i) ((l.drop (i * s)).take ((j - i) * s))) (.slice (slA A m i s) (j - i) (m - i)) := by
  obtain ⟨A', c', cs, h1, h2, h3, h4, h5⟩ := RdD.sl_iff.1 h
  injection h1 with e1 en _
  subst e1; subst en
  refine RdD.sl_iff.2 ⟨_, _, _, rfl, by omega, ?_, (h4.drop _).take _, fun hn => ?_⟩
  · rw [List.length_take, List.length_drop, h3]
    have : j * s ≤ n' * s := Nat.mul_le_mul_right s hj
    rw [Nat.sub_mul]
    omega
  · obtain ⟨b, off, h6, h7, h8⟩ := h5 (by omega)
    subst h6
    have hne : m ≠ i := by omega
    refine ⟨b, off + i * s, by unfold slA; rw [if_neg hne]; simp [Addr.add_lit], h7, fun k x hx => ?_⟩
    rw [List.getElem?_take] at hx
    split at hx
    · rw [List.getElem?_drop] at hx
      rw [Nat.add_assoc]
      exact h8 _ _ hx
    · cases hx
theorem RdD.nil_ {s : Nat} (A : Option Addr) (c : Nat) : RdD W F (.sl s 0 []) (.slice A 0 c) := RdD.sl_iff.2 ⟨A, c, [], rfl, Nat.zero_le _, by simp, RdL.nil_, fun h => absurd h (by omega)⟩

theorem RdD.slen {s n n' c : Nat} {l : List D} {A : Option Addr} (h : RdD W F (.sl s n l) (.slice A n' c)) : n' = n := by
  obtain ⟨A', c2, h1, _⟩ := h.open_
  injection h1
/-- Another capacity. -/
theorem RdD.cap {s n n' c c' : Nat} {l : List D} {A : Option Addr} (h : RdD W F (.sl s n l) (.slice A n' c)) (hc : n' ≤ c') : RdD W F (.sl s n l) (.slice A n' c') := by
  have hs := h.slen
  obtain ⟨A', c2, cs, h1, h2, h3, h4, h5⟩ := RdD.sl_iff.1 h
  injection h1 with e1 _ _
  subst e1; subst hs
  exact RdD.sl_iff.2 ⟨_, _, cs, rfl, hc, h3, h4, h5⟩
/-- Bytes. -/
def dB (l : List UInt8) : D := .sl 1 l.length ((bvs l).map D.v)
theorem RdD.bytes {l : List UInt8} {u : Value} (h : RdD W F (dB l) u) (hF : ∀ b, F b → b < W.heap.size) : ∃ A c, u = .slice A l.length c ∧ l.length ≤ c ∧ Rd W W.heap.size A l.length l := by
  obtain ⟨A, c, cs, h1, h2, h3, h4, h5⟩ := RdD.sl_iff.1 h
  rw [h4.vals] at h5
  refine ⟨A, c, h1, h2, by rw [bvs_length]; omega, fun hn => ?_⟩
  obtain ⟨b, off, h6, h7, h8⟩ := h5 hn
  exact ⟨b, off, h6, hF b h7, h8⟩
/-- Bytes cut. -/
theorem RdD.cutB {l : List UInt8} {A : Option Addr} {n c i j m : Nat} (h : RdD W F (dB l) (.slice A n c)) (hij : i ≤ j) (hj : j ≤ n) (hm : j ≤ m) : RdD W F (dB ((l.drop i).take (j - i))) (.slice (slA A m i 1) (j - i) (m - i)) := by
  have hn := h.slen
  have h2 := h.cut hij hj hm
  have e : dB ((l.drop i).take (j - i)) = D.sl 1 (j - i) ((((bvs l).map D.v).drop (i * 1)).take ((j - i) * 1)) := by
    unfold dB
    rw [Nat.mul_one, Nat.mul_one, List.length_take, List.length_drop, ← hn, Nat.min_eq_left (by omega), ← List.map_drop, ← List.map_take, bvs_take, bvs_drop]
  rw [e]; exact h2
theorem RdD.rd {l : List UInt8} {A : Option Addr} {n c : Nat} (h : RdD W F (dB l) (.slice A n c)) (hF : ∀ b, F b → b < W.heap.size) : n = l.length ∧ n ≤ c ∧ Rd W W.heap.size A n l := by
  obtain ⟨A', c', e1, e2, e3⟩ := h.bytes hF
  injection e1 with e1 e4 e5
  subst e1; subst e4; subst e5
  exact ⟨rfl, e2, e3⟩
theorem RdD.ofbytes {l : List UInt8} {A : Option Addr} {n c B : Nat} (h : Rd W B A n l) (hc : n ≤ c) (hF : ∀ b off, A = some ⟨b, off, none⟩ → b < B → F b) : RdD W F (dB l) (.slice A n c) := by
  have hl := h.len
  subst hl
  refine RdD.sl_iff.2 ⟨A, c, bvs l, rfl, hc, by simp [bvs_length], RdL.ofvals _, fun hn => ?_⟩
  obtain ⟨b, off, h6, h7, h8⟩ := h.2 hn
  exact ⟨b, off, h6, hF b off h6 h7, h8⟩
end

/-- The block of a slice. -/
def bk (A : Option Addr) : Option Nat := A.map (·.block)
theorem own_bk (A : Option Addr) (n c : Nat) : (Value.slice A n c).ownBlock = bk A := by cases A <;> rfl
/-- Blocks that are there, and not among those that are still written. -/
def Fd (W : World) (gs : List (Option Nat)) (b : Nat) : Prop := b < W.heap.size ∧ some b ∉ gs
theorem Fd.lt {W : World} {gs : List (Option Nat)} : ∀ b, Fd W gs b → b < W.heap.size := fun _ h => h.1
/-- New blocks. -/
def Thaw (W : World) (b : Nat) : Prop := ∀ cs T z, W.heap[b]? = some (.cells cs T z) → z = (0, 0)
theorem Thaw.same {W W' : World} {b : Nat} (h : Thaw W b) (e : W'.heap[b]? = W.heap[b]?) : Thaw W' b := fun cs T z hc => h cs T z (e ▸ hc)
theorem Thaw.of {W : World} {b : Nat} {cs : Array Value} {T : TypeId} (h : W.heap[b]? = some (.cells cs T)) : Thaw W b := fun cs' T' z hc => by rw [h] at hc; injection hc with hc; injection hc with _ _ hc; exact hc.symm
theorem Thaw.free {W : World} {b : Nat} (h : Thaw W b) (i : Nat) : W.frozen? ⟨b, i, none⟩ = false := by
  unfold World.frozen?
  cases hc : W.heap[b]? with
  | none => simp [hc]
  | some o =>
    cases o with
    | cells cs T z =>
      have e := h cs T z hc
      subst e
      simp [hc]
    | _ => simp [hc]
theorem row_thaw {W : World} {base n c s : Nat} {e : TypeId} {A : Option Addr} {xs : List Value} (h : W.ownsRow base e s (.slice A n c) n xs) {b : Nat} (hA : bk A = some b) : Thaw W b := by
  rcases h.2 with ⟨hv, h0⟩ | ⟨g, cap, cur, hv, _, hh, _⟩
  · injection hv with e1
    subst e1
    cases hA
  · injection hv with e1
    subst e1
    have : g = b := by simpa [bk] using hA
    subst this
    exact Thaw.of hh
def Fr (w W : World) (b : Nat) : Prop := w.heap.size ≤ b ∧ b < W.heap.size ∧ Thaw W b
/-- From one world to the next: what is not among gs stays; among gs' are no others of these. -/
structure Stp (W : World) (gs : List (Option Nat)) (W' : World) (gs' : List (Option Nat)) : Prop where
  size : W.heap.size ≤ W'.heap.size
  block : ∀ b, b < W.heap.size → some b ∉ gs → W'.heap[b]? = W.heap[b]?
  own : ∀ b, b < W.heap.size → some b ∈ gs' → some b ∈ gs
section
variable {w W W' W'' : World} {gs gs' gs'' : List (Option Nat)}
theorem RdL.up {ds : List D} {cs : List Value} (h : RdL W (Fd W gs) ds cs) (s : Stp W gs W' gs') : RdL W' (Fd W' gs') ds cs :=
  h.to fun b hb => ⟨s.block b hb.1 hb.2, by have := s.size; have := hb.1; omega, fun e => hb.2 (s.own b hb.1 e)⟩
theorem RdD.up {d : D} {u : Value} (h : RdD W (Fd W gs) d u) (s : Stp W gs W' gs') : RdD W' (Fd W' gs') d u :=
  h.to fun b hb => ⟨s.block b hb.1 hb.2, by have := s.size; have := hb.1; omega, fun e => hb.2 (s.own b hb.1 e)⟩
theorem Stp.refl : Stp W gs W gs := ⟨Nat.le_refl _, fun _ _ _ => rfl, fun _ _ h => h⟩
theorem Stp.trans (h : Stp W gs W' gs') (k : Stp W' gs' W'' gs'') : Stp W gs W'' gs'' :=
  ⟨Nat.le_trans h.size k.size, fun b hb hg => (k.block b (by have := h.size; omega) (fun e => hg (h.own b hb e))).trans (h.block b hb hg), fun b hb e => h.own b hb (k.own b (by have := h.size; omega) e)⟩
theorem Stp.below (hb : Below W.heap.size W W') : Stp W gs W' gs := ⟨hb.size, fun b h _ => hb.block b h, fun _ _ h => h⟩
/-- One more that is written from here on. -/
theorem Stp.new {g : Option Nat} (hb : Below W.heap.size W W') (hg : ∀ b, g = some b → W.heap.size ≤ b) : Stp W gs W' (g :: gs) :=
  ⟨hb.size, fun b h _ => hb.block b h, fun b h e => by
    rcases List.mem_cons.1 e with e | e
    · have := hg b e.symm; omega
    · exact e⟩
/-- One is written. -/
theorem Stp.wrote {r : Option Nat} (hg : W.grownBy W' r) (hr : r ∈ gs) : Stp W gs W' gs :=
  ⟨hg.size, fun b h hn => hg.block b h (fun e => hn (e ▸ hr)), fun _ _ h => h⟩
/-- append: the first of those that are written is written, or another one takes its place. -/
theorem Stp.app {r r' : Option Nat} (hg : W.grownBy W' r) (hr : ∀ b, r' = some b → r' = r ∨ W.heap.size ≤ b) : Stp W (r :: gs) W' (r' :: gs) :=
  ⟨hg.size, fun b h hn => hg.block b h (fun e => hn (by simp [e])), fun b h e => by
    rcases List.mem_cons.1 e with e | e
    · rcases hr b e.symm with h2 | h2
      · rw [e, h2]; simp
      · omega
    · simp [e]⟩
/-- The first one is written no more. -/
theorem Stp.drop {g : Option Nat} : Stp W (g :: gs) W gs := ⟨Nat.le_refl _, fun _ _ _ => rfl, fun b _ e => by simp [e]⟩
theorem Stp.drew : Stp W gs W.drew gs := ⟨Nat.le_refl _, fun _ _ _ => rfl, fun _ _ h => h⟩

/-- Where a call stands: of what was there nothing has turned; what it writes is there. -/
structure At (w : World) (W : World) (gs : List (Option Nat)) : Prop where
  below : Below w.heap.size w W
  lt : ∀ b, some b ∈ gs → b < W.heap.size
theorem At.start (h : ∀ b, some b ∈ gs → b < w.heap.size) : At w w gs := ⟨Below.refl _ _, h⟩
theorem At.size (h : At w W gs) : w.heap.size ≤ W.heap.size := h.below.size
theorem At.drew (h : At w W gs) : At w W.drew gs := ⟨h.below.drew, h.lt⟩
/-- Behind a call. -/
theorem At.call (h : At w W gs) (hb : Below W.heap.size W W') : At w W' gs := ⟨h.below.trans (hb.mono h.below.size), fun b e => by have := h.lt b e; have := hb.size; omega⟩
theorem At.new {g : Option Nat} (h : At w W gs) (hb : Below W.heap.size W W') (hg : ∀ b, g = some b → b < W'.heap.size) : At w W' (g :: gs) := ⟨(h.call hb).below, fun b e => by
    rcases List.mem_cons.1 e with e | e
    · exact hg b e.symm
    · exact (h.call hb).lt b e⟩
theorem At.wrote {r : Option Nat} (h : At w W gs) (hg : W.grownBy W' r) (hr : ∀ b, r = some b → w.heap.size ≤ b) : At w W' gs :=
  ⟨h.below.grown hg h.below.size hr, fun b e => by have := h.lt b e; have := hg.size; omega⟩
theorem At.app {r r' : Option Nat} (h : At w W (r :: gs)) (hg : W.grownBy W' r) (hr : ∀ b, r = some b → w.heap.size ≤ b) (hr' : ∀ b, r' = some b → b < W'.heap.size) : At w W' (r' :: gs) :=
  ⟨h.below.grown hg h.below.size hr, fun b e => by
    rcases List.mem_cons.1 e with e | e
    · exact hr' b e.symm
    · have := h.lt b (by simp [e]); have := hg.size; omega⟩
theorem At.drop {g : Option Nat} (h : At w W (g :: gs)) : At w W gs := ⟨h.below, fun b e => h.lt b (by simp [e])⟩
/-- What is new is not among those that are written. -/
theorem RdD.fresh {d : D} {u : Value} (h : RdD W' (Fr W W') d u) (hg : ∀ b, some b ∈ gs → b < W.heap.size) : RdD W' (Fd W' gs) d u := h.to fun b hb => ⟨rfl, hb.2.1, fun e => by have := hg b e; have := hb.1; omega⟩
theorem RdL.fresh {ds : List D} {cs : List Value} (h : RdL W' (Fr W W') ds cs) (hg : ∀ b, some b ∈ gs → b < W.heap.size) : RdL W' (Fd W' gs) ds cs := h.to fun b hb => ⟨rfl, hb.2.1, fun e => by have := hg b e; have := hb.1; omega⟩
theorem RdD.any {d : D} {u : Value} (h : RdD W (Fd W gs) d u) : RdD W (Fd W []) d u := h.to fun b hb => ⟨rfl, hb.1, by simp⟩
theorem RdL.any {ds : List D} {cs : List Value} (h : RdL W (Fd W gs) ds cs) : RdL W (Fd W []) ds cs := h.to fun b hb => ⟨rfl, hb.1, by simp⟩
/-- A row of bytes of the call's own, read by itself. -/
theorem Own.frB {base n c : Nat} {A : Option Addr} {l : List UInt8} (h : Own W base A n c l) {F : Nat → Prop} (hF : ∀ b, base ≤ b → b < W.heap.size → bk A = some b → F b) : RdD W F (dB l) (.slice A n c) := by
  refine RdD.ofbytes h.rd h.cap_ fun b off e hb => hF b ?_ hb (by rw [e]; rfl)
  subst e
  exact h.lo b rfl
/-- A row of the call's own, read. -/
theorem rdD_row {base n c s : Nat} {e : TypeId} {A : Option Addr} {xs : List Value} {ds : List D} (h : W.ownsRow base e s (.slice A n c) n xs) {F : Nat → Prop} (hd : RdL W F ds xs) (hF : ∀ b, base ≤ b → b < W.heap.size → (Value.slice A n c).ownBlock = some b → F b) : RdD W F (.sl s n ds) (.slice A n c) := by
  refine RdD.sl_iff.2 ⟨A, c, xs, rfl, ?_, by rw [← hd.len]; exact h.1, hd, fun hn => ?_⟩
  · rcases h.2 with ⟨hv, hn⟩ | ⟨g, cap, cur, hv, _, _, hc, _⟩
    · omega
    · injection hv with _ _ hc'; omega
  · obtain ⟨b, off, e1, e2, e3⟩ := (Reads.of_own h).2 hn
    subst e1
    exact ⟨b, off, rfl, hF b (World.ownsRow.lt h b rfl).1 e2 rfl, e3⟩
/-- New blocks that are not among those that are written. -/
def Fz (base : Nat) (W : World) (gs : List (Option Nat)) (b : Nat) : Prop := base ≤ b ∧ b < W.heap.size ∧ some b ∉ gs ∧ Thaw W b
/-- A row of bytes that a call has made. -/
theorem Own.zb {base n c : Nat} {A : Option Addr} {l : List UInt8} (h : Own W' W.heap.size A n c l) (hb : base ≤ W.heap.size) (hg : ∀ b, some b ∈ gs → b < W.heap.size) : RdD W' (Fz base W' gs) (dB l) (.slice A n c) :=
  h.frB fun b h1 h2 h3 => ⟨Nat.le_trans hb h1, h2, fun e => by have := hg b e; omega, row_thaw h h3⟩
/-- A block that is written no more. -/
structure FB (W : World) (gs : List (Option Nat)) (g : Nat) (T : TypeId) (cs : List Value) : Prop where
  blk : Blk W g T cs
  out : some g ∉ gs
theorem FB.up {g : Nat} {T : TypeId} {cs : List Value} (h : FB W gs g T cs) (s : Stp W gs W' gs') : FB W' gs' g T cs :=
  ⟨(s.block g h.blk.lt h.out).trans h.blk, fun e => h.out (s.own g h.blk.lt e)⟩
theorem FB.new {g : Nat} {T : TypeId} {cs : List Value} (h : Blk W' g T cs) (hA : ∀ b, some b ∈ gs → b < W.heap.size) (hg : W.heap.size ≤ g) : FB W' gs g T cs := ⟨h, fun e => by have := hA g e; omega⟩
theorem FB.at_ {g i : Nat} {T : TypeId} {cs : List Value} {v : Value} (h : FB W gs g T cs) (hi : cs[i]? = some v) : W.cell? ⟨g, i, none⟩ = some v := h.blk.at_ hi
end
end Go.Proofs.Ytliccofjlheceaa
namespace Go.Proofs.Ytliccofjlheceaa
open Go.RowKit

/-- string(b) -/
theorem run_str {w : World} {B : Nat} {A : Option Addr} {n : Nat} {l : List UInt8} (hr : Rd w B A n l) (c : Nat) :
    (convert 23 9 (.slice A n c)).run Try.prog w = .ok (.string ⟨l.toArray⟩) w := by
  rw [run_convert_bytes_string w 23 9 5 A n c Try.underlying23 Try.underlying5 Try.underlying9]
  rcases A with _ | a
  · have h0 : n = 0 := by
      rcases Nat.eq_zero_or_pos n with h0 | h0
      · exact h0
      · obtain ⟨b, off, h, _⟩ := hr.2 h0
        cases h
    have hl := hr.len
    rw [h0] at hl
    obtain rfl := List.eq_nil_of_length_eq_zero hl
    rfl
  · have hc : ∀ j v, (bvs l)[j]? = some v → w.cell? (a.add j) = some v := by
      intro j v hv
      have hn : 0 < n := by
        rw [← hr.len]
        rcases l with _ | ⟨x, l⟩
        · simp [bvs] at hv
        · simp
      obtain ⟨b, off, h, _, hcell⟩ := hr.2 hn
      injection h with h
      subst h
      rw [Addr.add_lit]
      exact hcell j v hv
    have hl := run_loadCells_list (P := Try.prog) w a (bvs l) hc
    rw [bvs_length, hr.len] at hl
    have e : bvs l = (l.map fun b => (b.toNat : Int)).map (Value.int .u8) := by
      unfold bvs; rw [List.map_map]; rfl
    rw [e] at hl
    rw [run_bytesToString w a n c _ hl, foldl_push_byteCells]
    show Result.ok (Value.string ⟨(#[] : Array UInt8) ++ l.toArray⟩) w = _
    rw [Array.empty_append]

set_option maxHeartbeats 400000 in
theorem same_any (A1 A2 : Option Addr) (n m c1 c2 B1 B2 : Nat) (a b : List UInt8) (w : World) (h1 : Rd w B1 A1 n a) (h2 : Rd w B2 A2 m b) :
    Calls Try.prog 14 #[.slice A1 n c1, .slice A2 m c2] w fun e w' => e = .returned (.bool (decide (a = b))) ∧ w = w' := by
  have e1 := run_str h1 c1
  have e2 := run_str h2 c2
  go_enter Try.func14, Try.ntmps14
  go_wp2
  go_ret
  exact ⟨ret_bool (by rw [Bool.eq_iff_iff]; simp), rfl⟩
theorem same_yes (A1 A2 : Option Addr) (n m c1 c2 B1 B2 : Nat) (a b : List UInt8) (w : World) (h1 : Rd w B1 A1 n a) (h2 : Rd w B2 A2 m b) (h : a = b) :
    Calls Try.prog 14 #[.slice A1 n c1, .slice A2 m c2] w fun e w' => e = .returned (.bool true) ∧ w = w' :=
  (same_any A1 A2 n m c1 c2 B1 B2 a b w h1 h2).mono fun _ _ ⟨he, hw⟩ => ⟨by rw [he, decide_eq_true h], hw⟩

end Go.Proofs.Ytliccofjlheceaa
namespace Go.Proofs.Ytliccofjlheceaa
open Go.RowKit

theorem mixed : Try.prog.follows .mixedOrders = true := by kernel_rfl
theorem slb : slOf Try.prog 23 = some (5, 1) := by kernel_rfl
theorem slbb : slOf Try.prog 22 = some (23, 1) := by kernel_rfl
theorem agg_u8 : aggOf Try.prog 5 = some (false, 1) := by kernel_rfl
theorem agg_b : aggOf Try.prog 23 = some (false, 1) := by kernel_rfl
/-- Bytes that are cut out. -/
theorem Rd.sl {w : World} {B n i j m : Nat} {A : Option Addr} {l : List UInt8} (h : Rd w B A n l) (hij : i + j ≤ n) (hm : i + j ≤ m) : Rd w B (slA A m i 1) j ((l.drop i).take j) := by
  have e : slA A m i 1 = if m = i then A else A.map (·.add i) := by unfold slA; rw [Nat.mul_one]
  rw [e]
  by_cases hmi : m = i
  · have hj : j = 0 := by omega
    subst hj
    rw [List.take_zero]
    exact ⟨rfl, fun h => absurd h (by omega)⟩
  · rw [if_neg hmi]
    have h2 := Rd.mid (c := n + i + 1) h hij (by omega)
    rw [if_neg (by omega)] at h2
    exact h2
section
variable {E : Env} {d : Option Nat} {ty : TypeId} {p : String} {af : Array Edge} {g : Option (Nat × Bool)} {x y z : Operand} {kw : Value → World → Prop} {w : World} {S : World → Prop} {k : Value → Prop}
end
end Go.Proofs.Ytliccofjlheceaa
