/- What single operations give, for the walk that reckons. No program in sight. Cuts in the walk that reckons: what follows asks no more of what stands ahead than what the cut says. Blocks that are known whole: cells of the call's own. No program in sight. -/
import Derived.Test.YtejbljopighenaaDoorG02
import Derived.Test.YtejbljopighenaaDoorG01
namespace Go.Proofs.YtejbljopighenaaDoor
open Go.RowKit

section
variable {P : Program} {E : Env} {d : Option Nat} {ty : TypeId} {p : String} {af : Array Edge} {g : Option (Nat × Bool)} {x y z : Operand} {t u : TypeId} {kd kd2 : IntKind} {a b r : Int} {k : Value → Prop} {S : World → Prop} {kw : Value → World → Prop} {w w' : World} {o : Oper} {v : Value}

theorem pp (h : ∀ w, (execOp (val E) o).run P w = .ok (.value v) w) (hk : k v) : VPure P E o k := ⟨v, h, hk⟩
theorem vv (h : (execOp (val E) o).run P w = .ok (.value v) w') (hk : kw v w') : VVal P E o w kw := ⟨v, w', h, hk⟩
theorem th (h : ∀ w, S w → (execOp (val E) o).run P w = .ok (.value v) w) (hk : k v) : VHeld P S E o k := ⟨v, h, hk⟩
theorem vs_ (h : (execOp (val E) o).run P w = .ok .skip w') (hk : kw undef w') : VSkip P E o w kw := ⟨w', h, hk⟩
theorem cc {f : Nat} {args : Array Value} {R : Ending → World → Prop} (hi : isFn P f = true) (c : Calls P f args w R) (h : ∀ e w', R e w' → ∃ v, e = .returned v ∧ kw v w') : VCall P f args w kw := ⟨hi, c.mono h⟩

theorem w64 {x : Int} (h : -9223372036854775808 ≤ x ∧ x ≤ 9223372036854775807) : IntKind.i64.wrap x = x := IntWalk.i64_in _ h
theorem wu64 {x : Int} (h : 0 ≤ x ∧ x < 18446744073709551616) : IntKind.u64.wrap x = x := by rw [IntKind.wrap_u64]; omega
theorem wu8 {x : Int} (h : 0 ≤ x ∧ x < 256) : IntKind.u8.wrap x = x := by rw [IntKind.wrap_u8']; omega
theorem wu32 {x : Int} (h : 0 ≤ x ∧ x < 4294967296) : IntKind.u32.wrap x = x := by rw [IntKind.wrap_u32']; omega

theorem g_ar {op : BinOp} {res : Int} (hop : Op.intArith op kd a b = pure (.int kd res)) (hb : (op == .add || (op == .sub || op == .mul)) = true) (hx : val E x = .int kd a) (hy : val E y = .int kd b) (w : World) :
    (execOp (val E) { dst := d, op := .binOp op t x y u, type := ty, pos := p, after := af, guard := g }).run P w = .ok (.value (.int kd res)) w := by
  simp only [execOp, hx, hy]
  cases op <;> first | (cases hb; done) | (simp [eqGuard, binOp, hop])
theorem p_add (hx : val E x = .int kd a) (hy : val E y = .int kd b) (hr : kd.wrap (a + b) = r) (h : k (.int kd r)) : VPure P E { dst := d, op := .binOp .add t x y u, type := ty, pos := p, after := af, guard := g } k :=
  pp (g_ar (by subst hr; rfl) rfl hx hy) h
theorem p_sub (hx : val E x = .int kd a) (hy : val E y = .int kd b) (hr : kd.wrap (a - b) = r) (h : k (.int kd r)) : VPure P E { dst := d, op := .binOp .sub t x y u, type := ty, pos := p, after := af, guard := g } k :=
  pp (g_ar (by subst hr; rfl) rfl hx hy) h
theorem p_mul (hx : val E x = .int kd a) (hy : val E y = .int kd b) (hr : kd.wrap (a * b) = r) (h : k (.int kd r)) : VPure P E { dst := d, op := .binOp .mul t x y u, type := ty, pos := p, after := af, guard := g } k :=
  pp (g_ar (by subst hr; rfl) rfl hx hy) h
theorem p_quo (hx : val E x = .int kd a) (hy : val E y = .int kd b) (hb : b ≠ 0) (hr : kd.wrap (a.tdiv b) = r) (h : k (.int kd r)) : VPure P E { dst := d, op := .binOp .quo t x y u, type := ty, pos := p, after := af, guard := g } k :=
  pp (fun w => by simp only [execOp, hx, hy]; simp [eqGuard, binOp, Op.intDiv, hb, hr]) h
theorem p_rem (hx : val E x = .int kd a) (hy : val E y = .int kd b) (hb : b ≠ 0) (hr : a.tmod b = r) (h : k (.int kd r)) : VPure P E { dst := d, op := .binOp .rem t x y u, type := ty, pos := p, after := af, guard := g } k :=
  pp (fun w => by simp only [execOp, hx, hy]; simp [eqGuard, binOp, Op.intDiv, hb, hr]) h
theorem p_shl (hx : val E x = .int kd a) (hy : val E y = .int kd2 b) (hb : 0 ≤ b) (hr : kd.wrap (a * 2 ^ (min b.toNat kd.bits)) = r) (h : k (.int kd r)) : VPure P E { dst := d, op := .binOp .shl t x y u, type := ty, pos := p, after := af, guard := g } k :=
  pp (fun w => by simp only [execOp, hx, hy]; simp [eqGuard, binOp, Op.shift, Int.not_lt.2 hb, hr]) h
theorem p_shr (hx : val E x = .int kd a) (hy : val E y = .int kd2 b) (hb : 0 ≤ b) (hr : a.fdiv (2 ^ (min b.toNat kd.bits)) = r) (h : k (.int kd r)) : VPure P E { dst := d, op := .binOp .shr t x y u, type := ty, pos := p, after := af, guard := g } k :=
  pp (fun w => by simp only [execOp, hx, hy]; simp [eqGuard, binOp, Op.shift, Int.not_lt.2 hb, hr]) h
theorem p_and (hx : val E x = .int kd a) (hy : val E y = .int kd b) (hr : bits .and kd a b = r) (h : k (.int kd r)) : VPure P E { dst := d, op := .binOp .and t x y u, type := ty, pos := p, after := af, guard := g } k :=
  pp (fun w => by subst hr; simp only [execOp, hx, hy]; simp [eqGuard, binOp, Op.intBits, bits]) h
theorem p_or (hx : val E x = .int kd a) (hy : val E y = .int kd b) (hr : bits .or kd a b = r) (h : k (.int kd r)) : VPure P E { dst := d, op := .binOp .or t x y u, type := ty, pos := p, after := af, guard := g } k :=
  pp (fun w => by subst hr; simp only [execOp, hx, hy]; simp [eqGuard, binOp, Op.intBits, bits]) h
theorem p_xor (hx : val E x = .int kd a) (hy : val E y = .int kd b) (hr : bits .xor kd a b = r) (h : k (.int kd r)) : VPure P E { dst := d, op := .binOp .xor t x y u, type := ty, pos := p, after := af, guard := g } k :=
  pp (fun w => by subst hr; simp only [execOp, hx, hy]; simp [eqGuard, binOp, Op.intBits, bits]) h
theorem g_cmp {op : BinOp} {q : Bool} (hop : Op.intCmp op a b = pure (.bool q)) (hb : (op == .eql || (op == .neq || (op == .lss || (op == .leq || (op == .gtr || op == .geq))))) = true) (hx : val E x = .int kd a) (hy : val E y = .int kd b) (w : World) :
    (execOp (val E) { dst := d, op := .binOp op t x y u, type := ty, pos := p, after := af, guard := g }).run P w = .ok (.value (.bool q)) w := by
  simp only [execOp, hx, hy]
  cases op <;> first | (cases hb; done) | (simp [eqGuard, binOp, hop])
theorem split_dec {q : Prop} [Decidable q] (h1 : q → k (.bool true)) (h2 : ¬ q → k (.bool false)) : k (.bool (decide q)) := by
  by_cases h : q
  · rw [decide_eq_true h]; exact h1 h
  · rw [decide_eq_false h]; exact h2 h
theorem p_lt (hx : val E x = .int kd a) (hy : val E y = .int kd b) (h1 : a < b → k (.bool true)) (h2 : ¬ a < b → k (.bool false)) : VPure P E { dst := d, op := .binOp .lss t x y u, type := ty, pos := p, after := af, guard := g } k :=
  pp (g_cmp rfl rfl hx hy) (split_dec h1 h2)
theorem p_le (hx : val E x = .int kd a) (hy : val E y = .int kd b) (h1 : a ≤ b → k (.bool true)) (h2 : ¬ a ≤ b → k (.bool false)) : VPure P E { dst := d, op := .binOp .leq t x y u, type := ty, pos := p, after := af, guard := g } k :=
  pp (g_cmp rfl rfl hx hy) (split_dec h1 h2)
theorem p_gt (hx : val E x = .int kd a) (hy : val E y = .int kd b) (h1 : b < a → k (.bool true)) (h2 : ¬ b < a → k (.bool false)) : VPure P E { dst := d, op := .binOp .gtr t x y u, type := ty, pos := p, after := af, guard := g } k :=
  pp (g_cmp rfl rfl hx hy) (split_dec (q := a > b) h1 h2)
theorem p_ge (hx : val E x = .int kd a) (hy : val E y = .int kd b) (h1 : b ≤ a → k (.bool true)) (h2 : ¬ b ≤ a → k (.bool false)) : VPure P E { dst := d, op := .binOp .geq t x y u, type := ty, pos := p, after := af, guard := g } k :=
  pp (g_cmp rfl rfl hx hy) (split_dec (q := a ≥ b) h1 h2)
theorem p_eq (hx : val E x = .int kd a) (hy : val E y = .int kd b) (h1 : a = b → k (.bool true)) (h2 : ¬ a = b → k (.bool false)) : VPure P E { dst := d, op := .binOp .eql t x y u, type := ty, pos := p, after := af, guard := g } k :=
  pp (g_cmp (q := decide (a = b)) (by simp only [Op.intCmp]; congr 2) rfl hx hy) (split_dec h1 h2)
theorem p_ne (hx : val E x = .int kd a) (hy : val E y = .int kd b) (h1 : a = b → k (.bool false)) (h2 : ¬ a = b → k (.bool true)) : VPure P E { dst := d, op := .binOp .neq t x y u, type := ty, pos := p, after := af, guard := g } k := by
  refine pp (g_cmp (q := !decide (a = b)) (by simp only [Op.intCmp, bne]; congr 2) rfl hx hy) ?_
  by_cases h : a = b
  · rw [decide_eq_true h]; exact h1 h
  · rw [decide_eq_false h]; exact h2 h
theorem p_not {q : Bool} (hx : val E x = .bool q) (h : k (.bool (!q))) : VPure P E { dst := d, op := .unOp .not t x, type := ty, pos := p, after := af, guard := g } k :=
  pp (fun w => by simp only [execOp, hx]; simp [Op.unary]) h
theorem p_neg (hx : val E x = .int kd a) (hr : kd.wrap (0 - a) = r) (h : k (.int kd r)) : VPure P E { dst := d, op := .unOp .neg t x, type := ty, pos := p, after := af, guard := g } k :=
  pp (fun w => by subst hr; simp only [execOp, hx]; simp [Op.unary, Op.intArith]) h
theorem p_cpl (hx : val E x = .int kd a) (hr : bits .xor kd (if kd.signed then -1 else kd.max) a = r) (h : k (.int kd r)) : VPure P E { dst := d, op := .unOp .xor t x, type := ty, pos := p, after := af, guard := g } k :=
  pp (fun w => by subst hr; simp only [execOp, hx]; simp [Op.unary, Op.intBits, bits]) h

/-- Strings as lists of bytes. -/
def sb (l : List UInt8) : ByteArray := ⟨l.toArray⟩
theorem sb_toList (l : List UInt8) : (sb l).toList = l := by simp [sb, ByteArray.toList_eq]
theorem p_seq {s1 s2 : ByteArray} (hx : val E x = .string s1) (hy : val E y = .string s2) (h1 : s1 = s2 → k (.bool true)) (h2 : ¬ s1 = s2 → k (.bool false)) : VPure P E { dst := d, op := .binOp .eql t x y u, type := ty, pos := p, after := af, guard := g } k := by
  refine pp (v := .bool (decide (s1 = s2))) (fun w => ?_) (split_dec h1 h2)
  simp only [execOp, hx, hy]
  have e : (s1.toList == s2.toList) = decide (s1 = s2) := by
    rw [Bool.eq_iff_iff]; simp [ByteArray.toList_eq]
    constructor
    · intro h; rcases s1 with ⟨⟨l1⟩⟩; rcases s2 with ⟨⟨l2⟩⟩; simpa using h
    · intro h; rw [h]
  simp [eqGuard, binOp, Op.stringOp, e]
theorem p_sne {s1 s2 : ByteArray} (hx : val E x = .string s1) (hy : val E y = .string s2) (h1 : s1 = s2 → k (.bool false)) (h2 : ¬ s1 = s2 → k (.bool true)) : VPure P E { dst := d, op := .binOp .neq t x y u, type := ty, pos := p, after := af, guard := g } k := by
  refine pp (v := .bool (!decide (s1 = s2))) (fun w => ?_) ?_
  · simp only [execOp, hx, hy]
    have e : (s1.toList == s2.toList) = decide (s1 = s2) := by
      rw [Bool.eq_iff_iff]; simp [ByteArray.toList_eq]
      constructor
      · intro h; rcases s1 with ⟨⟨l1⟩⟩; rcases s2 with ⟨⟨l2⟩⟩; simpa using h
      · intro h; rw [h]
    simp [eqGuard, binOp, Op.stringOp, e]
  · by_cases h : s1 = s2
    · rw [decide_eq_true h]; exact h1 h
    · rw [decide_eq_false h]; exact h2 h

/-- What a slice type's element is, and how many cells it has. -/
def slOf (P : Program) (t : TypeId) : Option (TypeId × Nat) :=
  match P.underlying t with
  | some (.slice e) => (P.info? e).map fun i => (e, i.size)
  | _ => none
/-- Is a type one of parts, and how many cells has it? -/
def aggOf (P : Program) (t : TypeId) : Option (Bool × Nat) :=
  match P.underlying t with
  | none => none
  | some d => (P.info? t).map fun i => (match d with | .struct _ => true | .array _ _ => true | _ => false, i.size)
/-- At which cell a field begins (one that has cells). -/
def fieldOff (P : Program) (t : TypeId) (f : Nat) : Option Nat :=
  match P.underlying t with
  | some (.struct fs) => (match fs[f]? with
    | some x => (match (P.info? x.type).map (·.size) with | some (_ + 1) => some x.offset | _ => none)
    | none => none)
  | _ => none
theorem slOf_spec {e : TypeId} {s : Nat} (h : slOf P t = some (e, s)) : P.underlying t = some (.slice e) ∧ ∃ i, P.info? e = some i ∧ i.size = s := by
  unfold slOf at h
  split at h
  · rename_i e' hu
    obtain ⟨i, hi, he⟩ := Option.map_eq_some_iff.1 h
    injection he with he1 he2
    subst he1
    exact ⟨hu, i, hi, he2⟩
  · cases h
theorem aggOf_run {q : Bool} {s : Nat} (h : aggOf P t = some (q, s)) (w : World) : (isAgg t).run P w = .ok q w ∧ (sizeOf t).run P w = .ok s w := by
  unfold aggOf at h
  split at h
  · cases h
  · rename_i dd hu
    obtain ⟨i, hi, he⟩ := Option.map_eq_some_iff.1 h
    injection he with he1 he2
    subst he1 he2
    refine ⟨?_, by simp [sizeOf, typeInfo, hi]⟩
    cases dd <;> simp [isAgg, run_underlying hu]

theorem p_len {A : Option Addr} {n c : Nat} {e : TypeId} {s : Nat} (hT : slOf P t = some (e, s)) (hx : val E x = .slice A n c) (h : k (.int .i64 n)) : VPure P E { dst := d, op := .call { callee := .builtin .len, args := #[x], argTypes := #[t] }, type := ty, pos := p, after := af, guard := g } k :=
  pp (fun w => by
    have hu := (slOf_spec hT).1
    simp [execOp, resolve, invoke, builtin, Builtin.len_, hx, run_underlying hu, goInt]) h
theorem p_lenS {s : ByteArray} (hT : P.underlying t = some .string) (hx : val E x = .string s) (h : k (.int .i64 s.size)) : VPure P E { dst := d, op := .call { callee := .builtin .len, args := #[x], argTypes := #[t] }, type := ty, pos := p, after := af, guard := g } k :=
  pp (fun w => by simp [execOp, resolve, invoke, builtin, Builtin.len_, hx, run_underlying hT, goInt]) h
theorem v_cvt {dst : TypeId} {kd' : IntKind} {w : World} (hs : (P.underlying t).isSome = true) (hd : P.underlying dst = some (.int kd')) (hx : val E x = .int kd a) (hr : kd'.wrap a = r) (h : kw (.int kd' r) w) : VVal P E { dst := d, op := .convert t dst x, type := ty, pos := p, after := af, guard := g } w kw :=
  vv (by
    obtain ⟨dd, hd'⟩ := Option.isSome_iff_exists.mp hs
    subst hr; simp [execOp, hx, convert, run_underlying hd', run_underlying hd, Conv.intToInt]) h
theorem t_cvt {dst : TypeId} {kd' : IntKind} (hs : (P.underlying t).isSome = true) (hd : P.underlying dst = some (.int kd')) (hx : val E x = .int kd a) (hr : kd'.wrap a = r) (h : k (.int kd' r)) : VHeld P S E { dst := d, op := .convert t dst x, type := ty, pos := p, after := af, guard := g } k :=
  th (fun w _ => by
    obtain ⟨dd, hd'⟩ := Option.isSome_iff_exists.mp hs
    subst hr; simp [execOp, hx, convert, run_underlying hd', run_underlying hd, Conv.intToInt]) h
/-- A bound of a slicing: given, or what stands there otherwise. -/
def bnd (E : Env) (dflt i : Nat) : Option Operand → Prop
  | none => i = dflt
  | some x => ∃ kd j, val E x = .int kd j ∧ j = (i : Int)
theorem bnd_i {x : Operand} {dflt i : Nat} {kd : IntKind} (h : val E x = .int kd (i : Int)) : bnd E dflt i (some x) := ⟨kd, _, h, rfl⟩
theorem bnd_e {x : Operand} {dflt i : Nat} {kd : IntKind} {j : Int} (h : val E x = .int kd j) (hj : j = (i : Int)) : bnd E dflt i (some x) := ⟨kd, _, h, hj⟩
def slA (A : Option Addr) (m l s : Nat) : Option Addr := if m = l then A else A.map (·.add (l * s))
theorem run_bound {w : World} {y : Nat} {code : BoundsCode} {v : Value} {i : Nat} {kd : IntKind} {j : Int} (hv : v = .int kd j) (hj : j = (i : Int)) (hi : i ≤ y) : (Instr.sliceBound v y code).run P w = .ok i w := by
  subst hv hj
  simp [Instr.sliceBound, asIntOf, hi]
theorem p_slice {A : Option Addr} {n c i j m : Nat} {e : TypeId} {s : Nat} {lo hi mx : Option Operand} (hT : slOf P t = some (e, s)) (hx : val E x = .slice A n c) (hl : bnd E 0 i lo) (hh : bnd E n j hi) (hm : bnd E c m mx) (hmx : (hi.isSome || !mx.isSome) = true) (hij : i ≤ j) (hjm : j ≤ m) (hmc : m ≤ c)
    (h : k (.slice (slA A m i s) (j - i) (m - i))) : VPure P E { dst := d, op := .slice t x lo hi mx, type := ty, pos := p, after := af, guard := g } k := by
  refine pp (fun w => ?_) h
  obtain ⟨hu, info, hi1, hi2⟩ := slOf_spec hT
  have hsz : (sizeOf e).run P w = .ok s w := by simp [sizeOf, typeInfo, hi1, hi2]
  simp only [execOp, hx, Instr.sliceAt, Sem.run_bind, run_underlying hu, Result.andThen_ok, Instr.slice]
  cases mx with
  | none =>
    cases hm
    cases hi with
    | none =>
      cases hh
      cases lo with
      | none =>
        cases hl
        simp [Instr.sliceBounds, hsz, slA]
      | some y =>
        obtain ⟨kd, q, hq, hqe⟩ := hl
        simp [Instr.sliceBounds, hsz, slA, run_bound hq hqe hij]
    | some z =>
      obtain ⟨kd2, q2, hq2, hqe2⟩ := hh
      cases lo with
      | none =>
        cases hl
        simp [Instr.sliceBounds, hsz, slA, run_bound hq2 hqe2 hjm]
      | some y =>
        obtain ⟨kd, q, hq, hqe⟩ := hl
        simp [Instr.sliceBounds, hsz, slA, run_bound hq2 hqe2 hjm, run_bound hq hqe hij]
  | some u =>
    obtain ⟨kd3, q3, hq3, hqe3⟩ := hm
    cases hi with
    | none => cases hmx
    | some z =>
      obtain ⟨kd2, q2, hq2, hqe2⟩ := hh
      cases lo with
      | none =>
        cases hl
        simp [Instr.sliceBounds, hsz, slA, run_bound hq2 hqe2 hjm, run_bound hq3 hqe3 hmc]
      | some y =>
        obtain ⟨kd, q, hq, hqe⟩ := hl
        simp [Instr.sliceBounds, hsz, slA, run_bound hq2 hqe2 hjm, run_bound hq hqe hij, run_bound hq3 hqe3 hmc]
theorem p_at {ad : Addr} {n c i : Nat} {e : TypeId} {s : Nat} {j : Int} (hT : slOf P t = some (e, s)) (hx : val E x = .slice (some ad) n c) (hy : val E y = .int kd j) (hj : j = (i : Int)) (hi : i < n)
    (h : k (.pointer (some (ad.add (i * s))))) : VPure P E { dst := d, op := .indexAddr t x y, type := ty, pos := p, after := af, guard := g } k :=
  pp (fun w => by
    obtain ⟨hu, info, hi1, hi2⟩ := slOf_spec hT
    subst hj
    simp [execOp, hx, hy, Instr.indexAt, run_underlying hu, asIntOf, hi, sizeOf, typeInfo, hi1, hi2]) h
theorem p_atS {s : ByteArray} {i : Nat} {q : UInt8} {j : Int} (hT : P.underlying t = some .string) (hx : val E x = .string s) (hy : val E y = .int kd j) (hj : j = (i : Int)) (hq : s[i]? = some q)
    (h : k (.int .u8 q.toNat)) : VPure P E { dst := d, op := .index t x y, type := ty, pos := p, after := af, guard := g } k :=
  pp (fun w => by
    subst hj
    simp [execOp, hx, hy, Instr.index, run_underlying hT, asIntOf, hq]) h
theorem p_fld {ad : Addr} {f off : Nat} (hT : fieldOff P t f = some off) (hx : val E x = .pointer (some ad)) (h : k (.pointer (some (ad.add off)))) : VPure P E { dst := d, op := .fieldAddr t x f, type := ty, pos := p, after := af, guard := g } k :=
  pp (fun w => by
    unfold fieldOff at hT
    split at hT
    · rename_i fs hu
      split at hT
      · rename_i fl hf
        split at hT
        · rename_i m hm
          injection hT with hT
          subst hT
          obtain ⟨info, hi1, hi2⟩ := Option.map_eq_some_iff.1 hm
          simp [execOp, hx, Instr.fieldAt, run_underlying hu, hf, Instr.sureAddr, fieldPlace, sizeOf, typeInfo, hi1, hi2]
        · cases hT
      · cases hT
    · cases hT) h
theorem p_nil {ad : Addr} (hx : val E x = .pointer (some ad)) (h : k (.pointer (some ad))) : VPure P E { dst := d, op := .nilCheck x, type := ty, pos := p, after := af, guard := g } k :=
  pp (fun w => by simp [execOp, hx]) h
theorem p_fun {fn : Fn} (fs cs : Array Operand) (h : k (.func fn (fs.toList.map (val E)).toArray (cs.toList.map (val E)).toArray)) : VPure P E { dst := d, op := .makeFunc fn fs cs, type := ty, pos := p, after := af, guard := g } k :=
  pp (fun w => by
    have e : ∀ l : Array Operand, l.map (val E) = (l.toList.map (val E)).toArray := fun l => by apply Array.toList_inj.1; simp
    simp [execOp, Instr.makeFunc, e]) h

theorem run_load1 {n : Nat} {ad : Addr} {w : World} (hT : aggOf P t = some (false, n)) (hc : w.cell? ad = some v) : (loadVar t ad).run P w = .ok v w := by
  simp only [loadVar, Sem.run_bind, (aggOf_run hT w).1, Result.andThen_ok]
  simp [hc]
theorem run_loadN {n : Nat} {ad : Addr} {w : World} (hT : aggOf P t = some (true, n)) (vs : List Value) (hn : vs.length = n) (hc : ∀ j v, vs[j]? = some v → w.cell? (ad.add j) = some v) : (loadVar t ad).run P w = .ok (.agg vs.toArray) w := by
  simp only [loadVar, Sem.run_bind, (aggOf_run hT w).1, Result.andThen_ok, if_true, (aggOf_run hT w).2]
  subst hn
  simp [run_loadCells_list (P := P) w ad vs hc]
theorem v_load {n : Nat} {ad : Addr} {w : World} (hT : aggOf P t = some (false, n)) (hx : val E x = .pointer (some ad)) (hc : w.cell? ad = some v) (h : kw v w) : VVal P E { dst := d, op := .load t x, type := ty, pos := p, after := af, guard := g } w kw :=
  vv (by simp only [execOp, hx, Instr.loadAt, Instr.sureAddr, Sem.run_bind, Sem.run_pure, Result.andThen_ok, run_load1 hT hc]) h
theorem t_load {n : Nat} {ad : Addr} (hT : aggOf P t = some (false, n)) (hx : val E x = .pointer (some ad)) (hc : ∀ w, S w → w.cell? ad = some v) (h : k v) : VHeld P S E { dst := d, op := .load t x, type := ty, pos := p, after := af, guard := g } k :=
  th (fun w hw => by simp only [execOp, hx, Instr.loadAt, Instr.sureAddr, Sem.run_bind, Sem.run_pure, Result.andThen_ok, run_load1 hT (hc w hw)]) h
theorem v_loadN {n : Nat} {ad : Addr} {w : World} (vs : List Value) (hT : aggOf P t = some (true, n)) (hx : val E x = .pointer (some ad)) (hn : vs.length = n) (hc : ∀ j v, vs[j]? = some v → w.cell? (ad.add j) = some v) (h : kw (.agg vs.toArray) w) : VVal P E { dst := d, op := .load t x, type := ty, pos := p, after := af, guard := g } w kw :=
  vv (by simp only [execOp, hx, Instr.loadAt, Instr.sureAddr, Sem.run_bind, Sem.run_pure, Result.andThen_ok, run_loadN hT vs hn hc]) h
theorem t_loadN {n : Nat} {ad : Addr} (vs : List Value) (hT : aggOf P t = some (true, n)) (hx : val E x = .pointer (some ad)) (hn : vs.length = n) (hc : ∀ w, S w → ∀ j v, vs[j]? = some v → w.cell? (ad.add j) = some v) (h : k (.agg vs.toArray)) : VHeld P S E { dst := d, op := .load t x, type := ty, pos := p, after := af, guard := g } k :=
  th (fun w hw => by simp only [execOp, hx, Instr.loadAt, Instr.sureAddr, Sem.run_bind, Sem.run_pure, Result.andThen_ok, run_loadN hT vs hn (hc w hw)]) h
theorem v_store {ad : Addr} {w : World} {old : Value} (hT : (P.info? t).map (·.size) = some 1) (hx : val E x = .pointer (some ad)) (hy : val E y = v) (h1 : v.oneCell' = true) (hc : w.cell? ad = some old) (hf : w.frozen? ad = false) (h : kw undef (w.setCell ad v)) : VSkip P E { dst := d, op := .store t x y, type := ty, pos := p, after := af, guard := g } w kw :=
  vs_ (by
    obtain ⟨i, hi1, hi2⟩ := Option.map_eq_some_iff.1 hT
    have e : v.cells = #[v] := by cases v <;> first | rfl | cases h1
    simp only [execOp, hx, hy, Instr.storeAt, Instr.sureAddr, Sem.run_bind, Sem.run_pure, Result.andThen_ok, storeVar, sizeOf, typeInfo, run_program, hi1, hi2, e]
    simp [storeCells, Addr.add, run_store P w ad v _ h1, hc, hf]) h
theorem v_box {w : World} (hx : val E x = v) (h : kw (.pointer (some ⟨w.heap.size, 0, none⟩)) (w.alloc (.cells v.cells t))) : VVal P E { dst := d, op := .box t x, type := ty, pos := p, after := af, guard := g } w kw :=
  vv (by subst hx; simp [execOp, Instr.box, newVar, newRow]) h
theorem v_alloc {w : World} {zz : Value} (hz : (P.info? t).map (·.zero) = some (some zz)) (h : kw (.pointer (some ⟨w.heap.size, 0, none⟩)) (w.alloc (.cells zz.cells t))) : VVal P E { dst := d, op := .alloc t, type := ty, pos := p, after := af, guard := g } w kw :=
  vv (by
    obtain ⟨i, hi1, hi2⟩ := Option.map_eq_some_iff.1 hz
    simp [execOp, Instr.alloc, newVar, newRow, zeroValue, typeInfo, hi1, hi2]) h
end
end Go.Proofs.YtejbljopighenaaDoor
namespace Go.Proofs.YtejbljopighenaaDoor
open Go.RowKit

section
variable {P : Program} {ops : Array Oper} {E : Env} {w : World} {K : Env → World → Prop}
theorem dr (S : World → Prop) (L : List (Nat × Bool)) (h : schedOk ops L = true) (hS : S w.drew) (hd : evD P S ops.toList L E w.drew K) : VDraw P ops E w K := ⟨.inl ⟨S, L, h, hS, hd⟩⟩
/-- Nothing is asked of the world behind the last operation. -/
theorem drZ (z : Nat) (S : World → Prop) (L : List (Nat × Bool)) (h : schedOkZ ops z L = true) (hS : S w.drew) (hd : evD P S ops.toList L E w.drew (lastK P ops.toList z K)) : VDraw P ops E w K := ⟨.inr (.inl ⟨S, L, z, h, hS, hd⟩)⟩
/-- Orders as a tree. -/
theorem drT (S : World → Prop) (T : Sch) (h : schedOkT ops T = true) (hS : S w.drew) (hd : evT P S ops.toList T E w.drew K) : VDraw P ops E w K := ⟨.inr (.inr ⟨S, T, h, hS, hd⟩)⟩
/-- A loop. -/
theorem lp {B : Env → World → Kont → Prop} {K : Kont} (S : Type) (I : S → World → Prop) (L : S → List (Nat × Value)) (μ : S → Nat) (s0 : S) (h0 : I s0 w) (ha : agrees E (L s0))
    (hr : ∀ s E w, I s w → B (over E (L s)) w (fun x E' w' => match x with | .normal => ∃ s', I s' w' ∧ agrees E' (L s') ∧ μ s' < μ s | x => K x E' w')) : VLoop B E w K := ⟨S, I, L, μ, ⟨s0, h0, ha⟩, hr⟩
theorem evOp_mono {o : Oper} {k1 k2 : Value → World → Prop} (h : ∀ v w, k1 v w → k2 v w) (h' : evOp P o E w k1) : evOp P o E w k2 := by
  have vval : VVal P E o w k1 → VVal P E o w k2 := fun ⟨v, w', hr, hv⟩ => ⟨v, w', hr, h _ _ hv⟩
  have vpure : (VPure P E o fun v => k1 v w) → (VPure P E o fun v => k2 v w) := fun ⟨v, hr, hv⟩ => ⟨v, hr, h _ _ hv⟩
  have vskip : VSkip P E o w k1 → VSkip P E o w k2 := fun ⟨w', hr, hv⟩ => ⟨w', hr, h _ _ hv⟩
  have vcall : ∀ {f args}, VCall P f args w k1 → VCall P f args w k2 := fun hc => ⟨hc.fn, hc.go.mono fun e w' ⟨v, he, hv⟩ => ⟨v, he, h _ _ hv⟩⟩
  obtain ⟨dst, op, type, pos, after, guard⟩ := o
  cases op
  case move x => exact h _ _ h'
  case assign x => exact h _ _ h'
  case pick c x y =>
    simp only [evOp] at h' ⊢
    split at h'
    · exact h _ _ h'
    · exact h _ _ h'
    · exact h'
  case extract t i =>
    simp only [evOp] at h' ⊢
    split at h'
    · split at h'
      · exact h _ _ h'
      · exact h'
    · exact h'
  case store => exact vskip h'
  case call c =>
    obtain ⟨callee, args, ts⟩ := c
    cases callee with
    | invoke r m => exact h'
    | builtin b =>
      simp only [evOp] at h' ⊢
      split at h'
      · exact vpure h'
      · exact vval h'
    | value x =>
      cases x with
      | func f => exact vcall h'
      | tmp t => simp only [evOp] at h' ⊢; split at h' <;> first | exact vcall h' | exact h'
      | const t => simp only [evOp] at h' ⊢; split at h' <;> first | exact vcall h' | exact h'
      | global t => simp only [evOp] at h' ⊢; split at h' <;> first | exact vcall h' | exact h'
  all_goals first | exact vpure h' | exact vval h'
theorem evStep_mono {o : Oper} {k1 k2 : Env → World → Prop} (h : ∀ v w, k1 v w → k2 v w) (h' : evStep P o E w k1) : evStep P o E w k2 := by
  unfold evStep at h' ⊢
  cases hop : o.op
  case move x => rw [hop] at h'; exact h _ _ h'
  case assign x => rw [hop] at h'; exact h _ _ h'
  case pick c x y =>
    rw [hop] at h'
    simp only [] at h' ⊢
    split at h'
    · exact h _ _ h'
    · exact h _ _ h'
    · exact h'
  all_goals (rw [hop] at h'; exact evOp_mono (fun v w => h _ _) h')
theorem evOps_mono {K1 K2 : Env → World → Prop} (h : ∀ E w, K1 E w → K2 E w) (all : List Oper) : ∀ (l : List Oper) (E : Env) (w : World), evOps P all l E w K1 → evOps P all l E w K2 := by
  intro l
  induction l with
  | nil => intro E w h'; exact h _ _ h'
  | cons o r ih =>
    intro E w h'
    unfold evOps at h' ⊢
    split
    · rename_i hb; rw [hb] at h'; exact evStep_mono (fun E w => ih E w) h'
    · rename_i hb; rw [hb] at h'; exact ih _ _ h'
theorem evTake_mono {S : World → Prop} {o : Oper} {k1 k2 : Value → Prop} (h : ∀ v, k1 v → k2 v) (h' : evTake P S o E k1) : evTake P S o E k2 := by
  have vheld : VHeld P S E o k1 → VHeld P S E o k2 := fun ⟨v, hr, hv⟩ => ⟨v, hr, h _ hv⟩
  have vpure : VPure P E o k1 → VPure P E o k2 := fun ⟨v, hr, hv⟩ => ⟨v, hr, h _ hv⟩
  obtain ⟨dst, op, type, pos, after, guard⟩ := o
  cases op
  case move x => exact h _ h'
  case assign x => exact h _ h'
  case pick c x y =>
    simp only [evTake] at h' ⊢
    split at h'
    · exact h _ h'
    · exact h _ h'
    · exact h'
  case extract t i =>
    simp only [evTake] at h' ⊢
    split at h'
    · split at h'
      · exact h _ h'
      · exact h'
    · exact h'
  case call c =>
    obtain ⟨callee, args, ts⟩ := c
    cases callee with
    | invoke r m => exact h'
    | builtin b =>
      simp only [evTake] at h' ⊢
      split at h'
      · exact vpure h'
      · exact vheld h'
    | value x => exact h'
  all_goals first | exact vpure h' | exact vheld h'
theorem evTakeE_mono {S : World → Prop} {o : Oper} {k1 k2 : Env → Prop} (h : ∀ v, k1 v → k2 v) (h' : evTakeE P S o E k1) : evTakeE P S o E k2 := by
  unfold evTakeE at h' ⊢
  cases hop : o.op
  case move x => rw [hop] at h'; exact h _ h'
  case assign x => rw [hop] at h'; exact h _ h'
  case pick c x y =>
    rw [hop] at h'
    simp only [] at h' ⊢
    split at h'
    · exact h _ h'
    · exact h _ h'
    · exact h'
  all_goals (rw [hop] at h'; exact evTake_mono (fun v => h _) h')
theorem evD_mono {S : World → Prop} {K1 K2 : Env → World → Prop} (h : ∀ E w, K1 E w → K2 E w) (all : List Oper) : ∀ (L : List (Nat × Bool)) (E : Env) (w : World), evD P S all L E w K1 → evD P S all L E w K2 := by
  intro L
  induction L with
  | nil => intro E w h'; exact h _ _ h'
  | cons x r ih =>
    obtain ⟨i, take⟩ := x
    intro E w h'
    simp only [evD] at h' ⊢
    split
    · rename_i hn; simp only [hn] at h'
    · rename_i o hn
      simp only [hn] at h'
      split
      · rename_i hb; simp only [hb] at h'; exact ih _ _ h'
      · rename_i hb
        simp only [hb] at h'
        cases take with
        | true => exact evTakeE_mono (fun E => ih E w) h'
        | false => exact evStep_mono (fun E w h => ⟨h.1, ih _ _ h.2⟩) h'
theorem lastK_mono {K1 K2 : Env → World → Prop} (h : ∀ E w, K1 E w → K2 E w) (all : List Oper) (z : Nat) (E : Env) (w : World) (h' : lastK P all z K1 E w) : lastK P all z K2 E w := by
  unfold lastK at h' ⊢
  split at h'
  · exact h'
  · split at h'
    · exact evStep_mono h h'
    · exact h _ _ h'
theorem evB_mono {S : World → Prop} {all : List Oper} {i : Nat} {E : Env} {w : World} {K1 K2 : Env → World → Prop} (h : ∀ E w, K1 E w → K2 E w) (h' : evB P S all i E w K1) : evB P S all i E w K2 := by
  unfold evB at h' ⊢
  split at h'
  · exact h'
  · split at h'
    · exact h _ _ h'
    · exact evStep_mono (fun _ _ k => ⟨k.1, h _ _ k.2⟩) h'
theorem evT_mono {S : World → Prop} {K1 K2 : Env → World → Prop} (h : ∀ E w, K1 E w → K2 E w) (all : List Oper) : ∀ (T : Sch) (E : Env) (w : World), evT P S all T E w K1 → evT P S all T E w K2
  | .nil, E, w, h' => h E w h'
  | .take i r, E, w, h' => by
    unfold evT at h' ⊢
    split at h'
    · exact h'
    · split at h'
      · exact evT_mono h all r _ _ h'
      · exact evTakeE_mono (fun _ k => evT_mono h all r _ _ k) h'
  | .one i r, E, w, h' => evB_mono (fun E w => evT_mono h all r E w) h'
  | .two i r j s, E, w, h' => ⟨evB_mono (fun E w => evT_mono h all r E w) h'.1, evB_mono (fun E w => evT_mono h all s E w) h'.2⟩
  | .three i r j s k t, E, w, h' => ⟨evB_mono (fun E w => evT_mono h all r E w) h'.1, evB_mono (fun E w => evT_mono h all s E w) h'.2.1, evB_mono (fun E w => evT_mono h all t E w) h'.2.2⟩
  | .four i r j s k t l u, E, w, h' => ⟨evB_mono (fun E w => evT_mono h all r E w) h'.1, evB_mono (fun E w => evT_mono h all s E w) h'.2.1, evB_mono (fun E w => evT_mono h all t E w) h'.2.2.1, evB_mono (fun E w => evT_mono h all u E w) h'.2.2.2⟩
theorem evT_graft {S : World → Prop} {K : Env → World → Prop} {X : Sch} (all : List Oper) : ∀ (T : Sch) (E : Env) (w : World), evT P S all T E w (fun E w => evT P S all X E w K) → evT P S all (T.graft X) E w K
  | .nil, E, w, h' => h'
  | .take i r, E, w, h' => by
    unfold evT at h'
    unfold Sch.graft evT
    split at h'
    · exact h'
    · split at h'
      · exact evT_graft all r _ _ h'
      · exact evTakeE_mono (fun _ k => evT_graft all r _ _ k) h'
  | .one i r, E, w, h' => evB_mono (fun E w => evT_graft all r E w) h'
  | .two i r j s, E, w, h' => ⟨evB_mono (fun E w => evT_graft all r E w) h'.1, evB_mono (fun E w => evT_graft all s E w) h'.2⟩
  | .three i r j s k t, E, w, h' => ⟨evB_mono (fun E w => evT_graft all r E w) h'.1, evB_mono (fun E w => evT_graft all s E w) h'.2.1, evB_mono (fun E w => evT_graft all t E w) h'.2.2⟩
  | .four i r j s k t l u, E, w, h' => ⟨evB_mono (fun E w => evT_graft all r E w) h'.1, evB_mono (fun E w => evT_graft all s E w) h'.2.1, evB_mono (fun E w => evT_graft all t E w) h'.2.2.1, evB_mono (fun E w => evT_graft all u E w) h'.2.2.2⟩
theorem VDraw_mono {ops : Array Oper} {E : Env} {w : World} {K1 K2 : Env → World → Prop} (h : ∀ E w, K1 E w → K2 E w) (h' : VDraw P ops E w K1) : VDraw P ops E w K2 := by
  rcases h'.go with ⟨S, L, hs, hS, hD⟩ | ⟨S, L, z, hs, hS, hD⟩ | ⟨S, T, hs, hS, hD⟩
  · exact ⟨.inl ⟨S, L, hs, hS, evD_mono h _ _ _ _ hD⟩⟩
  · exact ⟨.inr (.inl ⟨S, L, z, hs, hS, evD_mono (lastK_mono h _ _) _ _ _ _ hD⟩)⟩
  · exact ⟨.inr (.inr ⟨S, T, hs, hS, evT_mono h _ _ _ _ hD⟩)⟩
theorem ev_mono : ∀ (c : Code) (E : Env) (w : World) (K1 K2 : Kont), (∀ x E w, K1 x E w → K2 x E w) → ev P c E w K1 → ev P c E w K2 := by
  intro c
  induction c with
  | skip => intro E w K1 K2 h h'; exact h _ _ _ h'
  | label l => intro E w K1 K2 h h'; exact h _ _ _ h'
  | exit i => intro E w K1 K2 h h'; exact h _ _ _ h'
  | goto l => intro E w K1 K2 h h'; exact h _ _ _ h'
  | ret => intro E w K1 K2 h h'; exact h _ _ _ h'
  | scope b ih =>
    intro E w K1 K2 h h'
    refine ih _ _ _ _ ?_ h'
    intro x E w hx
    cases x with
    | normal => exact h _ _ _ hx
    | exit i => exact h _ _ _ hx
    | goto l => exact hx
    | ret => exact h _ _ _ hx
  | rangeFunc f ps x b iha ihb => intro E w K1 K2 h h'; exact h'.elim
  | refuse why => intro E w K1 K2 h h'; exact h'.elim
  | seq x y ihx ihy =>
    intro E w K1 K2 h h'
    refine ihx _ _ _ _ ?_ h'
    intro x E w hx
    cases x with
    | normal => exact ihy _ _ _ _ h hx
    | exit i => exact h _ _ _ hx
    | goto l => exact h _ _ _ hx
    | ret => exact h _ _ _ hx
  | cond c t f iht ihf =>
    intro E w K1 K2 h h'
    simp only [ev] at h' ⊢
    split at h'
    · exact iht _ _ _ _ h h'
    · exact ihf _ _ _ _ h h'
    · exact h'
  | block id b ih =>
    intro E w K1 K2 h h'
    refine ih _ _ _ _ ?_ h'
    intro x E w hx
    cases x with
    | normal => exact h _ _ _ hx
    | exit i =>
      unfold blockK at hx ⊢
      dsimp only at hx ⊢
      cases hb : Nat.beq i id with
      | true => rw [hb] at hx; exact h _ _ _ hx
      | false => rw [hb] at hx; exact h _ _ _ hx
    | goto l => exact h _ _ _ hx
    | ret => exact h _ _ _ hx
  | loop b ih =>
    intro E w K1 K2 h h'
    obtain ⟨S, I, L, μ, h0, hr⟩ := h'.go
    refine ⟨S, I, L, μ, h0, fun s E w hi => ih _ _ _ _ ?_ (hr s E w hi)⟩
    intro x E w hx
    cases x with
    | normal => exact hx
    | exit i => exact h _ _ _ hx
    | goto l => exact h _ _ _ hx
    | ret => exact h _ _ _ hx
  | region id ops draw =>
    intro E w K1 K2 h h'
    cases draw with
    | false => exact evOps_mono (fun E w => h .normal E w) _ _ _ _ h'
    | true =>
      exact VDraw_mono (fun E w => h .normal E w) h'

theorem ev_iff {c : Operand} {x y : Code} {K : Kont} (hc : val E c = .bool false) (h : ev P y E w K) : ev P (.cond c x y) E w K := by unfold ev; rw [hc]; exact h
theorem ev_skp {K : Kont} (h : normK K E w) : ev P .skip E w K := h
theorem nx {f : Env → World → Kont → Prop} {K : Kont} (h : f E w K) : normK (thenK f K) E w := h
theorem evOps_nil {all : List Oper} (h : K E w) : evOps P all [] E w K := h
/-- Cut at the end of a region. -/
theorem cutO {all l : List Oper} (S : Type) (J : S → World → Prop) (L : S → List (Nat × Value)) (h1 : evOps P all l E w (fun E' w' => ∃ s, J s w' ∧ agrees E' (L s))) (h2 : ∀ s B w', J s w' → K (over B (L s)) w') : evOps P all l E w K := by
  refine evOps_mono (fun E' w' h => ?_) _ _ _ _ h1
  obtain ⟨s, hj, ha⟩ := h
  rw [← over_of_agrees ha]
  exact h2 s E' w' hj
theorem cutV (S : Type) (J : S → World → Prop) (L : S → List (Nat × Value)) (h1 : VDraw P ops E w (fun E' w' => ∃ s, J s w' ∧ agrees E' (L s))) (h2 : ∀ s B w', J s w' → K (over B (L s)) w') : VDraw P ops E w K := by
  have hc : ∀ E' w', (∃ s, J s w' ∧ agrees E' (L s)) → K E' w' := fun E' w' ⟨s, hj, ha⟩ => by rw [← over_of_agrees ha]; exact h2 s E' w' hj
  exact VDraw_mono hc h1
/-- A cut between two parts of the orders. -/
theorem cutT {T : World → Prop} {all : List Oper} {X Y : Sch} (S : Type) (J : S → World → Prop) (L : S → List (Nat × Value)) (h1 : evT P T all X E w (fun E' w' => ∃ s, J s w' ∧ agrees E' (L s))) (h2 : ∀ s B w', J s w' → evT P T all Y (over B (L s)) w' K) : evT P T all (X.graft Y) E w K :=
  evT_graft all X E w (evT_mono (fun E' w' ⟨s, hj, ha⟩ => by rw [← over_of_agrees ha]; exact h2 s E' w' hj) all X E w h1)
/-- A cut behind a piece of code. -/
theorem cutS {c1 c2 : Code} {K : Kont} (S : Type) (J : S → World → Prop) (L : S → List (Nat × Value)) (h1 : ev P c1 E w (fun x E w => match x with | .normal => ∃ s, J s w ∧ agrees E (L s) | x => K x E w)) (h2 : ∀ s B w', J s w' → ev P c2 (over B (L s)) w' K) : ev P (.seq c1 c2) E w K := by
  refine ev_mono c1 E w _ _ ?_ h1
  intro x E w hx
  cases x with
  | normal =>
    obtain ⟨s, hj, ha⟩ := hx
    show ev P c2 E w K
    rw [← over_of_agrees ha]
    exact h2 s E w hj
  | exit i => exact hx
  | goto l => exact hx
  | ret => exact hx
end
end Go.Proofs.YtejbljopighenaaDoor
namespace Go.Proofs.YtejbljopighenaaDoor
open Go.RowKit

/-- Block g holds these cells, and nobody shares them with a string. -/
def Blk (w : World) (g : Nat) (T : TypeId) (cs : List Value) : Prop := w.heap[g]? = some (.cells cs.toArray T (0, 0))
section
variable {w w' : World} {g : Nat} {T : TypeId} {cs : List Value}
theorem Blk.lt (h : Blk w g T cs) : g < w.heap.size := (Array.getElem?_eq_some_iff.1 h).1
theorem Blk.cell (h : Blk w g T cs) (i : Nat) : w.cell? ⟨g, i, none⟩ = cs[i]? := by
  unfold Blk at h
  simp [World.cell?, h]
theorem Blk.at_ (h : Blk w g T cs) {i : Nat} {v : Value} (hi : cs[i]? = some v) : w.cell? ⟨g, i, none⟩ = some v := (h.cell i).trans hi
theorem Blk.free (h : Blk w g T cs) (i : Nat) : w.frozen? ⟨g, i, none⟩ = false := by
  unfold Blk at h
  simp [World.frozen?, h]
theorem Blk.new (w : World) (cs : List Value) (T : TypeId) : Blk (w.alloc (.cells cs.toArray T)) w.heap.size T cs := by
  show (w.heap.push _)[w.heap.size]? = _
  simp
theorem Blk.new' (w : World) (cs : Array Value) (T : TypeId) : Blk (w.alloc (.cells cs T)) w.heap.size T cs.toList := by
  have := Blk.new w cs.toList T
  simpa using this
theorem Blk.old (h : Blk w g T cs) (o : Obj) : Blk (w.alloc o) g T cs := (Below.heap_alloc w o g h.lt).trans h
theorem Blk.drew (h : Blk w g T cs) : Blk w.drew g T cs := h
theorem Blk.below (h : Blk w g T cs) (hb : Below w.heap.size w w') : Blk w' g T cs := (hb.block g h.lt).trans h
theorem Blk.belowB {B : Nat} (h : Blk w g T cs) (hb : Below B w w') (hg : g < B) : Blk w' g T cs := (hb.block g hg).trans h
theorem Blk.set (h : Blk w g T cs) (i : Nat) (v : Value) : Blk (w.setCell ⟨g, i, none⟩ v) g T (cs.set i v) := by
  unfold Blk at h ⊢
  simp only [World.setCell, Array.getElem?_modify, h]
  simp
theorem Blk.other (h : Blk w g T cs) {p : Addr} (hp : p.block ≠ g) (v : Value) : Blk (w.setCell p v) g T cs := (Below.heap_setCell w p v g (fun e => hp e.symm)).trans h
theorem Blk.grown {row : Option Nat} (h : Blk w g T cs) (hg : w.grownBy w' row) (hr : row ≠ some g) : Blk w' g T cs := (hg.block g h.lt (fun e => hr e.symm)).trans h
theorem Blk.grownN {g' : Nat} (h : Blk w g T cs) (hg : w.grownBy w' (some g')) (hr : g' ≠ g) : Blk w' g T cs := h.grown hg (fun e => hr (by injection e))
theorem Blk.inj {T' : TypeId} {cs' : List Value} (h : Blk w g T cs) (h' : Blk w g T' cs') : cs = cs' := by
  have := h.symm.trans h'
  injection this with this
  injection this with this
  simpa using this
/-- Cells one behind the other. -/
theorem Blk.run (h : Blk w g T cs) (i : Nat) (vs : List Value) (hv : ∀ j v, vs[j]? = some v → cs[i + j]? = some v) : ∀ j v, vs[j]? = some v → w.cell? ((⟨g, i, none⟩ : Addr).add j) = some v := by
  intro j v hj
  rw [Addr.add_lit]
  exact h.at_ (hv j v hj)
end

theorem gtrans {w w1 w2 : World} {r : Option Nat} (h : w.grownBy w1 r) (k : w1.grownBy w2 r) : w.grownBy w2 r :=
  ⟨k.os.trans h.os, k.tape.trans h.tape, k.output.trans h.output, Nat.le_trans h.size k.size, fun i hi hne => (k.block i (Nat.lt_of_lt_of_le hi h.size) hne).trans (h.block i hi hne)⟩
theorem gbelow {w w1 : World} {r : Option Nat} (h : Below w.heap.size w w1) : w.grownBy w1 r := ⟨h.os, h.tape, h.output, h.size, fun i hi _ => h.block i hi⟩
theorem gdrew {w : World} {r : Option Nat} : w.grownBy w.drew r := ⟨rfl, rfl, rfl, Nat.le_refl _, fun _ _ _ => rfl⟩

section
variable {P : Program} {E : Env} {d : Option Nat} {ty : TypeId} {p : String} {af : Array Edge} {gd : Option (Nat × Bool)} {x y : Operand} {t : TypeId} {kw : Value → World → Prop} {w : World}
/-- A new block. -/
theorem v_boxB (vs : List Value) (hx : (val E x).cells = vs.toArray) (h : ∀ g w', g = w.heap.size → Blk w' g t vs → Below g w w' → w'.heap.size = g + 1 → kw (.pointer (some ⟨g, 0, none⟩)) w') :
    VVal P E { dst := d, op := .box t x, type := ty, pos := p, after := af, guard := gd } w kw :=
  v_box rfl (h _ _ rfl (by rw [hx]; exact Blk.new w vs t) ((Below.refl _ _).alloc (Nat.le_refl _) _) (by simp))
theorem v_allocB (vs : List Value) (hz : (P.info? t).map (fun i => i.zero.map fun z => z.cells.toList) = some (some vs)) (h : ∀ g w', g = w.heap.size → Blk w' g t vs → Below g w w' → w'.heap.size = g + 1 → kw (.pointer (some ⟨g, 0, none⟩)) w') :
    VVal P E { dst := d, op := .alloc t, type := ty, pos := p, after := af, guard := gd } w kw := by
  obtain ⟨i, hi1, hi2⟩ := Option.map_eq_some_iff.1 hz
  obtain ⟨z, hz1, hz2⟩ := Option.map_eq_some_iff.1 hi2
  refine v_alloc (zz := z) (by rw [hi1]; simp [hz1]) (h _ _ rfl ?_ ((Below.refl _ _).alloc (Nat.le_refl _) _) (by simp))
  have := Blk.new' w z.cells t
  rwa [hz2] at this
/-- A literal slice. -/
theorem run_storeB {g : Nat} {T : TypeId} : ∀ (vs : List Value) (i off : Nat) (w : World) (cs : List Value), Blk w g T cs → (∀ u ∈ vs, u.oneCell' = true) → off + i + vs.length ≤ cs.length →
    ∃ w', (storeCells ⟨g, off, none⟩ vs i).run P w = .ok () w' ∧ Blk w' g T (cs.take (off + i) ++ vs ++ cs.drop (off + i + vs.length)) ∧ w.grownBy w' (some g) ∧ w'.heap.size = w.heap.size
  | [], i, off, w, cs, hB, _, _ => ⟨w, rfl, by simpa using hB, World.grownBy.refl w _, rfl⟩
  | v :: vs, i, off, w, cs, hB, h1, hl => by
    have hlt : off + i < cs.length := by simp only [List.length_cons] at hl; omega
    have hc : w.cell? ⟨g, off + i, none⟩ = some cs[off + i] := hB.at_ (List.getElem?_eq_getElem hlt)
    have hB2 := hB.set (off + i) v
    obtain ⟨w', hr, hB', hg, hsz⟩ := run_storeB vs (i + 1) off (w.setCell ⟨g, off + i, none⟩ v) (cs.set (off + i) v) hB2 (fun u hu => h1 u (by simp [hu])) (by simp only [List.length_set, List.length_cons] at hl ⊢; omega)
    refine ⟨w', ?_, ?_, ?_, by rw [hsz]; simp⟩
    · rw [storeCells, Addr.add_lit]
      have hst : (store (⟨g, off + i, none⟩ : Addr) v).run P w = .ok () (w.setCell ⟨g, off + i, none⟩ v) := by
        rw [run_store P w _ v _ (h1 v (by simp))]
        simp [hc, hB.free]
      simp only [Sem.run_bind, hst, Result.andThen_ok, hr]
    · have e : (cs.set (off + i) v).take (off + (i + 1)) ++ vs ++ (cs.set (off + i) v).drop (off + (i + 1) + vs.length) = cs.take (off + i) ++ v :: vs ++ cs.drop (off + i + (v :: vs).length) := by
        rw [show off + (i + 1) = off + i + 1 by omega, List.take_succ_eq_append_getElem (by rw [List.length_set]; exact hlt), List.getElem_set_self, List.take_set_of_le (by omega), List.drop_set_of_lt (by omega), List.length_cons]
        rw [show off + i + 1 + vs.length = off + i + (vs.length + 1) by omega]
        simp only [List.append_assoc, List.cons_append, List.nil_append]
      rw [← e]; exact hB'
    · have h0 : w.grownBy (w.setCell ⟨g, off + i, none⟩ v) (some g) := ⟨rfl, rfl, rfl, by simp, fun k _ hk => Below.heap_setCell _ _ _ _ (fun e => hk (by rw [e]))⟩
      exact ⟨hg.os.trans h0.os, hg.tape.trans h0.tape, hg.output.trans h0.output, Nat.le_trans h0.size hg.size, fun k hk hne => (hg.block k (by simpa using hk) hne).trans (h0.block k hk hne)⟩
/-- A store into one cell of a block. -/
theorem v_set {g i : Nat} {T : TypeId} {cs : List Value} (v : Value) (hT : (P.info? t).map (·.size) = some 1) (hB : Blk w g T cs) (hx : val E x = .pointer (some ⟨g, i, none⟩)) (hy : val E y = v) (h1 : v.oneCell' = true) (hi : i < cs.length)
    (h : ∀ w', Blk w' g T (cs.set i v) → w.grownBy w' (some g) → w'.heap.size = w.heap.size → kw undef w') : VSkip P E { dst := d, op := .store t x y, type := ty, pos := p, after := af, guard := gd } w kw :=
  v_store hT hx hy h1 (hB.at_ (List.getElem?_eq_getElem hi)) (hB.free i) (h _ (hB.set i v) ⟨rfl, rfl, rfl, by simp, fun k _ hk => Below.heap_setCell _ _ _ _ (fun e => hk (by rw [e]))⟩ (by simp))
/-- A store of a value of parts, over a whole block. -/
theorem v_storeA {g n : Nat} {T : TypeId} {cs : List Value} (vs : List Value) (hT : (P.info? t).map (·.size) = some n) (hx : val E x = .pointer (some ⟨g, 0, none⟩)) (hy : (val E y).cells = vs.toArray) (hn : vs.length = n) (h1 : ∀ u ∈ vs, u.oneCell' = true) (hB : Blk w g T cs) (hl : cs.length = n)
    (h : ∀ w', Blk w' g T vs → w.grownBy w' (some g) → w'.heap.size = w.heap.size → kw undef w') : VSkip P E { dst := d, op := .store t x y, type := ty, pos := p, after := af, guard := gd } w kw := by
  obtain ⟨w', hr, hB', hg, hsz⟩ := run_storeB (P := P) vs 0 0 w cs hB h1 (by omega)
  refine vs_ (w' := w') ?_ (h w' ?_ hg hsz)
  · obtain ⟨i, hi1, hi2⟩ := Option.map_eq_some_iff.1 hT
    simp only [execOp, hx, Instr.storeAt, Instr.sureAddr, Sem.run_bind, Sem.run_pure, Result.andThen_ok, storeVar, sizeOf, typeInfo, run_program, hi1, hi2, hy]
    simp [hn, hr]
  · have e : cs.take (0 + 0) ++ vs ++ cs.drop (0 + 0 + vs.length) = vs := by simp [hn, ← hl]
    rw [e] at hB'; exact hB'
end
end Go.Proofs.YtejbljopighenaaDoor
