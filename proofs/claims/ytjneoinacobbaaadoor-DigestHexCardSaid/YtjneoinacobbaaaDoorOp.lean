/- What single operations give, for the walk that reckons. No program in sight. -/
import Derived.Test.YtjneoinacobbaaaDoorSx
namespace Go.Proofs.YtjneoinacobbaaaDoor
open Go.RowKit

section
variable {P : Program} {E : Env} {d : Option Nat} {ty : TypeId} {p : String} {af : Array Edge} {g : Option (Nat × Bool)} {x y z : Operand} {t u : TypeId} {kd kd2 : IntKind} {a b r : Int} {k : Value → Prop} {S : World → Prop} {kw : Value → World → Prop} {w w' : World} {o : Oper} {v : Value}

theorem pp (h : ∀ w, (execOp (val E) o).run P w = .ok (.value v) w) (hk : k v) : VPure P E o k := ⟨v, h, hk⟩
theorem vv (h : (execOp (val E) o).run P w = .ok (.value v) w') (hk : kw v w') : VVal P E o w kw := ⟨v, w', h, hk⟩
theorem th (h : ∀ w, S w → (execOp (val E) o).run P w = .ok (.value v) w) (hk : k v) : VHeld P S E o k := ⟨v, h, hk⟩
theorem vs_ (h : (execOp (val E) o).run P w = .ok .skip w') (hk : kw undef w') : VSkip P E o w kw := ⟨w', h, hk⟩
theorem cc {f : Nat} {args : Array Value} {R : Ending → World → Prop} (hi : isFn P f = true) (c : Calls P f args w R) (h : ∀ e w', R e w' → ∃ v, e = .returned v ∧ kw v w') : VCall P f args w kw := ⟨hi, c.mono h⟩

theorem w64 {x : Int} (h : -9223372036854775808 ≤ x ∧ x ≤ 9223372036854775807) : IntKind.i64.wrap x = x := IntWalk.i64_in _ h
theorem wu64 {x : Int} (h : 0 ≤ x ∧ x < 18446744073709551616) : IntKind.u64.wrap x = x := by rw [IntKind.wrap_u64]; omega
theorem wu8 {x : Int} (h : 0 ≤ x ∧ x < 256) : IntKind.u8.wrap x = x := by rw [IntKind.wrap_u8']; omega
theorem wu32 {x : Int} (h : 0 ≤ x ∧ x < 4294967296) : IntKind.u32.wrap x = x := by rw [IntKind.wrap_u32']; omega

theorem g_ar {op : BinOp} {res : Int} (hop : Op.intArith op kd a b = pure (.int kd res)) (hb : (op == .add || (op == .sub || op == .mul)) = true) (hx : val E x = .int kd a) (hy : val E y = .int kd b) (w : World) :
    (execOp (val E) { dst := d, op := .binOp op t x y u, type := ty, pos := p, after := af, guard := g }).run P w = .ok (.value (.int kd res)) w := by
  simp only [execOp, hx, hy]
  cases op <;> first | (cases hb; done) | (simp [eqGuard, binOp, hop])
theorem p_add (hx : val E x = .int kd a) (hy : val E y = .int kd b) (hr : kd.wrap (a + b) = r) (h : k (.int kd r)) : VPure P E { dst := d, op := .binOp .add t x y u, type := ty, pos := p, after := af, guard := g } k :=
  pp (g_ar (by subst hr; rfl) rfl hx hy) h
theorem p_sub (hx : val E x = .int kd a) (hy : val E y = .int kd b) (hr : kd.wrap (a - b) = r) (h : k (.int kd r)) : VPure P E { dst := d, op := .binOp .sub t x y u, type := ty, pos := p, after := af, guard := g } k :=
  pp (g_ar (by subst hr; rfl) rfl hx hy) h
theorem p_mul (hx : val E x = .int kd a) (hy : val E y = .int kd b) (hr : kd.wrap (a * b) = r) (h : k (.int kd r)) : VPure P E { dst := d, op := .binOp .mul t x y u, type := ty, pos := p, after := af, guard := g } k :=
  pp (g_ar (by subst hr; rfl) rfl hx hy) h
theorem p_quo (hx : val E x = .int kd a) (hy : val E y = .int kd b) (hb : b ≠ 0) (hr : kd.wrap (a.tdiv b) = r) (h : k (.int kd r)) : VPure P E { dst := d, op := .binOp .quo t x y u, type := ty, pos := p, after := af, guard := g } k :=
  pp (fun w => by simp only [execOp, hx, hy]; simp [eqGuard, binOp, Op.intDiv, hb, hr]) h
theorem p_rem (hx : val E x = .int kd a) (hy : val E y = .int kd b) (hb : b ≠ 0) (hr : a.tmod b = r) (h : k (.int kd r)) : VPure P E { dst := d, op := .binOp .rem t x y u, type := ty, pos := p, after := af, guard := g } k :=
  pp (fun w => by simp only [execOp, hx, hy]; simp [eqGuard, binOp, Op.intDiv, hb, hr]) h
theorem p_shl (hx : val E x = .int kd a) (hy : val E y = .int kd2 b) (hb : 0 ≤ b) (hr : kd.wrap (a * 2 ^ (min b.toNat kd.bits)) = r) (h : k (.int kd r)) : VPure P E { dst := d, op := .binOp .shl t x y u, type := ty, pos := p, after := af, guard := g } k :=
  pp (fun w => by simp only [execOp, hx, hy]; simp [eqGuard, binOp, Op.shift, Int.not_lt.2 hb, hr]) h
theorem p_shr (hx : val E x = .int kd a) (hy : val E y = .int kd2 b) (hb : 0 ≤ b) (hr : a.fdiv (2 ^ (min b.toNat kd.bits)) = r) (h : k (.int kd r)) : VPure P E { dst := d, op := .binOp .shr t x y u, type := ty, pos := p, after := af, guard := g } k :=
  pp (fun w => by simp only [execOp, hx, hy]; simp [eqGuard, binOp, Op.shift, Int.not_lt.2 hb, hr]) h
theorem p_and (hx : val E x = .int kd a) (hy : val E y = .int kd b) (hr : bits .and kd a b = r) (h : k (.int kd r)) : VPure P E { dst := d, op := .binOp .and t x y u, type := ty, pos := p, after := af, guard := g } k :=
  pp (fun w => by subst hr; simp only [execOp, hx, hy]; simp [eqGuard, binOp, Op.intBits, bits]) h
theorem p_or (hx : val E x = .int kd a) (hy : val E y = .int kd b) (hr : bits .or kd a b = r) (h : k (.int kd r)) : VPure P E { dst := d, op := .binOp .or t x y u, type := ty, pos := p, after := af, guard := g } k :=
  pp (fun w => by subst hr; simp only [execOp, hx, hy]; simp [eqGuard, binOp, Op.intBits, bits]) h
theorem p_xor (hx : val E x = .int kd a) (hy : val E y = .int kd b) (hr : bits .xor kd a b = r) (h : k (.int kd r)) : VPure P E { dst := d, op := .binOp .xor t x y u, type := ty, pos := p, after := af, guard := g } k :=
  pp (fun w => by subst hr; simp only [execOp, hx, hy]; simp [eqGuard, binOp, Op.intBits, bits]) h
theorem g_cmp {op : BinOp} {q : Bool} (hop : Op.intCmp op a b = pure (.bool q)) (hb : (op == .eql || (op == .neq || (op == .lss || (op == .leq || (op == .gtr || op == .geq))))) = true) (hx : val E x = .int kd a) (hy : val E y = .int kd b) (w : World) :
    (execOp (val E) { dst := d, op := .binOp op t x y u, type := ty, pos := p, after := af, guard := g }).run P w = .ok (.value (.bool q)) w := by
  simp only [execOp, hx, hy]
  cases op <;> first | (cases hb; done) | (simp [eqGuard, binOp, hop])
theorem split_dec {q : Prop} [Decidable q] (h1 : q → k (.bool true)) (h2 : ¬ q → k (.bool false)) : k (.bool (decide q)) := by
  by_cases h : q
  · rw [decide_eq_true h]; exact h1 h
  · rw [decide_eq_false h]; exact h2 h
theorem p_lt (hx : val E x = .int kd a) (hy : val E y = .int kd b) (h1 : a < b → k (.bool true)) (h2 : ¬ a < b → k (.bool false)) : VPure P E { dst := d, op := .binOp .lss t x y u, type := ty, pos := p, after := af, guard := g } k :=
  pp (g_cmp rfl rfl hx hy) (split_dec h1 h2)
theorem p_le (hx : val E x = .int kd a) (hy : val E y = .int kd b) (h1 : a ≤ b → k (.bool true)) (h2 : ¬ a ≤ b → k (.bool false)) : VPure P E { dst := d, op := .binOp .leq t x y u, type := ty, pos := p, after := af, guard := g } k :=
  pp (g_cmp rfl rfl hx hy) (split_dec h1 h2)
theorem p_gt (hx : val E x = .int kd a) (hy : val E y = .int kd b) (h1 : b < a → k (.bool true)) (h2 : ¬ b < a → k (.bool false)) : VPure P E { dst := d, op := .binOp .gtr t x y u, type := ty, pos := p, after := af, guard := g } k :=
  pp (g_cmp rfl rfl hx hy) (split_dec (q := a > b) h1 h2)
theorem p_ge (hx : val E x = .int kd a) (hy : val E y = .int kd b) (h1 : b ≤ a → k (.bool true)) (h2 : ¬ b ≤ a → k (.bool false)) : VPure P E { dst := d, op := .binOp .geq t x y u, type := ty, pos := p, after := af, guard := g } k :=
  pp (g_cmp rfl rfl hx hy) (split_dec (q := a ≥ b) h1 h2)
theorem p_eq (hx : val E x = .int kd a) (hy : val E y = .int kd b) (h1 : a = b → k (.bool true)) (h2 : ¬ a = b → k (.bool false)) : VPure P E { dst := d, op := .binOp .eql t x y u, type := ty, pos := p, after := af, guard := g } k :=
  pp (g_cmp (q := decide (a = b)) (by simp only [Op.intCmp]; congr 2) rfl hx hy) (split_dec h1 h2)
theorem p_ne (hx : val E x = .int kd a) (hy : val E y = .int kd b) (h1 : a = b → k (.bool false)) (h2 : ¬ a = b → k (.bool true)) : VPure P E { dst := d, op := .binOp .neq t x y u, type := ty, pos := p, after := af, guard := g } k := by
  refine pp (g_cmp (q := !decide (a = b)) (by simp only [Op.intCmp, bne]; congr 2) rfl hx hy) ?_
  by_cases h : a = b
  · rw [decide_eq_true h]; exact h1 h
  · rw [decide_eq_false h]; exact h2 h
theorem p_not {q : Bool} (hx : val E x = .bool q) (h : k (.bool (!q))) : VPure P E { dst := d, op := .unOp .not t x, type := ty, pos := p, after := af, guard := g } k :=
  pp (fun w => by simp only [execOp, hx]; simp [Op.unary]) h
theorem p_neg (hx : val E x = .int kd a) (hr : kd.wrap (0 - a) = r) (h : k (.int kd r)) : VPure P E { dst := d, op := .unOp .neg t x, type := ty, pos := p, after := af, guard := g } k :=
  pp (fun w => by subst hr; simp only [execOp, hx]; simp [Op.unary, Op.intArith]) h
theorem p_cpl (hx : val E x = .int kd a) (hr : bits .xor kd (if kd.signed then -1 else kd.max) a = r) (h : k (.int kd r)) : VPure P E { dst := d, op := .unOp .xor t x, type := ty, pos := p, after := af, guard := g } k :=
  pp (fun w => by subst hr; simp only [execOp, hx]; simp [Op.unary, Op.intBits, bits]) h

/-- Strings as lists of bytes. -/
def sb (l : List UInt8) : ByteArray := ⟨l.toArray⟩
theorem sb_toList (l : List UInt8) : (sb l).toList = l := by simp [sb, ByteArray.toList_eq]
theorem p_seq {s1 s2 : ByteArray} (hx : val E x = .string s1) (hy : val E y = .string s2) (h1 : s1 = s2 → k (.bool true)) (h2 : ¬ s1 = s2 → k (.bool false)) : VPure P E { dst := d, op := .binOp .eql t x y u, type := ty, pos := p, after := af, guard := g } k := by
  refine pp (v := .bool (decide (s1 = s2))) (fun w => ?_) (split_dec h1 h2)
  simp only [execOp, hx, hy]
  have e : (s1.toList == s2.toList) = decide (s1 = s2) := by
    rw [Bool.eq_iff_iff]; simp [ByteArray.toList_eq]
    constructor
    · intro h; rcases s1 with ⟨⟨l1⟩⟩; rcases s2 with ⟨⟨l2⟩⟩; simpa using h
    · intro h; rw [h]
  simp [eqGuard, binOp, Op.stringOp, e]
theorem p_sne {s1 s2 : ByteArray} (hx : val E x = .string s1) (hy : val E y = .string s2) (h1 : s1 = s2 → k (.bool false)) (h2 : ¬ s1 = s2 → k (.bool true)) : VPure P E { dst := d, op := .binOp .neq t x y u, type := ty, pos := p, after := af, guard := g } k := by
  refine pp (v := .bool (!decide (s1 = s2))) (fun w => ?_) ?_
  · simp only [execOp, hx, hy]
    have e : (s1.toList == s2.toList) = decide (s1 = s2) := by
      rw [Bool.eq_iff_iff]; simp [ByteArray.toList_eq]
      constructor
      · intro h; rcases s1 with ⟨⟨l1⟩⟩; rcases s2 with ⟨⟨l2⟩⟩; simpa using h
      · intro h; rw [h]
    simp [eqGuard, binOp, Op.stringOp, e]
  · by_cases h : s1 = s2
    · rw [decide_eq_true h]; exact h1 h
    · rw [decide_eq_false h]; exact h2 h

/-- What a slice type's element is, and how many cells it has. -/
def slOf (P : Program) (t : TypeId) : Option (TypeId × Nat) :=
  match P.underlying t with
  | some (.slice e) => (P.info? e).map fun i => (e, i.size)
  | _ => none
/-- Is a type one of parts, and how many cells has it? -/
def aggOf (P : Program) (t : TypeId) : Option (Bool × Nat) :=
  match P.underlying t with
  | none => none
  | some d => (P.info? t).map fun i => (match d with | .struct _ => true | .array _ _ => true | _ => false, i.size)
/-- At which cell a field begins (one that has cells). -/
def fieldOff (P : Program) (t : TypeId) (f : Nat) : Option Nat :=
  match P.underlying t with
  | some (.struct fs) => (match fs[f]? with
    | some x => (match (P.info? x.type).map (·.size) with | some (_ + 1) => some x.offset | _ => none)
    | none => none)
  | _ => none
theorem slOf_spec {e : TypeId} {s : Nat} (h : slOf P t = some (e, s)) : P.underlying t = some (.slice e) ∧ ∃ i, P.info? e = some i ∧ i.size = s := by
  unfold slOf at h
  split at h
  · rename_i e' hu
    obtain ⟨i, hi, he⟩ := Option.map_eq_some_iff.1 h
    injection he with he1 he2
    subst he1
    exact ⟨hu, i, hi, he2⟩
  · cases h
theorem aggOf_run {q : Bool} {s : Nat} (h : aggOf P t = some (q, s)) (w : World) : (isAgg t).run P w = .ok q w ∧ (sizeOf t).run P w = .ok s w := by
  unfold aggOf at h
  split at h
  · cases h
  · rename_i dd hu
    obtain ⟨i, hi, he⟩ := Option.map_eq_some_iff.1 h
    injection he with he1 he2
    subst he1 he2
    refine ⟨?_, by simp [sizeOf, typeInfo, hi]⟩
    cases dd <;> simp [isAgg, run_underlying hu]

theorem p_len {A : Option Addr} {n c : Nat} {e : TypeId} {s : Nat} (hT : slOf P t = some (e, s)) (hx : val E x = .slice A n c) (h : k (.int .i64 n)) : VPure P E { dst := d, op := .call { callee := .builtin .len, args := #[x], argTypes := #[t] }, type := ty, pos := p, after := af, guard := g } k :=
  pp (fun w => by
    have hu := (slOf_spec hT).1
    simp [execOp, resolve, invoke, builtin, Builtin.len_, hx, run_underlying hu, goInt]) h
theorem p_lenS {s : ByteArray} (hT : P.underlying t = some .string) (hx : val E x = .string s) (h : k (.int .i64 s.size)) : VPure P E { dst := d, op := .call { callee := .builtin .len, args := #[x], argTypes := #[t] }, type := ty, pos := p, after := af, guard := g } k :=
  pp (fun w => by simp [execOp, resolve, invoke, builtin, Builtin.len_, hx, run_underlying hT, goInt]) h
theorem p_min {t2 : TypeId} (hx : val E x = .int kd a) (hy : val E y = .int kd b) (hr : (if b < a then b else a) = r) (h : k (.int kd r)) : VPure P E { dst := d, op := .call { callee := .builtin .min, args := #[x, y], argTypes := #[t, t2] }, type := ty, pos := p, after := af, guard := g } k :=
  pp (fun w => by subst hr; simp [execOp, resolve, invoke, builtin, Builtin.min_, Builtin.min2, hx, hy]) h
theorem v_cvt {dst : TypeId} {kd' : IntKind} {w : World} (hs : (P.underlying t).isSome = true) (hd : P.underlying dst = some (.int kd')) (hx : val E x = .int kd a) (hr : kd'.wrap a = r) (h : kw (.int kd' r) w) : VVal P E { dst := d, op := .convert t dst x, type := ty, pos := p, after := af, guard := g } w kw :=
  vv (by
    obtain ⟨dd, hd'⟩ := Option.isSome_iff_exists.mp hs
    subst hr; simp [execOp, hx, convert, run_underlying hd', run_underlying hd, Conv.intToInt]) h
theorem t_cvt {dst : TypeId} {kd' : IntKind} (hs : (P.underlying t).isSome = true) (hd : P.underlying dst = some (.int kd')) (hx : val E x = .int kd a) (hr : kd'.wrap a = r) (h : k (.int kd' r)) : VHeld P S E { dst := d, op := .convert t dst x, type := ty, pos := p, after := af, guard := g } k :=
  th (fun w _ => by
    obtain ⟨dd, hd'⟩ := Option.isSome_iff_exists.mp hs
    subst hr; simp [execOp, hx, convert, run_underlying hd', run_underlying hd, Conv.intToInt]) h
/-- A bound of a slicing: given, or what stands there otherwise. -/
def bnd (E : Env) (dflt i : Nat) : Option Operand → Prop
  | none => i = dflt
  | some x => ∃ kd j, val E x = .int kd j ∧ j = (i : Int)
theorem bnd_i {x : Operand} {dflt i : Nat} {kd : IntKind} (h : val E x = .int kd (i : Int)) : bnd E dflt i (some x) := ⟨kd, _, h, rfl⟩
theorem bnd_e {x : Operand} {dflt i : Nat} {kd : IntKind} {j : Int} (h : val E x = .int kd j) (hj : j = (i : Int)) : bnd E dflt i (some x) := ⟨kd, _, h, hj⟩
def slA (A : Option Addr) (m l s : Nat) : Option Addr := if m = l then A else A.map (·.add (l * s))
theorem run_bound {w : World} {y : Nat} {code : BoundsCode} {v : Value} {i : Nat} {kd : IntKind} {j : Int} (hv : v = .int kd j) (hj : j = (i : Int)) (hi : i ≤ y) : (Instr.sliceBound v y code).run P w = .ok i w := by
  subst hv hj
  simp [Instr.sliceBound, asIntOf, hi]
theorem p_slice {A : Option Addr} {n c i j m : Nat} {e : TypeId} {s : Nat} {lo hi mx : Option Operand} (hT : slOf P t = some (e, s)) (hx : val E x = .slice A n c) (hl : bnd E 0 i lo) (hh : bnd E n j hi) (hm : bnd E c m mx) (hmx : (hi.isSome || !mx.isSome) = true) (hij : i ≤ j) (hjm : j ≤ m) (hmc : m ≤ c)
    (h : k (.slice (slA A m i s) (j - i) (m - i))) : VPure P E { dst := d, op := .slice t x lo hi mx, type := ty, pos := p, after := af, guard := g } k := by
  refine pp (fun w => ?_) h
  obtain ⟨hu, info, hi1, hi2⟩ := slOf_spec hT
  have hsz : (sizeOf e).run P w = .ok s w := by simp [sizeOf, typeInfo, hi1, hi2]
  simp only [execOp, hx, Instr.sliceAt, Sem.run_bind, run_underlying hu, Result.andThen_ok, Instr.slice]
  cases mx with
  | none =>
    cases hm
    cases hi with
    | none =>
      cases hh
      cases lo with
      | none =>
        cases hl
        simp [Instr.sliceBounds, hsz, slA]
      | some y =>
        obtain ⟨kd, q, hq, hqe⟩ := hl
        simp [Instr.sliceBounds, hsz, slA, run_bound hq hqe hij]
    | some z =>
      obtain ⟨kd2, q2, hq2, hqe2⟩ := hh
      cases lo with
      | none =>
        cases hl
        simp [Instr.sliceBounds, hsz, slA, run_bound hq2 hqe2 hjm]
      | some y =>
        obtain ⟨kd, q, hq, hqe⟩ := hl
        simp [Instr.sliceBounds, hsz, slA, run_bound hq2 hqe2 hjm, run_bound hq hqe hij]
  | some u =>
    obtain ⟨kd3, q3, hq3, hqe3⟩ := hm
    cases hi with
    | none => cases hmx
    | some z =>
      obtain ⟨kd2, q2, hq2, hqe2⟩ := hh
      cases lo with
      | none =>
        cases hl
        simp [Instr.sliceBounds, hsz, slA, run_bound hq2 hqe2 hjm, run_bound hq3 hqe3 hmc]
      | some y =>
        obtain ⟨kd, q, hq, hqe⟩ := hl
        simp [Instr.sliceBounds, hsz, slA, run_bound hq2 hqe2 hjm, run_bound hq hqe hij, run_bound hq3 hqe3 hmc]
theorem p_subS {s : ByteArray} {i j : Nat} {lo hi : Option Operand} (hT : P.underlying t = some .string) (hx : val E x = .string s) (hl : bnd E 0 i lo) (hh : bnd E s.size j hi) (hij : i ≤ j) (hj : j ≤ s.size)
    (h : k (.string (s.extract i j))) : VPure P E { dst := d, op := .slice t x lo hi none, type := ty, pos := p, after := af, guard := g } k := by
  refine pp (fun w => ?_) h
  simp only [execOp, hx, Instr.sliceAt, Sem.run_bind, run_underlying hT, Result.andThen_ok, Instr.slice]
  cases hi with
  | none =>
    cases hh
    cases lo with
    | none => cases hl; simp [Instr.sliceBounds]
    | some y =>
      obtain ⟨kd, q, hq, hqe⟩ := hl
      simp [Instr.sliceBounds, run_bound hq hqe hij]
  | some z =>
    obtain ⟨kd2, q2, hq2, hqe2⟩ := hh
    cases lo with
    | none => cases hl; simp [Instr.sliceBounds, run_bound hq2 hqe2 hj]
    | some y =>
      obtain ⟨kd, q, hq, hqe⟩ := hl
      simp [Instr.sliceBounds, run_bound hq2 hqe2 hj, run_bound hq hqe hij]
theorem p_at {ad : Addr} {n c i : Nat} {e : TypeId} {s : Nat} {j : Int} (hT : slOf P t = some (e, s)) (hx : val E x = .slice (some ad) n c) (hy : val E y = .int kd j) (hj : j = (i : Int)) (hi : i < n)
    (h : k (.pointer (some (ad.add (i * s))))) : VPure P E { dst := d, op := .indexAddr t x y, type := ty, pos := p, after := af, guard := g } k :=
  pp (fun w => by
    obtain ⟨hu, info, hi1, hi2⟩ := slOf_spec hT
    subst hj
    simp [execOp, hx, hy, Instr.indexAt, run_underlying hu, asIntOf, hi, sizeOf, typeInfo, hi1, hi2]) h
theorem p_atS {s : ByteArray} {i : Nat} {q : UInt8} {j : Int} (hT : P.underlying t = some .string) (hx : val E x = .string s) (hy : val E y = .int kd j) (hj : j = (i : Int)) (hq : s[i]? = some q)
    (h : k (.int .u8 q.toNat)) : VPure P E { dst := d, op := .index t x y, type := ty, pos := p, after := af, guard := g } k :=
  pp (fun w => by
    subst hj
    simp [execOp, hx, hy, Instr.index, run_underlying hT, asIntOf, hq]) h
theorem p_fld {ad : Addr} {f off : Nat} (hT : fieldOff P t f = some off) (hx : val E x = .pointer (some ad)) (h : k (.pointer (some (ad.add off)))) : VPure P E { dst := d, op := .fieldAddr t x f, type := ty, pos := p, after := af, guard := g } k :=
  pp (fun w => by
    unfold fieldOff at hT
    split at hT
    · rename_i fs hu
      split at hT
      · rename_i fl hf
        split at hT
        · rename_i m hm
          injection hT with hT
          subst hT
          obtain ⟨info, hi1, hi2⟩ := Option.map_eq_some_iff.1 hm
          simp [execOp, hx, Instr.fieldAt, run_underlying hu, hf, Instr.sureAddr, fieldPlace, sizeOf, typeInfo, hi1, hi2]
        · cases hT
      · cases hT
    · cases hT) h
theorem p_nil {ad : Addr} (hx : val E x = .pointer (some ad)) (h : k (.pointer (some ad))) : VPure P E { dst := d, op := .nilCheck x, type := ty, pos := p, after := af, guard := g } k :=
  pp (fun w => by simp [execOp, hx]) h
theorem p_fun {fn : Fn} (fs cs : Array Operand) (h : k (.func fn (fs.toList.map (val E)).toArray (cs.toList.map (val E)).toArray)) : VPure P E { dst := d, op := .makeFunc fn fs cs, type := ty, pos := p, after := af, guard := g } k :=
  pp (fun w => by
    have e : ∀ l : Array Operand, l.map (val E) = (l.toList.map (val E)).toArray := fun l => by apply Array.toList_inj.1; simp
    simp [execOp, Instr.makeFunc, e]) h

theorem run_load1 {n : Nat} {ad : Addr} {w : World} (hT : aggOf P t = some (false, n)) (hc : w.cell? ad = some v) : (loadVar t ad).run P w = .ok v w := by
  simp only [loadVar, Sem.run_bind, (aggOf_run hT w).1, Result.andThen_ok]
  simp [hc]
theorem run_loadN {n : Nat} {ad : Addr} {w : World} (hT : aggOf P t = some (true, n)) (vs : List Value) (hn : vs.length = n) (hc : ∀ j v, vs[j]? = some v → w.cell? (ad.add j) = some v) : (loadVar t ad).run P w = .ok (.agg vs.toArray) w := by
  simp only [loadVar, Sem.run_bind, (aggOf_run hT w).1, Result.andThen_ok, if_true, (aggOf_run hT w).2]
  subst hn
  simp [run_loadCells_list (P := P) w ad vs hc]
theorem v_load {n : Nat} {ad : Addr} {w : World} (hT : aggOf P t = some (false, n)) (hx : val E x = .pointer (some ad)) (hc : w.cell? ad = some v) (h : kw v w) : VVal P E { dst := d, op := .load t x, type := ty, pos := p, after := af, guard := g } w kw :=
  vv (by simp only [execOp, hx, Instr.loadAt, Instr.sureAddr, Sem.run_bind, Sem.run_pure, Result.andThen_ok, run_load1 hT hc]) h
theorem t_load {n : Nat} {ad : Addr} (hT : aggOf P t = some (false, n)) (hx : val E x = .pointer (some ad)) (hc : ∀ w, S w → w.cell? ad = some v) (h : k v) : VHeld P S E { dst := d, op := .load t x, type := ty, pos := p, after := af, guard := g } k :=
  th (fun w hw => by simp only [execOp, hx, Instr.loadAt, Instr.sureAddr, Sem.run_bind, Sem.run_pure, Result.andThen_ok, run_load1 hT (hc w hw)]) h
theorem v_loadN {n : Nat} {ad : Addr} {w : World} (vs : List Value) (hT : aggOf P t = some (true, n)) (hx : val E x = .pointer (some ad)) (hn : vs.length = n) (hc : ∀ j v, vs[j]? = some v → w.cell? (ad.add j) = some v) (h : kw (.agg vs.toArray) w) : VVal P E { dst := d, op := .load t x, type := ty, pos := p, after := af, guard := g } w kw :=
  vv (by simp only [execOp, hx, Instr.loadAt, Instr.sureAddr, Sem.run_bind, Sem.run_pure, Result.andThen_ok, run_loadN hT vs hn hc]) h
theorem t_loadN {n : Nat} {ad : Addr} (vs : List Value) (hT : aggOf P t = some (true, n)) (hx : val E x = .pointer (some ad)) (hn : vs.length = n) (hc : ∀ w, S w → ∀ j v, vs[j]? = some v → w.cell? (ad.add j) = some v) (h : k (.agg vs.toArray)) : VHeld P S E { dst := d, op := .load t x, type := ty, pos := p, after := af, guard := g } k :=
  th (fun w hw => by simp only [execOp, hx, Instr.loadAt, Instr.sureAddr, Sem.run_bind, Sem.run_pure, Result.andThen_ok, run_loadN hT vs hn (hc w hw)]) h
theorem v_store {ad : Addr} {w : World} {old : Value} (hT : (P.info? t).map (·.size) = some 1) (hx : val E x = .pointer (some ad)) (hy : val E y = v) (h1 : v.oneCell' = true) (hc : w.cell? ad = some old) (hf : w.frozen? ad = false) (h : kw undef (w.setCell ad v)) : VSkip P E { dst := d, op := .store t x y, type := ty, pos := p, after := af, guard := g } w kw :=
  vs_ (by
    obtain ⟨i, hi1, hi2⟩ := Option.map_eq_some_iff.1 hT
    have e : v.cells = #[v] := by cases v <;> first | rfl | cases h1
    simp only [execOp, hx, hy, Instr.storeAt, Instr.sureAddr, Sem.run_bind, Sem.run_pure, Result.andThen_ok, storeVar, sizeOf, typeInfo, run_program, hi1, hi2, e]
    simp [storeCells, Addr.add, run_store P w ad v _ h1, hc, hf]) h
theorem v_box {w : World} (hx : val E x = v) (h : kw (.pointer (some ⟨w.heap.size, 0, none⟩)) (w.alloc (.cells v.cells t))) : VVal P E { dst := d, op := .box t x, type := ty, pos := p, after := af, guard := g } w kw :=
  vv (by subst hx; simp [execOp, Instr.box, newVar, newRow]) h
theorem v_alloc {w : World} {zz : Value} (hz : (P.info? t).map (·.zero) = some (some zz)) (h : kw (.pointer (some ⟨w.heap.size, 0, none⟩)) (w.alloc (.cells zz.cells t))) : VVal P E { dst := d, op := .alloc t, type := ty, pos := p, after := af, guard := g } w kw :=
  vv (by
    obtain ⟨i, hi1, hi2⟩ := Option.map_eq_some_iff.1 hz
    simp [execOp, Instr.alloc, newVar, newRow, zeroValue, typeInfo, hi1, hi2]) h
end
end Go.Proofs.YtjneoinacobbaaaDoor
