/- A walk that reckons: what a body comes to, as a proposition that is reckoned out of the code, with the frame as a function; it is shown sound. No program in sight. -/
import Derived.WalkKit
import Derived.OrdersHeld
import Derived.Handy
import Derived.Lib.Hide
namespace Go.Proofs.YtejbljopighenaaDoor
open Go.RowKit

abbrev Env := Nat → Value
def upd (E : Env) (d : Option Nat) (v : Value) : Env :=
  match d with
  | none => E
  | some d => fun t => match Nat.beq t d with | true => v | false => E t
def val (E : Env) : Operand → Value
  | .tmp t => E t
  | .const v => v
  | .global g => .pointer (some ⟨g, 0, none⟩)
  | .func f => .func (.func f) #[] #[]
def mv (E : Env) (d : Option Nat) (x : Operand) : Env :=
  match d with
  | none => E
  | some d => fun t => match Nat.beq t d with | true => val E x | false => E t
theorem mv_eq (E : Env) (d : Option Nat) (x : Operand) : mv E d x = upd E d (val E x) := by cases d <;> rfl
def over (B : Env) : List (Nat × Value) → Env
  | [] => B
  | (d, v) :: r => fun t => match Nat.beq t d with | true => v | false => over B r t
def agrees (E : Env) : List (Nat × Value) → Prop
  | [] => True
  | (d, v) :: r => E d = v ∧ agrees E r
theorem over_of_agrees {E : Env} : ∀ {l : List (Nat × Value)}, agrees E l → over E l = E
  | [], _ => rfl
  | (d, v) :: r, h => by
    funext t
    show (match Nat.beq t d with | true => v | false => over E r t) = E t
    cases hb : Nat.beq t d with
    | true => rw [Nat.eq_of_beq_eq_true hb]; exact h.1.symm
    | false => rw [over_of_agrees h.2]
def nth {α : Type} : List α → Nat → Option α
  | [], _ => none
  | a :: _, 0 => some a
  | _ :: r, n + 1 => nth r n
theorem nth_eq {α : Type} : ∀ (l : List α) (n : Nat), nth l n = l[n]?
  | [], n => by simp [nth]
  | a :: r, 0 => by simp [nth]
  | a :: r, n + 1 => by simp [nth, nth_eq r n]

variable {δ : List Deferred}
/-- The frame is this function. -/
def Fits (δ : List Deferred) (n : Nat) (a : Act) (E : Env) : Prop := a.tmps.size = n ∧ a.defers = δ ∧ ∀ t, a.tmps.getD t undef = E t
theorem Fits.eval {n : Nat} {a : Act} {E : Env} (h : Fits δ n a E) : a.eval = val E := by
  funext x
  cases x with
  | tmp t => exact h.2.2 t
  | const v => rfl
  | global g => rfl
  | func f => rfl
def dstIn (n : Nat) : Option Nat → Bool
  | none => true
  | some d => Nat.blt d n
theorem Fits.put {n : Nat} {a : Act} {E : Env} (h : Fits δ n a E) {d : Option Nat} (hd : dstIn n d = true) (v : Value) : Fits δ n (a.put d v) (upd E d v) := by
  cases d with
  | none => exact h
  | some d =>
    have hd : d < n := by simpa [dstIn, Nat.blt_eq] using hd
    refine ⟨by simp [Act.put, h.1], h.2.1, fun t => ?_⟩
    show (a.tmps.setIfInBounds d v).getD t undef = (match Nat.beq t d with | true => v | false => E t)
    cases hb : Nat.beq t d with
    | true =>
      have := Nat.eq_of_beq_eq_true hb
      subst this
      simp [Array.getD, h.1, hd]
    | false =>
      have hne : d ≠ t := fun e => by subst e; simp at hb
      rw [← h.2.2 t]
      simp [Array.getElem?_setIfInBounds_ne hne]

/-- How a piece of code is left. -/
inductive Ex where
  | normal
  | exit (id : Nat)
  | goto (l : Nat)
  | ret
abbrev Kont := Ex → Env → World → Prop
def Holds (δ : List Deferred) (n : Nat) (K : Kont) : Exit → Act → World → Prop
  | .normal, a, w => ∃ E, Fits δ n a E ∧ K .normal E w
  | .exit i, a, w => ∃ E, Fits δ n a E ∧ K (.exit i) E w
  | .goto l, a, w => ∃ E, Fits δ n a E ∧ K (.goto l) E w
  | .ret, a, w => ∃ E, Fits δ n a E ∧ K .ret E w
  | .panic _, _, _ => False
  | .outgrown, _, _ => False

/-- Is an operation wanted? -/
def wantB (ops : List Oper) (E : Env) : Option (Nat × Bool) → Bool
  | none => true
  | some (j, b) => match nth ops j with
    | none => false
    | some o => match o.dst with
      | none => false
      | some d => match E d with
        | .bool c => (match b with | true => c | false => !c)
        | _ => false
theorem wanted_eq {n : Nat} {a : Act} {E : Env} (h : Fits δ n a E) (ops : Array Oper) (hds : ∀ (j : Nat) (o : Oper), ops[j]? = some o → dstIn n o.dst = true) (o : Oper) : Region.wanted o (yielded ops a.tmps) = wantB ops.toList E o.guard := by
  unfold Region.wanted wantB
  cases hg : o.guard with
  | none => rfl
  | some g =>
    obtain ⟨j, b⟩ := g
    simp only [nth_eq, Array.getElem?_toList]
    unfold yielded
    cases ho : ops[j]? with
    | none => simp
    | some oj =>
      have hdn := hds j oj ho
      cases hd : oj.dst with
      | none => simp [hd]
      | some d =>
        rw [hd] at hdn
        have hdn : d < n := by simpa [dstIn, Nat.blt_eq] using hdn
        have hE := h.2.2 d
        have hlt : d < a.tmps.size := by rw [h.1]; exact hdn
        have h4 : a.tmps[d]? = some (E d) := by
          rw [← hE]
          simp [hlt]
        simp only [Option.bind_some, hd, h4]
        cases E d <;> simp
        rename_i c
        cases b <;> cases c <;> rfl

section
variable (P : Program)

/-- An operation that gives a value, and may change the world. -/
structure VVal (E : Env) (o : Oper) (w : World) (k : Value → World → Prop) : Prop where
  go : ∃ v w', (execOp (val E) o).run P w = .ok (.value v) w' ∧ k v w'
/-- An operation that gives none (a store). -/
structure VSkip (E : Env) (o : Oper) (w : World) (k : Value → World → Prop) : Prop where
  go : ∃ w', (execOp (val E) o).run P w = .ok .skip w' ∧ k undef w'
/-- An operation whose value hangs on no world. -/
structure VPure (E : Env) (o : Oper) (k : Value → Prop) : Prop where
  go : ∃ v, (∀ w, (execOp (val E) o).run P w = .ok (.value v) w) ∧ k v
/-- An operation that gives this value in each world of S. -/
structure VHeld (S : World → Prop) (E : Env) (o : Oper) (k : Value → Prop) : Prop where
  go : ∃ v, (∀ w, S w → (execOp (val E) o).run P w = .ok (.value v) w) ∧ k v
def isFn (f : Nat) : Bool :=
  match P.funcs[f]? with
  | some fn => fn.body.isSome && !(fn.name == "runtime.NumGoroutine")
  | none => false
/-- A call of a function. -/
structure VCall (f : Nat) (args : Array Value) (w : World) (k : Value → World → Prop) : Prop where
  fn : isFn P f = true
  go : Calls P f args w fun e w' => ∃ v, e = .returned v ∧ k v w'

def pureB : Builtin → Bool
  | .len | .cap | .min | .max => true
  | _ => false
def evOp (o : Oper) (E : Env) (w : World) (k : Value → World → Prop) : Prop :=
  match o.op with
  | .move x => k (val E x) w
  | .assign x => k (val E x) w
  | .pick c a b => (match val E c with | .bool true => k (val E a) w | .bool false => k (val E b) w | _ => False)
  | .extract t i => (match val E t with | .tuple vs => (match nth vs.toList i with | some v => k v w | none => False) | _ => False)
  | .store .. => VSkip P E o w k
  | .binOp .. => VPure P E o fun v => k v w
  | .unOp .. => VPure P E o fun v => k v w
  | .slice .. => VPure P E o fun v => k v w
  | .fieldAddr .. => VPure P E o fun v => k v w
  | .field .. => VPure P E o fun v => k v w
  | .indexAddr .. => VPure P E o fun v => k v w
  | .index .. => VPure P E o fun v => k v w
  | .build .. => VPure P E o fun v => k v w
  | .makeFunc .. => VPure P E o fun v => k v w
  | .nilCheck .. => VPure P E o fun v => k v w
  | .call c => (match c.callee with
    | .value x => (match x with
      | .func f => VCall P f (c.args.toList.map (val E)).toArray w k
      | x => (match val E x with
        | .func (.func f) first captured => VCall P f (first.toList ++ (c.args.toList.map (val E)) ++ captured.toList).toArray w k
        | _ => False))
    | .builtin b => (match pureB b with
      | true => VPure P E o fun v => k v w
      | false => VVal P E o w k)
    | _ => False)
  | _ => VVal P E o w k

/-- One operation; a copy keeps the frame in one place. -/
def evStep (o : Oper) (E : Env) (w : World) (k : Env → World → Prop) : Prop :=
  match o.op with
  | .move x => k (mv E o.dst x) w
  | .assign x => k (mv E o.dst x) w
  | .pick c a b => (match val E c with | .bool true => k (mv E o.dst a) w | .bool false => k (mv E o.dst b) w | _ => False)
  | _ => evOp P o E w fun v w' => k (upd E o.dst v) w'
theorem evStep_op {o : Oper} {E : Env} {w : World} {k : Env → World → Prop} (h : evStep P o E w k) : evOp P o E w fun v w' => k (upd E o.dst v) w' := by
  unfold evStep at h
  cases hop : o.op
  case move x => rw [hop] at h; simp only [evOp, hop]; rw [← mv_eq]; exact h
  case assign x => rw [hop] at h; simp only [evOp, hop]; rw [← mv_eq]; exact h
  case pick c a b => rw [hop] at h; simp only [evOp, hop]; rw [← mv_eq, ← mv_eq]; exact h
  all_goals (rw [hop] at h; exact h)

def evOps (all : List Oper) : List Oper → Env → World → (Env → World → Prop) → Prop
  | [], E, w, K => K E w
  | o :: r, E, w, K => match wantB all E o.guard with
    | true => evStep P o E w (fun E w' => evOps all r E w' K)
    | false => evOps all r (upd E o.dst undef) w K

variable {P}
theorem run_enter {f : FuncId} {w : World} {args : Array Value} (h : isFn P f = true) : (callFunc f args).run P w = .ok (.enter f args) w := by
  unfold isFn at h
  cases hf : P.funcs[f]? with
  | none => rw [hf] at h; cases h
  | some fn =>
    rw [hf] at h
    simp only [Bool.and_eq_true, Bool.not_eq_true'] at h
    obtain ⟨hb, hn⟩ := h
    have hb2 : ¬ fn.body = none := by intro e; rw [e] at hb; cases hb
    have hn2 : ¬ fn.name = "runtime.NumGoroutine" := by simpa using hn
    simp [callFunc, Sem.run_bind, hf, hb2, hn2]
theorem call_sound {o : Oper} {a : Act} {w : World} {next : Act → World → Prop} {Q : Exit → Act → World → Prop} {f : FuncId} {args : Array Value} {k : Value → World → Prop}
    (hr : (execOp a.eval o).run P w = .ok (.enter f args) w) (h : Calls P f args w fun e w' => ∃ v, e = .returned v ∧ k v w') (hk : ∀ v w', k v w' → next (a.put o.dst v) w') : o.wp P a w next Q := by
  unfold Oper.wp
  rw [hr, Oper.upon_enter]
  refine h.mono fun e w' he => ?_
  obtain ⟨v, rfl, hv⟩ := he
  exact hk _ _ hv
theorem value_sound {o : Oper} {a : Act} {w w' : World} {v : Value} {next : Act → World → Prop} {Q : Exit → Act → World → Prop}
    (hr : (execOp a.eval o).run P w = .ok (.value v) w') (hk : next (a.put o.dst v) w') : o.wp P a w next Q := by
  unfold Oper.wp
  rw [hr, Oper.upon_value]
  exact hk
theorem evOp_sound {o : Oper} {E : Env} {w : World} {k : Value → World → Prop} {n : Nat} {a : Act} {next : Act → World → Prop} {Q : Exit → Act → World → Prop}
    (hf : Fits δ n a E) (h : evOp P o E w k) (hk : ∀ v w', k v w' → next (a.put o.dst v) w') : o.wp P a w next Q := by
  have he := hf.eval
  have vval : VVal P E o w k → o.wp P a w next Q := fun ⟨v, w', hr, hv⟩ => value_sound (by rw [he]; exact hr) (hk _ _ hv)
  have vpure : (VPure P E o fun v => k v w) → o.wp P a w next Q := fun ⟨v, hr, hv⟩ => value_sound (by rw [he]; exact hr w) (hk _ _ hv)
  have vskip : VSkip P E o w k → o.wp P a w next Q := by
    rintro ⟨w', hr, hv⟩
    unfold Oper.wp
    rw [he, hr, Oper.upon_skip]
    exact hk _ _ hv
  obtain ⟨dst, op, type, pos, after, guard⟩ := o
  cases op
  case move x => exact value_sound (by rw [he]; rfl) (hk _ _ h)
  case assign x => exact value_sound (by rw [he]; rfl) (hk _ _ h)
  case pick c x y =>
    simp only [evOp] at h
    split at h
    · rename_i hc; exact value_sound (by rw [he]; simp [execOp, hc, asBool]) (hk _ _ h)
    · rename_i hc; exact value_sound (by rw [he]; simp [execOp, hc, asBool]) (hk _ _ h)
    · exact h.elim
  case extract t i =>
    simp only [evOp] at h
    split at h
    · rename_i vs hc
      split at h
      · rename_i v hv
        rw [nth_eq] at hv
        refine value_sound (by rw [he]; simp only [execOp, hc, Instr.extract]; rw [Array.getElem?_toList] at hv; simp [hv]) (hk _ _ h)
      · exact h.elim
    · exact h.elim
  case store => exact vskip h
  case call c =>
    obtain ⟨callee, args, ts⟩ := c
    cases callee with
    | invoke r m => exact h.elim
    | builtin b =>
      simp only [evOp] at h
      split at h
      · exact vpure h
      · exact vval h
    | value x =>
      have gen : ∀ {f first captured}, val E x = .func (.func f) first captured → VCall P f (first.toList ++ (args.toList.map (val E)) ++ captured.toList).toArray w k → ({ dst, op := .call { callee := .value x, args, argTypes := ts }, type, pos, after, guard } : Oper).wp P a w next Q := by
        intro f first captured hx hc
        refine call_sound ?_ hc.go hk
        have e : (first.toList ++ (args.toList.map (val E)) ++ captured.toList).toArray = first ++ args.map (val E) ++ captured := by
          apply Array.toList_inj.1; simp
        rw [he, e]
        simp only [execOp, resolve, hx, Deferred.ofValue, Sem.run_bind, Sem.run_pure, Result.andThen_ok, invoke]
        exact run_enter hc.fn
      cases x with
      | func f =>
        refine gen (first := #[]) (captured := #[]) rfl ?_
        simpa [evOp] using h
      | tmp t =>
        simp only [evOp] at h
        split at h
        · rename_i hx; exact gen hx h
        · exact h.elim
      | const t =>
        simp only [evOp] at h
        split at h
        · rename_i hx; exact gen hx h
        · exact h.elim
      | global t =>
        simp only [evOp] at h
        split at h
        · rename_i hx; exact gen hx h
        · exact h.elim
  all_goals first | exact vpure h | exact vval h

theorem evOps_sound {n : Nat} {ops : Array Oper} {Q : Exit → Act → World → Prop} {K : Env → World → Prop} (hds : ∀ (j : Nat) (o : Oper), ops[j]? = some o → dstIn n o.dst = true)
    (hK : ∀ a E w, Fits δ n a E → K E w → Q .normal a w) : ∀ (l : List Oper) (E : Env) (w : World) (a : Act), (∀ o ∈ l, dstIn n o.dst = true) → Fits δ n a E → evOps P ops.toList l E w K → wpList P ops Q l a w
  | [], E, w, a, _, hf, h => hK _ _ _ hf h
  | o :: r, E, w, a, hl, hf, h => by
    have hw := wanted_eq hf ops hds o
    unfold evOps at h
    unfold wpList
    rw [hw]
    have ho := hl o (by simp)
    cases hb : wantB ops.toList E o.guard with
    | true =>
      rw [hb] at h
      rw [if_pos rfl]
      exact .inl (evOp_sound hf (evStep_op P h) fun v w' hk => evOps_sound hds hK r _ _ _ (fun o ho => hl o (by simp [ho])) (hf.put ho v) hk)
    | false =>
      rw [hb] at h
      rw [if_neg (by simp)]
      exact evOps_sound hds hK r _ _ _ (fun o ho => hl o (by simp [ho])) (hf.put ho undef) h
end

section
variable (P : Program)
def evTake (S : World → Prop) (o : Oper) (E : Env) (k : Value → Prop) : Prop :=
  match o.op with
  | .move x => k (val E x)
  | .assign x => k (val E x)
  | .pick c a b => (match val E c with | .bool true => k (val E a) | .bool false => k (val E b) | _ => False)
  | .extract t i => (match val E t with | .tuple vs => (match nth vs.toList i with | some v => k v | none => False) | _ => False)
  | .binOp .. => VPure P E o k
  | .unOp .. => VPure P E o k
  | .slice .. => VPure P E o k
  | .fieldAddr .. => VPure P E o k
  | .field .. => VPure P E o k
  | .indexAddr .. => VPure P E o k
  | .index .. => VPure P E o k
  | .build .. => VPure P E o k
  | .makeFunc .. => VPure P E o k
  | .nilCheck .. => VPure P E o k
  | .call c => (match c.callee with
    | .builtin b => (match pureB b with
      | true => VPure P E o k
      | false => VHeld P S E o k)
    | _ => False)
  | _ => VHeld P S E o k

def evTakeE (S : World → Prop) (o : Oper) (E : Env) (k : Env → Prop) : Prop :=
  match o.op with
  | .move x => k (mv E o.dst x)
  | .assign x => k (mv E o.dst x)
  | .pick c a b => (match val E c with | .bool true => k (mv E o.dst a) | .bool false => k (mv E o.dst b) | _ => False)
  | _ => evTake P S o E fun v => k (upd E o.dst v)
theorem evTakeE_op {S : World → Prop} {o : Oper} {E : Env} {k : Env → Prop} (h : evTakeE P S o E k) : evTake P S o E fun v => k (upd E o.dst v) := by
  unfold evTakeE at h
  cases hop : o.op
  case move x => rw [hop] at h; simp only [evTake, hop]; rw [← mv_eq]; exact h
  case assign x => rw [hop] at h; simp only [evTake, hop]; rw [← mv_eq]; exact h
  case pick c a b => rw [hop] at h; simp only [evTake, hop]; rw [← mv_eq, ← mv_eq]; exact h
  all_goals (rw [hop] at h; exact h)
def evD (S : World → Prop) (all : List Oper) : List (Nat × Bool) → Env → World → (Env → World → Prop) → Prop
  | [], E, w, K => K E w
  | (i, take) :: r, E, w, K => match nth all i with
    | none => False
    | some o => match wantB all E o.guard with
      | false => evD S all r (upd E o.dst undef) w K
      | true => match take with
        | true => evTakeE P S o E (fun E => evD S all r E w K)
        | false => evStep P o E w (fun E w' => S w' ∧ evD S all r E w' K)
def schedGo (ops : Array Oper) : List (Nat × Bool) → Array Bool → Bool
  | [], listed => (Region.ready .any ops listed).isEmpty
  | (i, take) :: r, listed => (match take with
    | true => Region.free .any ops listed i && (Region.ready .any ops listed).contains i
    | false => Region.ready .any ops listed == [i]) && schedGo ops r (listed.setIfInBounds i true)
def schedOk (ops : Array Oper) (L : List (Nat × Bool)) : Bool := Region.noSelect ops && (L.length == ops.size && schedGo ops L (Array.replicate ops.size false))
def pureOp : Op → Bool
  | .move _ | .assign _ | .pick .. | .extract .. | .binOp .. | .unOp .. | .slice .. | .fieldAddr .. | .field .. | .indexAddr .. | .index .. | .build .. | .makeFunc .. | .nilCheck .. => true
  | .call c => (match c.callee with | .builtin b => pureB b | _ => false)
  | _ => false
/-- May an operation be taken ahead, if the last one keeps nothing? -/
def takeOk (ops : Array Oper) (z i : Nat) : Bool := match ops[i]?, ops[z]? with
  | some oi, some oz => pureOp oi.op || oz.after.any (fun e => Region.binds .any e && e.on == i)
  | _, _ => false
def schedGoZ (ops : Array Oper) (z : Nat) : List (Nat × Bool) → Array Bool → Bool
  | [], listed => Region.ready .any ops listed == [z] && ((Region.ready .any ops (listed.setIfInBounds z true)).isEmpty && Nat.blt z listed.size)
  | (i, take) :: r, listed => (!(Nat.beq i z) && !(listed.getD z true)) && ((match take with
    | true => takeOk ops z i && (Region.free .any ops listed i && (Region.ready .any ops listed).contains i)
    | false => Region.ready .any ops listed == [i]) && schedGoZ ops z r (listed.setIfInBounds i true))
def schedOkZ (ops : Array Oper) (z : Nat) (L : List (Nat × Bool)) : Bool := Region.noSelect ops && (L.length + 1 == ops.size && schedGoZ ops z L (Array.replicate ops.size false))
/-- The last operation of a region. -/
def lastK (all : List Oper) (z : Nat) (K : Env → World → Prop) : Env → World → Prop := fun E w => match nth all z with
  | none => False
  | some o => match wantB all E o.guard with
    | true => evStep P o E w K
    | false => K (upd E o.dst undef) w
/-- Orders as a tree: one is taken ahead; whichever of those that are ready. -/
inductive Sch where
  | nil
  | take (i : Nat) (r : Sch)
  | one (i : Nat) (r : Sch)
  | two (i : Nat) (r : Sch) (j : Nat) (s : Sch)
  | three (i : Nat) (r : Sch) (j : Nat) (s : Sch) (k : Nat) (t : Sch)
  | four (i : Nat) (r : Sch) (j : Nat) (s : Sch) (k : Nat) (t : Sch) (l : Nat) (u : Sch)
def Sch.graft : Sch → Sch → Sch
  | .nil, x => x
  | .take i r, x => .take i (r.graft x)
  | .one i r, x => .one i (r.graft x)
  | .two i r j s, x => .two i (r.graft x) j (s.graft x)
  | .three i r j s k t, x => .three i (r.graft x) j (s.graft x) k (t.graft x)
  | .four i r j s k t l u, x => .four i (r.graft x) j (s.graft x) k (t.graft x) l (u.graft x)
def evB (S : World → Prop) (all : List Oper) (i : Nat) (E : Env) (w : World) (k : Env → World → Prop) : Prop := match nth all i with
  | none => False
  | some o => match wantB all E o.guard with
    | false => k (upd E o.dst undef) w
    | true => evStep P o E w (fun E w' => S w' ∧ k E w')
def evT (S : World → Prop) (all : List Oper) : Sch → Env → World → (Env → World → Prop) → Prop
  | .nil, E, w, K => K E w
  | .take i r, E, w, K => (match nth all i with
    | none => False
    | some o => match wantB all E o.guard with
      | false => evT S all r (upd E o.dst undef) w K
      | true => evTakeE P S o E (fun E => evT S all r E w K))
  | .one i r, E, w, K => evB P S all i E w (fun E w => evT S all r E w K)
  | .two i r j s, E, w, K => evB P S all i E w (fun E w => evT S all r E w K) ∧ evB P S all j E w (fun E w => evT S all s E w K)
  | .three i r j s k t, E, w, K => evB P S all i E w (fun E w => evT S all r E w K) ∧ (evB P S all j E w (fun E w => evT S all s E w K) ∧ evB P S all k E w (fun E w => evT S all t E w K))
  | .four i r j s k t l u, E, w, K => evB P S all i E w (fun E w => evT S all r E w K) ∧ (evB P S all j E w (fun E w => evT S all s E w K) ∧ (evB P S all k E w (fun E w => evT S all t E w K) ∧ evB P S all l E w (fun E w => evT S all u E w K)))
def schedT (ops : Array Oper) : Sch → Array Bool → Bool
  | .nil, listed => (Region.ready .any ops listed).isEmpty
  | .take i r, listed => (Region.free .any ops listed i && (Region.ready .any ops listed).contains i) && schedT ops r (listed.setIfInBounds i true)
  | .one i r, listed => Region.ready .any ops listed == [i] && schedT ops r (listed.setIfInBounds i true)
  | .two i r j s, listed => Region.ready .any ops listed == [i, j] && (schedT ops r (listed.setIfInBounds i true) && schedT ops s (listed.setIfInBounds j true))
  | .three i r j s k t, listed => Region.ready .any ops listed == [i, j, k] && (schedT ops r (listed.setIfInBounds i true) && (schedT ops s (listed.setIfInBounds j true) && schedT ops t (listed.setIfInBounds k true)))
  | .four i r j s k t l u, listed => Region.ready .any ops listed == [i, j, k, l] && (schedT ops r (listed.setIfInBounds i true) && (schedT ops s (listed.setIfInBounds j true) && (schedT ops t (listed.setIfInBounds k true) && schedT ops u (listed.setIfInBounds l true))))
def Sch.left : Sch → Nat
  | .nil => 0
  | .take _ r => r.left + 1
  | .one _ r => r.left + 1
  | .two _ r _ _ => r.left + 1
  | .three _ r _ _ _ _ => r.left + 1
  | .four _ r _ _ _ _ _ _ => r.left + 1
def Sch.even : Sch → Bool
  | .nil => true
  | .take _ r => r.even
  | .one _ r => r.even
  | .two _ r _ s => Nat.beq r.left s.left && (r.even && s.even)
  | .three _ r _ s _ t => (Nat.beq r.left s.left && Nat.beq r.left t.left) && (r.even && (s.even && t.even))
  | .four _ r _ s _ t _ u => (Nat.beq r.left s.left && (Nat.beq r.left t.left && Nat.beq r.left u.left)) && (r.even && (s.even && (t.even && u.even)))
def schedOkT (ops : Array Oper) (T : Sch) : Bool := Region.noSelect ops && (T.left == ops.size && (T.even && schedT ops T (Array.replicate ops.size false)))
/-- A region that draws its order: one order that stands for all. -/
structure VDraw (ops : Array Oper) (E : Env) (w : World) (K : Env → World → Prop) : Prop where
  go : (∃ (S : World → Prop) (L : List (Nat × Bool)), schedOk ops L = true ∧ S w.drew ∧ evD P S ops.toList L E w.drew K) ∨
    ((∃ (S : World → Prop) (L : List (Nat × Bool)) (z : Nat), schedOkZ ops z L = true ∧ S w.drew ∧ evD P S ops.toList L E w.drew (lastK P ops.toList z K)) ∨
    (∃ (S : World → Prop) (T : Sch), schedOkT ops T = true ∧ S w.drew ∧ evT P S ops.toList T E w.drew K))
/-- A loop: what holds at each round's head. -/
structure VLoop (B : Env → World → Kont → Prop) (E : Env) (w : World) (K : Kont) : Prop where
  go : ∃ (S : Type) (I : S → World → Prop) (L : S → List (Nat × Value)) (μ : S → Nat), (∃ s, I s w ∧ agrees E (L s)) ∧
    ∀ s E w, I s w → B (over E (L s)) w (fun x E' w' => match x with | .normal => ∃ s', I s' w' ∧ agrees E' (L s') ∧ μ s' < μ s | x => K x E' w')

/-- Ways on, each with what follows in one place. -/
def thenK (f : Env → World → Kont → Prop) (K : Kont) : Kont := fun x E w => match x with | .normal => f E w K | x => K x E w
def blockK (id : Nat) (K : Kont) : Kont := fun x E w => match x with | .exit i => (match Nat.beq i id with | true => K .normal E w | false => K (.exit i) E w) | x => K x E w
def scopeK (K : Kont) : Kont := fun x E w => match x with | .goto _ => False | x => K x E w
def normK (K : Kont) : Env → World → Prop := fun E w => K .normal E w
def ev : Code → Env → World → Kont → Prop
  | .skip, E, w, K => K .normal E w
  | .label _, E, w, K => K .normal E w
  | .seq a b, E, w, K => ev a E w (thenK (fun E w K => ev b E w K) K)
  | .cond c t f, E, w, K => (match val E c with | .bool true => ev t E w K | .bool false => ev f E w K | _ => False)
  | .block id body, E, w, K => ev body E w (blockK id K)
  | .loop body, E, w, K => VLoop (fun E w K => ev body E w K) E w K
  | .region _ ops draw, E, w, K => (match draw with
    | false => evOps P ops.toList ops.toList E w (normK K)
    | true => VDraw P ops E w (normK K))
  | .exit id, E, w, K => K (.exit id) E w
  | .goto l, E, w, K => K (.goto l) E w
  | .ret, E, w, K => K .ret E w
  | .scope body, E, w, K => ev body E w (scopeK K)
  | _, _, _, _ => False
def dstOk (n : Nat) : Code → Bool
  | .region _ ops _ => ops.all fun o => dstIn n o.dst
  | .seq a b => dstOk n a && dstOk n b
  | .cond _ a b => dstOk n a && dstOk n b
  | .block _ b => dstOk n b
  | .loop b => dstOk n b
  | .scope b => dstOk n b
  | .rangeFunc .. => false
  | _ => true
variable {P}
theorem evTake_sound {S : World → Prop} {ops : Array Oper} {o : Oper} {E : Env} {k : Value → Prop} {n : Nat} {a : Act}
    (hf : Fits δ n a E) (hw : Region.wanted o (yielded ops a.tmps) = true) (h : evTake P S o E k) : ∃ v, YieldsIf P ops S o v a ∧ k v := by
  have he := hf.eval
  have one : ∀ v, (∀ w, S w → (execOp a.eval o).run P w = .ok (.value v) w) → k v → ∃ v, YieldsIf P ops S o v a ∧ k v := fun v h hk => ⟨v, .inl ⟨hw, h⟩, hk⟩
  have vheld : VHeld P S E o k → ∃ v, YieldsIf P ops S o v a ∧ k v := fun ⟨v, hr, hv⟩ => one v (by rw [he]; exact hr) hv
  have vpure : VPure P E o k → ∃ v, YieldsIf P ops S o v a ∧ k v := fun ⟨v, hr, hv⟩ => one v (by rw [he]; exact fun w _ => hr w) hv
  obtain ⟨dst, op, type, pos, after, guard⟩ := o
  cases op
  case move x => exact one _ (fun w _ => by rw [he]; rfl) h
  case assign x => exact one _ (fun w _ => by rw [he]; rfl) h
  case pick c x y =>
    simp only [evTake] at h
    split at h
    · rename_i hc; exact one _ (fun w _ => by rw [he]; simp [execOp, hc, asBool]) h
    · rename_i hc; exact one _ (fun w _ => by rw [he]; simp [execOp, hc, asBool]) h
    · exact h.elim
  case extract t i =>
    simp only [evTake] at h
    split at h
    · rename_i vs hc
      split at h
      · rename_i v hv
        rw [nth_eq] at hv
        refine one _ (fun w _ => by rw [he]; simp only [execOp, hc, Instr.extract]; rw [Array.getElem?_toList] at hv; simp [hv]) h
      · exact h.elim
    · exact h.elim
  case call c =>
    obtain ⟨callee, args, ts⟩ := c
    cases callee with
    | invoke r m => exact h.elim
    | builtin b =>
      simp only [evTake] at h
      split at h
      · exact vpure h
      · exact vheld h
    | value x => exact h.elim
  all_goals first | exact vpure h | exact vheld h
theorem evD_sound {n : Nat} {S : World → Prop} {ops : Array Oper} {K' : Kont} {K : Env → World → Prop} (hds : ∀ (j : Nat) (o : Oper), ops[j]? = some o → dstIn n o.dst = true) (hns : Region.noSelect ops = true)
    (hK : ∀ E w, K E w → K' .normal E w) : ∀ (L : List (Nat × Bool)) (listed : Array Bool) (E : Env) (w : World) (a : Act), Fits δ n a E → S w → schedGo ops L listed = true → evD P S ops.toList L E w K → wpAnyH P .any ops (Holds δ n K') S L.length listed a w
  | [], listed, E, w, a, hf, _, hs, h => wpAnyH_done (by simpa [schedGo] using hs) ⟨E, hf, hK _ _ h⟩ _
  | (i, take) :: r, listed, E, w, a, hf, hS, hs, h => by
    simp only [schedGo, Bool.and_eq_true] at hs
    obtain ⟨hs1, hs2⟩ := hs
    simp only [evD, nth_eq, Array.getElem?_toList] at h
    cases ho : ops[i]? with
    | none => rw [ho] at h; exact h.elim
    | some o =>
      rw [ho] at h
      have hd := hds i o ho
      have hw := wanted_eq hf ops hds o
      have rest : ∀ v w', S w' → evD P S ops.toList r (upd E o.dst v) w' K → wpAnyH P .any ops (Holds δ n K') S r.length (listed.setIfInBounds i true) (a.put o.dst v) w' := fun v w' hS' h' => evD_sound hds hns hK r _ _ _ _ (hf.put hd v) hS' hs2 h'
      cases take with
      | true =>
        simp only [Bool.and_eq_true] at hs1
        cases hb : wantB ops.toList E o.guard with
        | true =>
          simp only [hb] at h
          obtain ⟨v, hy, hv⟩ := evTake_sound (ops := ops) hf (by rw [hw, hb]) (evTakeE_op P h)
          exact wpAnyH_take ho hns hs1.1 hs1.2 (fun _ _ _ h => h) hy hS (rest v w hS hv)
        | false =>
          simp only [hb] at h
          exact wpAnyH_take ho hns hs1.1 hs1.2 (fun _ _ _ h => h) (.inr ⟨by rw [hw, hb], rfl⟩) hS (rest undef w hS h)
      | false =>
        have hr : Region.ready .any ops listed = [i] := by simpa using hs1
        refine wpAnyH_all hr (by simp) fun j hj => ?_
        simp only [List.mem_singleton] at hj
        subst hj
        unfold wpOp
        simp only [ho]
        rw [hw]
        cases hb : wantB ops.toList E o.guard with
        | true =>
          simp only [hb] at h
          rw [if_pos rfl]
          exact .inl (evOp_sound hf (evStep_op P h) fun v w' hk => ⟨hk.1, rest v w' hk.1 hk.2⟩)
        | false =>
          simp only [hb] at h
          rw [if_neg (by simp)]
          exact ⟨hS, rest undef w hS h⟩

theorem evB_sound {n : Nat} {S : World → Prop} {ops : Array Oper} {Q : Exit → Act → World → Prop} {i : Nat} {E : Env} {w : World} {a : Act} {k : Env → World → Prop} {H : Act → World → Prop} (hds : ∀ (j : Nat) (o : Oper), ops[j]? = some o → dstIn n o.dst = true)
    (hf : Fits δ n a E) (hS : S w) (h : evB P S ops.toList i E w k) (hk : ∀ a E w, Fits δ n a E → S w → k E w → H a w) : wpOp P ops Q i (fun a' w' => S w' ∧ H a' w') a w := by
  simp only [evB, nth_eq, Array.getElem?_toList] at h
  unfold wpOp
  cases ho : ops[i]? with
  | none => rw [ho] at h; exact h.elim
  | some o =>
    rw [ho] at h
    have hd := hds i o ho
    have hw := wanted_eq hf ops hds o
    simp only
    rw [hw]
    cases hb : wantB ops.toList E o.guard with
    | true =>
      simp only [hb] at h
      rw [if_pos rfl]
      exact .inl (evOp_sound hf (evStep_op P h) fun v w' hk' => ⟨hk'.1, hk _ _ _ (hf.put hd v) hk'.1 hk'.2⟩)
    | false =>
      simp only [hb] at h
      rw [if_neg (by simp)]
      exact ⟨hS, hk _ _ _ (hf.put hd undef) hS h⟩
theorem evT_sound {n : Nat} {S : World → Prop} {ops : Array Oper} {K' : Kont} {K : Env → World → Prop} (hds : ∀ (j : Nat) (o : Oper), ops[j]? = some o → dstIn n o.dst = true) (hns : Region.noSelect ops = true)
    (hK : ∀ E w, K E w → K' .normal E w) : ∀ (T : Sch) (listed : Array Bool) (E : Env) (w : World) (a : Act), Fits δ n a E → S w → T.even = true → schedT ops T listed = true → evT P S ops.toList T E w K → wpAnyH P .any ops (Holds δ n K') S T.left listed a w
  | .nil, listed, E, w, a, hf, _, _, hs, h => wpAnyH_done (by simpa [schedT] using hs) ⟨E, hf, hK _ _ h⟩ _
  | .take i r, listed, E, w, a, hf, hS, hev, hs, h => by
    simp only [schedT, Bool.and_eq_true] at hs
    obtain ⟨hs1, hs2⟩ := hs
    simp only [evT, nth_eq, Array.getElem?_toList] at h
    cases ho : ops[i]? with
    | none => rw [ho] at h; exact h.elim
    | some o =>
      rw [ho] at h
      have hd := hds i o ho
      have hw := wanted_eq hf ops hds o
      have rest : ∀ v w', S w' → evT P S ops.toList r (upd E o.dst v) w' K → wpAnyH P .any ops (Holds δ n K') S r.left (listed.setIfInBounds i true) (a.put o.dst v) w' := fun v w' hS' h' => evT_sound hds hns hK r _ _ _ _ (hf.put hd v) hS' hev hs2 h'
      cases hb : wantB ops.toList E o.guard with
      | true =>
        simp only [hb] at h
        obtain ⟨v, hy, hv⟩ := evTake_sound (ops := ops) hf (by rw [hw, hb]) (evTakeE_op P h)
        exact wpAnyH_take ho hns hs1.1 hs1.2 (fun _ _ _ h => h) hy hS (rest v w hS hv)
      | false =>
        simp only [hb] at h
        exact wpAnyH_take ho hns hs1.1 hs1.2 (fun _ _ _ h => h) (.inr ⟨by rw [hw, hb], rfl⟩) hS (rest undef w hS h)
  | .one i r, listed, E, w, a, hf, hS, hev, hs, h => by
    simp only [schedT, Bool.and_eq_true] at hs
    have hr : Region.ready .any ops listed = [i] := by simpa using hs.1
    refine wpAnyH_all hr (by simp) fun j hj => ?_
    simp only [List.mem_singleton] at hj
    subst hj
    exact evB_sound hds hf hS h fun a E w hf hS hk => evT_sound hds hns hK r _ _ _ _ hf hS hev hs.2 hk
  | .two i r j s, listed, E, w, a, hf, hS, hev, hs, h => by
    simp only [schedT, Bool.and_eq_true] at hs
    obtain ⟨hs1, hs2, hs3⟩ := hs
    have hr : Region.ready .any ops listed = [i, j] := by simpa using hs1
    simp only [Sch.even, Bool.and_eq_true] at hev
    obtain ⟨he1, he2, he3⟩ := hev
    have hl := Nat.eq_of_beq_eq_true he1
    refine wpAnyH_all hr (by simp) fun k hk => ?_
    simp only [List.mem_cons, List.not_mem_nil, or_false] at hk
    rcases hk with rfl | rfl
    · exact evB_sound hds hf hS h.1 fun a E w hf hS hk => evT_sound hds hns hK r _ _ _ _ hf hS he2 hs2 hk
    · refine evB_sound hds hf hS h.2 fun a E w hf hS hk => ?_
      rw [hl]
      exact evT_sound hds hns hK s _ _ _ _ hf hS he3 hs3 hk
  | .three i r j s k t, listed, E, w, a, hf, hS, hev, hs, h => by
    simp only [schedT, Bool.and_eq_true] at hs
    obtain ⟨hs1, hs2, hs3, hs4⟩ := hs
    have hr : Region.ready .any ops listed = [i, j, k] := by simpa using hs1
    simp only [Sch.even, Bool.and_eq_true] at hev
    obtain ⟨⟨he1, he1'⟩, he2, he3, he4⟩ := hev
    have hl := Nat.eq_of_beq_eq_true he1
    have hl' := Nat.eq_of_beq_eq_true he1'
    refine wpAnyH_all hr (by simp) fun q hq => ?_
    simp only [List.mem_cons, List.not_mem_nil, or_false] at hq
    rcases hq with rfl | rfl | rfl
    · exact evB_sound hds hf hS h.1 fun a E w hf hS hk => evT_sound hds hns hK r _ _ _ _ hf hS he2 hs2 hk
    · refine evB_sound hds hf hS h.2.1 fun a E w hf hS hk => ?_
      rw [hl]
      exact evT_sound hds hns hK s _ _ _ _ hf hS he3 hs3 hk
    · refine evB_sound hds hf hS h.2.2 fun a E w hf hS hk => ?_
      rw [hl']
      exact evT_sound hds hns hK t _ _ _ _ hf hS he4 hs4 hk
  | .four i r j s k t l u, listed, E, w, a, hf, hS, hev, hs, h => by
    simp only [schedT, Bool.and_eq_true] at hs
    obtain ⟨hs1, hs2, hs3, hs4, hs5⟩ := hs
    have hr : Region.ready .any ops listed = [i, j, k, l] := by simpa using hs1
    simp only [Sch.even, Bool.and_eq_true] at hev
    obtain ⟨⟨he1, he1', he1''⟩, he2, he3, he4, he5⟩ := hev
    have hl := Nat.eq_of_beq_eq_true he1
    have hl' := Nat.eq_of_beq_eq_true he1'
    have hl'' := Nat.eq_of_beq_eq_true he1''
    refine wpAnyH_all hr (by simp) fun q hq => ?_
    simp only [List.mem_cons, List.not_mem_nil, or_false] at hq
    rcases hq with rfl | rfl | rfl | rfl
    · exact evB_sound hds hf hS h.1 fun a E w hf hS hk => evT_sound hds hns hK r _ _ _ _ hf hS he2 hs2 hk
    · refine evB_sound hds hf hS h.2.1 fun a E w hf hS hk => ?_
      rw [hl]
      exact evT_sound hds hns hK s _ _ _ _ hf hS he3 hs3 hk
    · refine evB_sound hds hf hS h.2.2.1 fun a E w hf hS hk => ?_
      rw [hl']
      exact evT_sound hds hns hK t _ _ _ _ hf hS he4 hs4 hk
    · refine evB_sound hds hf hS h.2.2.2 fun a E w hf hS hk => ?_
      rw [hl'']
      exact evT_sound hds hns hK u _ _ _ _ hf hS he5 hs5 hk

/-- Orders in which nothing is asked of the world behind the last operation. -/
def wpZ (P : Program) (ops : Array Oper) (Q : Exit → Act → World → Prop) (S : World → Prop) (z : Nat) : Nat → Array Bool → Act → World → Prop
  | 0, listed, a, w => Region.ready .any ops listed = [] ∧ Q .normal a w
  | n + 1, listed, a, w => (Region.ready .any ops listed = [] → Q .normal a w) ∧
    ∀ j ∈ Region.ready .any ops listed, wpOp P ops Q j (fun a' w' => ((listed.setIfInBounds j true).getD z true = false → S w') ∧ wpZ P ops Q S z n (listed.setIfInBounds j true) a' w') a w
theorem wpAny_of_wpZ {ops : Array Oper} {Q : Exit → Act → World → Prop} {S : World → Prop} {z : Nat} : ∀ (n : Nat) (listed : Array Bool) (a : Act) (w : World), wpZ P ops Q S z n listed a w → wpAny P .any ops Q n listed a w
  | 0, _, _, _, h => h
  | n + 1, _, _, _, h => ⟨h.1, fun j hj => wpOp_mono (fun a' w' k => wpAny_of_wpZ n _ a' w' k.2) (h.2 j hj)⟩
theorem wpZ_first {ops : Array Oper} {Q : Exit → Act → World → Prop} {S T : World → Prop} {z i : Nat} {oi : Oper} {v : Value} (hi : ops[i]? = some oi) (hsel : ∀ (j : Nat) (o : Oper) cs b, ops[j]? = some o → o.op ≠ .select cs b)
    (hQ : ∀ c a w, Q (.panic c) (a.put oi.dst v) w → Q (.panic c) a w) (hiz : i ≠ z) (hT : (∀ w, T w) ∨ ((∀ w, S w → T w) ∧ ∃ oz, ops[z]? = some oz ∧ ∃ e ∈ oz.after, Region.binds .any e = true ∧ e.on = i)) :
    ∀ (n : Nat) (listed : Array Bool) (a : Act) (w : World),
      (∀ j oj, ops[j]? = some oj → j ≠ i → listed.getD j true = false → (∀ e ∈ oj.after, Region.binds .any e = true → e.on ≠ i) → oi.apart ops oj = true) →
      i ∈ Region.ready .any ops listed → YieldsIf P ops T oi v a → (listed.getD z true = false → S w) → ((∀ w, T w) ∨ listed.getD z true = false) →
      wpZ P ops Q S z n (listed.setIfInBounds i true) (a.put oi.dst v) w → wpZ P ops Q S z (n + 1) listed a w := by
  intro n
  induction n with
  | zero =>
    intro listed a w _ hr hy hS hz H
    refine ⟨fun h0 => (by rw [h0] at hr; cases hr), fun j hj => ?_⟩
    by_cases hji : j = i
    · subst hji
      have hTw : T w := by
        rcases hT with hT | ⟨hT, _⟩
        · exact hT w
        · rcases hz with hz | hz
          · exact hz w
          · exact hT w (hS hz)
      exact hy.wpOp hi hTw ⟨fun h0 => hS (by rw [getD_set_ne true hiz] at h0; exact h0), H⟩
    · have := ready_mono hj hji
      rw [H.1] at this; cases this
  | succ n ih =>
    intro listed a w hfree hr hy hS hz H
    refine ⟨fun h0 => (by rw [h0] at hr; cases hr), fun j hj => ?_⟩
    by_cases hji : j = i
    · subst hji
      have hTw : T w := by
        rcases hT with hT | ⟨hT, _⟩
        · exact hT w
        · rcases hz with hz | hz
          · exact hz w
          · exact hT w (hS hz)
      exact hy.wpOp hi hTw ⟨fun h0 => hS (by rw [getD_set_ne true hiz] at h0; exact h0), H⟩
    · have h1 := H.2 j (ready_mono hj hji)
      obtain ⟨hjun, oj, hoj, hall⟩ := mem_ready.1 hj
      have waits : ∀ e ∈ oj.after, Region.binds .any e = true → e.on ≠ i := fun e he hb heq => by
        have g1 := hall e he hb
        have g0 := (mem_ready.1 hr).1
        rw [heq] at g1
        rcases Nat.lt_or_ge i listed.size with hlt | hge
        · simp [hlt] at g0 g1
          rw [g0] at g1; cases g1
        · simp [Array.getElem?_eq_none hge] at g1
      have hz' : (∀ w, T w) ∨ (listed.setIfInBounds j true).getD z true = false := by
        rcases hT with hT | ⟨_, oz, hoz, e, he, hb, hon⟩
        · exact .inl hT
        · rcases hz with hz | hz
          · exact .inl hz
          · right
            have hjz : j ≠ z := by
              intro e'; subst e'
              rw [hoj] at hoz; injection hoz with hoz; subst hoz
              exact waits e he hb hon
            rw [getD_set_ne true hjz]; exact hz
      have h2 := wpOp_putIf hoj (hfree j oj hoj hji hjun waits) (fun cs b => hsel i oi cs b hi) (fun cs b => hsel j oj cs b hoj) hQ hy h1
      have hfree' : ∀ k ok, ops[k]? = some ok → k ≠ i → (listed.setIfInBounds j true).getD k true = false → (∀ e ∈ ok.after, Region.binds .any e = true → e.on ≠ i) → oi.apart ops ok = true := fun k ok hk hki hun hno => by
        refine hfree k ok hk hki ?_ hno
        by_cases hjk : j = k
        · subst hjk; exact hjun
        · rw [getD_set_ne true hjk] at hun; exact hun
      refine wpOp_mono (fun a' w' k => ?_) h2
      have k1 : (listed.setIfInBounds j true).getD z true = false → S w' := fun h0 => k.2.1 (by rw [Array.setIfInBounds_comm _ _ (Ne.symm hji), getD_set_ne true hiz]; exact h0)
      refine ⟨k1, ih (listed.setIfInBounds j true) a' w' hfree' (ready_mono hr (Ne.symm hji)) k.1 k1 hz' ?_⟩
      rw [Array.setIfInBounds_comm _ _ hji]
      exact k.2.2
theorem evTake_pure {S : World → Prop} {o : Oper} {E : Env} {k : Value → Prop} (hp : pureOp o.op = true) (h : evTake P S o E k) : evTake P (fun _ => True) o E k := by
  unfold evTake at h ⊢
  cases hop : o.op <;> rw [hop] at hp h <;> first | exact h | (cases hp; done) | skip
  rename_i c
  obtain ⟨callee, args, ts⟩ := c
  cases callee with
  | builtin b =>
    have hb : pureB b = true := hp
    simp only [hb] at h ⊢
    exact h
  | _ => cases hp
theorem evZ_sound {n : Nat} {S : World → Prop} {ops : Array Oper} {K' : Kont} {K : Env → World → Prop} {z : Nat} (hds : ∀ (j : Nat) (o : Oper), ops[j]? = some o → dstIn n o.dst = true) (hns : Region.noSelect ops = true)
    (hK : ∀ E w, K E w → K' .normal E w) : ∀ (L : List (Nat × Bool)) (listed : Array Bool) (E : Env) (w : World) (a : Act), Fits δ n a E → S w → schedGoZ ops z L listed = true → evD P S ops.toList L E w (lastK P ops.toList z K) → wpZ P ops (Holds δ n K') S z (L.length + 1) listed a w
  | [], listed, E, w, a, hf, hS, hs, h => by
    simp only [schedGoZ, Bool.and_eq_true] at hs
    obtain ⟨h1, h2, h3⟩ := hs
    have hr : Region.ready .any ops listed = [z] := by simpa using h1
    have hr2 : Region.ready .any ops (listed.setIfInBounds z true) = [] := by simpa using h2
    have hzl : z < listed.size := by simpa [Nat.blt_eq] using h3
    refine ⟨fun h0 => (by rw [hr] at h0; cases h0), fun j hj => ?_⟩
    rw [hr, List.mem_singleton] at hj
    subst hj
    simp only [evD, lastK, nth_eq, Array.getElem?_toList] at h
    unfold wpOp
    cases ho : ops[j]? with
    | none => rw [ho] at h; exact h.elim
    | some o =>
      rw [ho] at h
      have hd := hds j o ho
      have hw := wanted_eq hf ops hds o
      have vac : ∀ w', (listed.setIfInBounds j true).getD j true = false → S w' := fun w' h0 => by
        rw [Array.getD_eq_getD_getElem?, Array.getElem?_setIfInBounds_self_of_lt hzl] at h0; cases h0
      simp only
      rw [hw]
      cases hb : wantB ops.toList E o.guard with
      | true =>
        simp only [hb] at h
        rw [if_pos rfl]
        exact .inl (evOp_sound hf (evStep_op P h) fun v w' hk => ⟨vac w', hr2, ⟨_, hf.put hd v, hK _ _ hk⟩⟩)
      | false =>
        simp only [hb] at h
        rw [if_neg (by simp)]
        exact ⟨vac w, hr2, ⟨_, hf.put hd undef, hK _ _ h⟩⟩
  | (i, take) :: r, listed, E, w, a, hf, hS, hs, h => by
    simp only [schedGoZ, Bool.and_eq_true] at hs
    obtain ⟨⟨hz1, hz2⟩, hs1, hs2⟩ := hs
    have hiz : i ≠ z := by intro e; subst e; simp at hz1
    have hlz : listed.getD z true = false := by simpa using hz2
    simp only [evD, nth_eq, Array.getElem?_toList] at h
    cases ho : ops[i]? with
    | none => rw [ho] at h; exact h.elim
    | some o =>
      rw [ho] at h
      have hd := hds i o ho
      have hw := wanted_eq hf ops hds o
      have rest : ∀ v w', S w' → evD P S ops.toList r (upd E o.dst v) w' (lastK P ops.toList z K) → wpZ P ops (Holds δ n K') S z (r.length + 1) (listed.setIfInBounds i true) (a.put o.dst v) w' := fun v w' hS' h' => evZ_sound hds hns hK r _ _ _ _ (hf.put hd v) hS' hs2 h'
      cases take with
      | true =>
        simp only [Bool.and_eq_true] at hs1
        obtain ⟨ht, hfr, hrd⟩ := hs1
        unfold takeOk at ht
        rw [ho] at ht
        cases hoz : ops[z]? with
        | none => rw [hoz] at ht; cases ht
        | some oz =>
          rw [hoz] at ht
          simp only [Bool.or_eq_true] at ht
          cases hb : wantB ops.toList E o.guard with
          | true =>
            simp only [hb] at h
            rcases ht with ht | ht
            · obtain ⟨v, hy, hv⟩ := evTake_sound (ops := ops) hf (by rw [hw, hb]) (evTake_pure ht (evTakeE_op P h))
              exact wpZ_first (T := fun _ => True) ho (Region.noSelect_spec hns) (fun _ _ _ h => h) hiz (.inl fun _ => trivial) _ _ _ _ (Region.free_spec ho hfr) (by simpa using hrd) hy (fun _ => hS) (.inr hlz) (rest v w hS hv)
            · obtain ⟨v, hy, hv⟩ := evTake_sound (ops := ops) hf (by rw [hw, hb]) (evTakeE_op P h)
              rw [Array.any_eq_true] at ht
              obtain ⟨q, hq, he⟩ := ht
              simp only [Bool.and_eq_true, beq_iff_eq] at he
              exact wpZ_first (T := S) ho (Region.noSelect_spec hns) (fun _ _ _ h => h) hiz (.inr ⟨fun _ h => h, oz, hoz, _, Array.getElem_mem hq, he.1, he.2⟩) _ _ _ _ (Region.free_spec ho hfr) (by simpa using hrd) hy (fun _ => hS) (.inr hlz) (rest v w hS hv)
          | false =>
            simp only [hb] at h
            exact wpZ_first (T := fun _ => True) ho (Region.noSelect_spec hns) (fun _ _ _ h => h) hiz (.inl fun _ => trivial) _ _ _ _ (Region.free_spec ho hfr) (by simpa using hrd) (.inr ⟨by rw [hw, hb], rfl⟩) (fun _ => hS) (.inr hlz) (rest undef w hS h)
      | false =>
        have hr : Region.ready .any ops listed = [i] := by simpa using hs1
        refine ⟨fun h0 => (by rw [hr] at h0; cases h0), fun j hj => ?_⟩
        rw [hr, List.mem_singleton] at hj
        subst hj
        unfold wpOp
        simp only [ho]
        rw [hw]
        cases hb : wantB ops.toList E o.guard with
        | true =>
          simp only [hb] at h
          rw [if_pos rfl]
          exact .inl (evOp_sound hf (evStep_op P h) fun v w' hk => ⟨fun _ => hk.1, rest v w' hk.1 hk.2⟩)
        | false =>
          simp only [hb] at h
          rw [if_neg (by simp)]
          exact ⟨fun _ => hS, rest undef w hS h⟩

theorem Holds.then_ {n : Nat} {K1 K2 : Kont} {next : Act → World → Prop} (h1 : ∀ a E w, Fits δ n a E → K1 .normal E w → next a w) (h2 : ∀ x E w, x ≠ Ex.normal → K1 x E w → K2 x E w) : ∀ (x : Exit) (a : Act) (w : World), Holds δ n K1 x a w → Exit.then next (Holds δ n K2) x a w := by
  intro x a w h
  cases x with
  | normal => obtain ⟨E, hf, hk⟩ := h; exact h1 _ _ _ hf hk
  | exit i => obtain ⟨E, hf, hk⟩ := h; exact ⟨E, hf, h2 _ _ _ (by simp) hk⟩
  | goto l => obtain ⟨E, hf, hk⟩ := h; exact ⟨E, hf, h2 _ _ _ (by simp) hk⟩
  | ret => obtain ⟨E, hf, hk⟩ := h; exact ⟨E, hf, h2 _ _ _ (by simp) hk⟩
  | panic c => exact h
  | outgrown => exact h

theorem ev_sound {n : Nat} (hm : P.follows .mixedOrders = true) : ∀ (c : Code) (E : Env) (w : World) (K : Kont) (a : Act), dstOk n c = true → Fits δ n a E → ev P c E w K → c.wp P (Holds δ n K) a w := by
  intro c
  induction c with
  | skip => intro E w K a _ hf h; exact wp_skip ⟨E, hf, h⟩
  | label l => intro E w K a _ hf h; exact wp_label ⟨E, hf, h⟩
  | exit i => intro E w K a _ hf h; exact wp_exit ⟨E, hf, h⟩
  | goto l => intro E w K a _ hf h; exact wp_goto ⟨E, hf, h⟩
  | ret => intro E w K a _ hf h; exact wp_ret ⟨E, hf, h⟩
  | seq x y ihx ihy =>
    intro E w K a hd hf h
    simp only [dstOk, Bool.and_eq_true] at hd
    refine wp_seq (wp_mono (ihx _ _ _ _ hd.1 hf h) (Holds.then_ (fun a E w hf h => ihy _ _ _ _ hd.2 hf h) ?_))
    intro x E w hx h
    cases x <;> first | exact absurd rfl hx | exact h
  | cond c t f iht ihf =>
    intro E w K a hd hf h
    simp only [dstOk, Bool.and_eq_true] at hd
    have hc : a.eval c = val E c := by rw [hf.eval]
    simp only [ev] at h
    split at h
    · rename_i hb; exact wp_cond (t := true) (by rw [hc, hb]) (iht _ _ _ _ hd.1 hf h)
    · rename_i hb; exact wp_cond (t := false) (by rw [hc, hb]) (ihf _ _ _ _ hd.2 hf h)
    · exact h.elim
  | block id b ih =>
    intro E w K a hd hf h
    refine wp_block (wp_mono (ih _ _ _ _ hd hf h) ?_)
    intro x a w h
    cases x with
    | exit i =>
      obtain ⟨E, hf, hk⟩ := h
      unfold blockK at hk
      dsimp only at hk
      show (if i = id then _ else _)
      cases hb : Nat.beq i id with
      | true => rw [hb] at hk; rw [if_pos (Nat.eq_of_beq_eq_true hb)]; exact ⟨E, hf, hk⟩
      | false => rw [hb] at hk; rw [if_neg (fun e => by subst e; simp at hb)]; exact ⟨E, hf, hk⟩
    | normal => exact h
    | goto l => exact h
    | ret => exact h
    | panic c => exact h
    | outgrown => exact h
  | loop b ih =>
    intro E w K a hd hf h
    obtain ⟨S, I, L, μ, ⟨s0, hi0, ha0⟩, round⟩ := h.go
    have key : ∀ m s a E w, μ s = m → I s w → agrees E (L s) → Fits δ n a E → ∀ (bf : Frame) (k : List Item) (cs : List Frame), ∃ e a' w', Holds δ n K e a' w' ∧ Arrives P (lone (bf.at a (.code b :: .inLoop b :: k)) cs w) bf k cs e a' w' := by
      intro m
      induction m using Nat.strongRecOn with
      | _ m ihm =>
        intro s a E w hm' hi ha hf bf k cs
        have hr := round s E w hi
        rw [over_of_agrees ha] at hr
        obtain ⟨e, a1, w1, hq, harr⟩ := ih _ _ _ _ hd hf hr bf (.inLoop b :: k) cs
        cases e with
        | normal =>
          obtain ⟨E1, hf1, s1, hi1, ha1, hlt⟩ := hq
          obtain ⟨e2, a2, w2, hq2, harr2⟩ := ihm (μ s1) (hm' ▸ hlt) s1 a1 E1 w1 rfl hi1 ha1 hf1 bf k cs
          exact ⟨e2, a2, w2, hq2, .of_steps (Steps.trans harr (.one step_inLoop)) harr2⟩
        | exit id => obtain ⟨E1, hf1, h1⟩ := hq; exact ⟨.exit id, a1, w1, ⟨E1, hf1, h1⟩, .pass (x := .inLoop b) rfl (fun _ _ => .inl (by simp)) harr⟩
        | goto l => obtain ⟨E1, hf1, h1⟩ := hq; exact ⟨.goto l, a1, w1, ⟨E1, hf1, h1⟩, .pass (x := .inLoop b) rfl (fun _ _ => .inl (by simp)) harr⟩
        | ret => obtain ⟨E1, hf1, h1⟩ := hq; exact ⟨.ret, a1, w1, ⟨E1, hf1, h1⟩, .pass (x := .inLoop b) rfl (fun _ _ => .inl (by simp)) harr⟩
        | panic ch => exact hq.elim
        | outgrown => exact hq.elim
    intro bf k cs
    obtain ⟨e, a', w', hq, harr⟩ := key _ s0 a E w rfl hi0 ha0 hf bf k cs
    exact ⟨e, a', w', hq, .of_steps (.one step_loop) harr⟩
  | region id ops draw =>
    intro E w K a hd hf h
    have hd' : ∀ o ∈ ops, dstIn n o.dst = true := fun o ho => Array.all_eq_true_iff_forall_mem.1 hd o ho
    have hds : ∀ (j : Nat) (o : Oper), ops[j]? = some o → dstIn n o.dst = true := fun j o ho => hd' o (Array.mem_of_getElem? ho)
    cases draw with
    | false => exact wp_region_list (evOps_sound hds (fun a E w hf hk => ⟨E, hf, hk⟩) ops.toList E w a (fun o ho => hd' o (by simpa using ho)) hf h)
    | true =>
      rcases h.go with ⟨S, L, hs, hS, hD⟩ | ⟨S, L, z, hs, hS, hD⟩ | ⟨S, T, hs, hS, hD⟩
      · unfold schedOk at hs
        simp only [Bool.and_eq_true, beq_iff_eq] at hs
        obtain ⟨hns, hlen, hgo⟩ := hs
        refine wp_region_held (S := S) hm ?_
        rw [← hlen] at hgo ⊢
        exact evD_sound hds hns (fun E w h => h) L _ E w.drew a hf hS hgo hD
      · unfold schedOkZ at hs
        simp only [Bool.and_eq_true, beq_iff_eq] at hs
        obtain ⟨hns, hlen, hgo⟩ := hs
        refine wp_region_any hm (wpAny_of_wpZ (S := S) (z := z) _ _ _ _ ?_)
        rw [← hlen] at hgo ⊢
        exact evZ_sound hds hns (fun E w h => h) L _ E w.drew a hf hS hgo hD
      · unfold schedOkT at hs
        simp only [Bool.and_eq_true, beq_iff_eq] at hs
        obtain ⟨hns, hlen, hev, hgo⟩ := hs
        refine wp_region_held (S := S) hm ?_
        rw [← hlen] at hgo ⊢
        exact evT_sound hds hns (fun E w h => h) T _ E w.drew a hf hS hev hgo hD
  | scope b ih =>
    intro E w K a hd hf h
    refine wp_scope_straight (wp_mono (ih _ _ _ _ hd hf h) ?_)
    intro x a w h
    cases x with
    | normal => exact h
    | exit i => exact h
    | goto l => obtain ⟨E, hf, hk⟩ := h; exact hk.elim
    | ret => exact h
    | panic c => exact h
    | outgrown => exact h
  | rangeFunc f ps x b iha ihb => intro E w K a _ hf h; exact h.elim
  | refuse why => intro E w K a _ hf h; exact h.elim
end

section
variable (P : Program)
structure VCell (E : Env) (a : Nat) (t : TypeId) (w : World) (k : Value → Prop) : Prop where
  go : ∃ ad v, E a = .pointer (some ad) ∧ (loadVar t ad).run P w = .ok v w ∧ k v
def resIs (E : Env) (w : World) : List ResultVar → (List Value → Prop) → Prop
  | [], k => k []
  | .tmp t :: r, k => resIs E w r fun vs => k (E t :: vs)
  | .cell a t :: r, k => VCell P E a t w fun v => resIs E w r fun vs => k (v :: vs)
def tupleOf : List Value → Value
  | [v] => v
  | vs => .tuple vs.toArray
def retK (fn : Func) (R : Ending → World → Prop) : Kont := fun x E w => match x with
  | .normal => resIs P E w fn.results.toList fun vs => R (.returned (tupleOf vs)) w
  | .ret => resIs P E w fn.results.toList fun vs => R (.returned (tupleOf vs)) w
  | _ => False
def start (args : List Value) : Env := fun t => match nth args t with | some v => v | none => undef
variable {P}
def readR (a : Act) : ResultVar → Sem Value
  | .tmp t => pure (a.tmps.getD t undef)
  | .cell ad t => do loadVar t (← asAddr (a.tmps.getD ad undef))
theorem resIs_run {n : Nat} {a : Act} {E : Env} {w : World} (hf : Fits δ n a E) : ∀ (l : List ResultVar) (k : List Value → Prop), resIs P E w l k →
    ∃ vs, (l.mapM (readR a)).run P w = .ok vs w ∧ k vs
  | [], k, h => ⟨[], rfl, h⟩
  | .tmp t :: r, k, h => by
    obtain ⟨vs, hr, hk⟩ := resIs_run hf r _ h
    refine ⟨E t :: vs, ?_, hk⟩
    simp only [List.mapM_cons, readR, Sem.run_bind, Sem.run_pure, Result.andThen_ok, hf.2.2 t]
    simp only [hr, Result.andThen_ok]
  | .cell ad t :: r, k, h => by
    obtain ⟨p, v, hp, hl, h⟩ := h.go
    obtain ⟨vs, hr, hk⟩ := resIs_run hf r _ h
    refine ⟨v :: vs, ?_, hk⟩
    have hA : asAddr (a.tmps.getD ad undef) = pure p := by rw [hf.2.2 ad, hp]; rfl
    simp only [List.mapM_cons, readR, Sem.run_bind, Sem.run_pure, Result.andThen_ok, hA, hl]
    simp only [hr, Result.andThen_ok]
theorem res_run {fn : Func} {n : Nat} {a : Act} {E : Env} {w : World} (hf : Fits δ n a E) {k : List Value → Prop} (h : resIs P E w fn.results.toList k) : ∃ vs, (results fn a.tmps).run P w = .ok (tupleOf vs) w ∧ k vs := by
  obtain ⟨vs, hr, hk⟩ := resIs_run hf _ _ h
  refine ⟨vs, ?_, hk⟩
  unfold results
  rw [Array.mapM_eq_mapM_toList]
  have e : ∀ g : ResultVar → Sem Value, (∀ x, g x = readR a x) → (List.mapM g fn.results.toList).run P w = .ok vs w := fun g hg => by rw [funext hg]; exact hr
  simp only [map_eq_pure_bind, Sem.run_bind]
  rw [e _ (fun x => by cases x <;> rfl)]
  simp only [Result.andThen_ok, Sem.run_pure]
  match vs with
  | [] => rfl
  | [v] => rfl
  | v :: u :: vs => simp [tupleOf]
theorem start_fits (args : List Value) (n : Nat) (hn : args.length ≤ n) : Fits [] n { tmps := args.toArray ++ Array.replicate (n - args.toArray.size) undef, defers := [] } (start args) := by
  refine ⟨by simp; omega, rfl, fun t => ?_⟩
  unfold start
  rw [nth_eq]
  simp only [Array.getD_eq_getD_getElem?, Array.getElem?_append, List.size_toArray]
  by_cases h : t < args.length
  · simp [h]
  · simp [h, Array.getElem?_replicate]
    split <;> rfl
/-- A call comes to what its body comes to. -/
theorem calls_ev {f : FuncId} {fn : Func} {c : Code} {args : List Value} {w : World} {R : Ending → World → Prop} (hm : P.follows .mixedOrders = true) (hf : P.funcs[f]? = some fn) (hb : fn.body = some c)
    (hd : (dstOk fn.ntmps c && Nat.ble args.length fn.ntmps) = true) (h : ev P c (start args) w (retK P fn R)) : Calls P f args.toArray w R := by
  simp only [Bool.and_eq_true] at hd
  have hn : args.length ≤ fn.ntmps := Nat.le_of_ble_eq_true hd.2
  refine calls_of_wp hf hb (wp_mono (ev_sound hm c _ _ _ _ hd.1 (start_fits args _ hn) h) ?_)
  intro x a w hx
  cases x with
  | normal => obtain ⟨E, hfit, hk⟩ := hx; obtain ⟨vs, hr, hk⟩ := res_run hfit hk; exact ⟨hfit.2.1, _, hr, hk⟩
  | ret => obtain ⟨E, hfit, hk⟩ := hx; obtain ⟨vs, hr, hk⟩ := res_run hfit hk; exact ⟨hfit.2.1, _, hr, hk⟩
  | exit i => obtain ⟨E, hfit, hk⟩ := hx; exact hk.elim
  | goto l => obtain ⟨E, hfit, hk⟩ := hx; exact hk.elim
  | panic c => exact hx.elim
  | outgrown => exact hx.elim
end
end Go.Proofs.YtejbljopighenaaDoor
