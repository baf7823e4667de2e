/- The walk that reckons, within a fence: for functions that call the body of a range over a function, and for such bodies. No program in sight. The walk that reckons, with calls of a loop's body: sound for functions, and within a round. No program in sight. The walk that reckons: a range over a function. No program in sight. -/
import Derived.Test.YtdlljmmgkoeilaaDoorG02
import Derived.OrdersIn
import Derived.TacticsIn
import Derived.RangeFuncIn
import Derived.RangeFuncCalls
import Derived.RangeFuncRecord
import Derived.Test.YtdlljmmgkoeilaaDoorG05
import Derived.RangeFuncKeeps
import Derived.RangeFuncBox
namespace Go.Proofs.YtdlljmmgkoeilaaDoor
open Go.RowKit
variable {δ : List Deferred}
/-- A fence that lets all in. -/
structure FxOk (F : Fence) : Prop where
  fn : ∀ f, F.fn f
  depth : F.depth = none
  calls : ∀ {n : Nat} {P : Program} {f : FuncId} {args : Array Value} {w : World} {R : Ending → World → Prop}, Calls P f args w R → CallsIn F n P f args w R
theorem fx_wide : FxOk Fence.wide := ⟨fun _ => trivial, rfl, fun h => callsIn_wide.2 h⟩
theorem fx_round (l : Nat) : FxOk (Fence.wide.inRound l) := ⟨fun _ => trivial, rfl, fun h => CallsIn.inRound l (callsIn_wide.2 h)⟩
def notDef : Op → Bool
  | .defer _ => false
  | _ => true
section
variable {P : Program} {F : Fence} {m : Nat}
theorem sem_at {o : Oper} (hd : notDef o.op = true) (ρ : Operand → Value) : o.semAt F.round ρ = execOp ρ o := Oper.semAt_eq _ _ _ fun c e => by rw [e] at hd; cases hd
theorem call_soundIn (fx : FxOk F) {o : Oper} {a : Act} {w : World} {next : Act → World → Prop} {Q : Exit → Act → World → Prop} {f : FuncId} {args : Array Value} {k : Value → World → Prop} (hd : notDef o.op = true)
    (hr : (execOp a.eval o).run P w = .ok (.enter f args) w) (h : Calls P f args w fun e w' => ∃ v, e = .returned v ∧ k v w') (hk : ∀ v w', k v w' → next (a.put o.dst v) w') : o.wpIn F m P a w next Q := by
  refine ⟨fun f _ => fx.fn f, ?_⟩
  rw [sem_at hd, hr, Oper.uponIn_enter]
  refine ⟨(fun e => by rw [fx.depth] at e; cases e), (fx.calls h).mono fun e w' he => ?_⟩
  obtain ⟨v, rfl, hv⟩ := he
  exact hk _ _ hv
theorem value_soundIn (fx : FxOk F) {o : Oper} {a : Act} {w w' : World} {v : Value} {next : Act → World → Prop} {Q : Exit → Act → World → Prop} (hd : notDef o.op = true)
    (hr : (execOp a.eval o).run P w = .ok (.value v) w') (hk : next (a.put o.dst v) w') : o.wpIn F m P a w next Q := by
  refine ⟨fun f _ => fx.fn f, ?_⟩
  rw [sem_at hd, hr, Oper.uponIn_value]
  exact hk
theorem evOp_soundIn (fx : FxOk F) {o : Oper} {E : Env} {w : World} {k : Value → World → Prop} {n : Nat} {a : Act} {next : Act → World → Prop} {Q : Exit → Act → World → Prop} (hd : notDef o.op = true)
    (hf : Fits δ n a E) (h : evOp P o E w k) (hk : ∀ v w', k v w' → next (a.put o.dst v) w') : o.wpIn F m P a w next Q := by
  have he := hf.eval
  have vval : VVal P E o w k → o.wpIn F m P a w next Q := fun ⟨v, w', hr, hv⟩ => value_soundIn fx hd (by rw [he]; exact hr) (hk _ _ hv)
  have vpure : (VPure P E o fun v => k v w) → o.wpIn F m P a w next Q := fun ⟨v, hr, hv⟩ => value_soundIn fx hd (by rw [he]; exact hr w) (hk _ _ hv)
  have vskip : VSkip P E o w k → o.wpIn F m P a w next Q := by
    rintro ⟨w', hr, hv⟩
    refine ⟨fun f _ => fx.fn f, ?_⟩
    rw [sem_at hd, he, hr, Oper.uponIn_skip]
    exact hk _ _ hv
  obtain ⟨dst, op, type, pos, after, guard⟩ := o
  cases op
  case move x => exact value_soundIn fx hd (by rw [he]; rfl) (hk _ _ h)
  case assign x => exact value_soundIn fx hd (by rw [he]; rfl) (hk _ _ h)
  case pick c x y =>
    simp only [evOp] at h
    split at h
    · rename_i hc; exact value_soundIn fx hd (by rw [he]; simp [execOp, hc, asBool]) (hk _ _ h)
    · rename_i hc; exact value_soundIn fx hd (by rw [he]; simp [execOp, hc, asBool]) (hk _ _ h)
    · exact h.elim
  case extract t i =>
    simp only [evOp] at h
    split at h
    · rename_i vs hc
      split at h
      · rename_i v hv
        rw [nth_eq] at hv
        refine value_soundIn fx hd (by rw [he]; simp only [execOp, hc, Instr.extract]; rw [Array.getElem?_toList] at hv; simp [hv]) (hk _ _ h)
      · exact h.elim
    · exact h.elim
  case store => exact vskip h
  case call c =>
    obtain ⟨callee, args, ts⟩ := c
    cases callee with
    | invoke r m => exact h.elim
    | builtin b =>
      simp only [evOp] at h
      split at h
      · exact vpure h
      · exact vval h
    | value x =>
      have gen : ∀ {f first captured}, val E x = .func (.func f) first captured → VCall P f (first.toList ++ (args.toList.map (val E)) ++ captured.toList).toArray w k → ({ dst, op := .call { callee := .value x, args, argTypes := ts }, type, pos, after, guard } : Oper).wpIn F m P a w next Q := by
        intro f first captured hx hc
        refine call_soundIn fx hd ?_ hc.go hk
        have e : (first.toList ++ (args.toList.map (val E)) ++ captured.toList).toArray = first ++ args.map (val E) ++ captured := by
          apply Array.toList_inj.1; simp
        rw [he, e]
        simp only [execOp, resolve, hx, Deferred.ofValue, Sem.run_bind, Sem.run_pure, Result.andThen_ok, invoke]
        exact run_enter hc.fn
      cases x with
      | func f =>
        refine gen (first := #[]) (captured := #[]) rfl ?_
        simpa [evOp] using h
      | tmp t =>
        simp only [evOp] at h
        split at h
        · rename_i hx; exact gen hx h
        · exact h.elim
      | const t =>
        simp only [evOp] at h
        split at h
        · rename_i hx; exact gen hx h
        · exact h.elim
      | global t =>
        simp only [evOp] at h
        split at h
        · rename_i hx; exact gen hx h
        · exact h.elim
  case defer => cases hd
  all_goals first | exact vpure h | exact vval h
theorem evOps_soundIn (fx : FxOk F) {n : Nat} {ops : Array Oper} {Q : Exit → Act → World → Prop} {K : Env → World → Prop} (hds : ∀ (j : Nat) (o : Oper), ops[j]? = some o → dstIn n o.dst = true) (l2 : List Oper)
    (hK : ∀ a E w, Fits δ n a E → K E w → wpListIn F m P ops Q l2 a w) : ∀ (l : List Oper) (E : Env) (w : World) (a : Act), (∀ o ∈ l, dstIn n o.dst = true ∧ notDef o.op = true) → Fits δ n a E → evOps P ops.toList l E w K → wpListIn F m P ops Q (l ++ l2) a w
  | [], E, w, a, _, hf, h => hK _ _ _ hf h
  | o :: r, E, w, a, hl, hf, h => by
    have hw := wanted_eq hf ops hds o
    unfold evOps at h
    rw [List.cons_append]
    unfold wpListIn
    rw [hw]
    obtain ⟨ho, hd⟩ := hl o (by simp)
    cases hb : wantB ops.toList E o.guard with
    | true =>
      rw [hb] at h
      rw [if_pos rfl]
      exact evOp_soundIn fx hd hf (evStep_op P h) fun v w' hk => evOps_soundIn fx hds l2 hK r _ _ _ (fun o ho => hl o (by simp [ho])) (hf.put ho v) hk
    | false =>
      rw [hb] at h
      rw [if_neg (by simp)]
      exact ⟨fun f _ => fx.fn f, evOps_soundIn fx hds l2 hK r _ _ _ (fun o ho => hl o (by simp [ho])) (hf.put ho undef) h⟩
/-- A call of the loop's body. -/
structure VY (F : Fence) (P : Program) (E : Env) (o : Oper) (w : World) (k : Value → World → Prop) : Prop where
  go : ∃ l fn tmps assign body, (execOp (val E) o).run P w = .ok (.round l fn tmps assign body) w ∧ ∀ n, RoundIn F n P l fn tmps assign body w fun e w' => ∃ v, e = .returned v ∧ k v w'
theorem vy_sound (fx : FxOk F) {o : Oper} {E : Env} {w : World} {k : Value → World → Prop} {n : Nat} {a : Act} {next : Act → World → Prop} {Q : Exit → Act → World → Prop} (hd : notDef o.op = true)
    (hf : Fits δ n a E) (h : VY F P E o w k) (hk : ∀ v w', k v w' → next (a.put o.dst v) w') : o.wpIn F m P a w next Q := by
  obtain ⟨l, fn, tmps, assign, body, hr, hR⟩ := h.go
  refine ⟨fun f _ => fx.fn f, ?_⟩
  rw [sem_at hd, hf.eval, hr, Oper.uponIn_round]
  refine ⟨(fun e => by rw [fx.depth] at e; cases e), (hR _).mono fun e w' he => ?_⟩
  obtain ⟨v, rfl, hv⟩ := he
  exact hk _ _ hv
/-- Operations in their order, the one at place j a call of the loop's body. -/
def evY (F : Fence) (P : Program) (all : List Oper) : List Oper → Nat → Env → World → (Env → World → Prop) → Prop
  | [], _, _, _, _ => False
  | o :: r, 0, E, w, K => wantB all E o.guard = true ∧ VY F P E o w (fun v w' => evOps P all r (upd E o.dst v) w' K)
  | o :: r, j + 1, E, w, K => match wantB all E o.guard with
    | true => evStep P o E w (fun E w' => evY F P all r j E w' K)
    | false => evY F P all r j (upd E o.dst undef) w K
theorem evY_sound (fx : FxOk F) {n : Nat} {ops : Array Oper} {Q : Exit → Act → World → Prop} {K : Env → World → Prop} (hds : ∀ (j : Nat) (o : Oper), ops[j]? = some o → dstIn n o.dst = true)
    (hK : ∀ a E w, Fits δ n a E → K E w → Q .normal a w) : ∀ (l : List Oper) (j : Nat) (E : Env) (w : World) (a : Act), (∀ o ∈ l, dstIn n o.dst = true ∧ notDef o.op = true) → Fits δ n a E → evY F P ops.toList l j E w K → wpListIn F m P ops Q l a w
  | [], j, E, w, a, _, hf, h => h.elim
  | o :: r, 0, E, w, a, hl, hf, h => by
    have hw := wanted_eq hf ops hds o
    obtain ⟨ho, hd⟩ := hl o (by simp)
    unfold evY at h
    unfold wpListIn
    rw [hw, h.1, if_pos rfl]
    refine vy_sound fx hd hf h.2 fun v w' hk => ?_
    have := evOps_soundIn (m := m) (Q := Q) fx hds [] (fun a E w hf hk => hK a E w hf hk) r _ _ _ (fun o ho => hl o (by simp [ho])) (hf.put ho v) hk
    rw [List.append_nil] at this
    exact this
  | o :: r, j + 1, E, w, a, hl, hf, h => by
    have hw := wanted_eq hf ops hds o
    obtain ⟨ho, hd⟩ := hl o (by simp)
    unfold evY at h
    unfold wpListIn
    rw [hw]
    cases hb : wantB ops.toList E o.guard with
    | true =>
      rw [hb] at h
      rw [if_pos rfl]
      exact evOp_soundIn fx hd hf (evStep_op P h) fun v w' hk => evY_sound fx hds hK r j _ _ _ (fun o ho => hl o (by simp [ho])) (hf.put ho v) hk
    | false =>
      rw [hb] at h
      rw [if_neg (by simp)]
      exact ⟨fun f _ => fx.fn f, evY_sound fx hds hK r j _ _ _ (fun o ho => hl o (by simp [ho])) (hf.put ho undef) h⟩
variable {ops : Array Oper} {Q : Exit → Act → World → Prop} {S : World → Prop}
theorem yields_in (fx : FxOk F) {i : Nat} {o : Oper} {v : Value} {a : Act} (hi : ops[i]? = some o) (hd : notDef o.op = true) (hy : YieldsIf P ops S o v a) {K : Act → World → Prop} {w : World} (hS : S w) (h : K (a.put o.dst v) w) : wpOpIn F m P ops Q i K a w := by
  unfold wpOpIn
  simp only [hi]
  rcases hy with ⟨hw, hv⟩ | ⟨hw, rfl⟩
  · rw [if_pos hw]
    exact ⟨fun f _ => fx.fn f, by rw [sem_at hd, hv w hS, Oper.uponIn_value]; exact h⟩
  · rw [if_neg (by rw [hw]; decide)]
    exact ⟨fun f _ => fx.fn f, h⟩
theorem put_in (fx : FxOk F) {j : Nat} {oi oj : Oper} {v : Value} (hj : ops[j]? = some oj) (hd : notDef oj.op = true) (hap : oi.apart ops oj = true) (hsi : ∀ cs b, oi.op ≠ .select cs b) (hsj : ∀ cs b, oj.op ≠ .select cs b)
    (hQ : ∀ c a w, Q (.panic c) (a.put oi.dst v) w → Q (.panic c) a w) {K : Act → World → Prop} {a : Act} {w : World} (hy : YieldsIf P ops S oi v a) (h : wpOpIn F m P ops Q j K (a.put oi.dst v) w) :
    wpOpIn F m P ops Q j (fun a' w' => YieldsIf P ops S oi v a' ∧ K (a'.put oi.dst v) w') a w := by
  obtain ⟨h1, h2, h3⟩ := Oper.apart_spec hap
  have keep : ∀ (a : Act), YieldsIf P ops S oi v a → ∀ u, YieldsIf P ops S oi v (a.put oj.dst u) := fun a hy u => hy.of_same (execOp_put oi hsi a oj.dst u h3) (wanted_put oi a oj.dst u h3)
  have turn : ∀ u w', K ((a.put oi.dst v).put oj.dst u) w' → YieldsIf P ops S oi v (a.put oj.dst u) ∧ K ((a.put oj.dst u).put oi.dst v) w' := fun u w' hk => ⟨keep a hy u, by rw [← Act.put_comm a v u h2]; exact hk⟩
  unfold wpOpIn at h ⊢
  simp only [hj] at h ⊢
  rw [wanted_put oj a oi.dst v h1] at h
  by_cases hw : Region.wanted oj (yielded ops a.tmps) = true
  · rw [if_pos hw] at h ⊢
    refine ⟨fun f _ => fx.fn f, ?_⟩
    have h := h.2
    rw [sem_at hd, execOp_put oj hsj a oi.dst v h1] at h
    rw [sem_at hd]
    revert h
    generalize (execOp a.eval oj).run P w = r
    intro h
    cases r with
    | halt x w' =>
      cases x <;> first | exact hQ _ _ _ h | exact h
    | ok x w' =>
      cases x with
      | value u => exact turn u w' h
      | skip => exact turn undef w' h
      | defer d =>
        refine ⟨(hy.of_same (a' := { a with defers := d :: a.defers }) rfl rfl).of_same (execOp_put oi hsi _ oj.dst undef h3) (wanted_put oi _ oj.dst undef h3), ?_⟩
        rw [← Act.put_comm _ v undef h2, ← Act.put_defers]
        exact h
      | enter f args =>
        refine ⟨h.1, h.2.mono fun e w'' he => ?_⟩
        cases e with
        | returned u => exact turn u w'' he
        | panicked c => exact hQ _ _ _ he
        | outgrown => exact he
      | row r args => exact ⟨h.1, h.2.mono fun u w'' he => turn u w'' he⟩
      | round l f tmps assign body =>
        refine ⟨h.1, h.2.mono fun e w'' he => ?_⟩
        cases e with
        | returned u => exact turn u w'' he
        | panicked c => exact hQ _ _ _ he
        | outgrown => exact he
      | _ => exact h
  · rw [if_neg hw] at h ⊢
    exact ⟨fun f _ => fx.fn f, turn undef w h.2⟩
/-- Whichever order; what is held stays. -/
def wpHI (F : Fence) (m : Nat) (P : Program) (ops : Array Oper) (Q : Exit → Act → World → Prop) (S : World → Prop) : Nat → Array Bool → Act → World → Prop
  | 0, listed, a, w => Region.ready .any ops listed = [] ∧ Q .normal a w
  | k + 1, listed, a, w => (Region.ready .any ops listed = [] → Q .normal a w) ∧ ∀ j ∈ Region.ready .any ops listed, wpOpIn F m P ops Q j (fun a' w' => S w' ∧ wpHI F m P ops Q S k (listed.setIfInBounds j true) a' w') a w
theorem any_of_HI : ∀ (k : Nat) (listed : Array Bool) (a : Act) (w : World), wpHI F m P ops Q S k listed a w → wpAnyIn F m P .any ops Q k listed a w
  | 0, _, _, _, h => h
  | k + 1, _, _, _, h => ⟨h.1, fun j hj => wpOpIn_mono (fun a' w' x => any_of_HI k _ a' w' x.2) (h.2 j hj)⟩
theorem HI_done {listed : Array Bool} {a : Act} {w : World} (hr : Region.ready .any ops listed = []) (h : Q .normal a w) : ∀ k, wpHI F m P ops Q S k listed a w
  | 0 => ⟨hr, h⟩
  | _ + 1 => ⟨fun _ => h, by rw [hr]; simp⟩
theorem HI_all {rs : List Nat} {k : Nat} {listed : Array Bool} {a : Act} {w : World} (hr : Region.ready .any ops listed = rs) (hne : rs ≠ []) (h : ∀ j ∈ rs, wpOpIn F m P ops Q j (fun a' w' => S w' ∧ wpHI F m P ops Q S k (listed.setIfInBounds j true) a' w') a w) : wpHI F m P ops Q S (k + 1) listed a w :=
  ⟨fun h0 => absurd (hr ▸ h0) hne, hr ▸ h⟩
theorem HI_first (fx : FxOk F) (hnd : ∀ (j : Nat) (o : Oper), ops[j]? = some o → notDef o.op = true) {i : Nat} {oi : Oper} {v : Value} (hi : ops[i]? = some oi) (hsel : ∀ (j : Nat) (o : Oper) cs b, ops[j]? = some o → o.op ≠ .select cs b) (hQ : ∀ c a w, Q (.panic c) (a.put oi.dst v) w → Q (.panic c) a w) :
    ∀ (k : Nat) (listed : Array Bool) (a : Act) (w : World), (∀ j oj, ops[j]? = some oj → j ≠ i → listed.getD j true = false → (∀ e ∈ oj.after, Region.binds .any e = true → e.on ≠ i) → oi.apart ops oj = true) →
      i ∈ Region.ready .any ops listed → YieldsIf P ops S oi v a → S w → wpHI F m P ops Q S k (listed.setIfInBounds i true) (a.put oi.dst v) w → wpHI F m P ops Q S (k + 1) listed a w := by
  intro k
  induction k with
  | zero =>
    intro listed a w _ hr hy hS H
    refine ⟨fun h0 => (by rw [h0] at hr; cases hr), fun j hj => ?_⟩
    rcases Classical.em (j = i) with rfl | hji
    · exact yields_in fx hi (hnd _ _ hi) hy hS ⟨hS, H⟩
    · have := ready_mono hj hji
      rw [H.1] at this; cases this
  | succ k ih =>
    intro listed a w hfree hr hy hS H
    refine ⟨fun h0 => (by rw [h0] at hr; cases hr), fun j hj => ?_⟩
    rcases Classical.em (j = i) with rfl | hji
    · exact yields_in fx hi (hnd _ _ hi) hy hS ⟨hS, H⟩
    · have h1 := H.2 j (ready_mono hj hji)
      obtain ⟨hjun, oj, hoj, hall⟩ := mem_ready.1 hj
      have waits : ∀ e ∈ oj.after, Region.binds .any e = true → e.on ≠ i := fun e he hb heq => by
        have g1 := hall e he hb
        have g0 := (mem_ready.1 hr).1
        rw [heq] at g1
        rcases Nat.lt_or_ge i listed.size with hlt | hge
        · simp [hlt] at g0 g1
          rw [g0] at g1; cases g1
        · simp [Array.getElem?_eq_none hge] at g1
      have h2 := put_in fx hoj (hnd _ _ hoj) (hfree j oj hoj hji hjun waits) (fun cs b => hsel i oi cs b hi) (fun cs b => hsel j oj cs b hoj) hQ hy h1
      refine wpOpIn_mono (fun a' w' x => ⟨x.2.1, ih (listed.setIfInBounds j true) a' w' (fun q oq hq hqi hun hno => ?_) (ready_mono hr (Ne.symm hji)) x.1 x.2.1 ?_⟩) h2
      · refine hfree q oq hq hqi ?_ hno
        rcases Classical.em (j = q) with rfl | hjq
        · exact hjun
        · rw [getD_set_ne true hjq] at hun; exact hun
      · rw [Array.setIfInBounds_comm _ _ hji]
        exact x.2.2
/-- A tree of orders, the operation y a call of the loop's body. -/
def evTY (F : Fence) (P : Program) (S : World → Prop) (all : List Oper) (y : Nat) : Sch → Env → World → (Env → World → Prop) → Prop
  | .nil, E, w, K => K E w
  | .take i r, E, w, K => (match nth all i with
    | none => False
    | some o => match wantB all E o.guard with
      | false => evTY F P S all y r (upd E o.dst undef) w K
      | true => evTakeE P S o E (fun E => evTY F P S all y r E w K))
  | .one i r, E, w, K => (match Nat.beq i y with
    | true => (match nth all i with
      | none => False
      | some o => wantB all E o.guard = true ∧ VY F P E o w (fun v w' => S w' ∧ evTY F P S all y r (upd E o.dst v) w' K))
    | false => evB P S all i E w (fun E w => evTY F P S all y r E w K))
  | _, _, _, _ => False
theorem evB_in (fx : FxOk F) (hnd : ∀ (j : Nat) (o : Oper), ops[j]? = some o → notDef o.op = true) {n i : Nat} {E : Env} {w : World} {a : Act} {k : Env → World → Prop} {H : Act → World → Prop} (hds : ∀ (j : Nat) (o : Oper), ops[j]? = some o → dstIn n o.dst = true)
    (hf : Fits δ n a E) (hS : S w) (h : evB P S ops.toList i E w k) (hk : ∀ a E w, Fits δ n a E → S w → k E w → H a w) : wpOpIn F m P ops Q i (fun a' w' => S w' ∧ H a' w') a w := by
  simp only [evB, nth_eq, Array.getElem?_toList] at h
  unfold wpOpIn
  cases ho : ops[i]? with
  | none => rw [ho] at h; exact h.elim
  | some o =>
    rw [ho] at h
    have hd := hds i o ho
    have hw := wanted_eq hf ops hds o
    simp only
    rw [hw]
    cases hb : wantB ops.toList E o.guard with
    | true =>
      simp only [hb] at h
      rw [if_pos rfl]
      exact evOp_soundIn fx (hnd _ _ ho) hf (evStep_op P h) fun v w' hk' => ⟨hk'.1, hk _ _ _ (hf.put hd v) hk'.1 hk'.2⟩
    | false =>
      simp only [hb] at h
      rw [if_neg (by simp)]
      exact ⟨fun f _ => fx.fn f, hS, hk _ _ _ (hf.put hd undef) hS h⟩
theorem evTY_sound (fx : FxOk F) (hnd : ∀ (j : Nat) (o : Oper), ops[j]? = some o → notDef o.op = true) {n y : Nat} {K : Env → World → Prop} (hds : ∀ (j : Nat) (o : Oper), ops[j]? = some o → dstIn n o.dst = true) (hns : Region.noSelect ops = true)
    (hQ : ∀ c a b w, Q (.panic c) a w → Q (.panic c) b w) (hK : ∀ a E w, Fits δ n a E → K E w → Q .normal a w) : ∀ (T : Sch) (listed : Array Bool) (E : Env) (w : World) (a : Act), Fits δ n a E → S w → schedT ops T listed = true → evTY F P S ops.toList y T E w K → wpHI F m P ops Q S T.left listed a w
  | .nil, listed, E, w, a, hf, _, hs, h => HI_done (by simpa [schedT] using hs) (hK _ _ _ hf h) _
  | .take i r, listed, E, w, a, hf, hS, hs, h => by
    simp only [schedT, Bool.and_eq_true] at hs
    obtain ⟨hs1, hs2⟩ := hs
    simp only [evTY, nth_eq, Array.getElem?_toList] at h
    cases ho : ops[i]? with
    | none => rw [ho] at h; exact h.elim
    | some o =>
      rw [ho] at h
      have hd := hds i o ho
      have hw := wanted_eq hf ops hds o
      have rest : ∀ v, evTY F P S ops.toList y r (upd E o.dst v) w K → wpHI F m P ops Q S r.left (listed.setIfInBounds i true) (a.put o.dst v) w := fun v h' => evTY_sound fx hnd hds hns hQ hK r _ _ _ _ (hf.put hd v) hS hs2 h'
      have go : ∀ v, YieldsIf P ops S o v a → wpHI F m P ops Q S r.left (listed.setIfInBounds i true) (a.put o.dst v) w → wpHI F m P ops Q S (r.left + 1) listed a w := fun v hy hr =>
        HI_first fx hnd ho (Region.noSelect_spec hns) (fun c a w hp => hQ c _ _ w hp) _ _ _ _ (Region.free_spec ho hs1.1) (by simpa using hs1.2) hy hS hr
      cases hb : wantB ops.toList E o.guard with
      | true =>
        simp only [hb] at h
        obtain ⟨v, hy, hv⟩ := evTake_sound (ops := ops) hf (by rw [hw, hb]) (evTakeE_op P h)
        exact go v hy (rest v hv)
      | false =>
        simp only [hb] at h
        exact go undef (.inr ⟨by rw [hw, hb], rfl⟩) (rest undef h)
  | .one i r, listed, E, w, a, hf, hS, hs, h => by
    simp only [schedT, Bool.and_eq_true] at hs
    have hr : Region.ready .any ops listed = [i] := by simpa using hs.1
    refine HI_all hr (by simp) fun j hj => ?_
    simp only [List.mem_singleton] at hj
    subst hj
    simp only [evTY] at h
    cases hy : Nat.beq j y with
    | false =>
      rw [hy] at h
      exact evB_in fx hnd hds hf hS h fun a E w hf hS hk => evTY_sound fx hnd hds hns hQ hK r _ _ _ _ hf hS hs.2 hk
    | true =>
      simp only [hy, nth_eq, Array.getElem?_toList] at h
      unfold wpOpIn
      cases ho : ops[j]? with
      | none => rw [ho] at h; exact h.elim
      | some o =>
        rw [ho] at h
        have hd := hds j o ho
        have hw := wanted_eq hf ops hds o
        simp only
        rw [hw, h.1, if_pos rfl]
        exact vy_sound fx (hnd _ _ ho) hf h.2 fun v w' hk => ⟨hk.1, evTY_sound fx hnd hds hns hQ hK r _ _ _ _ (hf.put hd v) hk.1 hs.2 hk.2⟩
  | .two .., _, _, _, _, _, _, _, h => h.elim
  | .three .., _, _, _, _, _, _, _, h => h.elim
end
end Go.Proofs.YtdlljmmgkoeilaaDoor
namespace Go.Proofs.YtdlljmmgkoeilaaDoor
open Go.RowKit
variable {δ : List Deferred}
/-- A region that draws its order and calls the loop's body (or none): one order, some operations taken ahead. -/
structure VDrawY (F : Fence) (P : Program) (ops : Array Oper) (y : Nat) (E : Env) (w : World) (K : Env → World → Prop) : Prop where
  go : ∃ (S : World → Prop) (T : Sch), (Region.noSelect ops && (T.left == ops.size && schedT ops T (Array.replicate ops.size false))) = true ∧ S w.drew ∧ evTY F P S ops.toList y T E w.drew K
def regY (F : Fence) (P : Program) (ops : Array Oper) (y : Nat) (draw : Bool) (E : Env) (w : World) (K : Env → World → Prop) : Prop :=
  match draw with
  | false => evY F P ops.toList ops.toList y E w K
  | true => VDrawY F P ops y E w K
def evX (F : Fence) (P : Program) (ys : Nat → Option Nat) : Code → Env → World → Kont → Prop
  | .skip, E, w, K => K .normal E w
  | .label _, E, w, K => K .normal E w
  | .seq a b, E, w, K => evX F P ys a E w (thenK (fun E w K => evX F P ys b E w K) K)
  | .cond c t f, E, w, K => (match val E c with | .bool true => evX F P ys t E w K | .bool false => evX F P ys f E w K | _ => False)
  | .block id body, E, w, K => evX F P ys body E w (blockK id K)
  | .loop body, E, w, K => VLoop (fun E w K => evX F P ys body E w K) E w K
  | .region id ops draw, E, w, K => (match ys id with
    | none => (match draw with
      | false => evOps P ops.toList ops.toList E w (normK K)
      | true => VDraw P ops E w (normK K))
    | some y => regY F P ops y draw E w (normK K))
  | .exit id, E, w, K => K (.exit id) E w
  | .goto l, E, w, K => K (.goto l) E w
  | .ret, E, w, K => K .ret E w
  | .scope body, E, w, K => evX F P ys body E w (scopeK K)
  | _, _, _, _ => False
def ndOk : Code → Bool
  | .region _ ops _ => ops.all fun o => notDef o.op
  | .seq a b => ndOk a && ndOk b
  | .cond _ a b => ndOk a && ndOk b
  | .block _ b => ndOk b
  | .loop b => ndOk b
  | .scope b => ndOk b
  | _ => true
section
variable {P : Program} {F : Fence} {ys : Nat → Option Nat}
theorem region_in (fx : FxOk F) (hm : P.follows .mixedOrders = true) {n m id y : Nat} {ops : Array Oper} {draw : Bool} {E : Env} {w : World} {K : Kont} {a : Act} (hd : dstOk n (.region id ops draw) = true) (hn : ndOk (.region id ops draw) = true) (hf : Fits δ n a E)
    (h : regY F P ops y draw E w (normK K)) : (Code.region id ops draw).wpIn F m P (Holds δ n K) a w := by
  have hd' : ∀ o ∈ ops, dstIn n o.dst = true := fun o ho => Array.all_eq_true_iff_forall_mem.1 hd o ho
  have hn' : ∀ o ∈ ops, notDef o.op = true := fun o ho => Array.all_eq_true_iff_forall_mem.1 hn o ho
  have hds : ∀ (j : Nat) (o : Oper), ops[j]? = some o → dstIn n o.dst = true := fun j o ho => hd' o (Array.mem_of_getElem? ho)
  have hnd : ∀ (j : Nat) (o : Oper), ops[j]? = some o → notDef o.op = true := fun j o ho => hn' o (Array.mem_of_getElem? ho)
  cases draw with
  | false => exact wpIn_region_list (evY_sound fx hds (fun a E w hf hk => ⟨E, hf, hk⟩) ops.toList y E w a (fun o ho => ⟨hd' o (by simpa using ho), hn' o (by simpa using ho)⟩) hf h)
  | true =>
    obtain ⟨S, T, hs, hS, hT⟩ := VDrawY.go h
    simp only [Bool.and_eq_true, beq_iff_eq] at hs
    obtain ⟨hns, hlen, hgo⟩ := hs
    refine wpIn_region_any hm (any_of_HI (S := S) _ _ _ _ ?_)
    rw [← hlen] at hgo ⊢
    exact evTY_sound fx hnd hds hns (fun c a b w h => h) (fun a E w hf hk => ⟨E, hf, hk⟩) T _ E w.drew a hf hS hgo hT
theorem evX_wide {n : Nat} (hm : P.follows .mixedOrders = true) : ∀ (c : Code) (E : Env) (w : World) (K : Kont) (a : Act), dstOk n c = true → ndOk c = true → Fits δ n a E → evX Fence.wide P ys c E w K → c.wp P (Holds δ n K) a w := by
  intro c
  induction c with
  | skip => intro E w K a _ _ hf h; exact wp_skip ⟨E, hf, h⟩
  | label l => intro E w K a _ _ hf h; exact wp_label ⟨E, hf, h⟩
  | exit i => intro E w K a _ _ hf h; exact wp_exit ⟨E, hf, h⟩
  | goto l => intro E w K a _ _ hf h; exact wp_goto ⟨E, hf, h⟩
  | ret => intro E w K a _ _ hf h; exact wp_ret ⟨E, hf, h⟩
  | seq x y ihx ihy =>
    intro E w K a hd hn hf h
    simp only [dstOk, ndOk, Bool.and_eq_true] at hd hn
    refine wp_seq (wp_mono (ihx _ _ _ _ hd.1 hn.1 hf h) (Holds.then_ (fun a E w hf h => ihy _ _ _ _ hd.2 hn.2 hf h) ?_))
    intro x E w hx h
    cases x <;> first | exact absurd rfl hx | exact h
  | cond c t f iht ihf =>
    intro E w K a hd hn hf h
    simp only [dstOk, ndOk, Bool.and_eq_true] at hd hn
    have hc : a.eval c = val E c := by rw [hf.eval]
    simp only [evX] at h
    split at h
    · rename_i hb; exact wp_cond (t := true) (by rw [hc, hb]) (iht _ _ _ _ hd.1 hn.1 hf h)
    · rename_i hb; exact wp_cond (t := false) (by rw [hc, hb]) (ihf _ _ _ _ hd.2 hn.2 hf h)
    · exact h.elim
  | block id b ih =>
    intro E w K a hd hn hf h
    refine wp_block (wp_mono (ih _ _ _ _ hd hn hf h) ?_)
    intro x a w h
    cases x with
    | exit i =>
      obtain ⟨E, hf, hk⟩ := h
      unfold blockK at hk
      dsimp only at hk
      show (if i = id then _ else _)
      cases hb : Nat.beq i id with
      | true => rw [hb] at hk; rw [if_pos (Nat.eq_of_beq_eq_true hb)]; exact ⟨E, hf, hk⟩
      | false => rw [hb] at hk; rw [if_neg (fun e => by subst e; simp at hb)]; exact ⟨E, hf, hk⟩
    | normal => exact h
    | goto l => exact h
    | ret => exact h
    | panic c => exact h
    | outgrown => exact h
  | loop b ih =>
    intro E w K a hd hn hf h
    obtain ⟨S, I, L, μ, ⟨s0, hi0, ha0⟩, round⟩ := h.go
    have key : ∀ m s a E w, μ s = m → I s w → agrees E (L s) → Fits δ n a E → ∀ (bf : Frame) (k : List Item) (cs : List Frame), ∃ e a' w', Holds δ n K e a' w' ∧ Arrives P (lone (bf.at a (.code b :: .inLoop b :: k)) cs w) bf k cs e a' w' := by
      intro m
      induction m using Nat.strongRecOn with
      | _ m ihm =>
        intro s a E w hm' hi ha hf bf k cs
        have hr := round s E w hi
        rw [over_of_agrees ha] at hr
        obtain ⟨e, a1, w1, hq, harr⟩ := ih _ _ _ _ hd hn hf hr bf (.inLoop b :: k) cs
        cases e with
        | normal =>
          obtain ⟨E1, hf1, s1, hi1, ha1, hlt⟩ := hq
          obtain ⟨e2, a2, w2, hq2, harr2⟩ := ihm (μ s1) (hm' ▸ hlt) s1 a1 E1 w1 rfl hi1 ha1 hf1 bf k cs
          exact ⟨e2, a2, w2, hq2, .of_steps (Steps.trans harr (.one step_inLoop)) harr2⟩
        | exit id => obtain ⟨E1, hf1, h1⟩ := hq; exact ⟨.exit id, a1, w1, ⟨E1, hf1, h1⟩, .pass (x := .inLoop b) rfl (fun _ _ => .inl (by simp)) harr⟩
        | goto l => obtain ⟨E1, hf1, h1⟩ := hq; exact ⟨.goto l, a1, w1, ⟨E1, hf1, h1⟩, .pass (x := .inLoop b) rfl (fun _ _ => .inl (by simp)) harr⟩
        | ret => obtain ⟨E1, hf1, h1⟩ := hq; exact ⟨.ret, a1, w1, ⟨E1, hf1, h1⟩, .pass (x := .inLoop b) rfl (fun _ _ => .inl (by simp)) harr⟩
        | panic ch => exact hq.elim
        | outgrown => exact hq.elim
    intro bf k cs
    obtain ⟨e, a', w', hq, harr⟩ := key _ s0 a E w rfl hi0 ha0 hf bf k cs
    exact ⟨e, a', w', hq, .of_steps (.one step_loop) harr⟩
  | region id ops draw =>
    intro E w K a hd hn hf h
    simp only [evX] at h
    cases hy : ys id with
    | none =>
      rw [hy] at h
      exact ev_sound hm (.region id ops draw) E w K a hd hf h
    | some y =>
      rw [hy] at h
      exact wpIn_wide.1 (region_in (m := 0) (y := y) fx_wide hm hd hn hf h)
  | scope b ih =>
    intro E w K a hd hn hf h
    refine wp_scope_straight (wp_mono (ih _ _ _ _ hd hn hf h) ?_)
    intro x a w h
    cases x with
    | normal => exact h
    | exit i => exact h
    | goto l => obtain ⟨E, hf, hk⟩ := h; exact hk.elim
    | ret => exact h
    | panic c => exact h
    | outgrown => exact h
  | rangeFunc f ps x b iha ihb => intro E w K a _ _ hf h; exact h.elim
  | refuse why => intro E w K a _ _ hf h; exact h.elim
/-- A call comes to what its body comes to, calls of a loop's body among it. -/
theorem calls_evX {f : FuncId} {fn : Func} {c : Code} {args : List Value} {w : World} {R : Ending → World → Prop} (ys : Nat → Option Nat) (hm : P.follows .mixedOrders = true) (hf : P.funcs[f]? = some fn) (hb : fn.body = some c)
    (hd : (dstOk fn.ntmps c && (ndOk c && Nat.ble args.length fn.ntmps)) = true) (h : evX Fence.wide P ys c (start args) w (retK P fn R)) : Calls P f args.toArray w R := by
  simp only [Bool.and_eq_true] at hd
  have hn : args.length ≤ fn.ntmps := Nat.le_of_ble_eq_true hd.2.2
  refine calls_of_wp hf hb (wp_mono (evX_wide hm c _ _ _ _ hd.1 hd.2.1 (start_fits args _ hn) h) ?_)
  intro x a w hx
  cases x with
  | normal => obtain ⟨E, hfit, hk⟩ := hx; obtain ⟨vs, hr, hk⟩ := res_run hfit hk; exact ⟨hfit.2.1, _, hr, hk⟩
  | ret => obtain ⟨E, hfit, hk⟩ := hx; obtain ⟨vs, hr, hk⟩ := res_run hfit hk; exact ⟨hfit.2.1, _, hr, hk⟩
  | exit i => obtain ⟨E, hfit, hk⟩ := hx; exact hk.elim
  | goto l => obtain ⟨E, hfit, hk⟩ := hx; exact hk.elim
  | panic c => exact hx.elim
  | outgrown => exact hx.elim
/-- Code without loops, whose drawn regions have a tree: fit for a round. -/
def flatOk (ys : Nat → Option Nat) : Code → Bool
  | .region id _ draw => !draw || (ys id).isSome
  | .seq a b => flatOk ys a && flatOk ys b
  | .cond _ a b => flatOk ys a && flatOk ys b
  | .block _ b => flatOk ys b
  | .loop _ => false
  | .scope _ => false
  | _ => true
theorem evX_in (fx : FxOk F) {n m : Nat} (hm : P.follows .mixedOrders = true) : ∀ (c : Code) (E : Env) (w : World) (K : Kont) (a : Act), dstOk n c = true → ndOk c = true → flatOk ys c = true → Fits δ n a E → evX F P ys c E w K → c.wpIn F m P (Holds δ n K) a w := by
  intro c
  induction c with
  | skip => intro E w K a _ _ _ hf h; exact wpIn_skip ⟨E, hf, h⟩
  | label l => intro E w K a _ _ _ hf h; exact wpIn_label ⟨E, hf, h⟩
  | exit i => intro E w K a _ _ _ hf h; exact wpIn_exit ⟨E, hf, h⟩
  | goto l => intro E w K a _ _ _ hf h; exact wpIn_goto ⟨E, hf, h⟩
  | ret => intro E w K a _ _ _ hf h; exact wpIn_ret ⟨E, hf, h⟩
  | seq x y ihx ihy =>
    intro E w K a hd hn hl hf h
    simp only [dstOk, ndOk, flatOk, Bool.and_eq_true] at hd hn hl
    refine wpIn_seq (wpIn_mono (ihx _ _ _ _ hd.1 hn.1 hl.1 hf h) (Holds.then_ (fun a E w hf h => ihy _ _ _ _ hd.2 hn.2 hl.2 hf h) ?_))
    intro x E w hx h
    cases x <;> first | exact absurd rfl hx | exact h
  | cond c t f iht ihf =>
    intro E w K a hd hn hl hf h
    simp only [dstOk, ndOk, flatOk, Bool.and_eq_true] at hd hn hl
    have hc : a.eval c = val E c := by rw [hf.eval]
    simp only [evX] at h
    split at h
    · rename_i hb; exact wpIn_cond (t := true) (by rw [hc, hb]) (iht _ _ _ _ hd.1 hn.1 hl.1 hf h)
    · rename_i hb; exact wpIn_cond (t := false) (by rw [hc, hb]) (ihf _ _ _ _ hd.2 hn.2 hl.2 hf h)
    · exact h.elim
  | block id b ih =>
    intro E w K a hd hn hl hf h
    refine wpIn_block (wpIn_mono (ih _ _ _ _ hd hn hl hf h) ?_)
    intro x a w h
    cases x with
    | exit i =>
      obtain ⟨E, hf, hk⟩ := h
      unfold blockK at hk
      dsimp only at hk
      show (if i = id then _ else _)
      cases hb : Nat.beq i id with
      | true => rw [hb] at hk; rw [if_pos (Nat.eq_of_beq_eq_true hb)]; exact ⟨E, hf, hk⟩
      | false => rw [hb] at hk; rw [if_neg (fun e => by subst e; simp at hb)]; exact ⟨E, hf, hk⟩
    | normal => exact h
    | goto l => exact h
    | ret => exact h
    | panic c => exact h
    | outgrown => exact h
  | loop b ih => intro E w K a hd hn hl; cases hl
  | region id ops draw =>
    intro E w K a hd hn hl hf h
    simp only [evX] at h
    cases hy : ys id with
    | none =>
      rw [hy] at h
      cases draw with
      | true => simp [flatOk, hy] at hl
      | false =>
        have hd' : ∀ o ∈ ops, dstIn n o.dst = true := fun o ho => Array.all_eq_true_iff_forall_mem.1 hd o ho
        have hn' : ∀ o ∈ ops, notDef o.op = true := fun o ho => Array.all_eq_true_iff_forall_mem.1 hn o ho
        have := evOps_soundIn (m := m) (Q := Holds δ n K) fx (fun j o ho => hd' o (Array.mem_of_getElem? ho)) [] (fun a E w hf hk => (⟨E, hf, hk⟩ : Holds δ n K .normal a w)) ops.toList E w a (fun o ho => ⟨hd' o (by simpa using ho), hn' o (by simpa using ho)⟩) hf h
        rw [List.append_nil] at this
        exact wpIn_region_list this
    | some y =>
      rw [hy] at h
      exact region_in (y := y) fx hm hd hn hf h
  | scope b ih => intro E w K a hd hn hl; cases hl
  | rangeFunc f ps x b iha ihb => intro E w K a _ _ _ hf h; exact h.elim
  | refuse why => intro E w K a _ _ _ hf h; exact h.elim
end
end Go.Proofs.YtdlljmmgkoeilaaDoor
namespace Go.Proofs.YtdlljmmgkoeilaaDoor
open Go.RowKit
section
variable {W W' : World} {F F' : Nat → Prop}
mutual
theorem RdD.cells (h : ∀ a x, W.cell? a = some x → W'.cell? a = some x) (hF : ∀ b, F b → F' b) : ∀ {d : D} {u : Value}, RdD W F d u → RdD W' F' d u
  | .v x, u, hd => by unfold RdD at hd ⊢; exact hd
  | .sl s n l, u, hd => by
    unfold RdD at hd ⊢
    obtain ⟨A, c, cs, h1, h2, h3, h4, h5⟩ := hd
    refine ⟨A, c, cs, h1, h2, h3, RdL.cells h hF h4, fun hn => ?_⟩
    obtain ⟨b, off, h6, h7, h8⟩ := h5 hn
    exact ⟨b, off, h6, hF b h7, fun j x hx => h _ _ (h8 j x hx)⟩
theorem RdL.cells (h : ∀ a x, W.cell? a = some x → W'.cell? a = some x) (hF : ∀ b, F b → F' b) : ∀ {ds : List D} {cs : List Value}, RdL W F ds cs → RdL W' F' ds cs
  | [], cs, hd => by unfold RdL at hd ⊢; exact hd
  | d :: ds, cs, hd => by
    unfold RdL at hd ⊢
    obtain ⟨u, us, h1, h2, h3⟩ := hd
    exact ⟨u, us, h1, RdD.cells h hF h2, RdL.cells h hF h3⟩
end
theorem cell_putObj {k : Nat} {o : Obj} (o' : Obj) (hk : W.heap[k]? = some o) (ho : o.isCells = false) (a : Addr) (x : Value) (h : W.cell? a = some x) : (W.putObj k o').cell? a = some x := by
  rcases Classical.em (a.block = k) with e | e
  · unfold World.cell? at h
    rw [e, hk] at h
    cases o <;> first | (cases ho; done) | cases h
  · exact (World.cell?_of_block (World.putObj_heap_other e)).trans h
end
section
variable {w W W' : World} {gs : List (Option Nat)} {L : Lc} {R : List Row} {fs : List Fact}
/-- What is no cells turns. -/
theorem St.putObj (M : St w gs W L R fs) {k : Nat} {o : Obj} (o' : Obj) (hk : w.heap.size ≤ k) (h : W.heap[k]? = some o) (ho : o.isCells = false) (ho' : o'.isCells = false) (hs : ∀ W0 os0, Fact.stp W0 os0 ∈ fs → some k ∈ os0) : St w gs (W.putObj k o') L R fs := by
  have hg := grownBy_putObj' W k o'
  have hsz : (W.putObj k o').heap.size = W.heap.size := World.putObj_size
  refine ⟨M.below.grown hg M.size (fun b e => by injection e with e; subst e; exact hk), M.lt, fun x hx => ⟨(M.blk x hx).1.grownN hg (fun e => ?_), (M.blk x hx).2⟩, fun r hr => ownsRow_putObj (M.row r hr) o' h ho, M.ap, fun f hf => ?_⟩
  · have hb : W.heap[x.1]? = _ := (M.blk x hx).1
    rw [← e, h] at hb
    injection hb with hb
    subst hb
    cases ho
  · have ft : ∀ {fr : Bool} b, Ft w W (own L R gs) fr b → Ft w (W.putObj k o') (own L R gs) fr b := fun b hb => ⟨by rw [hsz]; exact hb.1, hb.2.1, fun e => ⟨(hb.2.2 e).1, fun cs T z hc => by
      by_cases e2 : b = k
      · subst e2
        rw [World.putObj_heap_same (Array.getElem?_eq_some_iff.1 h).1] at hc
        injection hc with hc
        subst hc
        cases ho'
      · rw [World.putObj_heap_other e2] at hc
        exact (hb.2.2 e).2 cs T z hc⟩⟩
    have hf' := M.fct f hf
    cases f with
    | dat fr ds cs => exact RdL.cells (fun a x => cell_putObj o' h ho a x) ft hf'
    | rng lo hi ds cs => exact RdL.cells (fun a x => cell_putObj o' h ho a x) (fun b hb => ⟨ft b hb.1, hb.2⟩) hf'
    | loc a cs => exact ⟨ft _ hf'.1, fun j x hx => cell_putObj o' h ho _ _ (hf'.2 j x hx)⟩
    | stp W0 os0 =>
      have hf' : Stp W0 os0 W (own L R gs) := hf'
      exact ⟨by rw [hsz]; exact hf'.size, fun b hb hn => (World.putObj_heap_other (fun e => hn (by rw [e]; exact hs W0 os0 hf))).trans (hf'.block b hb hn), hf'.own⟩
theorem St.step0 (M : St w gs W L R fs) : St w gs W L R (.stp W (own L R gs) :: fs) := M.add (f := .stp W (own L R gs)) Stp.refl
theorem St.stp (M : St w gs W L R fs) (i : Nat) {W0 : World} {os0 : List (Option Nat)} (h : nth fs i = some (.stp W0 os0)) : Stp W0 os0 W (own L R gs) := M.fct _ (nth_mem h)
end
/-- What has been written is written no more. -/
theorem St.frzL {w W : World} {gs : List (Option Nat)} {L : Lc} {R : List Row} {fs : List Fact} {g : Nat} {T : TypeId} {cs : List Value} (M : St w gs W ((g, T, cs) :: L) R fs) : St w gs W L R (.loc ⟨g, 0, none⟩ cs :: fs) := by
  have hB := M.B 0 rfl
  have hg := (M.blk _ (List.mem_cons_self ..)).2
  have hap := M.ap
  rw [List.map_cons, List.cons_append, List.pairwise_cons] at hap
  have hn : some g ∉ own L R gs := fun e => by
    unfold own at e
    rw [← List.append_assoc] at e
    rcases List.mem_append.1 e with e | e
    · rcases hap.1 _ e with h | h
      · cases h
      · exact h rfl
    · have := M.lt g e
      have : w.heap.size ≤ g := hg
      omega
  exact M.dropL.addC (a := ⟨g, 0, none⟩) ⟨hB.lt, hn⟩ (M.run 0 rfl)
def Fact.weak : Fact → Fact
  | .dat _ ds cs => .dat false ds cs
  | .rng _ _ ds cs => .dat false ds cs
  | f => f
/-- Begun anew, behind a step that writes what is named. -/
theorem St.turn {w W W' : World} {gs gs' : List (Option Nat)} {fs : List Fact} (M : St w gs W [] [] fs) (s : Stp W gs W' gs') (h : ∀ b, some b ∈ gs' → b < W'.heap.size) : St W' gs' W' [] [] (fs.map Fact.weak) := by
  refine ⟨Below.refl _ _, h, (fun x h => by cases h), (fun x h => by cases h), List.Pairwise.nil, fun f hf => ?_⟩
  obtain ⟨f0, hf0, rfl⟩ := List.mem_map.1 hf
  have hk := M.fct f0 hf0
  have key : ∀ {fr : Bool} b, Ft w W gs fr b → W'.heap[b]? = W.heap[b]? ∧ Ft W' W' gs' false b := fun b hb => ⟨s.block b hb.1 hb.2.1, by have := s.size; have := hb.1; omega, fun e => hb.2.1 (s.own b hb.1 e), fun e => by cases e⟩
  cases f0 with
  | dat fr ds cs => exact RdL.to key (show RdL W (Ft w W gs fr) ds cs from hk)
  | rng lo hi ds cs => exact RdL.to (fun b hb => key b hb.1) (show RdL W (fun b => Ft w W gs true b ∧ lo ≤ b ∧ b < hi) ds cs from hk)
  | loc a cs =>
    obtain ⟨h1, h2⟩ := (show Ft w W gs false a.block ∧ _ from hk)
    obtain ⟨k1, k2⟩ := key _ h1
    exact ⟨k2, fun j x hx => (World.cell?_of_block (w := W) (a := a.add j) (by rw [block_of_add]; exact k1)).trans (h2 j x hx)⟩
  | stp W0 os0 => exact Stp.trans (show Stp W0 os0 W gs from hk) s
theorem St.fresh {w W : World} {gs : List (Option Nat)} {fs : List Fact} (M : St w gs W [] [] fs) : St W gs W [] [] (fs.map Fact.weak) := M.turn Stp.refl (fun b e => by have := M.lt b e; have := M.size; omega)
theorem St.noc {w W : World} {gs : List (Option Nat)} {L : Lc} {R : List Row} {fs : List Fact} (M : St w gs W L R fs) {k : Nat} {o : Obj} (h : W.heap[k]? = some o) (ho : o.isCells = false) (hk : w.heap.size ≤ k) : some k ∉ own L R gs := by
  intro e
  unfold own at e
  rcases List.mem_append.1 e with e | e
  · obtain ⟨x, hx, e⟩ := List.mem_map.1 e
    injection e with e
    have hb : W.heap[x.1]? = _ := (M.blk x hx).1
    rw [e, h] at hb
    injection hb with hb
    subst hb
    cases ho
  · rcases List.mem_append.1 e with e | e
    · obtain ⟨r, hr, e⟩ := List.mem_map.1 e
      rcases (M.row r hr).2 with ⟨e1, _⟩ | ⟨g, cap, cur, e1, _, hgb, _⟩
      · injection e1 with e1; rw [e1] at e; cases e
      · injection e1 with e1
        rw [e1] at e
        injection e with e
        dsimp only at e
        subst e
        rw [hgb] at h
        injection h with h
        subst h
        cases ho
    · have := M.lt k e; omega
def feed {α : Type} (go : List α → Bool) : List α → List α → List α × Bool
  | pre, [] => (pre, true)
  | pre, x :: r => match go (pre ++ [x]) with
    | true => feed go (pre ++ [x]) r
    | false => (pre ++ [x], false)
theorem feed_app {α : Type} (go : List α → Bool) : ∀ (l1 l2 pre : List α), feed go pre (l1 ++ l2) = match (feed go pre l1).2 with | true => feed go (feed go pre l1).1 l2 | false => ((feed go pre l1).1, false)
  | [], l2, pre => rfl
  | x :: l1, l2, pre => by
    rw [List.cons_append]
    cases h : go (pre ++ [x]) with
    | true => simp only [feed, h]; exact feed_app go l1 l2 _
    | false => simp only [feed, h]
theorem feed_go {α : Type} {go : List α → Bool} : ∀ (l pre : List α), go pre = true → go (feed go pre l).1 = (feed go pre l).2
  | [], pre, h => h
  | x :: l, pre, h => by
    unfold feed
    cases h : go (pre ++ [x]) with
    | true => exact feed_go l _ h
    | false => exact h
theorem feed_true {α : Type} {go : List α → Bool} : ∀ (l pre : List α), (feed go pre l).2 = true → (feed go pre l).1 = pre ++ l
  | [], pre, _ => (List.append_nil _).symm
  | x :: l, pre, h => by
    cases hx : go (pre ++ [x]) with
    | true =>
      simp only [feed, hx] at h ⊢
      rw [feed_true l _ h, List.append_assoc]; rfl
    | false => simp only [feed, hx] at h; cases h
theorem feed_one {α : Type} (go : List α → Bool) (pre : List α) (x : α) : feed go pre [x] = (pre ++ [x], go (pre ++ [x])) := by
  cases h : go (pre ++ [x]) <;> simp [feed, h]
/-- What a loop's body pays for each call of it. G: what it is told of what is handed in; J: what it keeps; the blocks that it writes are named. -/
structure YOk {α : Type} (P : Program) (l : Nat) (G : World → (Nat → Prop) → α → Array Value → Prop) (go : List α → Bool) (NB : Nat) (J : List (Option Nat) → List α → World → Prop) : Prop where
  stay : ∀ gs pre W W', J gs pre W → Below W.heap.size W W' → J gs pre W'
  lt : ∀ gs pre W b, J gs pre W → some b ∈ gs → b < W.heap.size
  round : ∀ gs pre W x vs, J gs pre W → go pre = true → pre.length < NB → G W (Fd W gs) x vs → ∃ fn tmps assign body, (Instr.yield l vs).run P W = .ok (.round l fn tmps assign body) W ∧
    ∀ n, RoundIn Fence.wide n P l fn tmps assign body W fun e W' => ∃ gs', e = .returned (.bool (go (pre ++ [x]))) ∧ Stp W gs W' gs' ∧ J gs' (pre ++ [x]) W'
theorem vy_of {α : Type} {P : Program} {l : Nat} {G : World → (Nat → Prop) → α → Array Value → Prop} {go : List α → Bool} {J : List (Option Nat) → List α → World → Prop} {NB : Nat} (hY : YOk P l G go NB J) {E : Env} {d : Option Nat} {f : Operand} {args : Array Operand} {ts : Array TypeId} {ty : TypeId} {p : String} {af : Array Edge} {g : Option (Nat × Bool)} {w : World} {k : Value → World → Prop} {gs : List (Option Nat)} {pre : List α} {x : α}
    (hf : val E f = .func (.yield l) #[] #[]) (hJ : J gs pre w) (hgo : go pre = true) (hnb : pre.length < NB) (hG : G w (Fd w gs) x (args.toList.map (val E)).toArray) (hk : ∀ gs' w', Stp w gs w' gs' → J gs' (pre ++ [x]) w' → k (.bool (go (pre ++ [x]))) w') :
    VY Fence.wide P E { dst := d, op := .call { callee := .value f, args := args, argTypes := ts }, type := ty, pos := p, after := af, guard := g } w k := by
  have ea : (args.toList.map (val E)).toArray = args.map (val E) := by apply Array.toList_inj.1; simp
  rw [ea] at hG
  obtain ⟨fn, tmps, assign, body, hr, hR⟩ := hY.round gs pre w x _ hJ hgo hnb hG
  refine ⟨l, fn, tmps, assign, body, ?_, fun n => (hR n).mono fun e W' he => ?_⟩
  · simp only [execOp, resolve, hf, Deferred.ofValue, Sem.run_bind, Sem.run_pure, Result.andThen_ok, invoke]
    simpa using hr
  · obtain ⟨gs', rfl, hs, hj⟩ := he
    exact ⟨_, rfl, hk _ _ hs hj⟩
/-- How a round's body may be left. -/
def rpost {α : Type} (Jc : List (Option Nat) → List α → World → Prop) (go : List α → Bool) (jc : List α → Code) (pre : List α) (gs1 : List (Option Nat)) (W2 : World) : Exit → Act → World → Prop
  | .normal, _, W3 => (∃ gs3, Stp W2 gs1 W3 gs3 ∧ Jc gs3 pre W3) ∧ go pre = true
  | .ret, _, W3 => (∃ gs3, Stp W2 gs1 W3 gs3 ∧ Jc gs3 pre W3) ∧ go pre = false ∧ jc pre = .ret
  | .exit i, _, W3 => (∃ gs3, Stp W2 gs1 W3 gs3 ∧ Jc gs3 pre W3) ∧ go pre = false ∧ jc pre = .exit i
  | .goto t, _, W3 => (∃ gs3, Stp W2 gs1 W3 gs3 ∧ Jc gs3 pre W3) ∧ go pre = false ∧ jc pre = .goto t
  | .panic _, _, _ => False
  | .outgrown, _, _ => False
abbrev markAt (D : Nat) : Deferred := { target := .collected D, args := #[] }
set_option maxHeartbeats 1000000 in
theorem range_wide {α : Type} {P : Program} {g : Operand} {ps : Array Tmp} {assign body : Code} {Q : Exit → Act → World → Prop} {a : Act} {w : World} {gf : Nat} {lb : Array Value}
    {G : World → (Nat → Prop) → α → Array Value → Prop} {go : List α → Bool} (NB : Nat) (jc : List α → Code) (xs : List α) (Jc : List (Option Nat) → List α → World → Prop) (gs0 : List (Option Nat))
    (hg : a.eval g = .func (.func gf) #[] lb) (eg : isFn P gf = true) (hps : ∀ W F x vs, G W F x vs → vs.size = ps.size) (hgo0 : go [] = true) (h0 : Jc gs0 [] w)
    (hseq : ∀ J W, Below w.heap.size w W → YOk P (w.heap.size + 1) G go NB J → J (some (w.heap.size + 1) :: some w.heap.size :: gs0) [] W → Calls P gf (#[.func (.yield (w.heap.size + 1)) #[] #[]] ++ lb) W fun e W' => (∃ v, e = .returned v) ∧ ∃ gs', J gs' (feed go [] xs).1 W')
    (stay : ∀ gs pre W W', Jc gs pre W → Below W.heap.size W W' → Jc gs pre W')
    (ltc : ∀ gs pre W b, Jc gs pre W → some b ∈ gs → b < W.heap.size)
    (noc : ∀ gs pre W k o, Jc gs pre W → W.heap[k]? = some o → o.isCells = false → w.heap.size ≤ k → some k ∉ gs)
    (put : ∀ gs pre W k o o', Jc gs pre W → w.heap.size ≤ k → W.heap[k]? = some o → o.isCells = false → o'.isCells = false → Jc gs pre (W.putObj k o'))
    (hround : ∀ n gs pre W x vs, Jc gs pre W → go pre = true → pre.length < NB → w.heap.size + 1 < W.heap.size → G W (Fd W (some (w.heap.size + 1) :: some w.heap.size :: gs)) x vs →
      assign.wpIn (Fence.wide.inRound (w.heap.size + 1)) n P (Exit.then (fun a1 W1 => ∃ gs1, Stp W gs W1 gs1 ∧ ∀ o o', W1.heap[w.heap.size + 1]? = some o → o.isCells = false → o'.isCells = false →
        body.wpIn (Fence.wide.inRound (w.heap.size + 1)) n P (rpost Jc go jc (pre ++ [x]) gs1 (W1.putObj (w.heap.size + 1) o')) a1 (W1.putObj (w.heap.size + 1) o')) (fun _ _ _ => False))
        { tmps := (ps.zip vs).foldl (fun t (p, v) => t.setIfInBounds p v) a.tmps, defers := [] } W)
    (hend : ∀ gs W, Jc gs (feed go [] xs).1 W → W.heap[w.heap.size]? = some (.deferred (some [])) → match (feed go [] xs).2 with
      | true => Q .normal { a with defers := markAt w.heap.size :: a.defers } W
      | false => (jc (feed go [] xs).1).wp P Q { a with defers := markAt w.heap.size :: a.defers } W) :
    (Code.rangeFunc g ps assign body).wp P Q a w := by
  refine wpIn_wide (n := 0).1 (wpIn_rangeFunc ?_)
  intro fn hfn
  obtain ⟨l0, hl0⟩ : ∃ l0, l0 = w.heap.size + 1 := ⟨_, rfl⟩
  obtain ⟨D, hD⟩ : ∃ D, D = w.heap.size := ⟨_, rfl⟩
  obtain ⟨rec, hrec⟩ : ∃ rec : LoopState → Option Code → Loop, rec = fun st pe => { state := st, pending := pe, fn, tmps := a.tmps, params := ps, assign, body, defers := w.heap.size } := ⟨_, rfl⟩
  obtain ⟨W1, hW1⟩ : ∃ W1, (w.alloc (.deferred (some []))).alloc (.loop (rec .ready none)) = W1 := ⟨_, rfl⟩
  have hL1 : W1.heap[l0]? = some (.loop (rec .ready none)) := by
    rw [← hW1, hl0]; have := World.alloc_heap_new (w.alloc (.deferred (some []))) (.loop (rec .ready none)); rwa [World.size_alloc] at this
  have hK1 : W1.heap[D]? = some (.deferred (some [])) := by
    rw [← hW1, hD]; exact (Below.heap_alloc _ _ _ (by simp)).trans (World.alloc_heap_new w _)
  have hb1 : Below w.heap.size w W1 := by
    rw [← hW1]; exact (((Below.refl _ w).alloc (Nat.le_refl _) _).alloc (by simp) _)
  have hI1 := stay _ _ _ _ h0 hb1
  rw [← hl0, ← hD] at hseq
  rw [← hD] at hend
  simp only [← hl0] at hround
  simp only [← hD] at hround
  have hDl : D ≠ l0 := by omega
  obtain ⟨J, hJ⟩ : ∃ J : List (Option Nat) → List α → World → Prop, J = fun gs pre W => ∃ gs', gs = some l0 :: some D :: gs' ∧ Jc gs' pre W ∧ W.heap[l0]? = some (.loop (rec (if go pre then .ready else .done) (if go pre then none else some (jc pre)))) ∧ W.heap[D]? = some (.deferred (some [])) := ⟨_, rfl⟩
  have hY : YOk P l0 G go NB J := by
    refine ⟨?_, ?_, ?_⟩
    · subst hJ
      rintro gs pre W W' ⟨gs', rfl, hc, hl, hd⟩ hb
      exact ⟨gs', rfl, stay _ _ _ _ hc hb, (hb.block _ (Array.getElem?_eq_some_iff.1 hl).1).trans hl, (hb.block _ (Array.getElem?_eq_some_iff.1 hd).1).trans hd⟩
    · subst hJ
      rintro gs pre W b ⟨gs', rfl, hc, hl, hd⟩ hm
      simp only [List.mem_cons, Option.some.injEq] at hm
      rcases hm with rfl | rfl | hm
      · exact (Array.getElem?_eq_some_iff.1 hl).1
      · exact (Array.getElem?_eq_some_iff.1 hd).1
      · exact ltc _ _ _ _ hc hm
    · intro gs pre W x vs hj hgo hnb hG
      rw [hJ] at hj
      obtain ⟨gs', rfl, hc, hl, hd⟩ := hj
      rw [hgo] at hl
      simp only [if_true] at hl
      have hlt : l0 < W.heap.size := (Array.getElem?_eq_some_iff.1 hl).1
      have hdt : D < W.heap.size := (Array.getElem?_eq_some_iff.1 hd).1
      have nl : some l0 ∉ gs' := noc _ _ _ _ _ hc hl rfl (by omega)
      have nd : some D ∉ gs' := noc _ _ _ _ _ hc hd rfl (by omega)
      have hy := run_yield (P := P) (args := vs) hl (by rw [hrec]; exact hps _ _ _ _ hG)
      rw [hrec] at hy
      refine ⟨fn, _, assign, body, hy, fun n => roundIn_of_wpIn trivial (wpIn_mono (hround n gs' pre W x vs hc hgo hnb hlt hG) ?_)⟩
      intro e a1 W1' he
      cases e with
      | normal =>
        obtain ⟨gs1, hs1, hbody⟩ := he
        have hl1 : W1'.heap[l0]? = some (.loop (rec .ready none)) := (hs1.block _ hlt nl).trans hl
        have hd1 : W1'.heap[D]? = some (.deferred (some [])) := (hs1.block _ hdt nd).trans hd
        have hlt1 := (Array.getElem?_eq_some_iff.1 hl1).1
        have hdt1 := (Array.getElem?_eq_some_iff.1 hd1).1
        have nl1 : some l0 ∉ gs1 := fun e => nl (hs1.own _ hlt e)
        have nd1 : some D ∉ gs1 := fun e => nd (hs1.own _ hdt e)
        refine ⟨_, run_beginRound hl1 (by rw [hrec]), wpIn_mono (hbody _ _ hl1 rfl rfl) ?_⟩
        obtain ⟨W2, hW2⟩ : ∃ W2, W2 = W1'.putObj l0 (.loop { rec .ready none with state := .busy }) := ⟨_, rfl⟩
        rw [← hW2]
        have hsz2 : W2.heap.size = W1'.heap.size := by rw [hW2]; exact World.putObj_size
        have hl2 : W2.heap[l0]? = some (.loop { rec .ready none with state := .busy }) := by rw [hW2]; exact World.putObj_heap_same hlt1
        have hd2 : W2.heap[D]? = some (.deferred (some [])) := by rw [hW2]; exact (World.putObj_heap_other hDl).trans hd1
        have fin : ∀ (jump : Option Code) (W3 : World), (∃ gs3, Stp W2 gs1 W3 gs3 ∧ Jc gs3 (pre ++ [x]) W3) → jump.isNone = go (pre ++ [x]) → (∀ c, jump = some c → c = jc (pre ++ [x])) →
            ∃ v w', (Instr.endRound l0 jump).run P W3 = .ok v w' ∧ ∃ gs'', Ending.returned v = .returned (.bool (go (pre ++ [x]))) ∧ Stp W (some l0 :: some D :: gs') w' gs'' ∧ J gs'' (pre ++ [x]) w' := by
          rintro jump W3 ⟨gs3, hs3, hc3⟩ hjn hjc
          have hl3 : W3.heap[l0]? = some (.loop { rec .ready none with state := .busy }) := (hs3.block _ (by omega) nl1).trans hl2
          have hd3 : W3.heap[D]? = some (.deferred (some [])) := (hs3.block _ (by omega) nd1).trans hd2
          have hr := run_endRound (P := P) jump hl3
          refine ⟨_, _, hr, some l0 :: some D :: gs3, by rw [hjn], ?_, ?_⟩
          · refine ⟨?_, fun b hb hn => ?_, fun b hb hm => ?_⟩
            · rw [World.putObj_size]; have := hs1.size; have := hs3.size; omega
            · simp only [List.mem_cons, Option.some.injEq, not_or] at hn
              obtain ⟨n1, n2, n3⟩ := hn
              have hb1 : b < W1'.heap.size := by have := hs1.size; omega
              rw [World.putObj_heap_other n1, hs3.block b (by omega) (fun e => n3 (hs1.own b hb e)), hW2, World.putObj_heap_other n1]
              exact hs1.block b hb n3
            · simp only [List.mem_cons, Option.some.injEq] at hm ⊢
              rcases hm with h | h | h
              · exact .inl h
              · exact .inr (.inl h)
              · have hb1 : b < W1'.heap.size := by have := hs1.size; omega
                exact .inr (.inr (hs1.own b hb (hs3.own b (by omega) h)))
          · rw [hJ]
            refine ⟨gs3, rfl, put _ _ _ _ _ _ hc3 (by omega) hl3 rfl rfl, ?_, (World.putObj_heap_other hDl).trans hd3⟩
            rw [World.putObj_heap_same (Array.getElem?_eq_some_iff.1 hl3).1]
            cases jump with
            | none => simp only [Option.isNone_none] at hjn ⊢; rw [← hjn, hrec]; simp
            | some c => simp only [Option.isNone_some] at hjn ⊢; rw [← hjn, hrec, hjc c rfl]; simp
        intro e a3 W3 hp
        cases e with
        | normal => exact fin none W3 hp.1 hp.2.symm (fun c e => by cases e)
        | ret => exact fin (some .ret) W3 hp.1 hp.2.1.symm (fun c e => by injection e with e; rw [← e, hp.2.2])
        | exit i => exact fin (some (.exit i)) W3 hp.1 hp.2.1.symm (fun c e => by injection e with e; rw [← e, hp.2.2])
        | goto t => exact fin (some (.goto t)) W3 hp.1 hp.2.1.symm (fun c e => by injection e with e; rw [← e, hp.2.2])
        | panic ch => exact hp.elim
        | outgrown => exact hp.elim
      | exit id => exact he.elim
      | goto t => exact he.elim
      | ret => exact he.elim
      | panic ch => exact he.elim
      | outgrown => exact he.elim
  have hJ1 : J (some l0 :: some D :: gs0) [] W1 := by rw [hJ]; exact ⟨gs0, rfl, hI1, by rw [hgo0]; exact hL1, hK1⟩
  refine ⟨l0, [markAt D], W1, { target := .fn (.func gf) lb, args := #[.func (.yield l0) #[] #[]] }, W1, gf,
    #[.func (.yield l0) #[] #[]] ++ lb, W1, ?_, ?_, ?_, ?_, (fun e => by cases e), ?_⟩
  · rw [← hW1, hrec, hl0, hD]; exact run_enterLoop_outer _ _ _ _ _
  · simp only [resolve, hg]
    simp [go_sem]
  · intro f' hf'; trivial
  · have := run_enter (w := W1) (args := #[.func (.yield l0) #[] #[]] ++ lb) eg
    simpa [invoke] using this
  · refine callsIn_wide.2 ((hseq J W1 (by rw [hD]; exact hb1) hY hJ1).mono ?_)
    rintro e W2 ⟨⟨v, rfl⟩, gs', hj⟩
    rw [hJ] at hj
    obtain ⟨gs2, rfl, hc, hl, hd⟩ := hj
    have hfg : go (feed go [] xs).1 = (feed go [] xs).2 := feed_go xs [] hgo0
    rw [hfg] at hl
    have hr := run_endLoop (P := P) hl (by cases (feed go [] xs).2 <;> simp [hrec])
    have he := hend gs2 (W2.putObj l0 (.loop { rec (if (feed go [] xs).2 then .ready else .done) (if (feed go [] xs).2 then none else some (jc (feed go [] xs).1)) with state := .exhausted })) (put _ _ _ _ _ _ hc (by omega) hl rfl rfl) ((World.putObj_heap_other hDl).trans hd)
    refine ⟨_, _, hr, ?_⟩
    revert he
    rw [hrec]
    cases hb : (feed go [] xs).2 with
    | true => intro he; exact he
    | false => intro he; exact wpIn_wide.2 he
end Go.Proofs.YtdlljmmgkoeilaaDoor
