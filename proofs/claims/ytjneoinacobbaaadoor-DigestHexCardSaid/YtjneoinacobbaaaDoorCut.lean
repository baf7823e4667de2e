/- Cuts in the walk that reckons: what follows asks no more of what stands ahead than what the cut says. -/
import Derived.Test.YtjneoinacobbaaaDoorOp
namespace Go.Proofs.YtjneoinacobbaaaDoor
open Go.RowKit

section
variable {P : Program} {ops : Array Oper} {E : Env} {w : World} {K : Env → World → Prop}
theorem dr (S : World → Prop) (L : List (Nat × Bool)) (h : schedOk ops L = true) (hS : S w.drew) (hd : evD P S ops.toList L E w.drew K) : VDraw P ops E w K := ⟨.inl ⟨S, L, h, hS, hd⟩⟩
/-- Nothing is asked of the world behind the last operation. -/
theorem drZ (z : Nat) (S : World → Prop) (L : List (Nat × Bool)) (h : schedOkZ ops z L = true) (hS : S w.drew) (hd : evD P S ops.toList L E w.drew (lastK P ops.toList z K)) : VDraw P ops E w K := ⟨.inr (.inl ⟨S, L, z, h, hS, hd⟩)⟩
/-- Orders as a tree. -/
theorem drT (S : World → Prop) (T : Sch) (h : schedOkT ops T = true) (hS : S w.drew) (hd : evT P S ops.toList T E w.drew K) : VDraw P ops E w K := ⟨.inr (.inr ⟨S, T, h, hS, hd⟩)⟩
theorem dr0 (L : List (Nat × Bool)) (h : schedOk ops L = true) (hd : evD P (fun _ => True) ops.toList L E w.drew K) : VDraw P ops E w K := ⟨.inl ⟨_, L, h, trivial, hd⟩⟩
/-- A loop. -/
theorem lp {B : Env → World → Kont → Prop} {K : Kont} (S : Type) (I : S → World → Prop) (L : S → List (Nat × Value)) (μ : S → Nat) (s0 : S) (h0 : I s0 w) (ha : agrees E (L s0))
    (hr : ∀ s E w, I s w → B (over E (L s)) w (fun x E' w' => match x with | .normal => ∃ s', I s' w' ∧ agrees E' (L s') ∧ μ s' < μ s | x => K x E' w')) : VLoop B E w K := ⟨S, I, L, μ, ⟨s0, h0, ha⟩, hr⟩
theorem evOp_mono {o : Oper} {k1 k2 : Value → World → Prop} (h : ∀ v w, k1 v w → k2 v w) (h' : evOp P o E w k1) : evOp P o E w k2 := by
  have vval : VVal P E o w k1 → VVal P E o w k2 := fun ⟨v, w', hr, hv⟩ => ⟨v, w', hr, h _ _ hv⟩
  have vpure : (VPure P E o fun v => k1 v w) → (VPure P E o fun v => k2 v w) := fun ⟨v, hr, hv⟩ => ⟨v, hr, h _ _ hv⟩
  have vskip : VSkip P E o w k1 → VSkip P E o w k2 := fun ⟨w', hr, hv⟩ => ⟨w', hr, h _ _ hv⟩
  have vcall : ∀ {f args}, VCall P f args w k1 → VCall P f args w k2 := fun hc => ⟨hc.fn, hc.go.mono fun e w' ⟨v, he, hv⟩ => ⟨v, he, h _ _ hv⟩⟩
  obtain ⟨dst, op, type, pos, after, guard⟩ := o
  cases op
  case move x => exact h _ _ h'
  case assign x => exact h _ _ h'
  case pick c x y =>
    simp only [evOp] at h' ⊢
    split at h'
    · exact h _ _ h'
    · exact h _ _ h'
    · exact h'
  case extract t i =>
    simp only [evOp] at h' ⊢
    split at h'
    · split at h'
      · exact h _ _ h'
      · exact h'
    · exact h'
  case store => exact vskip h'
  case call c =>
    obtain ⟨callee, args, ts⟩ := c
    cases callee with
    | invoke r m => exact h'
    | builtin b =>
      simp only [evOp] at h' ⊢
      split at h'
      · exact vpure h'
      · exact vval h'
    | value x =>
      cases x with
      | func f => exact vcall h'
      | tmp t => simp only [evOp] at h' ⊢; split at h' <;> first | exact vcall h' | exact h'
      | const t => simp only [evOp] at h' ⊢; split at h' <;> first | exact vcall h' | exact h'
      | global t => simp only [evOp] at h' ⊢; split at h' <;> first | exact vcall h' | exact h'
  all_goals first | exact vpure h' | exact vval h'
theorem evStep_mono {o : Oper} {k1 k2 : Env → World → Prop} (h : ∀ v w, k1 v w → k2 v w) (h' : evStep P o E w k1) : evStep P o E w k2 := by
  unfold evStep at h' ⊢
  cases hop : o.op
  case move x => rw [hop] at h'; exact h _ _ h'
  case assign x => rw [hop] at h'; exact h _ _ h'
  case pick c x y =>
    rw [hop] at h'
    simp only [] at h' ⊢
    split at h'
    · exact h _ _ h'
    · exact h _ _ h'
    · exact h'
  all_goals (rw [hop] at h'; exact evOp_mono (fun v w => h _ _) h')
theorem evOps_mono {K1 K2 : Env → World → Prop} (h : ∀ E w, K1 E w → K2 E w) (all : List Oper) : ∀ (l : List Oper) (E : Env) (w : World), evOps P all l E w K1 → evOps P all l E w K2 := by
  intro l
  induction l with
  | nil => intro E w h'; exact h _ _ h'
  | cons o r ih =>
    intro E w h'
    unfold evOps at h' ⊢
    split
    · rename_i hb; rw [hb] at h'; exact evStep_mono (fun E w => ih E w) h'
    · rename_i hb; rw [hb] at h'; exact ih _ _ h'
theorem evTake_mono {S : World → Prop} {o : Oper} {k1 k2 : Value → Prop} (h : ∀ v, k1 v → k2 v) (h' : evTake P S o E k1) : evTake P S o E k2 := by
  have vheld : VHeld P S E o k1 → VHeld P S E o k2 := fun ⟨v, hr, hv⟩ => ⟨v, hr, h _ hv⟩
  have vpure : VPure P E o k1 → VPure P E o k2 := fun ⟨v, hr, hv⟩ => ⟨v, hr, h _ hv⟩
  obtain ⟨dst, op, type, pos, after, guard⟩ := o
  cases op
  case move x => exact h _ h'
  case assign x => exact h _ h'
  case pick c x y =>
    simp only [evTake] at h' ⊢
    split at h'
    · exact h _ h'
    · exact h _ h'
    · exact h'
  case extract t i =>
    simp only [evTake] at h' ⊢
    split at h'
    · split at h'
      · exact h _ h'
      · exact h'
    · exact h'
  case call c =>
    obtain ⟨callee, args, ts⟩ := c
    cases callee with
    | invoke r m => exact h'
    | builtin b =>
      simp only [evTake] at h' ⊢
      split at h'
      · exact vpure h'
      · exact vheld h'
    | value x => exact h'
  all_goals first | exact vpure h' | exact vheld h'
theorem evTakeE_mono {S : World → Prop} {o : Oper} {k1 k2 : Env → Prop} (h : ∀ v, k1 v → k2 v) (h' : evTakeE P S o E k1) : evTakeE P S o E k2 := by
  unfold evTakeE at h' ⊢
  cases hop : o.op
  case move x => rw [hop] at h'; exact h _ h'
  case assign x => rw [hop] at h'; exact h _ h'
  case pick c x y =>
    rw [hop] at h'
    simp only [] at h' ⊢
    split at h'
    · exact h _ h'
    · exact h _ h'
    · exact h'
  all_goals (rw [hop] at h'; exact evTake_mono (fun v => h _) h')
theorem evD_mono {S : World → Prop} {K1 K2 : Env → World → Prop} (h : ∀ E w, K1 E w → K2 E w) (all : List Oper) : ∀ (L : List (Nat × Bool)) (E : Env) (w : World), evD P S all L E w K1 → evD P S all L E w K2 := by
  intro L
  induction L with
  | nil => intro E w h'; exact h _ _ h'
  | cons x r ih =>
    obtain ⟨i, take⟩ := x
    intro E w h'
    simp only [evD] at h' ⊢
    split
    · rename_i hn; simp only [hn] at h'
    · rename_i o hn
      simp only [hn] at h'
      split
      · rename_i hb; simp only [hb] at h'; exact ih _ _ h'
      · rename_i hb
        simp only [hb] at h'
        cases take with
        | true => exact evTakeE_mono (fun E => ih E w) h'
        | false => exact evStep_mono (fun E w h => ⟨h.1, ih _ _ h.2⟩) h'
theorem lastK_mono {K1 K2 : Env → World → Prop} (h : ∀ E w, K1 E w → K2 E w) (all : List Oper) (z : Nat) (E : Env) (w : World) (h' : lastK P all z K1 E w) : lastK P all z K2 E w := by
  unfold lastK at h' ⊢
  split at h'
  · exact h'
  · split at h'
    · exact evStep_mono h h'
    · exact h _ _ h'
theorem evB_mono {S : World → Prop} {all : List Oper} {i : Nat} {E : Env} {w : World} {K1 K2 : Env → World → Prop} (h : ∀ E w, K1 E w → K2 E w) (h' : evB P S all i E w K1) : evB P S all i E w K2 := by
  unfold evB at h' ⊢
  split at h'
  · exact h'
  · split at h'
    · exact h _ _ h'
    · exact evStep_mono (fun _ _ k => ⟨k.1, h _ _ k.2⟩) h'
theorem evT_mono {S : World → Prop} {K1 K2 : Env → World → Prop} (h : ∀ E w, K1 E w → K2 E w) (all : List Oper) : ∀ (T : Sch) (E : Env) (w : World), evT P S all T E w K1 → evT P S all T E w K2
  | .nil, E, w, h' => h E w h'
  | .take i r, E, w, h' => by
    unfold evT at h' ⊢
    split at h'
    · exact h'
    · split at h'
      · exact evT_mono h all r _ _ h'
      · exact evTakeE_mono (fun _ k => evT_mono h all r _ _ k) h'
  | .one i r, E, w, h' => evB_mono (fun E w => evT_mono h all r E w) h'
  | .two i r j s, E, w, h' => ⟨evB_mono (fun E w => evT_mono h all r E w) h'.1, evB_mono (fun E w => evT_mono h all s E w) h'.2⟩
  | .three i r j s k t, E, w, h' => ⟨evB_mono (fun E w => evT_mono h all r E w) h'.1, evB_mono (fun E w => evT_mono h all s E w) h'.2.1, evB_mono (fun E w => evT_mono h all t E w) h'.2.2⟩
theorem evT_graft {S : World → Prop} {K : Env → World → Prop} {X : Sch} (all : List Oper) : ∀ (T : Sch) (E : Env) (w : World), evT P S all T E w (fun E w => evT P S all X E w K) → evT P S all (T.graft X) E w K
  | .nil, E, w, h' => h'
  | .take i r, E, w, h' => by
    unfold evT at h'
    unfold Sch.graft evT
    split at h'
    · exact h'
    · split at h'
      · exact evT_graft all r _ _ h'
      · exact evTakeE_mono (fun _ k => evT_graft all r _ _ k) h'
  | .one i r, E, w, h' => evB_mono (fun E w => evT_graft all r E w) h'
  | .two i r j s, E, w, h' => ⟨evB_mono (fun E w => evT_graft all r E w) h'.1, evB_mono (fun E w => evT_graft all s E w) h'.2⟩
  | .three i r j s k t, E, w, h' => ⟨evB_mono (fun E w => evT_graft all r E w) h'.1, evB_mono (fun E w => evT_graft all s E w) h'.2.1, evB_mono (fun E w => evT_graft all t E w) h'.2.2⟩
theorem VDraw_mono {ops : Array Oper} {E : Env} {w : World} {K1 K2 : Env → World → Prop} (h : ∀ E w, K1 E w → K2 E w) (h' : VDraw P ops E w K1) : VDraw P ops E w K2 := by
  rcases h'.go with ⟨S, L, hs, hS, hD⟩ | ⟨S, L, z, hs, hS, hD⟩ | ⟨S, T, hs, hS, hD⟩
  · exact ⟨.inl ⟨S, L, hs, hS, evD_mono h _ _ _ _ hD⟩⟩
  · exact ⟨.inr (.inl ⟨S, L, z, hs, hS, evD_mono (lastK_mono h _ _) _ _ _ _ hD⟩)⟩
  · exact ⟨.inr (.inr ⟨S, T, hs, hS, evT_mono h _ _ _ _ hD⟩)⟩
theorem ev_mono : ∀ (c : Code) (E : Env) (w : World) (K1 K2 : Kont), (∀ x E w, K1 x E w → K2 x E w) → ev P c E w K1 → ev P c E w K2 := by
  intro c
  induction c with
  | skip => intro E w K1 K2 h h'; exact h _ _ _ h'
  | label l => intro E w K1 K2 h h'; exact h _ _ _ h'
  | exit i => intro E w K1 K2 h h'; exact h _ _ _ h'
  | goto l => intro E w K1 K2 h h'; exact h _ _ _ h'
  | ret => intro E w K1 K2 h h'; exact h _ _ _ h'
  | scope b ih =>
    intro E w K1 K2 h h'
    refine ih _ _ _ _ ?_ h'
    intro x E w hx
    cases x with
    | normal => exact h _ _ _ hx
    | exit i => exact h _ _ _ hx
    | goto l => exact hx
    | ret => exact h _ _ _ hx
  | rangeFunc f ps x b iha ihb => intro E w K1 K2 h h'; exact h'.elim
  | refuse why => intro E w K1 K2 h h'; exact h'.elim
  | seq x y ihx ihy =>
    intro E w K1 K2 h h'
    refine ihx _ _ _ _ ?_ h'
    intro x E w hx
    cases x with
    | normal => exact ihy _ _ _ _ h hx
    | exit i => exact h _ _ _ hx
    | goto l => exact h _ _ _ hx
    | ret => exact h _ _ _ hx
  | cond c t f iht ihf =>
    intro E w K1 K2 h h'
    simp only [ev] at h' ⊢
    split at h'
    · exact iht _ _ _ _ h h'
    · exact ihf _ _ _ _ h h'
    · exact h'
  | block id b ih =>
    intro E w K1 K2 h h'
    refine ih _ _ _ _ ?_ h'
    intro x E w hx
    cases x with
    | normal => exact h _ _ _ hx
    | exit i =>
      unfold blockK at hx ⊢
      dsimp only at hx ⊢
      cases hb : Nat.beq i id with
      | true => rw [hb] at hx; exact h _ _ _ hx
      | false => rw [hb] at hx; exact h _ _ _ hx
    | goto l => exact h _ _ _ hx
    | ret => exact h _ _ _ hx
  | loop b ih =>
    intro E w K1 K2 h h'
    obtain ⟨S, I, L, μ, h0, hr⟩ := h'.go
    refine ⟨S, I, L, μ, h0, fun s E w hi => ih _ _ _ _ ?_ (hr s E w hi)⟩
    intro x E w hx
    cases x with
    | normal => exact hx
    | exit i => exact h _ _ _ hx
    | goto l => exact h _ _ _ hx
    | ret => exact h _ _ _ hx
  | region id ops draw =>
    intro E w K1 K2 h h'
    cases draw with
    | false => exact evOps_mono (fun E w => h .normal E w) _ _ _ _ h'
    | true =>
      exact VDraw_mono (fun E w => h .normal E w) h'

theorem ev_iff {c : Operand} {x y : Code} {K : Kont} (hc : val E c = .bool false) (h : ev P y E w K) : ev P (.cond c x y) E w K := by unfold ev; rw [hc]; exact h
theorem ev_ift {c : Operand} {x y : Code} {K : Kont} (hc : val E c = .bool true) (h : ev P x E w K) : ev P (.cond c x y) E w K := by unfold ev; rw [hc]; exact h
theorem ev_skp {K : Kont} (h : normK K E w) : ev P .skip E w K := h
theorem nx {f : Env → World → Kont → Prop} {K : Kont} (h : f E w K) : normK (thenK f K) E w := h
theorem nb {i : Nat} {K : Kont} (h : normK K E w) : normK (blockK i K) E w := h
theorem evOps_nil {all : List Oper} (h : K E w) : evOps P all [] E w K := h
/-- Cut at the end of a region. -/
theorem cutO {all l : List Oper} (S : Type) (J : S → World → Prop) (L : S → List (Nat × Value)) (h1 : evOps P all l E w (fun E' w' => ∃ s, J s w' ∧ agrees E' (L s))) (h2 : ∀ s B w', J s w' → K (over B (L s)) w') : evOps P all l E w K := by
  refine evOps_mono (fun E' w' h => ?_) _ _ _ _ h1
  obtain ⟨s, hj, ha⟩ := h
  rw [← over_of_agrees ha]
  exact h2 s E' w' hj
theorem cutD {T : World → Prop} {all : List Oper} {l : List (Nat × Bool)} (S : Type) (J : S → World → Prop) (L : S → List (Nat × Value)) (h1 : evD P T all l E w (fun E' w' => ∃ s, J s w' ∧ agrees E' (L s))) (h2 : ∀ s B w', J s w' → K (over B (L s)) w') : evD P T all l E w K := by
  refine evD_mono (fun E' w' h => ?_) _ _ _ _ h1
  obtain ⟨s, hj, ha⟩ := h
  rw [← over_of_agrees ha]
  exact h2 s E' w' hj
theorem cutV (S : Type) (J : S → World → Prop) (L : S → List (Nat × Value)) (h1 : VDraw P ops E w (fun E' w' => ∃ s, J s w' ∧ agrees E' (L s))) (h2 : ∀ s B w', J s w' → K (over B (L s)) w') : VDraw P ops E w K := by
  have hc : ∀ E' w', (∃ s, J s w' ∧ agrees E' (L s)) → K E' w' := fun E' w' ⟨s, hj, ha⟩ => by rw [← over_of_agrees ha]; exact h2 s E' w' hj
  exact VDraw_mono hc h1
/-- A cut between two parts of the orders. -/
theorem cutT {T : World → Prop} {all : List Oper} {X Y : Sch} (S : Type) (J : S → World → Prop) (L : S → List (Nat × Value)) (h1 : evT P T all X E w (fun E' w' => ∃ s, J s w' ∧ agrees E' (L s))) (h2 : ∀ s B w', J s w' → evT P T all Y (over B (L s)) w' K) : evT P T all (X.graft Y) E w K :=
  evT_graft all X E w (evT_mono (fun E' w' ⟨s, hj, ha⟩ => by rw [← over_of_agrees ha]; exact h2 s E' w' hj) all X E w h1)
/-- A cut behind a piece of code. -/
theorem cutS {c1 c2 : Code} {K : Kont} (S : Type) (J : S → World → Prop) (L : S → List (Nat × Value)) (h1 : ev P c1 E w (fun x E w => match x with | .normal => ∃ s, J s w ∧ agrees E (L s) | x => K x E w)) (h2 : ∀ s B w', J s w' → ev P c2 (over B (L s)) w' K) : ev P (.seq c1 c2) E w K := by
  refine ev_mono c1 E w _ _ ?_ h1
  intro x E w hx
  cases x with
  | normal =>
    obtain ⟨s, hj, ha⟩ := hx
    show ev P c2 E w K
    rw [← over_of_agrees ha]
    exact h2 s E w hj
  | exit i => exact hx
  | goto l => exact hx
  | ret => exact hx
end
end Go.Proofs.YtjneoinacobbaaaDoor
