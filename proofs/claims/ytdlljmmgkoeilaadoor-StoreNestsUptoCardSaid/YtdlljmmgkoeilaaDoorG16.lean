/- The walk that reckons: a range over a function. No program in sight. The walk that reckons, for functions that hold a range over a function. No program in sight. Seek: what is found, told one behind another; the walk of the closure 'own'. -/
import Derived.Test.YtdlljmmgkoeilaaDoorG15
import Derived.Test.YtdlljmmgkoeilaaDoorG04
import Derived.RangeFuncKeeps
import Derived.RangeFuncBox
import Derived.RangeFuncLeaves
import Derived.Test.YtdlljmmgkoeilaaDoorG13
namespace Go.Proofs.YtdlljmmgkoeilaaDoor
open Go.RowKit
section
variable {W W' : World} {F F' : Nat → Prop}
mutual
theorem RdD.cells (h : ∀ a x, W.cell? a = some x → W'.cell? a = some x) (hF : ∀ b, F b → F' b) : ∀ {d : D} {u : Value}, RdD W F d u → RdD W' F' d u
  | .v x, u, hd => by unfold RdD at hd ⊢; exact hd
  | .sl s n l, u, hd => by
    unfold RdD at hd ⊢
    obtain ⟨A, c, cs, h1, h2, h3, h4, h5⟩ := hd
    refine ⟨A, c, cs, h1, h2, h3, RdL.cells h hF h4, fun hn => ?_⟩
    obtain ⟨b, off, h6, h7, h8⟩ := h5 hn
    exact ⟨b, off, h6, hF b h7, fun j x hx => h _ _ (h8 j x hx)⟩
theorem RdL.cells (h : ∀ a x, W.cell? a = some x → W'.cell? a = some x) (hF : ∀ b, F b → F' b) : ∀ {ds : List D} {cs : List Value}, RdL W F ds cs → RdL W' F' ds cs
  | [], cs, hd => by unfold RdL at hd ⊢; exact hd
  | d :: ds, cs, hd => by
    unfold RdL at hd ⊢
    obtain ⟨u, us, h1, h2, h3⟩ := hd
    exact ⟨u, us, h1, RdD.cells h hF h2, RdL.cells h hF h3⟩
end
theorem cell_putObj {k : Nat} {o : Obj} (o' : Obj) (hk : W.heap[k]? = some o) (ho : o.isCells = false) (a : Addr) (x : Value) (h : W.cell? a = some x) : (W.putObj k o').cell? a = some x := by
  rcases Classical.em (a.block = k) with e | e
  · unfold World.cell? at h
    rw [e, hk] at h
    cases o <;> first | (cases ho; done) | cases h
  · exact (World.cell?_of_block (World.putObj_heap_other e)).trans h
end
section
variable {w W W' : World} {gs : List (Option Nat)} {L : Lc} {R : List Row} {fs : List Fact}
/-- What is no cells turns. -/
theorem St.putObj (M : St w gs W L R fs) {k : Nat} {o : Obj} (o' : Obj) (hk : w.heap.size ≤ k) (h : W.heap[k]? = some o) (ho : o.isCells = false) (ho' : o'.isCells = false) (hs : ∀ W0 os0, Fact.stp W0 os0 ∈ fs → some k ∈ os0) : St w gs (W.putObj k o') L R fs := by
  have hg := grownBy_putObj' W k o'
  have hsz : (W.putObj k o').heap.size = W.heap.size := World.putObj_size
  refine ⟨M.below.grown hg M.size (fun b e => by injection e with e; subst e; exact hk), M.lt, fun x hx => ⟨(M.blk x hx).1.grownN hg (fun e => ?_), (M.blk x hx).2⟩, fun r hr => ownsRow_putObj (M.row r hr) o' h ho, M.ap, fun f hf => ?_⟩
  · have hb : W.heap[x.1]? = _ := (M.blk x hx).1
    rw [← e, h] at hb
    injection hb with hb
    subst hb
    cases ho
  · have ft : ∀ {fr : Bool} b, Ft w W (own L R gs) fr b → Ft w (W.putObj k o') (own L R gs) fr b := fun b hb => ⟨by rw [hsz]; exact hb.1, hb.2.1, fun e => ⟨(hb.2.2 e).1, fun cs T z hc => by
      by_cases e2 : b = k
      · subst e2
        rw [World.putObj_heap_same (Array.getElem?_eq_some_iff.1 h).1] at hc
        injection hc with hc
        subst hc
        cases ho'
      · rw [World.putObj_heap_other e2] at hc
        exact (hb.2.2 e).2 cs T z hc⟩⟩
    have hf' := M.fct f hf
    cases f with
    | dat fr ds cs => exact RdL.cells (fun a x => cell_putObj o' h ho a x) ft hf'
    | rng lo hi ds cs => exact RdL.cells (fun a x => cell_putObj o' h ho a x) (fun b hb => ⟨ft b hb.1, hb.2⟩) hf'
    | loc a cs => exact ⟨ft _ hf'.1, fun j x hx => cell_putObj o' h ho _ _ (hf'.2 j x hx)⟩
    | stp W0 os0 =>
      have hf' : Stp W0 os0 W (own L R gs) := hf'
      exact ⟨by rw [hsz]; exact hf'.size, fun b hb hn => (World.putObj_heap_other (fun e => hn (by rw [e]; exact hs W0 os0 hf))).trans (hf'.block b hb hn), hf'.own⟩
theorem St.step0 (M : St w gs W L R fs) : St w gs W L R (.stp W (own L R gs) :: fs) := M.add (f := .stp W (own L R gs)) Stp.refl
theorem St.stp (M : St w gs W L R fs) (i : Nat) {W0 : World} {os0 : List (Option Nat)} (h : nth fs i = some (.stp W0 os0)) : Stp W0 os0 W (own L R gs) := M.fct _ (nth_mem h)
end
/-- What has been written is written no more. -/
theorem St.frzL {w W : World} {gs : List (Option Nat)} {L : Lc} {R : List Row} {fs : List Fact} {g : Nat} {T : TypeId} {cs : List Value} (M : St w gs W ((g, T, cs) :: L) R fs) : St w gs W L R (.loc ⟨g, 0, none⟩ cs :: fs) := by
  have hB := M.B 0 rfl
  have hg := (M.blk _ (List.mem_cons_self ..)).2
  have hap := M.ap
  rw [List.map_cons, List.cons_append, List.pairwise_cons] at hap
  have hn : some g ∉ own L R gs := fun e => by
    unfold own at e
    rw [← List.append_assoc] at e
    rcases List.mem_append.1 e with e | e
    · rcases hap.1 _ e with h | h
      · cases h
      · exact h rfl
    · have := M.lt g e
      have : w.heap.size ≤ g := hg
      omega
  exact M.dropL.addC (a := ⟨g, 0, none⟩) ⟨hB.lt, hn⟩ (M.run 0 rfl)
def Fact.weak : Fact → Fact
  | .dat _ ds cs => .dat false ds cs
  | .rng _ _ ds cs => .dat false ds cs
  | f => f
/-- Begun anew, behind a step that writes what is named. -/
theorem St.turn {w W W' : World} {gs gs' : List (Option Nat)} {fs : List Fact} (M : St w gs W [] [] fs) (s : Stp W gs W' gs') (h : ∀ b, some b ∈ gs' → b < W'.heap.size) : St W' gs' W' [] [] (fs.map Fact.weak) := by
  refine ⟨Below.refl _ _, h, (fun x h => by cases h), (fun x h => by cases h), List.Pairwise.nil, fun f hf => ?_⟩
  obtain ⟨f0, hf0, rfl⟩ := List.mem_map.1 hf
  have hk := M.fct f0 hf0
  have key : ∀ {fr : Bool} b, Ft w W gs fr b → W'.heap[b]? = W.heap[b]? ∧ Ft W' W' gs' false b := fun b hb => ⟨s.block b hb.1 hb.2.1, by have := s.size; have := hb.1; omega, fun e => hb.2.1 (s.own b hb.1 e), fun e => by cases e⟩
  cases f0 with
  | dat fr ds cs => exact RdL.to key (show RdL W (Ft w W gs fr) ds cs from hk)
  | rng lo hi ds cs => exact RdL.to (fun b hb => key b hb.1) (show RdL W (fun b => Ft w W gs true b ∧ lo ≤ b ∧ b < hi) ds cs from hk)
  | loc a cs =>
    obtain ⟨h1, h2⟩ := (show Ft w W gs false a.block ∧ _ from hk)
    obtain ⟨k1, k2⟩ := key _ h1
    exact ⟨k2, fun j x hx => (World.cell?_of_block (w := W) (a := a.add j) (by rw [block_of_add]; exact k1)).trans (h2 j x hx)⟩
  | stp W0 os0 => exact Stp.trans (show Stp W0 os0 W gs from hk) s
theorem St.fresh {w W : World} {gs : List (Option Nat)} {fs : List Fact} (M : St w gs W [] [] fs) : St W gs W [] [] (fs.map Fact.weak) := M.turn Stp.refl (fun b e => by have := M.lt b e; have := M.size; omega)
theorem St.noc {w W : World} {gs : List (Option Nat)} {L : Lc} {R : List Row} {fs : List Fact} (M : St w gs W L R fs) {k : Nat} {o : Obj} (h : W.heap[k]? = some o) (ho : o.isCells = false) (hk : w.heap.size ≤ k) : some k ∉ own L R gs := by
  intro e
  unfold own at e
  rcases List.mem_append.1 e with e | e
  · obtain ⟨x, hx, e⟩ := List.mem_map.1 e
    injection e with e
    have hb : W.heap[x.1]? = _ := (M.blk x hx).1
    rw [e, h] at hb
    injection hb with hb
    subst hb
    cases ho
  · rcases List.mem_append.1 e with e | e
    · obtain ⟨r, hr, e⟩ := List.mem_map.1 e
      rcases (M.row r hr).2 with ⟨e1, _⟩ | ⟨g, cap, cur, e1, _, hgb, _⟩
      · injection e1 with e1; rw [e1] at e; cases e
      · injection e1 with e1
        rw [e1] at e
        injection e with e
        dsimp only at e
        subst e
        rw [hgb] at h
        injection h with h
        subst h
        cases ho
    · have := M.lt k e; omega
def feed {α : Type} (go : List α → Bool) : List α → List α → List α × Bool
  | pre, [] => (pre, true)
  | pre, x :: r => match go (pre ++ [x]) with
    | true => feed go (pre ++ [x]) r
    | false => (pre ++ [x], false)
theorem feed_app {α : Type} (go : List α → Bool) : ∀ (l1 l2 pre : List α), feed go pre (l1 ++ l2) = match (feed go pre l1).2 with | true => feed go (feed go pre l1).1 l2 | false => ((feed go pre l1).1, false)
  | [], l2, pre => rfl
  | x :: l1, l2, pre => by
    rw [List.cons_append]
    cases h : go (pre ++ [x]) with
    | true => simp only [feed, h]; exact feed_app go l1 l2 _
    | false => simp only [feed, h]
theorem feed_go {α : Type} {go : List α → Bool} : ∀ (l pre : List α), go pre = true → go (feed go pre l).1 = (feed go pre l).2
  | [], pre, h => h
  | x :: l, pre, h => by
    unfold feed
    cases h : go (pre ++ [x]) with
    | true => exact feed_go l _ h
    | false => exact h
theorem feed_true {α : Type} {go : List α → Bool} : ∀ (l pre : List α), (feed go pre l).2 = true → (feed go pre l).1 = pre ++ l
  | [], pre, _ => (List.append_nil _).symm
  | x :: l, pre, h => by
    cases hx : go (pre ++ [x]) with
    | true =>
      simp only [feed, hx] at h ⊢
      rw [feed_true l _ h, List.append_assoc]; rfl
    | false => simp only [feed, hx] at h; cases h
theorem feed_one {α : Type} (go : List α → Bool) (pre : List α) (x : α) : feed go pre [x] = (pre ++ [x], go (pre ++ [x])) := by
  cases h : go (pre ++ [x]) <;> simp [feed, h]
/-- What a loop's body pays for each call of it. G: what it is told of what is handed in; J: what it keeps; the blocks that it writes are named. -/
structure YOk {α : Type} (P : Program) (l : Nat) (G : World → (Nat → Prop) → α → Array Value → Prop) (go : List α → Bool) (NB : Nat) (J : List (Option Nat) → List α → World → Prop) : Prop where
  stay : ∀ gs pre W W', J gs pre W → Below W.heap.size W W' → J gs pre W'
  lt : ∀ gs pre W b, J gs pre W → some b ∈ gs → b < W.heap.size
  round : ∀ gs pre W x vs, J gs pre W → go pre = true → pre.length < NB → G W (Fd W gs) x vs → ∃ fn tmps assign body, (Instr.yield l vs).run P W = .ok (.round l fn tmps assign body) W ∧
    ∀ n, RoundIn Fence.wide n P l fn tmps assign body W fun e W' => ∃ gs', e = .returned (.bool (go (pre ++ [x]))) ∧ Stp W gs W' gs' ∧ J gs' (pre ++ [x]) W'
theorem vy_of {α : Type} {P : Program} {l : Nat} {G : World → (Nat → Prop) → α → Array Value → Prop} {go : List α → Bool} {J : List (Option Nat) → List α → World → Prop} {NB : Nat} (hY : YOk P l G go NB J) {E : Env} {d : Option Nat} {f : Operand} {args : Array Operand} {ts : Array TypeId} {ty : TypeId} {p : String} {af : Array Edge} {g : Option (Nat × Bool)} {w : World} {k : Value → World → Prop} {gs : List (Option Nat)} {pre : List α} {x : α}
    (hf : val E f = .func (.yield l) #[] #[]) (hJ : J gs pre w) (hgo : go pre = true) (hnb : pre.length < NB) (hG : G w (Fd w gs) x (args.toList.map (val E)).toArray) (hk : ∀ gs' w', Stp w gs w' gs' → J gs' (pre ++ [x]) w' → k (.bool (go (pre ++ [x]))) w') :
    VY Fence.wide P E { dst := d, op := .call { callee := .value f, args := args, argTypes := ts }, type := ty, pos := p, after := af, guard := g } w k := by
  have ea : (args.toList.map (val E)).toArray = args.map (val E) := by apply Array.toList_inj.1; simp
  rw [ea] at hG
  obtain ⟨fn, tmps, assign, body, hr, hR⟩ := hY.round gs pre w x _ hJ hgo hnb hG
  refine ⟨l, fn, tmps, assign, body, ?_, fun n => (hR n).mono fun e W' he => ?_⟩
  · simp only [execOp, resolve, hf, Deferred.ofValue, Sem.run_bind, Sem.run_pure, Result.andThen_ok, invoke]
    simpa using hr
  · obtain ⟨gs', rfl, hs, hj⟩ := he
    exact ⟨_, rfl, hk _ _ hs hj⟩
/-- How a round's body may be left. -/
def rpost {α : Type} (Jc : List (Option Nat) → List α → World → Prop) (go : List α → Bool) (jc : List α → Code) (pre : List α) (gs1 : List (Option Nat)) (W2 : World) : Exit → Act → World → Prop
  | .normal, _, W3 => (∃ gs3, Stp W2 gs1 W3 gs3 ∧ Jc gs3 pre W3) ∧ go pre = true
  | .ret, _, W3 => (∃ gs3, Stp W2 gs1 W3 gs3 ∧ Jc gs3 pre W3) ∧ go pre = false ∧ jc pre = .ret
  | .exit i, _, W3 => (∃ gs3, Stp W2 gs1 W3 gs3 ∧ Jc gs3 pre W3) ∧ go pre = false ∧ jc pre = .exit i
  | .goto t, _, W3 => (∃ gs3, Stp W2 gs1 W3 gs3 ∧ Jc gs3 pre W3) ∧ go pre = false ∧ jc pre = .goto t
  | .panic _, _, _ => False
  | .outgrown, _, _ => False
abbrev markAt (D : Nat) : Deferred := { target := .collected D, args := #[] }
set_option maxHeartbeats 1000000 in
theorem range_wide {α : Type} {P : Program} {g : Operand} {ps : Array Tmp} {assign body : Code} {Q : Exit → Act → World → Prop} {a : Act} {w : World} {gf : Nat} {lb : Array Value}
    {G : World → (Nat → Prop) → α → Array Value → Prop} {go : List α → Bool} (NB : Nat) (jc : List α → Code) (xs : List α) (Jc : List (Option Nat) → List α → World → Prop) (gs0 : List (Option Nat))
    (hg : a.eval g = .func (.func gf) #[] lb) (eg : isFn P gf = true) (hps : ∀ W F x vs, G W F x vs → vs.size = ps.size) (hgo0 : go [] = true) (h0 : Jc gs0 [] w)
    (hseq : ∀ J W, Below w.heap.size w W → YOk P (w.heap.size + 1) G go NB J → J (some (w.heap.size + 1) :: some w.heap.size :: gs0) [] W → Calls P gf (#[.func (.yield (w.heap.size + 1)) #[] #[]] ++ lb) W fun e W' => (∃ v, e = .returned v) ∧ ∃ gs', J gs' (feed go [] xs).1 W')
    (stay : ∀ gs pre W W', Jc gs pre W → Below W.heap.size W W' → Jc gs pre W')
    (ltc : ∀ gs pre W b, Jc gs pre W → some b ∈ gs → b < W.heap.size)
    (noc : ∀ gs pre W k o, Jc gs pre W → W.heap[k]? = some o → o.isCells = false → w.heap.size ≤ k → some k ∉ gs)
    (put : ∀ gs pre W k o o', Jc gs pre W → w.heap.size ≤ k → W.heap[k]? = some o → o.isCells = false → o'.isCells = false → Jc gs pre (W.putObj k o'))
    (hround : ∀ n gs pre W x vs, Jc gs pre W → go pre = true → pre.length < NB → w.heap.size + 1 < W.heap.size → G W (Fd W (some (w.heap.size + 1) :: some w.heap.size :: gs)) x vs →
      assign.wpIn (Fence.wide.inRound (w.heap.size + 1)) n P (Exit.then (fun a1 W1 => ∃ gs1, Stp W gs W1 gs1 ∧ ∀ o o', W1.heap[w.heap.size + 1]? = some o → o.isCells = false → o'.isCells = false →
        body.wpIn (Fence.wide.inRound (w.heap.size + 1)) n P (rpost Jc go jc (pre ++ [x]) gs1 (W1.putObj (w.heap.size + 1) o')) a1 (W1.putObj (w.heap.size + 1) o')) (fun _ _ _ => False))
        { tmps := (ps.zip vs).foldl (fun t (p, v) => t.setIfInBounds p v) a.tmps, defers := [] } W)
    (hend : ∀ gs W, Jc gs (feed go [] xs).1 W → W.heap[w.heap.size]? = some (.deferred (some [])) → match (feed go [] xs).2 with
      | true => Q .normal { a with defers := markAt w.heap.size :: a.defers } W
      | false => (jc (feed go [] xs).1).wp P Q { a with defers := markAt w.heap.size :: a.defers } W) :
    (Code.rangeFunc g ps assign body).wp P Q a w := by
  refine wpIn_wide (n := 0).1 (wpIn_rangeFunc ?_)
  intro fn hfn
  obtain ⟨l0, hl0⟩ : ∃ l0, l0 = w.heap.size + 1 := ⟨_, rfl⟩
  obtain ⟨D, hD⟩ : ∃ D, D = w.heap.size := ⟨_, rfl⟩
  obtain ⟨rec, hrec⟩ : ∃ rec : LoopState → Option Code → Loop, rec = fun st pe => { state := st, pending := pe, fn, tmps := a.tmps, params := ps, assign, body, defers := w.heap.size } := ⟨_, rfl⟩
  obtain ⟨W1, hW1⟩ : ∃ W1, (w.alloc (.deferred (some []))).alloc (.loop (rec .ready none)) = W1 := ⟨_, rfl⟩
  have hL1 : W1.heap[l0]? = some (.loop (rec .ready none)) := by
    rw [← hW1, hl0]; have := World.alloc_heap_new (w.alloc (.deferred (some []))) (.loop (rec .ready none)); rwa [World.size_alloc] at this
  have hK1 : W1.heap[D]? = some (.deferred (some [])) := by
    rw [← hW1, hD]; exact (Below.heap_alloc _ _ _ (by simp)).trans (World.alloc_heap_new w _)
  have hb1 : Below w.heap.size w W1 := by
    rw [← hW1]; exact (((Below.refl _ w).alloc (Nat.le_refl _) _).alloc (by simp) _)
  have hI1 := stay _ _ _ _ h0 hb1
  rw [← hl0, ← hD] at hseq
  rw [← hD] at hend
  simp only [← hl0] at hround
  simp only [← hD] at hround
  have hDl : D ≠ l0 := by omega
  obtain ⟨J, hJ⟩ : ∃ J : List (Option Nat) → List α → World → Prop, J = fun gs pre W => ∃ gs', gs = some l0 :: some D :: gs' ∧ Jc gs' pre W ∧ W.heap[l0]? = some (.loop (rec (if go pre then .ready else .done) (if go pre then none else some (jc pre)))) ∧ W.heap[D]? = some (.deferred (some [])) := ⟨_, rfl⟩
  have hY : YOk P l0 G go NB J := by
    refine ⟨?_, ?_, ?_⟩
    · subst hJ
      rintro gs pre W W' ⟨gs', rfl, hc, hl, hd⟩ hb
      exact ⟨gs', rfl, stay _ _ _ _ hc hb, (hb.block _ (Array.getElem?_eq_some_iff.1 hl).1).trans hl, (hb.block _ (Array.getElem?_eq_some_iff.1 hd).1).trans hd⟩
    · subst hJ
      rintro gs pre W b ⟨gs', rfl, hc, hl, hd⟩ hm
      simp only [List.mem_cons, Option.some.injEq] at hm
      rcases hm with rfl | rfl | hm
      · exact (Array.getElem?_eq_some_iff.1 hl).1
      · exact (Array.getElem?_eq_some_iff.1 hd).1
      · exact ltc _ _ _ _ hc hm
    · intro gs pre W x vs hj hgo hnb hG
      rw [hJ] at hj
      obtain ⟨gs', rfl, hc, hl, hd⟩ := hj
      rw [hgo] at hl
      simp only [if_true] at hl
      have hlt : l0 < W.heap.size := (Array.getElem?_eq_some_iff.1 hl).1
      have hdt : D < W.heap.size := (Array.getElem?_eq_some_iff.1 hd).1
      have nl : some l0 ∉ gs' := noc _ _ _ _ _ hc hl rfl (by omega)
      have nd : some D ∉ gs' := noc _ _ _ _ _ hc hd rfl (by omega)
      have hy := run_yield (P := P) (args := vs) hl (by rw [hrec]; exact hps _ _ _ _ hG)
      rw [hrec] at hy
      refine ⟨fn, _, assign, body, hy, fun n => roundIn_of_wpIn trivial (wpIn_mono (hround n gs' pre W x vs hc hgo hnb hlt hG) ?_)⟩
      intro e a1 W1' he
      cases e with
      | normal =>
        obtain ⟨gs1, hs1, hbody⟩ := he
        have hl1 : W1'.heap[l0]? = some (.loop (rec .ready none)) := (hs1.block _ hlt nl).trans hl
        have hd1 : W1'.heap[D]? = some (.deferred (some [])) := (hs1.block _ hdt nd).trans hd
        have hlt1 := (Array.getElem?_eq_some_iff.1 hl1).1
        have hdt1 := (Array.getElem?_eq_some_iff.1 hd1).1
        have nl1 : some l0 ∉ gs1 := fun e => nl (hs1.own _ hlt e)
        have nd1 : some D ∉ gs1 := fun e => nd (hs1.own _ hdt e)
        refine ⟨_, run_beginRound hl1 (by rw [hrec]), wpIn_mono (hbody _ _ hl1 rfl rfl) ?_⟩
        obtain ⟨W2, hW2⟩ : ∃ W2, W2 = W1'.putObj l0 (.loop { rec .ready none with state := .busy }) := ⟨_, rfl⟩
        rw [← hW2]
        have hsz2 : W2.heap.size = W1'.heap.size := by rw [hW2]; exact World.putObj_size
        have hl2 : W2.heap[l0]? = some (.loop { rec .ready none with state := .busy }) := by rw [hW2]; exact World.putObj_heap_same hlt1
        have hd2 : W2.heap[D]? = some (.deferred (some [])) := by rw [hW2]; exact (World.putObj_heap_other hDl).trans hd1
        have fin : ∀ (jump : Option Code) (W3 : World), (∃ gs3, Stp W2 gs1 W3 gs3 ∧ Jc gs3 (pre ++ [x]) W3) → jump.isNone = go (pre ++ [x]) → (∀ c, jump = some c → c = jc (pre ++ [x])) →
            ∃ v w', (Instr.endRound l0 jump).run P W3 = .ok v w' ∧ ∃ gs'', Ending.returned v = .returned (.bool (go (pre ++ [x]))) ∧ Stp W (some l0 :: some D :: gs') w' gs'' ∧ J gs'' (pre ++ [x]) w' := by
          rintro jump W3 ⟨gs3, hs3, hc3⟩ hjn hjc
          have hl3 : W3.heap[l0]? = some (.loop { rec .ready none with state := .busy }) := (hs3.block _ (by omega) nl1).trans hl2
          have hd3 : W3.heap[D]? = some (.deferred (some [])) := (hs3.block _ (by omega) nd1).trans hd2
          have hr := run_endRound (P := P) jump hl3
          refine ⟨_, _, hr, some l0 :: some D :: gs3, by rw [hjn], ?_, ?_⟩
          · refine ⟨?_, fun b hb hn => ?_, fun b hb hm => ?_⟩
            · rw [World.putObj_size]; have := hs1.size; have := hs3.size; omega
            · simp only [List.mem_cons, Option.some.injEq, not_or] at hn
              obtain ⟨n1, n2, n3⟩ := hn
              have hb1 : b < W1'.heap.size := by have := hs1.size; omega
              rw [World.putObj_heap_other n1, hs3.block b (by omega) (fun e => n3 (hs1.own b hb e)), hW2, World.putObj_heap_other n1]
              exact hs1.block b hb n3
            · simp only [List.mem_cons, Option.some.injEq] at hm ⊢
              rcases hm with h | h | h
              · exact .inl h
              · exact .inr (.inl h)
              · have hb1 : b < W1'.heap.size := by have := hs1.size; omega
                exact .inr (.inr (hs1.own b hb (hs3.own b (by omega) h)))
          · rw [hJ]
            refine ⟨gs3, rfl, put _ _ _ _ _ _ hc3 (by omega) hl3 rfl rfl, ?_, (World.putObj_heap_other hDl).trans hd3⟩
            rw [World.putObj_heap_same (Array.getElem?_eq_some_iff.1 hl3).1]
            cases jump with
            | none => simp only [Option.isNone_none] at hjn ⊢; rw [← hjn, hrec]; simp
            | some c => simp only [Option.isNone_some] at hjn ⊢; rw [← hjn, hrec, hjc c rfl]; simp
        intro e a3 W3 hp
        cases e with
        | normal => exact fin none W3 hp.1 hp.2.symm (fun c e => by cases e)
        | ret => exact fin (some .ret) W3 hp.1 hp.2.1.symm (fun c e => by injection e with e; rw [← e, hp.2.2])
        | exit i => exact fin (some (.exit i)) W3 hp.1 hp.2.1.symm (fun c e => by injection e with e; rw [← e, hp.2.2])
        | goto t => exact fin (some (.goto t)) W3 hp.1 hp.2.1.symm (fun c e => by injection e with e; rw [← e, hp.2.2])
        | panic ch => exact hp.elim
        | outgrown => exact hp.elim
      | exit id => exact he.elim
      | goto t => exact he.elim
      | ret => exact he.elim
      | panic ch => exact he.elim
      | outgrown => exact he.elim
  have hJ1 : J (some l0 :: some D :: gs0) [] W1 := by rw [hJ]; exact ⟨gs0, rfl, hI1, by rw [hgo0]; exact hL1, hK1⟩
  refine ⟨l0, [markAt D], W1, { target := .fn (.func gf) lb, args := #[.func (.yield l0) #[] #[]] }, W1, gf,
    #[.func (.yield l0) #[] #[]] ++ lb, W1, ?_, ?_, ?_, ?_, (fun e => by cases e), ?_⟩
  · rw [← hW1, hrec, hl0, hD]; exact run_enterLoop_outer _ _ _ _ _
  · simp only [resolve, hg]
    simp [go_sem]
  · intro f' hf'; trivial
  · have := run_enter (w := W1) (args := #[.func (.yield l0) #[] #[]] ++ lb) eg
    simpa [invoke] using this
  · refine callsIn_wide.2 ((hseq J W1 (by rw [hD]; exact hb1) hY hJ1).mono ?_)
    rintro e W2 ⟨⟨v, rfl⟩, gs', hj⟩
    rw [hJ] at hj
    obtain ⟨gs2, rfl, hc, hl, hd⟩ := hj
    have hfg : go (feed go [] xs).1 = (feed go [] xs).2 := feed_go xs [] hgo0
    rw [hfg] at hl
    have hr := run_endLoop (P := P) hl (by cases (feed go [] xs).2 <;> simp [hrec])
    have he := hend gs2 (W2.putObj l0 (.loop { rec (if (feed go [] xs).2 then .ready else .done) (if (feed go [] xs).2 then none else some (jc (feed go [] xs).1)) with state := .exhausted })) (put _ _ _ _ _ _ hc (by omega) hl rfl rfl) ((World.putObj_heap_other hDl).trans hd)
    refine ⟨_, _, hr, ?_⟩
    revert he
    rw [hrec]
    cases hb : (feed go [] xs).2 with
    | true => intro he; exact he
    | false => intro he; exact wpIn_wide.2 he
end Go.Proofs.YtdlljmmgkoeilaaDoor
namespace Go.Proofs.YtdlljmmgkoeilaaDoor
open Go.RowKit
variable {δ : List Deferred}
abbrev Kont2 := Ex → List Deferred → Env → World → Prop
def HoldsR (n : Nat) (K : Kont2) : Exit → Act → World → Prop
  | .normal, a, w => ∃ δ E, Fits δ n a E ∧ K .normal δ E w
  | .exit i, a, w => ∃ δ E, Fits δ n a E ∧ K (.exit i) δ E w
  | .goto l, a, w => ∃ δ E, Fits δ n a E ∧ K (.goto l) δ E w
  | .ret, a, w => ∃ δ E, Fits δ n a E ∧ K .ret δ E w
  | .panic _, _, _ => False
  | .outgrown, _, _ => False
structure VRf (P : Program) (n : Nat) (c : Code) (δ : List Deferred) (E : Env) (w : World) (K : Kont2) : Prop where
  go : ∀ a, Fits δ n a E → c.wp P (HoldsR n K) a w
def blockR (id : Nat) (K : Kont2) : Kont2 := fun x δ E w => match x with
  | .normal => K .normal δ E w
  | .exit i => (match Nat.beq i id with | true => K .normal δ E w | false => K (.exit i) δ E w)
  | .goto l => K (.goto l) δ E w
  | .ret => K .ret δ E w
def scopeR (K : Kont2) : Kont2 := fun x δ E w => match x with
  | .normal => K .normal δ E w
  | .exit i => K (.exit i) δ E w
  | .goto _ => False
  | .ret => K .ret δ E w
def evR (P : Program) (n : Nat) : Code → List Deferred → Env → World → Kont2 → Prop
  | .skip, δ, E, w, K => K .normal δ E w
  | .label _, δ, E, w, K => K .normal δ E w
  | .seq a b, δ, E, w, K => evR P n a δ E w (fun x δ E w => match x with
    | .normal => evR P n b δ E w K
    | .exit i => K (.exit i) δ E w
    | .goto l => K (.goto l) δ E w
    | .ret => K .ret δ E w)
  | .cond c t f, δ, E, w, K => (match val E c with | .bool true => evR P n t δ E w K | .bool false => evR P n f δ E w K | _ => False)
  | .block id body, δ, E, w, K => evR P n body δ E w (blockR id K)
  | .region id ops draw, δ, E, w, K => ev P (.region id ops draw) E w (fun x E w => K x δ E w)
  | .exit id, δ, E, w, K => K (.exit id) δ E w
  | .goto l, δ, E, w, K => K (.goto l) δ E w
  | .ret, δ, E, w, K => K .ret δ E w
  | .scope body, δ, E, w, K => evR P n body δ E w (scopeR K)
  | .rangeFunc g ps x b, δ, E, w, K => VRf P n (.rangeFunc g ps x b) δ E w K
  | _, _, _, _, _ => False
def dstOkR (n : Nat) : Code → Bool
  | .region _ ops _ => ops.all fun o => dstIn n o.dst
  | .seq a b => dstOkR n a && dstOkR n b
  | .cond _ a b => dstOkR n a && dstOkR n b
  | .block _ b => dstOkR n b
  | .scope b => dstOkR n b
  | _ => true
section
variable {P : Program}
theorem evR_sound {n : Nat} (hm : P.follows .mixedOrders = true) : ∀ (c : Code) (δ : List Deferred) (E : Env) (w : World) (K : Kont2) (a : Act), dstOkR n c = true → Fits δ n a E → evR P n c δ E w K → c.wp P (HoldsR n K) a w := by
  intro c
  induction c with
  | skip => intro δ E w K a _ hf h; exact wp_skip ⟨δ, E, hf, h⟩
  | label l => intro δ E w K a _ hf h; exact wp_label ⟨δ, E, hf, h⟩
  | exit i => intro δ E w K a _ hf h; exact wp_exit ⟨δ, E, hf, h⟩
  | goto l => intro δ E w K a _ hf h; exact wp_goto ⟨δ, E, hf, h⟩
  | ret => intro δ E w K a _ hf h; exact wp_ret ⟨δ, E, hf, h⟩
  | seq x y ihx ihy =>
    intro δ E w K a hd hf h
    simp only [dstOkR, Bool.and_eq_true] at hd
    refine wp_seq (wp_mono (ihx _ _ _ _ _ hd.1 hf h) ?_)
    intro e a w h
    cases e with
    | normal => obtain ⟨δ, E, hf, hk⟩ := h; exact ihy _ _ _ _ _ hd.2 hf hk
    | exit i => exact h
    | goto l => exact h
    | ret => exact h
    | panic c => exact h
    | outgrown => exact h
  | cond c t f iht ihf =>
    intro δ E w K a hd hf h
    simp only [dstOkR, Bool.and_eq_true] at hd
    have hc : a.eval c = val E c := by rw [hf.eval]
    simp only [evR] at h
    split at h
    · rename_i hb; exact wp_cond (t := true) (by rw [hc, hb]) (iht _ _ _ _ _ hd.1 hf h)
    · rename_i hb; exact wp_cond (t := false) (by rw [hc, hb]) (ihf _ _ _ _ _ hd.2 hf h)
    · exact h.elim
  | block id b ih =>
    intro δ E w K a hd hf h
    refine wp_block (wp_mono (ih _ _ _ _ _ hd hf h) ?_)
    intro x a w h
    cases x with
    | exit i =>
      obtain ⟨δ, E, hf, hk⟩ := h
      unfold blockR at hk
      dsimp only at hk
      show (if i = id then _ else _)
      cases hb : Nat.beq i id with
      | true => rw [hb] at hk; rw [if_pos (Nat.eq_of_beq_eq_true hb)]; exact ⟨δ, E, hf, hk⟩
      | false => rw [hb] at hk; rw [if_neg (fun e => by subst e; simp at hb)]; exact ⟨δ, E, hf, hk⟩
    | normal => exact h
    | goto l => exact h
    | ret => exact h
    | panic c => exact h
    | outgrown => exact h
  | loop b ih => intro δ E w K a _ _ h; exact h.elim
  | region id ops draw =>
    intro δ E w K a hd hf h
    refine wp_mono (ev_sound (δ := δ) hm (.region id ops draw) E w _ a hd hf h) ?_
    intro x a w h
    cases x with
    | normal => obtain ⟨E, hf, hk⟩ := h; exact ⟨δ, E, hf, hk⟩
    | exit i => obtain ⟨E, hf, hk⟩ := h; exact ⟨δ, E, hf, hk⟩
    | goto l => obtain ⟨E, hf, hk⟩ := h; exact ⟨δ, E, hf, hk⟩
    | ret => obtain ⟨E, hf, hk⟩ := h; exact ⟨δ, E, hf, hk⟩
    | panic c => exact h
    | outgrown => exact h
  | scope b ih =>
    intro δ E w K a hd hf h
    refine wp_scope_straight (wp_mono (ih _ _ _ _ _ hd hf h) ?_)
    intro x a w h
    cases x with
    | normal => exact h
    | exit i => exact h
    | goto l => obtain ⟨δ, E, hf, hk⟩ := h; exact hk.elim
    | ret => exact h
    | panic c => exact h
    | outgrown => exact h
  | rangeFunc f ps x b iha ihb => intro δ E w K a _ hf h; exact VRf.go h a hf
  | refuse why => intro δ E w K a _ hf h; exact h.elim
def endRf (P : Program) (fn : Func) (R : Ending → World → Prop) (δ : List Deferred) (E : Env) (w : World) : Prop :=
  (δ = [] ∧ resIs P E w fn.results.toList fun vs => R (.returned (tupleOf vs)) w) ∨
  (∃ D, δ = [markAt D] ∧ w.heap[D]? = some (.deferred (some [])) ∧ resIs P E (w.putObj D (.deferred none)) fn.results.toList fun vs => R (.returned (tupleOf vs)) (w.putObj D (.deferred none)))
def retRf (P : Program) (fn : Func) (R : Ending → World → Prop) : Kont2 := fun x δ E w => match x with
  | .normal => endRf P fn R δ E w
  | .ret => endRf P fn R δ E w
  | _ => False
theorem endRf_leaves {fn : Func} {R : Ending → World → Prop} {n : Nat} {a : Act} {E : Env} {w : World} (hf : Fits δ n a E) (h : endRf P fn R δ E w) : LeavesInM Fence.wide 0 P fn a.tmps R a.defers .returning w := by
  rw [hf.2.1]
  rcases h with ⟨rfl, h⟩ | ⟨D, rfl, hK, h⟩
  · obtain ⟨vs, hr, hk⟩ := res_run hf h
    exact ⟨_, hr, hk⟩
  · obtain ⟨vs, hr, hk⟩ := res_run hf h
    exact ⟨by simp, .inl ⟨D, _, rfl, run_takeDeferred hK, ⟨_, hr, hk⟩⟩⟩
/-- A call comes to what its body comes to, a range over a function among it. -/
theorem calls_evR {f : FuncId} {fn : Func} {c : Code} {args : List Value} {w : World} {R : Ending → World → Prop} (hm : P.follows .mixedOrders = true) (hf : P.funcs[f]? = some fn) (hb : fn.body = some c)
    (hd : (dstOkR fn.ntmps c && Nat.ble args.length fn.ntmps) = true) (h : evR P fn.ntmps c [] (start args) w (retRf P fn R)) : Calls P f args.toArray w R := by
  simp only [Bool.and_eq_true] at hd
  have hn : args.length ≤ fn.ntmps := Nat.le_of_ble_eq_true hd.2
  refine callsIn_wide.1 (callsIn_of_wp_marks (n := 0) hf hb trivial (wpIn_wide.2 (wp_mono (evR_sound hm c _ _ _ _ _ hd.1 (start_fits args _ hn) h) ?_)))
  intro x a w hx
  cases x with
  | normal => obtain ⟨δ, E, hfit, hk⟩ := hx; exact endRf_leaves hfit hk
  | ret => obtain ⟨δ, E, hfit, hk⟩ := hx; exact endRf_leaves hfit hk
  | exit i => obtain ⟨δ, E, hfit, hk⟩ := hx; exact hk.elim
  | goto l => obtain ⟨δ, E, hfit, hk⟩ := hx; exact hk.elim
  | panic c => exact hx.elim
  | outgrown => exact hx.elim
/-- How a round's body may be left. -/
def xpost {α : Type} (Jc : List (Option Nat) → List α → World → Prop) (go : List α → Bool) (jc : List α → Code) (pre : List α) (gs1 : List (Option Nat)) (W2 : World) : Ex → World → Prop
  | .normal, W3 => (∃ gs3, Stp W2 gs1 W3 gs3 ∧ Jc gs3 pre W3) ∧ go pre = true
  | .ret, W3 => (∃ gs3, Stp W2 gs1 W3 gs3 ∧ Jc gs3 pre W3) ∧ go pre = false ∧ jc pre = .ret
  | .exit i, W3 => (∃ gs3, Stp W2 gs1 W3 gs3 ∧ Jc gs3 pre W3) ∧ go pre = false ∧ jc pre = .exit i
  | .goto t, W3 => (∃ gs3, Stp W2 gs1 W3 gs3 ∧ Jc gs3 pre W3) ∧ go pre = false ∧ jc pre = .goto t
def jumpR (c : Code) (K : Kont2) (D : Nat) (E : Env) (w : World) : Prop := match c with
  | .ret => K .ret [markAt D] E w
  | .exit i => K (.exit i) [markAt D] E w
  | .goto t => K (.goto t) [markAt D] E w
  | _ => False
theorem vrf {α : Type} (hm : P.follows .mixedOrders = true) {n p gf : Nat} {g : Operand} {assign body : Code} {E : Env} {w : World} {K : Kont2} {lb : Array Value}
    {G : World → (Nat → Prop) → α → Array Value → Prop} {go : List α → Bool} (NB : Nat) (jc : List α → Code) (xs : List α) (Jc : List (Option Nat) → List α → World → Prop) (gs0 : List (Option Nat)) (ys : Nat → Option Nat)
    (hst : (dstOk n assign && (ndOk assign && (flatOk ys assign && (dstOk n body && (ndOk body && (flatOk ys body && Nat.blt p n)))))) = true)
    (hg : val E g = .func (.func gf) #[] lb) (eg : isFn P gf = true) (hps : ∀ W F x vs, G W F x vs → vs.size = 1) (hgo0 : go [] = true) (h0 : Jc gs0 [] w)
    (hseq : ∀ J W, Below w.heap.size w W → YOk P (w.heap.size + 1) G go NB J → J (some (w.heap.size + 1) :: some w.heap.size :: gs0) [] W → Calls P gf (#[.func (.yield (w.heap.size + 1)) #[] #[]] ++ lb) W fun e W' => (∃ v, e = .returned v) ∧ ∃ gs', J gs' (feed go [] xs).1 W')
    (stay : ∀ gs pre W W', Jc gs pre W → Below W.heap.size W W' → Jc gs pre W')
    (ltc : ∀ gs pre W b, Jc gs pre W → some b ∈ gs → b < W.heap.size)
    (noc : ∀ gs pre W k o, Jc gs pre W → W.heap[k]? = some o → o.isCells = false → w.heap.size ≤ k → some k ∉ gs)
    (put : ∀ gs pre W k o o', Jc gs pre W → w.heap.size ≤ k → W.heap[k]? = some o → o.isCells = false → o'.isCells = false → Jc gs pre (W.putObj k o'))
    (hround : ∀ gs pre W x v, Jc gs pre W → go pre = true → pre.length < NB → w.heap.size + 1 < W.heap.size → G W (Fd W (some (w.heap.size + 1) :: some w.heap.size :: gs)) x #[v] →
      evX (Fence.wide.inRound (w.heap.size + 1)) P ys assign (upd E (some p) v) W (fun e E1 W1 => e = .normal ∧ ∃ gs1, Stp W gs W1 gs1 ∧ ∀ o o', W1.heap[w.heap.size + 1]? = some o → o.isCells = false → o'.isCells = false →
        evX (Fence.wide.inRound (w.heap.size + 1)) P ys body E1 (W1.putObj (w.heap.size + 1) o') (fun e _ W3 => xpost Jc go jc (pre ++ [x]) gs1 (W1.putObj (w.heap.size + 1) o') e W3)))
    (hend : ∀ gs W, Jc gs (feed go [] xs).1 W → W.heap[w.heap.size]? = some (.deferred (some [])) → match (feed go [] xs).2 with
      | true => K .normal [markAt w.heap.size] E W
      | false => jumpR (jc (feed go [] xs).1) K w.heap.size E W) :
    VRf P n (.rangeFunc g #[p] assign body) [] E w K := by
  refine ⟨fun a hf => ?_⟩
  simp only [Bool.and_eq_true] at hst
  obtain ⟨d1, n1, f1, d2, n2, f2, hp⟩ := hst
  have fitm : ∀ D, Fits [markAt D] n { a with defers := markAt D :: a.defers } E := fun D => ⟨hf.1, by rw [hf.2.1], hf.2.2⟩
  refine range_wide (P := P) NB jc xs Jc gs0 (by rw [hf.eval]; exact hg) eg (by simpa using hps) hgo0 h0 hseq stay ltc noc put ?_ ?_
  · intro m gs pre W x vs hc hgo hnb hl hG
    obtain ⟨v, rfl⟩ : ∃ v, vs = #[v] := Array.size_eq_one_iff.1 (hps _ _ _ _ hG)
    have hfit : Fits [] n (a.put (some p) v) (upd E (some p) v) := hf.put (d := some p) hp v
    have hact : ({ tmps := (#[p].zip #[v]).foldl (fun t (p, v) => t.setIfInBounds p v) a.tmps, defers := [] } : Act) = a.put (some p) v := by
      have := hf.2.1
      simp [Act.put, this]
    rw [hact]
    refine wpIn_mono (evX_in (fx_round _) hm assign _ _ _ _ d1 n1 f1 hfit (hround gs pre W x v hc hgo hnb hl hG)) ?_
    intro e a1 W1 he
    cases e with
    | normal =>
      obtain ⟨E1, hf1, -, gs1, hs, hb⟩ := he
      refine ⟨gs1, hs, fun o o' ho hoc hoc' => wpIn_mono (evX_in (fx_round _) hm body _ _ _ _ d2 n2 f2 hf1 (hb o o' ho hoc hoc')) ?_⟩
      intro e a3 W3 he
      cases e with
      | normal => obtain ⟨E, _, h⟩ := he; exact h
      | exit i => obtain ⟨E, _, h⟩ := he; exact h
      | goto t => obtain ⟨E, _, h⟩ := he; exact h
      | ret => obtain ⟨E, _, h⟩ := he; exact h
      | panic c => exact he
      | outgrown => exact he
    | exit i => obtain ⟨E, _, h, _⟩ := he; cases h
    | goto t => obtain ⟨E, _, h, _⟩ := he; cases h
    | ret => obtain ⟨E, _, h, _⟩ := he; cases h
    | panic c => exact he
    | outgrown => exact he
  · intro gs W hc hk
    have h := hend gs W hc hk
    revert h
    cases (feed go [] xs).2 with
    | true => intro h; exact ⟨_, E, fitm _, h⟩
    | false =>
      intro h
      dsimp only at h ⊢
      unfold jumpR at h
      split at h
      · rename_i e; rw [e]; exact wp_ret ⟨_, E, fitm _, h⟩
      · rename_i e; rw [e]; exact wp_exit ⟨_, E, fitm _, h⟩
      · rename_i e; rw [e]; exact wp_goto ⟨_, E, fitm _, h⟩
      · exact h.elim
end
end Go.Proofs.YtdlljmmgkoeilaaDoor
namespace Go.Proofs.YtdlljmmgkoeilaaDoor
open Go.RowKit
inductive Fnd where
  | pair (p : Pr)
  | miss (way : List UInt8)
def FndG (W : World) (F : Nat → Prop) : Fnd → Array Value → Prop
  | .pair p, vs => ∃ Ak ck Av cv, vs = #[.agg #[.slice Ak p.k.length ck, .slice Av p.v.length cv, .slice none 0 0]] ∧ RdL W F (dPr p) (pcs p Ak ck Av cv)
  | .miss m, vs => ∃ A c, vs = #[.agg #[.slice none 0 0, .slice none 0 0, .slice A m.length c]] ∧ A ≠ none ∧ RdD W F (dB m) (.slice A m.length c)
def ownF (t : Nd) (s : Span) (at_ : List UInt8) : List Fnd := if (t.kind ≠ 1 ∧ t.has = false) ∨ hasB s at_ = false then [] else [.pair ⟨bytesL at_, t.val⟩]
theorem agg_yf : aggOf Tryd.prog 127 = some (false, 1) := by kernel_rfl
theorem pl_fnd : placesOf Tryd.prog 116 = some [(0, 2), (2, 1)] := by kernel_rfl
theorem z_fnd : zeroOf Tryd.prog 116 = some [.slice none 0 0, .slice none 0 0, .slice none 0 0] := by kernel_rfl
theorem is_own : isFn Tryd.prog 88 = true := by kernel_rfl
/-- What 'own' and the loop stand on. -/
abbrev WSt (W : World) (gs : List (Option Nat)) (t : Nd) (s : Span) (at_ : List UInt8) (l gn gp gw gy : Nat) (Ap : Option Addr) (cp : Nat) (Av : Option Addr) (cv : Nat) (Ak : Option Addr) (ck : Nat) (Ah : Option Addr) (ch : Nat) (Al : Option Addr) (cl : Nat) (Aq : Option Addr) (cq : Nat) (A3 : Option Addr) (n3 c3 : Nat) (fs : List Fact) : Prop :=
  St W gs W [] [] (.loc ⟨gn, 0, none⟩ (ncs t Ap cp Av cv Ak ck Ah ch) :: .loc ⟨gp, 0, none⟩ (scs s Al cl Aq cq) :: .loc ⟨gw, 0, none⟩ [.slice A3 n3 c3] :: .loc ⟨gy, 0, none⟩ [.func (.yield l) #[] #[]] ::
    .dat false [dB t.val] [.slice Av t.val.length cv] :: .dat false [dKs t.kids] [.slice Ak t.kids.length ck] :: .dat false [dB at_] [.slice A3 n3 c3] :: .dat false (dSp s) (scs s Al cl Aq cq) :: fs)
def ysO (i : Nat) : Option Nat := match Nat.beq i 4 with | true => some 7 | false => none
set_option maxRecDepth 100000 in
set_option maxHeartbeats 2000000 in
theorem own_any {l : Nat} {go : List Fnd → Bool} {J : List (Option Nat) → List Fnd → World → Prop} {NB : Nat} (hY : YOk Tryd.prog l FndG go NB J) (t : Nd) (s : Span) (at_ : List UInt8) (W : World) (gs : List (Option Nat)) (pre : List Fnd) (gn gp gw gy : Nat) (Ap : Option Addr) (cp : Nat) (Av : Option Addr) (cv : Nat) (Ak : Option Addr) (ck : Nat) (Ah : Option Addr) (ch : Nat) (Al : Option Addr) (cl : Nat) (Aq : Option Addr) (cq : Nat) (A3 : Option Addr) (n3 c3 : Nat) (fs : List Fact)
    (M : WSt W gs t s at_ l gn gp gw gy Ap cp Av cv Ak ck Ah ch Al cl Aq cq A3 n3 c3 fs) (hJ : J gs pre W) (hgo : go pre = true) (hNB : pre.length + (ownF t s at_).length ≤ NB) (hz : sz t ≤ 1000000 ∧ n3 ≤ 100000000 ∧ s.lo.length ≤ 100000000 ∧ s.hi.length ≤ 100000000) :
    Calls Tryd.prog 88 #[.pointer (some ⟨gn, 0, none⟩), .pointer (some ⟨gp, 0, none⟩), .pointer (some ⟨gw, 0, none⟩), .pointer (some ⟨gy, 0, none⟩)] W fun e W' => ∃ gs', e = .returned (.bool (feed go pre (ownF t s at_)).2) ∧ Stp W gs W' gs' ∧ J gs' (feed go pre (ownF t s at_)).1 W' := by
  refine calls_evX (args := [.pointer (some ⟨gn, 0, none⟩), .pointer (some ⟨gp, 0, none⟩), .pointer (some ⟨gw, 0, none⟩), .pointer (some ⟨gy, 0, none⟩)]) ysO mixed Tryd.func88 rfl (by kernel_rfl) ?_
  unfold WSt at M
  have hsz := sz_eq t
  have e3 := (M.d1 6 rfl).slen
  replace M := M.step0
  refine p_fld fN0 rfl ?_
  refine v_load agg_int rfl (by first | exact (M.B 0 rfl).at_ rfl | exact (M.B 1 rfl).at_ rfl | exact (M.B 2 rfl).at_ rfl | exact (M.B 3 rfl).at_ rfl | exact (M.B 4 rfl).at_ rfl | exact M.lc 0 rfl _ _ rfl | exact M.lc 1 rfl _ _ rfl | exact M.lc 2 rfl _ _ rfl | exact M.lc 3 rfl _ _ rfl | exact M.lc 4 rfl _ _ rfl | exact M.lc 5 rfl _ _ rfl | exact M.lc 6 rfl _ _ rfl | exact M.lc 7 rfl _ _ rfl) ?_
  refine p_ne rfl rfl (fun h1 => ?_) (fun h1 => ?_)
  ·
    refine v_loadN (scs s Al cl Aq cq) agg_sp rfl rfl (by first | exact M.run 0 rfl | exact M.run 1 rfl | exact M.run 2 rfl | exact M.run 3 rfl | exact M.run 4 rfl | exact M.lc 0 rfl | exact M.lc 1 rfl | exact M.lc 2 rfl | exact M.lc 3 rfl | exact M.lc 4 rfl | exact M.lc 5 rfl | exact M.lc 6 rfl | exact M.lc 7 rfl) ?_
    refine v_load agg_b rfl (M.lc 3 rfl 0 _ rfl) ?_
    refine cc is_shas (shas_any s at_ gs _ _ A3 n3 c3 (M.da 8 rfl) (M.d1 7 rfl) M.olt (by omega)) ?_
    rintro e W1 ⟨rfl, hb⟩
    replace M := M.call hb
    refine ⟨_, rfl, ?_⟩
    refine p_not rfl ?_
    cases hh : hasB s at_ with
    | false =>
      exact ⟨gs, by rw [show ownF t s at_ = [] from if_pos (.inr hh)]; rfl, M.stp 0 rfl, by rw [show ownF t s at_ = [] from if_pos (.inr hh)]; exact hY.stay _ _ _ _ hJ M.below⟩
    | true =>
      have hO : ownF t s at_ = [.pair ⟨bytesL at_, t.val⟩] := if_neg (by rw [hh]; simp; exact (fun h=>absurd h1 h))
      rw [hO] at hNB
      have hnb : pre.length < NB := hNB
      rw [hO, feed_one]
      refine v_load agg_b rfl (M.lc 3 rfl 0 _ rfl) ?_
      refine cc is_nby (bytes_any A3 n3 c3 at_ _ (M.rdb 7 rfl).2.2 (by omega)) ?_
      rintro e W3 ⟨A4, n4, c4, rfl, o4, hb⟩
      have e4 := o4.len
      subst e4
      refine ⟨_, rfl, ?_⟩
      replace M := (M.callO hb o4).drew
      refine ⟨(fun W => (∀ j x, (ncs t Ap cp Av cv Ak ck Ah ch)[j]? = some x → W.cell? ((⟨gn, 0, none⟩ : Addr).add j) = some x) ∧ W.cell? ⟨gy, 0, none⟩ = some (.func (.yield l) #[] #[])), (.take 0 (.take 1 (.take 2 (.take 3 (.one 4 (.take 5 (.take 6 (.one 7 (.take 8 (.nil)))))))))), (by kernel_rfl), ⟨M.lc 2 rfl, M.lc 5 rfl 0 _ rfl⟩, ?_⟩
      refine t_load agg_yf rfl (fun W h => h.2) ?_
      refine p_fld fN3 rfl ?_
      refine t_load agg_b rfl (fun W h => h.1 3 _ rfl) ?_
      refine cc is_bclone (bclone_any _ Av t.val.length cv t.val _ (M.d1 6 rfl) (by omega)) ?_
      rintro e W4 ⟨A5, c5, rfl, o5, -, hb⟩
      replace M := M.callO hb o5
      refine ⟨_, rfl, ⟨M.lc 3 rfl, M.lc 6 rfl 0 _ rfl⟩, ?_⟩
      refine p_build (vs := [.slice A4 (bytesL at_).length c4, .slice A5 t.val.length c5]) pl_pr z_pr rfl ?_
      refine p_build (vs := [.slice A4 (bytesL at_).length c4, .slice A5 t.val.length c5, .slice none 0 0]) pl_fnd z_fnd rfl ?_
      refine ⟨rfl, vy_of hY (x := .pair ⟨bytesL at_, t.val⟩) rfl (hY.stay _ _ _ _ hJ M.below) hgo hnb ⟨A4, c4, A5, c5, rfl, RdL.cons (M.d1 1 rfl) (RdL.cons (M.d1 0 rfl) RdL.nil_)⟩ ?_⟩
      intro gs' W5 hs hj
      have M := M.turn hs (fun b => hY.lt _ _ _ _ hj)
      refine ⟨⟨M.lc 3 rfl, M.lc 6 rfl 0 _ rfl⟩, ?_⟩
      exact ⟨gs', rfl, M.stp 2 rfl, hj⟩
  · refine p_fld fN2 rfl ?_
    refine v_load agg_bo rfl (by first | exact (M.B 0 rfl).at_ rfl | exact (M.B 1 rfl).at_ rfl | exact (M.B 2 rfl).at_ rfl | exact (M.B 3 rfl).at_ rfl | exact (M.B 4 rfl).at_ rfl | exact M.lc 0 rfl _ _ rfl | exact M.lc 1 rfl _ _ rfl | exact M.lc 2 rfl _ _ rfl | exact M.lc 3 rfl _ _ rfl | exact M.lc 4 rfl _ _ rfl | exact M.lc 5 rfl _ _ rfl | exact M.lc 6 rfl _ _ rfl | exact M.lc 7 rfl _ _ rfl) ?_
    refine p_not rfl ?_
    cases hh2 : t.has with
    | true =>
      refine v_loadN (scs s Al cl Aq cq) agg_sp rfl rfl (by first | exact M.run 0 rfl | exact M.run 1 rfl | exact M.run 2 rfl | exact M.run 3 rfl | exact M.run 4 rfl | exact M.lc 0 rfl | exact M.lc 1 rfl | exact M.lc 2 rfl | exact M.lc 3 rfl | exact M.lc 4 rfl | exact M.lc 5 rfl | exact M.lc 6 rfl | exact M.lc 7 rfl) ?_
      refine v_load agg_b rfl (M.lc 3 rfl 0 _ rfl) ?_
      refine cc is_shas (shas_any s at_ gs _ _ A3 n3 c3 (M.da 8 rfl) (M.d1 7 rfl) M.olt (by omega)) ?_
      rintro e W1 ⟨rfl, hb⟩
      replace M := M.call hb
      refine ⟨_, rfl, ?_⟩
      refine p_not rfl ?_
      cases hh : hasB s at_ with
      | false =>
        exact ⟨gs, by rw [show ownF t s at_ = [] from if_pos (.inr hh)]; rfl, M.stp 0 rfl, by rw [show ownF t s at_ = [] from if_pos (.inr hh)]; exact hY.stay _ _ _ _ hJ M.below⟩
      | true =>
        have hO : ownF t s at_ = [.pair ⟨bytesL at_, t.val⟩] := if_neg (by rw [hh]; simp; exact (fun _=>hh2))
        rw [hO] at hNB
        have hnb : pre.length < NB := hNB
        rw [hO, feed_one]
        refine v_load agg_b rfl (M.lc 3 rfl 0 _ rfl) ?_
        refine cc is_nby (bytes_any A3 n3 c3 at_ _ (M.rdb 7 rfl).2.2 (by omega)) ?_
        rintro e W3 ⟨A4, n4, c4, rfl, o4, hb⟩
        have e4 := o4.len
        subst e4
        refine ⟨_, rfl, ?_⟩
        replace M := (M.callO hb o4).drew
        refine ⟨(fun W => (∀ j x, (ncs t Ap cp Av cv Ak ck Ah ch)[j]? = some x → W.cell? ((⟨gn, 0, none⟩ : Addr).add j) = some x) ∧ W.cell? ⟨gy, 0, none⟩ = some (.func (.yield l) #[] #[])), (.take 0 (.take 1 (.take 2 (.take 3 (.one 4 (.take 5 (.take 6 (.one 7 (.take 8 (.nil)))))))))), (by kernel_rfl), ⟨M.lc 2 rfl, M.lc 5 rfl 0 _ rfl⟩, ?_⟩
        refine t_load agg_yf rfl (fun W h => h.2) ?_
        refine p_fld fN3 rfl ?_
        refine t_load agg_b rfl (fun W h => h.1 3 _ rfl) ?_
        refine cc is_bclone (bclone_any _ Av t.val.length cv t.val _ (M.d1 6 rfl) (by omega)) ?_
        rintro e W4 ⟨A5, c5, rfl, o5, -, hb⟩
        replace M := M.callO hb o5
        refine ⟨_, rfl, ⟨M.lc 3 rfl, M.lc 6 rfl 0 _ rfl⟩, ?_⟩
        refine p_build (vs := [.slice A4 (bytesL at_).length c4, .slice A5 t.val.length c5]) pl_pr z_pr rfl ?_
        refine p_build (vs := [.slice A4 (bytesL at_).length c4, .slice A5 t.val.length c5, .slice none 0 0]) pl_fnd z_fnd rfl ?_
        refine ⟨rfl, vy_of hY (x := .pair ⟨bytesL at_, t.val⟩) rfl (hY.stay _ _ _ _ hJ M.below) hgo hnb ⟨A4, c4, A5, c5, rfl, RdL.cons (M.d1 1 rfl) (RdL.cons (M.d1 0 rfl) RdL.nil_)⟩ ?_⟩
        intro gs' W5 hs hj
        have M := M.turn hs (fun b => hY.lt _ _ _ _ hj)
        refine ⟨⟨M.lc 3 rfl, M.lc 6 rfl 0 _ rfl⟩, ?_⟩
        exact ⟨gs', rfl, M.stp 2 rfl, hj⟩
    | false =>
      exact ⟨gs, by rw [show ownF t s at_ = [] from if_pos (.inl ⟨h1, hh2⟩)]; rfl, M.stp 0 rfl, by rw [show ownF t s at_ = [] from if_pos (.inl ⟨h1, hh2⟩)]; exact hY.stay _ _ _ _ hJ M.below⟩
end Go.Proofs.YtdlljmmgkoeilaaDoor
