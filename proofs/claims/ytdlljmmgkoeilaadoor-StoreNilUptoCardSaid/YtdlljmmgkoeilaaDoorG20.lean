/- The walk that reckons, for functions that hold a range over a function. No program in sight. Seek: what is found, told one behind another; the walk of the closure 'own'. Seek: the walk of walk. -/
import Derived.Test.YtdlljmmgkoeilaaDoorG19
import Derived.RangeFuncLeaves
import Derived.Test.YtdlljmmgkoeilaaDoorG18
import Derived.Test.YtdlljmmgkoeilaaDoorG16
namespace Go.Proofs.YtdlljmmgkoeilaaDoor
open Go.RowKit
variable {δ : List Deferred}
abbrev Kont2 := Ex → List Deferred → Env → World → Prop
def HoldsR (n : Nat) (K : Kont2) : Exit → Act → World → Prop
  | .normal, a, w => ∃ δ E, Fits δ n a E ∧ K .normal δ E w
  | .exit i, a, w => ∃ δ E, Fits δ n a E ∧ K (.exit i) δ E w
  | .goto l, a, w => ∃ δ E, Fits δ n a E ∧ K (.goto l) δ E w
  | .ret, a, w => ∃ δ E, Fits δ n a E ∧ K .ret δ E w
  | .panic _, _, _ => False
  | .outgrown, _, _ => False
structure VRf (P : Program) (n : Nat) (c : Code) (δ : List Deferred) (E : Env) (w : World) (K : Kont2) : Prop where
  go : ∀ a, Fits δ n a E → c.wp P (HoldsR n K) a w
def blockR (id : Nat) (K : Kont2) : Kont2 := fun x δ E w => match x with
  | .normal => K .normal δ E w
  | .exit i => (match Nat.beq i id with | true => K .normal δ E w | false => K (.exit i) δ E w)
  | .goto l => K (.goto l) δ E w
  | .ret => K .ret δ E w
def scopeR (K : Kont2) : Kont2 := fun x δ E w => match x with
  | .normal => K .normal δ E w
  | .exit i => K (.exit i) δ E w
  | .goto _ => False
  | .ret => K .ret δ E w
def evR (P : Program) (n : Nat) : Code → List Deferred → Env → World → Kont2 → Prop
  | .skip, δ, E, w, K => K .normal δ E w
  | .label _, δ, E, w, K => K .normal δ E w
  | .seq a b, δ, E, w, K => evR P n a δ E w (fun x δ E w => match x with
    | .normal => evR P n b δ E w K
    | .exit i => K (.exit i) δ E w
    | .goto l => K (.goto l) δ E w
    | .ret => K .ret δ E w)
  | .cond c t f, δ, E, w, K => (match val E c with | .bool true => evR P n t δ E w K | .bool false => evR P n f δ E w K | _ => False)
  | .block id body, δ, E, w, K => evR P n body δ E w (blockR id K)
  | .region id ops draw, δ, E, w, K => ev P (.region id ops draw) E w (fun x E w => K x δ E w)
  | .exit id, δ, E, w, K => K (.exit id) δ E w
  | .goto l, δ, E, w, K => K (.goto l) δ E w
  | .ret, δ, E, w, K => K .ret δ E w
  | .scope body, δ, E, w, K => evR P n body δ E w (scopeR K)
  | .rangeFunc g ps x b, δ, E, w, K => VRf P n (.rangeFunc g ps x b) δ E w K
  | _, _, _, _, _ => False
def dstOkR (n : Nat) : Code → Bool
  | .region _ ops _ => ops.all fun o => dstIn n o.dst
  | .seq a b => dstOkR n a && dstOkR n b
  | .cond _ a b => dstOkR n a && dstOkR n b
  | .block _ b => dstOkR n b
  | .scope b => dstOkR n b
  | _ => true
section
variable {P : Program}
theorem evR_sound {n : Nat} (hm : P.follows .mixedOrders = true) : ∀ (c : Code) (δ : List Deferred) (E : Env) (w : World) (K : Kont2) (a : Act), dstOkR n c = true → Fits δ n a E → evR P n c δ E w K → c.wp P (HoldsR n K) a w := by
  intro c
  induction c with
  | skip => intro δ E w K a _ hf h; exact wp_skip ⟨δ, E, hf, h⟩
  | label l => intro δ E w K a _ hf h; exact wp_label ⟨δ, E, hf, h⟩
  | exit i => intro δ E w K a _ hf h; exact wp_exit ⟨δ, E, hf, h⟩
  | goto l => intro δ E w K a _ hf h; exact wp_goto ⟨δ, E, hf, h⟩
  | ret => intro δ E w K a _ hf h; exact wp_ret ⟨δ, E, hf, h⟩
  | seq x y ihx ihy =>
    intro δ E w K a hd hf h
    simp only [dstOkR, Bool.and_eq_true] at hd
    refine wp_seq (wp_mono (ihx _ _ _ _ _ hd.1 hf h) ?_)
    intro e a w h
    cases e with
    | normal => obtain ⟨δ, E, hf, hk⟩ := h; exact ihy _ _ _ _ _ hd.2 hf hk
    | exit i => exact h
    | goto l => exact h
    | ret => exact h
    | panic c => exact h
    | outgrown => exact h
  | cond c t f iht ihf =>
    intro δ E w K a hd hf h
    simp only [dstOkR, Bool.and_eq_true] at hd
    have hc : a.eval c = val E c := by rw [hf.eval]
    simp only [evR] at h
    split at h
    · rename_i hb; exact wp_cond (t := true) (by rw [hc, hb]) (iht _ _ _ _ _ hd.1 hf h)
    · rename_i hb; exact wp_cond (t := false) (by rw [hc, hb]) (ihf _ _ _ _ _ hd.2 hf h)
    · exact h.elim
  | block id b ih =>
    intro δ E w K a hd hf h
    refine wp_block (wp_mono (ih _ _ _ _ _ hd hf h) ?_)
    intro x a w h
    cases x with
    | exit i =>
      obtain ⟨δ, E, hf, hk⟩ := h
      unfold blockR at hk
      dsimp only at hk
      show (if i = id then _ else _)
      cases hb : Nat.beq i id with
      | true => rw [hb] at hk; rw [if_pos (Nat.eq_of_beq_eq_true hb)]; exact ⟨δ, E, hf, hk⟩
      | false => rw [hb] at hk; rw [if_neg (fun e => by subst e; simp at hb)]; exact ⟨δ, E, hf, hk⟩
    | normal => exact h
    | goto l => exact h
    | ret => exact h
    | panic c => exact h
    | outgrown => exact h
  | loop b ih => intro δ E w K a _ _ h; exact h.elim
  | region id ops draw =>
    intro δ E w K a hd hf h
    refine wp_mono (ev_sound (δ := δ) hm (.region id ops draw) E w _ a hd hf h) ?_
    intro x a w h
    cases x with
    | normal => obtain ⟨E, hf, hk⟩ := h; exact ⟨δ, E, hf, hk⟩
    | exit i => obtain ⟨E, hf, hk⟩ := h; exact ⟨δ, E, hf, hk⟩
    | goto l => obtain ⟨E, hf, hk⟩ := h; exact ⟨δ, E, hf, hk⟩
    | ret => obtain ⟨E, hf, hk⟩ := h; exact ⟨δ, E, hf, hk⟩
    | panic c => exact h
    | outgrown => exact h
  | scope b ih =>
    intro δ E w K a hd hf h
    refine wp_scope_straight (wp_mono (ih _ _ _ _ _ hd hf h) ?_)
    intro x a w h
    cases x with
    | normal => exact h
    | exit i => exact h
    | goto l => obtain ⟨δ, E, hf, hk⟩ := h; exact hk.elim
    | ret => exact h
    | panic c => exact h
    | outgrown => exact h
  | rangeFunc f ps x b iha ihb => intro δ E w K a _ hf h; exact VRf.go h a hf
  | refuse why => intro δ E w K a _ hf h; exact h.elim
def endRf (P : Program) (fn : Func) (R : Ending → World → Prop) (δ : List Deferred) (E : Env) (w : World) : Prop :=
  (δ = [] ∧ resIs P E w fn.results.toList fun vs => R (.returned (tupleOf vs)) w) ∨
  (∃ D, δ = [markAt D] ∧ w.heap[D]? = some (.deferred (some [])) ∧ resIs P E (w.putObj D (.deferred none)) fn.results.toList fun vs => R (.returned (tupleOf vs)) (w.putObj D (.deferred none)))
def retRf (P : Program) (fn : Func) (R : Ending → World → Prop) : Kont2 := fun x δ E w => match x with
  | .normal => endRf P fn R δ E w
  | .ret => endRf P fn R δ E w
  | _ => False
theorem endRf_leaves {fn : Func} {R : Ending → World → Prop} {n : Nat} {a : Act} {E : Env} {w : World} (hf : Fits δ n a E) (h : endRf P fn R δ E w) : LeavesInM Fence.wide 0 P fn a.tmps R a.defers .returning w := by
  rw [hf.2.1]
  rcases h with ⟨rfl, h⟩ | ⟨D, rfl, hK, h⟩
  · obtain ⟨vs, hr, hk⟩ := res_run hf h
    exact ⟨_, hr, hk⟩
  · obtain ⟨vs, hr, hk⟩ := res_run hf h
    exact ⟨by simp, .inl ⟨D, _, rfl, run_takeDeferred hK, ⟨_, hr, hk⟩⟩⟩
/-- A call comes to what its body comes to, a range over a function among it. -/
theorem calls_evR {f : FuncId} {fn : Func} {c : Code} {args : List Value} {w : World} {R : Ending → World → Prop} (hm : P.follows .mixedOrders = true) (hf : P.funcs[f]? = some fn) (hb : fn.body = some c)
    (hd : (dstOkR fn.ntmps c && Nat.ble args.length fn.ntmps) = true) (h : evR P fn.ntmps c [] (start args) w (retRf P fn R)) : Calls P f args.toArray w R := by
  simp only [Bool.and_eq_true] at hd
  have hn : args.length ≤ fn.ntmps := Nat.le_of_ble_eq_true hd.2
  refine callsIn_wide.1 (callsIn_of_wp_marks (n := 0) hf hb trivial (wpIn_wide.2 (wp_mono (evR_sound hm c _ _ _ _ _ hd.1 (start_fits args _ hn) h) ?_)))
  intro x a w hx
  cases x with
  | normal => obtain ⟨δ, E, hfit, hk⟩ := hx; exact endRf_leaves hfit hk
  | ret => obtain ⟨δ, E, hfit, hk⟩ := hx; exact endRf_leaves hfit hk
  | exit i => obtain ⟨δ, E, hfit, hk⟩ := hx; exact hk.elim
  | goto l => obtain ⟨δ, E, hfit, hk⟩ := hx; exact hk.elim
  | panic c => exact hx.elim
  | outgrown => exact hx.elim
/-- How a round's body may be left. -/
def xpost {α : Type} (Jc : List (Option Nat) → List α → World → Prop) (go : List α → Bool) (jc : List α → Code) (pre : List α) (gs1 : List (Option Nat)) (W2 : World) : Ex → World → Prop
  | .normal, W3 => (∃ gs3, Stp W2 gs1 W3 gs3 ∧ Jc gs3 pre W3) ∧ go pre = true
  | .ret, W3 => (∃ gs3, Stp W2 gs1 W3 gs3 ∧ Jc gs3 pre W3) ∧ go pre = false ∧ jc pre = .ret
  | .exit i, W3 => (∃ gs3, Stp W2 gs1 W3 gs3 ∧ Jc gs3 pre W3) ∧ go pre = false ∧ jc pre = .exit i
  | .goto t, W3 => (∃ gs3, Stp W2 gs1 W3 gs3 ∧ Jc gs3 pre W3) ∧ go pre = false ∧ jc pre = .goto t
def jumpR (c : Code) (K : Kont2) (D : Nat) (E : Env) (w : World) : Prop := match c with
  | .ret => K .ret [markAt D] E w
  | .exit i => K (.exit i) [markAt D] E w
  | .goto t => K (.goto t) [markAt D] E w
  | _ => False
theorem vrf {α : Type} (hm : P.follows .mixedOrders = true) {n p gf : Nat} {g : Operand} {assign body : Code} {E : Env} {w : World} {K : Kont2} {lb : Array Value}
    {G : World → (Nat → Prop) → α → Array Value → Prop} {go : List α → Bool} (NB : Nat) (jc : List α → Code) (xs : List α) (Jc : List (Option Nat) → List α → World → Prop) (gs0 : List (Option Nat)) (ys : Nat → Option Nat)
    (hst : (dstOk n assign && (ndOk assign && (flatOk ys assign && (dstOk n body && (ndOk body && (flatOk ys body && Nat.blt p n)))))) = true)
    (hg : val E g = .func (.func gf) #[] lb) (eg : isFn P gf = true) (hps : ∀ W F x vs, G W F x vs → vs.size = 1) (hgo0 : go [] = true) (h0 : Jc gs0 [] w)
    (hseq : ∀ J W, Below w.heap.size w W → YOk P (w.heap.size + 1) G go NB J → J (some (w.heap.size + 1) :: some w.heap.size :: gs0) [] W → Calls P gf (#[.func (.yield (w.heap.size + 1)) #[] #[]] ++ lb) W fun e W' => (∃ v, e = .returned v) ∧ ∃ gs', J gs' (feed go [] xs).1 W')
    (stay : ∀ gs pre W W', Jc gs pre W → Below W.heap.size W W' → Jc gs pre W')
    (ltc : ∀ gs pre W b, Jc gs pre W → some b ∈ gs → b < W.heap.size)
    (noc : ∀ gs pre W k o, Jc gs pre W → W.heap[k]? = some o → o.isCells = false → w.heap.size ≤ k → some k ∉ gs)
    (put : ∀ gs pre W k o o', Jc gs pre W → w.heap.size ≤ k → W.heap[k]? = some o → o.isCells = false → o'.isCells = false → Jc gs pre (W.putObj k o'))
    (hround : ∀ gs pre W x v, Jc gs pre W → go pre = true → pre.length < NB → w.heap.size + 1 < W.heap.size → G W (Fd W (some (w.heap.size + 1) :: some w.heap.size :: gs)) x #[v] →
      evX (Fence.wide.inRound (w.heap.size + 1)) P ys assign (upd E (some p) v) W (fun e E1 W1 => e = .normal ∧ ∃ gs1, Stp W gs W1 gs1 ∧ ∀ o o', W1.heap[w.heap.size + 1]? = some o → o.isCells = false → o'.isCells = false →
        evX (Fence.wide.inRound (w.heap.size + 1)) P ys body E1 (W1.putObj (w.heap.size + 1) o') (fun e _ W3 => xpost Jc go jc (pre ++ [x]) gs1 (W1.putObj (w.heap.size + 1) o') e W3)))
    (hend : ∀ gs W, Jc gs (feed go [] xs).1 W → W.heap[w.heap.size]? = some (.deferred (some [])) → match (feed go [] xs).2 with
      | true => K .normal [markAt w.heap.size] E W
      | false => jumpR (jc (feed go [] xs).1) K w.heap.size E W) :
    VRf P n (.rangeFunc g #[p] assign body) [] E w K := by
  refine ⟨fun a hf => ?_⟩
  simp only [Bool.and_eq_true] at hst
  obtain ⟨d1, n1, f1, d2, n2, f2, hp⟩ := hst
  have fitm : ∀ D, Fits [markAt D] n { a with defers := markAt D :: a.defers } E := fun D => ⟨hf.1, by rw [hf.2.1], hf.2.2⟩
  refine range_wide (P := P) NB jc xs Jc gs0 (by rw [hf.eval]; exact hg) eg (by simpa using hps) hgo0 h0 hseq stay ltc noc put ?_ ?_
  · intro m gs pre W x vs hc hgo hnb hl hG
    obtain ⟨v, rfl⟩ : ∃ v, vs = #[v] := Array.size_eq_one_iff.1 (hps _ _ _ _ hG)
    have hfit : Fits [] n (a.put (some p) v) (upd E (some p) v) := hf.put (d := some p) hp v
    have hact : ({ tmps := (#[p].zip #[v]).foldl (fun t (p, v) => t.setIfInBounds p v) a.tmps, defers := [] } : Act) = a.put (some p) v := by
      have := hf.2.1
      simp [Act.put, this]
    rw [hact]
    refine wpIn_mono (evX_in (fx_round _) hm assign _ _ _ _ d1 n1 f1 hfit (hround gs pre W x v hc hgo hnb hl hG)) ?_
    intro e a1 W1 he
    cases e with
    | normal =>
      obtain ⟨E1, hf1, -, gs1, hs, hb⟩ := he
      refine ⟨gs1, hs, fun o o' ho hoc hoc' => wpIn_mono (evX_in (fx_round _) hm body _ _ _ _ d2 n2 f2 hf1 (hb o o' ho hoc hoc')) ?_⟩
      intro e a3 W3 he
      cases e with
      | normal => obtain ⟨E, _, h⟩ := he; exact h
      | exit i => obtain ⟨E, _, h⟩ := he; exact h
      | goto t => obtain ⟨E, _, h⟩ := he; exact h
      | ret => obtain ⟨E, _, h⟩ := he; exact h
      | panic c => exact he
      | outgrown => exact he
    | exit i => obtain ⟨E, _, h, _⟩ := he; cases h
    | goto t => obtain ⟨E, _, h, _⟩ := he; cases h
    | ret => obtain ⟨E, _, h, _⟩ := he; cases h
    | panic c => exact he
    | outgrown => exact he
  · intro gs W hc hk
    have h := hend gs W hc hk
    revert h
    cases (feed go [] xs).2 with
    | true => intro h; exact ⟨_, E, fitm _, h⟩
    | false =>
      intro h
      dsimp only at h ⊢
      unfold jumpR at h
      split at h
      · rename_i e; rw [e]; exact wp_ret ⟨_, E, fitm _, h⟩
      · rename_i e; rw [e]; exact wp_exit ⟨_, E, fitm _, h⟩
      · rename_i e; rw [e]; exact wp_goto ⟨_, E, fitm _, h⟩
      · exact h.elim
end
end Go.Proofs.YtdlljmmgkoeilaaDoor
namespace Go.Proofs.YtdlljmmgkoeilaaDoor
open Go.RowKit
inductive Fnd where
  | pair (p : Pr)
  | miss (way : List UInt8)
def FndG (W : World) (F : Nat → Prop) : Fnd → Array Value → Prop
  | .pair p, vs => ∃ Ak ck Av cv, vs = #[.agg #[.slice Ak p.k.length ck, .slice Av p.v.length cv, .slice none 0 0]] ∧ RdL W F (dPr p) (pcs p Ak ck Av cv)
  | .miss m, vs => ∃ A c, vs = #[.agg #[.slice none 0 0, .slice none 0 0, .slice A m.length c]] ∧ A ≠ none ∧ RdD W F (dB m) (.slice A m.length c)
def ownF (t : Nd) (s : Span) (at_ : List UInt8) : List Fnd := if (t.kind ≠ 1 ∧ t.has = false) ∨ hasB s at_ = false then [] else [.pair ⟨bytesL at_, t.val⟩]
theorem agg_yf : aggOf Tryd.prog 127 = some (false, 1) := by kernel_rfl
theorem pl_fnd : placesOf Tryd.prog 116 = some [(0, 2), (2, 1)] := by kernel_rfl
theorem z_fnd : zeroOf Tryd.prog 116 = some [.slice none 0 0, .slice none 0 0, .slice none 0 0] := by kernel_rfl
theorem is_own : isFn Tryd.prog 88 = true := by kernel_rfl
/-- What 'own' and the loop stand on. -/
abbrev WSt (W : World) (gs : List (Option Nat)) (t : Nd) (s : Span) (at_ : List UInt8) (l gn gp gw gy : Nat) (Ap : Option Addr) (cp : Nat) (Av : Option Addr) (cv : Nat) (Ak : Option Addr) (ck : Nat) (Ah : Option Addr) (ch : Nat) (Al : Option Addr) (cl : Nat) (Aq : Option Addr) (cq : Nat) (A3 : Option Addr) (n3 c3 : Nat) (fs : List Fact) : Prop :=
  St W gs W [] [] (.loc ⟨gn, 0, none⟩ (ncs t Ap cp Av cv Ak ck Ah ch) :: .loc ⟨gp, 0, none⟩ (scs s Al cl Aq cq) :: .loc ⟨gw, 0, none⟩ [.slice A3 n3 c3] :: .loc ⟨gy, 0, none⟩ [.func (.yield l) #[] #[]] ::
    .dat false [dB t.val] [.slice Av t.val.length cv] :: .dat false [dKs t.kids] [.slice Ak t.kids.length ck] :: .dat false [dB at_] [.slice A3 n3 c3] :: .dat false (dSp s) (scs s Al cl Aq cq) :: fs)
def ysO (i : Nat) : Option Nat := match Nat.beq i 4 with | true => some 7 | false => none
set_option maxRecDepth 100000 in
set_option maxHeartbeats 2000000 in
theorem own_any {l : Nat} {go : List Fnd → Bool} {J : List (Option Nat) → List Fnd → World → Prop} {NB : Nat} (hY : YOk Tryd.prog l FndG go NB J) (t : Nd) (s : Span) (at_ : List UInt8) (W : World) (gs : List (Option Nat)) (pre : List Fnd) (gn gp gw gy : Nat) (Ap : Option Addr) (cp : Nat) (Av : Option Addr) (cv : Nat) (Ak : Option Addr) (ck : Nat) (Ah : Option Addr) (ch : Nat) (Al : Option Addr) (cl : Nat) (Aq : Option Addr) (cq : Nat) (A3 : Option Addr) (n3 c3 : Nat) (fs : List Fact)
    (M : WSt W gs t s at_ l gn gp gw gy Ap cp Av cv Ak ck Ah ch Al cl Aq cq A3 n3 c3 fs) (hJ : J gs pre W) (hgo : go pre = true) (hNB : pre.length + (ownF t s at_).length ≤ NB) (hz : sz t ≤ 1000000 ∧ n3 ≤ 100000000 ∧ s.lo.length ≤ 100000000 ∧ s.hi.length ≤ 100000000) :
    Calls Tryd.prog 88 #[.pointer (some ⟨gn, 0, none⟩), .pointer (some ⟨gp, 0, none⟩), .pointer (some ⟨gw, 0, none⟩), .pointer (some ⟨gy, 0, none⟩)] W fun e W' => ∃ gs', e = .returned (.bool (feed go pre (ownF t s at_)).2) ∧ Stp W gs W' gs' ∧ J gs' (feed go pre (ownF t s at_)).1 W' := by
  refine calls_evX (args := [.pointer (some ⟨gn, 0, none⟩), .pointer (some ⟨gp, 0, none⟩), .pointer (some ⟨gw, 0, none⟩), .pointer (some ⟨gy, 0, none⟩)]) ysO mixed Tryd.func88 rfl (by kernel_rfl) ?_
  unfold WSt at M
  have hsz := sz_eq t
  have e3 := (M.d1 6 rfl).slen
  replace M := M.step0
  refine p_fld fN0 rfl ?_
  refine v_load agg_int rfl (by first | exact (M.B 0 rfl).at_ rfl | exact (M.B 1 rfl).at_ rfl | exact (M.B 2 rfl).at_ rfl | exact (M.B 3 rfl).at_ rfl | exact (M.B 4 rfl).at_ rfl | exact M.lc 0 rfl _ _ rfl | exact M.lc 1 rfl _ _ rfl | exact M.lc 2 rfl _ _ rfl | exact M.lc 3 rfl _ _ rfl | exact M.lc 4 rfl _ _ rfl | exact M.lc 5 rfl _ _ rfl | exact M.lc 6 rfl _ _ rfl | exact M.lc 7 rfl _ _ rfl) ?_
  refine p_ne rfl rfl (fun h1 => ?_) (fun h1 => ?_)
  ·
    refine v_loadN (scs s Al cl Aq cq) agg_sp rfl rfl (by first | exact M.run 0 rfl | exact M.run 1 rfl | exact M.run 2 rfl | exact M.run 3 rfl | exact M.run 4 rfl | exact M.lc 0 rfl | exact M.lc 1 rfl | exact M.lc 2 rfl | exact M.lc 3 rfl | exact M.lc 4 rfl | exact M.lc 5 rfl | exact M.lc 6 rfl | exact M.lc 7 rfl) ?_
    refine v_load agg_b rfl (M.lc 3 rfl 0 _ rfl) ?_
    refine cc is_shas (shas_any s at_ gs _ _ A3 n3 c3 (M.da 8 rfl) (M.d1 7 rfl) M.olt (by omega)) ?_
    rintro e W1 ⟨rfl, hb⟩
    replace M := M.call hb
    refine ⟨_, rfl, ?_⟩
    refine p_not rfl ?_
    cases hh : hasB s at_ with
    | false =>
      exact ⟨gs, by rw [show ownF t s at_ = [] from if_pos (.inr hh)]; rfl, M.stp 0 rfl, by rw [show ownF t s at_ = [] from if_pos (.inr hh)]; exact hY.stay _ _ _ _ hJ M.below⟩
    | true =>
      have hO : ownF t s at_ = [.pair ⟨bytesL at_, t.val⟩] := if_neg (by rw [hh]; simp; exact (fun h=>absurd h1 h))
      rw [hO] at hNB
      have hnb : pre.length < NB := hNB
      rw [hO, feed_one]
      refine v_load agg_b rfl (M.lc 3 rfl 0 _ rfl) ?_
      refine cc is_nby (bytes_any A3 n3 c3 at_ _ (M.rdb 7 rfl).2.2 (by omega)) ?_
      rintro e W3 ⟨A4, n4, c4, rfl, o4, hb⟩
      have e4 := o4.len
      subst e4
      refine ⟨_, rfl, ?_⟩
      replace M := (M.callO hb o4).drew
      refine ⟨(fun W => (∀ j x, (ncs t Ap cp Av cv Ak ck Ah ch)[j]? = some x → W.cell? ((⟨gn, 0, none⟩ : Addr).add j) = some x) ∧ W.cell? ⟨gy, 0, none⟩ = some (.func (.yield l) #[] #[])), (.take 0 (.take 1 (.take 2 (.take 3 (.one 4 (.take 5 (.take 6 (.one 7 (.take 8 (.nil)))))))))), (by kernel_rfl), ⟨M.lc 2 rfl, M.lc 5 rfl 0 _ rfl⟩, ?_⟩
      refine t_load agg_yf rfl (fun W h => h.2) ?_
      refine p_fld fN3 rfl ?_
      refine t_load agg_b rfl (fun W h => h.1 3 _ rfl) ?_
      refine cc is_bclone (bclone_any _ Av t.val.length cv t.val _ (M.d1 6 rfl) (by omega)) ?_
      rintro e W4 ⟨A5, c5, rfl, o5, -, hb⟩
      replace M := M.callO hb o5
      refine ⟨_, rfl, ⟨M.lc 3 rfl, M.lc 6 rfl 0 _ rfl⟩, ?_⟩
      refine p_build (vs := [.slice A4 (bytesL at_).length c4, .slice A5 t.val.length c5]) pl_pr z_pr rfl ?_
      refine p_build (vs := [.slice A4 (bytesL at_).length c4, .slice A5 t.val.length c5, .slice none 0 0]) pl_fnd z_fnd rfl ?_
      refine ⟨rfl, vy_of hY (x := .pair ⟨bytesL at_, t.val⟩) rfl (hY.stay _ _ _ _ hJ M.below) hgo hnb ⟨A4, c4, A5, c5, rfl, RdL.cons (M.d1 1 rfl) (RdL.cons (M.d1 0 rfl) RdL.nil_)⟩ ?_⟩
      intro gs' W5 hs hj
      have M := M.turn hs (fun b => hY.lt _ _ _ _ hj)
      refine ⟨⟨M.lc 3 rfl, M.lc 6 rfl 0 _ rfl⟩, ?_⟩
      exact ⟨gs', rfl, M.stp 2 rfl, hj⟩
  · refine p_fld fN2 rfl ?_
    refine v_load agg_bo rfl (by first | exact (M.B 0 rfl).at_ rfl | exact (M.B 1 rfl).at_ rfl | exact (M.B 2 rfl).at_ rfl | exact (M.B 3 rfl).at_ rfl | exact (M.B 4 rfl).at_ rfl | exact M.lc 0 rfl _ _ rfl | exact M.lc 1 rfl _ _ rfl | exact M.lc 2 rfl _ _ rfl | exact M.lc 3 rfl _ _ rfl | exact M.lc 4 rfl _ _ rfl | exact M.lc 5 rfl _ _ rfl | exact M.lc 6 rfl _ _ rfl | exact M.lc 7 rfl _ _ rfl) ?_
    refine p_not rfl ?_
    cases hh2 : t.has with
    | true =>
      refine v_loadN (scs s Al cl Aq cq) agg_sp rfl rfl (by first | exact M.run 0 rfl | exact M.run 1 rfl | exact M.run 2 rfl | exact M.run 3 rfl | exact M.run 4 rfl | exact M.lc 0 rfl | exact M.lc 1 rfl | exact M.lc 2 rfl | exact M.lc 3 rfl | exact M.lc 4 rfl | exact M.lc 5 rfl | exact M.lc 6 rfl | exact M.lc 7 rfl) ?_
      refine v_load agg_b rfl (M.lc 3 rfl 0 _ rfl) ?_
      refine cc is_shas (shas_any s at_ gs _ _ A3 n3 c3 (M.da 8 rfl) (M.d1 7 rfl) M.olt (by omega)) ?_
      rintro e W1 ⟨rfl, hb⟩
      replace M := M.call hb
      refine ⟨_, rfl, ?_⟩
      refine p_not rfl ?_
      cases hh : hasB s at_ with
      | false =>
        exact ⟨gs, by rw [show ownF t s at_ = [] from if_pos (.inr hh)]; rfl, M.stp 0 rfl, by rw [show ownF t s at_ = [] from if_pos (.inr hh)]; exact hY.stay _ _ _ _ hJ M.below⟩
      | true =>
        have hO : ownF t s at_ = [.pair ⟨bytesL at_, t.val⟩] := if_neg (by rw [hh]; simp; exact (fun _=>hh2))
        rw [hO] at hNB
        have hnb : pre.length < NB := hNB
        rw [hO, feed_one]
        refine v_load agg_b rfl (M.lc 3 rfl 0 _ rfl) ?_
        refine cc is_nby (bytes_any A3 n3 c3 at_ _ (M.rdb 7 rfl).2.2 (by omega)) ?_
        rintro e W3 ⟨A4, n4, c4, rfl, o4, hb⟩
        have e4 := o4.len
        subst e4
        refine ⟨_, rfl, ?_⟩
        replace M := (M.callO hb o4).drew
        refine ⟨(fun W => (∀ j x, (ncs t Ap cp Av cv Ak ck Ah ch)[j]? = some x → W.cell? ((⟨gn, 0, none⟩ : Addr).add j) = some x) ∧ W.cell? ⟨gy, 0, none⟩ = some (.func (.yield l) #[] #[])), (.take 0 (.take 1 (.take 2 (.take 3 (.one 4 (.take 5 (.take 6 (.one 7 (.take 8 (.nil)))))))))), (by kernel_rfl), ⟨M.lc 2 rfl, M.lc 5 rfl 0 _ rfl⟩, ?_⟩
        refine t_load agg_yf rfl (fun W h => h.2) ?_
        refine p_fld fN3 rfl ?_
        refine t_load agg_b rfl (fun W h => h.1 3 _ rfl) ?_
        refine cc is_bclone (bclone_any _ Av t.val.length cv t.val _ (M.d1 6 rfl) (by omega)) ?_
        rintro e W4 ⟨A5, c5, rfl, o5, -, hb⟩
        replace M := M.callO hb o5
        refine ⟨_, rfl, ⟨M.lc 3 rfl, M.lc 6 rfl 0 _ rfl⟩, ?_⟩
        refine p_build (vs := [.slice A4 (bytesL at_).length c4, .slice A5 t.val.length c5]) pl_pr z_pr rfl ?_
        refine p_build (vs := [.slice A4 (bytesL at_).length c4, .slice A5 t.val.length c5, .slice none 0 0]) pl_fnd z_fnd rfl ?_
        refine ⟨rfl, vy_of hY (x := .pair ⟨bytesL at_, t.val⟩) rfl (hY.stay _ _ _ _ hJ M.below) hgo hnb ⟨A4, c4, A5, c5, rfl, RdL.cons (M.d1 1 rfl) (RdL.cons (M.d1 0 rfl) RdL.nil_)⟩ ?_⟩
        intro gs' W5 hs hj
        have M := M.turn hs (fun b => hY.lt _ _ _ _ hj)
        refine ⟨⟨M.lc 3 rfl, M.lc 6 rfl 0 _ rfl⟩, ?_⟩
        exact ⟨gs', rfl, M.stp 2 rfl, hj⟩
    | false =>
      exact ⟨gs, by rw [show ownF t s at_ = [] from if_pos (.inl ⟨h1, hh2⟩)]; rfl, M.stp 0 rfl, by rw [show ownF t s at_ = [] from if_pos (.inl ⟨h1, hh2⟩)]; exact hY.stay _ _ _ _ hJ M.below⟩
end Go.Proofs.YtdlljmmgkoeilaaDoor
namespace Go.Proofs.YtdlljmmgkoeilaaDoor
open Go.RowKit
mutual
/-- What is found below a node, in order, or the other way round. -/
def walkP (s : Span) (back : Bool) : Nd → List UInt8 → List Fnd
  | .mk k p has v ks hs, way =>
    if k = 0 ∨ meetsB s (way ++ p) = false then []
    else if k = 4 then [.miss (way ++ p)]
    else (match back with
      | false => ownF (.mk k p has v ks hs) s (way ++ p) ++ (walkK s back ks (decide (k = 3)) 0 (way ++ p)).flatten
      | true => (walkK s back ks (decide (k = 3)) 0 (way ++ p)).reverse.flatten ++ ownF (.mk k p has v ks hs) s (way ++ p))
def walkK (s : Span) (back : Bool) : List Nd → Bool → Nat → List UInt8 → List (List Fnd)
  | [], _, _, _ => []
  | t :: ts, br, i, at_ => walkP s back t (if br then at_ ++ [UInt8.ofNat i] else at_) :: walkK s back ts br (i + 1) at_
end
theorem walkP_eq (s : Span) (back : Bool) (t : Nd) (way : List UInt8) : walkP s back t way = if t.kind = 0 ∨ meetsB s (way ++ t.path) = false then [] else if t.kind = 4 then [.miss (way ++ t.path)] else (match back with
      | false => ownF t s (way ++ t.path) ++ (walkK s back t.kids (decide (t.kind = 3)) 0 (way ++ t.path)).flatten
      | true => (walkK s back t.kids (decide (t.kind = 3)) 0 (way ++ t.path)).reverse.flatten ++ ownF t s (way ++ t.path)) := by
  cases t; cases back <;> (rw [walkP]; rfl)
theorem walkK_len (s : Span) (back br : Bool) (at_ : List UInt8) : ∀ (ks : List Nd) (i : Nat), (walkK s back ks br i at_).length = ks.length
  | [], i => by rw [walkK]; rfl
  | t :: ts, i => by rw [walkK, List.length_cons, walkK_len s back br at_ ts, List.length_cons]
theorem walkK_get (s : Span) (back br : Bool) (at_ : List UInt8) : ∀ (ks : List Nd) (i j : Nat) (k : Nd), ks[j]? = some k → (walkK s back ks br i at_)[j]? = some (walkP s back k (if br then at_ ++ [UInt8.ofNat (i + j)] else at_))
  | t :: ts, i, 0, k, h => by simp at h; subst h; rw [walkK]; rfl
  | t :: ts, i, j + 1, k, h => by
    rw [walkK, List.getElem?_cons_succ, walkK_get s back br at_ ts (i + 1) j k (by simpa using h), show i + 1 + j = i + (j + 1) by omega]
theorem drop_get {α : Type} {l : List α} {i : Nat} {x : α} (h : l[i]? = some x) : l.drop i = x :: l.drop (i + 1) := by
  have h1 := List.getElem?_eq_some_iff.1 h
  rw [List.drop_eq_getElem_cons h1.1, h1.2]
theorem rev_get {α : Type} {l : List α} {n i : Nat} {x : α} (hn : l.length = n) (hi : i < n) (h : l[n - 1 - i]? = some x) : l.reverse[i]? = some x := by
  rw [List.getElem?_reverse (by omega), hn]; exact h
def ysW (i : Nat) : Option Nat := match Nat.beq i 5 with | true => some 3 | false => none
def WalkOk (s : Span) (back : Bool) (t : Nd) : Prop := ∀ {l : Nat} {go : List Fnd → Bool} {J : List (Option Nat) → List Fnd → World → Prop} {NB : Nat} (_ : YOk Tryd.prog l FndG go NB J) (w : World) (gs : List (Option Nat)) (pre : List Fnd) (way : List UInt8) (A1 : Option Addr) (n1 c1 : Nat) (cs ss : List Value),
  RdL w (Fd w gs) (dSp s) ss → RdL w (Fd w gs) (dN t) cs → RdD w (Fd w gs) (dB way) (.slice A1 n1 c1) → J gs pre w → go pre = true → pre.length + (walkP s back t way).length ≤ NB → sz t + n1 ≤ 1000000 →
  Calls Tryd.prog 81 #[.agg ss.toArray, .agg cs.toArray, .slice A1 n1 c1, .bool back, .func (.yield l) #[] #[]] w fun e W' => ∃ gs', e = .returned (.bool (feed go pre (walkP s back t way)).2) ∧ Stp w gs W' gs' ∧ J gs' (feed go pre (walkP s back t way)).1 W'
theorem is_walk : isFn Tryd.prog 81 = true := by kernel_rfl
set_option maxRecDepth 100000 in
set_option maxHeartbeats 4000000 in
theorem walk_step (s : Span) (hs : s.lo.length ≤ 1000000 ∧ s.hi.length ≤ 1000000) (back : Bool) (N : Nat) (ih : ∀ k : Nd, sz k < N → WalkOk s back k) (t : Nd) (ht : sz t ≤ N) : WalkOk s back t := by
  intro l go J NB hY w gs pre way A1 n1 c1 cs ss hS hN hW hJ hgo hNB hz
  refine calls_evX (args := [.agg ss.toArray, .agg cs.toArray, .slice A1 n1 c1, .bool back, .func (.yield l) #[] #[]]) ysW mixed Tryd.func81 rfl (by kernel_rfl) ?_
  have hsz := sz_eq t
  have hsl := szs_len t.kids
  have en1 := hW.slen
  obtain ⟨Al, cl, Aq, cq, rfl, s0, s1⟩ := hS.span
  obtain ⟨Ap, cp, Av, cv, Ak, ck, Ah, ch, rfl, r1, r3, r4, r5⟩ := hN.node
  have M := (((((St.start (fun b => hY.lt _ _ _ _ hJ)).step0.addL hS).addD r4).addD r3).addD r1).addD hW
  clear hS hN hW s0 s1 r1 r3 r4 r5
  obtain ⟨RR, hRR⟩ : ∃ RR, RR = feed go pre (walkP s back t way) := ⟨_, rfl⟩
  rw [← hRR]
  rw [walkP_eq] at hRR hNB
  refine s_box (scs s Al cl Aq cq) M rfl ?_
  clear M
  rintro gp W M
  refine s_box (ncs t Ap cp Av cv Ak ck Ah ch) M rfl ?_
  clear M
  rintro gn W M
  refine s_box ([.slice A1 n1 c1]) M rfl ?_
  clear M
  rintro gw W M
  refine s_box ([.func (.yield l) #[] #[]]) M rfl ?_
  clear M
  rintro gy W M
  replace M := M.drew
  obtain ⟨AT, hAT⟩ : ∃ AT, AT = way ++ t.path := ⟨_, rfl⟩
  rw [← hAT] at hRR hNB
  obtain ⟨n3, hn3⟩ : ∃ n3, n3 = 0 + n1 + t.path.length := ⟨_, rfl⟩
  refine drZ 6 (Kp w gs [(gn, 28, ncs t Ap cp Av cv Ak ck Ah ch), (gw, 23, [.slice A1 n1 c1])] []) [(1, true), (3, true), (4, true), (0, false), (2, false), (5, false)] (by kernel_rfl) (M.kp (by simp) (by simp)) ?_
  refine t_load agg_b rfl (fun W K => by first | exact (K.B 0 rfl).at_ rfl | exact (K.B 1 rfl).at_ rfl | exact (K.B 2 rfl).at_ rfl | exact (K.B 3 rfl).at_ rfl | exact K.lc 0 rfl _ _ rfl | exact K.lc 1 rfl _ _ rfl | exact K.lc 2 rfl _ _ rfl | exact K.lc 3 rfl _ _ rfl) ?_
  refine p_fld fN1 rfl ?_
  refine t_load agg_b rfl (fun W K => by first | exact (K.B 0 rfl).at_ rfl | exact (K.B 1 rfl).at_ rfl | exact (K.B 2 rfl).at_ rfl | exact (K.B 3 rfl).at_ rfl | exact K.lc 0 rfl _ _ rfl | exact K.lc 1 rfl _ _ rfl | exact K.lc 2 rfl _ _ rfl | exact K.lc 3 rfl _ _ rfl) ?_
  refine s_bslice0 M slb ?_
  clear M; rintro g0 W M
  refine ⟨(M.kp (by simp) (by simp)), ?_⟩
  refine s_appB (l := []) M rfl rfl (M.rdb 0 rfl).2.2 (by omega) ?_
  clear M; rintro A2 c2 W M hA2
  refine ⟨(M.kp (by simp) (by simp)), ?_⟩
  refine s_appB M rfl rfl (M.rdb 1 rfl).2.2 (by omega) ?_
  clear M; rintro A3 c3 W M hA3
  refine ⟨(M.kp (by simp) (by simp)), ?_⟩
  replace M := M.frzO
  have hA3n : A3 ≠ none := fun e => by have := (hA3.1 e).1; have := (hA2.1 this).1; cases this
  clear hA2 hA3
  rw [List.nil_append, ← hAT, ← hn3] at M
  rw [← hn3]
  refine s_set 1 (.slice A3 n3 c3) ([.slice A3 n3 c3]) M rfl (by kernel_rfl) rfl rfl rfl (Nat.le_of_ble_eq_true rfl) rfl ?_
  clear M; rintro W M
  dsimp only [setL] at M
  have en3 := (M.d1 0 rfl).slen
  replace M := M.frzL.frzL.frzL.frzL
  replace M := M.fsub [.loc ⟨gn, 0, none⟩ (ncs t Ap cp Av cv Ak ck Ah ch), .loc ⟨gp, 0, none⟩ (scs s Al cl Aq cq), .loc ⟨gw, 0, none⟩ [.slice A3 n3 c3], .loc ⟨gy, 0, none⟩ [.func (.yield l) #[] #[]],
    .dat false [dB t.val] [.slice Av t.val.length cv], .dat false [dKs t.kids] [.slice Ak t.kids.length ck], .dat true [dB AT] [.slice A3 n3 c3], .dat false (dSp s) (scs s Al cl Aq cq), .stp w gs] (by intro f hf; simp only [List.mem_cons, List.not_mem_nil, or_false] at hf ⊢; rcases hf with h | h | h | h | h | h | h | h | h <;> simp [h, own])
  have hJ1 := hY.stay _ _ _ _ hJ M.below
  replace M := M.fresh
  clear hJ
  -- the kind; does the range meet it?
  refine p_fld fN0 rfl ?_
  refine v_load agg_int rfl (by first | exact (M.B 0 rfl).at_ rfl | exact (M.B 1 rfl).at_ rfl | exact (M.B 2 rfl).at_ rfl | exact (M.B 3 rfl).at_ rfl | exact (M.B 4 rfl).at_ rfl | exact M.lc 0 rfl _ _ rfl | exact M.lc 1 rfl _ _ rfl | exact M.lc 2 rfl _ _ rfl | exact M.lc 3 rfl _ _ rfl | exact M.lc 4 rfl _ _ rfl | exact M.lc 5 rfl _ _ rfl | exact M.lc 6 rfl _ _ rfl | exact M.lc 7 rfl _ _ rfl) ?_
  refine p_eq rfl rfl (fun h0 => ?_) (fun h0 => ?_)
  ·
    exact ⟨gs, by rw [hRR, if_pos (.inl h0)]; rfl, M.stp 8 rfl, by rw [hRR, if_pos (.inl h0)]; exact hY.stay _ _ _ _ hJ1 M.below⟩
  refine v_loadN (scs s Al cl Aq cq) agg_sp rfl rfl (M.lc 1 rfl) ?_
  refine v_load agg_b rfl (M.lc 2 rfl 0 _ rfl) ?_
  refine cc is_smeets (smeets_any s AT gs _ _ A3 n3 c3 (M.da 7 rfl) (M.d1 6 rfl) M.olt (by omega)) ?_
  rintro e W1 ⟨rfl, hb⟩
  replace M := M.call hb
  refine ⟨_, rfl, ?_⟩
  refine p_not rfl ?_
  cases hmt : meetsB s AT with
  | false =>
    exact ⟨gs, by rw [hRR, if_pos (.inr hmt)]; rfl, M.stp 8 rfl, by rw [hRR, if_pos (.inr hmt)]; exact hY.stay _ _ _ _ hJ1 M.below⟩
  | true =>
  rw [if_neg (by rw [hmt]; simp [h0])] at hRR hNB
  refine p_fld fN0 rfl ?_
  refine v_load agg_int rfl (by first | exact (M.B 0 rfl).at_ rfl | exact (M.B 1 rfl).at_ rfl | exact (M.B 2 rfl).at_ rfl | exact (M.B 3 rfl).at_ rfl | exact (M.B 4 rfl).at_ rfl | exact M.lc 0 rfl _ _ rfl | exact M.lc 1 rfl _ _ rfl | exact M.lc 2 rfl _ _ rfl | exact M.lc 3 rfl _ _ rfl | exact M.lc 4 rfl _ _ rfl | exact M.lc 5 rfl _ _ rfl | exact M.lc 6 rfl _ _ rfl | exact M.lc 7 rfl _ _ rfl) ?_
  refine p_eq rfl rfl (fun h4 => ?_) (fun h4 => ?_)
  · rw [if_pos h4] at hRR hNB
    rw [feed_one] at hRR
    have hnb : pre.length < NB := hNB
    refine v_load agg_yf rfl (M.lc 3 rfl 0 _ rfl) ?_
    refine v_load agg_b rfl (M.lc 2 rfl 0 _ rfl) ?_
    refine p_build (vs := [.slice none 0 0, .slice none 0 0, .slice A3 n3 c3]) pl_fnd z_fnd rfl ?_
    refine ⟨rfl, vy_of hY (x := .miss AT) rfl (hY.stay _ _ _ _ hJ1 M.below) hgo hnb ⟨A3, c3, by rw [en3]; rfl, hA3n, by rw [← en3]; exact M.d1 6 rfl⟩ ?_⟩
    intro gs' W5 hs5 hj
    have M := M.turn hs5 (fun b => hY.lt _ _ _ _ hj)
    exact ⟨gs', by rw [hRR]; rfl, M.stp 8 rfl, by rw [hRR]; exact hj⟩
  rw [if_neg h4] at hRR hNB
  refine p_fun #[] #[.tmp 6, .tmp 5, .tmp 7, .tmp 9] ?_
  cases back with
  | false =>
    dsimp only at hRR hNB
    obtain ⟨LL, hLLe⟩ : ∃ LL, LL = walkK s false t.kids (decide (t.kind = 3)) 0 AT := ⟨_, rfl⟩
    have hLn : LL.length = t.kids.length := by rw [hLLe, walkK_len]
    have hLL : ∀ i j k, i < t.kids.length → j = i → t.kids[j]? = some k → LL[i]? = some (walkP s false k (if decide (t.kind = 3) then AT ++ [UInt8.ofNat j] else AT)) := by
      rintro i j k - rfl h
      rw [hLLe, walkK_get s false _ AT _ 0 _ _ h, Nat.zero_add]
    rw [← hLLe] at hRR hNB
    rw [feed_app] at hRR
    rw [List.length_append] at hNB
    clear hLLe
    refine p_not rfl ?_
    refine cc is_own (own_any hY t s AT _ _ pre gn gp gw gy Ap cp Av cv Ak ck Ah ch Al cl Aq cq A3 n3 c3 _ M.fresh (hY.stay _ _ _ _ hJ1 M.below) hgo (by omega) (by omega)) ?_
    rintro e W2 ⟨gs1, rfl, hs1, hj1⟩
    refine ⟨_, rfl, ?_⟩
    replace M := M.turn hs1 (fun b => hY.lt _ _ _ _ hj1)
    have hfg := feed_go (ownF t s AT) pre hgo
    refine p_not rfl ?_
    cases hb1 : (feed go pre (ownF t s AT)).2 with
    | false =>
      rw [hb1] at hRR
      exact ⟨gs1, by rw [hRR]; rfl, M.stp 8 rfl, by rw [hRR]; exact hj1⟩
    | true =>
      rw [hb1] at hRR hfg
      obtain ⟨TL, hTL⟩ : ∃ TL : List Fnd, TL = [] := ⟨_, rfl⟩
      obtain ⟨p1, hp1⟩ : ∃ p1, p1 = (feed go pre (ownF t s AT)).1 := ⟨_, rfl⟩
      rw [← hp1] at hfg hj1 hRR
      have hRR : RR = feed go p1 (LL.flatten ++ TL) := by rw [hTL, List.append_nil]; exact hRR
      have hp1l : p1.length = pre.length + (ownF t s AT).length := by rw [hp1, feed_true _ _ hb1, List.length_append]
      have hNB : p1.length + (LL.flatten ++ TL).length ≤ NB := by rw [hTL, List.append_nil]; omega
      refine p_fld fN4 rfl ?_
      refine v_load agg_ns rfl (by first | exact (M.B 0 rfl).at_ rfl | exact (M.B 1 rfl).at_ rfl | exact (M.B 2 rfl).at_ rfl | exact (M.B 3 rfl).at_ rfl | exact (M.B 4 rfl).at_ rfl | exact M.lc 0 rfl _ _ rfl | exact M.lc 1 rfl _ _ rfl | exact M.lc 2 rfl _ _ rfl | exact M.lc 3 rfl _ _ rfl | exact M.lc 4 rfl _ _ rfl | exact M.lc 5 rfl _ _ rfl | exact M.lc 6 rfl _ _ rfl | exact M.lc 7 rfl _ _ rfl) ?_
      refine p_len sln rfl ?_
      refine lp (Nat × List (Option Nat) × List Fnd) (fun st W => st.1 ≤ t.kids.length ∧ St W st.2.1 W [] [] [.loc ⟨gn, 0, none⟩ (ncs t Ap cp Av cv Ak ck Ah ch), .loc ⟨gp, 0, none⟩ (scs s Al cl Aq cq), .loc ⟨gw, 0, none⟩ [.slice A3 n3 c3], .loc ⟨gy, 0, none⟩ [.func (.yield l) #[] #[]],
        .dat false [dB t.val] [.slice Av t.val.length cv], .dat false [dKs t.kids] [.slice Ak t.kids.length ck], .dat false [dB AT] [.slice A3 n3 c3], .dat false (dSp s) (scs s Al cl Aq cq), .stp w gs] ∧ J st.2.1 st.2.2 W ∧ go st.2.2 = true ∧ RR = feed go st.2.2 ((LL.drop st.1).flatten ++ TL) ∧ st.2.2.length + ((LL.drop st.1).flatten ++ TL).length ≤ NB)
        (fun st => [(3, .bool false), (5, .pointer (some ⟨gp, 0, none⟩)), (6, .pointer (some ⟨gn, 0, none⟩)), (7, .pointer (some ⟨gw, 0, none⟩)), (9, .pointer (some ⟨gy, 0, none⟩)), (11, .func (.func 88) #[] #[.pointer (some ⟨gn, 0, none⟩), .pointer (some ⟨gp, 0, none⟩), .pointer (some ⟨gw, 0, none⟩), .pointer (some ⟨gy, 0, none⟩)]), (46, .int .i64 t.kids.length), (47, .int .i64 st.1)]) (fun st => t.kids.length - st.1) (0, _, p1)
        ⟨Nat.zero_le _, M.fresh, hY.stay _ _ _ _ hj1 M.below, hfg, by rw [List.drop_zero]; exact hRR, by rw [List.drop_zero]; exact hNB⟩ (by repeat (first | exact trivial | refine ⟨rfl, ?_⟩)) ?_
      clear M hRR hNB
      rintro ⟨i, g2, p2⟩ E7 W7 ⟨hi, M, hj2, hg2, hR2, hN2⟩
      dsimp only at hi M hj2 hg2 hR2 hN2
      refine p_lt rfl rfl (fun hlt => ?_) (fun hge => ?_)
      · dsimp only at hlt
        have hlt' : i < t.kids.length := by omega
        obtain ⟨j, hj⟩ : ∃ j, j = i := ⟨_, rfl⟩
        have hjn : j < t.kids.length := by omega
        obtain ⟨k, hki⟩ : ∃ k, t.kids[j]? = some k := ⟨_, List.getElem?_eq_getElem hjn⟩
        have hkz := szs_mem (List.mem_of_getElem? hki)
        have hLi := hLL i j k hlt' hj hki
        refine v_load agg_b rfl (M.lc 2 rfl 0 _ rfl) ?_
        obtain ⟨b, off, es, rfl, hel, M'⟩ := M.kid (M.d1 5 rfl) hki
        replace M := M'; clear M'
        refine p_fld fN0 rfl ?_
        refine v_load agg_int rfl (by first | exact (M.B 0 rfl).at_ rfl | exact (M.B 1 rfl).at_ rfl | exact (M.B 2 rfl).at_ rfl | exact (M.B 3 rfl).at_ rfl | exact (M.B 4 rfl).at_ rfl | exact M.lc 0 rfl _ _ rfl | exact M.lc 1 rfl _ _ rfl | exact M.lc 2 rfl _ _ rfl | exact M.lc 3 rfl _ _ rfl | exact M.lc 4 rfl _ _ rfl | exact M.lc 5 rfl _ _ rfl | exact M.lc 6 rfl _ _ rfl | exact M.lc 7 rfl _ _ rfl) ?_
        refine p_eq rfl rfl (fun h3 => ?_) (fun h3 => ?_)
        · rw [decide_eq_true h3] at hLi
          simp only [if_true] at hLi
          refine v_load agg_b rfl (M.lc 4 rfl 0 _ rfl) ?_
          refine cc is_sclone (sclone_any _ A3 n3 c3 AT _ (M.d1 8 rfl) (by omega)) ?_
          rintro e W ⟨A4, c4, rfl, o4, hA4, hb⟩
          replace M := M.callR (r := ⟨5, 1, A4, n3, c4, bvs AT⟩) hb o4
          refine ⟨_, rfl, ?_⟩
          refine v_cvt u_int u_u8 rfl (r := ((j % 256 : Nat) : Int)) (by rw [IntKind.wrap_u8']; omega) ?_
          refine s_litB [.int .u8 ((j % 256 : Nat) : Int)] [UInt8.ofNat j] M (by decide) rfl (bvs1 j) rfl ?_
          clear M; rintro g9 W M
          replace M := M.frzO
          refine s_appB M rfl rfl (M.rdb 0 rfl).2.2 (by omega) ?_
          clear M; rintro A9 c9 W M -
          replace M := M.frzO
          obtain ⟨TO, hTO⟩ : ∃ TO, TO = AT ++ [UInt8.ofNat j] := ⟨_, rfl⟩
          rw [← hTO] at M hLi
          replace M := M.fsub [.dat true [dB TO] [.slice A9 (n3 + 1) c9], .loc ((⟨b, off, none⟩ : Addr).add (j * 6)) es, .dat false (dN k) es, .loc ⟨gn, 0, none⟩ (ncs t Ap cp Av cv (some ⟨b, off, none⟩) ck Ah ch), .loc ⟨gp, 0, none⟩ (scs s Al cl Aq cq), .loc ⟨gw, 0, none⟩ [.slice A3 n3 c3], .loc ⟨gy, 0, none⟩ [.func (.yield l) #[] #[]],
        .dat false [dB t.val] [.slice Av t.val.length cv], .dat false [dKs t.kids] [.slice (some ⟨b, off, none⟩) t.kids.length ck], .dat false [dB AT] [.slice A3 n3 c3], .dat false (dSp s) (scs s Al cl Aq cq), .stp w gs] (by intro f hf; simp only [List.mem_cons, List.not_mem_nil, or_false] at hf ⊢; rcases hf with h | h | h | h | h | h | h | h | h | h | h | h <;> simp [h])
          obtain ⟨DL, hDL⟩ : ∃ DL, DL = LL.drop (i + 1) := ⟨_, rfl⟩
          rw [drop_get (x := walkP s false k TO) (by first | exact hLi | exact (hLi ▸ rfl)), ← hDL, List.flatten_cons, List.append_assoc] at hR2 hN2
          rw [feed_app] at hR2
          rw [List.length_append] at hN2
          have hn2 : p2.length + (walkP s false k TO).length ≤ NB := by omega
          replace M := M.drew
          have hkn : sz k + (n3 + 1) ≤ 1000000 := by omega
          have hkN : sz k < N := by omega
          refine drT (fun W => (∀ j x, (scs s Al cl Aq cq)[j]? = some x → W.cell? ((⟨gp, 0, none⟩ : Addr).add j) = some x) ∧ (∀ j x, (ncs t Ap cp Av cv (some ⟨b, off, none⟩) ck Ah ch)[j]? = some x → W.cell? ((⟨gn, 0, none⟩ : Addr).add j) = some x) ∧ W.cell? ⟨gy, 0, none⟩ = some (.func (.yield l) #[] #[]) ∧ (∀ j' x, es[j']? = some x → W.cell? ((((⟨b, off, none⟩ : Addr).add (j * 6))).add j') = some x)) (.take 0 (.take 1 (.take 2 (.take 3 (.take 4 (.take 5 (.take 6 (.take 7 (.take 8 (.one 9 (.take 10 (.nil)))))))))))) (by kernel_rfl) ⟨by first | exact M.lc 3 rfl | exact M.lc 4 rfl, by first | exact M.lc 2 rfl | exact M.lc 3 rfl, by first | exact M.lc 5 rfl 0 _ rfl | exact M.lc 6 rfl 0 _ rfl, by first | exact M.lc 0 rfl | exact M.lc 1 rfl⟩ ?_
          refine t_loadN (scs s Al cl Aq cq) agg_sp rfl rfl (fun W h => h.1) ?_
          refine p_fld fN4 rfl ?_
          refine t_load agg_ns rfl (fun W h => h.2.1 4 _ rfl) ?_
          refine p_at (i := j) sln rfl rfl (by first | rfl | (rw [hj])) hjn ?_
          refine t_loadN es agg_nd rfl hel (fun W h => h.2.2.2) ?_
          refine t_load agg_yf rfl (fun W h => h.2.2.1) ?_
          refine cc is_walk (ih k hkN hY _ _ p2 TO _ _ _ es (scs s Al cl Aq cq) (by first | exact M.da 9 rfl | exact M.da 10 rfl) (by first | exact M.da 1 rfl | exact M.da 2 rfl) (by first | exact M.d1 8 rfl | exact M.d1 0 rfl) (hY.stay _ _ _ _ hj2 M.below) hg2 hn2 hkn) ?_
          rintro e W8 ⟨gs3, rfl, hs3, hj3⟩
          replace M := M.turn hs3 (fun b => hY.lt _ _ _ _ hj3)
          refine ⟨_, rfl, ⟨by first | exact M.lc 3 rfl | exact M.lc 4 rfl, by first | exact M.lc 2 rfl | exact M.lc 3 rfl, by first | exact M.lc 5 rfl 0 _ rfl | exact M.lc 6 rfl 0 _ rfl, by first | exact M.lc 0 rfl | exact M.lc 1 rfl⟩, ?_⟩
          refine p_not rfl ?_
          have hfg := feed_go (walkP s false k TO) p2 hg2
          cases hb3 : (feed go p2 (walkP s false k TO)).2 with
          | false =>
            rw [hb3] at hR2
            refine ⟨gs3, by rw [hR2]; rfl, by first | exact M.stp 10 rfl | exact M.stp 11 rfl, by rw [hR2]; exact hj3⟩
          | true =>
            rw [hb3] at hR2 hfg
            refine p_add rfl rfl (r := ((i + 1 : Nat) : Int)) ((w64 (by omega)).trans (by omega)) ?_
            refine ⟨(i + 1, gs3, (feed go p2 (walkP s false k TO)).1), ⟨by dsimp only; omega, M.fsub _ ?_, hj3, hfg, by rw [← hDL]; exact hR2, by dsimp only; rw [← hDL, feed_true _ _ hb3, List.length_append]; omega⟩, (by repeat (first | exact trivial | refine ⟨rfl, ?_⟩)), by dsimp only; omega⟩
            intro f hf
            simp only [List.map, Fact.weak, List.mem_cons, List.not_mem_nil, or_false] at hf ⊢
            rcases hf with h | h | h | h | h | h | h | h | h <;> simp [h, own]
        · rw [decide_eq_false h3] at hLi
          simp only [Bool.false_eq_true, if_false] at hLi
          obtain ⟨DL, hDL⟩ : ∃ DL, DL = LL.drop (i + 1) := ⟨_, rfl⟩
          rw [drop_get (x := walkP s false k AT) (by first | exact hLi | exact (hLi ▸ rfl)), ← hDL, List.flatten_cons, List.append_assoc] at hR2 hN2
          rw [feed_app] at hR2
          rw [List.length_append] at hN2
          have hn2 : p2.length + (walkP s false k AT).length ≤ NB := by omega
          replace M := M.drew
          have hkn : sz k + n3 ≤ 1000000 := by omega
          have hkN : sz k < N := by omega
          refine drT (fun W => (∀ j x, (scs s Al cl Aq cq)[j]? = some x → W.cell? ((⟨gp, 0, none⟩ : Addr).add j) = some x) ∧ (∀ j x, (ncs t Ap cp Av cv (some ⟨b, off, none⟩) ck Ah ch)[j]? = some x → W.cell? ((⟨gn, 0, none⟩ : Addr).add j) = some x) ∧ W.cell? ⟨gy, 0, none⟩ = some (.func (.yield l) #[] #[]) ∧ (∀ j' x, es[j']? = some x → W.cell? ((((⟨b, off, none⟩ : Addr).add (j * 6))).add j') = some x)) (.take 0 (.take 1 (.take 2 (.take 3 (.take 4 (.take 5 (.take 6 (.take 7 (.take 8 (.one 9 (.take 10 (.nil)))))))))))) (by kernel_rfl) ⟨by first | exact M.lc 3 rfl | exact M.lc 4 rfl, by first | exact M.lc 2 rfl | exact M.lc 3 rfl, by first | exact M.lc 5 rfl 0 _ rfl | exact M.lc 6 rfl 0 _ rfl, by first | exact M.lc 0 rfl | exact M.lc 1 rfl⟩ ?_
          refine t_loadN (scs s Al cl Aq cq) agg_sp rfl rfl (fun W h => h.1) ?_
          refine p_fld fN4 rfl ?_
          refine t_load agg_ns rfl (fun W h => h.2.1 4 _ rfl) ?_
          refine p_at (i := j) sln rfl rfl (by first | rfl | (rw [hj])) hjn ?_
          refine t_loadN es agg_nd rfl hel (fun W h => h.2.2.2) ?_
          refine t_load agg_yf rfl (fun W h => h.2.2.1) ?_
          refine cc is_walk (ih k hkN hY _ _ p2 AT _ _ _ es (scs s Al cl Aq cq) (by first | exact M.da 9 rfl | exact M.da 10 rfl) (by first | exact M.da 1 rfl | exact M.da 2 rfl) (by first | exact M.d1 8 rfl | exact M.d1 0 rfl) (hY.stay _ _ _ _ hj2 M.below) hg2 hn2 hkn) ?_
          rintro e W8 ⟨gs3, rfl, hs3, hj3⟩
          replace M := M.turn hs3 (fun b => hY.lt _ _ _ _ hj3)
          refine ⟨_, rfl, ⟨by first | exact M.lc 3 rfl | exact M.lc 4 rfl, by first | exact M.lc 2 rfl | exact M.lc 3 rfl, by first | exact M.lc 5 rfl 0 _ rfl | exact M.lc 6 rfl 0 _ rfl, by first | exact M.lc 0 rfl | exact M.lc 1 rfl⟩, ?_⟩
          refine p_not rfl ?_
          have hfg := feed_go (walkP s false k AT) p2 hg2
          cases hb3 : (feed go p2 (walkP s false k AT)).2 with
          | false =>
            rw [hb3] at hR2
            refine ⟨gs3, by rw [hR2]; rfl, by first | exact M.stp 10 rfl | exact M.stp 11 rfl, by rw [hR2]; exact hj3⟩
          | true =>
            rw [hb3] at hR2 hfg
            refine p_add rfl rfl (r := ((i + 1 : Nat) : Int)) ((w64 (by omega)).trans (by omega)) ?_
            refine ⟨(i + 1, gs3, (feed go p2 (walkP s false k AT)).1), ⟨by dsimp only; omega, M.fsub _ ?_, hj3, hfg, by rw [← hDL]; exact hR2, by dsimp only; rw [← hDL, feed_true _ _ hb3, List.length_append]; omega⟩, (by repeat (first | exact trivial | refine ⟨rfl, ?_⟩)), by dsimp only; omega⟩
            intro f hf
            simp only [List.map, Fact.weak, List.mem_cons, List.not_mem_nil, or_false] at hf ⊢
            rcases hf with h | h | h | h | h | h | h | h | h <;> simp [h, own]
      · have hin : i = t.kids.length := by dsimp only at hge; omega
        rw [List.drop_of_length_le (by rw [hLn]; omega), List.flatten_nil, List.nil_append] at hR2 hN2
        refine p_not rfl ?_
        exact ⟨g2, by rw [hR2, hTL]; rfl, M.stp 8 rfl, by rw [hR2, hTL]; exact hj2⟩
  | true =>
    dsimp only at hRR hNB
    obtain ⟨LL, hLLe⟩ : ∃ LL, LL = (walkK s true t.kids (decide (t.kind = 3)) 0 AT).reverse := ⟨_, rfl⟩
    have hLn : LL.length = t.kids.length := by rw [hLLe, List.length_reverse, walkK_len]
    have hLL : ∀ i j k, i < t.kids.length → j = t.kids.length - 1 - i → t.kids[j]? = some k → LL[i]? = some (walkP s true k (if decide (t.kind = 3) then AT ++ [UInt8.ofNat j] else AT)) := by
      rintro i j k hi rfl h
      rw [hLLe]
      refine rev_get (walkK_len s true _ AT _ 0) hi ?_
      rw [walkK_get s true _ AT _ 0 _ _ h, Nat.zero_add]
    rw [← hLLe] at hRR hNB
    clear hLLe
    obtain ⟨TL, hTL⟩ : ∃ TL : List Fnd, TL = ownF t s AT := ⟨_, rfl⟩
    rw [← hTL] at hRR hNB
    refine p_not rfl ?_
    refine p_fld fN4 rfl ?_
    refine v_load agg_ns rfl (by first | exact (M.B 0 rfl).at_ rfl | exact (M.B 1 rfl).at_ rfl | exact (M.B 2 rfl).at_ rfl | exact (M.B 3 rfl).at_ rfl | exact (M.B 4 rfl).at_ rfl | exact M.lc 0 rfl _ _ rfl | exact M.lc 1 rfl _ _ rfl | exact M.lc 2 rfl _ _ rfl | exact M.lc 3 rfl _ _ rfl | exact M.lc 4 rfl _ _ rfl | exact M.lc 5 rfl _ _ rfl | exact M.lc 6 rfl _ _ rfl | exact M.lc 7 rfl _ _ rfl) ?_
    refine p_len sln rfl ?_
    refine lp (Nat × List (Option Nat) × List Fnd) (fun st W => st.1 ≤ t.kids.length ∧ St W st.2.1 W [] [] [.loc ⟨gn, 0, none⟩ (ncs t Ap cp Av cv Ak ck Ah ch), .loc ⟨gp, 0, none⟩ (scs s Al cl Aq cq), .loc ⟨gw, 0, none⟩ [.slice A3 n3 c3], .loc ⟨gy, 0, none⟩ [.func (.yield l) #[] #[]],
      .dat false [dB t.val] [.slice Av t.val.length cv], .dat false [dKs t.kids] [.slice Ak t.kids.length ck], .dat false [dB AT] [.slice A3 n3 c3], .dat false (dSp s) (scs s Al cl Aq cq), .stp w gs] ∧ J st.2.1 st.2.2 W ∧ go st.2.2 = true ∧ RR = feed go st.2.2 ((LL.drop st.1).flatten ++ TL) ∧ st.2.2.length + ((LL.drop st.1).flatten ++ TL).length ≤ NB)
      (fun st => [(3, .bool true), (5, .pointer (some ⟨gp, 0, none⟩)), (6, .pointer (some ⟨gn, 0, none⟩)), (7, .pointer (some ⟨gw, 0, none⟩)), (9, .pointer (some ⟨gy, 0, none⟩)), (11, .func (.func 88) #[] #[.pointer (some ⟨gn, 0, none⟩), .pointer (some ⟨gp, 0, none⟩), .pointer (some ⟨gw, 0, none⟩), .pointer (some ⟨gy, 0, none⟩)]), (46, .int .i64 t.kids.length), (47, .int .i64 st.1)]) (fun st => t.kids.length - st.1) (0, _, pre)
      ⟨Nat.zero_le _, M.fresh, hY.stay _ _ _ _ hJ1 M.below, hgo, by rw [List.drop_zero]; exact hRR, by rw [List.drop_zero]; exact hNB⟩ (by repeat (first | exact trivial | refine ⟨rfl, ?_⟩)) ?_
    clear M hRR hNB
    rintro ⟨i, g2, p2⟩ E7 W7 ⟨hi, M, hj2, hg2, hR2, hN2⟩
    dsimp only at hi M hj2 hg2 hR2 hN2
    refine p_lt rfl rfl (fun hlt => ?_) (fun hge => ?_)
    · dsimp only at hlt
      have hlt' : i < t.kids.length := by omega
      obtain ⟨j, hj⟩ : ∃ j, j = t.kids.length - 1 - i := ⟨_, rfl⟩
      have hjn : j < t.kids.length := by omega
      obtain ⟨k, hki⟩ : ∃ k, t.kids[j]? = some k := ⟨_, List.getElem?_eq_getElem hjn⟩
      have hkz := szs_mem (List.mem_of_getElem? hki)
      have hLi := hLL i j k hlt' hj hki
      refine p_fld fN4 rfl ?_
      refine v_load agg_ns rfl (by first | exact (M.B 0 rfl).at_ rfl | exact (M.B 1 rfl).at_ rfl | exact (M.B 2 rfl).at_ rfl | exact (M.B 3 rfl).at_ rfl | exact (M.B 4 rfl).at_ rfl | exact M.lc 0 rfl _ _ rfl | exact M.lc 1 rfl _ _ rfl | exact M.lc 2 rfl _ _ rfl | exact M.lc 3 rfl _ _ rfl | exact M.lc 4 rfl _ _ rfl | exact M.lc 5 rfl _ _ rfl | exact M.lc 6 rfl _ _ rfl | exact M.lc 7 rfl _ _ rfl) ?_
      refine p_len sln rfl ?_
      refine p_subN (a := t.kids.length) (b := 1) rfl rfl (by omega) (by omega) ?_
      refine p_subN (a := t.kids.length - 1) (b := i) rfl rfl (by omega) (by omega) ?_
      rw [← hj]
      refine v_load agg_b rfl (M.lc 2 rfl 0 _ rfl) ?_
      obtain ⟨b, off, es, rfl, hel, M'⟩ := M.kid (M.d1 5 rfl) hki
      replace M := M'; clear M'
      refine p_fld fN0 rfl ?_
      refine v_load agg_int rfl (by first | exact (M.B 0 rfl).at_ rfl | exact (M.B 1 rfl).at_ rfl | exact (M.B 2 rfl).at_ rfl | exact (M.B 3 rfl).at_ rfl | exact (M.B 4 rfl).at_ rfl | exact M.lc 0 rfl _ _ rfl | exact M.lc 1 rfl _ _ rfl | exact M.lc 2 rfl _ _ rfl | exact M.lc 3 rfl _ _ rfl | exact M.lc 4 rfl _ _ rfl | exact M.lc 5 rfl _ _ rfl | exact M.lc 6 rfl _ _ rfl | exact M.lc 7 rfl _ _ rfl) ?_
      refine p_eq rfl rfl (fun h3 => ?_) (fun h3 => ?_)
      · rw [decide_eq_true h3] at hLi
        simp only [if_true] at hLi
        refine v_load agg_b rfl (M.lc 4 rfl 0 _ rfl) ?_
        refine cc is_sclone (sclone_any _ A3 n3 c3 AT _ (M.d1 8 rfl) (by omega)) ?_
        rintro e W ⟨A4, c4, rfl, o4, hA4, hb⟩
        replace M := M.callR (r := ⟨5, 1, A4, n3, c4, bvs AT⟩) hb o4
        refine ⟨_, rfl, ?_⟩
        refine v_cvt u_int u_u8 rfl (r := ((j % 256 : Nat) : Int)) (by rw [IntKind.wrap_u8']; omega) ?_
        refine s_litB [.int .u8 ((j % 256 : Nat) : Int)] [UInt8.ofNat j] M (by decide) rfl (bvs1 j) rfl ?_
        clear M; rintro g9 W M
        replace M := M.frzO
        refine s_appB M rfl rfl (M.rdb 0 rfl).2.2 (by omega) ?_
        clear M; rintro A9 c9 W M -
        replace M := M.frzO
        obtain ⟨TO, hTO⟩ : ∃ TO, TO = AT ++ [UInt8.ofNat j] := ⟨_, rfl⟩
        rw [← hTO] at M hLi
        replace M := M.fsub [.dat true [dB TO] [.slice A9 (n3 + 1) c9], .loc ((⟨b, off, none⟩ : Addr).add (j * 6)) es, .dat false (dN k) es, .loc ⟨gn, 0, none⟩ (ncs t Ap cp Av cv (some ⟨b, off, none⟩) ck Ah ch), .loc ⟨gp, 0, none⟩ (scs s Al cl Aq cq), .loc ⟨gw, 0, none⟩ [.slice A3 n3 c3], .loc ⟨gy, 0, none⟩ [.func (.yield l) #[] #[]],
      .dat false [dB t.val] [.slice Av t.val.length cv], .dat false [dKs t.kids] [.slice (some ⟨b, off, none⟩) t.kids.length ck], .dat false [dB AT] [.slice A3 n3 c3], .dat false (dSp s) (scs s Al cl Aq cq), .stp w gs] (by intro f hf; simp only [List.mem_cons, List.not_mem_nil, or_false] at hf ⊢; rcases hf with h | h | h | h | h | h | h | h | h | h | h | h <;> simp [h])
        obtain ⟨DL, hDL⟩ : ∃ DL, DL = LL.drop (i + 1) := ⟨_, rfl⟩
        rw [drop_get (x := walkP s true k TO) (by first | exact hLi | exact (hLi ▸ rfl)), ← hDL, List.flatten_cons, List.append_assoc] at hR2 hN2
        rw [feed_app] at hR2
        rw [List.length_append] at hN2
        have hn2 : p2.length + (walkP s true k TO).length ≤ NB := by omega
        replace M := M.drew
        have hkn : sz k + (n3 + 1) ≤ 1000000 := by omega
        have hkN : sz k < N := by omega
        refine drT (fun W => (∀ j x, (scs s Al cl Aq cq)[j]? = some x → W.cell? ((⟨gp, 0, none⟩ : Addr).add j) = some x) ∧ (∀ j x, (ncs t Ap cp Av cv (some ⟨b, off, none⟩) ck Ah ch)[j]? = some x → W.cell? ((⟨gn, 0, none⟩ : Addr).add j) = some x) ∧ W.cell? ⟨gy, 0, none⟩ = some (.func (.yield l) #[] #[]) ∧ (∀ j' x, es[j']? = some x → W.cell? ((((⟨b, off, none⟩ : Addr).add (j * 6))).add j') = some x)) (.take 0 (.take 1 (.take 2 (.take 3 (.take 4 (.take 5 (.take 6 (.take 7 (.take 8 (.one 9 (.take 10 (.nil)))))))))))) (by kernel_rfl) ⟨by first | exact M.lc 3 rfl | exact M.lc 4 rfl, by first | exact M.lc 2 rfl | exact M.lc 3 rfl, by first | exact M.lc 5 rfl 0 _ rfl | exact M.lc 6 rfl 0 _ rfl, by first | exact M.lc 0 rfl | exact M.lc 1 rfl⟩ ?_
        refine t_loadN (scs s Al cl Aq cq) agg_sp rfl rfl (fun W h => h.1) ?_
        refine p_fld fN4 rfl ?_
        refine t_load agg_ns rfl (fun W h => h.2.1 4 _ rfl) ?_
        refine p_at (i := j) sln rfl rfl (by first | rfl | (rw [hj])) hjn ?_
        refine t_loadN es agg_nd rfl hel (fun W h => h.2.2.2) ?_
        refine t_load agg_yf rfl (fun W h => h.2.2.1) ?_
        refine cc is_walk (ih k hkN hY _ _ p2 TO _ _ _ es (scs s Al cl Aq cq) (by first | exact M.da 9 rfl | exact M.da 10 rfl) (by first | exact M.da 1 rfl | exact M.da 2 rfl) (by first | exact M.d1 8 rfl | exact M.d1 0 rfl) (hY.stay _ _ _ _ hj2 M.below) hg2 hn2 hkn) ?_
        rintro e W8 ⟨gs3, rfl, hs3, hj3⟩
        replace M := M.turn hs3 (fun b => hY.lt _ _ _ _ hj3)
        refine ⟨_, rfl, ⟨by first | exact M.lc 3 rfl | exact M.lc 4 rfl, by first | exact M.lc 2 rfl | exact M.lc 3 rfl, by first | exact M.lc 5 rfl 0 _ rfl | exact M.lc 6 rfl 0 _ rfl, by first | exact M.lc 0 rfl | exact M.lc 1 rfl⟩, ?_⟩
        refine p_not rfl ?_
        have hfg := feed_go (walkP s true k TO) p2 hg2
        cases hb3 : (feed go p2 (walkP s true k TO)).2 with
        | false =>
          rw [hb3] at hR2
          refine ⟨gs3, by rw [hR2]; rfl, by first | exact M.stp 10 rfl | exact M.stp 11 rfl, by rw [hR2]; exact hj3⟩
        | true =>
          rw [hb3] at hR2 hfg
          refine p_add rfl rfl (r := ((i + 1 : Nat) : Int)) ((w64 (by omega)).trans (by omega)) ?_
          refine ⟨(i + 1, gs3, (feed go p2 (walkP s true k TO)).1), ⟨by dsimp only; omega, M.fsub _ ?_, hj3, hfg, by rw [← hDL]; exact hR2, by dsimp only; rw [← hDL, feed_true _ _ hb3, List.length_append]; omega⟩, (by repeat (first | exact trivial | refine ⟨rfl, ?_⟩)), by dsimp only; omega⟩
          intro f hf
          simp only [List.map, Fact.weak, List.mem_cons, List.not_mem_nil, or_false] at hf ⊢
          rcases hf with h | h | h | h | h | h | h | h | h <;> simp [h, own]
      · rw [decide_eq_false h3] at hLi
        simp only [Bool.false_eq_true, if_false] at hLi
        obtain ⟨DL, hDL⟩ : ∃ DL, DL = LL.drop (i + 1) := ⟨_, rfl⟩
        rw [drop_get (x := walkP s true k AT) (by first | exact hLi | exact (hLi ▸ rfl)), ← hDL, List.flatten_cons, List.append_assoc] at hR2 hN2
        rw [feed_app] at hR2
        rw [List.length_append] at hN2
        have hn2 : p2.length + (walkP s true k AT).length ≤ NB := by omega
        replace M := M.drew
        have hkn : sz k + n3 ≤ 1000000 := by omega
        have hkN : sz k < N := by omega
        refine drT (fun W => (∀ j x, (scs s Al cl Aq cq)[j]? = some x → W.cell? ((⟨gp, 0, none⟩ : Addr).add j) = some x) ∧ (∀ j x, (ncs t Ap cp Av cv (some ⟨b, off, none⟩) ck Ah ch)[j]? = some x → W.cell? ((⟨gn, 0, none⟩ : Addr).add j) = some x) ∧ W.cell? ⟨gy, 0, none⟩ = some (.func (.yield l) #[] #[]) ∧ (∀ j' x, es[j']? = some x → W.cell? ((((⟨b, off, none⟩ : Addr).add (j * 6))).add j') = some x)) (.take 0 (.take 1 (.take 2 (.take 3 (.take 4 (.take 5 (.take 6 (.take 7 (.take 8 (.one 9 (.take 10 (.nil)))))))))))) (by kernel_rfl) ⟨by first | exact M.lc 3 rfl | exact M.lc 4 rfl, by first | exact M.lc 2 rfl | exact M.lc 3 rfl, by first | exact M.lc 5 rfl 0 _ rfl | exact M.lc 6 rfl 0 _ rfl, by first | exact M.lc 0 rfl | exact M.lc 1 rfl⟩ ?_
        refine t_loadN (scs s Al cl Aq cq) agg_sp rfl rfl (fun W h => h.1) ?_
        refine p_fld fN4 rfl ?_
        refine t_load agg_ns rfl (fun W h => h.2.1 4 _ rfl) ?_
        refine p_at (i := j) sln rfl rfl (by first | rfl | (rw [hj])) hjn ?_
        refine t_loadN es agg_nd rfl hel (fun W h => h.2.2.2) ?_
        refine t_load agg_yf rfl (fun W h => h.2.2.1) ?_
        refine cc is_walk (ih k hkN hY _ _ p2 AT _ _ _ es (scs s Al cl Aq cq) (by first | exact M.da 9 rfl | exact M.da 10 rfl) (by first | exact M.da 1 rfl | exact M.da 2 rfl) (by first | exact M.d1 8 rfl | exact M.d1 0 rfl) (hY.stay _ _ _ _ hj2 M.below) hg2 hn2 hkn) ?_
        rintro e W8 ⟨gs3, rfl, hs3, hj3⟩
        replace M := M.turn hs3 (fun b => hY.lt _ _ _ _ hj3)
        refine ⟨_, rfl, ⟨by first | exact M.lc 3 rfl | exact M.lc 4 rfl, by first | exact M.lc 2 rfl | exact M.lc 3 rfl, by first | exact M.lc 5 rfl 0 _ rfl | exact M.lc 6 rfl 0 _ rfl, by first | exact M.lc 0 rfl | exact M.lc 1 rfl⟩, ?_⟩
        refine p_not rfl ?_
        have hfg := feed_go (walkP s true k AT) p2 hg2
        cases hb3 : (feed go p2 (walkP s true k AT)).2 with
        | false =>
          rw [hb3] at hR2
          refine ⟨gs3, by rw [hR2]; rfl, by first | exact M.stp 10 rfl | exact M.stp 11 rfl, by rw [hR2]; exact hj3⟩
        | true =>
          rw [hb3] at hR2 hfg
          refine p_add rfl rfl (r := ((i + 1 : Nat) : Int)) ((w64 (by omega)).trans (by omega)) ?_
          refine ⟨(i + 1, gs3, (feed go p2 (walkP s true k AT)).1), ⟨by dsimp only; omega, M.fsub _ ?_, hj3, hfg, by rw [← hDL]; exact hR2, by dsimp only; rw [← hDL, feed_true _ _ hb3, List.length_append]; omega⟩, (by repeat (first | exact trivial | refine ⟨rfl, ?_⟩)), by dsimp only; omega⟩
          intro f hf
          simp only [List.map, Fact.weak, List.mem_cons, List.not_mem_nil, or_false] at hf ⊢
          rcases hf with h | h | h | h | h | h | h | h | h <;> simp [h, own]
    · have hin : i = t.kids.length := by dsimp only at hge; omega
      rw [List.drop_of_length_le (by rw [hLn]; omega), List.flatten_nil, List.nil_append] at hR2 hN2
      rw [hTL] at hR2 hN2
      refine p_not rfl ?_
      refine cc is_own (own_any hY t s AT _ _ p2 gn gp gw gy Ap cp Av cv Ak ck Ah ch Al cl Aq cq A3 n3 c3 _ M.fresh (hY.stay _ _ _ _ hj2 M.below) hg2 hN2 (by omega)) ?_
      rintro e W2 ⟨gs1, rfl, hs1, hj1⟩
      refine ⟨_, rfl, ?_⟩
      replace M := M.turn hs1 (fun b => hY.lt _ _ _ _ hj1)
      exact ⟨gs1, by rw [hR2]; rfl, M.stp 8 rfl, by rw [hR2]; exact hj1⟩
end Go.Proofs.YtdlljmmgkoeilaaDoor
