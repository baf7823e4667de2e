/- Seek: a span; the walks of of, has, meets. The walk that reckons, within a fence: for functions that call the body of a range over a function, and for such bodies. No program in sight. The walk that reckons, with calls of a loop's body: sound for functions, and within a round. No program in sight. -/
import Derived.Test.YtdlljmmgkoeilaaDoorG14
import Derived.Test.YtdlljmmgkoeilaaDoorG13
import Derived.Test.YtdlljmmgkoeilaaDoorG02
import Derived.OrdersIn
import Derived.TacticsIn
import Derived.RangeFuncIn
import Derived.RangeFuncCalls
import Derived.RangeFuncRecord
namespace Go.Proofs.YtdlljmmgkoeilaaDoor
open Go.RowKit
structure Span where
  lo : List UInt8
  hi : List UInt8
  op : Bool
def hasB (s : Span) (way : List UInt8) : Bool := decide (0 ≤ cmpB way s.lo) && (s.op || decide (cmpB way s.hi < 0))
def leastB (way : List UInt8) : List UInt8 := if way.length % 2 = 1 then way ++ [0] else way
def meetsB (s : Span) (way : List UInt8) : Bool := (decide (0 ≤ cmpB way s.lo) || decide (way <+: s.lo)) && (s.op || decide (cmpB (leastB way) s.hi < 0))
def ofS (low high : List UInt8) : Span := ⟨ofB low, ofB high, decide (high.length = 0)⟩
def dSp (s : Span) : List D := [dB s.lo, dB s.hi, .v (.bool s.op)]
def scs (s : Span) (Al : Option Addr) (cl : Nat) (Ah : Option Addr) (ch : Nat) : List Value := [.slice Al s.lo.length cl, .slice Ah s.hi.length ch, .bool s.op]
theorem RdL.span {W : World} {F : Nat → Prop} {s : Span} {cs : List Value} (h : RdL W F (dSp s) cs) : ∃ Al cl Ah ch, cs = scs s Al cl Ah ch ∧ RdD W F (dB s.lo) (.slice Al s.lo.length cl) ∧ RdD W F (dB s.hi) (.slice Ah s.hi.length ch) := by
  obtain ⟨u0, _, rfl, h0, h⟩ := (show RdL W F [dB s.lo, dB s.hi, .v (.bool s.op)] cs from h).uncons
  obtain ⟨u1, _, rfl, h1, h⟩ := h.uncons
  obtain ⟨u2, _, rfl, h2, h⟩ := h.uncons
  rw [h.isnil]
  obtain ⟨A0, c0, e0, _⟩ := h0.open_
  obtain ⟨A1, c1, e1, _⟩ := h1.open_
  have e2 := RdD.val.1 h2
  subst e0; subst e1; subst e2
  exact ⟨A0, c0, A1, c1, rfl, h0, h1⟩
theorem RdL.ofspan {W : World} {F : Nat → Prop} {s : Span} {Al Ah : Option Addr} {cl ch : Nat} (h0 : RdD W F (dB s.lo) (.slice Al s.lo.length cl)) (h1 : RdD W F (dB s.hi) (.slice Ah s.hi.length ch)) : RdL W F (dSp s) (scs s Al cl Ah ch) :=
  RdL.cons h0 (RdL.cons h1 (RdL.cons (RdD.ofv _) RdL.nil_))
theorem agg_sp : aggOf Tryd.prog 101 = some (true, 3) := by kernel_rfl
theorem fS0 : fieldOff Tryd.prog 101 0 = some 0 := by kernel_rfl
theorem fS1 : fieldOff Tryd.prog 101 1 = some 1 := by kernel_rfl
theorem fS2 : fieldOff Tryd.prog 101 2 = some 2 := by kernel_rfl
def zSp : List Value := [.slice none 0 0, .slice none 0 0, .bool false]
theorem al_sp : (Tryd.prog.info? 101).map (fun i => i.zero.map fun z => z.cells.toList) = some (some zSp) := by kernel_rfl
theorem sz_sp : (Tryd.prog.info? 101).map (·.size) = some 3 := by kernel_rfl
theorem pl_sp : placesOf Tryd.prog 101 = some [(0, 1), (1, 1), (2, 1)] := by kernel_rfl
theorem z_sp : zeroOf Tryd.prog 101 = some zSp := by kernel_rfl
theorem is_sof : isFn Tryd.prog 52 = true := by kernel_rfl
theorem is_ncmp : isFn Tryd.prog 93 = true := by kernel_rfl
theorem is_shas : isFn Tryd.prog 89 = true := by kernel_rfl
theorem is_smeets : isFn Tryd.prog 87 = true := by kernel_rfl
theorem is_hpre : isFn Tryd.prog 61 = true := by kernel_rfl
theorem is_scl : isFn Tryd.prog 59 = true := by kernel_rfl
set_option maxRecDepth 100000 in
set_option maxHeartbeats 1000000 in
theorem sof_any (low high : List UInt8) (gs : List (Option Nat)) (w : World) (A1 A2 : Option Addr) (n1 c1 n2 c2 : Nat) (h1 : RdD w (Fd w gs) (dB low) (.slice A1 n1 c1)) (h2 : RdD w (Fd w gs) (dB high) (.slice A2 n2 c2)) (hgs : ∀ b, some b ∈ gs → b < w.heap.size) (hz : n1 ≤ 100000000 ∧ n2 ≤ 100000000) :
    Calls Tryd.prog 52 #[.slice A1 n1 c1, .slice A2 n2 c2] w fun e w' => ∃ cs, e = .returned (.agg cs.toArray) ∧ RdL w' (Fr w w') (dSp (ofS low high)) cs ∧ Below w.heap.size w w' := by
  refine calls_ev (args := [.slice A1 n1 c1, .slice A2 n2 c2]) mixed Tryd.func52 rfl (by kernel_rfl) ?_
  have en1 := h1.slen
  have en2 := h2.slen
  subst en1; subst en2
  have M := ((St.start hgs).addD h2).addD h1
  clear h1 h2
  refine s_alloc (zSp) M al_sp ?_
  clear M
  rintro g4 W M
  refine cc is_nof (of_any _ _ _ low _ (M.rdb 0 rfl).2.2 (by omega)) ?_
  rintro e W ⟨A3, c3, rfl, o3, hb⟩
  replace M := M.callO hb o3
  clear o3 hb
  refine ⟨_, rfl, ?_⟩
  refine cc is_nof (of_any _ _ _ high _ (M.rdb 2 rfl).2.2 (by omega)) ?_
  rintro e W ⟨A4, c4, rfl, o4, hb⟩
  replace M := M.callO hb o4
  clear o4 hb
  refine ⟨_, rfl, ?_⟩
  refine p_len slb rfl ?_
  refine p_eqD rfl rfl ?_
  have hl1 : 2 * low.length = (ofB low).length := (ofB_length low).symm
  have hl2 : 2 * high.length = (ofB high).length := (ofB_length high).symm
  have hop : decide ((high.length : Int) = 0) = (ofS low high).op := by unfold ofS; dsimp only; rw [decide_eq_decide]; omega
  refine p_build (vs := [.slice A3 (2 * low.length) c3, .slice A4 (2 * high.length) c4, .bool (decide ((high.length : Int) = 0))]) pl_sp z_sp rfl ?_
  refine s_storeA 0 [.slice A3 (2 * low.length) c3, .slice A4 (2 * high.length) c4, .bool (decide ((high.length : Int) = 0))] M rfl sz_sp rfl rfl rfl (all1 rfl) rfl ?_
  clear M; rintro W M
  dsimp only [setL] at M
  refine c_loadN [.slice A3 (2 * low.length) c3, .slice A4 (2 * high.length) c4, .bool (decide ((high.length : Int) = 0))] agg_sp rfl rfl (M.run 0 rfl) ?_
  refine ⟨_, rfl, ?_, M.below⟩
  rw [hop]
  rw [hl1, hl2] at M ⊢
  exact RdL.ofspan (s := ofS low high) (M.finF1 1 rfl) (M.finF1 0 rfl)
set_option maxRecDepth 100000 in
set_option maxHeartbeats 1000000 in
theorem shas_any (s : Span) (way : List UInt8) (gs : List (Option Nat)) (w : World) (cs : List Value) (A : Option Addr) (n c : Nat) (h1 : RdL w (Fd w gs) (dSp s) cs) (h2 : RdD w (Fd w gs) (dB way) (.slice A n c)) (hgs : ∀ b, some b ∈ gs → b < w.heap.size) (hz : n ≤ 100000000 ∧ s.lo.length ≤ 100000000 ∧ s.hi.length ≤ 100000000) :
    Calls Tryd.prog 89 #[.agg cs.toArray, .slice A n c] w fun e w' => e = .returned (.bool (hasB s way)) ∧ Below w.heap.size w w' := by
  refine calls_ev (args := [.agg cs.toArray, .slice A n c]) mixed Tryd.func89 rfl (by kernel_rfl) ?_
  obtain ⟨Al, cl, Ah, ch, rfl, r0, r1⟩ := h1.span
  have M := (((St.start hgs).addD r1).addD r0).addD h2
  clear h1 h2 r0 r1
  refine s_box (scs s Al cl Ah ch) M rfl ?_
  clear M
  rintro g2 W M
  unfold hasB
  refine p_fld fS0 rfl ?_
  refine v_load agg_b rfl ((M.B 0 rfl).at_ rfl) ?_
  refine cc is_ncmp (cmp_any _ _ _ _ _ _ _ way s.lo _ (M.rdb 0 rfl).2.2 (M.rdb 1 rfl).2.2 (by omega) (by omega)) ?_
  rintro e W ⟨rfl, dd, rfl⟩
  replace M := M.drewN dd
  refine ⟨_, rfl, ?_⟩
  refine p_ge rfl rfl (fun h => ?_) (fun h => ?_)
  · rw [decide_eq_true (show 0 ≤ cmpB way s.lo by omega), Bool.true_and]
    refine p_fld fS2 rfl ?_
    refine v_load agg_bo rfl ((M.B 0 rfl).at_ rfl) ?_
    cases hop : s.op with
    | true => exact ⟨rfl, M.below⟩
    | false =>
      refine p_fld fS1 rfl ?_
      refine v_load agg_b rfl ((M.B 0 rfl).at_ rfl) ?_
      refine cc is_ncmp (cmp_any _ _ _ _ _ _ _ way s.hi _ (M.rdb 0 rfl).2.2 (M.rdb 2 rfl).2.2 (by omega) (by omega)) ?_
      rintro e W ⟨rfl, dd, rfl⟩
      replace M := M.drewN dd
      refine ⟨_, rfl, ?_⟩
      refine p_lt rfl rfl (fun h => ?_) (fun h => ?_)
      · exact ⟨ret_tf (by rw [decide_eq_true (show cmpB way s.hi < 0 by omega)]; rfl), M.below⟩
      · exact ⟨ret_tf (by rw [decide_eq_false (show ¬ cmpB way s.hi < 0 by omega)]; rfl), M.below⟩
  · rw [decide_eq_false (show ¬ 0 ≤ cmpB way s.lo by omega), Bool.false_and]
    exact ⟨rfl, M.below⟩
set_option maxRecDepth 100000 in
set_option maxHeartbeats 2000000 in
theorem smeets_any (s : Span) (way : List UInt8) (gs : List (Option Nat)) (w : World) (cs : List Value) (A : Option Addr) (n c : Nat) (h1 : RdL w (Fd w gs) (dSp s) cs) (h2 : RdD w (Fd w gs) (dB way) (.slice A n c)) (hgs : ∀ b, some b ∈ gs → b < w.heap.size) (hz : n ≤ 100000000 ∧ s.lo.length ≤ 100000000 ∧ s.hi.length ≤ 100000000) :
    Calls Tryd.prog 87 #[.agg cs.toArray, .slice A n c] w fun e w' => e = .returned (.bool (meetsB s way)) ∧ Below w.heap.size w w' := by
  refine calls_ev (args := [.agg cs.toArray, .slice A n c]) mixed Tryd.func87 rfl (by kernel_rfl) ?_
  obtain ⟨Al, cl, Ah, ch, rfl, r0, r1⟩ := h1.span
  have en := h2.slen
  subst en
  have M := (((St.start hgs).addD r1).addD r0).addD h2
  clear h1 h2 r0 r1
  refine s_box (scs s Al cl Ah ch) M rfl ?_
  clear M
  rintro g2 W M
  refine p_fld fS0 rfl ?_
  refine v_load agg_b rfl ((M.B 0 rfl).at_ rfl) ?_
  refine cc is_ncmp (cmp_any _ _ _ _ _ _ _ way s.lo _ (M.rdb 0 rfl).2.2 (M.rdb 1 rfl).2.2 (by omega) (by omega)) ?_
  rintro e W ⟨rfl, dd, rfl⟩
  replace M := M.drewN dd
  refine ⟨_, rfl, ?_⟩
  unfold meetsB
  refine p_ge rfl rfl (fun h => ?_) (fun h => ?_)
  · have hlate : (decide (0 ≤ cmpB way s.lo) || decide (way <+: s.lo)) = true := by rw [decide_eq_true (show 0 ≤ cmpB way s.lo by omega)]; rfl
    refine p_len slb rfl ?_
    refine p_remN (b := 2) rfl rfl (by decide) ?_
    refine p_eq rfl rfl (fun hodd => ?_) (fun hodd => ?_)
    · have hlw : leastB way = way ++ [0] := by unfold leastB; rw [if_pos (by omega)]
      refine cc is_scl (sclone_any _ _ _ _ way _ (M.d1 0 rfl) (by omega)) ?_
      rintro e W ⟨A3, c3, rfl, o3, -, hb⟩
      replace M := M.callR (r := ⟨5, 1, A3, way.length, c3, bvs way⟩) hb o3
      clear o3 hb
      refine ⟨_, rfl, ?_⟩
      refine s_bslice (bvs [0]) (fr := true) (ds := (bvs [0]).map D.v) M slb (zs := [.int .u8 0]) (by kernel_rfl) rfl (by decide) rfl (RdL.ofvals _) rfl ?_
      clear M; rintro g3 W M
      refine s_appB M rfl rfl (M.rdb (l := [0]) 0 rfl).2.2 (by omega) ?_
      clear M; rintro A4 c4 W M -
      replace M := M.frzO
      refine p_fld fS2 rfl ?_
      refine v_load agg_bo rfl ((M.B 0 rfl).at_ rfl) ?_
      cases hop : s.op with
      | true => exact ⟨ret_tf (by rw [hlate]; rfl), M.below⟩
      | false =>
        refine p_fld fS1 rfl ?_
        refine v_load agg_b rfl ((M.B 0 rfl).at_ rfl) ?_
        refine cc is_ncmp (cmp_any _ _ _ _ _ _ _ (way ++ [0]) s.hi _ (M.rdb 0 rfl).2.2 (M.rdb 4 rfl).2.2 (by omega) (by omega)) ?_
        rintro e W ⟨rfl, dd, rfl⟩
        replace M := M.drewN dd
        refine ⟨_, rfl, ?_⟩
        refine p_lt rfl rfl (fun h => ?_) (fun h => ?_)
        · exact ⟨ret_tf (by rw [hlate, hlw, decide_eq_true (show cmpB (way ++ [0]) s.hi < 0 by omega)]; rfl), M.below⟩
        · exact ⟨ret_tf (by rw [hlate, hlw, decide_eq_false (show ¬ cmpB (way ++ [0]) s.hi < 0 by omega)]; rfl), M.below⟩
    · have hlw : leastB way = way := by unfold leastB; rw [if_neg (by omega)]
      refine p_fld fS2 rfl ?_
      refine v_load agg_bo rfl ((M.B 0 rfl).at_ rfl) ?_
      cases hop : s.op with
      | true => exact ⟨ret_tf (by rw [hlate]; rfl), M.below⟩
      | false =>
        refine p_fld fS1 rfl ?_
        refine v_load agg_b rfl ((M.B 0 rfl).at_ rfl) ?_
        refine cc is_ncmp (cmp_any _ _ _ _ _ _ _ way s.hi _ (M.rdb 0 rfl).2.2 (M.rdb 2 rfl).2.2 (by omega) (by omega)) ?_
        rintro e W ⟨rfl, dd, rfl⟩
        replace M := M.drewN dd
        refine ⟨_, rfl, ?_⟩
        refine p_lt rfl rfl (fun h => ?_) (fun h => ?_)
        · exact ⟨ret_tf (by rw [hlate, hlw, decide_eq_true (show cmpB way s.hi < 0 by omega)]; rfl), M.below⟩
        · exact ⟨ret_tf (by rw [hlate, hlw, decide_eq_false (show ¬ cmpB way s.hi < 0 by omega)]; rfl), M.below⟩
  ·
    refine p_fld fS0 rfl ?_
    refine v_load agg_b rfl ((M.B 0 rfl).at_ rfl) ?_
    refine cc is_hpre (bpre_any _ _ _ _ _ _ _ _ s.lo way _ (M.rdb 1 rfl).2.2 (M.rdb 1 rfl).2.1 (M.rdb 0 rfl).2.2) ?_
    rintro e W ⟨he, rfl⟩
    obtain ⟨q, hq⟩ : ∃ q, q = decide (way <+: s.lo) := ⟨_, rfl⟩
    rw [← hq] at he
    subst he
    refine ⟨_, rfl, ?_⟩
    have hlate : (decide (0 ≤ cmpB way s.lo) || decide (way <+: s.lo)) = q := by rw [decide_eq_false (show ¬ 0 ≤ cmpB way s.lo by omega), ← hq]; rfl
    cases q with
    | true =>
      refine p_len slb rfl ?_
      refine p_remN (b := 2) rfl rfl (by decide) ?_
      refine p_eq rfl rfl (fun hodd => ?_) (fun hodd => ?_)
      · have hlw : leastB way = way ++ [0] := by unfold leastB; rw [if_pos (by omega)]
        refine cc is_scl (sclone_any _ _ _ _ way _ (M.d1 0 rfl) (by omega)) ?_
        rintro e W ⟨A3, c3, rfl, o3, -, hb⟩
        replace M := M.callR (r := ⟨5, 1, A3, way.length, c3, bvs way⟩) hb o3
        clear o3 hb
        refine ⟨_, rfl, ?_⟩
        refine s_bslice (bvs [0]) (fr := true) (ds := (bvs [0]).map D.v) M slb (zs := [.int .u8 0]) (by kernel_rfl) rfl (by decide) rfl (RdL.ofvals _) rfl ?_
        clear M; rintro g3 W M
        refine s_appB M rfl rfl (M.rdb (l := [0]) 0 rfl).2.2 (by omega) ?_
        clear M; rintro A4 c4 W M -
        replace M := M.frzO
        refine p_fld fS2 rfl ?_
        refine v_load agg_bo rfl ((M.B 0 rfl).at_ rfl) ?_
        cases hop : s.op with
        | true => exact ⟨ret_tf (by rw [hlate]; rfl), M.below⟩
        | false =>
          refine p_fld fS1 rfl ?_
          refine v_load agg_b rfl ((M.B 0 rfl).at_ rfl) ?_
          refine cc is_ncmp (cmp_any _ _ _ _ _ _ _ (way ++ [0]) s.hi _ (M.rdb 0 rfl).2.2 (M.rdb 4 rfl).2.2 (by omega) (by omega)) ?_
          rintro e W ⟨rfl, dd, rfl⟩
          replace M := M.drewN dd
          refine ⟨_, rfl, ?_⟩
          refine p_lt rfl rfl (fun h => ?_) (fun h => ?_)
          · exact ⟨ret_tf (by rw [hlate, hlw, decide_eq_true (show cmpB (way ++ [0]) s.hi < 0 by omega)]; rfl), M.below⟩
          · exact ⟨ret_tf (by rw [hlate, hlw, decide_eq_false (show ¬ cmpB (way ++ [0]) s.hi < 0 by omega)]; rfl), M.below⟩
      · have hlw : leastB way = way := by unfold leastB; rw [if_neg (by omega)]
        refine p_fld fS2 rfl ?_
        refine v_load agg_bo rfl ((M.B 0 rfl).at_ rfl) ?_
        cases hop : s.op with
        | true => exact ⟨ret_tf (by rw [hlate]; rfl), M.below⟩
        | false =>
          refine p_fld fS1 rfl ?_
          refine v_load agg_b rfl ((M.B 0 rfl).at_ rfl) ?_
          refine cc is_ncmp (cmp_any _ _ _ _ _ _ _ way s.hi _ (M.rdb 0 rfl).2.2 (M.rdb 2 rfl).2.2 (by omega) (by omega)) ?_
          rintro e W ⟨rfl, dd, rfl⟩
          replace M := M.drewN dd
          refine ⟨_, rfl, ?_⟩
          refine p_lt rfl rfl (fun h => ?_) (fun h => ?_)
          · exact ⟨ret_tf (by rw [hlate, hlw, decide_eq_true (show cmpB way s.hi < 0 by omega)]; rfl), M.below⟩
          · exact ⟨ret_tf (by rw [hlate, hlw, decide_eq_false (show ¬ cmpB way s.hi < 0 by omega)]; rfl), M.below⟩
    | false =>
      refine p_len slb rfl ?_
      refine p_remN (b := 2) rfl rfl (by decide) ?_
      refine p_eq rfl rfl (fun hodd => ?_) (fun hodd => ?_)
      · have hlw : leastB way = way ++ [0] := by unfold leastB; rw [if_pos (by omega)]
        refine cc is_scl (sclone_any _ _ _ _ way _ (M.d1 0 rfl) (by omega)) ?_
        rintro e W ⟨A3, c3, rfl, o3, -, hb⟩
        replace M := M.callR (r := ⟨5, 1, A3, way.length, c3, bvs way⟩) hb o3
        clear o3 hb
        refine ⟨_, rfl, ?_⟩
        refine s_bslice (bvs [0]) (fr := true) (ds := (bvs [0]).map D.v) M slb (zs := [.int .u8 0]) (by kernel_rfl) rfl (by decide) rfl (RdL.ofvals _) rfl ?_
        clear M; rintro g3 W M
        refine s_appB M rfl rfl (M.rdb (l := [0]) 0 rfl).2.2 (by omega) ?_
        clear M; rintro A4 c4 W M -
        replace M := M.frzO
        exact ⟨ret_tf (by rw [hlate]; rfl), M.below⟩
      · have hlw : leastB way = way := by unfold leastB; rw [if_neg (by omega)]
        exact ⟨ret_tf (by rw [hlate]; rfl), M.below⟩
end Go.Proofs.YtdlljmmgkoeilaaDoor
namespace Go.Proofs.YtdlljmmgkoeilaaDoor
open Go.RowKit
variable {δ : List Deferred}
/-- A fence that lets all in. -/
structure FxOk (F : Fence) : Prop where
  fn : ∀ f, F.fn f
  depth : F.depth = none
  calls : ∀ {n : Nat} {P : Program} {f : FuncId} {args : Array Value} {w : World} {R : Ending → World → Prop}, Calls P f args w R → CallsIn F n P f args w R
theorem fx_wide : FxOk Fence.wide := ⟨fun _ => trivial, rfl, fun h => callsIn_wide.2 h⟩
theorem fx_round (l : Nat) : FxOk (Fence.wide.inRound l) := ⟨fun _ => trivial, rfl, fun h => CallsIn.inRound l (callsIn_wide.2 h)⟩
def notDef : Op → Bool
  | .defer _ => false
  | _ => true
section
variable {P : Program} {F : Fence} {m : Nat}
theorem sem_at {o : Oper} (hd : notDef o.op = true) (ρ : Operand → Value) : o.semAt F.round ρ = execOp ρ o := Oper.semAt_eq _ _ _ fun c e => by rw [e] at hd; cases hd
theorem call_soundIn (fx : FxOk F) {o : Oper} {a : Act} {w : World} {next : Act → World → Prop} {Q : Exit → Act → World → Prop} {f : FuncId} {args : Array Value} {k : Value → World → Prop} (hd : notDef o.op = true)
    (hr : (execOp a.eval o).run P w = .ok (.enter f args) w) (h : Calls P f args w fun e w' => ∃ v, e = .returned v ∧ k v w') (hk : ∀ v w', k v w' → next (a.put o.dst v) w') : o.wpIn F m P a w next Q := by
  refine ⟨fun f _ => fx.fn f, ?_⟩
  rw [sem_at hd, hr, Oper.uponIn_enter]
  refine ⟨(fun e => by rw [fx.depth] at e; cases e), (fx.calls h).mono fun e w' he => ?_⟩
  obtain ⟨v, rfl, hv⟩ := he
  exact hk _ _ hv
theorem value_soundIn (fx : FxOk F) {o : Oper} {a : Act} {w w' : World} {v : Value} {next : Act → World → Prop} {Q : Exit → Act → World → Prop} (hd : notDef o.op = true)
    (hr : (execOp a.eval o).run P w = .ok (.value v) w') (hk : next (a.put o.dst v) w') : o.wpIn F m P a w next Q := by
  refine ⟨fun f _ => fx.fn f, ?_⟩
  rw [sem_at hd, hr, Oper.uponIn_value]
  exact hk
theorem evOp_soundIn (fx : FxOk F) {o : Oper} {E : Env} {w : World} {k : Value → World → Prop} {n : Nat} {a : Act} {next : Act → World → Prop} {Q : Exit → Act → World → Prop} (hd : notDef o.op = true)
    (hf : Fits δ n a E) (h : evOp P o E w k) (hk : ∀ v w', k v w' → next (a.put o.dst v) w') : o.wpIn F m P a w next Q := by
  have he := hf.eval
  have vval : VVal P E o w k → o.wpIn F m P a w next Q := fun ⟨v, w', hr, hv⟩ => value_soundIn fx hd (by rw [he]; exact hr) (hk _ _ hv)
  have vpure : (VPure P E o fun v => k v w) → o.wpIn F m P a w next Q := fun ⟨v, hr, hv⟩ => value_soundIn fx hd (by rw [he]; exact hr w) (hk _ _ hv)
  have vskip : VSkip P E o w k → o.wpIn F m P a w next Q := by
    rintro ⟨w', hr, hv⟩
    refine ⟨fun f _ => fx.fn f, ?_⟩
    rw [sem_at hd, he, hr, Oper.uponIn_skip]
    exact hk _ _ hv
  obtain ⟨dst, op, type, pos, after, guard⟩ := o
  cases op
  case move x => exact value_soundIn fx hd (by rw [he]; rfl) (hk _ _ h)
  case assign x => exact value_soundIn fx hd (by rw [he]; rfl) (hk _ _ h)
  case pick c x y =>
    simp only [evOp] at h
    split at h
    · rename_i hc; exact value_soundIn fx hd (by rw [he]; simp [execOp, hc, asBool]) (hk _ _ h)
    · rename_i hc; exact value_soundIn fx hd (by rw [he]; simp [execOp, hc, asBool]) (hk _ _ h)
    · exact h.elim
  case extract t i =>
    simp only [evOp] at h
    split at h
    · rename_i vs hc
      split at h
      · rename_i v hv
        rw [nth_eq] at hv
        refine value_soundIn fx hd (by rw [he]; simp only [execOp, hc, Instr.extract]; rw [Array.getElem?_toList] at hv; simp [hv]) (hk _ _ h)
      · exact h.elim
    · exact h.elim
  case store => exact vskip h
  case call c =>
    obtain ⟨callee, args, ts⟩ := c
    cases callee with
    | invoke r m => exact h.elim
    | builtin b =>
      simp only [evOp] at h
      split at h
      · exact vpure h
      · exact vval h
    | value x =>
      have gen : ∀ {f first captured}, val E x = .func (.func f) first captured → VCall P f (first.toList ++ (args.toList.map (val E)) ++ captured.toList).toArray w k → ({ dst, op := .call { callee := .value x, args, argTypes := ts }, type, pos, after, guard } : Oper).wpIn F m P a w next Q := by
        intro f first captured hx hc
        refine call_soundIn fx hd ?_ hc.go hk
        have e : (first.toList ++ (args.toList.map (val E)) ++ captured.toList).toArray = first ++ args.map (val E) ++ captured := by
          apply Array.toList_inj.1; simp
        rw [he, e]
        simp only [execOp, resolve, hx, Deferred.ofValue, Sem.run_bind, Sem.run_pure, Result.andThen_ok, invoke]
        exact run_enter hc.fn
      cases x with
      | func f =>
        refine gen (first := #[]) (captured := #[]) rfl ?_
        simpa [evOp] using h
      | tmp t =>
        simp only [evOp] at h
        split at h
        · rename_i hx; exact gen hx h
        · exact h.elim
      | const t =>
        simp only [evOp] at h
        split at h
        · rename_i hx; exact gen hx h
        · exact h.elim
      | global t =>
        simp only [evOp] at h
        split at h
        · rename_i hx; exact gen hx h
        · exact h.elim
  case defer => cases hd
  all_goals first | exact vpure h | exact vval h
theorem evOps_soundIn (fx : FxOk F) {n : Nat} {ops : Array Oper} {Q : Exit → Act → World → Prop} {K : Env → World → Prop} (hds : ∀ (j : Nat) (o : Oper), ops[j]? = some o → dstIn n o.dst = true) (l2 : List Oper)
    (hK : ∀ a E w, Fits δ n a E → K E w → wpListIn F m P ops Q l2 a w) : ∀ (l : List Oper) (E : Env) (w : World) (a : Act), (∀ o ∈ l, dstIn n o.dst = true ∧ notDef o.op = true) → Fits δ n a E → evOps P ops.toList l E w K → wpListIn F m P ops Q (l ++ l2) a w
  | [], E, w, a, _, hf, h => hK _ _ _ hf h
  | o :: r, E, w, a, hl, hf, h => by
    have hw := wanted_eq hf ops hds o
    unfold evOps at h
    rw [List.cons_append]
    unfold wpListIn
    rw [hw]
    obtain ⟨ho, hd⟩ := hl o (by simp)
    cases hb : wantB ops.toList E o.guard with
    | true =>
      rw [hb] at h
      rw [if_pos rfl]
      exact evOp_soundIn fx hd hf (evStep_op P h) fun v w' hk => evOps_soundIn fx hds l2 hK r _ _ _ (fun o ho => hl o (by simp [ho])) (hf.put ho v) hk
    | false =>
      rw [hb] at h
      rw [if_neg (by simp)]
      exact ⟨fun f _ => fx.fn f, evOps_soundIn fx hds l2 hK r _ _ _ (fun o ho => hl o (by simp [ho])) (hf.put ho undef) h⟩
/-- A call of the loop's body. -/
structure VY (F : Fence) (P : Program) (E : Env) (o : Oper) (w : World) (k : Value → World → Prop) : Prop where
  go : ∃ l fn tmps assign body, (execOp (val E) o).run P w = .ok (.round l fn tmps assign body) w ∧ ∀ n, RoundIn F n P l fn tmps assign body w fun e w' => ∃ v, e = .returned v ∧ k v w'
theorem vy_sound (fx : FxOk F) {o : Oper} {E : Env} {w : World} {k : Value → World → Prop} {n : Nat} {a : Act} {next : Act → World → Prop} {Q : Exit → Act → World → Prop} (hd : notDef o.op = true)
    (hf : Fits δ n a E) (h : VY F P E o w k) (hk : ∀ v w', k v w' → next (a.put o.dst v) w') : o.wpIn F m P a w next Q := by
  obtain ⟨l, fn, tmps, assign, body, hr, hR⟩ := h.go
  refine ⟨fun f _ => fx.fn f, ?_⟩
  rw [sem_at hd, hf.eval, hr, Oper.uponIn_round]
  refine ⟨(fun e => by rw [fx.depth] at e; cases e), (hR _).mono fun e w' he => ?_⟩
  obtain ⟨v, rfl, hv⟩ := he
  exact hk _ _ hv
/-- Operations in their order, the one at place j a call of the loop's body. -/
def evY (F : Fence) (P : Program) (all : List Oper) : List Oper → Nat → Env → World → (Env → World → Prop) → Prop
  | [], _, _, _, _ => False
  | o :: r, 0, E, w, K => wantB all E o.guard = true ∧ VY F P E o w (fun v w' => evOps P all r (upd E o.dst v) w' K)
  | o :: r, j + 1, E, w, K => match wantB all E o.guard with
    | true => evStep P o E w (fun E w' => evY F P all r j E w' K)
    | false => evY F P all r j (upd E o.dst undef) w K
theorem evY_sound (fx : FxOk F) {n : Nat} {ops : Array Oper} {Q : Exit → Act → World → Prop} {K : Env → World → Prop} (hds : ∀ (j : Nat) (o : Oper), ops[j]? = some o → dstIn n o.dst = true)
    (hK : ∀ a E w, Fits δ n a E → K E w → Q .normal a w) : ∀ (l : List Oper) (j : Nat) (E : Env) (w : World) (a : Act), (∀ o ∈ l, dstIn n o.dst = true ∧ notDef o.op = true) → Fits δ n a E → evY F P ops.toList l j E w K → wpListIn F m P ops Q l a w
  | [], j, E, w, a, _, hf, h => h.elim
  | o :: r, 0, E, w, a, hl, hf, h => by
    have hw := wanted_eq hf ops hds o
    obtain ⟨ho, hd⟩ := hl o (by simp)
    unfold evY at h
    unfold wpListIn
    rw [hw, h.1, if_pos rfl]
    refine vy_sound fx hd hf h.2 fun v w' hk => ?_
    have := evOps_soundIn (m := m) (Q := Q) fx hds [] (fun a E w hf hk => hK a E w hf hk) r _ _ _ (fun o ho => hl o (by simp [ho])) (hf.put ho v) hk
    rw [List.append_nil] at this
    exact this
  | o :: r, j + 1, E, w, a, hl, hf, h => by
    have hw := wanted_eq hf ops hds o
    obtain ⟨ho, hd⟩ := hl o (by simp)
    unfold evY at h
    unfold wpListIn
    rw [hw]
    cases hb : wantB ops.toList E o.guard with
    | true =>
      rw [hb] at h
      rw [if_pos rfl]
      exact evOp_soundIn fx hd hf (evStep_op P h) fun v w' hk => evY_sound fx hds hK r j _ _ _ (fun o ho => hl o (by simp [ho])) (hf.put ho v) hk
    | false =>
      rw [hb] at h
      rw [if_neg (by simp)]
      exact ⟨fun f _ => fx.fn f, evY_sound fx hds hK r j _ _ _ (fun o ho => hl o (by simp [ho])) (hf.put ho undef) h⟩
variable {ops : Array Oper} {Q : Exit → Act → World → Prop} {S : World → Prop}
theorem yields_in (fx : FxOk F) {i : Nat} {o : Oper} {v : Value} {a : Act} (hi : ops[i]? = some o) (hd : notDef o.op = true) (hy : YieldsIf P ops S o v a) {K : Act → World → Prop} {w : World} (hS : S w) (h : K (a.put o.dst v) w) : wpOpIn F m P ops Q i K a w := by
  unfold wpOpIn
  simp only [hi]
  rcases hy with ⟨hw, hv⟩ | ⟨hw, rfl⟩
  · rw [if_pos hw]
    exact ⟨fun f _ => fx.fn f, by rw [sem_at hd, hv w hS, Oper.uponIn_value]; exact h⟩
  · rw [if_neg (by rw [hw]; decide)]
    exact ⟨fun f _ => fx.fn f, h⟩
theorem put_in (fx : FxOk F) {j : Nat} {oi oj : Oper} {v : Value} (hj : ops[j]? = some oj) (hd : notDef oj.op = true) (hap : oi.apart ops oj = true) (hsi : ∀ cs b, oi.op ≠ .select cs b) (hsj : ∀ cs b, oj.op ≠ .select cs b)
    (hQ : ∀ c a w, Q (.panic c) (a.put oi.dst v) w → Q (.panic c) a w) {K : Act → World → Prop} {a : Act} {w : World} (hy : YieldsIf P ops S oi v a) (h : wpOpIn F m P ops Q j K (a.put oi.dst v) w) :
    wpOpIn F m P ops Q j (fun a' w' => YieldsIf P ops S oi v a' ∧ K (a'.put oi.dst v) w') a w := by
  obtain ⟨h1, h2, h3⟩ := Oper.apart_spec hap
  have keep : ∀ (a : Act), YieldsIf P ops S oi v a → ∀ u, YieldsIf P ops S oi v (a.put oj.dst u) := fun a hy u => hy.of_same (execOp_put oi hsi a oj.dst u h3) (wanted_put oi a oj.dst u h3)
  have turn : ∀ u w', K ((a.put oi.dst v).put oj.dst u) w' → YieldsIf P ops S oi v (a.put oj.dst u) ∧ K ((a.put oj.dst u).put oi.dst v) w' := fun u w' hk => ⟨keep a hy u, by rw [← Act.put_comm a v u h2]; exact hk⟩
  unfold wpOpIn at h ⊢
  simp only [hj] at h ⊢
  rw [wanted_put oj a oi.dst v h1] at h
  by_cases hw : Region.wanted oj (yielded ops a.tmps) = true
  · rw [if_pos hw] at h ⊢
    refine ⟨fun f _ => fx.fn f, ?_⟩
    have h := h.2
    rw [sem_at hd, execOp_put oj hsj a oi.dst v h1] at h
    rw [sem_at hd]
    revert h
    generalize (execOp a.eval oj).run P w = r
    intro h
    cases r with
    | halt x w' =>
      cases x <;> first | exact hQ _ _ _ h | exact h
    | ok x w' =>
      cases x with
      | value u => exact turn u w' h
      | skip => exact turn undef w' h
      | defer d =>
        refine ⟨(hy.of_same (a' := { a with defers := d :: a.defers }) rfl rfl).of_same (execOp_put oi hsi _ oj.dst undef h3) (wanted_put oi _ oj.dst undef h3), ?_⟩
        rw [← Act.put_comm _ v undef h2, ← Act.put_defers]
        exact h
      | enter f args =>
        refine ⟨h.1, h.2.mono fun e w'' he => ?_⟩
        cases e with
        | returned u => exact turn u w'' he
        | panicked c => exact hQ _ _ _ he
        | outgrown => exact he
      | row r args => exact ⟨h.1, h.2.mono fun u w'' he => turn u w'' he⟩
      | round l f tmps assign body =>
        refine ⟨h.1, h.2.mono fun e w'' he => ?_⟩
        cases e with
        | returned u => exact turn u w'' he
        | panicked c => exact hQ _ _ _ he
        | outgrown => exact he
      | _ => exact h
  · rw [if_neg hw] at h ⊢
    exact ⟨fun f _ => fx.fn f, turn undef w h.2⟩
/-- Whichever order; what is held stays. -/
def wpHI (F : Fence) (m : Nat) (P : Program) (ops : Array Oper) (Q : Exit → Act → World → Prop) (S : World → Prop) : Nat → Array Bool → Act → World → Prop
  | 0, listed, a, w => Region.ready .any ops listed = [] ∧ Q .normal a w
  | k + 1, listed, a, w => (Region.ready .any ops listed = [] → Q .normal a w) ∧ ∀ j ∈ Region.ready .any ops listed, wpOpIn F m P ops Q j (fun a' w' => S w' ∧ wpHI F m P ops Q S k (listed.setIfInBounds j true) a' w') a w
theorem any_of_HI : ∀ (k : Nat) (listed : Array Bool) (a : Act) (w : World), wpHI F m P ops Q S k listed a w → wpAnyIn F m P .any ops Q k listed a w
  | 0, _, _, _, h => h
  | k + 1, _, _, _, h => ⟨h.1, fun j hj => wpOpIn_mono (fun a' w' x => any_of_HI k _ a' w' x.2) (h.2 j hj)⟩
theorem HI_done {listed : Array Bool} {a : Act} {w : World} (hr : Region.ready .any ops listed = []) (h : Q .normal a w) : ∀ k, wpHI F m P ops Q S k listed a w
  | 0 => ⟨hr, h⟩
  | _ + 1 => ⟨fun _ => h, by rw [hr]; simp⟩
theorem HI_all {rs : List Nat} {k : Nat} {listed : Array Bool} {a : Act} {w : World} (hr : Region.ready .any ops listed = rs) (hne : rs ≠ []) (h : ∀ j ∈ rs, wpOpIn F m P ops Q j (fun a' w' => S w' ∧ wpHI F m P ops Q S k (listed.setIfInBounds j true) a' w') a w) : wpHI F m P ops Q S (k + 1) listed a w :=
  ⟨fun h0 => absurd (hr ▸ h0) hne, hr ▸ h⟩
theorem HI_first (fx : FxOk F) (hnd : ∀ (j : Nat) (o : Oper), ops[j]? = some o → notDef o.op = true) {i : Nat} {oi : Oper} {v : Value} (hi : ops[i]? = some oi) (hsel : ∀ (j : Nat) (o : Oper) cs b, ops[j]? = some o → o.op ≠ .select cs b) (hQ : ∀ c a w, Q (.panic c) (a.put oi.dst v) w → Q (.panic c) a w) :
    ∀ (k : Nat) (listed : Array Bool) (a : Act) (w : World), (∀ j oj, ops[j]? = some oj → j ≠ i → listed.getD j true = false → (∀ e ∈ oj.after, Region.binds .any e = true → e.on ≠ i) → oi.apart ops oj = true) →
      i ∈ Region.ready .any ops listed → YieldsIf P ops S oi v a → S w → wpHI F m P ops Q S k (listed.setIfInBounds i true) (a.put oi.dst v) w → wpHI F m P ops Q S (k + 1) listed a w := by
  intro k
  induction k with
  | zero =>
    intro listed a w _ hr hy hS H
    refine ⟨fun h0 => (by rw [h0] at hr; cases hr), fun j hj => ?_⟩
    rcases Classical.em (j = i) with rfl | hji
    · exact yields_in fx hi (hnd _ _ hi) hy hS ⟨hS, H⟩
    · have := ready_mono hj hji
      rw [H.1] at this; cases this
  | succ k ih =>
    intro listed a w hfree hr hy hS H
    refine ⟨fun h0 => (by rw [h0] at hr; cases hr), fun j hj => ?_⟩
    rcases Classical.em (j = i) with rfl | hji
    · exact yields_in fx hi (hnd _ _ hi) hy hS ⟨hS, H⟩
    · have h1 := H.2 j (ready_mono hj hji)
      obtain ⟨hjun, oj, hoj, hall⟩ := mem_ready.1 hj
      have waits : ∀ e ∈ oj.after, Region.binds .any e = true → e.on ≠ i := fun e he hb heq => by
        have g1 := hall e he hb
        have g0 := (mem_ready.1 hr).1
        rw [heq] at g1
        rcases Nat.lt_or_ge i listed.size with hlt | hge
        · simp [hlt] at g0 g1
          rw [g0] at g1; cases g1
        · simp [Array.getElem?_eq_none hge] at g1
      have h2 := put_in fx hoj (hnd _ _ hoj) (hfree j oj hoj hji hjun waits) (fun cs b => hsel i oi cs b hi) (fun cs b => hsel j oj cs b hoj) hQ hy h1
      refine wpOpIn_mono (fun a' w' x => ⟨x.2.1, ih (listed.setIfInBounds j true) a' w' (fun q oq hq hqi hun hno => ?_) (ready_mono hr (Ne.symm hji)) x.1 x.2.1 ?_⟩) h2
      · refine hfree q oq hq hqi ?_ hno
        rcases Classical.em (j = q) with rfl | hjq
        · exact hjun
        · rw [getD_set_ne true hjq] at hun; exact hun
      · rw [Array.setIfInBounds_comm _ _ hji]
        exact x.2.2
/-- A tree of orders, the operation y a call of the loop's body. -/
def evTY (F : Fence) (P : Program) (S : World → Prop) (all : List Oper) (y : Nat) : Sch → Env → World → (Env → World → Prop) → Prop
  | .nil, E, w, K => K E w
  | .take i r, E, w, K => (match nth all i with
    | none => False
    | some o => match wantB all E o.guard with
      | false => evTY F P S all y r (upd E o.dst undef) w K
      | true => evTakeE P S o E (fun E => evTY F P S all y r E w K))
  | .one i r, E, w, K => (match Nat.beq i y with
    | true => (match nth all i with
      | none => False
      | some o => wantB all E o.guard = true ∧ VY F P E o w (fun v w' => S w' ∧ evTY F P S all y r (upd E o.dst v) w' K))
    | false => evB P S all i E w (fun E w => evTY F P S all y r E w K))
  | _, _, _, _ => False
theorem evB_in (fx : FxOk F) (hnd : ∀ (j : Nat) (o : Oper), ops[j]? = some o → notDef o.op = true) {n i : Nat} {E : Env} {w : World} {a : Act} {k : Env → World → Prop} {H : Act → World → Prop} (hds : ∀ (j : Nat) (o : Oper), ops[j]? = some o → dstIn n o.dst = true)
    (hf : Fits δ n a E) (hS : S w) (h : evB P S ops.toList i E w k) (hk : ∀ a E w, Fits δ n a E → S w → k E w → H a w) : wpOpIn F m P ops Q i (fun a' w' => S w' ∧ H a' w') a w := by
  simp only [evB, nth_eq, Array.getElem?_toList] at h
  unfold wpOpIn
  cases ho : ops[i]? with
  | none => rw [ho] at h; exact h.elim
  | some o =>
    rw [ho] at h
    have hd := hds i o ho
    have hw := wanted_eq hf ops hds o
    simp only
    rw [hw]
    cases hb : wantB ops.toList E o.guard with
    | true =>
      simp only [hb] at h
      rw [if_pos rfl]
      exact evOp_soundIn fx (hnd _ _ ho) hf (evStep_op P h) fun v w' hk' => ⟨hk'.1, hk _ _ _ (hf.put hd v) hk'.1 hk'.2⟩
    | false =>
      simp only [hb] at h
      rw [if_neg (by simp)]
      exact ⟨fun f _ => fx.fn f, hS, hk _ _ _ (hf.put hd undef) hS h⟩
theorem evTY_sound (fx : FxOk F) (hnd : ∀ (j : Nat) (o : Oper), ops[j]? = some o → notDef o.op = true) {n y : Nat} {K : Env → World → Prop} (hds : ∀ (j : Nat) (o : Oper), ops[j]? = some o → dstIn n o.dst = true) (hns : Region.noSelect ops = true)
    (hQ : ∀ c a b w, Q (.panic c) a w → Q (.panic c) b w) (hK : ∀ a E w, Fits δ n a E → K E w → Q .normal a w) : ∀ (T : Sch) (listed : Array Bool) (E : Env) (w : World) (a : Act), Fits δ n a E → S w → schedT ops T listed = true → evTY F P S ops.toList y T E w K → wpHI F m P ops Q S T.left listed a w
  | .nil, listed, E, w, a, hf, _, hs, h => HI_done (by simpa [schedT] using hs) (hK _ _ _ hf h) _
  | .take i r, listed, E, w, a, hf, hS, hs, h => by
    simp only [schedT, Bool.and_eq_true] at hs
    obtain ⟨hs1, hs2⟩ := hs
    simp only [evTY, nth_eq, Array.getElem?_toList] at h
    cases ho : ops[i]? with
    | none => rw [ho] at h; exact h.elim
    | some o =>
      rw [ho] at h
      have hd := hds i o ho
      have hw := wanted_eq hf ops hds o
      have rest : ∀ v, evTY F P S ops.toList y r (upd E o.dst v) w K → wpHI F m P ops Q S r.left (listed.setIfInBounds i true) (a.put o.dst v) w := fun v h' => evTY_sound fx hnd hds hns hQ hK r _ _ _ _ (hf.put hd v) hS hs2 h'
      have go : ∀ v, YieldsIf P ops S o v a → wpHI F m P ops Q S r.left (listed.setIfInBounds i true) (a.put o.dst v) w → wpHI F m P ops Q S (r.left + 1) listed a w := fun v hy hr =>
        HI_first fx hnd ho (Region.noSelect_spec hns) (fun c a w hp => hQ c _ _ w hp) _ _ _ _ (Region.free_spec ho hs1.1) (by simpa using hs1.2) hy hS hr
      cases hb : wantB ops.toList E o.guard with
      | true =>
        simp only [hb] at h
        obtain ⟨v, hy, hv⟩ := evTake_sound (ops := ops) hf (by rw [hw, hb]) (evTakeE_op P h)
        exact go v hy (rest v hv)
      | false =>
        simp only [hb] at h
        exact go undef (.inr ⟨by rw [hw, hb], rfl⟩) (rest undef h)
  | .one i r, listed, E, w, a, hf, hS, hs, h => by
    simp only [schedT, Bool.and_eq_true] at hs
    have hr : Region.ready .any ops listed = [i] := by simpa using hs.1
    refine HI_all hr (by simp) fun j hj => ?_
    simp only [List.mem_singleton] at hj
    subst hj
    simp only [evTY] at h
    cases hy : Nat.beq j y with
    | false =>
      rw [hy] at h
      exact evB_in fx hnd hds hf hS h fun a E w hf hS hk => evTY_sound fx hnd hds hns hQ hK r _ _ _ _ hf hS hs.2 hk
    | true =>
      simp only [hy, nth_eq, Array.getElem?_toList] at h
      unfold wpOpIn
      cases ho : ops[j]? with
      | none => rw [ho] at h; exact h.elim
      | some o =>
        rw [ho] at h
        have hd := hds j o ho
        have hw := wanted_eq hf ops hds o
        simp only
        rw [hw, h.1, if_pos rfl]
        exact vy_sound fx (hnd _ _ ho) hf h.2 fun v w' hk => ⟨hk.1, evTY_sound fx hnd hds hns hQ hK r _ _ _ _ (hf.put hd v) hk.1 hs.2 hk.2⟩
  | .two .., _, _, _, _, _, _, _, h => h.elim
  | .three .., _, _, _, _, _, _, _, h => h.elim
end
end Go.Proofs.YtdlljmmgkoeilaaDoor
namespace Go.Proofs.YtdlljmmgkoeilaaDoor
open Go.RowKit
variable {δ : List Deferred}
/-- A region that draws its order and calls the loop's body (or none): one order, some operations taken ahead. -/
structure VDrawY (F : Fence) (P : Program) (ops : Array Oper) (y : Nat) (E : Env) (w : World) (K : Env → World → Prop) : Prop where
  go : ∃ (S : World → Prop) (T : Sch), (Region.noSelect ops && (T.left == ops.size && schedT ops T (Array.replicate ops.size false))) = true ∧ S w.drew ∧ evTY F P S ops.toList y T E w.drew K
def regY (F : Fence) (P : Program) (ops : Array Oper) (y : Nat) (draw : Bool) (E : Env) (w : World) (K : Env → World → Prop) : Prop :=
  match draw with
  | false => evY F P ops.toList ops.toList y E w K
  | true => VDrawY F P ops y E w K
def evX (F : Fence) (P : Program) (ys : Nat → Option Nat) : Code → Env → World → Kont → Prop
  | .skip, E, w, K => K .normal E w
  | .label _, E, w, K => K .normal E w
  | .seq a b, E, w, K => evX F P ys a E w (thenK (fun E w K => evX F P ys b E w K) K)
  | .cond c t f, E, w, K => (match val E c with | .bool true => evX F P ys t E w K | .bool false => evX F P ys f E w K | _ => False)
  | .block id body, E, w, K => evX F P ys body E w (blockK id K)
  | .loop body, E, w, K => VLoop (fun E w K => evX F P ys body E w K) E w K
  | .region id ops draw, E, w, K => (match ys id with
    | none => (match draw with
      | false => evOps P ops.toList ops.toList E w (normK K)
      | true => VDraw P ops E w (normK K))
    | some y => regY F P ops y draw E w (normK K))
  | .exit id, E, w, K => K (.exit id) E w
  | .goto l, E, w, K => K (.goto l) E w
  | .ret, E, w, K => K .ret E w
  | .scope body, E, w, K => evX F P ys body E w (scopeK K)
  | _, _, _, _ => False
def ndOk : Code → Bool
  | .region _ ops _ => ops.all fun o => notDef o.op
  | .seq a b => ndOk a && ndOk b
  | .cond _ a b => ndOk a && ndOk b
  | .block _ b => ndOk b
  | .loop b => ndOk b
  | .scope b => ndOk b
  | _ => true
section
variable {P : Program} {F : Fence} {ys : Nat → Option Nat}
theorem region_in (fx : FxOk F) (hm : P.follows .mixedOrders = true) {n m id y : Nat} {ops : Array Oper} {draw : Bool} {E : Env} {w : World} {K : Kont} {a : Act} (hd : dstOk n (.region id ops draw) = true) (hn : ndOk (.region id ops draw) = true) (hf : Fits δ n a E)
    (h : regY F P ops y draw E w (normK K)) : (Code.region id ops draw).wpIn F m P (Holds δ n K) a w := by
  have hd' : ∀ o ∈ ops, dstIn n o.dst = true := fun o ho => Array.all_eq_true_iff_forall_mem.1 hd o ho
  have hn' : ∀ o ∈ ops, notDef o.op = true := fun o ho => Array.all_eq_true_iff_forall_mem.1 hn o ho
  have hds : ∀ (j : Nat) (o : Oper), ops[j]? = some o → dstIn n o.dst = true := fun j o ho => hd' o (Array.mem_of_getElem? ho)
  have hnd : ∀ (j : Nat) (o : Oper), ops[j]? = some o → notDef o.op = true := fun j o ho => hn' o (Array.mem_of_getElem? ho)
  cases draw with
  | false => exact wpIn_region_list (evY_sound fx hds (fun a E w hf hk => ⟨E, hf, hk⟩) ops.toList y E w a (fun o ho => ⟨hd' o (by simpa using ho), hn' o (by simpa using ho)⟩) hf h)
  | true =>
    obtain ⟨S, T, hs, hS, hT⟩ := VDrawY.go h
    simp only [Bool.and_eq_true, beq_iff_eq] at hs
    obtain ⟨hns, hlen, hgo⟩ := hs
    refine wpIn_region_any hm (any_of_HI (S := S) _ _ _ _ ?_)
    rw [← hlen] at hgo ⊢
    exact evTY_sound fx hnd hds hns (fun c a b w h => h) (fun a E w hf hk => ⟨E, hf, hk⟩) T _ E w.drew a hf hS hgo hT
theorem evX_wide {n : Nat} (hm : P.follows .mixedOrders = true) : ∀ (c : Code) (E : Env) (w : World) (K : Kont) (a : Act), dstOk n c = true → ndOk c = true → Fits δ n a E → evX Fence.wide P ys c E w K → c.wp P (Holds δ n K) a w := by
  intro c
  induction c with
  | skip => intro E w K a _ _ hf h; exact wp_skip ⟨E, hf, h⟩
  | label l => intro E w K a _ _ hf h; exact wp_label ⟨E, hf, h⟩
  | exit i => intro E w K a _ _ hf h; exact wp_exit ⟨E, hf, h⟩
  | goto l => intro E w K a _ _ hf h; exact wp_goto ⟨E, hf, h⟩
  | ret => intro E w K a _ _ hf h; exact wp_ret ⟨E, hf, h⟩
  | seq x y ihx ihy =>
    intro E w K a hd hn hf h
    simp only [dstOk, ndOk, Bool.and_eq_true] at hd hn
    refine wp_seq (wp_mono (ihx _ _ _ _ hd.1 hn.1 hf h) (Holds.then_ (fun a E w hf h => ihy _ _ _ _ hd.2 hn.2 hf h) ?_))
    intro x E w hx h
    cases x <;> first | exact absurd rfl hx | exact h
  | cond c t f iht ihf =>
    intro E w K a hd hn hf h
    simp only [dstOk, ndOk, Bool.and_eq_true] at hd hn
    have hc : a.eval c = val E c := by rw [hf.eval]
    simp only [evX] at h
    split at h
    · rename_i hb; exact wp_cond (t := true) (by rw [hc, hb]) (iht _ _ _ _ hd.1 hn.1 hf h)
    · rename_i hb; exact wp_cond (t := false) (by rw [hc, hb]) (ihf _ _ _ _ hd.2 hn.2 hf h)
    · exact h.elim
  | block id b ih =>
    intro E w K a hd hn hf h
    refine wp_block (wp_mono (ih _ _ _ _ hd hn hf h) ?_)
    intro x a w h
    cases x with
    | exit i =>
      obtain ⟨E, hf, hk⟩ := h
      unfold blockK at hk
      dsimp only at hk
      show (if i = id then _ else _)
      cases hb : Nat.beq i id with
      | true => rw [hb] at hk; rw [if_pos (Nat.eq_of_beq_eq_true hb)]; exact ⟨E, hf, hk⟩
      | false => rw [hb] at hk; rw [if_neg (fun e => by subst e; simp at hb)]; exact ⟨E, hf, hk⟩
    | normal => exact h
    | goto l => exact h
    | ret => exact h
    | panic c => exact h
    | outgrown => exact h
  | loop b ih =>
    intro E w K a hd hn hf h
    obtain ⟨S, I, L, μ, ⟨s0, hi0, ha0⟩, round⟩ := h.go
    have key : ∀ m s a E w, μ s = m → I s w → agrees E (L s) → Fits δ n a E → ∀ (bf : Frame) (k : List Item) (cs : List Frame), ∃ e a' w', Holds δ n K e a' w' ∧ Arrives P (lone (bf.at a (.code b :: .inLoop b :: k)) cs w) bf k cs e a' w' := by
      intro m
      induction m using Nat.strongRecOn with
      | _ m ihm =>
        intro s a E w hm' hi ha hf bf k cs
        have hr := round s E w hi
        rw [over_of_agrees ha] at hr
        obtain ⟨e, a1, w1, hq, harr⟩ := ih _ _ _ _ hd hn hf hr bf (.inLoop b :: k) cs
        cases e with
        | normal =>
          obtain ⟨E1, hf1, s1, hi1, ha1, hlt⟩ := hq
          obtain ⟨e2, a2, w2, hq2, harr2⟩ := ihm (μ s1) (hm' ▸ hlt) s1 a1 E1 w1 rfl hi1 ha1 hf1 bf k cs
          exact ⟨e2, a2, w2, hq2, .of_steps (Steps.trans harr (.one step_inLoop)) harr2⟩
        | exit id => obtain ⟨E1, hf1, h1⟩ := hq; exact ⟨.exit id, a1, w1, ⟨E1, hf1, h1⟩, .pass (x := .inLoop b) rfl (fun _ _ => .inl (by simp)) harr⟩
        | goto l => obtain ⟨E1, hf1, h1⟩ := hq; exact ⟨.goto l, a1, w1, ⟨E1, hf1, h1⟩, .pass (x := .inLoop b) rfl (fun _ _ => .inl (by simp)) harr⟩
        | ret => obtain ⟨E1, hf1, h1⟩ := hq; exact ⟨.ret, a1, w1, ⟨E1, hf1, h1⟩, .pass (x := .inLoop b) rfl (fun _ _ => .inl (by simp)) harr⟩
        | panic ch => exact hq.elim
        | outgrown => exact hq.elim
    intro bf k cs
    obtain ⟨e, a', w', hq, harr⟩ := key _ s0 a E w rfl hi0 ha0 hf bf k cs
    exact ⟨e, a', w', hq, .of_steps (.one step_loop) harr⟩
  | region id ops draw =>
    intro E w K a hd hn hf h
    simp only [evX] at h
    cases hy : ys id with
    | none =>
      rw [hy] at h
      exact ev_sound hm (.region id ops draw) E w K a hd hf h
    | some y =>
      rw [hy] at h
      exact wpIn_wide.1 (region_in (m := 0) (y := y) fx_wide hm hd hn hf h)
  | scope b ih =>
    intro E w K a hd hn hf h
    refine wp_scope_straight (wp_mono (ih _ _ _ _ hd hn hf h) ?_)
    intro x a w h
    cases x with
    | normal => exact h
    | exit i => exact h
    | goto l => obtain ⟨E, hf, hk⟩ := h; exact hk.elim
    | ret => exact h
    | panic c => exact h
    | outgrown => exact h
  | rangeFunc f ps x b iha ihb => intro E w K a _ _ hf h; exact h.elim
  | refuse why => intro E w K a _ _ hf h; exact h.elim
/-- A call comes to what its body comes to, calls of a loop's body among it. -/
theorem calls_evX {f : FuncId} {fn : Func} {c : Code} {args : List Value} {w : World} {R : Ending → World → Prop} (ys : Nat → Option Nat) (hm : P.follows .mixedOrders = true) (hf : P.funcs[f]? = some fn) (hb : fn.body = some c)
    (hd : (dstOk fn.ntmps c && (ndOk c && Nat.ble args.length fn.ntmps)) = true) (h : evX Fence.wide P ys c (start args) w (retK P fn R)) : Calls P f args.toArray w R := by
  simp only [Bool.and_eq_true] at hd
  have hn : args.length ≤ fn.ntmps := Nat.le_of_ble_eq_true hd.2.2
  refine calls_of_wp hf hb (wp_mono (evX_wide hm c _ _ _ _ hd.1 hd.2.1 (start_fits args _ hn) h) ?_)
  intro x a w hx
  cases x with
  | normal => obtain ⟨E, hfit, hk⟩ := hx; obtain ⟨vs, hr, hk⟩ := res_run hfit hk; exact ⟨hfit.2.1, _, hr, hk⟩
  | ret => obtain ⟨E, hfit, hk⟩ := hx; obtain ⟨vs, hr, hk⟩ := res_run hfit hk; exact ⟨hfit.2.1, _, hr, hk⟩
  | exit i => obtain ⟨E, hfit, hk⟩ := hx; exact hk.elim
  | goto l => obtain ⟨E, hfit, hk⟩ := hx; exact hk.elim
  | panic c => exact hx.elim
  | outgrown => exact hx.elim
/-- Code without loops, whose drawn regions have a tree: fit for a round. -/
def flatOk (ys : Nat → Option Nat) : Code → Bool
  | .region id _ draw => !draw || (ys id).isSome
  | .seq a b => flatOk ys a && flatOk ys b
  | .cond _ a b => flatOk ys a && flatOk ys b
  | .block _ b => flatOk ys b
  | .loop _ => false
  | .scope _ => false
  | _ => true
theorem evX_in (fx : FxOk F) {n m : Nat} (hm : P.follows .mixedOrders = true) : ∀ (c : Code) (E : Env) (w : World) (K : Kont) (a : Act), dstOk n c = true → ndOk c = true → flatOk ys c = true → Fits δ n a E → evX F P ys c E w K → c.wpIn F m P (Holds δ n K) a w := by
  intro c
  induction c with
  | skip => intro E w K a _ _ _ hf h; exact wpIn_skip ⟨E, hf, h⟩
  | label l => intro E w K a _ _ _ hf h; exact wpIn_label ⟨E, hf, h⟩
  | exit i => intro E w K a _ _ _ hf h; exact wpIn_exit ⟨E, hf, h⟩
  | goto l => intro E w K a _ _ _ hf h; exact wpIn_goto ⟨E, hf, h⟩
  | ret => intro E w K a _ _ _ hf h; exact wpIn_ret ⟨E, hf, h⟩
  | seq x y ihx ihy =>
    intro E w K a hd hn hl hf h
    simp only [dstOk, ndOk, flatOk, Bool.and_eq_true] at hd hn hl
    refine wpIn_seq (wpIn_mono (ihx _ _ _ _ hd.1 hn.1 hl.1 hf h) (Holds.then_ (fun a E w hf h => ihy _ _ _ _ hd.2 hn.2 hl.2 hf h) ?_))
    intro x E w hx h
    cases x <;> first | exact absurd rfl hx | exact h
  | cond c t f iht ihf =>
    intro E w K a hd hn hl hf h
    simp only [dstOk, ndOk, flatOk, Bool.and_eq_true] at hd hn hl
    have hc : a.eval c = val E c := by rw [hf.eval]
    simp only [evX] at h
    split at h
    · rename_i hb; exact wpIn_cond (t := true) (by rw [hc, hb]) (iht _ _ _ _ hd.1 hn.1 hl.1 hf h)
    · rename_i hb; exact wpIn_cond (t := false) (by rw [hc, hb]) (ihf _ _ _ _ hd.2 hn.2 hl.2 hf h)
    · exact h.elim
  | block id b ih =>
    intro E w K a hd hn hl hf h
    refine wpIn_block (wpIn_mono (ih _ _ _ _ hd hn hl hf h) ?_)
    intro x a w h
    cases x with
    | exit i =>
      obtain ⟨E, hf, hk⟩ := h
      unfold blockK at hk
      dsimp only at hk
      show (if i = id then _ else _)
      cases hb : Nat.beq i id with
      | true => rw [hb] at hk; rw [if_pos (Nat.eq_of_beq_eq_true hb)]; exact ⟨E, hf, hk⟩
      | false => rw [hb] at hk; rw [if_neg (fun e => by subst e; simp at hb)]; exact ⟨E, hf, hk⟩
    | normal => exact h
    | goto l => exact h
    | ret => exact h
    | panic c => exact h
    | outgrown => exact h
  | loop b ih => intro E w K a hd hn hl; cases hl
  | region id ops draw =>
    intro E w K a hd hn hl hf h
    simp only [evX] at h
    cases hy : ys id with
    | none =>
      rw [hy] at h
      cases draw with
      | true => simp [flatOk, hy] at hl
      | false =>
        have hd' : ∀ o ∈ ops, dstIn n o.dst = true := fun o ho => Array.all_eq_true_iff_forall_mem.1 hd o ho
        have hn' : ∀ o ∈ ops, notDef o.op = true := fun o ho => Array.all_eq_true_iff_forall_mem.1 hn o ho
        have := evOps_soundIn (m := m) (Q := Holds δ n K) fx (fun j o ho => hd' o (Array.mem_of_getElem? ho)) [] (fun a E w hf hk => (⟨E, hf, hk⟩ : Holds δ n K .normal a w)) ops.toList E w a (fun o ho => ⟨hd' o (by simpa using ho), hn' o (by simpa using ho)⟩) hf h
        rw [List.append_nil] at this
        exact wpIn_region_list this
    | some y =>
      rw [hy] at h
      exact region_in (y := y) fx hm hd hn hf h
  | scope b ih => intro E w K a hd hn hl; cases hl
  | rangeFunc f ps x b iha ihb => intro E w K a _ _ _ hf h; exact h.elim
  | refuse why => intro E w K a _ _ _ hf h; exact h.elim
end
end Go.Proofs.YtdlljmmgkoeilaaDoor
