/- The walks of trie.Put and behind. The walk of trie.settle. The walk of trie.drop. -/
import Derived.Test.YtdlljmmgkoeilaaDoorG10
namespace Go.Proofs.YtdlljmmgkoeilaaDoor
open Go.RowKit
theorem is_tPut : isFn Tryd.prog 39 = true := by kernel_rfl
theorem is_behind : isFn Tryd.prog 66 = true := by kernel_rfl
def tPut (t : Nd) (key val : List UInt8) : Nd × Option (List UInt8) × Int :=
  if tri t key.length val.length then (match (putP t (ofB key) val).2 with
    | some r => (noneN, some r, 80)
    | none => ((putP t (ofB key) val).1, none, 0))
  else (noneN, none, 2)
set_option maxRecDepth 100000 in
set_option maxHeartbeats 1000000 in
theorem tPut_any (t : Nd) (ht : sz t < 1000000) (key val : List UInt8) (gs : List (Option Nat)) (w : World) (cs : List Value) (A1 A2 : Option Addr) (n c m d : Nat) (hr : RdL w (Fd w gs) (dN t) cs) (hk : RdD w (Fd w gs) (dB key) (.slice A1 n c)) (hv : RdD w (Fd w gs) (dB val) (.slice A2 m d)) (hgs : ∀ b, some b ∈ gs → b < w.heap.size) :
    Calls Tryd.prog 39 #[.agg cs.toArray, .slice A1 n c, .slice A2 m d] w fun e w' => ∃ cs' Am nm cm, e = .returned (.tuple #[.agg cs'.toArray, .slice Am nm cm, .int .i64 (tPut t key val).2.2]) ∧ RdL w' (Fd w' gs) (dN (tPut t key val).1) cs' ∧ missOk w' (Fr w w') [] (tPut t key val).2.1 Am nm cm ∧ Below w.heap.size w w' := by
  refine calls_ev (args := [.agg cs.toArray, .slice A1 n c, .slice A2 m d]) mixed Tryd.func39 rfl (by kernel_rfl) ?_
  have hl := hr.len
  rw [dN_len] at hl
  have en := hk.slen
  have em := hv.slen
  subst en; subst em
  refine v_boxB cs rfl ?_
  rintro g3 W1 hg3 hB3 hb hs1
  refine v_allocB zN al_nd ?_
  rintro g6 W2 hg6 hB6 hb6 hs6
  rw [hg3] at hb
  rw [hg6] at hb6
  have hwg : w.heap.size ≤ g3 ∧ g3 < g6 := by omega
  have A : At w W2 (some g6 :: gs) := ((At.start hgs).call hb).newn hb6 g6 hB6.lt
  have S : Stp w gs W2 (some g6 :: gs) := (Stp.below hb).trans (Stp.new hb6 (fun b e => by injection e with e; omega))
  replace hB3 := hB3.below hb6
  replace hr := hr.up S
  replace hk := hk.up S
  replace hv := hv.up S
  clear hb hb6 S hg3
  refine v_loadN cs agg_nd rfl hl (hB3.run 0 _ (fun j v h => by rw [Nat.zero_add]; exact h)) ?_
  refine cc is_tright (tright_any t (by omega) _ W2 cs A1 A2 key.length c val.length d hr A.lt) ?_
  rintro e W3 ⟨rfl, hb⟩
  refine ⟨_, rfl, ?_⟩
  have St := A.stp hb
  replace A := A.call hb
  replace hr := hr.up St
  replace hk := hk.up St
  replace hv := hv.up St
  replace hB3 := hB3.below hb
  replace hB6 := hB6.below hb
  refine p_not rfl ?_
  unfold tPut
  cases htri : tri t key.length val.length with
  | false =>
    refine p_build (vs := zN) pl_nd z_nd rfl ?_
    refine v_storeA zN sz_nd rfl rfl rfl (by intro u hu; simp [zN] at hu; rcases hu with rfl | rfl | rfl | rfl | rfl | rfl <;> rfl) hB6 rfl ?_
    rintro W4 hB4 hg4 hs4
    refine c_loadN zN agg_nd rfl rfl (hB4.run 0 _ (fun j v h => by rw [Nat.zero_add]; exact h)) ?_
    exact ⟨zN, none, 0, 0, rfl, RdL.znone, ⟨rfl, rfl, rfl⟩, (A.wrote hg4 (fun b e => by injection e with e; omega)).below⟩
  | true =>
    have hval : Val true t 0 := by
      unfold tri at htri
      rw [Bool.and_eq_true] at htri
      exact val_of_right true _ t 0 (Nat.lt_succ_self _) htri.1
    have hkl : key.length ≤ 200 ∧ val.length ≤ 4000 := by
      unfold tri at htri
      simp only [Bool.and_eq_true, decide_eq_true_eq] at htri
      exact htri.2
    rw [if_pos rfl]
    refine v_loadN cs agg_nd rfl hl (hB3.run 0 _ (fun j v h => by rw [Nat.zero_add]; exact h)) ?_
    refine cc is_ncopy (ncopy_any 10000000 (by decide) t (by omega) _ W3 cs hr A.lt) ?_
    rintro e W4 ⟨cs4, rfl, h4, hb⟩
    refine ⟨_, rfl, ?_⟩
    replace h4 := h4.fresh A.lt
    have St := A.stp hb
    replace A := A.call hb
    replace hk := hk.up St
    replace hv := hv.up St
    replace hB6 := hB6.below hb
    obtain ⟨_, _, hkr⟩ := hk.rd Fd.lt
    refine cc is_nof (of_any A1 key.length c key W4 hkr (by omega)) ?_
    rintro e W5 ⟨A5, c5, rfl, o5, hb⟩
    refine ⟨_, rfl, ?_⟩
    have hq := (o5.zb (base := 0) (Nat.zero_le _) A.lt).z0
    have St := A.stp hb
    replace A := A.call hb
    replace hv := hv.up St
    replace h4 := h4.up St
    replace hB6 := hB6.below hb
    refine v_bslice0 slb ?_
    rintro g7 W6 hg7 hB7 hb hs7
    rw [hg7] at hb
    have St := A.stp hb
    replace A := A.call hb
    replace hv := hv.up St
    replace h4 := h4.up St
    replace hq := hq.up St
    replace hB6 := hB6.below hb
    refine cc is_tput (tput_any 1000000 (Nat.le_refl _) t ht _ W6 cs4 (ofB key) val [] A5 _ c5 A2 _ d (some ⟨g7, 0, none⟩) 0 0 0 true h4 hq hv (RdD.nil_ _ _) A.lt (.inl (by simp)) (halvesB_ofB key) hval (by rw [ofB_length]; simp; omega)) ?_
    rintro e W7 ⟨cs7, Am, nm, cm, rfl, hres, hmiss, hb⟩
    refine ⟨_, rfl, ?_⟩
    replace hmiss := hmiss.zfr (base := w.heap.size) A.size A.lt
    replace A := A.call hb
    replace hB6 := hB6.below hb
    refine v_allocB zN al_nd ?_
    rintro g9 W8 hg9 hB9 hb hs9
    rw [hg9] at hb
    have St := A.stpn hb g9 (by omega)
    have h69 := hB6.lt
    replace A := A.newn hb g9 hB9.lt
    replace hres := hres.up St
    replace hmiss := hmiss.upz St
    replace hB6 := hB6.below hb
    have hl7 := hres.len
    rw [dN_len] at hl7
    refine v_storeA cs7 sz_nd rfl rfl hl7 (hres.ones (dN_one _)) hB9 rfl ?_
    rintro W9 hB99 hg99 hs99
    have St : Stp W8 (some g9 :: some g6 :: gs) W9 (some g9 :: some g6 :: gs) := Stp.wrote hg99 (by simp)
    replace A := A.wrote hg99 (fun b e => by injection e with e; omega)
    replace hres := hres.up St
    replace hmiss := hmiss.upz St
    replace hB6 := hB6.grownN hg99 (by omega)
    cases hmm : (putP t (ofB key) val).2 with
    | some r =>
      rw [hmm] at hmiss
      refine p_slnn isSlb rfl rfl (fun h => absurd h hmiss.1) (fun _ => ?_)
      refine p_build (vs := zN) pl_nd z_nd rfl ?_
      refine v_storeA zN sz_nd rfl rfl rfl (by intro u hu; simp [zN] at hu; rcases hu with rfl | rfl | rfl | rfl | rfl | rfl <;> rfl) hB6 rfl ?_
      rintro W10 hB10 hg10 hs10
      have St2 : Stp W9 (some g9 :: some g6 :: gs) W10 (some g9 :: some g6 :: gs) := Stp.wrote hg10 (by simp)
      refine c_loadN zN agg_nd rfl rfl (hB10.run 0 _ (fun j v h => by rw [Nat.zero_add]; exact h)) ?_
      exact ⟨zN, Am, nm, cm, rfl, RdL.znone, (hmiss.upz St2).frz, (A.wrote hg10 (fun b e => by injection e with e; omega)).below⟩
    | none =>
      rw [hmm] at hmiss
      obtain ⟨rfl, rfl, rfl⟩ := hmiss
      refine p_slnn isSlb rfl rfl (fun _ => ?_) (fun h => absurd rfl h)
      refine v_loadN cs7 agg_nd rfl hl7 (hB99.run 0 _ (fun j v h => by rw [Nat.zero_add]; exact h)) ?_
      refine v_storeA cs7 sz_nd rfl rfl hl7 (hres.ones (dN_one _)) hB6 rfl ?_
      rintro W10 hB10 hg10 hs10
      have St2 : Stp W9 (some g9 :: some g6 :: gs) W10 (some g9 :: some g6 :: gs) := Stp.wrote hg10 (by simp)
      refine c_loadN cs7 agg_nd rfl hl7 (hB10.run 0 _ (fun j v h => by rw [Nat.zero_add]; exact h)) ?_
      exact ⟨cs7, none, 0, 0, rfl, (hres.up St2).up (Stp.drop.trans Stp.drop), ⟨rfl, rfl, rfl⟩, (A.wrote hg10 (fun b e => by injection e with e; omega)).below⟩
def behindN (p : List UInt8) (t : Nd) : Nd := if t.kind = 1 ∨ t.kind = 2 then .mk t.kind (p ++ t.path) t.has t.val t.kids t.hash else if t.kind = 0 then t else alongN p t
set_option maxRecDepth 100000 in
set_option maxHeartbeats 1000000 in
theorem behind_any (p : List UInt8) (t : Nd) (gs : List (Option Nat)) (w : World) (A1 : Option Addr) (n c : Nat) (cs : List Value) (hp : RdD w (Fd w gs) (dB p) (.slice A1 n c)) (hr : RdL w (Fd w gs) (dN t) cs) (hgs : ∀ b, some b ∈ gs → b < w.heap.size) (hs : p.length + t.path.length ≤ 1000000) :
    Calls Tryd.prog 66 #[.slice A1 n c, .agg cs.toArray] w fun e w' => ∃ cs', e = .returned (.agg cs'.toArray) ∧ RdL w' (Fd w' gs) (dN (behindN p t)) cs' ∧ Below w.heap.size w w' := by
  refine calls_ev (args := [.slice A1 n c, .agg cs.toArray]) mixed Tryd.func66 rfl (by kernel_rfl) ?_
  have en := hp.slen
  obtain ⟨Ap, cp, Av, cv, Ak, ck, Ah, ch, rfl, r1, r3, r4, r5⟩ := hr.node
  refine v_boxB (ncs t Ap cp Av cv Ak ck Ah ch) rfl ?_
  rintro g3 W1 hg3 hB3 hb hs1
  refine v_allocB zN al_nd ?_
  rintro g4 W2 hg4 hB4 hb4 hs4
  rw [hg3] at hb
  rw [hg4] at hb4
  have hwg : w.heap.size ≤ g3 ∧ g3 < g4 := by omega
  have S1 := (At.start hgs).stpn hb g3 (by omega)
  have A1' := (At.start hgs).newn hb g3 hB3.lt
  have S := S1.trans (A1'.stpn hb4 g4 (by omega))
  have A := A1'.newn hb4 g4 hB4.lt
  replace hB3 := hB3.below hb4
  replace hp := hp.up S
  replace hr := hr.up S
  replace r1 := r1.up S
  replace r3 := r3.up S
  replace r4 := r4.up S
  replace r5 := r5.up S
  clear S S1 A1' hb hb4
  refine p_fld fN0 rfl ?_
  refine v_load agg_int rfl (hB3.at_ rfl) ?_
  refine p_eq rfl rfl (fun h1 => ?_) (fun h1 => ?_)
  ·
    refine p_fld fN1 rfl ?_
    refine v_load agg_b rfl (hB3.at_ rfl) ?_
    refine v_bslice (vs := [.slice A1 n c, .slice Ap t.path.length cp]) sl_ls' zls2 rfl (by decide) rfl ?_
    rintro g5 W3 hg5 hB5 hb -
    rw [hg5] at hb
    have hfr := A.lt
    have St := A.stp hb
    replace A := A.call hb
    replace hp := hp.up St
    replace r1 := r1.up St
    have hD2 := ls2 hB5 hp r1 (fun e => by have := hfr g5 e; omega)
    replace hB3 := hB3.below hb
    replace hB4 := hB4.below hb
    have hfl : [p, t.path].flatten = p ++ t.path := by simp
    have hcall := concat_any _ _ 2 2 [p, t.path] _ A.lt hD2 (by rw [hfl, List.length_append]; omega) (by decide)
    rw [hfl] at hcall
    refine cc is_concat hcall ?_
    rintro e W4 ⟨A3, c3, rfl, o3, hb⟩
    have P := (o3.zb (base := 0) (Nat.zero_le _) A.lt).z0
    have St4 := St.trans (A.stp hb)
    replace A := A.call hb
    replace hB3 := hB3.below hb
    replace hB4 := hB4.below hb
    refine ⟨_, rfl, ?_⟩
    refine p_fld fN1 rfl ?_
    refine v_set (.slice A3 (p ++ t.path).length c3) sz_by hB3 rfl rfl rfl (by show 1 < 6; decide) ?_
    rintro W5 hB35 hg5' hs5
    replace hB35 : Blk W5 g3 28 (ncs (.mk t.kind (p ++ t.path) t.has t.val t.kids t.hash) A3 c3 Av cv Ak ck Ah ch) := hB35
    refine v_loadN (ncs (.mk t.kind (p ++ t.path) t.has t.val t.kids t.hash) A3 c3 Av cv Ak ck Ah ch) agg_nd rfl rfl (hB35.run 0 _ (fun j v h => by rw [Nat.zero_add]; exact h)) ?_
    refine v_storeA (ncs (.mk t.kind (p ++ t.path) t.has t.val t.kids t.hash) A3 c3 Av cv Ak ck Ah ch) sz_nd rfl rfl rfl (ncs_one _ _ _ _ _ _ _ _ _) (hB4.grownN hg5' (by omega)) rfl ?_
    rintro W6 hB46 hg6 hs6
    refine c_loadN (ncs (.mk t.kind (p ++ t.path) t.has t.val t.kids t.hash) A3 c3 Av cv Ak ck Ah ch) agg_nd rfl rfl (hB46.run 0 _ (fun j v h => by rw [Nat.zero_add]; exact h)) ?_
    have St6 : Stp W4 (some g4 :: some g3 :: gs) W6 gs := ((Stp.wrote hg5' (by simp)).trans (Stp.wrote hg6 (by simp))).trans (Stp.drop.trans Stp.drop)
    have StA := St4.trans St6
    refine ⟨_, rfl, ?_, ((A.wrote hg5' (fun b e => by injection e with e; omega)).wrote hg6 (fun b e => by injection e with e; omega)).below⟩
    unfold behindN
    rw [if_pos (Or.inl h1)]
    exact RdL.ofnode (t := .mk t.kind (p ++ t.path) t.has t.val t.kids t.hash) (P.up St6) (r3.up StA) (r4.up StA) (r5.up StA)
  · refine p_eq rfl rfl (fun h2 => ?_) (fun h2 => ?_)
    ·
      refine p_fld fN1 rfl ?_
      refine v_load agg_b rfl (hB3.at_ rfl) ?_
      refine v_bslice (vs := [.slice A1 n c, .slice Ap t.path.length cp]) sl_ls' zls2 rfl (by decide) rfl ?_
      rintro g5 W3 hg5 hB5 hb -
      rw [hg5] at hb
      have hfr := A.lt
      have St := A.stp hb
      replace A := A.call hb
      replace hp := hp.up St
      replace r1 := r1.up St
      have hD2 := ls2 hB5 hp r1 (fun e => by have := hfr g5 e; omega)
      replace hB3 := hB3.below hb
      replace hB4 := hB4.below hb
      have hfl : [p, t.path].flatten = p ++ t.path := by simp
      have hcall := concat_any _ _ 2 2 [p, t.path] _ A.lt hD2 (by rw [hfl, List.length_append]; omega) (by decide)
      rw [hfl] at hcall
      refine cc is_concat hcall ?_
      rintro e W4 ⟨A3, c3, rfl, o3, hb⟩
      have P := (o3.zb (base := 0) (Nat.zero_le _) A.lt).z0
      have St4 := St.trans (A.stp hb)
      replace A := A.call hb
      replace hB3 := hB3.below hb
      replace hB4 := hB4.below hb
      refine ⟨_, rfl, ?_⟩
      refine p_fld fN1 rfl ?_
      refine v_set (.slice A3 (p ++ t.path).length c3) sz_by hB3 rfl rfl rfl (by show 1 < 6; decide) ?_
      rintro W5 hB35 hg5' hs5
      replace hB35 : Blk W5 g3 28 (ncs (.mk t.kind (p ++ t.path) t.has t.val t.kids t.hash) A3 c3 Av cv Ak ck Ah ch) := hB35
      refine v_loadN (ncs (.mk t.kind (p ++ t.path) t.has t.val t.kids t.hash) A3 c3 Av cv Ak ck Ah ch) agg_nd rfl rfl (hB35.run 0 _ (fun j v h => by rw [Nat.zero_add]; exact h)) ?_
      refine v_storeA (ncs (.mk t.kind (p ++ t.path) t.has t.val t.kids t.hash) A3 c3 Av cv Ak ck Ah ch) sz_nd rfl rfl rfl (ncs_one _ _ _ _ _ _ _ _ _) (hB4.grownN hg5' (by omega)) rfl ?_
      rintro W6 hB46 hg6 hs6
      refine c_loadN (ncs (.mk t.kind (p ++ t.path) t.has t.val t.kids t.hash) A3 c3 Av cv Ak ck Ah ch) agg_nd rfl rfl (hB46.run 0 _ (fun j v h => by rw [Nat.zero_add]; exact h)) ?_
      have St6 : Stp W4 (some g4 :: some g3 :: gs) W6 gs := ((Stp.wrote hg5' (by simp)).trans (Stp.wrote hg6 (by simp))).trans (Stp.drop.trans Stp.drop)
      have StA := St4.trans St6
      refine ⟨_, rfl, ?_, ((A.wrote hg5' (fun b e => by injection e with e; omega)).wrote hg6 (fun b e => by injection e with e; omega)).below⟩
      unfold behindN
      rw [if_pos (Or.inr h2)]
      exact RdL.ofnode (t := .mk t.kind (p ++ t.path) t.has t.val t.kids t.hash) (P.up St6) (r3.up StA) (r4.up StA) (r5.up StA)
    · refine p_eq rfl rfl (fun h0 => ?_) (fun h0 => ?_)
      · refine v_loadN (ncs t Ap cp Av cv Ak ck Ah ch) agg_nd rfl rfl (hB3.run 0 _ (fun j v h => by rw [Nat.zero_add]; exact h)) ?_
        refine v_storeA (ncs t Ap cp Av cv Ak ck Ah ch) sz_nd rfl rfl rfl (ncs_one _ _ _ _ _ _ _ _ _) hB4 rfl ?_
        rintro W4 hB44 hg4' hs4'
        refine c_loadN (ncs t Ap cp Av cv Ak ck Ah ch) agg_nd rfl rfl (hB44.run 0 _ (fun j v h => by rw [Nat.zero_add]; exact h)) ?_
        have St : Stp W2 (some g4 :: some g3 :: gs) W4 gs := (Stp.wrote hg4' (by simp)).trans (Stp.drop.trans Stp.drop)
        refine ⟨_, rfl, ?_, (A.wrote hg4' (fun b e => by injection e with e; omega)).below⟩
        unfold behindN
        rw [if_neg (by rintro (h | h) <;> contradiction)]
        rw [if_pos h0]
        exact hr.up St
      · refine v_loadN (ncs t Ap cp Av cv Ak ck Ah ch) agg_nd rfl rfl (hB3.run 0 _ (fun j v h => by rw [Nat.zero_add]; exact h)) ?_
        refine cc is_along (along_any p t _ W2 A1 n c _ hp hr A.lt (by omega)) ?_
        rintro e W3 ⟨cs3, rfl, h3, hb⟩
        refine ⟨_, rfl, ?_⟩
        have hl3 := h3.len
        rw [dN_len] at hl3
        replace A := A.call hb
        refine v_storeA cs3 sz_nd rfl rfl hl3 (h3.ones (dN_one _)) (hB4.below hb) rfl ?_
        rintro W4 hB44 hg4' hs4'
        refine c_loadN cs3 agg_nd rfl hl3 (hB44.run 0 _ (fun j v h => by rw [Nat.zero_add]; exact h)) ?_
        have St : Stp W3 (some g4 :: some g3 :: gs) W4 gs := (Stp.wrote hg4' (by simp)).trans (Stp.drop.trans Stp.drop)
        refine ⟨_, rfl, ?_, (A.wrote hg4' (fun b e => by injection e with e; omega)).below⟩
        unfold behindN
        rw [if_neg (by rintro (h | h) <;> contradiction)]
        rw [if_neg h0]
        exact h3.up St
end Go.Proofs.YtdlljmmgkoeilaaDoor
namespace Go.Proofs.YtdlljmmgkoeilaaDoor
open Go.RowKit
theorem is_settle : isFn Tryd.prog 67 = true := by kernel_rfl
/-- Which kid is the only one: none where there is more than one thing. -/
def scanK (has : Bool) : List Nd → Nat → Option Nat → Option (Option Nat)
  | [], _, o => some o
  | k :: ks, i, o => if k.kind = 0 then scanK has ks (i + 1) o else if o.isSome || has then none else scanK has ks (i + 1) (some i)
def settleP (t : Nd) : Nd × Option (List UInt8) :=
  match scanK t.has t.kids 0 none with
  | none => (t, none)
  | some none => (leafN [] t.val, none)
  | some (some i) => if (t.kids.getD i noneN).kind = 4 then (t, some [UInt8.ofNat i]) else (behindN [UInt8.ofNat i] (t.kids.getD i noneN), none)
def schSet : Sch := .take 0 (.take 2 (.take 5 (.take 6 (.two 1 (.two 3 (.two 4 (.one 7 .nil) 7 (.one 4 .nil)) 7 (.one 3 (.one 4 .nil))) 7 (.one 1 (.one 3 (.one 4 .nil)))))))
def onlyV (o : Option Nat) : Int := match o with | none => -1 | some j => (j : Int)
set_option maxRecDepth 100000 in
set_option maxHeartbeats 1000000 in
theorem settle_any (t : Nd) (way : List UInt8) (gs : List (Option Nat)) (w : World) (A1 : Option Addr) (n c : Nat) (cs : List Value) (hr : RdL w (Fd w gs) (dN t) cs) (hw : RdD w (Fd w gs) (dB way) (.slice A1 n c)) (hgs : ∀ b, some b ∈ gs → b < w.heap.size) (hk : t.kids.length ≤ 16) (hz : sz t ≤ 1000000) (hs : n ≤ 100000) :
    Calls Tryd.prog 67 #[.agg cs.toArray, .slice A1 n c] w fun e w' => ∃ cs' Am nm cm, e = .returned (.tuple #[.agg cs'.toArray, .slice Am nm cm]) ∧ RdL w' (Fd w' gs) (dN (settleP t).1) cs' ∧ missOk w' (Fr w w') way (settleP t).2 Am nm cm ∧ Below w.heap.size w w' := by
  refine calls_ev (args := [.agg cs.toArray, .slice A1 n c]) mixed Tryd.func67 rfl (by kernel_rfl) ?_
  have en := hw.slen
  have hsz := sz_eq t
  obtain ⟨Ap, cp, Av, cv, Ak, ck, Ah, ch, rfl, r1, r3, r4, r5⟩ := hr.node
  refine v_boxB (ncs t Ap cp Av cv Ak ck Ah ch) rfl ?_
  rintro g2 W1 hg2 hB2 hb hs1
  refine v_allocB zN al_nd ?_
  rintro g4 W2 hg4 hB4 hb4 hs4
  rw [hg2] at hb
  rw [hg4] at hb4
  have hwg : w.heap.size ≤ g2 ∧ g2 < g4 := by omega
  have S1 := (At.start hgs).stpn hb g2 (by omega)
  have A1' := (At.start hgs).newn hb g2 hB2.lt
  have S := S1.trans (A1'.stpn hb4 g4 (by omega))
  have A := A1'.newn hb4 g4 hB4.lt
  have h4l := hB4.lt
  replace hB2 := hB2.below hb4
  replace hw := hw.up S
  replace hr := hr.up S
  replace r3 := r3.up S
  replace r4 := r4.up S
  clear S S1 A1' hb hb4 r1 r5
  refine p_fld fN4 rfl ?_
  refine v_load agg_ns rfl (hB2.at_ rfl) ?_
  refine p_len sln rfl ?_
  obtain ⟨R, hR⟩ : ∃ R, scanK t.has t.kids 0 none = R := ⟨_, rfl⟩
  refine lp (Nat × Option Nat) (fun s W => s.1 ≤ t.kids.length ∧ (∀ j, s.2 = some j → j < s.1) ∧ R = scanK t.has (t.kids.drop s.1) s.1 s.2 ∧ Below W2.heap.size W2 W)
    (fun s => [(1, .slice A1 n c), (2, .pointer (some ⟨g2, 0, none⟩)), (4, .pointer (some ⟨g4, 0, none⟩)), (6, .int .i64 (onlyV s.2)), (10, .slice Ak t.kids.length ck), (11, .int .i64 t.kids.length), (12, .int .i64 s.1)]) (fun s => t.kids.length - s.1) (0, none)
    ⟨Nat.zero_le _, (fun _ e => nomatch e), hR.symm, Below.refl _ _⟩ ⟨rfl, rfl, rfl, rfl, rfl, rfl, rfl, trivial⟩ ?_
  rintro ⟨i, o⟩ E5 W5 ⟨hi, ho, hsc, hb5⟩
  dsimp only at hi ho hsc
  have St5 := A.stp hb5
  refine p_lt rfl rfl (fun hlt => ?_) (fun hge => ?_)
  · obtain ⟨k, hki⟩ : ∃ k, t.kids[i]? = some k := ⟨_, List.getElem?_eq_getElem (by omega)⟩
    have hdr : t.kids.drop i = k :: t.kids.drop (i + 1) := by
      have h1 := (List.getElem?_eq_some_iff.1 hki)
      rw [List.drop_eq_getElem_cons h1.1, h1.2]
    rw [hdr] at hsc
    unfold scanK at hsc
    obtain ⟨b, off, es, rfl, hF, hes, hel, hc⟩ := (r4.up St5).kid hki
    refine p_at sln rfl rfl rfl (by omega) ?_
    refine v_loadN es agg_nd rfl hel hc ?_
    refine v_allocB zN al_nd ?_
    rintro g8 W6 hg8 hB8 hb8 hs8
    rw [hg8] at hb8
    obtain ⟨Ap5, cp5, Av5, cv5, Ak5, ck5, Ah5, ch5, rfl, -⟩ := hes.node
    refine v_storeA (ncs k Ap5 cp5 Av5 cv5 Ak5 ck5 Ah5 ch5) sz_nd rfl rfl rfl (ncs_one _ _ _ _ _ _ _ _ _) hB8 rfl ?_
    rintro W7 hB87 hg7 hs7
    have hb7 : Below W2.heap.size W2 W7 := (below_tr hb5 hb8).grown hg7 (by have := hb5.size; have := hb8.size; omega) (fun q hq => by injection hq with hq; have := hb5.size; omega)
    refine p_fld fN0 rfl ?_
    refine v_load agg_int rfl (hB87.at_ rfl) ?_
    refine p_eq rfl rfl (fun hk0 => ?_) (fun hk0 => ?_)
    · rw [if_pos hk0] at hsc
      refine p_add rfl rfl (r := ((i + 1 : Nat) : Int)) ((w64 (by dsimp only; omega)).trans (by dsimp only; omega)) ?_
      exact ⟨(i + 1, o), ⟨by dsimp only; omega, (fun j e => by have := ho j e; dsimp only; omega), (by first | exact hsc | (rw [hh] at hsc; exact hsc)), hb7⟩, ⟨rfl, rfl, rfl, rfl, rfl, rfl, rfl, trivial⟩, by dsimp only; omega⟩
    · rw [if_neg hk0] at hsc
      cases o with
      | some j =>
        rw [show ((some j).isSome || t.has) = true from rfl, if_pos rfl] at hsc
        refine p_ge rfl rfl (fun _ => ?_) (fun h => absurd (show (0 : Int) ≤ (j : Int) by omega) h)
        refine v_loadN (ncs t Ap cp Av cv (some ⟨b, off, none⟩) ck Ah ch) agg_nd rfl rfl ((hB2.below hb7).run 0 _ (fun j v h => by rw [Nat.zero_add]; exact h)) ?_
        refine v_storeA (ncs t Ap cp Av cv (some ⟨b, off, none⟩) ck Ah ch) sz_nd rfl rfl rfl (ncs_one _ _ _ _ _ _ _ _ _) (hB4.below hb7) rfl ?_
        rintro W8 hB48 hg8' hs8'
        refine c_loadN (ncs t Ap cp Av cv (some ⟨b, off, none⟩) ck Ah ch) agg_nd rfl rfl (hB48.run 0 _ (fun j v h => by rw [Nat.zero_add]; exact h)) ?_
        have St8 : Stp W2 (some g4 :: some g2 :: gs) W8 gs := ((A.stp hb7).trans (Stp.wrote hg8' (by simp))).trans (Stp.drop.trans Stp.drop)
        rw [show settleP t = (t, none) by unfold settleP; rw [hR, hsc]]
        exact ⟨_, none, 0, 0, rfl, hr.up St8, ⟨rfl, rfl, rfl⟩, ((A.call hb7).wrote hg8' (fun b e => by injection e with e; omega)).below⟩
      | none =>
        refine p_ge rfl rfl (fun h => absurd h (show ¬ (0 : Int) ≤ -1 by decide)) (fun _ => ?_)
        refine p_fld fN2 rfl ?_
        refine v_load agg_bo rfl ((hB2.below hb7).at_ rfl) ?_
        cases hh : t.has with
        | true =>
          rw [show ((none : Option Nat).isSome || t.has) = true by rw [hh]; rfl, if_pos rfl] at hsc
          refine v_loadN (ncs t Ap cp Av cv (some ⟨b, off, none⟩) ck Ah ch) agg_nd rfl rfl ((hB2.below hb7).run 0 _ (fun j v h => by rw [Nat.zero_add]; exact h)) ?_
          refine v_storeA (ncs t Ap cp Av cv (some ⟨b, off, none⟩) ck Ah ch) sz_nd rfl rfl rfl (ncs_one _ _ _ _ _ _ _ _ _) (hB4.below hb7) rfl ?_
          rintro W8 hB48 hg8' hs8'
          refine c_loadN (ncs t Ap cp Av cv (some ⟨b, off, none⟩) ck Ah ch) agg_nd rfl rfl (hB48.run 0 _ (fun j v h => by rw [Nat.zero_add]; exact h)) ?_
          have St8 : Stp W2 (some g4 :: some g2 :: gs) W8 gs := ((A.stp hb7).trans (Stp.wrote hg8' (by simp))).trans (Stp.drop.trans Stp.drop)
          rw [show settleP t = (t, none) by unfold settleP; rw [hR, hsc]]
          exact ⟨_, none, 0, 0, rfl, hr.up St8, ⟨rfl, rfl, rfl⟩, ((A.call hb7).wrote hg8' (fun b e => by injection e with e; omega)).below⟩
        | false =>
          rw [show ((none : Option Nat).isSome || t.has) = false by rw [hh]; rfl, if_neg (by simp)] at hsc
          refine p_add rfl rfl (r := ((i + 1 : Nat) : Int)) ((w64 (by dsimp only; omega)).trans (by dsimp only; omega)) ?_
          exact ⟨(i + 1, (some i)), ⟨by dsimp only; omega, (fun j e => by injection e with e; dsimp only; omega), (by first | exact hsc | (rw [hh] at hsc; exact hsc)), hb7⟩, ⟨rfl, rfl, rfl, rfl, rfl, rfl, rfl, trivial⟩, by dsimp only; omega⟩
  · have hi' : i = t.kids.length := by omega
    rw [List.drop_of_length_le (by omega)] at hsc
    unfold scanK at hsc
    cases o with
    | none =>
      refine p_lt rfl rfl (fun _ => ?_) (fun h => absurd (show (-1 : Int) < 0 by decide) h)
      refine p_fld fN3 rfl ?_
      refine v_load agg_b rfl ((hB2.below hb5).at_ rfl) ?_
      refine cc is_leaf (leaf_any [] t.val _ W5 none Av 0 0 t.val.length cv (RdD.nil_ _ _) (r3.up St5) (A.call hb5).lt (by omega)) ?_
      rintro e W6 ⟨cs6, rfl, h6, hb⟩
      refine ⟨_, rfl, ?_⟩
      replace h6 := (h6.zfr (A.call hb5).size (A.call hb5).lt).z0
      have hl6 := h6.len
      rw [dN_len] at hl6
      refine v_storeA cs6 sz_nd rfl rfl hl6 (h6.ones (dN_one _)) ((hB4.below hb5).below hb) rfl ?_
      rintro W8 hB48 hg8' hs8'
      refine c_loadN cs6 agg_nd rfl hl6 (hB48.run 0 _ (fun j v h => by rw [Nat.zero_add]; exact h)) ?_
      have St8 : Stp W6 (some g4 :: some g2 :: gs) W8 gs := (Stp.wrote hg8' (by simp)).trans (Stp.drop.trans Stp.drop)
      rw [show settleP t = (leafN [] t.val, none) by unfold settleP; rw [hR, hsc]]
      exact ⟨_, none, 0, 0, rfl, h6.up St8, ⟨rfl, rfl, rfl⟩, (((A.call hb5).call hb).wrote hg8' (fun b e => by injection e with e; omega)).below⟩
    | some j =>
      have hj := ho j rfl
      obtain ⟨k, hki⟩ : ∃ k, t.kids[j]? = some k := ⟨_, List.getElem?_eq_getElem (by omega)⟩
      have hkd : t.kids.getD j noneN = k := by rw [List.getD_eq_getElem?_getD, hki]; rfl
      have hkz := szs_mem (List.mem_of_getElem? hki)
      have hkz' := sz_eq k
      refine p_lt rfl rfl (fun h => absurd h (show ¬ (j : Int) < 0 by omega)) (fun _ => ?_)
      obtain ⟨b, off, es, rfl, hF, hes, hel, hc⟩ := (r4.up St5).kid hki
      obtain ⟨Ap5, cp5, Av5, cv5, Ak5, ck5, Ah5, ch5, rfl, -⟩ := hes.node
      refine p_fld fN4 rfl ?_
      refine v_load agg_ns rfl ((hB2.below hb5).at_ rfl) ?_
      refine p_at (i := j) sln rfl rfl rfl (by omega) ?_
      refine p_fld fN0 rfl ?_
      refine v_load agg_int rfl (hc 0 _ rfl) ?_
      refine p_eq rfl rfl (fun hk4 => ?_) (fun hk4 => ?_)
      · rw [show settleP t = (t, some [UInt8.ofNat j]) by unfold settleP; rw [hR, hsc]; dsimp only; rw [hkd, if_pos hk4]]
        replace hr := (hr.up St5).up Stp.drew
        replace hw := (hw.up St5).up Stp.drew
        replace A := (A.call hb5).drew
        replace hB2 := (hB2.below hb5).drew
        replace hB4 := (hB4.below hb5).drew
        subst en
        clear hes hc hki r3 r4 St5 hF
        refine drT (fun W => Blk W g2 28 (ncs t Ap cp Av cv (some ⟨b, off, none⟩) ck Ah ch)) (Sch.graft schSet (.one 8 (.one 9 (.take 10 .nil)))) (by kernel_rfl) hB2 ?_
        refine cutT (Option Addr × Nat × Nat) (fun s W => At w W (bk s.1 :: some g4 :: some g2 :: gs) ∧ Own W w.heap.size s.1 way.length s.2.1 way ∧ Own W w.heap.size (some ⟨s.2.2, 0, none⟩) 1 1 [UInt8.ofNat j] ∧ RdL W (Fd W (bk s.1 :: some g4 :: some g2 :: gs)) (dN t) (ncs t Ap cp Av cv (some ⟨b, off, none⟩) ck Ah ch) ∧ Blk W g4 28 zN ∧ Blk W g2 28 (ncs t Ap cp Av cv (some ⟨b, off, none⟩) ck Ah ch) ∧ (∀ b, bk s.1 = some b → g4 < b))
          (fun s => [(4, .pointer (some ⟨g4, 0, none⟩)), (45, .agg (ncs t Ap cp Av cv (some ⟨b, off, none⟩) ck Ah ch).toArray), (49, .slice s.1 way.length s.2.1), (52, .slice (some ⟨s.2.2, 0, none⟩) 1 1)]) ?_ ?_
        · refine t_loadN (ncs t Ap cp Av cv (some ⟨b, off, none⟩) ck Ah ch) agg_nd rfl rfl (fun W h => Blk.run h 0 _ (fun j v h => by rw [Nat.zero_add]; exact h)) ?_
          refine t_cvt u_int u_u8 rfl (r := ((j % 256 : Nat) : Int)) (by rw [IntKind.wrap_u8']; show (j : Int) % 256 = _; omega) ?_
          refine ⟨?_, ?_⟩
          ·
            refine v_bslice0 slb ?_
            rintro g1 Wn hg1 hB1 hb -
            rw [hg1] at hb
            have St := A.stp hb
            replace A := A.call hb
            replace hw := hw.up St
            replace hr := hr.up St
            replace hB2 := hB2.below hb
            replace hB4 := hB4.below hb
            try replace hD2 := hD2.up St
            try replace o4 := Own.upB o4 hb (Nat.le_refl _)
            try replace o7 := Own.upB o7 hb (Nat.le_refl _)
            clear hb St hg1 hB1
            refine ⟨hB2, ?_⟩
            refine ⟨?_, ?_⟩
            ·
              refine v_bslice (vs := [.slice (some ⟨g1, 0, none⟩) 0 0, .slice A1 way.length c]) sl_ls' zls2 rfl (by decide) rfl ?_
              rintro g3 Wn hg3 hB3 hb -
              rw [hg3] at hb
              have hfr := A.lt
              have St := A.stp hb
              replace A := A.call hb
              replace hw := hw.up St
              replace hr := hr.up St
              replace hB2 := hB2.below hb
              replace hB4 := hB4.below hb
              try replace hD2 := hD2.up St
              try replace o4 := Own.upB o4 hb (Nat.le_refl _)
              try replace o7 := Own.upB o7 hb (Nat.le_refl _)
              have hD2 := ls2 (way := []) hB3 (RdD.nil_ _ _) hw (fun e => by have := hfr g3 e; omega)
              clear hb St hg3 hB3 hfr
              refine ⟨hB2, ?_⟩
              refine ⟨?_, ?_⟩
              ·
                have hfl : [[], way].flatten = way := by simp
                have hcall := concat_any _ _ 2 2 [[], way] _ A.lt hD2 (by rw [hfl]; omega) (by decide)
                rw [hfl] at hcall
                refine cc is_concat hcall ?_
                clear hcall
                rintro e Wn ⟨A3, c3, rfl, o3, hb⟩
                have o4 : Own Wn w.heap.size A3 way.length c3 way := row_less o3 A.size
                have hlo : ∀ b, bk A3 = some b → g4 < b := fun b e => by have := (o3.bklo b e).1; have := hB4.lt; omega
                have St := Stp.new (gs := some g4 :: some g2 :: gs) hb (g := bk A3) (fun b e => (o3.bklo b e).1)
                replace A := A.new hb (g := bk A3) (fun b e => (o3.bklo b e).2)
                replace hw := hw.up St
                replace hr := hr.up St
                replace hB2 := hB2.below hb
                replace hB4 := hB4.below hb
                try replace hD2 := hD2.up St
                try replace o4 := Own.upB o4 hb (Nat.le_refl _)
                try replace o7 := Own.upB o7 hb (Nat.le_refl _)
                clear hb St o3
                refine ⟨_, rfl, hB2, ?_⟩
                refine v_litB [.int .u8 ((j % 256 : Nat) : Int)] [UInt8.ofNat j] (by decide) rfl (bvs1 j) rfl A ?_
                rintro g9 Wn hg9 o7 St A' hb -
                replace A := A'
                replace hw := hw.up St
                replace hr := hr.up St
                replace hB2 := hB2.below hb
                replace hB4 := hB4.below hb
                try replace hD2 := hD2.up St
                try replace o4 := Own.upB o4 hb (Nat.le_refl _)
                try replace o7 := Own.upB o7 hb (Nat.le_refl _)
                clear hb St A' hg9
                refine ⟨hB2, ?_⟩
                exact ⟨(A3, c3, g9), ⟨A, o4, o7, hr, hB4, hB2, hlo⟩, ⟨rfl, rfl, rfl, rfl, trivial⟩⟩
              ·
                refine v_litB [.int .u8 ((j % 256 : Nat) : Int)] [UInt8.ofNat j] (by decide) rfl (bvs1 j) rfl A ?_
                rintro g9 Wn hg9 o7 St A' hb -
                replace A := A'
                replace hw := hw.up St
                replace hr := hr.up St
                replace hB2 := hB2.below hb
                replace hB4 := hB4.below hb
                try replace hD2 := hD2.up St
                try replace o4 := Own.upB o4 hb (Nat.le_refl _)
                try replace o7 := Own.upB o7 hb (Nat.le_refl _)
                clear hb St A' hg9
                refine ⟨hB2, ?_⟩
                have hfl : [[], way].flatten = way := by simp
                have hcall := concat_any _ _ 2 2 [[], way] _ A.lt hD2 (by rw [hfl]; omega) (by decide)
                rw [hfl] at hcall
                refine cc is_concat hcall ?_
                clear hcall
                rintro e Wn ⟨A3, c3, rfl, o3, hb⟩
                have o4 : Own Wn w.heap.size A3 way.length c3 way := row_less o3 A.size
                have hlo : ∀ b, bk A3 = some b → g4 < b := fun b e => by have := (o3.bklo b e).1; have := hB4.lt; omega
                have St := Stp.new (gs := some g4 :: some g2 :: gs) hb (g := bk A3) (fun b e => (o3.bklo b e).1)
                replace A := A.new hb (g := bk A3) (fun b e => (o3.bklo b e).2)
                replace hw := hw.up St
                replace hr := hr.up St
                replace hB2 := hB2.below hb
                replace hB4 := hB4.below hb
                try replace hD2 := hD2.up St
                try replace o4 := Own.upB o4 hb (Nat.le_refl _)
                try replace o7 := Own.upB o7 hb (Nat.le_refl _)
                clear hb St o3
                refine ⟨_, rfl, hB2, ?_⟩
                exact ⟨(A3, c3, g9), ⟨A, o4, o7, hr, hB4, hB2, hlo⟩, ⟨rfl, rfl, rfl, rfl, trivial⟩⟩
            ·
              refine v_litB [.int .u8 ((j % 256 : Nat) : Int)] [UInt8.ofNat j] (by decide) rfl (bvs1 j) rfl A ?_
              rintro g9 Wn hg9 o7 St A' hb -
              replace A := A'
              replace hw := hw.up St
              replace hr := hr.up St
              replace hB2 := hB2.below hb
              replace hB4 := hB4.below hb
              try replace hD2 := hD2.up St
              try replace o4 := Own.upB o4 hb (Nat.le_refl _)
              try replace o7 := Own.upB o7 hb (Nat.le_refl _)
              clear hb St A' hg9
              refine ⟨hB2, ?_⟩
              refine v_bslice (vs := [.slice (some ⟨g1, 0, none⟩) 0 0, .slice A1 way.length c]) sl_ls' zls2 rfl (by decide) rfl ?_
              rintro g3 Wn hg3 hB3 hb -
              rw [hg3] at hb
              have hfr := A.lt
              have St := A.stp hb
              replace A := A.call hb
              replace hw := hw.up St
              replace hr := hr.up St
              replace hB2 := hB2.below hb
              replace hB4 := hB4.below hb
              try replace hD2 := hD2.up St
              try replace o4 := Own.upB o4 hb (Nat.le_refl _)
              try replace o7 := Own.upB o7 hb (Nat.le_refl _)
              have hD2 := ls2 (way := []) hB3 (RdD.nil_ _ _) hw (fun e => by have := hfr g3 e; omega)
              clear hb St hg3 hB3 hfr
              refine ⟨hB2, ?_⟩
              have hfl : [[], way].flatten = way := by simp
              have hcall := concat_any _ _ 2 2 [[], way] _ A.lt hD2 (by rw [hfl]; omega) (by decide)
              rw [hfl] at hcall
              refine cc is_concat hcall ?_
              clear hcall
              rintro e Wn ⟨A3, c3, rfl, o3, hb⟩
              have o4 : Own Wn w.heap.size A3 way.length c3 way := row_less o3 A.size
              have hlo : ∀ b, bk A3 = some b → g4 < b := fun b e => by have := (o3.bklo b e).1; have := hB4.lt; omega
              have St := Stp.new (gs := some g4 :: some g2 :: gs) hb (g := bk A3) (fun b e => (o3.bklo b e).1)
              replace A := A.new hb (g := bk A3) (fun b e => (o3.bklo b e).2)
              replace hw := hw.up St
              replace hr := hr.up St
              replace hB2 := hB2.below hb
              replace hB4 := hB4.below hb
              try replace hD2 := hD2.up St
              try replace o4 := Own.upB o4 hb (Nat.le_refl _)
              try replace o7 := Own.upB o7 hb (Nat.le_refl _)
              clear hb St o3
              refine ⟨_, rfl, hB2, ?_⟩
              exact ⟨(A3, c3, g9), ⟨A, o4, o7, hr, hB4, hB2, hlo⟩, ⟨rfl, rfl, rfl, rfl, trivial⟩⟩
          ·
            refine v_litB [.int .u8 ((j % 256 : Nat) : Int)] [UInt8.ofNat j] (by decide) rfl (bvs1 j) rfl A ?_
            rintro g9 Wn hg9 o7 St A' hb -
            replace A := A'
            replace hw := hw.up St
            replace hr := hr.up St
            replace hB2 := hB2.below hb
            replace hB4 := hB4.below hb
            try replace hD2 := hD2.up St
            try replace o4 := Own.upB o4 hb (Nat.le_refl _)
            try replace o7 := Own.upB o7 hb (Nat.le_refl _)
            clear hb St A' hg9
            refine ⟨hB2, ?_⟩
            refine v_bslice0 slb ?_
            rintro g1 Wn hg1 hB1 hb -
            rw [hg1] at hb
            have St := A.stp hb
            replace A := A.call hb
            replace hw := hw.up St
            replace hr := hr.up St
            replace hB2 := hB2.below hb
            replace hB4 := hB4.below hb
            try replace hD2 := hD2.up St
            try replace o4 := Own.upB o4 hb (Nat.le_refl _)
            try replace o7 := Own.upB o7 hb (Nat.le_refl _)
            clear hb St hg1 hB1
            refine ⟨hB2, ?_⟩
            refine v_bslice (vs := [.slice (some ⟨g1, 0, none⟩) 0 0, .slice A1 way.length c]) sl_ls' zls2 rfl (by decide) rfl ?_
            rintro g3 Wn hg3 hB3 hb -
            rw [hg3] at hb
            have hfr := A.lt
            have St := A.stp hb
            replace A := A.call hb
            replace hw := hw.up St
            replace hr := hr.up St
            replace hB2 := hB2.below hb
            replace hB4 := hB4.below hb
            try replace hD2 := hD2.up St
            try replace o4 := Own.upB o4 hb (Nat.le_refl _)
            try replace o7 := Own.upB o7 hb (Nat.le_refl _)
            have hD2 := ls2 (way := []) hB3 (RdD.nil_ _ _) hw (fun e => by have := hfr g3 e; omega)
            clear hb St hg3 hB3 hfr
            refine ⟨hB2, ?_⟩
            have hfl : [[], way].flatten = way := by simp
            have hcall := concat_any _ _ 2 2 [[], way] _ A.lt hD2 (by rw [hfl]; omega) (by decide)
            rw [hfl] at hcall
            refine cc is_concat hcall ?_
            clear hcall
            rintro e Wn ⟨A3, c3, rfl, o3, hb⟩
            have o4 : Own Wn w.heap.size A3 way.length c3 way := row_less o3 A.size
            have hlo : ∀ b, bk A3 = some b → g4 < b := fun b e => by have := (o3.bklo b e).1; have := hB4.lt; omega
            have St := Stp.new (gs := some g4 :: some g2 :: gs) hb (g := bk A3) (fun b e => (o3.bklo b e).1)
            replace A := A.new hb (g := bk A3) (fun b e => (o3.bklo b e).2)
            replace hw := hw.up St
            replace hr := hr.up St
            replace hB2 := hB2.below hb
            replace hB4 := hB4.below hb
            try replace hD2 := hD2.up St
            try replace o4 := Own.upB o4 hb (Nat.le_refl _)
            try replace o7 := Own.upB o7 hb (Nat.le_refl _)
            clear hb St o3
            refine ⟨_, rfl, hB2, ?_⟩
            exact ⟨(A3, c3, g9), ⟨A, o4, o7, hr, hB4, hB2, hlo⟩, ⟨rfl, rfl, rfl, rfl, trivial⟩⟩
        · rintro ⟨A3, c3, g9⟩ B5 W6 ⟨A6, o4, o7, hr, hB4, hB2, hlo⟩
          dsimp only at A6 o4 o7 hr hlo
          refine v_appS rfl o4 rfl o7.rd (by omega) A6 ?_
          rintro A8 c8 W7 o8 St7 A7 hnn hg7
          have hB27 := hB2.grown hg7 (fun e => by have := hlo g2 e; omega)
          have hB47 := hB4.grown hg7 (fun e => by have := hlo g4 e; omega)
          refine ⟨hB27, ?_⟩
          refine v_storeA (ncs t Ap cp Av cv (some ⟨b, off, none⟩) ck Ah ch) sz_nd rfl rfl rfl (ncs_one _ _ _ _ _ _ _ _ _) hB47 rfl ?_
          rintro W8 hB48 hg8 hs8
          refine ⟨hB27.grownN hg8 (by omega), ?_⟩
          refine c_loadN (ncs t Ap cp Av cv (some ⟨b, off, none⟩) ck Ah ch) agg_nd rfl rfl (hB48.run 0 _ (fun j v h => by rw [Nat.zero_add]; exact h)) ?_
          have o9 : Own W8 w.heap.size A8 (way.length + 1) c8 (way ++ [UInt8.ofNat j]) := row_kept' o8 hg8 (.inr (o8.ne_blk hB47 (by decide)))
          exact ⟨_, A8, _, c8, rfl, ((hr.up St7).up (Stp.wrote hg8 (by simp))).up (Stp.drop.trans (Stp.drop.trans Stp.drop)), ⟨fun e => absurd (hnn.1 e).2 (by decide), o9.fr⟩, (A7.wrote hg8 (fun b e => by injection e with e; omega)).below⟩
      · rw [show settleP t = (behindN [UInt8.ofNat j] k, none) by unfold settleP; rw [hR, hsc]; dsimp only; rw [hkd, if_neg hk4]]
        refine v_cvt u_int u_u8 rfl (r := ((j % 256 : Nat) : Int)) (by rw [IntKind.wrap_u8']; show (j : Int) % 256 = _; omega) ?_
        refine v_litB [.int .u8 ((j % 256 : Nat) : Int)] [UInt8.ofNat j] (by decide) rfl (bvs1 j) rfl (A.call hb5) ?_
        rintro g9 W6 hg9 o9 St6 A6 hb6 hs6
        have hp9 := (o9.frB (F := Fd W6 (some g4 :: some g2 :: gs)) (fun b h1 h2 h3 => ⟨h2, fun e => by
          have h4 : g9 = b := by simpa [bk] using h3
          have := (A.call hb5).lt b e
          omega⟩))
        refine p_fld fN4 rfl ?_
        refine v_load agg_ns rfl (((hB2.below hb5).below hb6).at_ rfl) ?_
        refine p_at (i := j) sln rfl rfl rfl (by omega) ?_
        refine v_loadN (ncs k Ap5 cp5 Av5 cv5 Ak5 ck5 Ah5 ch5) agg_nd rfl rfl (fun j x hx => cellB hb6 (hc j x hx)) ?_
        refine cc is_behind (behind_any [UInt8.ofNat j] k _ W6 _ 1 1 _ hp9 (hes.up St6) A6.lt (by simp only [List.length_cons, List.length_nil]; omega)) ?_
        rintro e W7 ⟨cs7, rfl, h7, hb⟩
        refine ⟨_, rfl, ?_⟩
        have hl7 := h7.len
        rw [dN_len] at hl7
        refine v_storeA cs7 sz_nd rfl rfl hl7 (h7.ones (dN_one _)) (((hB4.below hb5).below hb6).below hb) rfl ?_
        rintro W8 hB48 hg8' hs8'
        refine c_loadN cs7 agg_nd rfl hl7 (hB48.run 0 _ (fun j v h => by rw [Nat.zero_add]; exact h)) ?_
        have St8 : Stp W7 (some g4 :: some g2 :: gs) W8 gs := (Stp.wrote hg8' (by simp)).trans (Stp.drop.trans Stp.drop)
        exact ⟨_, none, 0, 0, rfl, h7.up St8, ⟨rfl, rfl, rfl⟩, ((A6.call hb).wrote hg8' (fun b e => by injection e with e; omega)).below⟩
end Go.Proofs.YtdlljmmgkoeilaaDoor
namespace Go.Proofs.YtdlljmmgkoeilaaDoor
open Go.RowKit
mutual
/-- What trie.drop comes to. -/
def dropP : Nd → List UInt8 → Nd × Option (List UInt8)
  | .mk k p has v ks h, q =>
    if k = 1 then (noneN, none)
    else if k = 2 then (let r := dropsP ks 0 (q.drop p.length); (behindN p r.1, r.2.map (p ++ ·)))
    else match q with
      | [] => settleP (.mk k p false [] ks h)
      | x :: q' => (let r := dropsP ks x.toNat q'; if r.2.isSome then (.mk k p has v ks h, r.2.map (x :: ·)) else settleP (.mk k p has v (ks.set x.toNat r.1) h))
def dropsP : List Nd → Nat → List UInt8 → Nd × Option (List UInt8)
  | [], _, _ => (noneN, none)
  | t :: _, 0, q => dropP t q
  | _ :: ts, i + 1, q => dropsP ts i q
end
theorem dropsP_at : ∀ {ks : List Nd} {i : Nat} {k : Nd} (q : List UInt8), ks[i]? = some k → dropsP ks i q = dropP k q
  | t :: ks, 0, k, q, h => by simp at h; subst h; rw [dropsP]
  | t :: ks, i + 1, k, q, h => by rw [dropsP]; exact dropsP_at q (by simpa using h)
theorem dropP_leaf {p v q : List UInt8} : dropP (.mk 1 p false v [] []) q = (noneN, none) := by
  conv => lhs; rw [dropP.eq_def]
  simp
theorem dropP_way {p q : List UInt8} {k : Nd} : dropP (.mk 2 p false [] [k] []) q = (behindN p (dropP k (q.drop p.length)).1, (dropP k (q.drop p.length)).2.map (p ++ ·)) := by
  have e := dropsP_at (ks := [k]) (i := 0) (k := k) (q.drop p.length) rfl
  conv => lhs; rw [dropP.eq_def]
  simp [e]
theorem dropP_br0 {has : Bool} {v : List UInt8} {ks : List Nd} : dropP (.mk 3 [] has v ks []) [] = settleP (.mk 3 [] false [] ks []) := by
  conv => lhs; rw [dropP.eq_def]
  simp
theorem dropP_br {has : Bool} {v : List UInt8} {ks : List Nd} {x : UInt8} {q : List UInt8} {k : Nd} (h : ks[x.toNat]? = some k) : dropP (.mk 3 [] has v ks []) (x :: q) = (if (dropP k q).2.isSome then (.mk 3 [] has v ks [], (dropP k q).2.map (x :: ·)) else settleP (.mk 3 [] has v (ks.set x.toNat (dropP k q).1) [])) := by
  have e := dropsP_at q h
  conv => lhs; rw [dropP.eq_def]
  simp [e]
theorem szs_set : ∀ {ks : List Nd} {i : Nat} {k k' : Nd}, ks[i]? = some k → sz k' ≤ sz k → szs (ks.set i k') ≤ szs ks
  | t :: ks, 0, k, k', h, hs => by
    simp at h; subst h
    rw [List.set_cons_zero, szs, szs]; omega
  | t :: ks, i + 1, k, k', h, hs => by
    have := szs_set (ks := ks) (i := i) (k := k) (k' := k') (by simpa using h) hs
    rw [List.set_cons_succ, szs, szs]; omega
theorem szs_two : ∀ {ks : List Nd} {i : Nat} {k : Nd}, ks[i]? = some k → sz k + 6 * (ks.length - 1) ≤ szs ks
  | t :: ks, 0, k, h => by
    simp at h; subst h
    have := szs_len ks
    rw [szs, List.length_cons]; omega
  | t :: ks, i + 1, k, h => by
    have h' : ks[i]? = some k := by simpa using h
    have := szs_two h'
    have := sz_eq t
    have := (List.getElem?_eq_some_iff.1 h').1
    rw [szs, List.length_cons]; omega
theorem sz_behind (p : List UInt8) (t : Nd) : sz (behindN p t) ≤ sz t + p.length + 6 := by
  have h := sz_eq t
  unfold behindN
  split
  · rw [sz_eq]
    show 6 + (p ++ t.path).length + t.val.length + t.hash.length + szs t.kids ≤ _
    rw [List.length_append]; omega
  · split
    · omega
    · unfold alongN
      split
      · omega
      · rw [sz_eq]; simp only [Nd.path, Nd.val, Nd.hash, Nd.kids, List.length_nil, szs]; omega
theorem scan_lt {has : Bool} : ∀ {ks : List Nd} {i j : Nat} {o : Option Nat}, scanK has ks i o = some (some j) → (o = some j) ∨ (i ≤ j ∧ j < i + ks.length)
  | [], i, j, o, h => by unfold scanK at h; injection h with h; exact .inl h
  | k :: ks, i, j, o, h => by
    unfold scanK at h
    rw [List.length_cons]
    split at h
    · rcases scan_lt h with h | h
      · exact .inl h
      · right; omega
    · split at h
      · cases h
      · rcases scan_lt h with h | h
        · injection h with h; right; omega
        · right; omega
theorem sz_settle (t : Nd) (h16 : t.kids.length = 16) : sz (settleP t).1 ≤ sz t := by
  have hz := sz_eq t
  unfold settleP
  split
  · exact Nat.le_refl _
  · unfold leafN
    rw [sz_eq]
    show 6 + 0 + t.val.length + 0 + szs [] ≤ _
    rw [szs]; omega
  · rename_i i hsc
    split
    · exact Nat.le_refl _
    · rcases scan_lt hsc with h | h
      · cases h
      · obtain ⟨k, hk⟩ : ∃ k, t.kids[i]? = some k := ⟨_, List.getElem?_eq_getElem (by omega)⟩
        have e : t.kids.getD i noneN = k := by rw [List.getD_eq_getElem?_getD, hk]; rfl
        rw [e]
        have := szs_two hk
        have := sz_behind [UInt8.ofNat i] k
        simp only [List.length_cons, List.length_nil] at this
        dsimp only; omega
theorem getP_none {q : List UInt8} : getP noneN q = ⟨[], false, none⟩ := by unfold noneN getP; simp
theorem getP_stub {h q : List UInt8} : getP (.mk 4 [] false [] [] h) q = ⟨[], false, some []⟩ := by unfold getP; simp
theorem sz_drop {even : Bool} {t : Nd} {d : Nat} (h : Val even t d) : ∀ q, halvesB q = true → (getP t q).has = true → sz (dropP t q).1 ≤ sz t := by
  induction h with
  | none d hd => intro q _ hg; rw [getP_none] at hg; cases hg
  | leaf d p v hd hp hv he => intro q hq _; rw [dropP_leaf]; simp only [noneN]; rw [sz, sz, szs]; simp; omega
  | stub d h hd hh => intro q _ hg; rw [getP_stub] at hg; cases hg
  | way d p k hd hp h0 hk hr ih =>
    intro q hq hg
    have hpre : p <+: q := by
      rcases Classical.em (p <+: q) with h | h
      · exact h
      · rw [getP_way0 h] at hg; cases hg
    rw [getP_way hpre] at hg
    rw [dropP_way]
    have h1 := ih (q.drop p.length) (halvesB_drop hq) hg
    have h2 := sz_behind p (dropP k (q.drop p.length)).1
    have h3 : sz (.mk 2 p false [] [k] []) = 6 + p.length + sz k := by rw [sz, szs, szs]; simp
    dsimp only; omega
  | branch d has v ks hd hv hv0 he h16 hr hm ih =>
    intro q hq hg
    match q, hq, hg with
    | [], hq, hg =>
      rw [dropP_br0]
      have := sz_settle (.mk 3 [] false [] ks []) h16
      have h3 : sz (.mk 3 [] has v ks []) = 6 + v.length + szs ks := by rw [sz]; simp
      have h4 : sz (.mk 3 [] false [] ks []) = 6 + szs ks := by rw [sz]; simp
      omega
    | x :: q', hq, hg =>
      have hx := halves_hd hq
      obtain ⟨k, hki⟩ : ∃ k, ks[x.toNat]? = some k := ⟨_, List.getElem?_eq_getElem (by omega)⟩
      rw [dropP_br hki]
      rw [getP_br hki] at hg
      split
      · exact Nat.le_refl _
      · have h1 := ih k (List.mem_of_getElem? hki) q' (by have := halvesB_drop (n := 1) hq; simpa using this) hg
        have h2 := sz_settle (.mk 3 [] has v (ks.set x.toNat (dropP k q').1) []) (by show (ks.set _ _).length = 16; rw [List.length_set]; exact h16)
        have h3 := szs_set hki h1
        have h4 : sz (.mk 3 [] has v ks []) = 6 + v.length + szs ks := by rw [sz]; simp
        have h5 : sz (.mk 3 [] has v (ks.set x.toNat (dropP k q').1) []) = 6 + v.length + szs (ks.set x.toNat (dropP k q').1) := by rw [sz]; simp
        omega
end Go.Proofs.YtdlljmmgkoeilaaDoor
