/- The walks of node's right, branch, Check. The walks of node.Check and node.Copy. -/
import Derived.Test.YtdlljmmgkoeilaaDoorG06
namespace Go.Proofs.YtdlljmmgkoeilaaDoor
open Go.RowKit
def kindsB (ks : List Nd) : Bool := ks.all fun k => decide (k.kind = 3 ∨ k.kind = 4)
def manyN (ks : List Nd) : Nat := (ks.filter fun k => decide (k.kind ≠ 0)).length
/-- May a node be, so many halves down? -/
def ownP (even : Bool) (k : Int) (p : List UInt8) (h : Bool) (v : List UInt8) (ks : List Nd) (hs : List UInt8) (d : Nat) (below : Nat → Bool) : Bool :=
  decide (d ≤ 400) && (decide (v.length ≤ 4000) && (halvesB p && (
    if k = 0 then decide (p.length = 0 ∧ v.length = 0 ∧ ks.length = 0 ∧ hs.length = 0 ∧ h = false)
    else if k = 1 then decide (ks.length = 0 ∧ hs.length = 0 ∧ h = false) && endsP (d + p.length) even
    else if k = 4 then decide (p.length = 0 ∧ v.length = 0 ∧ ks.length = 0 ∧ h = false ∧ hs.length = 32)
    else if k = 2 then decide (v.length = 0 ∧ hs.length = 0 ∧ h = false ∧ p.length ≠ 0 ∧ ks.length = 1) && (kindsB ks && below (d + p.length))
    else if k = 3 then decide (p.length = 0 ∧ hs.length = 0 ∧ (h = true ∨ v.length = 0)) && ((!h || endsP d even) && (decide (ks.length = 16) && (below (d + 1) && decide (2 ≤ (if h then 1 else 0) + manyN ks))))
    else false)))
mutual
def rightP (even : Bool) : Nd → Nat → Bool
  | .mk k p h v ks hs, d => ownP even k p h v ks hs d (rightsP even ks)
def rightsP (even : Bool) : List Nd → Nat → Bool
  | [], _ => true
  | t :: ts, d => rightP even t d && rightsP even ts d
end
theorem rightP_eq (even : Bool) (t : Nd) (d : Nat) : rightP even t d = ownP even t.kind t.path t.has t.val t.kids t.hash d (rightsP even t.kids) := by cases t; unfold rightP; rfl
theorem rightsP_snoc (even : Bool) (d : Nat) : ∀ (a : List Nd) (t : Nd), rightsP even (a ++ [t]) d = (rightsP even a d && rightP even t d)
  | [], t => by simp [rightsP]
  | x :: a, t => by rw [List.cons_append, rightsP, rightsP, rightsP_snoc even d a t, Bool.and_assoc]
theorem rightsP_bad {even : Bool} {d : Nat} : ∀ {ks : List Nd} {t : Nd}, t ∈ ks → rightP even t d = false → rightsP even ks d = false
  | x :: a, t, h, hb => by
    rw [rightsP]
    rcases List.mem_cons.1 h with rfl | h
    · rw [hb]; rfl
    · rw [rightsP_bad h hb, Bool.and_false]
theorem is_nright : isFn Tryd.prog 42 = true := by kernel_rfl
theorem is_nbranch : isFn Tryd.prog 56 = true := by kernel_rfl
/-- What node.right answers of this node. -/
def RightOk (t : Nd) : Prop := ∀ (gs : List (Option Nat)) (w : World) (cs : List Value) (d : Nat) (even : Bool), RdL w (Fd w gs) (dN t) cs → (∀ b, some b ∈ gs → b < w.heap.size) → d ≤ 1000000000000000 →
  Calls Tryd.prog 42 #[.agg cs.toArray, .int .i64 d, .bool even] w fun e w' => e = .returned (.bool (rightP even t d)) ∧ Below w.heap.size w w'
set_option maxRecDepth 100000 in
set_option maxHeartbeats 1000000 in
theorem branch_any (t : Nd) (ih : ∀ k ∈ t.kids, RightOk k) (hk : t.kids.length ≤ 1000000000000) (gs : List (Option Nat)) (w : World) (cs : List Value) (d : Nat) (even : Bool) (hr : RdL w (Fd w gs) (dN t) cs) (hgs : ∀ b, some b ∈ gs → b < w.heap.size) (hd : d ≤ 100000000) :
    Calls Tryd.prog 56 #[.agg cs.toArray, .int .i64 d, .bool even] w fun e w' => e = .returned (.bool (decide (t.kids.length = 16) && (rightsP even t.kids (d + 1) && decide (2 ≤ (if t.has then 1 else 0) + manyN t.kids)))) ∧ Below w.heap.size w w' := by
  refine calls_ev (args := [.agg cs.toArray, .int .i64 d, .bool even]) mixed Tryd.func56 rfl (by kernel_rfl) ?_
  obtain ⟨Ap, cp, Av, cv, Ak, ck, Ah, ch, rfl, r1, r3, r4, r5⟩ := hr.node
  refine v_boxB (ncs t Ap cp Av cv Ak ck Ah ch) rfl ?_
  rintro g W1 hg hB hb hs1
  subst hg
  unfold ncs at hB
  repeat' first
    | (refine p_fld fN0 rfl ?_)
    | (refine p_fld fN1 rfl ?_)
    | (refine p_fld fN2 rfl ?_)
    | (refine p_fld fN3 rfl ?_)
    | (refine p_fld fN4 rfl ?_)
    | (refine p_fld fN5 rfl ?_)
    | (refine v_load agg_int rfl (hB.at_ rfl) ?_)
    | (refine v_load agg_b rfl (hB.at_ rfl) ?_)
    | (refine v_load agg_bo rfl (hB.at_ rfl) ?_)
    | (refine v_load agg_ns rfl (hB.at_ rfl) ?_)
    | (refine p_len slb rfl ?_)
    | (refine p_len sln rfl ?_)
  refine p_ne rfl rfl (fun h16 => ?_) (fun h16 => ?_)
  rotate_left
  · refine ⟨?_, hb⟩
    rw [decide_eq_false (by omega)]; rfl
  have h16' : t.kids.length = 16 := by omega
  repeat' first
    | (refine p_fld fN0 rfl ?_)
    | (refine p_fld fN1 rfl ?_)
    | (refine p_fld fN2 rfl ?_)
    | (refine p_fld fN3 rfl ?_)
    | (refine p_fld fN4 rfl ?_)
    | (refine p_fld fN5 rfl ?_)
    | (refine v_load agg_int rfl (hB.at_ rfl) ?_)
    | (refine v_load agg_b rfl (hB.at_ rfl) ?_)
    | (refine v_load agg_bo rfl (hB.at_ rfl) ?_)
    | (refine v_load agg_ns rfl (hB.at_ rfl) ?_)
    | (refine p_len slb rfl ?_)
    | (refine p_len sln rfl ?_)
  cases hh : t.has with
  | false =>
    rw [hh] at hB
    repeat' first
      | (refine p_fld fN0 rfl ?_)
      | (refine p_fld fN1 rfl ?_)
      | (refine p_fld fN2 rfl ?_)
      | (refine p_fld fN3 rfl ?_)
      | (refine p_fld fN4 rfl ?_)
      | (refine p_fld fN5 rfl ?_)
      | (refine v_load agg_int rfl (hB.at_ rfl) ?_)
      | (refine v_load agg_b rfl (hB.at_ rfl) ?_)
      | (refine v_load agg_bo rfl (hB.at_ rfl) ?_)
      | (refine v_load agg_ns rfl (hB.at_ rfl) ?_)
      | (refine p_len slb rfl ?_)
      | (refine p_len sln rfl ?_)
    have A1 : At w W1 gs := (At.start hgs).call hb
    have s1 : Stp w gs W1 gs := Stp.below hb
    have hFB : FB W1 gs w.heap.size 28 [.int .i64 t.kind, .slice Ap t.path.length cp, .bool false, .slice Av t.val.length cv, .slice Ak t.kids.length ck, .slice Ah t.hash.length ch] := FB.new hB hgs (Nat.le_refl _)
    refine lp Nat (fun i W => i ≤ 16 ∧ At w W gs ∧ Stp w gs W gs ∧ rightsP even (t.kids.take i) (d + 1) = true) (fun i => [(1, .int .i64 d), (2, .bool even), (7, .int .i64 (0 + manyN (t.kids.take i) : Nat)), (8, .bool true), (20, .slice Ak t.kids.length ck), (21, .int .i64 t.kids.length), (22, .int .i64 i)]) (fun i => 16 - i) 0 ⟨Nat.zero_le _, A1, s1, by simp [rightsP]⟩ ⟨rfl, rfl, rfl, rfl, rfl, rfl, rfl, trivial⟩ ?_
    clear A1 s1
    rintro i E W ⟨hi, A2, s2, hri⟩
    have hml : manyN (t.kids.take i) ≤ 16 := Nat.le_trans (List.length_filter_le _ _) (by rw [List.length_take]; omega)
    refine p_lt rfl rfl (fun hlt => ?_) (fun hge => ?_)
    · obtain ⟨k, hki⟩ : ∃ k, t.kids[i]? = some k := ⟨_, List.getElem?_eq_getElem (by omega)⟩
      have hkm := List.mem_of_getElem? hki
      obtain ⟨b, off, es, rfl, hF, hes, hel, hc⟩ := (r4.up s2).kid hki
      refine p_at sln rfl rfl rfl (by omega) ?_
      refine v_loadN es agg_nd rfl hel hc ?_
      refine v_allocB _ al_nd ?_
      rintro g3 W3 hg3 hB3 hb3 hs3
      refine v_storeA es sz_nd rfl rfl hel (hes.ones (dN_one k)) hB3 rfl ?_
      rintro W4 hB4 hg4 hs4
      rw [hg3] at hb3
      have hb4 : Below W.heap.size W W4 := hb3.grown hg4 (by omega) (fun q hq => by injection hq with hq; omega)
      refine v_loadN es agg_nd rfl hel (hB4.run 0 es (fun j v h => by rw [Nat.zero_add]; exact h)) ?_
      refine p_add rfl rfl (r := ((d + 1 : Nat) : Int)) ((w64 (by omega)).trans (by omega)) ?_
      refine cc is_nright (ih k hkm gs W4 es (d + 1) even (hes.up (Stp.below hb4)) (A2.call hb4).lt (by omega)) ?_
      rintro e W5 ⟨rfl, b5⟩
      refine ⟨_, rfl, ?_⟩
      have A5 := (A2.call hb4).call b5
      have s5 : Stp w gs W5 gs := (s2.trans (Stp.below hb4)).trans (Stp.below b5)
      refine p_not rfl ?_
      have htk : t.kids.take (i + 1) = t.kids.take i ++ [k] := by rw [List.take_add_one, hki]; rfl
      cases hrk : rightP even k (d + 1) with
      | false =>
        refine ⟨?_, A5.below⟩
        rw [rightsP_bad hkm hrk, Bool.false_and, Bool.and_false]; rfl
      | true =>
        have hr2 : rightsP even (t.kids.take (i + 1)) (d + 1) = true := by rw [htk, rightsP_snoc, hri, hrk]; rfl
        obtain ⟨Ap', cp', Av', cv', Ak', ck', Ah', ch', rfl, _⟩ := hes.node
        have hB5 := hB4.below b5
        refine p_fld fN0 rfl ?_
        refine v_load agg_int rfl (hB5.at_ rfl) ?_
        refine p_ne rfl rfl (fun h0 => ?_) (fun h0 => ?_)
        · refine p_add rfl rfl (r := ((i + 1 : Nat) : Int)) ((w64 (by omega)).trans (by omega)) ?_
          refine ⟨i + 1, ⟨by omega, A5, s5, hr2⟩, ⟨rfl, rfl, ?_, rfl, rfl, rfl, rfl, trivial⟩, by omega⟩
          have e : manyN (t.kids.take (i + 1)) = manyN (t.kids.take i) := by unfold manyN; rw [htk, List.filter_append]; simp [h0]
          rw [e]; rfl
        · refine p_add rfl rfl (r := ((0 + manyN (t.kids.take i) + 1 : Nat) : Int)) ((w64 (by omega)).trans (by omega)) ?_
          refine p_add rfl rfl (r := ((i + 1 : Nat) : Int)) ((w64 (by omega)).trans (by omega)) ?_
          refine ⟨i + 1, ⟨by omega, A5, s5, hr2⟩, ⟨rfl, rfl, ?_, rfl, rfl, rfl, rfl, trivial⟩, by omega⟩
          have e : manyN (t.kids.take (i + 1)) = manyN (t.kids.take i) + 1 := by unfold manyN; rw [htk, List.filter_append]; simp [h0]
          rw [e]; rfl
    · have hi16 : i = 16 := by omega
      subst hi16
      have htk : t.kids.take 16 = t.kids := List.take_of_length_le (by omega)
      rw [htk] at hri
      rw [htk]
      refine p_ge rfl rfl (fun h2 => ?_) (fun h2 => ?_)
      · refine ⟨?_, A2.below⟩
        rw [decide_eq_true h16', hri, decide_eq_true (by simp; omega)]; rfl
      · refine ⟨?_, A2.below⟩
        rw [decide_eq_true h16', hri, decide_eq_false (by simp; omega)]; rfl
  | true =>
    rw [hh] at hB
    refine p_add rfl rfl (r := 1) (w64 (by decide)) ?_
    repeat' first
      | (refine p_fld fN0 rfl ?_)
      | (refine p_fld fN1 rfl ?_)
      | (refine p_fld fN2 rfl ?_)
      | (refine p_fld fN3 rfl ?_)
      | (refine p_fld fN4 rfl ?_)
      | (refine p_fld fN5 rfl ?_)
      | (refine v_load agg_int rfl (hB.at_ rfl) ?_)
      | (refine v_load agg_b rfl (hB.at_ rfl) ?_)
      | (refine v_load agg_bo rfl (hB.at_ rfl) ?_)
      | (refine v_load agg_ns rfl (hB.at_ rfl) ?_)
      | (refine p_len slb rfl ?_)
      | (refine p_len sln rfl ?_)
    have A1 : At w W1 gs := (At.start hgs).call hb
    have s1 : Stp w gs W1 gs := Stp.below hb
    have hFB : FB W1 gs w.heap.size 28 [.int .i64 t.kind, .slice Ap t.path.length cp, .bool true, .slice Av t.val.length cv, .slice Ak t.kids.length ck, .slice Ah t.hash.length ch] := FB.new hB hgs (Nat.le_refl _)
    refine lp Nat (fun i W => i ≤ 16 ∧ At w W gs ∧ Stp w gs W gs ∧ rightsP even (t.kids.take i) (d + 1) = true) (fun i => [(1, .int .i64 d), (2, .bool even), (7, .int .i64 (1 + manyN (t.kids.take i) : Nat)), (8, .bool true), (20, .slice Ak t.kids.length ck), (21, .int .i64 t.kids.length), (22, .int .i64 i)]) (fun i => 16 - i) 0 ⟨Nat.zero_le _, A1, s1, by simp [rightsP]⟩ ⟨rfl, rfl, rfl, rfl, rfl, rfl, rfl, trivial⟩ ?_
    clear A1 s1
    rintro i E W ⟨hi, A2, s2, hri⟩
    have hml : manyN (t.kids.take i) ≤ 16 := Nat.le_trans (List.length_filter_le _ _) (by rw [List.length_take]; omega)
    refine p_lt rfl rfl (fun hlt => ?_) (fun hge => ?_)
    · obtain ⟨k, hki⟩ : ∃ k, t.kids[i]? = some k := ⟨_, List.getElem?_eq_getElem (by omega)⟩
      have hkm := List.mem_of_getElem? hki
      obtain ⟨b, off, es, rfl, hF, hes, hel, hc⟩ := (r4.up s2).kid hki
      refine p_at sln rfl rfl rfl (by omega) ?_
      refine v_loadN es agg_nd rfl hel hc ?_
      refine v_allocB _ al_nd ?_
      rintro g3 W3 hg3 hB3 hb3 hs3
      refine v_storeA es sz_nd rfl rfl hel (hes.ones (dN_one k)) hB3 rfl ?_
      rintro W4 hB4 hg4 hs4
      rw [hg3] at hb3
      have hb4 : Below W.heap.size W W4 := hb3.grown hg4 (by omega) (fun q hq => by injection hq with hq; omega)
      refine v_loadN es agg_nd rfl hel (hB4.run 0 es (fun j v h => by rw [Nat.zero_add]; exact h)) ?_
      refine p_add rfl rfl (r := ((d + 1 : Nat) : Int)) ((w64 (by omega)).trans (by omega)) ?_
      refine cc is_nright (ih k hkm gs W4 es (d + 1) even (hes.up (Stp.below hb4)) (A2.call hb4).lt (by omega)) ?_
      rintro e W5 ⟨rfl, b5⟩
      refine ⟨_, rfl, ?_⟩
      have A5 := (A2.call hb4).call b5
      have s5 : Stp w gs W5 gs := (s2.trans (Stp.below hb4)).trans (Stp.below b5)
      refine p_not rfl ?_
      have htk : t.kids.take (i + 1) = t.kids.take i ++ [k] := by rw [List.take_add_one, hki]; rfl
      cases hrk : rightP even k (d + 1) with
      | false =>
        refine ⟨?_, A5.below⟩
        rw [rightsP_bad hkm hrk, Bool.false_and, Bool.and_false]; rfl
      | true =>
        have hr2 : rightsP even (t.kids.take (i + 1)) (d + 1) = true := by rw [htk, rightsP_snoc, hri, hrk]; rfl
        obtain ⟨Ap', cp', Av', cv', Ak', ck', Ah', ch', rfl, _⟩ := hes.node
        have hB5 := hB4.below b5
        refine p_fld fN0 rfl ?_
        refine v_load agg_int rfl (hB5.at_ rfl) ?_
        refine p_ne rfl rfl (fun h0 => ?_) (fun h0 => ?_)
        · refine p_add rfl rfl (r := ((i + 1 : Nat) : Int)) ((w64 (by omega)).trans (by omega)) ?_
          refine ⟨i + 1, ⟨by omega, A5, s5, hr2⟩, ⟨rfl, rfl, ?_, rfl, rfl, rfl, rfl, trivial⟩, by omega⟩
          have e : manyN (t.kids.take (i + 1)) = manyN (t.kids.take i) := by unfold manyN; rw [htk, List.filter_append]; simp [h0]
          rw [e]; rfl
        · refine p_add rfl rfl (r := ((1 + manyN (t.kids.take i) + 1 : Nat) : Int)) ((w64 (by omega)).trans (by omega)) ?_
          refine p_add rfl rfl (r := ((i + 1 : Nat) : Int)) ((w64 (by omega)).trans (by omega)) ?_
          refine ⟨i + 1, ⟨by omega, A5, s5, hr2⟩, ⟨rfl, rfl, ?_, rfl, rfl, rfl, rfl, trivial⟩, by omega⟩
          have e : manyN (t.kids.take (i + 1)) = manyN (t.kids.take i) + 1 := by unfold manyN; rw [htk, List.filter_append]; simp [h0]
          rw [e]; rfl
    · have hi16 : i = 16 := by omega
      subst hi16
      have htk : t.kids.take 16 = t.kids := List.take_of_length_le (by omega)
      rw [htk] at hri
      rw [htk]
      refine p_ge rfl rfl (fun h2 => ?_) (fun h2 => ?_)
      · refine ⟨?_, A2.below⟩
        rw [decide_eq_true h16', hri, decide_eq_true (by simp; omega)]; rfl
      · refine ⟨?_, A2.below⟩
        rw [decide_eq_true h16', hri, decide_eq_false (by simp; omega)]; rfl
theorem bare0 {t : Nd} (h : t.kind = 0) : bareP t false false false false = decide (t.path.length = 0 ∧ t.val.length = 0 ∧ t.kids.length = 0 ∧ t.hash.length = 0 ∧ t.has = false) := by
  unfold bareP; exact decide_eq_decide.2 (by grind)
theorem bare1 {t : Nd} (h : t.kind = 1) : bareP t true true false false = decide (t.kids.length = 0 ∧ t.hash.length = 0 ∧ t.has = false) := by
  unfold bareP; exact decide_eq_decide.2 (by grind)
theorem bare4 {t : Nd} (h : t.kind = 4) : bareP t false false false true = decide (t.path.length = 0 ∧ t.val.length = 0 ∧ t.kids.length = 0 ∧ t.has = false) := by
  unfold bareP; exact decide_eq_decide.2 (by grind)
theorem bare2 {t : Nd} (h : t.kind = 2) : bareP t true false true false = decide (t.val.length = 0 ∧ t.hash.length = 0 ∧ t.has = false) := by
  unfold bareP; exact decide_eq_decide.2 (by grind)
theorem bare3 {t : Nd} (h : t.kind = 3) : bareP t false t.has true false = decide (t.path.length = 0 ∧ t.hash.length = 0 ∧ (t.has = true ∨ t.val.length = 0)) := by
  unfold bareP; exact decide_eq_decide.2 (by grind)
set_option maxRecDepth 100000 in
set_option maxHeartbeats 1000000 in
theorem nright_step (N : Nat) (ih : ∀ k : Nd, sz k < N → RightOk k) (t : Nd) (ht : sz t ≤ N) (hN : N ≤ 1000000000000) : RightOk t := by
  intro gs w cs d even hr hgs hd
  refine calls_ev (args := [.agg cs.toArray, .int .i64 d, .bool even]) mixed Tryd.func42 rfl (by kernel_rfl) ?_
  obtain ⟨Ap, cp, Av, cv, Ak, ck, Ah, ch, rfl, r1, r3, r4, r5⟩ := hr.node
  have hsz := sz_eq t
  have hsl := szs_len t.kids
  refine v_boxB (ncs t Ap cp Av cv Ak ck Ah ch) rfl ?_
  rintro g W1 hg hB hb hs1
  subst hg
  have hBn := hB
  unfold ncs at hB
  have A1 : At w W1 gs := (At.start hgs).call hb
  have s1 : Stp w gs W1 gs := Stp.below hb
  have hr1 := hr.up s1
  obtain ⟨_, _, hrp⟩ := (r1.up s1).rd Fd.lt
  refine p_gt rfl rfl (fun hd4 => ?_) (fun hd4 => ?_)
  · exact ⟨by rw [rightP_eq, ownP, decide_eq_false (by omega)]; rfl, hb⟩
  repeat' first
    | (refine p_fld fN0 rfl ?_)
    | (refine p_fld fN1 rfl ?_)
    | (refine p_fld fN2 rfl ?_)
    | (refine p_fld fN3 rfl ?_)
    | (refine p_fld fN4 rfl ?_)
    | (refine p_fld fN5 rfl ?_)
    | (refine v_load agg_int rfl (hB.at_ rfl) ?_)
    | (refine v_load agg_b rfl (hB.at_ rfl) ?_)
    | (refine v_load agg_bo rfl (hB.at_ rfl) ?_)
    | (refine v_load agg_ns rfl (hB.at_ rfl) ?_)
    | (refine p_len slb rfl ?_)
    | (refine p_len sln rfl ?_)
  refine p_gt rfl rfl (fun hv => ?_) (fun hv => ?_)
  · exact ⟨by rw [rightP_eq, ownP, decide_eq_false (show ¬ t.val.length ≤ 4000 by omega), Bool.false_and, Bool.and_false]; rfl, hb⟩
  repeat' first
    | (refine p_fld fN0 rfl ?_)
    | (refine p_fld fN1 rfl ?_)
    | (refine p_fld fN2 rfl ?_)
    | (refine p_fld fN3 rfl ?_)
    | (refine p_fld fN4 rfl ?_)
    | (refine p_fld fN5 rfl ?_)
    | (refine v_load agg_int rfl (hB.at_ rfl) ?_)
    | (refine v_load agg_b rfl (hB.at_ rfl) ?_)
    | (refine v_load agg_bo rfl (hB.at_ rfl) ?_)
    | (refine v_load agg_ns rfl (hB.at_ rfl) ?_)
    | (refine p_len slb rfl ?_)
    | (refine p_len sln rfl ?_)
  refine cc is_nh (nhalves_any Ap t.path.length cp _ t.path W1 hrp (by omega)) ?_
  rintro e W' ⟨rfl, rfl⟩
  refine ⟨_, rfl, ?_⟩
  refine p_not rfl ?_
  have hX : rightP even t d = ownP even t.kind t.path t.has t.val t.kids t.hash d (rightsP even t.kids) := rightP_eq even t d
  unfold ownP at hX
  rw [decide_eq_true (show d ≤ 400 by omega), decide_eq_true (show t.val.length ≤ 4000 by omega), Bool.true_and, Bool.true_and] at hX
  cases hh : halvesB t.path with
  | false =>
    rw [hh] at hX
    exact ⟨by rw [hX]; rfl, hb⟩
  | true =>
  rw [hh, Bool.true_and] at hX
  repeat' first
    | (refine p_fld fN0 rfl ?_)
    | (refine p_fld fN1 rfl ?_)
    | (refine p_fld fN2 rfl ?_)
    | (refine p_fld fN3 rfl ?_)
    | (refine p_fld fN4 rfl ?_)
    | (refine p_fld fN5 rfl ?_)
    | (refine v_load agg_int rfl (hB.at_ rfl) ?_)
    | (refine v_load agg_b rfl (hB.at_ rfl) ?_)
    | (refine v_load agg_bo rfl (hB.at_ rfl) ?_)
    | (refine v_load agg_ns rfl (hB.at_ rfl) ?_)
    | (refine p_len slb rfl ?_)
    | (refine p_len sln rfl ?_)
  refine p_eq rfl rfl (fun h0 => ?_) (fun h0 => ?_)
  · rw [if_pos h0] at hX
    refine v_loadN (ncs t Ap cp Av cv Ak ck Ah ch) agg_nd rfl rfl (hBn.run 0 _ (fun j v h => by rw [Nat.zero_add]; exact h)) ?_
    refine cc is_bare (bare_any t Ap cp Av cv Ak ck Ah ch _ _ _ _ W1 (by decide)) ?_
    rintro e W2 ⟨rfl, b2⟩
    refine ⟨_, rfl, ?_⟩
    refine ⟨?_, hb.trans (b2.mono hb.size)⟩
    rw [hX, bare0 h0]; rfl
  rw [if_neg h0] at hX
  refine p_eq rfl rfl (fun h1 => ?_) (fun h1 => ?_)
  · rw [if_pos h1] at hX
    refine v_loadN (ncs t Ap cp Av cv Ak ck Ah ch) agg_nd rfl rfl (hBn.run 0 _ (fun j v h => by rw [Nat.zero_add]; exact h)) ?_
    refine cc is_bare (bare_any t Ap cp Av cv Ak ck Ah ch _ _ _ _ W1 (by decide)) ?_
    rintro e W2 ⟨rfl, b2⟩
    refine ⟨_, rfl, ?_⟩
    rw [bare1 h1]
    have hb2 := hb.trans (b2.mono hb.size)
    cases hq : decide (t.kids.length = 0 ∧ t.hash.length = 0 ∧ t.has = false) with
    | false => exact ⟨by rw [hX, hq]; rfl, hb2⟩
    | true =>
      replace hB := hB.below b2
      repeat' first
        | (refine p_fld fN0 rfl ?_)
        | (refine p_fld fN1 rfl ?_)
        | (refine p_fld fN2 rfl ?_)
        | (refine p_fld fN3 rfl ?_)
        | (refine p_fld fN4 rfl ?_)
        | (refine p_fld fN5 rfl ?_)
        | (refine v_load agg_int rfl (hB.at_ rfl) ?_)
        | (refine v_load agg_b rfl (hB.at_ rfl) ?_)
        | (refine v_load agg_bo rfl (hB.at_ rfl) ?_)
        | (refine v_load agg_ns rfl (hB.at_ rfl) ?_)
        | (refine p_len slb rfl ?_)
        | (refine p_len sln rfl ?_)
      refine p_add rfl rfl (r := ((d + t.path.length : Nat) : Int)) ((w64 (by omega)).trans (by omega)) ?_
      refine cc is_ends (ends_any (d + t.path.length) even W2) ?_
      rintro e W3 ⟨rfl, rfl⟩
      refine ⟨_, rfl, ?_⟩
      exact ⟨by rw [hX, hq]; rfl, hb2⟩
  rw [if_neg h1] at hX
  refine p_eq rfl rfl (fun h4 => ?_) (fun h4 => ?_)
  · rw [if_pos h4] at hX
    refine v_loadN (ncs t Ap cp Av cv Ak ck Ah ch) agg_nd rfl rfl (hBn.run 0 _ (fun j v h => by rw [Nat.zero_add]; exact h)) ?_
    refine cc is_bare (bare_any t Ap cp Av cv Ak ck Ah ch _ _ _ _ W1 (by decide)) ?_
    rintro e W2 ⟨rfl, b2⟩
    refine ⟨_, rfl, ?_⟩
    rw [bare4 h4]
    have hb2 := hb.trans (b2.mono hb.size)
    cases hq : decide (t.path.length = 0 ∧ t.val.length = 0 ∧ t.kids.length = 0 ∧ t.has = false) with
    | false =>
      have := of_decide_eq_false hq
      exact ⟨by rw [hX, decide_eq_false (fun h => this ⟨h.1, h.2.1, h.2.2.1, h.2.2.2.1⟩)]; rfl, hb2⟩
    | true =>
      have := of_decide_eq_true hq
      replace hB := hB.below b2
      repeat' first
        | (refine p_fld fN0 rfl ?_)
        | (refine p_fld fN1 rfl ?_)
        | (refine p_fld fN2 rfl ?_)
        | (refine p_fld fN3 rfl ?_)
        | (refine p_fld fN4 rfl ?_)
        | (refine p_fld fN5 rfl ?_)
        | (refine v_load agg_int rfl (hB.at_ rfl) ?_)
        | (refine v_load agg_b rfl (hB.at_ rfl) ?_)
        | (refine v_load agg_bo rfl (hB.at_ rfl) ?_)
        | (refine v_load agg_ns rfl (hB.at_ rfl) ?_)
        | (refine p_len slb rfl ?_)
        | (refine p_len sln rfl ?_)
      refine p_eq rfl rfl (fun h5 => ?_) (fun h5 => ?_)
      · exact ⟨by rw [hX, decide_eq_true ⟨this.1, this.2.1, this.2.2.1, this.2.2.2, by omega⟩]; rfl, hb2⟩
      · exact ⟨by rw [hX, decide_eq_false (fun h => h5 (by rw [h.2.2.2.2]; rfl))]; rfl, hb2⟩
  rw [if_neg h4] at hX
  refine p_eq rfl rfl (fun h2 => ?_) (fun h2 => ?_)
  · rw [if_pos h2] at hX
    refine v_loadN (ncs t Ap cp Av cv Ak ck Ah ch) agg_nd rfl rfl (hBn.run 0 _ (fun j v h => by rw [Nat.zero_add]; exact h)) ?_
    refine cc is_bare (bare_any t Ap cp Av cv Ak ck Ah ch _ _ _ _ W1 (by decide)) ?_
    rintro e W2 ⟨rfl, b2⟩
    refine ⟨_, rfl, ?_⟩
    rw [bare2 h2]
    have hb2 := hb.trans (b2.mono hb.size)
    refine p_not rfl ?_
    cases hq : decide (t.val.length = 0 ∧ t.hash.length = 0 ∧ t.has = false) with
    | false =>
      have := of_decide_eq_false hq
      exact ⟨by rw [hX, decide_eq_false (fun h => this ⟨h.1, h.2.1, h.2.2.1⟩)]; rfl, hb2⟩
    | true =>
      have hq' := of_decide_eq_true hq
      have A2 := A1.call b2
      have s2 : Stp w gs W2 gs := s1.trans (Stp.below b2)
      replace hBn := hBn.below b2
      replace hB := hB.below b2
      repeat' first
        | (refine p_fld fN0 rfl ?_)
        | (refine p_fld fN1 rfl ?_)
        | (refine p_fld fN2 rfl ?_)
        | (refine p_fld fN3 rfl ?_)
        | (refine p_fld fN4 rfl ?_)
        | (refine p_fld fN5 rfl ?_)
        | (refine v_load agg_int rfl (hB.at_ rfl) ?_)
        | (refine v_load agg_b rfl (hB.at_ rfl) ?_)
        | (refine v_load agg_bo rfl (hB.at_ rfl) ?_)
        | (refine v_load agg_ns rfl (hB.at_ rfl) ?_)
        | (refine p_len slb rfl ?_)
        | (refine p_len sln rfl ?_)
      refine p_eq rfl rfl (fun h5 => ?_) (fun h5 => ?_)
      · exact ⟨by rw [hX, decide_eq_false (fun h => h.2.2.2.1 (by omega))]; rfl, hb2⟩
      repeat' first
        | (refine p_fld fN0 rfl ?_)
        | (refine p_fld fN1 rfl ?_)
        | (refine p_fld fN2 rfl ?_)
        | (refine p_fld fN3 rfl ?_)
        | (refine p_fld fN4 rfl ?_)
        | (refine p_fld fN5 rfl ?_)
        | (refine v_load agg_int rfl (hB.at_ rfl) ?_)
        | (refine v_load agg_b rfl (hB.at_ rfl) ?_)
        | (refine v_load agg_bo rfl (hB.at_ rfl) ?_)
        | (refine v_load agg_ns rfl (hB.at_ rfl) ?_)
        | (refine p_len slb rfl ?_)
        | (refine p_len sln rfl ?_)
      refine p_ne rfl rfl (fun h6 => ?_) (fun h6 => ?_)
      rotate_left
      · exact ⟨by rw [hX, decide_eq_false (fun h => h6 (by rw [h.2.2.2.2]; rfl))]; rfl, hb2⟩
      rw [decide_eq_true ⟨hq'.1, hq'.2.1, hq'.2.2, by omega, by omega⟩, Bool.true_and] at hX
      obtain ⟨k, hk⟩ : ∃ k, t.kids = [k] := by
        have h7 : t.kids.length = 1 := by omega
        match hks : t.kids, h7 with
        | [k], _ => exact ⟨k, rfl⟩
      have hki : t.kids[0]? = some k := by rw [hk]; rfl
      have hkm : k ∈ t.kids := by rw [hk]; simp
      have hkz := szs_mem hkm
      repeat' first
        | (refine p_fld fN0 rfl ?_)
        | (refine p_fld fN1 rfl ?_)
        | (refine p_fld fN2 rfl ?_)
        | (refine p_fld fN3 rfl ?_)
        | (refine p_fld fN4 rfl ?_)
        | (refine p_fld fN5 rfl ?_)
        | (refine v_load agg_int rfl (hB.at_ rfl) ?_)
        | (refine v_load agg_b rfl (hB.at_ rfl) ?_)
        | (refine v_load agg_bo rfl (hB.at_ rfl) ?_)
        | (refine v_load agg_ns rfl (hB.at_ rfl) ?_)
        | (refine p_len slb rfl ?_)
        | (refine p_len sln rfl ?_)
      obtain ⟨b, off, es, rfl, hF, hes, hel, hc⟩ := (r4.up s2).kid hki
      refine p_at (i := 0) sln rfl rfl rfl (by omega) ?_
      refine v_loadN es agg_nd rfl hel hc ?_
      refine v_allocB _ al_nd ?_
      rintro g3 W3 hg3 hB3 hb3 hs3
      refine v_storeA es sz_nd rfl rfl hel (hes.ones (dN_one k)) hB3 rfl ?_
      rintro W4 hB4 hg4 hs4
      rw [hg3] at hb3
      have hb4 : Below W2.heap.size W2 W4 := hb3.grown hg4 (by omega) (fun q hq => by injection hq with hq; omega)
      have hB' := hB.below hb4
      have hes4 := hes.up (Stp.below hb4)
      have A4 := A2.call hb4
      obtain ⟨Ap', cp', Av', cv', Ak', ck', Ah', ch', rfl, _⟩ := hes.node
      refine p_fld fN0 rfl ?_
      refine v_load agg_int rfl (hB4.at_ rfl) ?_
      have hbk : rightsP even t.kids (d + t.path.length) = rightP even k (d + t.path.length) := by rw [hk, rightsP, rightsP, Bool.and_true]
      refine p_eq rfl rfl (fun h8 => ?_) (fun h8 => ?_)
      ·
        refine v_loadN (ncs k Ap' cp' Av' cv' Ak' ck' Ah' ch') agg_nd rfl hel (hB4.run 0 _ (fun j v h => by rw [Nat.zero_add]; exact h)) ?_
        refine p_fld fN1 rfl ?_
        refine v_load agg_b rfl (hB'.at_ rfl) ?_
        refine p_len slb rfl ?_
        refine p_add rfl rfl (r := ((d + t.path.length : Nat) : Int)) ((w64 (by omega)).trans (by omega)) ?_
        refine cc is_nright (ih k (by omega) gs W4 _ (d + t.path.length) even hes4 A4.lt (by omega)) ?_
        rintro e W5 ⟨rfl, b5⟩
        refine ⟨_, rfl, ?_⟩
        have hkk : kindsB t.kids = true := by rw [hk]; unfold kindsB; rw [List.all_cons, decide_eq_true (by omega)]; rfl
        rw [hkk, hbk, Bool.true_and] at hX
        exact ⟨by rw [hX]; rfl, A4.below.trans (b5.mono A4.size)⟩
      · refine p_fld fN0 rfl ?_
        refine v_load agg_int rfl (hB4.at_ rfl) ?_
        refine p_eq rfl rfl (fun h9 => ?_) (fun h9 => ?_)
        ·
          refine v_loadN (ncs k Ap' cp' Av' cv' Ak' ck' Ah' ch') agg_nd rfl hel (hB4.run 0 _ (fun j v h => by rw [Nat.zero_add]; exact h)) ?_
          refine p_fld fN1 rfl ?_
          refine v_load agg_b rfl (hB'.at_ rfl) ?_
          refine p_len slb rfl ?_
          refine p_add rfl rfl (r := ((d + t.path.length : Nat) : Int)) ((w64 (by omega)).trans (by omega)) ?_
          refine cc is_nright (ih k (by omega) gs W4 _ (d + t.path.length) even hes4 A4.lt (by omega)) ?_
          rintro e W5 ⟨rfl, b5⟩
          refine ⟨_, rfl, ?_⟩
          have hkk : kindsB t.kids = true := by rw [hk]; unfold kindsB; rw [List.all_cons, decide_eq_true (by omega)]; rfl
          rw [hkk, hbk, Bool.true_and] at hX
          exact ⟨by rw [hX]; rfl, A4.below.trans (b5.mono A4.size)⟩
        · have hkk : kindsB t.kids = false := by rw [hk]; unfold kindsB; rw [List.all_cons, decide_eq_false (by omega)]; rfl
          rw [hkk] at hX
          exact ⟨by rw [hX]; rfl, A4.below⟩
  rw [if_neg h2] at hX
  refine p_eq rfl rfl (fun h3 => ?_) (fun h3 => ?_)
  · rw [if_pos h3] at hX
    refine v_loadN (ncs t Ap cp Av cv Ak ck Ah ch) agg_nd rfl rfl (hBn.run 0 _ (fun j v h => by rw [Nat.zero_add]; exact h)) ?_
    repeat' first
      | (refine p_fld fN0 rfl ?_)
      | (refine p_fld fN1 rfl ?_)
      | (refine p_fld fN2 rfl ?_)
      | (refine p_fld fN3 rfl ?_)
      | (refine p_fld fN4 rfl ?_)
      | (refine p_fld fN5 rfl ?_)
      | (refine v_load agg_int rfl (hB.at_ rfl) ?_)
      | (refine v_load agg_b rfl (hB.at_ rfl) ?_)
      | (refine v_load agg_bo rfl (hB.at_ rfl) ?_)
      | (refine v_load agg_ns rfl (hB.at_ rfl) ?_)
      | (refine p_len slb rfl ?_)
      | (refine p_len sln rfl ?_)
    refine cc is_bare (bare_any t Ap cp Av cv Ak ck Ah ch _ _ _ _ W1 (by cases t.has <;> decide)) ?_
    rintro e W2 ⟨rfl, b2⟩
    refine ⟨_, rfl, ?_⟩
    rw [bare3 h3]
    have hb2 := hb.trans (b2.mono hb.size)
    cases hq : decide (t.path.length = 0 ∧ t.hash.length = 0 ∧ (t.has = true ∨ t.val.length = 0)) with
    | false => exact ⟨by rw [hX, hq]; rfl, hb2⟩
    | true =>
      rw [hq, Bool.true_and] at hX
      have A2 := A1.call b2
      have s2 : Stp w gs W2 gs := s1.trans (Stp.below b2)
      replace hBn := hBn.below b2
      replace hB := hB.below b2
      have hbr := branch_any t (fun k hk => ih k (by have := szs_mem hk; omega)) (by omega) gs W2 _ d even (hr.up s2) A2.lt (by omega)
      repeat' first
        | (refine p_fld fN0 rfl ?_)
        | (refine p_fld fN1 rfl ?_)
        | (refine p_fld fN2 rfl ?_)
        | (refine p_fld fN3 rfl ?_)
        | (refine p_fld fN4 rfl ?_)
        | (refine p_fld fN5 rfl ?_)
        | (refine v_load agg_int rfl (hB.at_ rfl) ?_)
        | (refine v_load agg_b rfl (hB.at_ rfl) ?_)
        | (refine v_load agg_bo rfl (hB.at_ rfl) ?_)
        | (refine v_load agg_ns rfl (hB.at_ rfl) ?_)
        | (refine p_len slb rfl ?_)
        | (refine p_len sln rfl ?_)
      refine p_not rfl ?_
      cases hhas : t.has with
      | false =>
        rw [hhas] at hX
        refine v_loadN (ncs t Ap cp Av cv Ak ck Ah ch) agg_nd rfl rfl (hBn.run 0 _ (fun j v h => by rw [Nat.zero_add]; exact h)) ?_
        refine cc is_nbranch hbr ?_
        rintro e W5 ⟨rfl, b5⟩
        refine ⟨_, rfl, ?_⟩
        exact ⟨by rw [hX, hhas]; rfl, A2.below.trans (b5.mono A2.size)⟩
      | true =>
        rw [hhas] at hX
        refine cc is_ends (ends_any d even W2) ?_
        rintro e W3 ⟨rfl, rfl⟩
        refine ⟨_, rfl, ?_⟩
        cases hen : endsP d even with
        | false => exact ⟨by rw [hX, hen]; rfl, A2.below⟩
        | true =>
          refine v_loadN (ncs t Ap cp Av cv Ak ck Ah ch) agg_nd rfl rfl (hBn.run 0 _ (fun j v h => by rw [Nat.zero_add]; exact h)) ?_
          refine cc is_nbranch hbr ?_
          rintro e W5 ⟨rfl, b5⟩
          refine ⟨_, rfl, ?_⟩
          exact ⟨by rw [hX, hen, hhas]; rfl, A2.below.trans (b5.mono A2.size)⟩
  rw [if_neg h3] at hX
  exact ⟨by rw [hX]; rfl, hb⟩
theorem nright_any : ∀ (N : Nat), N ≤ 1000000000000 → ∀ t : Nd, sz t < N → RightOk t
  | 0, _, t, h => by omega
  | N + 1, hN, t, h => nright_step N (fun k hk => nright_any N (by omega) k hk) t (by omega) (by omega)
end Go.Proofs.YtdlljmmgkoeilaaDoor
namespace Go.Proofs.YtdlljmmgkoeilaaDoor
open Go.RowKit
theorem is_ncopy : isFn Tryd.prog 31 = true := by kernel_rfl
theorem is_ncheck : isFn Tryd.prog 32 = true := by kernel_rfl
def checkE (t : Nd) : Int := if rightP true t 0 then 0 else 2
set_option maxRecDepth 100000 in
theorem ncheck_any (t : Nd) (ht : sz t ≤ 999999999999) (gs : List (Option Nat)) (w : World) (cs : List Value) (hr : RdL w (Fd w gs) (dN t) cs) (hgs : ∀ b, some b ∈ gs → b < w.heap.size) :
    Calls Tryd.prog 32 #[.agg cs.toArray] w fun e w' => e = .returned (.int .i64 (checkE t)) ∧ Below w.heap.size w w' := by
  refine calls_ev (args := [.agg cs.toArray]) mixed Tryd.func32 rfl (by kernel_rfl) ?_
  have hl := hr.len
  rw [dN_len] at hl
  refine v_boxB cs rfl ?_
  rintro g W1 hg hB hb hs1
  subst hg
  refine v_loadN cs agg_nd rfl hl (hB.run 0 _ (fun j v h => by rw [Nat.zero_add]; exact h)) ?_
  refine cc is_nright (nright_any 1000000000000 (by decide) t (by omega) gs W1 cs 0 true (hr.up (Stp.below hb)) (fun b e => by have := hgs b e; have := hb.size; omega) (by decide)) ?_
  rintro e W2 ⟨rfl, b2⟩
  refine ⟨_, rfl, ?_⟩
  have C := hb.trans (b2.mono hb.size)
  refine p_not rfl ?_
  cases h : rightP true t 0 with
  | false => exact ⟨by unfold checkE; rw [h]; rfl, C⟩
  | true => exact ⟨by unfold checkE; rw [h]; rfl, C⟩
/-- What node.Copy answers of this node. -/
def CopyOk (t : Nd) : Prop := ∀ (gs : List (Option Nat)) (w : World) (cs : List Value), RdL w (Fd w gs) (dN t) cs → (∀ b, some b ∈ gs → b < w.heap.size) →
  Calls Tryd.prog 31 #[.agg cs.toArray] w fun e w' => ∃ cs', e = .returned (.agg cs'.toArray) ∧ RdL w' (Fr w w') (dN t) cs' ∧ Below w.heap.size w w'
/-- And that its kids are a row of the call's own. -/
def CopyRow (t : Nd) : Prop := ∀ (gs : List (Option Nat)) (w : World) (cs : List Value), RdL w (Fd w gs) (dN t) cs → (∀ b, some b ∈ gs → b < w.heap.size) →
  Calls Tryd.prog 31 #[.agg cs.toArray] w fun e w' => ∃ Ap cp Av cv Ak ck Ah ch xs, e = .returned (.agg (ncs t Ap cp Av cv Ak ck Ah ch).toArray) ∧ w'.ownsRow w.heap.size 28 6 (.slice Ak t.kids.length ck) t.kids.length xs ∧ RdL w' (Fz w.heap.size w' [bk Ak]) (dNs t.kids) xs ∧
    (RdD w' (Fz w.heap.size w' [bk Ak]) (dB t.path) (.slice Ap t.path.length cp) ∧ RdD w' (Fz w.heap.size w' [bk Ak]) (dB t.val) (.slice Av t.val.length cv) ∧ RdD w' (Fz w.heap.size w' [bk Ak]) (dB t.hash) (.slice Ah t.hash.length ch)) ∧ Below w.heap.size w w'
theorem CopyRow.ok {t : Nd} (h : CopyRow t) : CopyOk t := fun gs w cs hr hgs => (h gs w cs hr hgs).mono fun e w' ⟨Ap, cp, Av, cv, Ak, ck, Ah, ch, xs, he, hrow, hxs, ⟨h1, h2, h3⟩, hb⟩ =>
  ⟨_, he, RdL.ofnode (h1.to fun b q => ⟨rfl, q.1, q.2.1, q.2.2.2⟩) (h2.to fun b q => ⟨rfl, q.1, q.2.1, q.2.2.2⟩) (rdD_row hrow (hxs.to fun b q => ⟨rfl, q.1, q.2.1, q.2.2.2⟩) fun b q1 q2 q3 => ⟨q1, q2, row_thaw hrow (by rw [← own_bk]; exact q3)⟩) (h3.to fun b q => ⟨rfl, q.1, q.2.1, q.2.2.2⟩), hb⟩
theorem inf_nd : (Tryd.prog.info? 28).map (fun i => (i.zero, i.size, i.bytes)) = some (some (.agg #[.int .i64 0, .slice none 0 0, .bool false, .slice none 0 0, .slice none 0 0, .slice none 0 0]), 6, 112) := by kernel_rfl
theorem sz_ns : (Tryd.prog.info? 26).map (·.size) = some 1 := by kernel_rfl
def zN : List Value := [.int .i64 0, .slice none 0 0, .bool false, .slice none 0 0, .slice none 0 0, .slice none 0 0]
theorem pl_nd : placesOf Tryd.prog 28 = some [(0, 1), (1, 1), (2, 1), (3, 1), (4, 1), (5, 1)] := by kernel_rfl
theorem z_nd : zeroOf Tryd.prog 28 = some zN := by kernel_rfl
def schCopy : Sch := .take 0 (.take 1 (.take 2 (.take 3 (.take 4 (.take 5 (.take 7 (.take 8 (.take 10 (.take 11 (.two 6 (.two 9 (.two 12 (.take 13 (.one 14 .nil)) 14 (.one 12 (.take 13 .nil))) 14 (.one 9 (.one 12 (.take 13 .nil)))) 14 (.one 6 (.one 9 (.one 12 (.take 13 .nil))))))))))))))
set_option maxRecDepth 100000 in
set_option maxHeartbeats 1000000 in
theorem ncopyR_step (N : Nat) (ih : ∀ k : Nd, sz k < N → CopyOk k) (t : Nd) (ht : sz t ≤ N) (hN : N ≤ 100000000) : CopyRow t := by
  intro gs w cs hr hgs
  refine calls_ev (args := [.agg cs.toArray]) mixed Tryd.func31 rfl (by kernel_rfl) ?_
  obtain ⟨Ap, cp, Av, cv, Ak, ck, Ah, ch, rfl, r1, r3, r4, r5⟩ := hr.node
  have hsz := sz_eq t
  have hsl := szs_len t.kids
  refine v_boxB (ncs t Ap cp Av cv Ak ck Ah ch) rfl ?_
  rintro g1 W1 hg1 hB1 hb1 hs1
  refine v_allocB zN al_nd ?_
  rintro g2 W2 hg2 hB2 hb2 hs2
  rw [hg1] at hb1
  rw [hg2] at hb2
  have A2 : At w W2 (some g2 :: gs) := ((At.start hgs).call hb1).new hb2 (fun b e => by injection e with e; omega)
  have s2 : Stp w gs W2 (some g2 :: gs) := (Stp.below hb1).trans (Stp.new hb2 (fun b e => by injection e with e; omega))
  have hF1 : FB W2 (some g2 :: gs) g1 28 (ncs t Ap cp Av cv Ak ck Ah ch) := FB.up (gs := gs) (FB.new hB1 hgs (by omega)) (Stp.new hb2 (fun b e => by injection e with e; omega))
  replace r1 := r1.up s2
  replace r3 := r3.up s2
  replace r4 := r4.up s2
  replace r5 := r5.up s2
  have hd2 : Stp W2 (some g2 :: gs) W2.drew (some g2 :: gs) := Stp.drew
  replace A2 := A2.drew
  replace hF1 := hF1.up hd2
  replace hB2 : Blk W2.drew g2 28 zN := hB2
  replace r1 := r1.up hd2
  replace r3 := r3.up hd2
  replace r4 := r4.up hd2
  replace r5 := r5.up hd2
  have hs2' : W2.drew.heap.size = g2 + 1 := hs2
  clear hB1 s2 hd2 hr
  refine drT (fun W => Blk W g1 28 (ncs t Ap cp Av cv Ak ck Ah ch)) (Sch.graft schCopy (.one 15 .nil)) (by kernel_rfl) hF1.blk ?_
  refine cutT (Option Addr × Nat × Option Addr × Nat × Option Addr × Nat × Nat) (fun s W => At w W (some s.2.2.2.2.2.2 :: some g2 :: gs) ∧ Stp W2.drew (some g2 :: gs) W (some s.2.2.2.2.2.2 :: some g2 :: gs) ∧ RdD W (Fz w.heap.size W (some s.2.2.2.2.2.2 :: some g2 :: gs)) (dB t.path) (.slice s.1 t.path.length s.2.1) ∧ RdD W (Fz w.heap.size W (some s.2.2.2.2.2.2 :: some g2 :: gs)) (dB t.val) (.slice s.2.2.1 t.val.length s.2.2.2.1) ∧
      RdD W (Fz w.heap.size W (some s.2.2.2.2.2.2 :: some g2 :: gs)) (dB t.hash) (.slice s.2.2.2.2.1 t.hash.length s.2.2.2.2.2.1) ∧ Blk W s.2.2.2.2.2.2 28 zN ∧ Blk W g2 28 zN ∧ W2.heap.size ≤ s.2.2.2.2.2.2 ∧ Blk W g1 28 (ncs t Ap cp Av cv Ak ck Ah ch))
    (fun s => [(1, .pointer (some ⟨g1, 0, none⟩)), (2, .pointer (some ⟨g2, 0, none⟩)), (3, .pointer (some ⟨s.2.2.2.2.2.2, 0, none⟩)), (19, .agg #[.int .i64 t.kind, .slice s.1 t.path.length s.2.1, .bool t.has, .slice s.2.2.1 t.val.length s.2.2.2.1, .slice none 0 0, .slice s.2.2.2.2.1 t.hash.length s.2.2.2.2.2.1])]) ?_ ?_
  · refine p_fld fN0 rfl ?_
    refine t_load agg_int rfl (fun W h => Blk.at_ h rfl) ?_
    refine p_fld fN2 rfl ?_
    refine t_load agg_bo rfl (fun W h => Blk.at_ h rfl) ?_
    refine p_fld fN1 rfl ?_
    refine t_load agg_b rfl (fun W h => Blk.at_ h rfl) ?_
    refine p_fld fN3 rfl ?_
    refine t_load agg_b rfl (fun W h => Blk.at_ h rfl) ?_
    refine p_fld fN5 rfl ?_
    refine t_load agg_b rfl (fun W h => Blk.at_ h rfl) ?_
    revert A2 hF1 hB2 r1 r3 r4 r5 hs2'
    generalize W2.drew = Wd
    intro A2 hF1 hB2 r1 r3 r4 r5 hs2'
    have S : Stp Wd (some g2 :: gs) Wd (some g2 :: gs) := Stp.refl
    refine ⟨?_, ?_⟩
    ·
      refine cc is_bclone (bclone_any _ Ap t.path.length cp t.path _ (r1.up S) (by omega)) ?_
      rintro e Wn ⟨A6, c6, rfl, ox, -, bx⟩
      try replace P := P.upz (Stp.below bx)
      try replace V := V.upz (Stp.below bx)
      have P := ox.zb A2.size A2.lt
      replace A2 := A2.call bx
      replace S := S.trans (Stp.below bx)
      replace hF1 := hF1.up (Stp.below bx)
      replace hB2 := hB2.below bx
      try replace hB3 := hB3.below bx
      refine ⟨_, rfl, hF1.blk, ?_⟩
      clear ox bx
      refine ⟨?_, ?_⟩
      ·
        refine cc is_bclone (bclone_any _ Av t.val.length cv t.val _ (r3.up S) (by omega)) ?_
        rintro e Wn ⟨A9, c9, rfl, ox, -, bx⟩
        try replace P := P.upz (Stp.below bx)
        try replace V := V.upz (Stp.below bx)
        have V := ox.zb A2.size A2.lt
        replace A2 := A2.call bx
        replace S := S.trans (Stp.below bx)
        replace hF1 := hF1.up (Stp.below bx)
        replace hB2 := hB2.below bx
        try replace hB3 := hB3.below bx
        refine ⟨_, rfl, hF1.blk, ?_⟩
        clear ox bx
        refine ⟨?_, ?_⟩
        ·
          refine cc is_bclone (bclone_any _ Ah t.hash.length ch t.hash _ (r5.up S) (by omega)) ?_
          rintro e Wn ⟨A12, c12, rfl, ox, -, bx⟩
          try replace P := P.upz (Stp.below bx)
          try replace V := V.upz (Stp.below bx)
          have H := ox.zb A2.size A2.lt
          replace A2 := A2.call bx
          replace S := S.trans (Stp.below bx)
          replace hF1 := hF1.up (Stp.below bx)
          replace hB2 := hB2.below bx
          try replace hB3 := hB3.below bx
          refine ⟨_, rfl, hF1.blk, ?_⟩
          clear ox bx
          refine p_build (vs := [.int .i64 t.kind, .slice A6 t.path.length c6, .bool t.has, .slice A9 t.val.length c9, .slice none 0 0, .slice A12 t.hash.length c12]) pl_nd z_nd rfl ?_
          refine v_allocB zN al_nd ?_
          rintro g3 Wn hg3 hB3 b3 hs3
          rw [hg3] at b3
          have hgl := S.size
          have St := Stp.new (gs := some g2 :: gs) (g := some g3) b3 (fun b e => by injection e with e; omega)
          replace A2 := A2.new b3 (g := some g3) (fun b e => by injection e with e; omega)
          replace S := S.trans St
          replace hF1 := hF1.up St
          replace hB2 := hB2.below b3
          try replace P := P.upz St
          try replace V := V.upz St
          try replace H := H.upz St
          refine ⟨hF1.blk, ?_⟩
          exact ⟨(A6, c6, A9, c9, A12, c12, g3), ⟨A2, S, P, V, H, hB3, hB2, by dsimp only; omega, hF1.blk⟩, ⟨rfl, rfl, rfl, rfl, trivial⟩⟩
        ·
          refine v_allocB zN al_nd ?_
          rintro g3 Wn hg3 hB3 b3 hs3
          rw [hg3] at b3
          have hgl := S.size
          have St := Stp.new (gs := some g2 :: gs) (g := some g3) b3 (fun b e => by injection e with e; omega)
          replace A2 := A2.new b3 (g := some g3) (fun b e => by injection e with e; omega)
          replace S := S.trans St
          replace hF1 := hF1.up St
          replace hB2 := hB2.below b3
          try replace P := P.upz St
          try replace V := V.upz St
          try replace H := H.upz St
          refine ⟨hF1.blk, ?_⟩
          refine cc is_bclone (bclone_any _ Ah t.hash.length ch t.hash _ (r5.up S) (by omega)) ?_
          rintro e Wn ⟨A12, c12, rfl, ox, -, bx⟩
          try replace P := P.upz (Stp.below bx)
          try replace V := V.upz (Stp.below bx)
          have H := ox.zb A2.size A2.lt
          replace A2 := A2.call bx
          replace S := S.trans (Stp.below bx)
          replace hF1 := hF1.up (Stp.below bx)
          replace hB2 := hB2.below bx
          try replace hB3 := hB3.below bx
          refine ⟨_, rfl, hF1.blk, ?_⟩
          clear ox bx
          refine p_build (vs := [.int .i64 t.kind, .slice A6 t.path.length c6, .bool t.has, .slice A9 t.val.length c9, .slice none 0 0, .slice A12 t.hash.length c12]) pl_nd z_nd rfl ?_
          exact ⟨(A6, c6, A9, c9, A12, c12, g3), ⟨A2, S, P, V, H, hB3, hB2, by dsimp only; omega, hF1.blk⟩, ⟨rfl, rfl, rfl, rfl, trivial⟩⟩
      ·
        refine v_allocB zN al_nd ?_
        rintro g3 Wn hg3 hB3 b3 hs3
        rw [hg3] at b3
        have hgl := S.size
        have St := Stp.new (gs := some g2 :: gs) (g := some g3) b3 (fun b e => by injection e with e; omega)
        replace A2 := A2.new b3 (g := some g3) (fun b e => by injection e with e; omega)
        replace S := S.trans St
        replace hF1 := hF1.up St
        replace hB2 := hB2.below b3
        try replace P := P.upz St
        try replace V := V.upz St
        try replace H := H.upz St
        refine ⟨hF1.blk, ?_⟩
        refine cc is_bclone (bclone_any _ Av t.val.length cv t.val _ (r3.up S) (by omega)) ?_
        rintro e Wn ⟨A9, c9, rfl, ox, -, bx⟩
        try replace P := P.upz (Stp.below bx)
        try replace V := V.upz (Stp.below bx)
        have V := ox.zb A2.size A2.lt
        replace A2 := A2.call bx
        replace S := S.trans (Stp.below bx)
        replace hF1 := hF1.up (Stp.below bx)
        replace hB2 := hB2.below bx
        try replace hB3 := hB3.below bx
        refine ⟨_, rfl, hF1.blk, ?_⟩
        clear ox bx
        refine cc is_bclone (bclone_any _ Ah t.hash.length ch t.hash _ (r5.up S) (by omega)) ?_
        rintro e Wn ⟨A12, c12, rfl, ox, -, bx⟩
        try replace P := P.upz (Stp.below bx)
        try replace V := V.upz (Stp.below bx)
        have H := ox.zb A2.size A2.lt
        replace A2 := A2.call bx
        replace S := S.trans (Stp.below bx)
        replace hF1 := hF1.up (Stp.below bx)
        replace hB2 := hB2.below bx
        try replace hB3 := hB3.below bx
        refine ⟨_, rfl, hF1.blk, ?_⟩
        clear ox bx
        refine p_build (vs := [.int .i64 t.kind, .slice A6 t.path.length c6, .bool t.has, .slice A9 t.val.length c9, .slice none 0 0, .slice A12 t.hash.length c12]) pl_nd z_nd rfl ?_
        exact ⟨(A6, c6, A9, c9, A12, c12, g3), ⟨A2, S, P, V, H, hB3, hB2, by dsimp only; omega, hF1.blk⟩, ⟨rfl, rfl, rfl, rfl, trivial⟩⟩
    ·
      refine v_allocB zN al_nd ?_
      rintro g3 Wn hg3 hB3 b3 hs3
      rw [hg3] at b3
      have hgl := S.size
      have St := Stp.new (gs := some g2 :: gs) (g := some g3) b3 (fun b e => by injection e with e; omega)
      replace A2 := A2.new b3 (g := some g3) (fun b e => by injection e with e; omega)
      replace S := S.trans St
      replace hF1 := hF1.up St
      replace hB2 := hB2.below b3
      try replace P := P.upz St
      try replace V := V.upz St
      try replace H := H.upz St
      refine ⟨hF1.blk, ?_⟩
      refine cc is_bclone (bclone_any _ Ap t.path.length cp t.path _ (r1.up S) (by omega)) ?_
      rintro e Wn ⟨A6, c6, rfl, ox, -, bx⟩
      try replace P := P.upz (Stp.below bx)
      try replace V := V.upz (Stp.below bx)
      have P := ox.zb A2.size A2.lt
      replace A2 := A2.call bx
      replace S := S.trans (Stp.below bx)
      replace hF1 := hF1.up (Stp.below bx)
      replace hB2 := hB2.below bx
      try replace hB3 := hB3.below bx
      refine ⟨_, rfl, hF1.blk, ?_⟩
      clear ox bx
      refine cc is_bclone (bclone_any _ Av t.val.length cv t.val _ (r3.up S) (by omega)) ?_
      rintro e Wn ⟨A9, c9, rfl, ox, -, bx⟩
      try replace P := P.upz (Stp.below bx)
      try replace V := V.upz (Stp.below bx)
      have V := ox.zb A2.size A2.lt
      replace A2 := A2.call bx
      replace S := S.trans (Stp.below bx)
      replace hF1 := hF1.up (Stp.below bx)
      replace hB2 := hB2.below bx
      try replace hB3 := hB3.below bx
      refine ⟨_, rfl, hF1.blk, ?_⟩
      clear ox bx
      refine cc is_bclone (bclone_any _ Ah t.hash.length ch t.hash _ (r5.up S) (by omega)) ?_
      rintro e Wn ⟨A12, c12, rfl, ox, -, bx⟩
      try replace P := P.upz (Stp.below bx)
      try replace V := V.upz (Stp.below bx)
      have H := ox.zb A2.size A2.lt
      replace A2 := A2.call bx
      replace S := S.trans (Stp.below bx)
      replace hF1 := hF1.up (Stp.below bx)
      replace hB2 := hB2.below bx
      try replace hB3 := hB3.below bx
      refine ⟨_, rfl, hF1.blk, ?_⟩
      clear ox bx
      refine p_build (vs := [.int .i64 t.kind, .slice A6 t.path.length c6, .bool t.has, .slice A9 t.val.length c9, .slice none 0 0, .slice A12 t.hash.length c12]) pl_nd z_nd rfl ?_
      exact ⟨(A6, c6, A9, c9, A12, c12, g3), ⟨A2, S, P, V, H, hB3, hB2, by dsimp only; omega, hF1.blk⟩, ⟨rfl, rfl, rfl, rfl, trivial⟩⟩
  · rintro ⟨A6, c6, A9, c9, A12, c12, g3⟩ B3 W3 ⟨A3, s3, P, V, H, hB3, hBz, hg3, hBb⟩
    dsimp only at A3 s3 P V H hB3 hg3
    have h23 : g2 < g3 := by have : W2.drew.heap.size = W2.heap.size := rfl; omega
    have h3l := hB3.lt
    have hwg2 : w.heap.size ≤ g2 := by have := hb1.size; omega
    refine v_storeA [.int .i64 t.kind, .slice A6 t.path.length c6, .bool t.has, .slice A9 t.val.length c9, .slice none 0 0, .slice A12 t.hash.length c12] sz_nd rfl rfl rfl (by intro u hu; simp at hu; rcases hu with rfl | rfl | rfl | rfl | rfl | rfl <;> rfl) hB3 rfl ?_
    rintro W4 hB4 hg4 hs4
    dsimp only at hB4 hg4
    have St4 : Stp W3 (some g3 :: some g2 :: gs) W4 (none :: some g3 :: some g2 :: gs) := (Stp.wrote hg4 (by simp)).trans (Stp.new (Below.refl _ _) (fun b e => by cases e))
    have A4 : At w W4 (none :: some g3 :: some g2 :: gs) := (A3.wrote hg4 (fun b e => by injection e with e; omega)).new (Below.refl _ _) (fun b e => by cases e)
    have s4 := s3.trans St4
    have hBz4 := hBz.grownN hg4 (by omega)
    have hBb4 := hBb.grownN hg4 (by have := hF1.blk.lt; omega)
    replace P := P.upz St4
    replace V := V.upz St4
    replace H := H.upz St4
    clear A3 s3 hB3 hBz hBb
    refine ⟨hBb4, ?_⟩
    refine p_fld fN4 rfl ?_
    refine v_load agg_ns rfl (hBb4.at_ rfl) ?_
    refine p_len sln rfl ?_
    refine lp (Nat × Option Addr × Nat) (fun s W => s.1 ≤ t.kids.length ∧ At w W (bk s.2.1 :: some g3 :: some g2 :: gs) ∧ Stp W2.drew (some g2 :: gs) W (bk s.2.1 :: some g3 :: some g2 :: gs) ∧ (RdD W (Fz w.heap.size W (bk s.2.1 :: some g3 :: some g2 :: gs)) (dB t.path) (.slice A6 t.path.length c6) ∧ RdD W (Fz w.heap.size W (bk s.2.1 :: some g3 :: some g2 :: gs)) (dB t.val) (.slice A9 t.val.length c9) ∧ RdD W (Fz w.heap.size W (bk s.2.1 :: some g3 :: some g2 :: gs)) (dB t.hash) (.slice A12 t.hash.length c12)) ∧
        (∃ xs, W.ownsRow w.heap.size 28 6 (.slice s.2.1 s.1 s.2.2) s.1 xs ∧ RdL W (Fz w.heap.size W (bk s.2.1 :: some g3 :: some g2 :: gs)) (dNs (t.kids.take s.1)) xs) ∧ (∀ b, bk s.2.1 = some b → g3 < b) ∧ Blk W g3 28 [.int .i64 t.kind, .slice A6 t.path.length c6, .bool t.has, .slice A9 t.val.length c9, .slice s.2.1 s.1 s.2.2, .slice A12 t.hash.length c12] ∧ Blk W g2 28 zN)
      (fun s => [(2, .pointer (some ⟨g2, 0, none⟩)), (3, .pointer (some ⟨g3, 0, none⟩)), (21, .slice Ak t.kids.length ck), (22, .int .i64 t.kids.length), (23, .int .i64 s.1)]) (fun s => t.kids.length - s.1) (0, none, 0)
      ⟨Nat.zero_le _, A4, s4, ⟨P, V, H⟩, ⟨[], World.ownsRow_nil _ _ _ _, RdL.nil_⟩, fun b e => (by cases e), hB4, hBz4⟩ ⟨rfl, rfl, rfl, rfl, rfl, trivial⟩ ?_
    clear P V H A4 s4 hB4 hBz4 hBb4 St4 hg4
    rintro ⟨i, A5, c5⟩ E5 W5 ⟨hi, A5', s5, ⟨P, V, H⟩, ⟨xs, hrow, hxs⟩, hAb, hB5, hBz⟩
    dsimp only at hi A5' s5 P V H hrow hxs hAb hB5
    refine p_lt rfl rfl (fun hlt => ?_) (fun hge => ?_)
    · obtain ⟨k, hki⟩ : ∃ k, t.kids[i]? = some k := ⟨_, List.getElem?_eq_getElem (by omega)⟩
      have hkm := List.mem_of_getElem? hki
      have hkz := szs_mem hkm
      obtain ⟨b, off, es, rfl, hF, hes, hel, hc⟩ := (r4.up s5).kid hki
      refine p_at sln rfl rfl rfl (by omega) ?_
      refine v_loadN es agg_nd rfl hel hc ?_
      refine v_allocB _ al_nd ?_
      rintro g6 W6 hg6 hB6 hb6 hs6
      refine v_storeA es sz_nd rfl rfl hel (hes.ones (dN_one k)) hB6 rfl ?_
      rintro W7 hB7 hg7 hs7
      rw [hg6] at hb6
      have hb7 : Below W5.heap.size W5 W7 := hb6.grown hg7 (by omega) (fun q hq => by injection hq with hq; omega)
      have hlt3 := hB5.lt
      have hB5' := (hB5.below hb7).drew
      have bd : Below W5.heap.size W5 W7.drew := hb7.drew
      refine drZ 7 (fun W => Blk W g3 28 [.int .i64 t.kind, .slice A6 t.path.length c6, .bool t.has, .slice A9 t.val.length c9, .slice A5 i c5, .slice A12 t.hash.length c12] ∧ Blk W g6 28 es) [(0, true), (1, true), (2, true), (3, false), (4, false), (5, false), (6, true)] (by kernel_rfl) ⟨hB5', hB7.drew⟩ ?_
      refine p_fld fN4 rfl ?_
      refine t_load agg_ns rfl (fun W h => Blk.at_ h.1 rfl) ?_
      refine t_loadN es agg_nd rfl hel (fun W h => Blk.run h.2 0 es (fun j v h => by rw [Nat.zero_add]; exact h)) ?_
      have s7 : Stp W5 (bk A5 :: some g3 :: some g2 :: gs) W7.drew (bk A5 :: some g3 :: some g2 :: gs) := Stp.below bd
      have A7 := A5'.call bd
      refine cc is_ncopy (ih k (by omega) _ W7.drew es (hes.up s7) A7.lt) ?_
      rintro e W8 ⟨es', rfl, hes', b8⟩
      have A8 := A7.call b8
      have hes8 := hes'.zfr A7.size A7.lt
      have s8 := s7.trans (Stp.below b8)
      refine ⟨_, rfl, ⟨hB5'.below b8, hB7.drew.below b8⟩, ?_⟩
      obtain ⟨Ap', cp', Av', cv', Ak', ck', Ah', ch', rfl, _⟩ := hes8.node
      refine v_bslice (vs := ncs k Ap' cp' Av' cv' Ak' ck' Ah' ch') sln z_nd rfl (by decide) rfl ?_
      rintro g9 W9 hg9 hB9 hb9 hs9
      rw [hg9] at hb9
      have A9' := A8.call hb9
      have s9 := s8.trans (Stp.below hb9)
      have hB59 := (hB5'.below b8).below hb9
      have hB79 := (hB7.drew.below b8).below hb9
      have hrow9 := ownsRow_below (ownsRow_below (ownsRow_below hrow bd) b8) hb9
      refine ⟨⟨hB59, hB79⟩, ?_⟩
      have hkl : dNs (t.kids.take (i + 1)) = dNs (t.kids.take i) ++ dN k := by
        rw [show t.kids.take (i + 1) = t.kids.take i ++ [k] by rw [List.take_add_one, hki]; rfl, dNs_app, dNs, dNs, List.append_nil]
      refine v_appR Tryd.underlying26 inf_nd rfl (by decide) rfl hrow9 rfl (Reads.blk (size := 6) (n := 1) hB9 rfl) (ncs_one k Ap' cp' Av' cv' Ak' ck' Ah' ch') ⟨by omega, by decide⟩ A9' ?_
      rintro A10 c10 W10 hrow10 St10 A10' - hg10 hb10
      have h3ne : bk A5 ≠ some g3 := fun e => by have := hAb g3 e; omega
      have h6ne : bk A5 ≠ some g6 := fun e => by have := A5'.lt g6 (by rw [e]; simp); omega
      have hB510 := hB59.grown hg10 (fun e => h3ne e)
      have hB710 := hB79.grown hg10 (fun e => h6ne e)
      have hl9 : W5.heap.size ≤ W9.heap.size := by have := s9.size; omega
      have hAb10 : ∀ b, bk A10 = some b → g3 < b := fun b e => by
        rcases hb10 b e with h | h
        · exact hAb b h
        · have := hB59.lt; omega
      have hBz10 := ((((hBz.below bd).below b8).below hb9)).grown hg10 (fun e => by have := hAb g2 e; omega)
      refine ⟨⟨hB510, hB710⟩, ?_⟩
      refine p_fld fN4 rfl ?_
      refine v_set (.slice A10 (i + 1) c10) sz_ns hB510 rfl rfl rfl (by show 4 < 6; decide) ?_
      rintro W11 hB11 hg11 hs11
      have s10 := s9.trans St10
      have St11 : Stp W10 (bk A10 :: some g3 :: some g2 :: gs) W11 (bk A10 :: some g3 :: some g2 :: gs) := Stp.wrote hg11 (by simp)
      have s11 := s10.trans St11
      refine p_add rfl rfl (r := ((i + 1 : Nat) : Int)) ((w64 (by omega)).trans (by omega)) ?_
      refine ⟨(i + 1, A10, c10), ⟨by dsimp only; omega, A10'.wrote hg11 (fun b e => by injection e with e; omega), s5.trans s11, ⟨P.upz s11, V.upz s11, H.upz s11⟩, ⟨_, row_kept' hrow10 hg11 (.inr (fun e => by have := hAb10 g3 e; omega)), ?_⟩, hAb10, hB11, hBz10.grownN hg11 (by omega)⟩, ⟨rfl, rfl, rfl, rfl, rfl, trivial⟩, by dsimp only; omega⟩
      dsimp only
      rw [hkl]
      exact (hxs.upz s11).app (((hes8.upz (Stp.below hb9)).upz St10).upz St11)
    · have hin : i = t.kids.length := by omega
      rw [List.take_of_length_le (by omega)] at hxs
      have hi' := hi
      subst hin
      refine v_loadN [.int .i64 t.kind, .slice A6 t.path.length c6, .bool t.has, .slice A9 t.val.length c9, .slice A5 t.kids.length c5, .slice A12 t.hash.length c12] agg_nd rfl rfl (hB5.run 0 _ (fun j v h => by rw [Nat.zero_add]; exact h)) ?_
      refine v_storeA [.int .i64 t.kind, .slice A6 t.path.length c6, .bool t.has, .slice A9 t.val.length c9, .slice A5 t.kids.length c5, .slice A12 t.hash.length c12] sz_nd rfl rfl rfl (by intro u hu; simp at hu; rcases hu with rfl | rfl | rfl | rfl | rfl | rfl <;> rfl) hBz rfl ?_
      rintro W6 hB6 hg6 hs6
      have St6 : Stp W5 (bk A5 :: some g3 :: some g2 :: gs) W6 (bk A5 :: some g3 :: some g2 :: gs) := Stp.wrote hg6 (by simp)
      refine c_loadN [.int .i64 t.kind, .slice A6 t.path.length c6, .bool t.has, .slice A9 t.val.length c9, .slice A5 t.kids.length c5, .slice A12 t.hash.length c12] agg_nd rfl rfl (hB6.run 0 _ (fun j v h => by rw [Nat.zero_add]; exact h)) ?_
      have hg3A : bk A5 ≠ some g2 := fun e => by have := hAb g2 e; omega
      have hw : ∀ b, Fz w.heap.size W6 (bk A5 :: some g3 :: some g2 :: gs) b → W6.heap[b]? = W6.heap[b]? ∧ Fz w.heap.size W6 [bk A5] b := fun b q => ⟨rfl, q.1, q.2.1, fun e => q.2.2.1 (by rw [List.mem_singleton.1 e]; exact List.mem_cons_self ..), q.2.2.2⟩
      exact ⟨A6, c6, A9, c9, A5, c5, A12, c12, xs, rfl, row_kept' hrow hg6 (.inr hg3A), (hxs.upz St6).to hw, ⟨(P.upz St6).to hw, (V.upz St6).to hw, (H.upz St6).to hw⟩, (A5'.wrote hg6 (fun b e => by injection e with e; omega)).below⟩
theorem ncopy_step (N : Nat) (ih : ∀ k : Nd, sz k < N → CopyOk k) (t : Nd) (ht : sz t ≤ N) (hN : N ≤ 100000000) : CopyOk t := (ncopyR_step N ih t ht hN).ok
theorem ncopy_any : ∀ (N : Nat), N ≤ 100000000 → ∀ t : Nd, sz t < N → CopyOk t
  | 0, _, t, h => by omega
  | N + 1, hN, t, h => ncopy_step N (fun k hk => ncopy_any N (by omega) k hk) t (by omega) (by omega)
theorem ncopyR_any (t : Nd) (ht : sz t < 100000000) : CopyRow t := ncopyR_step (sz t) (fun k hk => ncopy_any 100000000 (by decide) k (by omega)) t (Nat.le_refl _) (by omega)
end Go.Proofs.YtdlljmmgkoeilaaDoor
