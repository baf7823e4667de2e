/- The walks of node's right, branch, Check. The walks of node.Check and node.Copy. Tries, plainly: what may be; get, put, drop. -/
import Derived.Test.YtojjfkbffjkojaaDoorG05
namespace Go.Proofs.YtojjfkbffjkojaaDoor
open Go.RowKit
def kindsB (ks : List Nd) : Bool := ks.all fun k => decide (k.kind = 3 ∨ k.kind = 4)
def manyN (ks : List Nd) : Nat := (ks.filter fun k => decide (k.kind ≠ 0)).length
/-- May a node be, so many halves down? -/
def ownP (even : Bool) (k : Int) (p : List UInt8) (h : Bool) (v : List UInt8) (ks : List Nd) (hs : List UInt8) (d : Nat) (below : Nat → Bool) : Bool :=
  decide (d ≤ 400) && (decide (v.length ≤ 4000) && (halvesB p && (
    if k = 0 then decide (p.length = 0 ∧ v.length = 0 ∧ ks.length = 0 ∧ hs.length = 0 ∧ h = false)
    else if k = 1 then decide (ks.length = 0 ∧ hs.length = 0 ∧ h = false) && endsP (d + p.length) even
    else if k = 4 then decide (p.length = 0 ∧ v.length = 0 ∧ ks.length = 0 ∧ h = false ∧ hs.length = 32)
    else if k = 2 then decide (v.length = 0 ∧ hs.length = 0 ∧ h = false ∧ p.length ≠ 0 ∧ ks.length = 1) && (kindsB ks && below (d + p.length))
    else if k = 3 then decide (p.length = 0 ∧ hs.length = 0 ∧ (h = true ∨ v.length = 0)) && ((!h || endsP d even) && (decide (ks.length = 16) && (below (d + 1) && decide (2 ≤ (if h then 1 else 0) + manyN ks))))
    else false)))
mutual
def rightP (even : Bool) : Nd → Nat → Bool
  | .mk k p h v ks hs, d => ownP even k p h v ks hs d (rightsP even ks)
def rightsP (even : Bool) : List Nd → Nat → Bool
  | [], _ => true
  | t :: ts, d => rightP even t d && rightsP even ts d
end
theorem rightP_eq (even : Bool) (t : Nd) (d : Nat) : rightP even t d = ownP even t.kind t.path t.has t.val t.kids t.hash d (rightsP even t.kids) := by cases t; unfold rightP; rfl
theorem rightsP_snoc (even : Bool) (d : Nat) : ∀ (a : List Nd) (t : Nd), rightsP even (a ++ [t]) d = (rightsP even a d && rightP even t d)
  | [], t => by simp [rightsP]
  | x :: a, t => by rw [List.cons_append, rightsP, rightsP, rightsP_snoc even d a t, Bool.and_assoc]
theorem rightsP_bad {even : Bool} {d : Nat} : ∀ {ks : List Nd} {t : Nd}, t ∈ ks → rightP even t d = false → rightsP even ks d = false
  | x :: a, t, h, hb => by
    rw [rightsP]
    rcases List.mem_cons.1 h with rfl | h
    · rw [hb]; rfl
    · rw [rightsP_bad h hb, Bool.and_false]
theorem is_nright : isFn Tryd.prog 71 = true := by kernel_rfl
theorem is_nbranch : isFn Tryd.prog 94 = true := by kernel_rfl
/-- What node.right answers of this node. -/
def RightOk (t : Nd) : Prop := ∀ (gs : List (Option Nat)) (w : World) (cs : List Value) (d : Nat) (even : Bool), RdL w (Fd w gs) (dN t) cs → (∀ b, some b ∈ gs → b < w.heap.size) → d ≤ 1000000000 →
  Calls Tryd.prog 71 #[.agg cs.toArray, .int .i64 d, .bool even] w fun e w' => e = .returned (.bool (rightP even t d)) ∧ Below w.heap.size w w'
set_option maxRecDepth 100000 in
set_option maxHeartbeats 1000000 in
theorem branch_any (t : Nd) (ih : ∀ k ∈ t.kids, RightOk k) (hk : t.kids.length ≤ 1000000000) (gs : List (Option Nat)) (w : World) (cs : List Value) (d : Nat) (even : Bool) (hr : RdL w (Fd w gs) (dN t) cs) (hgs : ∀ b, some b ∈ gs → b < w.heap.size) (hd : d ≤ 100000000) :
    Calls Tryd.prog 94 #[.agg cs.toArray, .int .i64 d, .bool even] w fun e w' => e = .returned (.bool (decide (t.kids.length = 16) && (rightsP even t.kids (d + 1) && decide (2 ≤ (if t.has then 1 else 0) + manyN t.kids)))) ∧ Below w.heap.size w w' := by
  refine calls_ev (args := [.agg cs.toArray, .int .i64 d, .bool even]) mixed Tryd.func94 rfl (by kernel_rfl) ?_
  obtain ⟨Ap, cp, Av, cv, Ak, ck, Ah, ch, rfl, r1, r3, r4, r5⟩ := hr.node
  refine v_boxB (ncs t Ap cp Av cv Ak ck Ah ch) rfl ?_
  rintro g W1 hg hB hb hs1
  subst hg
  unfold ncs at hB
  repeat' first
    | (refine p_fld fN0 rfl ?_)
    | (refine p_fld fN1 rfl ?_)
    | (refine p_fld fN2 rfl ?_)
    | (refine p_fld fN3 rfl ?_)
    | (refine p_fld fN4 rfl ?_)
    | (refine p_fld fN5 rfl ?_)
    | (refine v_load agg_int rfl (hB.at_ rfl) ?_)
    | (refine v_load agg_b rfl (hB.at_ rfl) ?_)
    | (refine v_load agg_bo rfl (hB.at_ rfl) ?_)
    | (refine v_load agg_ns rfl (hB.at_ rfl) ?_)
    | (refine p_len slb rfl ?_)
    | (refine p_len sln rfl ?_)
  refine p_ne rfl rfl (fun h16 => ?_) (fun h16 => ?_)
  rotate_left
  · refine ⟨?_, hb⟩
    rw [decide_eq_false (by omega)]; rfl
  have h16' : t.kids.length = 16 := by omega
  repeat' first
    | (refine p_fld fN0 rfl ?_)
    | (refine p_fld fN1 rfl ?_)
    | (refine p_fld fN2 rfl ?_)
    | (refine p_fld fN3 rfl ?_)
    | (refine p_fld fN4 rfl ?_)
    | (refine p_fld fN5 rfl ?_)
    | (refine v_load agg_int rfl (hB.at_ rfl) ?_)
    | (refine v_load agg_b rfl (hB.at_ rfl) ?_)
    | (refine v_load agg_bo rfl (hB.at_ rfl) ?_)
    | (refine v_load agg_ns rfl (hB.at_ rfl) ?_)
    | (refine p_len slb rfl ?_)
    | (refine p_len sln rfl ?_)
  cases hh : t.has with
  | false =>
    rw [hh] at hB
    repeat' first
      | (refine p_fld fN0 rfl ?_)
      | (refine p_fld fN1 rfl ?_)
      | (refine p_fld fN2 rfl ?_)
      | (refine p_fld fN3 rfl ?_)
      | (refine p_fld fN4 rfl ?_)
      | (refine p_fld fN5 rfl ?_)
      | (refine v_load agg_int rfl (hB.at_ rfl) ?_)
      | (refine v_load agg_b rfl (hB.at_ rfl) ?_)
      | (refine v_load agg_bo rfl (hB.at_ rfl) ?_)
      | (refine v_load agg_ns rfl (hB.at_ rfl) ?_)
      | (refine p_len slb rfl ?_)
      | (refine p_len sln rfl ?_)
    have A1 : At w W1 gs := (At.start hgs).call hb
    have s1 : Stp w gs W1 gs := Stp.below hb
    have hFB : FB W1 gs w.heap.size 26 [.int .i64 t.kind, .slice Ap t.path.length cp, .bool false, .slice Av t.val.length cv, .slice Ak t.kids.length ck, .slice Ah t.hash.length ch] := FB.new hB hgs (Nat.le_refl _)
    refine lp Nat (fun i W => i ≤ 16 ∧ At w W gs ∧ Stp w gs W gs ∧ rightsP even (t.kids.take i) (d + 1) = true) (fun i => [(1, .int .i64 d), (2, .bool even), (7, .int .i64 (0 + manyN (t.kids.take i) : Nat)), (8, .bool true), (20, .slice Ak t.kids.length ck), (21, .int .i64 t.kids.length), (22, .int .i64 i)]) (fun i => 16 - i) 0 ⟨Nat.zero_le _, A1, s1, by simp [rightsP]⟩ ⟨rfl, rfl, rfl, rfl, rfl, rfl, rfl, trivial⟩ ?_
    clear A1 s1
    rintro i E W ⟨hi, A2, s2, hri⟩
    have hml : manyN (t.kids.take i) ≤ 16 := Nat.le_trans (List.length_filter_le _ _) (by rw [List.length_take]; omega)
    refine p_lt rfl rfl (fun hlt => ?_) (fun hge => ?_)
    · obtain ⟨k, hki⟩ : ∃ k, t.kids[i]? = some k := ⟨_, List.getElem?_eq_getElem (by omega)⟩
      have hkm := List.mem_of_getElem? hki
      obtain ⟨b, off, es, rfl, hF, hes, hel, hc⟩ := (r4.up s2).kid hki
      refine p_at sln rfl rfl rfl (by omega) ?_
      refine v_loadN es agg_nd rfl hel hc ?_
      refine v_allocB _ al_nd ?_
      rintro g3 W3 hg3 hB3 hb3 hs3
      refine v_storeA es sz_nd rfl rfl hel (hes.ones (dN_one k)) hB3 rfl ?_
      rintro W4 hB4 hg4 hs4
      rw [hg3] at hb3
      have hb4 : Below W.heap.size W W4 := hb3.grown hg4 (by omega) (fun q hq => by injection hq with hq; omega)
      refine v_loadN es agg_nd rfl hel (hB4.run 0 es (fun j v h => by rw [Nat.zero_add]; exact h)) ?_
      refine p_add rfl rfl (r := ((d + 1 : Nat) : Int)) ((w64 (by omega)).trans (by omega)) ?_
      refine cc is_nright (ih k hkm gs W4 es (d + 1) even (hes.up (Stp.below hb4)) (A2.call hb4).lt (by omega)) ?_
      rintro e W5 ⟨rfl, b5⟩
      refine ⟨_, rfl, ?_⟩
      have A5 := (A2.call hb4).call b5
      have s5 : Stp w gs W5 gs := (s2.trans (Stp.below hb4)).trans (Stp.below b5)
      refine p_not rfl ?_
      have htk : t.kids.take (i + 1) = t.kids.take i ++ [k] := by rw [List.take_add_one, hki]; rfl
      cases hrk : rightP even k (d + 1) with
      | false =>
        refine ⟨?_, A5.below⟩
        rw [rightsP_bad hkm hrk, Bool.false_and, Bool.and_false]; rfl
      | true =>
        have hr2 : rightsP even (t.kids.take (i + 1)) (d + 1) = true := by rw [htk, rightsP_snoc, hri, hrk]; rfl
        obtain ⟨Ap', cp', Av', cv', Ak', ck', Ah', ch', rfl, _⟩ := hes.node
        have hB5 := hB4.below b5
        refine p_fld fN0 rfl ?_
        refine v_load agg_int rfl (hB5.at_ rfl) ?_
        refine p_ne rfl rfl (fun h0 => ?_) (fun h0 => ?_)
        · refine p_add rfl rfl (r := ((i + 1 : Nat) : Int)) ((w64 (by omega)).trans (by omega)) ?_
          refine ⟨i + 1, ⟨by omega, A5, s5, hr2⟩, ⟨rfl, rfl, ?_, rfl, rfl, rfl, rfl, trivial⟩, by omega⟩
          have e : manyN (t.kids.take (i + 1)) = manyN (t.kids.take i) := by unfold manyN; rw [htk, List.filter_append]; simp [h0]
          rw [e]; rfl
        · refine p_add rfl rfl (r := ((0 + manyN (t.kids.take i) + 1 : Nat) : Int)) ((w64 (by omega)).trans (by omega)) ?_
          refine p_add rfl rfl (r := ((i + 1 : Nat) : Int)) ((w64 (by omega)).trans (by omega)) ?_
          refine ⟨i + 1, ⟨by omega, A5, s5, hr2⟩, ⟨rfl, rfl, ?_, rfl, rfl, rfl, rfl, trivial⟩, by omega⟩
          have e : manyN (t.kids.take (i + 1)) = manyN (t.kids.take i) + 1 := by unfold manyN; rw [htk, List.filter_append]; simp [h0]
          rw [e]; rfl
    · have hi16 : i = 16 := by omega
      subst hi16
      have htk : t.kids.take 16 = t.kids := List.take_of_length_le (by omega)
      rw [htk] at hri
      rw [htk]
      refine p_ge rfl rfl (fun h2 => ?_) (fun h2 => ?_)
      · refine ⟨?_, A2.below⟩
        rw [decide_eq_true h16', hri, decide_eq_true (by simp; omega)]; rfl
      · refine ⟨?_, A2.below⟩
        rw [decide_eq_true h16', hri, decide_eq_false (by simp; omega)]; rfl
  | true =>
    rw [hh] at hB
    refine p_add rfl rfl (r := 1) (w64 (by decide)) ?_
    repeat' first
      | (refine p_fld fN0 rfl ?_)
      | (refine p_fld fN1 rfl ?_)
      | (refine p_fld fN2 rfl ?_)
      | (refine p_fld fN3 rfl ?_)
      | (refine p_fld fN4 rfl ?_)
      | (refine p_fld fN5 rfl ?_)
      | (refine v_load agg_int rfl (hB.at_ rfl) ?_)
      | (refine v_load agg_b rfl (hB.at_ rfl) ?_)
      | (refine v_load agg_bo rfl (hB.at_ rfl) ?_)
      | (refine v_load agg_ns rfl (hB.at_ rfl) ?_)
      | (refine p_len slb rfl ?_)
      | (refine p_len sln rfl ?_)
    have A1 : At w W1 gs := (At.start hgs).call hb
    have s1 : Stp w gs W1 gs := Stp.below hb
    have hFB : FB W1 gs w.heap.size 26 [.int .i64 t.kind, .slice Ap t.path.length cp, .bool true, .slice Av t.val.length cv, .slice Ak t.kids.length ck, .slice Ah t.hash.length ch] := FB.new hB hgs (Nat.le_refl _)
    refine lp Nat (fun i W => i ≤ 16 ∧ At w W gs ∧ Stp w gs W gs ∧ rightsP even (t.kids.take i) (d + 1) = true) (fun i => [(1, .int .i64 d), (2, .bool even), (7, .int .i64 (1 + manyN (t.kids.take i) : Nat)), (8, .bool true), (20, .slice Ak t.kids.length ck), (21, .int .i64 t.kids.length), (22, .int .i64 i)]) (fun i => 16 - i) 0 ⟨Nat.zero_le _, A1, s1, by simp [rightsP]⟩ ⟨rfl, rfl, rfl, rfl, rfl, rfl, rfl, trivial⟩ ?_
    clear A1 s1
    rintro i E W ⟨hi, A2, s2, hri⟩
    have hml : manyN (t.kids.take i) ≤ 16 := Nat.le_trans (List.length_filter_le _ _) (by rw [List.length_take]; omega)
    refine p_lt rfl rfl (fun hlt => ?_) (fun hge => ?_)
    · obtain ⟨k, hki⟩ : ∃ k, t.kids[i]? = some k := ⟨_, List.getElem?_eq_getElem (by omega)⟩
      have hkm := List.mem_of_getElem? hki
      obtain ⟨b, off, es, rfl, hF, hes, hel, hc⟩ := (r4.up s2).kid hki
      refine p_at sln rfl rfl rfl (by omega) ?_
      refine v_loadN es agg_nd rfl hel hc ?_
      refine v_allocB _ al_nd ?_
      rintro g3 W3 hg3 hB3 hb3 hs3
      refine v_storeA es sz_nd rfl rfl hel (hes.ones (dN_one k)) hB3 rfl ?_
      rintro W4 hB4 hg4 hs4
      rw [hg3] at hb3
      have hb4 : Below W.heap.size W W4 := hb3.grown hg4 (by omega) (fun q hq => by injection hq with hq; omega)
      refine v_loadN es agg_nd rfl hel (hB4.run 0 es (fun j v h => by rw [Nat.zero_add]; exact h)) ?_
      refine p_add rfl rfl (r := ((d + 1 : Nat) : Int)) ((w64 (by omega)).trans (by omega)) ?_
      refine cc is_nright (ih k hkm gs W4 es (d + 1) even (hes.up (Stp.below hb4)) (A2.call hb4).lt (by omega)) ?_
      rintro e W5 ⟨rfl, b5⟩
      refine ⟨_, rfl, ?_⟩
      have A5 := (A2.call hb4).call b5
      have s5 : Stp w gs W5 gs := (s2.trans (Stp.below hb4)).trans (Stp.below b5)
      refine p_not rfl ?_
      have htk : t.kids.take (i + 1) = t.kids.take i ++ [k] := by rw [List.take_add_one, hki]; rfl
      cases hrk : rightP even k (d + 1) with
      | false =>
        refine ⟨?_, A5.below⟩
        rw [rightsP_bad hkm hrk, Bool.false_and, Bool.and_false]; rfl
      | true =>
        have hr2 : rightsP even (t.kids.take (i + 1)) (d + 1) = true := by rw [htk, rightsP_snoc, hri, hrk]; rfl
        obtain ⟨Ap', cp', Av', cv', Ak', ck', Ah', ch', rfl, _⟩ := hes.node
        have hB5 := hB4.below b5
        refine p_fld fN0 rfl ?_
        refine v_load agg_int rfl (hB5.at_ rfl) ?_
        refine p_ne rfl rfl (fun h0 => ?_) (fun h0 => ?_)
        · refine p_add rfl rfl (r := ((i + 1 : Nat) : Int)) ((w64 (by omega)).trans (by omega)) ?_
          refine ⟨i + 1, ⟨by omega, A5, s5, hr2⟩, ⟨rfl, rfl, ?_, rfl, rfl, rfl, rfl, trivial⟩, by omega⟩
          have e : manyN (t.kids.take (i + 1)) = manyN (t.kids.take i) := by unfold manyN; rw [htk, List.filter_append]; simp [h0]
          rw [e]; rfl
        · refine p_add rfl rfl (r := ((1 + manyN (t.kids.take i) + 1 : Nat) : Int)) ((w64 (by omega)).trans (by omega)) ?_
          refine p_add rfl rfl (r := ((i + 1 : Nat) : Int)) ((w64 (by omega)).trans (by omega)) ?_
          refine ⟨i + 1, ⟨by omega, A5, s5, hr2⟩, ⟨rfl, rfl, ?_, rfl, rfl, rfl, rfl, trivial⟩, by omega⟩
          have e : manyN (t.kids.take (i + 1)) = manyN (t.kids.take i) + 1 := by unfold manyN; rw [htk, List.filter_append]; simp [h0]
          rw [e]; rfl
    · have hi16 : i = 16 := by omega
      subst hi16
      have htk : t.kids.take 16 = t.kids := List.take_of_length_le (by omega)
      rw [htk] at hri
      rw [htk]
      refine p_ge rfl rfl (fun h2 => ?_) (fun h2 => ?_)
      · refine ⟨?_, A2.below⟩
        rw [decide_eq_true h16', hri, decide_eq_true (by simp; omega)]; rfl
      · refine ⟨?_, A2.below⟩
        rw [decide_eq_true h16', hri, decide_eq_false (by simp; omega)]; rfl
theorem bare0 {t : Nd} (h : t.kind = 0) : bareP t false false false false = decide (t.path.length = 0 ∧ t.val.length = 0 ∧ t.kids.length = 0 ∧ t.hash.length = 0 ∧ t.has = false) := by
  unfold bareP; exact decide_eq_decide.2 (by grind)
theorem bare1 {t : Nd} (h : t.kind = 1) : bareP t true true false false = decide (t.kids.length = 0 ∧ t.hash.length = 0 ∧ t.has = false) := by
  unfold bareP; exact decide_eq_decide.2 (by grind)
theorem bare4 {t : Nd} (h : t.kind = 4) : bareP t false false false true = decide (t.path.length = 0 ∧ t.val.length = 0 ∧ t.kids.length = 0 ∧ t.has = false) := by
  unfold bareP; exact decide_eq_decide.2 (by grind)
theorem bare2 {t : Nd} (h : t.kind = 2) : bareP t true false true false = decide (t.val.length = 0 ∧ t.hash.length = 0 ∧ t.has = false) := by
  unfold bareP; exact decide_eq_decide.2 (by grind)
theorem bare3 {t : Nd} (h : t.kind = 3) : bareP t false t.has true false = decide (t.path.length = 0 ∧ t.hash.length = 0 ∧ (t.has = true ∨ t.val.length = 0)) := by
  unfold bareP; exact decide_eq_decide.2 (by grind)
set_option maxRecDepth 100000 in
set_option maxHeartbeats 1000000 in
theorem nright_step (N : Nat) (ih : ∀ k : Nd, sz k < N → RightOk k) (t : Nd) (ht : sz t ≤ N) (hN : N ≤ 100000000) : RightOk t := by
  intro gs w cs d even hr hgs hd
  refine calls_ev (args := [.agg cs.toArray, .int .i64 d, .bool even]) mixed Tryd.func71 rfl (by kernel_rfl) ?_
  obtain ⟨Ap, cp, Av, cv, Ak, ck, Ah, ch, rfl, r1, r3, r4, r5⟩ := hr.node
  have hsz := sz_eq t
  have hsl := szs_len t.kids
  refine v_boxB (ncs t Ap cp Av cv Ak ck Ah ch) rfl ?_
  rintro g W1 hg hB hb hs1
  subst hg
  have hBn := hB
  unfold ncs at hB
  have A1 : At w W1 gs := (At.start hgs).call hb
  have s1 : Stp w gs W1 gs := Stp.below hb
  have hr1 := hr.up s1
  obtain ⟨_, _, hrp⟩ := (r1.up s1).rd Fd.lt
  refine p_gt rfl rfl (fun hd4 => ?_) (fun hd4 => ?_)
  · exact ⟨by rw [rightP_eq, ownP, decide_eq_false (by omega)]; rfl, hb⟩
  repeat' first
    | (refine p_fld fN0 rfl ?_)
    | (refine p_fld fN1 rfl ?_)
    | (refine p_fld fN2 rfl ?_)
    | (refine p_fld fN3 rfl ?_)
    | (refine p_fld fN4 rfl ?_)
    | (refine p_fld fN5 rfl ?_)
    | (refine v_load agg_int rfl (hB.at_ rfl) ?_)
    | (refine v_load agg_b rfl (hB.at_ rfl) ?_)
    | (refine v_load agg_bo rfl (hB.at_ rfl) ?_)
    | (refine v_load agg_ns rfl (hB.at_ rfl) ?_)
    | (refine p_len slb rfl ?_)
    | (refine p_len sln rfl ?_)
  refine p_gt rfl rfl (fun hv => ?_) (fun hv => ?_)
  · exact ⟨by rw [rightP_eq, ownP, decide_eq_false (show ¬ t.val.length ≤ 4000 by omega), Bool.false_and, Bool.and_false]; rfl, hb⟩
  repeat' first
    | (refine p_fld fN0 rfl ?_)
    | (refine p_fld fN1 rfl ?_)
    | (refine p_fld fN2 rfl ?_)
    | (refine p_fld fN3 rfl ?_)
    | (refine p_fld fN4 rfl ?_)
    | (refine p_fld fN5 rfl ?_)
    | (refine v_load agg_int rfl (hB.at_ rfl) ?_)
    | (refine v_load agg_b rfl (hB.at_ rfl) ?_)
    | (refine v_load agg_bo rfl (hB.at_ rfl) ?_)
    | (refine v_load agg_ns rfl (hB.at_ rfl) ?_)
    | (refine p_len slb rfl ?_)
    | (refine p_len sln rfl ?_)
  refine cc is_nh (nhalves_any Ap t.path.length cp _ t.path W1 hrp (by omega)) ?_
  rintro e W' ⟨rfl, rfl⟩
  refine ⟨_, rfl, ?_⟩
  refine p_not rfl ?_
  have hX : rightP even t d = ownP even t.kind t.path t.has t.val t.kids t.hash d (rightsP even t.kids) := rightP_eq even t d
  unfold ownP at hX
  rw [decide_eq_true (show d ≤ 400 by omega), decide_eq_true (show t.val.length ≤ 4000 by omega), Bool.true_and, Bool.true_and] at hX
  cases hh : halvesB t.path with
  | false =>
    rw [hh] at hX
    exact ⟨by rw [hX]; rfl, hb⟩
  | true =>
  rw [hh, Bool.true_and] at hX
  repeat' first
    | (refine p_fld fN0 rfl ?_)
    | (refine p_fld fN1 rfl ?_)
    | (refine p_fld fN2 rfl ?_)
    | (refine p_fld fN3 rfl ?_)
    | (refine p_fld fN4 rfl ?_)
    | (refine p_fld fN5 rfl ?_)
    | (refine v_load agg_int rfl (hB.at_ rfl) ?_)
    | (refine v_load agg_b rfl (hB.at_ rfl) ?_)
    | (refine v_load agg_bo rfl (hB.at_ rfl) ?_)
    | (refine v_load agg_ns rfl (hB.at_ rfl) ?_)
    | (refine p_len slb rfl ?_)
    | (refine p_len sln rfl ?_)
  refine p_eq rfl rfl (fun h0 => ?_) (fun h0 => ?_)
  · rw [if_pos h0] at hX
    refine v_loadN (ncs t Ap cp Av cv Ak ck Ah ch) agg_nd rfl rfl (hBn.run 0 _ (fun j v h => by rw [Nat.zero_add]; exact h)) ?_
    refine cc is_bare (bare_any t Ap cp Av cv Ak ck Ah ch _ _ _ _ W1 (by decide)) ?_
    rintro e W2 ⟨rfl, b2⟩
    refine ⟨_, rfl, ?_⟩
    refine ⟨?_, hb.trans (b2.mono hb.size)⟩
    rw [hX, bare0 h0]; rfl
  rw [if_neg h0] at hX
  refine p_eq rfl rfl (fun h1 => ?_) (fun h1 => ?_)
  · rw [if_pos h1] at hX
    refine v_loadN (ncs t Ap cp Av cv Ak ck Ah ch) agg_nd rfl rfl (hBn.run 0 _ (fun j v h => by rw [Nat.zero_add]; exact h)) ?_
    refine cc is_bare (bare_any t Ap cp Av cv Ak ck Ah ch _ _ _ _ W1 (by decide)) ?_
    rintro e W2 ⟨rfl, b2⟩
    refine ⟨_, rfl, ?_⟩
    rw [bare1 h1]
    have hb2 := hb.trans (b2.mono hb.size)
    cases hq : decide (t.kids.length = 0 ∧ t.hash.length = 0 ∧ t.has = false) with
    | false => exact ⟨by rw [hX, hq]; rfl, hb2⟩
    | true =>
      replace hB := hB.below b2
      repeat' first
        | (refine p_fld fN0 rfl ?_)
        | (refine p_fld fN1 rfl ?_)
        | (refine p_fld fN2 rfl ?_)
        | (refine p_fld fN3 rfl ?_)
        | (refine p_fld fN4 rfl ?_)
        | (refine p_fld fN5 rfl ?_)
        | (refine v_load agg_int rfl (hB.at_ rfl) ?_)
        | (refine v_load agg_b rfl (hB.at_ rfl) ?_)
        | (refine v_load agg_bo rfl (hB.at_ rfl) ?_)
        | (refine v_load agg_ns rfl (hB.at_ rfl) ?_)
        | (refine p_len slb rfl ?_)
        | (refine p_len sln rfl ?_)
      refine p_add rfl rfl (r := ((d + t.path.length : Nat) : Int)) ((w64 (by omega)).trans (by omega)) ?_
      refine cc is_ends (ends_any (d + t.path.length) even W2) ?_
      rintro e W3 ⟨rfl, rfl⟩
      refine ⟨_, rfl, ?_⟩
      exact ⟨by rw [hX, hq]; rfl, hb2⟩
  rw [if_neg h1] at hX
  refine p_eq rfl rfl (fun h4 => ?_) (fun h4 => ?_)
  · rw [if_pos h4] at hX
    refine v_loadN (ncs t Ap cp Av cv Ak ck Ah ch) agg_nd rfl rfl (hBn.run 0 _ (fun j v h => by rw [Nat.zero_add]; exact h)) ?_
    refine cc is_bare (bare_any t Ap cp Av cv Ak ck Ah ch _ _ _ _ W1 (by decide)) ?_
    rintro e W2 ⟨rfl, b2⟩
    refine ⟨_, rfl, ?_⟩
    rw [bare4 h4]
    have hb2 := hb.trans (b2.mono hb.size)
    cases hq : decide (t.path.length = 0 ∧ t.val.length = 0 ∧ t.kids.length = 0 ∧ t.has = false) with
    | false =>
      have := of_decide_eq_false hq
      exact ⟨by rw [hX, decide_eq_false (fun h => this ⟨h.1, h.2.1, h.2.2.1, h.2.2.2.1⟩)]; rfl, hb2⟩
    | true =>
      have := of_decide_eq_true hq
      replace hB := hB.below b2
      repeat' first
        | (refine p_fld fN0 rfl ?_)
        | (refine p_fld fN1 rfl ?_)
        | (refine p_fld fN2 rfl ?_)
        | (refine p_fld fN3 rfl ?_)
        | (refine p_fld fN4 rfl ?_)
        | (refine p_fld fN5 rfl ?_)
        | (refine v_load agg_int rfl (hB.at_ rfl) ?_)
        | (refine v_load agg_b rfl (hB.at_ rfl) ?_)
        | (refine v_load agg_bo rfl (hB.at_ rfl) ?_)
        | (refine v_load agg_ns rfl (hB.at_ rfl) ?_)
        | (refine p_len slb rfl ?_)
        | (refine p_len sln rfl ?_)
      refine p_eq rfl rfl (fun h5 => ?_) (fun h5 => ?_)
      · exact ⟨by rw [hX, decide_eq_true ⟨this.1, this.2.1, this.2.2.1, this.2.2.2, by omega⟩]; rfl, hb2⟩
      · exact ⟨by rw [hX, decide_eq_false (fun h => h5 (by rw [h.2.2.2.2]; rfl))]; rfl, hb2⟩
  rw [if_neg h4] at hX
  refine p_eq rfl rfl (fun h2 => ?_) (fun h2 => ?_)
  · rw [if_pos h2] at hX
    refine v_loadN (ncs t Ap cp Av cv Ak ck Ah ch) agg_nd rfl rfl (hBn.run 0 _ (fun j v h => by rw [Nat.zero_add]; exact h)) ?_
    refine cc is_bare (bare_any t Ap cp Av cv Ak ck Ah ch _ _ _ _ W1 (by decide)) ?_
    rintro e W2 ⟨rfl, b2⟩
    refine ⟨_, rfl, ?_⟩
    rw [bare2 h2]
    have hb2 := hb.trans (b2.mono hb.size)
    refine p_not rfl ?_
    cases hq : decide (t.val.length = 0 ∧ t.hash.length = 0 ∧ t.has = false) with
    | false =>
      have := of_decide_eq_false hq
      exact ⟨by rw [hX, decide_eq_false (fun h => this ⟨h.1, h.2.1, h.2.2.1⟩)]; rfl, hb2⟩
    | true =>
      have hq' := of_decide_eq_true hq
      have A2 := A1.call b2
      have s2 : Stp w gs W2 gs := s1.trans (Stp.below b2)
      replace hBn := hBn.below b2
      replace hB := hB.below b2
      repeat' first
        | (refine p_fld fN0 rfl ?_)
        | (refine p_fld fN1 rfl ?_)
        | (refine p_fld fN2 rfl ?_)
        | (refine p_fld fN3 rfl ?_)
        | (refine p_fld fN4 rfl ?_)
        | (refine p_fld fN5 rfl ?_)
        | (refine v_load agg_int rfl (hB.at_ rfl) ?_)
        | (refine v_load agg_b rfl (hB.at_ rfl) ?_)
        | (refine v_load agg_bo rfl (hB.at_ rfl) ?_)
        | (refine v_load agg_ns rfl (hB.at_ rfl) ?_)
        | (refine p_len slb rfl ?_)
        | (refine p_len sln rfl ?_)
      refine p_eq rfl rfl (fun h5 => ?_) (fun h5 => ?_)
      · exact ⟨by rw [hX, decide_eq_false (fun h => h.2.2.2.1 (by omega))]; rfl, hb2⟩
      repeat' first
        | (refine p_fld fN0 rfl ?_)
        | (refine p_fld fN1 rfl ?_)
        | (refine p_fld fN2 rfl ?_)
        | (refine p_fld fN3 rfl ?_)
        | (refine p_fld fN4 rfl ?_)
        | (refine p_fld fN5 rfl ?_)
        | (refine v_load agg_int rfl (hB.at_ rfl) ?_)
        | (refine v_load agg_b rfl (hB.at_ rfl) ?_)
        | (refine v_load agg_bo rfl (hB.at_ rfl) ?_)
        | (refine v_load agg_ns rfl (hB.at_ rfl) ?_)
        | (refine p_len slb rfl ?_)
        | (refine p_len sln rfl ?_)
      refine p_ne rfl rfl (fun h6 => ?_) (fun h6 => ?_)
      rotate_left
      · exact ⟨by rw [hX, decide_eq_false (fun h => h6 (by rw [h.2.2.2.2]; rfl))]; rfl, hb2⟩
      rw [decide_eq_true ⟨hq'.1, hq'.2.1, hq'.2.2, by omega, by omega⟩, Bool.true_and] at hX
      obtain ⟨k, hk⟩ : ∃ k, t.kids = [k] := by
        have h7 : t.kids.length = 1 := by omega
        match hks : t.kids, h7 with
        | [k], _ => exact ⟨k, rfl⟩
      have hki : t.kids[0]? = some k := by rw [hk]; rfl
      have hkm : k ∈ t.kids := by rw [hk]; simp
      have hkz := szs_mem hkm
      repeat' first
        | (refine p_fld fN0 rfl ?_)
        | (refine p_fld fN1 rfl ?_)
        | (refine p_fld fN2 rfl ?_)
        | (refine p_fld fN3 rfl ?_)
        | (refine p_fld fN4 rfl ?_)
        | (refine p_fld fN5 rfl ?_)
        | (refine v_load agg_int rfl (hB.at_ rfl) ?_)
        | (refine v_load agg_b rfl (hB.at_ rfl) ?_)
        | (refine v_load agg_bo rfl (hB.at_ rfl) ?_)
        | (refine v_load agg_ns rfl (hB.at_ rfl) ?_)
        | (refine p_len slb rfl ?_)
        | (refine p_len sln rfl ?_)
      obtain ⟨b, off, es, rfl, hF, hes, hel, hc⟩ := (r4.up s2).kid hki
      refine p_at (i := 0) sln rfl rfl rfl (by omega) ?_
      refine v_loadN es agg_nd rfl hel hc ?_
      refine v_allocB _ al_nd ?_
      rintro g3 W3 hg3 hB3 hb3 hs3
      refine v_storeA es sz_nd rfl rfl hel (hes.ones (dN_one k)) hB3 rfl ?_
      rintro W4 hB4 hg4 hs4
      rw [hg3] at hb3
      have hb4 : Below W2.heap.size W2 W4 := hb3.grown hg4 (by omega) (fun q hq => by injection hq with hq; omega)
      have hB' := hB.below hb4
      have hes4 := hes.up (Stp.below hb4)
      have A4 := A2.call hb4
      obtain ⟨Ap', cp', Av', cv', Ak', ck', Ah', ch', rfl, _⟩ := hes.node
      refine p_fld fN0 rfl ?_
      refine v_load agg_int rfl (hB4.at_ rfl) ?_
      have hbk : rightsP even t.kids (d + t.path.length) = rightP even k (d + t.path.length) := by rw [hk, rightsP, rightsP, Bool.and_true]
      refine p_eq rfl rfl (fun h8 => ?_) (fun h8 => ?_)
      ·
        refine v_loadN (ncs k Ap' cp' Av' cv' Ak' ck' Ah' ch') agg_nd rfl hel (hB4.run 0 _ (fun j v h => by rw [Nat.zero_add]; exact h)) ?_
        refine p_fld fN1 rfl ?_
        refine v_load agg_b rfl (hB'.at_ rfl) ?_
        refine p_len slb rfl ?_
        refine p_add rfl rfl (r := ((d + t.path.length : Nat) : Int)) ((w64 (by omega)).trans (by omega)) ?_
        refine cc is_nright (ih k (by omega) gs W4 _ (d + t.path.length) even hes4 A4.lt (by omega)) ?_
        rintro e W5 ⟨rfl, b5⟩
        refine ⟨_, rfl, ?_⟩
        have hkk : kindsB t.kids = true := by rw [hk]; unfold kindsB; rw [List.all_cons, decide_eq_true (by omega)]; rfl
        rw [hkk, hbk, Bool.true_and] at hX
        exact ⟨by rw [hX]; rfl, A4.below.trans (b5.mono A4.size)⟩
      · refine p_fld fN0 rfl ?_
        refine v_load agg_int rfl (hB4.at_ rfl) ?_
        refine p_eq rfl rfl (fun h9 => ?_) (fun h9 => ?_)
        ·
          refine v_loadN (ncs k Ap' cp' Av' cv' Ak' ck' Ah' ch') agg_nd rfl hel (hB4.run 0 _ (fun j v h => by rw [Nat.zero_add]; exact h)) ?_
          refine p_fld fN1 rfl ?_
          refine v_load agg_b rfl (hB'.at_ rfl) ?_
          refine p_len slb rfl ?_
          refine p_add rfl rfl (r := ((d + t.path.length : Nat) : Int)) ((w64 (by omega)).trans (by omega)) ?_
          refine cc is_nright (ih k (by omega) gs W4 _ (d + t.path.length) even hes4 A4.lt (by omega)) ?_
          rintro e W5 ⟨rfl, b5⟩
          refine ⟨_, rfl, ?_⟩
          have hkk : kindsB t.kids = true := by rw [hk]; unfold kindsB; rw [List.all_cons, decide_eq_true (by omega)]; rfl
          rw [hkk, hbk, Bool.true_and] at hX
          exact ⟨by rw [hX]; rfl, A4.below.trans (b5.mono A4.size)⟩
        · have hkk : kindsB t.kids = false := by rw [hk]; unfold kindsB; rw [List.all_cons, decide_eq_false (by omega)]; rfl
          rw [hkk] at hX
          exact ⟨by rw [hX]; rfl, A4.below⟩
  rw [if_neg h2] at hX
  refine p_eq rfl rfl (fun h3 => ?_) (fun h3 => ?_)
  · rw [if_pos h3] at hX
    refine v_loadN (ncs t Ap cp Av cv Ak ck Ah ch) agg_nd rfl rfl (hBn.run 0 _ (fun j v h => by rw [Nat.zero_add]; exact h)) ?_
    repeat' first
      | (refine p_fld fN0 rfl ?_)
      | (refine p_fld fN1 rfl ?_)
      | (refine p_fld fN2 rfl ?_)
      | (refine p_fld fN3 rfl ?_)
      | (refine p_fld fN4 rfl ?_)
      | (refine p_fld fN5 rfl ?_)
      | (refine v_load agg_int rfl (hB.at_ rfl) ?_)
      | (refine v_load agg_b rfl (hB.at_ rfl) ?_)
      | (refine v_load agg_bo rfl (hB.at_ rfl) ?_)
      | (refine v_load agg_ns rfl (hB.at_ rfl) ?_)
      | (refine p_len slb rfl ?_)
      | (refine p_len sln rfl ?_)
    refine cc is_bare (bare_any t Ap cp Av cv Ak ck Ah ch _ _ _ _ W1 (by cases t.has <;> decide)) ?_
    rintro e W2 ⟨rfl, b2⟩
    refine ⟨_, rfl, ?_⟩
    rw [bare3 h3]
    have hb2 := hb.trans (b2.mono hb.size)
    cases hq : decide (t.path.length = 0 ∧ t.hash.length = 0 ∧ (t.has = true ∨ t.val.length = 0)) with
    | false => exact ⟨by rw [hX, hq]; rfl, hb2⟩
    | true =>
      rw [hq, Bool.true_and] at hX
      have A2 := A1.call b2
      have s2 : Stp w gs W2 gs := s1.trans (Stp.below b2)
      replace hBn := hBn.below b2
      replace hB := hB.below b2
      have hbr := branch_any t (fun k hk => ih k (by have := szs_mem hk; omega)) (by omega) gs W2 _ d even (hr.up s2) A2.lt (by omega)
      repeat' first
        | (refine p_fld fN0 rfl ?_)
        | (refine p_fld fN1 rfl ?_)
        | (refine p_fld fN2 rfl ?_)
        | (refine p_fld fN3 rfl ?_)
        | (refine p_fld fN4 rfl ?_)
        | (refine p_fld fN5 rfl ?_)
        | (refine v_load agg_int rfl (hB.at_ rfl) ?_)
        | (refine v_load agg_b rfl (hB.at_ rfl) ?_)
        | (refine v_load agg_bo rfl (hB.at_ rfl) ?_)
        | (refine v_load agg_ns rfl (hB.at_ rfl) ?_)
        | (refine p_len slb rfl ?_)
        | (refine p_len sln rfl ?_)
      refine p_not rfl ?_
      cases hhas : t.has with
      | false =>
        rw [hhas] at hX
        refine v_loadN (ncs t Ap cp Av cv Ak ck Ah ch) agg_nd rfl rfl (hBn.run 0 _ (fun j v h => by rw [Nat.zero_add]; exact h)) ?_
        refine cc is_nbranch hbr ?_
        rintro e W5 ⟨rfl, b5⟩
        refine ⟨_, rfl, ?_⟩
        exact ⟨by rw [hX, hhas]; rfl, A2.below.trans (b5.mono A2.size)⟩
      | true =>
        rw [hhas] at hX
        refine cc is_ends (ends_any d even W2) ?_
        rintro e W3 ⟨rfl, rfl⟩
        refine ⟨_, rfl, ?_⟩
        cases hen : endsP d even with
        | false => exact ⟨by rw [hX, hen]; rfl, A2.below⟩
        | true =>
          refine v_loadN (ncs t Ap cp Av cv Ak ck Ah ch) agg_nd rfl rfl (hBn.run 0 _ (fun j v h => by rw [Nat.zero_add]; exact h)) ?_
          refine cc is_nbranch hbr ?_
          rintro e W5 ⟨rfl, b5⟩
          refine ⟨_, rfl, ?_⟩
          exact ⟨by rw [hX, hen, hhas]; rfl, A2.below.trans (b5.mono A2.size)⟩
  rw [if_neg h3] at hX
  exact ⟨by rw [hX]; rfl, hb⟩
theorem nright_any : ∀ (N : Nat), N ≤ 100000000 → ∀ t : Nd, sz t < N → RightOk t
  | 0, _, t, h => by omega
  | N + 1, hN, t, h => nright_step N (fun k hk => nright_any N (by omega) k hk) t (by omega) (by omega)
end Go.Proofs.YtojjfkbffjkojaaDoor
namespace Go.Proofs.YtojjfkbffjkojaaDoor
open Go.RowKit
theorem is_ncheck : isFn Tryd.prog 35 = true := by kernel_rfl
def checkE (t : Nd) : Int := if rightP true t 0 then 0 else 2
set_option maxRecDepth 100000 in
theorem ncheck_any (t : Nd) (ht : sz t ≤ 10000000) (gs : List (Option Nat)) (w : World) (cs : List Value) (hr : RdL w (Fd w gs) (dN t) cs) (hgs : ∀ b, some b ∈ gs → b < w.heap.size) :
    Calls Tryd.prog 35 #[.agg cs.toArray] w fun e w' => e = .returned (.int .i64 (checkE t)) ∧ Below w.heap.size w w' := by
  refine calls_ev (args := [.agg cs.toArray]) mixed Tryd.func35 rfl (by kernel_rfl) ?_
  have hl := hr.len
  rw [dN_len] at hl
  refine v_boxB cs rfl ?_
  rintro g W1 hg hB hb hs1
  subst hg
  refine v_loadN cs agg_nd rfl hl (hB.run 0 _ (fun j v h => by rw [Nat.zero_add]; exact h)) ?_
  refine cc is_nright (nright_any 100000000 (by decide) t (by omega) gs W1 cs 0 true (hr.up (Stp.below hb)) (fun b e => by have := hgs b e; have := hb.size; omega) (by decide)) ?_
  rintro e W2 ⟨rfl, b2⟩
  refine ⟨_, rfl, ?_⟩
  have C := hb.trans (b2.mono hb.size)
  refine p_not rfl ?_
  cases h : rightP true t 0 with
  | false => exact ⟨by unfold checkE; rw [h]; rfl, C⟩
  | true => exact ⟨by unfold checkE; rw [h]; rfl, C⟩
theorem inf_nd : (Tryd.prog.info? 26).map (fun i => (i.zero, i.size, i.bytes)) = some (some (.agg #[.int .i64 0, .slice none 0 0, .bool false, .slice none 0 0, .slice none 0 0, .slice none 0 0]), 6, 112) := by kernel_rfl
def zN : List Value := [.int .i64 0, .slice none 0 0, .bool false, .slice none 0 0, .slice none 0 0, .slice none 0 0]
theorem pl_nd : placesOf Tryd.prog 26 = some [(0, 1), (1, 1), (2, 1), (3, 1), (4, 1), (5, 1)] := by kernel_rfl
theorem z_nd : zeroOf Tryd.prog 26 = some zN := by kernel_rfl
end Go.Proofs.YtojjfkbffjkojaaDoor
namespace Go.Proofs.YtojjfkbffjkojaaDoor
theorem rightsP_all {even : Bool} {d : Nat} : ∀ {ks : List Nd}, rightsP even ks d = true → ∀ k ∈ ks, rightP even k d = true
  | [], _, k, h => by cases h
  | x :: ks, hr, k, h => by
    rw [rightsP, Bool.and_eq_true] at hr
    rcases List.mem_cons.1 h with rfl | h
    · exact hr.1
    · exact rightsP_all hr.2 k h
theorem rightsP_of {even : Bool} {d : Nat} : ∀ {ks : List Nd}, (∀ k ∈ ks, rightP even k d = true) → rightsP even ks d = true
  | [], _ => rfl
  | x :: ks, h => by rw [rightsP, h x (by simp), rightsP_of (fun k hk => h k (by simp [hk]))]; rfl
/-- The kinds of nodes that may be. -/
inductive Val (even : Bool) : Nd → Nat → Prop
  | none (d : Nat) (hd : d ≤ 400) : Val even noneN d
  | leaf (d : Nat) (p v : List UInt8) (hd : d ≤ 400) (hp : halvesB p = true) (hv : v.length ≤ 4000) (he : endsP (d + p.length) even = true) : Val even (.mk 1 p false v [] []) d
  | stub (d : Nat) (h : List UInt8) (hd : d ≤ 400) (hh : h.length = 32) : Val even (.mk 4 [] false [] [] h) d
  | way (d : Nat) (p : List UInt8) (k : Nd) (hd : d ≤ 400) (hp : halvesB p = true) (h0 : p ≠ []) (hk : k.kind = 3 ∨ k.kind = 4) (hr : Val even k (d + p.length)) : Val even (.mk 2 p false [] [k] []) d
  | branch (d : Nat) (has : Bool) (v : List UInt8) (ks : List Nd) (hd : d ≤ 400) (hv : v.length ≤ 4000) (hv0 : has = true ∨ v = []) (he : has = true → endsP d even = true) (h16 : ks.length = 16) (hr : ∀ k ∈ ks, Val even k (d + 1)) (hm : 2 ≤ (if has then 1 else 0) + manyN ks) : Val even (.mk 3 [] has v ks []) d
theorem nil_of_len {α : Type} {l : List α} (h : l.length = 0) : l = [] := List.eq_nil_of_length_eq_zero h
theorem val_of_right (even : Bool) : ∀ (N : Nat) (t : Nd) (d : Nat), sz t < N → rightP even t d = true → Val even t d
  | 0, t, d, h, _ => by omega
  | N + 1, t, d, hN, h => by
    have hsz := sz_eq t
    rw [rightP_eq] at h
    obtain ⟨k, p, has, v, ks, hs⟩ := t
    simp only [Nd.kind, Nd.path, Nd.has, Nd.val, Nd.kids, Nd.hash] at h hsz
    unfold ownP at h
    simp only [Bool.and_eq_true, decide_eq_true_eq] at h
    obtain ⟨hd, hv, hp, h⟩ := h
    by_cases h0 : k = 0
    · rw [if_pos h0] at h
      have h := of_decide_eq_true h
      obtain ⟨e1, e2, e3, e4, e5⟩ := h
      rw [nil_of_len e1, nil_of_len e2, nil_of_len e3, nil_of_len e4, e5, h0]
      exact .none d hd
    rw [if_neg h0] at h
    by_cases h1 : k = 1
    · rw [if_pos h1] at h
      simp only [Bool.and_eq_true, decide_eq_true_eq] at h
      obtain ⟨⟨e3, e4, e5⟩, he⟩ := h
      rw [nil_of_len e3, nil_of_len e4, e5, h1]
      exact .leaf d p v hd hp hv he
    rw [if_neg h1] at h
    by_cases h4 : k = 4
    · rw [if_pos h4] at h
      have h := of_decide_eq_true h
      obtain ⟨e1, e2, e3, e5, e6⟩ := h
      rw [nil_of_len e1, nil_of_len e2, nil_of_len e3, e5, h4]
      exact .stub d hs hd e6
    rw [if_neg h4] at h
    by_cases h2 : k = 2
    · rw [if_pos h2] at h
      simp only [Bool.and_eq_true, decide_eq_true_eq] at h
      obtain ⟨⟨e2, e4, e5, e1, e3⟩, hk, hr⟩ := h
      match ks, e3 with
      | [k0], _ =>
        rw [rightsP, rightsP, Bool.and_true] at hr
        have hz : szs [k0] = sz k0 := by rw [szs, szs]; omega
        rw [nil_of_len e2, nil_of_len e4, e5, h2]
        refine .way d p k0 hd hp (fun e => e1 (by rw [e]; rfl)) ?_ (val_of_right even N k0 _ (by omega) hr)
        unfold kindsB at hk
        rw [List.all_cons, Bool.and_eq_true, decide_eq_true_eq] at hk
        exact hk.1
    rw [if_neg h2] at h
    by_cases h3 : k = 3
    · rw [if_pos h3] at h
      simp only [Bool.and_eq_true, decide_eq_true_eq, Bool.or_eq_true, Bool.not_eq_true'] at h
      obtain ⟨⟨e1, e4, e5⟩, he, h16, hr, hm⟩ := h
      rw [nil_of_len e1, nil_of_len e4, h3]
      refine .branch d has v ks hd hv (e5.imp id nil_of_len) (fun e => by rcases he with he | he; rw [e] at he; cases he; exact he) h16 (fun k hk => val_of_right even N k _ (by have := szs_mem hk; omega) (rightsP_all hr k hk)) hm
    · rw [if_neg h3] at h; cases h
theorem right_of_val {even : Bool} {t : Nd} {d : Nat} (h : Val even t d) : rightP even t d = true := by
  induction h with
  | none d hd => rw [noneN, rightP]; unfold ownP; rw [decide_eq_true hd]; rfl
  | leaf d p v hd hp hv he => rw [rightP]; unfold ownP; rw [decide_eq_true hd, hp, decide_eq_true hv, if_neg (by decide), if_pos rfl, he]; rfl
  | stub d h hd hh => simp [rightP, ownP, halvesB, hd, hh]
  | way d p k hd hp h0 hk hr ih =>
    have hp0 : p.length ≠ 0 := fun e => h0 (nil_of_len e)
    rcases hk with hk | hk <;> simp [rightP, ownP, rightsP, ih, kindsB, hk, hp, hd, h0]
  | branch d has v ks hd hv hv0 he h16 hr hm ih =>
    rw [rightP]; unfold ownP
    rw [decide_eq_true hd, decide_eq_true hv, if_neg (by decide), if_neg (by decide), if_neg (by decide), if_neg (by decide), if_pos rfl, rightsP_of ih, decide_eq_true hm, decide_eq_true h16, decide_eq_true ⟨rfl, rfl, hv0.imp id (fun e => by rw [e]; rfl)⟩]
    cases has with
    | false => rfl
    | true => rw [he rfl]; rfl
/-- What a look comes to: what stands there; is there something; the halves to a stub that is in the way. -/
structure GotN where
  v : List UInt8
  has : Bool
  miss : Option (List UInt8)
mutual
def getP : Nd → List UInt8 → GotN
  | .mk k p has v ks _, q =>
    if k = 4 then ⟨[], false, some []⟩
    else if k = 1 then ⟨v, decide (p = q), none⟩
    else if k = 2 then (if p <+: q then (let g := getsP ks 0 (q.drop p.length); ⟨g.v, g.has, g.miss.map (p ++ ·)⟩) else ⟨[], false, none⟩)
    else if k = 3 then (match q with
      | [] => ⟨v, has, none⟩
      | x :: q' => (let g := getsP ks x.toNat q'; ⟨g.v, g.has, g.miss.map (x :: ·)⟩))
    else ⟨[], false, none⟩
def getsP : List Nd → Nat → List UInt8 → GotN
  | [], _, _ => ⟨[], false, none⟩
  | t :: _, 0, q => getP t q
  | _ :: ts, i + 1, q => getsP ts i q
end
theorem getsP_at : ∀ {ks : List Nd} {i : Nat} {k : Nd} (q : List UInt8), ks[i]? = some k → getsP ks i q = getP k q
  | t :: ks, 0, k, q, h => by simp at h; subst h; rw [getsP]
  | t :: ks, i + 1, k, q, h => by rw [getsP]; exact getsP_at q (by simpa using h)
theorem getP_way0 {p q : List UInt8} {k : Nd} (h : ¬ p <+: q) : getP (.mk 2 p false [] [k] []) q = ⟨[], false, none⟩ := by unfold getP; simp [h]
theorem getP_way {p q : List UInt8} {k : Nd} (h : p <+: q) : getP (.mk 2 p false [] [k] []) q = ⟨(getP k (q.drop p.length)).v, (getP k (q.drop p.length)).has, (getP k (q.drop p.length)).miss.map (p ++ ·)⟩ := by
  have e := getsP_at (ks := [k]) (i := 0) (k := k) (q.drop p.length) rfl
  conv => lhs; rw [getP.eq_def]
  simp [h, e]
theorem getP_br0 {has : Bool} {v : List UInt8} {ks : List Nd} : getP (.mk 3 [] has v ks []) [] = ⟨v, has, none⟩ := by unfold getP; simp
theorem getP_br {has : Bool} {v : List UInt8} {ks : List Nd} {x : UInt8} {q : List UInt8} {k : Nd} (h : ks[x.toNat]? = some k) : getP (.mk 3 [] has v ks []) (x :: q) = ⟨(getP k q).v, (getP k q).has, (getP k q).miss.map (x :: ·)⟩ := by
  have e := getsP_at q h
  conv => lhs; rw [getP.eq_def]
  simp [e]
end Go.Proofs.YtojjfkbffjkojaaDoor
