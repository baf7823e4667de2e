/- Tries, plainly: what may be; get, put, drop. Reference 07's walks: Same, own, right, Check, Much. The walk of trie.get. Halves of bytes: the walks of what only reads. Halves of bytes: the walks. -/
import Derived.Test.YtkfbkhahkkmcoaaG06
import Derived.Test.YtkfbkhahkkmcoaaG05
import Derived.Deep.QuietTactic
import Derived.BigQuiet
import Derived.StillTailTactics
import Derived.Deep.RegionHeld3
import Derived.Deep.RegionLaw
namespace Go.Proofs.Ytkfbkhahkkmcoaa
theorem rightsP_all {even : Bool} {d : Nat} : ∀ {ks : List Nd}, rightsP even ks d = true → ∀ k ∈ ks, rightP even k d = true
  | [], _, k, h => by cases h
  | x :: ks, hr, k, h => by
    rw [rightsP, Bool.and_eq_true] at hr
    rcases List.mem_cons.1 h with rfl | h
    · exact hr.1
    · exact rightsP_all hr.2 k h
theorem rightsP_of {even : Bool} {d : Nat} : ∀ {ks : List Nd}, (∀ k ∈ ks, rightP even k d = true) → rightsP even ks d = true
  | [], _ => rfl
  | x :: ks, h => by rw [rightsP, h x (by simp), rightsP_of (fun k hk => h k (by simp [hk]))]; rfl
/-- The kinds of nodes that may be. -/
inductive Val (even : Bool) : Nd → Nat → Prop
  | none (d : Nat) (hd : d ≤ 400) : Val even noneN d
  | leaf (d : Nat) (p v : List UInt8) (hd : d ≤ 400) (hp : halvesB p = true) (hv : v.length ≤ 4000) (he : endsP (d + p.length) even = true) : Val even (.mk 1 p false v [] []) d
  | stub (d : Nat) (h : List UInt8) (hd : d ≤ 400) (hh : h.length = 32) : Val even (.mk 4 [] false [] [] h) d
  | way (d : Nat) (p : List UInt8) (k : Nd) (hd : d ≤ 400) (hp : halvesB p = true) (h0 : p ≠ []) (hk : k.kind = 3 ∨ k.kind = 4) (hr : Val even k (d + p.length)) : Val even (.mk 2 p false [] [k] []) d
  | branch (d : Nat) (has : Bool) (v : List UInt8) (ks : List Nd) (hd : d ≤ 400) (hv : v.length ≤ 4000) (hv0 : has = true ∨ v = []) (he : has = true → endsP d even = true) (h16 : ks.length = 16) (hr : ∀ k ∈ ks, Val even k (d + 1)) (hm : 2 ≤ (if has then 1 else 0) + manyN ks) : Val even (.mk 3 [] has v ks []) d
theorem nil_of_len {α : Type} {l : List α} (h : l.length = 0) : l = [] := List.eq_nil_of_length_eq_zero h
theorem val_of_right (even : Bool) : ∀ (N : Nat) (t : Nd) (d : Nat), sz t < N → rightP even t d = true → Val even t d
  | 0, t, d, h, _ => by omega
  | N + 1, t, d, hN, h => by
    have hsz := sz_eq t
    rw [rightP_eq] at h
    obtain ⟨k, p, has, v, ks, hs⟩ := t
    simp only [Nd.kind, Nd.path, Nd.has, Nd.val, Nd.kids, Nd.hash] at h hsz
    unfold ownP at h
    simp only [Bool.and_eq_true, decide_eq_true_eq] at h
    obtain ⟨hd, hv, hp, h⟩ := h
    by_cases h0 : k = 0
    · rw [if_pos h0] at h
      have h := of_decide_eq_true h
      obtain ⟨e1, e2, e3, e4, e5⟩ := h
      rw [nil_of_len e1, nil_of_len e2, nil_of_len e3, nil_of_len e4, e5, h0]
      exact .none d hd
    rw [if_neg h0] at h
    by_cases h1 : k = 1
    · rw [if_pos h1] at h
      simp only [Bool.and_eq_true, decide_eq_true_eq] at h
      obtain ⟨⟨e3, e4, e5⟩, he⟩ := h
      rw [nil_of_len e3, nil_of_len e4, e5, h1]
      exact .leaf d p v hd hp hv he
    rw [if_neg h1] at h
    by_cases h4 : k = 4
    · rw [if_pos h4] at h
      have h := of_decide_eq_true h
      obtain ⟨e1, e2, e3, e5, e6⟩ := h
      rw [nil_of_len e1, nil_of_len e2, nil_of_len e3, e5, h4]
      exact .stub d hs hd e6
    rw [if_neg h4] at h
    by_cases h2 : k = 2
    · rw [if_pos h2] at h
      simp only [Bool.and_eq_true, decide_eq_true_eq] at h
      obtain ⟨⟨e2, e4, e5, e1, e3⟩, hk, hr⟩ := h
      match ks, e3 with
      | [k0], _ =>
        rw [rightsP, rightsP, Bool.and_true] at hr
        have hz : szs [k0] = sz k0 := by rw [szs, szs]; omega
        rw [nil_of_len e2, nil_of_len e4, e5, h2]
        refine .way d p k0 hd hp (fun e => e1 (by rw [e]; rfl)) ?_ (val_of_right even N k0 _ (by omega) hr)
        unfold kindsB at hk
        rw [List.all_cons, Bool.and_eq_true, decide_eq_true_eq] at hk
        exact hk.1
    rw [if_neg h2] at h
    by_cases h3 : k = 3
    · rw [if_pos h3] at h
      simp only [Bool.and_eq_true, decide_eq_true_eq, Bool.or_eq_true, Bool.not_eq_true'] at h
      obtain ⟨⟨e1, e4, e5⟩, he, h16, hr, hm⟩ := h
      rw [nil_of_len e1, nil_of_len e4, h3]
      refine .branch d has v ks hd hv (e5.imp id nil_of_len) (fun e => by rcases he with he | he; rw [e] at he; cases he; exact he) h16 (fun k hk => val_of_right even N k _ (by have := szs_mem hk; omega) (rightsP_all hr k hk)) hm
    · rw [if_neg h3] at h; cases h
theorem right_of_val {even : Bool} {t : Nd} {d : Nat} (h : Val even t d) : rightP even t d = true := by
  induction h with
  | none d hd => rw [noneN, rightP]; unfold ownP; rw [decide_eq_true hd]; rfl
  | leaf d p v hd hp hv he => rw [rightP]; unfold ownP; rw [decide_eq_true hd, hp, decide_eq_true hv, if_neg (by decide), if_pos rfl, he]; rfl
  | stub d h hd hh => simp [rightP, ownP, halvesB, hd, hh]
  | way d p k hd hp h0 hk hr ih =>
    have hp0 : p.length ≠ 0 := fun e => h0 (nil_of_len e)
    rcases hk with hk | hk <;> simp [rightP, ownP, rightsP, ih, kindsB, hk, hp, hd, h0]
  | branch d has v ks hd hv hv0 he h16 hr hm ih =>
    rw [rightP]; unfold ownP
    rw [decide_eq_true hd, decide_eq_true hv, if_neg (by decide), if_neg (by decide), if_neg (by decide), if_neg (by decide), if_pos rfl, rightsP_of ih, decide_eq_true hm, decide_eq_true h16, decide_eq_true ⟨rfl, rfl, hv0.imp id (fun e => by rw [e]; rfl)⟩]
    cases has with
    | false => rfl
    | true => rw [he rfl]; rfl
/-- What a look comes to: what stands there; is there something; the halves to a stub that is in the way. -/
structure GotN where
  v : List UInt8
  has : Bool
  miss : Option (List UInt8)
mutual
def getP : Nd → List UInt8 → GotN
  | .mk k p has v ks _, q =>
    if k = 4 then ⟨[], false, some []⟩
    else if k = 1 then ⟨v, decide (p = q), none⟩
    else if k = 2 then (if p <+: q then (let g := getsP ks 0 (q.drop p.length); ⟨g.v, g.has, g.miss.map (p ++ ·)⟩) else ⟨[], false, none⟩)
    else if k = 3 then (match q with
      | [] => ⟨v, has, none⟩
      | x :: q' => (let g := getsP ks x.toNat q'; ⟨g.v, g.has, g.miss.map (x :: ·)⟩))
    else ⟨[], false, none⟩
def getsP : List Nd → Nat → List UInt8 → GotN
  | [], _, _ => ⟨[], false, none⟩
  | t :: _, 0, q => getP t q
  | _ :: ts, i + 1, q => getsP ts i q
end
theorem getsP_at : ∀ {ks : List Nd} {i : Nat} {k : Nd} (q : List UInt8), ks[i]? = some k → getsP ks i q = getP k q
  | t :: ks, 0, k, q, h => by simp at h; subst h; rw [getsP]
  | t :: ks, i + 1, k, q, h => by rw [getsP]; exact getsP_at q (by simpa using h)
theorem getP_way0 {p q : List UInt8} {k : Nd} (h : ¬ p <+: q) : getP (.mk 2 p false [] [k] []) q = ⟨[], false, none⟩ := by unfold getP; simp [h]
theorem getP_way {p q : List UInt8} {k : Nd} (h : p <+: q) : getP (.mk 2 p false [] [k] []) q = ⟨(getP k (q.drop p.length)).v, (getP k (q.drop p.length)).has, (getP k (q.drop p.length)).miss.map (p ++ ·)⟩ := by
  have e := getsP_at (ks := [k]) (i := 0) (k := k) (q.drop p.length) rfl
  conv => lhs; rw [getP.eq_def]
  simp [h, e]
theorem getP_br0 {has : Bool} {v : List UInt8} {ks : List Nd} : getP (.mk 3 [] has v ks []) [] = ⟨v, has, none⟩ := by unfold getP; simp
theorem getP_br {has : Bool} {v : List UInt8} {ks : List Nd} {x : UInt8} {q : List UInt8} {k : Nd} (h : ks[x.toNat]? = some k) : getP (.mk 3 [] has v ks []) (x :: q) = ⟨(getP k q).v, (getP k q).has, (getP k q).miss.map (x :: ·)⟩ := by
  have e := getsP_at q h
  conv => lhs; rw [getP.eq_def]
  simp [e]
end Go.Proofs.Ytkfbkhahkkmcoaa
namespace Go.Proofs.Ytkfbkhahkkmcoaa
open Go.RowKit
theorem is_same0 : isFn Try.prog 22 = true := by kernel_rfl
theorem is_copy0 : isFn Try.prog 28 = true := by kernel_rfl
theorem is_r7own : isFn Try.prog 85 = true := by kernel_rfl
theorem is_r7right : isFn Try.prog 62 = true := by kernel_rfl
def ownR (t : Nd) : Bool := halvesB t.path && (decide (t.val.length ≤ 4000 ∧ (t.has = true → t.kind = 3)) && (
  if t.kind = 0 then decide (t.path.length + t.val.length + t.kids.length + t.hash.length = 0)
  else if t.kind = 1 then decide (t.kids.length + t.hash.length = 0)
  else if t.kind = 2 then decide (0 < t.path.length ∧ t.kids.length = 1 ∧ t.val.length + t.hash.length = 0 ∧ ((t.kids.headD noneN).kind = 3 ∨ (t.kids.headD noneN).kind = 4))
  else if t.kind = 3 then decide (t.kids.length = 16 ∧ t.path.length + t.hash.length = 0 ∧ 2 ≤ manyN t.kids + (if t.has then 1 else 0) ∧ (t.has = true ∨ t.val.length = 0))
  else if t.kind = 4 then decide (t.hash.length = 32 ∧ t.path.length + t.val.length + t.kids.length = 0)
  else false))
theorem and_tt {a b : Bool} (h1 : a = true) (h2 : b = true) : true = (a && b) := by rw [h1, h2]; rfl
theorem and_tf {a b : Bool} (h2 : b = false) : false = (a && b) := by rw [h2, Bool.and_false]
theorem manyN_snoc (ks : List Nd) (k : Nd) : manyN (ks ++ [k]) = manyN ks + (if k.kind = 0 then 0 else 1) := by
  unfold manyN
  rw [List.filter_append, List.length_append, List.filter_cons, List.filter_nil]
  by_cases h : k.kind = 0
  · rw [if_neg (by simp [h]), if_pos h]; rfl
  · rw [if_pos (by simp [h]), if_neg h]; rfl
set_option maxRecDepth 100000 in
set_option maxHeartbeats 1000000 in
theorem r7own_any (t : Nd) (ht : sz t ≤ 1000000000) (gs : List (Option Nat)) (w : World) (cs : List Value) (hr : RdL w (Fd w gs) (dN t) cs) (hgs : ∀ b, some b ∈ gs → b < w.heap.size) :
    Calls Try.prog 85 #[.agg cs.toArray] w fun e w' => e = .returned (.bool (ownR t)) ∧ Below w.heap.size w w' := by
  refine calls_ev (args := [.agg cs.toArray]) mixed Try.func85 rfl (by kernel_rfl) ?_
  obtain ⟨Ap, cp, Av, cv, Ak, ck, Ah, ch, rfl, r1, r3, r4, r5⟩ := hr.node
  have hsz := sz_eq t
  have hsl := szs_len t.kids
  have M := ((St.start hgs).addD r4).addD r1
  clear r1 r3 r4 r5 hr
  refine s_box (ncs t Ap cp Av cv Ak ck Ah ch) M rfl ?_
  clear M
  rintro g1 W M
  have hB := M.B 0 rfl
  unfold ncs at hB
  have hbel := M.below
  have hpr := (M.rdb 0 rfl).2.2
  repeat' first
    | (refine p_fld fN0 rfl ?_)
    | (refine p_fld fN1 rfl ?_)
    | (refine p_fld fN2 rfl ?_)
    | (refine p_fld fN3 rfl ?_)
    | (refine p_fld fN4 rfl ?_)
    | (refine p_fld fN5 rfl ?_)
    | (refine v_load agg_int rfl (hB.at_ rfl) ?_)
    | (refine v_load agg_b rfl (hB.at_ rfl) ?_)
    | (refine v_load agg_bo rfl (hB.at_ rfl) ?_)
    | (refine v_load agg_ns rfl (hB.at_ rfl) ?_)
    | (refine p_len slb rfl ?_)
    | (refine p_len sln rfl ?_)
  refine lp Nat (fun i W' => i ≤ t.path.length ∧ W = W' ∧ halvesB (t.path.take i) = true) (fun i => [(1, .pointer (some ⟨g1, 0, none⟩)), (3, .int .i64 t.path.length), (4, .int .i64 t.val.length), (5, .int .i64 t.kids.length), (6, .int .i64 t.hash.length), (7, .int .i64 i)]) (fun i => t.path.length - i) 0 ⟨Nat.zero_le _, rfl, by simp [halvesB]⟩ (by repeat (first | exact trivial | refine ⟨rfl, ?_⟩)) ?_
  rintro i E5 W5 ⟨hi, rfl, hh⟩
  refine p_lt rfl rfl (fun hlt => ?_) (fun hge => ?_)
  ·
    repeat' first
      | (refine p_fld fN0 rfl ?_)
      | (refine p_fld fN1 rfl ?_)
      | (refine p_fld fN2 rfl ?_)
      | (refine p_fld fN3 rfl ?_)
      | (refine p_fld fN4 rfl ?_)
      | (refine p_fld fN5 rfl ?_)
      | (refine v_load agg_int rfl (hB.at_ rfl) ?_)
      | (refine v_load agg_b rfl (hB.at_ rfl) ?_)
      | (refine v_load agg_bo rfl (hB.at_ rfl) ?_)
      | (refine v_load agg_ns rfl (hB.at_ rfl) ?_)
      | (refine p_len slb rfl ?_)
      | (refine p_len sln rfl ?_)
    obtain ⟨b, off, rfl, hc⟩ := hpr.at_ (k := i) (by omega)
    have hb := at8_lo t.path i
    have e8 : at8 t.path i = ((t.path.getD i 0).toNat : Int) := rfl
    refine p_at slb rfl rfl rfl (by omega) ?_
    refine v_load agg_by' rfl (by rw [Addr.add_lit, Nat.mul_one]; exact hc) ?_
    refine p_gt rfl rfl (fun h15 => ?_) (fun h15 => ?_)
    · have := halvesB_no t.path i (by omega) (by omega)
      exact ⟨by unfold ownR; rw [this]; rfl, hbel⟩
    · refine p_addN (b := 1) rfl rfl (by omega) ?_
      exact ⟨i + 1, ⟨by omega, rfl, halvesB_take t.path i (by omega) hh (by omega)⟩, (by repeat (first | exact trivial | refine ⟨rfl, ?_⟩)), by omega⟩
  · have hin : i = t.path.length := by omega
    subst hin
    rw [List.take_of_length_le (Nat.le_refl _)] at hh
    have e0 : ownR t = (decide (t.val.length ≤ 4000 ∧ (t.has = true → t.kind = 3)) && (
        if t.kind = 0 then decide (t.path.length + t.val.length + t.kids.length + t.hash.length = 0)
        else if t.kind = 1 then decide (t.kids.length + t.hash.length = 0)
        else if t.kind = 2 then decide (0 < t.path.length ∧ t.kids.length = 1 ∧ t.val.length + t.hash.length = 0 ∧ ((t.kids.headD noneN).kind = 3 ∨ (t.kids.headD noneN).kind = 4))
        else if t.kind = 3 then decide (t.kids.length = 16 ∧ t.path.length + t.hash.length = 0 ∧ 2 ≤ manyN t.kids + (if t.has then 1 else 0) ∧ (t.has = true ∨ t.val.length = 0))
        else if t.kind = 4 then decide (t.hash.length = 32 ∧ t.path.length + t.val.length + t.kids.length = 0)
        else false)) := by unfold ownR; rw [hh]; rfl
    refine p_gt rfl rfl (fun hv => ?_) (fun hv => ?_)
    · refine ⟨ret_tf ?_, hbel⟩
      rw [e0, decide_eq_false (by omega)]; rfl
    cases hh2 : t.has with
    | true =>
      rw [hh2] at hB e0
      repeat' first
        | (refine p_fld fN0 rfl ?_)
        | (refine p_fld fN1 rfl ?_)
        | (refine p_fld fN2 rfl ?_)
        | (refine p_fld fN3 rfl ?_)
        | (refine p_fld fN4 rfl ?_)
        | (refine p_fld fN5 rfl ?_)
        | (refine v_load agg_int rfl (hB.at_ rfl) ?_)
        | (refine v_load agg_b rfl (hB.at_ rfl) ?_)
        | (refine v_load agg_bo rfl (hB.at_ rfl) ?_)
        | (refine v_load agg_ns rfl (hB.at_ rfl) ?_)
        | (refine p_len slb rfl ?_)
        | (refine p_len sln rfl ?_)
      refine p_ne rfl rfl (fun h3 => ?_) (fun h3 => ?_)
      ·
        repeat' first
          | (refine p_fld fN0 rfl ?_)
          | (refine p_fld fN1 rfl ?_)
          | (refine p_fld fN2 rfl ?_)
          | (refine p_fld fN3 rfl ?_)
          | (refine p_fld fN4 rfl ?_)
          | (refine p_fld fN5 rfl ?_)
          | (refine v_load agg_int rfl (hB.at_ rfl) ?_)
          | (refine v_load agg_b rfl (hB.at_ rfl) ?_)
          | (refine v_load agg_bo rfl (hB.at_ rfl) ?_)
          | (refine v_load agg_ns rfl (hB.at_ rfl) ?_)
          | (refine p_len slb rfl ?_)
          | (refine p_len sln rfl ?_)
        refine p_eq rfl rfl (fun h => absurd (h3.symm.trans h) (by decide)) (fun _ => ?_)
        refine p_eq rfl rfl (fun h => absurd (h3.symm.trans h) (by decide)) (fun _ => ?_)
        refine p_eq rfl rfl (fun h => absurd (h3.symm.trans h) (by decide)) (fun _ => ?_)
        refine p_eq rfl rfl (fun _ => ?_) (fun h => absurd h3 h)
        simp only [h3, if_true, if_false, Int.reduceEq, forall_const, false_implies, true_implies, and_true, true_and, true_or, false_or, Bool.false_eq_true] at e0
        refine lp (Nat × Nat) (fun s W' => s.1 ≤ t.kids.length ∧ W = W' ∧ s.2 = manyN (t.kids.take s.1)) (fun s => [(1, .pointer (some ⟨g1, 0, none⟩)), (3, .int .i64 t.path.length), (4, .int .i64 t.val.length), (5, .int .i64 t.kids.length), (6, .int .i64 t.hash.length), (8, .int .i64 s.2), (9, .int .i64 s.1)]) (fun s => t.kids.length - s.1) (0, 0) ⟨Nat.zero_le _, rfl, by simp [manyN]⟩ (by repeat (first | exact trivial | refine ⟨rfl, ?_⟩)) ?_
        rintro ⟨i, m⟩ E6 W6 ⟨hi, rfl, hm⟩
        dsimp only at hi hm
        refine p_lt rfl rfl (fun hlt => ?_) (fun hge => ?_)
        · dsimp only at hlt
          obtain ⟨k, hki⟩ : ∃ k, t.kids[i]? = some k := ⟨_, List.getElem?_eq_getElem (by omega)⟩
          obtain ⟨b, off, es, e0', hF, hes, hel, hc⟩ := (M.d1 1 rfl).kid hki
          obtain ⟨Ap5, cp5, Av5, cv5, Ak5, ck5, Ah5, ch5, rfl, -⟩ := hes.node
          repeat' first
            | (refine p_fld fN0 rfl ?_)
            | (refine p_fld fN1 rfl ?_)
            | (refine p_fld fN2 rfl ?_)
            | (refine p_fld fN3 rfl ?_)
            | (refine p_fld fN4 rfl ?_)
            | (refine p_fld fN5 rfl ?_)
            | (refine v_load agg_int rfl (hB.at_ rfl) ?_)
            | (refine v_load agg_b rfl (hB.at_ rfl) ?_)
            | (refine v_load agg_bo rfl (hB.at_ rfl) ?_)
            | (refine v_load agg_ns rfl (hB.at_ rfl) ?_)
            | (refine p_len slb rfl ?_)
            | (refine p_len sln rfl ?_)
          refine p_at sln (by show (Value.slice Ak t.kids.length ck) = _; rw [e0']) rfl rfl (by omega) ?_
          refine p_fld fN0 rfl ?_
          refine v_load agg_int rfl (hc 0 _ rfl) ?_
          have hmn : manyN (t.kids.take (i + 1)) = manyN (t.kids.take i) + (if k.kind = 0 then 0 else 1) := by
            have h1 := List.getElem?_eq_some_iff.1 hki
            rw [List.take_succ_eq_append_getElem h1.1, h1.2, manyN_snoc]
          have hml : manyN (t.kids.take i) ≤ i := by
            unfold manyN
            exact Nat.le_trans (List.length_filter_le _ _) (by rw [List.length_take]; omega)
          refine p_ne rfl rfl (fun h0 => ?_) (fun h0 => ?_)
          · rw [if_pos h0] at hmn
            refine p_addN (b := 1) rfl rfl (by dsimp only; omega) ?_
            exact ⟨(i + 1, m), ⟨by dsimp only; omega, rfl, by dsimp only; omega⟩, (by repeat (first | exact trivial | refine ⟨rfl, ?_⟩)), by dsimp only; omega⟩
          · rw [if_neg h0] at hmn
            refine p_addN (b := 1) rfl rfl (by dsimp only; omega) ?_
            refine p_addN (b := 1) rfl rfl (by dsimp only; omega) ?_
            exact ⟨(i + 1, m + 1), ⟨by dsimp only; omega, rfl, by dsimp only; omega⟩, (by repeat (first | exact trivial | refine ⟨rfl, ?_⟩)), by dsimp only; omega⟩
        · dsimp only at hge
          have hin : i = t.kids.length := by omega
          subst hin
          rw [List.take_of_length_le (Nat.le_refl _)] at hm
          subst hm
          have hml : manyN t.kids ≤ t.kids.length := by unfold manyN; exact List.length_filter_le _ _
          repeat' first
            | (refine p_fld fN0 rfl ?_)
            | (refine p_fld fN1 rfl ?_)
            | (refine p_fld fN2 rfl ?_)
            | (refine p_fld fN3 rfl ?_)
            | (refine p_fld fN4 rfl ?_)
            | (refine p_fld fN5 rfl ?_)
            | (refine v_load agg_int rfl (hB.at_ rfl) ?_)
            | (refine v_load agg_b rfl (hB.at_ rfl) ?_)
            | (refine v_load agg_bo rfl (hB.at_ rfl) ?_)
            | (refine v_load agg_ns rfl (hB.at_ rfl) ?_)
            | (refine p_len slb rfl ?_)
            | (refine p_len sln rfl ?_)
          refine p_addN (b := 1) rfl rfl (by omega) ?_
          refine p_eq rfl rfl (fun h16 => ?_) (fun h16 => ?_)
          · skip
            refine p_addN rfl rfl (by omega) ?_
            refine p_eq rfl rfl (fun hph => ?_) (fun hph => ?_)
            · refine p_ge rfl rfl (fun h2 => ?_) (fun h2 => ?_)
              · dsimp only at h2
                repeat' first
                  | (refine p_fld fN0 rfl ?_)
                  | (refine p_fld fN1 rfl ?_)
                  | (refine p_fld fN2 rfl ?_)
                  | (refine p_fld fN3 rfl ?_)
                  | (refine p_fld fN4 rfl ?_)
                  | (refine p_fld fN5 rfl ?_)
                  | (refine v_load agg_int rfl (hB.at_ rfl) ?_)
                  | (refine v_load agg_b rfl (hB.at_ rfl) ?_)
                  | (refine v_load agg_bo rfl (hB.at_ rfl) ?_)
                  | (refine v_load agg_ns rfl (hB.at_ rfl) ?_)
                  | (refine p_len slb rfl ?_)
                  | (refine p_len sln rfl ?_)
                refine ⟨ret_tf ?_, hbel⟩
                rw [e0]
                first
                  | exact and_tt (decide_eq_true (by omega)) (decide_eq_true (by omega))
                  | exact and_tf (decide_eq_false (by omega))
              · dsimp only at h2
                refine ⟨ret_tf ?_, hbel⟩
                rw [e0]
                first
                  | exact and_tt (decide_eq_true (by omega)) (decide_eq_true (by omega))
                  | exact and_tf (decide_eq_false (by omega))
            ·
              refine ⟨ret_tf ?_, hbel⟩
              rw [e0]
              first
                | exact and_tt (decide_eq_true (by omega)) (decide_eq_true (by omega))
                | exact and_tf (decide_eq_false (by omega))
          · skip
            refine ⟨ret_tf ?_, hbel⟩
            rw [e0]
            first
              | exact and_tt (decide_eq_true (by omega)) (decide_eq_true (by omega))
              | exact and_tf (decide_eq_false (by omega))
      · refine ⟨ret_tf ?_, hbel⟩
        rw [e0, decide_eq_false (fun h => h3 (h.2 rfl))]; rfl
    | false =>
      rw [hh2] at hB e0
      repeat' first
        | (refine p_fld fN0 rfl ?_)
        | (refine p_fld fN1 rfl ?_)
        | (refine p_fld fN2 rfl ?_)
        | (refine p_fld fN3 rfl ?_)
        | (refine p_fld fN4 rfl ?_)
        | (refine p_fld fN5 rfl ?_)
        | (refine v_load agg_int rfl (hB.at_ rfl) ?_)
        | (refine v_load agg_b rfl (hB.at_ rfl) ?_)
        | (refine v_load agg_bo rfl (hB.at_ rfl) ?_)
        | (refine v_load agg_ns rfl (hB.at_ rfl) ?_)
        | (refine p_len slb rfl ?_)
        | (refine p_len sln rfl ?_)
      refine p_eq rfl rfl (fun hk0 => ?_) (fun hk0 => ?_)
      ·
        simp only [hk0, if_true, if_false, Int.reduceEq, forall_const, false_implies, true_implies, and_true, true_and, true_or, false_or, Bool.false_eq_true] at e0
        refine p_addN rfl rfl (by omega) ?_
        refine p_addN rfl rfl (by omega) ?_
        refine p_addN rfl rfl (by omega) ?_
        refine p_eq rfl rfl (fun hq => ?_) (fun hq => ?_)
        ·
          refine ⟨ret_tf ?_, hbel⟩
          rw [e0]
          first
            | exact and_tt (decide_eq_true (by omega)) (decide_eq_true (by omega))
            | exact and_tf (decide_eq_false (by omega))
        ·
          refine ⟨ret_tf ?_, hbel⟩
          rw [e0]
          first
            | exact and_tt (decide_eq_true (by omega)) (decide_eq_true (by omega))
            | exact and_tf (decide_eq_false (by omega))
      refine p_eq rfl rfl (fun hk1 => ?_) (fun hk1 => ?_)
      ·
        simp only [hk1, if_true, if_false, Int.reduceEq, forall_const, false_implies, true_implies, and_true, true_and, true_or, false_or, Bool.false_eq_true] at e0
        refine p_addN rfl rfl (by omega) ?_
        refine p_eq rfl rfl (fun hq => ?_) (fun hq => ?_)
        ·
          refine ⟨ret_tf ?_, hbel⟩
          rw [e0]
          first
            | exact and_tt (decide_eq_true (by omega)) (decide_eq_true (by omega))
            | exact and_tf (decide_eq_false (by omega))
        ·
          refine ⟨ret_tf ?_, hbel⟩
          rw [e0]
          first
            | exact and_tt (decide_eq_true (by omega)) (decide_eq_true (by omega))
            | exact and_tf (decide_eq_false (by omega))
      refine p_eq rfl rfl (fun hk2 => ?_) (fun hk2 => ?_)
      ·
        simp only [hk2, if_true, if_false, Int.reduceEq, forall_const, false_implies, true_implies, and_true, true_and, true_or, false_or, Bool.false_eq_true] at e0
        refine p_gt rfl rfl (fun hp0 => ?_) (fun hp0 => ?_)
        · refine p_eq rfl rfl (fun hq1 => ?_) (fun hq1 => ?_)
          · have hq1' : t.kids.length = 1 := by omega
            refine p_addN rfl rfl (by omega) ?_
            refine p_eq rfl rfl (fun hq2 => ?_) (fun hq2 => ?_)
            · obtain ⟨k, hki⟩ : ∃ k, t.kids[0]? = some k := ⟨_, List.getElem?_eq_getElem (by omega)⟩
              have hkd : t.kids.headD noneN = k := by
                cases hks : t.kids with
                | nil => rw [hks] at hki; cases hki
                | cons a l => rw [hks] at hki; injection hki
              obtain ⟨b, off, es, e0', hF, hes, hel, hc⟩ := (M.d1 1 rfl).kid hki
              obtain ⟨Ap5, cp5, Av5, cv5, Ak5, ck5, Ah5, ch5, rfl, -⟩ := hes.node
              rw [hkd] at e0
              repeat' first
                | (refine p_fld fN0 rfl ?_)
                | (refine p_fld fN1 rfl ?_)
                | (refine p_fld fN2 rfl ?_)
                | (refine p_fld fN3 rfl ?_)
                | (refine p_fld fN4 rfl ?_)
                | (refine p_fld fN5 rfl ?_)
                | (refine v_load agg_int rfl (hB.at_ rfl) ?_)
                | (refine v_load agg_b rfl (hB.at_ rfl) ?_)
                | (refine v_load agg_bo rfl (hB.at_ rfl) ?_)
                | (refine v_load agg_ns rfl (hB.at_ rfl) ?_)
                | (refine p_len slb rfl ?_)
                | (refine p_len sln rfl ?_)
              refine p_at (i := 0) sln (by show (Value.slice Ak t.kids.length ck) = _; rw [e0']) rfl rfl (by omega) ?_
              refine p_fld fN0 rfl ?_
              refine v_load agg_int rfl (hc 0 _ rfl) ?_
              refine p_eq rfl rfl (fun hq3 => ?_) (fun hq3 => ?_)
              ·
                refine ⟨ret_tf ?_, hbel⟩
                rw [e0]
                first
                  | exact and_tt (decide_eq_true (by omega)) (decide_eq_true (by omega))
                  | exact and_tf (decide_eq_false (by omega))
              ·
                repeat' first
                  | (refine p_fld fN0 rfl ?_)
                  | (refine p_fld fN1 rfl ?_)
                  | (refine p_fld fN2 rfl ?_)
                  | (refine p_fld fN3 rfl ?_)
                  | (refine p_fld fN4 rfl ?_)
                  | (refine p_fld fN5 rfl ?_)
                  | (refine v_load agg_int rfl (hB.at_ rfl) ?_)
                  | (refine v_load agg_b rfl (hB.at_ rfl) ?_)
                  | (refine v_load agg_bo rfl (hB.at_ rfl) ?_)
                  | (refine v_load agg_ns rfl (hB.at_ rfl) ?_)
                  | (refine p_len slb rfl ?_)
                  | (refine p_len sln rfl ?_)
                refine p_at (i := 0) sln (by show (Value.slice Ak t.kids.length ck) = _; rw [e0']) rfl rfl (by omega) ?_
                refine p_fld fN0 rfl ?_
                refine v_load agg_int rfl (hc 0 _ rfl) ?_
                refine p_eq rfl rfl (fun hq4 => ?_) (fun hq4 => ?_)
                ·
                  refine ⟨ret_tf ?_, hbel⟩
                  rw [e0]
                  first
                    | exact and_tt (decide_eq_true (by omega)) (decide_eq_true (by omega))
                    | exact and_tf (decide_eq_false (by omega))
                ·
                  refine ⟨ret_tf ?_, hbel⟩
                  rw [e0]
                  first
                    | exact and_tt (decide_eq_true (by omega)) (decide_eq_true (by omega))
                    | exact and_tf (decide_eq_false (by omega))
            ·
              refine ⟨ret_tf ?_, hbel⟩
              rw [e0]
              first
                | exact and_tt (decide_eq_true (by omega)) (decide_eq_true (by omega))
                | exact and_tf (decide_eq_false (by omega))
          · have hq1' : t.kids.length ≠ 1 := by omega
            refine ⟨ret_tf ?_, hbel⟩
            rw [e0]
            first
              | exact and_tt (decide_eq_true (by omega)) (decide_eq_true (by omega))
              | exact and_tf (decide_eq_false (by omega))
        · have hp0' : ¬ 0 < t.path.length := by omega
          refine ⟨ret_tf ?_, hbel⟩
          rw [e0]
          first
            | exact and_tt (decide_eq_true (by omega)) (decide_eq_true (by omega))
            | exact and_tf (decide_eq_false (by omega))
      refine p_eq rfl rfl (fun h3 => ?_) (fun h3 => ?_)
      ·
        simp only [h3, if_true, if_false, Int.reduceEq, forall_const, false_implies, true_implies, and_true, true_and, true_or, false_or, Bool.false_eq_true] at e0
        refine lp (Nat × Nat) (fun s W' => s.1 ≤ t.kids.length ∧ W = W' ∧ s.2 = manyN (t.kids.take s.1)) (fun s => [(1, .pointer (some ⟨g1, 0, none⟩)), (3, .int .i64 t.path.length), (4, .int .i64 t.val.length), (5, .int .i64 t.kids.length), (6, .int .i64 t.hash.length), (8, .int .i64 s.2), (9, .int .i64 s.1)]) (fun s => t.kids.length - s.1) (0, 0) ⟨Nat.zero_le _, rfl, by simp [manyN]⟩ (by repeat (first | exact trivial | refine ⟨rfl, ?_⟩)) ?_
        rintro ⟨i, m⟩ E6 W6 ⟨hi, rfl, hm⟩
        dsimp only at hi hm
        refine p_lt rfl rfl (fun hlt => ?_) (fun hge => ?_)
        · dsimp only at hlt
          obtain ⟨k, hki⟩ : ∃ k, t.kids[i]? = some k := ⟨_, List.getElem?_eq_getElem (by omega)⟩
          obtain ⟨b, off, es, e0', hF, hes, hel, hc⟩ := (M.d1 1 rfl).kid hki
          obtain ⟨Ap5, cp5, Av5, cv5, Ak5, ck5, Ah5, ch5, rfl, -⟩ := hes.node
          repeat' first
            | (refine p_fld fN0 rfl ?_)
            | (refine p_fld fN1 rfl ?_)
            | (refine p_fld fN2 rfl ?_)
            | (refine p_fld fN3 rfl ?_)
            | (refine p_fld fN4 rfl ?_)
            | (refine p_fld fN5 rfl ?_)
            | (refine v_load agg_int rfl (hB.at_ rfl) ?_)
            | (refine v_load agg_b rfl (hB.at_ rfl) ?_)
            | (refine v_load agg_bo rfl (hB.at_ rfl) ?_)
            | (refine v_load agg_ns rfl (hB.at_ rfl) ?_)
            | (refine p_len slb rfl ?_)
            | (refine p_len sln rfl ?_)
          refine p_at sln (by show (Value.slice Ak t.kids.length ck) = _; rw [e0']) rfl rfl (by omega) ?_
          refine p_fld fN0 rfl ?_
          refine v_load agg_int rfl (hc 0 _ rfl) ?_
          have hmn : manyN (t.kids.take (i + 1)) = manyN (t.kids.take i) + (if k.kind = 0 then 0 else 1) := by
            have h1 := List.getElem?_eq_some_iff.1 hki
            rw [List.take_succ_eq_append_getElem h1.1, h1.2, manyN_snoc]
          have hml : manyN (t.kids.take i) ≤ i := by
            unfold manyN
            exact Nat.le_trans (List.length_filter_le _ _) (by rw [List.length_take]; omega)
          refine p_ne rfl rfl (fun h0 => ?_) (fun h0 => ?_)
          · rw [if_pos h0] at hmn
            refine p_addN (b := 1) rfl rfl (by dsimp only; omega) ?_
            exact ⟨(i + 1, m), ⟨by dsimp only; omega, rfl, by dsimp only; omega⟩, (by repeat (first | exact trivial | refine ⟨rfl, ?_⟩)), by dsimp only; omega⟩
          · rw [if_neg h0] at hmn
            refine p_addN (b := 1) rfl rfl (by dsimp only; omega) ?_
            refine p_addN (b := 1) rfl rfl (by dsimp only; omega) ?_
            exact ⟨(i + 1, m + 1), ⟨by dsimp only; omega, rfl, by dsimp only; omega⟩, (by repeat (first | exact trivial | refine ⟨rfl, ?_⟩)), by dsimp only; omega⟩
        · dsimp only at hge
          have hin : i = t.kids.length := by omega
          subst hin
          rw [List.take_of_length_le (Nat.le_refl _)] at hm
          subst hm
          have hml : manyN t.kids ≤ t.kids.length := by unfold manyN; exact List.length_filter_le _ _
          repeat' first
            | (refine p_fld fN0 rfl ?_)
            | (refine p_fld fN1 rfl ?_)
            | (refine p_fld fN2 rfl ?_)
            | (refine p_fld fN3 rfl ?_)
            | (refine p_fld fN4 rfl ?_)
            | (refine p_fld fN5 rfl ?_)
            | (refine v_load agg_int rfl (hB.at_ rfl) ?_)
            | (refine v_load agg_b rfl (hB.at_ rfl) ?_)
            | (refine v_load agg_bo rfl (hB.at_ rfl) ?_)
            | (refine v_load agg_ns rfl (hB.at_ rfl) ?_)
            | (refine p_len slb rfl ?_)
            | (refine p_len sln rfl ?_)
          skip
          refine p_eq rfl rfl (fun h16 => ?_) (fun h16 => ?_)
          · skip
            refine p_addN rfl rfl (by omega) ?_
            refine p_eq rfl rfl (fun hph => ?_) (fun hph => ?_)
            · refine p_ge rfl rfl (fun h2 => ?_) (fun h2 => ?_)
              · dsimp only at h2
                repeat' first
                  | (refine p_fld fN0 rfl ?_)
                  | (refine p_fld fN1 rfl ?_)
                  | (refine p_fld fN2 rfl ?_)
                  | (refine p_fld fN3 rfl ?_)
                  | (refine p_fld fN4 rfl ?_)
                  | (refine p_fld fN5 rfl ?_)
                  | (refine v_load agg_int rfl (hB.at_ rfl) ?_)
                  | (refine v_load agg_b rfl (hB.at_ rfl) ?_)
                  | (refine v_load agg_bo rfl (hB.at_ rfl) ?_)
                  | (refine v_load agg_ns rfl (hB.at_ rfl) ?_)
                  | (refine p_len slb rfl ?_)
                  | (refine p_len sln rfl ?_)
                refine p_eq rfl rfl (fun hv0 => ?_) (fun hv0 => ?_)
                ·
                  refine ⟨ret_tf ?_, hbel⟩
                  rw [e0]
                  first
                    | exact and_tt (decide_eq_true (by omega)) (decide_eq_true (by omega))
                    | exact and_tf (decide_eq_false (by omega))
                ·
                  refine ⟨ret_tf ?_, hbel⟩
                  rw [e0]
                  first
                    | exact and_tt (decide_eq_true (by omega)) (decide_eq_true (by omega))
                    | exact and_tf (decide_eq_false (by omega))
              · dsimp only at h2
                refine ⟨ret_tf ?_, hbel⟩
                rw [e0]
                first
                  | exact and_tt (decide_eq_true (by omega)) (decide_eq_true (by omega))
                  | exact and_tf (decide_eq_false (by omega))
            ·
              refine ⟨ret_tf ?_, hbel⟩
              rw [e0]
              first
                | exact and_tt (decide_eq_true (by omega)) (decide_eq_true (by omega))
                | exact and_tf (decide_eq_false (by omega))
          · skip
            refine ⟨ret_tf ?_, hbel⟩
            rw [e0]
            first
              | exact and_tt (decide_eq_true (by omega)) (decide_eq_true (by omega))
              | exact and_tf (decide_eq_false (by omega))
      refine p_eq rfl rfl (fun hk4 => ?_) (fun hk4 => ?_)
      ·
        simp only [hk4, if_true, if_false, Int.reduceEq, forall_const, false_implies, true_implies, and_true, true_and, true_or, false_or, Bool.false_eq_true] at e0
        refine p_eq rfl rfl (fun hq => ?_) (fun hq => ?_)
        · refine p_addN rfl rfl (by omega) ?_
          refine p_addN rfl rfl (by omega) ?_
          refine p_eq rfl rfl (fun hq2 => ?_) (fun hq2 => ?_)
          ·
            refine ⟨ret_tf ?_, hbel⟩
            rw [e0]
            first
              | exact and_tt (decide_eq_true (by omega)) (decide_eq_true (by omega))
              | exact and_tf (decide_eq_false (by omega))
          ·
            refine ⟨ret_tf ?_, hbel⟩
            rw [e0]
            first
              | exact and_tt (decide_eq_true (by omega)) (decide_eq_true (by omega))
              | exact and_tf (decide_eq_false (by omega))
        ·
          refine ⟨ret_tf ?_, hbel⟩
          rw [e0]
          first
            | exact and_tt (decide_eq_true (by omega)) (decide_eq_true (by omega))
            | exact and_tf (decide_eq_false (by omega))
      · refine ⟨ret_tf ?_, hbel⟩
        rw [e0, if_neg hk0, if_neg hk1, if_neg hk2, if_neg h3, if_neg hk4, Bool.and_false]
end Go.Proofs.Ytkfbkhahkkmcoaa
namespace Go.Proofs.Ytkfbkhahkkmcoaa
open Go.RowKit
theorem is_tget : isFn Try.prog 66 = true := by kernel_rfl
theorem zls2 : zeroOf Try.prog 22 = some [.slice none 0 0] := by kernel_rfl
theorem halvesB_drop {q : List UInt8} {n : Nat} (h : halvesB q = true) : halvesB (q.drop n) = true := by
  unfold halvesB at *
  rw [List.all_eq_true] at *
  exact fun x hx => h x (List.mem_of_mem_drop hx)
def missOk (W : World) (F : Nat → Prop) (way : List UInt8) (m : Option (List UInt8)) (A : Option Addr) (n c : Nat) : Prop :=
  match m with
  | none => A = none ∧ n = 0 ∧ c = 0
  | some r => A ≠ none ∧ RdD W F (dB (way ++ r)) (.slice A n c)
/-- What trie.get answers of this node. -/
def GetOk (t : Nd) : Prop := ∀ (gs : List (Option Nat)) (w : World) (cs : List Value) (q way : List UInt8) (Aq : Option Addr) (nq cq : Nat) (Aw : Option Addr) (nw cw d : Nat) (even : Bool), RdL w (Fd w gs) (dN t) cs → RdD w (Fd w gs) (dB q) (.slice Aq nq cq) → RdD w (Fd w gs) (dB way) (.slice Aw nw cw) →
  (∀ b, some b ∈ gs → b < w.heap.size) → Aw ≠ none → halvesB q = true → Val even t d → way.length + q.length ≤ 100000 →
  Calls Try.prog 66 #[.agg cs.toArray, .slice Aq nq cq, .slice Aw nw cw] w fun e w' => ∃ A n c Am nm cm, e = .returned (.tuple #[.slice A n c, .bool (getP t q).has, .slice Am nm cm]) ∧ RdD w' (Fr w w') (dB (getP t q).v) (.slice A n c) ∧ missOk w' (Fr w w') way (getP t q).miss Am nm cm ∧ Below w.heap.size w w'
theorem Own.fr {W W' : World} {n c : Nat} {A : Option Addr} {l : List UInt8} (h : Own W' W.heap.size A n c l) : RdD W' (Fr W W') (dB l) (.slice A n c) := h.frB fun b h1 h2 _ => ⟨h1, h2⟩
theorem Fr.more {W W1 W' : World} {d : D} {u : Value} (h : RdD W' (Fr W1 W') d u) (hb : W.heap.size ≤ W1.heap.size) : RdD W' (Fr W W') d u := h.to fun b hb' => ⟨rfl, by have := hb'.1; omega, hb'.2⟩
theorem missOk.more {W W1 W' : World} {way : List UInt8} {m : Option (List UInt8)} {A : Option Addr} {n c : Nat} (h : missOk W' (Fr W1 W') way m A n c) (hb : W.heap.size ≤ W1.heap.size) : missOk W' (Fr W W') way m A n c := by
  unfold missOk at *
  cases m with
  | none => exact h
  | some r => exact ⟨h.1, Fr.more h.2 hb⟩
set_option maxRecDepth 100000 in
set_option maxHeartbeats 1000000 in
theorem tget_step (N : Nat) (ih : ∀ k : Nd, sz k < N → GetOk k) (t : Nd) (ht : sz t ≤ N) (hN : N ≤ 10000000) : GetOk t := by
  intro gs w cs q way Aq nq cq Aw nw cw d even hr hq hw hgs hAw hhq hval hlen
  refine calls_ev (args := [.agg cs.toArray, .slice Aq nq cq, .slice Aw nw cw]) mixed Try.func66 rfl (by kernel_rfl) ?_
  obtain ⟨Ap, cp, Av, cv, Ak, ck, Ah, ch, rfl, r1, r3, r4, r5⟩ := hr.node
  have hsz := sz_eq t
  have hsl := szs_len t.kids
  have enq := hq.slen
  have enw := hw.slen
  refine v_boxB (ncs t Ap cp Av cv Ak ck Ah ch) rfl ?_
  rintro g1 W1 hg1 hB hb1 hs1
  rw [hg1] at hb1
  have A1 : At w W1 gs := (At.start hgs).call hb1
  have s1 : Stp w gs W1 gs := Stp.below hb1
  refine p_fld fN0 rfl ?_
  refine v_load agg_int rfl (hB.at_ rfl) ?_
  cases hval with
  | stub d hsh hd hh =>
    refine p_eq rfl rfl (fun _ => ?_) (fun h => absurd rfl h)
    refine cc is_sclone (sclone_any gs Aw nw cw way W1 (hw.up s1) (by omega)) ?_
    rintro e W2 ⟨A2, c2, rfl, o2, hn2, b2⟩
    refine ⟨_, rfl, ?_⟩
    have hC := below_tr hb1 b2
    refine ⟨none, 0, 0, A2, nw, c2, rfl, RdD.nil_ _ _, ⟨fun e => hAw (hn2.1 e), ?_⟩, hC⟩
    rw [List.append_nil]
    exact Fr.more o2.fr hb1.size
  | none d hd =>
    refine p_eq rfl rfl (fun h => absurd h (by decide)) (fun _ => ?_)
    refine p_eq rfl rfl (fun h => absurd h (by decide)) (fun _ => ?_)
    refine p_eq rfl rfl (fun h => absurd h (by decide)) (fun _ => ?_)
    refine p_eq rfl rfl (fun h => absurd h (by decide)) (fun _ => ?_)
    exact ⟨none, 0, 0, none, 0, 0, rfl, RdD.nil_ _ _, ⟨rfl, rfl, rfl⟩, hb1⟩
  | leaf d p v hd hp hv he =>
    refine p_eq rfl rfl (fun h => absurd (show (1 : Int) = 4 from h) (by decide)) (fun _ => ?_)
    refine p_eq rfl rfl (fun _ => ?_) (fun h => absurd rfl h)
    have sd : Stp w gs W1.drew gs := s1.trans Stp.drew
    refine dr (fun W => Below W1.drew.heap.size W1.drew W) [(0, true), (1, true), (3, true), (4, true), (5, true), (2, false), (6, false), (7, true), (8, true), (9, true)] (by kernel_rfl) (Below.refl _ _) ?_
    refine p_fld fN3 rfl ?_
    refine t_load agg_b rfl (fun W h => (hB.drew.below h).at_ rfl) ?_
    refine p_fld fN1 rfl ?_
    refine t_load agg_b rfl (fun W h => (hB.drew.below h).at_ rfl) ?_
    simp only [Nd.path, Nd.val, Nd.hash, Nd.kids] at r1 r3 hsz
    refine cc is_bclone (bclone_any gs Av v.length cv v W1.drew (r3.up sd) (by omega)) ?_
    rintro e W2 ⟨A2, c2, rfl, o2, -, b2⟩
    refine ⟨_, rfl, b2, ?_⟩
    have s2 := sd.trans (Stp.below (gs := gs) b2)
    obtain ⟨_, _, hp2⟩ := (r1.up s2).rd Fd.lt
    obtain ⟨_, _, hq2⟩ := (hq.up s2).rd Fd.lt
    refine cc is_beq (beq_any Ap Aq p.length nq cp cq _ _ p q W2 hp2 hq2) ?_
    rintro e W3 ⟨rfl, rfl⟩
    refine ⟨_, rfl, b2, ?_⟩
    exact ⟨A2, v.length, c2, none, 0, 0, rfl, Fr.more o2.fr hb1.size, ⟨rfl, rfl, rfl⟩, below_tr hb1.drew b2⟩
  | way d p k hd hp h0 hk hrk =>
    refine p_eq rfl rfl (fun h => absurd (show (2 : Int) = 4 from h) (by decide)) (fun _ => ?_)
    refine p_eq rfl rfl (fun h => absurd (show (2 : Int) = 1 from h) (by decide)) (fun _ => ?_)
    refine p_eq rfl rfl (fun _ => ?_) (fun h => absurd rfl h)
    simp only [Nd.path, Nd.val, Nd.hash, Nd.kids] at r1 r3 r4 hsz
    have hkz : sz k < N := by have : szs [k] = sz k := by rw [szs, szs]; omega
                              omega
    obtain ⟨_, _, hp2⟩ := (r1.up s1).rd Fd.lt
    obtain ⟨_, hcq, hq2⟩ := (hq.up s1).rd Fd.lt
    refine p_fld fN1 rfl ?_
    refine v_load agg_b rfl (hB.at_ rfl) ?_
    refine cc is_bpre (bpre_any Aq Ap nq p.length cq cp _ _ q p W1 hq2 hcq hp2) ?_
    rintro e W2 ⟨rfl, rfl⟩
    refine ⟨_, rfl, ?_⟩
    refine p_not rfl ?_
    by_cases hpre : p <+: q
    rotate_left
    · rw [decide_eq_false hpre]
      rw [getP_way0 hpre]
      exact ⟨none, 0, 0, none, 0, 0, rfl, RdD.nil_ _ _, ⟨rfl, rfl, rfl⟩, hb1⟩
    · rw [decide_eq_true hpre]
      have hpl := hpre.length_le
      rw [getP_way hpre]
      have sd : Stp w gs W1.drew gs := s1.trans Stp.drew
      have Ad := A1.drew
      have r4d := r4.up sd
      have hqd := hq.up sd
      have hwd := hw.up sd
      have r1d := r1.up sd
      have hBd := hB.drew
      obtain ⟨b, off, es, rfl, hF, hes, hel, hc⟩ := r4d.kid (i := 0) (k := k) rfl
      refine dr (fun W => Below W1.drew.heap.size W1.drew W) [(0, true), (1, true), (2, true), (3, true), (4, true), (5, true), (6, true), (7, true), (8, true), (9, true), (10, true), (11, true), (12, false), (13, false), (14, false), (15, true), (16, true), (17, true), (18, true), (19, true), (20, true)] (by kernel_rfl) (Below.refl _ _) ?_
      refine p_fld fN4 rfl ?_
      refine t_load agg_ns rfl (fun W h => (hBd.below h).at_ rfl) ?_
      refine p_at (i := 0) sln rfl rfl rfl (by show 0 < 1; decide) ?_
      refine t_loadN es agg_nd rfl hel (fun W h j x hx => cellB h (hc j x hx)) ?_
      refine p_fld fN1 rfl ?_
      refine t_load agg_b rfl (fun W h => (hBd.below h).at_ rfl) ?_
      refine p_len slb rfl ?_
      refine p_slice (i := p.length) (j := nq) (m := cq) slb rfl (bnd_i rfl) rfl rfl rfl (by show p.length ≤ nq; omega) (by omega) (Nat.le_refl _) ?_
      refine p_fld fN1 rfl ?_
      refine t_load agg_b rfl (fun W h => (hBd.below h).at_ rfl) ?_
      refine v_bslice (vs := [.slice Aw nw cw, .slice Ap p.length cp]) sl_ls' zls2 rfl (by decide) rfl ?_
      rintro g2 W2 hg2 hB2 hb2 hs2
      rw [hg2] at hb2
      refine ⟨hb2, ?_⟩
      have A2 := Ad.call hb2
      have s2 := sd.trans (Stp.below (gs := gs) hb2)
      have hD2 : RdD W2 (Fd W2 gs) (dLs [way, p]) (.slice (some ⟨g2, 0, none⟩) 2 2) := by
        refine RdD.sl_iff.2 ⟨_, 2, _, rfl, Nat.le_refl _, rfl, RdL.cons (hw.up s2) (RdL.cons (r1.up s2) RdL.nil_), fun _ => ⟨g2, 0, rfl, ⟨hB2.lt, fun e => ?_⟩, fun j x hx => ?_⟩⟩
        · have := Ad.lt g2 e; omega
        · rw [Nat.zero_add]; exact hB2.at_ hx
      have hcat : [way, p].flatten = way ++ p := by simp
      have hcall := concat_any gs _ 2 2 [way, p] W2 A2.lt hD2 (by rw [hcat, List.length_append]; omega) (by decide)
      rw [hcat] at hcall
      refine cc is_concat hcall ?_
      rintro e W3 ⟨A3, c3, rfl, o3, b3⟩
      have C3 := below_tr hb2 b3
      refine ⟨_, rfl, C3, ?_⟩
      have A3' := A2.call b3
      have s3 := s2.trans (Stp.below (gs := gs) b3)
      have hcut := (hq.up s3).cutB (i := p.length) (j := nq) (m := cq) (by omega) (Nat.le_refl _) (by omega)
      rw [List.take_of_length_le (by rw [List.length_drop]; omega)] at hcut
      have hA3 : A3 ≠ none := fun e => by
        subst e
        have hl := o3.len
        rcases o3.2 with ⟨hv, hn⟩ | ⟨g, cap, cur, hv, _⟩
        · injection hv with _ hv _
          rw [List.length_append] at hv
          exact h0 (nil_of_len (by omega))
        · cases hv
      have hw3 : RdD W3 (Fd W3 gs) (dB (way ++ p)) (.slice A3 (way ++ p).length c3) := (o3.zb (base := 0) (Nat.zero_le _) A2.lt).z0
      refine cc is_tget (ih k hkz gs W3 es (q.drop p.length) (way ++ p) _ _ _ A3 _ c3 (d + p.length) even (hes.up ((Stp.below hb2).trans (Stp.below b3))) hcut hw3 A3'.lt hA3 ?_ hrk (by rw [List.length_append, List.length_drop]; omega)) ?_
      · exact halvesB_drop hhq
      rintro e W4 ⟨A4, n4, c4, Am, nm, cm, rfl, hv4, hm4, b4⟩
      refine ⟨_, rfl, below_tr C3 b4, ?_⟩
      refine ⟨A4, n4, c4, Am, nm, cm, rfl, Fr.more hv4 (by have := A3'.size; omega), ?_, below_tr (below_tr hb1.drew C3) b4⟩
      have hm5 := missOk.more (W := w) hm4 A3'.size
      unfold missOk at hm5 ⊢
      cases hmm : (getP k (q.drop p.length)).miss with
      | none => rw [hmm] at hm5; exact hm5
      | some r => rw [hmm] at hm5; simp only [Option.map_some]; rw [← List.append_assoc]; exact hm5
  | branch d has v ks hd hv hv0 he h16 hrk hm =>
    refine p_eq rfl rfl (fun h => absurd (show (3 : Int) = 4 from h) (by decide)) (fun _ => ?_)
    refine p_eq rfl rfl (fun h => absurd (show (3 : Int) = 1 from h) (by decide)) (fun _ => ?_)
    refine p_eq rfl rfl (fun h => absurd (show (3 : Int) = 2 from h) (by decide)) (fun _ => ?_)
    refine p_eq rfl rfl (fun _ => ?_) (fun h => absurd rfl h)
    simp only [Nd.path, Nd.val, Nd.hash, Nd.kids] at r1 r3 r4 hsz
    have sd : Stp w gs W1.drew gs := s1.trans Stp.drew
    have Ad := A1.drew
    have hBd := hB.drew
    refine p_len slb rfl ?_
    match q, hq, hhq, hlen, enq with
    | [], hq, hhq, hlen, enq =>
      rw [getP_br0]
      subst enq
      refine p_eq rfl rfl (fun _ => ?_) (fun h => absurd rfl h)
      refine dr (fun W => Below W1.drew.heap.size W1.drew W) [(0, true), (1, true), (3, true), (4, true), (2, false), (5, true), (6, true), (7, true)] (by kernel_rfl) (Below.refl _ _) ?_
      refine p_fld fN3 rfl ?_
      refine t_load agg_b rfl (fun W h => (hBd.below h).at_ rfl) ?_
      refine p_fld fN2 rfl ?_
      refine t_load agg_bo rfl (fun W h => (hBd.below h).at_ rfl) ?_
      refine cc is_bclone (bclone_any gs Av v.length cv v W1.drew (r3.up sd) (by omega)) ?_
      rintro e W2 ⟨A2, c2, rfl, o2, -, b2⟩
      refine ⟨_, rfl, b2, ?_⟩
      exact ⟨A2, v.length, c2, none, 0, 0, rfl, Fr.more o2.fr hb1.size, ⟨rfl, rfl, rfl⟩, below_tr hb1.drew b2⟩
    | x :: q', hq, hhq, hlen, enq =>
      have hx : x.toNat < 16 := by
        unfold halvesB at hhq
        have := List.all_eq_true.1 hhq x (by simp)
        have := of_decide_eq_true this
        rw [UInt8.le_iff_toNat_le] at this
        have e15 : (15 : UInt8).toNat = 15 := rfl
        omega
      obtain ⟨k, hki⟩ : ∃ k, ks[x.toNat]? = some k := ⟨_, List.getElem?_eq_getElem (by omega)⟩
      have hkm := List.mem_of_getElem? hki
      have hkz : sz k < N := by have := szs_mem hkm; omega
      rw [getP_br hki]
      rw [List.length_cons] at enq hlen
      refine p_eq rfl rfl (fun h => by omega) (fun _ => ?_)
      have r4d := r4.up sd
      have hqd := hq.up sd
      obtain ⟨_, hcq, hqr⟩ := hqd.rd Fd.lt
      obtain ⟨bq, oq, eAq, hcx⟩ := hqr.at_ (k := 0) (by omega)
      subst eAq
      have hcx' : W1.drew.cell? (Addr.add ⟨bq, oq, none⟩ (0 * 1)) = some (.int .u8 (x.toNat : Nat)) := by rw [Addr.add_lit]; exact hcx
      obtain ⟨b, off, es, rfl, hF, hes, hel, hc⟩ := r4d.kid (i := x.toNat) (k := k) hki
      refine dr (fun W => Below W1.drew.heap.size W1.drew W) [(0, true), (1, true), (2, true), (3, true), (4, true), (5, true), (6, true), (7, true), (8, true), (9, true), (10, true), (11, true), (12, false), (13, false), (14, false), (15, true), (16, true), (17, true), (18, true), (19, true), (20, true)] (by kernel_rfl) (Below.refl _ _) ?_
      refine p_fld fN4 rfl ?_
      refine t_load agg_ns rfl (fun W h => (hBd.below h).at_ rfl) ?_
      refine p_at (i := 0) slb rfl rfl rfl (by omega) ?_
      refine t_load agg_by' rfl (fun W h => cellB h hcx') ?_
      refine p_at (i := x.toNat) sln rfl rfl rfl (by show _ < ks.length; omega) ?_
      refine t_loadN es agg_nd rfl hel (fun W h j x hx => cellB h (hc j x hx)) ?_
      refine p_slice (i := 1) (j := nq) (m := cq) slb rfl (bnd_i (kd := .i64) rfl) rfl rfl rfl (by omega) (by omega) (Nat.le_refl _) ?_
      refine p_slice (i := 0) (j := 1) (m := cq) slb rfl rfl (bnd_i (kd := .i64) rfl) rfl rfl (by omega) (by omega) (Nat.le_refl _) ?_
      refine v_bslice (vs := [.slice Aw nw cw, .slice (slA (some ⟨bq, oq, none⟩) cq 0 1) 1 cq]) sl_ls' zls2 rfl (by decide) rfl ?_
      rintro g2 W2 hg2 hB2 hb2 hs2
      rw [hg2] at hb2
      refine ⟨hb2, ?_⟩
      have A2 := Ad.call hb2
      have s2 := sd.trans (Stp.below (gs := gs) hb2)
      have hq1 := (hq.up s2).cutB (i := 0) (j := 1) (m := cq) (by omega) (by omega) (by omega)
      rw [Nat.sub_zero, Nat.sub_zero, List.drop_zero, List.take_succ_cons, List.take_zero] at hq1
      have hD2 : RdD W2 (Fd W2 gs) (dLs [way, [x]]) (.slice (some ⟨g2, 0, none⟩) 2 2) := by
        refine RdD.sl_iff.2 ⟨_, 2, _, rfl, Nat.le_refl _, rfl, RdL.cons (hw.up s2) (RdL.cons hq1 RdL.nil_), fun _ => ⟨g2, 0, rfl, ⟨hB2.lt, fun e => ?_⟩, fun j x hx => ?_⟩⟩
        · have := Ad.lt g2 e; omega
        · rw [Nat.zero_add]; exact hB2.at_ hx
      have hcat : [way, [x]].flatten = way ++ [x] := by simp
      have hcall := concat_any gs _ 2 2 [way, [x]] W2 A2.lt hD2 (by rw [hcat, List.length_append, List.length_cons, List.length_nil]; omega) (by decide)
      rw [hcat] at hcall
      refine cc is_concat hcall ?_
      rintro e W3 ⟨A3, c3, rfl, o3, b3⟩
      have C3 := below_tr hb2 b3
      refine ⟨_, rfl, C3, ?_⟩
      have A3' := A2.call b3
      have s3 := s2.trans (Stp.below (gs := gs) b3)
      have hcut := (hq.up s3).cutB (i := 1) (j := nq) (m := cq) (by omega) (Nat.le_refl _) (by omega)
      rw [List.drop_succ_cons, List.drop_zero, List.take_of_length_le (by omega)] at hcut
      have hA3 : A3 ≠ none := fun e => by
        subst e
        rcases o3.2 with ⟨hv, hn⟩ | ⟨g, cap, cur, hv, _⟩
        · injection hv with _ hv _
          rw [List.length_append, List.length_cons] at hv
          omega
        · cases hv
      have hw3 : RdD W3 (Fd W3 gs) (dB (way ++ [x])) (.slice A3 (way ++ [x]).length c3) := (o3.zb (base := 0) (Nat.zero_le _) A2.lt).z0
      refine cc is_tget (ih k hkz gs W3 es q' (way ++ [x]) _ _ _ A3 _ c3 (d + 1) even (hes.up ((Stp.below hb2).trans (Stp.below b3))) hcut hw3 A3'.lt hA3 ?_ (hrk k hkm) (by rw [List.length_append, List.length_cons, List.length_nil]; omega)) ?_
      · have := halvesB_drop (n := 1) hhq; simpa using this
      rintro e W4 ⟨A4, n4, c4, Am, nm, cm, rfl, hv4, hm4, b4⟩
      refine ⟨_, rfl, below_tr C3 b4, ?_⟩
      refine ⟨A4, n4, c4, Am, nm, cm, rfl, Fr.more hv4 (by have := A3'.size; omega), ?_, below_tr (below_tr hb1.drew C3) b4⟩
      have hm5 := missOk.more (W := w) hm4 A3'.size
      unfold missOk at hm5 ⊢
      cases hmm : (getP k q').miss with
      | none => rw [hmm] at hm5; exact hm5
      | some r => rw [hmm] at hm5; simp only [Option.map_some]; simp only [List.append_assoc, List.cons_append, List.nil_append] at hm5; exact hm5
theorem tget_any : ∀ (N : Nat), N ≤ 10000000 → ∀ t : Nd, sz t < N → GetOk t
  | 0, _, t, h => by omega
  | N + 1, hN, t, h => tget_step N (fun k hk => tget_any N (by omega) k hk) t (by omega) (by omega)
end Go.Proofs.Ytkfbkhahkkmcoaa
namespace Go.Proofs.Ytkfbkhahkkmcoaa
open Go.RowKit

set_option maxHeartbeats 400000 in
theorem right_any (A : Option Addr) (n c B : Nat) (l : List UInt8) (w : World) (hr : Rd w B A n l) (hn : n ≤ 100000000000) :
    Calls Try.prog 75 #[.slice A n c] w fun e w' => e = .returned (.bool (halvesB l)) ∧ w = w' := by
  go_enter Try.func75, Try.ntmps75
  go_wp2
  go_loop [3] (fun i => ∃ (k : Nat), k ≤ n ∧ i = .int .i64 k ∧ halvesB (l.take k) = true) (fun i => n - (intOf i).toNat)
  case atStart => exact ⟨0, Nat.zero_le _, rfl, rfl⟩
  case round =>
    obtain ⟨k, hk, rfl, ht⟩ := hrel
    have Ht := Lib.hid ht
    clear ht
    have hln := hr.len
    by_cases hlt : k < n
    · obtain ⟨bb, off, rfl, hc⟩ := hr.at_ hlt
      have h0 := at8_lo l k
      have h1 := at8_hi l k
      have hkl : k < l.length := by omega
      clear hln
      by_cases h15 : at8 l k ≤ 15
      · go_wp2
        go_round
        case rel => exact ⟨k + 1, by omega, by go_num, halvesB_take l k hkl Ht.out h15⟩
        case measure => simp [intOf]; omega
      · go_wp2
        go_ret
        exact ⟨ret_bool (halvesB_no l k hkl (by omega)).symm, rfl⟩
    · have hkn : l.length ≤ k := by omega
      clear hln
      go_wp2
      go_ret
      exact ⟨ret_bool (by have := Ht.out; rw [List.take_of_length_le hkn] at this; exact this.symm), rfl⟩

set_option maxHeartbeats 800000 in
theorem common_any (A1 A2 : Option Addr) (n m c1 c2 B : Nat) (a b : List UInt8) (w : World) (h1 : Rd w B A1 n a) (h2 : Rd w B A2 m b) (hn : n ≤ 100000000000) (hm : m ≤ 100000000000) :
    Calls Try.prog 98 #[.slice A1 n c1, .slice A2 m c2] w fun e w' => e = .returned (.int .i64 (commonB a b)) ∧ ∃ d, w' = w.drewN d := by
  by_cases hmn : m < n
  all_goals
    go_enter Try.func98, Try.ntmps98
    go_wp2
    go_loopw [11] (fun i wr => ∃ (k d : Nat), k ≤ n ∧ k ≤ m ∧ i = .int .i64 k ∧ a.take k = b.take k ∧ wr = w.drewN d) (fun i _ => n - (intOf i).toNat)
    case atStart => exact ⟨0, 0, Nat.zero_le _, Nat.zero_le _, rfl, rfl, rfl⟩
    case round =>
      obtain ⟨k, d, hkn, hkm, rfl, ht, rfl⟩ := hrel
      have Ht := Lib.hid ht
      clear ht
      have hla := h1.len
      have hlb := h2.len
      by_cases hlt : k < n ∧ k < m
      · obtain ⟨hlt1, hlt2⟩ := hlt
        obtain ⟨bb1, off1, rfl, hc1⟩ := h1.at_ hlt1
        obtain ⟨bb2, off2, rfl, hc2⟩ := h2.at_ hlt2
        have hka : k < a.length := by omega
        have hkb : k < b.length := by omega
        clear hla hlb
        by_cases heq : at8 a k = at8 b k
        · have hq : (at8 a k != at8 b k) = false := by simp [heq]
          have He := Lib.hid heq
          clear heq
          go_wp2
          go_quiet (fail)
          go_wp2
          go_roundw
          case rel => exact ⟨k + 1, _, by omega, by omega, by go_num, take_both a b k Ht.out hka hkb ((at8_eq_iff a b k).1 He.out), rfl⟩
          case measure => simp [intOf]; omega
        · have hq : (at8 a k != at8 b k) = true := by simp [heq]
          have He := Lib.hid heq
          clear heq
          go_wp2
          go_quiet (fail)
          go_wp2
          go_ret
          exact ⟨ret_int (by rw [commonB_at a b k Ht.out hka hkb (fun e => He.out ((at8_eq_iff a b k).2 e))]), _, World.drewN_drewN ..⟩
      · have hmin : k = min a.length b.length := by omega
        have Hm := Lib.hid hmin
        clear hla hlb hmin
        go_wp2
        go_ret
        exact ⟨ret_int (by rw [commonB_end a b k Ht.out Hm.out]; have := Hm.out; have := h1.len; have := h2.len; omega), _, rfl⟩
end Go.Proofs.Ytkfbkhahkkmcoaa
namespace Go.Proofs.Ytkfbkhahkkmcoaa
open Go.RowKit

set_option maxHeartbeats 400000 in
theorem of_any (A : Option Addr) (n c : Nat) (l : List UInt8) (w : World) (hr : Rd w w.heap.size A n l) (hn : n ≤ 100000000000) :
    Calls Try.prog 61 #[.slice A n c] w fun e w' => ∃ A' c', e = .returned (.slice A' (2 * n) c') ∧ Own w' w.heap.size A' (2 * n) c' (ofB l) ∧ Below w.heap.size w w' := by
  go_enter Try.func61, Try.ntmps61
  go_wp2
  go_loopw [3, 8] (fun v i wr => ∃ (k : Nat) (A' : Option Addr) (c' : Nat), k ≤ n ∧ i = .int .i64 k ∧ v = .slice A' (2 * k) c' ∧ Own wr w.heap.size A' (2 * k) c' (ofB (l.take k)) ∧ Below w.heap.size w wr) (fun _ i _ => n - (intOf i).toNat)
  case atStart => exact ⟨0, none, 0, Nat.zero_le _, rfl, rfl, Own.nil_ _ _, Below.refl _ _⟩
  case round =>
    obtain ⟨k, A', c', hk, rfl, rfl, hown, hb⟩ := hrel
    have hln := hr.len
    by_cases hlt : k < n
    · obtain ⟨bb, off, rfl, hc⟩ := (hr.below hb).at_ hlt
      have h0 := at8_lo l k
      have h1 := at8_hi l k
      clear hln
      go_wp2_with (at_builtin; refine wpList_app rfl _ _ rfl rfl (hown.alloc _) rfl (Rd.lit2 _ _ _ (by omega) (by omega)) (by omega) (by simp; have := hb.size; omega) ?_; intro A2 c2 w2 hown2 hg2)
      have hb2 := (hb.alloc hb.size (.cells #[.int .u8 (at8 l k / 16), .int .u8 (at8 l k % 16)] 5)).grown hg2 (by simp; have := hb.size; omega) hown.lo
      go_roundw
      case rel => exact ⟨k + 1, A2, c2, by omega, by go_num, rfl, by rw [ofB_take l k (by rw [hr.len]; exact hlt)]; exact hown2, hb2⟩
      case measure => simp [intOf]; omega
    · have hk : k = n := by omega
      subst hk
      go_wp2
      go_ret
      exact ⟨A', c', rfl, by rw [List.take_of_length_le (by omega)] at hown; exact hown, hb⟩
end Go.Proofs.Ytkfbkhahkkmcoaa
