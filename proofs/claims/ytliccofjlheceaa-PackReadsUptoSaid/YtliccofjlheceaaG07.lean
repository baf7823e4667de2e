/- Tries, plainly: what may be; get, put, drop. Reference 07's walks: Same, own, right, Check, Much. The walk of trie.get. Halves of bytes: the walks of what only reads. Halves of bytes: the walks. The walks of trie.right, Get, leaf, along. The walks of slices.Clone of nodes, and of trie.hold. The walk of trie.fork. The walk of trie.put. The walks of trie.Put and behind. The walk of trie.settle. The walk of trie.drop. The walk of trie.drop. The walk of trie.Drop. Tries, plainly: put keeps what may be; what stands where; two that hold the same are one. No walk here. -/
import Derived.Test.YtliccofjlheceaaG06
import Derived.Test.YtliccofjlheceaaG04
import Derived.Test.YtliccofjlheceaaG05
import Derived.Deep.QuietTactic
import Derived.BigQuiet
import Derived.StillTailTactics
import Derived.Deep.RegionHeld3
import Derived.Deep.RegionLaw
namespace Go.Proofs.Ytliccofjlheceaa
theorem rightsP_all {even : Bool} {d : Nat} : ∀ {ks : List Nd}, rightsP even ks d = true → ∀ k ∈ ks, rightP even k d = true
  | [], _, k, h => by cases h
  | x :: ks, hr, k, h => by
    rw [rightsP, Bool.and_eq_true] at hr
    rcases List.mem_cons.1 h with rfl | h
    · exact hr.1
    · exact rightsP_all hr.2 k h
/-- The kinds of nodes that may be. -/
inductive Val (even : Bool) : Nd → Nat → Prop
  | none (d : Nat) (hd : d ≤ 400) : Val even noneN d
  | leaf (d : Nat) (p v : List UInt8) (hd : d ≤ 400) (hp : halvesB p = true) (hv : v.length ≤ 4000) (he : endsP (d + p.length) even = true) : Val even (.mk 1 p false v [] []) d
  | stub (d : Nat) (h : List UInt8) (hd : d ≤ 400) (hh : h.length = 32) : Val even (.mk 4 [] false [] [] h) d
  | way (d : Nat) (p : List UInt8) (k : Nd) (hd : d ≤ 400) (hp : halvesB p = true) (h0 : p ≠ []) (hk : k.kind = 3 ∨ k.kind = 4) (hr : Val even k (d + p.length)) : Val even (.mk 2 p false [] [k] []) d
  | branch (d : Nat) (has : Bool) (v : List UInt8) (ks : List Nd) (hd : d ≤ 400) (hv : v.length ≤ 4000) (hv0 : has = true ∨ v = []) (he : has = true → endsP d even = true) (h16 : ks.length = 16) (hr : ∀ k ∈ ks, Val even k (d + 1)) (hm : 2 ≤ (if has then 1 else 0) + manyN ks) : Val even (.mk 3 [] has v ks []) d
theorem nil_of_len {α : Type} {l : List α} (h : l.length = 0) : l = [] := List.eq_nil_of_length_eq_zero h
theorem val_of_right (even : Bool) : ∀ (N : Nat) (t : Nd) (d : Nat), sz t < N → rightP even t d = true → Val even t d
  | 0, t, d, h, _ => by omega
  | N + 1, t, d, hN, h => by
    have hsz := sz_eq t
    rw [rightP_eq] at h
    obtain ⟨k, p, has, v, ks, hs⟩ := t
    simp only [Nd.kind, Nd.path, Nd.has, Nd.val, Nd.kids, Nd.hash] at h hsz
    unfold ownP at h
    simp only [Bool.and_eq_true, decide_eq_true_eq] at h
    obtain ⟨hd, hv, hp, h⟩ := h
    by_cases h0 : k = 0
    · rw [if_pos h0] at h
      have h := of_decide_eq_true h
      obtain ⟨e1, e2, e3, e4, e5⟩ := h
      rw [nil_of_len e1, nil_of_len e2, nil_of_len e3, nil_of_len e4, e5, h0]
      exact .none d hd
    rw [if_neg h0] at h
    by_cases h1 : k = 1
    · rw [if_pos h1] at h
      simp only [Bool.and_eq_true, decide_eq_true_eq] at h
      obtain ⟨⟨e3, e4, e5⟩, he⟩ := h
      rw [nil_of_len e3, nil_of_len e4, e5, h1]
      exact .leaf d p v hd hp hv he
    rw [if_neg h1] at h
    by_cases h4 : k = 4
    · rw [if_pos h4] at h
      have h := of_decide_eq_true h
      obtain ⟨e1, e2, e3, e5, e6⟩ := h
      rw [nil_of_len e1, nil_of_len e2, nil_of_len e3, e5, h4]
      exact .stub d hs hd e6
    rw [if_neg h4] at h
    by_cases h2 : k = 2
    · rw [if_pos h2] at h
      simp only [Bool.and_eq_true, decide_eq_true_eq] at h
      obtain ⟨⟨e2, e4, e5, e1, e3⟩, hk, hr⟩ := h
      match ks, e3 with
      | [k0], _ =>
        rw [rightsP, rightsP, Bool.and_true] at hr
        have hz : szs [k0] = sz k0 := by rw [szs, szs]; omega
        rw [nil_of_len e2, nil_of_len e4, e5, h2]
        refine .way d p k0 hd hp (fun e => e1 (by rw [e]; rfl)) ?_ (val_of_right even N k0 _ (by omega) hr)
        unfold kindsB at hk
        rw [List.all_cons, Bool.and_eq_true, decide_eq_true_eq] at hk
        exact hk.1
    rw [if_neg h2] at h
    by_cases h3 : k = 3
    · rw [if_pos h3] at h
      simp only [Bool.and_eq_true, decide_eq_true_eq, Bool.or_eq_true, Bool.not_eq_true'] at h
      obtain ⟨⟨e1, e4, e5⟩, he, h16, hr, hm⟩ := h
      rw [nil_of_len e1, nil_of_len e4, h3]
      refine .branch d has v ks hd hv (e5.imp id nil_of_len) (fun e => by rcases he with he | he; rw [e] at he; cases he; exact he) h16 (fun k hk => val_of_right even N k _ (by have := szs_mem hk; omega) (rightsP_all hr k hk)) hm
    · rw [if_neg h3] at h; cases h
/-- What a look comes to: what stands there; is there something; the halves to a stub that is in the way. -/
structure GotN where
  v : List UInt8
  has : Bool
  miss : Option (List UInt8)
mutual
def getP : Nd → List UInt8 → GotN
  | .mk k p has v ks _, q =>
    if k = 4 then ⟨[], false, some []⟩
    else if k = 1 then ⟨v, decide (p = q), none⟩
    else if k = 2 then (if p <+: q then (let g := getsP ks 0 (q.drop p.length); ⟨g.v, g.has, g.miss.map (p ++ ·)⟩) else ⟨[], false, none⟩)
    else if k = 3 then (match q with
      | [] => ⟨v, has, none⟩
      | x :: q' => (let g := getsP ks x.toNat q'; ⟨g.v, g.has, g.miss.map (x :: ·)⟩))
    else ⟨[], false, none⟩
def getsP : List Nd → Nat → List UInt8 → GotN
  | [], _, _ => ⟨[], false, none⟩
  | t :: _, 0, q => getP t q
  | _ :: ts, i + 1, q => getsP ts i q
end
theorem getsP_at : ∀ {ks : List Nd} {i : Nat} {k : Nd} (q : List UInt8), ks[i]? = some k → getsP ks i q = getP k q
  | t :: ks, 0, k, q, h => by simp at h; subst h; rw [getsP]
  | t :: ks, i + 1, k, q, h => by rw [getsP]; exact getsP_at q (by simpa using h)
theorem getP_way0 {p q : List UInt8} {k : Nd} (h : ¬ p <+: q) : getP (.mk 2 p false [] [k] []) q = ⟨[], false, none⟩ := by unfold getP; simp [h]
theorem getP_way {p q : List UInt8} {k : Nd} (h : p <+: q) : getP (.mk 2 p false [] [k] []) q = ⟨(getP k (q.drop p.length)).v, (getP k (q.drop p.length)).has, (getP k (q.drop p.length)).miss.map (p ++ ·)⟩ := by
  have e := getsP_at (ks := [k]) (i := 0) (k := k) (q.drop p.length) rfl
  conv => lhs; rw [getP.eq_def]
  simp [h, e]
theorem getP_br0 {has : Bool} {v : List UInt8} {ks : List Nd} : getP (.mk 3 [] has v ks []) [] = ⟨v, has, none⟩ := by unfold getP; simp
theorem getP_br {has : Bool} {v : List UInt8} {ks : List Nd} {x : UInt8} {q : List UInt8} {k : Nd} (h : ks[x.toNat]? = some k) : getP (.mk 3 [] has v ks []) (x :: q) = ⟨(getP k q).v, (getP k q).has, (getP k q).miss.map (x :: ·)⟩ := by
  have e := getsP_at q h
  conv => lhs; rw [getP.eq_def]
  simp [e]
end Go.Proofs.Ytliccofjlheceaa
namespace Go.Proofs.Ytliccofjlheceaa
open Go.RowKit
theorem is_same0 : isFn Try.prog 14 = true := by kernel_rfl
theorem is_copy0 : isFn Try.prog 28 = true := by kernel_rfl
theorem is_r7own : isFn Try.prog 80 = true := by kernel_rfl
theorem is_r7right : isFn Try.prog 53 = true := by kernel_rfl
theorem is_r7check : isFn Try.prog 46 = true := by kernel_rfl
theorem is_r7same : isFn Try.prog 25 = true := by kernel_rfl
def ownR (t : Nd) : Bool := halvesB t.path && (decide (t.val.length ≤ 4000 ∧ (t.has = true → t.kind = 3)) && (
  if t.kind = 0 then decide (t.path.length + t.val.length + t.kids.length + t.hash.length = 0)
  else if t.kind = 1 then decide (t.kids.length + t.hash.length = 0)
  else if t.kind = 2 then decide (0 < t.path.length ∧ t.kids.length = 1 ∧ t.val.length + t.hash.length = 0 ∧ ((t.kids.headD noneN).kind = 3 ∨ (t.kids.headD noneN).kind = 4))
  else if t.kind = 3 then decide (t.kids.length = 16 ∧ t.path.length + t.hash.length = 0 ∧ 2 ≤ manyN t.kids + (if t.has then 1 else 0) ∧ (t.has = true ∨ t.val.length = 0))
  else if t.kind = 4 then decide (t.hash.length = 32 ∧ t.path.length + t.val.length + t.kids.length = 0)
  else false))
theorem and_tt {a b : Bool} (h1 : a = true) (h2 : b = true) : true = (a && b) := by rw [h1, h2]; rfl
theorem and_tf {a b : Bool} (h2 : b = false) : false = (a && b) := by rw [h2, Bool.and_false]
theorem manyN_snoc (ks : List Nd) (k : Nd) : manyN (ks ++ [k]) = manyN ks + (if k.kind = 0 then 0 else 1) := by
  unfold manyN
  rw [List.filter_append, List.length_append, List.filter_cons, List.filter_nil]
  by_cases h : k.kind = 0
  · rw [if_neg (by simp [h]), if_pos h]; rfl
  · rw [if_pos (by simp [h]), if_neg h]; rfl
set_option maxRecDepth 100000 in
set_option maxHeartbeats 1000000 in
theorem r7own_any (t : Nd) (ht : sz t ≤ 1000000000000) (gs : List (Option Nat)) (w : World) (cs : List Value) (hr : RdL w (Fd w gs) (dN t) cs) (hgs : ∀ b, some b ∈ gs → b < w.heap.size) :
    Calls Try.prog 80 #[.agg cs.toArray] w fun e w' => e = .returned (.bool (ownR t)) ∧ Below w.heap.size w w' := by
  refine calls_ev (args := [.agg cs.toArray]) mixed Try.func80 rfl (by kernel_rfl) ?_
  obtain ⟨Ap, cp, Av, cv, Ak, ck, Ah, ch, rfl, r1, r3, r4, r5⟩ := hr.node
  have hsz := sz_eq t
  have hsl := szs_len t.kids
  have M := ((St.start hgs).addD r4).addD r1
  clear r1 r3 r4 r5 hr
  refine s_box (ncs t Ap cp Av cv Ak ck Ah ch) M rfl ?_
  clear M
  rintro g1 W M
  have hB := M.B 0 rfl
  unfold ncs at hB
  have hbel := M.below
  have hpr := (M.rdb 0 rfl).2.2
  repeat' first
    | (refine p_fld fN0 rfl ?_)
    | (refine p_fld fN1 rfl ?_)
    | (refine p_fld fN2 rfl ?_)
    | (refine p_fld fN3 rfl ?_)
    | (refine p_fld fN4 rfl ?_)
    | (refine p_fld fN5 rfl ?_)
    | (refine v_load agg_int rfl (hB.at_ rfl) ?_)
    | (refine v_load agg_b rfl (hB.at_ rfl) ?_)
    | (refine v_load agg_bo rfl (hB.at_ rfl) ?_)
    | (refine v_load agg_ns rfl (hB.at_ rfl) ?_)
    | (refine p_len slb rfl ?_)
    | (refine p_len sln rfl ?_)
  refine lp Nat (fun i W' => i ≤ t.path.length ∧ W = W' ∧ halvesB (t.path.take i) = true) (fun i => [(1, .pointer (some ⟨g1, 0, none⟩)), (3, .int .i64 t.path.length), (4, .int .i64 t.val.length), (5, .int .i64 t.kids.length), (6, .int .i64 t.hash.length), (7, .int .i64 i)]) (fun i => t.path.length - i) 0 ⟨Nat.zero_le _, rfl, by simp [halvesB]⟩ (by repeat (first | exact trivial | refine ⟨rfl, ?_⟩)) ?_
  rintro i E5 W5 ⟨hi, rfl, hh⟩
  refine p_lt rfl rfl (fun hlt => ?_) (fun hge => ?_)
  ·
    repeat' first
      | (refine p_fld fN0 rfl ?_)
      | (refine p_fld fN1 rfl ?_)
      | (refine p_fld fN2 rfl ?_)
      | (refine p_fld fN3 rfl ?_)
      | (refine p_fld fN4 rfl ?_)
      | (refine p_fld fN5 rfl ?_)
      | (refine v_load agg_int rfl (hB.at_ rfl) ?_)
      | (refine v_load agg_b rfl (hB.at_ rfl) ?_)
      | (refine v_load agg_bo rfl (hB.at_ rfl) ?_)
      | (refine v_load agg_ns rfl (hB.at_ rfl) ?_)
      | (refine p_len slb rfl ?_)
      | (refine p_len sln rfl ?_)
    obtain ⟨b, off, rfl, hc⟩ := hpr.at_ (k := i) (by omega)
    have hb := at8_lo t.path i
    have e8 : at8 t.path i = ((t.path.getD i 0).toNat : Int) := rfl
    refine p_at slb rfl rfl rfl (by omega) ?_
    refine v_load agg_by' rfl (by rw [Addr.add_lit, Nat.mul_one]; exact hc) ?_
    refine p_gt rfl rfl (fun h15 => ?_) (fun h15 => ?_)
    · have := halvesB_no t.path i (by omega) (by omega)
      exact ⟨by unfold ownR; rw [this]; rfl, hbel⟩
    · refine p_addN (b := 1) rfl rfl (by omega) ?_
      exact ⟨i + 1, ⟨by omega, rfl, halvesB_take t.path i (by omega) hh (by omega)⟩, (by repeat (first | exact trivial | refine ⟨rfl, ?_⟩)), by omega⟩
  · have hin : i = t.path.length := by omega
    subst hin
    rw [List.take_of_length_le (Nat.le_refl _)] at hh
    have e0 : ownR t = (decide (t.val.length ≤ 4000 ∧ (t.has = true → t.kind = 3)) && (
        if t.kind = 0 then decide (t.path.length + t.val.length + t.kids.length + t.hash.length = 0)
        else if t.kind = 1 then decide (t.kids.length + t.hash.length = 0)
        else if t.kind = 2 then decide (0 < t.path.length ∧ t.kids.length = 1 ∧ t.val.length + t.hash.length = 0 ∧ ((t.kids.headD noneN).kind = 3 ∨ (t.kids.headD noneN).kind = 4))
        else if t.kind = 3 then decide (t.kids.length = 16 ∧ t.path.length + t.hash.length = 0 ∧ 2 ≤ manyN t.kids + (if t.has then 1 else 0) ∧ (t.has = true ∨ t.val.length = 0))
        else if t.kind = 4 then decide (t.hash.length = 32 ∧ t.path.length + t.val.length + t.kids.length = 0)
        else false)) := by unfold ownR; rw [hh]; rfl
    refine p_gt rfl rfl (fun hv => ?_) (fun hv => ?_)
    · refine ⟨ret_tf ?_, hbel⟩
      rw [e0, decide_eq_false (by omega)]; rfl
    cases hh2 : t.has with
    | true =>
      rw [hh2] at hB e0
      repeat' first
        | (refine p_fld fN0 rfl ?_)
        | (refine p_fld fN1 rfl ?_)
        | (refine p_fld fN2 rfl ?_)
        | (refine p_fld fN3 rfl ?_)
        | (refine p_fld fN4 rfl ?_)
        | (refine p_fld fN5 rfl ?_)
        | (refine v_load agg_int rfl (hB.at_ rfl) ?_)
        | (refine v_load agg_b rfl (hB.at_ rfl) ?_)
        | (refine v_load agg_bo rfl (hB.at_ rfl) ?_)
        | (refine v_load agg_ns rfl (hB.at_ rfl) ?_)
        | (refine p_len slb rfl ?_)
        | (refine p_len sln rfl ?_)
      refine p_ne rfl rfl (fun h3 => ?_) (fun h3 => ?_)
      ·
        repeat' first
          | (refine p_fld fN0 rfl ?_)
          | (refine p_fld fN1 rfl ?_)
          | (refine p_fld fN2 rfl ?_)
          | (refine p_fld fN3 rfl ?_)
          | (refine p_fld fN4 rfl ?_)
          | (refine p_fld fN5 rfl ?_)
          | (refine v_load agg_int rfl (hB.at_ rfl) ?_)
          | (refine v_load agg_b rfl (hB.at_ rfl) ?_)
          | (refine v_load agg_bo rfl (hB.at_ rfl) ?_)
          | (refine v_load agg_ns rfl (hB.at_ rfl) ?_)
          | (refine p_len slb rfl ?_)
          | (refine p_len sln rfl ?_)
        refine p_eq rfl rfl (fun h => absurd (h3.symm.trans h) (by decide)) (fun _ => ?_)
        refine p_eq rfl rfl (fun h => absurd (h3.symm.trans h) (by decide)) (fun _ => ?_)
        refine p_eq rfl rfl (fun h => absurd (h3.symm.trans h) (by decide)) (fun _ => ?_)
        refine p_eq rfl rfl (fun _ => ?_) (fun h => absurd h3 h)
        simp only [h3, if_true, if_false, Int.reduceEq, forall_const, false_implies, true_implies, and_true, true_and, true_or, false_or, Bool.false_eq_true] at e0
        refine lp (Nat × Nat) (fun s W' => s.1 ≤ t.kids.length ∧ W = W' ∧ s.2 = manyN (t.kids.take s.1)) (fun s => [(1, .pointer (some ⟨g1, 0, none⟩)), (3, .int .i64 t.path.length), (4, .int .i64 t.val.length), (5, .int .i64 t.kids.length), (6, .int .i64 t.hash.length), (8, .int .i64 s.2), (9, .int .i64 s.1)]) (fun s => t.kids.length - s.1) (0, 0) ⟨Nat.zero_le _, rfl, by simp [manyN]⟩ (by repeat (first | exact trivial | refine ⟨rfl, ?_⟩)) ?_
        rintro ⟨i, m⟩ E6 W6 ⟨hi, rfl, hm⟩
        dsimp only at hi hm
        refine p_lt rfl rfl (fun hlt => ?_) (fun hge => ?_)
        · dsimp only at hlt
          obtain ⟨k, hki⟩ : ∃ k, t.kids[i]? = some k := ⟨_, List.getElem?_eq_getElem (by omega)⟩
          obtain ⟨b, off, es, e0', hF, hes, hel, hc⟩ := (M.d1 1 rfl).kid hki
          obtain ⟨Ap5, cp5, Av5, cv5, Ak5, ck5, Ah5, ch5, rfl, -⟩ := hes.node
          repeat' first
            | (refine p_fld fN0 rfl ?_)
            | (refine p_fld fN1 rfl ?_)
            | (refine p_fld fN2 rfl ?_)
            | (refine p_fld fN3 rfl ?_)
            | (refine p_fld fN4 rfl ?_)
            | (refine p_fld fN5 rfl ?_)
            | (refine v_load agg_int rfl (hB.at_ rfl) ?_)
            | (refine v_load agg_b rfl (hB.at_ rfl) ?_)
            | (refine v_load agg_bo rfl (hB.at_ rfl) ?_)
            | (refine v_load agg_ns rfl (hB.at_ rfl) ?_)
            | (refine p_len slb rfl ?_)
            | (refine p_len sln rfl ?_)
          refine p_at sln (by show (Value.slice Ak t.kids.length ck) = _; rw [e0']) rfl rfl (by omega) ?_
          refine p_fld fN0 rfl ?_
          refine v_load agg_int rfl (hc 0 _ rfl) ?_
          have hmn : manyN (t.kids.take (i + 1)) = manyN (t.kids.take i) + (if k.kind = 0 then 0 else 1) := by
            have h1 := List.getElem?_eq_some_iff.1 hki
            rw [List.take_succ_eq_append_getElem h1.1, h1.2, manyN_snoc]
          have hml : manyN (t.kids.take i) ≤ i := by
            unfold manyN
            exact Nat.le_trans (List.length_filter_le _ _) (by rw [List.length_take]; omega)
          refine p_ne rfl rfl (fun h0 => ?_) (fun h0 => ?_)
          · rw [if_pos h0] at hmn
            refine p_addN (b := 1) rfl rfl (by dsimp only; omega) ?_
            exact ⟨(i + 1, m), ⟨by dsimp only; omega, rfl, by dsimp only; omega⟩, (by repeat (first | exact trivial | refine ⟨rfl, ?_⟩)), by dsimp only; omega⟩
          · rw [if_neg h0] at hmn
            refine p_addN (b := 1) rfl rfl (by dsimp only; omega) ?_
            refine p_addN (b := 1) rfl rfl (by dsimp only; omega) ?_
            exact ⟨(i + 1, m + 1), ⟨by dsimp only; omega, rfl, by dsimp only; omega⟩, (by repeat (first | exact trivial | refine ⟨rfl, ?_⟩)), by dsimp only; omega⟩
        · dsimp only at hge
          have hin : i = t.kids.length := by omega
          subst hin
          rw [List.take_of_length_le (Nat.le_refl _)] at hm
          subst hm
          have hml : manyN t.kids ≤ t.kids.length := by unfold manyN; exact List.length_filter_le _ _
          repeat' first
            | (refine p_fld fN0 rfl ?_)
            | (refine p_fld fN1 rfl ?_)
            | (refine p_fld fN2 rfl ?_)
            | (refine p_fld fN3 rfl ?_)
            | (refine p_fld fN4 rfl ?_)
            | (refine p_fld fN5 rfl ?_)
            | (refine v_load agg_int rfl (hB.at_ rfl) ?_)
            | (refine v_load agg_b rfl (hB.at_ rfl) ?_)
            | (refine v_load agg_bo rfl (hB.at_ rfl) ?_)
            | (refine v_load agg_ns rfl (hB.at_ rfl) ?_)
            | (refine p_len slb rfl ?_)
            | (refine p_len sln rfl ?_)
          refine p_addN (b := 1) rfl rfl (by omega) ?_
          refine p_eq rfl rfl (fun h16 => ?_) (fun h16 => ?_)
          · skip
            refine p_addN rfl rfl (by omega) ?_
            refine p_eq rfl rfl (fun hph => ?_) (fun hph => ?_)
            · refine p_ge rfl rfl (fun h2 => ?_) (fun h2 => ?_)
              · dsimp only at h2
                repeat' first
                  | (refine p_fld fN0 rfl ?_)
                  | (refine p_fld fN1 rfl ?_)
                  | (refine p_fld fN2 rfl ?_)
                  | (refine p_fld fN3 rfl ?_)
                  | (refine p_fld fN4 rfl ?_)
                  | (refine p_fld fN5 rfl ?_)
                  | (refine v_load agg_int rfl (hB.at_ rfl) ?_)
                  | (refine v_load agg_b rfl (hB.at_ rfl) ?_)
                  | (refine v_load agg_bo rfl (hB.at_ rfl) ?_)
                  | (refine v_load agg_ns rfl (hB.at_ rfl) ?_)
                  | (refine p_len slb rfl ?_)
                  | (refine p_len sln rfl ?_)
                refine ⟨ret_tf ?_, hbel⟩
                rw [e0]
                first
                  | exact and_tt (decide_eq_true (by omega)) (decide_eq_true (by omega))
                  | exact and_tf (decide_eq_false (by omega))
              · dsimp only at h2
                refine ⟨ret_tf ?_, hbel⟩
                rw [e0]
                first
                  | exact and_tt (decide_eq_true (by omega)) (decide_eq_true (by omega))
                  | exact and_tf (decide_eq_false (by omega))
            ·
              refine ⟨ret_tf ?_, hbel⟩
              rw [e0]
              first
                | exact and_tt (decide_eq_true (by omega)) (decide_eq_true (by omega))
                | exact and_tf (decide_eq_false (by omega))
          · skip
            refine ⟨ret_tf ?_, hbel⟩
            rw [e0]
            first
              | exact and_tt (decide_eq_true (by omega)) (decide_eq_true (by omega))
              | exact and_tf (decide_eq_false (by omega))
      · refine ⟨ret_tf ?_, hbel⟩
        rw [e0, decide_eq_false (fun h => h3 (h.2 rfl))]; rfl
    | false =>
      rw [hh2] at hB e0
      repeat' first
        | (refine p_fld fN0 rfl ?_)
        | (refine p_fld fN1 rfl ?_)
        | (refine p_fld fN2 rfl ?_)
        | (refine p_fld fN3 rfl ?_)
        | (refine p_fld fN4 rfl ?_)
        | (refine p_fld fN5 rfl ?_)
        | (refine v_load agg_int rfl (hB.at_ rfl) ?_)
        | (refine v_load agg_b rfl (hB.at_ rfl) ?_)
        | (refine v_load agg_bo rfl (hB.at_ rfl) ?_)
        | (refine v_load agg_ns rfl (hB.at_ rfl) ?_)
        | (refine p_len slb rfl ?_)
        | (refine p_len sln rfl ?_)
      refine p_eq rfl rfl (fun hk0 => ?_) (fun hk0 => ?_)
      ·
        simp only [hk0, if_true, if_false, Int.reduceEq, forall_const, false_implies, true_implies, and_true, true_and, true_or, false_or, Bool.false_eq_true] at e0
        refine p_addN rfl rfl (by omega) ?_
        refine p_addN rfl rfl (by omega) ?_
        refine p_addN rfl rfl (by omega) ?_
        refine p_eq rfl rfl (fun hq => ?_) (fun hq => ?_)
        ·
          refine ⟨ret_tf ?_, hbel⟩
          rw [e0]
          first
            | exact and_tt (decide_eq_true (by omega)) (decide_eq_true (by omega))
            | exact and_tf (decide_eq_false (by omega))
        ·
          refine ⟨ret_tf ?_, hbel⟩
          rw [e0]
          first
            | exact and_tt (decide_eq_true (by omega)) (decide_eq_true (by omega))
            | exact and_tf (decide_eq_false (by omega))
      refine p_eq rfl rfl (fun hk1 => ?_) (fun hk1 => ?_)
      ·
        simp only [hk1, if_true, if_false, Int.reduceEq, forall_const, false_implies, true_implies, and_true, true_and, true_or, false_or, Bool.false_eq_true] at e0
        refine p_addN rfl rfl (by omega) ?_
        refine p_eq rfl rfl (fun hq => ?_) (fun hq => ?_)
        ·
          refine ⟨ret_tf ?_, hbel⟩
          rw [e0]
          first
            | exact and_tt (decide_eq_true (by omega)) (decide_eq_true (by omega))
            | exact and_tf (decide_eq_false (by omega))
        ·
          refine ⟨ret_tf ?_, hbel⟩
          rw [e0]
          first
            | exact and_tt (decide_eq_true (by omega)) (decide_eq_true (by omega))
            | exact and_tf (decide_eq_false (by omega))
      refine p_eq rfl rfl (fun hk2 => ?_) (fun hk2 => ?_)
      ·
        simp only [hk2, if_true, if_false, Int.reduceEq, forall_const, false_implies, true_implies, and_true, true_and, true_or, false_or, Bool.false_eq_true] at e0
        refine p_gt rfl rfl (fun hp0 => ?_) (fun hp0 => ?_)
        · refine p_eq rfl rfl (fun hq1 => ?_) (fun hq1 => ?_)
          · have hq1' : t.kids.length = 1 := by omega
            refine p_addN rfl rfl (by omega) ?_
            refine p_eq rfl rfl (fun hq2 => ?_) (fun hq2 => ?_)
            · obtain ⟨k, hki⟩ : ∃ k, t.kids[0]? = some k := ⟨_, List.getElem?_eq_getElem (by omega)⟩
              have hkd : t.kids.headD noneN = k := by
                cases hks : t.kids with
                | nil => rw [hks] at hki; cases hki
                | cons a l => rw [hks] at hki; injection hki
              obtain ⟨b, off, es, e0', hF, hes, hel, hc⟩ := (M.d1 1 rfl).kid hki
              obtain ⟨Ap5, cp5, Av5, cv5, Ak5, ck5, Ah5, ch5, rfl, -⟩ := hes.node
              rw [hkd] at e0
              repeat' first
                | (refine p_fld fN0 rfl ?_)
                | (refine p_fld fN1 rfl ?_)
                | (refine p_fld fN2 rfl ?_)
                | (refine p_fld fN3 rfl ?_)
                | (refine p_fld fN4 rfl ?_)
                | (refine p_fld fN5 rfl ?_)
                | (refine v_load agg_int rfl (hB.at_ rfl) ?_)
                | (refine v_load agg_b rfl (hB.at_ rfl) ?_)
                | (refine v_load agg_bo rfl (hB.at_ rfl) ?_)
                | (refine v_load agg_ns rfl (hB.at_ rfl) ?_)
                | (refine p_len slb rfl ?_)
                | (refine p_len sln rfl ?_)
              refine p_at (i := 0) sln (by show (Value.slice Ak t.kids.length ck) = _; rw [e0']) rfl rfl (by omega) ?_
              refine p_fld fN0 rfl ?_
              refine v_load agg_int rfl (hc 0 _ rfl) ?_
              refine p_eq rfl rfl (fun hq3 => ?_) (fun hq3 => ?_)
              ·
                refine ⟨ret_tf ?_, hbel⟩
                rw [e0]
                first
                  | exact and_tt (decide_eq_true (by omega)) (decide_eq_true (by omega))
                  | exact and_tf (decide_eq_false (by omega))
              ·
                repeat' first
                  | (refine p_fld fN0 rfl ?_)
                  | (refine p_fld fN1 rfl ?_)
                  | (refine p_fld fN2 rfl ?_)
                  | (refine p_fld fN3 rfl ?_)
                  | (refine p_fld fN4 rfl ?_)
                  | (refine p_fld fN5 rfl ?_)
                  | (refine v_load agg_int rfl (hB.at_ rfl) ?_)
                  | (refine v_load agg_b rfl (hB.at_ rfl) ?_)
                  | (refine v_load agg_bo rfl (hB.at_ rfl) ?_)
                  | (refine v_load agg_ns rfl (hB.at_ rfl) ?_)
                  | (refine p_len slb rfl ?_)
                  | (refine p_len sln rfl ?_)
                refine p_at (i := 0) sln (by show (Value.slice Ak t.kids.length ck) = _; rw [e0']) rfl rfl (by omega) ?_
                refine p_fld fN0 rfl ?_
                refine v_load agg_int rfl (hc 0 _ rfl) ?_
                refine p_eq rfl rfl (fun hq4 => ?_) (fun hq4 => ?_)
                ·
                  refine ⟨ret_tf ?_, hbel⟩
                  rw [e0]
                  first
                    | exact and_tt (decide_eq_true (by omega)) (decide_eq_true (by omega))
                    | exact and_tf (decide_eq_false (by omega))
                ·
                  refine ⟨ret_tf ?_, hbel⟩
                  rw [e0]
                  first
                    | exact and_tt (decide_eq_true (by omega)) (decide_eq_true (by omega))
                    | exact and_tf (decide_eq_false (by omega))
            ·
              refine ⟨ret_tf ?_, hbel⟩
              rw [e0]
              first
                | exact and_tt (decide_eq_true (by omega)) (decide_eq_true (by omega))
                | exact and_tf (decide_eq_false (by omega))
          · have hq1' : t.kids.length ≠ 1 := by omega
            refine ⟨ret_tf ?_, hbel⟩
            rw [e0]
            first
              | exact and_tt (decide_eq_true (by omega)) (decide_eq_true (by omega))
              | exact and_tf (decide_eq_false (by omega))
        · have hp0' : ¬ 0 < t.path.length := by omega
          refine ⟨ret_tf ?_, hbel⟩
          rw [e0]
          first
            | exact and_tt (decide_eq_true (by omega)) (decide_eq_true (by omega))
            | exact and_tf (decide_eq_false (by omega))
      refine p_eq rfl rfl (fun h3 => ?_) (fun h3 => ?_)
      ·
        simp only [h3, if_true, if_false, Int.reduceEq, forall_const, false_implies, true_implies, and_true, true_and, true_or, false_or, Bool.false_eq_true] at e0
        refine lp (Nat × Nat) (fun s W' => s.1 ≤ t.kids.length ∧ W = W' ∧ s.2 = manyN (t.kids.take s.1)) (fun s => [(1, .pointer (some ⟨g1, 0, none⟩)), (3, .int .i64 t.path.length), (4, .int .i64 t.val.length), (5, .int .i64 t.kids.length), (6, .int .i64 t.hash.length), (8, .int .i64 s.2), (9, .int .i64 s.1)]) (fun s => t.kids.length - s.1) (0, 0) ⟨Nat.zero_le _, rfl, by simp [manyN]⟩ (by repeat (first | exact trivial | refine ⟨rfl, ?_⟩)) ?_
        rintro ⟨i, m⟩ E6 W6 ⟨hi, rfl, hm⟩
        dsimp only at hi hm
        refine p_lt rfl rfl (fun hlt => ?_) (fun hge => ?_)
        · dsimp only at hlt
          obtain ⟨k, hki⟩ : ∃ k, t.kids[i]? = some k := ⟨_, List.getElem?_eq_getElem (by omega)⟩
          obtain ⟨b, off, es, e0', hF, hes, hel, hc⟩ := (M.d1 1 rfl).kid hki
          obtain ⟨Ap5, cp5, Av5, cv5, Ak5, ck5, Ah5, ch5, rfl, -⟩ := hes.node
          repeat' first
            | (refine p_fld fN0 rfl ?_)
            | (refine p_fld fN1 rfl ?_)
            | (refine p_fld fN2 rfl ?_)
            | (refine p_fld fN3 rfl ?_)
            | (refine p_fld fN4 rfl ?_)
            | (refine p_fld fN5 rfl ?_)
            | (refine v_load agg_int rfl (hB.at_ rfl) ?_)
            | (refine v_load agg_b rfl (hB.at_ rfl) ?_)
            | (refine v_load agg_bo rfl (hB.at_ rfl) ?_)
            | (refine v_load agg_ns rfl (hB.at_ rfl) ?_)
            | (refine p_len slb rfl ?_)
            | (refine p_len sln rfl ?_)
          refine p_at sln (by show (Value.slice Ak t.kids.length ck) = _; rw [e0']) rfl rfl (by omega) ?_
          refine p_fld fN0 rfl ?_
          refine v_load agg_int rfl (hc 0 _ rfl) ?_
          have hmn : manyN (t.kids.take (i + 1)) = manyN (t.kids.take i) + (if k.kind = 0 then 0 else 1) := by
            have h1 := List.getElem?_eq_some_iff.1 hki
            rw [List.take_succ_eq_append_getElem h1.1, h1.2, manyN_snoc]
          have hml : manyN (t.kids.take i) ≤ i := by
            unfold manyN
            exact Nat.le_trans (List.length_filter_le _ _) (by rw [List.length_take]; omega)
          refine p_ne rfl rfl (fun h0 => ?_) (fun h0 => ?_)
          · rw [if_pos h0] at hmn
            refine p_addN (b := 1) rfl rfl (by dsimp only; omega) ?_
            exact ⟨(i + 1, m), ⟨by dsimp only; omega, rfl, by dsimp only; omega⟩, (by repeat (first | exact trivial | refine ⟨rfl, ?_⟩)), by dsimp only; omega⟩
          · rw [if_neg h0] at hmn
            refine p_addN (b := 1) rfl rfl (by dsimp only; omega) ?_
            refine p_addN (b := 1) rfl rfl (by dsimp only; omega) ?_
            exact ⟨(i + 1, m + 1), ⟨by dsimp only; omega, rfl, by dsimp only; omega⟩, (by repeat (first | exact trivial | refine ⟨rfl, ?_⟩)), by dsimp only; omega⟩
        · dsimp only at hge
          have hin : i = t.kids.length := by omega
          subst hin
          rw [List.take_of_length_le (Nat.le_refl _)] at hm
          subst hm
          have hml : manyN t.kids ≤ t.kids.length := by unfold manyN; exact List.length_filter_le _ _
          repeat' first
            | (refine p_fld fN0 rfl ?_)
            | (refine p_fld fN1 rfl ?_)
            | (refine p_fld fN2 rfl ?_)
            | (refine p_fld fN3 rfl ?_)
            | (refine p_fld fN4 rfl ?_)
            | (refine p_fld fN5 rfl ?_)
            | (refine v_load agg_int rfl (hB.at_ rfl) ?_)
            | (refine v_load agg_b rfl (hB.at_ rfl) ?_)
            | (refine v_load agg_bo rfl (hB.at_ rfl) ?_)
            | (refine v_load agg_ns rfl (hB.at_ rfl) ?_)
            | (refine p_len slb rfl ?_)
            | (refine p_len sln rfl ?_)
          skip
          refine p_eq rfl rfl (fun h16 => ?_) (fun h16 => ?_)
          · skip
            refine p_addN rfl rfl (by omega) ?_
            refine p_eq rfl rfl (fun hph => ?_) (fun hph => ?_)
            · refine p_ge rfl rfl (fun h2 => ?_) (fun h2 => ?_)
              · dsimp only at h2
                repeat' first
                  | (refine p_fld fN0 rfl ?_)
                  | (refine p_fld fN1 rfl ?_)
                  | (refine p_fld fN2 rfl ?_)
                  | (refine p_fld fN3 rfl ?_)
                  | (refine p_fld fN4 rfl ?_)
                  | (refine p_fld fN5 rfl ?_)
                  | (refine v_load agg_int rfl (hB.at_ rfl) ?_)
                  | (refine v_load agg_b rfl (hB.at_ rfl) ?_)
                  | (refine v_load agg_bo rfl (hB.at_ rfl) ?_)
                  | (refine v_load agg_ns rfl (hB.at_ rfl) ?_)
                  | (refine p_len slb rfl ?_)
                  | (refine p_len sln rfl ?_)
                refine p_eq rfl rfl (fun hv0 => ?_) (fun hv0 => ?_)
                ·
                  refine ⟨ret_tf ?_, hbel⟩
                  rw [e0]
                  first
                    | exact and_tt (decide_eq_true (by omega)) (decide_eq_true (by omega))
                    | exact and_tf (decide_eq_false (by omega))
                ·
                  refine ⟨ret_tf ?_, hbel⟩
                  rw [e0]
                  first
                    | exact and_tt (decide_eq_true (by omega)) (decide_eq_true (by omega))
                    | exact and_tf (decide_eq_false (by omega))
              · dsimp only at h2
                refine ⟨ret_tf ?_, hbel⟩
                rw [e0]
                first
                  | exact and_tt (decide_eq_true (by omega)) (decide_eq_true (by omega))
                  | exact and_tf (decide_eq_false (by omega))
            ·
              refine ⟨ret_tf ?_, hbel⟩
              rw [e0]
              first
                | exact and_tt (decide_eq_true (by omega)) (decide_eq_true (by omega))
                | exact and_tf (decide_eq_false (by omega))
          · skip
            refine ⟨ret_tf ?_, hbel⟩
            rw [e0]
            first
              | exact and_tt (decide_eq_true (by omega)) (decide_eq_true (by omega))
              | exact and_tf (decide_eq_false (by omega))
      refine p_eq rfl rfl (fun hk4 => ?_) (fun hk4 => ?_)
      ·
        simp only [hk4, if_true, if_false, Int.reduceEq, forall_const, false_implies, true_implies, and_true, true_and, true_or, false_or, Bool.false_eq_true] at e0
        refine p_eq rfl rfl (fun hq => ?_) (fun hq => ?_)
        · refine p_addN rfl rfl (by omega) ?_
          refine p_addN rfl rfl (by omega) ?_
          refine p_eq rfl rfl (fun hq2 => ?_) (fun hq2 => ?_)
          ·
            refine ⟨ret_tf ?_, hbel⟩
            rw [e0]
            first
              | exact and_tt (decide_eq_true (by omega)) (decide_eq_true (by omega))
              | exact and_tf (decide_eq_false (by omega))
          ·
            refine ⟨ret_tf ?_, hbel⟩
            rw [e0]
            first
              | exact and_tt (decide_eq_true (by omega)) (decide_eq_true (by omega))
              | exact and_tf (decide_eq_false (by omega))
        ·
          refine ⟨ret_tf ?_, hbel⟩
          rw [e0]
          first
            | exact and_tt (decide_eq_true (by omega)) (decide_eq_true (by omega))
            | exact and_tf (decide_eq_false (by omega))
      · refine ⟨ret_tf ?_, hbel⟩
        rw [e0, if_neg hk0, if_neg hk1, if_neg hk2, if_neg h3, if_neg hk4, Bool.and_false]
end Go.Proofs.Ytliccofjlheceaa
namespace Go.Proofs.Ytliccofjlheceaa
open Go.RowKit
theorem halvesB_drop {q : List UInt8} {n : Nat} (h : halvesB q = true) : halvesB (q.drop n) = true := by
  unfold halvesB at *
  rw [List.all_eq_true] at *
  exact fun x hx => h x (List.mem_of_mem_drop hx)
def missOk (W : World) (F : Nat → Prop) (way : List UInt8) (m : Option (List UInt8)) (A : Option Addr) (n c : Nat) : Prop :=
  match m with
  | none => A = none ∧ n = 0 ∧ c = 0
  | some r => A ≠ none ∧ RdD W F (dB (way ++ r)) (.slice A n c)
theorem Own.fr {W W' : World} {n c : Nat} {A : Option Addr} {l : List UInt8} (h : Own W' W.heap.size A n c l) : RdD W' (Fr W W') (dB l) (.slice A n c) := h.frB fun b h1 h2 h3 => ⟨h1, h2, row_thaw h h3⟩
theorem Fr.more {W W1 W' : World} {d : D} {u : Value} (h : RdD W' (Fr W1 W') d u) (hb : W.heap.size ≤ W1.heap.size) : RdD W' (Fr W W') d u := h.to fun b hb' => ⟨rfl, by have := hb'.1; omega, hb'.2⟩
theorem missOk.more {W W1 W' : World} {way : List UInt8} {m : Option (List UInt8)} {A : Option Addr} {n c : Nat} (h : missOk W' (Fr W1 W') way m A n c) (hb : W.heap.size ≤ W1.heap.size) : missOk W' (Fr W W') way m A n c := by
  unfold missOk at *
  cases m with
  | none => exact h
  | some r => exact ⟨h.1, Fr.more h.2 hb⟩
end Go.Proofs.Ytliccofjlheceaa
namespace Go.Proofs.Ytliccofjlheceaa
open Go.RowKit

set_option maxHeartbeats 400000 in
theorem halves_any (A : Option Addr) (n c B : Nat) (l : List UInt8) (w : World) (hr : Rd w B A n l) (hn : n ≤ 100000000000) :
    Calls Try.prog 92 #[.slice A n c] w fun e w' => e = .returned (.bool (halvesB l)) ∧ w = w' := by
  go_enter Try.func92, Try.ntmps92
  go_wp2
  go_loop [7] (fun i => ∃ (k : Nat), k ≤ n ∧ i = .int .i64 k ∧ halvesB (l.take k) = true) (fun i => n - (intOf i).toNat)
  case atStart => exact ⟨0, Nat.zero_le _, rfl, rfl⟩
  case round =>
    obtain ⟨k, hk, rfl, ht⟩ := hrel
    have Ht := Lib.hid ht
    clear ht
    have hln := hr.len
    by_cases hlt : k < n
    · obtain ⟨bb, off, rfl, hc⟩ := hr.at_ hlt
      have h0 := at8_lo l k
      have h1 := at8_hi l k
      have hkl : k < l.length := by omega
      clear hln
      by_cases h15 : at8 l k ≤ 15
      · go_wp2
        go_round
        case rel => exact ⟨k + 1, by omega, by go_num, halvesB_take l k hkl Ht.out h15⟩
        case measure => simp [intOf]; omega
      · go_wp2
        go_ret
        exact ⟨ret_bool (halvesB_no l k hkl (by omega)).symm, rfl⟩
    · have hkn : l.length ≤ k := by omega
      clear hln
      go_wp2
      go_ret
      exact ⟨ret_bool (by have := Ht.out; rw [List.take_of_length_le hkn] at this; exact this.symm), rfl⟩

set_option maxHeartbeats 400000 in
theorem right_any (A : Option Addr) (n c B : Nat) (l : List UInt8) (w : World) (hr : Rd w B A n l) (hn : n ≤ 100000000000) :
    Calls Try.prog 97 #[.slice A n c] w fun e w' => e = .returned (.bool (halvesB l)) ∧ w = w' := by
  go_enter Try.func97, Try.ntmps97
  go_wp2
  go_loop [3] (fun i => ∃ (k : Nat), k ≤ n ∧ i = .int .i64 k ∧ halvesB (l.take k) = true) (fun i => n - (intOf i).toNat)
  case atStart => exact ⟨0, Nat.zero_le _, rfl, rfl⟩
  case round =>
    obtain ⟨k, hk, rfl, ht⟩ := hrel
    have Ht := Lib.hid ht
    clear ht
    have hln := hr.len
    by_cases hlt : k < n
    · obtain ⟨bb, off, rfl, hc⟩ := hr.at_ hlt
      have h0 := at8_lo l k
      have h1 := at8_hi l k
      have hkl : k < l.length := by omega
      clear hln
      by_cases h15 : at8 l k ≤ 15
      · go_wp2
        go_round
        case rel => exact ⟨k + 1, by omega, by go_num, halvesB_take l k hkl Ht.out h15⟩
        case measure => simp [intOf]; omega
      · go_wp2
        go_ret
        exact ⟨ret_bool (halvesB_no l k hkl (by omega)).symm, rfl⟩
    · have hkn : l.length ≤ k := by omega
      clear hln
      go_wp2
      go_ret
      exact ⟨ret_bool (by have := Ht.out; rw [List.take_of_length_le hkn] at this; exact this.symm), rfl⟩

end Go.Proofs.Ytliccofjlheceaa
namespace Go.Proofs.Ytliccofjlheceaa
open Go.RowKit

set_option maxHeartbeats 400000 in
theorem of_any (A : Option Addr) (n c : Nat) (l : List UInt8) (w : World) (hr : Rd w w.heap.size A n l) (hn : n ≤ 100000000000) :
    Calls Try.prog 94 #[.slice A n c] w fun e w' => ∃ A' c', e = .returned (.slice A' (2 * n) c') ∧ Own w' w.heap.size A' (2 * n) c' (ofB l) ∧ Below w.heap.size w w' := by
  go_enter Try.func94, Try.ntmps94
  go_wp2
  go_loopw [3, 8] (fun v i wr => ∃ (k : Nat) (A' : Option Addr) (c' : Nat), k ≤ n ∧ i = .int .i64 k ∧ v = .slice A' (2 * k) c' ∧ Own wr w.heap.size A' (2 * k) c' (ofB (l.take k)) ∧ Below w.heap.size w wr) (fun _ i _ => n - (intOf i).toNat)
  case atStart => exact ⟨0, none, 0, Nat.zero_le _, rfl, rfl, Own.nil_ _ _, Below.refl _ _⟩
  case round =>
    obtain ⟨k, A', c', hk, rfl, rfl, hown, hb⟩ := hrel
    have hln := hr.len
    by_cases hlt : k < n
    · obtain ⟨bb, off, rfl, hc⟩ := (hr.below hb).at_ hlt
      have h0 := at8_lo l k
      have h1 := at8_hi l k
      clear hln
      go_wp2_with (at_builtin; refine wpList_app rfl _ _ rfl rfl (hown.alloc _) rfl (Rd.lit2 _ _ _ (by omega) (by omega)) (by omega) (by simp; have := hb.size; omega) ?_; intro A2 c2 w2 hown2 hg2)
      have hb2 := (hb.alloc hb.size (.cells #[.int .u8 (at8 l k / 16), .int .u8 (at8 l k % 16)] 5)).grown hg2 (by simp; have := hb.size; omega) hown.lo
      go_roundw
      case rel => exact ⟨k + 1, A2, c2, by omega, by go_num, rfl, by rw [ofB_take l k (by rw [hr.len]; exact hlt)]; exact hown2, hb2⟩
      case measure => simp [intOf]; omega
    · have hk : k = n := by omega
      subst hk
      go_wp2
      go_ret
      exact ⟨A', c', rfl, by rw [List.take_of_length_le (by omega)] at hown; exact hown, hb⟩
set_option maxHeartbeats 400000 in
theorem joined_any (A : Option Addr) (n c : Nat) (l : List UInt8) (w : World) (hr : Rd w w.heap.size A n l) (hn : n ≤ 100000000000) (hh : halvesB l = true) :
    Calls Try.prog 93 #[.slice A n c] w fun e w' => ∃ A' c', e = .returned (.slice A' (n / 2) c') ∧ Own w' w.heap.size A' (n / 2) c' (joinB l) ∧ Below w.heap.size w w' := by
  have Hh := Lib.hid hh
  clear hh
  go_enter Try.func93, Try.ntmps93
  go_wp2
  go_loopw [3, 4] (fun v i wr => ∃ (k : Nat) (A' : Option Addr) (c' : Nat), 2 * k ≤ n ∧ i = .int .i64 ((2 * k + 1 : Nat) : Int) ∧ v = .slice A' k c' ∧ Own wr w.heap.size A' k c' (joinB (l.take (2 * k))) ∧ Below w.heap.size w wr) (fun _ i _ => n + 1 - (intOf i).toNat)
  case atStart => exact ⟨0, none, 0, by omega, rfl, rfl, Own.nil_ _ _, Below.refl _ _⟩
  case round =>
    obtain ⟨k, A', c', hk, rfl, rfl, hown, hb⟩ := hrel
    have hln := hr.len
    by_cases hlt : 2 * k + 1 < n
    · obtain ⟨bb, off, rfl, hc⟩ := (hr.below hb).at_ (k := 2 * k) (by omega)
      obtain ⟨bb', off', e, hc'⟩ := (hr.below hb).at_ (k := 2 * k + 1) (by omega)
      injection e with e
      injection e with e1 e2
      subst e1 e2
      have h0 := at8_lo l (2 * k)
      have h1 := at8_lo l (2 * k + 1)
      have h2 := halvesB_at l Hh.out (2 * k)
      have h3 := halvesB_at l Hh.out (2 * k + 1)
      have hkl : 2 * k + 1 < l.length := by omega
      clear hln
      have hor := or_halves (at8 l (2 * k)) (at8 l (2 * k + 1)) h0 h2 h1 h3
      have hown' := Lib.hid hown
      have hw1 : IntKind.i64.wrap (2 * (k : Int)) = 2 * (k : Int) := IntWalk.i64_in _ (by omega)
      have hw2 : (2 * (k : Int)).toNat = 2 * k := by omega
      have hw4 : (2 * (k : Int) + 1).toNat = 2 * k + 1 := by omega
      have hw5 : (0 : Int) ≤ 2 * (k : Int) := by omega
      have hw6 : (2 * (k : Int)) < (n : Int) := by omega
      have hw7 : (0 : Int) ≤ 2 * (k : Int) + 1 := by omega
      have hw8 : (2 * (k : Int) + 1) < (n : Int) := by omega
      have hw3 : IntKind.u8.wrap (at8 l (2 * k) * 16) = at8 l (2 * k) * 16 := IntWalk.u8_in _ (by omega)
      go_wp2
      go_region_law (refine step_app rfl _ _ rfl rfl ((hown'.out).drew.alloc _) rfl (Rd.lit1 _ _ (by omega)) (by omega) (by simp; have := hb.size; omega) ?_; intro A2 c2 w2 hown2 hg2)
      all_goals
        have hb2 := ((hb.alloc hb.size (.cells #[.int .u8 (at8 l (2 * k) * 16 + at8 l (2 * k + 1))] 5)).drew).grown hg2 (by simp; have := hb.size; omega) hown.lo
        have hj := Lib.hid (joinB_take8 l k hkl Hh.out)
        clear hown hb hor hw1 hw2 hw3 hw4 hc hc' hown' hg2
        go_wp2
        go_roundw
        case rel => exact ⟨k + 1, A2, c2, by omega, by go_num, rfl, by rw [hj.out]; exact hown2, hb2⟩
        case measure => simp [intOf]; omega
    · have hkn : k = n / 2 := by omega
      have hend := Lib.hid (joinB_all l k (by omega) (by omega))
      have Hk := Lib.hid hkn
      clear hln hkn
      go_wp2
      go_ret
      exact ⟨A', c', ret_slice Hk.out, by rw [hend.out] at hown; rw [← Hk.out]; exact hown, hb⟩

end Go.Proofs.Ytliccofjlheceaa
namespace Go.Proofs.Ytliccofjlheceaa
open Go.RowKit
/-- What trie.Get answers. -/
structure GotE where
  v : List UInt8
  has : Bool
  miss : Option (List UInt8)
  e : Int
def leafN (p v : List UInt8) : Nd := .mk 1 p false v [] []
def alongN (p : List UInt8) (t : Nd) : Nd := if p = [] then t else .mk 2 p false [] [t] []
end Go.Proofs.Ytliccofjlheceaa
namespace Go.Proofs.Ytliccofjlheceaa
open Go.RowKit
/-- The place of an element. -/
theorem p_atL {P : Program} {E : Env} {d : Option Nat} {ty : TypeId} {p : String} {af : Array Edge} {g : Option (Nat × Bool)} {x y : Operand} {t : TypeId} {kd : IntKind} {k : Value → Prop} {b o q n c i : Nat} {e : TypeId} {s : Nat} {j : Int} (hT : slOf P t = some (e, s)) (hx : val E x = .slice (some ⟨b, o, none⟩) n c) (hy : val E y = .int kd j) (hj : j = (i : Int)) (hi : i < n) (hq : o + i * s = q)
    (h : k (.pointer (some ⟨b, q, none⟩))) : VPure P E { dst := d, op := .indexAddr t x y, type := ty, pos := p, after := af, guard := g } k :=
  p_at hT hx hy hj hi (by rw [Addr.add_lit, hq]; exact h)
/-- A branch that is still made: its block, that of its kids. -/
def BrS (W : World) (gs : List (Option Nat)) (gb gk ck : Nat) (has : Bool) (v : List UInt8) (ks : List Nd) : Prop :=
  ∃ Av cv xs rest, Blk W gb 38 [.int .i64 3, .slice none 0 0, .bool has, .slice Av v.length cv, .slice (some ⟨gk, 0, none⟩) 16 ck, .slice none 0 0] ∧ RdD W (Fd W gs) (dB v) (.slice Av v.length cv) ∧ Blk W gk 38 (xs ++ rest) ∧ RdL W (Fd W gs) (dNs ks) xs ∧ ks.length = 16 ∧ gb ≠ gk ∧ some gb ∈ gs ∧ some gk ∈ gs ∧ 16 ≤ ck
def holdK (has : Bool) (v : List UInt8) (ks : List Nd) (p val : List UInt8) : Bool × List UInt8 × List Nd :=
  match p with
  | [] => (true, val, ks)
  | x :: q => (has, v, ks.set x.toNat (leafN q val))
theorem dNs_set : ∀ {ks : List Nd} {i : Nat} (k : Nd), i < ks.length → dNs (ks.set i k) = (dNs ks).take (i * 6) ++ dN k ++ (dNs ks).drop (i * 6 + 6)
  | t :: ks, 0, k, _ => by
    rw [List.set_cons_zero, dNs, dNs, Nat.zero_mul, List.take_zero, List.nil_append, Nat.zero_add, List.drop_left' (dN_len t)]
  | t :: ks, i + 1, k, h => by
    rw [List.set_cons_succ, dNs, dNs, dNs_set k (by simpa using h), show (i + 1) * 6 = (dN t).length + i * 6 by rw [dN_len]; omega, List.take_length_add_append, show (dN t).length + i * 6 + 6 = (dN t).length + (i * 6 + 6) by omega, List.drop_length_add_append]
    simp only [List.append_assoc]
theorem halves_hd {x : UInt8} {q : List UInt8} (h : halvesB (x :: q) = true) : x.toNat < 16 := by
  unfold halvesB at h
  have := List.all_eq_true.1 h x (by simp)
  have := of_decide_eq_true this
  rw [UInt8.le_iff_toNat_le] at this
  have e15 : (15 : UInt8).toNat = 15 := rfl
  omega
end Go.Proofs.Ytliccofjlheceaa
namespace Go.Proofs.Ytliccofjlheceaa
open Go.RowKit
def zNs (n : Nat) : List Value := (List.replicate n zN).flatten
def noneNs (n : Nat) : List Nd := List.replicate n noneN
theorem RdL.znone {W : World} {F : Nat → Prop} : RdL W F (dN noneN) zN :=
  RdL.ofnode (t := noneN) (Ap := none) (cp := 0) (Av := none) (cv := 0) (Ak := none) (ck := 0) (Ah := none) (ch := 0) (RdD.nil_ _ _) (RdD.nil_ _ _) (RdD.nil_ _ _) (RdD.nil_ _ _)
theorem RdL.znones {W : World} {F : Nat → Prop} : ∀ n, RdL W F (dNs (noneNs n)) (zNs n)
  | 0 => RdL.nil_
  | n + 1 => by
    show RdL W F (dN noneN ++ dNs (noneNs n)) (zN ++ zNs n)
    exact RdL.znone.app (RdL.znones n)
set_option maxRecDepth 100000 in
theorem made16 : (madeCells (Value.agg #[.int .i64 0, .slice none 0 0, .bool false, .slice none 0 0, .slice none 0 0, .slice none 0 0]).cells (16 * 6)).toList = zNs 16 := by kernel_rfl
set_option maxRecDepth 100000 in
/-- make([]Node, 16) -/
theorem v_mkN {E : Env} {d : Option Nat} {ty : TypeId} {p : String} {af : Array Edge} {gd : Option (Nat × Bool)} {l c : Operand} {kw : Value → World → Prop} {w : World} (hl : val E l = .int .i64 ((16 : Nat) : Int)) (hc : val E c = .int .i64 ((16 : Nat) : Int))
    (h : ∀ g w', g = w.heap.size → Blk w' g 38 (zNs 16) → Below g w w' → kw (.slice (some ⟨g, 0, none⟩) 16 16) w') :
    VVal Try.prog E { dst := d, op := .makeSlice 36 l c, type := ty, pos := p, after := af, guard := gd } w kw := by
  obtain ⟨i, hi0, hz0, hz1, hz2⟩ := info_parts inf_nd
  obtain ⟨w', hrun, hrow, hg⟩ := run_make_full (P := Try.prog) (w := w) w.heap.size 36 38 i _ 6 Try.underlying36 hi0 hz0 hz1 .i64 .i64 16 (by rw [hz2]; decide) (by unfold maxLen; decide) (Nat.le_refl _)
  refine vv (v := .slice (some ⟨w.heap.size, 0, none⟩) 16 16) (w' := w') ?_ (h _ _ rfl ?_ ⟨hg.os, hg.tape, hg.output, hg.size, fun b hb => hg.block b hb (by simp)⟩)
  · have hrun' : (Instr.makeSlice 36 (.int .i64 (16 : Int)) (.int .i64 (16 : Int))).run Try.prog w = _ := hrun
    simp [execOp, hl, hc, hrun']
  · rcases hrow.2 with ⟨_, h0⟩ | ⟨g', cap, cur, hv, hbg, hh, hnc, _, hcs, htk⟩
    · exact absurd h0 (by decide)
    · injection hv with hA _ hc'
      injection hA with hA
      injection hA with hA
      subst hA; subst hc'
      have e : cur.toList = zNs 16 := by
        rw [← made16, ← htk]
        refine (List.take_of_length_le ?_).symm
        simp at hcs ⊢
        omega
      rw [← e]
      unfold Blk
      rw [hh]
theorem BrS.drew {W : World} {gs : List (Option Nat)} {gb gk ck : Nat} {has : Bool} {v : List UInt8} {ks : List Nd} (h : BrS W gs gb gk ck has v ks) : BrS W.drew gs gb gk ck has v ks := by
  obtain ⟨Av, cv, xs, rest, h1, h2, h3, h4, h5⟩ := h
  exact ⟨Av, cv, xs, rest, h1, h2.up Stp.drew, h3, h4.up Stp.drew, h5⟩
theorem BrS.node {W : World} {gs gs' : List (Option Nat)} {gb gk ck : Nat} {has : Bool} {v : List UInt8} {ks : List Nd} (h : BrS W gs gb gk ck has v ks) (s : Stp W gs W gs') (hn : some gk ∉ gs') :
    ∃ Av cv, Blk W gb 38 (ncs (.mk 3 [] has v ks []) none 0 Av cv (some ⟨gk, 0, none⟩) ck none 0) ∧ RdL W (Fd W gs') (dN (.mk 3 [] has v ks [])) (ncs (.mk 3 [] has v ks []) none 0 Av cv (some ⟨gk, 0, none⟩) ck none 0) := by
  obtain ⟨Av, cv, xs, rest, hB, hV, hK, hX, h16, hne, hgb, hgk, hck⟩ := h
  refine ⟨Av, cv, ?_, RdL.ofnode (t := .mk 3 [] has v ks []) (RdD.nil_ _ _) (hV.up s) ?_ (RdD.nil_ _ _)⟩
  · show Blk W gb 38 [.int .i64 3, .slice none 0 0, .bool has, .slice Av v.length cv, .slice (some ⟨gk, 0, none⟩) ks.length ck, .slice none 0 0]
    rw [h16]; exact hB
  · refine RdD.sl_iff.2 ⟨_, ck, xs, rfl, by show ks.length ≤ ck; omega, dNs_len _, hX.up s, fun _ => ⟨gk, 0, rfl, ⟨hK.lt, hn⟩, fun j x hx => ?_⟩⟩
    rw [Nat.zero_add]
    refine hK.at_ ?_
    rw [List.getElem?_append_left (List.getElem?_eq_some_iff.1 hx).1]; exact hx
def forkN (t : Nd) (p val : List UInt8) : Nd :=
  let k := commonB t.path p
  let b := if t.kind = 1 then holdK false [] (noneNs 16) (t.path.drop k) t.val else (false, [], (noneNs 16).set (t.path.getD k 0).toNat (alongN (t.path.drop (k + 1)) (t.kids.headD noneN)))
  let b2 := holdK b.1 b.2.1 b.2.2 (p.drop k) val
  alongN (p.take k) (.mk 3 [] b2.1 b2.2.1 b2.2.2 [])
end Go.Proofs.Ytliccofjlheceaa
namespace Go.Proofs.Ytliccofjlheceaa
open Go.RowKit
mutual
/-- What trie.put comes to: the node, and the halves to a stub that is in the way. -/
def putP : Nd → List UInt8 → List UInt8 → Nd × Option (List UInt8)
  | .mk k p has v ks h, q, val =>
    if k = 4 then (.mk k p has v ks h, some [])
    else if k = 0 then (leafN q val, none)
    else if k = 1 then (if p = q then (leafN q val, none) else (forkN (.mk k p has v ks h) q val, none))
    else if k = 2 then (if p <+: q then (let r := putsP ks 0 (q.drop p.length) val; (.mk k p has v [r.1] h, r.2.map (p ++ ·))) else (forkN (.mk k p has v ks h) q val, none))
    else match q with
      | [] => (.mk k p true val ks h, none)
      | x :: q' => (let r := putsP ks x.toNat q' val; (.mk k p has v (ks.set x.toNat r.1) h, r.2.map (x :: ·)))
def putsP : List Nd → Nat → List UInt8 → List UInt8 → Nd × Option (List UInt8)
  | [], _, _, _ => (noneN, none)
  | t :: _, 0, q, val => putP t q val
  | _ :: ts, i + 1, q, val => putsP ts i q val
end
theorem putsP_at : ∀ {ks : List Nd} {i : Nat} {k : Nd} (q val : List UInt8), ks[i]? = some k → putsP ks i q val = putP k q val
  | t :: ks, 0, k, q, val, h => by simp at h; subst h; rw [putsP]
  | t :: ks, i + 1, k, q, val, h => by rw [putsP]; exact putsP_at q val (by simpa using h)
theorem putP_way0 {p q val : List UInt8} {k : Nd} (h : ¬ p <+: q) : putP (.mk 2 p false [] [k] []) q val = (forkN (.mk 2 p false [] [k] []) q val, none) := by
  conv => lhs; rw [putP.eq_def]
  simp [h]
theorem putP_way {p q val : List UInt8} {k : Nd} (h : p <+: q) : putP (.mk 2 p false [] [k] []) q val = (.mk 2 p false [] [(putP k (q.drop p.length) val).1] [], (putP k (q.drop p.length) val).2.map (p ++ ·)) := by
  have e := putsP_at (ks := [k]) (i := 0) (k := k) (q.drop p.length) val rfl
  conv => lhs; rw [putP.eq_def]
  simp [h, e]
theorem putP_br0 {has : Bool} {v val : List UInt8} {ks : List Nd} : putP (.mk 3 [] has v ks []) [] val = (.mk 3 [] true val ks [], none) := by
  conv => lhs; rw [putP.eq_def]
  simp
theorem putP_br {has : Bool} {v val : List UInt8} {ks : List Nd} {x : UInt8} {q : List UInt8} {k : Nd} (h : ks[x.toNat]? = some k) : putP (.mk 3 [] has v ks []) (x :: q) val = (.mk 3 [] has v (ks.set x.toNat (putP k q val).1) [], (putP k q val).2.map (x :: ·)) := by
  have e := putsP_at q val h
  conv => lhs; rw [putP.eq_def]
  simp [e]
theorem missOk.to {W W' : World} {F F' : Nat → Prop} {way : List UInt8} {m : Option (List UInt8)} {A : Option Addr} {n c : Nat} (h : missOk W F way m A n c) (hs : ∀ b, F b → W'.heap[b]? = W.heap[b]? ∧ F' b) : missOk W' F' way m A n c := by
  unfold missOk at *
  cases m with
  | none => exact h
  | some r => exact ⟨h.1, h.2.to hs⟩
theorem missOk.upz {W W' : World} {gs gs' : List (Option Nat)} {base : Nat} {way : List UInt8} {m : Option (List UInt8)} {A : Option Addr} {n c : Nat} (h : missOk W (Fz base W gs) way m A n c) (s : Stp W gs W' gs') : missOk W' (Fz base W' gs') way m A n c := by
  unfold missOk at *
  cases m with
  | none => exact h
  | some r => exact ⟨h.1, h.2.upz s⟩
theorem missOk.zfr {W W' : World} {gs : List (Option Nat)} {base : Nat} {way : List UInt8} {m : Option (List UInt8)} {A : Option Addr} {n c : Nat} (h : missOk W' (Fr W W') way m A n c) (hb : base ≤ W.heap.size) (hg : ∀ b, some b ∈ gs → b < W.heap.size) : missOk W' (Fz base W' gs) way m A n c := by
  unfold missOk at *
  cases m with
  | none => exact h
  | some r => exact ⟨h.1, h.2.zfr hb hg⟩
theorem At.stp {w W W' : World} {gs : List (Option Nat)} (_ : At w W gs) (hb : Below W.heap.size W W') : Stp W gs W' gs := Stp.below hb
theorem cellsB {W W' : World} {es : List Value} {a : Addr} (h : Below W.heap.size W W') (hc : ∀ j x, es[j]? = some x → W.cell? (a.add j) = some x) : ∀ j x, es[j]? = some x → W'.cell? (a.add j) = some x := fun j x hx => cellB h (hc j x hx)
end Go.Proofs.Ytliccofjlheceaa
namespace Go.Proofs.Ytliccofjlheceaa
open Go.RowKit
def behindN (p : List UInt8) (t : Nd) : Nd := if t.kind = 1 ∨ t.kind = 2 then .mk t.kind (p ++ t.path) t.has t.val t.kids t.hash else if t.kind = 0 then t else alongN p t
end Go.Proofs.Ytliccofjlheceaa
namespace Go.Proofs.Ytliccofjlheceaa
open Go.RowKit
/-- Which kid is the only one: none where there is more than one thing. -/
def scanK (has : Bool) : List Nd → Nat → Option Nat → Option (Option Nat)
  | [], _, o => some o
  | k :: ks, i, o => if k.kind = 0 then scanK has ks (i + 1) o else if o.isSome || has then none else scanK has ks (i + 1) (some i)
def settleP (t : Nd) : Nd × Option (List UInt8) :=
  match scanK t.has t.kids 0 none with
  | none => (t, none)
  | some none => (leafN [] t.val, none)
  | some (some i) => if (t.kids.getD i noneN).kind = 4 then (t, some [UInt8.ofNat i]) else (behindN [UInt8.ofNat i] (t.kids.getD i noneN), none)
end Go.Proofs.Ytliccofjlheceaa
namespace Go.Proofs.Ytliccofjlheceaa
open Go.RowKit
mutual
/-- What trie.drop comes to. -/
def dropP : Nd → List UInt8 → Nd × Option (List UInt8)
  | .mk k p has v ks h, q =>
    if k = 1 then (noneN, none)
    else if k = 2 then (let r := dropsP ks 0 (q.drop p.length); (behindN p r.1, r.2.map (p ++ ·)))
    else match q with
      | [] => settleP (.mk k p false [] ks h)
      | x :: q' => (let r := dropsP ks x.toNat q'; if r.2.isSome then (.mk k p has v ks h, r.2.map (x :: ·)) else settleP (.mk k p has v (ks.set x.toNat r.1) h))
def dropsP : List Nd → Nat → List UInt8 → Nd × Option (List UInt8)
  | [], _, _ => (noneN, none)
  | t :: _, 0, q => dropP t q
  | _ :: ts, i + 1, q => dropsP ts i q
end
theorem dropsP_at : ∀ {ks : List Nd} {i : Nat} {k : Nd} (q : List UInt8), ks[i]? = some k → dropsP ks i q = dropP k q
  | t :: ks, 0, k, q, h => by simp at h; subst h; rw [dropsP]
  | t :: ks, i + 1, k, q, h => by rw [dropsP]; exact dropsP_at q (by simpa using h)
theorem dropP_leaf {p v q : List UInt8} : dropP (.mk 1 p false v [] []) q = (noneN, none) := by
  conv => lhs; rw [dropP.eq_def]
  simp
theorem dropP_way {p q : List UInt8} {k : Nd} : dropP (.mk 2 p false [] [k] []) q = (behindN p (dropP k (q.drop p.length)).1, (dropP k (q.drop p.length)).2.map (p ++ ·)) := by
  have e := dropsP_at (ks := [k]) (i := 0) (k := k) (q.drop p.length) rfl
  conv => lhs; rw [dropP.eq_def]
  simp [e]
theorem dropP_br0 {has : Bool} {v : List UInt8} {ks : List Nd} : dropP (.mk 3 [] has v ks []) [] = settleP (.mk 3 [] false [] ks []) := by
  conv => lhs; rw [dropP.eq_def]
  simp
theorem dropP_br {has : Bool} {v : List UInt8} {ks : List Nd} {x : UInt8} {q : List UInt8} {k : Nd} (h : ks[x.toNat]? = some k) : dropP (.mk 3 [] has v ks []) (x :: q) = (if (dropP k q).2.isSome then (.mk 3 [] has v ks [], (dropP k q).2.map (x :: ·)) else settleP (.mk 3 [] has v (ks.set x.toNat (dropP k q).1) [])) := by
  have e := dropsP_at q h
  conv => lhs; rw [dropP.eq_def]
  simp [e]
theorem scan_lt {has : Bool} : ∀ {ks : List Nd} {i j : Nat} {o : Option Nat}, scanK has ks i o = some (some j) → (o = some j) ∨ (i ≤ j ∧ j < i + ks.length)
  | [], i, j, o, h => by unfold scanK at h; injection h with h; exact .inl h
  | k :: ks, i, j, o, h => by
    unfold scanK at h
    rw [List.length_cons]
    split at h
    · rcases scan_lt h with h | h
      · exact .inl h
      · right; omega
    · split at h
      · cases h
      · rcases scan_lt h with h | h
        · injection h with h; right; omega
        · right; omega
theorem getP_none {q : List UInt8} : getP noneN q = ⟨[], false, none⟩ := by unfold noneN getP; simp
theorem getP_stub {h q : List UInt8} : getP (.mk 4 [] false [] [] h) q = ⟨[], false, some []⟩ := by unfold getP; simp
end Go.Proofs.Ytliccofjlheceaa
namespace Go.Proofs.Ytliccofjlheceaa
open Go.RowKit
/-- A way to a stub, or nil, as a datum. -/
def missD (way : List UInt8) : Option (List UInt8) → D
  | none => .v (.slice none 0 0)
  | some r => dB (way ++ r)
theorem missOk.mk {W : World} {F : Nat → Prop} {way : List UInt8} {m : Option (List UInt8)} {A : Option Addr} {n c : Nat} (h : RdD W F (missD way m) (.slice A n c)) (h0 : m.isSome = true → A ≠ none) : missOk W F way m A n c := by
  cases m with
  | none => have := RdD.val.1 h; injection this with e1 e2 e3; exact ⟨e1, e2, e3⟩
  | some r => exact ⟨h0 rfl, h⟩
theorem St.kid {w W : World} {gs : List (Option Nat)} {L : Lc} {R : List Row} {fs : List Fact} (M : St w gs W L R fs) {ks : List Nd} {A : Option Addr} {n c i : Nat} {k : Nd} (h : RdD W (Fd W (own L R gs)) (dKs ks) (.slice A n c)) (hk : ks[i]? = some k) :
    ∃ b off es, A = some ⟨b, off, none⟩ ∧ es.length = 6 ∧ St w gs W L R (.loc ((⟨b, off, none⟩ : Addr).add (i * 6)) es :: .dat false (dN k) es :: fs) := by
  obtain ⟨b, off, es, e, hF, hes, hel, hc⟩ := h.kid hk
  exact ⟨b, off, es, e, hel, (M.addL hes).addC (by rw [block_of_add]; exact hF) hc⟩
end Go.Proofs.Ytliccofjlheceaa
namespace Go.Proofs.Ytliccofjlheceaa
open Go.RowKit
structure DropR where
  t : Nd
  has : Bool
  miss : Option (List UInt8)
  e : Int
end Go.Proofs.Ytliccofjlheceaa
namespace Go.Proofs.Ytliccofjlheceaa
theorem halvesB_app {p q : List UInt8} : halvesB (p ++ q) = (halvesB p && halvesB q) := by unfold halvesB; rw [List.all_append]
theorem endsP_le {d : Nat} {even : Bool} (h : endsP d even = true) : d ≤ 400 := by
  unfold endsP at h
  rw [Bool.and_eq_true, decide_eq_true_eq] at h
  exact h.1
theorem Val.le {even : Bool} {t : Nd} {d : Nat} (h : Val even t d) : d ≤ 400 := by cases h <;> assumption
theorem common_split : ∀ (p q : List UInt8), p.take (commonB p q) = q.take (commonB p q) ∧ ((p.drop (commonB p q) = [] ∨ q.drop (commonB p q) = []) ∨ ∃ a b p' q', a ≠ b ∧ p.drop (commonB p q) = a :: p' ∧ q.drop (commonB p q) = b :: q')
  | [], q => by simp [commonB]
  | _ :: _, [] => by simp [commonB]
  | a :: p, b :: q => by
    unfold commonB
    by_cases h : a = b
    · rw [if_pos h]
      obtain ⟨h1, h2⟩ := common_split p q
      refine ⟨by rw [List.take_succ_cons, List.take_succ_cons, h, h1], ?_⟩
      rw [List.drop_succ_cons, List.drop_succ_cons]
      exact h2
    · rw [if_neg h]
      exact ⟨by simp, .inr ⟨a, b, p, q, h, rfl, rfl⟩⟩
theorem noneNs_len (n : Nat) : (noneNs n).length = n := by
  induction n with
  | zero => rfl
  | succ n ih => simp [noneNs] at *
theorem along_val {even : Bool} {d : Nat} {p : List UInt8} {t : Nd} (hd : d ≤ 400) (hp : halvesB p = true) (hk : t.kind = 3 ∨ t.kind = 4) (hr : Val even t (d + p.length)) : Val even (alongN p t) d := by
  unfold alongN
  split
  · rename_i h; rw [h] at hr; exact hr
  · rename_i h; exact .way d p t hd hp h hk hr
end Go.Proofs.Ytliccofjlheceaa
