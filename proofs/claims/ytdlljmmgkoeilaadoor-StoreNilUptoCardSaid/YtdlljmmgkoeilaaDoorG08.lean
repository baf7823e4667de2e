/- Tries, plainly: what may be; get, put, drop. Reference 07's walks: Same, own, right, Check, Much. The walk of trie.get. Halves of bytes: the walks of what only reads. Halves of bytes: the walks. The walks of trie.right, Get, leaf, along. The walks of slices.Clone of nodes, and of trie.hold. -/
import Derived.Test.YtdlljmmgkoeilaaDoorG07
import Derived.Test.YtdlljmmgkoeilaaDoorG05
import Derived.Test.YtdlljmmgkoeilaaDoorG06
import Derived.Deep.QuietTactic
import Derived.BigQuiet
import Derived.StillTailTactics
import Derived.Deep.RegionHeld3
import Derived.Deep.RegionLaw
namespace Go.Proofs.YtdlljmmgkoeilaaDoor
theorem rightsP_all {even : Bool} {d : Nat} : ∀ {ks : List Nd}, rightsP even ks d = true → ∀ k ∈ ks, rightP even k d = true
  | [], _, k, h => by cases h
  | x :: ks, hr, k, h => by
    rw [rightsP, Bool.and_eq_true] at hr
    rcases List.mem_cons.1 h with rfl | h
    · exact hr.1
    · exact rightsP_all hr.2 k h
theorem rightsP_of {even : Bool} {d : Nat} : ∀ {ks : List Nd}, (∀ k ∈ ks, rightP even k d = true) → rightsP even ks d = true
  | [], _ => rfl
  | x :: ks, h => by rw [rightsP, h x (by simp), rightsP_of (fun k hk => h k (by simp [hk]))]; rfl
/-- The kinds of nodes that may be. -/
inductive Val (even : Bool) : Nd → Nat → Prop
  | none (d : Nat) (hd : d ≤ 400) : Val even noneN d
  | leaf (d : Nat) (p v : List UInt8) (hd : d ≤ 400) (hp : halvesB p = true) (hv : v.length ≤ 4000) (he : endsP (d + p.length) even = true) : Val even (.mk 1 p false v [] []) d
  | stub (d : Nat) (h : List UInt8) (hd : d ≤ 400) (hh : h.length = 32) : Val even (.mk 4 [] false [] [] h) d
  | way (d : Nat) (p : List UInt8) (k : Nd) (hd : d ≤ 400) (hp : halvesB p = true) (h0 : p ≠ []) (hk : k.kind = 3 ∨ k.kind = 4) (hr : Val even k (d + p.length)) : Val even (.mk 2 p false [] [k] []) d
  | branch (d : Nat) (has : Bool) (v : List UInt8) (ks : List Nd) (hd : d ≤ 400) (hv : v.length ≤ 4000) (hv0 : has = true ∨ v = []) (he : has = true → endsP d even = true) (h16 : ks.length = 16) (hr : ∀ k ∈ ks, Val even k (d + 1)) (hm : 2 ≤ (if has then 1 else 0) + manyN ks) : Val even (.mk 3 [] has v ks []) d
theorem nil_of_len {α : Type} {l : List α} (h : l.length = 0) : l = [] := List.eq_nil_of_length_eq_zero h
theorem val_of_right (even : Bool) : ∀ (N : Nat) (t : Nd) (d : Nat), sz t < N → rightP even t d = true → Val even t d
  | 0, t, d, h, _ => by omega
  | N + 1, t, d, hN, h => by
    have hsz := sz_eq t
    rw [rightP_eq] at h
    obtain ⟨k, p, has, v, ks, hs⟩ := t
    simp only [Nd.kind, Nd.path, Nd.has, Nd.val, Nd.kids, Nd.hash] at h hsz
    unfold ownP at h
    simp only [Bool.and_eq_true, decide_eq_true_eq] at h
    obtain ⟨hd, hv, hp, h⟩ := h
    by_cases h0 : k = 0
    · rw [if_pos h0] at h
      have h := of_decide_eq_true h
      obtain ⟨e1, e2, e3, e4, e5⟩ := h
      rw [nil_of_len e1, nil_of_len e2, nil_of_len e3, nil_of_len e4, e5, h0]
      exact .none d hd
    rw [if_neg h0] at h
    by_cases h1 : k = 1
    · rw [if_pos h1] at h
      simp only [Bool.and_eq_true, decide_eq_true_eq] at h
      obtain ⟨⟨e3, e4, e5⟩, he⟩ := h
      rw [nil_of_len e3, nil_of_len e4, e5, h1]
      exact .leaf d p v hd hp hv he
    rw [if_neg h1] at h
    by_cases h4 : k = 4
    · rw [if_pos h4] at h
      have h := of_decide_eq_true h
      obtain ⟨e1, e2, e3, e5, e6⟩ := h
      rw [nil_of_len e1, nil_of_len e2, nil_of_len e3, e5, h4]
      exact .stub d hs hd e6
    rw [if_neg h4] at h
    by_cases h2 : k = 2
    · rw [if_pos h2] at h
      simp only [Bool.and_eq_true, decide_eq_true_eq] at h
      obtain ⟨⟨e2, e4, e5, e1, e3⟩, hk, hr⟩ := h
      match ks, e3 with
      | [k0], _ =>
        rw [rightsP, rightsP, Bool.and_true] at hr
        have hz : szs [k0] = sz k0 := by rw [szs, szs]; omega
        rw [nil_of_len e2, nil_of_len e4, e5, h2]
        refine .way d p k0 hd hp (fun e => e1 (by rw [e]; rfl)) ?_ (val_of_right even N k0 _ (by omega) hr)
        unfold kindsB at hk
        rw [List.all_cons, Bool.and_eq_true, decide_eq_true_eq] at hk
        exact hk.1
    rw [if_neg h2] at h
    by_cases h3 : k = 3
    · rw [if_pos h3] at h
      simp only [Bool.and_eq_true, decide_eq_true_eq, Bool.or_eq_true, Bool.not_eq_true'] at h
      obtain ⟨⟨e1, e4, e5⟩, he, h16, hr, hm⟩ := h
      rw [nil_of_len e1, nil_of_len e4, h3]
      refine .branch d has v ks hd hv (e5.imp id nil_of_len) (fun e => by rcases he with he | he; rw [e] at he; cases he; exact he) h16 (fun k hk => val_of_right even N k _ (by have := szs_mem hk; omega) (rightsP_all hr k hk)) hm
    · rw [if_neg h3] at h; cases h
theorem right_of_val {even : Bool} {t : Nd} {d : Nat} (h : Val even t d) : rightP even t d = true := by
  induction h with
  | none d hd => rw [noneN, rightP]; unfold ownP; rw [decide_eq_true hd]; rfl
  | leaf d p v hd hp hv he => rw [rightP]; unfold ownP; rw [decide_eq_true hd, hp, decide_eq_true hv, if_neg (by decide), if_pos rfl, he]; rfl
  | stub d h hd hh => simp [rightP, ownP, halvesB, hd, hh]
  | way d p k hd hp h0 hk hr ih =>
    have hp0 : p.length ≠ 0 := fun e => h0 (nil_of_len e)
    rcases hk with hk | hk <;> simp [rightP, ownP, rightsP, ih, kindsB, hk, hp, hd, h0]
  | branch d has v ks hd hv hv0 he h16 hr hm ih =>
    rw [rightP]; unfold ownP
    rw [decide_eq_true hd, decide_eq_true hv, if_neg (by decide), if_neg (by decide), if_neg (by decide), if_neg (by decide), if_pos rfl, rightsP_of ih, decide_eq_true hm, decide_eq_true h16, decide_eq_true ⟨rfl, rfl, hv0.imp id (fun e => by rw [e]; rfl)⟩]
    cases has with
    | false => rfl
    | true => rw [he rfl]; rfl
/-- What a look comes to: what stands there; is there something; the halves to a stub that is in the way. -/
structure GotN where
  v : List UInt8
  has : Bool
  miss : Option (List UInt8)
mutual
def getP : Nd → List UInt8 → GotN
  | .mk k p has v ks _, q =>
    if k = 4 then ⟨[], false, some []⟩
    else if k = 1 then ⟨v, decide (p = q), none⟩
    else if k = 2 then (if p <+: q then (let g := getsP ks 0 (q.drop p.length); ⟨g.v, g.has, g.miss.map (p ++ ·)⟩) else ⟨[], false, none⟩)
    else if k = 3 then (match q with
      | [] => ⟨v, has, none⟩
      | x :: q' => (let g := getsP ks x.toNat q'; ⟨g.v, g.has, g.miss.map (x :: ·)⟩))
    else ⟨[], false, none⟩
def getsP : List Nd → Nat → List UInt8 → GotN
  | [], _, _ => ⟨[], false, none⟩
  | t :: _, 0, q => getP t q
  | _ :: ts, i + 1, q => getsP ts i q
end
theorem getsP_at : ∀ {ks : List Nd} {i : Nat} {k : Nd} (q : List UInt8), ks[i]? = some k → getsP ks i q = getP k q
  | t :: ks, 0, k, q, h => by simp at h; subst h; rw [getsP]
  | t :: ks, i + 1, k, q, h => by rw [getsP]; exact getsP_at q (by simpa using h)
theorem getP_way0 {p q : List UInt8} {k : Nd} (h : ¬ p <+: q) : getP (.mk 2 p false [] [k] []) q = ⟨[], false, none⟩ := by unfold getP; simp [h]
theorem getP_way {p q : List UInt8} {k : Nd} (h : p <+: q) : getP (.mk 2 p false [] [k] []) q = ⟨(getP k (q.drop p.length)).v, (getP k (q.drop p.length)).has, (getP k (q.drop p.length)).miss.map (p ++ ·)⟩ := by
  have e := getsP_at (ks := [k]) (i := 0) (k := k) (q.drop p.length) rfl
  conv => lhs; rw [getP.eq_def]
  simp [h, e]
theorem getP_br0 {has : Bool} {v : List UInt8} {ks : List Nd} : getP (.mk 3 [] has v ks []) [] = ⟨v, has, none⟩ := by unfold getP; simp
theorem getP_br {has : Bool} {v : List UInt8} {ks : List Nd} {x : UInt8} {q : List UInt8} {k : Nd} (h : ks[x.toNat]? = some k) : getP (.mk 3 [] has v ks []) (x :: q) = ⟨(getP k q).v, (getP k q).has, (getP k q).miss.map (x :: ·)⟩ := by
  have e := getsP_at q h
  conv => lhs; rw [getP.eq_def]
  simp [e]
end Go.Proofs.YtdlljmmgkoeilaaDoor
namespace Go.Proofs.YtdlljmmgkoeilaaDoor
open Go.RowKit
theorem is_same0 : isFn Tryd.prog 19 = true := by kernel_rfl
theorem is_copy0 : isFn Tryd.prog 36 = true := by kernel_rfl
theorem is_r7same : isFn Tryd.prog 17 = true := by kernel_rfl
theorem is_r7much : isFn Tryd.prog 24 = true := by kernel_rfl
end Go.Proofs.YtdlljmmgkoeilaaDoor
namespace Go.Proofs.YtdlljmmgkoeilaaDoor
open Go.RowKit
theorem is_tget : isFn Tryd.prog 47 = true := by kernel_rfl
theorem zls2 : zeroOf Tryd.prog 23 = some [.slice none 0 0] := by kernel_rfl
theorem halvesB_drop {q : List UInt8} {n : Nat} (h : halvesB q = true) : halvesB (q.drop n) = true := by
  unfold halvesB at *
  rw [List.all_eq_true] at *
  exact fun x hx => h x (List.mem_of_mem_drop hx)
def missOk (W : World) (F : Nat → Prop) (way : List UInt8) (m : Option (List UInt8)) (A : Option Addr) (n c : Nat) : Prop :=
  match m with
  | none => A = none ∧ n = 0 ∧ c = 0
  | some r => A ≠ none ∧ RdD W F (dB (way ++ r)) (.slice A n c)
/-- What trie.get answers of this node. -/
def GetOk (t : Nd) : Prop := ∀ (gs : List (Option Nat)) (w : World) (cs : List Value) (q way : List UInt8) (Aq : Option Addr) (nq cq : Nat) (Aw : Option Addr) (nw cw d : Nat) (even : Bool), RdL w (Fd w gs) (dN t) cs → RdD w (Fd w gs) (dB q) (.slice Aq nq cq) → RdD w (Fd w gs) (dB way) (.slice Aw nw cw) →
  (∀ b, some b ∈ gs → b < w.heap.size) → Aw ≠ none → halvesB q = true → Val even t d → way.length + q.length ≤ 100000 →
  Calls Tryd.prog 47 #[.agg cs.toArray, .slice Aq nq cq, .slice Aw nw cw] w fun e w' => ∃ A n c Am nm cm, e = .returned (.tuple #[.slice A n c, .bool (getP t q).has, .slice Am nm cm]) ∧ RdD w' (Fr w w') (dB (getP t q).v) (.slice A n c) ∧ missOk w' (Fr w w') way (getP t q).miss Am nm cm ∧ Below w.heap.size w w'
theorem Own.fr {W W' : World} {n c : Nat} {A : Option Addr} {l : List UInt8} (h : Own W' W.heap.size A n c l) : RdD W' (Fr W W') (dB l) (.slice A n c) := h.frB fun b h1 h2 h3 => ⟨h1, h2, row_thaw h h3⟩
theorem Fr.more {W W1 W' : World} {d : D} {u : Value} (h : RdD W' (Fr W1 W') d u) (hb : W.heap.size ≤ W1.heap.size) : RdD W' (Fr W W') d u := h.to fun b hb' => ⟨rfl, by have := hb'.1; omega, hb'.2⟩
theorem missOk.more {W W1 W' : World} {way : List UInt8} {m : Option (List UInt8)} {A : Option Addr} {n c : Nat} (h : missOk W' (Fr W1 W') way m A n c) (hb : W.heap.size ≤ W1.heap.size) : missOk W' (Fr W W') way m A n c := by
  unfold missOk at *
  cases m with
  | none => exact h
  | some r => exact ⟨h.1, Fr.more h.2 hb⟩
set_option maxRecDepth 100000 in
set_option maxHeartbeats 1000000 in
theorem tget_step (N : Nat) (ih : ∀ k : Nd, sz k < N → GetOk k) (t : Nd) (ht : sz t ≤ N) (hN : N ≤ 10000000) : GetOk t := by
  intro gs w cs q way Aq nq cq Aw nw cw d even hr hq hw hgs hAw hhq hval hlen
  refine calls_ev (args := [.agg cs.toArray, .slice Aq nq cq, .slice Aw nw cw]) mixed Tryd.func47 rfl (by kernel_rfl) ?_
  obtain ⟨Ap, cp, Av, cv, Ak, ck, Ah, ch, rfl, r1, r3, r4, r5⟩ := hr.node
  have hsz := sz_eq t
  have hsl := szs_len t.kids
  have enq := hq.slen
  have enw := hw.slen
  refine v_boxB (ncs t Ap cp Av cv Ak ck Ah ch) rfl ?_
  rintro g1 W1 hg1 hB hb1 hs1
  rw [hg1] at hb1
  have A1 : At w W1 gs := (At.start hgs).call hb1
  have s1 : Stp w gs W1 gs := Stp.below hb1
  refine p_fld fN0 rfl ?_
  refine v_load agg_int rfl (hB.at_ rfl) ?_
  cases hval with
  | stub d hsh hd hh =>
    refine p_eq rfl rfl (fun _ => ?_) (fun h => absurd rfl h)
    refine cc is_sclone (sclone_any gs Aw nw cw way W1 (hw.up s1) (by omega)) ?_
    rintro e W2 ⟨A2, c2, rfl, o2, hn2, b2⟩
    refine ⟨_, rfl, ?_⟩
    have hC := below_tr hb1 b2
    refine ⟨none, 0, 0, A2, nw, c2, rfl, RdD.nil_ _ _, ⟨fun e => hAw (hn2.1 e), ?_⟩, hC⟩
    rw [List.append_nil]
    exact Fr.more o2.fr hb1.size
  | none d hd =>
    refine p_eq rfl rfl (fun h => absurd h (by decide)) (fun _ => ?_)
    refine p_eq rfl rfl (fun h => absurd h (by decide)) (fun _ => ?_)
    refine p_eq rfl rfl (fun h => absurd h (by decide)) (fun _ => ?_)
    refine p_eq rfl rfl (fun h => absurd h (by decide)) (fun _ => ?_)
    exact ⟨none, 0, 0, none, 0, 0, rfl, RdD.nil_ _ _, ⟨rfl, rfl, rfl⟩, hb1⟩
  | leaf d p v hd hp hv he =>
    refine p_eq rfl rfl (fun h => absurd (show (1 : Int) = 4 from h) (by decide)) (fun _ => ?_)
    refine p_eq rfl rfl (fun _ => ?_) (fun h => absurd rfl h)
    have sd : Stp w gs W1.drew gs := s1.trans Stp.drew
    refine dr (fun W => Below W1.drew.heap.size W1.drew W) [(0, true), (1, true), (3, true), (4, true), (5, true), (2, false), (6, false), (7, true), (8, true), (9, true)] (by kernel_rfl) (Below.refl _ _) ?_
    refine p_fld fN3 rfl ?_
    refine t_load agg_b rfl (fun W h => (hB.drew.below h).at_ rfl) ?_
    refine p_fld fN1 rfl ?_
    refine t_load agg_b rfl (fun W h => (hB.drew.below h).at_ rfl) ?_
    simp only [Nd.path, Nd.val, Nd.hash, Nd.kids] at r1 r3 hsz
    refine cc is_bclone (bclone_any gs Av v.length cv v W1.drew (r3.up sd) (by omega)) ?_
    rintro e W2 ⟨A2, c2, rfl, o2, -, b2⟩
    refine ⟨_, rfl, b2, ?_⟩
    have s2 := sd.trans (Stp.below (gs := gs) b2)
    obtain ⟨_, _, hp2⟩ := (r1.up s2).rd Fd.lt
    obtain ⟨_, _, hq2⟩ := (hq.up s2).rd Fd.lt
    refine cc is_beq (beq_any Ap Aq p.length nq cp cq _ _ p q W2 hp2 hq2) ?_
    rintro e W3 ⟨rfl, rfl⟩
    refine ⟨_, rfl, b2, ?_⟩
    exact ⟨A2, v.length, c2, none, 0, 0, rfl, Fr.more o2.fr hb1.size, ⟨rfl, rfl, rfl⟩, below_tr hb1.drew b2⟩
  | way d p k hd hp h0 hk hrk =>
    refine p_eq rfl rfl (fun h => absurd (show (2 : Int) = 4 from h) (by decide)) (fun _ => ?_)
    refine p_eq rfl rfl (fun h => absurd (show (2 : Int) = 1 from h) (by decide)) (fun _ => ?_)
    refine p_eq rfl rfl (fun _ => ?_) (fun h => absurd rfl h)
    simp only [Nd.path, Nd.val, Nd.hash, Nd.kids] at r1 r3 r4 hsz
    have hkz : sz k < N := by have : szs [k] = sz k := by rw [szs, szs]; omega
                              omega
    obtain ⟨_, _, hp2⟩ := (r1.up s1).rd Fd.lt
    obtain ⟨_, hcq, hq2⟩ := (hq.up s1).rd Fd.lt
    refine p_fld fN1 rfl ?_
    refine v_load agg_b rfl (hB.at_ rfl) ?_
    refine cc is_bpre (bpre_any Aq Ap nq p.length cq cp _ _ q p W1 hq2 hcq hp2) ?_
    rintro e W2 ⟨rfl, rfl⟩
    refine ⟨_, rfl, ?_⟩
    refine p_not rfl ?_
    by_cases hpre : p <+: q
    rotate_left
    · rw [decide_eq_false hpre]
      rw [getP_way0 hpre]
      exact ⟨none, 0, 0, none, 0, 0, rfl, RdD.nil_ _ _, ⟨rfl, rfl, rfl⟩, hb1⟩
    · rw [decide_eq_true hpre]
      have hpl := hpre.length_le
      rw [getP_way hpre]
      have sd : Stp w gs W1.drew gs := s1.trans Stp.drew
      have Ad := A1.drew
      have r4d := r4.up sd
      have hqd := hq.up sd
      have hwd := hw.up sd
      have r1d := r1.up sd
      have hBd := hB.drew
      obtain ⟨b, off, es, rfl, hF, hes, hel, hc⟩ := r4d.kid (i := 0) (k := k) rfl
      refine dr (fun W => Below W1.drew.heap.size W1.drew W) [(0, true), (1, true), (2, true), (3, true), (4, true), (5, true), (6, true), (7, true), (8, true), (9, true), (10, true), (11, true), (12, false), (13, false), (14, false), (15, true), (16, true), (17, true), (18, true), (19, true), (20, true)] (by kernel_rfl) (Below.refl _ _) ?_
      refine p_fld fN4 rfl ?_
      refine t_load agg_ns rfl (fun W h => (hBd.below h).at_ rfl) ?_
      refine p_at (i := 0) sln rfl rfl rfl (by show 0 < 1; decide) ?_
      refine t_loadN es agg_nd rfl hel (fun W h j x hx => cellB h (hc j x hx)) ?_
      refine p_fld fN1 rfl ?_
      refine t_load agg_b rfl (fun W h => (hBd.below h).at_ rfl) ?_
      refine p_len slb rfl ?_
      refine p_slice (i := p.length) (j := nq) (m := cq) slb rfl (bnd_i rfl) rfl rfl rfl (by show p.length ≤ nq; omega) (by omega) (Nat.le_refl _) ?_
      refine p_fld fN1 rfl ?_
      refine t_load agg_b rfl (fun W h => (hBd.below h).at_ rfl) ?_
      refine v_bslice (vs := [.slice Aw nw cw, .slice Ap p.length cp]) sl_ls' zls2 rfl (by decide) rfl ?_
      rintro g2 W2 hg2 hB2 hb2 hs2
      rw [hg2] at hb2
      refine ⟨hb2, ?_⟩
      have A2 := Ad.call hb2
      have s2 := sd.trans (Stp.below (gs := gs) hb2)
      have hD2 : RdD W2 (Fd W2 gs) (dLs [way, p]) (.slice (some ⟨g2, 0, none⟩) 2 2) := by
        refine RdD.sl_iff.2 ⟨_, 2, _, rfl, Nat.le_refl _, rfl, RdL.cons (hw.up s2) (RdL.cons (r1.up s2) RdL.nil_), fun _ => ⟨g2, 0, rfl, ⟨hB2.lt, fun e => ?_⟩, fun j x hx => ?_⟩⟩
        · have := Ad.lt g2 e; omega
        · rw [Nat.zero_add]; exact hB2.at_ hx
      have hcat : [way, p].flatten = way ++ p := by simp
      have hcall := concat_any gs _ 2 2 [way, p] W2 A2.lt hD2 (by rw [hcat, List.length_append]; omega) (by decide)
      rw [hcat] at hcall
      refine cc is_concat hcall ?_
      rintro e W3 ⟨A3, c3, rfl, o3, b3⟩
      have C3 := below_tr hb2 b3
      refine ⟨_, rfl, C3, ?_⟩
      have A3' := A2.call b3
      have s3 := s2.trans (Stp.below (gs := gs) b3)
      have hcut := (hq.up s3).cutB (i := p.length) (j := nq) (m := cq) (by omega) (Nat.le_refl _) (by omega)
      rw [List.take_of_length_le (by rw [List.length_drop]; omega)] at hcut
      have hA3 : A3 ≠ none := fun e => by
        subst e
        have hl := o3.len
        rcases o3.2 with ⟨hv, hn⟩ | ⟨g, cap, cur, hv, _⟩
        · injection hv with _ hv _
          rw [List.length_append] at hv
          exact h0 (nil_of_len (by omega))
        · cases hv
      have hw3 : RdD W3 (Fd W3 gs) (dB (way ++ p)) (.slice A3 (way ++ p).length c3) := (o3.zb (base := 0) (Nat.zero_le _) A2.lt).z0
      refine cc is_tget (ih k hkz gs W3 es (q.drop p.length) (way ++ p) _ _ _ A3 _ c3 (d + p.length) even (hes.up ((Stp.below hb2).trans (Stp.below b3))) hcut hw3 A3'.lt hA3 ?_ hrk (by rw [List.length_append, List.length_drop]; omega)) ?_
      · exact halvesB_drop hhq
      rintro e W4 ⟨A4, n4, c4, Am, nm, cm, rfl, hv4, hm4, b4⟩
      refine ⟨_, rfl, below_tr C3 b4, ?_⟩
      refine ⟨A4, n4, c4, Am, nm, cm, rfl, Fr.more hv4 (by have := A3'.size; omega), ?_, below_tr (below_tr hb1.drew C3) b4⟩
      have hm5 := missOk.more (W := w) hm4 A3'.size
      unfold missOk at hm5 ⊢
      cases hmm : (getP k (q.drop p.length)).miss with
      | none => rw [hmm] at hm5; exact hm5
      | some r => rw [hmm] at hm5; simp only [Option.map_some]; rw [← List.append_assoc]; exact hm5
  | branch d has v ks hd hv hv0 he h16 hrk hm =>
    refine p_eq rfl rfl (fun h => absurd (show (3 : Int) = 4 from h) (by decide)) (fun _ => ?_)
    refine p_eq rfl rfl (fun h => absurd (show (3 : Int) = 1 from h) (by decide)) (fun _ => ?_)
    refine p_eq rfl rfl (fun h => absurd (show (3 : Int) = 2 from h) (by decide)) (fun _ => ?_)
    refine p_eq rfl rfl (fun _ => ?_) (fun h => absurd rfl h)
    simp only [Nd.path, Nd.val, Nd.hash, Nd.kids] at r1 r3 r4 hsz
    have sd : Stp w gs W1.drew gs := s1.trans Stp.drew
    have Ad := A1.drew
    have hBd := hB.drew
    refine p_len slb rfl ?_
    match q, hq, hhq, hlen, enq with
    | [], hq, hhq, hlen, enq =>
      rw [getP_br0]
      subst enq
      refine p_eq rfl rfl (fun _ => ?_) (fun h => absurd rfl h)
      refine dr (fun W => Below W1.drew.heap.size W1.drew W) [(0, true), (1, true), (3, true), (4, true), (2, false), (5, true), (6, true), (7, true)] (by kernel_rfl) (Below.refl _ _) ?_
      refine p_fld fN3 rfl ?_
      refine t_load agg_b rfl (fun W h => (hBd.below h).at_ rfl) ?_
      refine p_fld fN2 rfl ?_
      refine t_load agg_bo rfl (fun W h => (hBd.below h).at_ rfl) ?_
      refine cc is_bclone (bclone_any gs Av v.length cv v W1.drew (r3.up sd) (by omega)) ?_
      rintro e W2 ⟨A2, c2, rfl, o2, -, b2⟩
      refine ⟨_, rfl, b2, ?_⟩
      exact ⟨A2, v.length, c2, none, 0, 0, rfl, Fr.more o2.fr hb1.size, ⟨rfl, rfl, rfl⟩, below_tr hb1.drew b2⟩
    | x :: q', hq, hhq, hlen, enq =>
      have hx : x.toNat < 16 := by
        unfold halvesB at hhq
        have := List.all_eq_true.1 hhq x (by simp)
        have := of_decide_eq_true this
        rw [UInt8.le_iff_toNat_le] at this
        have e15 : (15 : UInt8).toNat = 15 := rfl
        omega
      obtain ⟨k, hki⟩ : ∃ k, ks[x.toNat]? = some k := ⟨_, List.getElem?_eq_getElem (by omega)⟩
      have hkm := List.mem_of_getElem? hki
      have hkz : sz k < N := by have := szs_mem hkm; omega
      rw [getP_br hki]
      rw [List.length_cons] at enq hlen
      refine p_eq rfl rfl (fun h => by omega) (fun _ => ?_)
      have r4d := r4.up sd
      have hqd := hq.up sd
      obtain ⟨_, hcq, hqr⟩ := hqd.rd Fd.lt
      obtain ⟨bq, oq, eAq, hcx⟩ := hqr.at_ (k := 0) (by omega)
      subst eAq
      have hcx' : W1.drew.cell? (Addr.add ⟨bq, oq, none⟩ (0 * 1)) = some (.int .u8 (x.toNat : Nat)) := by rw [Addr.add_lit]; exact hcx
      obtain ⟨b, off, es, rfl, hF, hes, hel, hc⟩ := r4d.kid (i := x.toNat) (k := k) hki
      refine dr (fun W => Below W1.drew.heap.size W1.drew W) [(0, true), (1, true), (2, true), (3, true), (4, true), (5, true), (6, true), (7, true), (8, true), (9, true), (10, true), (11, true), (12, false), (13, false), (14, false), (15, true), (16, true), (17, true), (18, true), (19, true), (20, true)] (by kernel_rfl) (Below.refl _ _) ?_
      refine p_fld fN4 rfl ?_
      refine t_load agg_ns rfl (fun W h => (hBd.below h).at_ rfl) ?_
      refine p_at (i := 0) slb rfl rfl rfl (by omega) ?_
      refine t_load agg_by' rfl (fun W h => cellB h hcx') ?_
      refine p_at (i := x.toNat) sln rfl rfl rfl (by show _ < ks.length; omega) ?_
      refine t_loadN es agg_nd rfl hel (fun W h j x hx => cellB h (hc j x hx)) ?_
      refine p_slice (i := 1) (j := nq) (m := cq) slb rfl (bnd_i (kd := .i64) rfl) rfl rfl rfl (by omega) (by omega) (Nat.le_refl _) ?_
      refine p_slice (i := 0) (j := 1) (m := cq) slb rfl rfl (bnd_i (kd := .i64) rfl) rfl rfl (by omega) (by omega) (Nat.le_refl _) ?_
      refine v_bslice (vs := [.slice Aw nw cw, .slice (slA (some ⟨bq, oq, none⟩) cq 0 1) 1 cq]) sl_ls' zls2 rfl (by decide) rfl ?_
      rintro g2 W2 hg2 hB2 hb2 hs2
      rw [hg2] at hb2
      refine ⟨hb2, ?_⟩
      have A2 := Ad.call hb2
      have s2 := sd.trans (Stp.below (gs := gs) hb2)
      have hq1 := (hq.up s2).cutB (i := 0) (j := 1) (m := cq) (by omega) (by omega) (by omega)
      rw [Nat.sub_zero, Nat.sub_zero, List.drop_zero, List.take_succ_cons, List.take_zero] at hq1
      have hD2 : RdD W2 (Fd W2 gs) (dLs [way, [x]]) (.slice (some ⟨g2, 0, none⟩) 2 2) := by
        refine RdD.sl_iff.2 ⟨_, 2, _, rfl, Nat.le_refl _, rfl, RdL.cons (hw.up s2) (RdL.cons hq1 RdL.nil_), fun _ => ⟨g2, 0, rfl, ⟨hB2.lt, fun e => ?_⟩, fun j x hx => ?_⟩⟩
        · have := Ad.lt g2 e; omega
        · rw [Nat.zero_add]; exact hB2.at_ hx
      have hcat : [way, [x]].flatten = way ++ [x] := by simp
      have hcall := concat_any gs _ 2 2 [way, [x]] W2 A2.lt hD2 (by rw [hcat, List.length_append, List.length_cons, List.length_nil]; omega) (by decide)
      rw [hcat] at hcall
      refine cc is_concat hcall ?_
      rintro e W3 ⟨A3, c3, rfl, o3, b3⟩
      have C3 := below_tr hb2 b3
      refine ⟨_, rfl, C3, ?_⟩
      have A3' := A2.call b3
      have s3 := s2.trans (Stp.below (gs := gs) b3)
      have hcut := (hq.up s3).cutB (i := 1) (j := nq) (m := cq) (by omega) (Nat.le_refl _) (by omega)
      rw [List.drop_succ_cons, List.drop_zero, List.take_of_length_le (by omega)] at hcut
      have hA3 : A3 ≠ none := fun e => by
        subst e
        rcases o3.2 with ⟨hv, hn⟩ | ⟨g, cap, cur, hv, _⟩
        · injection hv with _ hv _
          rw [List.length_append, List.length_cons] at hv
          omega
        · cases hv
      have hw3 : RdD W3 (Fd W3 gs) (dB (way ++ [x])) (.slice A3 (way ++ [x]).length c3) := (o3.zb (base := 0) (Nat.zero_le _) A2.lt).z0
      refine cc is_tget (ih k hkz gs W3 es q' (way ++ [x]) _ _ _ A3 _ c3 (d + 1) even (hes.up ((Stp.below hb2).trans (Stp.below b3))) hcut hw3 A3'.lt hA3 ?_ (hrk k hkm) (by rw [List.length_append, List.length_cons, List.length_nil]; omega)) ?_
      · have := halvesB_drop (n := 1) hhq; simpa using this
      rintro e W4 ⟨A4, n4, c4, Am, nm, cm, rfl, hv4, hm4, b4⟩
      refine ⟨_, rfl, below_tr C3 b4, ?_⟩
      refine ⟨A4, n4, c4, Am, nm, cm, rfl, Fr.more hv4 (by have := A3'.size; omega), ?_, below_tr (below_tr hb1.drew C3) b4⟩
      have hm5 := missOk.more (W := w) hm4 A3'.size
      unfold missOk at hm5 ⊢
      cases hmm : (getP k q').miss with
      | none => rw [hmm] at hm5; exact hm5
      | some r => rw [hmm] at hm5; simp only [Option.map_some]; simp only [List.append_assoc, List.cons_append, List.nil_append] at hm5; exact hm5
theorem tget_any : ∀ (N : Nat), N ≤ 10000000 → ∀ t : Nd, sz t < N → GetOk t
  | 0, _, t, h => by omega
  | N + 1, hN, t, h => tget_step N (fun k hk => tget_any N (by omega) k hk) t (by omega) (by omega)
end Go.Proofs.YtdlljmmgkoeilaaDoor
namespace Go.Proofs.YtdlljmmgkoeilaaDoor
open Go.RowKit

set_option maxHeartbeats 400000 in
theorem halves_any (A : Option Addr) (n c B : Nat) (l : List UInt8) (w : World) (hr : Rd w B A n l) (hn : n ≤ 100000000000) :
    Calls Tryd.prog 84 #[.slice A n c] w fun e w' => e = .returned (.bool (halvesB l)) ∧ w = w' := by
  go_enter Tryd.func84, Tryd.ntmps84
  go_wp2
  go_loop [7] (fun i => ∃ (k : Nat), k ≤ n ∧ i = .int .i64 k ∧ halvesB (l.take k) = true) (fun i => n - (intOf i).toNat)
  case atStart => exact ⟨0, Nat.zero_le _, rfl, rfl⟩
  case round =>
    obtain ⟨k, hk, rfl, ht⟩ := hrel
    have Ht := Lib.hid ht
    clear ht
    have hln := hr.len
    by_cases hlt : k < n
    · obtain ⟨bb, off, rfl, hc⟩ := hr.at_ hlt
      have h0 := at8_lo l k
      have h1 := at8_hi l k
      have hkl : k < l.length := by omega
      clear hln
      by_cases h15 : at8 l k ≤ 15
      · go_wp2
        go_round
        case rel => exact ⟨k + 1, by omega, by go_num, halvesB_take l k hkl Ht.out h15⟩
        case measure => simp [intOf]; omega
      · go_wp2
        go_ret
        exact ⟨ret_bool (halvesB_no l k hkl (by omega)).symm, rfl⟩
    · have hkn : l.length ≤ k := by omega
      clear hln
      go_wp2
      go_ret
      exact ⟨ret_bool (by have := Ht.out; rw [List.take_of_length_le hkn] at this; exact this.symm), rfl⟩

set_option maxHeartbeats 800000 in
theorem common_any (A1 A2 : Option Addr) (n m c1 c2 B : Nat) (a b : List UInt8) (w : World) (h1 : Rd w B A1 n a) (h2 : Rd w B A2 m b) (hn : n ≤ 100000000000) (hm : m ≤ 100000000000) :
    Calls Tryd.prog 77 #[.slice A1 n c1, .slice A2 m c2] w fun e w' => e = .returned (.int .i64 (commonB a b)) ∧ ∃ d, w' = w.drewN d := by
  by_cases hmn : m < n
  all_goals
    go_enter Tryd.func77, Tryd.ntmps77
    go_wp2
    go_loopw [11] (fun i wr => ∃ (k d : Nat), k ≤ n ∧ k ≤ m ∧ i = .int .i64 k ∧ a.take k = b.take k ∧ wr = w.drewN d) (fun i _ => n - (intOf i).toNat)
    case atStart => exact ⟨0, 0, Nat.zero_le _, Nat.zero_le _, rfl, rfl, rfl⟩
    case round =>
      obtain ⟨k, d, hkn, hkm, rfl, ht, rfl⟩ := hrel
      have Ht := Lib.hid ht
      clear ht
      have hla := h1.len
      have hlb := h2.len
      by_cases hlt : k < n ∧ k < m
      · obtain ⟨hlt1, hlt2⟩ := hlt
        obtain ⟨bb1, off1, rfl, hc1⟩ := h1.at_ hlt1
        obtain ⟨bb2, off2, rfl, hc2⟩ := h2.at_ hlt2
        have hka : k < a.length := by omega
        have hkb : k < b.length := by omega
        clear hla hlb
        by_cases heq : at8 a k = at8 b k
        · have hq : (at8 a k != at8 b k) = false := by simp [heq]
          have He := Lib.hid heq
          clear heq
          go_wp2
          go_quiet (fail)
          go_wp2
          go_roundw
          case rel => exact ⟨k + 1, _, by omega, by omega, by go_num, take_both a b k Ht.out hka hkb ((at8_eq_iff a b k).1 He.out), rfl⟩
          case measure => simp [intOf]; omega
        · have hq : (at8 a k != at8 b k) = true := by simp [heq]
          have He := Lib.hid heq
          clear heq
          go_wp2
          go_quiet (fail)
          go_wp2
          go_ret
          exact ⟨ret_int (by rw [commonB_at a b k Ht.out hka hkb (fun e => He.out ((at8_eq_iff a b k).2 e))]), _, World.drewN_drewN ..⟩
      · have hmin : k = min a.length b.length := by omega
        have Hm := Lib.hid hmin
        clear hla hlb hmin
        go_wp2
        go_ret
        exact ⟨ret_int (by rw [commonB_end a b k Ht.out Hm.out]; have := Hm.out; have := h1.len; have := h2.len; omega), _, rfl⟩
end Go.Proofs.YtdlljmmgkoeilaaDoor
namespace Go.Proofs.YtdlljmmgkoeilaaDoor
open Go.RowKit

set_option maxHeartbeats 400000 in
theorem of_any (A : Option Addr) (n c : Nat) (l : List UInt8) (w : World) (hr : Rd w w.heap.size A n l) (hn : n ≤ 100000000000) :
    Calls Tryd.prog 48 #[.slice A n c] w fun e w' => ∃ A' c', e = .returned (.slice A' (2 * n) c') ∧ Own w' w.heap.size A' (2 * n) c' (ofB l) ∧ Below w.heap.size w w' := by
  go_enter Tryd.func48, Tryd.ntmps48
  go_wp2
  go_loopw [3, 8] (fun v i wr => ∃ (k : Nat) (A' : Option Addr) (c' : Nat), k ≤ n ∧ i = .int .i64 k ∧ v = .slice A' (2 * k) c' ∧ Own wr w.heap.size A' (2 * k) c' (ofB (l.take k)) ∧ Below w.heap.size w wr) (fun _ i _ => n - (intOf i).toNat)
  case atStart => exact ⟨0, none, 0, Nat.zero_le _, rfl, rfl, Own.nil_ _ _, Below.refl _ _⟩
  case round =>
    obtain ⟨k, A', c', hk, rfl, rfl, hown, hb⟩ := hrel
    have hln := hr.len
    by_cases hlt : k < n
    · obtain ⟨bb, off, rfl, hc⟩ := (hr.below hb).at_ hlt
      have h0 := at8_lo l k
      have h1 := at8_hi l k
      clear hln
      go_wp2_with (at_builtin; refine wpList_app rfl _ _ rfl rfl (hown.alloc _) rfl (Rd.lit2 _ _ _ (by omega) (by omega)) (by omega) (by simp; have := hb.size; omega) ?_; intro A2 c2 w2 hown2 hg2)
      have hb2 := (hb.alloc hb.size (.cells #[.int .u8 (at8 l k / 16), .int .u8 (at8 l k % 16)] 5)).grown hg2 (by simp; have := hb.size; omega) hown.lo
      go_roundw
      case rel => exact ⟨k + 1, A2, c2, by omega, by go_num, rfl, by rw [ofB_take l k (by rw [hr.len]; exact hlt)]; exact hown2, hb2⟩
      case measure => simp [intOf]; omega
    · have hk : k = n := by omega
      subst hk
      go_wp2
      go_ret
      exact ⟨A', c', rfl, by rw [List.take_of_length_le (by omega)] at hown; exact hown, hb⟩
set_option maxHeartbeats 400000 in
theorem joined_any (A : Option Addr) (n c : Nat) (l : List UInt8) (w : World) (hr : Rd w w.heap.size A n l) (hn : n ≤ 100000000000) (hh : halvesB l = true) :
    Calls Tryd.prog 85 #[.slice A n c] w fun e w' => ∃ A' c', e = .returned (.slice A' (n / 2) c') ∧ Own w' w.heap.size A' (n / 2) c' (joinB l) ∧ Below w.heap.size w w' := by
  have Hh := Lib.hid hh
  clear hh
  go_enter Tryd.func85, Tryd.ntmps85
  go_wp2
  go_loopw [3, 4] (fun v i wr => ∃ (k : Nat) (A' : Option Addr) (c' : Nat), 2 * k ≤ n ∧ i = .int .i64 ((2 * k + 1 : Nat) : Int) ∧ v = .slice A' k c' ∧ Own wr w.heap.size A' k c' (joinB (l.take (2 * k))) ∧ Below w.heap.size w wr) (fun _ i _ => n + 1 - (intOf i).toNat)
  case atStart => exact ⟨0, none, 0, by omega, rfl, rfl, Own.nil_ _ _, Below.refl _ _⟩
  case round =>
    obtain ⟨k, A', c', hk, rfl, rfl, hown, hb⟩ := hrel
    have hln := hr.len
    by_cases hlt : 2 * k + 1 < n
    · obtain ⟨bb, off, rfl, hc⟩ := (hr.below hb).at_ (k := 2 * k) (by omega)
      obtain ⟨bb', off', e, hc'⟩ := (hr.below hb).at_ (k := 2 * k + 1) (by omega)
      injection e with e
      injection e with e1 e2
      subst e1 e2
      have h0 := at8_lo l (2 * k)
      have h1 := at8_lo l (2 * k + 1)
      have h2 := halvesB_at l Hh.out (2 * k)
      have h3 := halvesB_at l Hh.out (2 * k + 1)
      have hkl : 2 * k + 1 < l.length := by omega
      clear hln
      have hor := or_halves (at8 l (2 * k)) (at8 l (2 * k + 1)) h0 h2 h1 h3
      have hown' := Lib.hid hown
      have hw1 : IntKind.i64.wrap (2 * (k : Int)) = 2 * (k : Int) := IntWalk.i64_in _ (by omega)
      have hw2 : (2 * (k : Int)).toNat = 2 * k := by omega
      have hw4 : (2 * (k : Int) + 1).toNat = 2 * k + 1 := by omega
      have hw5 : (0 : Int) ≤ 2 * (k : Int) := by omega
      have hw6 : (2 * (k : Int)) < (n : Int) := by omega
      have hw7 : (0 : Int) ≤ 2 * (k : Int) + 1 := by omega
      have hw8 : (2 * (k : Int) + 1) < (n : Int) := by omega
      have hw3 : IntKind.u8.wrap (at8 l (2 * k) * 16) = at8 l (2 * k) * 16 := IntWalk.u8_in _ (by omega)
      go_wp2
      go_region_law (refine step_app rfl _ _ rfl rfl ((hown'.out).drew.alloc _) rfl (Rd.lit1 _ _ (by omega)) (by omega) (by simp; have := hb.size; omega) ?_; intro A2 c2 w2 hown2 hg2)
      all_goals
        have hb2 := ((hb.alloc hb.size (.cells #[.int .u8 (at8 l (2 * k) * 16 + at8 l (2 * k + 1))] 5)).drew).grown hg2 (by simp; have := hb.size; omega) hown.lo
        have hj := Lib.hid (joinB_take8 l k hkl Hh.out)
        clear hown hb hor hw1 hw2 hw3 hw4 hc hc' hown' hg2
        go_wp2
        go_roundw
        case rel => exact ⟨k + 1, A2, c2, by omega, by go_num, rfl, by rw [hj.out]; exact hown2, hb2⟩
        case measure => simp [intOf]; omega
    · have hkn : k = n / 2 := by omega
      have hend := Lib.hid (joinB_all l k (by omega) (by omega))
      have Hk := Lib.hid hkn
      clear hln hkn
      go_wp2
      go_ret
      exact ⟨A', c', ret_slice Hk.out, by rw [hend.out] at hown; rw [← Hk.out]; exact hown, hb⟩

end Go.Proofs.YtdlljmmgkoeilaaDoor
namespace Go.Proofs.YtdlljmmgkoeilaaDoor
open Go.RowKit
theorem is_tright : isFn Tryd.prog 46 = true := by kernel_rfl
theorem is_nof : isFn Tryd.prog 48 = true := by kernel_rfl
theorem is_leaf : isFn Tryd.prog 63 = true := by kernel_rfl
theorem is_along : isFn Tryd.prog 79 = true := by kernel_rfl
def tri (t : Nd) (nk nv : Nat) : Bool := rightP true t 0 && (decide (nk ≤ 200) && decide (nv ≤ 4000))
set_option maxRecDepth 100000 in
theorem tright_any (t : Nd) (ht : sz t ≤ 10000000) (gs : List (Option Nat)) (w : World) (cs : List Value) (Ak Av : Option Addr) (nk ck nv cv : Nat) (hr : RdL w (Fd w gs) (dN t) cs) (hgs : ∀ b, some b ∈ gs → b < w.heap.size) :
    Calls Tryd.prog 46 #[.agg cs.toArray, .slice Ak nk ck, .slice Av nv cv] w fun e w' => e = .returned (.bool (tri t nk nv)) ∧ Below w.heap.size w w' := by
  refine calls_ev (args := [.agg cs.toArray, .slice Ak nk ck, .slice Av nv cv]) mixed Tryd.func46 rfl (by kernel_rfl) ?_
  have hl := hr.len
  rw [dN_len] at hl
  refine v_boxB cs rfl ?_
  rintro g W1 hg hB hb hs1
  rw [hg] at hb
  refine v_loadN cs agg_nd rfl hl (hB.run 0 _ (fun j v h => by rw [Nat.zero_add]; exact h)) ?_
  refine cc is_ncheck (ncheck_any t (by omega) gs W1 cs (hr.up (Stp.below hb)) (fun b e => by have := hgs b e; omega)) ?_
  rintro e W2 ⟨rfl, b2⟩
  refine ⟨_, rfl, ?_⟩
  have C := below_tr hb b2
  unfold checkE tri
  cases h : rightP true t 0 with
  | false =>
    refine p_eq rfl rfl (fun h => absurd (show (2 : Int) = 0 from h) (by decide)) (fun _ => ?_)
    exact ⟨rfl, C⟩
  | true =>
    refine p_eq rfl rfl (fun _ => ?_) (fun h => absurd rfl h)
    refine p_len slb rfl ?_
    refine p_le rfl rfl (fun h1 => ?_) (fun h1 => ?_)
    · refine p_len slb rfl ?_
      refine p_le rfl rfl (fun h2 => ?_) (fun h2 => ?_)
      · exact ⟨by rw [decide_eq_true (by omega), decide_eq_true (by omega)]; rfl, C⟩
      · exact ⟨by rw [decide_eq_true (by omega), decide_eq_false (by omega)]; rfl, C⟩
    · exact ⟨by rw [decide_eq_false (show ¬ nk ≤ 200 by omega)]; rfl, C⟩
/-- What trie.Get answers. -/
structure GotE where
  v : List UInt8
  has : Bool
  miss : Option (List UInt8)
  e : Int
def tGet (t : Nd) (key : List UInt8) : GotE :=
  if tri t key.length 0 then (match (getP t (ofB key)).miss with
    | some r => ⟨[], false, some r, 80⟩
    | none => if (getP t (ofB key)).has then ⟨(getP t (ofB key)).v, true, none, 0⟩ else ⟨[], false, none, 0⟩)
  else ⟨[], false, none, 2⟩
theorem is_tGet : isFn Tryd.prog 37 = true := by kernel_rfl
set_option maxRecDepth 100000 in
set_option maxHeartbeats 1000000 in
theorem tGet_any (t : Nd) (ht : sz t ≤ 1000000) (gs : List (Option Nat)) (w : World) (cs : List Value) (key : List UInt8) (A : Option Addr) (n c : Nat) (hr : RdL w (Fd w gs) (dN t) cs) (hk : RdD w (Fd w gs) (dB key) (.slice A n c)) (hgs : ∀ b, some b ∈ gs → b < w.heap.size) :
    Calls Tryd.prog 37 #[.agg cs.toArray, .slice A n c] w fun e w' => ∃ A' n' c' Am nm cm, e = .returned (.tuple #[.slice A' n' c', .bool (tGet t key).has, .slice Am nm cm, .int .i64 (tGet t key).e]) ∧ RdD w' (Fr w w') (dB (tGet t key).v) (.slice A' n' c') ∧ missOk w' (Fr w w') [] (tGet t key).miss Am nm cm ∧ Below w.heap.size w w' := by
  refine calls_ev (args := [.agg cs.toArray, .slice A n c]) mixed Tryd.func37 rfl (by kernel_rfl) ?_
  have hl := hr.len
  rw [dN_len] at hl
  have hn := hk.slen
  subst hn
  refine v_boxB cs rfl ?_
  rintro g W1 hg hB hb hs1
  rw [hg] at hb
  have A1 : At w W1 gs := (At.start hgs).call hb
  have s1 : Stp w gs W1 gs := Stp.below hb
  refine v_loadN cs agg_nd rfl hl (hB.run 0 _ (fun j v h => by rw [Nat.zero_add]; exact h)) ?_
  refine cc is_tright (tright_any t (by omega) gs W1 cs A none key.length c 0 0 (hr.up s1) A1.lt) ?_
  rintro e W2 ⟨rfl, b2⟩
  refine ⟨_, rfl, ?_⟩
  have A2 := A1.call b2
  have s2 := s1.trans (Stp.below (gs := gs) b2)
  have hB2 := hB.below b2
  refine p_not rfl ?_
  unfold tGet
  cases htri : tri t key.length 0 with
  | false => exact ⟨none, 0, 0, none, 0, 0, rfl, RdD.nil_ _ _, ⟨rfl, rfl, rfl⟩, A2.below⟩
  | true =>
    have hval : Val true t 0 := by
      unfold tri at htri
      rw [Bool.and_eq_true] at htri
      exact val_of_right true _ t 0 (Nat.lt_succ_self _) htri.1
    have hkl : key.length ≤ 200 := by
      unfold tri at htri
      simp only [Bool.and_eq_true, decide_eq_true_eq] at htri
      exact htri.2.1
    rw [if_pos rfl]
    refine v_bslice0 slb ?_
    rintro g3 W3 hg3 hB3 hb3 hs3
    rw [hg3] at hb3
    have A3 := (A2.call hb3).drew
    have s3 : Stp w gs W3.drew gs := (s2.trans (Stp.below (gs := gs) hb3)).trans Stp.drew
    have hB3' := (hB2.below hb3).drew
    have hw3 : RdD W3.drew (Fd W3.drew gs) (dB []) (.slice (some ⟨g3, 0, none⟩) 0 0) := RdD.nil_ _ _
    refine dr (fun W => Below W3.drew.heap.size W3.drew W) [(0, true), (1, true), (3, true), (2, false), (4, false), (5, true), (6, true), (7, true), (8, true), (9, true), (10, true), (11, true)] (by kernel_rfl) (Below.refl _ _) ?_
    refine t_loadN cs agg_nd rfl hl (fun W h => (hB3'.below h).run 0 _ (fun j v h => by rw [Nat.zero_add]; exact h)) ?_
    obtain ⟨e1, e2, hkr⟩ := (hk.up s3).rd Fd.lt
    refine cc is_nof (of_any A key.length c key W3.drew hkr (by omega)) ?_
    rintro e W4 ⟨A4, c4, rfl, o4, b4⟩
    refine ⟨_, rfl, b4, ?_⟩
    have A4' := A3.call b4
    have s4 := s3.trans (Stp.below (gs := gs) b4)
    have hq4 : RdD W4 (Fd W4 gs) (dB (ofB key)) (.slice A4 (2 * key.length) c4) := (o4.zb (base := 0) (Nat.zero_le _) A3.lt).z0
    refine cc is_tget (tget_any 10000000 (Nat.le_refl _) t (by omega) gs W4 cs (ofB key) [] A4 _ c4 _ _ _ 0 true (hr.up s4) hq4 (hw3.up (Stp.below b4)) A4'.lt (by simp) (halvesB_ofB key) hval (by rw [ofB_length]; simp; omega)) ?_
    rintro e W5 ⟨A5, n5, c5, Am, nm, cm, rfl, hv5, hm5, b5⟩
    refine ⟨_, rfl, below_tr b4 b5, ?_⟩
    have hbb := below_tr A4'.below b5
    have hv5' := Fr.more hv5 A4'.size
    have hm5' := missOk.more (W := w) hm5 A4'.size
    cases hmm : (getP t (ofB key)).miss with
    | some r =>
      rw [hmm] at hm5'
      refine p_slnn isSlb rfl rfl (fun h => absurd h hm5'.1) (fun _ => ?_)
      exact ⟨none, 0, 0, Am, nm, cm, rfl, RdD.nil_ _ _, hm5', hbb⟩
    | none =>
      rw [hmm] at hm5'
      obtain ⟨rfl, rfl, rfl⟩ := hm5'
      refine p_slnn isSlb rfl rfl (fun _ => ?_) (fun h => absurd rfl h)
      refine p_not rfl ?_
      cases hhas : (getP t (ofB key)).has with
      | false => exact ⟨none, 0, 0, none, 0, 0, rfl, RdD.nil_ _ _, ⟨rfl, rfl, rfl⟩, hbb⟩
      | true => exact ⟨A5, n5, c5, none, 0, 0, rfl, hv5', ⟨rfl, rfl, rfl⟩, hbb⟩
def leafN (p v : List UInt8) : Nd := .mk 1 p false v [] []
def alongN (p : List UInt8) (t : Nd) : Nd := if p = [] then t else .mk 2 p false [] [t] []
set_option maxRecDepth 100000 in
theorem leaf_any (p v : List UInt8) (gs : List (Option Nat)) (w : World) (A1 A2 : Option Addr) (n c m d : Nat) (hp : RdD w (Fd w gs) (dB p) (.slice A1 n c)) (hv : RdD w (Fd w gs) (dB v) (.slice A2 m d)) (hgs : ∀ b, some b ∈ gs → b < w.heap.size) (hs : n ≤ 1000000 ∧ m ≤ 1000000) :
    Calls Tryd.prog 63 #[.slice A1 n c, .slice A2 m d] w fun e w' => ∃ cs, e = .returned (.agg cs.toArray) ∧ RdL w' (Fr w w') (dN (leafN p v)) cs ∧ Below w.heap.size w w' := by
  refine calls_ev (args := [.slice A1 n c, .slice A2 m d]) mixed Tryd.func63 rfl (by kernel_rfl) ?_
  have en := hp.slen
  have em := hv.slen
  refine v_allocB zN al_nd ?_
  rintro g W1 hg hB hb hs1
  have hgw := hg
  rw [hg] at hb
  have A1' : At w W1 (some g :: gs) := (At.start hgs).new hb (fun b e => by injection e with e; omega)
  have s1 : Stp w gs W1 (some g :: gs) := Stp.new hb (fun b e => by injection e with e; omega)
  refine cc is_sclone (sclone_any _ A1 n c p W1 (hp.up s1) (by omega)) ?_
  rintro e W2 ⟨A3, c3, rfl, o3, -, b2⟩
  refine ⟨_, rfl, ?_⟩
  have A2' := A1'.call b2
  have s2 := s1.trans (Stp.below b2)
  have P := o3.zb (base := w.heap.size) A1'.size A1'.lt
  refine cc is_bclone (bclone_any _ A2 m d v W2 (hv.up s2) (by omega)) ?_
  rintro e W3 ⟨A4, c4, rfl, o4, -, b3⟩
  refine ⟨_, rfl, ?_⟩
  have V := o4.zb (base := w.heap.size) A2'.size A2'.lt
  replace P := P.upz (Stp.below b3)
  have hB3 := (hB.below b2).below b3
  have A3' := A2'.call b3
  subst en; subst em
  refine p_build (vs := ncs (leafN p v) A3 c3 A4 c4 none 0 none 0) pl_nd z_nd rfl ?_
  refine v_storeA (ncs (leafN p v) A3 c3 A4 c4 none 0 none 0) sz_nd rfl rfl rfl (ncs_one _ _ _ _ _ _ _ _ _) hB3 rfl ?_
  rintro W4 hB4 hg4 hs4
  refine c_loadN (ncs (leafN p v) A3 c3 A4 c4 none 0 none 0) agg_nd rfl rfl (hB4.run 0 _ (fun j v h => by rw [Nat.zero_add]; exact h)) ?_
  have St : Stp W3 (some g :: gs) W4 (some g :: gs) := Stp.wrote hg4 (by simp)
  refine ⟨_, rfl, ?_, (A3'.wrote hg4 (fun b e => by injection e with e; omega)).below⟩
  exact RdL.frz (RdL.ofnode (t := leafN p v) (P.upz St) (V.upz St) (RdD.nil_ _ _) (RdD.nil_ _ _))
set_option maxRecDepth 100000 in
theorem along_any (p : List UInt8) (t : Nd) (gs : List (Option Nat)) (w : World) (A : Option Addr) (n c : Nat) (cs : List Value) (hp : RdD w (Fd w gs) (dB p) (.slice A n c)) (hr : RdL w (Fd w gs) (dN t) cs) (hgs : ∀ b, some b ∈ gs → b < w.heap.size) (hs : n ≤ 1000000) :
    Calls Tryd.prog 79 #[.slice A n c, .agg cs.toArray] w fun e w' => ∃ cs', e = .returned (.agg cs'.toArray) ∧ RdL w' (Fd w' gs) (dN (alongN p t)) cs' ∧ Below w.heap.size w w' := by
  refine calls_ev (args := [.slice A n c, .agg cs.toArray]) mixed Tryd.func79 rfl (by kernel_rfl) ?_
  have en := hp.slen
  have hl := hr.len
  rw [dN_len] at hl
  refine v_boxB cs rfl ?_
  rintro g1 W1 hg1 hB1 hb1 hs1
  refine v_allocB zN al_nd ?_
  rintro g W2 hg hB hb hs2
  rw [hg1] at hb1
  rw [hg] at hb
  have C2 := below_tr hb1 hb
  have A2 : At w W2 (some g :: gs) := ((At.start hgs).call hb1).new hb (fun b e => by injection e with e; omega)
  have s2 : Stp w gs W2 (some g :: gs) := (Stp.below hb1).trans (Stp.new hb (fun b e => by injection e with e; omega))
  have hB1' := hB1.below hb
  have hr2 := hr.up s2
  have hgw : w.heap.size ≤ g := by have := hb1.size; omega
  refine p_len slb rfl ?_
  refine p_eq rfl rfl (fun h0 => ?_) (fun h0 => ?_)
  · have hp0 : p = [] := nil_of_len (by omega)
    refine v_loadN cs agg_nd rfl hl (hB1'.run 0 _ (fun j v h => by rw [Nat.zero_add]; exact h)) ?_
    refine v_storeA cs sz_nd rfl rfl hl (hr.ones (dN_one t)) hB rfl ?_
    rintro W4 hB4 hg4 hs4
    refine c_loadN cs agg_nd rfl hl (hB4.run 0 _ (fun j v h => by rw [Nat.zero_add]; exact h)) ?_
    have St : Stp W2 (some g :: gs) W4 (some g :: gs) := Stp.wrote hg4 (by simp)
    refine ⟨_, rfl, ?_, (A2.wrote hg4 (fun b e => by injection e with e; omega)).below⟩
    unfold alongN
    rw [if_pos hp0]
    exact (hr2.up St).up Stp.drop
  · have hp0 : p ≠ [] := fun e => by subst e; exact h0 (by rw [en]; rfl)
    have sd : Stp W2 (some g :: gs) W2.drew (some g :: gs) := Stp.drew
    have Ad := A2.drew
    have hBd : Blk W2.drew g 28 zN := hB
    have hB1d : Blk W2.drew g1 28 cs := hB1'
    have hpd := (hp.up s2).up sd
    have hrd := hr2.up sd
    obtain ⟨Ap, cp, Av, cv, Ak, ck, Ah, ch, rfl, r1, r3, r4, r5⟩ := hrd.node
    have hW2 : W2.drew.heap.size = g + 1 := hs2
    have hg1g : g1 ≠ g := by omega
    refine drT (fun W => Blk W g1 28 (ncs t Ap cp Av cv Ak ck Ah ch)) (Sch.graft (.take 0 (.take 2 (.two 1 (.one 3 (.take 4 .nil)) 3 (.one 1 (.take 4 .nil))))) (.one 5 .nil)) (by kernel_rfl) hB1d ?_
    refine cutT (Option Addr × Nat × Nat) (fun s W => At w W (some g :: gs) ∧ RdD W (Fd W (some g :: gs)) (dB p) (.slice s.1 n s.2.1) ∧ RdD W (Fd W (some g :: gs)) (dKs [t]) (.slice (some ⟨s.2.2, 0, none⟩) 1 1) ∧ Blk W g 28 zN ∧ Blk W g1 28 (ncs t Ap cp Av cv Ak ck Ah ch))
      (fun s => [(4, .pointer (some ⟨g, 0, none⟩)), (13, .agg #[.int .i64 2, .slice s.1 n s.2.1, .bool false, .slice none 0 0, .slice (some ⟨s.2.2, 0, none⟩) 1 1, .slice none 0 0])]) ?_ ?_
    · refine t_loadN (ncs t Ap cp Av cv Ak ck Ah ch) agg_nd rfl rfl (fun W h => Blk.run h 0 _ (fun j v h => by rw [Nat.zero_add]; exact h)) ?_
      refine ⟨?_, ?_⟩
      ·
        refine cc is_sclone (sclone_any _ A n c p _ hpd (by omega)) ?_
        rintro e Wn ⟨A5, c5, rfl, o5, -, b5⟩
        have P := (o5.zb (base := 0) (Nat.zero_le _) Ad.lt).z0
        replace Ad := Ad.call b5
        replace hB1d := hB1d.below b5
        replace hBd := hBd.below b5
        replace hpd := hpd.up (Stp.below b5)
        replace hrd := hrd.up (Stp.below b5)
        try replace K := K.up (Stp.below b5)
        refine ⟨_, rfl, hB1d, ?_⟩
        refine v_bslice (vs := ncs t Ap cp Av cv Ak ck Ah ch) sln z_nd rfl (by decide) rfl ?_
        rintro gk Wn hgk hBk b5 hsk
        rw [hgk] at b5
        replace hB1d := hB1d.below b5
        replace hBd := hBd.below b5
        replace hpd := hpd.up (Stp.below b5)
        replace hrd := hrd.up (Stp.below b5)
        try replace P := P.up (Stp.below b5)
        have K : RdD Wn (Fd Wn (some g :: gs)) (dKs [t]) (.slice (some ⟨gk, 0, none⟩) 1 1) := by
          refine RdD.sl_iff.2 ⟨_, 1, ncs t Ap cp Av cv Ak ck Ah ch, rfl, Nat.le_refl _, by rw [dNs_len], by rw [dNs, dNs, List.append_nil]; exact hrd, fun _ => ⟨gk, 0, rfl, ⟨hBk.lt, fun e => ?_⟩, fun j x hx => ?_⟩⟩
          · have := Ad.lt gk e; omega
          · rw [Nat.zero_add]; exact hBk.at_ hx
        replace Ad := Ad.call b5
        refine ⟨hB1d, ?_⟩
        refine p_build (vs := ncs (.mk 2 p false [] [t] []) A5 c5 none 0 (some ⟨gk, 0, none⟩) 1 none 0) pl_nd z_nd ?_ ?_
        · subst en; rfl
        subst en
        exact ⟨(A5, c5, gk), ⟨Ad, P, K, hBd, hB1d⟩, ⟨rfl, rfl, trivial⟩⟩
      ·
        refine v_bslice (vs := ncs t Ap cp Av cv Ak ck Ah ch) sln z_nd rfl (by decide) rfl ?_
        rintro gk Wn hgk hBk b5 hsk
        rw [hgk] at b5
        replace hB1d := hB1d.below b5
        replace hBd := hBd.below b5
        replace hpd := hpd.up (Stp.below b5)
        replace hrd := hrd.up (Stp.below b5)
        try replace P := P.up (Stp.below b5)
        have K : RdD Wn (Fd Wn (some g :: gs)) (dKs [t]) (.slice (some ⟨gk, 0, none⟩) 1 1) := by
          refine RdD.sl_iff.2 ⟨_, 1, ncs t Ap cp Av cv Ak ck Ah ch, rfl, Nat.le_refl _, by rw [dNs_len], by rw [dNs, dNs, List.append_nil]; exact hrd, fun _ => ⟨gk, 0, rfl, ⟨hBk.lt, fun e => ?_⟩, fun j x hx => ?_⟩⟩
          · have := Ad.lt gk e; omega
          · rw [Nat.zero_add]; exact hBk.at_ hx
        replace Ad := Ad.call b5
        refine ⟨hB1d, ?_⟩
        refine cc is_sclone (sclone_any _ A n c p _ hpd (by omega)) ?_
        rintro e Wn ⟨A5, c5, rfl, o5, -, b5⟩
        have P := (o5.zb (base := 0) (Nat.zero_le _) Ad.lt).z0
        replace Ad := Ad.call b5
        replace hB1d := hB1d.below b5
        replace hBd := hBd.below b5
        replace hpd := hpd.up (Stp.below b5)
        replace hrd := hrd.up (Stp.below b5)
        try replace K := K.up (Stp.below b5)
        refine ⟨_, rfl, hB1d, ?_⟩
        refine p_build (vs := ncs (.mk 2 p false [] [t] []) A5 c5 none 0 (some ⟨gk, 0, none⟩) 1 none 0) pl_nd z_nd ?_ ?_
        · subst en; rfl
        subst en
        exact ⟨(A5, c5, gk), ⟨Ad, P, K, hBd, hB1d⟩, ⟨rfl, rfl, trivial⟩⟩
    · rintro ⟨A5, c5, gk⟩ B6 W6 ⟨A6, P, K, hB6, b6⟩
      dsimp only at P K
      subst en
      refine v_storeA (ncs (.mk 2 p false [] [t] []) A5 c5 none 0 (some ⟨gk, 0, none⟩) 1 none 0) sz_nd rfl rfl rfl (ncs_one _ _ _ _ _ _ _ _ _) hB6 rfl ?_
      rintro W7 hB7 hg7 hs7
      refine ⟨b6.grownN hg7 (fun e => hg1g e.symm), ?_⟩
      refine c_loadN (ncs (.mk 2 p false [] [t] []) A5 c5 none 0 (some ⟨gk, 0, none⟩) 1 none 0) agg_nd rfl rfl (hB7.run 0 _ (fun j v h => by rw [Nat.zero_add]; exact h)) ?_
      have St : Stp W6 (some g :: gs) W7 (some g :: gs) := Stp.wrote hg7 (by simp)
      refine ⟨_, rfl, ?_, (A6.wrote hg7 (fun b e => by injection e with e; omega)).below⟩
      unfold alongN
      rw [if_neg hp0]
      exact ((RdL.ofnode (t := .mk 2 p false [] [t] []) P (RdD.nil_ _ _) K (RdD.nil_ _ _)).up St).up Stp.drop
end Go.Proofs.YtdlljmmgkoeilaaDoor
namespace Go.Proofs.YtdlljmmgkoeilaaDoor
open Go.RowKit
theorem is_kclone : isFn Tryd.prog 65 = true := by kernel_rfl
theorem is_hold : isFn Tryd.prog 78 = true := by kernel_rfl
theorem isSln : isSl Tryd.prog 26 = true := by kernel_rfl
theorem sz_bo : (Tryd.prog.info? 4).map (·.size) = some 1 := by kernel_rfl
theorem sz_by : (Tryd.prog.info? 23).map (·.size) = some 1 := by kernel_rfl
/-- The place of an element. -/
theorem p_atL {P : Program} {E : Env} {d : Option Nat} {ty : TypeId} {p : String} {af : Array Edge} {g : Option (Nat × Bool)} {x y : Operand} {t : TypeId} {kd : IntKind} {k : Value → Prop} {b o q n c i : Nat} {e : TypeId} {s : Nat} {j : Int} (hT : slOf P t = some (e, s)) (hx : val E x = .slice (some ⟨b, o, none⟩) n c) (hy : val E y = .int kd j) (hj : j = (i : Int)) (hi : i < n) (hq : o + i * s = q)
    (h : k (.pointer (some ⟨b, q, none⟩))) : VPure P E { dst := d, op := .indexAddr t x y, type := ty, pos := p, after := af, guard := g } k :=
  p_at hT hx hy hj hi (by rw [Addr.add_lit, hq]; exact h)
set_option maxRecDepth 100000 in
theorem kclone_any (gs : List (Option Nat)) (A : Option Addr) (n c : Nat) (ks : List Nd) (w : World) (hr : RdD w (Fd w gs) (dKs ks) (.slice A n c)) (hgs : ∀ b, some b ∈ gs → b < w.heap.size) (hsz : n ≤ 1000000) (hn0 : 0 < n) :
    Calls Tryd.prog 65 #[.slice A n c] w fun e w' => ∃ g c' xs rest, e = .returned (.slice (some ⟨g, 0, none⟩) n c') ∧ w.heap.size ≤ g ∧ n ≤ c' ∧ Blk w' g 28 (xs ++ rest) ∧ RdL w' (Fd w' (some g :: gs)) (dNs ks) xs ∧ Below w.heap.size w w' := by
  refine calls_ev (args := [.slice A n c]) mixed Tryd.func65 rfl (by kernel_rfl) ?_
  refine p_sln isSln rfl rfl (fun h => ?_) (fun h => ?_)
  · have := hr.none0 h; omega
  refine v_bslice0 sln ?_
  rintro g W1 hg hB hb hs1
  rw [hg] at hb
  have A1 : At w W1 (some g :: gs) := (At.start hgs).new hb (fun b e => by injection e with e; omega)
  have s1 : Stp w gs W1 (some g :: gs) := Stp.new hb (fun b e => by injection e with e; omega)
  obtain ⟨cs, hrd, hcs⟩ := (hr.up s1).reads Fd.lt
  have hrow : W1.ownsRow w.heap.size 28 6 (.slice (some ⟨g, 0, none⟩) 0 0) 0 [] := row_blk (n := 0) hB (by omega) rfl (by decide)
  refine v_appR (A := some ⟨g, 0, none⟩) Tryd.underlying26 inf_nd rfl (by decide) rfl hrow rfl hrd (hcs.ones (dNs_one ks)) ⟨by omega, by decide⟩ A1 ?_
  rintro A3 c3 W3 hrow3 s3 A3' - hg3 hb3
  rw [List.nil_append] at hrow3
  rcases hrow3.2 with ⟨_, h0⟩ | ⟨g', cap, cur, hv, hbg, hh, hnc, _, _, htk⟩
  · omega
  · injection hv with hA _ hc
    subst hA; subst hc
    refine ⟨g', c3, cs, cur.toList.drop ((0 + n) * 6), by rw [Nat.zero_add]; rfl, hbg, by omega, ?_, hcs.up s3, A3'.below⟩
    have e : cs ++ cur.toList.drop ((0 + n) * 6) = cur.toList := by rw [← htk, List.take_append_drop]
    rw [e]
    unfold Blk
    rw [hh]
/-- A branch that is still made: its block, that of its kids. -/
def BrS (W : World) (gs : List (Option Nat)) (gb gk ck : Nat) (has : Bool) (v : List UInt8) (ks : List Nd) : Prop :=
  ∃ Av cv xs rest, Blk W gb 28 [.int .i64 3, .slice none 0 0, .bool has, .slice Av v.length cv, .slice (some ⟨gk, 0, none⟩) 16 ck, .slice none 0 0] ∧ RdD W (Fd W gs) (dB v) (.slice Av v.length cv) ∧ Blk W gk 28 (xs ++ rest) ∧ RdL W (Fd W gs) (dNs ks) xs ∧ ks.length = 16 ∧ gb ≠ gk ∧ some gb ∈ gs ∧ some gk ∈ gs ∧ 16 ≤ ck
def holdK (has : Bool) (v : List UInt8) (ks : List Nd) (p val : List UInt8) : Bool × List UInt8 × List Nd :=
  match p with
  | [] => (true, val, ks)
  | x :: q => (has, v, ks.set x.toNat (leafN q val))
theorem dNs_set : ∀ {ks : List Nd} {i : Nat} (k : Nd), i < ks.length → dNs (ks.set i k) = (dNs ks).take (i * 6) ++ dN k ++ (dNs ks).drop (i * 6 + 6)
  | t :: ks, 0, k, _ => by
    rw [List.set_cons_zero, dNs, dNs, Nat.zero_mul, List.take_zero, List.nil_append, Nat.zero_add, List.drop_left' (dN_len t)]
  | t :: ks, i + 1, k, h => by
    rw [List.set_cons_succ, dNs, dNs, dNs_set k (by simpa using h), show (i + 1) * 6 = (dN t).length + i * 6 by rw [dN_len]; omega, List.take_length_add_append, show (dN t).length + i * 6 + 6 = (dN t).length + (i * 6 + 6) by omega, List.drop_length_add_append]
    simp only [List.append_assoc]
theorem halves_hd {x : UInt8} {q : List UInt8} (h : halvesB (x :: q) = true) : x.toNat < 16 := by
  unfold halvesB at h
  have := List.all_eq_true.1 h x (by simp)
  have := of_decide_eq_true this
  rw [UInt8.le_iff_toNat_le] at this
  have e15 : (15 : UInt8).toNat = 15 := rfl
  omega
set_option maxRecDepth 100000 in
set_option maxHeartbeats 1000000 in
theorem hold_any (gs : List (Option Nat)) (w : World) (gb gk ck : Nat) (has : Bool) (v : List UInt8) (ks : List Nd) (p val : List UInt8) (A1 A2 : Option Addr) (n c m d : Nat) (hb : BrS w gs gb gk ck has v ks) (hp : RdD w (Fd w gs) (dB p) (.slice A1 n c)) (hv : RdD w (Fd w gs) (dB val) (.slice A2 m d)) (hgs : ∀ b, some b ∈ gs → b < w.heap.size) (hh : halvesB p = true) (hs : n ≤ 1000000 ∧ m ≤ 1000000) :
    Calls Tryd.prog 78 #[.pointer (some ⟨gb, 0, none⟩), .slice A1 n c, .slice A2 m d] w fun e w' => (∃ u, e = .returned u) ∧ BrS w' gs gb gk ck (holdK has v ks p val).1 (holdK has v ks p val).2.1 (holdK has v ks p val).2.2 ∧ Stp w gs w' gs ∧ ∀ B, B ≤ gb → B ≤ gk → B ≤ w.heap.size → Below B w w' := by
  refine calls_ev (args := [.pointer (some ⟨gb, 0, none⟩), .slice A1 n c, .slice A2 m d]) mixed Tryd.func78 rfl (by kernel_rfl) ?_
  obtain ⟨Av, cv, xs, rest, hB, hV, hK, hX, h16, hne, hgb, hgk, hck⟩ := hb
  have en := hp.slen
  have em := hv.slen
  refine p_len slb rfl ?_
  match p, hp, hh, en with
  | [], hp, hh, en =>
    subst en
    refine p_eq rfl rfl (fun _ => ?_) (fun h => absurd rfl h)
    refine cc is_bclone (bclone_any gs A2 m d val w hv (by omega)) ?_
    rintro e W1 ⟨A3, c3, rfl, o3, -, b1⟩
    refine ⟨_, rfl, ?_⟩
    have V1 := (o3.zb (base := 0) (Nat.zero_le _) hgs).z0
    have hB1 := hB.below b1
    have hK1 := hK.below b1
    refine p_nil rfl ?_
    refine p_fld fN2 rfl ?_
    refine v_set (.bool true) sz_bo hB1 rfl rfl rfl (by show 2 < 6; decide) ?_
    rintro W2 hB2 hg2 hs2
    refine p_nil rfl ?_
    refine p_fld fN3 rfl ?_
    refine v_set (.slice A3 m c3) sz_by hB2 rfl rfl rfl (by show 3 < 6; decide) ?_
    rintro W3 hB3 hg3 hs3
    have St1 : Stp w gs W1 gs := Stp.below b1
    have St3 : Stp W1 gs W3 gs := (Stp.wrote hg2 hgb).trans (Stp.wrote hg3 hgb)
    subst em
    refine ⟨⟨_, rfl⟩, ⟨A3, c3, xs, rest, hB3, V1.up St3, (hK1.grownN hg2 hne).grownN hg3 hne, (hX.up St1).up St3, h16, hne, hgb, hgk, hck⟩, St1.trans St3, fun B h1 h2 h3 => ?_⟩
    exact ((b1.mono h3).grown hg2 (by have := b1.size; omega) (fun q hq => by injection hq with hq; omega)).grown hg3 (by have := b1.size; omega) (fun q hq => by injection hq with hq; omega)
  | x :: q, hp, hh, en =>
    have hx := halves_hd hh
    rw [List.length_cons] at en
    refine p_eq rfl rfl (fun h => by omega) (fun _ => ?_)
    have sd : Stp w gs w.drew gs := Stp.drew
    have hBd : Blk w.drew gb 28 [.int .i64 3, .slice none 0 0, .bool has, .slice Av v.length cv, .slice (some ⟨gk, 0, none⟩) 16 ck, .slice none 0 0] := hB
    have hKd : Blk w.drew gk 28 (xs ++ rest) := hK
    have hpd := hp.up sd
    have hvd := hv.up sd
    obtain ⟨_, hcp, hpr⟩ := hpd.rd Fd.lt
    obtain ⟨bq, oq, eAq, hcx⟩ := hpr.at_ (k := 0) (by omega)
    subst eAq
    have hcx' : w.drew.cell? (Addr.add ⟨bq, oq, none⟩ (0 * 1)) = some (.int .u8 (x.toNat : Nat)) := by rw [Addr.add_lit]; exact hcx
    have hcut := hpd.cutB (i := 1) (j := n) (m := c) (by omega) (Nat.le_refl _) (by omega)
    rw [List.drop_succ_cons, List.drop_zero, List.take_of_length_le (by omega)] at hcut
    refine drZ 12 (fun W => Below w.drew.heap.size w.drew W) [(0, true), (1, true), (2, true), (3, true), (4, true), (5, true), (6, true), (7, true), (8, true), (9, true), (10, false), (11, true)] (by kernel_rfl) (Below.refl _ _) ?_
    refine p_nil rfl ?_
    refine p_fld fN4 rfl ?_
    refine t_load agg_ns rfl (fun W h => (hBd.below h).at_ rfl) ?_
    refine p_at (i := 0) slb rfl rfl rfl (by omega) ?_
    refine t_load agg_by' rfl (fun W h => cellB h hcx') ?_
    refine p_slice (i := 1) (j := n) (m := c) slb rfl (bnd_i (kd := .i64) rfl) rfl rfl rfl (by omega) (by omega) (Nat.le_refl _) ?_
    refine cc is_leaf (leaf_any q val gs w.drew _ A2 (n - 1) (c - 1) m d hcut hvd hgs (by omega)) ?_
    rintro e W1 ⟨cs', rfl, hl1, b1⟩
    refine ⟨_, rfl, b1, ?_⟩
    have hcs := hl1.len
    rw [dN_len] at hcs
    have L1 : RdL W1 (Fd W1 gs) (dN (leafN q val)) cs' := (hl1.zfr (base := 0) (Nat.zero_le _) hgs).z0
    have hB1 := hBd.below b1
    have hK1 := hKd.below b1
    have hxl := hX.len
    rw [dNs_len, h16] at hxl
    refine p_atL (i := x.toNat) (q := x.toNat * 6) sln rfl rfl rfl (by omega) (by omega) ?_
    refine v_storeP (n := 6) (i := x.toNat * 6) cs' sz_nd rfl rfl hcs (hl1.ones (dN_one _)) hK1 (by rw [List.length_append, hxl]; omega) ?_
    rintro W2 hK2 hg2 hs2
    have St1 : Stp w gs W1 gs := sd.trans (Stp.below b1)
    have St2 : Stp W1 gs W2 gs := Stp.wrote hg2 hgk
    have b1' : Below w.heap.size w W1 := ⟨b1.os, b1.tape, b1.output, b1.size, b1.block⟩
    refine ⟨⟨_, rfl⟩, ⟨Av, cv, xs.take (x.toNat * 6) ++ cs' ++ xs.drop (x.toNat * 6 + 6), rest, hB1.grownN hg2 (fun e => hne e.symm), (hV.up St1).up St2, ?_, ?_, by show (ks.set x.toNat (leafN q val)).length = 16; rw [List.length_set]; exact h16, hne, hgb, hgk, hck⟩, St1.trans St2, fun B h1 h2 h3 => ?_⟩
    · have e1 : (xs ++ rest).take (x.toNat * 6) = xs.take (x.toNat * 6) := List.take_append_of_le_length (by omega)
      have e2 : (xs ++ rest).drop (x.toNat * 6 + 6) = xs.drop (x.toNat * 6 + 6) ++ rest := List.drop_append_of_le_length (by omega)
      rw [e1, e2] at hK2
      simpa only [List.append_assoc] using hK2
    · have hX2 := (hX.up St1).up St2
      show RdL W2 (Fd W2 gs) (dNs (ks.set x.toNat (leafN q val))) _
      rw [dNs_set _ (by omega)]
      exact ((hX2.take _).app (L1.up St2)).app (hX2.drop _)
    · exact (b1'.mono h3).grown hg2 (by have := b1'.size; omega) (fun q hq => by injection hq with hq; omega)
end Go.Proofs.YtdlljmmgkoeilaaDoor
