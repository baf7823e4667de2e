/- Opening one stub after the other, of a trie that has none itself. The walk of the law RevealAgrees. A trie's items: what lies on their ways is all of it. The walk of the law RevealJoin. What is told of a key in a trie that is open on another key's way. The walk of node.Count (a function that calls itself through a variable); what it counts. Reference 07: Count. Tries, open as far as they are wanted: how many nodes are open; somebody who looks up keys. A function whose body goes back to a label of its scope; a function held against nil. Package reveal: Wanted, with somebody who looks up keys. -/
import Derived.Test.YtojjfkbffjkojaaDoorG24
import Derived.Test.YtojjfkbffjkojaaDoorG21
import Derived.Test.YtojjfkbffjkojaaDoorG09
import Derived.Test.YtojjfkbffjkojaaDoorG03
import Derived.ScopeJumps
import Derived.Test.YtojjfkbffjkojaaDoorG18
namespace Go.Proofs.YtojjfkbffjkojaaDoor
open Go.RowKit
theorem sf_kind {t : Nd} (h : sfB t = true) : t.kind ≠ 4 ∧ sfsB t.kids = true := by
  cases t
  rw [sfB_mk, Bool.and_eq_true] at h
  exact ⟨of_decide_eq_true h.1, h.2⟩
theorem at_sf : ∀ (N : Nat) (t : Nd) (w : List UInt8) (x : Nd), sz t < N → sfB t = true → atP t w = some x → sfB x = true
  | 0, t, w, x, h, _, _ => by omega
  | N + 1, t, w, x, h, hs, ha => by
    have kd : ∀ i, i < t.kids.length → sfB (t.kids.getD i noneN) = true := fun i hi => by
      have h2 : t.kids.getD i noneN ∈ t.kids := by
        rw [List.getD_eq_getElem?_getD, List.getElem?_eq_getElem hi]
        exact List.getElem_mem hi
      exact sfsB_all.1 (sf_kind hs).2 _ h2
    by_cases h0 : w = []
    · rw [atP_eq, if_pos h0] at ha; injection ha with ha; rw [← ha]; exact hs
    rcases at_some (by rw [ha]; rfl) h0 with ⟨h1, h2, h3, h4⟩ | ⟨h1, h2, h3, h4⟩
    · rw [atP_way h0 h1 h2 h3] at ha
      have := sz_kidD t (i := 0) (by omega)
      exact at_sf N _ _ _ (by omega) (kd 0 (by omega)) ha
    · rw [atP_br h0 h1 h2 h3] at ha
      have := sz_kidD t h2
      exact at_sf N _ _ _ (by omega) (kd _ h2) ha
/-- Places that are open, and those on the way to one more. -/
def Sq (S : List UInt8 → Bool) (q r : List UInt8) : Bool := S r || decide (r <+: q)
theorem Sq_closed {S : List UInt8 → Bool} (h : Closed S) (q : List UInt8) : Closed (Sq S q) := fun a r hr ha => by
  unfold Sq at ha ⊢
  rw [Bool.or_eq_true] at ha ⊢
  rcases ha with ha | ha
  · exact .inl (h a r hr ha)
  · exact .inr (decide_eq_true (hr.trans (of_decide_eq_true ha)))
theorem open_yes {t : Nd} {S : List UInt8 → Bool} {q : List UInt8} (hf : Full t) (hS : Closed S) (hst : stubB (onP S t []) q = true) : openP (onP S t []) t q = (onP (Sq S q) t [], 0) ∧ S q = false := by
  obtain ⟨hv, hsf⟩ := hf
  obtain ⟨i1, i2, i3⟩ := at_on S (sz t + 1) t 0 [] q (Nat.lt_succ_self _) hv
  unfold stubB at hst
  cases hy : atP (onP S t []) q with
  | none => rw [hy] at hst; cases hst
  | some y =>
    rw [hy] at hst
    have hy4 : y.kind = 4 := of_decide_eq_true hst
    cases hx : atP t q with
    | none => rw [i1 hx] at hy; cases hy
    | some x =>
      have i3 := i3 (by rw [hy]; rfl)
      have i2 := i2 x hx i3
      rw [hy] at i2
      injection i2 with i2
      rw [List.nil_append] at i2
      have hx4 := (sf_kind (at_sf _ t q x (Nat.lt_succ_self _) hsf hx)).1
      have hsq : S q = false := by
        cases h : S q with
        | false => rfl
        | true => rw [onP_open h hx4] at i2; rw [i2] at hy4; exact absurd hy4 hx4
      refine ⟨?_, hsq⟩
      have hst := on_step (S := S) (sz t + 1) t 0 [] q x (Nat.lt_succ_self _) hv hx hx4 (by rw [hy]; rfl) (by rw [List.nil_append]; exact hsq) (fun r hr => by
        rw [List.nil_append]
        cases h : S (q ++ r) with
        | false => rfl
        | true => rw [hS (q ++ r) q (List.prefix_append q r) h] at hsq; cases hsq)
      unfold openP
      rw [hy, hx]
      dsimp only
      rw [if_pos ⟨hy4, hx4⟩, hst]
      refine Prod.ext ?_ rfl
      show onP _ t [] = onP _ t []
      refine on_congr (sz t + 1) t 0 [] (Nat.lt_succ_self _) hv fun r x' hrx k4 k0 => ?_
      rw [List.nil_append, List.nil_append]
      unfold Sq
      by_cases hrq : r <+: q
      · rw [decide_eq_true hrq, Bool.or_true]
        by_cases e : r = q
        · rw [decide_eq_true e, Bool.or_true]
        · have := i3 r x' hrq e hrx
          rw [List.nil_append] at this
          rw [this]; rfl
      · rw [decide_eq_false hrq, decide_eq_false (fun e => hrq (by rw [e]; exact List.prefix_refl q))]
theorem Open_on {t : Nd} {S : List UInt8 → Bool} {q : List UInt8} (hv : Val true t 0) : OpenP (onP S t []) t q = openP (onP S t []) t q := by
  unfold OpenP
  have h1 : checkE t = 0 := by unfold checkE; rw [right_of_val hv, if_pos rfl]
  have h2 : checkE (onP S t []) = 0 := by unfold checkE; rw [right_of_val (on_val S [] hv), if_pos rfl]
  rw [if_pos ⟨h2, h1, agr_whole hv⟩]
end Go.Proofs.YtojjfkbffjkojaaDoor
namespace Go.Proofs.YtojjfkbffjkojaaDoor
open Go.RowKit


theorem prBulk_le : ∀ l : List Pr, prBulk l ≤ 140 * (l.map fun t => t.k.length + t.v.length + 3).sum
  | [] => Nat.zero_le _
  | p :: l => by
    have := prBulk_le l
    rw [List.map_cons, List.sum_cons, show prBulk (p :: l) = (140 + 2 * p.k.length + p.v.length) + prBulk l by unfold prBulk; rw [List.map_cons, List.sum_cons]]
    omega
theorem prBig_of : ∀ {l : List Pr}, (l.map fun t => t.k.length + t.v.length + 3).sum ≤ 1048576 → prBig l := by
  intro l h
  have key : ∀ l : List Pr, l.length ≤ (l.map fun t => t.k.length + t.v.length + 3).sum ∧ ∀ p ∈ l, p.k.length + p.v.length ≤ (l.map fun t => t.k.length + t.v.length + 3).sum := by
    intro l
    induction l with
    | nil => exact ⟨Nat.zero_le _, fun p hp => by cases hp⟩
    | cons q l ih =>
      rw [List.map_cons, List.sum_cons]
      refine ⟨by rw [List.length_cons]; omega, fun p hp => ?_⟩
      rcases List.mem_cons.1 hp with rfl | hp
      · omega
      · have := ih.2 p hp; omega
  obtain ⟨h1, h2⟩ := key l
  exact ⟨by omega, fun p hp => by have := h2 p hp; omega⟩
/-- A list of bytes among what is read. -/
theorem St.atLc {w W : World} {gs : List (Option Nat)} {L : Lc} {R : List Row} {fs : List Fact} (M : St w gs W L R fs) {ll : List (List UInt8)} {A : Option Addr} {n c i : Nat} {l : List UInt8} (h : RdD W (Fd W (own L R gs)) (dLs ll) (.slice A n c)) (hk : ll[i]? = some l) :
    ∃ b o A1 c1, A = some ⟨b, o, none⟩ ∧ St w gs W L R (.loc ((⟨b, o, none⟩ : Addr).add (i * 1)) [.slice A1 l.length c1] :: .dat false [dB l] [.slice A1 l.length c1] :: fs) := by
  obtain ⟨b, o, A1, c1, e, hF, hr, hc⟩ := h.atL hk
  refine ⟨b, o, A1, c1, e, (M.addD hr).addC (by rw [block_of_add]; exact hF) (fun j x hx => ?_)⟩
  match j, hx with
  | 0, hx =>
    injection hx with hx
    subst hx
    rw [Addr.add_lit] at hc
    rw [Addr.add_lit, Addr.add_lit, Nat.add_zero]
    exact hc
  | j + 1, hx => cases hx
end Go.Proofs.YtojjfkbffjkojaaDoor
namespace Go.Proofs.YtojjfkbffjkojaaDoor
open Go.RowKit
theorem only_full {t : Nd} (h : Full t) (ways : List (List UInt8)) : onlyP t ways = (onP (Sof ways) t [], 0) := by
  have h1 : checkE t = 0 := by unfold checkE; rw [right_of_val h.1, if_pos rfl]
  unfold onlyP
  rw [if_pos h1]
end Go.Proofs.YtojjfkbffjkojaaDoor
namespace Go.Proofs.YtojjfkbffjkojaaDoor
open Go.RowKit


theorem zls10 : zeroOf Tryd.prog 23 = some [.slice none 0 0] := by kernel_rfl
theorem St.frzLs {w W : World} {gs : List (Option Nat)} {L : Lc} {R : List Row} {fs : List Fact} {A : Option Addr} {n c : Nat} {xs : List Value} {ll : List (List UInt8)} {fr : Bool} (M : St w gs W L (⟨23, 1, A, n, c, xs⟩ :: R) fs) (hd : RdL W (Ft w W (own L (⟨23, 1, A, n, c, xs⟩ :: R) gs) fr) (ll.map dB) xs) (hn : n = ll.length) : St w gs W L R (.dat fr [dLs ll] [.slice A ll.length c] :: fs) := by
  subst hn
  exact M.frzR hd
end Go.Proofs.YtojjfkbffjkojaaDoor
namespace Go.Proofs.YtojjfkbffjkojaaDoor
open Go.RowKit
theorem getP_leafZ {p v q : List UInt8} : getP (.mk 1 p false v [] []) q = ⟨v, decide (p = q), none⟩ := by unfold getP; simp
theorem miss_stub {even : Bool} {t : Nd} {d : Nat} (hv : Val even t d) : ∀ (q r : List UInt8), halvesB q = true → (getP t q).miss = some r → ∃ x, atP t r = some x ∧ x.kind = 4 := by
  induction hv with
  | none => intro q r _ h; rw [getP_none] at h; cases h
  | leaf d p v hd hp hv he => intro q r _ h; rw [getP_leafZ] at h; cases h
  | stub d h hd hh =>
    intro q r _ hm
    rw [getP_stub] at hm
    injection hm with hm
    exact ⟨_, by rw [atP_eq, if_pos hm.symm], rfl⟩
  | way d p k hd hp h0 hk hr ih =>
    intro q r hq hm
    by_cases hpq : p <+: q
    · rw [getP_way hpq] at hm
      cases hm2 : (getP k (q.drop p.length)).miss with
      | none => simp only [hm2] at hm; cases hm
      | some r' =>
        simp only [hm2] at hm
        injection hm with hm
        obtain ⟨x, hx, h4⟩ := ih _ r' (halvesB_drop hq) hm2
        exact ⟨x, by rw [← hm, at_wayN h0]; exact hx, h4⟩
    · rw [getP_way0 hpq] at hm; cases hm
  | branch d has v ks hd hv hv0 he h16 hr hm ih =>
    intro q r hq hmm
    match q, hq with
    | [], _ => rw [getP_br0] at hmm; cases hmm
    | x :: q', hq =>
      have hx := halves_hd hq
      obtain ⟨k, hk⟩ : ∃ k, ks[x.toNat]? = some k := ⟨_, List.getElem?_eq_getElem (by omega)⟩
      rw [getP_br hk] at hmm
      cases hm2 : (getP k q').miss with
      | none => simp only [hm2] at hmm; cases hmm
      | some r' =>
        simp only [hm2] at hmm
        injection hmm with hmm
        have hk0 : k.kind ≠ 0 := fun h0 => by
          rw [kind0 (hr k (List.mem_of_getElem? hk)) h0, getP_none] at hm2; cases hm2
        obtain ⟨y, hy, h4⟩ := ih k (List.mem_of_getElem? hk) _ r' (by have := halvesB_drop (n := 1) hq; simpa using this) hm2
        exact ⟨y, by rw [← hmm, at_brN hk hk0]; exact hy, h4⟩
theorem on_miss {t : Nd} {S : List UInt8 → Bool} (hF : Full t) (hS : Closed S) {q r : List UInt8} (hq : halvesB q = true) (hm : (getP (onP S t []) q).miss = some r) : (∃ x, atP (onP S t []) r = some x ∧ x.kind = 4) ∧ S r = false := by
  obtain ⟨x, hx, h4⟩ := miss_stub (on_val S [] hF.1) q r hq hm
  refine ⟨⟨x, hx, h4⟩, (open_yes hF hS ?_).2⟩
  unfold stubB
  rw [hx]
  exact decide_eq_true h4
end Go.Proofs.YtojjfkbffjkojaaDoor
namespace Go.Proofs.YtojjfkbffjkojaaDoor
open Go.RowKit
mutual
/-- How many nodes, how many stubs. -/
def cntP : Nd → Nat × Nat
  | .mk k _ _ _ ks _ => ((if k = 0 then 0 else 1) + (cntsP ks).1, (if k = 4 then 1 else 0) + (cntsP ks).2)
def cntsP : List Nd → Nat × Nat
  | [] => (0, 0)
  | t :: ts => ((cntP t).1 + (cntsP ts).1, (cntP t).2 + (cntsP ts).2)
end
theorem cntP_eq (t : Nd) : cntP t = ((if t.kind = 0 then 0 else 1) + (cntsP t.kids).1, (if t.kind = 4 then 1 else 0) + (cntsP t.kids).2) := by cases t; rw [cntP]; rfl
theorem cntsP_snoc (a : List Nd) (k : Nd) : cntsP (a ++ [k]) = ((cntsP a).1 + (cntP k).1, (cntsP a).2 + (cntP k).2) := by
  induction a with
  | nil => rw [List.nil_append, cntsP, cntsP, cntsP]; simp
  | cons x a ih =>
    rw [List.cons_append, cntsP, cntsP, ih]
    dsimp only
    rw [Nat.add_assoc, Nat.add_assoc]
mutual
theorem cntP_sz : ∀ t : Nd, (cntP t).1 + 5 ≤ sz t ∧ (cntP t).2 + 5 ≤ sz t
  | .mk k p h v ks hs => by
    have := cntsP_sz ks
    rw [cntP, sz]
    constructor <;> dsimp only <;> split <;> omega
theorem cntsP_sz : ∀ ks : List Nd, (cntsP ks).1 ≤ szs ks ∧ (cntsP ks).2 ≤ szs ks
  | [] => by rw [cntsP]; simp
  | t :: ts => by
    have h1 := cntP_sz t
    have h2 := cntsP_sz ts
    rw [cntsP, szs]
    constructor <;> dsimp only <;> omega
end
theorem szs_appC : ∀ a b : List Nd, szs (a ++ b) = szs a + szs b
  | [], b => by rw [List.nil_append, szs, Nat.zero_add]
  | t :: a, b => by rw [List.cons_append, szs, szs, szs_appC a b, Nat.add_assoc]
theorem sz_intt : (Tryd.prog.info? 3).map (·.size) = some 1 := by kernel_rfl
def fv (g4 g5 g6 : Nat) : Value := .func (.func 77) #[] #[.pointer (some ⟨g4, 0, none⟩), .pointer (some ⟨g5, 0, none⟩), .pointer (some ⟨g6, 0, none⟩)]
end Go.Proofs.YtojjfkbffjkojaaDoor
namespace Go.Proofs.YtojjfkbffjkojaaDoor
open Go.RowKit
theorem is_rcnt : isFn Tryd.prog 44 = true := by kernel_rfl
def RCntOk (t : Nd) : Prop := ∀ (gs : List (Option Nat)) (w : World) (cs : List Value), RdL w (Fd w gs) (dN t) cs → (∀ b, some b ∈ gs → b < w.heap.size) →
  Calls Tryd.prog 44 #[.agg cs.toArray] w fun e w' => e = .returned (.tuple #[.int .i64 ((cntP t).1 : Nat), .int .i64 ((cntP t).2 : Nat)]) ∧ Below w.heap.size w w'
set_option maxRecDepth 100000 in
set_option maxHeartbeats 2000000 in
theorem rcnt_step (N : Nat) (ih : ∀ k : Nd, sz k < N → RCntOk k) (t : Nd) (ht : sz t ≤ N) (hN : N ≤ 100000000) : RCntOk t := by
  intro gs w cs hr hgs
  refine calls_ev (args := [.agg cs.toArray]) mixed Tryd.func44 rfl (by kernel_rfl) ?_
  have hsz := sz_eq t
  obtain ⟨Ap, cp, Av, cv, Ak, ck, Ah, ch, rfl, -, -, r4, -⟩ := hr.node
  have M := (St.start hgs).addD r4
  clear hr r4
  have hcq := cntP_eq t
  have hcz := cntsP_sz t.kids
  have hsl := szs_len t.kids
  obtain ⟨a0, ha0⟩ : ∃ a0, a0 = (if t.kind = 0 then 0 else 1) := ⟨_, rfl⟩
  obtain ⟨s0, hs0⟩ : ∃ s0, s0 = (if t.kind = 4 then 1 else 0) := ⟨_, rfl⟩
  have ha1 : a0 ≤ 1 := by rw [ha0]; split <;> omega
  have hs1 : s0 ≤ 1 := by rw [hs0]; split <;> omega
  rw [← ha0, ← hs0] at hcq
  refine s_box (ncs t Ap cp Av cv Ak ck Ah ch) M rfl ?_
  clear M
  rintro g1 W M
  refine p_fld fN0 rfl ?_
  refine v_load agg_int rfl ((M.B 0 rfl).at_ rfl) ?_
  refine p_ne rfl rfl (fun h0 => ?_) (fun h0 => ?_)
  · have ha : a0 = 0 := by rw [ha0]; exact if_pos h0
    subst ha
    refine p_fld fN0 rfl ?_
    refine v_load agg_int rfl ((M.B 0 rfl).at_ rfl) ?_
    refine p_eq rfl rfl (fun h4 => ?_) (fun h4 => ?_)
    · rw [h0] at h4; exact absurd h4 (by decide)
    · have hs : s0 = 0 := by rw [hs0]; exact if_neg h4
      subst hs
      refine lp Nat (fun i W => i ≤ t.kids.length ∧ St w gs W [(g1, 26, ncs t Ap cp Av cv Ak ck Ah ch)] [] [.dat false [dKs t.kids] [.slice Ak t.kids.length ck]])
        (fun i => [(1, .pointer (some ⟨g1, 0, none⟩)), (4, .int .i64 (0 + (cntsP (t.kids.take i)).1 : Nat)), (5, .int .i64 (0 + (cntsP (t.kids.take i)).2 : Nat)), (6, .int .i64 (i : Nat))]) (fun i => t.kids.length - i) 0 ⟨Nat.zero_le _, M⟩ (by repeat (first | exact trivial | refine ⟨rfl, ?_⟩)) ?_
      clear M
      rintro i E W ⟨hi, M⟩
      refine p_fld fN4 rfl ?_
      refine v_load agg_ns rfl ((M.B 0 rfl).at_ rfl) ?_
      refine p_len sln rfl ?_
      refine p_lt rfl rfl (fun hlt => ?_) (fun hge => ?_)
      · obtain ⟨k, hki⟩ : ∃ k, t.kids[i]? = some k := ⟨_, List.getElem?_eq_getElem (by omega)⟩
        have hki1 := List.getElem?_eq_some_iff.1 hki
        have hkz := szs_mem (List.mem_of_getElem? hki)
        have htk1 : t.kids.take (i + 1) = t.kids.take i ++ [k] := by rw [List.take_succ_eq_append_getElem hki1.1, hki1.2]
        have hcs := cntsP_snoc (t.kids.take i) k
        rw [← htk1] at hcs
        have hcz1 := cntsP_sz (t.kids.take i)
        have hcz2 := cntP_sz k
        have hsp : szs (t.kids.take i) + sz k ≤ szs t.kids := by
          have e : t.kids = t.kids.take (i + 1) ++ t.kids.drop (i + 1) := (List.take_append_drop ..).symm
          have h := congrArg szs e
          rw [htk1, szs_appC, szs_appC, szs, szs] at h
          omega
        obtain ⟨b, off, es, e0, hel, M'⟩ := M.kid (M.d1 0 rfl) hki
        replace M := M'; clear M'
        refine p_fld fN4 rfl ?_
        refine v_load agg_ns rfl ((M.B 0 rfl).at_ rfl) ?_
        refine p_at sln (by show (Value.slice Ak t.kids.length ck) = _; rw [e0]) rfl rfl (by omega) ?_
        refine v_loadN es agg_nd rfl hel (M.lc 0 rfl) ?_
        refine cc is_rcnt (ih k (by omega) _ _ es (M.da 1 rfl) M.olt) ?_
        rintro e W ⟨rfl, hb⟩
        replace M := M.call hb
        clear hb
        refine ⟨_, rfl, ?_⟩
        refine p_addN (b := (cntP k).1) rfl rfl (by omega) ?_
        refine p_addN (b := (cntP k).2) rfl rfl (by omega) ?_
        refine p_addN (b := 1) rfl rfl (by omega) ?_
        refine ⟨i + 1, ⟨by omega, M.fsub _ (by simp)⟩, ?_, by omega⟩
        rw [hcs]
        dsimp only
        rw [← Nat.add_assoc, ← Nat.add_assoc]
        exact (by repeat (first | exact trivial | refine ⟨rfl, ?_⟩))
      · have hin : i = t.kids.length := by omega
        subst hin
        rw [List.take_length]
        refine ⟨?_, M.below⟩
        rw [hcq]; rfl
  · have ha : a0 = 1 := by rw [ha0]; exact if_neg h0
    subst ha
    refine p_fld fN0 rfl ?_
    refine v_load agg_int rfl ((M.B 0 rfl).at_ rfl) ?_
    refine p_eq rfl rfl (fun h4 => ?_) (fun h4 => ?_)
    · have hs : s0 = 1 := by rw [hs0]; exact if_pos h4
      subst hs
      refine lp Nat (fun i W => i ≤ t.kids.length ∧ St w gs W [(g1, 26, ncs t Ap cp Av cv Ak ck Ah ch)] [] [.dat false [dKs t.kids] [.slice Ak t.kids.length ck]])
        (fun i => [(1, .pointer (some ⟨g1, 0, none⟩)), (4, .int .i64 (1 + (cntsP (t.kids.take i)).1 : Nat)), (5, .int .i64 (1 + (cntsP (t.kids.take i)).2 : Nat)), (6, .int .i64 (i : Nat))]) (fun i => t.kids.length - i) 0 ⟨Nat.zero_le _, M⟩ (by repeat (first | exact trivial | refine ⟨rfl, ?_⟩)) ?_
      clear M
      rintro i E W ⟨hi, M⟩
      refine p_fld fN4 rfl ?_
      refine v_load agg_ns rfl ((M.B 0 rfl).at_ rfl) ?_
      refine p_len sln rfl ?_
      refine p_lt rfl rfl (fun hlt => ?_) (fun hge => ?_)
      · obtain ⟨k, hki⟩ : ∃ k, t.kids[i]? = some k := ⟨_, List.getElem?_eq_getElem (by omega)⟩
        have hki1 := List.getElem?_eq_some_iff.1 hki
        have hkz := szs_mem (List.mem_of_getElem? hki)
        have htk1 : t.kids.take (i + 1) = t.kids.take i ++ [k] := by rw [List.take_succ_eq_append_getElem hki1.1, hki1.2]
        have hcs := cntsP_snoc (t.kids.take i) k
        rw [← htk1] at hcs
        have hcz1 := cntsP_sz (t.kids.take i)
        have hcz2 := cntP_sz k
        have hsp : szs (t.kids.take i) + sz k ≤ szs t.kids := by
          have e : t.kids = t.kids.take (i + 1) ++ t.kids.drop (i + 1) := (List.take_append_drop ..).symm
          have h := congrArg szs e
          rw [htk1, szs_appC, szs_appC, szs, szs] at h
          omega
        obtain ⟨b, off, es, e0, hel, M'⟩ := M.kid (M.d1 0 rfl) hki
        replace M := M'; clear M'
        refine p_fld fN4 rfl ?_
        refine v_load agg_ns rfl ((M.B 0 rfl).at_ rfl) ?_
        refine p_at sln (by show (Value.slice Ak t.kids.length ck) = _; rw [e0]) rfl rfl (by omega) ?_
        refine v_loadN es agg_nd rfl hel (M.lc 0 rfl) ?_
        refine cc is_rcnt (ih k (by omega) _ _ es (M.da 1 rfl) M.olt) ?_
        rintro e W ⟨rfl, hb⟩
        replace M := M.call hb
        clear hb
        refine ⟨_, rfl, ?_⟩
        refine p_addN (b := (cntP k).1) rfl rfl (by omega) ?_
        refine p_addN (b := (cntP k).2) rfl rfl (by omega) ?_
        refine p_addN (b := 1) rfl rfl (by omega) ?_
        refine ⟨i + 1, ⟨by omega, M.fsub _ (by simp)⟩, ?_, by omega⟩
        rw [hcs]
        dsimp only
        rw [← Nat.add_assoc, ← Nat.add_assoc]
        exact (by repeat (first | exact trivial | refine ⟨rfl, ?_⟩))
      · have hin : i = t.kids.length := by omega
        subst hin
        rw [List.take_length]
        refine ⟨?_, M.below⟩
        rw [hcq]; rfl
    · have hs : s0 = 0 := by rw [hs0]; exact if_neg h4
      subst hs
      refine lp Nat (fun i W => i ≤ t.kids.length ∧ St w gs W [(g1, 26, ncs t Ap cp Av cv Ak ck Ah ch)] [] [.dat false [dKs t.kids] [.slice Ak t.kids.length ck]])
        (fun i => [(1, .pointer (some ⟨g1, 0, none⟩)), (4, .int .i64 (1 + (cntsP (t.kids.take i)).1 : Nat)), (5, .int .i64 (0 + (cntsP (t.kids.take i)).2 : Nat)), (6, .int .i64 (i : Nat))]) (fun i => t.kids.length - i) 0 ⟨Nat.zero_le _, M⟩ (by repeat (first | exact trivial | refine ⟨rfl, ?_⟩)) ?_
      clear M
      rintro i E W ⟨hi, M⟩
      refine p_fld fN4 rfl ?_
      refine v_load agg_ns rfl ((M.B 0 rfl).at_ rfl) ?_
      refine p_len sln rfl ?_
      refine p_lt rfl rfl (fun hlt => ?_) (fun hge => ?_)
      · obtain ⟨k, hki⟩ : ∃ k, t.kids[i]? = some k := ⟨_, List.getElem?_eq_getElem (by omega)⟩
        have hki1 := List.getElem?_eq_some_iff.1 hki
        have hkz := szs_mem (List.mem_of_getElem? hki)
        have htk1 : t.kids.take (i + 1) = t.kids.take i ++ [k] := by rw [List.take_succ_eq_append_getElem hki1.1, hki1.2]
        have hcs := cntsP_snoc (t.kids.take i) k
        rw [← htk1] at hcs
        have hcz1 := cntsP_sz (t.kids.take i)
        have hcz2 := cntP_sz k
        have hsp : szs (t.kids.take i) + sz k ≤ szs t.kids := by
          have e : t.kids = t.kids.take (i + 1) ++ t.kids.drop (i + 1) := (List.take_append_drop ..).symm
          have h := congrArg szs e
          rw [htk1, szs_appC, szs_appC, szs, szs] at h
          omega
        obtain ⟨b, off, es, e0, hel, M'⟩ := M.kid (M.d1 0 rfl) hki
        replace M := M'; clear M'
        refine p_fld fN4 rfl ?_
        refine v_load agg_ns rfl ((M.B 0 rfl).at_ rfl) ?_
        refine p_at sln (by show (Value.slice Ak t.kids.length ck) = _; rw [e0]) rfl rfl (by omega) ?_
        refine v_loadN es agg_nd rfl hel (M.lc 0 rfl) ?_
        refine cc is_rcnt (ih k (by omega) _ _ es (M.da 1 rfl) M.olt) ?_
        rintro e W ⟨rfl, hb⟩
        replace M := M.call hb
        clear hb
        refine ⟨_, rfl, ?_⟩
        refine p_addN (b := (cntP k).1) rfl rfl (by omega) ?_
        refine p_addN (b := (cntP k).2) rfl rfl (by omega) ?_
        refine p_addN (b := 1) rfl rfl (by omega) ?_
        refine ⟨i + 1, ⟨by omega, M.fsub _ (by simp)⟩, ?_, by omega⟩
        rw [hcs]
        dsimp only
        rw [← Nat.add_assoc, ← Nat.add_assoc]
        exact (by repeat (first | exact trivial | refine ⟨rfl, ?_⟩))
      · have hin : i = t.kids.length := by omega
        subst hin
        rw [List.take_length]
        refine ⟨?_, M.below⟩
        rw [hcq]; rfl
theorem rcnt_any : ∀ (N : Nat), N ≤ 100000000 → ∀ t : Nd, sz t < N → RCntOk t
  | 0, _, t, h => by omega
  | N + 1, hN, t, h => rcnt_step N (fun k hk => rcnt_any N (by omega) k hk) t (by omega) (by omega)
end Go.Proofs.YtojjfkbffjkojaaDoor
namespace Go.Proofs.YtojjfkbffjkojaaDoor
open Go.RowKit
mutual
/-- How many nodes are open. -/
def opnP : Nd → Nat
  | .mk k _ _ _ ks _ => (if k = 0 ∨ k = 4 then 0 else 1) + opnsP ks
def opnsP : List Nd → Nat
  | [] => 0
  | t :: ts => opnP t + opnsP ts
end
theorem opnP_eq (t : Nd) : opnP t = (if t.kind = 0 ∨ t.kind = 4 then 0 else 1) + opnsP t.kids := by cases t; rw [opnP]; rfl
mutual
theorem opn_cnt : ∀ t : Nd, (cntP t).1 = opnP t + (cntP t).2
  | .mk k p h v ks hs => by
    have := opns_cnt ks
    rw [cntP, opnP]
    dsimp only
    by_cases h0 : k = 0
    · rw [if_pos h0, if_neg (show ¬ k = 4 by omega), if_pos (Or.inl h0)]; omega
    · by_cases h4 : k = 4
      · rw [if_neg h0, if_pos h4, if_pos (Or.inr h4)]; omega
      · rw [if_neg h0, if_neg h4, if_neg (fun h => h.elim h0 h4)]; omega
theorem opns_cnt : ∀ ks : List Nd, (cntsP ks).1 = opnsP ks + (cntsP ks).2
  | [] => by rw [cntsP, opnsP]; rfl
  | t :: ts => by
    have := opn_cnt t
    have := opns_cnt ts
    rw [cntsP, opnsP]
    dsimp only
    omega
end
theorem opn_fold (t : Nd) : opnP (foldN t) = 0 := by
  unfold foldN
  split
  · rfl
  · rw [opnP, opnsP]; rfl
theorem opns_fold : ∀ ks : List Nd, opnsP (ks.map foldN) = 0
  | [] => by rw [List.map_nil, opnsP]
  | t :: ts => by rw [List.map_cons, opnsP, opn_fold, opns_fold ts]
theorem opn_shut {t : Nd} (h0 : t.kind ≠ 0) (h4 : t.kind ≠ 4) : opnP (shutK t) = 1 := by
  unfold shutK
  rw [opnP, opns_fold, if_neg (fun h => h.elim h0 h4)]
theorem opns_set : ∀ {ks : List Nd} {i : Nat} (k' : Nd), i < ks.length → opnsP (ks.set i k') + opnP (ks.getD i noneN) = opnsP ks + opnP k'
  | [], i, k', h => by cases h
  | t :: ts, 0, k', _ => by
    rw [List.set_cons_zero, opnsP, opnsP]
    show _ + opnP t = _
    omega
  | t :: ts, i + 1, k', h => by
    have := opns_set (ks := ts) (i := i) k' (by simpa using h)
    rw [List.set_cons_succ, opnsP, opnsP]
    show _ + opnP (ts.getD i noneN) = _
    omega
theorem opn_laid : ∀ (N : Nat) (t : Nd) (w : List UInt8) (x y : Nd), sz t < N → atP t w = some y → opnP (laidF N t w x) + opnP y = opnP t + opnP x
  | 0, t, w, x, y, h, _ => by omega
  | N + 1, t, w, x, y, hN, ha => by
    rw [laidF]
    by_cases h0 : w = []
    · rw [atP_eq, if_pos h0] at ha
      injection ha with ha
      subst ha
      rw [if_pos h0, Nat.add_comm]
    rw [if_neg h0]
    have step : ∀ i w', i < t.kids.length → atP (t.kids.getD i noneN) w' = some y → opnP (.mk t.kind t.path t.has t.val (t.kids.set i (laidF N (t.kids.getD i noneN) w' x)) t.hash) + opnP y = opnP t + opnP x := fun i w' hi h => by
      have h1 := sz_kidD t hi
      have h2 := opn_laid N _ w' x y (by omega) h
      have h3 := opns_set (laidF N (t.kids.getD i noneN) w' x) hi
      have h4 := opnP_eq t
      rw [opnP]
      omega
    rcases at_some (by rw [ha]; rfl) h0 with ⟨h1, h2, h3, h4⟩ | ⟨h1, h2, h3, h4⟩
    · rw [atP_way h0 h1 h2 h3] at ha
      rw [if_pos h1]
      exact step 0 _ (by omega) ha
    · rw [atP_br h0 h1 h2 h3] at ha
      rw [if_neg (fun h => by rw [h] at h1; exact absurd h1 (by decide))]
      exact step _ _ h2 ha
mutual
theorem opn_on (S : List UInt8 → Bool) : ∀ (t : Nd) (a : List UInt8), opnP (onP S t a) ≤ opnP t
  | .mk k p has v ks h, a => by
    rw [onP]
    split
    · rw [opn_fold]; exact Nat.zero_le _
    · have := opns_on S ks (a ++ p) (decide (k = 3)) 0
      rw [opnP, opnP]; omega
theorem opns_on (S : List UInt8 → Bool) : ∀ (ks : List Nd) (b : List UInt8) (br : Bool) (i : Nat), opnsP (onsP S ks b br i) ≤ opnsP ks
  | [], _, _, _ => by rw [onsP]; exact Nat.le_refl _
  | t :: ts, b, br, i => by
    have := opn_on S t (b ++ if br then [UInt8.ofNat i] else [])
    have := opns_on S ts b br (i + 1)
    rw [onsP, opnsP, opnsP]; omega
end
mutual
theorem opn_much : ∀ (t : Nd) (most : Nat), muchP t most < most → opnP t ≤ muchP t most
  | .mk k p has v ks h, most, hm => by
    rw [muchP] at hm ⊢
    rw [opnP]
    have := opns_much ks most _ hm
    have h1 : (if k = 0 ∨ k = 4 then 0 else 1) ≤ 1 := by split <;> omega
    omega
theorem opns_much : ∀ (ks : List Nd) (most m : Nat), muchK ks most m < most → opnsP ks + m ≤ muchK ks most m
  | [], most, m, _ => by rw [muchK, opnsP]; omega
  | k :: ks, most, m, hm => by
    rw [muchK] at hm ⊢
    rw [opnsP]
    by_cases h : m < most
    · rw [if_pos h] at hm ⊢
      have h1 := opns_much ks most _ hm
      have h2 : m + muchP k (most - m) ≤ muchK ks most (m + muchP k (most - m)) := muchK_ge ks most _
      have h3 := opn_much k (most - m) (by omega)
      omega
    · rw [if_neg h] at hm; omega
end
/-- One more is open. -/
theorem open_cnt {t : Nd} {S : List UInt8 → Bool} {q : List UInt8} (hf : Full t) (hS : Closed S) (hst : stubB (onP S t []) q = true) : opnP (onP (Sq S q) t []) = opnP (onP S t []) + 1 := by
  obtain ⟨hyes, hsq⟩ := open_yes hf hS hst
  obtain ⟨hv, hsf⟩ := hf
  obtain ⟨i1, i2, i3⟩ := at_on S (sz t + 1) t 0 [] q (Nat.lt_succ_self _) hv
  unfold stubB at hst
  cases hy : atP (onP S t []) q with
  | none => rw [hy] at hst; cases hst
  | some y =>
    rw [hy] at hst
    have hy4 : y.kind = 4 := of_decide_eq_true hst
    cases hx : atP t q with
    | none => rw [i1 hx] at hy; cases hy
    | some x =>
      have i2 := i2 x hx (i3 (by rw [hy]; rfl))
      have hx4 := (sf_kind (at_sf _ t q x (Nat.lt_succ_self _) hsf hx)).1
      have hx0 : x.kind ≠ 0 := fun h0 => by
        have e : y = onP S x ([] ++ q) := by rw [hy] at i2; injection i2
        have := (onP_k0 S x ([] ++ q)).2 h0
        rw [← e, hy4] at this; exact absurd this (by decide)
      have hyf : y = foldN x := by
        rw [hy] at i2
        injection i2 with i2
        rw [i2, onP_shut (by rw [List.nil_append]; exact hsq)]
      unfold openP at hyes
      rw [hy, hx] at hyes
      dsimp only at hyes
      rw [if_pos ⟨hy4, hx4⟩] at hyes
      injection hyes with hl _
      have := opn_laid (sz (onP S t []) + 1) (onP S t []) q (shutK x) y (Nat.lt_succ_self _) hy
      have e1 : opnP y = 0 := by rw [hyf, opn_fold]
      have e2 := opn_shut hx0 hx4
      rw [← hl]
      show opnP (laidF (sz (onP S t []) + 1) (onP S t []) q (shutK x)) = _
      omega
theorem stub_miss {even : Bool} {t : Nd} {d : Nat} (hv : Val even t d) : ∀ (q r : List UInt8) (x : Nd), halvesB q = true → r <+: q → atP t r = some x → x.kind = 4 → (getP t q).miss = some r := by
  induction hv with
  | none =>
    intro q r x _ _ ha h4
    by_cases h0 : r = []
    · rw [atP_eq, if_pos h0] at ha; injection ha with ha; rw [← ha] at h4; exact absurd h4 (by decide)
    · rw [at_stop (t := noneN) h0 (show (0 : Int) ≠ 2 by decide) (show (0 : Int) ≠ 3 by decide)] at ha; cases ha
  | leaf d p v hd hp hv he =>
    intro q r x _ _ ha h4
    by_cases h0 : r = []
    · rw [atP_eq, if_pos h0] at ha; injection ha with ha; rw [← ha] at h4; exact absurd (show (1 : Int) = 4 from h4) (by decide)
    · rw [at_stop (t := .mk 1 p false v [] []) h0 (show (1 : Int) ≠ 2 by decide) (show (1 : Int) ≠ 3 by decide)] at ha; cases ha
  | stub d h hd hh =>
    intro q r x _ _ ha h4
    by_cases h0 : r = []
    · rw [h0, getP_stub]
    · rw [at_stop (t := .mk 4 [] false [] [] h) h0 (show (4 : Int) ≠ 2 by decide) (show (4 : Int) ≠ 3 by decide)] at ha; cases ha
  | way d p k hd hp h0 hk hr ih =>
    intro q r x hq hrq ha h4
    by_cases hr0 : r = []
    · rw [atP_eq, if_pos hr0] at ha; injection ha with ha; rw [← ha] at h4; exact absurd (show (2 : Int) = 4 from h4) (by decide)
    by_cases hpr : p <+: r
    · obtain ⟨s, rfl⟩ := hpr
      obtain ⟨u, rfl⟩ := hrq
      rw [at_wayN h0] at ha
      have hpq : p <+: p ++ s ++ u := by rw [List.append_assoc]; exact List.prefix_append _ _
      have hd : (p ++ s ++ u).drop p.length = s ++ u := by rw [List.append_assoc, List.drop_left]
      rw [getP_way hpq, hd]
      have := ih (s ++ u) s x (by have := halvesB_drop (n := p.length) hq; rw [hd] at this; exact this) (List.prefix_append _ _) ha h4
      simp only [this]
      rfl
    · rw [at_wayNo hr0 hpr] at ha; cases ha
  | branch d has v ks hd hv hv0 he h16 hr hm ih =>
    intro q r x hq hrq ha h4
    by_cases hr0 : r = []
    · rw [atP_eq, if_pos hr0] at ha; injection ha with ha; rw [← ha] at h4; exact absurd (show (3 : Int) = 4 from h4) (by decide)
    obtain ⟨c, s, rfl⟩ := List.exists_cons_of_ne_nil hr0
    obtain ⟨u, rfl⟩ := hrq
    rw [List.cons_append] at hq ⊢
    have hx := halves_hd hq
    obtain ⟨k, hk⟩ : ∃ k, ks[c.toNat]? = some k := ⟨_, List.getElem?_eq_getElem (by omega)⟩
    by_cases hkk : k.kind = 0
    · rw [at_brNo (fun k' h => by rw [hk] at h; injection h with h; rw [← h]; exact hkk)] at ha; cases ha
    rw [at_brN hk hkk] at ha
    rw [getP_br hk]
    have := ih k (List.mem_of_getElem? hk) (s ++ u) s x (by have := halvesB_drop (n := 1) hq; simpa using this) (List.prefix_append _ _) ha h4
    simp only [this]
    rfl
/-- No stub on some ways: it is open on them. -/
theorem on_ways {t : Nd} (hF : Full t) : ∀ (ks : List (List UInt8)) (S : List UInt8 → Bool), Closed S → (∀ key ∈ ks, (getP (onP S t []) (ofB key)).miss = none) → onP S t [] = onP (fun r => S r || Sof (ks.map ofB) r) t []
  | [], S, _, _ => by
    have e : (fun r => S r || Sof (([] : List (List UInt8)).map ofB) r) = S := by funext r; unfold Sof; rw [List.map_nil, List.any_nil, Bool.or_false]
    rw [e]
  | key :: ks, S, hS, h => by
    have h1 : onP S t [] = onP (Sb S (ofB key) ((ofB key).length + 1)) t [] := by
      have := near_none (S := S) (w := ofB key) (b := 0) hF.1 (fun a _ => by
        rw [Sb0]
        cases hs : stubB (onP S t []) ((ofB key).take a) with
        | false => rfl
        | true =>
          unfold stubB at hs
          cases hx : atP (onP S t []) ((ofB key).take a) with
          | none => rw [hx] at hs; cases hs
          | some x =>
            rw [hx] at hs
            have := stub_miss (on_val S [] hF.1) (ofB key) _ x (halvesB_ofB key) (List.take_prefix _ _) hx (of_decide_eq_true hs)
            rw [h key (List.mem_cons_self ..)] at this; cases this)
      rw [Sb0] at this
      exact this
    have h2 := on_ways hF ks (Sb S (ofB key) ((ofB key).length + 1)) (Sb_closed hS _ _) (fun k hk => by rw [← h1]; exact h k (List.mem_cons_of_mem _ hk))
    rw [h1, h2]
    congr 1
    funext r
    have e : Sof ((key :: ks).map ofB) r = (decide (r <+: ofB key) || Sof (ks.map ofB) r) := by unfold Sof; rw [List.map_cons, List.any_cons]
    rw [e, ← Bool.or_assoc]
    congr 1
    unfold Sb
    by_cases hr : r <+: ofB key
    · rw [decide_eq_true (show r.length < (ofB key).length + 1 from Nat.lt_succ_of_le hr.length_le), Bool.and_true]
    · rw [decide_eq_false hr, Bool.false_and]
/-- What is told first that is not there. -/
def lookF (m : Nd) : List (List UInt8) → List UInt8 × Int
  | [] => ([], 20)
  | k :: ks => if (rGet m k).e = 0 then lookF m ks else ((rGet m k).miss.getD [], (rGet m k).e)
theorem want_get {t : Nd} {S : List UInt8 → Bool} (hF : Full t) (hS : Closed S) {key : List UInt8} (hk : key.length ≤ 200) :
    (∃ r, rGet (onP S t []) key = ⟨[], false, some r, 80⟩ ∧ r <+: ofB key ∧ stubB (onP S t []) r = true) ∨ ((rGet (onP S t []) key).e = 0 ∧ (getP (onP S t []) (ofB key)).miss = none) := by
  have hfo : Fo (onP S t []) t := on_fo S _ t 0 [] (Nat.lt_succ_self _) hF.1
  rw [← tGet_eq]
  rcases fold_get hfo hF hk with ⟨r, h1, h2, h3⟩ | ⟨h1, h2, h3⟩
  · obtain ⟨⟨x, hx, h4⟩, _⟩ := on_miss hF hS (halvesB_ofB key) h1
    refine .inl ⟨r, h3, h2, ?_⟩
    unfold stubB
    rw [hx]
    exact decide_eq_true h4
  · exact .inr ⟨by rw [h2]; exact h3, h1⟩
theorem look_cases {t : Nd} {S : List UInt8 → Bool} (hF : Full t) (hS : Closed S) : ∀ {look : List (List UInt8)}, (∀ k ∈ look, k.length ≤ 200) →
    (∃ key ∈ look, ∃ r, lookF (onP S t []) look = (r, 80) ∧ r <+: ofB key ∧ stubB (onP S t []) r = true) ∨ (lookF (onP S t []) look = ([], 20) ∧ ∀ key ∈ look, (getP (onP S t []) (ofB key)).miss = none)
  | [], _ => .inr ⟨rfl, fun k hk => by cases hk⟩
  | k :: ks, h => by
    rcases want_get hF hS (h k (List.mem_cons_self ..)) with ⟨r, h1, h2, h3⟩ | ⟨h1, h2⟩
    · refine .inl ⟨k, List.mem_cons_self .., r, ?_, h2, h3⟩
      rw [lookF, h1, if_neg (show ¬ (80 : Int) = 0 by decide)]
      rfl
    · rw [lookF, if_pos h1]
      rcases look_cases hF hS (look := ks) (fun k' hk => h k' (List.mem_cons_of_mem _ hk)) with ⟨key, hk, h3⟩ | ⟨h3, h4⟩
      · exact .inl ⟨key, List.mem_cons_of_mem _ hk, h3⟩
      · refine .inr ⟨h3, fun key hk => ?_⟩
        rcases List.mem_cons.1 hk with rfl | hk
        · exact h2
        · exact h4 key hk
theorem wanted_end {t : Nd} {S : List UInt8 → Bool} (hF : Full t) (hS : Closed S) {look : List (List UInt8)} (hle : ∀ r, S r = true → Sof (look.map ofB) r = true) (h : ∀ key ∈ look, (getP (onP S t []) (ofB key)).miss = none) : onP S t [] = onP (Sof (look.map ofB)) t [] := by
  rw [on_ways hF look S hS h]
  congr 1
  funext r
  cases hs : S r with
  | false => rw [Bool.false_or]
  | true => rw [Bool.true_or, hle r hs]
theorem wanted_more {S : List UInt8 → Bool} {look : List (List UInt8)} (hle : ∀ r, S r = true → Sof (look.map ofB) r = true) {key q : List UInt8} (hk : key ∈ look) (hq : q <+: ofB key) : ∀ r, Sq S q r = true → Sof (look.map ofB) r = true := by
  intro r h
  unfold Sq at h
  rw [Bool.or_eq_true] at h
  rcases h with h | h
  · exact hle r h
  · unfold Sof
    rw [List.any_eq_true]
    exact ⟨ofB key, List.mem_map.2 ⟨key, hk, rfl⟩, decide_eq_true ((of_decide_eq_true h).trans hq)⟩
end Go.Proofs.YtojjfkbffjkojaaDoor
namespace Go.Proofs.YtojjfkbffjkojaaDoor
open Go.RowKit
section
variable {P : Program}
def jumpK (l : Nat) (J : Env → World → Prop) (K : Kont) : Kont := fun x E w => match x with | .goto l' => l' = l ∧ J E w | x => K x E w
theorem holds_jump {δ : List Deferred} {n l : Nat} {J : Env → World → Prop} {K : Kont} {JA : Act → World → Prop} (h : ∀ a E w, Fits δ n a E → J E w → JA a w) : ∀ (x : Exit) (a : Act) (w : World), Holds δ n (jumpK l J K) x a w → Exit.jump l JA (Holds δ n K) x a w := by
  intro x a w hx
  cases x with
  | goto l' => obtain ⟨E, hf, hl, hj⟩ := hx; exact ⟨hl, h a E w hf hj⟩
  | normal => exact hx
  | exit i => exact hx
  | ret => exact hx
  | panic c => exact hx
  | outgrown => exact hx
/-- A body that is a beginning and a scope with one label. -/
theorem calls_evG {f : FuncId} {fn : Func} {c0 b rest : Code} {args : List Value} {w : World} {R : Ending → World → Prop} (hm : P.follows .mixedOrders = true) (hf : P.funcs[f]? = some fn) (hb : fn.body = some (.seq c0 (.scope b))) (l : Nat) (hl : findLabel b l = some rest)
    (hd : ((dstOk fn.ntmps c0 && (dstOk fn.ntmps b && dstOk fn.ntmps rest)) && Nat.ble args.length fn.ntmps) = true) (S : Type) (I : S → World → Prop) (L : S → List (Nat × Value)) (m : Env → World → Nat)
    (first : (∀ s E w, I s w → ev P rest (over E (L s)) w (jumpK l (fun E w => ∃ s, I s w ∧ agrees E (L s)) (retK P fn R))) → ev P c0 (start args) w (thenK (fun E w K => ev P b E w (jumpK l (fun E w => ∃ s, I s w ∧ agrees E (L s)) K)) (retK P fn R)))
    (pass : ∀ s E w, I s w → ev P rest (over E (L s)) w (jumpK l (fun E' w' => (∃ s', I s' w' ∧ agrees E' (L s')) ∧ m E' w' < m (over E (L s)) w) (retK P fn R))) : Calls P f args.toArray w R := by
  simp only [Bool.and_eq_true] at hd
  obtain ⟨⟨hd0, hdb, hdr⟩, hn⟩ := hd
  have hn : args.length ≤ fn.ntmps := Nat.le_of_ble_eq_true hn
  have envOf : ∀ {a : Act} {E : Env}, Fits [] fn.ntmps a E → (fun t => a.tmps.getD t undef) = E := fun h => funext h.2.2
  have fin : ∀ (x : Exit) (a : Act) (w : World), Holds [] fn.ntmps (retK P fn R) x a w → _ := fun x a w hx => hx
  refine calls_of_wp hf hb (wp_mono (Q := Holds [] fn.ntmps (retK P fn R)) ?_ ?_)
  · refine wp_seq (wp_mono (ev_sound hm c0 _ _ _ _ hd0 (start_fits args _ hn) (first fun s E w hi => ev_mono rest _ _ _ _ (fun x E w h => by cases x <;> first | exact h | exact ⟨h.1, h.2.1⟩) (pass s E w hi))) (Holds.then_ (fun a E w hf h => ?_) ?_))
    · refine wp_scope_jumps l (fun a w => ∃ s E, Fits [] fn.ntmps a E ∧ I s w ∧ agrees E (L s)) (fun a w => m (fun t => a.tmps.getD t undef) w) hl (wp_mono (ev_sound hm b _ _ _ _ hdb hf h) (holds_jump ?_)) ?_
      · rintro a E w hf ⟨s, hi, ha⟩
        exact ⟨s, E, hf, hi, ha⟩
      · rintro a w ⟨s, E, hf, hi, ha⟩
        have hp := pass s E w hi
        rw [over_of_agrees ha] at hp
        refine wp_mono (ev_sound hm rest _ _ _ _ hdr hf hp) (holds_jump ?_)
        rintro a' E' w' hf' ⟨⟨s', hi', ha'⟩, hlt⟩
        refine ⟨⟨s', E', hf', hi', ha'⟩, ?_⟩
        rw [envOf hf, envOf hf']
        exact hlt
    · intro x E w hx h
      cases x <;> first | exact absurd rfl hx | exact h
  · intro x a w hx
    cases x with
    | normal => obtain ⟨E, hfit, hk⟩ := hx; obtain ⟨vs, hr, hk⟩ := res_run hfit hk; exact ⟨hfit.2.1, _, hr, hk⟩
    | ret => obtain ⟨E, hfit, hk⟩ := hx; obtain ⟨vs, hr, hk⟩ := res_run hfit hk; exact ⟨hfit.2.1, _, hr, hk⟩
    | exit i => obtain ⟨E, hfit, hk⟩ := hx; exact hk.elim
    | goto l => obtain ⟨E, hfit, hk⟩ := hx; exact hk.elim
    | panic c => exact hx.elim
    | outgrown => exact hx.elim
theorem use_pass {rest : Code} {E : Env} {w : World} {K : Kont} {S : Type} {I : S → World → Prop} {L : S → List (Nat × Value)} (hp : ∀ s E w, I s w → ev P rest (over E (L s)) w K) (s : S) (hi : I s w) (ha : agrees E (L s)) : ev P rest E w K := by
  have := hp s E w hi
  rw [over_of_agrees ha] at this
  exact this
theorem ev_lb {l : Nat} {E : Env} {w : World} {f : Env → World → Kont → Prop} {K : Kont} (h : f E w K) : ev P (.label l) E w (thenK f K) := h
def isFu (P : Program) (t : TypeId) : Bool := match P.underlying t with | some (.func ..) => true | _ => false
variable {E : Env} {d : Option Nat} {ty : TypeId} {p : String} {af : Array Edge} {g : Option (Nat × Bool)} {x y : Operand} {t u : TypeId} {k : Value → Prop}
/-- A function that is there is not nil. -/
theorem p_feq {fn : Fn} {fs cs : Array Value} (hT : isFu P t = true) (hx : val E x = .func fn fs cs) (hy : val E y = .nilFunc) (h : k (.bool false)) : VPure P E { dst := d, op := .binOp .eql t x y u, type := ty, pos := p, after := af, guard := g } k :=
  pp (fun w => by
    unfold isFu at hT
    split at hT
    · rename_i he
      have key : ∀ d, (Op.equalIn (d + 1) t (.func fn fs cs) .nilFunc).run P w = .ok false w := fun d => by simp [Op.equalIn, run_underlying he]
      simp [execOp, hx, hy, eqGuard, binOp, eq_of (fun d => key d)]
    · cases hT) h
end
end Go.Proofs.YtojjfkbffjkojaaDoor
namespace Go.Proofs.YtojjfkbffjkojaaDoor
open Go.RowKit
theorem is_vrun : isFn Tryd.prog 43 = true := by kernel_rfl
theorem is_vwanted : isFn Tryd.prog 42 = true := by kernel_rfl
theorem agg_lls : aggOf Tryd.prog 41 = some (false, 1) := by kernel_rfl
set_option maxRecDepth 100000 in
set_option maxHeartbeats 4000000 in
theorem vrun_any (m : Nd) (hz : sz m ≤ 1000000) (look : List (List UInt8)) (hlen : look.length ≤ 1000000) (w W : World) (gs : List (Option Nat)) (gC gL k c2 : Nat) (A2 : Option Addr) (csm : List Value) (x1 x2 x3 : Nat × TypeId × List Value) (L : Lc) (R : List Row) (fs : List Fact) (hk : k ≤ 1000000)
    (M : St w gs W (x1 :: x2 :: x3 :: (gC, 3, [.int .i64 (k : Nat)]) :: (gL, 41, [.slice A2 look.length c2]) :: L) R fs)
    (hr : RdL W (Fd W (own (x1 :: x2 :: x3 :: (gC, 3, [.int .i64 (k : Nat)]) :: (gL, 41, [.slice A2 look.length c2]) :: L) R gs)) (dN m) csm)
    (hlk : RdD W (Fd W (own (x1 :: x2 :: x3 :: (gC, 3, [.int .i64 (k : Nat)]) :: (gL, 41, [.slice A2 look.length c2]) :: L) R gs)) (dLs look) (.slice A2 look.length c2)) :
    Calls Tryd.prog 43 #[.agg csm.toArray, .pointer (some ⟨gC, 0, none⟩), .pointer (some ⟨gL, 0, none⟩)] W fun e W' => ∃ A n c, e = .returned (.tuple #[.slice A n c, .int .i64 (lookF m look).2]) ∧
      St w gs W' (x1 :: x2 :: x3 :: (gC, 3, [.int .i64 (k + 1 : Nat)]) :: (gL, 41, [.slice A2 look.length c2]) :: L) R (.dat false [dB (lookF m look).1] [.slice A n c] :: fs) := by
  refine calls_ev (args := [.agg csm.toArray, .pointer (some ⟨gC, 0, none⟩), .pointer (some ⟨gL, 0, none⟩)]) mixed Tryd.func43 rfl (by kernel_rfl) ?_
  have hcm := hr.len
  rw [dN_len] at hcm
  replace M := (M.addD hlk).addL hr
  clear hr hlk
  obtain ⟨T, hT⟩ : ∃ T, T = lookF m look := ⟨_, rfl⟩
  rw [← hT]
  refine s_box (csm) M rfl ?_
  clear M
  rintro g3 W M
  refine v_load agg_int rfl ((M.B 4 rfl).at_ rfl) ?_
  refine p_addN (b := 1) rfl rfl (by omega) ?_
  refine s_set 4 (.int .i64 ((k + 1 : Nat) : Int)) [.int .i64 ((k + 1 : Nat) : Int)] M rfl sz_intt rfl rfl rfl (Nat.le_of_ble_eq_true rfl) rfl ?_
  clear M; rintro W M
  dsimp only [setL] at M
  refine lp Nat (fun i W => i ≤ look.length ∧ T = lookF m (look.drop i) ∧ St w gs W ((g3, 26, csm) :: x1 :: x2 :: x3 :: (gC, 3, [.int .i64 (k + 1 : Nat)]) :: (gL, 41, [.slice A2 look.length c2]) :: L) R (.dat false (dN m) csm :: .dat false [dLs look] [.slice A2 look.length c2] :: fs))
    (fun i => [(2, .pointer (some ⟨gL, 0, none⟩)), (3, .pointer (some ⟨g3, 0, none⟩)), (6, .int .i64 (i : Nat))]) (fun i => look.length - i) 0 ⟨Nat.zero_le _, hT, M⟩ (by repeat (first | exact trivial | refine ⟨rfl, ?_⟩)) ?_
  clear M hT
  rintro i E W ⟨hi, hT, M⟩
  refine v_load agg_lls rfl ((M.B 5 rfl).at_ rfl) ?_
  refine p_len slls rfl ?_
  refine p_lt rfl rfl (fun hlt => ?_) (fun hge => ?_)
  · have hlt : i < look.length := by have h : (i : Int) < (look.length : Int) := hlt; omega
    obtain ⟨key, hkey⟩ : ∃ x, look[i]? = some x := ⟨_, List.getElem?_eq_getElem hlt⟩
    have hdr : look.drop i = key :: look.drop (i + 1) := by
      rw [List.drop_eq_getElem_cons hlt, (List.getElem?_eq_some_iff.1 hkey).2]
    rw [hdr, lookF] at hT
    replace M := M.drew
    obtain ⟨y1, o1, A8, c8, e1, M'⟩ := M.atLc (M.d1 1 rfl) hkey
    replace M := M'; clear M'
    subst e1
    refine drT (Kp w gs [(g3, 26, csm), (gL, 41, [.slice (some ⟨y1, o1, none⟩) look.length c2])] [.loc ((⟨y1, o1, none⟩ : Addr).add (i * 1)) [.slice A8 key.length c8]]) (.take 0 (.take 1 (.take 2 (.take 3 (.take 4 (.one 5 (.take 6 (.take 7 (.take 8 (.take 9 (.take 10 (.take 11 (.take 12 (.take 13 (.take 14 (.nil)))))))))))))))) (by kernel_rfl) (M.kp (by simp) (by simp)) ?_
    refine t_loadN csm agg_nd rfl hcm (fun W K => K.run 0 rfl) ?_
    refine t_load agg_lls rfl (fun W K => (K.B 1 rfl).at_ rfl) ?_
    refine p_at (i := i) slls rfl rfl rfl hlt ?_
    refine t_load agg_b rfl (fun W K => K.lc 0 rfl 0 _ rfl) ?_
    refine cc is_r8get (r8get_any m (by omega) key _ _ csm _ _ _ (M.da 2 rfl) (M.d1 1 rfl) M.olt) ?_
    rintro e W ⟨Av, nv, cv, Am, nm, cm, rfl, rv, rm, hb⟩
    replace M := (M.call hb).addD rm
    clear rv rm hb
    refine ⟨_, rfl, (M.kp (by simp) (by simp)), ?_⟩
    refine p_ne rfl rfl (fun h0 => ?_) (fun h0 => ?_)
    · have h0 : (rGet m key).e = 0 := h0
      rw [if_pos h0] at hT
      refine p_addN (b := 1) rfl rfl (by omega) ?_
      exact ⟨i + 1, ⟨by omega, hT, M.fsub _ (by intro f hf; simp only [List.mem_cons] at hf ⊢; rcases hf with h | h | h <;> simp [h])⟩, (by repeat (first | exact trivial | refine ⟨rfl, ?_⟩)), by omega⟩
    · have h0 : ¬ (rGet m key).e = 0 := h0
      rw [if_neg h0] at hT
      subst hT
      exact ⟨Am, nm, cm, rfl, M.dropL.fsub _ (by intro f hf; simp only [List.mem_cons] at hf ⊢; rcases hf with h | h <;> simp [h])⟩
  · have hge : look.length ≤ i := by have h : ¬ (i : Int) < (look.length : Int) := hge; omega
    rw [List.drop_eq_nil_of_le hge, lookF] at hT
    subst hT
    refine ⟨none, 0, 0, rfl, ?_⟩
    exact ((M.addD (d := dB []) (u := .slice none 0 0) (RdD.nil_ _ _)).dropL).fsub _ (by intro f hf; simp only [List.mem_cons] at hf ⊢; rcases hf with h | h <;> simp [h])
def fwv (gC gL : Nat) : Value := .func (.func 43) #[] #[.pointer (some ⟨gC, 0, none⟩), .pointer (some ⟨gL, 0, none⟩)]
set_option maxRecDepth 100000 in
set_option maxHeartbeats 8000000 in
theorem vwanted_any (t : Nd) (hF : Full t) (hz : sz t ≤ 22000) (hmu : opnP t ≤ 400) (look : List (List UInt8)) (hlen : look.length ≤ 1000000) (hkl : ∀ k ∈ look, k.length ≤ 200) (w W : World) (gs : List (Option Nat)) (hG : GL w gs) (gC gL c2 : Nat) (A2 : Option Addr) (cs : List Value) (L : Lc) (R : List Row) (fs : List Fact)
    (M : St w gs W ((gC, 3, [.int .i64 ((0 : Nat) : Int)]) :: (gL, 41, [.slice A2 look.length c2]) :: L) R fs)
    (hr : RdL W (Fd W (own ((gC, 3, [.int .i64 ((0 : Nat) : Int)]) :: (gL, 41, [.slice A2 look.length c2]) :: L) R gs)) (dN t) cs)
    (hlk : RdD W (Fd W (own ((gC, 3, [.int .i64 ((0 : Nat) : Int)]) :: (gL, 41, [.slice A2 look.length c2]) :: L) R gs)) (dLs look) (.slice A2 look.length c2)) :
    Calls Tryd.prog 42 #[.agg cs.toArray, fwv gC gL] W fun e W' => ∃ cs', e = .returned (.tuple #[.agg cs'.toArray, .int .i64 20]) ∧ cs'.length = 6 ∧
      St w gs W' ((gC, 3, [.int .i64 ((opnP (onP (Sof (look.map ofB)) t []) + 1 : Nat) : Int)]) :: (gL, 41, [.slice A2 look.length c2]) :: L) R (.dat false (dN (onP (Sof (look.map ofB)) t [])) cs' :: fs) := by
  have hcm := hr.len
  rw [dN_len] at hcm
  replace M := (M.addD hlk).addL hr
  clear hr hlk
  have hon : ∀ S, sz (onP S t []) ≤ 154000 := fun S => by have := on_sz (S := S) (sz t + 1) t [] (Nat.lt_succ_self _); omega
  have hop : ∀ S, opnP (onP S t []) ≤ 400 := fun S => Nat.le_trans (opn_on S t []) hmu
  refine calls_evG (args := [.agg cs.toArray, fwv gC gL]) mixed Tryd.func42 rfl 0 rfl (by kernel_rfl) (Nat × Nat × Nat × (List UInt8 → Bool) × List Value)
    (fun s W => Closed s.2.2.2.1 ∧ (∀ r, s.2.2.2.1 r = true → Sof (look.map ofB) r = true) ∧ s.2.2.2.2.length = 6 ∧ St w gs W ((s.1, 26, s.2.2.2.2) :: (s.2.1, 26, zN) :: (s.2.2.1, 26, cs) :: (gC, 3, [.int .i64 (opnP (onP s.2.2.2.1 t []) : Nat)]) :: (gL, 41, [.slice A2 look.length c2]) :: L) R (.dat false (dN (onP s.2.2.2.1 t [])) s.2.2.2.2 :: .dat false (dN t) cs :: .dat false [dLs look] [.slice A2 look.length c2] :: fs))
    (fun s => [(1, fwv gC gL), (2, .pointer (some ⟨s.2.2.1, 0, none⟩)), (4, .pointer (some ⟨s.2.1, 0, none⟩)), (6, .pointer (some ⟨s.1, 0, none⟩)), (7, .int .i64 (opnP (onP s.2.2.2.1 t []) : Nat))])
    (fun E _ => 1000 - (match E 7 with | .int _ i => i.toNat | _ => 0)) ?_ ?_
  · intro hp
    refine s_box (cs) M rfl ?_
    clear M
    rintro g2 W M
    refine s_alloc (zN) M al_nd ?_
    clear M
    rintro g4 W M
    have h1 : checkE t = 0 := by unfold checkE; rw [right_of_val hF.1, if_pos rfl]
    refine v_loadN cs agg_nd rfl hcm (M.run 1 rfl) ?_
    refine cc is_ncheck (ncheck_any t (by omega) _ _ _ (M.da 0 rfl) M.olt) ?_
    rintro e W ⟨rfl, hb⟩
    replace M := M.call hb
    clear hb
    rw [h1]
    refine ⟨_, rfl, ?_⟩
    refine p_ne rfl rfl (fun _ => ?_) (fun h => absurd rfl h)
    refine p_feq (by kernel_rfl) rfl rfl ?_
    refine v_loadN cs agg_nd rfl hcm (M.run 1 rfl) ?_
    refine cc is_nFold (nFold_any t (by omega) _ _ _ (M.gl hG) (M.da 0 rfl) M.olt) ?_
    rintro e W ⟨cs6, rfl, r9, hb⟩
    have hc6 := r9.len
    rw [dN_len] at hc6
    have e0 : onP (fun _ => false) t [] = foldN t := onP_shut rfl
    rw [← e0] at r9
    replace M := (M.call hb).addL (r9.to fun b q => ⟨rfl, q.2.1, fun e => by have := M.olt b e; have := q.1; omega⟩)
    clear r9 hb
    refine ⟨_, rfl, ?_⟩
    refine s_alloc (zN) M al_nd ?_
    clear M
    rintro g6 W M
    refine s_storeA 0 cs6 M rfl sz_nd rfl rfl hc6 ((M.da 0 rfl).ones (dN_one _)) rfl ?_
    clear M; rintro W M
    dsimp only [setL] at M
    have e1 : 0 = opnP (onP (fun _ => false) t []) := by rw [e0, opn_fold]
    rw [e1] at M
    have hS : Closed (fun _ : List UInt8 => false) := fun q r _ h => h
    have hle : ∀ r, (fun _ : List UInt8 => false) r = true → Sof (look.map ofB) r = true := fun r h => by cases h
    obtain ⟨S, hSq⟩ : ∃ S : List UInt8 → Bool, S = fun _ => false := ⟨_, rfl⟩
    rw [← hSq] at M hS hle e1
    have e2 : ((0 : Int)) = ((opnP (onP S t []) : Nat) : Int) := by rw [← e1]; rfl
    refine evOps_nil ?_
    refine nx ?_
    refine cutS Unit (fun _ W => St w gs W ((g6, 26, cs6) :: (g4, 26, zN) :: (g2, 26, cs) :: (gC, 3, [.int .i64 (opnP (onP S t []) : Nat)]) :: (gL, 41, [.slice A2 look.length c2]) :: L) R (.dat false (dN (onP S t [])) cs6 :: .dat false (dN t) cs :: .dat false [dLs look] [.slice A2 look.length c2] :: fs))
      (fun _ => [(1, fwv gC gL), (2, .pointer (some ⟨g2, 0, none⟩)), (4, .pointer (some ⟨g4, 0, none⟩)), (6, .pointer (some ⟨g6, 0, none⟩)), (7, .int .i64 0)]) ⟨(), M, (by repeat (first | exact trivial | refine ⟨rfl, ?_⟩))⟩ ?_
    clear M
    rintro - B W M
    refine ev_sq ?_
    refine ev_lb ?_
    exact use_pass hp (g6, g4, g2, S, cs6) ⟨hS, hle, hc6, M⟩ ⟨rfl, rfl, rfl, rfl, congrArg (Value.int .i64) e2, trivial⟩
  · rintro ⟨g6, g4, g2, S, cs6⟩ E W ⟨hS, hle, hc6, M⟩
    dsimp only at hS hle hc6 M
    have hlc := look_cases hF hS (look := look) hkl
    have hPz := hon S
    have hPc := hop S
    refine v_loadN cs6 agg_nd rfl hc6 (M.run 0 rfl) ?_
    refine cc is_ncopy (ncopy_any 10000000 (Nat.le_refl _) (onP S t []) (by omega) _ _ cs6 (M.da 0 rfl) M.olt) ?_
    rintro e W ⟨csc, rfl, r9, hb⟩
    have hcc := r9.len
    rw [dN_len] at hcc
    replace M := M.callF hb r9
    clear r9 hb
    refine ⟨_, rfl, ?_⟩
    refine cc is_vrun (vrun_any (onP S t []) (by omega) look hlen w _ gs gC gL _ c2 A2 csc _ _ _ L R _ (by omega) M (M.da 0 rfl) (M.d1 3 rfl)) ?_
    clear M
    rintro e W ⟨A8, n8, c8, rfl, M⟩
    refine ⟨_, rfl, ?_⟩
    rcases hlc with ⟨key, hkey, r, hT, hrk, hst⟩ | ⟨hT, hno⟩
    · rw [hT] at M ⊢
      dsimp only at M ⊢
      have en8 := (M.rdb 0 rfl).1
      subst en8
      have hrl := hrk.length_le
      rw [ofB_length] at hrl
      have hkk := hkl key hkey
      refine p_ne rfl rfl (fun _ => ?_) (fun h => absurd rfl h)
      refine p_eq rfl rfl (fun h => ?_) (fun _ => ?_)
      · exfalso
        have h : ((opnP (onP S t []) : Nat) : Int) = 2000 := h
        omega
      refine v_loadN cs6 agg_nd rfl hc6 (M.run 0 rfl) ?_
      refine v_loadN cs agg_nd rfl hcm (M.run 2 rfl) ?_
      have ca := vOpen_any (onP S t []) t (by omega) (by omega) r _ _ cs6 cs (M.gl hG) (M.da 2 rfl) (M.da 3 rfl) (M.d1 0 rfl) M.olt (by omega)
      rw [Open_on hF.1, (open_yes hF hS hst).1] at ca
      refine cc is_vOpen ca ?_
      clear ca
      rintro e W ⟨cs10, rfl, r9, hb⟩
      have hc10 := r9.len
      rw [dN_len] at hc10
      replace M := (M.call hb).addL r9
      clear r9 hb
      refine ⟨_, rfl, ?_⟩
      refine s_alloc (zN) M al_nd ?_
      clear M
      rintro g10 W M
      refine s_storeA 0 cs10 M rfl sz_nd rfl rfl hc10 ((M.da 0 rfl).ones (dN_one _)) rfl ?_
      clear M; rintro W M
      dsimp only [setL] at M
      refine p_ne rfl rfl (fun _ => ?_) (fun h => absurd rfl h)
      refine v_loadN cs10 agg_nd rfl hc10 (M.run 0 rfl) ?_
      refine s_storeA 1 cs10 M rfl sz_nd rfl rfl hc10 ((M.da 0 rfl).ones (dN_one _)) hc6 ?_
      clear M; rintro W M
      dsimp only [setL] at M
      have hcn := open_cnt hF hS hst
      refine p_addN (b := 1) rfl rfl (by omega) ?_
      rw [← hcn] at M ⊢
      exact ⟨rfl, ⟨(g6, g4, g2, Sq S r, cs10), ⟨Sq_closed hS r, wanted_more hle hkey hrk, hc10, M.dropL.fsub _ (by intro f hf; simp only [List.mem_cons] at hf ⊢; rcases hf with h | h | h | h <;> simp [h])⟩, (by repeat (first | exact trivial | refine ⟨rfl, ?_⟩))⟩, (by show 1000 - ((opnP (onP (Sq S r) t []) : Nat) : Int).toNat < 1000 - ((opnP (onP S t []) : Nat) : Int).toNat; omega)⟩
    · rw [hT] at M ⊢
      dsimp only at M ⊢
      have hend := wanted_end hF hS hle hno
      refine p_ne rfl rfl (fun h => absurd (show (20 : Int) = 80 from h) (by decide)) (fun _ => ?_)
      refine v_loadN cs6 agg_nd rfl hc6 (M.run 0 rfl) ?_
      refine s_storeA 1 cs6 M rfl sz_nd rfl rfl hc6 ((M.da 2 rfl).ones (dN_one _)) rfl ?_
      clear M; rintro W M
      dsimp only [setL] at M
      refine c_loadN cs6 agg_nd rfl hc6 (M.run 1 rfl) ?_
      rw [← hend]
      exact ⟨cs6, rfl, hc6, M.dropL.dropL.dropL.fsub _ (by intro f hf; simp only [List.mem_cons] at hf ⊢; rcases hf with h | h <;> simp [h])⟩
end Go.Proofs.YtojjfkbffjkojaaDoor
