/- The walks of trie.right, Get, leaf, along. The walks of slices.Clone of nodes, and of trie.hold. The walk of trie.fork. -/
import Derived.Test.YtkfbkhahkkmcoaaG07
namespace Go.Proofs.Ytkfbkhahkkmcoaa
open Go.RowKit
theorem is_tright : isFn Try.prog 65 = true := by kernel_rfl
theorem is_nof : isFn Try.prog 61 = true := by kernel_rfl
theorem is_leaf : isFn Try.prog 79 = true := by kernel_rfl
theorem is_along : isFn Try.prog 100 = true := by kernel_rfl
def tri (t : Nd) (nk nv : Nat) : Bool := rightP true t 0 && (decide (nk ≤ 200) && decide (nv ≤ 4000))
set_option maxRecDepth 100000 in
theorem tright_any (t : Nd) (ht : sz t ≤ 10000000) (gs : List (Option Nat)) (w : World) (cs : List Value) (Ak Av : Option Addr) (nk ck nv cv : Nat) (hr : RdL w (Fd w gs) (dN t) cs) (hgs : ∀ b, some b ∈ gs → b < w.heap.size) :
    Calls Try.prog 65 #[.agg cs.toArray, .slice Ak nk ck, .slice Av nv cv] w fun e w' => e = .returned (.bool (tri t nk nv)) ∧ Below w.heap.size w w' := by
  refine calls_ev (args := [.agg cs.toArray, .slice Ak nk ck, .slice Av nv cv]) mixed Try.func65 rfl (by kernel_rfl) ?_
  have hl := hr.len
  rw [dN_len] at hl
  refine v_boxB cs rfl ?_
  rintro g W1 hg hB hb hs1
  rw [hg] at hb
  refine v_loadN cs agg_nd rfl hl (hB.run 0 _ (fun j v h => by rw [Nat.zero_add]; exact h)) ?_
  refine cc is_ncheck (ncheck_any t ht gs W1 cs (hr.up (Stp.below hb)) (fun b e => by have := hgs b e; omega)) ?_
  rintro e W2 ⟨rfl, b2⟩
  refine ⟨_, rfl, ?_⟩
  have C := below_tr hb b2
  unfold checkE tri
  cases h : rightP true t 0 with
  | false =>
    refine p_eq rfl rfl (fun h => absurd (show (2 : Int) = 0 from h) (by decide)) (fun _ => ?_)
    exact ⟨rfl, C⟩
  | true =>
    refine p_eq rfl rfl (fun _ => ?_) (fun h => absurd rfl h)
    refine p_len slb rfl ?_
    refine p_le rfl rfl (fun h1 => ?_) (fun h1 => ?_)
    · refine p_len slb rfl ?_
      refine p_le rfl rfl (fun h2 => ?_) (fun h2 => ?_)
      · exact ⟨by rw [decide_eq_true (by omega), decide_eq_true (by omega)]; rfl, C⟩
      · exact ⟨by rw [decide_eq_true (by omega), decide_eq_false (by omega)]; rfl, C⟩
    · exact ⟨by rw [decide_eq_false (show ¬ nk ≤ 200 by omega)]; rfl, C⟩
/-- What trie.Get answers. -/
structure GotE where
  v : List UInt8
  has : Bool
  miss : Option (List UInt8)
  e : Int
def tGet (t : Nd) (key : List UInt8) : GotE :=
  if tri t key.length 0 then (match (getP t (ofB key)).miss with
    | some r => ⟨[], false, some r, 80⟩
    | none => if (getP t (ofB key)).has then ⟨(getP t (ofB key)).v, true, none, 0⟩ else ⟨[], false, none, 0⟩)
  else ⟨[], false, none, 2⟩
theorem is_tGet : isFn Try.prog 37 = true := by kernel_rfl
set_option maxRecDepth 100000 in
set_option maxHeartbeats 1000000 in
theorem tGet_any (t : Nd) (ht : sz t ≤ 1000000) (gs : List (Option Nat)) (w : World) (cs : List Value) (key : List UInt8) (A : Option Addr) (n c : Nat) (hr : RdL w (Fd w gs) (dN t) cs) (hk : RdD w (Fd w gs) (dB key) (.slice A n c)) (hgs : ∀ b, some b ∈ gs → b < w.heap.size) :
    Calls Try.prog 37 #[.agg cs.toArray, .slice A n c] w fun e w' => ∃ A' n' c' Am nm cm, e = .returned (.tuple #[.slice A' n' c', .bool (tGet t key).has, .slice Am nm cm, .int .i64 (tGet t key).e]) ∧ RdD w' (Fr w w') (dB (tGet t key).v) (.slice A' n' c') ∧ missOk w' (Fr w w') [] (tGet t key).miss Am nm cm ∧ Below w.heap.size w w' := by
  refine calls_ev (args := [.agg cs.toArray, .slice A n c]) mixed Try.func37 rfl (by kernel_rfl) ?_
  have hl := hr.len
  rw [dN_len] at hl
  have hn := hk.slen
  subst hn
  refine v_boxB cs rfl ?_
  rintro g W1 hg hB hb hs1
  rw [hg] at hb
  have A1 : At w W1 gs := (At.start hgs).call hb
  have s1 : Stp w gs W1 gs := Stp.below hb
  refine v_loadN cs agg_nd rfl hl (hB.run 0 _ (fun j v h => by rw [Nat.zero_add]; exact h)) ?_
  refine cc is_tright (tright_any t (by omega) gs W1 cs A none key.length c 0 0 (hr.up s1) A1.lt) ?_
  rintro e W2 ⟨rfl, b2⟩
  refine ⟨_, rfl, ?_⟩
  have A2 := A1.call b2
  have s2 := s1.trans (Stp.below (gs := gs) b2)
  have hB2 := hB.below b2
  refine p_not rfl ?_
  unfold tGet
  cases htri : tri t key.length 0 with
  | false => exact ⟨none, 0, 0, none, 0, 0, rfl, RdD.nil_ _ _, ⟨rfl, rfl, rfl⟩, A2.below⟩
  | true =>
    have hval : Val true t 0 := by
      unfold tri at htri
      rw [Bool.and_eq_true] at htri
      exact val_of_right true _ t 0 (Nat.lt_succ_self _) htri.1
    have hkl : key.length ≤ 200 := by
      unfold tri at htri
      simp only [Bool.and_eq_true, decide_eq_true_eq] at htri
      exact htri.2.1
    rw [if_pos rfl]
    refine v_bslice0 slb ?_
    rintro g3 W3 hg3 hB3 hb3 hs3
    rw [hg3] at hb3
    have A3 := (A2.call hb3).drew
    have s3 : Stp w gs W3.drew gs := (s2.trans (Stp.below (gs := gs) hb3)).trans Stp.drew
    have hB3' := (hB2.below hb3).drew
    have hw3 : RdD W3.drew (Fd W3.drew gs) (dB []) (.slice (some ⟨g3, 0, none⟩) 0 0) := RdD.nil_ _ _
    refine dr (fun W => Below W3.drew.heap.size W3.drew W) [(0, true), (1, true), (3, true), (2, false), (4, false), (5, true), (6, true), (7, true), (8, true), (9, true), (10, true), (11, true)] (by kernel_rfl) (Below.refl _ _) ?_
    refine t_loadN cs agg_nd rfl hl (fun W h => (hB3'.below h).run 0 _ (fun j v h => by rw [Nat.zero_add]; exact h)) ?_
    obtain ⟨e1, e2, hkr⟩ := (hk.up s3).rd Fd.lt
    refine cc is_nof (of_any A key.length c key W3.drew hkr (by omega)) ?_
    rintro e W4 ⟨A4, c4, rfl, o4, b4⟩
    refine ⟨_, rfl, b4, ?_⟩
    have A4' := A3.call b4
    have s4 := s3.trans (Stp.below (gs := gs) b4)
    have hq4 : RdD W4 (Fd W4 gs) (dB (ofB key)) (.slice A4 (2 * key.length) c4) := (o4.zb (base := 0) (Nat.zero_le _) A3.lt).z0
    refine cc is_tget (tget_any 10000000 (Nat.le_refl _) t (by omega) gs W4 cs (ofB key) [] A4 _ c4 _ _ _ 0 true (hr.up s4) hq4 (hw3.up (Stp.below b4)) A4'.lt (by simp) (halvesB_ofB key) hval (by rw [ofB_length]; simp; omega)) ?_
    rintro e W5 ⟨A5, n5, c5, Am, nm, cm, rfl, hv5, hm5, b5⟩
    refine ⟨_, rfl, below_tr b4 b5, ?_⟩
    have hbb := below_tr A4'.below b5
    have hv5' := Fr.more hv5 A4'.size
    have hm5' := missOk.more (W := w) hm5 A4'.size
    cases hmm : (getP t (ofB key)).miss with
    | some r =>
      rw [hmm] at hm5'
      refine p_slnn isSlb rfl rfl (fun h => absurd h hm5'.1) (fun _ => ?_)
      exact ⟨none, 0, 0, Am, nm, cm, rfl, RdD.nil_ _ _, hm5', hbb⟩
    | none =>
      rw [hmm] at hm5'
      obtain ⟨rfl, rfl, rfl⟩ := hm5'
      refine p_slnn isSlb rfl rfl (fun _ => ?_) (fun h => absurd rfl h)
      refine p_not rfl ?_
      cases hhas : (getP t (ofB key)).has with
      | false => exact ⟨none, 0, 0, none, 0, 0, rfl, RdD.nil_ _ _, ⟨rfl, rfl, rfl⟩, hbb⟩
      | true => exact ⟨A5, n5, c5, none, 0, 0, rfl, hv5', ⟨rfl, rfl, rfl⟩, hbb⟩
def leafN (p v : List UInt8) : Nd := .mk 1 p false v [] []
def alongN (p : List UInt8) (t : Nd) : Nd := if p = [] then t else .mk 2 p false [] [t] []
set_option maxRecDepth 100000 in
theorem leaf_any (p v : List UInt8) (gs : List (Option Nat)) (w : World) (A1 A2 : Option Addr) (n c m d : Nat) (hp : RdD w (Fd w gs) (dB p) (.slice A1 n c)) (hv : RdD w (Fd w gs) (dB v) (.slice A2 m d)) (hgs : ∀ b, some b ∈ gs → b < w.heap.size) (hs : n ≤ 1000000 ∧ m ≤ 1000000) :
    Calls Try.prog 79 #[.slice A1 n c, .slice A2 m d] w fun e w' => ∃ cs, e = .returned (.agg cs.toArray) ∧ RdL w' (Fr w w') (dN (leafN p v)) cs ∧ Below w.heap.size w w' := by
  refine calls_ev (args := [.slice A1 n c, .slice A2 m d]) mixed Try.func79 rfl (by kernel_rfl) ?_
  have en := hp.slen
  have em := hv.slen
  refine v_allocB zN al_nd ?_
  rintro g W1 hg hB hb hs1
  have hgw := hg
  rw [hg] at hb
  have A1' : At w W1 (some g :: gs) := (At.start hgs).new hb (fun b e => by injection e with e; omega)
  have s1 : Stp w gs W1 (some g :: gs) := Stp.new hb (fun b e => by injection e with e; omega)
  refine cc is_sclone (sclone_any _ A1 n c p W1 (hp.up s1) (by omega)) ?_
  rintro e W2 ⟨A3, c3, rfl, o3, -, b2⟩
  refine ⟨_, rfl, ?_⟩
  have A2' := A1'.call b2
  have s2 := s1.trans (Stp.below b2)
  have P := o3.zb (base := w.heap.size) A1'.size A1'.lt
  refine cc is_bclone (bclone_any _ A2 m d v W2 (hv.up s2) (by omega)) ?_
  rintro e W3 ⟨A4, c4, rfl, o4, -, b3⟩
  refine ⟨_, rfl, ?_⟩
  have V := o4.zb (base := w.heap.size) A2'.size A2'.lt
  replace P := P.upz (Stp.below b3)
  have hB3 := (hB.below b2).below b3
  have A3' := A2'.call b3
  subst en; subst em
  refine p_build (vs := ncs (leafN p v) A3 c3 A4 c4 none 0 none 0) pl_nd z_nd rfl ?_
  refine v_storeA (ncs (leafN p v) A3 c3 A4 c4 none 0 none 0) sz_nd rfl rfl rfl (ncs_one _ _ _ _ _ _ _ _ _) hB3 rfl ?_
  rintro W4 hB4 hg4 hs4
  refine c_loadN (ncs (leafN p v) A3 c3 A4 c4 none 0 none 0) agg_nd rfl rfl (hB4.run 0 _ (fun j v h => by rw [Nat.zero_add]; exact h)) ?_
  have St : Stp W3 (some g :: gs) W4 (some g :: gs) := Stp.wrote hg4 (by simp)
  refine ⟨_, rfl, ?_, (A3'.wrote hg4 (fun b e => by injection e with e; omega)).below⟩
  exact RdL.frz (RdL.ofnode (t := leafN p v) (P.upz St) (V.upz St) (RdD.nil_ _ _) (RdD.nil_ _ _))
set_option maxRecDepth 100000 in
theorem along_any (p : List UInt8) (t : Nd) (gs : List (Option Nat)) (w : World) (A : Option Addr) (n c : Nat) (cs : List Value) (hp : RdD w (Fd w gs) (dB p) (.slice A n c)) (hr : RdL w (Fd w gs) (dN t) cs) (hgs : ∀ b, some b ∈ gs → b < w.heap.size) (hs : n ≤ 1000000) :
    Calls Try.prog 100 #[.slice A n c, .agg cs.toArray] w fun e w' => ∃ cs', e = .returned (.agg cs'.toArray) ∧ RdL w' (Fd w' gs) (dN (alongN p t)) cs' ∧ Below w.heap.size w w' := by
  refine calls_ev (args := [.slice A n c, .agg cs.toArray]) mixed Try.func100 rfl (by kernel_rfl) ?_
  have en := hp.slen
  have hl := hr.len
  rw [dN_len] at hl
  refine v_boxB cs rfl ?_
  rintro g1 W1 hg1 hB1 hb1 hs1
  refine v_allocB zN al_nd ?_
  rintro g W2 hg hB hb hs2
  rw [hg1] at hb1
  rw [hg] at hb
  have C2 := below_tr hb1 hb
  have A2 : At w W2 (some g :: gs) := ((At.start hgs).call hb1).new hb (fun b e => by injection e with e; omega)
  have s2 : Stp w gs W2 (some g :: gs) := (Stp.below hb1).trans (Stp.new hb (fun b e => by injection e with e; omega))
  have hB1' := hB1.below hb
  have hr2 := hr.up s2
  have hgw : w.heap.size ≤ g := by have := hb1.size; omega
  refine p_len slb rfl ?_
  refine p_eq rfl rfl (fun h0 => ?_) (fun h0 => ?_)
  · have hp0 : p = [] := nil_of_len (by omega)
    refine v_loadN cs agg_nd rfl hl (hB1'.run 0 _ (fun j v h => by rw [Nat.zero_add]; exact h)) ?_
    refine v_storeA cs sz_nd rfl rfl hl (hr.ones (dN_one t)) hB rfl ?_
    rintro W4 hB4 hg4 hs4
    refine c_loadN cs agg_nd rfl hl (hB4.run 0 _ (fun j v h => by rw [Nat.zero_add]; exact h)) ?_
    have St : Stp W2 (some g :: gs) W4 (some g :: gs) := Stp.wrote hg4 (by simp)
    refine ⟨_, rfl, ?_, (A2.wrote hg4 (fun b e => by injection e with e; omega)).below⟩
    unfold alongN
    rw [if_pos hp0]
    exact (hr2.up St).up Stp.drop
  · have hp0 : p ≠ [] := fun e => by subst e; exact h0 (by rw [en]; rfl)
    have sd : Stp W2 (some g :: gs) W2.drew (some g :: gs) := Stp.drew
    have Ad := A2.drew
    have hBd : Blk W2.drew g 25 zN := hB
    have hB1d : Blk W2.drew g1 25 cs := hB1'
    have hpd := (hp.up s2).up sd
    have hrd := hr2.up sd
    obtain ⟨Ap, cp, Av, cv, Ak, ck, Ah, ch, rfl, r1, r3, r4, r5⟩ := hrd.node
    have hW2 : W2.drew.heap.size = g + 1 := hs2
    have hg1g : g1 ≠ g := by omega
    refine drT (fun W => Blk W g1 25 (ncs t Ap cp Av cv Ak ck Ah ch)) (Sch.graft (.take 0 (.take 2 (.two 1 (.one 3 (.take 4 .nil)) 3 (.one 1 (.take 4 .nil))))) (.one 5 .nil)) (by kernel_rfl) hB1d ?_
    refine cutT (Option Addr × Nat × Nat) (fun s W => At w W (some g :: gs) ∧ RdD W (Fd W (some g :: gs)) (dB p) (.slice s.1 n s.2.1) ∧ RdD W (Fd W (some g :: gs)) (dKs [t]) (.slice (some ⟨s.2.2, 0, none⟩) 1 1) ∧ Blk W g 25 zN ∧ Blk W g1 25 (ncs t Ap cp Av cv Ak ck Ah ch))
      (fun s => [(4, .pointer (some ⟨g, 0, none⟩)), (13, .agg #[.int .i64 2, .slice s.1 n s.2.1, .bool false, .slice none 0 0, .slice (some ⟨s.2.2, 0, none⟩) 1 1, .slice none 0 0])]) ?_ ?_
    · refine t_loadN (ncs t Ap cp Av cv Ak ck Ah ch) agg_nd rfl rfl (fun W h => Blk.run h 0 _ (fun j v h => by rw [Nat.zero_add]; exact h)) ?_
      refine ⟨?_, ?_⟩
      ·
        refine cc is_sclone (sclone_any _ A n c p _ hpd (by omega)) ?_
        rintro e Wn ⟨A5, c5, rfl, o5, -, b5⟩
        have P := (o5.zb (base := 0) (Nat.zero_le _) Ad.lt).z0
        replace Ad := Ad.call b5
        replace hB1d := hB1d.below b5
        replace hBd := hBd.below b5
        replace hpd := hpd.up (Stp.below b5)
        replace hrd := hrd.up (Stp.below b5)
        try replace K := K.up (Stp.below b5)
        refine ⟨_, rfl, hB1d, ?_⟩
        refine v_bslice (vs := ncs t Ap cp Av cv Ak ck Ah ch) sln z_nd rfl (by decide) rfl ?_
        rintro gk Wn hgk hBk b5 hsk
        rw [hgk] at b5
        replace hB1d := hB1d.below b5
        replace hBd := hBd.below b5
        replace hpd := hpd.up (Stp.below b5)
        replace hrd := hrd.up (Stp.below b5)
        try replace P := P.up (Stp.below b5)
        have K : RdD Wn (Fd Wn (some g :: gs)) (dKs [t]) (.slice (some ⟨gk, 0, none⟩) 1 1) := by
          refine RdD.sl_iff.2 ⟨_, 1, ncs t Ap cp Av cv Ak ck Ah ch, rfl, Nat.le_refl _, by rw [dNs_len], by rw [dNs, dNs, List.append_nil]; exact hrd, fun _ => ⟨gk, 0, rfl, ⟨hBk.lt, fun e => ?_⟩, fun j x hx => ?_⟩⟩
          · have := Ad.lt gk e; omega
          · rw [Nat.zero_add]; exact hBk.at_ hx
        replace Ad := Ad.call b5
        refine ⟨hB1d, ?_⟩
        refine p_build (vs := ncs (.mk 2 p false [] [t] []) A5 c5 none 0 (some ⟨gk, 0, none⟩) 1 none 0) pl_nd z_nd ?_ ?_
        · subst en; rfl
        subst en
        exact ⟨(A5, c5, gk), ⟨Ad, P, K, hBd, hB1d⟩, ⟨rfl, rfl, trivial⟩⟩
      ·
        refine v_bslice (vs := ncs t Ap cp Av cv Ak ck Ah ch) sln z_nd rfl (by decide) rfl ?_
        rintro gk Wn hgk hBk b5 hsk
        rw [hgk] at b5
        replace hB1d := hB1d.below b5
        replace hBd := hBd.below b5
        replace hpd := hpd.up (Stp.below b5)
        replace hrd := hrd.up (Stp.below b5)
        try replace P := P.up (Stp.below b5)
        have K : RdD Wn (Fd Wn (some g :: gs)) (dKs [t]) (.slice (some ⟨gk, 0, none⟩) 1 1) := by
          refine RdD.sl_iff.2 ⟨_, 1, ncs t Ap cp Av cv Ak ck Ah ch, rfl, Nat.le_refl _, by rw [dNs_len], by rw [dNs, dNs, List.append_nil]; exact hrd, fun _ => ⟨gk, 0, rfl, ⟨hBk.lt, fun e => ?_⟩, fun j x hx => ?_⟩⟩
          · have := Ad.lt gk e; omega
          · rw [Nat.zero_add]; exact hBk.at_ hx
        replace Ad := Ad.call b5
        refine ⟨hB1d, ?_⟩
        refine cc is_sclone (sclone_any _ A n c p _ hpd (by omega)) ?_
        rintro e Wn ⟨A5, c5, rfl, o5, -, b5⟩
        have P := (o5.zb (base := 0) (Nat.zero_le _) Ad.lt).z0
        replace Ad := Ad.call b5
        replace hB1d := hB1d.below b5
        replace hBd := hBd.below b5
        replace hpd := hpd.up (Stp.below b5)
        replace hrd := hrd.up (Stp.below b5)
        try replace K := K.up (Stp.below b5)
        refine ⟨_, rfl, hB1d, ?_⟩
        refine p_build (vs := ncs (.mk 2 p false [] [t] []) A5 c5 none 0 (some ⟨gk, 0, none⟩) 1 none 0) pl_nd z_nd ?_ ?_
        · subst en; rfl
        subst en
        exact ⟨(A5, c5, gk), ⟨Ad, P, K, hBd, hB1d⟩, ⟨rfl, rfl, trivial⟩⟩
    · rintro ⟨A5, c5, gk⟩ B6 W6 ⟨A6, P, K, hB6, b6⟩
      dsimp only at P K
      subst en
      refine v_storeA (ncs (.mk 2 p false [] [t] []) A5 c5 none 0 (some ⟨gk, 0, none⟩) 1 none 0) sz_nd rfl rfl rfl (ncs_one _ _ _ _ _ _ _ _ _) hB6 rfl ?_
      rintro W7 hB7 hg7 hs7
      refine ⟨b6.grownN hg7 (fun e => hg1g e.symm), ?_⟩
      refine c_loadN (ncs (.mk 2 p false [] [t] []) A5 c5 none 0 (some ⟨gk, 0, none⟩) 1 none 0) agg_nd rfl rfl (hB7.run 0 _ (fun j v h => by rw [Nat.zero_add]; exact h)) ?_
      have St : Stp W6 (some g :: gs) W7 (some g :: gs) := Stp.wrote hg7 (by simp)
      refine ⟨_, rfl, ?_, (A6.wrote hg7 (fun b e => by injection e with e; omega)).below⟩
      unfold alongN
      rw [if_neg hp0]
      exact ((RdL.ofnode (t := .mk 2 p false [] [t] []) P (RdD.nil_ _ _) K (RdD.nil_ _ _)).up St).up Stp.drop
end Go.Proofs.Ytkfbkhahkkmcoaa
namespace Go.Proofs.Ytkfbkhahkkmcoaa
open Go.RowKit
theorem is_kclone : isFn Try.prog 84 = true := by kernel_rfl
theorem is_hold : isFn Try.prog 99 = true := by kernel_rfl
theorem isSln : isSl Try.prog 23 = true := by kernel_rfl
theorem sz_bo : (Try.prog.info? 4).map (·.size) = some 1 := by kernel_rfl
theorem sz_by : (Try.prog.info? 22).map (·.size) = some 1 := by kernel_rfl
/-- The place of an element. -/
theorem p_atL {P : Program} {E : Env} {d : Option Nat} {ty : TypeId} {p : String} {af : Array Edge} {g : Option (Nat × Bool)} {x y : Operand} {t : TypeId} {kd : IntKind} {k : Value → Prop} {b o q n c i : Nat} {e : TypeId} {s : Nat} {j : Int} (hT : slOf P t = some (e, s)) (hx : val E x = .slice (some ⟨b, o, none⟩) n c) (hy : val E y = .int kd j) (hj : j = (i : Int)) (hi : i < n) (hq : o + i * s = q)
    (h : k (.pointer (some ⟨b, q, none⟩))) : VPure P E { dst := d, op := .indexAddr t x y, type := ty, pos := p, after := af, guard := g } k :=
  p_at hT hx hy hj hi (by rw [Addr.add_lit, hq]; exact h)
set_option maxRecDepth 100000 in
theorem kclone_any (gs : List (Option Nat)) (A : Option Addr) (n c : Nat) (ks : List Nd) (w : World) (hr : RdD w (Fd w gs) (dKs ks) (.slice A n c)) (hgs : ∀ b, some b ∈ gs → b < w.heap.size) (hsz : n ≤ 1000000) (hn0 : 0 < n) :
    Calls Try.prog 84 #[.slice A n c] w fun e w' => ∃ g c' xs rest, e = .returned (.slice (some ⟨g, 0, none⟩) n c') ∧ w.heap.size ≤ g ∧ n ≤ c' ∧ Blk w' g 25 (xs ++ rest) ∧ RdL w' (Fd w' (some g :: gs)) (dNs ks) xs ∧ Below w.heap.size w w' := by
  refine calls_ev (args := [.slice A n c]) mixed Try.func84 rfl (by kernel_rfl) ?_
  refine p_sln isSln rfl rfl (fun h => ?_) (fun h => ?_)
  · have := hr.none0 h; omega
  refine v_bslice0 sln ?_
  rintro g W1 hg hB hb hs1
  rw [hg] at hb
  have A1 : At w W1 (some g :: gs) := (At.start hgs).new hb (fun b e => by injection e with e; omega)
  have s1 : Stp w gs W1 (some g :: gs) := Stp.new hb (fun b e => by injection e with e; omega)
  obtain ⟨cs, hrd, hcs⟩ := (hr.up s1).reads Fd.lt
  have hrow : W1.ownsRow w.heap.size 25 6 (.slice (some ⟨g, 0, none⟩) 0 0) 0 [] := row_blk (n := 0) hB (by omega) rfl (by decide)
  refine v_appR (A := some ⟨g, 0, none⟩) Try.underlying23 inf_nd rfl (by decide) rfl hrow rfl hrd (hcs.ones (dNs_one ks)) ⟨by omega, by decide⟩ A1 ?_
  rintro A3 c3 W3 hrow3 s3 A3' - hg3 hb3
  rw [List.nil_append] at hrow3
  rcases hrow3.2 with ⟨_, h0⟩ | ⟨g', cap, cur, hv, hbg, hh, hnc, _, _, htk⟩
  · omega
  · injection hv with hA _ hc
    subst hA; subst hc
    refine ⟨g', c3, cs, cur.toList.drop ((0 + n) * 6), by rw [Nat.zero_add]; rfl, hbg, by omega, ?_, hcs.up s3, A3'.below⟩
    have e : cs ++ cur.toList.drop ((0 + n) * 6) = cur.toList := by rw [← htk, List.take_append_drop]
    rw [e]
    unfold Blk
    rw [hh]
/-- A branch that is still made: its block, that of its kids. -/
def BrS (W : World) (gs : List (Option Nat)) (gb gk ck : Nat) (has : Bool) (v : List UInt8) (ks : List Nd) : Prop :=
  ∃ Av cv xs rest, Blk W gb 25 [.int .i64 3, .slice none 0 0, .bool has, .slice Av v.length cv, .slice (some ⟨gk, 0, none⟩) 16 ck, .slice none 0 0] ∧ RdD W (Fd W gs) (dB v) (.slice Av v.length cv) ∧ Blk W gk 25 (xs ++ rest) ∧ RdL W (Fd W gs) (dNs ks) xs ∧ ks.length = 16 ∧ gb ≠ gk ∧ some gb ∈ gs ∧ some gk ∈ gs ∧ 16 ≤ ck
def holdK (has : Bool) (v : List UInt8) (ks : List Nd) (p val : List UInt8) : Bool × List UInt8 × List Nd :=
  match p with
  | [] => (true, val, ks)
  | x :: q => (has, v, ks.set x.toNat (leafN q val))
theorem dNs_set : ∀ {ks : List Nd} {i : Nat} (k : Nd), i < ks.length → dNs (ks.set i k) = (dNs ks).take (i * 6) ++ dN k ++ (dNs ks).drop (i * 6 + 6)
  | t :: ks, 0, k, _ => by
    rw [List.set_cons_zero, dNs, dNs, Nat.zero_mul, List.take_zero, List.nil_append, Nat.zero_add, List.drop_left' (dN_len t)]
  | t :: ks, i + 1, k, h => by
    rw [List.set_cons_succ, dNs, dNs, dNs_set k (by simpa using h), show (i + 1) * 6 = (dN t).length + i * 6 by rw [dN_len]; omega, List.take_length_add_append, show (dN t).length + i * 6 + 6 = (dN t).length + (i * 6 + 6) by omega, List.drop_length_add_append]
    simp only [List.append_assoc]
theorem halves_hd {x : UInt8} {q : List UInt8} (h : halvesB (x :: q) = true) : x.toNat < 16 := by
  unfold halvesB at h
  have := List.all_eq_true.1 h x (by simp)
  have := of_decide_eq_true this
  rw [UInt8.le_iff_toNat_le] at this
  have e15 : (15 : UInt8).toNat = 15 := rfl
  omega
set_option maxRecDepth 100000 in
set_option maxHeartbeats 1000000 in
theorem hold_any (gs : List (Option Nat)) (w : World) (gb gk ck : Nat) (has : Bool) (v : List UInt8) (ks : List Nd) (p val : List UInt8) (A1 A2 : Option Addr) (n c m d : Nat) (hb : BrS w gs gb gk ck has v ks) (hp : RdD w (Fd w gs) (dB p) (.slice A1 n c)) (hv : RdD w (Fd w gs) (dB val) (.slice A2 m d)) (hgs : ∀ b, some b ∈ gs → b < w.heap.size) (hh : halvesB p = true) (hs : n ≤ 1000000 ∧ m ≤ 1000000) :
    Calls Try.prog 99 #[.pointer (some ⟨gb, 0, none⟩), .slice A1 n c, .slice A2 m d] w fun e w' => (∃ u, e = .returned u) ∧ BrS w' gs gb gk ck (holdK has v ks p val).1 (holdK has v ks p val).2.1 (holdK has v ks p val).2.2 ∧ Stp w gs w' gs ∧ ∀ B, B ≤ gb → B ≤ gk → B ≤ w.heap.size → Below B w w' := by
  refine calls_ev (args := [.pointer (some ⟨gb, 0, none⟩), .slice A1 n c, .slice A2 m d]) mixed Try.func99 rfl (by kernel_rfl) ?_
  obtain ⟨Av, cv, xs, rest, hB, hV, hK, hX, h16, hne, hgb, hgk, hck⟩ := hb
  have en := hp.slen
  have em := hv.slen
  refine p_len slb rfl ?_
  match p, hp, hh, en with
  | [], hp, hh, en =>
    subst en
    refine p_eq rfl rfl (fun _ => ?_) (fun h => absurd rfl h)
    refine cc is_bclone (bclone_any gs A2 m d val w hv (by omega)) ?_
    rintro e W1 ⟨A3, c3, rfl, o3, -, b1⟩
    refine ⟨_, rfl, ?_⟩
    have V1 := (o3.zb (base := 0) (Nat.zero_le _) hgs).z0
    have hB1 := hB.below b1
    have hK1 := hK.below b1
    refine p_nil rfl ?_
    refine p_fld fN2 rfl ?_
    refine v_set (.bool true) sz_bo hB1 rfl rfl rfl (by show 2 < 6; decide) ?_
    rintro W2 hB2 hg2 hs2
    refine p_nil rfl ?_
    refine p_fld fN3 rfl ?_
    refine v_set (.slice A3 m c3) sz_by hB2 rfl rfl rfl (by show 3 < 6; decide) ?_
    rintro W3 hB3 hg3 hs3
    have St1 : Stp w gs W1 gs := Stp.below b1
    have St3 : Stp W1 gs W3 gs := (Stp.wrote hg2 hgb).trans (Stp.wrote hg3 hgb)
    subst em
    refine ⟨⟨_, rfl⟩, ⟨A3, c3, xs, rest, hB3, V1.up St3, (hK1.grownN hg2 hne).grownN hg3 hne, (hX.up St1).up St3, h16, hne, hgb, hgk, hck⟩, St1.trans St3, fun B h1 h2 h3 => ?_⟩
    exact ((b1.mono h3).grown hg2 (by have := b1.size; omega) (fun q hq => by injection hq with hq; omega)).grown hg3 (by have := b1.size; omega) (fun q hq => by injection hq with hq; omega)
  | x :: q, hp, hh, en =>
    have hx := halves_hd hh
    rw [List.length_cons] at en
    refine p_eq rfl rfl (fun h => by omega) (fun _ => ?_)
    have sd : Stp w gs w.drew gs := Stp.drew
    have hBd : Blk w.drew gb 25 [.int .i64 3, .slice none 0 0, .bool has, .slice Av v.length cv, .slice (some ⟨gk, 0, none⟩) 16 ck, .slice none 0 0] := hB
    have hKd : Blk w.drew gk 25 (xs ++ rest) := hK
    have hpd := hp.up sd
    have hvd := hv.up sd
    obtain ⟨_, hcp, hpr⟩ := hpd.rd Fd.lt
    obtain ⟨bq, oq, eAq, hcx⟩ := hpr.at_ (k := 0) (by omega)
    subst eAq
    have hcx' : w.drew.cell? (Addr.add ⟨bq, oq, none⟩ (0 * 1)) = some (.int .u8 (x.toNat : Nat)) := by rw [Addr.add_lit]; exact hcx
    have hcut := hpd.cutB (i := 1) (j := n) (m := c) (by omega) (Nat.le_refl _) (by omega)
    rw [List.drop_succ_cons, List.drop_zero, List.take_of_length_le (by omega)] at hcut
    refine drZ 12 (fun W => Below w.drew.heap.size w.drew W) [(0, true), (1, true), (2, true), (3, true), (4, true), (5, true), (6, true), (7, true), (8, true), (9, true), (10, false), (11, true)] (by kernel_rfl) (Below.refl _ _) ?_
    refine p_nil rfl ?_
    refine p_fld fN4 rfl ?_
    refine t_load agg_ns rfl (fun W h => (hBd.below h).at_ rfl) ?_
    refine p_at (i := 0) slb rfl rfl rfl (by omega) ?_
    refine t_load agg_by' rfl (fun W h => cellB h hcx') ?_
    refine p_slice (i := 1) (j := n) (m := c) slb rfl (bnd_i (kd := .i64) rfl) rfl rfl rfl (by omega) (by omega) (Nat.le_refl _) ?_
    refine cc is_leaf (leaf_any q val gs w.drew _ A2 (n - 1) (c - 1) m d hcut hvd hgs (by omega)) ?_
    rintro e W1 ⟨cs', rfl, hl1, b1⟩
    refine ⟨_, rfl, b1, ?_⟩
    have hcs := hl1.len
    rw [dN_len] at hcs
    have L1 : RdL W1 (Fd W1 gs) (dN (leafN q val)) cs' := (hl1.zfr (base := 0) (Nat.zero_le _) hgs).z0
    have hB1 := hBd.below b1
    have hK1 := hKd.below b1
    have hxl := hX.len
    rw [dNs_len, h16] at hxl
    refine p_atL (i := x.toNat) (q := x.toNat * 6) sln rfl rfl rfl (by omega) (by omega) ?_
    refine v_storeP (n := 6) (i := x.toNat * 6) cs' sz_nd rfl rfl hcs (hl1.ones (dN_one _)) hK1 (by rw [List.length_append, hxl]; omega) ?_
    rintro W2 hK2 hg2 hs2
    have St1 : Stp w gs W1 gs := sd.trans (Stp.below b1)
    have St2 : Stp W1 gs W2 gs := Stp.wrote hg2 hgk
    have b1' : Below w.heap.size w W1 := ⟨b1.os, b1.tape, b1.output, b1.size, b1.block⟩
    refine ⟨⟨_, rfl⟩, ⟨Av, cv, xs.take (x.toNat * 6) ++ cs' ++ xs.drop (x.toNat * 6 + 6), rest, hB1.grownN hg2 (fun e => hne e.symm), (hV.up St1).up St2, ?_, ?_, by show (ks.set x.toNat (leafN q val)).length = 16; rw [List.length_set]; exact h16, hne, hgb, hgk, hck⟩, St1.trans St2, fun B h1 h2 h3 => ?_⟩
    · have e1 : (xs ++ rest).take (x.toNat * 6) = xs.take (x.toNat * 6) := List.take_append_of_le_length (by omega)
      have e2 : (xs ++ rest).drop (x.toNat * 6 + 6) = xs.drop (x.toNat * 6 + 6) ++ rest := List.drop_append_of_le_length (by omega)
      rw [e1, e2] at hK2
      simpa only [List.append_assoc] using hK2
    · have hX2 := (hX.up St1).up St2
      show RdL W2 (Fd W2 gs) (dNs (ks.set x.toNat (leafN q val))) _
      rw [dNs_set _ (by omega)]
      exact ((hX2.take _).app (L1.up St2)).app (hX2.drop _)
    · exact (b1'.mono h3).grown hg2 (by have := b1'.size; omega) (fun q hq => by injection hq with hq; omega)
end Go.Proofs.Ytkfbkhahkkmcoaa
namespace Go.Proofs.Ytkfbkhahkkmcoaa
open Go.RowKit
theorem is_fork : isFn Try.prog 81 = true := by kernel_rfl
theorem is_ncommon : isFn Try.prog 98 = true := by kernel_rfl
def zNs (n : Nat) : List Value := (List.replicate n zN).flatten
def noneNs (n : Nat) : List Nd := List.replicate n noneN
theorem RdL.znone {W : World} {F : Nat → Prop} : RdL W F (dN noneN) zN :=
  RdL.ofnode (t := noneN) (Ap := none) (cp := 0) (Av := none) (cv := 0) (Ak := none) (ck := 0) (Ah := none) (ch := 0) (RdD.nil_ _ _) (RdD.nil_ _ _) (RdD.nil_ _ _) (RdD.nil_ _ _)
theorem RdL.znones {W : World} {F : Nat → Prop} : ∀ n, RdL W F (dNs (noneNs n)) (zNs n)
  | 0 => RdL.nil_
  | n + 1 => by
    show RdL W F (dN noneN ++ dNs (noneNs n)) (zN ++ zNs n)
    exact RdL.znone.app (RdL.znones n)
set_option maxRecDepth 100000 in
theorem made16 : (madeCells (Value.agg #[.int .i64 0, .slice none 0 0, .bool false, .slice none 0 0, .slice none 0 0, .slice none 0 0]).cells (16 * 6)).toList = zNs 16 := by kernel_rfl
set_option maxRecDepth 100000 in
/-- make([]Node, 16) -/
theorem v_mkN {E : Env} {d : Option Nat} {ty : TypeId} {p : String} {af : Array Edge} {gd : Option (Nat × Bool)} {l c : Operand} {kw : Value → World → Prop} {w : World} (hl : val E l = .int .i64 ((16 : Nat) : Int)) (hc : val E c = .int .i64 ((16 : Nat) : Int))
    (h : ∀ g w', g = w.heap.size → Blk w' g 25 (zNs 16) → Below g w w' → kw (.slice (some ⟨g, 0, none⟩) 16 16) w') :
    VVal Try.prog E { dst := d, op := .makeSlice 23 l c, type := ty, pos := p, after := af, guard := gd } w kw := by
  obtain ⟨i, hi0, hz0, hz1, hz2⟩ := info_parts inf_nd
  obtain ⟨w', hrun, hrow, hg⟩ := run_make_full (P := Try.prog) (w := w) w.heap.size 23 25 i _ 6 Try.underlying23 hi0 hz0 hz1 .i64 .i64 16 (by rw [hz2]; decide) (by unfold maxLen; decide) (Nat.le_refl _)
  refine vv (v := .slice (some ⟨w.heap.size, 0, none⟩) 16 16) (w' := w') ?_ (h _ _ rfl ?_ ⟨hg.os, hg.tape, hg.output, hg.size, fun b hb => hg.block b hb (by simp)⟩)
  · have hrun' : (Instr.makeSlice 23 (.int .i64 (16 : Int)) (.int .i64 (16 : Int))).run Try.prog w = _ := hrun
    simp [execOp, hl, hc, hrun']
  · rcases hrow.2 with ⟨_, h0⟩ | ⟨g', cap, cur, hv, hbg, hh, hnc, _, hcs, htk⟩
    · exact absurd h0 (by decide)
    · injection hv with hA _ hc'
      injection hA with hA
      injection hA with hA
      subst hA; subst hc'
      have e : cur.toList = zNs 16 := by
        rw [← made16, ← htk]
        refine (List.take_of_length_le ?_).symm
        simp at hcs ⊢
        omega
      rw [← e]
      unfold Blk
      rw [hh]
theorem BrS.drew {W : World} {gs : List (Option Nat)} {gb gk ck : Nat} {has : Bool} {v : List UInt8} {ks : List Nd} (h : BrS W gs gb gk ck has v ks) : BrS W.drew gs gb gk ck has v ks := by
  obtain ⟨Av, cv, xs, rest, h1, h2, h3, h4, h5⟩ := h
  exact ⟨Av, cv, xs, rest, h1, h2.up Stp.drew, h3, h4.up Stp.drew, h5⟩
theorem BrS.node {W : World} {gs gs' : List (Option Nat)} {gb gk ck : Nat} {has : Bool} {v : List UInt8} {ks : List Nd} (h : BrS W gs gb gk ck has v ks) (s : Stp W gs W gs') (hn : some gk ∉ gs') :
    ∃ Av cv, Blk W gb 25 (ncs (.mk 3 [] has v ks []) none 0 Av cv (some ⟨gk, 0, none⟩) ck none 0) ∧ RdL W (Fd W gs') (dN (.mk 3 [] has v ks [])) (ncs (.mk 3 [] has v ks []) none 0 Av cv (some ⟨gk, 0, none⟩) ck none 0) := by
  obtain ⟨Av, cv, xs, rest, hB, hV, hK, hX, h16, hne, hgb, hgk, hck⟩ := h
  refine ⟨Av, cv, ?_, RdL.ofnode (t := .mk 3 [] has v ks []) (RdD.nil_ _ _) (hV.up s) ?_ (RdD.nil_ _ _)⟩
  · show Blk W gb 25 [.int .i64 3, .slice none 0 0, .bool has, .slice Av v.length cv, .slice (some ⟨gk, 0, none⟩) ks.length ck, .slice none 0 0]
    rw [h16]; exact hB
  · refine RdD.sl_iff.2 ⟨_, ck, xs, rfl, by show ks.length ≤ ck; omega, dNs_len _, hX.up s, fun _ => ⟨gk, 0, rfl, ⟨hK.lt, hn⟩, fun j x hx => ?_⟩⟩
    rw [Nat.zero_add]
    refine hK.at_ ?_
    rw [List.getElem?_append_left (List.getElem?_eq_some_iff.1 hx).1]; exact hx
def forkN (t : Nd) (p val : List UInt8) : Nd :=
  let k := commonB t.path p
  let b := if t.kind = 1 then holdK false [] (noneNs 16) (t.path.drop k) t.val else (false, [], (noneNs 16).set (t.path.getD k 0).toNat (alongN (t.path.drop (k + 1)) (t.kids.headD noneN)))
  let b2 := holdK b.1 b.2.1 b.2.2 (p.drop k) val
  alongN (p.take k) (.mk 3 [] b2.1 b2.2.1 b2.2.2 [])
/-- What may be forked. -/
def Forks (t : Nd) (p : List UInt8) : Prop := (∃ p0 v0, t = .mk 1 p0 false v0 [] []) ∨ (∃ p0 k0, t = .mk 2 p0 false [] [k0] [] ∧ commonB p0 p < p0.length)
set_option maxRecDepth 100000 in
set_option maxHeartbeats 1000000 in
theorem fork_any (t : Nd) (p val : List UInt8) (gs : List (Option Nat)) (w : World) (cs : List Value) (A1 A2 : Option Addr) (n c m d : Nat) (hr : RdL w (Fd w gs) (dN t) cs) (hp : RdD w (Fd w gs) (dB p) (.slice A1 n c)) (hv : RdD w (Fd w gs) (dB val) (.slice A2 m d)) (hgs : ∀ b, some b ∈ gs → b < w.heap.size)
    (ht : Forks t p) (hh1 : halvesB t.path = true) (hh2 : halvesB p = true) (hz : sz t ≤ 1000000) (hs : n ≤ 1000000 ∧ m ≤ 1000000) :
    Calls Try.prog 81 #[.agg cs.toArray, .slice A1 n c, .slice A2 m d] w fun e w' => ∃ cs', e = .returned (.agg cs'.toArray) ∧ RdL w' (Fd w' gs) (dN (forkN t p val)) cs' ∧ Below w.heap.size w w' := by
  refine calls_ev (args := [.agg cs.toArray, .slice A1 n c, .slice A2 m d]) mixed Try.func81 rfl (by kernel_rfl) ?_
  have en := hp.slen
  have em := hv.slen
  have ecn := hp.scap
  have hsz := sz_eq t
  obtain ⟨Ap, cp, Av, cv, Ak, ck, Ah, ch, rfl, r1, r3, r4, r5⟩ := hr.node
  refine v_boxB (ncs t Ap cp Av cv Ak ck Ah ch) rfl ?_
  rintro g1 W1 hg1 hB1 hb1 hs1
  refine v_allocB zN al_nd ?_
  rintro g6 W2 hg6 hB6 hb6 hs6
  rw [hg1] at hb1
  rw [hg6] at hb6
  have C2 := below_tr hb1 hb6
  have hB12 := hB1.below hb6
  refine p_fld fN1 rfl ?_
  refine v_load agg_b rfl (hB12.at_ rfl) ?_
  have s2 : Stp w gs W2 gs := Stp.below C2
  obtain ⟨_, hcp, hq1⟩ := (r1.up s2).rd Fd.lt
  obtain ⟨_, _, hq2⟩ := (hp.up s2).rd Fd.lt
  refine cc is_ncommon (common_any Ap A1 t.path.length n cp c _ t.path p W2 hq1 hq2 (by omega) (by omega)) ?_
  rintro e W3 ⟨rfl, dd, rfl⟩
  refine ⟨_, rfl, ?_⟩
  obtain ⟨K, hK⟩ : ∃ K, commonB t.path p = K := ⟨_, rfl⟩
  have hKl := commonB_le t.path p
  rw [hK] at hKl ⊢
  have b3 : Below W2.heap.size W2 (W2.drewN dd) := below_drewN (Below.refl _ _) _
  revert b3
  generalize W2.drewN dd = W3
  intro b3
  refine v_mkN rfl rfl ?_
  rintro gk W4 hgk hBk hb4
  rw [hgk] at hb4
  have l4 := hBk.lt
  refine p_build (vs := [.int .i64 3, .slice none 0 0, .bool false, .slice none 0 0, .slice (some ⟨gk, 0, none⟩) 16 16, .slice none 0 0]) pl_nd z_nd rfl ?_
  refine v_allocB zN al_nd ?_
  rintro gb W5 hgb hB5 hb5 hs5
  rw [hgb] at hb5
  refine v_storeA [.int .i64 3, .slice none 0 0, .bool false, .slice none 0 0, .slice (some ⟨gk, 0, none⟩) 16 16, .slice none 0 0] sz_nd rfl rfl rfl (by intro u hu; simp at hu; rcases hu with rfl | rfl | rfl | rfl | rfl | rfl <;> rfl) hB5 rfl ?_
  rintro W6 hB6b hg6b hs6b
  have z23 := b3.size
  have z34 := hb4.size
  have z01 := hb1.size
  have A6 : At w W6 (some gb :: some gk :: some g6 :: gs) := ((((((At.start hgs).call hb1).new hb6 (g := some g6) (fun b e => by injection e with e; omega)).call b3).new hb4 (g := some gk) (fun b e => by injection e with e; omega)).new hb5 (g := some gb) (fun b e => by injection e with e; omega)).wrote hg6b (fun b e => by injection e with e; omega)
  have S6 : Stp W2 (some g6 :: gs) W6 (some gb :: some gk :: some g6 :: gs) := (Stp.below b3).trans ((Stp.new hb4 (fun b e => by injection e with e; omega)).trans ((Stp.new hb5 (fun b e => by injection e with e; omega)).trans (Stp.wrote hg6b (by simp))))
  have S2 : Stp W1 gs W2 (some g6 :: gs) := Stp.new hb6 (fun b e => by injection e with e; omega)
  have S1 : Stp w gs W1 gs := Stp.below hb1
  have S : Stp w gs W6 (some gb :: some gk :: some g6 :: gs) := S1.trans (S2.trans S6)
  have F1 : FB W6 (some gb :: some gk :: some g6 :: gs) g1 25 (ncs t Ap cp Av cv Ak ck Ah ch) := FB.up (gs := gs) (FB.new hB1 hgs (by omega)) (S2.trans S6)
  have hB66 : Blk W6 g6 25 zN := ((hB6.below b3).below hb4).below hb5 |>.grownN hg6b (by omega)
  have hK6 : Blk W6 gk 25 (zNs 16 ++ []) := by rw [List.append_nil]; exact (hBk.below hb5).grownN hg6b (by omega)
  have Br : BrS W6 (some gb :: some gk :: some g6 :: gs) gb gk 16 false [] (noneNs 16) := ⟨none, 0, zNs 16, [], hB6b, RdD.nil_ _ _, hK6, RdL.znones 16, rfl, by omega, by simp, by simp, by decide⟩
  have hgw : w.heap.size ≤ g1 ∧ g1 < g6 ∧ g6 < gk ∧ gk < gb := by omega
  have hgbl := hB6b.lt
  replace r1 := r1.up S
  replace r3 := r3.up S
  replace r4 := r4.up S
  replace hp := hp.up S
  replace hv := hv.up S
  clear hB1 hB6 hB12 hq1 hq2 hBk hB5 hK6 hB6b S6 S2 S1 s2 C2 r5 hr hb1 hb6 hb4 hb5 hg6b b3
  refine p_fld fN0 rfl ?_
  refine v_load agg_int rfl (F1.at_ rfl) ?_
  clear S
  rcases ht with ⟨p0, v0, rfl⟩ | ⟨p0, k0, rfl, hlt⟩
  · refine p_eq rfl rfl (fun _ => ?_) (fun h => absurd rfl h)
    simp only [Nd.path, Nd.val, Nd.hash, Nd.kids] at r1 r3 r4 hsz hKl hh1 hK hcp
    have sd : Stp W6 (some gb :: some gk :: some g6 :: gs) W6.drew (some gb :: some gk :: some g6 :: gs) := Stp.drew
    replace A6 := A6.drew
    replace F1 := F1.up sd
    replace hB66 := hB66.drew
    replace Br := Br.drew
    replace r1 := r1.up sd
    replace r3 := r3.up sd
    replace hp := hp.up sd
    replace hv := hv.up sd
    have hcut0 := r1.cutB (i := K) (j := p0.length) (m := cp) (by omega) (Nat.le_refl _) (by omega)
    rw [List.take_of_length_le (by rw [List.length_drop]; omega)] at hcut0
    refine dr (fun W => FB W (some gb :: some gk :: some g6 :: gs) g1 25 (ncs (.mk 1 p0 false v0 [] []) Ap cp Av cv Ak ck Ah ch)) [(0, true), (1, true), (2, true), (3, true), (4, true), (5, true), (6, false)] (by kernel_rfl) F1 ?_
    refine p_fld fN1 rfl ?_
    refine t_load agg_b rfl (fun W h => FB.at_ h rfl) ?_
    refine p_slice (i := K) (j := p0.length) (m := cp) slb rfl (bnd_i (kd := .i64) rfl) rfl rfl rfl (by omega) (by omega) (Nat.le_refl _) ?_
    refine p_fld fN3 rfl ?_
    refine t_load agg_b rfl (fun W h => FB.at_ h rfl) ?_
    refine cc is_hold (hold_any _ W6.drew gb gk 16 _ _ _ (p0.drop K) v0 _ Av (p0.length - K) (cp - K) v0.length cv Br hcut0 r3 A6.lt (halvesB_drop hh1) (by omega)) ?_
    rintro e W7 ⟨⟨u, rfl⟩, Br, S7, B7⟩
    refine ⟨_, rfl, F1.up S7, ?_⟩
    replace hB66 := hB66.belowB (B7 gk (by omega) (by omega) (by have := A6.lt gk (by simp); omega)) (by omega)
    replace A6 := At.mk (A6.below.trans (B7 _ (by omega) (by omega) (by have := A6.size; omega))) (fun b e => by have := A6.lt b e; have := S7.size; omega)
    replace hp := hp.up S7
    replace hv := hv.up S7
    clear F1 r1 r3 r4 hcut0
    have hcutp := hp.cutB (i := K) (j := n) (m := c) (by omega) (Nat.le_refl _) (by omega)
    rw [List.take_of_length_le (by rw [List.length_drop]; omega)] at hcutp
    refine p_slice (i := K) (j := n) (m := c) slb rfl (bnd_i (kd := .i64) rfl) rfl rfl rfl (by omega) (by omega) (Nat.le_refl _) ?_
    refine cc is_hold (hold_any _ _ gb gk 16 _ _ _ (p.drop K) val _ A2 (n - K) (c - K) m d Br hcutp hv A6.lt (halvesB_drop hh2) (by omega)) ?_
    rintro e W8 ⟨⟨u, rfl⟩, Br, S8, B8⟩
    refine ⟨_, rfl, ?_⟩
    replace hB66 := hB66.belowB (B8 gk (by omega) (by omega) (by have := A6.lt gk (by simp); omega)) (by omega)
    replace A6 := At.mk (A6.below.trans (B8 _ (by omega) (by omega) (by have := A6.size; omega))) (fun b e => by have := A6.lt b e; have := S8.size; omega)
    replace hp := (hp.up S8).up (Stp.drop.trans Stp.drop)
    obtain ⟨Aw, cw, hBb, hLb⟩ := Br.node (gs' := some g6 :: gs) (Stp.drop.trans Stp.drop) (by
      intro hm
      rcases List.mem_cons.1 hm with hm | hm
      · injection hm with hm; omega
      · have := hgs gk hm; omega)
    have A7 := (A6.drop.drop).drew
    have hcut2 := (hp.cutB (i := 0) (j := K) (m := c) (by omega) (by omega) (by omega)).up Stp.drew
    rw [List.drop_zero, Nat.sub_zero, Nat.sub_zero] at hcut2
    refine drZ 5 (fun W => Below W8.drew.heap.size W8.drew W) [(0, true), (1, true), (2, true), (3, true), (4, false)] (by kernel_rfl) (Below.refl _ _) ?_
    refine p_slice (i := 0) (j := K) (m := c) slb rfl rfl (bnd_i (kd := .i64) rfl) rfl rfl (by omega) (by omega) (Nat.le_refl _) ?_
    refine t_loadN (ncs _ none 0 Aw cw (some ⟨gk, 0, none⟩) 16 none 0) agg_nd rfl rfl (fun W h => (hBb.drew.below h).run 0 _ (fun j v h => by rw [Nat.zero_add]; exact h)) ?_
    refine cc is_along (along_any (p.take K) _ _ W8.drew _ K c _ hcut2 (hLb.up Stp.drew) A7.lt (by omega)) ?_
    rintro e W9 ⟨cs9, rfl, h9, b9⟩
    refine ⟨_, rfl, b9, ?_⟩
    have hl9 := h9.len
    rw [dN_len] at hl9
    refine v_storeA cs9 sz_nd rfl rfl hl9 (h9.ones (dN_one _)) (hB66.drew.below b9) rfl ?_
    rintro W10 hB10 hg10 hs10
    refine c_loadN cs9 agg_nd rfl hl9 (hB10.run 0 _ (fun j v h => by rw [Nat.zero_add]; exact h)) ?_
    have St : Stp W9 (some g6 :: gs) W10 (some g6 :: gs) := Stp.wrote hg10 (by simp)
    refine ⟨_, rfl, ?_, ((A7.call b9).wrote hg10 (fun b e => by injection e with e; omega)).below⟩
    subst hK
    exact (h9.up St).up Stp.drop
  · refine p_eq rfl rfl (fun h => absurd (show (2 : Int) = 1 from h) (by decide)) (fun _ => ?_)
    simp only [Nd.path, Nd.val, Nd.hash, Nd.kids] at r1 r3 r4 hsz hKl hh1 hK hcp
    have hlt' : K < p0.length := by rw [← hK]; exact hlt
    have sd : Stp W6 (some gb :: some gk :: some g6 :: gs) W6.drew (some gb :: some gk :: some g6 :: gs) := Stp.drew
    replace A6 := A6.drew
    replace F1 := F1.up sd
    replace hB66 := hB66.drew
    obtain ⟨Av', cv', xs, rest, hBb, hVb, hKb, hXb, h16, hne, hgb, hgk, hck⟩ := Br.drew
    replace r1 := r1.up sd
    replace r4 := r4.up sd
    replace hp := hp.up sd
    replace hv := hv.up sd
    have hcut0 := r1.cutB (i := K + 1) (j := p0.length) (m := cp) (by omega) (Nat.le_refl _) (by omega)
    rw [List.take_of_length_le (by rw [List.length_drop]; omega)] at hcut0
    obtain ⟨_, _, hpr⟩ := r1.rd Fd.lt
    obtain ⟨bq, oq, eAq, hcx⟩ := hpr.at_ (k := K) (by omega)
    subst eAq
    have hcx' : W6.drew.cell? (Addr.add ⟨bq, oq, none⟩ (K * 1)) = some (.int .u8 (at8 p0 K)) := by rw [Addr.add_lit, Nat.mul_one]; exact hcx
    have hx16 : (p0.getD K 0).toNat < 16 := by
      have e : p0.drop K = p0.getD K 0 :: p0.drop (K + 1) := by rw [List.drop_eq_getElem_cons hlt', List.getD_eq_getElem?_getD, List.getElem?_eq_getElem hlt', Option.getD_some]
      have h0 := halvesB_drop (n := K) hh1
      rw [e] at h0
      exact halves_hd h0
    obtain ⟨b0, off, es, rfl, hF, hes, hel, hc⟩ := r4.kid (i := 0) (k := k0) rfl
    refine drZ 18 (fun W => Below W6.drew.heap.size W6.drew W) [(0, true), (1, true), (2, true), (3, true), (4, true), (5, true), (6, true), (7, true), (8, true), (9, true), (10, true), (11, true), (12, true), (13, true), (14, true), (15, true), (16, false), (17, true)] (by kernel_rfl) (Below.refl _ _) ?_
    refine p_fld fN4 rfl ?_
    refine t_load agg_ns rfl (fun W h => (hBb.below h).at_ rfl) ?_
    refine p_fld fN1 rfl ?_
    refine t_load agg_b rfl (fun W h => (F1.blk.below h).at_ rfl) ?_
    refine p_at (i := K) slb rfl rfl rfl (by show K < p0.length; omega) ?_
    refine t_load agg_by' rfl (fun W h => cellB h hcx') ?_
    refine p_fld fN1 rfl ?_
    refine t_load agg_b rfl (fun W h => (F1.blk.below h).at_ rfl) ?_
    refine p_add rfl rfl (r := ((K + 1 : Nat) : Int)) ((w64 (by omega)).trans (by omega)) ?_
    refine p_slice (i := K + 1) (j := p0.length) (m := cp) slb rfl (bnd_i (kd := .i64) rfl) rfl rfl rfl (by omega) (by omega) (Nat.le_refl _) ?_
    refine p_fld fN4 rfl ?_
    refine t_load agg_ns rfl (fun W h => (F1.blk.below h).at_ rfl) ?_
    refine p_at (i := 0) sln rfl rfl rfl (by show 0 < 1; decide) ?_
    refine t_loadN es agg_nd rfl hel (fun W h j x hx => cellB h (hc j x hx)) ?_
    refine cc is_along (along_any (p0.drop (K + 1)) k0 _ W6.drew _ _ _ es hcut0 hes A6.lt (by omega)) ?_
    rintro e W7 ⟨cs7, rfl, h7, b7⟩
    refine ⟨_, rfl, b7, ?_⟩
    have hl7 := h7.len
    rw [dN_len] at hl7
    have hxl := hXb.len
    rw [dNs_len, h16] at hxl
    refine p_atL (i := (p0.getD K 0).toNat) (q := (p0.getD K 0).toNat * 6) sln rfl rfl rfl (by omega) (by omega) ?_
    refine v_storeP (n := 6) (i := (p0.getD K 0).toNat * 6) cs7 sz_nd rfl rfl hl7 (h7.ones (dN_one _)) (hKb.below b7) (by rw [List.length_append, hxl]; omega) ?_
    rintro W7b hK2 hg2 hs2
    have St2 : Stp W7 (some gb :: some gk :: some g6 :: gs) W7b (some gb :: some gk :: some g6 :: gs) := Stp.wrote hg2 hgk
    have St1 : Stp W6.drew (some gb :: some gk :: some g6 :: gs) W7 (some gb :: some gk :: some g6 :: gs) := Stp.below b7
    replace Br : BrS W7b (some gb :: some gk :: some g6 :: gs) gb gk 16 false [] ((noneNs 16).set (p0.getD K 0).toNat (alongN (p0.drop (K + 1)) k0)) := by
      refine ⟨Av', cv', xs.take ((p0.getD K 0).toNat * 6) ++ cs7 ++ xs.drop ((p0.getD K 0).toNat * 6 + 6), rest, (hBb.below b7).grownN hg2 (fun e => hne e.symm), (hVb.up St1).up St2, ?_, ?_, by rw [List.length_set]; exact h16, hne, hgb, hgk, hck⟩
      · have e1 : (xs ++ rest).take ((p0.getD K 0).toNat * 6) = xs.take ((p0.getD K 0).toNat * 6) := List.take_append_of_le_length (by omega)
        have e2 : (xs ++ rest).drop ((p0.getD K 0).toNat * 6 + 6) = xs.drop ((p0.getD K 0).toNat * 6 + 6) ++ rest := List.drop_append_of_le_length (by omega)
        rw [e1, e2] at hK2
        simpa only [List.append_assoc] using hK2
      · have hX2 := (hXb.up St1).up St2
        rw [dNs_set _ (by omega)]
        exact ((hX2.take _).app (h7.up St2)).app (hX2.drop _)
    replace A6 := (A6.call b7).wrote hg2 (fun b e => by injection e with e; omega)
    replace hB66 := (hB66.below b7).grownN hg2 (by omega)
    replace hp := (hp.up St1).up St2
    replace hv := (hv.up St1).up St2
    clear F1 r1 r3 r4 hcut0 hBb hKb hcx hcx' hc hK2
    have hcutp := hp.cutB (i := K) (j := n) (m := c) (by omega) (Nat.le_refl _) (by omega)
    rw [List.take_of_length_le (by rw [List.length_drop]; omega)] at hcutp
    refine p_slice (i := K) (j := n) (m := c) slb rfl (bnd_i (kd := .i64) rfl) rfl rfl rfl (by omega) (by omega) (Nat.le_refl _) ?_
    refine cc is_hold (hold_any _ _ gb gk 16 _ _ _ (p.drop K) val _ A2 (n - K) (c - K) m d Br hcutp hv A6.lt (halvesB_drop hh2) (by omega)) ?_
    rintro e W8 ⟨⟨u, rfl⟩, Br, S8, B8⟩
    refine ⟨_, rfl, ?_⟩
    replace hB66 := hB66.belowB (B8 gk (by omega) (by omega) (by have := A6.lt gk (by simp); omega)) (by omega)
    replace A6 := At.mk (A6.below.trans (B8 _ (by omega) (by omega) (by have := A6.size; omega))) (fun b e => by have := A6.lt b e; have := S8.size; omega)
    replace hp := (hp.up S8).up (Stp.drop.trans Stp.drop)
    obtain ⟨Aw, cw, hBb, hLb⟩ := Br.node (gs' := some g6 :: gs) (Stp.drop.trans Stp.drop) (by
      intro hm
      rcases List.mem_cons.1 hm with hm | hm
      · injection hm with hm; omega
      · have := hgs gk hm; omega)
    have A7 := (A6.drop.drop).drew
    have hcut2 := (hp.cutB (i := 0) (j := K) (m := c) (by omega) (by omega) (by omega)).up Stp.drew
    rw [List.drop_zero, Nat.sub_zero, Nat.sub_zero] at hcut2
    refine drZ 5 (fun W => Below W8.drew.heap.size W8.drew W) [(0, true), (1, true), (2, true), (3, true), (4, false)] (by kernel_rfl) (Below.refl _ _) ?_
    refine p_slice (i := 0) (j := K) (m := c) slb rfl rfl (bnd_i (kd := .i64) rfl) rfl rfl (by omega) (by omega) (Nat.le_refl _) ?_
    refine t_loadN (ncs _ none 0 Aw cw (some ⟨gk, 0, none⟩) 16 none 0) agg_nd rfl rfl (fun W h => (hBb.drew.below h).run 0 _ (fun j v h => by rw [Nat.zero_add]; exact h)) ?_
    refine cc is_along (along_any (p.take K) _ _ W8.drew _ K c _ hcut2 (hLb.up Stp.drew) A7.lt (by omega)) ?_
    rintro e W9 ⟨cs9, rfl, h9, b9⟩
    refine ⟨_, rfl, b9, ?_⟩
    have hl9 := h9.len
    rw [dN_len] at hl9
    refine v_storeA cs9 sz_nd rfl rfl hl9 (h9.ones (dN_one _)) (hB66.drew.below b9) rfl ?_
    rintro W10 hB10 hg10 hs10
    refine c_loadN cs9 agg_nd rfl hl9 (hB10.run 0 _ (fun j v h => by rw [Nat.zero_add]; exact h)) ?_
    have St : Stp W9 (some g6 :: gs) W10 (some g6 :: gs) := Stp.wrote hg10 (by simp)
    refine ⟨_, rfl, ?_, ((A7.call b9).wrote hg10 (fun b e => by injection e with e; omega)).below⟩
    subst hK
    exact (h9.up St).up Stp.drop
end Go.Proofs.Ytkfbkhahkkmcoaa
