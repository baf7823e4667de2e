/- The walk of trie.fork. -/
import Derived.Test.YtdlljmmgkoeilaaDoorG08
namespace Go.Proofs.YtdlljmmgkoeilaaDoor
open Go.RowKit
theorem is_fork : isFn Tryd.prog 64 = true := by kernel_rfl
theorem is_ncommon : isFn Tryd.prog 77 = true := by kernel_rfl
def zNs (n : Nat) : List Value := (List.replicate n zN).flatten
def noneNs (n : Nat) : List Nd := List.replicate n noneN
theorem RdL.znone {W : World} {F : Nat → Prop} : RdL W F (dN noneN) zN :=
  RdL.ofnode (t := noneN) (Ap := none) (cp := 0) (Av := none) (cv := 0) (Ak := none) (ck := 0) (Ah := none) (ch := 0) (RdD.nil_ _ _) (RdD.nil_ _ _) (RdD.nil_ _ _) (RdD.nil_ _ _)
theorem RdL.znones {W : World} {F : Nat → Prop} : ∀ n, RdL W F (dNs (noneNs n)) (zNs n)
  | 0 => RdL.nil_
  | n + 1 => by
    show RdL W F (dN noneN ++ dNs (noneNs n)) (zN ++ zNs n)
    exact RdL.znone.app (RdL.znones n)
set_option maxRecDepth 100000 in
theorem made16 : (madeCells (Value.agg #[.int .i64 0, .slice none 0 0, .bool false, .slice none 0 0, .slice none 0 0, .slice none 0 0]).cells (16 * 6)).toList = zNs 16 := by kernel_rfl
set_option maxRecDepth 100000 in
/-- make([]Node, 16) -/
theorem v_mkN {E : Env} {d : Option Nat} {ty : TypeId} {p : String} {af : Array Edge} {gd : Option (Nat × Bool)} {l c : Operand} {kw : Value → World → Prop} {w : World} (hl : val E l = .int .i64 ((16 : Nat) : Int)) (hc : val E c = .int .i64 ((16 : Nat) : Int))
    (h : ∀ g w', g = w.heap.size → Blk w' g 28 (zNs 16) → Below g w w' → kw (.slice (some ⟨g, 0, none⟩) 16 16) w') :
    VVal Tryd.prog E { dst := d, op := .makeSlice 26 l c, type := ty, pos := p, after := af, guard := gd } w kw := by
  obtain ⟨i, hi0, hz0, hz1, hz2⟩ := info_parts inf_nd
  obtain ⟨w', hrun, hrow, hg⟩ := run_make_full (P := Tryd.prog) (w := w) w.heap.size 26 28 i _ 6 Tryd.underlying26 hi0 hz0 hz1 .i64 .i64 16 (by rw [hz2]; decide) (by unfold maxLen; decide) (Nat.le_refl _)
  refine vv (v := .slice (some ⟨w.heap.size, 0, none⟩) 16 16) (w' := w') ?_ (h _ _ rfl ?_ ⟨hg.os, hg.tape, hg.output, hg.size, fun b hb => hg.block b hb (by simp)⟩)
  · have hrun' : (Instr.makeSlice 26 (.int .i64 (16 : Int)) (.int .i64 (16 : Int))).run Tryd.prog w = _ := hrun
    simp [execOp, hl, hc, hrun']
  · rcases hrow.2 with ⟨_, h0⟩ | ⟨g', cap, cur, hv, hbg, hh, hnc, _, hcs, htk⟩
    · exact absurd h0 (by decide)
    · injection hv with hA _ hc'
      injection hA with hA
      injection hA with hA
      subst hA; subst hc'
      have e : cur.toList = zNs 16 := by
        rw [← made16, ← htk]
        refine (List.take_of_length_le ?_).symm
        simp at hcs ⊢
        omega
      rw [← e]
      unfold Blk
      rw [hh]
theorem BrS.drew {W : World} {gs : List (Option Nat)} {gb gk ck : Nat} {has : Bool} {v : List UInt8} {ks : List Nd} (h : BrS W gs gb gk ck has v ks) : BrS W.drew gs gb gk ck has v ks := by
  obtain ⟨Av, cv, xs, rest, h1, h2, h3, h4, h5⟩ := h
  exact ⟨Av, cv, xs, rest, h1, h2.up Stp.drew, h3, h4.up Stp.drew, h5⟩
theorem BrS.node {W : World} {gs gs' : List (Option Nat)} {gb gk ck : Nat} {has : Bool} {v : List UInt8} {ks : List Nd} (h : BrS W gs gb gk ck has v ks) (s : Stp W gs W gs') (hn : some gk ∉ gs') :
    ∃ Av cv, Blk W gb 28 (ncs (.mk 3 [] has v ks []) none 0 Av cv (some ⟨gk, 0, none⟩) ck none 0) ∧ RdL W (Fd W gs') (dN (.mk 3 [] has v ks [])) (ncs (.mk 3 [] has v ks []) none 0 Av cv (some ⟨gk, 0, none⟩) ck none 0) := by
  obtain ⟨Av, cv, xs, rest, hB, hV, hK, hX, h16, hne, hgb, hgk, hck⟩ := h
  refine ⟨Av, cv, ?_, RdL.ofnode (t := .mk 3 [] has v ks []) (RdD.nil_ _ _) (hV.up s) ?_ (RdD.nil_ _ _)⟩
  · show Blk W gb 28 [.int .i64 3, .slice none 0 0, .bool has, .slice Av v.length cv, .slice (some ⟨gk, 0, none⟩) ks.length ck, .slice none 0 0]
    rw [h16]; exact hB
  · refine RdD.sl_iff.2 ⟨_, ck, xs, rfl, by show ks.length ≤ ck; omega, dNs_len _, hX.up s, fun _ => ⟨gk, 0, rfl, ⟨hK.lt, hn⟩, fun j x hx => ?_⟩⟩
    rw [Nat.zero_add]
    refine hK.at_ ?_
    rw [List.getElem?_append_left (List.getElem?_eq_some_iff.1 hx).1]; exact hx
def forkN (t : Nd) (p val : List UInt8) : Nd :=
  let k := commonB t.path p
  let b := if t.kind = 1 then holdK false [] (noneNs 16) (t.path.drop k) t.val else (false, [], (noneNs 16).set (t.path.getD k 0).toNat (alongN (t.path.drop (k + 1)) (t.kids.headD noneN)))
  let b2 := holdK b.1 b.2.1 b.2.2 (p.drop k) val
  alongN (p.take k) (.mk 3 [] b2.1 b2.2.1 b2.2.2 [])
/-- What may be forked. -/
def Forks (t : Nd) (p : List UInt8) : Prop := (∃ p0 v0, t = .mk 1 p0 false v0 [] []) ∨ (∃ p0 k0, t = .mk 2 p0 false [] [k0] [] ∧ commonB p0 p < p0.length)
set_option maxRecDepth 100000 in
set_option maxHeartbeats 1000000 in
theorem fork_any (t : Nd) (p val : List UInt8) (gs : List (Option Nat)) (w : World) (cs : List Value) (A1 A2 : Option Addr) (n c m d : Nat) (hr : RdL w (Fd w gs) (dN t) cs) (hp : RdD w (Fd w gs) (dB p) (.slice A1 n c)) (hv : RdD w (Fd w gs) (dB val) (.slice A2 m d)) (hgs : ∀ b, some b ∈ gs → b < w.heap.size)
    (ht : Forks t p) (hh1 : halvesB t.path = true) (hh2 : halvesB p = true) (hz : sz t ≤ 1000000) (hs : n ≤ 1000000 ∧ m ≤ 1000000) :
    Calls Tryd.prog 64 #[.agg cs.toArray, .slice A1 n c, .slice A2 m d] w fun e w' => ∃ cs', e = .returned (.agg cs'.toArray) ∧ RdL w' (Fd w' gs) (dN (forkN t p val)) cs' ∧ Below w.heap.size w w' := by
  refine calls_ev (args := [.agg cs.toArray, .slice A1 n c, .slice A2 m d]) mixed Tryd.func64 rfl (by kernel_rfl) ?_
  have en := hp.slen
  have em := hv.slen
  have ecn := hp.scap
  have hsz := sz_eq t
  obtain ⟨Ap, cp, Av, cv, Ak, ck, Ah, ch, rfl, r1, r3, r4, r5⟩ := hr.node
  refine v_boxB (ncs t Ap cp Av cv Ak ck Ah ch) rfl ?_
  rintro g1 W1 hg1 hB1 hb1 hs1
  refine v_allocB zN al_nd ?_
  rintro g6 W2 hg6 hB6 hb6 hs6
  rw [hg1] at hb1
  rw [hg6] at hb6
  have C2 := below_tr hb1 hb6
  have hB12 := hB1.below hb6
  refine p_fld fN1 rfl ?_
  refine v_load agg_b rfl (hB12.at_ rfl) ?_
  have s2 : Stp w gs W2 gs := Stp.below C2
  obtain ⟨_, hcp, hq1⟩ := (r1.up s2).rd Fd.lt
  obtain ⟨_, _, hq2⟩ := (hp.up s2).rd Fd.lt
  refine cc is_ncommon (common_any Ap A1 t.path.length n cp c _ t.path p W2 hq1 hq2 (by omega) (by omega)) ?_
  rintro e W3 ⟨rfl, dd, rfl⟩
  refine ⟨_, rfl, ?_⟩
  obtain ⟨K, hK⟩ : ∃ K, commonB t.path p = K := ⟨_, rfl⟩
  have hKl := commonB_le t.path p
  rw [hK] at hKl ⊢
  have b3 : Below W2.heap.size W2 (W2.drewN dd) := below_drewN (Below.refl _ _) _
  revert b3
  generalize W2.drewN dd = W3
  intro b3
  refine v_mkN rfl rfl ?_
  rintro gk W4 hgk hBk hb4
  rw [hgk] at hb4
  have l4 := hBk.lt
  refine p_build (vs := [.int .i64 3, .slice none 0 0, .bool false, .slice none 0 0, .slice (some ⟨gk, 0, none⟩) 16 16, .slice none 0 0]) pl_nd z_nd rfl ?_
  refine v_allocB zN al_nd ?_
  rintro gb W5 hgb hB5 hb5 hs5
  rw [hgb] at hb5
  refine v_storeA [.int .i64 3, .slice none 0 0, .bool false, .slice none 0 0, .slice (some ⟨gk, 0, none⟩) 16 16, .slice none 0 0] sz_nd rfl rfl rfl (by intro u hu; simp at hu; rcases hu with rfl | rfl | rfl | rfl | rfl | rfl <;> rfl) hB5 rfl ?_
  rintro W6 hB6b hg6b hs6b
  have z23 := b3.size
  have z34 := hb4.size
  have z01 := hb1.size
  have A6 : At w W6 (some gb :: some gk :: some g6 :: gs) := ((((((At.start hgs).call hb1).new hb6 (g := some g6) (fun b e => by injection e with e; omega)).call b3).new hb4 (g := some gk) (fun b e => by injection e with e; omega)).new hb5 (g := some gb) (fun b e => by injection e with e; omega)).wrote hg6b (fun b e => by injection e with e; omega)
  have S6 : Stp W2 (some g6 :: gs) W6 (some gb :: some gk :: some g6 :: gs) := (Stp.below b3).trans ((Stp.new hb4 (fun b e => by injection e with e; omega)).trans ((Stp.new hb5 (fun b e => by injection e with e; omega)).trans (Stp.wrote hg6b (by simp))))
  have S2 : Stp W1 gs W2 (some g6 :: gs) := Stp.new hb6 (fun b e => by injection e with e; omega)
  have S1 : Stp w gs W1 gs := Stp.below hb1
  have S : Stp w gs W6 (some gb :: some gk :: some g6 :: gs) := S1.trans (S2.trans S6)
  have F1 : FB W6 (some gb :: some gk :: some g6 :: gs) g1 28 (ncs t Ap cp Av cv Ak ck Ah ch) := FB.up (gs := gs) (FB.new hB1 hgs (by omega)) (S2.trans S6)
  have hB66 : Blk W6 g6 28 zN := ((hB6.below b3).below hb4).below hb5 |>.grownN hg6b (by omega)
  have hK6 : Blk W6 gk 28 (zNs 16 ++ []) := by rw [List.append_nil]; exact (hBk.below hb5).grownN hg6b (by omega)
  have Br : BrS W6 (some gb :: some gk :: some g6 :: gs) gb gk 16 false [] (noneNs 16) := ⟨none, 0, zNs 16, [], hB6b, RdD.nil_ _ _, hK6, RdL.znones 16, rfl, by omega, by simp, by simp, by decide⟩
  have hgw : w.heap.size ≤ g1 ∧ g1 < g6 ∧ g6 < gk ∧ gk < gb := by omega
  have hgbl := hB6b.lt
  replace r1 := r1.up S
  replace r3 := r3.up S
  replace r4 := r4.up S
  replace hp := hp.up S
  replace hv := hv.up S
  clear hB1 hB6 hB12 hq1 hq2 hBk hB5 hK6 hB6b S6 S2 S1 s2 C2 r5 hr hb1 hb6 hb4 hb5 hg6b b3
  refine p_fld fN0 rfl ?_
  refine v_load agg_int rfl (F1.at_ rfl) ?_
  clear S
  rcases ht with ⟨p0, v0, rfl⟩ | ⟨p0, k0, rfl, hlt⟩
  · refine p_eq rfl rfl (fun _ => ?_) (fun h => absurd rfl h)
    simp only [Nd.path, Nd.val, Nd.hash, Nd.kids] at r1 r3 r4 hsz hKl hh1 hK hcp
    have sd : Stp W6 (some gb :: some gk :: some g6 :: gs) W6.drew (some gb :: some gk :: some g6 :: gs) := Stp.drew
    replace A6 := A6.drew
    replace F1 := F1.up sd
    replace hB66 := hB66.drew
    replace Br := Br.drew
    replace r1 := r1.up sd
    replace r3 := r3.up sd
    replace hp := hp.up sd
    replace hv := hv.up sd
    have hcut0 := r1.cutB (i := K) (j := p0.length) (m := cp) (by omega) (Nat.le_refl _) (by omega)
    rw [List.take_of_length_le (by rw [List.length_drop]; omega)] at hcut0
    refine dr (fun W => FB W (some gb :: some gk :: some g6 :: gs) g1 28 (ncs (.mk 1 p0 false v0 [] []) Ap cp Av cv Ak ck Ah ch)) [(0, true), (1, true), (2, true), (3, true), (4, true), (5, true), (6, false)] (by kernel_rfl) F1 ?_
    refine p_fld fN1 rfl ?_
    refine t_load agg_b rfl (fun W h => FB.at_ h rfl) ?_
    refine p_slice (i := K) (j := p0.length) (m := cp) slb rfl (bnd_i (kd := .i64) rfl) rfl rfl rfl (by omega) (by omega) (Nat.le_refl _) ?_
    refine p_fld fN3 rfl ?_
    refine t_load agg_b rfl (fun W h => FB.at_ h rfl) ?_
    refine cc is_hold (hold_any _ W6.drew gb gk 16 _ _ _ (p0.drop K) v0 _ Av (p0.length - K) (cp - K) v0.length cv Br hcut0 r3 A6.lt (halvesB_drop hh1) (by omega)) ?_
    rintro e W7 ⟨⟨u, rfl⟩, Br, S7, B7⟩
    refine ⟨_, rfl, F1.up S7, ?_⟩
    replace hB66 := hB66.belowB (B7 gk (by omega) (by omega) (by have := A6.lt gk (by simp); omega)) (by omega)
    replace A6 := At.mk (A6.below.trans (B7 _ (by omega) (by omega) (by have := A6.size; omega))) (fun b e => by have := A6.lt b e; have := S7.size; omega)
    replace hp := hp.up S7
    replace hv := hv.up S7
    clear F1 r1 r3 r4 hcut0
    have hcutp := hp.cutB (i := K) (j := n) (m := c) (by omega) (Nat.le_refl _) (by omega)
    rw [List.take_of_length_le (by rw [List.length_drop]; omega)] at hcutp
    refine p_slice (i := K) (j := n) (m := c) slb rfl (bnd_i (kd := .i64) rfl) rfl rfl rfl (by omega) (by omega) (Nat.le_refl _) ?_
    refine cc is_hold (hold_any _ _ gb gk 16 _ _ _ (p.drop K) val _ A2 (n - K) (c - K) m d Br hcutp hv A6.lt (halvesB_drop hh2) (by omega)) ?_
    rintro e W8 ⟨⟨u, rfl⟩, Br, S8, B8⟩
    refine ⟨_, rfl, ?_⟩
    replace hB66 := hB66.belowB (B8 gk (by omega) (by omega) (by have := A6.lt gk (by simp); omega)) (by omega)
    replace A6 := At.mk (A6.below.trans (B8 _ (by omega) (by omega) (by have := A6.size; omega))) (fun b e => by have := A6.lt b e; have := S8.size; omega)
    replace hp := (hp.up S8).up (Stp.drop.trans Stp.drop)
    obtain ⟨Aw, cw, hBb, hLb⟩ := Br.node (gs' := some g6 :: gs) (Stp.drop.trans Stp.drop) (by
      intro hm
      rcases List.mem_cons.1 hm with hm | hm
      · injection hm with hm; omega
      · have := hgs gk hm; omega)
    have A7 := (A6.drop.drop).drew
    have hcut2 := (hp.cutB (i := 0) (j := K) (m := c) (by omega) (by omega) (by omega)).up Stp.drew
    rw [List.drop_zero, Nat.sub_zero, Nat.sub_zero] at hcut2
    refine drZ 5 (fun W => Below W8.drew.heap.size W8.drew W) [(0, true), (1, true), (2, true), (3, true), (4, false)] (by kernel_rfl) (Below.refl _ _) ?_
    refine p_slice (i := 0) (j := K) (m := c) slb rfl rfl (bnd_i (kd := .i64) rfl) rfl rfl (by omega) (by omega) (Nat.le_refl _) ?_
    refine t_loadN (ncs _ none 0 Aw cw (some ⟨gk, 0, none⟩) 16 none 0) agg_nd rfl rfl (fun W h => (hBb.drew.below h).run 0 _ (fun j v h => by rw [Nat.zero_add]; exact h)) ?_
    refine cc is_along (along_any (p.take K) _ _ W8.drew _ K c _ hcut2 (hLb.up Stp.drew) A7.lt (by omega)) ?_
    rintro e W9 ⟨cs9, rfl, h9, b9⟩
    refine ⟨_, rfl, b9, ?_⟩
    have hl9 := h9.len
    rw [dN_len] at hl9
    refine v_storeA cs9 sz_nd rfl rfl hl9 (h9.ones (dN_one _)) (hB66.drew.below b9) rfl ?_
    rintro W10 hB10 hg10 hs10
    refine c_loadN cs9 agg_nd rfl hl9 (hB10.run 0 _ (fun j v h => by rw [Nat.zero_add]; exact h)) ?_
    have St : Stp W9 (some g6 :: gs) W10 (some g6 :: gs) := Stp.wrote hg10 (by simp)
    refine ⟨_, rfl, ?_, ((A7.call b9).wrote hg10 (fun b e => by injection e with e; omega)).below⟩
    subst hK
    exact (h9.up St).up Stp.drop
  · refine p_eq rfl rfl (fun h => absurd (show (2 : Int) = 1 from h) (by decide)) (fun _ => ?_)
    simp only [Nd.path, Nd.val, Nd.hash, Nd.kids] at r1 r3 r4 hsz hKl hh1 hK hcp
    have hlt' : K < p0.length := by rw [← hK]; exact hlt
    have sd : Stp W6 (some gb :: some gk :: some g6 :: gs) W6.drew (some gb :: some gk :: some g6 :: gs) := Stp.drew
    replace A6 := A6.drew
    replace F1 := F1.up sd
    replace hB66 := hB66.drew
    obtain ⟨Av', cv', xs, rest, hBb, hVb, hKb, hXb, h16, hne, hgb, hgk, hck⟩ := Br.drew
    replace r1 := r1.up sd
    replace r4 := r4.up sd
    replace hp := hp.up sd
    replace hv := hv.up sd
    have hcut0 := r1.cutB (i := K + 1) (j := p0.length) (m := cp) (by omega) (Nat.le_refl _) (by omega)
    rw [List.take_of_length_le (by rw [List.length_drop]; omega)] at hcut0
    obtain ⟨_, _, hpr⟩ := r1.rd Fd.lt
    obtain ⟨bq, oq, eAq, hcx⟩ := hpr.at_ (k := K) (by omega)
    subst eAq
    have hcx' : W6.drew.cell? (Addr.add ⟨bq, oq, none⟩ (K * 1)) = some (.int .u8 (at8 p0 K)) := by rw [Addr.add_lit, Nat.mul_one]; exact hcx
    have hx16 : (p0.getD K 0).toNat < 16 := by
      have e : p0.drop K = p0.getD K 0 :: p0.drop (K + 1) := by rw [List.drop_eq_getElem_cons hlt', List.getD_eq_getElem?_getD, List.getElem?_eq_getElem hlt', Option.getD_some]
      have h0 := halvesB_drop (n := K) hh1
      rw [e] at h0
      exact halves_hd h0
    obtain ⟨b0, off, es, rfl, hF, hes, hel, hc⟩ := r4.kid (i := 0) (k := k0) rfl
    refine drZ 18 (fun W => Below W6.drew.heap.size W6.drew W) [(0, true), (1, true), (2, true), (3, true), (4, true), (5, true), (6, true), (7, true), (8, true), (9, true), (10, true), (11, true), (12, true), (13, true), (14, true), (15, true), (16, false), (17, true)] (by kernel_rfl) (Below.refl _ _) ?_
    refine p_fld fN4 rfl ?_
    refine t_load agg_ns rfl (fun W h => (hBb.below h).at_ rfl) ?_
    refine p_fld fN1 rfl ?_
    refine t_load agg_b rfl (fun W h => (F1.blk.below h).at_ rfl) ?_
    refine p_at (i := K) slb rfl rfl rfl (by show K < p0.length; omega) ?_
    refine t_load agg_by' rfl (fun W h => cellB h hcx') ?_
    refine p_fld fN1 rfl ?_
    refine t_load agg_b rfl (fun W h => (F1.blk.below h).at_ rfl) ?_
    refine p_add rfl rfl (r := ((K + 1 : Nat) : Int)) ((w64 (by omega)).trans (by omega)) ?_
    refine p_slice (i := K + 1) (j := p0.length) (m := cp) slb rfl (bnd_i (kd := .i64) rfl) rfl rfl rfl (by omega) (by omega) (Nat.le_refl _) ?_
    refine p_fld fN4 rfl ?_
    refine t_load agg_ns rfl (fun W h => (F1.blk.below h).at_ rfl) ?_
    refine p_at (i := 0) sln rfl rfl rfl (by show 0 < 1; decide) ?_
    refine t_loadN es agg_nd rfl hel (fun W h j x hx => cellB h (hc j x hx)) ?_
    refine cc is_along (along_any (p0.drop (K + 1)) k0 _ W6.drew _ _ _ es hcut0 hes A6.lt (by omega)) ?_
    rintro e W7 ⟨cs7, rfl, h7, b7⟩
    refine ⟨_, rfl, b7, ?_⟩
    have hl7 := h7.len
    rw [dN_len] at hl7
    have hxl := hXb.len
    rw [dNs_len, h16] at hxl
    refine p_atL (i := (p0.getD K 0).toNat) (q := (p0.getD K 0).toNat * 6) sln rfl rfl rfl (by omega) (by omega) ?_
    refine v_storeP (n := 6) (i := (p0.getD K 0).toNat * 6) cs7 sz_nd rfl rfl hl7 (h7.ones (dN_one _)) (hKb.below b7) (by rw [List.length_append, hxl]; omega) ?_
    rintro W7b hK2 hg2 hs2
    have St2 : Stp W7 (some gb :: some gk :: some g6 :: gs) W7b (some gb :: some gk :: some g6 :: gs) := Stp.wrote hg2 hgk
    have St1 : Stp W6.drew (some gb :: some gk :: some g6 :: gs) W7 (some gb :: some gk :: some g6 :: gs) := Stp.below b7
    replace Br : BrS W7b (some gb :: some gk :: some g6 :: gs) gb gk 16 false [] ((noneNs 16).set (p0.getD K 0).toNat (alongN (p0.drop (K + 1)) k0)) := by
      refine ⟨Av', cv', xs.take ((p0.getD K 0).toNat * 6) ++ cs7 ++ xs.drop ((p0.getD K 0).toNat * 6 + 6), rest, (hBb.below b7).grownN hg2 (fun e => hne e.symm), (hVb.up St1).up St2, ?_, ?_, by rw [List.length_set]; exact h16, hne, hgb, hgk, hck⟩
      · have e1 : (xs ++ rest).take ((p0.getD K 0).toNat * 6) = xs.take ((p0.getD K 0).toNat * 6) := List.take_append_of_le_length (by omega)
        have e2 : (xs ++ rest).drop ((p0.getD K 0).toNat * 6 + 6) = xs.drop ((p0.getD K 0).toNat * 6 + 6) ++ rest := List.drop_append_of_le_length (by omega)
        rw [e1, e2] at hK2
        simpa only [List.append_assoc] using hK2
      · have hX2 := (hXb.up St1).up St2
        rw [dNs_set _ (by omega)]
        exact ((hX2.take _).app (h7.up St2)).app (hX2.drop _)
    replace A6 := (A6.call b7).wrote hg2 (fun b e => by injection e with e; omega)
    replace hB66 := (hB66.below b7).grownN hg2 (by omega)
    replace hp := (hp.up St1).up St2
    replace hv := (hv.up St1).up St2
    clear F1 r1 r3 r4 hcut0 hBb hKb hcx hcx' hc hK2
    have hcutp := hp.cutB (i := K) (j := n) (m := c) (by omega) (Nat.le_refl _) (by omega)
    rw [List.take_of_length_le (by rw [List.length_drop]; omega)] at hcutp
    refine p_slice (i := K) (j := n) (m := c) slb rfl (bnd_i (kd := .i64) rfl) rfl rfl rfl (by omega) (by omega) (Nat.le_refl _) ?_
    refine cc is_hold (hold_any _ _ gb gk 16 _ _ _ (p.drop K) val _ A2 (n - K) (c - K) m d Br hcutp hv A6.lt (halvesB_drop hh2) (by omega)) ?_
    rintro e W8 ⟨⟨u, rfl⟩, Br, S8, B8⟩
    refine ⟨_, rfl, ?_⟩
    replace hB66 := hB66.belowB (B8 gk (by omega) (by omega) (by have := A6.lt gk (by simp); omega)) (by omega)
    replace A6 := At.mk (A6.below.trans (B8 _ (by omega) (by omega) (by have := A6.size; omega))) (fun b e => by have := A6.lt b e; have := S8.size; omega)
    replace hp := (hp.up S8).up (Stp.drop.trans Stp.drop)
    obtain ⟨Aw, cw, hBb, hLb⟩ := Br.node (gs' := some g6 :: gs) (Stp.drop.trans Stp.drop) (by
      intro hm
      rcases List.mem_cons.1 hm with hm | hm
      · injection hm with hm; omega
      · have := hgs gk hm; omega)
    have A7 := (A6.drop.drop).drew
    have hcut2 := (hp.cutB (i := 0) (j := K) (m := c) (by omega) (by omega) (by omega)).up Stp.drew
    rw [List.drop_zero, Nat.sub_zero, Nat.sub_zero] at hcut2
    refine drZ 5 (fun W => Below W8.drew.heap.size W8.drew W) [(0, true), (1, true), (2, true), (3, true), (4, false)] (by kernel_rfl) (Below.refl _ _) ?_
    refine p_slice (i := 0) (j := K) (m := c) slb rfl rfl (bnd_i (kd := .i64) rfl) rfl rfl (by omega) (by omega) (Nat.le_refl _) ?_
    refine t_loadN (ncs _ none 0 Aw cw (some ⟨gk, 0, none⟩) 16 none 0) agg_nd rfl rfl (fun W h => (hBb.drew.below h).run 0 _ (fun j v h => by rw [Nat.zero_add]; exact h)) ?_
    refine cc is_along (along_any (p.take K) _ _ W8.drew _ K c _ hcut2 (hLb.up Stp.drew) A7.lt (by omega)) ?_
    rintro e W9 ⟨cs9, rfl, h9, b9⟩
    refine ⟨_, rfl, b9, ?_⟩
    have hl9 := h9.len
    rw [dN_len] at hl9
    refine v_storeA cs9 sz_nd rfl rfl hl9 (h9.ones (dN_one _)) (hB66.drew.below b9) rfl ?_
    rintro W10 hB10 hg10 hs10
    refine c_loadN cs9 agg_nd rfl hl9 (hB10.run 0 _ (fun j v h => by rw [Nat.zero_add]; exact h)) ?_
    have St : Stp W9 (some g6 :: gs) W10 (some g6 :: gs) := Stp.wrote hg10 (by simp)
    refine ⟨_, rfl, ?_, ((A7.call b9).wrote hg10 (fun b e => by injection e with e; omega)).below⟩
    subst hK
    exact (h9.up St).up Stp.drop
end Go.Proofs.YtdlljmmgkoeilaaDoor
