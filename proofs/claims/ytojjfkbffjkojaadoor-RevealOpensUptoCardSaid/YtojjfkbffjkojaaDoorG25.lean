/- Reference 10: Shut, put, Open. Reference 10: on, Only. -/
import Derived.Test.YtojjfkbffjkojaaDoorG24
import Derived.Test.YtojjfkbffjkojaaDoorG14
namespace Go.Proofs.YtojjfkbffjkojaaDoor
open Go.RowKit
theorem is_xput : isFn Tryd.prog 64 = true := by kernel_rfl
theorem is_tOpen : isFn Tryd.prog 27 = true := by kernel_rfl
theorem dNs_drop : ∀ (ks : List Nd) (i : Nat), (dNs ks).drop (i * 6) = dNs (ks.drop i)
  | ks, 0 => by rw [Nat.zero_mul, List.drop_zero, List.drop_zero]
  | [], i + 1 => by rw [dNs]; simp [dNs]
  | k :: ks, i + 1 => by
    rw [dNs, List.drop_succ_cons, ← dNs_drop ks i, show (i + 1) * 6 = (dN k).length + i * 6 by rw [dN_len]; omega, List.drop_length_add_append]
theorem dNs_take : ∀ (ks : List Nd) (i : Nat), (dNs ks).take (i * 6) = dNs (ks.take i)
  | ks, 0 => by rw [Nat.zero_mul, List.take_zero, List.take_zero, dNs]
  | [], i + 1 => by rw [dNs]; simp [dNs]
  | k :: ks, i + 1 => by
    rw [dNs, List.take_succ_cons, dNs, ← dNs_take ks i, show (i + 1) * 6 = (dN k).length + i * 6 by rw [dN_len]; omega, List.take_length_add_append]
theorem RdD.cutK {W : World} {F : Nat → Prop} {ks : List Nd} {A : Option Addr} {n c i j m : Nat} (h : RdD W F (dKs ks) (.slice A n c)) (hij : i ≤ j) (hj : j ≤ n) (hm : j ≤ m) : RdD W F (dKs ((ks.drop i).take (j - i))) (.slice (slA A m i 6) (j - i) (m - i)) := by
  have hn := h.slen
  have h2 := RdD.cut h hij hj hm
  rw [dNs_drop, dNs_take] at h2
  have e : ((ks.drop i).take (j - i)).length = j - i := by rw [List.length_take, List.length_drop]; omega
  unfold dKs
  rw [e]
  exact h2
set_option maxRecDepth 100000 in
set_option maxHeartbeats 4000000 in
theorem tshut_any (t : Nd) (ht : sz t ≤ 1000000) (gs : List (Option Nat)) (w : World) (cs : List Value) (hr : RdL w (Fd w gs) (dN t) cs) (hgs : ∀ b, some b ∈ gs → b < w.heap.size) :
    Calls Tryd.prog 65 #[.agg cs.toArray] w fun e w' => ∃ cs', e = .returned (.agg cs'.toArray) ∧ RdL w' (Fd w' gs) (dN (shutK t)) cs' ∧ Below w.heap.size w w' := by
  refine calls_ev (args := [.agg cs.toArray]) mixed Tryd.func65 rfl (by kernel_rfl) ?_
  obtain ⟨Ap, cp, Av, cv, Ak, ck, Ah, ch, rfl, r1, r3, r4, r5⟩ := id hr.node
  have hsz := sz_eq t
  have hsl := szs_len t.kids
  have M := ((((St.start hgs).addD r5).addD r3).addD r1).addD r4
  clear hr r1 r3 r4 r5
  refine s_box (ncs t Ap cp Av cv Ak ck Ah ch) M rfl ?_
  clear M
  rintro g1 W M
  refine s_alloc (zN) M al_nd ?_
  clear M
  rintro g2 W M
  replace M := (M.nilR 26 6).addT (fr := false) (ds := dNs []) (cs := []) RdL.nil_
  have e0 : t.kids.take 0 = [] := List.take_zero
  refine lp (Nat × Option Addr × Nat × List Value) (fun s W => s.1 ≤ t.kids.length ∧ St w gs W [(g2, 26, zN), (g1, 26, ncs t Ap cp Av cv Ak ck Ah ch)] [⟨26, 6, s.2.1, s.1, s.2.2.1, s.2.2.2⟩] [.dat false (dNs ((t.kids.take s.1).map foldN)) s.2.2.2, .dat false [dKs t.kids] [.slice Ak t.kids.length ck], .dat false [dB t.path] [.slice Ap t.path.length cp], .dat false [dB t.val] [.slice Av t.val.length cv], .dat false [dB t.hash] [.slice Ah t.hash.length ch]])
    (fun s => [(1, .pointer (some ⟨g1, 0, none⟩)), (2, .pointer (some ⟨g2, 0, none⟩)), (3, .slice s.2.1 s.1 s.2.2.1), (4, .int .i64 (s.1 : Nat))]) (fun s => t.kids.length - s.1) (0, none, 0, []) ⟨Nat.zero_le _, by dsimp only; rw [e0]; exact M.fsub _ (by simp)⟩ (by repeat (first | exact trivial | refine ⟨rfl, ?_⟩)) ?_
  clear M
  rintro ⟨i, A5, c5, xs⟩ E W ⟨hi, M⟩
  dsimp only at hi M
  refine p_fld fN4 rfl ?_
  refine v_load agg_ns rfl ((M.B 1 rfl).at_ rfl) ?_
  refine p_len sln rfl ?_
  refine p_lt rfl rfl (fun hlt => ?_) (fun hge => ?_)
  · have hlt : i < t.kids.length := by have h : (i : Int) < (t.kids.length : Int) := hlt; omega
    obtain ⟨k, hk⟩ : ∃ k, t.kids[i]? = some k := ⟨_, List.getElem?_eq_getElem hlt⟩
    have hkz := szs_mem (List.mem_of_getElem? hk)
    have hst : (t.kids.take (i + 1)).map foldN = (t.kids.take i).map foldN ++ [foldN k] := by rw [List.take_add_one, hk, List.map_append]; rfl
    obtain ⟨b1, o1, es, e1, hel, M'⟩ := M.kid (M.d1 1 rfl) hk
    replace M := M'; clear M'
    refine p_fld fN4 rfl ?_
    refine v_load agg_ns rfl ((M.B 1 rfl).at_ rfl) ?_
    refine p_at (i := i) sln (by show (Value.slice Ak t.kids.length ck) = _; rw [e1]) rfl rfl hlt ?_
    refine v_loadN es agg_nd rfl hel (M.lc 0 rfl) ?_
    refine cc is_r7fold (rfold_any k (by omega) _ _ _ (M.da 1 rfl) M.olt) ?_
    rintro e W ⟨csf, rfl, rf, hb⟩
    obtain ⟨Bp, dp, Bv, dv, Bk, dk, Bh, dh, rfl, -⟩ := rf.node
    replace M := M.callF hb rf
    clear rf hb
    refine ⟨_, rfl, ?_⟩
    refine s_bsliceB (ncs (foldN k) Bp dp Bv dv Bk dk Bh dh) M sln z_nd rfl (by decide) rfl ?_
    clear M; rintro g9 W M
    refine s_app M Tryd.underlying24 inf_nd rfl (by decide) rfl rfl (Reads.blk (M.B 0 rfl) rfl) (all1 rfl) ⟨by omega, by decide⟩ ?_
    clear M; rintro A6 c6 W M -
    have hX := (M.dw 3 rfl).app (M.dw 0 rfl)
    have hdk : dNs ((t.kids.take i).map foldN) ++ dN (foldN k) = dNs ((t.kids.take (i + 1)).map foldN) := by rw [hst, dNs_app, dNs, dNs, List.append_nil]
    rw [hdk] at hX
    refine p_addN (b := 1) rfl rfl (by dsimp only; omega) ?_
    exact ⟨(i + 1, A6, c6, xs ++ ncs (foldN k) Bp dp Bv dv Bk dk Bh dh), ⟨by dsimp only; omega, (M.addT hX).dropL.fsub _ (by simp)⟩, (by repeat (first | exact trivial | refine ⟨rfl, ?_⟩)), by dsimp only; omega⟩
  · have hge : i = t.kids.length := by have h : ¬ (i : Int) < (t.kids.length : Int) := hge; omega
    subst hge
    rw [List.take_length] at M
    obtain ⟨ks, hks⟩ : ∃ ks, ks = t.kids.map foldN := ⟨_, rfl⟩
    have hkl : ks.length = t.kids.length := by rw [hks, List.length_map]
    unfold shutK
    rw [← hks] at M ⊢
    replace M := M.frzR (fr := false) (M.dt 0 rfl)
    dsimp only at M
    refine p_fld fN4 rfl ?_
    refine s_set 1 (off := 4) (.slice A5 t.kids.length c5) (ncs t Ap cp Av cv A5 c5 Ah ch) M rfl sz_nsR rfl rfl rfl (Nat.le_of_ble_eq_true rfl) rfl ?_
    clear M; rintro W M
    dsimp only [setL] at M
    refine v_loadN (ncs t Ap cp Av cv A5 c5 Ah ch) agg_nd rfl rfl (M.run 1 rfl) ?_
    refine s_storeA 0 (ncs t Ap cp Av cv A5 c5 Ah ch) M rfl sz_nd rfl rfl rfl (all1 rfl) rfl ?_
    clear M; rintro W M
    dsimp only [setL] at M
    refine c_loadN (ncs t Ap cp Av cv A5 c5 Ah ch) agg_nd rfl rfl (M.run 0 rfl) ?_
    have hkd : RdD W (Fd W gs) (dKs ks) (.slice A5 ks.length c5) := by
      have h := M.fin1 0 rfl
      unfold dKs
      rw [hkl]; exact h
    have hn := RdL.ofnode (t := .mk t.kind t.path t.has t.val ks t.hash) (M.fin1 3 rfl) (M.fin1 4 rfl) hkd (M.fin1 5 rfl)
    refine ⟨_, rfl, ?_, M.below⟩
    unfold ncs at hn ⊢
    rw [show (Nd.mk t.kind t.path t.has t.val ks t.hash).kids.length = t.kids.length from hkl] at hn
    exact hn
def TPutOk (t : Nd) : Prop := ∀ (l : List UInt8) (x : Nd) (gs : List (Option Nat)) (w : World) (cs xs : List Value) (A : Option Addr) (n c : Nat), (atP t l).isSome = true → RdL w (Fd w gs) (dN t) cs → RdD w (Fd w gs) (dB l) (.slice A n c) → RdL w (Fd w gs) (dN x) xs → (∀ b, some b ∈ gs → b < w.heap.size) → n ≤ 100000000 →
  Calls Tryd.prog 64 #[.agg cs.toArray, .slice A n c, .agg xs.toArray] w fun e w' => ∃ cs', e = .returned (.agg cs'.toArray) ∧ RdL w' (Fd w' gs) (dN (laidP t l x)) cs' ∧ Below w.heap.size w w'
set_option maxRecDepth 100000 in
set_option maxHeartbeats 4000000 in
theorem xput_step (N : Nat) (ih : ∀ k : Nd, sz k < N → TPutOk k) (t : Nd) (ht : sz t ≤ N) (hN : N ≤ 1000000) : TPutOk t := by
  intro l x gs w cs xcs A n c hat hr hw hx hgs hn
  refine calls_ev (args := [.agg cs.toArray, .slice A n c, .agg xcs.toArray]) mixed Tryd.func64 rfl (by kernel_rfl) ?_
  obtain ⟨Ap, cp, Av, cv, Ak, ck, Ah, ch, rfl, r1, r3, r4, r5⟩ := id hr.node
  have hcx := hx.len
  rw [dN_len] at hcx
  have hsz := sz_eq t
  have hsl := szs_len t.kids
  have en := hw.slen
  have hcap := hw.scap
  have hkc := r4.scap
  have M := ((((((St.start hgs).addL hx).addD hw).addD r5).addD r3).addD r1).addD r4
  clear hr hw hx r1 r3 r4 r5
  refine s_box (ncs t Ap cp Av cv Ak ck Ah ch) M rfl ?_
  clear M
  rintro g3 W M
  refine s_box (xcs) M rfl ?_
  clear M
  rintro g5 W M
  refine s_alloc (zN) M al_nd ?_
  clear M
  rintro g6 W M
  refine p_len slb rfl ?_
  refine p_eq rfl rfl (fun h0 => ?_) (fun h0 => ?_)
  · have h0 : l = [] := List.eq_nil_of_length_eq_zero (by have h : ((n : Nat) : Int) = 0 := h0; omega)
    subst h0
    rw [laidP_nil]
    refine v_loadN xcs agg_nd rfl hcx (M.run 1 rfl) ?_
    refine s_storeA 0 xcs M rfl sz_nd rfl rfl hcx ((M.da 5 rfl).ones (dN_one _)) rfl ?_
    clear M; rintro W M
    dsimp only [setL] at M
    refine c_loadN xcs agg_nd rfl hcx (M.run 0 rfl) ?_
    exact ⟨xcs, rfl, M.fin 5 rfl, M.below⟩
  have hn0 : 0 < n := by
    rcases Nat.eq_zero_or_pos n with h | h
    · exact absurd (show ((n : Nat) : Int) = 0 by omega) h0
    · exact h
  have hl0 : l ≠ [] := fun e => by rw [e] at en; exact absurd en (by simp; omega)
  clear h0
  refine p_fld fN1 rfl ?_
  refine v_load agg_b rfl ((M.B 2 rfl).at_ rfl) ?_
  refine p_len slb rfl ?_
  refine p_fld fN0 rfl ?_
  refine v_load agg_int rfl ((M.B 2 rfl).at_ rfl) ?_
  refine p_eq rfl rfl (fun h3 => ?_) (fun h3 => ?_)
  · have h3 : t.kind = 3 := h3
    obtain ⟨h5, h4⟩ : (l.getD 0 0).toNat < t.kids.length ∧ (atP (t.kids.getD (l.getD 0 0).toNat noneN) (l.drop 1)).isSome = true := by
      rcases at_some hat hl0 with ⟨h, -⟩ | ⟨-, h5, -, h4⟩
      · omega
      · exact ⟨h5, h4⟩
    rw [laidP_br x hl0 h3 h5 h4]
    obtain ⟨q, hq⟩ : ∃ q, q = (l.getD 0 0).toNat := ⟨_, rfl⟩
    have e8 : at8 l 0 = (q : Int) := by rw [hq]; rfl
    rw [← hq] at h5 h4 ⊢
    obtain ⟨b0, o0, hA0, hcell⟩ := (M.rdb 4 rfl).2.2.at_ (k := 0) hn0
    subst hA0
    rw [e8] at hcell
    refine p_at (i := 0) slb rfl rfl rfl hn0 ?_
    refine v_load agg_by' rfl (by rw [Addr.add_lit, Nat.zero_mul]; exact hcell) ?_
    refine v_cvt u_u8r u_intr rfl (r := ((q : Nat) : Int)) (w64 (by omega)) ?_
    clear hcell
    have hI : q < t.kids.length := h5
    have hD : 1 ≤ n := hn0
    have hb1 : 0 + q + 1 ≤ 1000000000 := by omega
    obtain ⟨kd, hkd⟩ : ∃ kd, t.kids[q]? = some kd := ⟨_, List.getElem?_eq_getElem hI⟩
    have hgd : t.kids.getD q noneN = kd := by rw [List.getD_eq_getElem?_getD, hkd]; rfl
    have hkz := szs_mem (List.mem_of_getElem? hkd)
    rw [hgd] at h4 ⊢
    have hset : t.kids.set q (laidP kd (l.drop 1) x) = t.kids.take q ++ [laidP kd (l.drop 1) x] ++ t.kids.drop (q + 1) := by
      rw [List.set_eq_take_append_cons_drop, if_pos hI, List.append_assoc]; rfl
    rw [hset]
    replace M := (M.nilR 26 6).addT (fr := false) (ds := dNs []) (cs := []) RdL.nil_
    -- those ahead
    refine p_fld fN4 rfl ?_
    refine v_load agg_ns rfl ((M.B 2 rfl).at_ rfl) ?_
    have hc1 := (M.d1 1 rfl).cutK (i := 0) (j := q) (m := ck) (Nat.zero_le _) (Nat.le_of_lt hI) (by omega)
    rw [List.drop_zero, Nat.sub_zero, Nat.sub_zero] at hc1
    obtain ⟨ys, hrd, hys⟩ := hc1.reads Fd.lt
    replace M := M.addL hys
    refine p_slice (i := 0) (j := q) (m := ck) sln rfl rfl (bnd_i rfl) rfl rfl (Nat.zero_le _) (by omega) (Nat.le_refl _) ?_
    rw [Nat.sub_zero, Nat.sub_zero]
    refine s_app M Tryd.underlying24 inf_nd rfl (by decide) rfl rfl hrd (hys.ones (dNs_one _)) ⟨by omega, by decide⟩ ?_
    clear M hc1 hrd hys; rintro A7 c7 W M -
    rw [List.nil_append] at M
    -- the one
    obtain ⟨b1, o1, es, e1, hel, M'⟩ := M.kid (M.d1 2 rfl) hkd
    replace M := M'; clear M'
    have hcut := (M.d1 8 rfl).cutB (i := 1) (j := n) (m := c) hD (Nat.le_refl _) hcap
    rw [List.take_of_length_le (by rw [List.length_drop]; omega)] at hcut
    replace M := (M.addD hcut).drew
    clear hcut
    refine drT (Kp w gs [(g5, 26, xcs), (g3, 26, ncs t Ap cp Av cv Ak ck Ah ch)] [.loc ((⟨b1, o1, none⟩ : Addr).add (q * 6)) es]) (.take 0 (.take 1 (.take 2 (.take 3 (.take 4 (.take 5 (.take 6 (.take 7 (.take 8 (.take 9 (.one 10 (.one 11 (.one 12 (.take 13 (.nil))))))))))))))) (by kernel_rfl) (M.kp (by simp) (by simp)) ?_
    refine p_fld fN4 rfl ?_
    refine t_load agg_ns rfl (fun W K => (K.B 1 rfl).at_ rfl) ?_
    refine p_at (i := q) sln (by show (Value.slice Ak t.kids.length ck) = _; rw [e1]) rfl rfl hI ?_
    refine t_loadN es agg_nd rfl hel (fun W K => K.lc 0 rfl) ?_
    refine p_slice (i := 1) (j := n) (m := c) slb rfl (bnd_i rfl) rfl rfl rfl hD hcap (Nat.le_refl _) ?_
    refine t_loadN xcs agg_nd rfl hcx (fun W K => K.run 0 rfl) ?_
    refine cc is_xput (ih kd (by omega) _ x _ _ es xcs _ _ _ h4 (M.da 2 rfl) (M.d1 0 rfl) (M.da 10 rfl) M.olt (by omega)) ?_
    rintro e W ⟨cs9, rfl, r9, hb⟩
    obtain ⟨Bp, dp, Bv, dv, Bk, dk, Bh, dh, rfl, -⟩ := r9.node
    replace M := (M.call hb).addL r9
    clear r9 hb
    refine ⟨_, rfl, (M.kp (by simp) (by simp)), ?_⟩
    obtain ⟨lp, hlp⟩ : ∃ lp, lp = laidP kd (l.drop 1) x := ⟨_, rfl⟩
    rw [← hlp] at M ⊢
    refine s_bsliceB (ncs lp Bp dp Bv dv Bk dk Bh dh) M sln z_nd rfl (by decide) rfl ?_
    clear M; rintro g9 W M
    refine ⟨(M.kp (by simp) (by simp)), ?_⟩
    refine s_app M Tryd.underlying24 inf_nd rfl (by decide) rfl rfl (Reads.blk (M.B 0 rfl) rfl) (all1 rfl) ⟨hb1, by decide⟩ ?_
    clear M; rintro A10 c10 W M -
    refine ⟨(M.kp (by simp) (by simp)), ?_⟩
    -- those behind
    refine p_fld fN4 rfl ?_
    refine v_load agg_ns rfl ((M.B 3 rfl).at_ rfl) ?_
    refine p_addN (a := q) (b := 1) rfl rfl (by omega) ?_
    have hc2 := (M.d1 6 rfl).cutK (i := q + 1) (j := t.kids.length) (m := ck) hI (Nat.le_refl _) hkc
    rw [List.take_of_length_le (by rw [List.length_drop]; omega)] at hc2
    obtain ⟨zs, hrd, hzs⟩ := hc2.reads Fd.lt
    replace M := M.addL hzs
    refine p_slice (i := q + 1) (j := t.kids.length) (m := ck) sln rfl (bnd_i rfl) rfl rfl rfl hI hkc (Nat.le_refl _) ?_
    refine s_app M Tryd.underlying24 inf_nd rfl (by decide) rfl rfl hrd (hzs.ones (dNs_one _)) ⟨by omega, by decide⟩ ?_
    clear M hc2 hrd hzs; rintro A11 c11 W M -
    have hX := ((M.dw 5 rfl).app (M.dw 1 rfl)).app (M.dw 0 rfl)
    have hdd : dNs (t.kids.take q) ++ dN lp ++ dNs (t.kids.drop (q + 1)) = dNs (t.kids.take q ++ [lp] ++ t.kids.drop (q + 1)) := by
      rw [dNs_app, dNs_app, dNs, dNs, List.append_nil]
    rw [hdd] at hX
    obtain ⟨ks', hks'⟩ : ∃ ks', ks' = t.kids.take q ++ [lp] ++ t.kids.drop (q + 1) := ⟨_, rfl⟩
    have hkl' : ks'.length = t.kids.length := by rw [hks', List.length_append, List.length_append, List.length_take, List.length_drop]; simp only [List.length_cons, List.length_nil]; omega
    rw [← hks'] at hX ⊢
    have hln : 0 + q + 1 + (t.kids.length - (q + 1)) = t.kids.length := by omega
    rw [hln] at M ⊢
    replace M := M.addT hX
    clear hX
    replace M := M.frzR (fr := false) (M.dt 0 rfl)
    dsimp only at M
    refine p_fld fN4 rfl ?_
    refine s_set 3 (off := 4) (.slice A11 t.kids.length c11) (ncs t Ap cp Av cv A11 c11 Ah ch) M rfl sz_nsR rfl rfl rfl (Nat.le_of_ble_eq_true rfl) rfl ?_
    clear M; rintro W M
    dsimp only [setL] at M
    refine v_loadN (ncs t Ap cp Av cv A11 c11 Ah ch) agg_nd rfl rfl (M.run 3 rfl) ?_
    refine s_storeA 1 (ncs t Ap cp Av cv A11 c11 Ah ch) M rfl sz_nd rfl rfl rfl (all1 rfl) rfl ?_
    clear M; rintro W M
    dsimp only [setL] at M
    refine c_loadN (ncs t Ap cp Av cv A11 c11 Ah ch) agg_nd rfl rfl (M.run 1 rfl) ?_
    have hkd2 : RdD W (Fd W gs) (dKs ks') (.slice A11 ks'.length c11) := by
      have h := M.fin1 0 rfl
      unfold dKs
      rw [hkl']; exact h
    have hnd := RdL.ofnode (t := .mk t.kind t.path t.has t.val ks' t.hash) (M.fin1 10 rfl) (M.fin1 11 rfl) hkd2 (M.fin1 12 rfl)
    refine ⟨_, rfl, ?_, M.below⟩
    unfold ncs at hnd ⊢
    rw [show (Nd.mk t.kind t.path t.has t.val ks' t.hash).kids.length = t.kids.length from hkl'] at hnd
    exact hnd
  · have h3 : ¬ t.kind = 3 := h3
    obtain ⟨h2, h6, h5, h4⟩ : t.kind = 2 ∧ t.kids.length = 1 ∧ t.path.length ≤ n ∧ (atP (t.kids.getD 0 noneN) (l.drop t.path.length)).isSome = true := by
      rcases at_some hat hl0 with ⟨h2, h5, h3', h4⟩ | ⟨h, -⟩
      · exact ⟨h2, h3', by rw [en]; exact h5.length_le, h4⟩
      · exact absurd h h3
    rw [laidP_way x hl0 h2 h6 h4]
    have hI : 0 < t.kids.length := by omega
    have hD := h5
    have hb1 : 0 + 0 + 1 ≤ 1000000000 := by decide
    obtain ⟨kd, hkd⟩ : ∃ kd, t.kids[0]? = some kd := ⟨_, List.getElem?_eq_getElem hI⟩
    have hgd : t.kids.getD 0 noneN = kd := by rw [List.getD_eq_getElem?_getD, hkd]; rfl
    have hkz := szs_mem (List.mem_of_getElem? hkd)
    rw [hgd] at h4 ⊢
    have hset : t.kids.set 0 (laidP kd (l.drop t.path.length) x) = t.kids.take 0 ++ [laidP kd (l.drop t.path.length) x] ++ t.kids.drop (0 + 1) := by
      rw [List.set_eq_take_append_cons_drop, if_pos hI, List.append_assoc]; rfl
    rw [hset]
    replace M := (M.nilR 26 6).addT (fr := false) (ds := dNs []) (cs := []) RdL.nil_
    -- those ahead
    refine p_fld fN4 rfl ?_
    refine v_load agg_ns rfl ((M.B 2 rfl).at_ rfl) ?_
    have hc1 := (M.d1 1 rfl).cutK (i := 0) (j := 0) (m := ck) (Nat.zero_le _) (Nat.le_of_lt hI) (by omega)
    rw [List.drop_zero, Nat.sub_zero, Nat.sub_zero] at hc1
    obtain ⟨ys, hrd, hys⟩ := hc1.reads Fd.lt
    replace M := M.addL hys
    refine p_slice (i := 0) (j := 0) (m := ck) sln rfl rfl (bnd_i rfl) rfl rfl (Nat.zero_le _) (by omega) (Nat.le_refl _) ?_
    rw [Nat.sub_zero, Nat.sub_zero]
    refine s_app M Tryd.underlying24 inf_nd rfl (by decide) rfl rfl hrd (hys.ones (dNs_one _)) ⟨by omega, by decide⟩ ?_
    clear M hc1 hrd hys; rintro A7 c7 W M -
    rw [List.nil_append] at M
    -- the one
    obtain ⟨b1, o1, es, e1, hel, M'⟩ := M.kid (M.d1 2 rfl) hkd
    replace M := M'; clear M'
    have hcut := (M.d1 8 rfl).cutB (i := t.path.length) (j := n) (m := c) hD (Nat.le_refl _) hcap
    rw [List.take_of_length_le (by rw [List.length_drop]; omega)] at hcut
    replace M := (M.addD hcut).drew
    clear hcut
    refine drT (Kp w gs [(g5, 26, xcs), (g3, 26, ncs t Ap cp Av cv Ak ck Ah ch)] [.loc ((⟨b1, o1, none⟩ : Addr).add (0 * 6)) es]) (.take 0 (.take 1 (.take 2 (.take 3 (.take 4 (.take 5 (.take 6 (.take 7 (.take 8 (.take 9 (.one 10 (.one 11 (.one 12 (.take 13 (.nil))))))))))))))) (by kernel_rfl) (M.kp (by simp) (by simp)) ?_
    refine p_fld fN4 rfl ?_
    refine t_load agg_ns rfl (fun W K => (K.B 1 rfl).at_ rfl) ?_
    refine p_at (i := 0) sln (by show (Value.slice Ak t.kids.length ck) = _; rw [e1]) rfl rfl hI ?_
    refine t_loadN es agg_nd rfl hel (fun W K => K.lc 0 rfl) ?_
    refine p_slice (i := t.path.length) (j := n) (m := c) slb rfl (bnd_i rfl) rfl rfl rfl hD hcap (Nat.le_refl _) ?_
    refine t_loadN xcs agg_nd rfl hcx (fun W K => K.run 0 rfl) ?_
    refine cc is_xput (ih kd (by omega) _ x _ _ es xcs _ _ _ h4 (M.da 2 rfl) (M.d1 0 rfl) (M.da 10 rfl) M.olt (by omega)) ?_
    rintro e W ⟨cs9, rfl, r9, hb⟩
    obtain ⟨Bp, dp, Bv, dv, Bk, dk, Bh, dh, rfl, -⟩ := r9.node
    replace M := (M.call hb).addL r9
    clear r9 hb
    refine ⟨_, rfl, (M.kp (by simp) (by simp)), ?_⟩
    obtain ⟨lp, hlp⟩ : ∃ lp, lp = laidP kd (l.drop t.path.length) x := ⟨_, rfl⟩
    rw [← hlp] at M ⊢
    refine s_bsliceB (ncs lp Bp dp Bv dv Bk dk Bh dh) M sln z_nd rfl (by decide) rfl ?_
    clear M; rintro g9 W M
    refine ⟨(M.kp (by simp) (by simp)), ?_⟩
    refine s_app M Tryd.underlying24 inf_nd rfl (by decide) rfl rfl (Reads.blk (M.B 0 rfl) rfl) (all1 rfl) ⟨hb1, by decide⟩ ?_
    clear M; rintro A10 c10 W M -
    refine ⟨(M.kp (by simp) (by simp)), ?_⟩
    -- those behind
    refine p_fld fN4 rfl ?_
    refine v_load agg_ns rfl ((M.B 3 rfl).at_ rfl) ?_
    refine p_addN (a := 0) (b := 1) rfl rfl (by omega) ?_
    have hc2 := (M.d1 6 rfl).cutK (i := 0 + 1) (j := t.kids.length) (m := ck) hI (Nat.le_refl _) hkc
    rw [List.take_of_length_le (by rw [List.length_drop]; omega)] at hc2
    obtain ⟨zs, hrd, hzs⟩ := hc2.reads Fd.lt
    replace M := M.addL hzs
    refine p_slice (i := 0 + 1) (j := t.kids.length) (m := ck) sln rfl (bnd_i rfl) rfl rfl rfl hI hkc (Nat.le_refl _) ?_
    refine s_app M Tryd.underlying24 inf_nd rfl (by decide) rfl rfl hrd (hzs.ones (dNs_one _)) ⟨by omega, by decide⟩ ?_
    clear M hc2 hrd hzs; rintro A11 c11 W M -
    have hX := ((M.dw 5 rfl).app (M.dw 1 rfl)).app (M.dw 0 rfl)
    have hdd : dNs (t.kids.take 0) ++ dN lp ++ dNs (t.kids.drop (0 + 1)) = dNs (t.kids.take 0 ++ [lp] ++ t.kids.drop (0 + 1)) := by
      rw [dNs_app, dNs_app, dNs, dNs, List.append_nil]
    rw [hdd] at hX
    obtain ⟨ks', hks'⟩ : ∃ ks', ks' = t.kids.take 0 ++ [lp] ++ t.kids.drop (0 + 1) := ⟨_, rfl⟩
    have hkl' : ks'.length = t.kids.length := by rw [hks', List.length_append, List.length_append, List.length_take, List.length_drop]; simp only [List.length_cons, List.length_nil]; omega
    rw [← hks'] at hX ⊢
    have hln : 0 + 0 + 1 + (t.kids.length - (0 + 1)) = t.kids.length := by omega
    rw [hln] at M ⊢
    replace M := M.addT hX
    clear hX
    replace M := M.frzR (fr := false) (M.dt 0 rfl)
    dsimp only at M
    refine p_fld fN4 rfl ?_
    refine s_set 3 (off := 4) (.slice A11 t.kids.length c11) (ncs t Ap cp Av cv A11 c11 Ah ch) M rfl sz_nsR rfl rfl rfl (Nat.le_of_ble_eq_true rfl) rfl ?_
    clear M; rintro W M
    dsimp only [setL] at M
    refine v_loadN (ncs t Ap cp Av cv A11 c11 Ah ch) agg_nd rfl rfl (M.run 3 rfl) ?_
    refine s_storeA 1 (ncs t Ap cp Av cv A11 c11 Ah ch) M rfl sz_nd rfl rfl rfl (all1 rfl) rfl ?_
    clear M; rintro W M
    dsimp only [setL] at M
    refine c_loadN (ncs t Ap cp Av cv A11 c11 Ah ch) agg_nd rfl rfl (M.run 1 rfl) ?_
    have hkd2 : RdD W (Fd W gs) (dKs ks') (.slice A11 ks'.length c11) := by
      have h := M.fin1 0 rfl
      unfold dKs
      rw [hkl']; exact h
    have hnd := RdL.ofnode (t := .mk t.kind t.path t.has t.val ks' t.hash) (M.fin1 10 rfl) (M.fin1 11 rfl) hkd2 (M.fin1 12 rfl)
    refine ⟨_, rfl, ?_, M.below⟩
    unfold ncs at hnd ⊢
    rw [show (Nd.mk t.kind t.path t.has t.val ks' t.hash).kids.length = t.kids.length from hkl'] at hnd
    exact hnd
theorem xput_any (t : Nd) (ht : sz t ≤ 999999) : TPutOk t := by
  have key : ∀ (N : Nat), N ≤ 1000000 → ∀ t : Nd, sz t < N → TPutOk t := by
    intro N
    induction N with
    | zero => intro _ t h; omega
    | succ N ih => intro hN t h; exact xput_step N (fun k hk => ih (by omega) k hk) t (by omega) (by omega)
  exact key 1000000 (Nat.le_refl _) t (by omega)
set_option maxRecDepth 100000 in
set_option maxHeartbeats 4000000 in
theorem tOpen_any (p f : Nd) (hp : sz p ≤ 999999) (hf : sz f ≤ 999999) (l : List UInt8) (gs : List (Option Nat)) (w : World) (cp cf : List Value) {A : Option Addr} {n c : Nat} (hrp : RdL w (Fd w gs) (dN p) cp) (hrf : RdL w (Fd w gs) (dN f) cf) (hw : RdD w (Fd w gs) (dB l) (.slice A n c)) (hgs : ∀ b, some b ∈ gs → b < w.heap.size) (hn : n ≤ 100000000) :
    Calls Tryd.prog 27 #[.agg cp.toArray, .agg cf.toArray, .slice A n c] w fun e w' => ∃ cs', e = .returned (.tuple #[.agg cs'.toArray, .int .i64 (OpenP p f l).2]) ∧ RdL w' (Fd w' gs) (dN (OpenP p f l).1) cs' ∧ Below w.heap.size w w' := by
  refine calls_ev (args := [.agg cp.toArray, .agg cf.toArray, .slice A n c]) mixed Tryd.func27 rfl (by kernel_rfl) ?_
  have hlp := hrp.len
  have hlf := hrf.len
  rw [dN_len] at hlp hlf
  have M := (((St.start hgs).addD hw).addL hrf).addL hrp
  clear hrp hrf hw
  refine s_box (cp) M rfl ?_
  clear M
  rintro g3 W M
  refine s_box (cf) M rfl ?_
  clear M
  rintro g4 W M
  refine s_alloc (zN) M al_nd ?_
  clear M
  rintro g6 W M
  unfold OpenP
  refine v_loadN cp agg_nd rfl hlp (M.run 2 rfl) ?_
  refine cc is_r7check (r7check_any p (by omega) _ _ _ (M.da 0 rfl) M.olt) ?_
  rintro e W ⟨rfl, hb⟩
  replace M := M.call hb
  clear hb
  refine ⟨_, rfl, ?_⟩
  refine v_loadN cf agg_nd rfl hlf (M.run 1 rfl) ?_
  refine cc is_r7check (r7check_any f (by omega) _ _ _ (M.da 1 rfl) M.olt) ?_
  rintro e W ⟨rfl, hb⟩
  replace M := M.call hb
  clear hb
  refine ⟨_, rfl, ?_⟩
  refine p_ne rfl rfl (fun h1 => ?_) (fun h1 => ?_)
  rotate_left
  · rw [if_neg (fun h => h1 h.1)]
    refine p_build (vs := zN) pl_nd z_nd rfl ?_
    refine s_storeA 0 zN M rfl sz_nd rfl rfl rfl (all1 rfl) rfl ?_
    clear M; rintro W M
    dsimp only [setL] at M
    refine c_loadN zN agg_nd rfl rfl (M.run 0 rfl) ?_
    exact ⟨zN, rfl, RdL.znone, M.below⟩
  have h1 : checkE p = 0 := h1
  refine p_ne rfl rfl (fun h2 => ?_) (fun h2 => ?_)
  rotate_left
  · rw [if_neg (fun h => h2 h.2.1)]
    refine p_build (vs := zN) pl_nd z_nd rfl ?_
    refine s_storeA 0 zN M rfl sz_nd rfl rfl rfl (all1 rfl) rfl ?_
    clear M; rintro W M
    dsimp only [setL] at M
    refine c_loadN zN agg_nd rfl rfl (M.run 0 rfl) ?_
    exact ⟨zN, rfl, RdL.znone, M.below⟩
  have h2 : checkE f = 0 := h2
  refine v_loadN cp agg_nd rfl hlp (M.run 2 rfl) ?_
  refine v_loadN cf agg_nd rfl hlf (M.run 1 rfl) ?_
  have ca := tAgr_any p f (by omega) (by omega) _ _ _ _ (M.da 0 rfl) (M.da 1 rfl) M.olt
  obtain ⟨q, hq⟩ : ∃ q, q = AgrP p f := ⟨_, rfl⟩
  rw [← hq] at ca ⊢
  refine cc is_tAgr ca ?_
  clear ca
  rintro e W ⟨rfl, hb⟩
  replace M := M.call hb
  clear hb
  refine ⟨_, rfl, ?_⟩
  refine p_not rfl ?_
  cases q with
  | false =>
    rw [if_neg (fun h => by cases h.2.2)]
    refine p_build (vs := zN) pl_nd z_nd rfl ?_
    refine s_storeA 0 zN M rfl sz_nd rfl rfl rfl (all1 rfl) rfl ?_
    clear M; rintro W M
    dsimp only [setL] at M
    refine c_loadN zN agg_nd rfl rfl (M.run 0 rfl) ?_
    exact ⟨zN, rfl, RdL.znone, M.below⟩
  | true =>
  rw [if_pos ⟨h1, h2, rfl⟩]
  refine v_loadN cp agg_nd rfl hlp (M.run 2 rfl) ?_
  have ca := tat_any p (by omega) l _ _ cp _ _ _ (M.da 0 rfl) (M.d1 2 rfl) M.olt hn
  have hz8 := at_sz (sz p + 1) p l
  obtain ⟨o8, ho8⟩ : ∃ o, o = atP p l := ⟨_, rfl⟩
  rw [← ho8] at ca hz8
  refine cc is_tat ca ?_
  clear ca
  rintro e W ⟨c8, rfl, r9, hb⟩
  have hl8 := r9.len
  rw [dN_len] at hl8
  replace M := (M.call hb).addL r9
  clear r9 hb
  refine ⟨_, rfl, ?_⟩
  refine s_alloc (zN) M al_nd ?_
  clear M
  rintro g8 W M
  refine s_storeA 0 c8 M rfl sz_nd rfl rfl hl8 ((M.da 0 rfl).ones (dN_one _)) rfl ?_
  clear M; rintro W M
  dsimp only [setL] at M
  refine v_loadN cf agg_nd rfl hlf (M.run 2 rfl) ?_
  have ca := tat_any f (by omega) l _ _ cf _ _ _ (M.da 2 rfl) (M.d1 3 rfl) M.olt hn
  have hz9 := at_sz (sz f + 1) f l
  obtain ⟨o9, ho9⟩ : ∃ o, o = atP f l := ⟨_, rfl⟩
  rw [← ho9] at ca hz9
  refine cc is_tat ca ?_
  clear ca
  rintro e W ⟨c9, rfl, r9, hb⟩
  have hl9 := r9.len
  rw [dN_len] at hl9
  replace M := (M.call hb).addL r9
  clear r9 hb
  refine ⟨_, rfl, ?_⟩
  refine s_alloc (zN) M al_nd ?_
  clear M
  rintro g9 W M
  refine s_storeA 0 c9 M rfl sz_nd rfl rfl hl9 ((M.da 0 rfl).ones (dN_one _)) rfl ?_
  clear M; rintro W M
  dsimp only [setL] at M
  unfold openP
  rw [← ho8, ← ho9]
  cases o8 with
  | none =>
    refine p_not rfl ?_
    refine p_build (vs := zN) pl_nd z_nd rfl ?_
    refine s_storeA 2 zN M rfl sz_nd rfl rfl rfl (all1 rfl) rfl ?_
    clear M; rintro W M
    dsimp only [setL] at M
    refine c_loadN zN agg_nd rfl rfl (M.run 2 rfl) ?_
    exact ⟨zN, rfl, RdL.znone, M.below⟩
  | some s =>
  refine p_not rfl ?_
  cases o9 with
  | none =>
    refine p_not rfl ?_
    refine p_build (vs := zN) pl_nd z_nd rfl ?_
    refine s_storeA 2 zN M rfl sz_nd rfl rfl rfl (all1 rfl) rfl ?_
    clear M; rintro W M
    dsimp only [setL] at M
    refine c_loadN zN agg_nd rfl rfl (M.run 2 rfl) ?_
    exact ⟨zN, rfl, RdL.znone, M.below⟩
  | some x =>
  refine p_not rfl ?_
  have hzs := hz8 s (Nat.lt_succ_self _) rfl
  have hzx := hz9 x (Nat.lt_succ_self _) rfl
  clear hz8 hz9
  obtain ⟨Ap, dp, Av, dv, Ak, dk, Ah, dh, rfl, -⟩ := (M.da 1 rfl).node
  obtain ⟨Bp, ep, Bv, ev, Bk, ek, Bh, eh, rfl, -⟩ := (M.da 0 rfl).node
  dsimp only
  refine p_fld fN0 rfl ?_
  refine v_load agg_int rfl ((M.B 1 rfl).at_ rfl) ?_
  refine p_ne rfl rfl (fun hs4 => ?_) (fun hs4 => ?_)
  rotate_left
  · have hs4 : ¬ s.kind = 4 := hs4
    rw [if_neg (fun h => hs4 h.1)]
    refine p_build (vs := zN) pl_nd z_nd rfl ?_
    refine s_storeA 2 zN M rfl sz_nd rfl rfl rfl (all1 rfl) rfl ?_
    clear M; rintro W M
    dsimp only [setL] at M
    refine c_loadN zN agg_nd rfl rfl (M.run 2 rfl) ?_
    exact ⟨zN, rfl, RdL.znone, M.below⟩
  have hs4 : s.kind = 4 := hs4
  refine p_fld fN0 rfl ?_
  refine v_load agg_int rfl ((M.B 0 rfl).at_ rfl) ?_
  refine p_eq rfl rfl (fun hx4 => ?_) (fun hx4 => ?_)
  · have hx4 : x.kind = 4 := hx4
    rw [if_neg (fun h => h.2 hx4)]
    refine p_build (vs := zN) pl_nd z_nd rfl ?_
    refine s_storeA 2 zN M rfl sz_nd rfl rfl rfl (all1 rfl) rfl ?_
    clear M; rintro W M
    dsimp only [setL] at M
    refine c_loadN zN agg_nd rfl rfl (M.run 2 rfl) ?_
    exact ⟨zN, rfl, RdL.znone, M.below⟩
  have hx4 : ¬ x.kind = 4 := hx4
  rw [if_pos ⟨hs4, hx4⟩]
  replace M := M.drew
  refine drT (Kp w gs [(g9, 26, ncs x Bp ep Bv ev Bk ek Bh eh), (g3, 26, cp)] []) (.take 0 (.take 1 (.take 2 (.one 3 (.one 4 (.one 5 (.take 6 (.nil)))))))) (by kernel_rfl) (M.kp (by simp) (by simp)) ?_
  refine t_loadN cp agg_nd rfl hlp (fun W K => K.run 1 rfl) ?_
  refine t_loadN (ncs x Bp ep Bv ev Bk ek Bh eh) agg_nd rfl rfl (fun W K => K.run 0 rfl) ?_
  refine cc is_tshut (tshut_any x (by omega) _ _ _ (M.da 0 rfl) M.olt) ?_
  rintro e W ⟨cs6, rfl, r9, hb⟩
  replace M := (M.call hb).addL r9
  clear r9 hb
  refine ⟨_, rfl, (M.kp (by simp) (by simp)), ?_⟩
  refine cc is_xput (xput_any p hp l (shutK x) _ _ cp cs6 _ _ _ (by rw [← ho8]; rfl) (M.da 3 rfl) (M.d1 5 rfl) (M.da 0 rfl) M.olt hn) ?_
  rintro e W ⟨cs7, rfl, r9, hb⟩
  have hc7 := r9.len
  rw [dN_len] at hc7
  replace M := (M.call hb).addL r9
  clear r9 hb
  refine ⟨_, rfl, (M.kp (by simp) (by simp)), ?_⟩
  refine s_storeA 2 cs7 M rfl sz_nd rfl rfl hc7 ((M.da 0 rfl).ones (dN_one _)) rfl ?_
  clear M; rintro W M
  dsimp only [setL] at M
  refine ⟨(M.kp (by simp) (by simp)), ?_⟩
  refine c_loadN cs7 agg_nd rfl hc7 (M.run 2 rfl) ?_
  exact ⟨cs7, rfl, M.fin 0 rfl, M.below⟩
end Go.Proofs.YtojjfkbffjkojaaDoor
namespace Go.Proofs.YtojjfkbffjkojaaDoor
open Go.RowKit
theorem is_ton : isFn Tryd.prog 66 = true := by kernel_rfl
theorem is_tonly : isFn Tryd.prog 28 = true := by kernel_rfl
def TOnOk (t : Nd) : Prop := ∀ (a : List UInt8) (ways : List (List UInt8)) (gs : List (Option Nat)) (w : World) (cs : List Value) (A : Option Addr) (n c : Nat) (B : Option Addr) (m d : Nat), RdL w (Fd w gs) (dN t) cs → RdD w (Fd w gs) (dB a) (.slice A n c) → RdD w (Fd w gs) (dLs ways) (.slice B m d) → (∀ b, some b ∈ gs → b < w.heap.size) → n + sz t ≤ 10000000 → m ≤ 1000000 → (∀ l ∈ ways, l.length ≤ 10000000) →
  Calls Tryd.prog 66 #[.agg cs.toArray, .slice A n c, .slice B m d] w fun e w' => ∃ cs', e = .returned (.agg cs'.toArray) ∧ RdL w' (Fd w' gs) (dN (onP (Sof ways) t a)) cs' ∧ Below w.heap.size w w'
set_option maxRecDepth 100000 in
set_option maxHeartbeats 4000000 in
theorem ton_step (N : Nat) (ih : ∀ k : Nd, sz k < N → TOnOk k) (t : Nd) (ht : sz t ≤ N) (hN : N ≤ 1000000) : TOnOk t := by
  intro a ways gs w cs A n c B m d hr ha hw hgs hna hm hwl
  refine calls_ev (args := [.agg cs.toArray, .slice A n c, .slice B m d]) mixed Tryd.func66 rfl (by kernel_rfl) ?_
  obtain ⟨Ap, cp, Av, cv, Ak, ck, Ah, ch, rfl, r1, r3, r4, r5⟩ := id hr.node
  have hsz := sz_eq t
  have hsl := szs_len t.kids
  have en := ha.slen
  have em : m = ways.length := hw.slen
  subst em
  have M := (((((((St.start hgs).addL hr).addD r5).addD r3).addD r1).addD r4).addD ha).addD hw
  clear hr r1 r3 r4 r5 ha hw
  refine s_box (ncs t Ap cp Av cv Ak ck Ah ch) M rfl ?_
  clear M
  rintro g3 W M
  refine s_alloc (zN) M al_nd ?_
  clear M
  rintro g6 W M
  refine lp (Nat × Bool) (fun s W => s.1 ≤ ways.length ∧ s.2 = Sof (ways.take s.1) a ∧ St w gs W [(g6, 26, zN), (g3, 26, ncs t Ap cp Av cv Ak ck Ah ch)] [] [.dat false [dLs ways] [.slice B ways.length d], .dat false [dB a] [.slice A n c], .dat false [dKs t.kids] [.slice Ak t.kids.length ck], .dat false [dB t.path] [.slice Ap t.path.length cp], .dat false [dB t.val] [.slice Av t.val.length cv], .dat false [dB t.hash] [.slice Ah t.hash.length ch], .dat false (dN t) (ncs t Ap cp Av cv Ak ck Ah ch)])
    (fun s => [(1, .slice A n c), (2, .slice B ways.length d), (3, .pointer (some ⟨g3, 0, none⟩)), (6, .pointer (some ⟨g6, 0, none⟩)), (7, .bool s.2), (8, .int .i64 (s.1 : Nat))]) (fun s => ways.length - s.1) (0, false) ⟨Nat.zero_le _, rfl, M⟩ (by repeat (first | exact trivial | refine ⟨rfl, ?_⟩)) ?_
  clear M
  rintro ⟨i, lies⟩ E1 W1 ⟨hi, hlies, M⟩
  dsimp only at hi hlies M
  refine p_len slls rfl ?_
  refine p_lt rfl rfl (fun hlt => ?_) (fun hge => ?_)
  · have hlt : i < ways.length := by have h : (i : Int) < (ways.length : Int) := hlt; omega
    obtain ⟨l, hl⟩ : ∃ l, ways[i]? = some l := ⟨_, List.getElem?_eq_getElem hlt⟩
    have hl2 : i < ways.length := hlt
    have hll := hwl l (List.mem_of_getElem? hl)
    have htk : Sof (ways.take (i + 1)) a = (Sof (ways.take i) a || decide (a <+: l)) := by
      rw [List.take_add_one, hl]
      unfold Sof
      rw [List.any_append]
      congr 1
      show (decide (a <+: l) || false) = _
      rw [Bool.or_false]
    cases lies with
    | true =>
      refine p_addN (b := 1) rfl rfl (by dsimp only; omega) ?_
      exact ⟨(i + 1, true), ⟨by dsimp only; omega, by dsimp only; rw [htk, ← hlies]; rfl, M⟩, (by repeat (first | exact trivial | refine ⟨rfl, ?_⟩)), by dsimp only; omega⟩
    | false =>
      obtain ⟨b1, o1, A8, c8, e1, hF, r8, hcell⟩ := (M.d1 0 rfl).atL hl
      subst e1
      refine p_at (i := i) slls rfl rfl rfl hl2 ?_
      refine v_load agg_b rfl hcell ?_
      replace M := M.addD r8
      clear hcell hF
      have hc8 := r8.scap
      refine cc is_begins (begins_any _ _ _ _ c8 c l a _ (M.rdb 0 rfl).2.2 hc8 (M.rdb 2 rfl).2.2 (by omega) (by omega)) ?_
      rintro e W ⟨q, rfl, hq, hbb⟩
      replace M := M.call hbb
      clear hbb
      refine ⟨_, rfl, ?_⟩
      refine p_addN (b := 1) rfl rfl (by dsimp only; omega) ?_
      have hqd : q = decide (a <+: l) := by
        by_cases h : a <+: l
        · rw [decide_eq_true h]; exact hq.2 h
        · rw [decide_eq_false h]
          cases q with
          | false => rfl
          | true => exact absurd (hq.1 rfl) h
      exact ⟨(i + 1, q), ⟨by dsimp only; omega, by dsimp only; rw [htk, ← hlies, hqd]; rfl, M.fsub _ (by simp)⟩, (by repeat (first | exact trivial | refine ⟨rfl, ?_⟩)), by dsimp only; omega⟩
  have hge : i = ways.length := by have h : ¬ (i : Int) < (ways.length : Int) := hge; omega
  subst hge
  rw [List.take_length] at hlies
  obtain ⟨S, hS⟩ : ∃ S, S = Sof ways := ⟨_, rfl⟩
  rw [← hS] at hlies ⊢
  refine p_not rfl ?_
  cases lies with
  | false =>
    rw [onP_shut hlies.symm]
    refine v_loadN (ncs t Ap cp Av cv Ak ck Ah ch) agg_nd rfl rfl (M.run 1 rfl) ?_
    refine cc is_r7fold (rfold_any t (by omega) _ _ _ (M.da 6 rfl) M.olt) ?_
    rintro e W ⟨csf, rfl, rf, hb⟩
    have hcf := rf.len
    rw [dN_len] at hcf
    replace M := M.callF hb rf
    clear rf hb
    refine ⟨_, rfl, ?_⟩
    refine s_storeA 0 csf M rfl sz_nd rfl rfl hcf ((M.da 0 rfl).ones (dN_one _)) rfl ?_
    clear M; rintro W M
    dsimp only [setL] at M
    refine c_loadN csf agg_nd rfl hcf (M.run 0 rfl) ?_
    exact ⟨csf, rfl, M.fin 0 rfl, M.below⟩
  | true =>
  refine p_fld fN0 rfl ?_
  refine v_load agg_int rfl ((M.B 1 rfl).at_ rfl) ?_
  refine p_eq rfl rfl (fun h4 => ?_) (fun h4 => ?_)
  · have h4 : t.kind = 4 := h4
    rw [onP_eq, if_pos (.inr h4)]
    refine v_loadN (ncs t Ap cp Av cv Ak ck Ah ch) agg_nd rfl rfl (M.run 1 rfl) ?_
    refine cc is_r7fold (rfold_any t (by omega) _ _ _ (M.da 6 rfl) M.olt) ?_
    rintro e W ⟨csf, rfl, rf, hb⟩
    have hcf := rf.len
    rw [dN_len] at hcf
    replace M := M.callF hb rf
    clear rf hb
    refine ⟨_, rfl, ?_⟩
    refine s_storeA 0 csf M rfl sz_nd rfl rfl hcf ((M.da 0 rfl).ones (dN_one _)) rfl ?_
    clear M; rintro W M
    dsimp only [setL] at M
    refine c_loadN csf agg_nd rfl hcf (M.run 0 rfl) ?_
    exact ⟨csf, rfl, M.fin 0 rfl, M.below⟩
  have h4 : ¬ t.kind = 4 := h4
  rw [onP_open hlies.symm h4]
  obtain ⟨ks, hks⟩ : ∃ ks, ks = onsP S t.kids (a ++ t.path) (decide (t.kind = 3)) 0 := ⟨_, rfl⟩
  have hkl : ks.length = t.kids.length := by rw [hks, onsP_len]
  have hkg : ∀ j k, t.kids[j]? = some k → ks[j]? = some (onP S k (a ++ t.path ++ if decide (t.kind = 3) = true then [UInt8.ofNat j] else [])) := fun j k hj => by rw [hks, onsP_get, hj, Nat.zero_add]; rfl
  rw [← hks]
  clear hks hlies
  replace M := (M.nilR 26 6).addT (fr := false) (ds := dNs []) (cs := []) RdL.nil_
  have e0 : ks.take 0 = [] := List.take_zero
  refine lp (Nat × Option Addr × Nat × List Value) (fun s W => s.1 ≤ t.kids.length ∧ St w gs W [(g6, 26, zN), (g3, 26, ncs t Ap cp Av cv Ak ck Ah ch)] [⟨26, 6, s.2.1, s.1, s.2.2.1, s.2.2.2⟩] [.dat false (dNs (ks.take s.1)) s.2.2.2, .dat false [dLs ways] [.slice B ways.length d], .dat false [dB a] [.slice A n c], .dat false [dKs t.kids] [.slice Ak t.kids.length ck], .dat false [dB t.path] [.slice Ap t.path.length cp], .dat false [dB t.val] [.slice Av t.val.length cv], .dat false [dB t.hash] [.slice Ah t.hash.length ch]])
    (fun s => [(1, .slice A n c), (2, .slice B ways.length d), (3, .pointer (some ⟨g3, 0, none⟩)), (6, .pointer (some ⟨g6, 0, none⟩)), (9, .slice s.2.1 s.1 s.2.2.1), (10, .int .i64 (s.1 : Nat))]) (fun s => t.kids.length - s.1) (0, none, 0, []) ⟨Nat.zero_le _, by dsimp only; rw [e0]; exact M.fsub _ (by simp)⟩ (by repeat (first | exact trivial | refine ⟨rfl, ?_⟩)) ?_
  clear M
  rintro ⟨i, A9, c9, xs⟩ E W ⟨hi, M⟩
  dsimp only at hi M
  refine p_fld fN4 rfl ?_
  refine v_load agg_ns rfl ((M.B 1 rfl).at_ rfl) ?_
  refine p_len sln rfl ?_
  refine p_lt rfl rfl (fun hlt => ?_) (fun hge => ?_)
  · have hlt : i < t.kids.length := by have h : (i : Int) < (t.kids.length : Int) := hlt; omega
    obtain ⟨k, hk⟩ : ∃ k, t.kids[i]? = some k := ⟨_, List.getElem?_eq_getElem hlt⟩
    have hkz := szs_mem (List.mem_of_getElem? hk)
    have hkk := hkg i k hk
    replace M := M.nilR 5 1
    refine s_appB (l := []) M rfl rfl (M.rdb 2 rfl).2.2 (by omega) ?_
    clear M; rintro A4 c4 W M -
    refine p_fld fN1 rfl ?_
    refine v_load agg_b rfl ((M.B 1 rfl).at_ rfl) ?_
    refine s_appB M rfl rfl (M.rdb 4 rfl).2.2 (by omega) ?_
    clear M; rintro A5 c5 W M -
    rw [List.nil_append] at M
    refine p_fld fN0 rfl ?_
    refine v_load agg_int rfl ((M.B 1 rfl).at_ rfl) ?_
    refine p_eq rfl rfl (fun h3 => ?_) (fun h3 => ?_)
    · have h3 : t.kind = 3 := h3
      rw [decide_eq_true h3, if_pos rfl] at hkk
      refine v_cvt u_ints u_u8 rfl (r := ((i % 256 : Nat) : Int)) (by rw [IntKind.wrap_u8']; omega) ?_
      refine s_litB [.int .u8 ((i % 256 : Nat) : Int)] [UInt8.ofNat i] M (by decide) rfl (bvs1 i) rfl ?_
      clear M; rintro g9 W M
      replace M := M.frzO
      refine s_appB M rfl rfl (M.rdb 0 rfl).2.2 (by omega) ?_
      clear M; rintro A7 c7 W M -
      replace M := M.frzO
      obtain ⟨b1, o1, es, e1, hel, M'⟩ := M.kid (M.d1 5 rfl) hk
      replace M := M'; clear M'
      refine p_fld fN4 rfl ?_
      refine v_load agg_ns rfl ((M.B 1 rfl).at_ rfl) ?_
      refine p_at (i := i) sln (by show (Value.slice Ak t.kids.length ck) = _; rw [e1]) rfl rfl hlt ?_
      refine v_loadN es agg_nd rfl hel (M.lc 0 rfl) ?_
      have co := ih k (by omega) (a ++ t.path ++ [UInt8.ofNat i]) ways _ _ es _ _ _ _ _ _ (M.da 1 rfl) (M.d1 2 rfl) (M.d1 5 rfl) M.olt (by omega) hm hwl
      rw [← hS] at co
      refine cc is_ton co ?_
      clear co
      rintro e W ⟨csf, rfl, rf, hb⟩
      obtain ⟨Bp, dp, Bv, dv, Bk, dk, Bh, dh, rfl, -⟩ := rf.node
      replace M := (M.call hb).addL rf
      clear rf hb
      refine ⟨_, rfl, ?_⟩
      refine s_bsliceB (ncs (onP S k (a ++ t.path ++ [UInt8.ofNat i])) Bp dp Bv dv Bk dk Bh dh) M sln z_nd rfl (by decide) rfl ?_
      clear M; rintro g9 W M
      refine s_app M Tryd.underlying24 inf_nd rfl (by decide) rfl rfl (Reads.blk (M.B 0 rfl) rfl) (all1 rfl) ⟨by omega, by decide⟩ ?_
      clear M; rintro A6 c6 W M -
      have hX := (M.dw 5 rfl).app (M.dw 0 rfl)
      have hst : ks.take (i + 1) = ks.take i ++ [onP S k (a ++ t.path ++ [UInt8.ofNat i])] := by rw [List.take_add_one, hkk]; rfl
      have hdk : dNs (ks.take i) ++ dN (onP S k (a ++ t.path ++ [UInt8.ofNat i])) = dNs (ks.take (i + 1)) := by rw [hst, dNs_app, dNs, dNs, List.append_nil]
      rw [hdk] at hX
      refine p_addN (b := 1) rfl rfl (by dsimp only; omega) ?_
      exact ⟨(i + 1, A6, c6, xs ++ ncs (onP S k (a ++ t.path ++ [UInt8.ofNat i])) Bp dp Bv dv Bk dk Bh dh), ⟨by dsimp only; omega, (M.addT hX).dropL.fsub _ (by simp)⟩, (by repeat (first | exact trivial | refine ⟨rfl, ?_⟩)), by dsimp only; omega⟩
    · have h3 : ¬ t.kind = 3 := h3
      rw [decide_eq_false h3, if_neg (by decide), List.append_nil] at hkk
      replace M := M.frzO
      obtain ⟨b1, o1, es, e1, hel, M'⟩ := M.kid (M.d1 4 rfl) hk
      replace M := M'; clear M'
      refine p_fld fN4 rfl ?_
      refine v_load agg_ns rfl ((M.B 1 rfl).at_ rfl) ?_
      refine p_at (i := i) sln (by show (Value.slice Ak t.kids.length ck) = _; rw [e1]) rfl rfl hlt ?_
      refine v_loadN es agg_nd rfl hel (M.lc 0 rfl) ?_
      have co := ih k (by omega) (a ++ t.path) ways _ _ es _ _ _ _ _ _ (M.da 1 rfl) (M.d1 2 rfl) (M.d1 4 rfl) M.olt (by omega) hm hwl
      rw [← hS] at co
      refine cc is_ton co ?_
      clear co
      rintro e W ⟨csf, rfl, rf, hb⟩
      obtain ⟨Bp, dp, Bv, dv, Bk, dk, Bh, dh, rfl, -⟩ := rf.node
      replace M := (M.call hb).addL rf
      clear rf hb
      refine ⟨_, rfl, ?_⟩
      refine s_bsliceB (ncs (onP S k (a ++ t.path)) Bp dp Bv dv Bk dk Bh dh) M sln z_nd rfl (by decide) rfl ?_
      clear M; rintro g9 W M
      refine s_app M Tryd.underlying24 inf_nd rfl (by decide) rfl rfl (Reads.blk (M.B 0 rfl) rfl) (all1 rfl) ⟨by omega, by decide⟩ ?_
      clear M; rintro A6 c6 W M -
      have hX := (M.dw 4 rfl).app (M.dw 0 rfl)
      have hst : ks.take (i + 1) = ks.take i ++ [onP S k (a ++ t.path)] := by rw [List.take_add_one, hkk]; rfl
      have hdk : dNs (ks.take i) ++ dN (onP S k (a ++ t.path)) = dNs (ks.take (i + 1)) := by rw [hst, dNs_app, dNs, dNs, List.append_nil]
      rw [hdk] at hX
      refine p_addN (b := 1) rfl rfl (by dsimp only; omega) ?_
      exact ⟨(i + 1, A6, c6, xs ++ ncs (onP S k (a ++ t.path)) Bp dp Bv dv Bk dk Bh dh), ⟨by dsimp only; omega, (M.addT hX).dropL.fsub _ (by simp)⟩, (by repeat (first | exact trivial | refine ⟨rfl, ?_⟩)), by dsimp only; omega⟩
  · have hge : i = t.kids.length := by have h : ¬ (i : Int) < (t.kids.length : Int) := hge; omega
    subst hge
    rw [← hkl, List.take_length] at M
    rw [hkl] at M
    replace M := M.frzR (fr := false) (M.dt 0 rfl)
    dsimp only at M
    refine p_fld fN4 rfl ?_
    refine s_set 1 (off := 4) (.slice A9 t.kids.length c9) (ncs t Ap cp Av cv A9 c9 Ah ch) M rfl sz_nsR rfl rfl rfl (Nat.le_of_ble_eq_true rfl) rfl ?_
    clear M; rintro W M
    dsimp only [setL] at M
    refine v_loadN (ncs t Ap cp Av cv A9 c9 Ah ch) agg_nd rfl rfl (M.run 1 rfl) ?_
    refine s_storeA 0 (ncs t Ap cp Av cv A9 c9 Ah ch) M rfl sz_nd rfl rfl rfl (all1 rfl) rfl ?_
    clear M; rintro W M
    dsimp only [setL] at M
    refine c_loadN (ncs t Ap cp Av cv A9 c9 Ah ch) agg_nd rfl rfl (M.run 0 rfl) ?_
    have hkd : RdD W (Fd W gs) (dKs ks) (.slice A9 ks.length c9) := by
      have h := M.fin1 0 rfl
      unfold dKs
      rw [hkl]; exact h
    have hn := RdL.ofnode (t := .mk t.kind t.path t.has t.val ks t.hash) (M.fin1 5 rfl) (M.fin1 6 rfl) hkd (M.fin1 7 rfl)
    refine ⟨_, rfl, ?_, M.below⟩
    unfold ncs at hn ⊢
    rw [show (Nd.mk t.kind t.path t.has t.val ks t.hash).kids.length = t.kids.length from hkl] at hn
    exact hn
theorem ton_any (t : Nd) (ht : sz t ≤ 999999) : TOnOk t := by
  have key : ∀ (N : Nat), N ≤ 1000000 → ∀ t : Nd, sz t < N → TOnOk t := by
    intro N
    induction N with
    | zero => intro _ t h; omega
    | succ N ih => intro hN t h; exact ton_step N (fun k hk => ih (by omega) k hk) t (by omega) (by omega)
  exact key 1000000 (Nat.le_refl _) t (by omega)
set_option maxRecDepth 100000 in
set_option maxHeartbeats 4000000 in
theorem tonly_any (t : Nd) (hz : sz t ≤ 100000) (ways : List (List UInt8)) (gs : List (Option Nat)) (w : World) (cs : List Value) (hr : RdL w (Fd w gs) (dN t) cs) {A : Option Addr} {n c : Nat} (hw : RdD w (Fd w gs) (dLs ways) (.slice A n c)) (hgs : ∀ b, some b ∈ gs → b < w.heap.size) (hn : n ≤ 1000000) (hwl : ∀ l ∈ ways, l.length ≤ 10000000) :
    Calls Tryd.prog 28 #[.agg cs.toArray, .slice A n c] w fun e w' => ∃ cs', e = .returned (.tuple #[.agg cs'.toArray, .int .i64 (onlyP t ways).2]) ∧ RdL w' (Fd w' gs) (dN (onlyP t ways).1) cs' ∧ Below w.heap.size w w' := by
  refine calls_ev (args := [.agg cs.toArray, .slice A n c]) mixed Tryd.func28 rfl (by kernel_rfl) ?_
  have hl0 := hr.len
  rw [dN_len] at hl0
  have M := ((St.start hgs).addD hw).addL hr
  clear hr hw
  refine s_box (cs) M rfl ?_
  clear M
  rintro g2 W M
  refine s_alloc (zN) M al_nd ?_
  clear M
  rintro g4 W M
  unfold onlyP
  refine v_loadN cs agg_nd rfl hl0 (M.run 1 rfl) ?_
  refine cc is_r7check (r7check_any t (by omega) _ _ _ (M.da 0 rfl) M.olt) ?_
  rintro e W ⟨rfl, hb⟩
  replace M := M.call hb
  clear hb
  refine ⟨_, rfl, ?_⟩
  refine p_ne rfl rfl (fun h1 => ?_) (fun h1 => ?_)
  rotate_left
  · have h1 : ¬ checkE t = 0 := h1
    have h2 : checkE t = 2 := by unfold checkE at h1 ⊢; split at h1 <;> simp_all
    rw [if_neg h1]
    refine p_build (vs := zN) pl_nd z_nd rfl ?_
    refine s_storeA 0 zN M rfl sz_nd rfl rfl rfl (all1 rfl) rfl ?_
    clear M; rintro W M
    dsimp only [setL] at M
    refine c_loadN zN agg_nd rfl rfl (M.run 0 rfl) ?_
    rw [h2]
    exact ⟨zN, rfl, RdL.znone, M.below⟩
  have h1 : checkE t = 0 := h1
  rw [if_pos h1]
  replace M := M.addD (d := dB []) (RdD.nil_ (s := 1) none 0)
  refine v_loadN cs agg_nd rfl hl0 (M.run 1 rfl) ?_
  refine cc is_ton (ton_any t (by omega) [] ways _ _ cs _ _ _ _ _ _ (M.da 1 rfl) (M.d1 0 rfl) (M.d1 2 rfl) M.olt (by omega) hn hwl) ?_
  rintro e W ⟨cs9, rfl, r9, hb⟩
  have hc9 := r9.len
  rw [dN_len] at hc9
  replace M := (M.call hb).addL r9
  clear r9 hb
  refine ⟨_, rfl, ?_⟩
  refine s_storeA 0 cs9 M rfl sz_nd rfl rfl hc9 ((M.da 0 rfl).ones (dN_one _)) rfl ?_
  clear M; rintro W M
  dsimp only [setL] at M
  refine c_loadN cs9 agg_nd rfl hc9 (M.run 0 rfl) ?_
  exact ⟨cs9, rfl, M.fin 0 rfl, M.below⟩
end Go.Proofs.YtojjfkbffjkojaaDoor
