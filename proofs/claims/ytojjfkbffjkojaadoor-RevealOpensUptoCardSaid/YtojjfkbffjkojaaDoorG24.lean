/- Reference 10: At, Shut, below, Agrees. -/
import Derived.Test.YtojjfkbffjkojaaDoorG22
import Derived.Test.YtojjfkbffjkojaaDoorG16
import Derived.Test.YtojjfkbffjkojaaDoorG12
namespace Go.Proofs.YtojjfkbffjkojaaDoor
open Go.RowKit
theorem is_tat : isFn Tryd.prog 63 = true := by kernel_rfl
theorem is_tshut : isFn Tryd.prog 65 = true := by kernel_rfl
theorem is_tbelow : isFn Tryd.prog 85 = true := by kernel_rfl
theorem is_tAgr : isFn Tryd.prog 62 = true := by kernel_rfl
def TAtOk (t : Nd) : Prop := ∀ (l : List UInt8) (gs : List (Option Nat)) (w : World) (cs : List Value) (A : Option Addr) (n c : Nat), RdL w (Fd w gs) (dN t) cs → RdD w (Fd w gs) (dB l) (.slice A n c) → (∀ b, some b ∈ gs → b < w.heap.size) → n ≤ 100000000 →
  Calls Tryd.prog 63 #[.agg cs.toArray, .slice A n c] w fun e w' => ∃ cs', e = .returned (.tuple #[.agg cs'.toArray, .bool (atP t l).isSome]) ∧ RdL w' (Fd w' gs) (dN ((atP t l).getD noneN)) cs' ∧ Below w.heap.size w w'
set_option maxRecDepth 100000 in
set_option maxHeartbeats 4000000 in
theorem tat_step (N : Nat) (ih : ∀ k : Nd, sz k < N → TAtOk k) (t : Nd) (ht : sz t ≤ N) (hN : N ≤ 10000000) : TAtOk t := by
  intro l gs w cs A n c hr hw hgs hn
  refine calls_ev (args := [.agg cs.toArray, .slice A n c]) mixed Tryd.func63 rfl (by kernel_rfl) ?_
  obtain ⟨Ap, cp, Av, cv, Ak, ck, Ah, ch, rfl, r1, -, r4, -⟩ := id hr.node
  have M := ((((St.start hgs).addD hw).addL hr).addD r1).addD r4
  have en := hw.slen
  have hcap := hw.scap
  clear hr hw r1 r4
  have hsz := sz_eq t
  have hsl := szs_len t.kids
  refine s_box (ncs t Ap cp Av cv Ak ck Ah ch) M rfl ?_
  clear M
  rintro g2 W M
  refine s_alloc (zN) M al_nd ?_
  clear M
  rintro g4 W M
  refine p_len slb rfl ?_
  refine p_eq rfl rfl (fun h0 => ?_) (fun h0 => ?_)
  · have h0 : l = [] := List.eq_nil_of_length_eq_zero (by have h : ((n : Nat) : Int) = 0 := h0; omega)
    rw [atP_eq, if_pos h0]
    refine v_loadN (ncs t Ap cp Av cv Ak ck Ah ch) agg_nd rfl rfl (M.run 1 rfl) ?_
    refine s_storeA 0 (ncs t Ap cp Av cv Ak ck Ah ch) M rfl sz_nd rfl rfl rfl (all1 rfl) rfl ?_
    clear M; rintro W M
    dsimp only [setL] at M
    refine c_loadN (ncs t Ap cp Av cv Ak ck Ah ch) agg_nd rfl rfl (M.run 0 rfl) ?_
    exact ⟨_, rfl, M.fin 2 rfl, M.below⟩
  have hn0 : 0 < n := by
    rcases Nat.eq_zero_or_pos n with h | h
    · exact absurd (show ((n : Nat) : Int) = 0 by omega) h0
    · exact h
  have hl0 : l ≠ [] := fun e => by rw [e] at en; exact absurd en (by simp; omega)
  clear h0
  obtain ⟨x, hx⟩ : ∃ x, x = (l.getD 0 0).toNat := ⟨_, rfl⟩
  have e8 : at8 l 0 = (x : Int) := by rw [hx]; rfl
  have hx256 : x < 256 := by rw [hx]; exact (l.getD 0 0).toNat_lt
  obtain ⟨b0, o0, hA0, M'⟩ := M.at8c (M.d1 3 rfl) hn0
  replace M := M'; clear M'
  subst hA0
  rw [e8] at M
  obtain ⟨R, hR⟩ : ∃ R, R = atP t l := ⟨_, rfl⟩
  rw [← hR]
  refine p_fld fN0 rfl ?_
  refine v_load agg_int rfl ((M.B 1 rfl).at_ rfl) ?_
  refine p_eq rfl rfl (fun h2 => ?_) (fun h2 => ?_)
  rotate_left
  · have hno1 : ¬ (t.kind = 2 ∧ t.path <+: l ∧ t.kids.length = 1) := fun h => h2 h.1
    clear h2
    by_cases hb : t.kind = 3 ∧ x < t.kids.length
    · obtain ⟨kd, hkd⟩ : ∃ kd, t.kids[x]? = some kd := ⟨_, List.getElem?_eq_getElem hb.2⟩
      have hgd : t.kids.getD x noneN = kd := by rw [List.getD_eq_getElem?_getD, hkd]; rfl
      have hkz := szs_mem (List.mem_of_getElem? hkd)
      obtain ⟨b1, o1, es, e1, hel, M'⟩ := M.kid (M.d1 1 rfl) hkd
      replace M := M'; clear M'
      obtain ⟨Kp', fp, Kv, fv, Kk, fk, Kh, fh, rfl, -⟩ := (M.da 1 rfl).node
      replace M := M.drew
      refine drT (Kp w gs [(g2, 26, ncs t Ap cp Av cv Ak ck Ah ch)] [.loc ((⟨b1, o1, none⟩ : Addr).add (x * 6)) (ncs kd Kp' fp Kv fv Kk fk Kh fh), .loc ((⟨b0, o0, none⟩ : Addr).add (0 * 1)) [.int .u8 (x : Int)]]) (.take 0 (.take 1 (.take 2 (.take 3 (.take 4 (.take 5 (.take 6 (.take 7 (.take 8 (.take 9 (.take 10 (.take 11 (.take 12 (.take 13 (.take 14 (.take 15 (.take 16 (.take 17 (.take 18 (.take 19 (.take 20 (.take 21 (.take 22 (.take 23 (.nil))))))))))))))))))))))))) (by kernel_rfl) (M.kp (by simp) (by simp)) ?_
      refine p_fld fN0 rfl ?_
      refine t_load agg_int rfl (fun W K => (K.B 0 rfl).at_ rfl) ?_
      refine p_eq rfl rfl (fun _ => ?_) (fun h => absurd hb.1 h)
      refine p_at (i := 0) slb rfl rfl rfl hn0 ?_
      refine t_load agg_by' rfl (fun W K => K.lc 1 rfl 0 _ rfl) ?_
      refine t_cvt u_u8r u_intr rfl (r := ((x : Nat) : Int)) (w64 (by omega)) ?_
      refine p_fld fN4 rfl ?_
      refine t_load agg_ns rfl (fun W K => (K.B 0 rfl).at_ rfl) ?_
      refine p_len sln rfl ?_
      refine p_lt rfl rfl (fun _ => ?_) (fun h => absurd (show (x : Int) < (t.kids.length : Int) by have := hb.2; omega) h)
      refine p_fld fN4 rfl ?_
      refine t_load agg_ns rfl (fun W K => (K.B 0 rfl).at_ rfl) ?_
      refine p_at (i := 0) slb rfl rfl rfl hn0 ?_
      refine t_load agg_by' rfl (fun W K => K.lc 1 rfl 0 _ rfl) ?_
      refine p_at (i := x) sln (by show (Value.slice Ak t.kids.length ck) = _; rw [e1]) rfl rfl hb.2 ?_
      refine p_fld fN0 rfl ?_
      refine t_load agg_int rfl (fun W K => K.lc 0 rfl 0 _ rfl) ?_
      refine p_ne rfl rfl (fun hk0 => ?_) (fun hk0 => ?_)
      · have hk0 : kd.kind = 0 := hk0
        have hno2 : ¬ (t.kind = 3 ∧ (l.getD 0 0).toNat < t.kids.length ∧ (t.kids.getD (l.getD 0 0).toNat noneN).kind ≠ 0) := fun h => by rw [← hx, hgd] at h; exact h.2.2 hk0
        have hR2 : R = none := by rw [hR]; exact atP_no hl0 hno1 hno2
        rw [hR2]
        refine p_build (vs := zN) pl_nd z_nd rfl ?_
        refine s_storeA 0 zN M rfl sz_nd rfl rfl rfl (all1 rfl) rfl ?_
        clear M; rintro W M
        dsimp only [setL] at M
        refine c_loadN zN agg_nd rfl rfl (M.run 0 rfl) ?_
        exact ⟨zN, rfl, RdL.znone, M.below⟩
      · have hk0 : kd.kind ≠ 0 := hk0
        have hR2 : R = atP kd (l.drop 1) := by rw [hR, atP_br hl0 hb.1 (by rw [← hx]; exact hb.2) (by rw [← hx, hgd]; exact hk0), ← hx, hgd]
        have hcut := (M.d1 6 rfl).cutB (i := 1) (j := n) (m := c) (by omega) (Nat.le_refl _) hcap
        rw [List.take_of_length_le (by rw [List.length_drop]; omega)] at hcut
        replace M := (M.addD hcut).drew
        clear hcut
        refine drT (Kp w gs [(g2, 26, ncs t Ap cp Av cv Ak ck Ah ch)] [.loc ((⟨b1, o1, none⟩ : Addr).add (x * 6)) (ncs kd Kp' fp Kv fv Kk fk Kh fh), .loc ((⟨b0, o0, none⟩ : Addr).add (0 * 1)) [.int .u8 (x : Int)]]) (.take 0 (.take 1 (.take 2 (.take 3 (.take 4 (.take 5 (.take 6 (.take 7 (.take 8 (.one 9 (.take 10 (.take 11 (.one 12 (.take 13 (.nil))))))))))))))) (by kernel_rfl) (M.kp (by simp) (by simp)) ?_
        refine p_fld fN4 rfl ?_
        refine t_load agg_ns rfl (fun W K => (K.B 0 rfl).at_ rfl) ?_
        refine p_at (i := 0) slb rfl rfl rfl hn0 ?_
        refine t_load agg_by' rfl (fun W K => K.lc 1 rfl 0 _ rfl) ?_
        refine p_at (i := x) sln (by show (Value.slice Ak t.kids.length ck) = _; rw [e1]) rfl rfl hb.2 ?_
        refine t_loadN (ncs kd Kp' fp Kv fv Kk fk Kh fh) agg_nd rfl rfl (fun W K => K.lc 0 rfl) ?_
        refine p_slice (i := 1) (j := n) (m := c) slb rfl (bnd_i rfl) rfl rfl rfl (by omega) hcap (Nat.le_refl _) ?_
        have ca := ih kd (by omega) (l.drop 1) _ _ (ncs kd Kp' fp Kv fv Kk fk Kh fh) _ _ _ (M.da 2 rfl) (M.d1 0 rfl) M.olt (by omega)
        rw [← hR2] at ca
        refine cc is_tat ca ?_
        clear ca
        rintro e W ⟨cs9, rfl, r9, hb9⟩
        have hc9 := r9.len
        rw [dN_len] at hc9
        replace M := (M.call hb9).addL r9
        clear r9 hb9
        refine ⟨_, rfl, (M.kp (by simp) (by simp)), ?_⟩
        refine s_storeA 0 cs9 M rfl sz_nd rfl rfl hc9 ((M.da 0 rfl).ones (dN_one _)) rfl ?_
        clear M; rintro W M
        dsimp only [setL] at M
        refine ⟨(M.kp (by simp) (by simp)), ?_⟩
        refine c_loadN cs9 agg_nd rfl hc9 (M.run 0 rfl) ?_
        exact ⟨cs9, rfl, M.fin 0 rfl, M.below⟩
    · have hno2 : ¬ (t.kind = 3 ∧ (l.getD 0 0).toNat < t.kids.length ∧ (t.kids.getD (l.getD 0 0).toNat noneN).kind ≠ 0) := fun h => by rw [← hx] at h; exact hb ⟨h.1, h.2.1⟩
      replace M := M.drew
      refine drT (Kp w gs [(g2, 26, ncs t Ap cp Av cv Ak ck Ah ch)] [.loc ((⟨b0, o0, none⟩ : Addr).add (0 * 1)) [.int .u8 (x : Int)]]) (.take 0 (.take 1 (.take 2 (.take 3 (.take 4 (.take 5 (.take 6 (.take 7 (.take 8 (.take 9 (.take 10 (.take 11 (.take 12 (.take 13 (.take 14 (.take 15 (.take 16 (.take 17 (.take 18 (.take 19 (.take 20 (.take 21 (.take 22 (.take 23 (.nil))))))))))))))))))))))))) (by kernel_rfl) (M.kp (by simp) (by simp)) ?_
      refine p_fld fN0 rfl ?_
      refine t_load agg_int rfl (fun W K => (K.B 0 rfl).at_ rfl) ?_
      refine p_eq rfl rfl (fun h3 => ?_) (fun h3 => ?_)
      · refine p_at (i := 0) slb rfl rfl rfl hn0 ?_
        refine t_load agg_by' rfl (fun W K => K.lc 0 rfl 0 _ rfl) ?_
        refine t_cvt u_u8r u_intr rfl (r := ((x : Nat) : Int)) (w64 (by omega)) ?_
        refine p_fld fN4 rfl ?_
        refine t_load agg_ns rfl (fun W K => (K.B 0 rfl).at_ rfl) ?_
        refine p_len sln rfl ?_
        refine p_lt rfl rfl (fun h => absurd ⟨h3, by have h : (x : Int) < (t.kids.length : Int) := h; omega⟩ hb) (fun _ => ?_)
        have hR2 : R = none := by rw [hR]; exact atP_no hl0 hno1 hno2
        rw [hR2]
        refine p_build (vs := zN) pl_nd z_nd rfl ?_
        refine s_storeA 0 zN M rfl sz_nd rfl rfl rfl (all1 rfl) rfl ?_
        clear M; rintro W M
        dsimp only [setL] at M
        refine c_loadN zN agg_nd rfl rfl (M.run 0 rfl) ?_
        exact ⟨zN, rfl, RdL.znone, M.below⟩
      ·
        have hR2 : R = none := by rw [hR]; exact atP_no hl0 hno1 hno2
        rw [hR2]
        refine p_build (vs := zN) pl_nd z_nd rfl ?_
        refine s_storeA 0 zN M rfl sz_nd rfl rfl rfl (all1 rfl) rfl ?_
        clear M; rintro W M
        dsimp only [setL] at M
        refine c_loadN zN agg_nd rfl rfl (M.run 0 rfl) ?_
        exact ⟨zN, rfl, RdL.znone, M.below⟩
  have h2 : t.kind = 2 := h2
  refine p_fld fN4 rfl ?_
  refine v_load agg_ns rfl ((M.B 1 rfl).at_ rfl) ?_
  refine p_len sln rfl ?_
  refine p_eq rfl rfl (fun h1 => ?_) (fun h1 => ?_)
  rotate_left
  · have h1 : ¬ t.kids.length = 1 := fun e => h1 (by show ((t.kids.length : Nat) : Int) = 1; omega)
    have hno1 : ¬ (t.kind = 2 ∧ t.path <+: l ∧ t.kids.length = 1) := fun h => h1 h.2.2
    clear h2
    by_cases hb : t.kind = 3 ∧ x < t.kids.length
    · obtain ⟨kd, hkd⟩ : ∃ kd, t.kids[x]? = some kd := ⟨_, List.getElem?_eq_getElem hb.2⟩
      have hgd : t.kids.getD x noneN = kd := by rw [List.getD_eq_getElem?_getD, hkd]; rfl
      have hkz := szs_mem (List.mem_of_getElem? hkd)
      obtain ⟨b1, o1, es, e1, hel, M'⟩ := M.kid (M.d1 1 rfl) hkd
      replace M := M'; clear M'
      obtain ⟨Kp', fp, Kv, fv, Kk, fk, Kh, fh, rfl, -⟩ := (M.da 1 rfl).node
      replace M := M.drew
      refine drT (Kp w gs [(g2, 26, ncs t Ap cp Av cv Ak ck Ah ch)] [.loc ((⟨b1, o1, none⟩ : Addr).add (x * 6)) (ncs kd Kp' fp Kv fv Kk fk Kh fh), .loc ((⟨b0, o0, none⟩ : Addr).add (0 * 1)) [.int .u8 (x : Int)]]) (.take 0 (.take 1 (.take 2 (.take 3 (.take 4 (.take 5 (.take 6 (.take 7 (.take 8 (.take 9 (.take 10 (.take 11 (.take 12 (.take 13 (.take 14 (.take 15 (.take 16 (.take 17 (.take 18 (.take 19 (.take 20 (.take 21 (.take 22 (.take 23 (.nil))))))))))))))))))))))))) (by kernel_rfl) (M.kp (by simp) (by simp)) ?_
      refine p_fld fN0 rfl ?_
      refine t_load agg_int rfl (fun W K => (K.B 0 rfl).at_ rfl) ?_
      refine p_eq rfl rfl (fun _ => ?_) (fun h => absurd hb.1 h)
      refine p_at (i := 0) slb rfl rfl rfl hn0 ?_
      refine t_load agg_by' rfl (fun W K => K.lc 1 rfl 0 _ rfl) ?_
      refine t_cvt u_u8r u_intr rfl (r := ((x : Nat) : Int)) (w64 (by omega)) ?_
      refine p_fld fN4 rfl ?_
      refine t_load agg_ns rfl (fun W K => (K.B 0 rfl).at_ rfl) ?_
      refine p_len sln rfl ?_
      refine p_lt rfl rfl (fun _ => ?_) (fun h => absurd (show (x : Int) < (t.kids.length : Int) by have := hb.2; omega) h)
      refine p_fld fN4 rfl ?_
      refine t_load agg_ns rfl (fun W K => (K.B 0 rfl).at_ rfl) ?_
      refine p_at (i := 0) slb rfl rfl rfl hn0 ?_
      refine t_load agg_by' rfl (fun W K => K.lc 1 rfl 0 _ rfl) ?_
      refine p_at (i := x) sln (by show (Value.slice Ak t.kids.length ck) = _; rw [e1]) rfl rfl hb.2 ?_
      refine p_fld fN0 rfl ?_
      refine t_load agg_int rfl (fun W K => K.lc 0 rfl 0 _ rfl) ?_
      refine p_ne rfl rfl (fun hk0 => ?_) (fun hk0 => ?_)
      · have hk0 : kd.kind = 0 := hk0
        have hno2 : ¬ (t.kind = 3 ∧ (l.getD 0 0).toNat < t.kids.length ∧ (t.kids.getD (l.getD 0 0).toNat noneN).kind ≠ 0) := fun h => by rw [← hx, hgd] at h; exact h.2.2 hk0
        have hR2 : R = none := by rw [hR]; exact atP_no hl0 hno1 hno2
        rw [hR2]
        refine p_build (vs := zN) pl_nd z_nd rfl ?_
        refine s_storeA 0 zN M rfl sz_nd rfl rfl rfl (all1 rfl) rfl ?_
        clear M; rintro W M
        dsimp only [setL] at M
        refine c_loadN zN agg_nd rfl rfl (M.run 0 rfl) ?_
        exact ⟨zN, rfl, RdL.znone, M.below⟩
      · have hk0 : kd.kind ≠ 0 := hk0
        have hR2 : R = atP kd (l.drop 1) := by rw [hR, atP_br hl0 hb.1 (by rw [← hx]; exact hb.2) (by rw [← hx, hgd]; exact hk0), ← hx, hgd]
        have hcut := (M.d1 6 rfl).cutB (i := 1) (j := n) (m := c) (by omega) (Nat.le_refl _) hcap
        rw [List.take_of_length_le (by rw [List.length_drop]; omega)] at hcut
        replace M := (M.addD hcut).drew
        clear hcut
        refine drT (Kp w gs [(g2, 26, ncs t Ap cp Av cv Ak ck Ah ch)] [.loc ((⟨b1, o1, none⟩ : Addr).add (x * 6)) (ncs kd Kp' fp Kv fv Kk fk Kh fh), .loc ((⟨b0, o0, none⟩ : Addr).add (0 * 1)) [.int .u8 (x : Int)]]) (.take 0 (.take 1 (.take 2 (.take 3 (.take 4 (.take 5 (.take 6 (.take 7 (.take 8 (.one 9 (.take 10 (.take 11 (.one 12 (.take 13 (.nil))))))))))))))) (by kernel_rfl) (M.kp (by simp) (by simp)) ?_
        refine p_fld fN4 rfl ?_
        refine t_load agg_ns rfl (fun W K => (K.B 0 rfl).at_ rfl) ?_
        refine p_at (i := 0) slb rfl rfl rfl hn0 ?_
        refine t_load agg_by' rfl (fun W K => K.lc 1 rfl 0 _ rfl) ?_
        refine p_at (i := x) sln (by show (Value.slice Ak t.kids.length ck) = _; rw [e1]) rfl rfl hb.2 ?_
        refine t_loadN (ncs kd Kp' fp Kv fv Kk fk Kh fh) agg_nd rfl rfl (fun W K => K.lc 0 rfl) ?_
        refine p_slice (i := 1) (j := n) (m := c) slb rfl (bnd_i rfl) rfl rfl rfl (by omega) hcap (Nat.le_refl _) ?_
        have ca := ih kd (by omega) (l.drop 1) _ _ (ncs kd Kp' fp Kv fv Kk fk Kh fh) _ _ _ (M.da 2 rfl) (M.d1 0 rfl) M.olt (by omega)
        rw [← hR2] at ca
        refine cc is_tat ca ?_
        clear ca
        rintro e W ⟨cs9, rfl, r9, hb9⟩
        have hc9 := r9.len
        rw [dN_len] at hc9
        replace M := (M.call hb9).addL r9
        clear r9 hb9
        refine ⟨_, rfl, (M.kp (by simp) (by simp)), ?_⟩
        refine s_storeA 0 cs9 M rfl sz_nd rfl rfl hc9 ((M.da 0 rfl).ones (dN_one _)) rfl ?_
        clear M; rintro W M
        dsimp only [setL] at M
        refine ⟨(M.kp (by simp) (by simp)), ?_⟩
        refine c_loadN cs9 agg_nd rfl hc9 (M.run 0 rfl) ?_
        exact ⟨cs9, rfl, M.fin 0 rfl, M.below⟩
    · have hno2 : ¬ (t.kind = 3 ∧ (l.getD 0 0).toNat < t.kids.length ∧ (t.kids.getD (l.getD 0 0).toNat noneN).kind ≠ 0) := fun h => by rw [← hx] at h; exact hb ⟨h.1, h.2.1⟩
      replace M := M.drew
      refine drT (Kp w gs [(g2, 26, ncs t Ap cp Av cv Ak ck Ah ch)] [.loc ((⟨b0, o0, none⟩ : Addr).add (0 * 1)) [.int .u8 (x : Int)]]) (.take 0 (.take 1 (.take 2 (.take 3 (.take 4 (.take 5 (.take 6 (.take 7 (.take 8 (.take 9 (.take 10 (.take 11 (.take 12 (.take 13 (.take 14 (.take 15 (.take 16 (.take 17 (.take 18 (.take 19 (.take 20 (.take 21 (.take 22 (.take 23 (.nil))))))))))))))))))))))))) (by kernel_rfl) (M.kp (by simp) (by simp)) ?_
      refine p_fld fN0 rfl ?_
      refine t_load agg_int rfl (fun W K => (K.B 0 rfl).at_ rfl) ?_
      refine p_eq rfl rfl (fun h3 => ?_) (fun h3 => ?_)
      · refine p_at (i := 0) slb rfl rfl rfl hn0 ?_
        refine t_load agg_by' rfl (fun W K => K.lc 0 rfl 0 _ rfl) ?_
        refine t_cvt u_u8r u_intr rfl (r := ((x : Nat) : Int)) (w64 (by omega)) ?_
        refine p_fld fN4 rfl ?_
        refine t_load agg_ns rfl (fun W K => (K.B 0 rfl).at_ rfl) ?_
        refine p_len sln rfl ?_
        refine p_lt rfl rfl (fun h => absurd ⟨h3, by have h : (x : Int) < (t.kids.length : Int) := h; omega⟩ hb) (fun _ => ?_)
        have hR2 : R = none := by rw [hR]; exact atP_no hl0 hno1 hno2
        rw [hR2]
        refine p_build (vs := zN) pl_nd z_nd rfl ?_
        refine s_storeA 0 zN M rfl sz_nd rfl rfl rfl (all1 rfl) rfl ?_
        clear M; rintro W M
        dsimp only [setL] at M
        refine c_loadN zN agg_nd rfl rfl (M.run 0 rfl) ?_
        exact ⟨zN, rfl, RdL.znone, M.below⟩
      ·
        have hR2 : R = none := by rw [hR]; exact atP_no hl0 hno1 hno2
        rw [hR2]
        refine p_build (vs := zN) pl_nd z_nd rfl ?_
        refine s_storeA 0 zN M rfl sz_nd rfl rfl rfl (all1 rfl) rfl ?_
        clear M; rintro W M
        dsimp only [setL] at M
        refine c_loadN zN agg_nd rfl rfl (M.run 0 rfl) ?_
        exact ⟨zN, rfl, RdL.znone, M.below⟩
  have h1 : t.kids.length = 1 := by have h : ((t.kids.length : Nat) : Int) = 1 := h1; omega
  refine p_fld fN1 rfl ?_
  refine v_load agg_b rfl ((M.B 1 rfl).at_ rfl) ?_
  refine cc is_begins (begins_any _ _ _ _ c cp l t.path _ (M.rdb 4 rfl).2.2 hcap (M.rdb 2 rfl).2.2 (by omega) (by omega)) ?_
  rintro e W ⟨q, rfl, hq, hbb⟩
  replace M := M.call hbb
  clear hbb
  refine ⟨_, rfl, ?_⟩
  cases q with
  | false =>
    have hno1 : ¬ (t.kind = 2 ∧ t.path <+: l ∧ t.kids.length = 1) := fun h => by have := hq.2 h.2.1; cases this
    clear h2
    by_cases hb : t.kind = 3 ∧ x < t.kids.length
    · obtain ⟨kd, hkd⟩ : ∃ kd, t.kids[x]? = some kd := ⟨_, List.getElem?_eq_getElem hb.2⟩
      have hgd : t.kids.getD x noneN = kd := by rw [List.getD_eq_getElem?_getD, hkd]; rfl
      have hkz := szs_mem (List.mem_of_getElem? hkd)
      obtain ⟨b1, o1, es, e1, hel, M'⟩ := M.kid (M.d1 1 rfl) hkd
      replace M := M'; clear M'
      obtain ⟨Kp', fp, Kv, fv, Kk, fk, Kh, fh, rfl, -⟩ := (M.da 1 rfl).node
      replace M := M.drew
      refine drT (Kp w gs [(g2, 26, ncs t Ap cp Av cv Ak ck Ah ch)] [.loc ((⟨b1, o1, none⟩ : Addr).add (x * 6)) (ncs kd Kp' fp Kv fv Kk fk Kh fh), .loc ((⟨b0, o0, none⟩ : Addr).add (0 * 1)) [.int .u8 (x : Int)]]) (.take 0 (.take 1 (.take 2 (.take 3 (.take 4 (.take 5 (.take 6 (.take 7 (.take 8 (.take 9 (.take 10 (.take 11 (.take 12 (.take 13 (.take 14 (.take 15 (.take 16 (.take 17 (.take 18 (.take 19 (.take 20 (.take 21 (.take 22 (.take 23 (.nil))))))))))))))))))))))))) (by kernel_rfl) (M.kp (by simp) (by simp)) ?_
      refine p_fld fN0 rfl ?_
      refine t_load agg_int rfl (fun W K => (K.B 0 rfl).at_ rfl) ?_
      refine p_eq rfl rfl (fun _ => ?_) (fun h => absurd hb.1 h)
      refine p_at (i := 0) slb rfl rfl rfl hn0 ?_
      refine t_load agg_by' rfl (fun W K => K.lc 1 rfl 0 _ rfl) ?_
      refine t_cvt u_u8r u_intr rfl (r := ((x : Nat) : Int)) (w64 (by omega)) ?_
      refine p_fld fN4 rfl ?_
      refine t_load agg_ns rfl (fun W K => (K.B 0 rfl).at_ rfl) ?_
      refine p_len sln rfl ?_
      refine p_lt rfl rfl (fun _ => ?_) (fun h => absurd (show (x : Int) < (t.kids.length : Int) by have := hb.2; omega) h)
      refine p_fld fN4 rfl ?_
      refine t_load agg_ns rfl (fun W K => (K.B 0 rfl).at_ rfl) ?_
      refine p_at (i := 0) slb rfl rfl rfl hn0 ?_
      refine t_load agg_by' rfl (fun W K => K.lc 1 rfl 0 _ rfl) ?_
      refine p_at (i := x) sln (by show (Value.slice Ak t.kids.length ck) = _; rw [e1]) rfl rfl hb.2 ?_
      refine p_fld fN0 rfl ?_
      refine t_load agg_int rfl (fun W K => K.lc 0 rfl 0 _ rfl) ?_
      refine p_ne rfl rfl (fun hk0 => ?_) (fun hk0 => ?_)
      · have hk0 : kd.kind = 0 := hk0
        have hno2 : ¬ (t.kind = 3 ∧ (l.getD 0 0).toNat < t.kids.length ∧ (t.kids.getD (l.getD 0 0).toNat noneN).kind ≠ 0) := fun h => by rw [← hx, hgd] at h; exact h.2.2 hk0
        have hR2 : R = none := by rw [hR]; exact atP_no hl0 hno1 hno2
        rw [hR2]
        refine p_build (vs := zN) pl_nd z_nd rfl ?_
        refine s_storeA 0 zN M rfl sz_nd rfl rfl rfl (all1 rfl) rfl ?_
        clear M; rintro W M
        dsimp only [setL] at M
        refine c_loadN zN agg_nd rfl rfl (M.run 0 rfl) ?_
        exact ⟨zN, rfl, RdL.znone, M.below⟩
      · have hk0 : kd.kind ≠ 0 := hk0
        have hR2 : R = atP kd (l.drop 1) := by rw [hR, atP_br hl0 hb.1 (by rw [← hx]; exact hb.2) (by rw [← hx, hgd]; exact hk0), ← hx, hgd]
        have hcut := (M.d1 6 rfl).cutB (i := 1) (j := n) (m := c) (by omega) (Nat.le_refl _) hcap
        rw [List.take_of_length_le (by rw [List.length_drop]; omega)] at hcut
        replace M := (M.addD hcut).drew
        clear hcut
        refine drT (Kp w gs [(g2, 26, ncs t Ap cp Av cv Ak ck Ah ch)] [.loc ((⟨b1, o1, none⟩ : Addr).add (x * 6)) (ncs kd Kp' fp Kv fv Kk fk Kh fh), .loc ((⟨b0, o0, none⟩ : Addr).add (0 * 1)) [.int .u8 (x : Int)]]) (.take 0 (.take 1 (.take 2 (.take 3 (.take 4 (.take 5 (.take 6 (.take 7 (.take 8 (.one 9 (.take 10 (.take 11 (.one 12 (.take 13 (.nil))))))))))))))) (by kernel_rfl) (M.kp (by simp) (by simp)) ?_
        refine p_fld fN4 rfl ?_
        refine t_load agg_ns rfl (fun W K => (K.B 0 rfl).at_ rfl) ?_
        refine p_at (i := 0) slb rfl rfl rfl hn0 ?_
        refine t_load agg_by' rfl (fun W K => K.lc 1 rfl 0 _ rfl) ?_
        refine p_at (i := x) sln (by show (Value.slice Ak t.kids.length ck) = _; rw [e1]) rfl rfl hb.2 ?_
        refine t_loadN (ncs kd Kp' fp Kv fv Kk fk Kh fh) agg_nd rfl rfl (fun W K => K.lc 0 rfl) ?_
        refine p_slice (i := 1) (j := n) (m := c) slb rfl (bnd_i rfl) rfl rfl rfl (by omega) hcap (Nat.le_refl _) ?_
        have ca := ih kd (by omega) (l.drop 1) _ _ (ncs kd Kp' fp Kv fv Kk fk Kh fh) _ _ _ (M.da 2 rfl) (M.d1 0 rfl) M.olt (by omega)
        rw [← hR2] at ca
        refine cc is_tat ca ?_
        clear ca
        rintro e W ⟨cs9, rfl, r9, hb9⟩
        have hc9 := r9.len
        rw [dN_len] at hc9
        replace M := (M.call hb9).addL r9
        clear r9 hb9
        refine ⟨_, rfl, (M.kp (by simp) (by simp)), ?_⟩
        refine s_storeA 0 cs9 M rfl sz_nd rfl rfl hc9 ((M.da 0 rfl).ones (dN_one _)) rfl ?_
        clear M; rintro W M
        dsimp only [setL] at M
        refine ⟨(M.kp (by simp) (by simp)), ?_⟩
        refine c_loadN cs9 agg_nd rfl hc9 (M.run 0 rfl) ?_
        exact ⟨cs9, rfl, M.fin 0 rfl, M.below⟩
    · have hno2 : ¬ (t.kind = 3 ∧ (l.getD 0 0).toNat < t.kids.length ∧ (t.kids.getD (l.getD 0 0).toNat noneN).kind ≠ 0) := fun h => by rw [← hx] at h; exact hb ⟨h.1, h.2.1⟩
      replace M := M.drew
      refine drT (Kp w gs [(g2, 26, ncs t Ap cp Av cv Ak ck Ah ch)] [.loc ((⟨b0, o0, none⟩ : Addr).add (0 * 1)) [.int .u8 (x : Int)]]) (.take 0 (.take 1 (.take 2 (.take 3 (.take 4 (.take 5 (.take 6 (.take 7 (.take 8 (.take 9 (.take 10 (.take 11 (.take 12 (.take 13 (.take 14 (.take 15 (.take 16 (.take 17 (.take 18 (.take 19 (.take 20 (.take 21 (.take 22 (.take 23 (.nil))))))))))))))))))))))))) (by kernel_rfl) (M.kp (by simp) (by simp)) ?_
      refine p_fld fN0 rfl ?_
      refine t_load agg_int rfl (fun W K => (K.B 0 rfl).at_ rfl) ?_
      refine p_eq rfl rfl (fun h3 => ?_) (fun h3 => ?_)
      · refine p_at (i := 0) slb rfl rfl rfl hn0 ?_
        refine t_load agg_by' rfl (fun W K => K.lc 0 rfl 0 _ rfl) ?_
        refine t_cvt u_u8r u_intr rfl (r := ((x : Nat) : Int)) (w64 (by omega)) ?_
        refine p_fld fN4 rfl ?_
        refine t_load agg_ns rfl (fun W K => (K.B 0 rfl).at_ rfl) ?_
        refine p_len sln rfl ?_
        refine p_lt rfl rfl (fun h => absurd ⟨h3, by have h : (x : Int) < (t.kids.length : Int) := h; omega⟩ hb) (fun _ => ?_)
        have hR2 : R = none := by rw [hR]; exact atP_no hl0 hno1 hno2
        rw [hR2]
        refine p_build (vs := zN) pl_nd z_nd rfl ?_
        refine s_storeA 0 zN M rfl sz_nd rfl rfl rfl (all1 rfl) rfl ?_
        clear M; rintro W M
        dsimp only [setL] at M
        refine c_loadN zN agg_nd rfl rfl (M.run 0 rfl) ?_
        exact ⟨zN, rfl, RdL.znone, M.below⟩
      ·
        have hR2 : R = none := by rw [hR]; exact atP_no hl0 hno1 hno2
        rw [hR2]
        refine p_build (vs := zN) pl_nd z_nd rfl ?_
        refine s_storeA 0 zN M rfl sz_nd rfl rfl rfl (all1 rfl) rfl ?_
        clear M; rintro W M
        dsimp only [setL] at M
        refine c_loadN zN agg_nd rfl rfl (M.run 0 rfl) ?_
        exact ⟨zN, rfl, RdL.znone, M.below⟩
  | true =>
    have hq := hq.1 rfl
    have hpl := hq.length_le
    obtain ⟨kd, hkd⟩ : ∃ kd, t.kids[0]? = some kd := ⟨_, List.getElem?_eq_getElem (by omega)⟩
    have hgd : t.kids.getD 0 noneN = kd := by rw [List.getD_eq_getElem?_getD, hkd]; rfl
    have hkz := szs_mem (List.mem_of_getElem? hkd)
    have hR2 : R = atP kd (l.drop t.path.length) := by rw [hR, atP_way hl0 h2 hq h1, hgd]
    obtain ⟨b1, o1, es, e1, hel, M'⟩ := M.kid (M.d1 1 rfl) hkd
    replace M := M'; clear M'
    have hcut := (M.d1 6 rfl).cutB (i := t.path.length) (j := n) (m := c) (by omega) (Nat.le_refl _) hcap
    rw [List.take_of_length_le (by rw [List.length_drop]; omega)] at hcut
    replace M := (M.addD hcut).drew
    clear hcut
    refine drT (Kp w gs [(g2, 26, ncs t Ap cp Av cv Ak ck Ah ch)] [.loc ((⟨b1, o1, none⟩ : Addr).add (0 * 6)) es]) (.take 0 (.take 1 (.take 2 (.take 3 (.take 4 (.take 5 (.take 6 (.take 7 (.take 8 (.one 9 (.take 10 (.take 11 (.one 12 (.take 13 (.nil))))))))))))))) (by kernel_rfl) (M.kp (by simp) (by simp)) ?_
    refine p_fld fN4 rfl ?_
    refine t_load agg_ns rfl (fun W K => (K.B 0 rfl).at_ rfl) ?_
    refine p_at (i := 0) sln (by show (Value.slice Ak t.kids.length ck) = _; rw [e1]) rfl rfl (by omega) ?_
    refine t_loadN es agg_nd rfl hel (fun W K => K.lc 0 rfl) ?_
    refine p_fld fN1 rfl ?_
    refine t_load agg_b rfl (fun W K => (K.B 0 rfl).at_ rfl) ?_
    refine p_len slb rfl ?_
    refine p_slice (i := t.path.length) (j := n) (m := c) slb rfl (bnd_i rfl) rfl rfl rfl (by omega) hcap (Nat.le_refl _) ?_
    have ca := ih kd (by omega) (l.drop t.path.length) _ _ es _ _ _ (M.da 2 rfl) (M.d1 0 rfl) M.olt (by omega)
    rw [← hR2] at ca
    refine cc is_tat ca ?_
    clear ca
    rintro e W ⟨cs9, rfl, r9, hb9⟩
    have hc9 := r9.len
    rw [dN_len] at hc9
    replace M := (M.call hb9).addL r9
    clear r9 hb9
    refine ⟨_, rfl, (M.kp (by simp) (by simp)), ?_⟩
    refine s_storeA 0 cs9 M rfl sz_nd rfl rfl hc9 ((M.da 0 rfl).ones (dN_one _)) rfl ?_
    clear M; rintro W M
    dsimp only [setL] at M
    refine ⟨(M.kp (by simp) (by simp)), ?_⟩
    refine c_loadN cs9 agg_nd rfl hc9 (M.run 0 rfl) ?_
    exact ⟨cs9, rfl, M.fin 0 rfl, M.below⟩
theorem tat_any (t : Nd) (ht : sz t < 10000000) : TAtOk t := by
  have key : ∀ (N : Nat), N ≤ 10000000 → ∀ t : Nd, sz t < N → TAtOk t := by
    intro N
    induction N with
    | zero => intro _ t h; omega
    | succ N ih => intro hN t h; exact tat_step N (fun k hk => ih (by omega) k hk) t (by omega) (by omega)
  exact key 10000000 (Nat.le_refl _) t ht
def TBelOk (a : Nd) : Prop := ∀ (b : Nd) (gs : List (Option Nat)) (w : World) (ca cb : List Value), RdL w (Fd w gs) (dN a) ca → RdL w (Fd w gs) (dN b) cb → (∀ b, some b ∈ gs → b < w.heap.size) → sz b ≤ 1000000 →
  Calls Tryd.prog 85 #[.agg ca.toArray, .agg cb.toArray] w fun e w' => ∃ q : Bool, e = .returned (.bool q) ∧ (q = true ↔ agP a b = true) ∧ Below w.heap.size w w'
set_option maxRecDepth 100000 in
set_option maxHeartbeats 2000000 in
theorem tbel_step (N : Nat) (ih : ∀ k : Nd, sz k < N → TBelOk k) (a : Nd) (ht : sz a ≤ N) (hN : N ≤ 1000000) : TBelOk a := by
  intro b gs w ca cb hra hrb hgs hzb
  refine calls_ev (args := [.agg ca.toArray, .agg cb.toArray]) mixed Tryd.func85 rfl (by kernel_rfl) ?_
  obtain ⟨Ap, cp, Av, cv, Ak, ck, Ah, ch, rfl, r1, r3, r4, r5⟩ := id hra.node
  obtain ⟨Bp, dp, Bv, dv, Bk, dk, Bh, dh, rfl, s1, s3, s4, s5⟩ := id hrb.node
  have hsz := sz_eq a
  have hsl := szs_len a.kids
  have hsz' := sz_eq b
  have hsl' := szs_len b.kids
  have M := ((((((((St.start hgs).addL hrb).addL hra).addD r3).addD r1).addD s3).addD s1).addD s4).addD r4
  clear r1 r3 r4 r5 hra s1 s3 s4 s5 hrb
  refine s_box (ncs a Ap cp Av cv Ak ck Ah ch) M rfl ?_
  clear M
  rintro g2 W M
  refine s_box (ncs b Bp dp Bv dv Bk dk Bh dh) M rfl ?_
  clear M
  rintro g3 W M
  refine p_fld fN0 rfl ?_
  refine v_load agg_int rfl ((M.B 1 rfl).at_ rfl) ?_
  refine p_eq rfl rfl (fun h4 => ?_) (fun h4 => ?_)
  · have h4 : a.kind = 4 := h4
    replace M := M.drew
    refine drT (Kp w gs [(g3, 26, ncs b Bp dp Bv dv Bk dk Bh dh), (g2, 26, ncs a Ap cp Av cv Ak ck Ah ch)] []) (.take 0 (.take 2 (.one 1 (.one 3 (.one 4 (.take 5 (.nil))))))) (by kernel_rfl) (M.kp (by simp) (by simp)) ?_
    refine t_loadN (ncs a Ap cp Av cv Ak ck Ah ch) agg_nd rfl rfl (fun W K => K.run 1 rfl) ?_
    refine t_loadN (ncs b Bp dp Bv dv Bk dk Bh dh) agg_nd rfl rfl (fun W K => K.run 0 rfl) ?_
    refine cc is_r7hash (rhash_any a (by omega) _ _ _ (M.da 6 rfl) M.olt) ?_
    rintro e W ⟨A5, n5, c5, rfl, o, hb⟩
    replace M := M.callO hb o
    clear o hb
    refine ⟨_, rfl, (M.kp (by simp) (by simp)), ?_⟩
    refine cc is_r7hash (rhash_any b (by omega) _ _ _ (M.da 8 rfl) M.olt) ?_
    rintro e W ⟨A6, n6, c6, rfl, o, hb⟩
    replace M := M.callO hb o
    clear o hb
    refine ⟨_, rfl, (M.kp (by simp) (by simp)), ?_⟩
    obtain ⟨q, hq, hc⟩ := same_tf (c1 := c5) (c2 := c6) (M.rdb 1 rfl).2.2 (M.rdb 0 rfl).2.2
    refine cc is_same0 hc ?_
    rintro e W' ⟨rfl, rfl⟩
    refine ⟨_, rfl, (M.kp (by simp) (by simp)), ?_⟩
    exact ⟨q, rfl, by rw [agP_eq, if_pos h4, decide_eq_true_eq]; exact hq, M.below⟩
  have h4 : ¬ a.kind = 4 := h4
  refine p_fld fN0 rfl ?_
  refine v_load agg_int rfl ((M.B 1 rfl).at_ rfl) ?_
  skip
  refine p_fld fN0 rfl ?_
  refine v_load agg_int rfl ((M.B 0 rfl).at_ rfl) ?_
  skip
  refine p_ne rfl rfl (fun hk => ?_) (fun hk => ?_)
  rotate_left
  · have hk : ¬ a.kind = b.kind := hk
    exact ⟨false, rfl, ⟨(fun h => by cases h), fun h => by rw [agP_eq, if_neg h4] at h; simp only [Bool.and_eq_true, decide_eq_true_eq] at h; exact absurd h.1 hk⟩, M.below⟩
  have hk : a.kind = b.kind := hk
  refine p_fld fN2 rfl ?_
  refine v_load agg_bo rfl ((M.B 1 rfl).at_ rfl) ?_
  skip
  refine p_fld fN2 rfl ?_
  refine v_load agg_bo rfl ((M.B 0 rfl).at_ rfl) ?_
  skip
  refine p_bneC u_bool rfl rfl (fun hh => ?_) (fun hh => ?_)
  rotate_left
  ·
    exact ⟨false, rfl, ⟨(fun h => by cases h), fun h => by rw [agP_eq, if_neg h4] at h; simp only [Bool.and_eq_true, decide_eq_true_eq] at h; exact absurd h.2.1 hh⟩, M.below⟩
  refine p_fld fN1 rfl ?_
  refine v_load agg_b rfl ((M.B 1 rfl).at_ rfl) ?_
  skip
  refine p_fld fN1 rfl ?_
  refine v_load agg_b rfl ((M.B 0 rfl).at_ rfl) ?_
  skip
  obtain ⟨q4, hq4, hc4⟩ := same_tf (c1 := cp) (c2 := dp) (M.rdb 4 rfl).2.2 (M.rdb 2 rfl).2.2
  refine cc is_same0 hc4 ?_
  rintro e W' ⟨rfl, rfl⟩
  refine ⟨_, rfl, ?_⟩
  clear hc4
  refine p_not rfl ?_
  cases q4 with
  | false =>
    have hp : ¬ a.path = b.path := fun e => by have := hq4.2 e; cases this
    exact ⟨false, rfl, ⟨(fun h => by cases h), fun h => by rw [agP_eq, if_neg h4] at h; simp only [Bool.and_eq_true, decide_eq_true_eq] at h; exact absurd h.2.2.1 hp⟩, M.below⟩
  | true =>
  have hp : a.path = b.path := hq4.1 rfl
  refine p_fld fN3 rfl ?_
  refine v_load agg_b rfl ((M.B 1 rfl).at_ rfl) ?_
  skip
  refine p_fld fN3 rfl ?_
  refine v_load agg_b rfl ((M.B 0 rfl).at_ rfl) ?_
  skip
  obtain ⟨q5, hq5, hc5⟩ := same_tf (c1 := cv) (c2 := dv) (M.rdb 5 rfl).2.2 (M.rdb 3 rfl).2.2
  refine cc is_same0 hc5 ?_
  rintro e W' ⟨rfl, rfl⟩
  refine ⟨_, rfl, ?_⟩
  clear hc5
  refine p_not rfl ?_
  cases q5 with
  | false =>
    have hv : ¬ a.val = b.val := fun e => by have := hq5.2 e; cases this
    exact ⟨false, rfl, ⟨(fun h => by cases h), fun h => by rw [agP_eq, if_neg h4] at h; simp only [Bool.and_eq_true, decide_eq_true_eq] at h; exact absurd h.2.2.2.1 hv⟩, M.below⟩
  | true =>
  have hv : a.val = b.val := hq5.1 rfl
  refine p_fld fN4 rfl ?_
  refine v_load agg_ns rfl ((M.B 1 rfl).at_ rfl) ?_
  (refine p_len sln rfl ?_)
  refine p_fld fN4 rfl ?_
  refine v_load agg_ns rfl ((M.B 0 rfl).at_ rfl) ?_
  (refine p_len sln rfl ?_)
  have hall : agP a b = agsP a.kids b.kids := by
    rw [agP_eq, if_neg h4, decide_eq_true hk, decide_eq_true hh, decide_eq_true hp, decide_eq_true hv]; simp
  refine p_ne rfl rfl (fun hkl => ?_) (fun hkl => ?_)
  rotate_left
  · have hkl : ¬ a.kids.length = b.kids.length := fun e => hkl (by show ((a.kids.length : Nat) : Int) = _; rw [e])
    exact ⟨false, rfl, ⟨(fun h => by cases h), fun h => by rw [hall, agsP_iff] at h; exact absurd h.1 hkl⟩, M.below⟩
  have hkl : a.kids.length = b.kids.length := by have h : ((a.kids.length : Nat) : Int) = ((b.kids.length : Nat) : Int) := hkl; omega
  refine lp Nat (fun i W => i ≤ a.kids.length ∧ (∀ (j : Nat) (x y : Nd), j < i → a.kids[j]? = some x → b.kids[j]? = some y → agP x y = true) ∧ St w gs W [(g3, 26, ncs b Bp dp Bv dv Bk dk Bh dh), (g2, 26, ncs a Ap cp Av cv Ak ck Ah ch)] [] [.dat false [dKs a.kids] [.slice Ak a.kids.length ck], .dat false [dKs b.kids] [.slice Bk b.kids.length dk]])
    (fun i => [(2, .pointer (some ⟨g2, 0, none⟩)), (3, .pointer (some ⟨g3, 0, none⟩)), (5, .int .i64 (i : Nat))]) (fun i => a.kids.length - i) 0 ⟨Nat.zero_le _, (fun j x y h => absurd h (Nat.not_lt_zero _)), M.fsub _ (by simp)⟩ (by repeat (first | exact trivial | refine ⟨rfl, ?_⟩)) ?_
  clear M
  rintro i E W ⟨hi, hP, M⟩
  refine p_fld fN4 rfl ?_
  refine v_load agg_ns rfl ((M.B 1 rfl).at_ rfl) ?_
  refine p_len sln rfl ?_
  refine p_lt rfl rfl (fun hlt => ?_) (fun hge => ?_)
  · have hlt' : i < a.kids.length := by have h : (i : Int) < (a.kids.length : Int) := hlt; omega
    have hltb : i < b.kids.length := by omega
    obtain ⟨x, hx⟩ : ∃ x, a.kids[i]? = some x := ⟨_, List.getElem?_eq_getElem hlt'⟩
    obtain ⟨y, hy⟩ : ∃ y, b.kids[i]? = some y := ⟨_, List.getElem?_eq_getElem hltb⟩
    have hxz := szs_mem (List.mem_of_getElem? hx)
    have hyz := szs_mem (List.mem_of_getElem? hy)
    obtain ⟨b1, o1, xs, e1, hxl, M'⟩ := M.kid (M.d1 0 rfl) hx
    replace M := M'; clear M'
    obtain ⟨b2, o2, ys, e2, hyl, M'⟩ := M.kid (M.d1 3 rfl) hy
    replace M := M'.drew; clear M'
    refine drT (Kp w gs [(g3, 26, ncs b Bp dp Bv dv Bk dk Bh dh), (g2, 26, ncs a Ap cp Av cv Ak ck Ah ch)] [.loc ((⟨b2, o2, none⟩ : Addr).add (i * 6)) ys, .loc ((⟨b1, o1, none⟩ : Addr).add (i * 6)) xs]) (.take 0 (.take 1 (.take 2 (.take 3 (.take 4 (.take 5 (.take 6 (.take 7 (.take 8 (.take 9 (.one 10 (.take 11 (.nil))))))))))))) (by kernel_rfl) (M.kp (by simp) (by simp)) ?_
    refine p_fld fN4 rfl ?_
    refine t_load agg_ns rfl (fun W K => (K.B 1 rfl).at_ rfl) ?_
    refine p_at (i := i) sln (by show (Value.slice Ak a.kids.length ck) = _; rw [e1]) rfl rfl hlt' ?_
    refine t_loadN xs agg_nd rfl hxl (fun W K => K.lc 1 rfl) ?_
    refine p_fld fN4 rfl ?_
    refine t_load agg_ns rfl (fun W K => (K.B 0 rfl).at_ rfl) ?_
    refine p_at (i := i) sln (by show (Value.slice Bk b.kids.length dk) = _; rw [e2]) rfl rfl hltb ?_
    refine t_loadN ys agg_nd rfl hyl (fun W K => K.lc 0 rfl) ?_
    refine cc is_tbelow (ih x (by omega) y _ _ xs ys (M.da 3 rfl) (M.da 1 rfl) M.olt (by omega)) ?_
    rintro e W ⟨q, rfl, hq, hb⟩
    replace M := M.call hb
    refine ⟨_, rfl, (M.kp (by simp) (by simp)), ?_⟩
    refine p_not rfl ?_
    cases q with
    | false =>
      exact ⟨false, rfl, ⟨(fun h => by cases h), fun h => by rw [hall, agsP_iff] at h; have := hq.2 (h.2 i x y hx hy); cases this⟩, M.below⟩
    | true =>
      refine p_addN (b := 1) rfl rfl (by omega) ?_
      refine ⟨i + 1, ⟨by omega, fun j a' b' hj ha hb => ?_, M.fsub _ (by simp)⟩, (by repeat (first | exact trivial | refine ⟨rfl, ?_⟩)), by omega⟩
      by_cases e : j = i
      · subst e
        rw [hx] at ha; rw [hy] at hb
        injection ha with ha; injection hb with hb
        subst ha; subst hb
        exact hq.1 rfl
      · exact hP j a' b' (by omega) ha hb
  · have hge : i = a.kids.length := by have h : ¬ (i : Int) < (a.kids.length : Int) := hge; omega
    exact ⟨true, rfl, ⟨fun _ => by rw [hall, agsP_iff]; exact ⟨hkl, fun j x y hx hy => hP j x y (by rw [hge]; exact (List.getElem?_eq_some_iff.1 hx).1) hx hy⟩, fun _ => rfl⟩, M.below⟩
theorem tbel_any (t : Nd) (ht : sz t < 1000000) : TBelOk t := by
  have key : ∀ (N : Nat), N ≤ 1000000 → ∀ t : Nd, sz t < N → TBelOk t := by
    intro N
    induction N with
    | zero => intro _ t h; omega
    | succ N ih => intro hN t h; exact tbel_step N (fun k hk => ih (by omega) k hk) t (by omega) (by omega)
  exact key 1000000 (Nat.le_refl _) t ht
theorem hashR_len (t : Nd) : decide ((hashR t).length = 32) = decide (0 < (hashR t).length) := by
  rw [decide_eq_decide]
  unfold hashR
  split
  · rename_i h
    rw [hashP_len (val_of_right false _ t 0 (Nat.lt_succ_self _) h)]; simp
  · simp
set_option maxRecDepth 100000 in
set_option maxHeartbeats 2000000 in
theorem tAgr_any (a b : Nd) (ha : sz a < 1000000) (hbz : sz b < 1000000) (gs : List (Option Nat)) (w : World) (ca cb : List Value) (hra : RdL w (Fd w gs) (dN a) ca) (hrb : RdL w (Fd w gs) (dN b) cb) (hgs : ∀ b, some b ∈ gs → b < w.heap.size) :
    Calls Tryd.prog 62 #[.agg ca.toArray, .agg cb.toArray] w fun e w' => e = .returned (.bool (AgrP a b)) ∧ Below w.heap.size w w' := by
  refine calls_ev (args := [.agg ca.toArray, .agg cb.toArray]) mixed Tryd.func62 rfl (by kernel_rfl) ?_
  have hla := hra.len
  have hlb := hrb.len
  rw [dN_len] at hla hlb
  have M := ((St.start hgs).addL hrb).addL hra
  clear hra hrb
  refine s_box (ca) M rfl ?_
  clear M
  rintro g2 W M
  refine s_box (cb) M rfl ?_
  clear M
  rintro g3 W M
  refine v_loadN ca agg_nd rfl hla (M.run 1 rfl) ?_
  refine cc is_r7hash (rhash_any a (by omega) _ _ _ (M.da 0 rfl) M.olt) ?_
  rintro e W ⟨A5, n5, c5, rfl, o, hb⟩
  replace M := M.callO hb o
  have e5 := (M.d1 0 rfl).slen
  clear o hb
  refine ⟨_, rfl, ?_⟩
  unfold AgrP
  rw [← hashR_len]
  refine p_len slb rfl ?_
  refine p_eq rfl rfl (fun hgt => ?_) (fun hgt => ?_)
  rotate_left
  · have hgt : ¬ (hashR a).length = 32 := fun h => hgt (by show ((n5 : Nat) : Int) = 32; omega)
    rw [decide_eq_false hgt, Bool.false_and]
    exact ⟨rfl, M.below⟩
  have hgt : (hashR a).length = 32 := by have h : ((n5 : Nat) : Int) = 32 := hgt; omega
  rw [decide_eq_true hgt, Bool.true_and]
  refine v_loadN cb agg_nd rfl hlb (M.run 0 rfl) ?_
  refine cc is_r7hash (rhash_any b (by omega) _ _ _ (M.da 2 rfl) M.olt) ?_
  rintro e W ⟨A6, n6, c6, rfl, o, hb⟩
  replace M := M.callO hb o
  clear o hb
  refine ⟨_, rfl, ?_⟩
  obtain ⟨q, hq, hc⟩ := same_tf (c1 := c5) (c2 := c6) (M.rdb 1 rfl).2.2 (M.rdb 0 rfl).2.2
  refine cc is_same0 hc ?_
  rintro e W' ⟨rfl, rfl⟩
  refine ⟨_, rfl, ?_⟩
  clear hc
  cases q with
  | false =>
    rw [decide_eq_false (fun e => by have := hq.2 e; cases this), Bool.false_and]
    exact ⟨rfl, M.below⟩
  | true =>
  rw [decide_eq_true (hq.1 rfl), Bool.true_and]
  refine v_loadN ca agg_nd rfl hla (M.run 1 rfl) ?_
  refine v_loadN cb agg_nd rfl hlb (M.run 0 rfl) ?_
  refine cc is_tbelow (tbel_any a ha b _ _ _ _ (M.da 2 rfl) (M.da 3 rfl) M.olt (by omega)) ?_
  rintro e W ⟨q, rfl, hq, hb⟩
  replace M := M.call hb
  refine ⟨_, rfl, ?_⟩
  have : q = agP a b := by
    cases q with
    | true => exact (hq.1 rfl).symm
    | false => cases h : agP a b with
      | false => rfl
      | true => exact hq.2 h
  exact ⟨by rw [← this]; rfl, M.below⟩
end Go.Proofs.YtojjfkbffjkojaaDoor
