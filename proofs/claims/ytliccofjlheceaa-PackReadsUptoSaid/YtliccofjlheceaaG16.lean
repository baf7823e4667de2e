/- Package pack: the reader's node. -/
import Derived.Test.YtliccofjlheceaaG15
namespace Go.Proofs.Ytliccofjlheceaa
open Go.RowKit
theorem hnl0 {F : Nat → Prop} {W : World} : RdD W F (dB []) (.slice none 0 0) := RdD.nil_ (s := 1) none 0
theorem fe_id {e x : Int} (he : e ≠ 0) : fe e x = e := by unfold fe; rw [if_neg he]
theorem textX_nil : textX [] = none := rfl
set_option maxRecDepth 100000 in
set_option maxHeartbeats 2000000 in
theorem rnodeB (deep : Nat) (w W : World) (gs : List (Option Nat)) (g : Nat) (Ad : Option Addr) (nd cd : Nat) (left e : Int) (L : Lc) (R : List Row) (fs : List Fact) (he : e ≠ 0)
    (M : St w gs W ((g, 87, rc none 0 0 Ad nd cd left e) :: L) R fs) :
    Calls Try.prog 48 #[.pointer (some ⟨g, 0, none⟩), .int .i64 (deep : Nat)] W fun en W' => en = .returned (.agg zN.toArray) ∧ St w gs W' ((g, 87, rc none 0 0 Ad nd cd left e) :: L) R fs := by
  refine calls_ev (args := [.pointer (some ⟨g, 0, none⟩), .int .i64 (deep : Nat)]) mixed Try.func48 rfl (by kernel_rfl) ?_
  refine s_alloc (zN) M al_nd ?_
  clear M
  rintro g4 W M
  replace M := M.swp
  refine cc is_pcut (rcutB 1 (b := []) (by decide) (by decide) (fun _ => ⟨rfl, rfl, rfl⟩) M hnl0) ?_
  clear M
  rintro en W ⟨A1, rfl, M⟩
  refine ⟨_, rfl, ?_⟩
  rw [fe_id he] at M
  obtain ⟨bb, off, hA, hcell⟩ := (M.rdb 0 rfl).2.2.at_ (k := 0) (by decide)
  subst hA
  refine p_at (i := 0) slb rfl rfl rfl (by decide) ?_
  refine v_load agg_by' rfl (by rw [Addr.add_lit, Nat.zero_mul]; exact hcell) ?_
  refine p_nil rfl ?_
  refine p_fld fp3 rfl ?_
  refine v_load agg_errP rfl ((M.B 0 rfl).at_ rfl) ?_
  refine p_ne rfl rfl (fun h => absurd h he) (fun _ => ?_)
  refine p_build (vs := zN) pl_nd z_nd rfl ?_
  refine s_storeA 1 zN M rfl sz_nd rfl rfl rfl (all1 rfl) rfl ?_
  clear M; rintro W M
  dsimp only [setL] at M
  refine c_loadN zN agg_nd rfl rfl (M.run 1 rfl) ?_
  exact ⟨rfl, M.drop2.fsub _ (fun f h => by simp [h])⟩
def kz (c : UInt8) : List Value := [.int .i64 ((c.toNat : Nat) : Int), .slice none 0 0, .bool false, .slice none 0 0, .slice none 0 0, .slice none 0 0]
set_option maxRecDepth 100000 in
set_option maxHeartbeats 16000000 in
theorem rn_step (F : Nat) (ih : ∀ F', F = F' + 1 → RnOk F') : RnOk F := by
  intro B deep hdp hB w W gs g A n c Ad nd cd left b done xs L R fs hl0 hl5 hds hbB hdl M
  refine calls_ev (args := [.pointer (some ⟨g, 0, none⟩), .int .i64 (deep : Nat)]) mixed Try.func48 rfl (by kernel_rfl) ?_
  have en := (M.d1 1 rfl).slen
  refine s_alloc (zN) M al_nd ?_
  clear M
  rintro g4 W M
  replace M := M.swp
  cases b with
  | nil =>
    refine cc is_pcut (rcutB 1 (b := []) (by decide) (by decide) (fun h => absurd rfl h) M (M.d1 1 rfl)) ?_
    clear M
    rintro en W ⟨A1, rfl, M⟩
    refine ⟨_, rfl, ?_⟩
    rw [show fe 0 11 = 11 from rfl] at M
    obtain ⟨bb, off, hA, hcell⟩ := (M.rdb 0 rfl).2.2.at_ (k := 0) (by decide)
    subst hA
    refine p_at (i := 0) slb rfl rfl rfl (by decide) ?_
    refine v_load agg_by' rfl (by rw [Addr.add_lit, Nat.zero_mul]; exact hcell) ?_
    refine p_nil rfl ?_
    refine p_fld fp3 rfl ?_
    refine v_load agg_errP rfl ((M.B 0 rfl).at_ rfl) ?_
    refine p_ne rfl rfl (fun h => absurd (show (11 : Int) = 0 from h) (by decide)) (fun _ => ?_)
    refine p_build (vs := zN) pl_nd z_nd rfl ?_
    refine s_storeA 1 zN M rfl sz_nd rfl rfl rfl (all1 rfl) rfl ?_
    clear M; rintro W M
    dsimp only [setL] at M
    refine c_loadN zN agg_nd rfl rfl (M.run 1 rfl) ?_
    rw [oneF_nil]
    exact ⟨zN, noneN, none, 0, 0, Ad, nd, cd, xs, [], done, left, 11, rfl, (((M.addD hnl0).addL RdL.znone).drop2).fsub _ (by intro f hf; simp only [List.mem_cons] at hf ⊢; rcases hf with h | h | h | h <;> simp [h]), rfl, rfl, rfl, rfl, rfl, by omega⟩
  | cons c0 b1 =>
    rw [List.length_cons] at hbB hdl en
    refine cc is_pcut (rcutG 1 (by simp) (by omega) M (M.d1 1 rfl)) ?_
    clear M
    rintro en' W ⟨A1, c1, A2, n2, c2, rfl, M⟩
    refine ⟨_, rfl, ?_⟩
    rw [show (c0 :: b1).take 1 = [c0] from rfl, show (c0 :: b1).drop 1 = b1 from rfl] at M
    have en2 := (M.d1 1 rfl).slen
    obtain ⟨bb, off, hA, hcell⟩ := (M.rdb 0 rfl).2.2.at_ (k := 0) Nat.one_pos
    subst hA
    refine p_at (i := 0) slb rfl rfl rfl Nat.one_pos ?_
    refine v_load agg_by' rfl (by rw [Addr.add_lit, Nat.zero_mul]; exact hcell) ?_
    clear hcell
    replace M := M.fsub (.dat false (dNs done) xs :: .dat false [dB b1] [.slice A2 n2 c2] :: fs) (by intro f hf; simp only [List.mem_cons] at hf ⊢; rcases hf with h | h | h <;> simp [h])
    refine p_nil rfl ?_
    refine p_fld fp3 rfl ?_
    refine v_load agg_errP rfl ((M.B 0 rfl).at_ rfl) ?_
    refine p_ne rfl rfl (fun _ => ?_) (fun h => absurd rfl h)
    refine p_eq rfl rfl (fun h5 => ?_) (fun h5 => ?_)
    · have h5 : c0 = 5 := UInt8.toNat_inj.1 (by have h : ((c0.toNat : Nat) : Int) = 5 := h5; show c0.toNat = 5; omega)
      have hS : oneF F (c0 :: b1) done left = againX b1 done left := by cases F <;> rw [oneF, if_pos h5]
      rw [hS]
      refine cc is_pagain (ragain_any B hB w _ gs g A2 n2 c2 Ad nd cd left b1 done xs _ R fs (done.length + (c0 :: b1).length + F) hl0 hl5 hds (by omega) (by omega) (by omega) M) ?_
      clear M
      rintro en W ⟨cs, tn, A3, n3, c3, b3, left3, e3, rfl, M, hP⟩
      refine ⟨_, rfl, ?_⟩
      have hcl := (M.da 0 rfl).len
      rw [dN_len] at hcl
      refine s_storeA 1 cs M rfl sz_nd rfl rfl hcl ((M.da 0 rfl).ones (dN_one _)) rfl ?_
      clear M; rintro W M
      dsimp only [setL] at M
      refine c_loadN cs agg_nd rfl hcl (M.run 1 rfl) ?_
      exact ⟨cs, tn, A3, n3, c3, Ad, nd, cd, xs, b3, done, left3, e3, rfl, M.drop2, hP⟩
    have h5 : ¬ c0 = 5 := fun e => h5 (by rw [e]; rfl)
    refine p_gt rfl rfl (fun h4 => ?_) (fun h4 => ?_)
    · have h4 : 4 < c0.toNat := by have h : (4 : Int) < ((c0.toNat : Nat) : Int) := h4; omega
      have hS : oneF F (c0 :: b1) done left = .bad 11 := by
        cases F with
        | zero => rw [oneF, if_neg h5]
        | succ F => rw [oneF, if_neg h5, if_pos h4]
      refine cc is_pfail (rfail0 11 M) ?_
      clear M
      rintro en W ⟨⟨v, rfl⟩, M⟩
      refine ⟨_, rfl, ?_⟩
      refine p_build (vs := zN) pl_nd z_nd rfl ?_
      refine s_storeA 1 zN M rfl sz_nd rfl rfl rfl (all1 rfl) rfl ?_
      clear M; rintro W M
      dsimp only [setL] at M
      refine c_loadN zN agg_nd rfl rfl (M.run 1 rfl) ?_
      rw [hS]
      exact ⟨zN, noneN, none, 0, 0, Ad, nd, cd, xs, [], done, left, 11, rfl, (((M.addD hnl0).addL RdL.znone).drop2).fsub _ (by intro f hf; simp only [List.mem_cons] at hf ⊢; rcases hf with h | h | h | h <;> simp [h]), rfl, rfl, rfl, rfl, rfl, by omega⟩
    have h4 : ¬ 4 < c0.toNat := by have h : ¬ (4 : Int) < ((c0.toNat : Nat) : Int) := h4; omega
    refine p_gt rfl rfl (fun hd => ?_) (fun hd => ?_)
    · have hd : (402 : Int) < ((deep : Nat) : Int) := hd
      have hF0 : F = 0 := by omega
      subst hF0
      have hS : oneF 0 (c0 :: b1) done left = .bad 11 := by rw [oneF, if_neg h5]
      refine cc is_pfail (rfail0 11 M) ?_
      clear M
      rintro en W ⟨⟨v, rfl⟩, M⟩
      refine ⟨_, rfl, ?_⟩
      refine p_build (vs := zN) pl_nd z_nd rfl ?_
      refine s_storeA 1 zN M rfl sz_nd rfl rfl rfl (all1 rfl) rfl ?_
      clear M; rintro W M
      dsimp only [setL] at M
      refine c_loadN zN agg_nd rfl rfl (M.run 1 rfl) ?_
      rw [hS]
      exact ⟨zN, noneN, none, 0, 0, Ad, nd, cd, xs, [], done, left, 11, rfl, (((M.addD hnl0).addL RdL.znone).drop2).fsub _ (by intro f hf; simp only [List.mem_cons] at hf ⊢; rcases hf with h | h | h | h <;> simp [h]), rfl, rfl, rfl, rfl, rfl, by omega⟩
    have hd : ¬ (402 : Int) < ((deep : Nat) : Int) := hd
    obtain ⟨F, rfl⟩ : ∃ F', F = F' + 1 := ⟨F - 1, by omega⟩
    have ih := ih F rfl
    obtain ⟨S0, hS0⟩ : ∃ S0, S0 = oneF (F + 1) (c0 :: b1) done left := ⟨_, rfl⟩
    rw [← hS0]
    have hszF := one_sz (B := B) (F + 1) (c0 :: b1) done left hl0 hl5 hds (by rw [List.length_cons]; exact hbB)
    rw [← hS0] at hszF
    rw [oneF_cons, if_neg h5, if_neg h4] at hS0
    refine v_cvt u_u8r u_intr rfl (r := ((c0.toNat : Nat) : Int)) (by show IntKind.i64.wrap ((c0.toNat : Nat) : Int) = _; exact w64 (by have := c0.toNat_lt; omega)) ?_
    refine p_build (vs := kz c0) pl_nd z_nd rfl ?_
    refine s_alloc (zN) M al_nd ?_
    clear M
    rintro g6 W M
    refine s_storeA 0 (kz c0) M rfl sz_nd rfl rfl rfl (all1 rfl) rfl ?_
    clear M; rintro W M
    dsimp only [setL] at M
    replace M := M.swp
    refine evOps_nil ?_
    refine nx ?_
    -- what is left is told
    refine cutS (Option Addr × Nat × Nat × Int × Int × List UInt8) (fun s W => St w gs W ((g, 87, rc s.1 s.2.1 s.2.2.1 Ad nd cd s.2.2.2.1 s.2.2.2.2.1) :: (g6, 38, kz c0) :: (g4, 38, zN) :: L) (⟨38, 6, Ad, nd, cd, xs⟩ :: R) (.dat false (dNs done) xs :: .dat false [dB s.2.2.2.2.2] [.slice s.1 s.2.1 s.2.2.1] :: fs) ∧
        ((s.2.2.2.2.1 = 0 ∧ s.2.2.2.2.2 = b1 ∧ 0 ≤ s.2.2.2.1 ∧ s.2.2.2.1 ≤ 5000 ∧ S0 = bodyX (oneF F) c0 b1 done s.2.2.2.1) ∨ (s.2.2.2.2.1 ≠ 0 ∧ s.2.2.2.2.2 = [] ∧ s.1 = none ∧ s.2.1 = 0 ∧ s.2.2.1 = 0 ∧ S0 = .bad s.2.2.2.2.1)))
      (fun s => [(0, .pointer (some ⟨g, 0, none⟩)), (1, .int .i64 (deep : Nat)), (4, .pointer (some ⟨g4, 0, none⟩)), (6, .pointer (some ⟨g6, 0, none⟩))]) ?_ ?_
    · refine p_fld fN0 rfl ?_
      refine v_load agg_int rfl ((M.B 1 rfl).at_ rfl) ?_
      refine p_ne rfl rfl (fun hk => ?_) (fun hk => ?_)
      · have hk : ((c0.toNat : Nat) : Int) = 0 := hk
        have hc0 : c0 = 0 := UInt8.toNat_inj.1 (by show c0.toNat = 0; omega)
        refine ⟨(A2, n2, c2, left, 0, b1), ⟨M, .inl ⟨rfl, rfl, hl0, hl5, ?_⟩⟩, (by repeat (first | exact trivial | refine ⟨rfl, ?_⟩))⟩
        rw [hS0, if_neg (fun h => h.1 hc0), if_pos hc0]
      · have hk : ¬ ((c0.toNat : Nat) : Int) = 0 := hk
        have hc0 : ¬ c0 = 0 := fun e => hk (by rw [e]; rfl)
        refine cc is_pcount (rcount 1 (by decide) hl0 hl5 M) ?_
        clear M
        rintro en W ⟨⟨v, rfl⟩, M⟩
        refine ⟨_, rfl, ?_⟩
        by_cases hneg : left - ((1 : Nat) : Int) < 0
        · rw [if_pos hneg] at M
          refine ⟨(none, 0, 0, left - ((1 : Nat) : Int), 3, []), ⟨(M.addD hnl0).fsub _ (by intro f hf; simp only [List.mem_cons] at hf ⊢; rcases hf with h | h | h <;> simp [h]), .inr ⟨(show (3 : Int) ≠ 0 by decide), rfl, rfl, rfl, rfl, ?_⟩⟩, (by repeat (first | exact trivial | refine ⟨rfl, ?_⟩))⟩
          rw [hS0, if_pos ⟨hc0, hneg⟩]
        · rw [if_neg hneg] at M
          refine ⟨(A2, n2, c2, left - ((1 : Nat) : Int), 0, b1), ⟨M, .inl ⟨rfl, rfl, by dsimp only; omega, by dsimp only; omega, ?_⟩⟩, (by repeat (first | exact trivial | refine ⟨rfl, ?_⟩))⟩
          rw [hS0, if_neg (fun h => hneg h.2), if_neg hc0]
          rfl
    clear M
    rintro ⟨A3, n3, c3, left3, e3, b3⟩ B3 W3 ⟨M, hJ⟩
    dsimp only at M hJ
    have hb3 : b3.length ≤ b1.length := by
      rcases hJ with ⟨_, h, _⟩ | ⟨_, h, _⟩
      · rw [h]; exact Nat.le_refl _
      · rw [h]; exact Nat.zero_le _
    have hbad3 : e3 ≠ 0 → A3 = none ∧ n3 = 0 ∧ c3 = 0 := fun h => by
      rcases hJ with ⟨h', _⟩ | ⟨_, _, h1, h2, h3, _⟩
      · exact absurd h' h
      · exact ⟨h1, h2, h3⟩
    have en3 := (M.d1 1 rfl).slen
    obtain ⟨Dd, hDd⟩ : ∃ D, D = done.length + (c0 :: b1).length + (F + 1) := ⟨_, rfl⟩
    rw [← hDd]
    rw [List.length_cons] at hDd
    -- the node's own
    refine cutS (List Value × Nd × Option Addr × Nat × Nat × Option Addr × Nat × Nat × List Value × Int × Int × List UInt8 × List Nd) (fun s W => s.1.length = 6 ∧ St w gs W ((g, 87, rc s.2.2.1 s.2.2.2.1 s.2.2.2.2.1 s.2.2.2.2.2.1 s.2.2.2.2.2.2.1 s.2.2.2.2.2.2.2.1 s.2.2.2.2.2.2.2.2.2.1 s.2.2.2.2.2.2.2.2.2.2.1) :: (g6, 38, s.1) :: (g4, 38, zN) :: L) (⟨38, 6, s.2.2.2.2.2.1, s.2.2.2.2.2.2.1, s.2.2.2.2.2.2.2.1, s.2.2.2.2.2.2.2.2.1⟩ :: R) (.dat false (dN s.2.1) s.1 :: .dat false (dNs s.2.2.2.2.2.2.2.2.2.2.2.2) s.2.2.2.2.2.2.2.2.1 :: .dat false [dB s.2.2.2.2.2.2.2.2.2.2.2.1] [.slice s.2.2.1 s.2.2.2.1 s.2.2.2.2.1] :: fs) ∧ s.2.2.2.2.2.2.2.2.2.2.2.2.length + 1 ≤ Dd ∧
        ((s.2.2.2.2.2.2.2.2.2.2.1 = 0 ∧ S0 = .got s.2.1 s.2.2.2.2.2.2.2.2.2.2.2.1 (s.2.2.2.2.2.2.2.2.2.2.2.2 ++ [s.2.1]) s.2.2.2.2.2.2.2.2.2.1) ∨ (s.2.2.2.2.2.2.2.2.2.2.1 ≠ 0 ∧ s.2.2.2.2.2.2.2.2.2.2.2.1 = [] ∧ s.2.2.1 = none ∧ s.2.2.2.1 = 0 ∧ s.2.2.2.2.1 = 0 ∧ S0 = .bad s.2.2.2.2.2.2.2.2.2.2.1)))
      (fun s => [(0, .pointer (some ⟨g, 0, none⟩)), (4, .pointer (some ⟨g4, 0, none⟩)), (6, .pointer (some ⟨g6, 0, none⟩))]) ?_ ?_
    · refine p_fld fN0 rfl ?_
      refine v_load agg_int rfl ((M.B 1 rfl).at_ rfl) ?_
      have h12 : ((c0.toNat : Nat) : Int) = 1 ↔ c0 = 1 := u8_one
      have h22 : ((c0.toNat : Nat) : Int) = 2 ↔ c0 = 2 := ⟨fun h => UInt8.toNat_inj.1 (by show c0.toNat = 2; omega), fun h => by rw [h]; rfl⟩
      have h32 : ((c0.toNat : Nat) : Int) = 3 ↔ c0 = 3 := ⟨fun h => UInt8.toNat_inj.1 (by show c0.toNat = 3; omega), fun h => by rw [h]; rfl⟩
      have h42 : ((c0.toNat : Nat) : Int) = 4 ↔ c0 = 4 := ⟨fun h => UInt8.toNat_inj.1 (by show c0.toNat = 4; omega), fun h => by rw [h]; rfl⟩
      refine p_eq rfl rfl (fun hk1 => ?_) (fun hk1 => ?_)
      · have hk1 : c0 = 1 := h12.1 hk1
        refine cutO Unit (fun _ W => St w gs W ((g, 87, rc A3 n3 c3 Ad nd cd left3 e3) :: (g6, 38, kz c0) :: (g4, 38, zN) :: L) (⟨38, 6, Ad, nd, cd, xs⟩ :: R) (.dat false (dNs done) xs :: .dat false [dB b3] [.slice A3 n3 c3] :: fs)) (fun _ => [(0, .pointer (some ⟨g, 0, none⟩)), (1, .int .i64 (deep : Nat)), (4, .pointer (some ⟨g4, 0, none⟩)), (6, .pointer (some ⟨g6, 0, none⟩)), (46, .bool true)]) ⟨(), M, (by repeat (first | exact trivial | refine ⟨rfl, ?_⟩))⟩ ?_
        clear M
        rintro - B7 W7 M
        refine nx ?_
        refine ev_ift rfl ?_
        refine ev_skp ?_
        refine nx ?_
        refine ev_ift rfl ?_
        refine ev_assoc ?_
        refine cutS (List UInt8 × Option Addr × Nat × Bool × Option Addr × Nat × Nat × Int × List UInt8) (fun s W => St w gs W ((g, 87, rc s.2.2.2.2.1 s.2.2.2.2.2.1 s.2.2.2.2.2.2.1 Ad nd cd left3 s.2.2.2.2.2.2.2.1) :: (g6, 38, kz c0) :: (g4, 38, zN) :: L) (⟨38, 6, Ad, nd, cd, xs⟩ :: R) (.dat false (dNs done) xs :: .dat false [dB s.2.2.2.2.2.2.2.2] [.slice s.2.2.2.2.1 s.2.2.2.2.2.1 s.2.2.2.2.2.2.1] :: .dat false [dB s.1] [.slice s.2.1 s.1.length s.2.2.1] :: fs) ∧
            ((s.2.2.2.2.2.2.2.1 = 0 ∧ s.2.2.2.1 = decide (c0 = 1) ∧ s.2.2.2.2.2.2.2.2.length ≤ b1.length ∧ 0 ≤ left3 ∧ left3 ≤ 5000 ∧ S0 = (if c0 = 1 then (match textX s.2.2.2.2.2.2.2.2 with | none => .bad 11 | some (v, b2) => .got (.mk 1 s.1 false v [] []) b2 (done ++ [Nd.mk 1 s.1 false v [] []]) left3) else (match oneF F s.2.2.2.2.2.2.2.2 done left3 with | .bad x => .bad x | .got k b2 d2 l2 => .got (.mk 2 s.1 false [] [k] []) b2 (d2 ++ [Nd.mk 2 s.1 false [] [k] []]) l2))) ∨
             (s.2.2.2.2.2.2.2.1 ≠ 0 ∧ s.2.2.2.2.2.2.2.2 = [] ∧ s.2.2.2.2.1 = none ∧ s.2.2.2.2.2.1 = 0 ∧ s.2.2.2.2.2.2.1 = 0 ∧ S0 = .bad s.2.2.2.2.2.2.2.1)))
          (fun s => [(0, .pointer (some ⟨g, 0, none⟩)), (1, .int .i64 (deep : Nat)), (4, .pointer (some ⟨g4, 0, none⟩)), (6, .pointer (some ⟨g6, 0, none⟩)), (7, .slice s.2.1 s.1.length s.2.2.1), (8, .bool s.2.2.2.1)]) ?_ ?_
        · cases ht : textX b3 with
          | none =>
            refine cc is_ptext (rtextB ht hbad3 (by omega) M (M.d1 1 rfl)) ?_
            clear M
            rintro en W ⟨rfl, M⟩
            refine ⟨_, rfl, ?_⟩
            replace M := M.addD hnl0
            refine cc is_pup (unpack_any none 0 0 [] _ (M.rdb 0 rfl).2.2 (by decide) (Nat.le_refl _)) ?_
            rintro en W ⟨A7, n7, c7, rfl, o7, hb7⟩
            have e7 := o7.len
            replace M := M.callO hb7 o7
            clear o7 hb7
            refine ⟨_, rfl, ?_⟩
            have hfe := fe_ne (x := 11) e3 (by decide)
            subst e7
            refine p_ne rfl rfl (fun h => absurd (show (10 : Int) = 0 from h) (by decide)) (fun _ => ?_)
            refine cc is_pfail (rfail 11 (fun _ => ⟨rfl, rfl, rfl⟩) M) ?_
            clear M
            rintro en W ⟨⟨v, rfl⟩, M⟩
            refine ⟨_, rfl, ?_⟩
            rw [fe_id hfe] at M
            replace M := (M.addD (M.d1 0 rfl)).addD hnl0
            refine ⟨(unpackL [], A7, c7, false, none, 0, 0, fe e3 11, []), ⟨M.fsub _ (by intro f hf; simp only [List.mem_cons] at hf ⊢; rcases hf with h | h | h | h <;> simp [h]), .inr ⟨hfe, rfl, rfl, rfl, rfl, ?_⟩⟩, (by repeat (first | exact trivial | refine ⟨rfl, ?_⟩))⟩
            rcases hJ with ⟨j1, j2, j3, j4, j5⟩ | ⟨j1, j2, j3, j4, j5, j6⟩
            · rw [j5, j1]
              unfold bodyX
              rw [if_pos (.inl hk1), ← j2, ht]
              rfl
            · rw [fe_id j1]; exact j6
          | some r =>
            obtain ⟨p, r⟩ := r
            obtain ⟨j1, j2, j3, j4, j5⟩ := hJ.resolve_right fun h => by
              obtain ⟨-, h2, -⟩ := h
              rw [h2, textX_nil] at ht; cases ht
            subst j1
            subst j2
            have hle := textX_le ht
            refine cc is_ptext (rtextG ht (by omega) M (M.d1 1 rfl)) ?_
            clear M
            rintro en W ⟨A7, c7, A8, n8, c8, rfl, M⟩
            refine ⟨_, rfl, ?_⟩
            refine cc is_pup (unpack_any _ _ _ p _ (M.rdb 0 rfl).2.2 (by omega) (M.rdb 0 rfl).2.1) ?_
            rintro en W ⟨A9, n9, c9, rfl, o9, hb9⟩
            have e9 := o9.len
            replace M := M.callO hb9 o9
            clear o9 hb9
            refine ⟨_, rfl, ?_⟩
            subst e9
            have hbody : ∀ q : unpackE p ≠ 0 ∨ unpackB p ≠ decide (c0 = 1), S0 = .bad 11 := fun q => by
              rw [j5]
              unfold bodyX
              rw [if_pos (.inl hk1), ht]
              dsimp only
              rw [if_pos q]
            refine p_ne rfl rfl (fun hE => ?_) (fun hE => ?_)
            rotate_left
            · have hE : ¬ unpackE p = 0 := hE
              refine cc is_pfail (rfail0 11 M) ?_
              clear M
              rintro en W ⟨⟨v, rfl⟩, M⟩
              refine ⟨_, rfl, ?_⟩
              replace M := (M.addD (M.d1 0 rfl)).addD hnl0
              refine ⟨(unpackL p, A9, c9, unpackB p, none, 0, 0, 11, []), ⟨M.fsub _ (by intro f hf; simp only [List.mem_cons] at hf ⊢; rcases hf with h | h | h | h <;> simp [h]), .inr ⟨(show (11 : Int) ≠ 0 by decide), rfl, rfl, rfl, rfl, hbody (.inl hE)⟩⟩, (by repeat (first | exact trivial | refine ⟨rfl, ?_⟩))⟩
            have hE : unpackE p = 0 := hE
            refine p_fld fN0 rfl ?_
            refine v_load agg_int rfl ((M.B 1 rfl).at_ rfl) ?_
            refine p_eqD rfl rfl ?_
            refine p_bneC u_bool rfl rfl (fun hq => ?_) (fun hq => ?_)
            rotate_left
            · have hq : unpackB p ≠ decide (c0 = 1) := fun h => hq (by rw [h]; exact decide_eq_decide.2 h12.symm)
              refine cc is_pfail (rfail0 11 M) ?_
              clear M
              rintro en W ⟨⟨v, rfl⟩, M⟩
              refine ⟨_, rfl, ?_⟩
              replace M := (M.addD (M.d1 0 rfl)).addD hnl0
              refine ⟨(unpackL p, A9, c9, unpackB p, none, 0, 0, 11, []), ⟨M.fsub _ (by intro f hf; simp only [List.mem_cons] at hf ⊢; rcases hf with h | h | h | h <;> simp [h]), .inr ⟨(show (11 : Int) ≠ 0 by decide), rfl, rfl, rfl, rfl, hbody (.inr hq)⟩⟩, (by repeat (first | exact trivial | refine ⟨rfl, ?_⟩))⟩
            have hq : unpackB p = decide (c0 = 1) := by rw [hq]; exact decide_eq_decide.2 h12
            replace M := M.addD (M.d1 0 rfl)
            refine ⟨(unpackL p, A9, c9, unpackB p, A8, n8, c8, 0, r), ⟨M.fsub _ (by intro f hf; simp only [List.mem_cons] at hf ⊢; rcases hf with h | h | h | h <;> simp [h]), .inl ⟨rfl, hq, hle.2, j3, j4, ?_⟩⟩, (by repeat (first | exact trivial | refine ⟨rfl, ?_⟩))⟩
            rw [j5]
            unfold bodyX
            rw [if_pos (.inl hk1), ht]
            dsimp only
            rw [if_neg (fun h => h.elim (fun h => h hE) (fun h => h hq))]
            (rw [if_pos hk1, if_pos hk1]; rcases textX r with _ | ⟨v, b2⟩ <;> rfl)
        clear M
        rintro ⟨Pl, Ap, cp, leaf, A6, n6, c6, e6, b6⟩ B6 W6 ⟨M, hL⟩
        dsimp only at M hL
        have en6 := (M.d1 1 rfl).slen
        have hb6 : b6.length ≤ b1.length := by
          rcases hL with ⟨_, _, h, _⟩ | ⟨_, h, _⟩
          · exact h
          · rw [h]; exact Nat.zero_le _
        have hbad6 : e6 ≠ 0 → A6 = none ∧ n6 = 0 ∧ c6 = 0 := fun h => by
          rcases hL with ⟨h', _⟩ | ⟨_, _, h1, h2, h3, _⟩
          · exact absurd h' h
          · exact ⟨h1, h2, h3⟩
        refine p_fld fN1 rfl ?_
        refine s_set 1 (off := 1) (.slice Ap Pl.length cp) (ncs (.mk ((c0.toNat : Nat) : Int) Pl false [] [] []) Ap cp none 0 none 0 none 0) M rfl sz_slP rfl rfl rfl (Nat.le_of_ble_eq_true rfl) rfl ?_
        clear M; rintro W M
        dsimp only [setL] at M
        have hD0 : done.length + 1 ≤ Dd := by omega
        cases leaf with
        | true =>
          cases ht2 : textX b6 with
          | none =>
            refine cc is_ptext (rtextB ht2 hbad6 (by omega) M (M.d1 1 rfl)) ?_
            clear M
            rintro en W ⟨rfl, M⟩
            refine ⟨_, rfl, ?_⟩
            refine p_fld fN3 rfl ?_
            refine s_set 1 (off := 3) (.slice none 0 0) (ncs (.mk ((c0.toNat : Nat) : Int) Pl false [] [] []) Ap cp none 0 none 0 none 0) M rfl sz_slP rfl rfl rfl (Nat.le_of_ble_eq_true rfl) rfl ?_
            clear M; rintro W M
            dsimp only [setL] at M
            have hn := RdL.ofnode (t := .mk ((c0.toNat : Nat) : Int) Pl false [] [] []) (M.dw 2 rfl).hd (RdD.nil_ (s := 1) none 0) (RdD.nil_ (s := 6) none 0) (RdD.nil_ (s := 1) none 0)
            have hfe := fe_ne (x := 11) e6 (by decide)
            refine ⟨(ncs (.mk ((c0.toNat : Nat) : Int) Pl false [] [] []) Ap cp none 0 none 0 none 0, .mk ((c0.toNat : Nat) : Int) Pl false [] [] [], none, 0, 0, Ad, nd, cd, xs, left3, fe e6 11, [], done), ⟨rfl, ((M.addD hnl0).addT (cs := ncs (.mk ((c0.toNat : Nat) : Int) Pl false [] [] []) Ap cp none 0 none 0 none 0) hn).fsub _ (by intro f hf; simp only [List.mem_cons] at hf ⊢; rcases hf with h | h | h | h <;> simp [h]), hD0, .inr ⟨hfe, rfl, rfl, rfl, rfl, ?_⟩⟩, (by repeat (first | exact trivial | refine ⟨rfl, ?_⟩))⟩
            rcases hL with ⟨l1, l2, l3, l4, l5, l6⟩ | ⟨l1, l2, l3, l4, l5, l6⟩
            · rw [l6, if_pos (of_decide_eq_true l2.symm), ht2, l1]; rfl
            · rw [fe_id l1]; exact l6
          | some r =>
            obtain ⟨v, b7⟩ := r
            obtain ⟨l1, l2, l3, l4, l5, l6⟩ := hL.resolve_right fun h => by
              obtain ⟨-, h2, -⟩ := h
              rw [h2, textX_nil] at ht2; cases ht2
            subst l1
            have hc1 : c0 = 1 := of_decide_eq_true l2.symm
            rw [if_pos hc1, ht2] at l6
            dsimp only at l6
            refine cc is_ptext (rtextG ht2 (by omega) M (M.d1 1 rfl)) ?_
            clear M
            rintro en W ⟨A8, c8, A9, n9, c9, rfl, M⟩
            refine ⟨_, rfl, ?_⟩
            refine p_fld fN3 rfl ?_
            refine s_set 1 (off := 3) (.slice A8 v.length c8) (ncs (.mk ((c0.toNat : Nat) : Int) Pl false v [] []) Ap cp A8 c8 none 0 none 0) M rfl sz_slP rfl rfl rfl (Nat.le_of_ble_eq_true rfl) rfl ?_
            clear M; rintro W M
            dsimp only [setL] at M
            have hn := RdL.ofnode (t := .mk ((c0.toNat : Nat) : Int) Pl false v [] []) (M.dw 4 rfl).hd (M.dw 0 rfl).hd (RdD.nil_ (s := 6) none 0) (RdD.nil_ (s := 1) none 0)
            refine ⟨(ncs (.mk ((c0.toNat : Nat) : Int) Pl false v [] []) Ap cp A8 c8 none 0 none 0, .mk ((c0.toNat : Nat) : Int) Pl false v [] [], A9, n9, c9, Ad, nd, cd, xs, left3, 0, b7, done), ⟨rfl, (M.addT (cs := ncs (.mk ((c0.toNat : Nat) : Int) Pl false v [] []) Ap cp A8 c8 none 0 none 0) hn).fsub _ (by intro f hf; simp only [List.mem_cons] at hf ⊢; rcases hf with h | h | h | h <;> simp [h]), hD0, .inl ⟨rfl, ?_⟩⟩, (by repeat (first | exact trivial | refine ⟨rfl, ?_⟩))⟩
            rw [l6, show ((c0.toNat : Nat) : Int) = 1 from h12.2 hc1]
        | false =>
          rcases hL with ⟨l1, l2, l3, l4, l5, l6⟩ | ⟨l1, l2, l3, l4, l5, l6⟩
          · subst l1
            have hc1 : ¬ c0 = 1 := of_decide_eq_false l2.symm
            rw [if_neg hc1] at l6
            have hsz := one_sz (B := B) F b6 done left3 l4 l5 hds (by omega)
            refine p_addN (b := 1) rfl rfl (by omega) ?_
            refine cc is_pnode (ih B (deep + 1) (by omega) hB w _ gs g A6 n6 c6 Ad nd cd left3 b6 done xs _ R _ l4 l5 hds (by omega) (by omega) M) ?_
            clear M
            rintro en W ⟨cs, tk, A7, n7, c7, Ad7, nd7, cd7, xs7, b7, done7, left7, e7, rfl, M, hP⟩
            refine ⟨_, rfl, ?_⟩
            obtain ⟨Bp, dp, Bv, dv, Bk, dk, Bh, dh, rfl, -⟩ := (M.da 0 rfl).node
            refine s_bslice (ncs tk Bp dp Bv dv Bk dk Bh dh) (fr := false) (ds := dN tk) M sln z_nd rfl (by decide) rfl (M.dw 0 rfl) (dN_len _) ?_
            clear M; rintro gk W M
            refine p_fld fN4 rfl ?_
            refine s_set 1 (off := 4) (.slice (some ⟨gk, 0, none⟩) 1 1) (ncs (.mk ((c0.toNat : Nat) : Int) Pl false [] [tk] []) Ap cp none 0 (some ⟨gk, 0, none⟩) 1 none 0) M rfl sz_nsP rfl rfl rfl (Nat.le_of_ble_eq_true rfl) rfl ?_
            clear M; rintro W M
            dsimp only [setL] at M
            have hk1s : dNs [tk] = dN tk := by rw [dNs, dNs, List.append_nil]
            have hkd := (M.dw 0 rfl).hd
            rw [← hk1s] at hkd
            have hn := RdL.ofnode (t := .mk ((c0.toNat : Nat) : Int) Pl false [] [tk] []) (M.dw 4 rfl).hd (RdD.nil_ (s := 1) none 0) hkd (RdD.nil_ (s := 1) none 0)
            replace M := M.addT (cs := ncs (.mk ((c0.toNat : Nat) : Int) Pl false [] [tk] []) Ap cp none 0 (some ⟨gk, 0, none⟩) 1 none 0) hn
            cases hr : oneF F b6 done left3 with
            | bad x =>
              rw [hr] at hP hsz l6
              obtain ⟨p1, p2, p3, p4, p5, p6⟩ := hP
              have hx0 : x ≠ 0 := by rcases hsz with h | h <;> rw [h] <;> decide
              refine ⟨(ncs (.mk ((c0.toNat : Nat) : Int) Pl false [] [tk] []) Ap cp none 0 (some ⟨gk, 0, none⟩) 1 none 0, .mk ((c0.toNat : Nat) : Int) Pl false [] [tk] [], A7, n7, c7, Ad7, nd7, cd7, xs7, left7, e7, b7, done7), ⟨rfl, M.fsub _ (by intro f hf; simp only [List.mem_cons] at hf ⊢; rcases hf with h | h | h | h <;> simp [h]), by dsimp only; omega, .inr ⟨fun h => hx0 (p1.symm.trans h), p2, p3, p4, p5, ?_⟩⟩, (by repeat (first | exact trivial | refine ⟨rfl, ?_⟩))⟩
              rw [l6]; dsimp only; rw [p1]
            | got k1 b2 d2 l2 =>
              rw [hr] at hP hsz l6
              obtain ⟨p1, p2, p3, p4, p5⟩ := hP
              obtain ⟨s1, s2, s3, s4, s5, s6⟩ := hsz
              subst p2; subst p3; subst p4; subst p5
              refine ⟨(ncs (.mk ((c0.toNat : Nat) : Int) Pl false [] [tk] []) Ap cp none 0 (some ⟨gk, 0, none⟩) 1 none 0, .mk ((c0.toNat : Nat) : Int) Pl false [] [tk] [], A7, n7, c7, Ad7, nd7, cd7, xs7, left7, e7, b7, done7), ⟨rfl, M.fsub _ (by intro f hf; simp only [List.mem_cons] at hf ⊢; rcases hf with h | h | h | h <;> simp [h]), by dsimp only; omega, .inl ⟨p1, ?_⟩⟩, (by repeat (first | exact trivial | refine ⟨rfl, ?_⟩))⟩
              rw [l6, show ((c0.toNat : Nat) : Int) = 2 from (absurd hk1 hc1)]
          · subst l2; subst l3; subst l4; subst l5
            refine p_addN (b := 1) rfl rfl (by omega) ?_
            refine cc is_pnode (rnodeB (deep + 1) w _ gs g Ad nd cd left3 e6 _ _ _ l1 M) ?_
            clear M
            rintro en W ⟨rfl, M⟩
            refine ⟨_, rfl, ?_⟩
            replace M := M.addL RdL.znone
            refine s_bslice zN (fr := false) (ds := dN noneN) M sln z_nd rfl (by decide) rfl (M.dw 0 rfl) (dN_len _) ?_
            clear M; rintro gk W M
            refine p_fld fN4 rfl ?_
            refine s_set 1 (off := 4) (.slice (some ⟨gk, 0, none⟩) 1 1) (ncs (.mk ((c0.toNat : Nat) : Int) Pl false [] [noneN] []) Ap cp none 0 (some ⟨gk, 0, none⟩) 1 none 0) M rfl sz_nsP rfl rfl rfl (Nat.le_of_ble_eq_true rfl) rfl ?_
            clear M; rintro W M
            dsimp only [setL] at M
            have hk1s : dNs [noneN] = dN noneN := by rw [dNs, dNs, List.append_nil]
            have hkd := (M.dw 0 rfl).hd
            rw [← hk1s] at hkd
            have hn := RdL.ofnode (t := .mk ((c0.toNat : Nat) : Int) Pl false [] [noneN] []) (M.dw 4 rfl).hd (RdD.nil_ (s := 1) none 0) hkd (RdD.nil_ (s := 1) none 0)
            replace M := M.addT (cs := ncs (.mk ((c0.toNat : Nat) : Int) Pl false [] [noneN] []) Ap cp none 0 (some ⟨gk, 0, none⟩) 1 none 0) hn
            exact ⟨(ncs (.mk ((c0.toNat : Nat) : Int) Pl false [] [noneN] []) Ap cp none 0 (some ⟨gk, 0, none⟩) 1 none 0, .mk ((c0.toNat : Nat) : Int) Pl false [] [noneN] [], none, 0, 0, Ad, nd, cd, xs, left3, e6, [], done), ⟨rfl, M.fsub _ (by intro f hf; simp only [List.mem_cons] at hf ⊢; rcases hf with h | h | h | h <;> simp [h]), hD0, .inr ⟨l1, rfl, rfl, rfl, rfl, l6⟩⟩, (by repeat (first | exact trivial | refine ⟨rfl, ?_⟩))⟩
      have hk1 : ¬ c0 = 1 := fun h => hk1 (h12.2 h)
      refine p_eq rfl rfl (fun hk2 => ?_) (fun hk2 => ?_)
      · have hk2 : c0 = 2 := h22.1 hk2
        refine cutO Unit (fun _ W => St w gs W ((g, 87, rc A3 n3 c3 Ad nd cd left3 e3) :: (g6, 38, kz c0) :: (g4, 38, zN) :: L) (⟨38, 6, Ad, nd, cd, xs⟩ :: R) (.dat false (dNs done) xs :: .dat false [dB b3] [.slice A3 n3 c3] :: fs)) (fun _ => [(0, .pointer (some ⟨g, 0, none⟩)), (1, .int .i64 (deep : Nat)), (4, .pointer (some ⟨g4, 0, none⟩)), (6, .pointer (some ⟨g6, 0, none⟩)), (46, .bool true)]) ⟨(), M, (by repeat (first | exact trivial | refine ⟨rfl, ?_⟩))⟩ ?_
        clear M
        rintro - B7 W7 M
        refine nx ?_
        refine ev_ift rfl ?_
        refine ev_assoc ?_
        refine cutS (List UInt8 × Option Addr × Nat × Bool × Option Addr × Nat × Nat × Int × List UInt8) (fun s W => St w gs W ((g, 87, rc s.2.2.2.2.1 s.2.2.2.2.2.1 s.2.2.2.2.2.2.1 Ad nd cd left3 s.2.2.2.2.2.2.2.1) :: (g6, 38, kz c0) :: (g4, 38, zN) :: L) (⟨38, 6, Ad, nd, cd, xs⟩ :: R) (.dat false (dNs done) xs :: .dat false [dB s.2.2.2.2.2.2.2.2] [.slice s.2.2.2.2.1 s.2.2.2.2.2.1 s.2.2.2.2.2.2.1] :: .dat false [dB s.1] [.slice s.2.1 s.1.length s.2.2.1] :: fs) ∧
            ((s.2.2.2.2.2.2.2.1 = 0 ∧ s.2.2.2.1 = decide (c0 = 1) ∧ s.2.2.2.2.2.2.2.2.length ≤ b1.length ∧ 0 ≤ left3 ∧ left3 ≤ 5000 ∧ S0 = (if c0 = 1 then (match textX s.2.2.2.2.2.2.2.2 with | none => .bad 11 | some (v, b2) => .got (.mk 1 s.1 false v [] []) b2 (done ++ [Nd.mk 1 s.1 false v [] []]) left3) else (match oneF F s.2.2.2.2.2.2.2.2 done left3 with | .bad x => .bad x | .got k b2 d2 l2 => .got (.mk 2 s.1 false [] [k] []) b2 (d2 ++ [Nd.mk 2 s.1 false [] [k] []]) l2))) ∨
             (s.2.2.2.2.2.2.2.1 ≠ 0 ∧ s.2.2.2.2.2.2.2.2 = [] ∧ s.2.2.2.2.1 = none ∧ s.2.2.2.2.2.1 = 0 ∧ s.2.2.2.2.2.2.1 = 0 ∧ S0 = .bad s.2.2.2.2.2.2.2.1)))
          (fun s => [(0, .pointer (some ⟨g, 0, none⟩)), (1, .int .i64 (deep : Nat)), (4, .pointer (some ⟨g4, 0, none⟩)), (6, .pointer (some ⟨g6, 0, none⟩)), (7, .slice s.2.1 s.1.length s.2.2.1), (8, .bool s.2.2.2.1)]) ?_ ?_
        · cases ht : textX b3 with
          | none =>
            refine cc is_ptext (rtextB ht hbad3 (by omega) M (M.d1 1 rfl)) ?_
            clear M
            rintro en W ⟨rfl, M⟩
            refine ⟨_, rfl, ?_⟩
            replace M := M.addD hnl0
            refine cc is_pup (unpack_any none 0 0 [] _ (M.rdb 0 rfl).2.2 (by decide) (Nat.le_refl _)) ?_
            rintro en W ⟨A7, n7, c7, rfl, o7, hb7⟩
            have e7 := o7.len
            replace M := M.callO hb7 o7
            clear o7 hb7
            refine ⟨_, rfl, ?_⟩
            have hfe := fe_ne (x := 11) e3 (by decide)
            subst e7
            refine p_ne rfl rfl (fun h => absurd (show (10 : Int) = 0 from h) (by decide)) (fun _ => ?_)
            refine cc is_pfail (rfail 11 (fun _ => ⟨rfl, rfl, rfl⟩) M) ?_
            clear M
            rintro en W ⟨⟨v, rfl⟩, M⟩
            refine ⟨_, rfl, ?_⟩
            rw [fe_id hfe] at M
            replace M := (M.addD (M.d1 0 rfl)).addD hnl0
            refine ⟨(unpackL [], A7, c7, false, none, 0, 0, fe e3 11, []), ⟨M.fsub _ (by intro f hf; simp only [List.mem_cons] at hf ⊢; rcases hf with h | h | h | h <;> simp [h]), .inr ⟨hfe, rfl, rfl, rfl, rfl, ?_⟩⟩, (by repeat (first | exact trivial | refine ⟨rfl, ?_⟩))⟩
            rcases hJ with ⟨j1, j2, j3, j4, j5⟩ | ⟨j1, j2, j3, j4, j5, j6⟩
            · rw [j5, j1]
              unfold bodyX
              rw [if_pos (.inr hk2), ← j2, ht]
              rfl
            · rw [fe_id j1]; exact j6
          | some r =>
            obtain ⟨p, r⟩ := r
            obtain ⟨j1, j2, j3, j4, j5⟩ := hJ.resolve_right fun h => by
              obtain ⟨-, h2, -⟩ := h
              rw [h2, textX_nil] at ht; cases ht
            subst j1
            subst j2
            have hle := textX_le ht
            refine cc is_ptext (rtextG ht (by omega) M (M.d1 1 rfl)) ?_
            clear M
            rintro en W ⟨A7, c7, A8, n8, c8, rfl, M⟩
            refine ⟨_, rfl, ?_⟩
            refine cc is_pup (unpack_any _ _ _ p _ (M.rdb 0 rfl).2.2 (by omega) (M.rdb 0 rfl).2.1) ?_
            rintro en W ⟨A9, n9, c9, rfl, o9, hb9⟩
            have e9 := o9.len
            replace M := M.callO hb9 o9
            clear o9 hb9
            refine ⟨_, rfl, ?_⟩
            subst e9
            have hbody : ∀ q : unpackE p ≠ 0 ∨ unpackB p ≠ decide (c0 = 1), S0 = .bad 11 := fun q => by
              rw [j5]
              unfold bodyX
              rw [if_pos (.inr hk2), ht]
              dsimp only
              rw [if_pos q]
            refine p_ne rfl rfl (fun hE => ?_) (fun hE => ?_)
            rotate_left
            · have hE : ¬ unpackE p = 0 := hE
              refine cc is_pfail (rfail0 11 M) ?_
              clear M
              rintro en W ⟨⟨v, rfl⟩, M⟩
              refine ⟨_, rfl, ?_⟩
              replace M := (M.addD (M.d1 0 rfl)).addD hnl0
              refine ⟨(unpackL p, A9, c9, unpackB p, none, 0, 0, 11, []), ⟨M.fsub _ (by intro f hf; simp only [List.mem_cons] at hf ⊢; rcases hf with h | h | h | h <;> simp [h]), .inr ⟨(show (11 : Int) ≠ 0 by decide), rfl, rfl, rfl, rfl, hbody (.inl hE)⟩⟩, (by repeat (first | exact trivial | refine ⟨rfl, ?_⟩))⟩
            have hE : unpackE p = 0 := hE
            refine p_fld fN0 rfl ?_
            refine v_load agg_int rfl ((M.B 1 rfl).at_ rfl) ?_
            refine p_eqD rfl rfl ?_
            refine p_bneC u_bool rfl rfl (fun hq => ?_) (fun hq => ?_)
            rotate_left
            · have hq : unpackB p ≠ decide (c0 = 1) := fun h => hq (by rw [h]; exact decide_eq_decide.2 h12.symm)
              refine cc is_pfail (rfail0 11 M) ?_
              clear M
              rintro en W ⟨⟨v, rfl⟩, M⟩
              refine ⟨_, rfl, ?_⟩
              replace M := (M.addD (M.d1 0 rfl)).addD hnl0
              refine ⟨(unpackL p, A9, c9, unpackB p, none, 0, 0, 11, []), ⟨M.fsub _ (by intro f hf; simp only [List.mem_cons] at hf ⊢; rcases hf with h | h | h | h <;> simp [h]), .inr ⟨(show (11 : Int) ≠ 0 by decide), rfl, rfl, rfl, rfl, hbody (.inr hq)⟩⟩, (by repeat (first | exact trivial | refine ⟨rfl, ?_⟩))⟩
            have hq : unpackB p = decide (c0 = 1) := by rw [hq]; exact decide_eq_decide.2 h12
            replace M := M.addD (M.d1 0 rfl)
            refine ⟨(unpackL p, A9, c9, unpackB p, A8, n8, c8, 0, r), ⟨M.fsub _ (by intro f hf; simp only [List.mem_cons] at hf ⊢; rcases hf with h | h | h | h <;> simp [h]), .inl ⟨rfl, hq, hle.2, j3, j4, ?_⟩⟩, (by repeat (first | exact trivial | refine ⟨rfl, ?_⟩))⟩
            rw [j5]
            unfold bodyX
            rw [if_pos (.inr hk2), ht]
            dsimp only
            rw [if_neg (fun h => h.elim (fun h => h hE) (fun h => h hq))]
            (rw [if_neg hk1, if_neg hk1]; cases oneF F r done left3 <;> rfl)
        clear M
        rintro ⟨Pl, Ap, cp, leaf, A6, n6, c6, e6, b6⟩ B6 W6 ⟨M, hL⟩
        dsimp only at M hL
        have en6 := (M.d1 1 rfl).slen
        have hb6 : b6.length ≤ b1.length := by
          rcases hL with ⟨_, _, h, _⟩ | ⟨_, h, _⟩
          · exact h
          · rw [h]; exact Nat.zero_le _
        have hbad6 : e6 ≠ 0 → A6 = none ∧ n6 = 0 ∧ c6 = 0 := fun h => by
          rcases hL with ⟨h', _⟩ | ⟨_, _, h1, h2, h3, _⟩
          · exact absurd h' h
          · exact ⟨h1, h2, h3⟩
        refine p_fld fN1 rfl ?_
        refine s_set 1 (off := 1) (.slice Ap Pl.length cp) (ncs (.mk ((c0.toNat : Nat) : Int) Pl false [] [] []) Ap cp none 0 none 0 none 0) M rfl sz_slP rfl rfl rfl (Nat.le_of_ble_eq_true rfl) rfl ?_
        clear M; rintro W M
        dsimp only [setL] at M
        have hD0 : done.length + 1 ≤ Dd := by omega
        cases leaf with
        | true =>
          cases ht2 : textX b6 with
          | none =>
            refine cc is_ptext (rtextB ht2 hbad6 (by omega) M (M.d1 1 rfl)) ?_
            clear M
            rintro en W ⟨rfl, M⟩
            refine ⟨_, rfl, ?_⟩
            refine p_fld fN3 rfl ?_
            refine s_set 1 (off := 3) (.slice none 0 0) (ncs (.mk ((c0.toNat : Nat) : Int) Pl false [] [] []) Ap cp none 0 none 0 none 0) M rfl sz_slP rfl rfl rfl (Nat.le_of_ble_eq_true rfl) rfl ?_
            clear M; rintro W M
            dsimp only [setL] at M
            have hn := RdL.ofnode (t := .mk ((c0.toNat : Nat) : Int) Pl false [] [] []) (M.dw 2 rfl).hd (RdD.nil_ (s := 1) none 0) (RdD.nil_ (s := 6) none 0) (RdD.nil_ (s := 1) none 0)
            have hfe := fe_ne (x := 11) e6 (by decide)
            refine ⟨(ncs (.mk ((c0.toNat : Nat) : Int) Pl false [] [] []) Ap cp none 0 none 0 none 0, .mk ((c0.toNat : Nat) : Int) Pl false [] [] [], none, 0, 0, Ad, nd, cd, xs, left3, fe e6 11, [], done), ⟨rfl, ((M.addD hnl0).addT (cs := ncs (.mk ((c0.toNat : Nat) : Int) Pl false [] [] []) Ap cp none 0 none 0 none 0) hn).fsub _ (by intro f hf; simp only [List.mem_cons] at hf ⊢; rcases hf with h | h | h | h <;> simp [h]), hD0, .inr ⟨hfe, rfl, rfl, rfl, rfl, ?_⟩⟩, (by repeat (first | exact trivial | refine ⟨rfl, ?_⟩))⟩
            rcases hL with ⟨l1, l2, l3, l4, l5, l6⟩ | ⟨l1, l2, l3, l4, l5, l6⟩
            · rw [l6, if_pos (of_decide_eq_true l2.symm), ht2, l1]; rfl
            · rw [fe_id l1]; exact l6
          | some r =>
            obtain ⟨v, b7⟩ := r
            obtain ⟨l1, l2, l3, l4, l5, l6⟩ := hL.resolve_right fun h => by
              obtain ⟨-, h2, -⟩ := h
              rw [h2, textX_nil] at ht2; cases ht2
            subst l1
            have hc1 : c0 = 1 := of_decide_eq_true l2.symm
            rw [if_pos hc1, ht2] at l6
            dsimp only at l6
            refine cc is_ptext (rtextG ht2 (by omega) M (M.d1 1 rfl)) ?_
            clear M
            rintro en W ⟨A8, c8, A9, n9, c9, rfl, M⟩
            refine ⟨_, rfl, ?_⟩
            refine p_fld fN3 rfl ?_
            refine s_set 1 (off := 3) (.slice A8 v.length c8) (ncs (.mk ((c0.toNat : Nat) : Int) Pl false v [] []) Ap cp A8 c8 none 0 none 0) M rfl sz_slP rfl rfl rfl (Nat.le_of_ble_eq_true rfl) rfl ?_
            clear M; rintro W M
            dsimp only [setL] at M
            have hn := RdL.ofnode (t := .mk ((c0.toNat : Nat) : Int) Pl false v [] []) (M.dw 4 rfl).hd (M.dw 0 rfl).hd (RdD.nil_ (s := 6) none 0) (RdD.nil_ (s := 1) none 0)
            refine ⟨(ncs (.mk ((c0.toNat : Nat) : Int) Pl false v [] []) Ap cp A8 c8 none 0 none 0, .mk ((c0.toNat : Nat) : Int) Pl false v [] [], A9, n9, c9, Ad, nd, cd, xs, left3, 0, b7, done), ⟨rfl, (M.addT (cs := ncs (.mk ((c0.toNat : Nat) : Int) Pl false v [] []) Ap cp A8 c8 none 0 none 0) hn).fsub _ (by intro f hf; simp only [List.mem_cons] at hf ⊢; rcases hf with h | h | h | h <;> simp [h]), hD0, .inl ⟨rfl, ?_⟩⟩, (by repeat (first | exact trivial | refine ⟨rfl, ?_⟩))⟩
            rw [l6, show ((c0.toNat : Nat) : Int) = 1 from h12.2 hc1]
        | false =>
          rcases hL with ⟨l1, l2, l3, l4, l5, l6⟩ | ⟨l1, l2, l3, l4, l5, l6⟩
          · subst l1
            have hc1 : ¬ c0 = 1 := of_decide_eq_false l2.symm
            rw [if_neg hc1] at l6
            have hsz := one_sz (B := B) F b6 done left3 l4 l5 hds (by omega)
            refine p_addN (b := 1) rfl rfl (by omega) ?_
            refine cc is_pnode (ih B (deep + 1) (by omega) hB w _ gs g A6 n6 c6 Ad nd cd left3 b6 done xs _ R _ l4 l5 hds (by omega) (by omega) M) ?_
            clear M
            rintro en W ⟨cs, tk, A7, n7, c7, Ad7, nd7, cd7, xs7, b7, done7, left7, e7, rfl, M, hP⟩
            refine ⟨_, rfl, ?_⟩
            obtain ⟨Bp, dp, Bv, dv, Bk, dk, Bh, dh, rfl, -⟩ := (M.da 0 rfl).node
            refine s_bslice (ncs tk Bp dp Bv dv Bk dk Bh dh) (fr := false) (ds := dN tk) M sln z_nd rfl (by decide) rfl (M.dw 0 rfl) (dN_len _) ?_
            clear M; rintro gk W M
            refine p_fld fN4 rfl ?_
            refine s_set 1 (off := 4) (.slice (some ⟨gk, 0, none⟩) 1 1) (ncs (.mk ((c0.toNat : Nat) : Int) Pl false [] [tk] []) Ap cp none 0 (some ⟨gk, 0, none⟩) 1 none 0) M rfl sz_nsP rfl rfl rfl (Nat.le_of_ble_eq_true rfl) rfl ?_
            clear M; rintro W M
            dsimp only [setL] at M
            have hk1s : dNs [tk] = dN tk := by rw [dNs, dNs, List.append_nil]
            have hkd := (M.dw 0 rfl).hd
            rw [← hk1s] at hkd
            have hn := RdL.ofnode (t := .mk ((c0.toNat : Nat) : Int) Pl false [] [tk] []) (M.dw 4 rfl).hd (RdD.nil_ (s := 1) none 0) hkd (RdD.nil_ (s := 1) none 0)
            replace M := M.addT (cs := ncs (.mk ((c0.toNat : Nat) : Int) Pl false [] [tk] []) Ap cp none 0 (some ⟨gk, 0, none⟩) 1 none 0) hn
            cases hr : oneF F b6 done left3 with
            | bad x =>
              rw [hr] at hP hsz l6
              obtain ⟨p1, p2, p3, p4, p5, p6⟩ := hP
              have hx0 : x ≠ 0 := by rcases hsz with h | h <;> rw [h] <;> decide
              refine ⟨(ncs (.mk ((c0.toNat : Nat) : Int) Pl false [] [tk] []) Ap cp none 0 (some ⟨gk, 0, none⟩) 1 none 0, .mk ((c0.toNat : Nat) : Int) Pl false [] [tk] [], A7, n7, c7, Ad7, nd7, cd7, xs7, left7, e7, b7, done7), ⟨rfl, M.fsub _ (by intro f hf; simp only [List.mem_cons] at hf ⊢; rcases hf with h | h | h | h <;> simp [h]), by dsimp only; omega, .inr ⟨fun h => hx0 (p1.symm.trans h), p2, p3, p4, p5, ?_⟩⟩, (by repeat (first | exact trivial | refine ⟨rfl, ?_⟩))⟩
              rw [l6]; dsimp only; rw [p1]
            | got k1 b2 d2 l2 =>
              rw [hr] at hP hsz l6
              obtain ⟨p1, p2, p3, p4, p5⟩ := hP
              obtain ⟨s1, s2, s3, s4, s5, s6⟩ := hsz
              subst p2; subst p3; subst p4; subst p5
              refine ⟨(ncs (.mk ((c0.toNat : Nat) : Int) Pl false [] [tk] []) Ap cp none 0 (some ⟨gk, 0, none⟩) 1 none 0, .mk ((c0.toNat : Nat) : Int) Pl false [] [tk] [], A7, n7, c7, Ad7, nd7, cd7, xs7, left7, e7, b7, done7), ⟨rfl, M.fsub _ (by intro f hf; simp only [List.mem_cons] at hf ⊢; rcases hf with h | h | h | h <;> simp [h]), by dsimp only; omega, .inl ⟨p1, ?_⟩⟩, (by repeat (first | exact trivial | refine ⟨rfl, ?_⟩))⟩
              rw [l6, show ((c0.toNat : Nat) : Int) = 2 from (h22.2 hk2)]
          · subst l2; subst l3; subst l4; subst l5
            refine p_addN (b := 1) rfl rfl (by omega) ?_
            refine cc is_pnode (rnodeB (deep + 1) w _ gs g Ad nd cd left3 e6 _ _ _ l1 M) ?_
            clear M
            rintro en W ⟨rfl, M⟩
            refine ⟨_, rfl, ?_⟩
            replace M := M.addL RdL.znone
            refine s_bslice zN (fr := false) (ds := dN noneN) M sln z_nd rfl (by decide) rfl (M.dw 0 rfl) (dN_len _) ?_
            clear M; rintro gk W M
            refine p_fld fN4 rfl ?_
            refine s_set 1 (off := 4) (.slice (some ⟨gk, 0, none⟩) 1 1) (ncs (.mk ((c0.toNat : Nat) : Int) Pl false [] [noneN] []) Ap cp none 0 (some ⟨gk, 0, none⟩) 1 none 0) M rfl sz_nsP rfl rfl rfl (Nat.le_of_ble_eq_true rfl) rfl ?_
            clear M; rintro W M
            dsimp only [setL] at M
            have hk1s : dNs [noneN] = dN noneN := by rw [dNs, dNs, List.append_nil]
            have hkd := (M.dw 0 rfl).hd
            rw [← hk1s] at hkd
            have hn := RdL.ofnode (t := .mk ((c0.toNat : Nat) : Int) Pl false [] [noneN] []) (M.dw 4 rfl).hd (RdD.nil_ (s := 1) none 0) hkd (RdD.nil_ (s := 1) none 0)
            replace M := M.addT (cs := ncs (.mk ((c0.toNat : Nat) : Int) Pl false [] [noneN] []) Ap cp none 0 (some ⟨gk, 0, none⟩) 1 none 0) hn
            exact ⟨(ncs (.mk ((c0.toNat : Nat) : Int) Pl false [] [noneN] []) Ap cp none 0 (some ⟨gk, 0, none⟩) 1 none 0, .mk ((c0.toNat : Nat) : Int) Pl false [] [noneN] [], none, 0, 0, Ad, nd, cd, xs, left3, e6, [], done), ⟨rfl, M.fsub _ (by intro f hf; simp only [List.mem_cons] at hf ⊢; rcases hf with h | h | h | h <;> simp [h]), hD0, .inr ⟨l1, rfl, rfl, rfl, rfl, l6⟩⟩, (by repeat (first | exact trivial | refine ⟨rfl, ?_⟩))⟩
      have hk2 : ¬ c0 = 2 := fun h => hk2 (h22.2 h)
      have hJl : e3 = 0 → 0 ≤ left3 ∧ left3 ≤ 5000 := fun h => by
        obtain ⟨-, -, h1, h2, -⟩ := hJ.resolve_right fun h' => h'.1 h
        exact ⟨h1, h2⟩
      have hJe : e3 = 0 ∨ (e3 ≠ 0 ∧ b3 = [] ∧ A3 = none ∧ n3 = 0 ∧ c3 = 0) := by
        rcases hJ with ⟨h1, _⟩ | ⟨h1, h2, h3, h4, h5, _⟩
        · exact .inl h1
        · exact .inr ⟨h1, h2, h3, h4, h5⟩
      refine p_eq rfl rfl (fun hk3 => ?_) (fun hk3 => ?_)
      · have hk3 : c0 = 3 := h32.1 hk3
        subst hk3
        rw [show kz 3 = [.int .i64 3, .slice none 0 0, .bool false, .slice none 0 0, .slice none 0 0, .slice none 0 0] from rfl] at M
        refine cc is_pbr (pbr_any F ih B deep hdp hB w _ gs g g6 A3 n3 c3 Ad nd cd left3 e3 b3 done xs _ R fs hJl hds (by omega) (by omega) hJe M) ?_
        clear M
        rintro en W ⟨⟨v, rfl⟩, has, vv, ks, Av, cv, gk, A7, n7, c7, Ad7, nd7, cd7, xs7, b7, done7, left7, e7, hk16, M, hP⟩
        refine ⟨_, rfl, ?_⟩
        have hfin : done7.length + 1 ≤ Dd ∧ ((e7 = 0 ∧ S0 = .got (.mk 3 [] has vv ks []) b7 (done7 ++ [.mk 3 [] has vv ks []]) left7) ∨ (e7 ≠ 0 ∧ b7 = [] ∧ A7 = none ∧ n7 = 0 ∧ c7 = 0 ∧ S0 = .bad e7)) := by
          rcases hJ with ⟨j1, j2, j3, j4, j5⟩ | ⟨j1, j2, j3, j4, j5, j6⟩
          · rw [if_pos j1, j2] at hP
            rw [body_3] at j5
            cases hr : brF (oneF F) b1 done left3 with
            | bad x =>
              rw [hr] at hP j5
              obtain ⟨p1, p2, p3, p4, p5, p6, p7⟩ := hP
              exact ⟨by omega, .inr ⟨p2, p3, p4, p5, p6, by rw [j5, p1]⟩⟩
            | got h1 v1 k1 b1' d1 l1 =>
              rw [hr] at hP j5
              obtain ⟨p1, p2, p3, p4, p5, p6, p7⟩ := hP
              subst p2; subst p3; subst p4; subst p5; subst p6; subst p7
              rw [j5] at hszF
              obtain ⟨s1, s2, s3, s4, s5, s6⟩ := hszF
              rw [List.length_append, List.length_singleton, List.length_cons] at s5
              exact ⟨by omega, .inl ⟨p1, j5⟩⟩
          · rw [if_neg j1] at hP
            obtain ⟨p1, p2, p3, p4, p5, p6, p7⟩ := hP
            exact ⟨by omega, .inr ⟨p2, p3, p4, p5, p6, by rw [j6, p1]⟩⟩
        exact ⟨(ncs (.mk 3 [] has vv ks []) none 0 Av cv (some ⟨gk, 0, none⟩) 16 none 0, .mk 3 [] has vv ks [], A7, n7, c7, Ad7, nd7, cd7, xs7, left7, e7, b7, done7), ⟨rfl, M, hfin.1, hfin.2⟩, (by repeat (first | exact trivial | refine ⟨rfl, ?_⟩))⟩
      have hk3 : ¬ c0 = 3 := fun h => hk3 (h32.2 h)
      refine p_eq rfl rfl (fun hk4 => ?_) (fun hk4 => ?_)
      · have hk4 : c0 = 4 := h42.1 hk4
        subst hk4
        by_cases hlen : 32 ≤ b3.length
        · obtain ⟨j1, j2, j3, j4, j5⟩ := hJ.resolve_right fun h => by
            obtain ⟨-, h2, -⟩ := h
            rw [h2] at hlen; exact absurd hlen (by decide)
          subst j1
          subst j2
          refine cc is_pcut (rcutG 32 hlen (by omega) M (M.d1 1 rfl)) ?_
          clear M
          rintro en W ⟨A7, c7, A9, n9, c9, rfl, M⟩
          refine ⟨_, rfl, ?_⟩
          obtain ⟨H, hH⟩ : ∃ H, H = b3.take 32 := ⟨_, rfl⟩
          have hHl : H.length = 32 := by rw [hH, List.length_take]; omega
          rw [← hH] at M
          refine cc is_bclone (bclone_any _ _ _ _ H _ (M.d1 0 rfl) (by decide)) ?_
          rintro en W ⟨A8, c8, rfl, o7, -, hb8⟩
          replace M := M.callO hb8 o7
          clear o7 hb8
          refine ⟨_, rfl, ?_⟩
          refine p_fld fN5 rfl ?_
          refine s_set 1 (off := 5) (.slice A8 32 c8) [.int .i64 4, .slice none 0 0, .bool false, .slice none 0 0, .slice none 0 0, .slice A8 32 c8] M rfl sz_slP rfl rfl rfl (Nat.le_of_ble_eq_true rfl) rfl ?_
          clear M; rintro W M
          dsimp only [setL] at M
          have hn := RdL.ofnode (t := .mk 4 [] false [] [] H) (RdD.nil_ (s := 1) none 0) (RdD.nil_ (s := 1) none 0) (RdD.nil_ (s := 6) none 0) (show RdD W _ (dB H) (.slice A8 H.length c8) by rw [hHl]; exact (M.dw 0 rfl).hd)
          have hnc : ([.int .i64 4, .slice none 0 0, .bool false, .slice none 0 0, .slice none 0 0, .slice A8 32 c8] : List Value) = ncs (.mk 4 [] false [] [] H) none 0 none 0 none 0 A8 c8 := by simp only [ncs, Nd.kids, Nd.kind, Nd.path, Nd.has, Nd.val, Nd.hash, hHl, List.length_nil]
          replace M := M.addT (cs := ncs (.mk 4 [] false [] [] H) none 0 none 0 none 0 A8 c8) hn
          rw [hnc] at M
          refine ⟨(ncs (.mk 4 [] false [] [] H) none 0 none 0 none 0 A8 c8, .mk 4 [] false [] [] H, A9, n9, c9, Ad, nd, cd, xs, left3, 0, b3.drop 32, done), ⟨rfl, M.fsub _ (by intro f hf; simp only [List.mem_cons] at hf ⊢; rcases hf with h | h | h | h <;> simp [h]), by dsimp only; omega, .inl ⟨rfl, ?_⟩⟩, (by repeat (first | exact trivial | refine ⟨rfl, ?_⟩))⟩
          rw [j5]
          unfold bodyX
          rw [if_neg (by decide), if_neg (by decide), if_pos rfl, if_neg (by omega), ← hH]
        · refine cc is_pcut (rcutB 32 (by omega) (by decide) hbad3 M (M.d1 1 rfl)) ?_
          clear M
          rintro en W ⟨A7, rfl, M⟩
          refine ⟨_, rfl, ?_⟩
          obtain ⟨H, hH⟩ : ∃ H, H = List.replicate 32 (0 : UInt8) := ⟨_, rfl⟩
          have hHl : H.length = 32 := by rw [hH]; rfl
          rw [← hH] at M
          refine cc is_bclone (bclone_any _ _ _ _ H _ (M.d1 0 rfl) (by decide)) ?_
          rintro en W ⟨A8, c8, rfl, o7, -, hb8⟩
          replace M := M.callO hb8 o7
          clear o7 hb8
          refine ⟨_, rfl, ?_⟩
          refine p_fld fN5 rfl ?_
          refine s_set 1 (off := 5) (.slice A8 32 c8) [.int .i64 4, .slice none 0 0, .bool false, .slice none 0 0, .slice none 0 0, .slice A8 32 c8] M rfl sz_slP rfl rfl rfl (Nat.le_of_ble_eq_true rfl) rfl ?_
          clear M; rintro W M
          dsimp only [setL] at M
          have hn := RdL.ofnode (t := .mk 4 [] false [] [] H) (RdD.nil_ (s := 1) none 0) (RdD.nil_ (s := 1) none 0) (RdD.nil_ (s := 6) none 0) (show RdD W _ (dB H) (.slice A8 H.length c8) by rw [hHl]; exact (M.dw 0 rfl).hd)
          have hnc : ([.int .i64 4, .slice none 0 0, .bool false, .slice none 0 0, .slice none 0 0, .slice A8 32 c8] : List Value) = ncs (.mk 4 [] false [] [] H) none 0 none 0 none 0 A8 c8 := by simp only [ncs, Nd.kids, Nd.kind, Nd.path, Nd.has, Nd.val, Nd.hash, hHl, List.length_nil]
          replace M := M.addT (cs := ncs (.mk 4 [] false [] [] H) none 0 none 0 none 0 A8 c8) hn
          rw [hnc] at M
          have hfe := fe_ne (x := 11) e3 (by decide)
          refine ⟨(ncs (.mk 4 [] false [] [] H) none 0 none 0 none 0 A8 c8, .mk 4 [] false [] [] H, none, 0, 0, Ad, nd, cd, xs, left3, fe e3 11, [], done), ⟨rfl, (M.addD hnl0).fsub (.dat false (dN (.mk 4 [] false [] [] H)) (ncs (.mk 4 [] false [] [] H) none 0 none 0 none 0 A8 c8) :: .dat false (dNs done) xs :: .dat false [dB []] [.slice none 0 0] :: fs) (by intro f hf; simp only [List.mem_cons] at hf ⊢; rcases hf with h | h | h | h <;> simp [h]), by dsimp only; omega, .inr ⟨hfe, rfl, rfl, rfl, rfl, ?_⟩⟩, (by repeat (first | exact trivial | refine ⟨rfl, ?_⟩))⟩
          rcases hJ with ⟨j1, j2, j3, j4, j5⟩ | ⟨j1, j2, j3, j4, j5, j6⟩
          · rw [j5, j1]
            unfold bodyX
            rw [if_neg (by decide), if_neg (by decide), if_pos rfl, if_pos (by rw [← j2]; omega)]
            rfl
          · rw [fe_id j1]; exact j6
      · have hk4 : ¬ c0 = 4 := fun h => hk4 (h42.2 h)
        have hk0 : c0 = 0 := UInt8.toNat_inj.1 (by
          have e1 : c0.toNat ≠ 1 := fun h => hk1 (h12.1 (by rw [h]; rfl))
          have e2 : c0.toNat ≠ 2 := fun h => hk2 (h22.1 (by rw [h]; rfl))
          have e3 : c0.toNat ≠ 3 := fun h => hk3 (h32.1 (by rw [h]; rfl))
          have e4 : c0.toNat ≠ 4 := fun h => hk4 (h42.1 (by rw [h]; rfl))
          show c0.toNat = 0; omega)
        subst hk0
        refine ⟨(zN, noneN, A3, n3, c3, Ad, nd, cd, xs, left3, e3, b3, done), ⟨rfl, (M.addL RdL.znone).fsub _ (by intro f hf; simp only [List.mem_cons] at hf ⊢; rcases hf with h | h | h | h <;> simp [h]), by dsimp only; omega, ?_⟩, (by repeat (first | exact trivial | refine ⟨rfl, ?_⟩))⟩
        rcases hJ with ⟨j1, j2, j3, j4, j5⟩ | hJ
        · refine .inl ⟨j1, ?_⟩
          rw [j5, j2]
          unfold bodyX
          rw [if_neg (by decide), if_neg (by decide), if_neg (by decide)]
        · exact .inr hJ
    clear M
    rintro ⟨cn, tn, A5, n5, c5, Ad5, nd5, cd5, xs5, left5, e5, b5, done5⟩ B5 W5 ⟨hcn, M, hD5, hK⟩
    dsimp only at hcn M hD5 hK
    have hn5 : nd5 = done5.length := by
      have h1 := (M.dt 1 rfl).len
      have h2 := (M.row _ (List.mem_cons_self ..)).1
      rw [dNs_len] at h1
      dsimp only at h2
      omega
    subst hn5
    have hxl5 := (M.dt 1 rfl).len
    rw [dNs_len] at hxl5
    have hone := (M.da 0 rfl).ones (dN_one _)
    refine ev_sq ?_
    refine cutV (Bool × Nat) (fun s W => St w gs W ((s.2, 4, [.bool s.1]) :: (g, 87, rc A5 n5 c5 Ad5 done5.length cd5 left5 e5) :: (g6, 38, cn) :: (g4, 38, zN) :: L) (⟨38, 6, Ad5, done5.length, cd5, xs5⟩ :: R) (.dat false (dN tn) cn :: .dat false (dNs done5) xs5 :: .dat false [dB b5] [.slice A5 n5 c5] :: fs))
      (fun s => [(0, .pointer (some ⟨g, 0, none⟩)), (4, .pointer (some ⟨g4, 0, none⟩)), (6, .pointer (some ⟨g6, 0, none⟩)), (91, .bool s.1)]) ?_ ?_
    · replace M := M.drew
      refine drT (Kp w gs [] []) (.one 0 (.two 1 (.one 2 (.one 3 (.nil))) 2 (.one 1 (.one 3 (.nil))))) (by kernel_rfl) (M.kp (by simp) (by simp)) ?_
      refine s_alloc ([.bool false]) M (by kernel_rfl) ?_
      clear M
      rintro gb W M
      refine ⟨(M.kp (by simp) (by simp)), ?_, ?_⟩
      ·
        refine s_set 0 (.bool true) [.bool true] M rfl sz_boS rfl rfl rfl (Nat.le_of_ble_eq_true rfl) rfl ?_
        clear M; rintro W M
        dsimp only [setL] at M
        refine ⟨(M.kp (by simp) (by simp)), ?_⟩
        refine s_set 0 (.bool false) [.bool false] M rfl sz_boS rfl rfl rfl (Nat.le_of_ble_eq_true rfl) rfl ?_
        clear M; rintro W M
        dsimp only [setL] at M
        refine ⟨(M.kp (by simp) (by simp)), ?_⟩
        refine v_load agg_bo rfl ((M.B 0 rfl).at_ rfl) ?_
        refine ⟨(M.kp (by simp) (by simp)), ?_⟩
        exact ⟨(false, gb), M, (by repeat (first | exact trivial | refine ⟨rfl, ?_⟩))⟩
      ·
        refine s_set 0 (.bool false) [.bool false] M rfl sz_boS rfl rfl rfl (Nat.le_of_ble_eq_true rfl) rfl ?_
        clear M; rintro W M
        dsimp only [setL] at M
        refine ⟨(M.kp (by simp) (by simp)), ?_⟩
        refine s_set 0 (.bool true) [.bool true] M rfl sz_boS rfl rfl rfl (Nat.le_of_ble_eq_true rfl) rfl ?_
        clear M; rintro W M
        dsimp only [setL] at M
        refine ⟨(M.kp (by simp) (by simp)), ?_⟩
        refine v_load agg_bo rfl ((M.B 0 rfl).at_ rfl) ?_
        refine ⟨(M.kp (by simp) (by simp)), ?_⟩
        exact ⟨(true, gb), M, (by repeat (first | exact trivial | refine ⟨rfl, ?_⟩))⟩
    clear M
    rintro ⟨q, gb⟩ B3 W3 M
    dsimp only at M
    have hdy : dNs done5 ++ dN tn = dNs (done5 ++ [tn]) := by rw [dNs_app, dNs, dNs, List.append_nil]
    cases q with
    | true =>
      refine p_nil rfl ?_
      refine p_fld fp1 rfl ?_
      refine v_load agg_ns rfl ((M.B 1 rfl).at_ rfl) ?_
      refine p_len sln rfl ?_
      refine s_bsliceB zN M sln z_nd rfl (by decide) rfl ?_
      clear M; rintro gz W M
      refine s_app M Try.underlying36 inf_nd rfl (by decide) rfl rfl (Reads.blk (M.B 0 rfl) rfl) (all1 rfl) ⟨by omega, by decide⟩ ?_
      clear M; rintro A6 c6 W M -
      replace M := M.dropL
      refine p_nil rfl ?_
      refine p_fld fp1 rfl ?_
      refine s_set 1 (off := 1) (.slice A6 (done5.length + 1) c6) (rc A5 n5 c5 A6 (done5.length + 1) c6 left5 e5) M rfl sz_nsP rfl rfl rfl (by show 1 < 4; decide) rfl ?_
      clear M; rintro W M
      dsimp only [setL] at M
      refine v_loadN cn agg_nd rfl hcn (M.run 2 rfl) ?_
      obtain ⟨gr, rest, rfl, hnc, hm, hxl, hcl2, M'⟩ := M.rowBlkS (by omega)
      replace M := M'; clear M'
      refine p_atL (i := done5.length) (q := done5.length * 6) sln rfl rfl rfl (by omega) (by omega) ?_
      refine s_storeP 0 cn (xs5 ++ cn ++ rest) M rfl sz_nd rfl rfl hcn hone (by rw [List.length_append, List.length_append, show zN.length = 6 from rfl]; omega) (by
        rw [List.append_assoc, List.append_assoc, ← hxl5, List.take_left, List.append_assoc]
        congr 2
        rw [show xs5.length + 6 = (xs5 ++ zN).length by rw [List.length_append]; rfl, ← List.append_assoc, List.drop_left]) ?_
      clear M; rintro W M
      dsimp only [setL] at M
      replace M := M.blkRow (s := 6) (n := done5.length + 1) hnc hm (by rw [List.length_append, hcn]; omega) (by
        rw [← hcl2, List.length_append, List.length_append, List.length_append, List.length_append, hcn]; rfl)
      obtain ⟨A6, hA6⟩ : ∃ A6 : Option Addr, A6 = some ⟨gr, 0, none⟩ := ⟨_, rfl⟩
      rw [← hA6] at M
      have hX2 := (M.dw 1 rfl).app (M.dw 0 rfl)
      rw [hdy] at hX2
      replace M := (M.addT hX2).dropL
      refine v_loadN cn agg_nd rfl hcn (M.run 1 rfl) ?_
      refine s_storeA 2 cn M rfl sz_nd rfl rfl hcn hone rfl ?_
      clear M hX2; rintro W M
      dsimp only [setL] at M
      refine c_loadN cn agg_nd rfl hcn (M.run 2 rfl) ?_
      refine ⟨cn, tn, A5, n5, c5, A6, done5.length + 1, c6, xs5 ++ cn, b5, done5 ++ [tn], left5, e5, rfl, (M.drop2.drop2).fsub _ (by intro f hf; simp only [List.mem_cons] at hf ⊢; rcases hf with h | h | h | h <;> simp [h]), ?_⟩
      rcases hK with ⟨k1, k2⟩ | ⟨k1, k2, k3, k4, k5, k6⟩
      · rw [k2]; exact ⟨k1, rfl, rfl, rfl, rfl⟩
      · rw [k6]; exact ⟨rfl, k2, k3, k4, k5, by rw [List.length_append]; exact hD5⟩
    | false =>
      replace M := M.drew
      refine drZ 10 (Kp w gs [(g6, 38, cn), (g, 87, rc A5 n5 c5 Ad5 done5.length cd5 left5 e5)] []) [(0, true), (1, true), (2, true), (3, true), (4, true), (5, true), (6, false), (7, false), (8, true), (9, true)] (by kernel_rfl) (M.kp (by simp) (by simp)) ?_
      refine p_nil rfl ?_
      refine p_fld fp1 rfl ?_
      refine t_load agg_ns rfl (fun W K => (K.B 1 rfl).at_ rfl) ?_
      refine t_loadN cn agg_nd rfl hcn (fun W K => K.run 0 rfl) ?_
      obtain ⟨Bp, dp, Bv, dv, Bk, dk, Bh, dh, rfl, -⟩ := (M.da 0 rfl).node
      refine s_bsliceB (ncs tn Bp dp Bv dv Bk dk Bh dh) M sln z_nd rfl (by decide) rfl ?_
      clear M; rintro gz W M
      refine ⟨(M.kp (by simp) (by simp)), ?_⟩
      refine s_app M Try.underlying36 inf_nd rfl (by decide) rfl rfl (Reads.blk (M.B 0 rfl) rfl) hone ⟨by omega, by decide⟩ ?_
      clear M; rintro A6 c6 W M -
      replace M := M.dropL
      refine ⟨(M.kp (by simp) (by simp)), ?_⟩
      refine p_nil rfl ?_
      refine p_fld fp1 rfl ?_
      refine s_set 1 (off := 1) (.slice A6 (done5.length + 1) c6) (rc A5 n5 c5 A6 (done5.length + 1) c6 left5 e5) M rfl sz_nsP rfl rfl rfl (by show 1 < 4; decide) rfl ?_
      clear M; rintro W M
      dsimp only [setL] at M
      obtain ⟨cn, hcq⟩ : ∃ cn, cn = ncs tn Bp dp Bv dv Bk dk Bh dh := ⟨_, rfl⟩
      rw [← hcq] at M hcn hone
      have hX2 := (M.dw 1 rfl).app (M.dw 0 rfl)
      rw [hdy] at hX2
      replace M := (M.addT hX2).dropL
      refine v_loadN cn agg_nd rfl hcn (M.run 1 rfl) ?_
      refine s_storeA 2 cn M rfl sz_nd rfl rfl hcn hone rfl ?_
      clear M hX2; rintro W M
      dsimp only [setL] at M
      refine c_loadN cn agg_nd rfl hcn (M.run 2 rfl) ?_
      refine ⟨cn, tn, A5, n5, c5, A6, done5.length + 1, c6, xs5 ++ cn, b5, done5 ++ [tn], left5, e5, rfl, (M.drop2.drop2).fsub _ (by intro f hf; simp only [List.mem_cons] at hf ⊢; rcases hf with h | h | h | h <;> simp [h]), ?_⟩
      rcases hK with ⟨k1, k2⟩ | ⟨k1, k2, k3, k4, k5, k6⟩
      · rw [k2]; exact ⟨k1, rfl, rfl, rfl, rfl⟩
      · rw [k6]; exact ⟨rfl, k2, k3, k4, k5, by rw [List.length_append]; exact hD5⟩
theorem rn_any : ∀ F, RnOk F
  | 0 => rn_step 0 fun F h => by cases h
  | F + 1 => rn_step (F + 1) fun F' h => by injection h with h; rw [← h]; exact rn_any F
end Go.Proofs.Ytliccofjlheceaa
