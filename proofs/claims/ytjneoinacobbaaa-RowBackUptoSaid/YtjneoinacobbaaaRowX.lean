/- The walk of the reference's Decode. -/
import Derived.Test.YtjneoinacobbaaaRowV
namespace Go.Proofs.Ytjneoinacobbaaa
open Go.RowKit
theorem u_u64' : (Try.prog.underlying 54).isSome = true := by kernel_rfl
set_option maxRecDepth 100000 in
set_option maxHeartbeats 1000000 in
theorem rdecode_any (A : Option Addr) (n c : Nat) (l : List UInt8) (w : World) (hr : Rd w w.heap.size A n l) (hn : n ≤ 1000000000) (hnc : n ≤ c) :
    Calls Try.prog 13 #[.slice A n c] w (DecG w l) := by
  refine calls_ev (args := [.slice A n c]) mixed Try.func13 rfl (by kernel_rfl) ?_
  have hln := hr.len
  refine cc is_rget (refGet_any _ _ _ _ 0 _ _ hr (by omega)) ?_
  rintro en w' ⟨rfl, rfl⟩
  refine ⟨_, rfl, ?_⟩
  refine p_ne rfl rfl (fun h0 => ?_) (fun h0 => ?_)
  rotate_left
  · have e1 : decE l = gE l 0 := by unfold decE; rw [if_pos h0]
    have e2 : decL l = [] := by unfold decL; rw [if_neg (by rw [e1]; exact h0)]
    exact ⟨none, 0, 0, by rw [e1]; rfl, by rw [e2]; exact OwnV.nil_ _ _, Below.refl _ _⟩
  refine p_gt rfl rfl (fun h1 => ?_) (fun h1 => ?_)
  · have e1 : decE l = 11 := by unfold decE; rw [if_neg (by simpa using h0), if_pos h1]
    have e2 : decL l = [] := by unfold decL; rw [if_neg (by rw [e1]; decide)]
    exact ⟨none, 0, 0, by rw [e1]; rfl, by rw [e2]; exact OwnV.nil_ _ _, Below.refl _ _⟩
  obtain ⟨x, t, hx, hxl, _, hT, _, hle, _⟩ := g_ok h0
  obtain ⟨N, hN⟩ := Int.eq_ofNat_of_zero_le (gN_nonneg l 0)
  have hx0 : x = 0 := by omega
  subst hx0
  rw [Nat.zero_add] at hT hle
  have h00 : Half l N 0 t [] := by
    refine ⟨rfl, by omega, hle, ?_⟩
    rw [hT, Nat.sub_zero, Int.toNat_natCast]; simp
  refine lp (Nat × Nat × List Val × Option Addr × Nat × Nat) (fun s W => Below w.heap.size w W ∧ OwnV W w.heap.size s.2.2.2.1 s.2.2.2.2.1 s.2.2.2.2.2 s.2.2.1 ∧ Half l N s.1 s.2.1 s.2.2.1)
    (fun s => [(0, .slice A n c), (4, .int .u64 (gN l 0)), (5, .int .i64 s.2.1), (7, .slice s.2.2.2.1 s.2.2.2.2.1 s.2.2.2.2.2)]) (fun s => N - s.1) (0, t, [], none, 0, 0)
    ⟨Below.refl _ _, OwnV.nil_ _ _, h00⟩ ⟨rfl, rfl, by show Value.int .i64 (gTo l 0) = .int .i64 t; rw [hT], rfl, trivial⟩ ?_
  rintro ⟨i, a, vs, A3, n3, c3⟩ E0 W1 ⟨hb1, o1, hH⟩
  dsimp only at o1 hH
  have hs1 := hb1.size
  have hr1 : Rd W1 w.heap.size A n l := hr.below hb1
  have hn3 : n3 = i := by have := o1.1; rw [vcs_len, hH.1] at this; omega
  have hal := hH.2.2.1
  have hiN := hH.2.1
  refine p_len slv rfl ?_
  refine v_cvt u_int u_u64 rfl (wu64 (by show 0 ≤ (n3 : Int) ∧ (n3 : Int) < _; omega)) ?_
  refine p_lt rfl rfl (fun h => ?_) (fun h => ?_)
  · replace h : (n3 : Int) < gN l 0 := h
    have hiN : i < N := by omega
    refine p_slice (i := a) slb rfl (bnd_i rfl) rfl rfl rfl (by omega) hnc (Nat.le_refl _) ?_
    refine cc is_rvalue (rvalue_any _ _ _ _ _ ((hr1.sle (i := a) (m := c) (by omega) hnc).more hs1) (by omega) (by omega)) ?_
    rintro en W2 ⟨v, k, s, rfl, b2, hok, hno⟩
    refine ⟨_, rfl, ?_⟩
    have hd := vR_drop hal
    have hb2 := hb1.trans (b2.mono hs1)
    refine v_allocB _ al_val ?_
    rintro g W3 hg hB hb3 hsz3
    refine v_storeA (vc v) sz_val rfl rfl rfl (by intro u hu; exact vcs_one [v] u (by simpa [vcs] using hu)) hB rfl ?_
    rintro W4 hB4 hg4 hs4
    have b4 : Below g W2 W4 := hb3.grown hg4 (by omega) (fun k hk => by injection hk with hk; omega)
    have hb4 := hb2.trans (b4.mono (by have := hb2.size; omega))
    by_cases hv : (vR (l.drop a) 0).1 = 0
    · obtain ⟨hv1, hv2, hv3⟩ := hok hv
      subst hv3
      obtain ⟨d1, d2⟩ := hd.2 (hd.1.symm.trans hv)
      have hvl := vR_ok (l := l.drop a) (by rw [List.length_drop]; omega) hv
      refine p_eq rfl rfl (fun hk => by rw [hv2] at hk; omega) (fun hk => ?_)
      refine p_eq rfl rfl (fun hk => by rw [hv2] at hk; omega) (fun hk => ?_)
      refine v_loadN (vc v) agg_val rfl rfl (hB4.run 0 _ (fun j v h => by rw [Nat.zero_add]; exact h)) ?_
      refine v_bslice (vs := vc v) slv zv rfl (by decide) rfl ?_
      rintro g5 W5 hg5 hB5 hb5 hsz5
      have b5 : Below W1.heap.size W1 W5 := (b2.trans (b4.mono (by have := b2.size; omega))).trans (hb5.mono (by have := b2.size; omega))
      have o5 : OwnV W5 w.heap.size A3 n3 c3 vs := ownsRow_below o1 b5
      have hs5 := b5.size
      refine v_appG u_sv inf_val rfl (by decide) rfl o5 rfl (Reads.blk (size := 3) (n := 1) hB5 rfl) (fun u hu => vcs_one [v] u (by simpa [vcs] using hu)) ⟨by show n3 + 1 ≤ _; omega, by decide⟩ (by omega) ?_
      rintro A6 c6 W6 o6 hg6
      have b6 : Below w.heap.size w W6 := (hb1.trans (b5.mono hs1)).grown hg6 (by omega) (fun k hk => o5.lo k hk)
      replace o6 : OwnV W6 w.heap.size A6 (n3 + 1) c6 (vs ++ [v]) := by unfold OwnV; rw [vcs_append]; simpa [vcs] using o6
      have hH2 := half_step hH hiN (by omega) (hd.1.symm.trans hv)
      rw [List.length_drop] at hvl
      refine p_add rfl rfl (w64 (by show _ ≤ (a : Int) + k ∧ (a : Int) + k ≤ _; omega)) ?_
      refine ⟨(i + 1, (vR l a).2.2, vs ++ [(vR l a).2.1], A6, n3 + 1, c6), ⟨b6, by rw [← d1, ← hv1]; exact o6, hH2⟩, ⟨rfl, rfl, ?_, rfl, trivial⟩, by show N - (i + 1) < N - i; omega⟩
      show Value.int .i64 ((a : Int) + k) = .int .i64 (((vR l a).2.2 : Nat) : Int)
      rw [d2, hv2]; rfl
    · obtain ⟨hv1, hv2⟩ := hno hv
      have hbad := half_bad hH hiN (by rw [← hd.1]; exact hv)
      have e1 : decE l = (vR l a).1 := by
        unfold decE decR
        rw [if_neg (by simpa using h0), if_neg h1, hN, Int.toNat_natCast, hbad, if_pos (by rw [← hd.1]; exact hv)]
      have e2 : decL l = [] := by unfold decL; rw [if_neg (by rw [e1, ← hd.1]; exact hv)]
      have e3 : (vR l a).1 = 10 ∨ (vR l a).1 = 11 := by
        have ne : (vR l a).1 ≠ 0 := by rw [← hd.1]; exact hv
        exact vR_err ne
      refine p_eq rfl rfl (fun hk => ?_) (fun hk => absurd hv1 hk)
      cases s
      · refine p_eq rfl rfl (fun hk => ?_) (fun hk => absurd hv1 hk)
        have e4 : (vR l a).1 = 11 := by
          rcases e3 with h | h
          · rw [hd.1, h] at hv2; cases hv2
          · exact h
        exact ⟨none, 0, 0, by rw [e1, e4]; rfl, by rw [e2]; exact OwnV.nil_ _ _, hb4⟩
      · have e4 : (vR l a).1 = 10 := by rw [← hd.1]; exact of_decide_eq_true hv2.symm
        exact ⟨none, 0, 0, by rw [e1, e4]; rfl, by rw [e2]; exact OwnV.nil_ _ _, hb4⟩
  · replace h : ¬ (n3 : Int) < gN l 0 := h
    have hiN : i = N := by omega
    subst hiN
    have hend := half_end hH
    have hR : decR l = (0, vs, a) := by unfold decR; rw [hN, Int.toNat_natCast, hend]
    refine p_len slb rfl ?_
    refine p_ne rfl rfl (fun h4 => ?_) (fun h4 => ?_)
    · replace h4 : (a : Int) = n := h4
      have e1 : decE l = 0 := by unfold decE; rw [if_neg (by simpa using h0), if_neg h1, hR, if_neg (by simp), if_neg (by show ¬ a < l.length; omega)]
      have e2 : decL l = vs := by unfold decL; rw [if_pos e1, hR]
      exact ⟨A3, n3, c3, by rw [e1]; rfl, by rw [e2]; exact o1, hb1⟩
    · replace h4 : ¬ (a : Int) = n := h4
      have e1 : decE l = 11 := by unfold decE; rw [if_neg (by simpa using h0), if_neg h1, hR, if_neg (by simp), if_pos (by show a < l.length; omega)]
      have e2 : decL l = [] := by unfold decL; rw [if_neg (by rw [e1]; decide)]
      exact ⟨none, 0, 0, by rw [e1]; rfl, by rw [e2]; exact OwnV.nil_ _ _, hb1⟩
end Go.Proofs.Ytjneoinacobbaaa
