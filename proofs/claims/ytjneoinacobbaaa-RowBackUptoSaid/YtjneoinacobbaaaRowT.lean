/- The walk of row's reader: value. -/
import Derived.Test.YtjneoinacobbaaaRowS
namespace Go.Proofs.Ytjneoinacobbaaa
open Go.RowKit
/-- What becomes of the error at the end of a value. -/
def finE (l : List UInt8) (v : Val) (at_ e : Int) : Int := if e = 0 then (if rightB v then 0 else 11) else if pfB l v.k at_ e then e else 11
/-- What a switch's way leaves suits what is read. -/
def Suits (l : List UInt8) (a : Nat) (v : Val) (at_ e : Int) : Prop := finE l v at_ e = (vR l a).1 ∧ ((vR l a).1 = 0 → v = (vR l a).2.1 ∧ at_ = (vR l a).2.2)
def GotV (w : World) (g : Nat) (A : Option Addr) (n c : Nat) (l : List UInt8) (a : Nat) (en : Ending) (w' : World) : Prop :=
  ∃ v at_ e, en = .returned (vv_ v) ∧ Blk w' g 63 (rc A n c at_ e) ∧ w.grownBy w' (some g) ∧ e = (vR l a).1 ∧ (e = 0 → v = (vR l a).2.1 ∧ at_ = (vR l a).2.2)
theorem pfB_1 (l : List UInt8) (k at_ e : Int) (h : ¬ e = 10 ∨ ¬ k = 4) : pfB l k at_ e = true := by
  unfold pfB
  rcases h with h | h <;> simp [h]
theorem suits_end {l : List UInt8} {a : Nat} {v : Val} {at_ e : Int} (he : ¬ e = 0) (h : (vR l a).1 = if pfB l v.k at_ e then e else 11) : Suits l a v at_ e := by
  refine ⟨by unfold finE; rw [if_neg he, h], fun h0 => ?_⟩
  rw [h] at h0
  split at h0
  · exact absurd h0 he
  · cases h0
theorem suits_ok {l : List UInt8} {a to : Nat} {v : Val} {at_ : Int} (h : vR l a = fin v to) (ht : at_ = (to : Int)) : Suits l a v at_ 0 := by
  unfold Suits finE
  rw [h, if_pos rfl]
  unfold fin
  split
  · exact ⟨rfl, fun _ => ⟨rfl, ht⟩⟩
  · exact ⟨rfl, fun h => by cases h⟩
theorem txS_len (l : List UInt8) (a : Int) : (txS l a).length ≤ l.length := by
  unfold txS
  split
  · unfold gbL
    split
    · rw [List.length_take, List.length_drop]; omega
    · simp
  · simp
theorem text_suits {l : List UInt8} {a : Nat} {k : Int} (ha : a < l.length) (hk : k = at8 l a) (h45 : at8 l a = 4 ∨ at8 l a = 5) : Suits l a ⟨k, 0, txS l ((a + 1 : Nat) : Int)⟩ (txTo l ((a + 1 : Nat) : Int)) (txE l ((a + 1 : Nat) : Int)) := by
  have hv : vR l a = (if gE l ((a + 1 : Nat) : Int) ≠ 0 then no (gE l ((a + 1 : Nat) : Int))
    else if 1000 < gN l ((a + 1 : Nat) : Int) then no 11
    else if gbE l ((a + 1 : Nat) : Int) ≠ 0 then no (if at8 l a = 4 ∧ (l.drop (gTo l ((a + 1 : Nat) : Int)).toNat).all vis = false then 11 else 10)
    else fin ⟨at8 l a, 0, gbL l ((a + 1 : Nat) : Int)⟩ (gbTo l ((a + 1 : Nat) : Int)).toNat) := by
    unfold vR
    rw [if_neg (by omega), if_neg (by omega), if_neg (by omega), if_neg (by omega), if_pos h45]
  have te : txE l ((a + 1 : Nat) : Int) ≠ 0 → txTo l ((a + 1 : Nat) : Int) = ((a + 1 : Nat) : Int) := fun h => by unfold txTo; rw [if_neg h]
  by_cases c1 : gE l ((a + 1 : Nat) : Int) ≠ 0
  · rw [if_pos c1] at hv
    have e1 : txE l ((a + 1 : Nat) : Int) = gE l ((a + 1 : Nat) : Int) := by unfold txE; rw [if_pos c1]
    have h0 : txE l ((a + 1 : Nat) : Int) ≠ 0 := by rw [e1]; exact c1
    refine suits_end h0 ?_
    rw [te h0, hv]
    have : pfB l k ((a + 1 : Nat) : Int) (txE l ((a + 1 : Nat) : Int)) = true := by unfold pfB; rw [decide_eq_false (show ¬ gE l ((a + 1 : Nat) : Int) = 0 from c1)]; simp
    rw [this, if_pos rfl, e1]; rfl
  rw [if_neg c1] at hv
  by_cases c2 : 1000 < gN l ((a + 1 : Nat) : Int)
  · rw [if_pos c2] at hv
    have e1 : txE l ((a + 1 : Nat) : Int) = 11 := by unfold txE; rw [if_neg c1, if_pos c2]
    rw [e1]
    refine suits_end (by simp) ?_
    rw [pfB_1 _ _ _ _ (.inl (by simp)), if_pos rfl, hv]; rfl
  rw [if_neg c2] at hv
  have e1 : txE l ((a + 1 : Nat) : Int) = gbE l ((a + 1 : Nat) : Int) := by unfold txE; rw [if_neg c1, if_neg c2]
  by_cases c3 : gbE l ((a + 1 : Nat) : Int) ≠ 0
  · rw [if_pos c3] at hv
    have h0 : txE l ((a + 1 : Nat) : Int) ≠ 0 := by rw [e1]; exact c3
    have h10 : gbE l ((a + 1 : Nat) : Int) = 10 := by
      rcases gb_cases l ((a + 1 : Nat) : Int) with h | ⟨h, q⟩ | ⟨h, q, m⟩ | ⟨h, q, m⟩
      · exact absurd h c1
      · omega
      · exact (gb_err3 h q m).1
      · exact absurd (gb_ok h q m).1 c3
    refine suits_end h0 ?_
    rw [te h0, hv, e1, h10]
    have c1' : gE l ((a + 1 : Nat) : Int) = 0 := by simpa using c1
    by_cases h4 : at8 l a = 4
    · unfold pfB
      rw [hk, h4, c1']
      cases hvz : (l.drop (gTo l ((a + 1 : Nat) : Int)).toNat).all vis <;> simp [no]
    · rw [pfB_1 _ _ _ _ (.inr (by show ¬ k = 4; omega)), if_pos rfl, if_neg (by omega)]; rfl
  · rw [if_neg c3] at hv
    have c3' : gbE l ((a + 1 : Nat) : Int) = 0 := by simpa using c3
    have e0 : txE l ((a + 1 : Nat) : Int) = 0 := e1.trans c3'
    have e2 : txS l ((a + 1 : Nat) : Int) = gbL l ((a + 1 : Nat) : Int) := by unfold txS; rw [if_pos e0]
    have e3 : txTo l ((a + 1 : Nat) : Int) = gbTo l ((a + 1 : Nat) : Int) := by unfold txTo; rw [if_pos e0]
    rw [e0, e2, e3]
    refine suits_ok (to := (gbTo l ((a + 1 : Nat) : Int)).toNat) (by rw [hv, hk]) ?_
    obtain ⟨x, t, hx, hxl, _, hT, _⟩ := g_ok (l := l) (a := ((a + 1 : Nat) : Int)) (by simpa using c1)
    have := gN_nonneg l ((a + 1 : Nat) : Int)
    unfold gbTo
    rw [if_pos c3', hT]; omega
section
variable {w : World} {B g n c a : Nat} {A : Option Addr} {l : List UInt8} {e : Int}
set_option maxRecDepth 100000 in
set_option maxHeartbeats 1000000 in
theorem rval_any (hr : Rd w w.heap.size A n l) (hr0 : Rd w B A n l) (hBg : B ≤ g) (hn : n ≤ 1000000000) (hnc : n ≤ c) (ha : a ≤ n) (hB : Blk w g 63 (rc A n c a 0)) :
    Calls Try.prog 30 #[.pointer (some ⟨g, 0, none⟩)] w (GotV w g A n c l a) := by
  refine calls_ev (args := [.pointer (some ⟨g, 0, none⟩)]) mixed Try.func30 rfl (by kernel_rfl) ?_
  have hln := hr.len
  have hlt := hB.lt
  refine v_allocB _ al_val ?_
  rintro g2 W0 hg2 hB2 hb2 hsz2
  have hBW0 := hB.belowB hb2 (by omega)
  have hr1 : Rd W0 B A n l := hr0.keep (fun p hp => hb2.cell (by omega))
  have G0 : w.grownBy W0 (some g) := gbelow (hb2.mono (by omega))
  by_cases hend : a = n
  · subst hend
    refine cc is_rone (rone_end hBW0) ?_
    rintro en W1 ⟨rfl, hB1, hg1, hs1⟩
    refine ⟨_, rfl, ?_⟩
    have hB21 := hB2.grownN hg1 (by omega)
    refine v_cvt (by kernel_rfl) (by kernel_rfl) rfl (w64 (by omega)) ?_
    refine p_build (vs := vc ⟨0, 0, []⟩) pl_val zv rfl ?_
    refine v_allocB _ al_val ?_
    rintro g3 W2 hg3 hB3 hb3 hsz3
    refine v_storeA (vc ⟨0, 0, []⟩) sz_val rfl rfl rfl (by intro u hu; exact vcs_one [⟨0, 0, []⟩] u (by simpa [vcs] using hu)) hB3 rfl ?_
    rintro W3 hB33 hg33 hsz33
    have hB1' := (hB1.belowB hb3 (by omega)).grownN hg33 (by omega)
    have hB2' := (hB21.belowB hb3 (by omega)).grownN hg33 (by omega)
    refine p_nil rfl ?_
    refine p_fld fr2 rfl ?_
    refine v_load agg_err rfl (hB1'.at_ rfl) ?_
    refine p_ne rfl rfl (fun e => by cases e) (fun _ => ?_)
    refine v_loadN (vc ⟨0, 0, []⟩) agg_val rfl rfl (hB33.run 0 _ (fun j v h => by rw [Nat.zero_add]; exact h)) ?_
    refine v_storeA (vc ⟨0, 0, []⟩) sz_val rfl rfl rfl (by intro u hu; exact vcs_one [⟨0, 0, []⟩] u (by simpa [vcs] using hu)) hB2' rfl ?_
    rintro W4 hB24 hg4 hsz4
    refine ⟨⟨_, _, rfl, run_loadN agg_val (vc ⟨0, 0, []⟩) rfl (hB24.run 0 _ (fun j v h => by rw [Nat.zero_add]; exact h)), ?_⟩⟩
    have hv : (vR l a).1 = 10 := by unfold vR; rw [if_pos (by omega)]; rfl
    refine ⟨⟨0, 0, []⟩, a, 10, rfl, hB1'.grownN hg4 (by omega), ?_, hv.symm, fun h => by cases h⟩
    exact gnew (gnew (gtrans (gtrans G0 hg1) (gbelow (hb3.mono (by omega)))) hg33 (by omega)) hg4 (by omega)
  have hal : a < n := by omega
  refine cc is_rone (rone_more hr1 hBg hn hal hBW0) ?_
  rintro en W1 ⟨rfl, hB1, hg1, hs1⟩
  refine ⟨_, rfl, ?_⟩
  have h80 := at8_lo l a
  have h81 := at8_hi l a
  obtain ⟨k, hk⟩ : ∃ k, k = at8 l a := ⟨_, rfl⟩
  rw [← hk] at h80 h81 ⊢
  have hB21 := hB2.grownN hg1 (by omega)
  refine v_cvt (by kernel_rfl) (by kernel_rfl) rfl (w64 (by omega)) ?_
  refine p_build (vs := vc ⟨k, 0, []⟩) pl_val zv rfl ?_
  refine v_allocB _ al_val ?_
  rintro g3 W2 hg3 hB3 hb3 hsz3
  refine v_storeA (vc ⟨k, 0, []⟩) sz_val rfl rfl rfl (by intro u hu; exact vcs_one [⟨k, 0, []⟩] u (by simpa [vcs] using hu)) hB3 rfl ?_
  rintro W3 hB33 hg33 hsz33
  have hB1' := (hB1.belowB hb3 (by omega)).grownN hg33 (by omega)
  have hB2' := (hB21.belowB hb3 (by omega)).grownN hg33 (by omega)
  have G3 : w.grownBy W3 (some g) := gnew (gtrans (gtrans G0 hg1) (gbelow (hb3.mono (by omega)))) hg33 (by omega)
  have hr3 : Rd W3 B A n l := hr0.grownG G3 hBg hlt
  clear hB3 hB21 hB1 hBW0 hr1
  replace hB33 : Blk W3 g3 52 [.int .i64 k, .int .i64 0, .string (sb [])] := hB33
  refine p_nil rfl ?_
  refine p_fld fr2 rfl ?_
  refine v_load agg_err rfl (hB1'.at_ rfl) ?_
  refine p_ne rfl rfl (fun _ => ?_) (fun h => absurd rfl h)
  refine evOps_nil ?_
  refine nx ?_
  refine ev_iff rfl ?_
  refine ev_skp ?_
  refine nx ?_
  refine cutS (Val × Int × Int) (fun s W => Blk W g 63 (rc A n c s.2.1 s.2.2) ∧ Blk W g3 52 (vc s.1) ∧ Blk W g2 52 (vc ⟨0, 0, []⟩) ∧ w.grownBy W (some g) ∧ Suits l a s.1 s.2.1 s.2.2 ∧ s.1.s.length ≤ 1000000000) (fun s => [(0, .pointer (some ⟨g, 0, none⟩)), (2, .pointer (some ⟨g2, 0, none⟩)), (3, .pointer (some ⟨g3, 0, none⟩))]) ?_ ?_
  · refine p_fld fv0 rfl ?_
    refine v_load agg_int rfl (hB33.at_ rfl) ?_
    refine p_eq rfl rfl (fun e1 => ?_) (fun e1 => ?_)
    · subst e1
      refine ⟨(⟨1, 0, []⟩, ((a + 1 : Nat) : Int), 0), ⟨hB1', hB33, hB2', G3, ?_, by simp⟩, rfl, rfl, rfl, trivial⟩
      refine suits_ok (to := a + 1) ?_ rfl
      unfold vR; rw [if_neg (by omega), if_pos hk.symm]; rfl
    refine p_eq rfl rfl (fun e2 => ?_) (fun e2 => ?_)
    · subst e2
      by_cases hend2 : a + 1 = n
      · subst hend2
        refine cc is_rone (rone_end hB1') ?_
        rintro en W4 ⟨rfl, hB4, hg4, hs4⟩
        refine ⟨_, rfl, ?_⟩
        refine v_cvt (by kernel_rfl) (by kernel_rfl) rfl (w64 (by omega)) ?_
        refine p_fld fv1 rfl ?_
        refine v_set (.int .i64 0) sz_int (hB33.grownN hg4 (by omega)) rfl rfl rfl (by show 1 < 3; omega) ?_
        rintro W5 hB5 hg5 hs5
        refine ⟨(⟨2, 0, []⟩, ((a + 1 : Nat) : Int), 10), ⟨hB4.grownN hg5 (by omega), hB5, (hB2'.grownN hg4 (by omega)).grownN hg5 (by omega), gnew (gtrans G3 hg4) hg5 (by omega), ?_, by simp⟩, rfl, rfl, rfl, trivial⟩
        refine suits_end (by simp) ?_
        rw [pfB_1 _ _ _ _ (.inr (by simp)), if_pos rfl]
        unfold vR; rw [if_neg (by omega), if_neg (by omega), if_pos hk.symm, if_pos (by omega)]; rfl
      · refine cc is_rone (rone_more hr3 hBg hn (by omega) hB1') ?_
        rintro en W4 ⟨rfl, hB4, hg4, hs4⟩
        refine ⟨_, rfl, ?_⟩
        have h82 := at8_lo l (a + 1)
        have h83 := at8_hi l (a + 1)
        refine v_cvt (by kernel_rfl) (by kernel_rfl) rfl (w64 (by omega)) ?_
        refine p_fld fv1 rfl ?_
        refine v_set (.int .i64 (at8 l (a + 1))) sz_int (hB33.grownN hg4 (by omega)) rfl rfl rfl (by show 1 < 3; omega) ?_
        rintro W5 hB5 hg5 hs5
        refine ⟨(⟨2, at8 l (a + 1), []⟩, ((a + 1 + 1 : Nat) : Int), 0), ⟨hB4.grownN hg5 (by omega), hB5, (hB2'.grownN hg4 (by omega)).grownN hg5 (by omega), gnew (gtrans G3 hg4) hg5 (by omega), ?_, by simp⟩, rfl, rfl, rfl, trivial⟩
        refine suits_ok (to := a + 2) ?_ rfl
        unfold vR; rw [if_neg (by omega), if_neg (by omega), if_pos hk.symm, if_neg (by omega)]
    refine p_eq rfl rfl (fun e3 => ?_) (fun e3 => ?_)
    · subst e3
      refine cc is_rnum (rnum_any hr3 hn hnc ((a + 1 : Nat) : Int) hB1') ?_
      rintro en W4 ⟨rfl, hB4, hg4, hs4⟩
      refine ⟨_, rfl, ?_⟩
      refine p_fld fv1 rfl ?_
      refine v_set (.int .i64 (zag (gN l ((a + 1 : Nat) : Int)))) sz_int (hB33.grownN hg4 (by omega)) rfl rfl rfl (by show 1 < 3; omega) ?_
      rintro W5 hB5 hg5 hs5
      refine ⟨(⟨3, zag (gN l ((a + 1 : Nat) : Int)), []⟩, gTo l ((a + 1 : Nat) : Int), gE l ((a + 1 : Nat) : Int)), ⟨hB4.grownN hg5 (by omega), hB5, (hB2'.grownN hg4 (by omega)).grownN hg5 (by omega), gnew (gtrans G3 hg4) hg5 (by omega), ?_, by simp⟩, rfl, rfl, rfl, trivial⟩
      by_cases h0 : gE l ((a + 1 : Nat) : Int) = 0
      · obtain ⟨x, t, hx, hxl, _, hT, _⟩ := g_ok h0
        rw [h0]
        refine suits_ok (to := (gTo l ((a + 1 : Nat) : Int)).toNat) ?_ (by show gTo l _ = _; rw [hT]; omega)
        unfold vR; rw [if_neg (by omega), if_neg (by omega), if_neg (by omega), if_pos hk.symm, if_neg (by simpa using h0)]; rfl
      · refine suits_end h0 ?_
        rw [pfB_1 _ _ _ _ (.inr (by simp)), if_pos rfl]
        unfold vR; rw [if_neg (by omega), if_neg (by omega), if_neg (by omega), if_pos hk.symm, if_pos h0]; rfl
    refine p_eq rfl rfl (fun e4 => ?_) (fun e4 => ?_)
    rotate_left
    refine p_eq rfl rfl (fun e5 => ?_) (fun e5 => ?_)
    rotate_left
    · refine p_nil rfl ?_
      refine p_fld fr2 rfl ?_
      refine v_set (.int .i64 11) sz_err hB1' rfl rfl rfl (by show 2 < 3; omega) ?_
      rintro W5 hB5 hg5 hs5
      refine ⟨(⟨k, 0, []⟩, ((a + 1 : Nat) : Int), 11), ⟨hB5, hB33.grownN hg5 (by omega), hB2'.grownN hg5 (by omega), gtrans G3 hg5, ?_, by simp⟩, rfl, rfl, rfl, trivial⟩
      refine suits_end (by simp) ?_
      rw [pfB_1 _ _ _ _ (.inl (by simp)), if_pos rfl]
      unfold vR; rw [if_neg (by omega), if_neg (by omega), if_neg (by omega), if_neg (by omega), if_neg (by omega)]; rfl
    all_goals
      have h45 : at8 l a = 4 ∨ at8 l a = 5 := by omega
      refine cc is_rtext (rtext_any (hr3.more (by omega)) hr3 hBg hn hnc ((a + 1 : Nat) : Int) hB1') ?_
      rintro en W4 ⟨rfl, hB4, hg4⟩
      refine ⟨_, rfl, ?_⟩
      refine p_fld fv2 rfl ?_
      refine v_set (.string (sb (txS l ((a + 1 : Nat) : Int)))) sz_str (hB33.grownN hg4 (by omega)) rfl rfl rfl (by show 2 < 3; omega) ?_
      rintro W5 hB5 hg5 hs5
      have hg4s := hg4.size
      refine ⟨(⟨k, 0, txS l ((a + 1 : Nat) : Int)⟩, txTo l ((a + 1 : Nat) : Int), txE l ((a + 1 : Nat) : Int)), ⟨hB4.grownN hg5 (by omega), hB5, (hB2'.grownN hg4 (by omega)).grownN hg5 (by omega), gnew (gtrans G3 hg4) hg5 (by omega), text_suits (by omega) hk h45, ?_⟩, rfl, rfl, rfl, trivial⟩
      exact Nat.le_trans (txS_len l _) (by omega)
  · rintro ⟨v, at_, e⟩ E4 W4 ⟨hB4, hB43, hB42, G4, hS, hvl⟩
    dsimp only at hB4 hB43 hS hvl
    have hw4 := G4.size
    have hr4 : Rd W4 B A n l := hr0.grownG G4 hBg hlt
    have hlt3 := hB43.lt
    have hlt2 := hB42.lt
    -- the last steps
    have last : ∀ (W : World) (e' : Int), Blk W g 63 (rc A n c at_ e') → Blk W g3 52 (vc v) → Blk W g2 52 (vc ⟨0, 0, []⟩) → w.grownBy W (some g) → e' = finE l v at_ e → ∀ (W' : World), Blk W' g2 52 (vc v) → W.grownBy W' (some g2) → GotV w g A n c l a (.returned (vv_ v)) W' := by
      intro W e' h1 h2 h3 h4 h5 W' h6 h7
      refine ⟨v, at_, e', rfl, h1.grownN h7 (by omega), gnew h4 h7 (by omega), h5.trans hS.1, fun h0 => ?_⟩
      exact hS.2 (hS.1.symm.trans (h5.symm.trans h0))
    have one1 : ∀ u ∈ vc v, u.oneCell' = true := by intro u hu; exact vcs_one [v] u (by simpa [vcs] using hu)
    refine p_nil rfl ?_
    refine p_fld fr2 rfl ?_
    refine v_load agg_err rfl (hB4.at_ rfl) ?_
    refine p_eq rfl rfl (fun h0 => ?_) (fun h0 => ?_)
    · refine v_loadN (vc v) agg_val rfl rfl (hB43.run 0 _ (fun j v h => by rw [Nat.zero_add]; exact h)) ?_
      refine cc is_chk (chk_any v W4 (by omega)) ?_
      rintro en W5 ⟨rfl, b5⟩
      refine ⟨_, rfl, ?_⟩
      have hB5 := hB4.below b5
      have hB53 := hB43.below b5
      have hB52 := hB42.below b5
      have G5 := gtrans G4 (gbelow b5)
      have hs5 := b5.size
      refine p_ne rfl rfl (fun hc => ?_) (fun hc => ?_)
      · refine v_loadN (vc v) agg_val rfl rfl (hB53.run 0 _ (fun j v h => by rw [Nat.zero_add]; exact h)) ?_
        have hr5 : Rd W5 W5.heap.size A n l := (hr4.keep (fun p hp => b5.cell (by omega))).more (by omega)
        refine cc is_rpre (rpre_any hr5 hn hnc at_ hB5 v) ?_
        rintro en W6 ⟨b, rfl, hb, b6⟩
        refine ⟨_, rfl, ?_⟩
        rw [pfB_1 _ _ _ _ (.inl (by omega))] at hb
        subst hb
        refine p_not rfl ?_
        refine v_loadN (vc v) agg_val rfl rfl ((hB53.below b6).run 0 _ (fun j v h => by rw [Nat.zero_add]; exact h)) ?_
        refine v_storeA (vc v) sz_val rfl rfl rfl one1 (hB52.below b6) rfl ?_
        rintro W7 hB7 hg7 hs7
        refine ⟨⟨_, _, rfl, run_loadN agg_val (vc v) rfl (hB7.run 0 _ (fun j v h => by rw [Nat.zero_add]; exact h)), ?_⟩⟩
        exact last W6 e (hB5.below b6) (hB53.below b6) (hB52.below b6) (gtrans G5 (gbelow b6)) (by unfold finE; rw [if_pos h0, chkE_eq hc]; exact h0) W7 hB7 hg7
      · refine p_nil rfl ?_
        refine p_fld fr2 rfl ?_
        refine v_set (.int .i64 11) sz_err hB5 rfl rfl rfl (by show 2 < 3; omega) ?_
        rintro W6 hB6 hg6 hs6
        refine v_loadN (vc v) agg_val rfl rfl ((hB53.grownN hg6 (by omega)).run 0 _ (fun j v h => by rw [Nat.zero_add]; exact h)) ?_
        refine v_storeA (vc v) sz_val rfl rfl rfl one1 (hB52.grownN hg6 (by omega)) rfl ?_
        rintro W7 hB7 hg7 hs7
        refine ⟨⟨_, _, rfl, run_loadN agg_val (vc v) rfl (hB7.run 0 _ (fun j v h => by rw [Nat.zero_add]; exact h)), ?_⟩⟩
        exact last W6 11 hB6 (hB53.grownN hg6 (by omega)) (hB52.grownN hg6 (by omega)) (gtrans G5 hg6) (by unfold finE; rw [if_pos h0, (chkE_ne hc).1]; rfl) W7 hB7 hg7
    · refine v_loadN (vc v) agg_val rfl rfl (hB43.run 0 _ (fun j v h => by rw [Nat.zero_add]; exact h)) ?_
      refine cc is_rpre (rpre_any (hr4.more (by omega)) hn hnc at_ hB4 v) ?_
      rintro en W6 ⟨b, rfl, hb, b6⟩
      refine ⟨_, rfl, ?_⟩
      have hB6 := hB4.below b6
      have hB63 := hB43.below b6
      have hB62 := hB42.below b6
      have G6 := gtrans G4 (gbelow b6)
      have hs6 := b6.size
      cases b
      · refine p_not rfl ?_
        refine p_nil rfl ?_
        refine p_fld fr2 rfl ?_
        refine v_set (.int .i64 11) sz_err hB6 rfl rfl rfl (by show 2 < 3; omega) ?_
        rintro W8 hB8 hg8 hs8
        refine v_loadN (vc v) agg_val rfl rfl ((hB63.grownN hg8 (by omega)).run 0 _ (fun j v h => by rw [Nat.zero_add]; exact h)) ?_
        refine v_storeA (vc v) sz_val rfl rfl rfl one1 (hB62.grownN hg8 (by omega)) rfl ?_
        rintro W7 hB7 hg7 hs7
        refine ⟨⟨_, _, rfl, run_loadN agg_val (vc v) rfl (hB7.run 0 _ (fun j v h => by rw [Nat.zero_add]; exact h)), ?_⟩⟩
        exact last W8 11 hB8 (hB63.grownN hg8 (by omega)) (hB62.grownN hg8 (by omega)) (gtrans G6 hg8) (by unfold finE; rw [if_neg h0, ← hb]; rfl) W7 hB7 hg7
      · refine p_not rfl ?_
        refine v_loadN (vc v) agg_val rfl rfl (hB63.run 0 _ (fun j v h => by rw [Nat.zero_add]; exact h)) ?_
        refine v_storeA (vc v) sz_val rfl rfl rfl one1 hB62 rfl ?_
        rintro W7 hB7 hg7 hs7
        refine ⟨⟨_, _, rfl, run_loadN agg_val (vc v) rfl (hB7.run 0 _ (fun j v h => by rw [Nat.zero_add]; exact h)), ?_⟩⟩
        exact last W6 e hB6 hB63 hB62 G6 (by unfold finE; rw [if_neg h0, ← hb]; rfl) W7 hB7 hg7
end
end Go.Proofs.Ytjneoinacobbaaa
