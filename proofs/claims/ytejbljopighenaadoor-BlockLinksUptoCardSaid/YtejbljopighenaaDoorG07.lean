/- The walk of row's reader: value. Rows of the call's own, of whatever elements; append onto them. No program in sight. Rows read from bytes, plainly; append of values. The walk of row.Decode. Numbers and bytes in one way: the reference's Get, GetInt, GetBytes. The walks of the reference's begins, value and Decode. The walk of the reference's Decode. Are values, and rows of them, the same? The walks of the reference's Cmp and Rows. The walks of the reference's Rows and of the law's 'long'. -/
import Derived.Test.YtejbljopighenaaDoorG06
import Derived.Test.YtejbljopighenaaDoorG04
import Derived.Test.YtejbljopighenaaDoorG05
import Derived.Laws.StructEq
namespace Go.Proofs.YtejbljopighenaaDoor
open Go.RowKit
/-- What becomes of the error at the end of a value. -/
def finE (l : List UInt8) (v : Val) (at_ e : Int) : Int := if e = 0 then (if rightB v then 0 else 11) else if pfB l v.k at_ e then e else 11
/-- What a switch's way leaves suits what is read. -/
def Suits (l : List UInt8) (a : Nat) (v : Val) (at_ e : Int) : Prop := finE l v at_ e = (vR l a).1 ∧ ((vR l a).1 = 0 → v = (vR l a).2.1 ∧ at_ = (vR l a).2.2)
def GotV (w : World) (g : Nat) (A : Option Addr) (n c : Nat) (l : List UInt8) (a : Nat) (en : Ending) (w' : World) : Prop :=
  ∃ v at_ e, en = .returned (vv_ v) ∧ Blk w' g 145 (rc A n c at_ e) ∧ w.grownBy w' (some g) ∧ e = (vR l a).1 ∧ (e = 0 → v = (vR l a).2.1 ∧ at_ = (vR l a).2.2)
theorem pfB_1 (l : List UInt8) (k at_ e : Int) (h : ¬ e = 10 ∨ ¬ k = 4) : pfB l k at_ e = true := by
  unfold pfB
  rcases h with h | h <;> simp [h]
theorem suits_end {l : List UInt8} {a : Nat} {v : Val} {at_ e : Int} (he : ¬ e = 0) (h : (vR l a).1 = if pfB l v.k at_ e then e else 11) : Suits l a v at_ e := by
  refine ⟨by unfold finE; rw [if_neg he, h], fun h0 => ?_⟩
  rw [h] at h0
  split at h0
  · exact absurd h0 he
  · cases h0
theorem suits_ok {l : List UInt8} {a to : Nat} {v : Val} {at_ : Int} (h : vR l a = fin v to) (ht : at_ = (to : Int)) : Suits l a v at_ 0 := by
  unfold Suits finE
  rw [h, if_pos rfl]
  unfold fin
  split
  · exact ⟨rfl, fun _ => ⟨rfl, ht⟩⟩
  · exact ⟨rfl, fun h => by cases h⟩
theorem txS_len (l : List UInt8) (a : Int) : (txS l a).length ≤ l.length := by
  unfold txS
  split
  · unfold gbL
    split
    · rw [List.length_take, List.length_drop]; omega
    · simp
  · simp
theorem text_suits {l : List UInt8} {a : Nat} {k : Int} (ha : a < l.length) (hk : k = at8 l a) (h45 : at8 l a = 4 ∨ at8 l a = 5) : Suits l a ⟨k, 0, txS l ((a + 1 : Nat) : Int)⟩ (txTo l ((a + 1 : Nat) : Int)) (txE l ((a + 1 : Nat) : Int)) := by
  have hv : vR l a = (if gE l ((a + 1 : Nat) : Int) ≠ 0 then no (gE l ((a + 1 : Nat) : Int))
    else if 1000 < gN l ((a + 1 : Nat) : Int) then no 11
    else if gbE l ((a + 1 : Nat) : Int) ≠ 0 then no (if at8 l a = 4 ∧ (l.drop (gTo l ((a + 1 : Nat) : Int)).toNat).all vis = false then 11 else 10)
    else fin ⟨at8 l a, 0, gbL l ((a + 1 : Nat) : Int)⟩ (gbTo l ((a + 1 : Nat) : Int)).toNat) := by
    unfold vR
    rw [if_neg (by omega), if_neg (by omega), if_neg (by omega), if_neg (by omega), if_pos h45]
  have te : txE l ((a + 1 : Nat) : Int) ≠ 0 → txTo l ((a + 1 : Nat) : Int) = ((a + 1 : Nat) : Int) := fun h => by unfold txTo; rw [if_neg h]
  by_cases c1 : gE l ((a + 1 : Nat) : Int) ≠ 0
  · rw [if_pos c1] at hv
    have e1 : txE l ((a + 1 : Nat) : Int) = gE l ((a + 1 : Nat) : Int) := by unfold txE; rw [if_pos c1]
    have h0 : txE l ((a + 1 : Nat) : Int) ≠ 0 := by rw [e1]; exact c1
    refine suits_end h0 ?_
    rw [te h0, hv]
    have : pfB l k ((a + 1 : Nat) : Int) (txE l ((a + 1 : Nat) : Int)) = true := by unfold pfB; rw [decide_eq_false (show ¬ gE l ((a + 1 : Nat) : Int) = 0 from c1)]; simp
    rw [this, if_pos rfl, e1]; rfl
  rw [if_neg c1] at hv
  by_cases c2 : 1000 < gN l ((a + 1 : Nat) : Int)
  · rw [if_pos c2] at hv
    have e1 : txE l ((a + 1 : Nat) : Int) = 11 := by unfold txE; rw [if_neg c1, if_pos c2]
    rw [e1]
    refine suits_end (by simp) ?_
    rw [pfB_1 _ _ _ _ (.inl (by simp)), if_pos rfl, hv]; rfl
  rw [if_neg c2] at hv
  have e1 : txE l ((a + 1 : Nat) : Int) = gbE l ((a + 1 : Nat) : Int) := by unfold txE; rw [if_neg c1, if_neg c2]
  by_cases c3 : gbE l ((a + 1 : Nat) : Int) ≠ 0
  · rw [if_pos c3] at hv
    have h0 : txE l ((a + 1 : Nat) : Int) ≠ 0 := by rw [e1]; exact c3
    have h10 : gbE l ((a + 1 : Nat) : Int) = 10 := by
      rcases gb_cases l ((a + 1 : Nat) : Int) with h | ⟨h, q⟩ | ⟨h, q, m⟩ | ⟨h, q, m⟩
      · exact absurd h c1
      · omega
      · exact (gb_err3 h q m).1
      · exact absurd (gb_ok h q m).1 c3
    refine suits_end h0 ?_
    rw [te h0, hv, e1, h10]
    have c1' : gE l ((a + 1 : Nat) : Int) = 0 := by simpa using c1
    by_cases h4 : at8 l a = 4
    · unfold pfB
      rw [hk, h4, c1']
      cases hvz : (l.drop (gTo l ((a + 1 : Nat) : Int)).toNat).all vis <;> simp [no]
    · rw [pfB_1 _ _ _ _ (.inr (by show ¬ k = 4; omega)), if_pos rfl, if_neg (by omega)]; rfl
  · rw [if_neg c3] at hv
    have c3' : gbE l ((a + 1 : Nat) : Int) = 0 := by simpa using c3
    have e0 : txE l ((a + 1 : Nat) : Int) = 0 := e1.trans c3'
    have e2 : txS l ((a + 1 : Nat) : Int) = gbL l ((a + 1 : Nat) : Int) := by unfold txS; rw [if_pos e0]
    have e3 : txTo l ((a + 1 : Nat) : Int) = gbTo l ((a + 1 : Nat) : Int) := by unfold txTo; rw [if_pos e0]
    rw [e0, e2, e3]
    refine suits_ok (to := (gbTo l ((a + 1 : Nat) : Int)).toNat) (by rw [hv, hk]) ?_
    obtain ⟨x, t, hx, hxl, _, hT, _⟩ := g_ok (l := l) (a := ((a + 1 : Nat) : Int)) (by simpa using c1)
    have := gN_nonneg l ((a + 1 : Nat) : Int)
    unfold gbTo
    rw [if_pos c3', hT]; omega
section
variable {w : World} {B g n c a : Nat} {A : Option Addr} {l : List UInt8} {e : Int}
set_option maxRecDepth 100000 in
set_option maxHeartbeats 1000000 in
theorem rval_any (hr : Rd w w.heap.size A n l) (hr0 : Rd w B A n l) (hBg : B ≤ g) (hn : n ≤ 1000000000) (hnc : n ≤ c) (ha : a ≤ n) (hB : Blk w g 145 (rc A n c a 0)) :
    Calls Tryd.prog 87 #[.pointer (some ⟨g, 0, none⟩)] w (GotV w g A n c l a) := by
  refine calls_ev (args := [.pointer (some ⟨g, 0, none⟩)]) mixed Tryd.func87 rfl (by kernel_rfl) ?_
  have hln := hr.len
  have hlt := hB.lt
  refine v_allocB _ al_val ?_
  rintro g2 W0 hg2 hB2 hb2 hsz2
  have hBW0 := hB.belowB hb2 (by omega)
  have hr1 : Rd W0 B A n l := hr0.keep (fun p hp => hb2.cell (by omega))
  have G0 : w.grownBy W0 (some g) := gbelow (hb2.mono (by omega))
  by_cases hend : a = n
  · subst hend
    refine cc is_rone (rone_end hBW0) ?_
    rintro en W1 ⟨rfl, hB1, hg1, hs1⟩
    refine ⟨_, rfl, ?_⟩
    have hB21 := hB2.grownN hg1 (by omega)
    refine v_cvt (by kernel_rfl) (by kernel_rfl) rfl (w64 (by omega)) ?_
    refine p_build (vs := vc ⟨0, 0, []⟩) pl_val zv rfl ?_
    refine v_allocB _ al_val ?_
    rintro g3 W2 hg3 hB3 hb3 hsz3
    refine v_storeA (vc ⟨0, 0, []⟩) sz_val rfl rfl rfl (by intro u hu; exact vcs_one [⟨0, 0, []⟩] u (by simpa [vcs] using hu)) hB3 rfl ?_
    rintro W3 hB33 hg33 hsz33
    have hB1' := (hB1.belowB hb3 (by omega)).grownN hg33 (by omega)
    have hB2' := (hB21.belowB hb3 (by omega)).grownN hg33 (by omega)
    refine p_nil rfl ?_
    refine p_fld fr2 rfl ?_
    refine v_load agg_err rfl (hB1'.at_ rfl) ?_
    refine p_ne rfl rfl (fun e => by cases e) (fun _ => ?_)
    refine v_loadN (vc ⟨0, 0, []⟩) agg_val rfl rfl (hB33.run 0 _ (fun j v h => by rw [Nat.zero_add]; exact h)) ?_
    refine v_storeA (vc ⟨0, 0, []⟩) sz_val rfl rfl rfl (by intro u hu; exact vcs_one [⟨0, 0, []⟩] u (by simpa [vcs] using hu)) hB2' rfl ?_
    rintro W4 hB24 hg4 hsz4
    refine ⟨⟨_, _, rfl, run_loadN agg_val (vc ⟨0, 0, []⟩) rfl (hB24.run 0 _ (fun j v h => by rw [Nat.zero_add]; exact h)), ?_⟩⟩
    have hv : (vR l a).1 = 10 := by unfold vR; rw [if_pos (by omega)]; rfl
    refine ⟨⟨0, 0, []⟩, a, 10, rfl, hB1'.grownN hg4 (by omega), ?_, hv.symm, fun h => by cases h⟩
    exact gnew (gnew (gtrans (gtrans G0 hg1) (gbelow (hb3.mono (by omega)))) hg33 (by omega)) hg4 (by omega)
  have hal : a < n := by omega
  refine cc is_rone (rone_more hr1 hBg hn hal hBW0) ?_
  rintro en W1 ⟨rfl, hB1, hg1, hs1⟩
  refine ⟨_, rfl, ?_⟩
  have h80 := at8_lo l a
  have h81 := at8_hi l a
  obtain ⟨k, hk⟩ : ∃ k, k = at8 l a := ⟨_, rfl⟩
  rw [← hk] at h80 h81 ⊢
  have hB21 := hB2.grownN hg1 (by omega)
  refine v_cvt (by kernel_rfl) (by kernel_rfl) rfl (w64 (by omega)) ?_
  refine p_build (vs := vc ⟨k, 0, []⟩) pl_val zv rfl ?_
  refine v_allocB _ al_val ?_
  rintro g3 W2 hg3 hB3 hb3 hsz3
  refine v_storeA (vc ⟨k, 0, []⟩) sz_val rfl rfl rfl (by intro u hu; exact vcs_one [⟨k, 0, []⟩] u (by simpa [vcs] using hu)) hB3 rfl ?_
  rintro W3 hB33 hg33 hsz33
  have hB1' := (hB1.belowB hb3 (by omega)).grownN hg33 (by omega)
  have hB2' := (hB21.belowB hb3 (by omega)).grownN hg33 (by omega)
  have G3 : w.grownBy W3 (some g) := gnew (gtrans (gtrans G0 hg1) (gbelow (hb3.mono (by omega)))) hg33 (by omega)
  have hr3 : Rd W3 B A n l := hr0.grownG G3 hBg hlt
  clear hB3 hB21 hB1 hBW0 hr1
  replace hB33 : Blk W3 g3 61 [.int .i64 k, .int .i64 0, .string (sb [])] := hB33
  refine p_nil rfl ?_
  refine p_fld fr2 rfl ?_
  refine v_load agg_err rfl (hB1'.at_ rfl) ?_
  refine p_ne rfl rfl (fun _ => ?_) (fun h => absurd rfl h)
  refine evOps_nil ?_
  refine nx ?_
  refine ev_iff rfl ?_
  refine ev_skp ?_
  refine nx ?_
  refine cutS (Val × Int × Int) (fun s W => Blk W g 145 (rc A n c s.2.1 s.2.2) ∧ Blk W g3 61 (vc s.1) ∧ Blk W g2 61 (vc ⟨0, 0, []⟩) ∧ w.grownBy W (some g) ∧ Suits l a s.1 s.2.1 s.2.2 ∧ s.1.s.length ≤ 1000000000) (fun s => [(0, .pointer (some ⟨g, 0, none⟩)), (2, .pointer (some ⟨g2, 0, none⟩)), (3, .pointer (some ⟨g3, 0, none⟩))]) ?_ ?_
  · refine p_fld fv0 rfl ?_
    refine v_load agg_int rfl (hB33.at_ rfl) ?_
    refine p_eq rfl rfl (fun e1 => ?_) (fun e1 => ?_)
    · subst e1
      refine ⟨(⟨1, 0, []⟩, ((a + 1 : Nat) : Int), 0), ⟨hB1', hB33, hB2', G3, ?_, by simp⟩, rfl, rfl, rfl, trivial⟩
      refine suits_ok (to := a + 1) ?_ rfl
      unfold vR; rw [if_neg (by omega), if_pos hk.symm]; rfl
    refine p_eq rfl rfl (fun e2 => ?_) (fun e2 => ?_)
    · subst e2
      by_cases hend2 : a + 1 = n
      · subst hend2
        refine cc is_rone (rone_end hB1') ?_
        rintro en W4 ⟨rfl, hB4, hg4, hs4⟩
        refine ⟨_, rfl, ?_⟩
        refine v_cvt (by kernel_rfl) (by kernel_rfl) rfl (w64 (by omega)) ?_
        refine p_fld fv1 rfl ?_
        refine v_set (.int .i64 0) sz_int (hB33.grownN hg4 (by omega)) rfl rfl rfl (by show 1 < 3; omega) ?_
        rintro W5 hB5 hg5 hs5
        refine ⟨(⟨2, 0, []⟩, ((a + 1 : Nat) : Int), 10), ⟨hB4.grownN hg5 (by omega), hB5, (hB2'.grownN hg4 (by omega)).grownN hg5 (by omega), gnew (gtrans G3 hg4) hg5 (by omega), ?_, by simp⟩, rfl, rfl, rfl, trivial⟩
        refine suits_end (by simp) ?_
        rw [pfB_1 _ _ _ _ (.inr (by simp)), if_pos rfl]
        unfold vR; rw [if_neg (by omega), if_neg (by omega), if_pos hk.symm, if_pos (by omega)]; rfl
      · refine cc is_rone (rone_more hr3 hBg hn (by omega) hB1') ?_
        rintro en W4 ⟨rfl, hB4, hg4, hs4⟩
        refine ⟨_, rfl, ?_⟩
        have h82 := at8_lo l (a + 1)
        have h83 := at8_hi l (a + 1)
        refine v_cvt (by kernel_rfl) (by kernel_rfl) rfl (w64 (by omega)) ?_
        refine p_fld fv1 rfl ?_
        refine v_set (.int .i64 (at8 l (a + 1))) sz_int (hB33.grownN hg4 (by omega)) rfl rfl rfl (by show 1 < 3; omega) ?_
        rintro W5 hB5 hg5 hs5
        refine ⟨(⟨2, at8 l (a + 1), []⟩, ((a + 1 + 1 : Nat) : Int), 0), ⟨hB4.grownN hg5 (by omega), hB5, (hB2'.grownN hg4 (by omega)).grownN hg5 (by omega), gnew (gtrans G3 hg4) hg5 (by omega), ?_, by simp⟩, rfl, rfl, rfl, trivial⟩
        refine suits_ok (to := a + 2) ?_ rfl
        unfold vR; rw [if_neg (by omega), if_neg (by omega), if_pos hk.symm, if_neg (by omega)]
    refine p_eq rfl rfl (fun e3 => ?_) (fun e3 => ?_)
    · subst e3
      refine cc is_rnum (rnum_any hr3 hn hnc ((a + 1 : Nat) : Int) hB1') ?_
      rintro en W4 ⟨rfl, hB4, hg4, hs4⟩
      refine ⟨_, rfl, ?_⟩
      refine p_fld fv1 rfl ?_
      refine v_set (.int .i64 (zag (gN l ((a + 1 : Nat) : Int)))) sz_int (hB33.grownN hg4 (by omega)) rfl rfl rfl (by show 1 < 3; omega) ?_
      rintro W5 hB5 hg5 hs5
      refine ⟨(⟨3, zag (gN l ((a + 1 : Nat) : Int)), []⟩, gTo l ((a + 1 : Nat) : Int), gE l ((a + 1 : Nat) : Int)), ⟨hB4.grownN hg5 (by omega), hB5, (hB2'.grownN hg4 (by omega)).grownN hg5 (by omega), gnew (gtrans G3 hg4) hg5 (by omega), ?_, by simp⟩, rfl, rfl, rfl, trivial⟩
      by_cases h0 : gE l ((a + 1 : Nat) : Int) = 0
      · obtain ⟨x, t, hx, hxl, _, hT, _⟩ := g_ok h0
        rw [h0]
        refine suits_ok (to := (gTo l ((a + 1 : Nat) : Int)).toNat) ?_ (by show gTo l _ = _; rw [hT]; omega)
        unfold vR; rw [if_neg (by omega), if_neg (by omega), if_neg (by omega), if_pos hk.symm, if_neg (by simpa using h0)]; rfl
      · refine suits_end h0 ?_
        rw [pfB_1 _ _ _ _ (.inr (by simp)), if_pos rfl]
        unfold vR; rw [if_neg (by omega), if_neg (by omega), if_neg (by omega), if_pos hk.symm, if_pos h0]; rfl
    refine p_eq rfl rfl (fun e4 => ?_) (fun e4 => ?_)
    rotate_left
    refine p_eq rfl rfl (fun e5 => ?_) (fun e5 => ?_)
    rotate_left
    · refine p_nil rfl ?_
      refine p_fld fr2 rfl ?_
      refine v_set (.int .i64 11) sz_err hB1' rfl rfl rfl (by show 2 < 3; omega) ?_
      rintro W5 hB5 hg5 hs5
      refine ⟨(⟨k, 0, []⟩, ((a + 1 : Nat) : Int), 11), ⟨hB5, hB33.grownN hg5 (by omega), hB2'.grownN hg5 (by omega), gtrans G3 hg5, ?_, by simp⟩, rfl, rfl, rfl, trivial⟩
      refine suits_end (by simp) ?_
      rw [pfB_1 _ _ _ _ (.inl (by simp)), if_pos rfl]
      unfold vR; rw [if_neg (by omega), if_neg (by omega), if_neg (by omega), if_neg (by omega), if_neg (by omega)]; rfl
    all_goals
      have h45 : at8 l a = 4 ∨ at8 l a = 5 := by omega
      refine cc is_rtext (rtext_any (hr3.more (by omega)) hr3 hBg hn hnc ((a + 1 : Nat) : Int) hB1') ?_
      rintro en W4 ⟨rfl, hB4, hg4⟩
      refine ⟨_, rfl, ?_⟩
      refine p_fld fv2 rfl ?_
      refine v_set (.string (sb (txS l ((a + 1 : Nat) : Int)))) sz_str (hB33.grownN hg4 (by omega)) rfl rfl rfl (by show 2 < 3; omega) ?_
      rintro W5 hB5 hg5 hs5
      have hg4s := hg4.size
      refine ⟨(⟨k, 0, txS l ((a + 1 : Nat) : Int)⟩, txTo l ((a + 1 : Nat) : Int), txE l ((a + 1 : Nat) : Int)), ⟨hB4.grownN hg5 (by omega), hB5, (hB2'.grownN hg4 (by omega)).grownN hg5 (by omega), gnew (gtrans G3 hg4) hg5 (by omega), text_suits (by omega) hk h45, ?_⟩, rfl, rfl, rfl, trivial⟩
      exact Nat.le_trans (txS_len l _) (by omega)
  · rintro ⟨v, at_, e⟩ E4 W4 ⟨hB4, hB43, hB42, G4, hS, hvl⟩
    dsimp only at hB4 hB43 hS hvl
    have hw4 := G4.size
    have hr4 : Rd W4 B A n l := hr0.grownG G4 hBg hlt
    have hlt3 := hB43.lt
    have hlt2 := hB42.lt
    -- the last steps
    have last : ∀ (W : World) (e' : Int), Blk W g 145 (rc A n c at_ e') → Blk W g3 61 (vc v) → Blk W g2 61 (vc ⟨0, 0, []⟩) → w.grownBy W (some g) → e' = finE l v at_ e → ∀ (W' : World), Blk W' g2 61 (vc v) → W.grownBy W' (some g2) → GotV w g A n c l a (.returned (vv_ v)) W' := by
      intro W e' h1 h2 h3 h4 h5 W' h6 h7
      refine ⟨v, at_, e', rfl, h1.grownN h7 (by omega), gnew h4 h7 (by omega), h5.trans hS.1, fun h0 => ?_⟩
      exact hS.2 (hS.1.symm.trans (h5.symm.trans h0))
    have one1 : ∀ u ∈ vc v, u.oneCell' = true := by intro u hu; exact vcs_one [v] u (by simpa [vcs] using hu)
    refine p_nil rfl ?_
    refine p_fld fr2 rfl ?_
    refine v_load agg_err rfl (hB4.at_ rfl) ?_
    refine p_eq rfl rfl (fun h0 => ?_) (fun h0 => ?_)
    · refine v_loadN (vc v) agg_val rfl rfl (hB43.run 0 _ (fun j v h => by rw [Nat.zero_add]; exact h)) ?_
      refine cc is_chk (chk_any v W4 (by omega)) ?_
      rintro en W5 ⟨rfl, b5⟩
      refine ⟨_, rfl, ?_⟩
      have hB5 := hB4.below b5
      have hB53 := hB43.below b5
      have hB52 := hB42.below b5
      have G5 := gtrans G4 (gbelow b5)
      have hs5 := b5.size
      refine p_ne rfl rfl (fun hc => ?_) (fun hc => ?_)
      · refine v_loadN (vc v) agg_val rfl rfl (hB53.run 0 _ (fun j v h => by rw [Nat.zero_add]; exact h)) ?_
        have hr5 : Rd W5 W5.heap.size A n l := (hr4.keep (fun p hp => b5.cell (by omega))).more (by omega)
        refine cc is_rpre (rpre_any hr5 hn hnc at_ hB5 v) ?_
        rintro en W6 ⟨b, rfl, hb, b6⟩
        refine ⟨_, rfl, ?_⟩
        rw [pfB_1 _ _ _ _ (.inl (by omega))] at hb
        subst hb
        refine p_not rfl ?_
        refine v_loadN (vc v) agg_val rfl rfl ((hB53.below b6).run 0 _ (fun j v h => by rw [Nat.zero_add]; exact h)) ?_
        refine v_storeA (vc v) sz_val rfl rfl rfl one1 (hB52.below b6) rfl ?_
        rintro W7 hB7 hg7 hs7
        refine ⟨⟨_, _, rfl, run_loadN agg_val (vc v) rfl (hB7.run 0 _ (fun j v h => by rw [Nat.zero_add]; exact h)), ?_⟩⟩
        exact last W6 e (hB5.below b6) (hB53.below b6) (hB52.below b6) (gtrans G5 (gbelow b6)) (by unfold finE; rw [if_pos h0, chkE_eq hc]; exact h0) W7 hB7 hg7
      · refine p_nil rfl ?_
        refine p_fld fr2 rfl ?_
        refine v_set (.int .i64 11) sz_err hB5 rfl rfl rfl (by show 2 < 3; omega) ?_
        rintro W6 hB6 hg6 hs6
        refine v_loadN (vc v) agg_val rfl rfl ((hB53.grownN hg6 (by omega)).run 0 _ (fun j v h => by rw [Nat.zero_add]; exact h)) ?_
        refine v_storeA (vc v) sz_val rfl rfl rfl one1 (hB52.grownN hg6 (by omega)) rfl ?_
        rintro W7 hB7 hg7 hs7
        refine ⟨⟨_, _, rfl, run_loadN agg_val (vc v) rfl (hB7.run 0 _ (fun j v h => by rw [Nat.zero_add]; exact h)), ?_⟩⟩
        exact last W6 11 hB6 (hB53.grownN hg6 (by omega)) (hB52.grownN hg6 (by omega)) (gtrans G5 hg6) (by unfold finE; rw [if_pos h0, (chkE_ne hc).1]; rfl) W7 hB7 hg7
    · refine v_loadN (vc v) agg_val rfl rfl (hB43.run 0 _ (fun j v h => by rw [Nat.zero_add]; exact h)) ?_
      refine cc is_rpre (rpre_any (hr4.more (by omega)) hn hnc at_ hB4 v) ?_
      rintro en W6 ⟨b, rfl, hb, b6⟩
      refine ⟨_, rfl, ?_⟩
      have hB6 := hB4.below b6
      have hB63 := hB43.below b6
      have hB62 := hB42.below b6
      have G6 := gtrans G4 (gbelow b6)
      have hs6 := b6.size
      cases b
      · refine p_not rfl ?_
        refine p_nil rfl ?_
        refine p_fld fr2 rfl ?_
        refine v_set (.int .i64 11) sz_err hB6 rfl rfl rfl (by show 2 < 3; omega) ?_
        rintro W8 hB8 hg8 hs8
        refine v_loadN (vc v) agg_val rfl rfl ((hB63.grownN hg8 (by omega)).run 0 _ (fun j v h => by rw [Nat.zero_add]; exact h)) ?_
        refine v_storeA (vc v) sz_val rfl rfl rfl one1 (hB62.grownN hg8 (by omega)) rfl ?_
        rintro W7 hB7 hg7 hs7
        refine ⟨⟨_, _, rfl, run_loadN agg_val (vc v) rfl (hB7.run 0 _ (fun j v h => by rw [Nat.zero_add]; exact h)), ?_⟩⟩
        exact last W8 11 hB8 (hB63.grownN hg8 (by omega)) (hB62.grownN hg8 (by omega)) (gtrans G6 hg8) (by unfold finE; rw [if_neg h0, ← hb]; rfl) W7 hB7 hg7
      · refine p_not rfl ?_
        refine v_loadN (vc v) agg_val rfl rfl (hB63.run 0 _ (fun j v h => by rw [Nat.zero_add]; exact h)) ?_
        refine v_storeA (vc v) sz_val rfl rfl rfl one1 hB62 rfl ?_
        rintro W7 hB7 hg7 hs7
        refine ⟨⟨_, _, rfl, run_loadN agg_val (vc v) rfl (hB7.run 0 _ (fun j v h => by rw [Nat.zero_add]; exact h)), ?_⟩⟩
        exact last W6 e hB6 hB63 hB62 G6 (by unfold finE; rw [if_neg h0, ← hb]; rfl) W7 hB7 hg7
end
end Go.Proofs.YtejbljopighenaaDoor
namespace Go.Proofs.YtejbljopighenaaDoor
open Go.RowKit
section
variable {P : Program} {E : Env} {d : Option Nat} {ty : TypeId} {p : String} {af : Array Edge} {gd : Option (Nat × Bool)} {x y : Operand} {t : TypeId} {kw : Value → World → Prop} {w : World}
/-- append, of whatever. -/
theorem v_appG {e : TypeId} {z : Value} {size bytes : Nat} (hT : P.underlying t = some (.slice e)) (hi : (P.info? e).map (fun i => (i.zero, i.size, i.bytes)) = some (some z, size, bytes)) (hzs : z.cells.size = size) (hs0 : 0 < size)
    {base : Nat} {A : Option Addr} {n c : Nat} {xs : List Value} (hx : val E x = .slice A n c) (hown : w.ownsRow base e size (.slice A n c) n xs) {B : Nat} {A2 : Option Addr} {m c2 : Nat} {news : List Value} (hy : val E y = .slice A2 m c2) (hr : Reads w B size A2 m news) (h1 : ∀ u ∈ news, u.oneCell' = true)
    (hsz : n + m ≤ 1000000000 ∧ bytes ≤ 1000) (hbase : base ≤ w.heap.size)
    (h : ∀ A' c' w', w'.ownsRow base e size (.slice A' (n + m) c') (n + m) (xs ++ news) → w.grownBy w' (Value.slice A n c).ownBlock → kw (.slice A' (n + m) c') w') :
    VVal P E { dst := d, op := .call { callee := .builtin .append, args := #[x, y], argTypes := #[t, t] }, type := ty, pos := p, after := af, guard := gd } w kw := by
  obtain ⟨i, hi0, hz0, hz1, hz2⟩ := info_parts hi
  have hb : (n + m) * bytes ≤ 140737488355328 := by
    have := Nat.mul_le_mul hsz.1 hsz.2
    omega
  obtain ⟨v', w', hrun, h2, h3, h4, h5⟩ := run_append_any (P := P) w base t ty e i z size bytes hT hi0 hz0 hz1 hz2 hzs hs0 _ n _ hown B A2 m c2 _ hr h1 (by unfold maxLen; omega) hb hbase
  obtain ⟨A', c', rfl⟩ := own_slice h2
  refine vv (v := .slice A' (n + m) c') (w' := w') ?_ (h A' c' w' h2 h3)
  simp [execOp, resolve, invoke, builtin, hx, hy, hrun]
/-- A block reads as its cells. -/
theorem Reads.blk {g : Nat} {e : TypeId} {size n : Nat} {cs : List Value} (h : Blk w g e cs) (hl : cs.length = n * size) : Reads w w.heap.size size (some ⟨g, 0, none⟩) n cs :=
  ⟨hl, fun _ => ⟨g, 0, rfl, h.lt, fun j u hu => by rw [Nat.zero_add]; exact h.at_ hu⟩⟩
theorem ownsRow_below {base : Nat} {e : TypeId} {size n : Nat} {v : Value} {xs : List Value} {w' : World} (h : w.ownsRow base e size v n xs) (hb : Below w.heap.size w w') : w'.ownsRow base e size v n xs :=
  World.ownsRow.kept h (row := none) ⟨hb.os, hb.tape, hb.output, hb.size, fun k hk _ => hb.block k hk⟩ (by cases v.ownBlock <;> simp)
/-- What is owned lies in a block of its own type. -/
theorem ownsRow_ne {base : Nat} {e T : TypeId} {size n : Nat} {v : Value} {xs cs : List Value} {g : Nat} (h : w.ownsRow base e size v n xs) (hB : Blk w g T cs) (hne : e ≠ T) : v.ownBlock ≠ some g := by
  intro he
  rcases h.2 with ⟨hv, _⟩ | ⟨g', cap, cur, hv, _, hh, _⟩
  · rw [hv] at he; cases he
  · rw [hv] at he
    have he : g' = g := by simpa [Value.ownBlock] using he
    subst he
    have := hh.symm.trans hB
    injection this with this
    injection this with _ this
    exact hne this
end
section
variable {W W' w w0 : World} {F : Nat → Prop} {gs gs' : List (Option Nat)}
/-- A slice that reads as data: its cells. -/
theorem RdD.reads {s n n' c : Nat} {l : List D} {A : Option Addr} (h : RdD W F (.sl s n l) (.slice A n' c)) (hF : ∀ b, F b → b < W.heap.size) : ∃ cs, Reads W W.heap.size s A n' cs ∧ RdL W F l cs := by
  have hs := h.slen
  obtain ⟨A', c2, cs, h1, h2, h3, h4, h5⟩ := RdD.sl_iff.1 h
  injection h1 with e1 _ _
  subst e1; subst hs
  refine ⟨cs, ⟨by rw [h4.len, h3], fun hn => ?_⟩, h4⟩
  obtain ⟨b, off, h6, h7, h8⟩ := h5 hn
  exact ⟨b, off, h6, hF b h7, h8⟩
def D.One : D → Prop
  | .v x => x.oneCell' = true
  | .sl .. => True
theorem RdD.one' {d : D} {u : Value} (h : RdD W F d u) (ho : d.One) : u.oneCell' = true := by
  cases d with
  | v x => rw [RdD.val.1 h]; exact ho
  | sl s n l => obtain ⟨A, c, e, _⟩ := h.open_; rw [e]; rfl
theorem RdL.ones : ∀ {ds : List D} {cs : List Value}, RdL W F ds cs → (∀ d ∈ ds, d.One) → ∀ u ∈ cs, u.oneCell' = true
  | [], cs, h, _, u, hu => by rw [h.isnil] at hu; cases hu
  | d :: ds, cs, h, ho, u, hu => by
    obtain ⟨v, vs, rfl, h1, h2⟩ := h.uncons
    rcases List.mem_cons.1 hu with rfl | hu
    · exact h1.one' (ho d (by simp))
    · exact RdL.ones h2 (fun d hd => ho d (by simp [hd])) u hu
theorem row_bklo {base n c s : Nat} {e : TypeId} {A : Option Addr} {xs : List Value} (h : W.ownsRow base e s (.slice A n c) n xs) : ∀ b, bk A = some b → base ≤ b ∧ b < W.heap.size := fun b hb => World.ownsRow.lt h b (by rw [own_bk]; exact hb)
theorem row_kept' {base n c s : Nat} {e : TypeId} {A : Option Addr} {xs : List Value} {r : Option Nat} (h : W.ownsRow base e s (.slice A n c) n xs) (hg : W.grownBy W' r) (hne : bk A = none ∨ bk A ≠ r) : W'.ownsRow base e s (.slice A n c) n xs := World.ownsRow.kept h hg (by rw [own_bk]; exact hne)
theorem row_cap' {base n c s : Nat} {e : TypeId} {A : Option Addr} {xs : List Value} (h : W.ownsRow base e s (.slice A n c) n xs) : n ≤ c := by
  rcases h.2 with ⟨hv, hn⟩ | ⟨g, cap, cur, hv, _, _, hc, _⟩
  · omega
  · injection hv with _ _ hc'; omega
theorem row_less {base base' n s : Nat} {e : TypeId} {v : Value} {xs : List Value} (h : W.ownsRow base e s v n xs) (hb : base' ≤ base) : W.ownsRow base' e s v n xs := by
  refine ⟨h.1, ?_⟩
  rcases h.2 with h2 | ⟨g, cap, cur, h3, h4, h5⟩
  · exact .inl h2
  · exact .inr ⟨g, cap, cur, h3, by omega, h5⟩
/-- A new block of cells as a row. -/
theorem row_blk {base g n s : Nat} {e : TypeId} {cs : List Value} (hB : Blk W g e cs) (hb : base ≤ g) (hl : cs.length = n * s) (hn : n ≤ 1000000000) : W.ownsRow base e s (.slice (some ⟨g, 0, none⟩) n n) n cs :=
  ⟨hl, .inr ⟨g, n, cs.toArray, rfl, hb, hB, Nat.le_refl _, by unfold maxLen; omega, by simpa using hl, by simp [← hl]⟩⟩
end
section
variable {P : Program} {E : Env} {d : Option Nat} {ty : TypeId} {p : String} {af : Array Edge} {gd : Option (Nat × Bool)} {x y : Operand} {t : TypeId} {kw : Value → World → Prop} {w w0 : World} {gs : List (Option Nat)}
/-- append onto a row of the call's own, which stands first among what is written. -/
theorem v_appR {e : TypeId} {z : Value} {size bytes : Nat} (hT : P.underlying t = some (.slice e)) (hi : (P.info? e).map (fun i => (i.zero, i.size, i.bytes)) = some (some z, size, bytes)) (hzs : z.cells.size = size) (hs0 : 0 < size)
    {A : Option Addr} {n c : Nat} {xs : List Value} (hx : val E x = .slice A n c) (hown : w.ownsRow w0.heap.size e size (.slice A n c) n xs) {B : Nat} {A2 : Option Addr} {m c2 : Nat} {news : List Value} (hy : val E y = .slice A2 m c2) (hr : Reads w B size A2 m news) (h1 : ∀ u ∈ news, u.oneCell' = true)
    (hsz : n + m ≤ 1000000000 ∧ bytes ≤ 1000) (hA : At w0 w (bk A :: gs))
    (h : ∀ A' c' w', w'.ownsRow w0.heap.size e size (.slice A' (n + m) c') (n + m) (xs ++ news) → Stp w (bk A :: gs) w' (bk A' :: gs) → At w0 w' (bk A' :: gs) → (A' = none ↔ A = none ∧ m = 0) → w.grownBy w' (bk A) → (∀ b, bk A' = some b → bk A = some b ∨ w.heap.size ≤ b) → kw (.slice A' (n + m) c') w') :
    VVal P E { dst := d, op := .call { callee := .builtin .append, args := #[x, y], argTypes := #[t, t] }, type := ty, pos := p, after := af, guard := gd } w kw := by
  obtain ⟨i, hi0, hz0, hz1, hz2⟩ := info_parts hi
  have hb : (n + m) * bytes ≤ 140737488355328 := by
    have := Nat.mul_le_mul hsz.1 hsz.2
    omega
  obtain ⟨v', w', hrun, h2, h3, h4, h5⟩ := run_append_any (P := P) w w0.heap.size t ty e i z size bytes hT hi0 hz0 hz1 hz2 hzs hs0 _ n _ hown B A2 m c2 _ hr h1 (by unfold maxLen; omega) hb hA.size
  obtain ⟨A', c', rfl⟩ := own_slice h2
  rw [own_bk, own_bk] at h4
  rw [own_bk] at h3
  have hb' := row_bklo h2
  refine vv (v := .slice A' (n + m) c') (w' := w') ?_ (h A' c' w' h2 (Stp.app h3 ?_) (hA.app h3 (fun b e => (row_bklo hown b e).1) (fun b e => (hb' b e).2)) ⟨?_, ?_⟩ h3 (fun b e => by
    rcases h4 with h4 | h4
    · left; rw [← h4]; exact e
    · right; rw [h4] at e; injection e with e; omega))
  · simp [execOp, resolve, invoke, builtin, hx, hy, hrun]
  · intro b e
    rcases h4 with h4 | h4
    · exact .inl h4
    · right; rw [h4] at e; injection e with e; omega
  · rintro rfl
    have : Value.slice none (n + m) c' = .slice none 0 0 := by
      rcases h2.2 with ⟨e, _⟩ | ⟨g, cap, cur, e, _⟩
      · exact e
      · simp at e
    obtain ⟨e1, e2⟩ := h5.1 this
    injection e1 with e1
    exact ⟨e1, e2⟩
  · rintro ⟨rfl, rfl⟩
    have : Value.slice none n c = .slice none 0 0 := by
      rcases hown.2 with ⟨e, _⟩ | ⟨g, cap, cur, e, _⟩
      · exact e
      · simp at e
    have := h5.2 ⟨this, rfl⟩
    injection this
end
end Go.Proofs.YtejbljopighenaaDoor
namespace Go.Proofs.YtejbljopighenaaDoor
open Go.RowKit

theorem fin_ok {v : Val} {to : Nat} (h : (fin v to).1 = 0) : fin v to = (0, v, to) ∧ rightB v = true := by
  unfold fin at h ⊢
  cases hb : rightB v
  · rw [hb] at h; cases h
  · exact ⟨rfl, rfl⟩
theorem gbL_len (l : List UInt8) (a : Int) : (gbL l a).length ≤ l.length := by
  unfold gbL
  split
  · rw [List.length_take, List.length_drop]; omega
  · simp
theorem zag_ok {x : Int} (h0 : 0 ≤ x) (h1 : x < 18446744073709551616) : -9223372036854775808 ≤ zag x ∧ zag x ≤ 9223372036854775807 := by unfold zag; split <;> omega
/-- What is read may be, and stands within. -/
theorem vR_ok {l : List UInt8} {a : Nat} (hl : l.length ≤ 9223372036854775807) (h : (vR l a).1 = 0) : a < (vR l a).2.2 ∧ (vR l a).2.2 ≤ l.length ∧ rightB (vR l a).2.1 = true ∧ VOk (vR l a).2.1 ∧ (vR l a).2.1.s.length ≤ l.length := by
  unfold vR at h ⊢
  split at h
  · cases h
  rename_i c1
  rw [if_neg c1]
  split at h
  · rename_i c2
    rw [if_pos c2]
    exact ⟨by show a < a + 1; omega, by show a + 1 ≤ _; omega, rfl, ⟨by simp, by simp, by simp⟩, by simp⟩
  rename_i c2
  rw [if_neg c2]
  split at h
  · rename_i c3
    rw [if_pos c3]
    split at h
    · cases h
    rename_i c4
    rw [if_neg c4]
    obtain ⟨e, hr⟩ := fin_ok h
    rw [e]
    have := at8_lo l (a + 1)
    have := at8_hi l (a + 1)
    exact ⟨by show a < a + 2; omega, by show a + 2 ≤ _; omega, hr, ⟨by simp, ⟨by show _ ≤ at8 l (a + 1); omega, by show at8 l (a + 1) ≤ _; omega⟩, by simp⟩, by simp⟩
  rename_i c3
  rw [if_neg c3]
  split at h
  · rename_i c4
    rw [if_pos c4]
    split at h
    · rename_i c5; exact absurd h c5
    rename_i c5
    rw [if_neg c5]
    obtain ⟨x, t, hx, hxl, _, hT, h1, hle, _⟩ := g_ok (l := l) (a := ((a + 1 : Nat) : Int)) (by simpa using c5)
    have hz := zag_ok (gN_nonneg l ((a + 1 : Nat) : Int)) (gN_lt l _)
    exact ⟨by show a < (gTo l _).toNat; rw [hT]; omega, by show (gTo l _).toNat ≤ _; rw [hT]; omega, rfl, ⟨by simp, hz, by simp⟩, by simp⟩
  rename_i c4
  rw [if_neg c4]
  split at h
  · rename_i c5
    rw [if_pos c5]
    split at h
    · rename_i c6; exact absurd h c6
    rename_i c6
    rw [if_neg c6]
    split at h
    · cases h
    rename_i c7
    rw [if_neg c7]
    split at h
    · exfalso; revert h; show (if _ then (11 : Int) else 10) = 0 → False
      split <;> intro h <;> cases h
    rename_i c8
    rw [if_neg c8]
    obtain ⟨e, hr⟩ := fin_ok h
    rw [e]
    obtain ⟨x, t, hx, hxl, _, hT, h1, hle, _⟩ := g_ok (l := l) (a := ((a + 1 : Nat) : Int)) (by simpa using c6)
    have c8' : gbE l ((a + 1 : Nat) : Int) = 0 := by simpa using c8
    have hn := gN_nonneg l ((a + 1 : Nat) : Int)
    have hgb := gbL_len l ((a + 1 : Nat) : Int)
    have h8 := at8_lo l a
    have h82 := at8_hi l a
    have hgt : gbTo l ((a + 1 : Nat) : Int) = gTo l ((a + 1 : Nat) : Int) + gN l ((a + 1 : Nat) : Int) := by unfold gbTo; rw [if_pos c8']
    have hin : ¬ (l.length : Int) - gTo l ((a + 1 : Nat) : Int) < gN l ((a + 1 : Nat) : Int) := by
      intro m
      have := (gb_err3 (l := l) (a := ((a + 1 : Nat) : Int)) (by simpa using c6) (by omega) m).1
      omega
    refine ⟨by show a < (gbTo l _).toNat; rw [hgt, hT]; omega, by show (gbTo l _).toNat ≤ _; rw [hgt]; omega, hr, ⟨⟨by show _ ≤ at8 l a; omega, by show at8 l a ≤ _; omega⟩, by simp, by show (gbL l _).length ≤ _; omega⟩, hgb⟩
  · cases h
/-- So many values from a place on. -/
def decF : Nat → List UInt8 → Nat → Int × List Val × Nat
  | 0, _, a => (0, [], a)
  | n + 1, l, a => if (vR l a).1 ≠ 0 then ((vR l a).1, [], 0) else ((decF n l (vR l a).2.2).1, (vR l a).2.1 :: (decF n l (vR l a).2.2).2.1, (decF n l (vR l a).2.2).2.2)
def decR (l : List UInt8) : Int × List Val × Nat := decF (gN l 0).toNat l (gTo l 0).toNat
def decE (l : List UInt8) : Int := if gE l 0 ≠ 0 then gE l 0 else if 100 < gN l 0 then 11 else if (decR l).1 ≠ 0 then (decR l).1 else if (decR l).2.2 < l.length then 11 else 0
def decL (l : List UInt8) : List Val := if decE l = 0 then (decR l).2.1 else []
theorem decF_ok {l : List UInt8} (hl : l.length ≤ 9223372036854775807) : ∀ (n a : Nat), a ≤ l.length → (decF n l a).1 = 0 → a ≤ (decF n l a).2.2 ∧ (decF n l a).2.2 ≤ l.length ∧ (decF n l a).2.1.length = n ∧ (∀ v ∈ (decF n l a).2.1, rightB v = true ∧ VOk v ∧ v.s.length ≤ l.length)
  | 0, a, ha, _ => ⟨Nat.le_refl _, ha, rfl, fun v hv => by cases hv⟩
  | n + 1, a, ha, h => by
    unfold decF at h ⊢
    split at h
    · rename_i hc; exact absurd h hc
    rename_i hc
    rw [if_neg hc]
    obtain ⟨h1, h2, h3, h4, h5⟩ := vR_ok hl (by simpa using hc : (vR l a).1 = 0)
    obtain ⟨i1, i2, i3, i4⟩ := decF_ok hl n (vR l a).2.2 h2 h
    refine ⟨by show a ≤ (decF n l _).2.2; omega, i2, by show (_ :: (decF n l _).2.1).length = n + 1; rw [List.length_cons, i3], ?_⟩
    intro v hv
    rcases List.mem_cons.1 hv with rfl | hv
    · exact ⟨h3, h4, h5⟩
    · exact i4 v hv
theorem decL_ok {l : List UInt8} (hl : l.length ≤ 9223372036854775807) : ∀ v ∈ decL l, rightB v = true ∧ VOk v ∧ v.s.length ≤ l.length := by
  intro v hv
  unfold decL at hv
  split at hv
  · rename_i h
    unfold decE at h
    split at h
    · rename_i h0; exact absurd h h0
    rename_i h0
    split at h
    · cases h
    split at h
    · rename_i h1; exact absurd h h1
    rename_i h1
    obtain ⟨x, t, hx, hxl, _, hT, _, hle, _⟩ := g_ok (l := l) (a := 0) (by simpa using h0)
    exact (decF_ok hl _ _ (by rw [hT]; omega) (by simpa [decR] using h1)).2.2.2 v hv
  · cases hv

end Go.Proofs.YtejbljopighenaaDoor
namespace Go.Proofs.YtejbljopighenaaDoor
open Go.RowKit
theorem pl_rd : placesOf Tryd.prog 145 = some [(0, 1), (1, 1), (2, 1)] := by kernel_rfl
theorem z_rd : zeroOf Tryd.prog 145 = some [.slice none 0 0, .int .i64 0, .int .i64 0] := by kernel_rfl
theorem u_sv : Tryd.prog.underlying 59 = some (.slice 61) := by kernel_rfl
theorem inf_val : (Tryd.prog.info? 61).map (fun i => (i.zero, i.size, i.bytes)) = some (some (.agg #[.int .i64 0, .int .i64 0, .string ⟨#[]⟩]), 3, 32) := by kernel_rfl
/-- Values of the call's own. -/
def OwnV (w : World) (base : Nat) (A : Option Addr) (n c : Nat) (l : List Val) : Prop := w.ownsRow base 61 3 (.slice A n c) n (vcs l)
theorem OwnV.rd {w : World} {base n c : Nat} {A : Option Addr} {l : List Val} (h : OwnV w base A n c l) : RdV w w.heap.size A n l := Reads.of_own h
theorem OwnV.cap_ {w : World} {base n c : Nat} {A : Option Addr} {l : List Val} (h : OwnV w base A n c l) : n ≤ c := by
  rcases h.2 with ⟨hv, h0⟩ | ⟨g, cap, cur, hv, _, _, hle, _⟩
  · injection hv with _ h1 h2; omega
  · injection hv with _ h1 h2; omega
theorem OwnV.nil_ (w : World) (base : Nat) : OwnV w base none 0 0 [] := World.ownsRow_nil _ _ _ _
theorem OwnV.lo {w : World} {base n c : Nat} {A : Option Addr} {l : List Val} (h : OwnV w base A n c l) : ∀ k, (Value.slice A n c).ownBlock = some k → base ≤ k := fun k hk => (World.ownsRow.lt h k hk).1
def DecG (w : World) (l : List UInt8) (e : Ending) (w' : World) : Prop := ∃ A' m c', e = .returned (.tuple #[.slice A' m c', .int .i64 (decE l)]) ∧ OwnV w' w.heap.size A' m c' (decL l) ∧ Below w.heap.size w w'
/-- So many are behind, so many are left. -/
def Half (l : List UInt8) (n i a : Nat) (vs : List Val) : Prop := vs.length = i ∧ i ≤ n ∧ a ≤ l.length ∧ decF n l (gTo l 0).toNat = ((decF (n - i) l a).1, vs ++ (decF (n - i) l a).2.1, (decF (n - i) l a).2.2)
theorem half_step {l : List UInt8} {n i a : Nat} {vs : List Val} (h : Half l n i a vs) (hi : i < n) (hl : l.length ≤ 9223372036854775807) (h0 : (vR l a).1 = 0) : Half l n (i + 1) (vR l a).2.2 (vs ++ [(vR l a).2.1]) := by
  obtain ⟨h1, h2, h3, h4⟩ := h
  obtain ⟨k1, k2, _⟩ := vR_ok hl h0
  refine ⟨by simp [h1], by omega, k2, ?_⟩
  rw [h4, show n - i = (n - (i + 1)) + 1 by omega, decF, if_neg (by simpa using h0)]
  simp
theorem half_bad {l : List UInt8} {n i a : Nat} {vs : List Val} (h : Half l n i a vs) (hi : i < n) (h0 : ¬ (vR l a).1 = 0) : (decF n l (gTo l 0).toNat).1 = (vR l a).1 := by
  rw [h.2.2.2, show n - i = (n - (i + 1)) + 1 by omega, decF, if_pos h0]
theorem half_end {l : List UInt8} {n a : Nat} {vs : List Val} (h : Half l n n a vs) : decF n l (gTo l 0).toNat = (0, vs, a) := by
  rw [h.2.2.2, Nat.sub_self, decF]; simp
set_option maxRecDepth 100000 in
set_option maxHeartbeats 1000000 in
theorem decode_any (A : Option Addr) (n c : Nat) (l : List UInt8) (w : World) (hr : Rd w w.heap.size A n l) (hn : n ≤ 1000000000) (hnc : n ≤ c) :
    Calls Tryd.prog 81 #[.slice A n c] w (DecG w l) := by
  refine calls_ev (args := [.slice A n c]) mixed Tryd.func81 rfl (by kernel_rfl) ?_
  have hln := hr.len
  refine cc is_get (get_any _ _ _ _ 0 _ _ hr (by omega) hnc) ?_
  rintro en w' ⟨rfl, rfl⟩
  refine ⟨_, rfl, ?_⟩
  refine p_ne rfl rfl (fun h0 => ?_) (fun h0 => ?_)
  rotate_left
  · have e1 : decE l = gE l 0 := by unfold decE; rw [if_pos h0]
    have e2 : decL l = [] := by unfold decL; rw [if_neg (by rw [e1]; exact h0)]
    exact ⟨none, 0, 0, by rw [e1]; rfl, by rw [e2]; exact OwnV.nil_ _ _, Below.refl _ _⟩
  refine p_gt rfl rfl (fun h1 => ?_) (fun h1 => ?_)
  · have e1 : decE l = 11 := by unfold decE; rw [if_neg (by simpa using h0), if_pos h1]
    have e2 : decL l = [] := by unfold decL; rw [if_neg (by rw [e1]; decide)]
    exact ⟨none, 0, 0, by rw [e1]; rfl, by rw [e2]; exact OwnV.nil_ _ _, Below.refl _ _⟩
  obtain ⟨x, t, hx, hxl, _, hT, _, hle, _⟩ := g_ok h0
  obtain ⟨N, hN⟩ := Int.eq_ofNat_of_zero_le (gN_nonneg l 0)
  refine p_build (vs := rc A n c (gTo l 0) 0) pl_rd z_rd rfl ?_
  refine v_boxB (rc A n c (gTo l 0) 0) rfl ?_
  rintro g W hg hB hb hsz
  have hx0 : x = 0 := by omega
  subst hx0
  rw [Nat.zero_add] at hT hle
  rw [hT] at hB
  have h00 : Half l N 0 t [] := by
    refine ⟨rfl, by omega, hle, ?_⟩
    rw [hT, Nat.sub_zero, Int.toNat_natCast]; simp
  refine lp (Nat × Nat × List Val × Option Addr × Nat × Nat) (fun s W => Blk W g 145 (rc A n c (s.2.1 : Int) 0) ∧ Below w.heap.size w W ∧ OwnV W w.heap.size s.2.2.2.1 s.2.2.2.2.1 s.2.2.2.2.2 s.2.2.1 ∧ Half l N s.1 s.2.1 s.2.2.1)
    (fun s => [(0, .slice A n c), (7, .pointer (some ⟨g, 0, none⟩)), (8, .slice s.2.2.2.1 s.2.2.2.2.1 s.2.2.2.2.2), (26, .int .u64 (gN l 0)), (27, .int .u64 s.1)]) (fun s => N - s.1) (0, t, [], none, 0, 0)
    ⟨hB, by rw [← hg]; exact hb, OwnV.nil_ _ _, h00⟩ ⟨rfl, rfl, rfl, rfl, rfl, trivial⟩ ?_
  rintro ⟨i, a, vs, A3, n3, c3⟩ E0 W1 ⟨hB1, hb1, o1, hH⟩
  dsimp only at hB1 o1 hH
  have hs1 := hb1.size
  have hr1 : Rd W1 w.heap.size A n l := hr.below hb1
  have hl1 := hB1.lt
  have hn3 : n3 = i := by have := o1.1; rw [vcs_len, hH.1] at this; omega
  -- what is behind the loop
  refine p_lt rfl rfl (fun h => ?_) (fun h => ?_)
  · have hiN : i < N := by omega
    refine cc is_rval (rval_any (hr1.more (by omega)) hr1 (by omega) hn hnc (by have := hH.2.2.1; omega) hB1) ?_
    rintro en W2 ⟨v, at_, e, rfl, hB2, hg2, he, hv⟩
    refine ⟨_, rfl, ?_⟩
    have hs2 := hg2.size
    have b2 : Below w.heap.size w W2 := hb1.grown hg2 hs1 (fun k hk => by injection hk with hk; omega)
    have o2 : OwnV W2 w.heap.size A3 n3 c3 vs := World.ownsRow.kept o1 hg2 (.inr (ownsRow_ne o1 hB1 (by decide)))
    refine v_bslice (vs := vc v) slv zv rfl (by decide) rfl ?_
    rintro g4 W3 hg4 hB4 hb4 hsz4
    have hB3 := hB2.belowB hb4 (by have := hB2.lt; omega)
    have o3 : OwnV W3 w.heap.size A3 n3 c3 vs := ownsRow_below o2 (hb4.mono (by omega))
    refine v_appG u_sv inf_val rfl (by decide) rfl o3 rfl (Reads.blk (size := 3) (n := 1) hB4 rfl) (fun u hu => vcs_one [v] u (by simpa [vcs] using hu)) ⟨by show n3 + 1 ≤ _; omega, by decide⟩ (by omega) ?_
    rintro A5 c5 W4 o5 hg5
    have hB5 : Blk W4 g 145 (rc A n c at_ e) := hB3.grown hg5 (ownsRow_ne o3 hB3 (by decide))
    have b5 : Below w.heap.size w W4 := (b2.trans (hb4.mono (by omega))).grown hg5 (by omega) (fun k hk => o3.lo k hk)
    replace o5 : OwnV W4 w.heap.size A5 (n3 + 1) c5 (vs ++ [v]) := by unfold OwnV; rw [vcs_append]; simpa [vcs] using o5
    refine p_nil rfl ?_
    refine p_fld fr2 rfl ?_
    refine v_load agg_err rfl (hB5.at_ rfl) ?_
    refine p_ne rfl rfl (fun h2 => ?_) (fun h2 => ?_)
    · obtain ⟨hv1, hv2⟩ := hv h2
      have hH2 := half_step hH hiN (by omega) (he.symm.trans h2)
      refine p_add rfl rfl (wu64 (by omega)) ?_
      refine ⟨(i + 1, (vR l a).2.2, vs ++ [(vR l a).2.1], A5, n3 + 1, c5), ⟨?_, b5, ?_, hH2⟩, ⟨rfl, rfl, rfl, rfl, rfl, trivial⟩, by show N - (i + 1) < N - i; omega⟩
      · rw [hv2, h2] at hB5; exact hB5
      · rw [hv1] at o5; exact o5
    · have hbad := half_bad hH hiN (by rw [← he]; exact h2)
      have e1 : decE l = e := by
        unfold decE decR
        rw [if_neg (by simpa using h0), if_neg h1, hN, Int.toNat_natCast, hbad, if_pos (by rw [← he]; exact h2), he]
      have e2 : decL l = [] := by unfold decL; rw [if_neg (by rw [e1]; exact h2)]
      refine p_nil rfl ?_
      refine p_fld fr2 rfl ?_
      refine v_load agg_err rfl (hB5.at_ rfl) ?_
      refine p_eq rfl rfl (fun h3 => absurd h3 h2) (fun _ => ?_)
      refine p_nil rfl ?_
      refine p_fld fr2 rfl ?_
      refine v_load agg_err rfl (hB5.at_ rfl) ?_
      refine p_ne rfl rfl (fun h3 => absurd h3 h2) (fun _ => ?_)
      refine dr (fun W => Blk W g 145 (rc A n c at_ e)) [(0, true), (1, true), (2, true), (3, true), (4, true), (5, true)] (by kernel_rfl) hB5.drew ?_
      refine p_nil rfl ?_
      refine p_fld fr2 rfl ?_
      refine t_load agg_err rfl (fun W h => Blk.at_ h rfl) ?_
      exact ⟨none, 0, 0, by rw [e1]; rfl, by rw [e2]; exact OwnV.nil_ _ _, b5.drew⟩
  · have hiN : i = N := by have := hH.2.1; omega
    subst hiN
    have hend := half_end hH
    have hR : decR l = (0, vs, a) := by unfold decR; rw [hN, Int.toNat_natCast, hend]
    refine p_nil rfl ?_
    refine p_fld fr2 rfl ?_
    refine v_load agg_err rfl (hB1.at_ rfl) ?_
    refine p_eq rfl rfl (fun _ => ?_) (fun h3 => absurd rfl h3)
    refine p_nil rfl ?_
    refine p_fld fr1 rfl ?_
    refine v_load agg_int rfl (hB1.at_ rfl) ?_
    refine p_len slb rfl ?_
    refine p_lt rfl rfl (fun h4 => ?_) (fun h4 => ?_)
    · have e1 : decE l = 11 := by unfold decE; rw [if_neg (by simpa using h0), if_neg h1, hR, if_neg (by simp), if_pos (by show a < l.length; omega)]
      have e2 : decL l = [] := by unfold decL; rw [if_neg (by rw [e1]; decide)]
      refine p_nil rfl ?_
      refine p_fld fr2 rfl ?_
      refine v_set (.int .i64 11) sz_err hB1 rfl rfl rfl (by show 2 < 3; omega) ?_
      rintro W5 hB5 hg5 hs5
      have b5 : Below w.heap.size w W5 := hb1.grown hg5 hs1 (fun k hk => by injection hk with hk; omega)
      refine p_nil rfl ?_
      refine p_fld fr2 rfl ?_
      refine v_load agg_err rfl (hB5.at_ rfl) ?_
      refine p_ne rfl rfl (fun h3 => by cases h3) (fun _ => ?_)
      refine dr (fun W => Blk W g 145 (rc A n c a 11)) [(0, true), (1, true), (2, true), (3, true), (4, true), (5, true)] (by kernel_rfl) hB5.drew ?_
      refine p_nil rfl ?_
      refine p_fld fr2 rfl ?_
      refine t_load agg_err rfl (fun W h => Blk.at_ h rfl) ?_
      exact ⟨none, 0, 0, by rw [e1]; rfl, by rw [e2]; exact OwnV.nil_ _ _, b5.drew⟩
    · have e1 : decE l = 0 := by unfold decE; rw [if_neg (by simpa using h0), if_neg h1, hR, if_neg (by simp), if_neg (by show ¬ a < l.length; omega)]
      have e2 : decL l = vs := by unfold decL; rw [if_pos e1, hR]
      refine p_nil rfl ?_
      refine p_fld fr2 rfl ?_
      refine v_load agg_err rfl (hB1.at_ rfl) ?_
      refine p_ne rfl rfl (fun _ => ?_) (fun h3 => absurd rfl h3)
      exact ⟨A3, n3, c3, by rw [e1]; rfl, by rw [e2]; exact o1, hb1⟩
end Go.Proofs.YtejbljopighenaaDoor
namespace Go.Proofs.YtejbljopighenaaDoor
open Go.RowKit

section
variable {P : Program} {E : Env} {d : Option Nat} {ty : TypeId} {p : String} {af : Array Edge} {g : Option (Nat × Bool)} {x y : Operand} {t u : TypeId} {k : Value → Prop}
theorem p_slt {s1 s2 : ByteArray} (hx : val E x = .string s1) (hy : val E y = .string s2) (h1 : Op.bytesLess s1.toList s2.toList = true → k (.bool true)) (h2 : Op.bytesLess s1.toList s2.toList = false → k (.bool false)) : VPure P E { dst := d, op := .binOp .lss t x y u, type := ty, pos := p, after := af, guard := g } k := by
  refine pp (v := .bool (Op.bytesLess s1.toList s2.toList)) (fun w => ?_) ?_
  · simp only [execOp, hx, hy]
    simp [eqGuard, binOp, Op.stringOp]
  · cases h : Op.bytesLess s1.toList s2.toList
    · exact h2 h
    · exact h1 h
end
theorem less_irrefl : ∀ l : List UInt8, Op.bytesLess l l = false
  | [] => rfl
  | a :: l => by unfold Op.bytesLess; rw [less_irrefl l]; simp
theorem f_val : (Tryd.prog.fieldsOf 61).toList.map (fun f => (f.name != "_", f.type, f.offset)) = [(true, 3, 0), (true, 3, 1), (true, 9, 2)] := by kernel_rfl
theorem sh_val : Tryd.prog.stoodInHeld 61 = false := by kernel_rfl
theorem st_val : Tryd.prog.underlying 61 = some (.struct (Tryd.prog.fieldsOf 61)) := by kernel_rfl
theorem eg_val : Tryd.prog.eqGuardType Tryd.prog.depth 61 = false := by kernel_rfl
theorem ui : Tryd.prog.underlying 3 = some (.int .i64) := by kernel_rfl
theorem Val.ext_iff' {a b : Val} : a = b ↔ a.k = b.k ∧ a.n = b.n ∧ a.s = b.s := by
  cases a; cases b; simp
theorem len3 {α : Type} : ∀ l : List α, l.length = 3 → ∃ a b c, l = [a, b, c]
  | [a, b, c], _ => ⟨a, b, c, rfl⟩
  | [], h => by simp at h
  | [_], h => by simp at h
  | [_, _], h => by simp at h
  | _ :: _ :: _ :: _ :: _, h => by simp at h
theorem run_veq (a b : Val) (w : World) : (Op.equalIn 10000 61 (vv_ a) (vv_ b)).run Tryd.prog w = .ok (decide (a.k = b.k) && (decide (a.n = b.n) && decide (a.s = b.s))) w := by
  unfold vv_
  rw [run_equalIn_struct (P := Tryd.prog) w 9999 _ _ _ st_val sh_val]
  have hf := f_val
  generalize (Tryd.prog.fieldsOf 61).toList = fs at hf
  have hl := congrArg List.length hf
  simp only [List.length_map, List.length_cons, List.length_nil] at hl
  obtain ⟨f0, f1, f2, rfl⟩ := len3 _ hl
  · simp only [List.map_cons, List.map_nil, List.cons.injEq, Prod.mk.injEq, and_true] at hf
    obtain ⟨⟨n0, t0, o0⟩, ⟨n1, t1, o1⟩, ⟨n2, t2, o2⟩⟩ := hf
    have ag : (isAgg 3).run Tryd.prog w = .ok false w := (aggOf_run agg_int w).1
    have ags : (isAgg 9).run Tryd.prog w = .ok false w := (aggOf_run agg_str w).1
    have pt : ∀ (c : Val) (w' : World), w' = w → (part 3 (vc c).toArray 0).run Tryd.prog w' = .ok (.int .i64 c.k) w' ∧ (part 3 (vc c).toArray 1).run Tryd.prog w' = .ok (.int .i64 c.n) w' ∧ (part 9 (vc c).toArray 2).run Tryd.prog w' = .ok (.string (sb c.s)) w' := by
      rintro c w' rfl
      refine ⟨?_, ?_, ?_⟩
      · simp only [part, Sem.run_bind, ag, Result.andThen_ok]; rfl
      · simp only [part, Sem.run_bind, ag, Result.andThen_ok]; rfl
      · simp only [part, Sem.run_bind, ags, Result.andThen_ok]; rfl
    have q0 : f0.name ≠ "_" := by simpa using n0
    have q1 : f1.name ≠ "_" := by simpa using n1
    have q2 : f2.name ≠ "_" := by simpa using n2
    have es : ((sb a.s).toList == (sb b.s).toList) = decide (a.s = b.s) := by
      rw [Bool.eq_iff_iff]; simp [sb_toList]
    have ei : ∀ x y : Int, (x == y) = decide (x = y) := fun x y => by rw [Bool.eq_iff_iff]; simp
    rw [Op.eqFields, if_pos q0, t0, o0]
    simp only [Sem.run_bind, (pt a w rfl).1, (pt b w rfl).1, Result.andThen_ok, run_equalIn_int w 9998 3 .i64 .i64 a.k b.k ui, ei]
    by_cases h0 : a.k = b.k
    · rw [decide_eq_true h0]
      simp only [Bool.not_true, Bool.false_eq_true, if_false]
      rw [Op.eqFields, if_pos q1, t1, o1]
      simp only [Sem.run_bind, (pt a w rfl).2.1, (pt b w rfl).2.1, Result.andThen_ok, run_equalIn_int w 9998 3 .i64 .i64 a.n b.n ui, ei]
      by_cases h1 : a.n = b.n
      · rw [decide_eq_true h1]
        simp only [Bool.not_true, Bool.false_eq_true, if_false]
        rw [Op.eqFields, if_pos q2, t2, o2]
        simp only [Sem.run_bind, (pt a w rfl).2.2, (pt b w rfl).2.2, Result.andThen_ok, run_equalIn_string w 9998 9 (sb a.s) (sb b.s) u_str, es]
        by_cases h2 : a.s = b.s
        · rw [decide_eq_true h2]; simp [Op.eqFields]
        · rw [decide_eq_false h2]; simp
      · rw [decide_eq_false h1]; simp
    · rw [decide_eq_false h0]; simp
instance : DecidableEq Val := fun _ _ => decidable_of_iff _ Val.ext_iff'.symm
section
variable {E : Env} {d : Option Nat} {ty : TypeId} {p : String} {af : Array Edge} {g : Option (Nat × Bool)} {x y : Operand} {u : TypeId} {k : Value → Prop}
set_option maxRecDepth 100000 in
theorem p_veq {a b : Val} (hx : val E x = vv_ a) (hy : val E y = vv_ b) (h1 : a = b → k (.bool true)) (h2 : ¬ a = b → k (.bool false)) : VPure Tryd.prog E { dst := d, op := .binOp .eql 61 x y u, type := ty, pos := p, after := af, guard := g } k := by
  refine pp (v := .bool (decide (a = b))) (fun w => ?_) ?_
  · have hv := run_veq a b w
    have hg := run_eqGuard_agg (P := Tryd.prog) w .eql 61 x y (vc a).toArray (vc b).toArray eg_val
    have hb := run_eql_struct (P := Tryd.prog) w 61 (vc a).toArray (vc b).toArray
    unfold vv_ at hx hy hv
    simp only [execOp, hx, hy, Sem.run_bind, hg, Result.andThen_ok, hb, hv, Sem.run_pure]
    congr 3
    rw [Bool.eq_iff_iff]; simp [Val.ext_iff']
  · by_cases h : a = b
    · rw [decide_eq_true h]; exact h1 h
    · rw [decide_eq_false h]; exact h2 h
end
set_option maxRecDepth 100000 in
set_option maxHeartbeats 1000000 in
theorem cmp_any (a b : Val) (w : World) :
    Calls Tryd.prog 88 #[vv_ a, vv_ b] w fun e w' => ∃ r : Int, e = .returned (.int .i64 r) ∧ (r = 0 ↔ a = b) ∧ Below w.heap.size w w' := by
  refine calls_ev (args := [vv_ a, vv_ b]) mixed Tryd.func88 rfl (by kernel_rfl) ?_
  refine v_boxB (vc a) rfl ?_
  rintro g1 W1 hg1 hB1 hb1 hsz1
  refine v_boxB (vc b) rfl ?_
  rintro g2 W2 hg2 hB2 hb2 hsz2
  have hB1' := hB1.belowB hb2 (by omega)
  have hb : Below w.heap.size w W2 := by rw [← hg1]; exact hb1.trans (hb2.mono (by omega))
  refine p_fld fv0 rfl ?_
  refine cutO Bool (fun q W' => (q = true → a ≠ b) ∧ W' = W2) (fun q => [(2, .pointer (some ⟨g1, 0, none⟩)), (3, .pointer (some ⟨g2, 0, none⟩)), (44, .bool q)]) ?_ ?_
  ·
    repeat' first
      | (refine p_eq rfl rfl (fun _ => ?_) (fun _ => ?_) <;> try (exfalso; omega))
      | (refine p_ne rfl rfl (fun _ => ?_) (fun _ => ?_) <;> try (exfalso; omega))
      | (refine p_lt rfl rfl (fun _ => ?_) (fun _ => ?_) <;> try (exfalso; omega))
      | (refine p_le rfl rfl (fun _ => ?_) (fun _ => ?_) <;> try (exfalso; omega))
      | (refine p_gt rfl rfl (fun _ => ?_) (fun _ => ?_) <;> try (exfalso; omega))
      | (refine p_ge rfl rfl (fun _ => ?_) (fun _ => ?_) <;> try (exfalso; omega))
      | (refine p_seq rfl rfl (fun _ => ?_) (fun _ => ?_))
      | (refine p_sne rfl rfl (fun _ => ?_) (fun _ => ?_))
      | (refine p_not rfl ?_)
      | (refine p_lenS u_str rfl ?_)
      | (refine p_fld fv0 rfl ?_)
      | (refine p_fld fv1 rfl ?_)
      | (refine p_fld fv2 rfl ?_)
      | (refine v_load agg_int rfl (hB1'.at_ rfl) ?_)
      | (refine v_load agg_str rfl (hB1'.at_ rfl) ?_)
      | (refine v_load agg_int rfl (hB2.at_ rfl) ?_)
      | (refine v_load agg_str rfl (hB2.at_ rfl) ?_)
      | (refine p_slt rfl rfl (fun _ => ?_) (fun _ => ?_))
    all_goals first
      | exact ⟨false, ⟨(fun h => by cases h), rfl⟩, rfl, rfl, rfl, trivial⟩
      | (refine ⟨true, ⟨(fun _ e => ?_), rfl⟩, rfl, rfl, rfl, trivial⟩; subst e; first | omega | (have q := less_irrefl (sb a.s).toList; simp_all; done))
  rintro q E1 W3 ⟨hq, rfl⟩
  cases q
  · refine v_loadN (vc a) agg_val rfl rfl (hB1'.run 0 _ (fun j v h => by rw [Nat.zero_add]; exact h)) ?_
    refine v_loadN (vc b) agg_val rfl rfl (hB2.run 0 _ (fun j v h => by rw [Nat.zero_add]; exact h)) ?_
    refine p_veq (a := a) (b := b) rfl rfl (fun h => ?_) (fun h => ?_)
    · exact ⟨0, rfl, ⟨(fun _ => h), (fun _ => rfl)⟩, hb⟩
    · exact ⟨1, rfl, ⟨(fun h' => by cases h'), (fun h' => absurd h' h)⟩, hb⟩
  · exact ⟨-1, rfl, ⟨(fun h => by cases h), (fun h => absurd h (hq rfl))⟩, hb⟩
end Go.Proofs.YtejbljopighenaaDoor
namespace Go.Proofs.YtejbljopighenaaDoor
open Go.RowKit
theorem is_cmp : isFn Tryd.prog 88 = true := by kernel_rfl
theorem is_rows : isFn Tryd.prog 85 = true := by kernel_rfl
theorem RdV.ptr {w : World} {B n : Nat} {ad : Addr} {l : List Val} (h : RdV w B (some ad) n l) {i : Nat} {v : Val} (hi : l[i]? = some v) : ∀ j u, (vc v)[j]? = some u → w.cell? ((ad.add (i * 3)).add j) = some u := by
  obtain ⟨ad', e, _, _, hc⟩ := h.at_ hi
  injection e with e
  subst e
  exact hc
theorem RdV.some_ {w : World} {B n : Nat} {A : Option Addr} {l : List Val} (h : RdV w B A n l) {i : Nat} (hi : i < n) : ∃ ad v, A = some ad ∧ l[i]? = some v := by
  have hil : i < l.length := by have := h.len; omega
  obtain ⟨ad, e, _⟩ := h.at_ (List.getElem?_eq_getElem hil)
  exact ⟨ad, _, e, List.getElem?_eq_getElem hil⟩
theorem take_step {α : Type} {x y : List α} {i : Nat} {v : α} (ht : x.take i = y.take i) (hx : x[i]? = some v) (hy : y[i]? = some v) : x.take (i + 1) = y.take (i + 1) := by
  rw [List.take_add_one, List.take_add_one, ht, hx, hy]
theorem take_all {α : Type} {x y : List α} {i : Nat} (ht : x.take i = y.take i) (hx : x.length ≤ i) (hy : y.length ≤ i) : x = y := by
  rwa [List.take_of_length_le hx, List.take_of_length_le hy] at ht
set_option maxRecDepth 100000 in
theorem rows_any (A B : Option Addr) (n c m d : Nat) (x y : List Val) (w : World) (hx : RdV w w.heap.size A n x) (hy : RdV w w.heap.size B m y) (hn : n ≤ 1000000000) (hm : m ≤ 1000000000) :
    Calls Tryd.prog 85 #[.slice A n c, .slice B m d] w fun e w' => ∃ r : Int, e = .returned (.int .i64 r) ∧ (r = 0 ↔ x = y) ∧ Below w.heap.size w w' := by
  refine calls_ev (args := [.slice A n c, .slice B m d]) mixed Tryd.func85 rfl (by kernel_rfl) ?_
  have hlx := hx.len
  have hly := hy.len
  refine lp Nat (fun i W => Below w.heap.size w W ∧ W.heap.size = w.heap.size ∧ i ≤ n ∧ i ≤ m ∧ x.take i = y.take i) (fun i => [(0, .slice A n c), (1, .slice B m d), (5, .int .i64 i)]) (fun i => n - i) 0
    ⟨Below.refl _ _, rfl, Nat.zero_le _, Nat.zero_le _, rfl⟩ ⟨rfl, rfl, rfl, trivial⟩ ?_
  rintro i E0 W1 ⟨hb1, hs1, hin, him, ht⟩
  have hx1 := hx.below hb1
  have hy1 := hy.below hb1
  refine dr (fun W => RdV W w.heap.size A n x ∧ RdV W w.heap.size B m y) [(0, true), (1, true), (2, true), (3, true), (4, true), (5, true), (6, true), (7, true), (8, true), (9, true), (10, true), (11, true), (12, true), (13, true), (14, true), (15, true), (16, true), (17, true), (18, true), (19, true), (20, true)] (by kernel_rfl) ⟨hx1.drew, hy1.drew⟩ ?_
  refine p_len slv rfl ?_
  refine p_lt rfl rfl (fun h1 => ?_) (fun h1 => ?_)
  · refine p_len slv rfl ?_
    refine p_lt rfl rfl (fun h2 => ?_) (fun h2 => ?_)
    · obtain ⟨a, u, rfl, hu⟩ := hx.some_ (i := i) (by omega)
      obtain ⟨b, v, rfl, hv⟩ := hy.some_ (i := i) (by omega)
      refine p_at (i := i) slv rfl rfl rfl (by omega) ?_
      refine t_loadN (vc u) agg_val rfl rfl (fun W h => h.1.ptr hu) ?_
      refine p_at (i := i) slv rfl rfl rfl (by omega) ?_
      refine t_loadN (vc v) agg_val rfl rfl (fun W h => h.2.ptr hv) ?_
      refine p_veq (a := u) (b := v) rfl rfl (fun h => ?_) (fun h => ?_)
      · subst h
        refine p_add rfl rfl (w64 (by omega)) ?_
        exact ⟨i + 1, ⟨hb1.drew, hs1, by omega, by omega, take_step ht hu hv⟩, ⟨rfl, rfl, rfl, trivial⟩, by omega⟩
      · have hne : x ≠ y := by
          rintro rfl
          rw [hu] at hv; injection hv with hv; exact h hv
        refine p_len slv rfl ?_
        refine p_lt rfl rfl (fun h3 => ?_) (fun h3 => absurd h1 h3)
        refine p_len slv rfl ?_
        refine p_lt rfl rfl (fun h4 => ?_) (fun h4 => absurd h2 h4)
        refine dr (fun W => RdV W w.heap.size (some a) n x ∧ RdV W w.heap.size (some b) m y ∧ Below w.heap.size w W) [(0, true), (1, true), (2, true), (3, true), (4, true), (5, true), (6, true), (7, true), (8, false), (9, true)] (by kernel_rfl) ⟨hx1.drew.drew, hy1.drew.drew, hb1.drew.drew⟩ ?_
        refine p_at (i := i) slv rfl rfl rfl (by omega) ?_
        refine t_loadN (vc u) agg_val rfl rfl (fun W h => h.1.ptr hu) ?_
        refine p_at (i := i) slv rfl rfl rfl (by omega) ?_
        refine t_loadN (vc v) agg_val rfl rfl (fun W h => h.2.1.ptr hv) ?_
        refine cc is_cmp (cmp_any u v _) ?_
        rintro e W2 ⟨r, rfl, hr, hb2⟩
        have hb := hb1.drew.drew.trans (hb2.mono (by show _ ≤ W1.heap.size; omega))
        refine ⟨_, rfl, ⟨hx.below hb, hy.below hb, hb⟩, ?_⟩
        exact ⟨r, rfl, ⟨fun h0 => absurd (hr.1 h0) h, fun h0 => absurd h0 hne⟩, hb⟩
    · have hne : x ≠ y := by rintro rfl; omega
      refine p_len slv rfl ?_
      refine p_lt rfl rfl (fun h3 => ?_) (fun h3 => absurd h1 h3)
      refine p_len slv rfl ?_
      refine p_lt rfl rfl (fun h4 => absurd h4 h2) (fun h4 => ?_)
      refine p_len slv rfl ?_
      refine p_lt rfl rfl (fun h4 => absurd h4 h2) (fun h4 => ?_)
      refine p_len slv rfl ?_
      refine p_lt rfl rfl (fun h3 => ?_) (fun h3 => absurd h1 h3)
      exact ⟨1, rfl, ⟨(fun h => by cases h), fun h => absurd h hne⟩, hb1.drew⟩
  · refine p_len slv rfl ?_
    refine p_lt rfl rfl (fun h3 => absurd h3 h1) (fun h3 => ?_)
    refine p_len slv rfl ?_
    refine p_lt rfl rfl (fun h2 => ?_) (fun h2 => ?_)
    · have hne : x ≠ y := by rintro rfl; omega
      exact ⟨-1, rfl, ⟨(fun h => by cases h), fun h => absurd h hne⟩, hb1.drew⟩
    · refine p_len slv rfl ?_
      refine p_lt rfl rfl (fun h3 => absurd h3 h1) (fun h3 => ?_)
      exact ⟨0, rfl, ⟨fun _ => take_all ht (by omega) (by omega), fun _ => rfl⟩, hb1.drew⟩

/-- The law's 'long'. -/
def slen (l : List Val) : Nat := (l.map fun v => v.s.length).sum
end Go.Proofs.YtejbljopighenaaDoor
