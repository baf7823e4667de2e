/- The walks of the reference's begins, value and Decode. -/
import Derived.Test.YtjneoinacobbaaaRowU
import Derived.Test.YtjneoinacobbaaaVintS
namespace Go.Proofs.Ytjneoinacobbaaa
open Go.RowKit
theorem is_rget : isFn Try.prog 31 = true := by kernel_rfl
theorem is_rgint : isFn Try.prog 45 = true := by kernel_rfl
theorem is_rgb : isFn Try.prog 47 = true := by kernel_rfl
theorem is_beg : isFn Try.prog 46 = true := by kernel_rfl
theorem is_rvalue : isFn Try.prog 32 = true := by kernel_rfl
def bgB (l : List UInt8) (k : Int) : Bool := if gE l 0 ≠ 0 then decide (gE l 0 = 10) else if k = 3 then true else if 1000 < gN l 0 then false else if k = 4 then (l.drop (gTo l 0).toNat).all vis else true
set_option maxRecDepth 100000 in
theorem begins_any (A : Option Addr) (n c B : Nat) (l : List UInt8) (k : Int) (w : World) (hr : Rd w B A n l) (hn : n ≤ 1000000000) :
    Calls Try.prog 46 #[.slice A n c, .int .i64 k] w fun en w' => ∃ b, en = .returned (.bool b) ∧ b = bgB l k ∧ w = w' := by
  refine calls_ev (args := [.slice A n c, .int .i64 k]) mixed Try.func46 rfl (by kernel_rfl) ?_
  have hln := hr.len
  refine cc is_rget (refGet_any _ _ _ _ 0 _ _ hr (by omega)) ?_
  rintro en w' ⟨rfl, rfl⟩
  refine ⟨_, rfl, ?_⟩
  refine p_ne rfl rfl (fun h0 => ?_) (fun h0 => ?_)
  rotate_left
  · refine p_eq rfl rfl (fun h1 => ?_) (fun h1 => ?_)
    · exact ⟨true, rfl, by unfold bgB; rw [if_pos h0, h1]; rfl, rfl⟩
    · exact ⟨false, rfl, by unfold bgB; rw [if_pos h0, decide_eq_false h1], rfl⟩
  have hb : bgB l k = if k = 3 then true else if 1000 < gN l 0 then false else if k = 4 then (l.drop (gTo l 0).toNat).all vis else true := by
    unfold bgB; rw [if_neg (by simpa using h0)]
  refine p_eq rfl rfl (fun h3 => ?_) (fun h3 => ?_)
  · refine p_eq rfl rfl (fun _ => ?_) (fun h => absurd h3 h)
    exact ⟨true, rfl, by rw [hb, if_pos h3], rfl⟩
  refine p_gt rfl rfl (fun h4 => ?_) (fun h4 => ?_)
  · refine p_eq rfl rfl (fun h => absurd h h3) (fun _ => ?_)
    exact ⟨false, rfl, by rw [hb, if_neg h3, if_pos h4], rfl⟩
  obtain ⟨x, t, hx, hxl, _, hT, _, hle, _⟩ := g_ok h0
  have hx0 : x = 0 := by omega
  subst hx0
  rw [Nat.zero_add] at hT hle
  rw [if_neg h3, if_neg h4, hT, Int.toNat_natCast] at hb
  have hls : (l.drop t).length = n - t := by rw [List.length_drop]; omega
  refine lp Nat (fun i W' => W' = w ∧ i ≤ n - t ∧ (k = 4 → ((l.drop t).take i).all vis = true)) (fun i => [(0, .slice A n c), (1, .int .i64 k), (8, .int .i64 ((t + i : Nat) : Int))]) (fun i => n - t - i) 0 ⟨rfl, by omega, by simp⟩ ⟨rfl, rfl, by rw [Nat.add_zero, ← hT]; rfl, trivial⟩ ?_
  rintro i E1 W1 ⟨rfl, hi, hv⟩
  refine p_len slb rfl ?_
  refine p_lt rfl rfl (fun h => ?_) (fun h => ?_)
  · refine p_eq rfl rfl (fun h5 => ?_) (fun h5 => ?_)
    · have hlt : i < (l.drop t).length := by omega
      obtain ⟨b, off, rfl, hcell⟩ := hr.at_ (k := t + i) (by omega)
      have h8 : at8 l (t + i) = ((l.drop t)[i].toNat : Int) := by rw [← at8_drop, at8_of _ _ hlt]
      have hst := all_take_step hlt (hv h5)
      rw [if_pos h5] at hb
      refine p_at (i := t + i) slb rfl rfl rfl (by omega) ?_
      refine v_load agg_u8 rfl (by rw [Nat.mul_one, Addr.add_lit]; exact hcell) ?_
      refine p_lt rfl rfl (fun h1 => ?_) (fun h1 => ?_)
      · exact ⟨false, rfl, by rw [hb, all_bad hlt (by unfold vis; rw [decide_eq_false (by omega)]; rfl)], rfl⟩
      · refine p_at (i := t + i) slb rfl rfl rfl (by omega) ?_
        refine v_load agg_u8 rfl (by rw [Nat.mul_one, Addr.add_lit]; exact hcell) ?_
        refine p_gt rfl rfl (fun h2 => ?_) (fun h2 => ?_)
        · exact ⟨false, rfl, by rw [hb, all_bad hlt (by unfold vis; rw [decide_eq_false (p := _ ≤ 126) (by omega)]; simp)], rfl⟩
        · refine p_add rfl rfl (w64 (by omega)) ?_
          refine ⟨i + 1, ⟨rfl, by omega, fun _ => ?_⟩, ⟨rfl, rfl, rfl, trivial⟩, by omega⟩
          rw [hst]; unfold vis; rw [decide_eq_true (by omega), decide_eq_true (by omega)]; rfl
    · exact ⟨true, rfl, by rw [hb, if_neg h5], rfl⟩
  · refine ⟨true, rfl, ?_, rfl⟩
    rw [hb]
    by_cases h5 : k = 4
    · have := hv h5
      rw [List.take_of_length_le (by omega)] at this
      rw [if_pos h5, this]
    · rw [if_neg h5]

/-- The same where there is something, and as wrong where there is nothing. -/
def Like (r f : Int × Val × Nat) : Prop := r.1 = f.1 ∧ (r.1 = 0 → r = f)
theorem like_eq {r f : Int × Val × Nat} (h : r = f) : Like r f := by subst h; exact ⟨rfl, fun _ => rfl⟩
/-- What the reference's value comes to. -/
def RGot (w : World) (l : List UInt8) (en : Ending) (w' : World) : Prop := ∃ (v : Val) (k : Int) (s : Bool), en = .returned (.tuple #[vv_ v, .int .i64 k, .bool s]) ∧ Below w.heap.size w w' ∧
  ((vR l 0).1 = 0 → v = (vR l 0).2.1 ∧ k = (vR l 0).2.2 ∧ s = false) ∧ ((vR l 0).1 ≠ 0 → k = 0 ∧ s = decide ((vR l 0).1 = 10))
set_option maxRecDepth 100000 in
set_option maxHeartbeats 1000000 in
theorem rvalue_any (A : Option Addr) (n c : Nat) (l : List UInt8) (w : World) (hr : Rd w w.heap.size A n l) (hn : n ≤ 1000000000) (hnc : n ≤ c) :
    Calls Try.prog 32 #[.slice A n c] w (RGot w l) := by
  refine calls_ev (args := [.slice A n c]) mixed Try.func32 rfl (by kernel_rfl) ?_
  have hln := hr.len
  have one1 : ∀ v : Val, ∀ u ∈ vc v, u.oneCell' = true := by intro v u hu; exact vcs_one [v] u (by simpa [vcs] using hu)
  have run0 : ∀ {W : World} {g : Nat} (v : Val), Blk W g 52 (vc v) → (loadVar 52 ⟨g, 0, none⟩).run Try.prog W = .ok (vv_ v) W := fun v h => run_loadN agg_val (vc v) rfl (h.run 0 _ (fun j v h => by rw [Nat.zero_add]; exact h))
  refine v_allocB _ al_val ?_
  rintro g2 W hg2 hB2 hb2 hsz2
  have hr2 : Rd W g2 A n l := by rw [hg2]; exact hr.below (by rw [← hg2]; exact hb2)
  have hBel : Below w.heap.size w W := by rw [← hg2]; exact hb2
  -- nothing: stored, told
  refine p_len slb rfl ?_
  refine p_eq rfl rfl (fun h0 => ?_) (fun h0 => ?_)
  · refine p_build (vs := vc ⟨0, 0, []⟩) pl_val zv rfl ?_
    refine v_storeA (vc ⟨0, 0, []⟩) sz_val rfl rfl rfl (one1 _) hB2 rfl ?_
    rintro W3 hB3 hg3 hs3
    have hv : (vR l 0).1 = 10 := by unfold vR; rw [if_pos (by omega)]; rfl
    refine ⟨⟨_, _, rfl, run0 _ hB3, ?_⟩⟩
    exact ⟨⟨0, 0, []⟩, 0, true, rfl, hBel.grown hg3 hBel.size (fun k hk => by injection hk with hk; omega), (fun h => by rw [hv] at h; cases h), (fun _ => ⟨rfl, by rw [hv]; rfl⟩)⟩
  have hn0 : 0 < n := by omega
  obtain ⟨b, off, rfl, hbb, hcells⟩ := hr2.cells hn0
  have hc0 := hcells 0 hn0
  rw [Nat.add_zero] at hc0
  have h80 := at8_lo l 0
  have h81 := at8_hi l 0
  obtain ⟨k, hk⟩ : ∃ k, k = at8 l 0 := ⟨_, rfl⟩
  rw [← hk] at h80 h81 hc0
  refine p_at (i := 0) slb rfl rfl rfl hn0 ?_
  refine v_load agg_u8 rfl hc0 ?_
  refine v_cvt (by kernel_rfl) (by kernel_rfl) rfl (w64 (by omega)) ?_
  refine p_build (vs := vc ⟨k, 0, []⟩) pl_val zv rfl ?_
  refine v_allocB _ al_val ?_
  rintro g3 W2 hg3 hB3 hb3 hsz3
  refine v_storeA (vc ⟨k, 0, []⟩) sz_val rfl rfl rfl (one1 _) hB3 rfl ?_
  rintro W3 hB33 hg33 hsz33
  have B3 : Below g3 W W3 := hb3.grown hg33 (by omega) (fun k hk => by injection hk with hk; omega)
  have hB2' := hB2.belowB B3 (by omega)
  have hr3 : Rd W3 g2 (some ⟨b, off, none⟩) n l := hr2.below (B3.mono (by omega))
  have hBel3 := hBel.trans (B3.mono (by omega))
  have hs3 := hBel3.size
  replace hB33 : Blk W3 g3 52 [.int .i64 k, .int .i64 0, .string (sb [])] := hB33
  have hc3 : W3.cell? ⟨b, off, none⟩ = some (.int .u8 k) := (B3.cell (p := ⟨b, off, none⟩) (by show b < g3; omega)).trans hc0
  have hG : gE (l.drop 1) ((0 : Nat) : Int) = gE l ((1 : Nat) : Int) ∧ gN (l.drop 1) ((0 : Nat) : Int) = gN l ((1 : Nat) : Int) := gE_drop (by omega) 0
  -- a way out with nothing
  have out : ∀ (W' : World) (s : Bool), Below w.heap.size w W' → Blk W' g2 52 (vc ⟨0, 0, []⟩) → (vR l 0).1 ≠ 0 → s = decide ((vR l 0).1 = 10) → RGot w l (.returned (.tuple #[vv_ ⟨0, 0, []⟩, .int .i64 0, .bool s])) W' :=
    fun W' s hb _ h0 hs => ⟨⟨0, 0, []⟩, 0, s, rfl, hb, fun h => absurd h h0, fun _ => ⟨rfl, hs⟩⟩
  refine evOps_nil ?_
  refine nx ?_
  refine cutS Unit (fun _ W => W = W3) (fun _ => [(0, .slice (some ⟨b, off, none⟩) n c), (2, .pointer (some ⟨g2, 0, none⟩)), (5, .pointer (some ⟨g3, 0, none⟩)), (6, .int .i64 1)]) ⟨(), rfl, rfl, rfl, rfl, rfl, trivial⟩ ?_
  rintro - E4 W4 rfl
  refine cutS (Val × Nat) (fun s W => Below w.heap.size w W ∧ Blk W g2 52 (vc ⟨0, 0, []⟩) ∧ Blk W g3 52 (vc s.1) ∧ Like (vR l 0) (fin s.1 s.2) ∧ s.1.s.length ≤ 1000000000) (fun s => [(2, .pointer (some ⟨g2, 0, none⟩)), (5, .pointer (some ⟨g3, 0, none⟩)), (6, .int .i64 s.2)]) ?_ ?_
  · refine p_at (i := 0) slb rfl rfl rfl hn0 ?_
    refine v_load agg_u8 rfl hc3 ?_
    refine p_eq rfl rfl (fun e1 => ?_) (fun e1 => ?_)
    · subst e1
      exact ⟨(⟨1, 0, []⟩, 1), ⟨hBel3, hB2', hB33, like_eq (by unfold vR; rw [if_neg (by omega), if_pos hk.symm]; rfl), by simp⟩, rfl, rfl, rfl, trivial⟩
    refine p_eq rfl rfl (fun e2 => ?_) (fun e2 => ?_)
    · subst e2
      refine p_len slb rfl ?_
      refine p_eq rfl rfl (fun h1 => ?_) (fun h1 => ?_)
      · have hv : vR l 0 = no 10 := by unfold vR; rw [if_neg (by omega), if_neg (by omega), if_pos hk.symm, if_pos (by omega)]
        refine p_build (vs := vc ⟨0, 0, []⟩) pl_val zv rfl ?_
        refine v_storeA (vc ⟨0, 0, []⟩) sz_val rfl rfl rfl (one1 _) hB2' rfl ?_
        rintro W5 hB5 hg5 hs5
        refine ⟨⟨_, _, rfl, run0 _ hB5, ?_⟩⟩
        exact out W5 true (hBel3.grown hg5 hs3 (fun k hk => by injection hk with hk; omega)) hB5 (by rw [hv]; decide) (by rw [hv]; rfl)
      · have h82 := at8_lo l 1
        have h83 := at8_hi l 1
        have hc31 : W4.cell? ⟨b, off + 1, none⟩ = some (.int .u8 (at8 l 1)) := (B3.cell (p := ⟨b, off + 1, none⟩) (by show b < g3; omega)).trans (hcells 1 (by omega))
        refine p_at (i := 1) slb rfl rfl rfl (by omega) ?_
        refine v_load agg_u8 rfl hc31 ?_
        refine v_cvt (by kernel_rfl) (by kernel_rfl) rfl (w64 (by omega)) ?_
        refine p_fld fv1 rfl ?_
        refine v_set (.int .i64 (at8 l 1)) sz_int hB33 rfl rfl rfl (by show 1 < 3; omega) ?_
        rintro W5 hB5 hg5 hs5
        refine ⟨(⟨2, at8 l 1, []⟩, 2), ⟨hBel3.grown hg5 hs3 (fun k hk => by injection hk with hk; omega), hB2'.grownN hg5 (by omega), hB5, ?_, by simp⟩, rfl, rfl, rfl, trivial⟩
        refine like_eq ?_
        unfold vR; rw [if_neg (by omega), if_neg (by omega), if_pos hk.symm, if_neg (by omega)]
    refine p_eq rfl rfl (fun e3 => ?_) (fun e3 => ?_)
    · subst e3
      refine cc is_rgint (refGetInt_any _ _ _ _ ((1 : Nat) : Int) _ _ hr3 (by omega)) ?_
      rintro en w' ⟨rfl, rfl⟩
      refine ⟨_, rfl, ?_⟩
      refine p_ne rfl rfl (fun h0 => ?_) (fun h0 => ?_)
      · obtain ⟨x, t, hx, hxl, _, hT, _⟩ := g_ok h0
        refine p_fld fv1 rfl ?_
        refine v_set (.int .i64 (zag (gN l ((1 : Nat) : Int)))) sz_int hB33 rfl rfl rfl (by show 1 < 3; omega) ?_
        rintro W5 hB5 hg5 hs5
        refine ⟨(⟨3, zag (gN l ((1 : Nat) : Int)), []⟩, (gTo l ((1 : Nat) : Int)).toNat), ⟨hBel3.grown hg5 hs3 (fun k hk => by injection hk with hk; omega), hB2'.grownN hg5 (by omega), hB5, ?_, by simp⟩, rfl, rfl, ?_, trivial⟩
        · refine like_eq ?_
          unfold vR; rw [if_neg (by omega), if_neg (by omega), if_neg (by omega), if_pos hk.symm, Nat.zero_add, if_neg (by simpa using h0)]; rfl
        · show Value.int .i64 (gTo l ((1 : Nat) : Int)) = .int .i64 (((gTo l ((1 : Nat) : Int)).toNat : Nat) : Int)
          rw [hT]; rfl
      · have hv : vR l 0 = no (gE l ((1 : Nat) : Int)) := by unfold vR; rw [if_neg (by omega), if_neg (by omega), if_neg (by omega), if_pos hk.symm, Nat.zero_add, if_pos h0]
        refine p_build (vs := vc ⟨0, 0, []⟩) pl_val zv rfl ?_
        refine p_slice (i := 1) slb rfl (bnd_i rfl) rfl rfl rfl (by omega) hnc (Nat.le_refl _) ?_
        refine cc is_beg (begins_any _ _ _ _ _ 3 _ (hr3.sle (i := 1) (m := c) (by omega) hnc) (by omega)) ?_
        rintro en w' ⟨s, rfl, hs, rfl⟩
        refine ⟨_, rfl, ?_⟩
        have hs' : s = decide ((vR l 0).1 = 10) := by
          rw [hs, hv]; unfold bgB
          have h00 : gE (l.drop 1) 0 = gE l ((1 : Nat) : Int) := hG.1
          rw [h00, if_pos h0]; rfl
        refine v_storeA (vc ⟨0, 0, []⟩) sz_val rfl rfl rfl (one1 _) hB2' rfl ?_
        rintro W5 hB5 hg5 hs5
        refine ⟨⟨_, _, rfl, run0 _ hB5, ?_⟩⟩
        exact out W5 s (hBel3.grown hg5 hs3 (fun k hk => by injection hk with hk; omega)) hB5 (by rw [hv]; exact h0) hs'
    refine p_eq rfl rfl (fun e4 => ?_) (fun e4 => ?_)
    rotate_left
    refine p_eq rfl rfl (fun e5 => ?_) (fun e5 => ?_)
    rotate_left
    · have hv : vR l 0 = no 11 := by unfold vR; rw [if_neg (by omega), if_neg (by omega), if_neg (by omega), if_neg (by omega), if_neg (by omega)]
      refine ⟨(⟨k, 0, []⟩, 1), ⟨hBel3, hB2', hB33, ?_, by simp⟩, rfl, rfl, rfl, trivial⟩
      have hrf : rightB ⟨k, 0, []⟩ = false := by unfold rightB; rw [if_neg e1, if_neg e2, if_neg e3, if_neg e4, if_neg e5]
      refine ⟨by rw [hv]; unfold fin; rw [hrf]; rfl, fun h => by rw [hv] at h; cases h⟩
    all_goals
      have h45 : at8 l 0 = 4 ∨ at8 l 0 = 5 := by omega
      have hv : vR l 0 = (if gE l ((1 : Nat) : Int) ≠ 0 then no (gE l ((1 : Nat) : Int)) else if 1000 < gN l ((1 : Nat) : Int) then no 11
        else if gbE l ((1 : Nat) : Int) ≠ 0 then no (if at8 l 0 = 4 ∧ (l.drop (gTo l ((1 : Nat) : Int)).toNat).all vis = false then 11 else 10)
        else fin ⟨at8 l 0, 0, gbL l ((1 : Nat) : Int)⟩ (gbTo l ((1 : Nat) : Int)).toNat) := by
        unfold vR; rw [if_neg (by omega), if_neg (by omega), if_neg (by omega), if_neg (by omega), if_pos h45]
      refine cc is_rgb (refGetBytes_any _ _ _ ((1 : Nat) : Int) _ _ (hr3.more (by omega)) (by omega) hnc) ?_
      rintro en W5 ⟨A5, n5, c5, rfl, o5, b5⟩
      refine ⟨_, rfl, ?_⟩
      have hB25 := hB2'.below b5
      have hB35 := hB33.below b5
      have hb5 := hBel3.trans (b5.mono hs3)
      have hs5 := b5.size
      have hr5 : Rd W5 g2 (some ⟨b, off, none⟩) n l := hr3.below (b5.mono (by omega))
      have hc5 : W5.cell? ⟨b, off, none⟩ = some (.int .u8 k) := (b5.cell (p := ⟨b, off, none⟩) (by show b < W4.heap.size; omega)).trans hc3
      refine p_ne rfl rfl (fun h0 => ?_) (fun h0 => ?_)
      · have h1 : gE l ((1 : Nat) : Int) = 0 := by
          by_cases h : gE l ((1 : Nat) : Int) = 0
          · exact h
          · rw [(gb_err1 h).1] at h0; exact absurd h0 h
        refine v_str rfl o5.rd ?_
        refine p_fld fv2 rfl ?_
        refine v_set (.string (sb (gbL l ((1 : Nat) : Int)))) sz_str hB35 rfl rfl rfl (by show 2 < 3; omega) ?_
        rintro W6 hB6 hg6 hs6
        have hgb := gbL_len l ((1 : Nat) : Int)
        refine ⟨(⟨k, 0, gbL l ((1 : Nat) : Int)⟩, (gbTo l ((1 : Nat) : Int)).toNat), ⟨hb5.grown hg6 (by omega) (fun k hk => by injection hk with hk; omega), hB25.grownN hg6 (by omega), hB6, ?_, by show (gbL l _).length ≤ _; omega⟩, rfl, rfl, ?_, trivial⟩
        · rw [hv, if_neg (by simpa using h1)]
          by_cases hN : 1000 < gN l ((1 : Nat) : Int)
          · rw [if_pos hN]
            have hlen : ((gbL l ((1 : Nat) : Int)).length : Int) = gN l ((1 : Nat) : Int) := by
              rcases gb_cases l ((1 : Nat) : Int) with h | ⟨h, q⟩ | ⟨h, q, m⟩ | ⟨h, q, m⟩
              · exact absurd h1 h
              · rw [(gb_err2 h q).1] at h0; cases h0
              · rw [(gb_err3 h q m).1] at h0; cases h0
              · rw [(gb_ok h q m).2.1, List.length_take, List.length_drop]
                obtain ⟨x, t, hx, hxl, _, hT, _⟩ := g_ok h
                rw [hT] at m ⊢
                omega
            have hrf : rightB ⟨k, 0, gbL l ((1 : Nat) : Int)⟩ = false := by
              rw [right_bad]
              have : badB ⟨k, 0, gbL l ((1 : Nat) : Int)⟩ = true := by
                unfold badB
                rw [decide_eq_true (p := 1000 < _) (by show (1000 : Int) < ((gbL l ((1 : Nat) : Int)).length : Int); omega)]
                simp
              rw [this]; rfl
            exact ⟨by unfold fin; rw [hrf]; rfl, fun h => by cases h⟩
          · rw [if_neg hN, if_neg (by simpa using h0), hk]
            exact like_eq rfl
        · show Value.int .i64 (gbTo l ((1 : Nat) : Int)) = .int .i64 (((gbTo l ((1 : Nat) : Int)).toNat : Nat) : Int)
          obtain ⟨x, t, hx, hxl, _, hT, _⟩ := g_ok h1
          have := gN_nonneg l ((1 : Nat) : Int)
          have e : gbTo l ((1 : Nat) : Int) = ((x + t : Nat) : Int) + gN l ((1 : Nat) : Int) := by unfold gbTo; rw [if_pos h0, hT]
          rw [Int.toNat_of_nonneg (by omega)]
      · refine dr (fun W => W.cell? ⟨b, off, none⟩ = some (.int .u8 k)) [(0, true), (1, true), (2, true), (3, true), (4, true), (5, true), (6, true), (7, false), (8, false), (9, true), (10, true)] (by kernel_rfl) hc5 ?_
        refine p_build (vs := vc ⟨0, 0, []⟩) pl_val zv rfl ?_
        refine p_slice (i := 1) slb rfl (bnd_i rfl) rfl rfl rfl (by omega) hnc (Nat.le_refl _) ?_
        refine p_at (i := 0) slb rfl rfl rfl hn0 ?_
        refine t_load agg_u8 rfl (fun W h => h) ?_
        refine t_cvt (by kernel_rfl) (by kernel_rfl) rfl (w64 (by omega)) ?_
        refine cc is_beg (begins_any _ _ _ _ _ k _ (hr5.drew.sle (i := 1) (m := c) (by omega) hnc) (by omega)) ?_
        rintro en w' ⟨s, rfl, hs, rfl⟩
        refine ⟨_, rfl, hc5, ?_⟩
        refine v_storeA (vc ⟨0, 0, []⟩) sz_val rfl rfl rfl (one1 _) hB25.drew rfl ?_
        rintro W6 hB6 hg6 hs6
        have hc6 : W6.cell? ⟨b, off, none⟩ = some (.int .u8 k) := (World.cell?_of_block (hg6.block b (by show b < W5.heap.size; omega) (fun e => by injection e with e; omega))).trans hc5
        refine ⟨hc6, ?_⟩
        refine ⟨⟨_, _, rfl, run0 _ hB6, ?_⟩⟩
        have h00 : gE (l.drop 1) 0 = gE l ((1 : Nat) : Int) := hG.1
        have h01 : gN (l.drop 1) 0 = gN l ((1 : Nat) : Int) := hG.2
        have key : (vR l 0).1 ≠ 0 ∧ s = decide ((vR l 0).1 = 10) := by
          rw [hs, hv]
          unfold bgB
          rw [h00, h01]
          by_cases c1 : gE l ((1 : Nat) : Int) ≠ 0
          · rw [if_pos c1, if_pos c1]; exact ⟨c1, rfl⟩
          rw [if_neg c1, if_neg c1, if_neg e3]
          by_cases c2 : 1000 < gN l ((1 : Nat) : Int)
          · rw [if_pos c2, if_pos c2]; exact ⟨by simp [no], rfl⟩
          rw [if_neg c2, if_neg c2, if_pos h0, ← hk]
          have ht := gTo_drop (l := l) (p := 1) (by omega) 0 (by simpa using c1)
          obtain ⟨x, t, hx, hxl, _, hT, _, hle, _⟩ := g_ok (l := l.drop 1) (a := 0) (by rw [h00]; simpa using c1)
          have e : (l.drop 1).drop (gTo (l.drop 1) 0).toNat = l.drop (gTo l ((1 : Nat) : Int)).toNat := by
            have ht' : gTo l ((1 : Nat) : Int) = 1 + gTo (l.drop 1) 0 := ht
            rw [List.drop_drop, ht', hT]; congr 1
          rw [e]
          by_cases c4 : k = 4
          · rw [if_pos c4]
            cases hvz : (l.drop (gTo l ((1 : Nat) : Int)).toNat).all vis
            · rw [if_pos ⟨c4, rfl⟩]; exact ⟨by simp [no], rfl⟩
            · rw [if_neg (by simp)]; exact ⟨by simp [no], rfl⟩
          · rw [if_neg c4, if_neg (fun h => c4 h.1)]; exact ⟨by simp [no], rfl⟩
        exact out W6 s (hb5.drew.grown hg6 (by have := hb5.size; exact this) (fun k hk => by injection hk with hk; omega)) hB6 key.1 key.2
  · rintro ⟨v, m⟩ E5 W5 ⟨hb5, hB52, hB53, hv, hvl⟩
    dsimp only at hB53 hv hvl
    have hs5 := hb5.size
    refine v_loadN (vc v) agg_val rfl rfl (hB53.run 0 _ (fun j v h => by rw [Nat.zero_add]; exact h)) ?_
    refine cc is_chk2 (chk2_any v W5 (by omega)) ?_
    rintro en W6 ⟨rfl, b6⟩
    refine ⟨_, rfl, ?_⟩
    have hb6 := hb5.trans (b6.mono hs5)
    have hB62 := hB52.below b6
    have hB63 := hB53.below b6
    refine p_ne rfl rfl (fun h0 => ?_) (fun h0 => ?_)
    · refine v_loadN (vc v) agg_val rfl rfl (hB63.run 0 _ (fun j v h => by rw [Nat.zero_add]; exact h)) ?_
      refine v_storeA (vc v) sz_val rfl rfl rfl (one1 _) hB62 rfl ?_
      rintro W7 hB7 hg7 hs7
      refine ⟨⟨_, _, rfl, run0 _ hB7, ?_⟩⟩
      have hff : fin v m = (0, v, m) := by unfold fin; rw [chkE_eq h0]; rfl
      have hf : vR l 0 = (0, v, m) := by rw [← hff]; exact hv.2 (hv.1.trans (by rw [hff]))
      exact ⟨v, m, false, rfl, hb6.grown hg7 hb6.size (fun k hk => by injection hk with hk; omega), fun _ => by rw [hf]; exact ⟨rfl, rfl, rfl⟩, fun h => absurd (by rw [hf]) h⟩
    · have hf : (vR l 0).1 = 11 := by rw [hv.1]; unfold fin; rw [(chkE_ne h0).1]; rfl
      refine p_build (vs := vc ⟨0, 0, []⟩) pl_val zv rfl ?_
      refine v_storeA (vc ⟨0, 0, []⟩) sz_val rfl rfl rfl (one1 _) hB62 rfl ?_
      rintro W7 hB7 hg7 hs7
      refine ⟨⟨_, _, rfl, run0 _ hB7, ?_⟩⟩
      exact out W7 false (hb6.grown hg7 hb6.size (fun k hk => by injection hk with hk; omega)) hB7 (by rw [hf]; decide) (by rw [hf]; rfl)
end Go.Proofs.Ytjneoinacobbaaa
