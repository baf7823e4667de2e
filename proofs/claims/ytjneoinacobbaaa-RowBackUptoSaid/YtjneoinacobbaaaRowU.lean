/- The walk of row.Decode. -/
import Derived.Test.YtjneoinacobbaaaRowT
import Derived.Test.YtjneoinacobbaaaRowE
namespace Go.Proofs.Ytjneoinacobbaaa
open Go.RowKit
theorem pl_rd : placesOf Try.prog 63 = some [(0, 1), (1, 1), (2, 1)] := by kernel_rfl
theorem z_rd : zeroOf Try.prog 63 = some [.slice none 0 0, .int .i64 0, .int .i64 0] := by kernel_rfl
theorem u_sv : Try.prog.underlying 22 = some (.slice 52) := by kernel_rfl
theorem inf_val : (Try.prog.info? 52).map (fun i => (i.zero, i.size, i.bytes)) = some (some (.agg #[.int .i64 0, .int .i64 0, .string ⟨#[]⟩]), 3, 32) := by kernel_rfl
/-- Values of the call's own. -/
def OwnV (w : World) (base : Nat) (A : Option Addr) (n c : Nat) (l : List Val) : Prop := w.ownsRow base 52 3 (.slice A n c) n (vcs l)
theorem OwnV.rd {w : World} {base n c : Nat} {A : Option Addr} {l : List Val} (h : OwnV w base A n c l) : RdV w w.heap.size A n l := Reads.of_own h
theorem OwnV.cap_ {w : World} {base n c : Nat} {A : Option Addr} {l : List Val} (h : OwnV w base A n c l) : n ≤ c := by
  rcases h.2 with ⟨hv, h0⟩ | ⟨g, cap, cur, hv, _, _, hle, _⟩
  · injection hv with _ h1 h2; omega
  · injection hv with _ h1 h2; omega
theorem OwnV.nil_ (w : World) (base : Nat) : OwnV w base none 0 0 [] := World.ownsRow_nil _ _ _ _
theorem OwnV.lo {w : World} {base n c : Nat} {A : Option Addr} {l : List Val} (h : OwnV w base A n c l) : ∀ k, (Value.slice A n c).ownBlock = some k → base ≤ k := fun k hk => (World.ownsRow.lt h k hk).1
def DecG (w : World) (l : List UInt8) (e : Ending) (w' : World) : Prop := ∃ A' m c', e = .returned (.tuple #[.slice A' m c', .int .i64 (decE l)]) ∧ OwnV w' w.heap.size A' m c' (decL l) ∧ Below w.heap.size w w'
/-- So many are behind, so many are left. -/
def Half (l : List UInt8) (n i a : Nat) (vs : List Val) : Prop := vs.length = i ∧ i ≤ n ∧ a ≤ l.length ∧ decF n l (gTo l 0).toNat = ((decF (n - i) l a).1, vs ++ (decF (n - i) l a).2.1, (decF (n - i) l a).2.2)
theorem half_step {l : List UInt8} {n i a : Nat} {vs : List Val} (h : Half l n i a vs) (hi : i < n) (hl : l.length ≤ 9223372036854775807) (h0 : (vR l a).1 = 0) : Half l n (i + 1) (vR l a).2.2 (vs ++ [(vR l a).2.1]) := by
  obtain ⟨h1, h2, h3, h4⟩ := h
  obtain ⟨k1, k2, _⟩ := vR_ok hl h0
  refine ⟨by simp [h1], by omega, k2, ?_⟩
  rw [h4, show n - i = (n - (i + 1)) + 1 by omega, decF, if_neg (by simpa using h0)]
  simp
theorem half_bad {l : List UInt8} {n i a : Nat} {vs : List Val} (h : Half l n i a vs) (hi : i < n) (h0 : ¬ (vR l a).1 = 0) : (decF n l (gTo l 0).toNat).1 = (vR l a).1 := by
  rw [h.2.2.2, show n - i = (n - (i + 1)) + 1 by omega, decF, if_pos h0]
theorem half_end {l : List UInt8} {n a : Nat} {vs : List Val} (h : Half l n n a vs) : decF n l (gTo l 0).toNat = (0, vs, a) := by
  rw [h.2.2.2, Nat.sub_self, decF]; simp
set_option maxRecDepth 100000 in
set_option maxHeartbeats 1000000 in
theorem decode_any (A : Option Addr) (n c : Nat) (l : List UInt8) (w : World) (hr : Rd w w.heap.size A n l) (hn : n ≤ 1000000000) (hnc : n ≤ c) :
    Calls Try.prog 12 #[.slice A n c] w (DecG w l) := by
  refine calls_ev (args := [.slice A n c]) mixed Try.func12 rfl (by kernel_rfl) ?_
  have hln := hr.len
  refine cc is_get (get_any _ _ _ _ 0 _ _ hr (by omega) hnc) ?_
  rintro en w' ⟨rfl, rfl⟩
  refine ⟨_, rfl, ?_⟩
  refine p_ne rfl rfl (fun h0 => ?_) (fun h0 => ?_)
  rotate_left
  · have e1 : decE l = gE l 0 := by unfold decE; rw [if_pos h0]
    have e2 : decL l = [] := by unfold decL; rw [if_neg (by rw [e1]; exact h0)]
    exact ⟨none, 0, 0, by rw [e1]; rfl, by rw [e2]; exact OwnV.nil_ _ _, Below.refl _ _⟩
  refine p_gt rfl rfl (fun h1 => ?_) (fun h1 => ?_)
  · have e1 : decE l = 11 := by unfold decE; rw [if_neg (by simpa using h0), if_pos h1]
    have e2 : decL l = [] := by unfold decL; rw [if_neg (by rw [e1]; decide)]
    exact ⟨none, 0, 0, by rw [e1]; rfl, by rw [e2]; exact OwnV.nil_ _ _, Below.refl _ _⟩
  obtain ⟨x, t, hx, hxl, _, hT, _, hle, _⟩ := g_ok h0
  obtain ⟨N, hN⟩ := Int.eq_ofNat_of_zero_le (gN_nonneg l 0)
  refine p_build (vs := rc A n c (gTo l 0) 0) pl_rd z_rd rfl ?_
  refine v_boxB (rc A n c (gTo l 0) 0) rfl ?_
  rintro g W hg hB hb hsz
  have hx0 : x = 0 := by omega
  subst hx0
  rw [Nat.zero_add] at hT hle
  rw [hT] at hB
  have h00 : Half l N 0 t [] := by
    refine ⟨rfl, by omega, hle, ?_⟩
    rw [hT, Nat.sub_zero, Int.toNat_natCast]; simp
  refine lp (Nat × Nat × List Val × Option Addr × Nat × Nat) (fun s W => Blk W g 63 (rc A n c (s.2.1 : Int) 0) ∧ Below w.heap.size w W ∧ OwnV W w.heap.size s.2.2.2.1 s.2.2.2.2.1 s.2.2.2.2.2 s.2.2.1 ∧ Half l N s.1 s.2.1 s.2.2.1)
    (fun s => [(0, .slice A n c), (7, .pointer (some ⟨g, 0, none⟩)), (8, .slice s.2.2.2.1 s.2.2.2.2.1 s.2.2.2.2.2), (26, .int .u64 (gN l 0)), (27, .int .u64 s.1)]) (fun s => N - s.1) (0, t, [], none, 0, 0)
    ⟨hB, by rw [← hg]; exact hb, OwnV.nil_ _ _, h00⟩ ⟨rfl, rfl, rfl, rfl, rfl, trivial⟩ ?_
  rintro ⟨i, a, vs, A3, n3, c3⟩ E0 W1 ⟨hB1, hb1, o1, hH⟩
  dsimp only at hB1 o1 hH
  have hs1 := hb1.size
  have hr1 : Rd W1 w.heap.size A n l := hr.below hb1
  have hl1 := hB1.lt
  have hn3 : n3 = i := by have := o1.1; rw [vcs_len, hH.1] at this; omega
  -- what is behind the loop
  refine p_lt rfl rfl (fun h => ?_) (fun h => ?_)
  · have hiN : i < N := by omega
    refine cc is_rval (rval_any (hr1.more (by omega)) hr1 (by omega) hn hnc (by have := hH.2.2.1; omega) hB1) ?_
    rintro en W2 ⟨v, at_, e, rfl, hB2, hg2, he, hv⟩
    refine ⟨_, rfl, ?_⟩
    have hs2 := hg2.size
    have b2 : Below w.heap.size w W2 := hb1.grown hg2 hs1 (fun k hk => by injection hk with hk; omega)
    have o2 : OwnV W2 w.heap.size A3 n3 c3 vs := World.ownsRow.kept o1 hg2 (.inr (ownsRow_ne o1 hB1 (by decide)))
    refine v_bslice (vs := vc v) slv zv rfl (by decide) rfl ?_
    rintro g4 W3 hg4 hB4 hb4 hsz4
    have hB3 := hB2.belowB hb4 (by have := hB2.lt; omega)
    have o3 : OwnV W3 w.heap.size A3 n3 c3 vs := ownsRow_below o2 (hb4.mono (by omega))
    refine v_appG u_sv inf_val rfl (by decide) rfl o3 rfl (Reads.blk (size := 3) (n := 1) hB4 rfl) (fun u hu => vcs_one [v] u (by simpa [vcs] using hu)) ⟨by show n3 + 1 ≤ _; omega, by decide⟩ (by omega) ?_
    rintro A5 c5 W4 o5 hg5
    have hB5 : Blk W4 g 63 (rc A n c at_ e) := hB3.grown hg5 (ownsRow_ne o3 hB3 (by decide))
    have b5 : Below w.heap.size w W4 := (b2.trans (hb4.mono (by omega))).grown hg5 (by omega) (fun k hk => o3.lo k hk)
    replace o5 : OwnV W4 w.heap.size A5 (n3 + 1) c5 (vs ++ [v]) := by unfold OwnV; rw [vcs_append]; simpa [vcs] using o5
    refine p_nil rfl ?_
    refine p_fld fr2 rfl ?_
    refine v_load agg_err rfl (hB5.at_ rfl) ?_
    refine p_ne rfl rfl (fun h2 => ?_) (fun h2 => ?_)
    · obtain ⟨hv1, hv2⟩ := hv h2
      have hH2 := half_step hH hiN (by omega) (he.symm.trans h2)
      refine p_add rfl rfl (wu64 (by omega)) ?_
      refine ⟨(i + 1, (vR l a).2.2, vs ++ [(vR l a).2.1], A5, n3 + 1, c5), ⟨?_, b5, ?_, hH2⟩, ⟨rfl, rfl, rfl, rfl, rfl, trivial⟩, by show N - (i + 1) < N - i; omega⟩
      · rw [hv2, h2] at hB5; exact hB5
      · rw [hv1] at o5; exact o5
    · have hbad := half_bad hH hiN (by rw [← he]; exact h2)
      have e1 : decE l = e := by
        unfold decE decR
        rw [if_neg (by simpa using h0), if_neg h1, hN, Int.toNat_natCast, hbad, if_pos (by rw [← he]; exact h2), he]
      have e2 : decL l = [] := by unfold decL; rw [if_neg (by rw [e1]; exact h2)]
      refine p_nil rfl ?_
      refine p_fld fr2 rfl ?_
      refine v_load agg_err rfl (hB5.at_ rfl) ?_
      refine p_eq rfl rfl (fun h3 => absurd h3 h2) (fun _ => ?_)
      refine p_nil rfl ?_
      refine p_fld fr2 rfl ?_
      refine v_load agg_err rfl (hB5.at_ rfl) ?_
      refine p_ne rfl rfl (fun h3 => absurd h3 h2) (fun _ => ?_)
      refine dr (fun W => Blk W g 63 (rc A n c at_ e)) [(0, true), (1, true), (2, true), (3, true), (4, true), (5, true)] (by kernel_rfl) hB5.drew ?_
      refine p_nil rfl ?_
      refine p_fld fr2 rfl ?_
      refine t_load agg_err rfl (fun W h => Blk.at_ h rfl) ?_
      exact ⟨none, 0, 0, by rw [e1]; rfl, by rw [e2]; exact OwnV.nil_ _ _, b5.drew⟩
  · have hiN : i = N := by have := hH.2.1; omega
    subst hiN
    have hend := half_end hH
    have hR : decR l = (0, vs, a) := by unfold decR; rw [hN, Int.toNat_natCast, hend]
    refine p_nil rfl ?_
    refine p_fld fr2 rfl ?_
    refine v_load agg_err rfl (hB1.at_ rfl) ?_
    refine p_eq rfl rfl (fun _ => ?_) (fun h3 => absurd rfl h3)
    refine p_nil rfl ?_
    refine p_fld fr1 rfl ?_
    refine v_load agg_int rfl (hB1.at_ rfl) ?_
    refine p_len slb rfl ?_
    refine p_lt rfl rfl (fun h4 => ?_) (fun h4 => ?_)
    · have e1 : decE l = 11 := by unfold decE; rw [if_neg (by simpa using h0), if_neg h1, hR, if_neg (by simp), if_pos (by show a < l.length; omega)]
      have e2 : decL l = [] := by unfold decL; rw [if_neg (by rw [e1]; decide)]
      refine p_nil rfl ?_
      refine p_fld fr2 rfl ?_
      refine v_set (.int .i64 11) sz_err hB1 rfl rfl rfl (by show 2 < 3; omega) ?_
      rintro W5 hB5 hg5 hs5
      have b5 : Below w.heap.size w W5 := hb1.grown hg5 hs1 (fun k hk => by injection hk with hk; omega)
      refine p_nil rfl ?_
      refine p_fld fr2 rfl ?_
      refine v_load agg_err rfl (hB5.at_ rfl) ?_
      refine p_ne rfl rfl (fun h3 => by cases h3) (fun _ => ?_)
      refine dr (fun W => Blk W g 63 (rc A n c a 11)) [(0, true), (1, true), (2, true), (3, true), (4, true), (5, true)] (by kernel_rfl) hB5.drew ?_
      refine p_nil rfl ?_
      refine p_fld fr2 rfl ?_
      refine t_load agg_err rfl (fun W h => Blk.at_ h rfl) ?_
      exact ⟨none, 0, 0, by rw [e1]; rfl, by rw [e2]; exact OwnV.nil_ _ _, b5.drew⟩
    · have e1 : decE l = 0 := by unfold decE; rw [if_neg (by simpa using h0), if_neg h1, hR, if_neg (by simp), if_neg (by show ¬ a < l.length; omega)]
      have e2 : decL l = vs := by unfold decL; rw [if_pos e1, hR]
      refine p_nil rfl ?_
      refine p_fld fr2 rfl ?_
      refine v_load agg_err rfl (hB1.at_ rfl) ?_
      refine p_ne rfl rfl (fun _ => ?_) (fun h3 => absurd rfl h3)
      exact ⟨A3, n3, c3, by rw [e1]; rfl, by rw [e2]; exact o1, hb1⟩
end Go.Proofs.Ytjneoinacobbaaa
