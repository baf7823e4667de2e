/- Package block: Decode, Hash. Reference 05: the walks of right, word, round, constants, Sum: they come to SHA-256 as it stands in ShaH. -/
import Derived.Test.YtejbljopighenaaDoorG14
import Derived.Test.YtejbljopighenaaDoorG15
import Derived.Test.YtejbljopighenaaDoorG09
namespace Go.Proofs.YtejbljopighenaaDoor
open Go.RowKit
theorem fits_outZ : FitsO outZ := ⟨(fun r hr => by cases hr), Nat.zero_le _, by decide⟩
theorem dec_fits {x : List UInt8} (h : x.length ≤ 1000000) : FitsO (decO x).1 := by
  by_cases h0 : (decO x).2 = 0
  · unfold decO at h0 ⊢
    split at h0
    · next h1 => rw [if_pos h1]; exact parse_fits h
    · exact absurd h0 (by decide)
  · rw [decO_bad h0]; exact fits_outZ
theorem map_join {l : List UInt8} {t : List (List (List UInt8))} (h : txsP l = some t) : spE l = 0 ∧ t.map joinL = spL l := by
  unfold txsP at h
  split at h
  · next h1 =>
    injection h with h
    subst h
    refine ⟨h1.1, ?_⟩
    rw [List.map_map]
    conv => rhs; rw [← List.map_id (spL l)]
    exact List.map_congr_left fun x hx => (join_split x (h1.2 x hx)).1
  · cases h
theorem map_out {l : List UInt8} {o : List Out} (h : outsP l = some o) : spE l = 0 ∧ o.map outB = spL l ∧ ∀ x ∈ o, ∃ y ∈ spL l, x = (decO y).1 ∧ encO x = (y, 0) := by
  unfold outsP at h
  split at h
  · next h1 =>
    injection h with h
    subst h
    refine ⟨h1.1, ?_, fun x hx => ?_⟩
    · rw [List.map_map]
      conv => rhs; rw [← List.map_id (spL l)]
      exact List.map_congr_left fun x hx => (encO_ok (decO_ok (h1.2 x hx))).2.1.symm
    · obtain ⟨y, hy, rfl⟩ := List.mem_map.1 hx
      exact ⟨y, hy, rfl, decO_ok (h1.2 y hy)⟩
  · cases h
theorem join_sum (ll : List (List UInt8)) : (joinL ll).length = (putN ll.length).length + (ll.map fun s => (putB s).length).sum := by
  unfold joinL
  rw [List.length_append, List.length_flatMap]
theorem putB_le {s : List UInt8} (h : s.length < 18446744073709551616) : (putB s).length ≤ s.length + 10 := by rw [putB_len2]; have := putN_len10 h; omega
/-- What is read of bytes is not too great. -/
theorem parse_fitsB {s : List UInt8} {b : Bk} (h : parseBk s = some b) (hs : s.length ≤ 1000000) : FitsB b := by
  obtain ⟨a0, a1, a2, a3, a4, a5, a6, t, o, hsp, hc1, hc2, hc3, ht, ho, rfl⟩ := parse_some h
  obtain ⟨k1, k2⟩ := map_join ht
  obtain ⟨k3, k4, k5⟩ := map_out ho
  have hm : ∀ x ∈ spL s, x.length ≤ s.length := fun x hx => (sp_bound hx).1
  rw [hsp] at hm
  have m1 := hm a1 (by simp)
  have m2 := hm a2 (by simp)
  have m3 := hm a3 (by simp)
  have m4 := hm a4 (by simp)
  have m5 := hm a5 (by simp)
  have m6 := hm a6 (by simp)
  refine ⟨hc3, fun x hx => ?_, ?_⟩
  · obtain ⟨y, hy, rfl, -⟩ := k5 x hx
    have := (sp_bound hy).1
    exact dec_fits (by omega)
  · have e4 : joinL (txsB ⟨gN a0 0, a1, a2, a3, t, o, a6⟩) = a4 := by unfold txsB; rw [k2]; exact (join_split a4 k1).1
    have e5 : joinL (outsB ⟨gN a0 0, a1, a2, a3, t, o, a6⟩) = a5 := by unfold outsB; rw [k4]; exact (join_split a5 k3).1
    have eb : blockB ⟨gN a0 0, a1, a2, a3, t, o, a6⟩ = joinL [putN (gN a0 0).toNat, a1, a2, a3, a4, a5, a6] := by unfold blockB partsB; rw [e4, e5]
    rw [eb, join_sum]
    have hg := gN_ge a0 0
    have n0 := putN_len10 (n := (gN a0 0).toNat) (by omega)
    have n7 : (putN [putN (gN a0 0).toNat, a1, a2, a3, a4, a5, a6].length).length ≤ 10 := putN_len10 (n := 7) (by decide)
    have b0 := putB_le (s := putN (gN a0 0).toNat) (by omega)
    have b1 := putB_le (s := a1) (by omega)
    have b2 := putB_le (s := a2) (by omega)
    have b3 := putB_le (s := a3) (by omega)
    have b4 := putB_le (s := a4) (by omega)
    have b5 := putB_le (s := a5) (by omega)
    have b6 := putB_le (s := a6) (by omega)
    simp only [List.map_cons, List.map_nil, List.sum_cons, List.sum_nil]
    omega
theorem St.lse' {w W : World} {gs : List (Option Nat)} {L : Lc} {R : List Row} {fs : List Fact} (M : St w gs W L R fs) {ll : List (List UInt8)} {b off n c i : Nat} {l : List UInt8} (h : RdD W (Fd W (own L R gs)) (dLs ll) (.slice (some ⟨b, off, none⟩) n c)) (hi : ll[i]? = some l) :
    ∃ A' c', St w gs W L R (.loc ((⟨b, off, none⟩ : Addr).add (i * 1)) [.slice A' l.length c'] :: .dat false [dB l] [.slice A' l.length c'] :: fs) := by
  obtain ⟨b', off', A', c', e, M'⟩ := M.lse h hi
  injection e with e
  injection e with e1 e2 _
  subst e1; subst e2
  exact ⟨A', c', M'⟩
set_option maxRecDepth 100000 in
set_option maxHeartbeats 8000000 in
theorem bDec_any (s : List UInt8) (gs : List (Option Nat)) (w : World) (A : Option Addr) (n c : Nat) (hr : RdD w (Fd w gs) (dB s) (.slice A n c)) (hgs : ∀ b, some b ∈ gs → b < w.heap.size) (hs : s.length ≤ 1000000) :
    Calls Tryd.prog 11 #[.slice A n c] w fun e w' => ∃ p, e = .returned (.tuple #[.agg (bkcs (decBk s).1 p).toArray, .int .i64 (decBk s).2]) ∧ RdL w' (Fd w' gs) (dBk (decBk s).1) (bkcs (decBk s).1 p) ∧ Below w.heap.size w w' := by
  refine calls_ev (args := [.slice A n c]) mixed Tryd.func11 rfl (by kernel_rfl) ?_
  obtain ⟨en, enc, hrd⟩ := hr.rd Fd.lt
  subst en
  have M := (St.start hgs).addD hr
  clear hr hrd
  refine s_alloc (zBk) M al_bk ?_
  clear M
  rintro g2 W M
  refine p_len slb rfl ?_
  refine p_gt rfl rfl (fun h => absurd (show (1048576 : Int) < (s.length : Int) from h) (by omega)) (fun _ => ?_)
  have hd0 : decBk s = finBk s (parseBk s) := by unfold decBk; rw [if_neg (by omega)]
  refine cc is_vsplit (split_any _ _ _ s _ (M.rdb 0 rfl).2.2 (by omega) enc) ?_
  rintro e W ⟨A4, n4, c4, rfl, o4, hb⟩
  have h4 : RdD W (Fr _ W) (dLs (spL s)) (.slice A4 n4 c4) := o4.rdLs fun b q1 q2 q3 => ⟨q1, q2, q3⟩
  have en4 : n4 = (spL s).length := h4.slen
  subst en4
  replace M := M.callF1 hb h4
  clear hb h4 o4
  refine ⟨_, rfl, ?_⟩
  refine p_ne rfl rfl (fun q => ?_) (fun q => ?_)
  rotate_left
  · have q : ¬ spE s = 0 := q
    have hsp : spL s = [] := by unfold spL; rw [if_neg q]
    have hp : parseBk s = none := parse_n (by rw [hsp]; decide)
    have hd : decBk s = (bkZ, 11) := by rw [hd0, hp]; rfl
    refine p_build (vs := zBk) pl_bk z_bk rfl ?_
    refine s_storeA 0 zBk M rfl sz_bk rfl rfl rfl (all1 rfl) rfl ?_
    clear M; rintro W M
    dsimp only [setL] at M
    refine c_loadN zBk agg_bk rfl rfl (M.run 0 rfl) ?_
    rw [hd]
    exact ⟨⟨none, 0, none, 0, none, 0, none, 0, none, 0, none, 0⟩, rfl, RdL.ofbk (RdD.nil_ (s := 1) none 0) (RdD.nil_ (s := 1) none 0) (RdD.nil_ (s := 1) none 0) (RdD.nil_ none 0) (RdD.nil_ none 0) (RdD.nil_ (s := 1) none 0), M.below⟩
  have q : spE s = 0 := q
  refine p_len sls rfl ?_
  refine p_ne rfl rfl (fun q7 => ?_) (fun q7 => ?_)
  rotate_left
  · have q7 : ¬ ((spL s).length : Int) = 7 := q7
    have hp : parseBk s = none := parse_n (fun h => q7 (by rw [h]; rfl))
    have hd : decBk s = (bkZ, 11) := by rw [hd0, hp]; rfl
    refine p_build (vs := zBk) pl_bk z_bk rfl ?_
    refine s_storeA 0 zBk M rfl sz_bk rfl rfl rfl (all1 rfl) rfl ?_
    clear M; rintro W M
    dsimp only [setL] at M
    refine c_loadN zBk agg_bk rfl rfl (M.run 0 rfl) ?_
    rw [hd]
    exact ⟨⟨none, 0, none, 0, none, 0, none, 0, none, 0, none, 0⟩, rfl, RdL.ofbk (RdD.nil_ (s := 1) none 0) (RdD.nil_ (s := 1) none 0) (RdD.nil_ (s := 1) none 0) (RdD.nil_ none 0) (RdD.nil_ none 0) (RdD.nil_ (s := 1) none 0), M.below⟩
  have q7 : (spL s).length = 7 := by have h : ((spL s).length : Int) = 7 := q7; omega
  have hmm : ∀ x ∈ spL s, x.length ≤ s.length := fun x hx => (sp_bound hx).1
  obtain ⟨a0, a1, a2, a3, a4, a5, a6, hsp⟩ := list7 q7
  have m0 := hmm a0 (by rw [hsp]; simp)
  have m4 := hmm a4 (by rw [hsp]; simp)
  have m5 := hmm a5 (by rw [hsp]; simp)
  rw [q7]
  rw [q7] at M
  have hp0 := parse_7 hsp
  unfold partBk at hp0
  obtain ⟨bl, ol, B0, d0, rfl, M'⟩ := M.lse (M.d1 0 rfl) (i := 0) (l := a0) (by rw [hsp]; rfl)
  replace M := M'; clear M'
  refine p_at (i := 0) sls rfl rfl rfl (by decide) ?_
  refine v_load agg_b rfl (M.lc 0 rfl 0 _ rfl) ?_
  obtain ⟨-, enc0, hrd0⟩ := M.rdb 1 rfl
  refine cc is_vget (get_any _ _ _ _ 0 a0 _ hrd0 (by omega) enc0) ?_
  rintro e W' ⟨rfl, rfl⟩
  refine ⟨_, rfl, ?_⟩
  clear hrd0 enc0
  obtain ⟨B4, d4, M'⟩ := M.lse' (M.d1 2 rfl) (i := 4) (l := a4) (by rw [hsp]; rfl)
  replace M := M'; clear M'
  refine p_at (i := 4) sls rfl rfl rfl (by decide) ?_
  refine v_load agg_b rfl (M.lc 0 rfl 0 _ rfl) ?_
  refine cc is_btxs (btxs_any a4 _ _ _ _ _ (M.d1 1 rfl) M.olt (by omega)) ?_
  rintro e W ⟨A8, n8, c8, rfl, h8, hb⟩
  have en8 : n8 = ((txsP a4).getD []).length := h8.slen
  subst en8
  replace M := (M.call hb).addD h8
  clear hb h8
  refine ⟨_, rfl, ?_⟩
  obtain ⟨B5, d5, M'⟩ := M.lse' (M.d1 5 rfl) (i := 5) (l := a5) (by rw [hsp]; rfl)
  replace M := M'; clear M'
  refine p_at (i := 5) sls rfl rfl rfl (by decide) ?_
  refine v_load agg_b rfl (M.lc 0 rfl 0 _ rfl) ?_
  refine cc is_bouts (bouts_any a5 _ _ _ _ _ (M.d1 1 rfl) M.olt (by omega)) ?_
  rintro e W ⟨A10, n10, c10, rfl, h10, hb⟩
  have en10 : n10 = ((outsP a5).getD []).length := h10.slen
  subst en10
  replace M := (M.call hb).addD h10
  clear hb h10
  refine ⟨_, rfl, ?_⟩
  replace M := M.fsub [.dat false [dOuts ((outsP a5).getD [])] [.slice A10 ((outsP a5).getD []).length c10], .dat false [dTxs ((txsP a4).getD [])] [.slice A8 ((txsP a4).getD []).length c8], .dat true [dLs (spL s)] [.slice (some ⟨bl, ol, none⟩) 7 c4], .dat false [dB s] [.slice A s.length c]] (by simp)
  refine p_ne rfl rfl (fun r1 => ?_) (fun r1 => ?_)
  rotate_left
  · have r1 : ¬ gE a0 0 = 0 := r1
    have hp : parseBk s = none := by rw [hp0, if_neg (fun h => r1 h.2.1)]
    have hd : decBk s = (bkZ, 11) := by rw [hd0, hp]; rfl
    refine p_build (vs := zBk) pl_bk z_bk rfl ?_
    refine s_storeA 0 zBk M rfl sz_bk rfl rfl rfl (all1 rfl) rfl ?_
    clear M; rintro W M
    dsimp only [setL] at M
    refine c_loadN zBk agg_bk rfl rfl (M.run 0 rfl) ?_
    rw [hd]
    exact ⟨⟨none, 0, none, 0, none, 0, none, 0, none, 0, none, 0⟩, rfl, RdL.ofbk (RdD.nil_ (s := 1) none 0) (RdD.nil_ (s := 1) none 0) (RdD.nil_ (s := 1) none 0) (RdD.nil_ none 0) (RdD.nil_ none 0) (RdD.nil_ (s := 1) none 0), M.below⟩
  have r1 : gE a0 0 = 0 := r1
  refine p_gt rfl rfl (fun r2 => ?_) (fun r2 => ?_)
  · have r2 : (9223372036854775807 : Int) < gN a0 0 := r2
    have hp : parseBk s = none := by rw [hp0, if_neg (fun h => by have := h.2.2; omega)]
    have hd : decBk s = (bkZ, 11) := by rw [hd0, hp]; rfl
    refine p_build (vs := zBk) pl_bk z_bk rfl ?_
    refine s_storeA 0 zBk M rfl sz_bk rfl rfl rfl (all1 rfl) rfl ?_
    clear M; rintro W M
    dsimp only [setL] at M
    refine c_loadN zBk agg_bk rfl rfl (M.run 0 rfl) ?_
    rw [hd]
    exact ⟨⟨none, 0, none, 0, none, 0, none, 0, none, 0, none, 0⟩, rfl, RdL.ofbk (RdD.nil_ (s := 1) none 0) (RdD.nil_ (s := 1) none 0) (RdD.nil_ (s := 1) none 0) (RdD.nil_ none 0) (RdD.nil_ none 0) (RdD.nil_ (s := 1) none 0), M.below⟩
  have r2 : ¬ (9223372036854775807 : Int) < gN a0 0 := r2
  rw [if_pos ⟨q, r1, by omega⟩] at hp0
  obtain ⟨T, hT⟩ : ∃ T, T = txsP a4 := ⟨_, rfl⟩
  obtain ⟨O, hO⟩ : ∃ O, O = outsP a5 := ⟨_, rfl⟩
  rw [← hT, ← hO] at hp0 M
  rw [← hT, ← hO]
  refine p_not rfl ?_
  cases T with
  | none =>
    have hp : parseBk s = none := hp0
    have hd : decBk s = (bkZ, 11) := by rw [hd0, hp]; rfl
    refine p_build (vs := zBk) pl_bk z_bk rfl ?_
    refine s_storeA 0 zBk M rfl sz_bk rfl rfl rfl (all1 rfl) rfl ?_
    clear M; rintro W M
    dsimp only [setL] at M
    refine c_loadN zBk agg_bk rfl rfl (M.run 0 rfl) ?_
    rw [hd]
    exact ⟨⟨none, 0, none, 0, none, 0, none, 0, none, 0, none, 0⟩, rfl, RdL.ofbk (RdD.nil_ (s := 1) none 0) (RdD.nil_ (s := 1) none 0) (RdD.nil_ (s := 1) none 0) (RdD.nil_ none 0) (RdD.nil_ none 0) (RdD.nil_ (s := 1) none 0), M.below⟩
  | some T =>
  refine p_not rfl ?_
  cases O with
  | none =>
    have hp : parseBk s = none := hp0
    have hd : decBk s = (bkZ, 11) := by rw [hd0, hp]; rfl
    refine p_build (vs := zBk) pl_bk z_bk rfl ?_
    refine s_storeA 0 zBk M rfl sz_bk rfl rfl rfl (all1 rfl) rfl ?_
    clear M; rintro W M
    dsimp only [setL] at M
    refine c_loadN zBk agg_bk rfl rfl (M.run 0 rfl) ?_
    rw [hd]
    exact ⟨⟨none, 0, none, 0, none, 0, none, 0, none, 0, none, 0⟩, rfl, RdL.ofbk (RdD.nil_ (s := 1) none 0) (RdD.nil_ (s := 1) none 0) (RdD.nil_ (s := 1) none 0) (RdD.nil_ none 0) (RdD.nil_ none 0) (RdD.nil_ (s := 1) none 0), M.below⟩
  | some O =>
  have hp0 : parseBk s = some ⟨gN a0 0, a1, a2, a3, T, O, a6⟩ := hp0
  have M : St w gs W [(g2, 26, zBk)] [] [.dat false [dOuts O] [.slice A10 O.length c10], .dat false [dTxs T] [.slice A8 T.length c8], .dat true [dLs (spL s)] [.slice (some ⟨bl, ol, none⟩) 7 c4], .dat false [dB s] [.slice A s.length c]] := M
  obtain ⟨B1, d1, M'⟩ := M.lse' (M.d1 2 rfl) (i := 1) (l := a1) (by rw [hsp]; rfl)
  replace M := M'; clear M'
  obtain ⟨B2, d2, M'⟩ := M.lse' (M.d1 4 rfl) (i := 2) (l := a2) (by rw [hsp]; rfl)
  replace M := M'; clear M'
  obtain ⟨B3, d3, M'⟩ := M.lse' (M.d1 6 rfl) (i := 3) (l := a3) (by rw [hsp]; rfl)
  replace M := M'; clear M'
  obtain ⟨B6, d6, M'⟩ := M.lse' (M.d1 8 rfl) (i := 6) (l := a6) (by rw [hsp]; rfl)
  replace M := M'.drew; clear M'
  have hfb := parse_fitsB hp0 hs
  obtain ⟨b, hb0⟩ : ∃ b : Bk, b = ⟨gN a0 0, a1, a2, a3, T, O, a6⟩ := ⟨_, rfl⟩
  obtain ⟨p, hp⟩ : ∃ p : Bp, p = ⟨B1, d1, B2, d2, B3, d3, A8, c8, A10, c10, B6, d6⟩ := ⟨_, rfl⟩
  have hcs : bkcs b p = [.int .i64 (gN a0 0), .slice B1 a1.length d1, .slice B2 a2.length d2, .slice B3 a3.length d3, .slice A8 T.length c8, .slice A10 O.length c10, .slice B6 a6.length d6] := by rw [hb0, hp]; rfl
  refine cutV Nat (fun g W => St w gs W [(g, 26, bkcs b p), (g2, 26, zBk)] [] [.dat false (dBk b) (bkcs b p), .dat false [dB s] [.slice A s.length c]]) (fun g => [(0, .slice A s.length c), (2, .pointer (some ⟨g2, 0, none⟩)), (12, .pointer (some ⟨g, 0, none⟩))]) ?_ ?_
  · refine drT (Kp w gs [] [.loc ((⟨bl, ol, none⟩ : Addr).add (1 * 1)) [.slice B1 a1.length d1], .loc ((⟨bl, ol, none⟩ : Addr).add (2 * 1)) [.slice B2 a2.length d2], .loc ((⟨bl, ol, none⟩ : Addr).add (3 * 1)) [.slice B3 a3.length d3], .loc ((⟨bl, ol, none⟩ : Addr).add (6 * 1)) [.slice B6 a6.length d6]]) (.take 0 (.take 1 (.take 2 (.take 3 (.take 4 (.take 5 (.take 6 (.take 7 (.take 8 (.take 9 (.take 10 (.take 11 (.take 12 (.take 13 (.take 14 (.take 15 (.take 16 (.one 17 (.one 18 (.nil)))))))))))))))))))) (by kernel_rfl) (M.kp (by simp) (by simp)) ?_
    refine t_cvt u_u64s u_i64u rfl (cvi64 (gN_ge _ _) (by omega)) ?_
    refine p_at (i := 1) sls rfl rfl rfl (by decide) ?_
    refine t_load agg_b rfl (fun W K => K.lc 0 rfl 0 _ rfl) ?_
    refine p_at (i := 2) sls rfl rfl rfl (by decide) ?_
    refine t_load agg_b rfl (fun W K => K.lc 1 rfl 0 _ rfl) ?_
    refine p_at (i := 3) sls rfl rfl rfl (by decide) ?_
    refine t_load agg_b rfl (fun W K => K.lc 2 rfl 0 _ rfl) ?_
    refine p_at (i := 6) sls rfl rfl rfl (by decide) ?_
    refine t_load agg_b rfl (fun W K => K.lc 3 rfl 0 _ rfl) ?_
    refine p_build (vs := [.int .i64 (gN a0 0), .slice B1 a1.length d1, .slice B2 a2.length d2, .slice B3 a3.length d3, .slice A8 T.length c8, .slice A10 O.length c10, .slice B6 a6.length d6]) pl_bk z_bk rfl ?_
    rw [← hcs]
    refine s_alloc (zBk) M al_bk ?_
    clear M
    rintro g12 W M
    refine ⟨(M.kp (by simp) (by simp)), ?_⟩
    refine s_storeA 0 (bkcs b p) M rfl sz_bk rfl rfl rfl (all1 rfl) rfl ?_
    clear M; rintro W M
    dsimp only [setL] at M
    refine ⟨(M.kp (by simp) (by simp)), ?_⟩
    have hbd : RdL W (Fd W (own [(g12, 26, bkcs b p), (g2, 26, zBk)] [] gs)) (dBk b) (bkcs b p) := by
      rw [hb0, hp]
      exact RdL.ofbk (M.d1 7 rfl) (M.d1 5 rfl) (M.d1 3 rfl) (M.d1 9 rfl) (M.d1 8 rfl) (M.d1 1 rfl)
    exact ⟨g12, (M.addL hbd).fsub _ (by simp), (by repeat (first | exact trivial | refine ⟨rfl, ?_⟩))⟩
  clear M
  rintro g12 E W M
  rw [← hb0] at hp0 hfb
  have hd1 : decBk s = if encBk b = (s, 0) then (b, 0) else (bkZ, 11) := by rw [hd0, hp0]; rfl
  refine v_loadN (bkcs b p) agg_bk rfl rfl (M.run 0 rfl) ?_
  refine cc is_bEnc (bEnc_any b _ _ _ (M.da 0 rfl) M.olt hfb) ?_
  rintro e W ⟨A13, n13, c13, rfl, o13, hb⟩
  replace M := M.callO hb o13
  clear hb o13
  refine ⟨_, rfl, ?_⟩
  obtain ⟨Y, hY⟩ : ∃ Y, Y = encBk b := ⟨_, rfl⟩
  rw [← hY] at M hd1
  rw [← hY]
  refine p_ne rfl rfl (fun h2 => ?_) (fun h2 => ?_)
  rotate_left
  · have h2 : ¬ Y.2 = 0 := h2
    have hd : decBk s = (bkZ, 11) := by rw [hd1, if_neg (fun h => h2 (by rw [h]))]
    refine p_build (vs := zBk) pl_bk z_bk rfl ?_
    refine s_storeA 1 zBk M rfl sz_bk rfl rfl rfl (all1 rfl) rfl ?_
    clear M; rintro W M
    dsimp only [setL] at M
    refine c_loadN zBk agg_bk rfl rfl (M.run 1 rfl) ?_
    rw [hd]
    exact ⟨⟨none, 0, none, 0, none, 0, none, 0, none, 0, none, 0⟩, rfl, RdL.ofbk (RdD.nil_ (s := 1) none 0) (RdD.nil_ (s := 1) none 0) (RdD.nil_ (s := 1) none 0) (RdD.nil_ none 0) (RdD.nil_ none 0) (RdD.nil_ (s := 1) none 0), M.below⟩
  have h2 : Y.2 = 0 := h2
  refine v_str rfl (M.rdb 0 rfl).2.2 ?_
  refine v_str rfl (M.rdb 2 rfl).2.2 ?_
  refine p_sne rfl rfl (fun h3 => ?_) (fun h3 => ?_)
  rotate_left
  ·
    have hd : decBk s = (bkZ, 11) := by rw [hd1, if_neg (fun h => h3 (by rw [h]))]
    refine p_build (vs := zBk) pl_bk z_bk rfl ?_
    refine s_storeA 1 zBk M rfl sz_bk rfl rfl rfl (all1 rfl) rfl ?_
    clear M; rintro W M
    dsimp only [setL] at M
    refine c_loadN zBk agg_bk rfl rfl (M.run 1 rfl) ?_
    rw [hd]
    exact ⟨⟨none, 0, none, 0, none, 0, none, 0, none, 0, none, 0⟩, rfl, RdL.ofbk (RdD.nil_ (s := 1) none 0) (RdD.nil_ (s := 1) none 0) (RdD.nil_ (s := 1) none 0) (RdD.nil_ none 0) (RdD.nil_ none 0) (RdD.nil_ (s := 1) none 0), M.below⟩
  have h3 : Y.1 = s := sb_inj.1 h3
  rw [if_pos (Prod.ext h3 h2)] at hd1
  refine v_loadN (bkcs b p) agg_bk rfl rfl (M.run 0 rfl) ?_
  refine s_storeA 1 (bkcs b p) M rfl sz_bk rfl rfl rfl (all1 rfl) rfl ?_
  clear M; rintro W M
  dsimp only [setL] at M
  refine c_loadN (bkcs b p) agg_bk rfl rfl (M.run 1 rfl) ?_
  rw [hd1]
  exact ⟨p, rfl, M.fin 1 rfl, M.below⟩
end Go.Proofs.YtejbljopighenaaDoor
namespace Go.Proofs.YtejbljopighenaaDoor
open Go.RowKit
theorem is_r5right : isFn Tryd.prog 68 = true := by kernel_rfl
theorem is_r5word : isFn Tryd.prog 67 = true := by kernel_rfl
theorem is_r5round : isFn Tryd.prog 58 = true := by kernel_rfl
theorem is_r5con : isFn Tryd.prog 57 = true := by kernel_rfl
theorem slw : slOf Tryd.prog 105 = some (104, 1) := by kernel_rfl
theorem zw : zeroOf Tryd.prog 104 = some [cu 0] := by kernel_rfl
theorem winfo : (Tryd.prog.info? 104).map (fun i => (i.zero, i.size, i.bytes)) = some (some (.int .u32 0), 1, 4) := by kernel_rfl
theorem dd_int : (Tryd.prog.underlying 3).isSome = true := by kernel_rfl
theorem dd_uint : Tryd.prog.underlying 46 = some (.int .u64) := by kernel_rfl
set_option maxRecDepth 100000 in
theorem r5right_any (x n : Nat) (w : World) (hx : x < 4294967296) (h1 : 1 ≤ n) (h2 : n ≤ 31) :
    Calls Tryd.prog 68 #[.int .u32 x, .int .i64 n] w fun e w' => e = .returned (.int .u32 (rotr x n : Nat)) ∧ w = w' := by
  refine calls_ev (args := [.int .u32 x, .int .i64 n]) mixed Tryd.func68 rfl (by kernel_rfl) ?_
  have hs : IntKind.u32.wrap ((x : Int) * 2 ^ (min (((32 - n : Nat) : Int)).toNat 32)) = ((x <<< (32 - n)) % 4294967296 : Nat) := by
    rw [Int.toNat_natCast, Nat.min_eq_left (by omega), IntKind.wrap_u32', Nat.shiftLeft_eq, Int.natCast_emod, Int.natCast_mul, Int.natCast_pow]
    rfl
  have hr := shr32 (x := x) (n := n) (by omega)
  have ho : bits .or .u32 ((x >>> n : Nat) : Int) (((x <<< (32 - n)) % 4294967296 : Nat) : Int) = ((rotr x n : Nat) : Int) := by
    rw [u32_or_nat _ _ (shr_lt n hx) (Nat.mod_lt _ (by decide)), Nat.or_comm]; rfl
  refine v_cvt dd_int dd_uint rfl (r := ((n : Nat) : Int)) (by rw [IntKind.wrap_u64]; omega) ?_
  refine p_shr rfl rfl (by omega) hr ?_
  refine p_sub rfl rfl (r := ((32 - n : Nat) : Int)) ((w64 (by omega)).trans (by omega)) ?_
  refine v_cvt dd_int dd_uint rfl (r := ((32 - n : Nat) : Int)) (by rw [IntKind.wrap_u64]; omega) ?_
  refine p_shl rfl rfl (by omega) hs ?_
  refine p_or rfl rfl ho ?_
  exact ⟨rfl, rfl⟩
theorem wordB_add (b : List UInt8) (i : Nat) : wordB b i = byt b (4 * i) * 16777216 + byt b (4 * i + 1) * 65536 + byt b (4 * i + 2) * 256 + byt b (4 * i + 3) := by
  have h0 := byt_lt b (4 * i)
  have h1 := byt_lt b (4 * i + 1)
  have h2 := byt_lt b (4 * i + 2)
  have h3 := byt_lt b (4 * i + 3)
  unfold wordB
  rw [Nat.or_assoc, Nat.or_assoc]
  rw [← Nat.shiftLeft_add_eq_or_of_lt (i := 8) (by omega) (byt b (4 * i + 2))]
  have e2 : byt b (4 * i + 2) <<< 8 + byt b (4 * i + 3) = byt b (4 * i + 2) * 256 + byt b (4 * i + 3) := by rw [Nat.shiftLeft_eq]
  rw [e2, ← Nat.shiftLeft_add_eq_or_of_lt (i := 16) (by omega) (byt b (4 * i + 1))]
  have e1 : byt b (4 * i + 1) <<< 16 = byt b (4 * i + 1) * 65536 := by rw [Nat.shiftLeft_eq]
  rw [e1, ← Nat.shiftLeft_add_eq_or_of_lt (i := 24) (by omega) (byt b (4 * i))]
  rw [Nat.shiftLeft_eq]; omega
set_option maxRecDepth 100000 in
theorem r5word_any (A : Option Addr) (c B : Nat) (b : List UInt8) (w : World) (hr : Rd w B A 4 b) :
    Calls Tryd.prog 67 #[.slice A 4 c] w fun e w' => e = .returned (.int .u32 (wordB b 0 : Nat)) ∧ Below w.heap.size w w' := by
  refine calls_ev (args := [.slice A 4 c]) mixed Tryd.func67 rfl (by kernel_rfl) ?_
  obtain ⟨b0, o0, rfl, _⟩ := hr.at_ (k := 0) (by omega)
  have h0 := byt_lt b 0
  have h1 := byt_lt b 1
  have h2 := byt_lt b 2
  have h3 := byt_lt b 3
  have hw : wordB b 0 = byt b 0 * 16777216 + byt b 1 * 65536 + byt b 2 * 256 + byt b 3 := wordB_add b 0
  refine drT (fun W => Rd W B (some ⟨b0, o0, none⟩) 4 b) (.take 0 (.take 1 (.take 2 (.take 3 (.take 4 (.take 5 (.take 6 (.take 7 (.take 8 (.take 9 (.take 10 (.take 11 (.take 12 (.take 13 (.take 14 (.take 15 (.take 16 (.take 17 (.take 18 (.take 19 (.take 20 (.take 21 (.take 22 (.nil)))))))))))))))))))))))) (by kernel_rfl) hr.drew ?_
  refine p_at (i := 0) sl_by rfl rfl rfl (by decide) ?_
  refine t_load agg_by rfl (fun W h => Rd.get h (j := 0) (by decide)) ?_
  refine t_cvt u_byt u_u32 rfl (wu32 (by omega)) ?_
  refine p_mul rfl rfl (r := ((byt b 0 * 16777216 : Nat) : Int)) ((wu32 (by omega)).trans (by omega)) ?_
  refine p_at (i := 1) sl_by rfl rfl rfl (by decide) ?_
  refine t_load agg_by rfl (fun W h => Rd.get h (j := 1) (by decide)) ?_
  refine t_cvt u_byt u_u32 rfl (wu32 (by omega)) ?_
  refine p_mul rfl rfl (r := ((byt b 1 * 65536 : Nat) : Int)) ((wu32 (by omega)).trans (by omega)) ?_
  refine p_add rfl rfl (r := ((byt b 0 * 16777216 + byt b 1 * 65536 : Nat) : Int)) ((wu32 (by omega)).trans (by omega)) ?_
  refine p_at (i := 2) sl_by rfl rfl rfl (by decide) ?_
  refine t_load agg_by rfl (fun W h => Rd.get h (j := 2) (by decide)) ?_
  refine t_cvt u_byt u_u32 rfl (wu32 (by omega)) ?_
  refine p_mul rfl rfl (r := ((byt b 2 * 256 : Nat) : Int)) ((wu32 (by omega)).trans (by omega)) ?_
  refine p_add rfl rfl (r := ((byt b 0 * 16777216 + byt b 1 * 65536 + byt b 2 * 256 : Nat) : Int)) ((wu32 (by omega)).trans (by omega)) ?_
  refine p_at (i := 3) sl_by rfl rfl rfl (by decide) ?_
  refine t_load agg_by rfl (fun W h => Rd.get h (j := 3) (by decide)) ?_
  refine t_cvt u_byt u_u32 rfl (wu32 (by omega)) ?_
  refine p_add rfl rfl (r := ((wordB b 0 : Nat) : Int)) ((wu32 (by omega)).trans (by omega)) ?_
  exact ⟨rfl, (Below.refl _ _).drew⟩
def dW (l : List Nat) : D := .sl 1 l.length ((l.map cu).map D.v)
theorem dW_open {W : World} {F : Nat → Prop} {l : List Nat} {A : Option Addr} {n c : Nat} (h : RdD W F (dW l) (.slice A n c)) (hn : 0 < n) : ∃ b off, A = some ⟨b, off, none⟩ ∧ F b ∧ ∀ j x, (l.map cu)[j]? = some x → W.cell? ((⟨b, off, none⟩ : Addr).add j) = some x := by
  have hs := h.slen
  obtain ⟨A', c2, cs, h1, h2, h3, h4, h5⟩ := RdD.sl_iff.1 h
  rw [h4.vals] at h5
  injection h1 with e1 _ _
  subst e1; subst hs
  obtain ⟨b, off, h6, h7, h8⟩ := h5 hn
  exact ⟨b, off, h6, h7, fun j x hx => by rw [Addr.add_lit]; exact h8 j x hx⟩
theorem cu_at {l : List Nat} {j : Nat} (hj : j < l.length) : (l.map cu)[j * 1]? = some (.int .u32 (l.getD j 0 : Nat)) := by
  rw [Nat.mul_one, List.getElem?_map, List.getD_eq_getElem?_getD, List.getElem?_eq_getElem hj]; rfl
def h8l (v : H8) : List Nat := [v.a, v.b, v.c, v.d, v.e, v.f, v.g, v.h]
theorem maj_or (a b c : Nat) : ((a &&& b) ||| (a &&& c)) ||| (b &&& c) = maj a b c := by
  unfold maj
  apply Nat.eq_of_testBit_eq
  intro i
  simp only [Nat.testBit_or, Nat.testBit_xor, Nat.testBit_and]
  cases a.testBit i <;> cases b.testBit i <;> cases c.testBit i <;> rfl
theorem nextW_sum (w : List Nat) (i : Nat) : (((w.getD (i - 16) 0 + sg0 (w.getD (i - 15) 0)) % 4294967296 + w.getD (i - 7) 0) % 4294967296 + sg1 (w.getD (i - 2) 0)) % 4294967296 = nextW w i := by
  unfold nextW; omega
theorem quo32 {x c : Nat} (hx : x < 4294967296) (hc : 0 < c) : IntKind.u32.wrap ((x : Int).tdiv (c : Int)) = ((x / c : Nat) : Int) := by
  have h1 : x / c ≤ x := Nat.div_le_self _ _
  have e : (x : Int).tdiv (c : Int) = ((x / c : Nat) : Int) := by rw [Int.tdiv_eq_ediv_of_nonneg (by omega)]; exact (Int.natCast_ediv x c).symm
  rw [e]
  obtain ⟨q, hq⟩ : ∃ q, q = x / c := ⟨_, rfl⟩
  rw [← hq] at h1 ⊢
  rw [IntKind.wrap_u32']; omega
theorem rem32 {x c : Nat} : (x : Int).tmod (c : Int) = ((x % c : Nat) : Int) := by rw [Int.tmod_eq_emod_of_nonneg (by omega)]; omega
set_option maxRecDepth 100000 in
theorem made8 : (madeCells (Value.int .u32 0).cells (8 * 1)).toList = List.replicate 8 (cu 0) := by kernel_rfl
set_option maxRecDepth 100000 in
theorem s_mk8 {E : Env} {d : Option Nat} {ty : TypeId} {p : String} {af : Array Edge} {gd : Option (Nat × Bool)} {l c : Operand} {kw : Value → World → Prop} {w W : World} {gs : List (Option Nat)} {L : Lc} {R : List Row} {fs : List Fact} (M : St w gs W L R fs) (hl : val E l = .int .i64 ((8 : Nat) : Int)) (hc : val E c = .int .i64 ((8 : Nat) : Int))
    (h : ∀ g W', St w gs W' ((g, 104, List.replicate 8 (cu 0)) :: L) R fs → kw (.slice (some ⟨g, 0, none⟩) 8 8) W') :
    VVal Tryd.prog E { dst := d, op := .makeSlice 105 l c, type := ty, pos := p, after := af, guard := gd } W kw := by
  obtain ⟨i, hi0, hz0, hz1, hz2⟩ := info_parts winfo
  obtain ⟨w', hrun, hrow, hg⟩ := run_make_full (P := Tryd.prog) (w := W) W.heap.size 105 104 i _ 1 Tryd.underlying105 hi0 hz0 hz1 .i64 .i64 8 (by rw [hz2]; decide) (by unfold maxLen; decide) (Nat.le_refl _)
  have hB : Blk w' W.heap.size 104 (List.replicate 8 (cu 0)) := by
    rcases hrow.2 with ⟨_, h0⟩ | ⟨g', cap, cur, hv, hbg, hh, hnc, _, hcs, htk⟩
    · exact absurd h0 (by decide)
    · injection hv with hA _ hc'
      injection hA with hA
      injection hA with hA
      subst hA; subst hc'
      have e : cur.toList = List.replicate 8 (cu 0) := by
        rw [← made8, ← htk]
        refine (List.take_of_length_le ?_).symm
        simp at hcs ⊢
        omega
      rw [← e]
      unfold Blk
      rw [hh]
  refine vv (v := .slice (some ⟨W.heap.size, 0, none⟩) 8 8) (w' := w') ?_ (h _ _ (M.newB rfl hB ⟨hg.os, hg.tape, hg.output, hg.size, fun b hb => hg.block b hb (by simp)⟩))
  have hrun' : (Instr.makeSlice 105 (.int .i64 (8 : Int)) (.int .i64 (8 : Int))).run Tryd.prog W = _ := hrun
  simp [execOp, hl, hc, hrun']
theorem words_len (b : List UInt8) : (words b).length = 64 := by unfold words; exact wsF_len b 64
theorem words_lt (b : List UInt8) : ∀ x ∈ words b, x < 4294967296 := by unfold words; exact wsF_lt b 64
theorem part8_set {xs : List Value} {z : Value} {i : Nat} {x : Value} (hx : xs[i]? = some x) (hl : xs.length = 8) (hi : i < 8) : (xs.take i ++ List.replicate (8 - i) z).set i x = xs.take (i + 1) ++ List.replicate (8 - (i + 1)) z := by
  have h1 := List.getElem?_eq_some_iff.1 hx
  rw [List.set_append_right _ _ (by rw [List.length_take]; omega), List.length_take, Nat.min_eq_left (by omega), Nat.sub_self, show 8 - i = (8 - (i + 1)) + 1 by omega, List.replicate_succ, List.set_cons_zero, List.take_succ_eq_append_getElem h1.1, h1.2, List.append_assoc]
  rfl
def shl8 (l : List Value) (j : Nat) : List Value := l.take (j + 1) ++ (l.drop j).take (7 - j)
theorem shl8_set (x0 x1 x2 x3 x4 x5 x6 x7 : Value) : ∀ j, 1 ≤ j → j ≤ 7 → ∃ y, (shl8 [x0, x1, x2, x3, x4, x5, x6, x7] j)[j - 1]? = some y ∧ (shl8 [x0, x1, x2, x3, x4, x5, x6, x7] j).set j y = shl8 [x0, x1, x2, x3, x4, x5, x6, x7] (j - 1) ∧ (y = x0 ∨ y = x1 ∨ y = x2 ∨ y = x3 ∨ y = x4 ∨ y = x5 ∨ y = x6)
  | 1, _, _ => ⟨_, rfl, rfl, by simp⟩
  | 2, _, _ => ⟨_, rfl, rfl, by simp⟩
  | 3, _, _ => ⟨_, rfl, rfl, by simp⟩
  | 4, _, _ => ⟨_, rfl, rfl, by simp⟩
  | 5, _, _ => ⟨_, rfl, rfl, by simp⟩
  | 6, _, _ => ⟨_, rfl, rfl, by simp⟩
  | 7, _, _ => ⟨_, rfl, rfl, by simp⟩
  | 0, h, _ => by omega
  | j + 8, _, h => by omega
theorem shl8_len {l : List Value} (h : l.length = 8) {j : Nat} (hj : j ≤ 7) : (shl8 l j).length = 8 := by unfold shl8; rw [List.length_append, List.length_take, List.length_take, List.length_drop]; omega
theorem mix8_set {xs ys : List Value} {i : Nat} {x : Value} (hx : xs[i]? = some x) (hl : xs.length = 8) (hy : ys.length = 8) (hi : i < 8) : (xs.take i ++ ys.drop i).set i x = xs.take (i + 1) ++ ys.drop (i + 1) := by
  have h1 := List.getElem?_eq_some_iff.1 hx
  rw [List.set_append_right _ _ (by rw [List.length_take]; omega), List.length_take, Nat.min_eq_left (by omega), Nat.sub_self, List.drop_eq_getElem_cons (show i < ys.length by omega), List.set_cons_zero, List.take_succ_eq_append_getElem h1.1, h1.2, List.append_assoc]
  rfl
theorem tt1_ref (v : H8) (k w : Nat) : ((((v.h + ((rotr v.e 6 ^^^ rotr v.e 11) ^^^ rotr v.e 25)) % 4294967296 + ((v.e &&& v.f) ^^^ ((v.e ^^^ 4294967295) &&& v.g))) % 4294967296 + k) % 4294967296 + w) % 4294967296 = tt1 v k w := by
  unfold tt1 bs1 chs; rw [Nat.xor_comm 4294967295 v.e]
theorem tt2_ref (v : H8) : (((rotr v.a 2 ^^^ rotr v.a 13) ^^^ rotr v.a 22) + maj v.a v.b v.c) % 4294967296 = tt2 v := rfl
theorem byt_mid {b : List UInt8} {i : Nat} (hb : 4 * i + 4 ≤ b.length) : wordB ((b.drop (4 * i)).take 4) 0 = wordB b i := by
  rw [wordB_add, wordB_add]
  have e : ∀ k, k < 4 → byt ((b.drop (4 * i)).take 4) k = byt b (4 * i + k) := fun k hk => by
    unfold byt
    rw [List.getD_eq_getElem?_getD, List.getD_eq_getElem?_getD, List.getElem?_take, if_pos hk, List.getElem?_drop]
  rw [Nat.mul_zero, e 0 (by omega), e 1 (by omega), e 2 (by omega), e 3 (by omega)]; rfl
set_option maxRecDepth 100000 in
set_option maxHeartbeats 2000000 in
theorem r5round_any (h : H8) (hok : h.Ok) (b : List UInt8) (gs : List (Option Nat)) (w : World) (A0 A1 A2 : Option Addr) (c0 c1 c2 : Nat) (h0 : RdD w (Fd w gs) (dW (h8l h)) (.slice A0 8 c0)) (h1 : RdD w (Fd w gs) (dB b) (.slice A1 64 c1)) (h2 : RdD w (Fd w gs) (dW roots) (.slice A2 64 c2)) (hgs : ∀ b, some b ∈ gs → b < w.heap.size) :
    Calls Tryd.prog 58 #[.slice A0 8 c0, .slice A1 64 c1, .slice A2 64 c2] w fun e w' => ∃ A' c', e = .returned (.slice A' 8 c') ∧ RdD w' (Fr w w') (dW (h8l (take8 h b))) (.slice A' 8 c') ∧ Below w.heap.size w w' := by
  refine calls_ev (args := [.slice A0 8 c0, .slice A1 64 c1, .slice A2 64 c2]) mixed Tryd.func58 rfl (by kernel_rfl) ?_
  have hbl := h1.slen
  obtain ⟨b0, o0, rfl, F0, hc0⟩ := dW_open h0 (by decide)
  obtain ⟨b2, o2, rfl, F2, hc2⟩ := dW_open h2 (by decide)
  have hcb := h1.scap
  have M := (((St.start hgs).addD h1).addC (a := ⟨b2, o2, none⟩) F2 hc2).addC (a := ⟨b0, o0, none⟩) F0 hc0
  clear h0 h1 h2 F0 F2 hc0 hc2
  -- the words
  refine ev_assoc (ev_assoc (ev_assoc ?_))
  refine cutS (Option Addr × Nat × List Value) (fun s W => St w gs W [] [⟨104, 1, s.1, 64, s.2.1, (words b).map cu⟩] [.loc ⟨b0, o0, none⟩ ((h8l h).map cu), .loc ⟨b2, o2, none⟩ (roots.map cu)]) (fun s => [(0, .slice (some ⟨b0, o0, none⟩) 8 c0), (2, .slice (some ⟨b2, o2, none⟩) 64 c2), (7, .slice s.1 64 s.2.1)]) ?_ ?_
  · replace M := M.nilR 104 1
    refine cutS (Option Addr × Nat × List Value) (fun s W => St w gs W [] [⟨104, 1, s.1, 16, s.2.1, (wsF b 16).map cu⟩] [.loc ⟨b0, o0, none⟩ ((h8l h).map cu), .loc ⟨b2, o2, none⟩ (roots.map cu)]) (fun s => [(0, .slice (some ⟨b0, o0, none⟩) 8 c0), (2, .slice (some ⟨b2, o2, none⟩) 64 c2), (7, .slice s.1 16 s.2.1)]) ?_ ?_
    · refine lp (Nat × Option Addr × Nat) (fun s W => s.1 ≤ 16 ∧ St w gs W [] [⟨104, 1, s.2.1, s.1, s.2.2, (wsF b s.1).map cu⟩] [.loc ⟨b0, o0, none⟩ ((h8l h).map cu), .loc ⟨b2, o2, none⟩ (roots.map cu), .dat false [dB b] [.slice A1 64 c1]]) (fun s => [(0, .slice (some ⟨b0, o0, none⟩) 8 c0), (1, .slice A1 64 c1), (2, .slice (some ⟨b2, o2, none⟩) 64 c2), (7, .slice s.2.1 s.1 s.2.2), (8, .int .i64 s.1)]) (fun s => 16 - s.1) (0, none, 0) ⟨Nat.zero_le _, M.fsub _ (by simp)⟩ (by repeat (first | exact trivial | refine ⟨rfl, ?_⟩)) ?_
      clear M
      rintro ⟨i, A, c⟩ E5 W5 ⟨hi, M⟩
      dsimp only at hi M
      refine p_lt rfl rfl (fun hlt => ?_) (fun hge => ?_)
      · dsimp only at hlt
        refine p_mul rfl rfl (r := ((4 * i : Nat) : Int)) ((w64 (by omega)).trans (by omega)) ?_
        refine p_mul rfl rfl (r := ((4 * i : Nat) : Int)) ((w64 (by omega)).trans (by omega)) ?_
        refine p_addN (b := 4) rfl rfl (by omega) ?_
        refine p_slice (i := 4 * i) (j := 4 * i + 4) (m := c1) slb rfl (bnd_i rfl) (bnd_i rfl) rfl rfl (by omega) (by omega) (Nat.le_refl _) ?_
        have hrd := (M.rdb 2 rfl).2.2.sl (i := 4 * i) (j := 4) (m := c1) (by omega) (by omega)
        rw [show 4 * i + 4 - 4 * i = 4 by omega]
        refine cc is_r5word (r5word_any _ _ _ _ _ hrd) ?_
        rintro e W ⟨rfl, hbel⟩
        replace M := M.call hbel
        refine ⟨_, rfl, ?_⟩
        rw [byt_mid (by omega)]
        refine s_bsliceB [cu (wordB b i)] M slw zw rfl (by decide) rfl ?_
        clear M; rintro g9 W M
        refine s_app M Tryd.underlying105 winfo rfl (by decide) rfl rfl (Reads.blk (M.B 0 rfl) rfl) (all1 rfl) ⟨by omega, by decide⟩ ?_
        clear M; rintro A5 c5 W M -
        have e : (wsF b i).map cu ++ [cu (wordB b i)] = (wsF b (i + 1)).map cu := by
          conv => rhs; unfold wsF
          rw [if_pos (by omega), List.map_append]; rfl
        rw [e] at M
        refine p_addN (b := 1) rfl rfl (by omega) ?_
        exact ⟨(i + 1, A5, c5), ⟨by dsimp only; omega, M.dropL⟩, (by repeat (first | exact trivial | refine ⟨rfl, ?_⟩)), by dsimp only; omega⟩
      · dsimp only at hge
        have : i = 16 := by omega
        subst this
        exact ⟨(A, c, []), M.fsub _ (by simp), (by repeat (first | exact trivial | refine ⟨rfl, ?_⟩))⟩
    · clear M
      rintro ⟨A, c, x0⟩ B5 W5 M
      dsimp only at M
      refine lp (Nat × Option Addr × Nat) (fun s W => 16 ≤ s.1 ∧ s.1 ≤ 64 ∧ St w gs W [] [⟨104, 1, s.2.1, s.1, s.2.2, (wsF b s.1).map cu⟩] [.loc ⟨b0, o0, none⟩ ((h8l h).map cu), .loc ⟨b2, o2, none⟩ (roots.map cu)]) (fun s => [(0, .slice (some ⟨b0, o0, none⟩) 8 c0), (2, .slice (some ⟨b2, o2, none⟩) 64 c2), (7, .slice s.2.1 s.1 s.2.2), (9, .int .i64 s.1)]) (fun s => 64 - s.1) (16, A, c) ⟨Nat.le_refl _, (show 16 ≤ 64 by decide), M⟩ (by repeat (first | exact trivial | refine ⟨rfl, ?_⟩)) ?_
      clear M
      rintro ⟨i, A, c⟩ E6 W6 ⟨hi1, hi, M⟩
      dsimp only at hi1 hi M
      refine p_lt rfl rfl (fun hlt => ?_) (fun hge => ?_)
      · dsimp only at hlt
        have hwl := wsF_len b i
        have hrow := M.row _ (List.mem_cons_self ..)
        obtain ⟨bw, ow, rfl, -, -⟩ := (Reads.of_own hrow).2 (show 0 < i by omega)
        have hcw := row_cells hrow _ rfl
        clear hrow
        have hx := getD_lt (wsF_lt b i) (i - 15)
        have hy := getD_lt (wsF_lt b i) (i - 2)
        have hu := getD_lt (wsF_lt b i) (i - 16)
        have hv := getD_lt (wsF_lt b i) (i - 7)
        refine p_subN (b := 15) rfl rfl (by omega) (by omega) ?_
        refine p_at slw rfl rfl rfl (by omega) ?_
        refine v_load agg_u32 rfl (hcw _ _ (cu_at (j := i - 15) (by omega))) ?_
        refine p_subN (b := 2) rfl rfl (by omega) (by omega) ?_
        refine p_at slw rfl rfl rfl (by omega) ?_
        refine v_load agg_u32 rfl (hcw _ _ (cu_at (j := i - 2) (by omega))) ?_
        refine cc is_r5right (r5right_any _ 7 _ hx (by decide) (by decide)) ?_
        rintro e W' ⟨rfl, rfl⟩
        refine ⟨_, rfl, ?_⟩
        refine cc is_r5right (r5right_any _ 18 _ hx (by decide) (by decide)) ?_
        rintro e W' ⟨rfl, rfl⟩
        refine ⟨_, rfl, ?_⟩
        refine p_xor rfl rfl (u32_xor_nat _ _ (rotr_lt _ hx) (rotr_lt _ hx)) ?_
        refine p_quo rfl rfl (by decide) (quo32 (c := 8) hx (by decide)) ?_
        refine p_xor rfl rfl (u32_xor_nat _ _ (xor_lt (rotr_lt _ hx) (rotr_lt _ hx)) (Nat.lt_of_le_of_lt (Nat.div_le_self _ _) hx)) ?_
        refine cc is_r5right (r5right_any _ 17 _ hy (by decide) (by decide)) ?_
        rintro e W' ⟨rfl, rfl⟩
        refine ⟨_, rfl, ?_⟩
        refine cc is_r5right (r5right_any _ 19 _ hy (by decide) (by decide)) ?_
        rintro e W' ⟨rfl, rfl⟩
        refine ⟨_, rfl, ?_⟩
        refine p_xor rfl rfl (u32_xor_nat _ _ (rotr_lt _ hy) (rotr_lt _ hy)) ?_
        refine p_quo rfl rfl (by decide) (quo32 (c := 1024) hy (by decide)) ?_
        refine p_xor rfl rfl (u32_xor_nat _ _ (xor_lt (rotr_lt _ hy) (rotr_lt _ hy)) (Nat.lt_of_le_of_lt (Nat.div_le_self _ _) hy)) ?_
        have es0 : sg0 ((wsF b i).getD (i - 15) 0) = (rotr ((wsF b i).getD (i - 15) 0) 7 ^^^ rotr ((wsF b i).getD (i - 15) 0) 18) ^^^ ((wsF b i).getD (i - 15) 0) / 8 := by unfold sg0; rw [Nat.shiftRight_eq_div_pow]
        have es1 : sg1 ((wsF b i).getD (i - 2) 0) = (rotr ((wsF b i).getD (i - 2) 0) 17 ^^^ rotr ((wsF b i).getD (i - 2) 0) 19) ^^^ ((wsF b i).getD (i - 2) 0) / 1024 := by unfold sg1; rw [Nat.shiftRight_eq_div_pow]
        have hnx := nextW_sum (wsF b i) i
        rw [← es0, ← es1]
        obtain ⟨s0, hs0⟩ : ∃ s0, s0 = sg0 ((wsF b i).getD (i - 15) 0) := ⟨_, rfl⟩
        obtain ⟨s1, hs1⟩ : ∃ s1, s1 = sg1 ((wsF b i).getD (i - 2) 0) := ⟨_, rfl⟩
        rw [← hs0, ← hs1] at hnx ⊢
        clear es0 es1
        replace M := M.drew
        refine drT (fun W => ∀ j u, ((wsF b i).map cu)[j]? = some u → W.cell? ((⟨bw, ow, none⟩ : Addr).add j) = some u) (.take 0 (.take 1 (.take 2 (.take 3 (.take 4 (.take 5 (.take 6 (.take 7 (.take 8 (.take 9 (.take 10 (.take 11 (.take 12 (.take 13 (.take 14 (.take 15 (.one 16 (.one 17 (.take 18 (.nil)))))))))))))))))))) (by kernel_rfl) hcw ?_
        refine p_subN (b := 16) rfl rfl (by omega) (by omega) ?_
        refine p_at slw rfl rfl rfl (by omega) ?_
        refine t_load agg_u32 rfl (fun W h => h _ _ (cu_at (j := i - 16) (by omega))) ?_
        refine p_add rfl rfl (add32 _ s0) ?_
        refine p_subN (b := 7) rfl rfl (by omega) (by omega) ?_
        refine p_at slw rfl rfl rfl (by omega) ?_
        refine t_load agg_u32 rfl (fun W h => h _ _ (cu_at (j := i - 7) (by omega))) ?_
        refine p_add rfl rfl (add32 _ _) ?_
        refine p_add rfl rfl (add32 _ s1) ?_
        rw [hnx]
        refine s_bsliceB [cu (nextW (wsF b i) i)] M slw zw rfl (by decide) rfl ?_
        clear M; rintro g9 W M
        have hcw2 := row_cells (M.row _ (List.mem_cons_self ..)) _ rfl
        refine ⟨hcw2, ?_⟩
        refine s_appK M Tryd.underlying105 winfo rfl (by decide) rfl rfl (Reads.blk (M.B 0 rfl) rfl) (by decide) (all1 rfl) ⟨by omega, by decide⟩ ?_
        clear M; rintro A5 c5 W M hkeep
        refine ⟨hkeep _ rfl, ?_⟩
        have e : (wsF b i).map cu ++ [cu (nextW (wsF b i) i)] = (wsF b (i + 1)).map cu := by
          conv => rhs; unfold wsF
          rw [if_neg (by omega), List.map_append]; rfl
        rw [e] at M
        refine p_addN (b := 1) rfl rfl (by omega) ?_
        exact ⟨(i + 1, A5, c5), ⟨by dsimp only; omega, by dsimp only; omega, M.dropL⟩, (by repeat (first | exact trivial | refine ⟨rfl, ?_⟩)), by dsimp only; omega⟩
      · dsimp only at hge
        have : i = 64 := by omega
        subst this
        exact ⟨(A, c, []), M, (by repeat (first | exact trivial | refine ⟨rfl, ?_⟩))⟩
  · clear M
    rintro ⟨A, c, x0⟩ B5 W5 M
    dsimp only at M
    have hwl := words_len b
    have hwlt := words_lt b
    have htk : take8 h b = add8 h (rndF roots (words b) h 64) := rfl
    rw [htk]
    obtain ⟨ws, hws⟩ : ∃ ws, ws = words b := ⟨_, rfl⟩
    rw [← hws] at M hwl hwlt ⊢
    clear hws htk
    have hW := RdL.ofvals (W := W5) (F := Ft w W5 (own [] [⟨104, 1, A, 64, c, ws.map cu⟩] gs) true) (ws.map cu)
    replace M := M.frzR (fr := true) hW
    clear hW
    have hdw : dW ws = D.sl 1 64 ((ws.map cu).map D.v) := by unfold dW; rw [hwl]
    dsimp only at M
    rw [← hdw] at M
    have hW := M.d1 0 rfl
    obtain ⟨bw, ow, rfl, Fw, hcw⟩ := dW_open hW (by decide)
    replace M := (M.addC (a := ⟨bw, ow, none⟩) Fw hcw).fsub [.loc ⟨bw, ow, none⟩ (ws.map cu), .loc ⟨b0, o0, none⟩ ((h8l h).map cu), .loc ⟨b2, o2, none⟩ (roots.map cu)] (by intro f hf; simp only [List.mem_cons, List.not_mem_nil, or_false] at hf ⊢; rcases hf with h | h | h <;> simp only [h, true_or, or_true])
    clear hW Fw hcw
    refine ev_assoc ?_
    refine cutS Nat (fun gv W => St w gs W [(gv, 104, hc h)] [] [.loc ⟨bw, ow, none⟩ (ws.map cu), .loc ⟨b0, o0, none⟩ ((h8l h).map cu), .loc ⟨b2, o2, none⟩ (roots.map cu)]) (fun gv => [(0, .slice (some ⟨b0, o0, none⟩) 8 c0), (2, .slice (some ⟨b2, o2, none⟩) 64 c2), (7, .slice (some ⟨bw, ow, none⟩) 64 c), (14, .slice (some ⟨gv, 0, none⟩) 8 8)]) ?_ ?_
    · refine s_mk8 M rfl rfl ?_
      clear M; rintro gv W M
      refine lp Nat (fun i W => i ≤ 8 ∧ St w gs W [(gv, 104, (hc h).take i ++ List.replicate (8 - i) (cu 0))] [] [.loc ⟨bw, ow, none⟩ (ws.map cu), .loc ⟨b0, o0, none⟩ ((h8l h).map cu), .loc ⟨b2, o2, none⟩ (roots.map cu)]) (fun i => [(0, .slice (some ⟨b0, o0, none⟩) 8 c0), (2, .slice (some ⟨b2, o2, none⟩) 64 c2), (7, .slice (some ⟨bw, ow, none⟩) 64 c), (14, .slice (some ⟨gv, 0, none⟩) 8 8), (15, .int .i64 i)]) (fun i => 8 - i) 0 ⟨Nat.zero_le _, M⟩ (by repeat (first | exact trivial | refine ⟨rfl, ?_⟩)) ?_
      clear M
      rintro i E6 W6 ⟨hi, M⟩
      refine p_lt rfl rfl (fun hlt => ?_) (fun hge => ?_)
      · have hi8 : i < 8 := by omega
        obtain ⟨y, hy⟩ : ∃ y, (hc h)[i]? = some y := ⟨_, List.getElem?_eq_getElem (by exact hi8)⟩
        have hy1 : y.oneCell' = true := by
          have := List.mem_of_getElem? hy
          simp only [hc, List.mem_cons, List.not_mem_nil, or_false] at this
          rcases this with h | h | h | h | h | h | h | h <;> rw [h] <;> rfl
        refine p_at slw rfl rfl rfl hi8 ?_
        refine v_load agg_u32 rfl (M.lc 1 rfl (i * 1) y (by rw [Nat.mul_one]; exact hy)) ?_
        refine p_atM (i := i) (q := i) slw rfl rfl rfl hi8 (by omega) ?_
        refine s_set 0 (off := i) y _ M rfl sz_u32 rfl rfl hy1 (by rw [List.length_append, List.length_take, List.length_replicate]; show i < min i 8 + (8 - i); omega) (part8_set hy rfl hi8) ?_
        clear M; rintro W M
        dsimp only [setL] at M
        refine p_addN (b := 1) rfl rfl (by omega) ?_
        exact ⟨i + 1, ⟨by omega, M⟩, (by repeat (first | exact trivial | refine ⟨rfl, ?_⟩)), by omega⟩
      · have : i = 8 := by omega
        subst this
        exact ⟨gv, M, (by repeat (first | exact trivial | refine ⟨rfl, ?_⟩))⟩
    · clear M
      rintro gv B6 W6 M
      refine cutS Unit (fun _ W => St w gs W [(gv, 104, hc (rndF roots ws h 64))] [] [.loc ⟨bw, ow, none⟩ (ws.map cu), .loc ⟨b0, o0, none⟩ ((h8l h).map cu), .loc ⟨b2, o2, none⟩ (roots.map cu)]) (fun _ => [(0, .slice (some ⟨b0, o0, none⟩) 8 c0), (14, .slice (some ⟨gv, 0, none⟩) 8 8)]) ?_ ?_
      · refine lp Nat (fun i W => i ≤ 64 ∧ St w gs W [(gv, 104, hc (rndF roots ws h i))] [] [.loc ⟨bw, ow, none⟩ (ws.map cu), .loc ⟨b0, o0, none⟩ ((h8l h).map cu), .loc ⟨b2, o2, none⟩ (roots.map cu)]) (fun i => [(0, .slice (some ⟨b0, o0, none⟩) 8 c0), (2, .slice (some ⟨b2, o2, none⟩) 64 c2), (7, .slice (some ⟨bw, ow, none⟩) 64 c), (14, .slice (some ⟨gv, 0, none⟩) 8 8), (16, .int .i64 i)]) (fun i => 64 - i) 0 ⟨Nat.zero_le _, M⟩ (by repeat (first | exact trivial | refine ⟨rfl, ?_⟩)) ?_
        clear M
        rintro i E7 W7 ⟨hi, M⟩
        refine p_lt rfl rfl (fun hlt => ?_) (fun hge => ?_)
        · have hi64 : i < 64 := by omega
          have hrn : rndF roots ws h (i + 1) = rnd (rndF roots ws h i) (roots.getD i 0) (ws.getD i 0) := rfl
          have hv := rndF_ok roots ws hok i
          obtain ⟨v, hvv⟩ : ∃ v, v = rndF roots ws h i := ⟨_, rfl⟩
          rw [← hvv] at M hv hrn
          clear hvv
          obtain ⟨kk, hkk⟩ : ∃ kk, kk = roots.getD i 0 := ⟨_, rfl⟩
          obtain ⟨wk, hwk⟩ : ∃ wk, wk = ws.getD i 0 := ⟨_, rfl⟩
          have hck : (roots.map cu)[i * 1]? = some (.int .u32 (kk : Nat)) := by rw [hkk]; exact cu_at (show i < 64 from hi64)
          have hcw : (ws.map cu)[i * 1]? = some (.int .u32 (wk : Nat)) := by rw [hwk]; exact cu_at (by omega)
          rw [← hkk, ← hwk] at hrn
          clear hkk hwk
          replace M := M.drew
          refine drT (Kp w gs [(gv, 104, hc v)] []) (.take 0 (.take 1 (.take 2 (.take 3 (.take 4 (.take 5 (.take 6 (.take 7 (.take 8 (.take 9 (.take 10 (.take 11 (.take 12 (.take 13 (.take 14 (.take 15 (.take 16 (.nil)))))))))))))))))) (by kernel_rfl) (M.kp (by simp) (by simp)) ?_
          refine p_at (i := 4) slw rfl rfl rfl (by decide) ?_
          refine t_load agg_u32 rfl (fun W K => (K.B 0 rfl).at_ rfl) ?_
          refine p_at (i := 5) slw rfl rfl rfl (by decide) ?_
          refine t_load agg_u32 rfl (fun W K => (K.B 0 rfl).at_ rfl) ?_
          refine p_and rfl rfl (u32_and_nat _ _ hv.e hv.f) ?_
          refine p_at (i := 4) slw rfl rfl rfl (by decide) ?_
          refine t_load agg_u32 rfl (fun W K => (K.B 0 rfl).at_ rfl) ?_
          refine p_xor rfl rfl (u32_xor_nat _ 4294967295 hv.e (by decide)) ?_
          refine p_at (i := 6) slw rfl rfl rfl (by decide) ?_
          refine t_load agg_u32 rfl (fun W K => (K.B 0 rfl).at_ rfl) ?_
          refine p_and rfl rfl (u32_and_nat _ _ (xor_lt hv.e (by decide)) hv.g) ?_
          refine p_xor rfl rfl (u32_xor_nat _ _ (and_lt hv.e) (and_lt (xor_lt hv.e (by decide)))) ?_
          replace M := M.drew
          refine drT (Kp w gs [(gv, 104, hc v)] []) (.take 0 (.take 1 (.take 2 (.take 3 (.take 4 (.take 5 (.take 6 (.take 7 (.take 8 (.take 9 (.take 10 (.take 11 (.take 12 (.take 13 (.take 14 (.take 15 (.take 16 (.take 17 (.take 18 (.take 19 (.take 20 (.take 21 (.take 22 (.take 23 (.nil))))))))))))))))))))))))) (by kernel_rfl) (M.kp (by simp) (by simp)) ?_
          refine p_at (i := 0) slw rfl rfl rfl (by decide) ?_
          refine t_load agg_u32 rfl (fun W K => (K.B 0 rfl).at_ rfl) ?_
          refine p_at (i := 1) slw rfl rfl rfl (by decide) ?_
          refine t_load agg_u32 rfl (fun W K => (K.B 0 rfl).at_ rfl) ?_
          refine p_and rfl rfl (u32_and_nat _ _ hv.a hv.b) ?_
          refine p_at (i := 0) slw rfl rfl rfl (by decide) ?_
          refine t_load agg_u32 rfl (fun W K => (K.B 0 rfl).at_ rfl) ?_
          refine p_at (i := 2) slw rfl rfl rfl (by decide) ?_
          refine t_load agg_u32 rfl (fun W K => (K.B 0 rfl).at_ rfl) ?_
          refine p_and rfl rfl (u32_and_nat _ _ hv.a hv.c) ?_
          refine p_or rfl rfl (u32_or_nat _ _ (and_lt hv.a) (and_lt hv.a)) ?_
          refine p_at (i := 1) slw rfl rfl rfl (by decide) ?_
          refine t_load agg_u32 rfl (fun W K => (K.B 0 rfl).at_ rfl) ?_
          refine p_at (i := 2) slw rfl rfl rfl (by decide) ?_
          refine t_load agg_u32 rfl (fun W K => (K.B 0 rfl).at_ rfl) ?_
          refine p_and rfl rfl (u32_and_nat _ _ hv.b hv.c) ?_
          refine p_or rfl rfl (u32_or_nat _ _ (or_lt (and_lt hv.a) (and_lt hv.a)) (and_lt hv.b)) ?_
          rw [maj_or]
          replace M := M.drew
          refine drT (Kp w gs [(gv, 104, hc v)] [.loc ⟨b2, o2, none⟩ (roots.map cu), .loc ⟨bw, ow, none⟩ (ws.map cu)]) (.take 0 (.take 1 (.take 2 (.take 3 (.take 4 (.take 5 (.take 7 (.take 8 (.take 9 (.take 12 (.take 13 (.take 14 (.take 18 (.take 20 (.take 21 (.take 22 (.take 23 (.take 25 (.take 26 (.take 27 (.take 28 (.one 6 (.one 10 (.take 11 (.one 15 (.take 16 (.take 17 (.take 19 (.take 24 (.take 29 (.take 30 (.nil)))))))))))))))))))))))))))))))) (by kernel_rfl) (M.kp (by simp) (by simp)) ?_
          refine p_at (i := 7) slw rfl rfl rfl (by decide) ?_
          refine t_load agg_u32 rfl (fun W K => (K.B 0 rfl).at_ rfl) ?_
          refine p_at (i := 4) slw rfl rfl rfl (by decide) ?_
          refine t_load agg_u32 rfl (fun W K => (K.B 0 rfl).at_ rfl) ?_
          refine p_at (i := 4) slw rfl rfl rfl (by decide) ?_
          refine t_load agg_u32 rfl (fun W K => (K.B 0 rfl).at_ rfl) ?_
          refine p_at (i := 4) slw rfl rfl rfl (by decide) ?_
          refine t_load agg_u32 rfl (fun W K => (K.B 0 rfl).at_ rfl) ?_
          refine p_at slw rfl rfl rfl hi64 ?_
          refine t_load agg_u32 rfl (fun W K => K.lc 0 rfl (i * 1) _ hck) ?_
          refine p_at slw rfl rfl rfl hi64 ?_
          refine t_load agg_u32 rfl (fun W K => K.lc 1 rfl (i * 1) _ hcw) ?_
          refine cc is_r5right (r5right_any _ 6 _ hv.e (by decide) (by decide)) ?_
          rintro e W' ⟨rfl, rfl⟩
          refine ⟨_, rfl, (M.kp (by simp) (by simp)), ?_⟩
          refine cc is_r5right (r5right_any _ 11 _ hv.e (by decide) (by decide)) ?_
          rintro e W' ⟨rfl, rfl⟩
          refine ⟨_, rfl, (M.kp (by simp) (by simp)), ?_⟩
          refine p_xor rfl rfl (u32_xor_nat _ _ (rotr_lt _ hv.e) (rotr_lt _ hv.e)) ?_
          refine cc is_r5right (r5right_any _ 25 _ hv.e (by decide) (by decide)) ?_
          rintro e W' ⟨rfl, rfl⟩
          refine ⟨_, rfl, (M.kp (by simp) (by simp)), ?_⟩
          refine p_xor rfl rfl (u32_xor_nat _ _ (xor_lt (rotr_lt _ hv.e) (rotr_lt _ hv.e)) (rotr_lt _ hv.e)) ?_
          refine p_add rfl rfl (add32 _ _) ?_
          refine p_add rfl rfl (add32 _ _) ?_
          refine p_add rfl rfl (add32 _ kk) ?_
          refine p_add rfl rfl (add32 _ wk) ?_
          rw [tt1_ref]
          obtain ⟨one, hone⟩ : ∃ one, one = tt1 v kk wk := ⟨_, rfl⟩
          rw [← hone]
          replace M := M.drew
          refine drT (Kp w gs [(gv, 104, hc v)] []) (.take 0 (.take 1 (.take 2 (.take 4 (.take 5 (.take 6 (.take 9 (.take 10 (.take 11 (.take 14 (.one 3 (.one 7 (.take 8 (.one 12 (.take 13 (.take 15 (.take 16 (.nil)))))))))))))))))) (by kernel_rfl) (M.kp (by simp) (by simp)) ?_
          refine p_at (i := 0) slw rfl rfl rfl (by decide) ?_
          refine t_load agg_u32 rfl (fun W K => (K.B 0 rfl).at_ rfl) ?_
          refine p_at (i := 0) slw rfl rfl rfl (by decide) ?_
          refine t_load agg_u32 rfl (fun W K => (K.B 0 rfl).at_ rfl) ?_
          refine p_at (i := 0) slw rfl rfl rfl (by decide) ?_
          refine t_load agg_u32 rfl (fun W K => (K.B 0 rfl).at_ rfl) ?_
          refine cc is_r5right (r5right_any _ 2 _ hv.a (by decide) (by decide)) ?_
          rintro e W' ⟨rfl, rfl⟩
          refine ⟨_, rfl, (M.kp (by simp) (by simp)), ?_⟩
          refine cc is_r5right (r5right_any _ 13 _ hv.a (by decide) (by decide)) ?_
          rintro e W' ⟨rfl, rfl⟩
          refine ⟨_, rfl, (M.kp (by simp) (by simp)), ?_⟩
          refine p_xor rfl rfl (u32_xor_nat _ _ (rotr_lt _ hv.a) (rotr_lt _ hv.a)) ?_
          refine cc is_r5right (r5right_any _ 22 _ hv.a (by decide) (by decide)) ?_
          rintro e W' ⟨rfl, rfl⟩
          refine ⟨_, rfl, (M.kp (by simp) (by simp)), ?_⟩
          refine p_xor rfl rfl (u32_xor_nat _ _ (xor_lt (rotr_lt _ hv.a) (rotr_lt _ hv.a)) (rotr_lt _ hv.a)) ?_
          refine p_add rfl rfl (add32 _ _) ?_
          rw [tt2_ref]
          obtain ⟨two, htwo⟩ : ∃ two, two = tt2 v := ⟨_, rfl⟩
          rw [← htwo]
          refine cutS Unit (fun _ W => St w gs W [(gv, 104, shl8 (hc v) 0)] [] [.loc ⟨bw, ow, none⟩ (ws.map cu), .loc ⟨b0, o0, none⟩ ((h8l h).map cu), .loc ⟨b2, o2, none⟩ (roots.map cu)]) (fun _ => [(0, .slice (some ⟨b0, o0, none⟩) 8 c0), (2, .slice (some ⟨b2, o2, none⟩) 64 c2), (7, .slice (some ⟨bw, ow, none⟩) 64 c), (14, .slice (some ⟨gv, 0, none⟩) 8 8), (16, .int .i64 i), (19, .int .u32 one), (20, .int .u32 two)]) ?_ ?_
          · refine lp Nat (fun j W => j ≤ 7 ∧ St w gs W [(gv, 104, shl8 (hc v) j)] [] [.loc ⟨bw, ow, none⟩ (ws.map cu), .loc ⟨b0, o0, none⟩ ((h8l h).map cu), .loc ⟨b2, o2, none⟩ (roots.map cu)]) (fun j => [(0, .slice (some ⟨b0, o0, none⟩) 8 c0), (2, .slice (some ⟨b2, o2, none⟩) 64 c2), (7, .slice (some ⟨bw, ow, none⟩) 64 c), (14, .slice (some ⟨gv, 0, none⟩) 8 8), (16, .int .i64 i), (19, .int .u32 one), (20, .int .u32 two), (21, .int .i64 j)]) (fun j => j) 7 ⟨Nat.le_refl _, M⟩ (by repeat (first | exact trivial | refine ⟨rfl, ?_⟩)) ?_
            clear M
            rintro j E8 W8 ⟨hj, M⟩
            refine p_gt rfl rfl (fun hj0 => ?_) (fun hj0 => ?_)
            · obtain ⟨y, hy1, hy2, hy3⟩ := shl8_set (cu v.a) (cu v.b) (cu v.c) (cu v.d) (cu v.e) (cu v.f) (cu v.g) (cu v.h) j (by omega) hj
              have hyo : y.oneCell' = true := by rcases hy3 with h | h | h | h | h | h | h <;> rw [h] <;> rfl
              refine p_subN (b := 1) rfl rfl (by omega) (by omega) ?_
              refine p_atM (i := j - 1) (q := j - 1) slw rfl rfl rfl (by omega) (by omega) ?_
              refine v_load agg_u32 rfl ((M.B 0 rfl).at_ hy1) ?_
              refine p_atM (i := j) (q := j) slw rfl rfl rfl (by omega) (by omega) ?_
              refine s_set 0 (off := j) y _ M rfl sz_u32 rfl rfl hyo (by rw [shl8_len rfl hj]; omega) hy2 ?_
              clear M; rintro W M
              dsimp only [setL] at M
              refine p_subN (b := 1) rfl rfl (by omega) (by omega) ?_
              exact ⟨j - 1, ⟨by omega, M⟩, (by repeat (first | exact trivial | refine ⟨rfl, ?_⟩)), by omega⟩
            · have : j = 0 := by omega
              subst this
              exact ⟨(), M, (by repeat (first | exact trivial | refine ⟨rfl, ?_⟩))⟩
          · clear M
            rintro - B8 W8 M
            replace M : St w gs W8 [(gv, 104, [cu v.a, cu v.a, cu v.b, cu v.c, cu v.d, cu v.e, cu v.f, cu v.g])] [] [.loc ⟨bw, ow, none⟩ (ws.map cu), .loc ⟨b0, o0, none⟩ ((h8l h).map cu), .loc ⟨b2, o2, none⟩ (roots.map cu)] := M
            refine p_at (i := 4) slw rfl rfl rfl (by decide) ?_
            refine v_load agg_u32 rfl ((M.B 0 rfl).at_ rfl) ?_
            refine p_add rfl rfl (add32 v.d one) ?_
            refine p_atM (i := 4) (q := 4) slw rfl rfl rfl (by decide) (by decide) ?_
            refine s_set 0 (off := 4) (cu ((v.d + one) % 4294967296)) _ M rfl sz_u32 rfl rfl rfl (Nat.le_of_ble_eq_true rfl) rfl ?_
            clear M; rintro W M
            dsimp only [setL, List.set] at M
            refine p_add rfl rfl (add32 one two) ?_
            refine p_atM (i := 0) (q := 0) slw rfl rfl rfl (by decide) (by decide) ?_
            refine s_set 0 (off := 0) (cu ((one + two) % 4294967296)) _ M rfl sz_u32 rfl rfl rfl (Nat.le_of_ble_eq_true rfl) rfl ?_
            clear M; rintro W M
            dsimp only [setL, List.set] at M
            refine p_addN (b := 1) rfl rfl (by omega) ?_
            refine ⟨i + 1, ⟨by omega, ?_⟩, (by repeat (first | exact trivial | refine ⟨rfl, ?_⟩)), by omega⟩
            rw [hrn]
            unfold rnd hc
            rw [← hone, ← htwo]
            exact M
        · have : i = 64 := by omega
          subst this
          exact ⟨(), M, (by repeat (first | exact trivial | refine ⟨rfl, ?_⟩))⟩
      · clear M
        rintro - B7 W7 M
        obtain ⟨v, hvv⟩ : ∃ v, v = rndF roots ws h 64 := ⟨_, rfl⟩
        rw [← hvv] at M ⊢
        clear hvv
        refine lp Nat (fun i W => i ≤ 8 ∧ St w gs W [(gv, 104, (hc (add8 h v)).take i ++ (hc v).drop i)] [] [.loc ⟨b0, o0, none⟩ ((h8l h).map cu)]) (fun i => [(0, .slice (some ⟨b0, o0, none⟩) 8 c0), (14, .slice (some ⟨gv, 0, none⟩) 8 8), (22, .int .i64 i)]) (fun i => 8 - i) 0 ⟨Nat.zero_le _, M.fsub _ (by intro f hf; simp only [List.mem_cons, List.not_mem_nil, or_false] at hf ⊢; simp only [hf, true_or, or_true])⟩ (by repeat (first | exact trivial | refine ⟨rfl, ?_⟩)) ?_
        clear M
        rintro i E8 W8 ⟨hi, M⟩
        refine p_lt rfl rfl (fun hlt => ?_) (fun hge => ?_)
        · have hi8 : i < 8 := by omega
          have hx : ((hc (add8 h v)).take i ++ (hc v).drop i)[i]? = some (cu ((h8l v).getD i 0)) := by
            rw [List.getElem?_append_right (by rw [List.length_take]; omega), List.length_take, Nat.min_eq_left (by exact Nat.le_of_lt hi8), Nat.sub_self, List.getElem?_drop, Nat.add_zero]
            have : hc v = (h8l v).map cu := rfl
            rw [this, List.getElem?_map, List.getD_eq_getElem?_getD, List.getElem?_eq_getElem (by exact hi8)]; rfl
          have hs : (hc (add8 h v))[i]? = some (cu (((h8l v).getD i 0 + (h8l h).getD i 0) % 4294967296)) := by
            have : ∀ i, i < 8 → (hc (add8 h v))[i]? = some (cu (((h8l v).getD i 0 + (h8l h).getD i 0) % 4294967296)) := by
              intro i hi
              match i, hi with
              | 0, _ => simp [hc, add8, h8l, Nat.add_comm]
              | 1, _ => simp [hc, add8, h8l, Nat.add_comm]
              | 2, _ => simp [hc, add8, h8l, Nat.add_comm]
              | 3, _ => simp [hc, add8, h8l, Nat.add_comm]
              | 4, _ => simp [hc, add8, h8l, Nat.add_comm]
              | 5, _ => simp [hc, add8, h8l, Nat.add_comm]
              | 6, _ => simp [hc, add8, h8l, Nat.add_comm]
              | 7, _ => simp [hc, add8, h8l, Nat.add_comm]
            exact this i hi8
          replace M := M.drew
          refine drZ 12 (Kp w gs [(gv, 104, (hc (add8 h v)).take i ++ (hc v).drop i)] [.loc ⟨b0, o0, none⟩ ((h8l h).map cu)]) [(0, true), (1, true), (2, true), (3, true), (4, true), (5, true), (6, true), (7, true), (8, true), (9, true), (10, true), (11, true)] (by kernel_rfl) (M.kp (by simp) (by simp)) ?_
          refine p_atM (i := i) (q := i) slw rfl rfl rfl hi8 (by omega) ?_
          refine t_load agg_u32 rfl (fun W K => (K.B 0 rfl).at_ hx) ?_
          refine p_at (i := i) slw rfl rfl rfl hi8 ?_
          refine t_load agg_u32 rfl (fun W K => K.lc 0 rfl (i * 1) _ (cu_at (l := h8l h) (j := i) (by exact hi8))) ?_
          refine p_add rfl rfl (add32 _ _) ?_
          refine p_atM (i := i) (q := i) slw rfl rfl rfl hi8 (by omega) ?_
          refine s_set 0 (off := i) (cu (((h8l v).getD i 0 + (h8l h).getD i 0) % 4294967296)) _ M rfl sz_u32 rfl rfl rfl (by rw [List.length_append, List.length_take, List.length_drop]; show i < min i 8 + (8 - i); omega) (mix8_set hs rfl rfl hi8) ?_
          clear M; rintro W M
          dsimp only [setL] at M
          refine p_addN (b := 1) rfl rfl (by omega) ?_
          exact ⟨i + 1, ⟨by omega, M⟩, (by repeat (first | exact trivial | refine ⟨rfl, ?_⟩)), by omega⟩
        · have : i = 8 := by omega
          subst this
          replace M := M.frzB (fr := true) (s := 1) (n := 8) (c := 8) (ds := (hc (add8 h v)).map D.v) (RdL.ofvals (hc (add8 h v))) rfl (Nat.le_refl _)
          exact ⟨some ⟨gv, 0, none⟩, 8, rfl, M.finF1 0 rfl, M.below⟩
end Go.Proofs.YtejbljopighenaaDoor
