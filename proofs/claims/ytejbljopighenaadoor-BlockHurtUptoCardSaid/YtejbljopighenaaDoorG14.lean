/- The walk of digest.Sum. Package block: Decode, Hash. Reference 05: the walks of right, word, round, constants, Sum: they come to SHA-256 as it stands in ShaH. Reference 05: the walks of constants and Sum: SHA-256. Blocks: Hash of the package and of reference 21; sameTx, Same; reference 21: Same. Blocks: Same of the package and of reference 21. Reference 21: Decode. -/
import Derived.Test.YtejbljopighenaaDoorG13
import Derived.Test.YtejbljopighenaaDoorG08
import Derived.Test.YtejbljopighenaaDoorG12
namespace Go.Proofs.YtejbljopighenaaDoor
open Go.RowKit
theorem sl_ls : slOf Tryd.prog 62 = some (22, 1) := by kernel_rfl
theorem take_flat {α : Type} {ll : List (List α)} {i : Nat} {l : List α} (h : ll[i]? = some l) : (ll.take (i + 1)).flatten = (ll.take i).flatten ++ l := by
  have hi := (List.getElem?_eq_some_iff.1 h).1
  rw [List.take_succ_eq_append_getElem hi, List.flatten_append, List.flatten_cons, List.flatten_nil, List.append_nil]
  have := (List.getElem?_eq_some_iff.1 h).2
  rw [this]
theorem flat_take_le {α : Type} (ll : List (List α)) (i : Nat) : (ll.take i).flatten.length ≤ ll.flatten.length := by
  have : ll.flatten = (ll.take i).flatten ++ (ll.drop i).flatten := by rw [← List.flatten_append, List.take_append_drop]
  rw [this, List.length_append]; omega
set_option maxRecDepth 100000 in
theorem sum_any (gs : List (Option Nat)) (A : Option Addr) (n c : Nat) (ll : List (List UInt8)) (w : World) (hgs : ∀ b, some b ∈ gs → b < w.heap.size) (hG : GL w gs) (hr : RdD w (Fd w gs) (dLs ll) (.slice A n c)) (hs : ll.flatten.length ≤ 1000000000) (hs2 : n ≤ 1000000000) :
    Calls Tryd.prog 39 #[.slice A n c] w fun e w' => ∃ A' c', e = .returned (.slice A' 32 c') ∧ Own w' w.heap.size A' 32 c' (sha ll.flatten) ∧ Below w.heap.size w w' := by
  refine calls_ev (args := [.slice A n c]) mixed Tryd.func39 rfl (by kernel_rfl) ?_
  have hn := hr.slen
  refine cc is_new (new_any gs w hG) ?_
  rintro e W1 ⟨g, rfl, hg, hb, hs1, hD⟩
  refine ⟨_, rfl, ?_⟩
  have A1 : At w W1 (some g :: gs) := (At.start hgs).new hb (fun b e => by injection e with e; omega)
  have s1 : Stp w gs W1 (some g :: gs) := Stp.new hb (fun b e => by injection e with e; omega)
  refine p_len sl_ls rfl ?_
  refine lp Nat (fun i W => i ≤ n ∧ At w W (some g :: gs) ∧ Stp w gs W (some g :: gs) ∧ Dg W (some g :: gs) g (ll.take i).flatten)
    (fun i => [(3, .pointer (some ⟨g, 0, none⟩)), (7, .slice A n c), (8, .int .i64 n), (9, .int .i64 i)]) (fun i => n - i) 0 ⟨Nat.zero_le _, A1, s1, hD⟩ ⟨rfl, rfl, rfl, rfl, trivial⟩ ?_
  clear hD s1 A1
  rintro i E W ⟨hi, A2, s2, hD⟩
  have hG2 := hG.up s2
  have hfl := flat_take_le ll i
  refine p_lt rfl rfl (fun hlt => ?_) (fun hge => ?_)
  · obtain ⟨b, off, A', m, c', l, rfl, hl, hcell, hrl⟩ := (hr.up s2).lsat (i := i) (by omega)
    have hfl2 := flat_take_le ll (i + 1)
    rw [take_flat hl, List.length_append] at hfl2
    refine p_at sl_ls rfl rfl rfl (by omega) ?_
    refine v_load agg_b rfl (by rw [Addr.add_lit, Nat.mul_one]; exact hcell) ?_
    refine cc is_write (write_any (some g :: gs) g c' A' m l _ W A2.lt hG2 hD hrl (by omega) (by have := hG.size; omega)) ?_
    rintro e W3 ⟨⟨v, rfl⟩, g3, hD3⟩
    refine ⟨_, rfl, ?_⟩
    refine p_add rfl rfl (r := ((i + 1 : Nat) : Int)) ((w64 (by omega)).trans (by omega)) ?_
    exact ⟨i + 1, ⟨by omega, A2.wrote g3 (fun b e => by injection e with e; omega), s2.trans (Stp.wrote g3 (by simp)), by rw [take_flat hl]; exact hD3⟩, ⟨rfl, rfl, rfl, rfl, trivial⟩, by omega⟩
  · have hin : i = n := by omega
    subst hin
    rw [List.take_of_length_le (by omega)] at hD
    refine cc is_dsum (dsum_any (some g :: gs) g _ W A2.lt hG2 hD (by omega)) ?_
    rintro e W4 ⟨A4, c4, rfl, o4, b4⟩
    refine ⟨_, rfl, ?_⟩
    exact ⟨A4, c4, rfl, o4.less A2.size, A2.below.trans (b4.mono A2.size)⟩
end Go.Proofs.YtejbljopighenaaDoor
namespace Go.Proofs.YtejbljopighenaaDoor
open Go.RowKit
theorem fits_outZ : FitsO outZ := ⟨(fun r hr => by cases hr), Nat.zero_le _, by decide⟩
theorem dec_fits {x : List UInt8} (h : x.length ≤ 1000000) : FitsO (decO x).1 := by
  by_cases h0 : (decO x).2 = 0
  · unfold decO at h0 ⊢
    split at h0
    · next h1 => rw [if_pos h1]; exact parse_fits h
    · exact absurd h0 (by decide)
  · rw [decO_bad h0]; exact fits_outZ
theorem map_join {l : List UInt8} {t : List (List (List UInt8))} (h : txsP l = some t) : spE l = 0 ∧ t.map joinL = spL l := by
  unfold txsP at h
  split at h
  · next h1 =>
    injection h with h
    subst h
    refine ⟨h1.1, ?_⟩
    rw [List.map_map]
    conv => rhs; rw [← List.map_id (spL l)]
    exact List.map_congr_left fun x hx => (join_split x (h1.2 x hx)).1
  · cases h
theorem map_out {l : List UInt8} {o : List Out} (h : outsP l = some o) : spE l = 0 ∧ o.map outB = spL l ∧ ∀ x ∈ o, ∃ y ∈ spL l, x = (decO y).1 ∧ encO x = (y, 0) := by
  unfold outsP at h
  split at h
  · next h1 =>
    injection h with h
    subst h
    refine ⟨h1.1, ?_, fun x hx => ?_⟩
    · rw [List.map_map]
      conv => rhs; rw [← List.map_id (spL l)]
      exact List.map_congr_left fun x hx => (encO_ok (decO_ok (h1.2 x hx))).2.1.symm
    · obtain ⟨y, hy, rfl⟩ := List.mem_map.1 hx
      exact ⟨y, hy, rfl, decO_ok (h1.2 y hy)⟩
  · cases h
theorem join_sum (ll : List (List UInt8)) : (joinL ll).length = (putN ll.length).length + (ll.map fun s => (putB s).length).sum := by
  unfold joinL
  rw [List.length_append, List.length_flatMap]
theorem putB_le {s : List UInt8} (h : s.length < 18446744073709551616) : (putB s).length ≤ s.length + 10 := by rw [putB_len2]; have := putN_len10 h; omega
/-- What is read of bytes is not too great. -/
theorem parse_fitsB {s : List UInt8} {b : Bk} (h : parseBk s = some b) (hs : s.length ≤ 1000000) : FitsB b := by
  obtain ⟨a0, a1, a2, a3, a4, a5, a6, t, o, hsp, hc1, hc2, hc3, ht, ho, rfl⟩ := parse_some h
  obtain ⟨k1, k2⟩ := map_join ht
  obtain ⟨k3, k4, k5⟩ := map_out ho
  have hm : ∀ x ∈ spL s, x.length ≤ s.length := fun x hx => (sp_bound hx).1
  rw [hsp] at hm
  have m1 := hm a1 (by simp)
  have m2 := hm a2 (by simp)
  have m3 := hm a3 (by simp)
  have m4 := hm a4 (by simp)
  have m5 := hm a5 (by simp)
  have m6 := hm a6 (by simp)
  refine ⟨hc3, fun x hx => ?_, ?_⟩
  · obtain ⟨y, hy, rfl, -⟩ := k5 x hx
    have := (sp_bound hy).1
    exact dec_fits (by omega)
  · have e4 : joinL (txsB ⟨gN a0 0, a1, a2, a3, t, o, a6⟩) = a4 := by unfold txsB; rw [k2]; exact (join_split a4 k1).1
    have e5 : joinL (outsB ⟨gN a0 0, a1, a2, a3, t, o, a6⟩) = a5 := by unfold outsB; rw [k4]; exact (join_split a5 k3).1
    have eb : blockB ⟨gN a0 0, a1, a2, a3, t, o, a6⟩ = joinL [putN (gN a0 0).toNat, a1, a2, a3, a4, a5, a6] := by unfold blockB partsB; rw [e4, e5]
    rw [eb, join_sum]
    have hg := gN_ge a0 0
    have n0 := putN_len10 (n := (gN a0 0).toNat) (by omega)
    have n7 : (putN [putN (gN a0 0).toNat, a1, a2, a3, a4, a5, a6].length).length ≤ 10 := putN_len10 (n := 7) (by decide)
    have b0 := putB_le (s := putN (gN a0 0).toNat) (by omega)
    have b1 := putB_le (s := a1) (by omega)
    have b2 := putB_le (s := a2) (by omega)
    have b3 := putB_le (s := a3) (by omega)
    have b4 := putB_le (s := a4) (by omega)
    have b5 := putB_le (s := a5) (by omega)
    have b6 := putB_le (s := a6) (by omega)
    simp only [List.map_cons, List.map_nil, List.sum_cons, List.sum_nil]
    omega
theorem St.lse' {w W : World} {gs : List (Option Nat)} {L : Lc} {R : List Row} {fs : List Fact} (M : St w gs W L R fs) {ll : List (List UInt8)} {b off n c i : Nat} {l : List UInt8} (h : RdD W (Fd W (own L R gs)) (dLs ll) (.slice (some ⟨b, off, none⟩) n c)) (hi : ll[i]? = some l) :
    ∃ A' c', St w gs W L R (.loc ((⟨b, off, none⟩ : Addr).add (i * 1)) [.slice A' l.length c'] :: .dat false [dB l] [.slice A' l.length c'] :: fs) := by
  obtain ⟨b', off', A', c', e, M'⟩ := M.lse h hi
  injection e with e
  injection e with e1 e2 _
  subst e1; subst e2
  exact ⟨A', c', M'⟩
set_option maxRecDepth 100000 in
set_option maxHeartbeats 8000000 in
theorem bDec_any (s : List UInt8) (gs : List (Option Nat)) (w : World) (A : Option Addr) (n c : Nat) (hr : RdD w (Fd w gs) (dB s) (.slice A n c)) (hgs : ∀ b, some b ∈ gs → b < w.heap.size) (hs : s.length ≤ 1000000) :
    Calls Tryd.prog 11 #[.slice A n c] w fun e w' => ∃ p, e = .returned (.tuple #[.agg (bkcs (decBk s).1 p).toArray, .int .i64 (decBk s).2]) ∧ RdL w' (Fd w' gs) (dBk (decBk s).1) (bkcs (decBk s).1 p) ∧ Below w.heap.size w w' := by
  refine calls_ev (args := [.slice A n c]) mixed Tryd.func11 rfl (by kernel_rfl) ?_
  obtain ⟨en, enc, hrd⟩ := hr.rd Fd.lt
  subst en
  have M := (St.start hgs).addD hr
  clear hr hrd
  refine s_alloc (zBk) M al_bk ?_
  clear M
  rintro g2 W M
  refine p_len slb rfl ?_
  refine p_gt rfl rfl (fun h => absurd (show (1048576 : Int) < (s.length : Int) from h) (by omega)) (fun _ => ?_)
  have hd0 : decBk s = finBk s (parseBk s) := by unfold decBk; rw [if_neg (by omega)]
  refine cc is_vsplit (split_any _ _ _ s _ (M.rdb 0 rfl).2.2 (by omega) enc) ?_
  rintro e W ⟨A4, n4, c4, rfl, o4, hb⟩
  have h4 : RdD W (Fr _ W) (dLs (spL s)) (.slice A4 n4 c4) := o4.rdLs fun b q1 q2 q3 => ⟨q1, q2, q3⟩
  have en4 : n4 = (spL s).length := h4.slen
  subst en4
  replace M := M.callF1 hb h4
  clear hb h4 o4
  refine ⟨_, rfl, ?_⟩
  refine p_ne rfl rfl (fun q => ?_) (fun q => ?_)
  rotate_left
  · have q : ¬ spE s = 0 := q
    have hsp : spL s = [] := by unfold spL; rw [if_neg q]
    have hp : parseBk s = none := parse_n (by rw [hsp]; decide)
    have hd : decBk s = (bkZ, 11) := by rw [hd0, hp]; rfl
    refine p_build (vs := zBk) pl_bk z_bk rfl ?_
    refine s_storeA 0 zBk M rfl sz_bk rfl rfl rfl (all1 rfl) rfl ?_
    clear M; rintro W M
    dsimp only [setL] at M
    refine c_loadN zBk agg_bk rfl rfl (M.run 0 rfl) ?_
    rw [hd]
    exact ⟨⟨none, 0, none, 0, none, 0, none, 0, none, 0, none, 0⟩, rfl, RdL.ofbk (RdD.nil_ (s := 1) none 0) (RdD.nil_ (s := 1) none 0) (RdD.nil_ (s := 1) none 0) (RdD.nil_ none 0) (RdD.nil_ none 0) (RdD.nil_ (s := 1) none 0), M.below⟩
  have q : spE s = 0 := q
  refine p_len sls rfl ?_
  refine p_ne rfl rfl (fun q7 => ?_) (fun q7 => ?_)
  rotate_left
  · have q7 : ¬ ((spL s).length : Int) = 7 := q7
    have hp : parseBk s = none := parse_n (fun h => q7 (by rw [h]; rfl))
    have hd : decBk s = (bkZ, 11) := by rw [hd0, hp]; rfl
    refine p_build (vs := zBk) pl_bk z_bk rfl ?_
    refine s_storeA 0 zBk M rfl sz_bk rfl rfl rfl (all1 rfl) rfl ?_
    clear M; rintro W M
    dsimp only [setL] at M
    refine c_loadN zBk agg_bk rfl rfl (M.run 0 rfl) ?_
    rw [hd]
    exact ⟨⟨none, 0, none, 0, none, 0, none, 0, none, 0, none, 0⟩, rfl, RdL.ofbk (RdD.nil_ (s := 1) none 0) (RdD.nil_ (s := 1) none 0) (RdD.nil_ (s := 1) none 0) (RdD.nil_ none 0) (RdD.nil_ none 0) (RdD.nil_ (s := 1) none 0), M.below⟩
  have q7 : (spL s).length = 7 := by have h : ((spL s).length : Int) = 7 := q7; omega
  have hmm : ∀ x ∈ spL s, x.length ≤ s.length := fun x hx => (sp_bound hx).1
  obtain ⟨a0, a1, a2, a3, a4, a5, a6, hsp⟩ := list7 q7
  have m0 := hmm a0 (by rw [hsp]; simp)
  have m4 := hmm a4 (by rw [hsp]; simp)
  have m5 := hmm a5 (by rw [hsp]; simp)
  rw [q7]
  rw [q7] at M
  have hp0 := parse_7 hsp
  unfold partBk at hp0
  obtain ⟨bl, ol, B0, d0, rfl, M'⟩ := M.lse (M.d1 0 rfl) (i := 0) (l := a0) (by rw [hsp]; rfl)
  replace M := M'; clear M'
  refine p_at (i := 0) sls rfl rfl rfl (by decide) ?_
  refine v_load agg_b rfl (M.lc 0 rfl 0 _ rfl) ?_
  obtain ⟨-, enc0, hrd0⟩ := M.rdb 1 rfl
  refine cc is_vget (get_any _ _ _ _ 0 a0 _ hrd0 (by omega) enc0) ?_
  rintro e W' ⟨rfl, rfl⟩
  refine ⟨_, rfl, ?_⟩
  clear hrd0 enc0
  obtain ⟨B4, d4, M'⟩ := M.lse' (M.d1 2 rfl) (i := 4) (l := a4) (by rw [hsp]; rfl)
  replace M := M'; clear M'
  refine p_at (i := 4) sls rfl rfl rfl (by decide) ?_
  refine v_load agg_b rfl (M.lc 0 rfl 0 _ rfl) ?_
  refine cc is_btxs (btxs_any a4 _ _ _ _ _ (M.d1 1 rfl) M.olt (by omega)) ?_
  rintro e W ⟨A8, n8, c8, rfl, h8, hb⟩
  have en8 : n8 = ((txsP a4).getD []).length := h8.slen
  subst en8
  replace M := (M.call hb).addD h8
  clear hb h8
  refine ⟨_, rfl, ?_⟩
  obtain ⟨B5, d5, M'⟩ := M.lse' (M.d1 5 rfl) (i := 5) (l := a5) (by rw [hsp]; rfl)
  replace M := M'; clear M'
  refine p_at (i := 5) sls rfl rfl rfl (by decide) ?_
  refine v_load agg_b rfl (M.lc 0 rfl 0 _ rfl) ?_
  refine cc is_bouts (bouts_any a5 _ _ _ _ _ (M.d1 1 rfl) M.olt (by omega)) ?_
  rintro e W ⟨A10, n10, c10, rfl, h10, hb⟩
  have en10 : n10 = ((outsP a5).getD []).length := h10.slen
  subst en10
  replace M := (M.call hb).addD h10
  clear hb h10
  refine ⟨_, rfl, ?_⟩
  replace M := M.fsub [.dat false [dOuts ((outsP a5).getD [])] [.slice A10 ((outsP a5).getD []).length c10], .dat false [dTxs ((txsP a4).getD [])] [.slice A8 ((txsP a4).getD []).length c8], .dat true [dLs (spL s)] [.slice (some ⟨bl, ol, none⟩) 7 c4], .dat false [dB s] [.slice A s.length c]] (by simp)
  refine p_ne rfl rfl (fun r1 => ?_) (fun r1 => ?_)
  rotate_left
  · have r1 : ¬ gE a0 0 = 0 := r1
    have hp : parseBk s = none := by rw [hp0, if_neg (fun h => r1 h.2.1)]
    have hd : decBk s = (bkZ, 11) := by rw [hd0, hp]; rfl
    refine p_build (vs := zBk) pl_bk z_bk rfl ?_
    refine s_storeA 0 zBk M rfl sz_bk rfl rfl rfl (all1 rfl) rfl ?_
    clear M; rintro W M
    dsimp only [setL] at M
    refine c_loadN zBk agg_bk rfl rfl (M.run 0 rfl) ?_
    rw [hd]
    exact ⟨⟨none, 0, none, 0, none, 0, none, 0, none, 0, none, 0⟩, rfl, RdL.ofbk (RdD.nil_ (s := 1) none 0) (RdD.nil_ (s := 1) none 0) (RdD.nil_ (s := 1) none 0) (RdD.nil_ none 0) (RdD.nil_ none 0) (RdD.nil_ (s := 1) none 0), M.below⟩
  have r1 : gE a0 0 = 0 := r1
  refine p_gt rfl rfl (fun r2 => ?_) (fun r2 => ?_)
  · have r2 : (9223372036854775807 : Int) < gN a0 0 := r2
    have hp : parseBk s = none := by rw [hp0, if_neg (fun h => by have := h.2.2; omega)]
    have hd : decBk s = (bkZ, 11) := by rw [hd0, hp]; rfl
    refine p_build (vs := zBk) pl_bk z_bk rfl ?_
    refine s_storeA 0 zBk M rfl sz_bk rfl rfl rfl (all1 rfl) rfl ?_
    clear M; rintro W M
    dsimp only [setL] at M
    refine c_loadN zBk agg_bk rfl rfl (M.run 0 rfl) ?_
    rw [hd]
    exact ⟨⟨none, 0, none, 0, none, 0, none, 0, none, 0, none, 0⟩, rfl, RdL.ofbk (RdD.nil_ (s := 1) none 0) (RdD.nil_ (s := 1) none 0) (RdD.nil_ (s := 1) none 0) (RdD.nil_ none 0) (RdD.nil_ none 0) (RdD.nil_ (s := 1) none 0), M.below⟩
  have r2 : ¬ (9223372036854775807 : Int) < gN a0 0 := r2
  rw [if_pos ⟨q, r1, by omega⟩] at hp0
  obtain ⟨T, hT⟩ : ∃ T, T = txsP a4 := ⟨_, rfl⟩
  obtain ⟨O, hO⟩ : ∃ O, O = outsP a5 := ⟨_, rfl⟩
  rw [← hT, ← hO] at hp0 M
  rw [← hT, ← hO]
  refine p_not rfl ?_
  cases T with
  | none =>
    have hp : parseBk s = none := hp0
    have hd : decBk s = (bkZ, 11) := by rw [hd0, hp]; rfl
    refine p_build (vs := zBk) pl_bk z_bk rfl ?_
    refine s_storeA 0 zBk M rfl sz_bk rfl rfl rfl (all1 rfl) rfl ?_
    clear M; rintro W M
    dsimp only [setL] at M
    refine c_loadN zBk agg_bk rfl rfl (M.run 0 rfl) ?_
    rw [hd]
    exact ⟨⟨none, 0, none, 0, none, 0, none, 0, none, 0, none, 0⟩, rfl, RdL.ofbk (RdD.nil_ (s := 1) none 0) (RdD.nil_ (s := 1) none 0) (RdD.nil_ (s := 1) none 0) (RdD.nil_ none 0) (RdD.nil_ none 0) (RdD.nil_ (s := 1) none 0), M.below⟩
  | some T =>
  refine p_not rfl ?_
  cases O with
  | none =>
    have hp : parseBk s = none := hp0
    have hd : decBk s = (bkZ, 11) := by rw [hd0, hp]; rfl
    refine p_build (vs := zBk) pl_bk z_bk rfl ?_
    refine s_storeA 0 zBk M rfl sz_bk rfl rfl rfl (all1 rfl) rfl ?_
    clear M; rintro W M
    dsimp only [setL] at M
    refine c_loadN zBk agg_bk rfl rfl (M.run 0 rfl) ?_
    rw [hd]
    exact ⟨⟨none, 0, none, 0, none, 0, none, 0, none, 0, none, 0⟩, rfl, RdL.ofbk (RdD.nil_ (s := 1) none 0) (RdD.nil_ (s := 1) none 0) (RdD.nil_ (s := 1) none 0) (RdD.nil_ none 0) (RdD.nil_ none 0) (RdD.nil_ (s := 1) none 0), M.below⟩
  | some O =>
  have hp0 : parseBk s = some ⟨gN a0 0, a1, a2, a3, T, O, a6⟩ := hp0
  have M : St w gs W [(g2, 26, zBk)] [] [.dat false [dOuts O] [.slice A10 O.length c10], .dat false [dTxs T] [.slice A8 T.length c8], .dat true [dLs (spL s)] [.slice (some ⟨bl, ol, none⟩) 7 c4], .dat false [dB s] [.slice A s.length c]] := M
  obtain ⟨B1, d1, M'⟩ := M.lse' (M.d1 2 rfl) (i := 1) (l := a1) (by rw [hsp]; rfl)
  replace M := M'; clear M'
  obtain ⟨B2, d2, M'⟩ := M.lse' (M.d1 4 rfl) (i := 2) (l := a2) (by rw [hsp]; rfl)
  replace M := M'; clear M'
  obtain ⟨B3, d3, M'⟩ := M.lse' (M.d1 6 rfl) (i := 3) (l := a3) (by rw [hsp]; rfl)
  replace M := M'; clear M'
  obtain ⟨B6, d6, M'⟩ := M.lse' (M.d1 8 rfl) (i := 6) (l := a6) (by rw [hsp]; rfl)
  replace M := M'.drew; clear M'
  have hfb := parse_fitsB hp0 hs
  obtain ⟨b, hb0⟩ : ∃ b : Bk, b = ⟨gN a0 0, a1, a2, a3, T, O, a6⟩ := ⟨_, rfl⟩
  obtain ⟨p, hp⟩ : ∃ p : Bp, p = ⟨B1, d1, B2, d2, B3, d3, A8, c8, A10, c10, B6, d6⟩ := ⟨_, rfl⟩
  have hcs : bkcs b p = [.int .i64 (gN a0 0), .slice B1 a1.length d1, .slice B2 a2.length d2, .slice B3 a3.length d3, .slice A8 T.length c8, .slice A10 O.length c10, .slice B6 a6.length d6] := by rw [hb0, hp]; rfl
  refine cutV Nat (fun g W => St w gs W [(g, 26, bkcs b p), (g2, 26, zBk)] [] [.dat false (dBk b) (bkcs b p), .dat false [dB s] [.slice A s.length c]]) (fun g => [(0, .slice A s.length c), (2, .pointer (some ⟨g2, 0, none⟩)), (12, .pointer (some ⟨g, 0, none⟩))]) ?_ ?_
  · refine drT (Kp w gs [] [.loc ((⟨bl, ol, none⟩ : Addr).add (1 * 1)) [.slice B1 a1.length d1], .loc ((⟨bl, ol, none⟩ : Addr).add (2 * 1)) [.slice B2 a2.length d2], .loc ((⟨bl, ol, none⟩ : Addr).add (3 * 1)) [.slice B3 a3.length d3], .loc ((⟨bl, ol, none⟩ : Addr).add (6 * 1)) [.slice B6 a6.length d6]]) (.take 0 (.take 1 (.take 2 (.take 3 (.take 4 (.take 5 (.take 6 (.take 7 (.take 8 (.take 9 (.take 10 (.take 11 (.take 12 (.take 13 (.take 14 (.take 15 (.take 16 (.one 17 (.one 18 (.nil)))))))))))))))))))) (by kernel_rfl) (M.kp (by simp) (by simp)) ?_
    refine t_cvt u_u64s u_i64u rfl (cvi64 (gN_ge _ _) (by omega)) ?_
    refine p_at (i := 1) sls rfl rfl rfl (by decide) ?_
    refine t_load agg_b rfl (fun W K => K.lc 0 rfl 0 _ rfl) ?_
    refine p_at (i := 2) sls rfl rfl rfl (by decide) ?_
    refine t_load agg_b rfl (fun W K => K.lc 1 rfl 0 _ rfl) ?_
    refine p_at (i := 3) sls rfl rfl rfl (by decide) ?_
    refine t_load agg_b rfl (fun W K => K.lc 2 rfl 0 _ rfl) ?_
    refine p_at (i := 6) sls rfl rfl rfl (by decide) ?_
    refine t_load agg_b rfl (fun W K => K.lc 3 rfl 0 _ rfl) ?_
    refine p_build (vs := [.int .i64 (gN a0 0), .slice B1 a1.length d1, .slice B2 a2.length d2, .slice B3 a3.length d3, .slice A8 T.length c8, .slice A10 O.length c10, .slice B6 a6.length d6]) pl_bk z_bk rfl ?_
    rw [← hcs]
    refine s_alloc (zBk) M al_bk ?_
    clear M
    rintro g12 W M
    refine ⟨(M.kp (by simp) (by simp)), ?_⟩
    refine s_storeA 0 (bkcs b p) M rfl sz_bk rfl rfl rfl (all1 rfl) rfl ?_
    clear M; rintro W M
    dsimp only [setL] at M
    refine ⟨(M.kp (by simp) (by simp)), ?_⟩
    have hbd : RdL W (Fd W (own [(g12, 26, bkcs b p), (g2, 26, zBk)] [] gs)) (dBk b) (bkcs b p) := by
      rw [hb0, hp]
      exact RdL.ofbk (M.d1 7 rfl) (M.d1 5 rfl) (M.d1 3 rfl) (M.d1 9 rfl) (M.d1 8 rfl) (M.d1 1 rfl)
    exact ⟨g12, (M.addL hbd).fsub _ (by simp), (by repeat (first | exact trivial | refine ⟨rfl, ?_⟩))⟩
  clear M
  rintro g12 E W M
  rw [← hb0] at hp0 hfb
  have hd1 : decBk s = if encBk b = (s, 0) then (b, 0) else (bkZ, 11) := by rw [hd0, hp0]; rfl
  refine v_loadN (bkcs b p) agg_bk rfl rfl (M.run 0 rfl) ?_
  refine cc is_bEnc (bEnc_any b _ _ _ (M.da 0 rfl) M.olt hfb) ?_
  rintro e W ⟨A13, n13, c13, rfl, o13, hb⟩
  replace M := M.callO hb o13
  clear hb o13
  refine ⟨_, rfl, ?_⟩
  obtain ⟨Y, hY⟩ : ∃ Y, Y = encBk b := ⟨_, rfl⟩
  rw [← hY] at M hd1
  rw [← hY]
  refine p_ne rfl rfl (fun h2 => ?_) (fun h2 => ?_)
  rotate_left
  · have h2 : ¬ Y.2 = 0 := h2
    have hd : decBk s = (bkZ, 11) := by rw [hd1, if_neg (fun h => h2 (by rw [h]))]
    refine p_build (vs := zBk) pl_bk z_bk rfl ?_
    refine s_storeA 1 zBk M rfl sz_bk rfl rfl rfl (all1 rfl) rfl ?_
    clear M; rintro W M
    dsimp only [setL] at M
    refine c_loadN zBk agg_bk rfl rfl (M.run 1 rfl) ?_
    rw [hd]
    exact ⟨⟨none, 0, none, 0, none, 0, none, 0, none, 0, none, 0⟩, rfl, RdL.ofbk (RdD.nil_ (s := 1) none 0) (RdD.nil_ (s := 1) none 0) (RdD.nil_ (s := 1) none 0) (RdD.nil_ none 0) (RdD.nil_ none 0) (RdD.nil_ (s := 1) none 0), M.below⟩
  have h2 : Y.2 = 0 := h2
  refine v_str rfl (M.rdb 0 rfl).2.2 ?_
  refine v_str rfl (M.rdb 2 rfl).2.2 ?_
  refine p_sne rfl rfl (fun h3 => ?_) (fun h3 => ?_)
  rotate_left
  ·
    have hd : decBk s = (bkZ, 11) := by rw [hd1, if_neg (fun h => h3 (by rw [h]))]
    refine p_build (vs := zBk) pl_bk z_bk rfl ?_
    refine s_storeA 1 zBk M rfl sz_bk rfl rfl rfl (all1 rfl) rfl ?_
    clear M; rintro W M
    dsimp only [setL] at M
    refine c_loadN zBk agg_bk rfl rfl (M.run 1 rfl) ?_
    rw [hd]
    exact ⟨⟨none, 0, none, 0, none, 0, none, 0, none, 0, none, 0⟩, rfl, RdL.ofbk (RdD.nil_ (s := 1) none 0) (RdD.nil_ (s := 1) none 0) (RdD.nil_ (s := 1) none 0) (RdD.nil_ none 0) (RdD.nil_ none 0) (RdD.nil_ (s := 1) none 0), M.below⟩
  have h3 : Y.1 = s := sb_inj.1 h3
  rw [if_pos (Prod.ext h3 h2)] at hd1
  refine v_loadN (bkcs b p) agg_bk rfl rfl (M.run 0 rfl) ?_
  refine s_storeA 1 (bkcs b p) M rfl sz_bk rfl rfl rfl (all1 rfl) rfl ?_
  clear M; rintro W M
  dsimp only [setL] at M
  refine c_loadN (bkcs b p) agg_bk rfl rfl (M.run 1 rfl) ?_
  rw [hd1]
  exact ⟨p, rfl, M.fin 1 rfl, M.below⟩
end Go.Proofs.YtejbljopighenaaDoor
namespace Go.Proofs.YtejbljopighenaaDoor
open Go.RowKit
theorem sha_def (b : List UInt8) : sha b = out8 (blocksF begin8 ((b ++ padL b.length).length / 64) (b ++ padL b.length)) := rfl
end Go.Proofs.YtejbljopighenaaDoor
namespace Go.Proofs.YtejbljopighenaaDoor
open Go.RowKit
theorem is_dgsumB : isFn Tryd.prog 39 = true := by kernel_rfl
theorem is_stx : isFn Tryd.prog 42 = true := by kernel_rfl
theorem St.glB {w W : World} {gs : List (Option Nat)} {L : Lc} {R : List Row} {fs : List Fact} (M : St w gs W L R fs) (hG : GL w gs) : GL W (own L R gs) := hG.up ⟨M.size, fun b h _ => M.below.block b h, fun b hlt e => by
  unfold own at e
  rcases List.mem_append.1 e with e | e
  · obtain ⟨y, hy, he⟩ := List.mem_map.1 e
    injection he with he
    have := (M.blk y hy).2; omega
  rcases List.mem_append.1 e with e | e
  · obtain ⟨r, hr, he⟩ := List.mem_map.1 e
    have := (row_bklo (M.row r hr) b he).1; omega
  · exact e⟩
def hashBk (b : Bk) : List UInt8 := if (encBk b).2 = 0 then sha (blockB b) else []
theorem encBk_full {b : Bk} (h : (encBk b).2 = 0) : encBk b = (blockB b, 0) := by
  unfold encBk at h ⊢
  split at h
  · next h1 =>
    split at h
    · exact absurd h (by decide)
    · next h2 => rw [if_pos h1, if_neg h2]
  · exact absurd h (by decide)
set_option maxRecDepth 100000 in
set_option maxHeartbeats 2000000 in
theorem bHash_any (b : Bk) (gs : List (Option Nat)) (w : World) (cs : List Value) (hG : GL w gs) (hr : RdL w (Fd w gs) (dBk b) cs) (hgs : ∀ b, some b ∈ gs → b < w.heap.size) (hf : FitsB b) :
    Calls Tryd.prog 16 #[.agg cs.toArray] w fun e w' => ∃ A n c, e = .returned (.slice A n c) ∧ Own w' w.heap.size A n c (hashBk b) ∧ (A = none ↔ (encBk b).2 ≠ 0) ∧ (A = none → n = 0 ∧ c = 0) ∧ ((encBk b).2 = 0 → n = 32) ∧ Below w.heap.size w w' := by
  refine calls_ev (args := [.agg cs.toArray]) mixed Tryd.func16 rfl (by kernel_rfl) ?_
  obtain ⟨p, rfl, -⟩ := id hr.bk
  have hf2 := hf.2.2
  have M := (St.start hgs).addL hr
  clear hr
  refine s_box (bkcs b p) M rfl ?_
  clear M
  rintro g1 W M
  refine v_loadN (bkcs b p) agg_bk rfl rfl (M.run 0 rfl) ?_
  refine cc is_bEnc (bEnc_any b _ _ _ (M.da 0 rfl) M.olt hf) ?_
  rintro e W ⟨A3, n3, c3, rfl, o3, hb⟩
  have en3 : (encBk b).1.length = n3 := o3.len
  replace M := M.callO hb o3
  clear hb o3
  refine ⟨_, rfl, ?_⟩
  refine p_ne rfl rfl (fun q => ?_) (fun q => ?_)
  rotate_left
  · have q : ¬ (encBk b).2 = 0 := q
    refine ⟨none, 0, 0, rfl, ?_, ⟨fun _ => q, fun _ => rfl⟩, fun _ => ⟨rfl, rfl⟩, fun h => absurd h q, M.below⟩
    unfold hashBk
    rw [if_neg q]; exact World.ownsRow_nil _ _ _ _
  have q : (encBk b).2 = 0 := q
  have hb0 := encBk_full q
  rw [hb0] at M en3
  subst en3
  refine s_bslice (fr := false) (ds := [dB (blockB b)]) [.slice A3 (blockB b).length c3] M sls zls rfl (by decide) rfl (M.dw 0 rfl) rfl ?_
  clear M; rintro g13 W M
  refine cc is_dgsumB (sum_any _ _ 1 1 [blockB b] _ M.olt (M.glB hG) (M.d1 0 rfl) (by rw [List.flatten_cons, List.flatten_nil, List.append_nil]; omega) (by decide)) ?_
  rintro e W ⟨A14, c14, rfl, o14, hb⟩
  have e14 : hashBk b = sha [blockB b].flatten := by unfold hashBk; rw [if_pos q]; simp
  rw [← e14] at o14
  refine ⟨_, rfl, ?_⟩
  refine ⟨A14, 32, c14, rfl, row_less o14 M.size, ⟨fun h => ?_, fun h => absurd q h⟩, fun h => ?_, fun _ => rfl, M.below.trans (hb.mono M.size)⟩
  · subst h
    rcases o14.2 with ⟨hv, -⟩ | ⟨g, cap, cur, hv, -⟩
    · injection hv with _ h; exact absurd h (by decide)
    · injection hv with h; cases h
  · subst h
    rcases o14.2 with ⟨hv, -⟩ | ⟨g, cap, cur, hv, -⟩
    · injection hv with _ h; exact absurd h (by decide)
    · injection hv with h; cases h
set_option maxRecDepth 100000 in
set_option maxHeartbeats 2000000 in
theorem stx_any (a b : List (List UInt8)) (gs : List (Option Nat)) (w : World) (A B : Option Addr) (n c m d : Nat) (ha : RdD w (Fd w gs) (dTx a) (.slice A n c)) (hb : RdD w (Fd w gs) (dTx b) (.slice B m d)) (hgs : ∀ b, some b ∈ gs → b < w.heap.size) (hl : a.length ≤ 1000000000) :
    Calls Tryd.prog 42 #[.slice A n c, .slice B m d] w fun e w' => ∃ q : Bool, e = .returned (.bool q) ∧ (q = true ↔ a = b) ∧ Below w.heap.size w w' := by
  refine calls_ev (args := [.slice A n c, .slice B m d]) mixed Tryd.func42 rfl (by kernel_rfl) ?_
  have en : n = a.length := ha.slen
  have em : m = b.length := hb.slen
  subst en; subst em
  have M := ((St.start hgs).addD hb).addD ha
  clear ha hb
  refine p_len slts rfl ?_
  refine p_len slts rfl ?_
  refine p_ne rfl rfl (fun h => ?_) (fun h => ?_)
  rotate_left
  · exact ⟨false, rfl, ⟨(fun h => by cases h), fun e => absurd (by rw [e]) h⟩, M.below⟩
  have hlen : a.length = b.length := by have h : (a.length : Int) = (b.length : Int) := h; omega
  refine p_len slts rfl ?_
  refine lp Nat (fun i W => i ≤ a.length ∧ a.take i = b.take i ∧ St w gs W [] [] [.dat false [dTx a] [.slice A a.length c], .dat false [dTx b] [.slice B b.length d]]) (fun i => [(0, .slice A a.length c), (1, .slice B b.length d), (12, .int .i64 (a.length : Nat)), (13, .int .i64 i)]) (fun i => a.length - i) 0 ⟨Nat.zero_le _, rfl, M⟩ (by repeat (first | exact trivial | refine ⟨rfl, ?_⟩)) ?_
  clear M
  rintro i E W ⟨hi, ht, M⟩
  refine p_lt rfl rfl (fun hlt => ?_) (fun hge => ?_)
  rotate_left
  · have hi : i = a.length := by have h : ¬ (i : Int) < (a.length : Int) := hge; omega
    subst hi
    rw [List.take_of_length_le (Nat.le_refl _), List.take_of_length_le (by omega)] at ht
    exact ⟨true, rfl, ⟨fun _ => ht, fun _ => rfl⟩, M.below⟩
  have hlt : i < a.length := by have h : (i : Int) < (a.length : Int) := hlt; omega
  obtain ⟨u, hu⟩ : ∃ u, a[i]? = some u := ⟨_, List.getElem?_eq_getElem hlt⟩
  obtain ⟨v, hv⟩ : ∃ v, b[i]? = some v := ⟨_, List.getElem?_eq_getElem (by omega)⟩
  obtain ⟨b1, o1, rfl, M'⟩ := M.stre (M.d1 0 rfl) hu
  replace M := M'; clear M'
  obtain ⟨b2, o2, rfl, M'⟩ := M.stre (M.d1 2 rfl) hv
  replace M := M'.drew; clear M'
  refine drT (Kp w gs [] [.loc ((⟨b1, o1, none⟩ : Addr).add (i * 1)) [.string (sb u)], .loc ((⟨b2, o2, none⟩ : Addr).add (i * 1)) [.string (sb v)]]) (.take 0 (.take 1 (.take 2 (.take 3 (.take 4 (.take 5 (.take 6 (.take 7 (.take 8 (.nil)))))))))) (by kernel_rfl) (M.kp (by simp) (by simp)) ?_
  refine p_at (i := i) slts rfl rfl rfl hlt ?_
  refine t_load agg_st rfl (fun W K => K.lc 0 rfl 0 _ rfl) ?_
  refine p_at (i := i) slts rfl rfl rfl (by omega) ?_
  refine t_load agg_st rfl (fun W K => K.lc 1 rfl 0 _ rfl) ?_
  refine p_sne rfl rfl (fun he => ?_) (fun he => ?_)
  rotate_left
  · exact ⟨false, rfl, ⟨(fun h => by cases h), fun e => absurd e (take_ne hu hv (fun e => he (by rw [e])))⟩, M.below⟩
  refine p_addN (b := 1) rfl rfl (by omega) ?_
  exact ⟨i + 1, ⟨by omega, take_ext ht hu hv (sb_inj.1 he), M.fsub _ (by simp)⟩, (by repeat (first | exact trivial | refine ⟨rfl, ?_⟩)), by omega⟩
end Go.Proofs.YtejbljopighenaaDoor
namespace Go.Proofs.YtejbljopighenaaDoor
open Go.RowKit
theorem Bk.ext' {a b : Bk} (h0 : a.num = b.num) (h1 : a.last = b.last) (h2 : a.prev = b.prev) (h3 : a.next = b.next) (h4 : a.txs = b.txs) (h5 : a.outs = b.outs) (h6 : a.proof = b.proof) : a = b := by
  cases a; cases b; simp only at h0 h1 h2 h3 h4 h5 h6; rw [h0, h1, h2, h3, h4, h5, h6]
/-- Not too many. -/
def LenB (b : Bk) : Prop := b.txs.length ≤ 1000000000 ∧ (∀ t ∈ b.txs, t.length ≤ 1000000000) ∧ b.outs.length ≤ 1000000000 ∧ ∀ o ∈ b.outs, LenO o
theorem lenO_of {o : Out} (h : FitsO o) : LenO o := by
  have h2 := h.2.1
  refine ⟨by omega, fun r hr => ?_⟩
  obtain ⟨h3, -⟩ := h.1 r hr
  have h4 := h3.1
  refine ⟨by omega, fun l hl => ?_⟩
  have h5 := (h3.2.1 l hl).2
  have h6 : l.length ≤ tot l := by
    clear h5 hl h3 h4 h2
    induction l with
    | nil => exact Nat.zero_le _
    | cons v l ih => unfold tot at ih ⊢; simp only [List.map_cons, List.sum_cons, List.length_cons]; omega
  omega
theorem lenB_of {b : Bk} (h : FitsB b) : LenB b := by
  have h2 := h.2.2
  obtain ⟨t1, t2, -⟩ := bk_txs b
  exact ⟨by omega, fun t ht => by have := (bk_tx ht).2.1; omega, by omega, fun o ho => lenO_of (h.2.1 o ho)⟩
set_option maxRecDepth 100000 in
set_option maxHeartbeats 8000000 in
theorem bSame_any (a b : Bk) (gs : List (Option Nat)) (w : World) (ca cb : List Value) (ha : RdL w (Fd w gs) (dBk a) ca) (hb : RdL w (Fd w gs) (dBk b) cb) (hgs : ∀ b, some b ∈ gs → b < w.heap.size) (hl : LenB a) :
    Calls Tryd.prog 21 #[.agg ca.toArray, .agg cb.toArray] w fun e w' => ∃ q : Bool, e = .returned (.bool q) ∧ (q = true ↔ a = b) ∧ Below w.heap.size w w' := by
  refine calls_ev (args := [.agg ca.toArray, .agg cb.toArray]) mixed Tryd.func21 rfl (by kernel_rfl) ?_
  obtain ⟨p, rfl, h1, h2, h3, h4, h5, h6⟩ := ha.bk
  obtain ⟨r, rfl, k1, k2, k3, k4, k5, k6⟩ := hb.bk
  obtain ⟨hl1, hl2, hl3, hl4⟩ := hl
  have M := ((((((((((((St.start hgs).addD k6).addD k5).addD k4).addD k3).addD k2).addD k1).addD h6).addD h5).addD h4).addD h3).addD h2).addD h1
  clear h1 h2 h3 h4 h5 h6 k1 k2 k3 k4 k5 k6 ha hb
  refine s_box (bkcs a p) M rfl ?_
  clear M
  rintro g2 W M
  refine s_box (bkcs b r) M rfl ?_
  clear M
  rintro g3 W M
  refine p_fld fB0 rfl ?_
  refine v_load agg_i rfl ((M.B 1 rfl).at_ rfl) ?_
  refine p_fld fB0 rfl ?_
  refine v_load agg_i rfl ((M.B 0 rfl).at_ rfl) ?_
  refine p_eq rfl rfl (fun q0 => ?_) (fun q0 => ?_)
  rotate_left
  · refine p_not rfl ?_
    exact ⟨false, rfl, ⟨(fun h => by cases h), fun e => absurd (by rw [e]) q0⟩, M.below⟩
  have q0 : a.num = b.num := q0
  refine p_fld fB1 rfl ?_
  refine v_load agg_b rfl ((M.B 1 rfl).at_ rfl) ?_
  refine v_str rfl (M.rdb 0 rfl).2.2 ?_
  refine p_fld fB1 rfl ?_
  refine v_load agg_b rfl ((M.B 0 rfl).at_ rfl) ?_
  refine v_str rfl (M.rdb 6 rfl).2.2 ?_
  refine p_seq rfl rfl (fun q1 => ?_) (fun q1 => ?_)
  rotate_left
  · refine p_not rfl ?_
    exact ⟨false, rfl, ⟨(fun h => by cases h), fun e => absurd (by rw [e]) q1⟩, M.below⟩
  have q1 : a.last = b.last := sb_inj.1 q1
  refine p_fld fB2 rfl ?_
  refine v_load agg_b rfl ((M.B 1 rfl).at_ rfl) ?_
  refine v_str rfl (M.rdb 1 rfl).2.2 ?_
  refine p_fld fB2 rfl ?_
  refine v_load agg_b rfl ((M.B 0 rfl).at_ rfl) ?_
  refine v_str rfl (M.rdb 7 rfl).2.2 ?_
  refine p_seq rfl rfl (fun q2 => ?_) (fun q2 => ?_)
  rotate_left
  · refine p_not rfl ?_
    exact ⟨false, rfl, ⟨(fun h => by cases h), fun e => absurd (by rw [e]) q2⟩, M.below⟩
  have q2 : a.prev = b.prev := sb_inj.1 q2
  refine p_fld fB3 rfl ?_
  refine v_load agg_b rfl ((M.B 1 rfl).at_ rfl) ?_
  refine v_str rfl (M.rdb 2 rfl).2.2 ?_
  refine p_fld fB3 rfl ?_
  refine v_load agg_b rfl ((M.B 0 rfl).at_ rfl) ?_
  refine v_str rfl (M.rdb 8 rfl).2.2 ?_
  refine p_seq rfl rfl (fun q3 => ?_) (fun q3 => ?_)
  rotate_left
  · refine p_not rfl ?_
    exact ⟨false, rfl, ⟨(fun h => by cases h), fun e => absurd (by rw [e]) q3⟩, M.below⟩
  have q3 : a.next = b.next := sb_inj.1 q3
  refine p_fld fB6 rfl ?_
  refine v_load agg_b rfl ((M.B 1 rfl).at_ rfl) ?_
  refine v_str rfl (M.rdb 5 rfl).2.2 ?_
  refine p_fld fB6 rfl ?_
  refine v_load agg_b rfl ((M.B 0 rfl).at_ rfl) ?_
  refine v_str rfl (M.rdb 11 rfl).2.2 ?_
  refine p_seq rfl rfl (fun q6 => ?_) (fun q6 => ?_)
  rotate_left
  · refine p_not rfl ?_
    exact ⟨false, rfl, ⟨(fun h => by cases h), fun e => absurd (by rw [e]) q6⟩, M.below⟩
  have q6 : a.proof = b.proof := sb_inj.1 q6
  refine p_not rfl ?_
  refine p_fld fB4 rfl ?_
  refine v_load agg_tss rfl ((M.B 1 rfl).at_ rfl) ?_
  refine p_len sltss rfl ?_
  refine p_fld fB4 rfl ?_
  refine v_load agg_tss rfl ((M.B 0 rfl).at_ rfl) ?_
  refine p_len sltss rfl ?_
  refine p_ne rfl rfl (fun q4 => ?_) (fun q4 => ?_)
  rotate_left
  · exact ⟨false, rfl, ⟨(fun h => by cases h), fun e => absurd (by rw [e]) q4⟩, M.below⟩
  have n4 : a.txs.length = b.txs.length := by have h : (a.txs.length : Int) = (b.txs.length : Int) := q4; omega
  refine p_fld fB5 rfl ?_
  refine v_load agg_os rfl ((M.B 1 rfl).at_ rfl) ?_
  refine p_len slos rfl ?_
  refine p_fld fB5 rfl ?_
  refine v_load agg_os rfl ((M.B 0 rfl).at_ rfl) ?_
  refine p_len slos rfl ?_
  refine p_ne rfl rfl (fun q5 => ?_) (fun q5 => ?_)
  rotate_left
  · exact ⟨false, rfl, ⟨(fun h => by cases h), fun e => absurd (by rw [e]) q5⟩, M.below⟩
  have n5 : a.outs.length = b.outs.length := by have h : (a.outs.length : Int) = (b.outs.length : Int) := q5; omega
  replace M := M.fsub [.dat false [dTxs a.txs] [.slice p.A4 a.txs.length p.c4], .dat false [dTxs b.txs] [.slice r.A4 b.txs.length r.c4], .dat false [dOuts a.outs] [.slice p.A5 a.outs.length p.c5], .dat false [dOuts b.outs] [.slice r.A5 b.outs.length r.c5]] (by simp)
  refine cutS Unit (fun _ W => St w gs W [(g3, 26, bkcs b r), (g2, 26, bkcs a p)] [] [.dat false [dTxs a.txs] [.slice p.A4 a.txs.length p.c4], .dat false [dTxs b.txs] [.slice r.A4 b.txs.length r.c4], .dat false [dOuts a.outs] [.slice p.A5 a.outs.length p.c5], .dat false [dOuts b.outs] [.slice r.A5 b.outs.length r.c5]]) (fun _ => [(2, .pointer (some ⟨g2, 0, none⟩)), (3, .pointer (some ⟨g3, 0, none⟩))]) ?_ ?_
  · exact ⟨(), M, (by repeat (first | exact trivial | refine ⟨rfl, ?_⟩))⟩
  clear M
  rintro - E W M
  refine cutS Unit (fun _ W => a.txs = b.txs ∧ St w gs W [(g3, 26, bkcs b r), (g2, 26, bkcs a p)] [] [.dat false [dOuts a.outs] [.slice p.A5 a.outs.length p.c5], .dat false [dOuts b.outs] [.slice r.A5 b.outs.length r.c5]]) (fun _ => [(2, .pointer (some ⟨g2, 0, none⟩)), (3, .pointer (some ⟨g3, 0, none⟩))]) ?_ ?_
  · refine p_fld fB4 rfl ?_
    refine v_load agg_tss rfl ((M.B 1 rfl).at_ rfl) ?_
    refine p_len sltss rfl ?_
    refine lp Nat (fun i W => i ≤ a.txs.length ∧ a.txs.take i = b.txs.take i ∧ St w gs W [(g3, 26, bkcs b r), (g2, 26, bkcs a p)] [] [.dat false [dTxs a.txs] [.slice p.A4 a.txs.length p.c4], .dat false [dTxs b.txs] [.slice r.A4 b.txs.length r.c4], .dat false [dOuts a.outs] [.slice p.A5 a.outs.length p.c5], .dat false [dOuts b.outs] [.slice r.A5 b.outs.length r.c5]]) (fun i => [(2, .pointer (some ⟨g2, 0, none⟩)), (3, .pointer (some ⟨g3, 0, none⟩)), (71, .int .i64 (a.txs.length : Nat)), (72, .int .i64 i)]) (fun i => a.txs.length - i) 0 ⟨Nat.zero_le _, rfl, M⟩ (by repeat (first | exact trivial | refine ⟨rfl, ?_⟩)) ?_
    clear M
    rintro i E W ⟨hi, ht, M⟩
    refine p_lt rfl rfl (fun hlt => ?_) (fun hge => ?_)
    rotate_left
    · have hi : i = a.txs.length := by have h : ¬ (i : Int) < (a.txs.length : Int) := hge; omega
      subst hi
      rw [List.take_of_length_le (Nat.le_refl _), List.take_of_length_le (by omega)] at ht
      exact ⟨(), ⟨ht, M.fsub _ (by simp)⟩, (by repeat (first | exact trivial | refine ⟨rfl, ?_⟩))⟩
    have hlt : i < a.txs.length := by have h : (i : Int) < (a.txs.length : Int) := hlt; omega
    obtain ⟨u, hu⟩ : ∃ u, a.txs[i]? = some u := ⟨_, List.getElem?_eq_getElem hlt⟩
    obtain ⟨v, hv⟩ : ∃ v, b.txs[i]? = some v := ⟨_, List.getElem?_eq_getElem (by omega)⟩
    have hlu := hl2 u (List.mem_of_getElem? hu)
    obtain ⟨b1, o1, Au, cu, eA, M'⟩ := M.txe (M.d1 0 rfl) hu
    replace M := M'; clear M'
    obtain ⟨b2, o2, Bv, dv, eB, M'⟩ := M.txe (M.d1 3 rfl) hv
    replace M := M'.drew; clear M'
    refine drT (Kp w gs [(g2, 26, bkcs a p), (g3, 26, bkcs b r)] [.loc ((⟨b1, o1, none⟩ : Addr).add (i * 1)) [.slice Au u.length cu], .loc ((⟨b2, o2, none⟩ : Addr).add (i * 1)) [.slice Bv v.length dv]]) (.take 0 (.take 1 (.take 2 (.take 3 (.take 4 (.take 5 (.take 6 (.take 7 (.take 8 (.take 9 (.one 10 (.take 11 (.nil))))))))))))) (by kernel_rfl) (M.kp (by simp) (by simp)) ?_
    refine p_fld fB4 rfl ?_
    refine t_load agg_tss rfl (fun W K => (K.B 0 rfl).at_ rfl) ?_
    refine p_at (i := i) sltss (by show Value.slice p.A4 a.txs.length p.c4 = _; rw [eA]) rfl rfl hlt ?_
    refine t_load agg_ts rfl (fun W K => K.lc 0 rfl 0 _ rfl) ?_
    refine p_fld fB4 rfl ?_
    refine t_load agg_tss rfl (fun W K => (K.B 1 rfl).at_ rfl) ?_
    refine p_at (i := i) sltss (by show Value.slice r.A4 b.txs.length r.c4 = _; rw [eB]) rfl rfl (by omega) ?_
    refine t_load agg_ts rfl (fun W K => K.lc 1 rfl 0 _ rfl) ?_
    refine cc is_stx (stx_any u v _ _ _ _ _ _ _ _ (M.d1 3 rfl) (M.d1 1 rfl) M.olt hlu) ?_
    rintro e W ⟨q, rfl, hq, hb⟩
    replace M := M.call hb
    clear hb
    refine ⟨_, rfl, (M.kp (by simp) (by simp)), ?_⟩
    refine p_not rfl ?_
    cases q with
    | false =>
      exact ⟨false, rfl, ⟨(fun h => by cases h), fun e => absurd (congrArg Bk.txs e) (take_ne hu hv (fun e => by have := hq.2 e; cases this))⟩, M.below⟩
    | true =>
    refine p_addN (b := 1) rfl rfl (by omega) ?_
    exact ⟨i + 1, ⟨by omega, take_ext ht hu hv (hq.1 rfl), M.fsub _ (by simp)⟩, (by repeat (first | exact trivial | refine ⟨rfl, ?_⟩)), by omega⟩
  clear M
  rintro - E W ⟨ht4, M⟩
  refine p_fld fB5 rfl ?_
  refine v_load agg_os rfl ((M.B 1 rfl).at_ rfl) ?_
  refine p_len slos rfl ?_
  refine lp Nat (fun i W => i ≤ a.outs.length ∧ a.outs.take i = b.outs.take i ∧ St w gs W [(g3, 26, bkcs b r), (g2, 26, bkcs a p)] [] [.dat false [dOuts a.outs] [.slice p.A5 a.outs.length p.c5], .dat false [dOuts b.outs] [.slice r.A5 b.outs.length r.c5]]) (fun i => [(2, .pointer (some ⟨g2, 0, none⟩)), (3, .pointer (some ⟨g3, 0, none⟩)), (90, .int .i64 (a.outs.length : Nat)), (91, .int .i64 i)]) (fun i => a.outs.length - i) 0 ⟨Nat.zero_le _, rfl, M⟩ (by repeat (first | exact trivial | refine ⟨rfl, ?_⟩)) ?_
  clear M
  rintro i E W ⟨hi, ht, M⟩
  refine p_lt rfl rfl (fun hlt => ?_) (fun hge => ?_)
  rotate_left
  · have hi : i = a.outs.length := by have h : ¬ (i : Int) < (a.outs.length : Int) := hge; omega
    subst hi
    rw [List.take_of_length_le (Nat.le_refl _), List.take_of_length_le (by omega)] at ht
    exact ⟨true, rfl, ⟨fun _ => Bk.ext' q0 q1 q2 q3 ht4 ht q6, fun _ => rfl⟩, M.below⟩
  have hlt : i < a.outs.length := by have h : (i : Int) < (a.outs.length : Int) := hlt; omega
  obtain ⟨u, hu⟩ : ∃ u, a.outs[i]? = some u := ⟨_, List.getElem?_eq_getElem hlt⟩
  obtain ⟨v, hv⟩ : ∃ v, b.outs[i]? = some v := ⟨_, List.getElem?_eq_getElem (by omega)⟩
  have hlu := hl4 u (List.mem_of_getElem? hu)
  obtain ⟨b1, o1, es1, eA, M'⟩ := M.oute (M.d1 0 rfl) hu
  replace M := M'; clear M'
  obtain ⟨b2, o2, es2, eB, M'⟩ := M.oute (M.d1 3 rfl) hv
  replace M := M'.drew; clear M'
  have hc1 := (M.da 3 rfl).len
  have hc2 := (M.da 1 rfl).len
  rw [dOut_len] at hc1 hc2
  refine drT (Kp w gs [(g2, 26, bkcs a p), (g3, 26, bkcs b r)] [.loc ((⟨b1, o1, none⟩ : Addr).add (i * 3)) es1, .loc ((⟨b2, o2, none⟩ : Addr).add (i * 3)) es2]) (.take 0 (.take 1 (.take 2 (.take 3 (.take 4 (.take 5 (.take 6 (.take 7 (.take 8 (.take 9 (.one 10 (.take 11 (.nil))))))))))))) (by kernel_rfl) (M.kp (by simp) (by simp)) ?_
  refine p_fld fB5 rfl ?_
  refine t_load agg_os rfl (fun W K => (K.B 0 rfl).at_ rfl) ?_
  refine p_at (i := i) slos (by show Value.slice p.A5 a.outs.length p.c5 = _; rw [eA]) rfl rfl hlt ?_
  refine t_loadN es1 agg_out rfl hc1 (fun W K => K.lc 0 rfl) ?_
  refine p_fld fB5 rfl ?_
  refine t_load agg_os rfl (fun W K => (K.B 1 rfl).at_ rfl) ?_
  refine p_at (i := i) slos (by show Value.slice r.A5 b.outs.length r.c5 = _; rw [eB]) rfl rfl (by omega) ?_
  refine t_loadN es2 agg_out rfl hc2 (fun W K => K.lc 1 rfl) ?_
  refine cc is_xSame (xSame_any u v _ _ _ _ (M.da 3 rfl) (M.da 1 rfl) M.olt hlu) ?_
  rintro e W ⟨q, rfl, hq, hb⟩
  replace M := M.call hb
  clear hb
  refine ⟨_, rfl, (M.kp (by simp) (by simp)), ?_⟩
  refine p_not rfl ?_
  cases q with
  | false =>
    exact ⟨false, rfl, ⟨(fun h => by cases h), fun e => absurd (congrArg Bk.outs e) (take_ne hu hv (fun e => by have := hq.2 e; cases this))⟩, M.below⟩
  | true =>
  refine p_addN (b := 1) rfl rfl (by omega) ?_
  exact ⟨i + 1, ⟨by omega, take_ext ht hu hv (hq.1 rfl), M.fsub _ (by simp)⟩, (by repeat (first | exact trivial | refine ⟨rfl, ?_⟩)), by omega⟩
set_option maxRecDepth 100000 in
set_option maxHeartbeats 8000000 in
theorem r21Same_any (a b : Bk) (gs : List (Option Nat)) (w : World) (ca cb : List Value) (ha : RdL w (Fd w gs) (dBk a) ca) (hb : RdL w (Fd w gs) (dBk b) cb) (hgs : ∀ b, some b ∈ gs → b < w.heap.size) (hl : LenB a) (hlb : LenB b) :
    Calls Tryd.prog 18 #[.agg ca.toArray, .agg cb.toArray] w fun e w' => ∃ q : Bool, e = .returned (.bool q) ∧ (q = true ↔ a = b) ∧ Below w.heap.size w w' := by
  refine calls_ev (args := [.agg ca.toArray, .agg cb.toArray]) mixed Tryd.func18 rfl (by kernel_rfl) ?_
  obtain ⟨p, rfl, h1, h2, h3, h4, h5, h6⟩ := ha.bk
  obtain ⟨r, rfl, k1, k2, k3, k4, k5, k6⟩ := hb.bk
  obtain ⟨hl1, hl2, hl3, hl4⟩ := hl
  have M := ((((((((((((St.start hgs).addD k6).addD k5).addD k4).addD k3).addD k2).addD k1).addD h6).addD h5).addD h4).addD h3).addD h2).addD h1
  clear h1 h2 h3 h4 h5 h6 k1 k2 k3 k4 k5 k6 ha hb
  refine s_box (bkcs a p) M rfl ?_
  clear M
  rintro g2 W M
  refine s_box (bkcs b r) M rfl ?_
  clear M
  rintro g3 W M
  refine p_fld fB0 rfl ?_
  refine v_load agg_i rfl ((M.B 1 rfl).at_ rfl) ?_
  refine p_fld fB0 rfl ?_
  refine v_load agg_i rfl ((M.B 0 rfl).at_ rfl) ?_
  refine p_ne rfl rfl (fun q0 => ?_) (fun q0 => ?_)
  rotate_left
  · exact ⟨false, rfl, ⟨(fun h => by cases h), fun e => absurd (by rw [e]) q0⟩, M.below⟩
  have q0 : a.num = b.num := q0
  refine p_fld fB1 rfl ?_
  refine v_load agg_b rfl ((M.B 1 rfl).at_ rfl) ?_
  refine p_fld fB1 rfl ?_
  refine v_load agg_b rfl ((M.B 0 rfl).at_ rfl) ?_
  obtain ⟨q1, hq1, hc⟩ := same_tf (c1 := p.c1) (c2 := r.c1) (M.rdb 0 rfl).2.2 (M.rdb 6 rfl).2.2
  refine cc is_same0B hc ?_
  rintro e W' ⟨rfl, rfl⟩
  refine ⟨_, rfl, ?_⟩
  clear hc
  refine p_not rfl ?_
  cases q1 with
  | false => exact ⟨false, rfl, ⟨(fun h => by cases h), fun e => by have := hq1.2 (by rw [e]); cases this⟩, M.below⟩
  | true =>
  replace hq1 : a.last = b.last := hq1.1 rfl
  refine p_fld fB2 rfl ?_
  refine v_load agg_b rfl ((M.B 1 rfl).at_ rfl) ?_
  refine p_fld fB2 rfl ?_
  refine v_load agg_b rfl ((M.B 0 rfl).at_ rfl) ?_
  obtain ⟨q2, hq2, hc⟩ := same_tf (c1 := p.c2) (c2 := r.c2) (M.rdb 1 rfl).2.2 (M.rdb 7 rfl).2.2
  refine cc is_same0B hc ?_
  rintro e W' ⟨rfl, rfl⟩
  refine ⟨_, rfl, ?_⟩
  clear hc
  refine p_not rfl ?_
  cases q2 with
  | false => exact ⟨false, rfl, ⟨(fun h => by cases h), fun e => by have := hq2.2 (by rw [e]); cases this⟩, M.below⟩
  | true =>
  replace hq2 : a.prev = b.prev := hq2.1 rfl
  refine p_fld fB3 rfl ?_
  refine v_load agg_b rfl ((M.B 1 rfl).at_ rfl) ?_
  refine p_fld fB3 rfl ?_
  refine v_load agg_b rfl ((M.B 0 rfl).at_ rfl) ?_
  obtain ⟨q3, hq3, hc⟩ := same_tf (c1 := p.c3) (c2 := r.c3) (M.rdb 2 rfl).2.2 (M.rdb 8 rfl).2.2
  refine cc is_same0B hc ?_
  rintro e W' ⟨rfl, rfl⟩
  refine ⟨_, rfl, ?_⟩
  clear hc
  refine p_not rfl ?_
  cases q3 with
  | false => exact ⟨false, rfl, ⟨(fun h => by cases h), fun e => by have := hq3.2 (by rw [e]); cases this⟩, M.below⟩
  | true =>
  replace hq3 : a.next = b.next := hq3.1 rfl
  refine p_fld fB6 rfl ?_
  refine v_load agg_b rfl ((M.B 1 rfl).at_ rfl) ?_
  refine p_fld fB6 rfl ?_
  refine v_load agg_b rfl ((M.B 0 rfl).at_ rfl) ?_
  obtain ⟨q6, hq6, hc⟩ := same_tf (c1 := p.c6) (c2 := r.c6) (M.rdb 5 rfl).2.2 (M.rdb 11 rfl).2.2
  refine cc is_same0B hc ?_
  rintro e W' ⟨rfl, rfl⟩
  refine ⟨_, rfl, ?_⟩
  clear hc
  refine p_not rfl ?_
  cases q6 with
  | false => exact ⟨false, rfl, ⟨(fun h => by cases h), fun e => by have := hq6.2 (by rw [e]); cases this⟩, M.below⟩
  | true =>
  replace hq6 : a.proof = b.proof := hq6.1 rfl
  refine p_fld fB4 rfl ?_
  refine v_load agg_tss rfl ((M.B 1 rfl).at_ rfl) ?_
  refine p_len sltss rfl ?_
  refine p_fld fB4 rfl ?_
  refine v_load agg_tss rfl ((M.B 0 rfl).at_ rfl) ?_
  refine p_len sltss rfl ?_
  refine p_ne rfl rfl (fun q4 => ?_) (fun q4 => ?_)
  rotate_left
  · exact ⟨false, rfl, ⟨(fun h => by cases h), fun e => absurd (by rw [e]) q4⟩, M.below⟩
  have n4 : a.txs.length = b.txs.length := by have h : (a.txs.length : Int) = (b.txs.length : Int) := q4; omega
  replace M := M.fsub [.dat false [dTxs a.txs] [.slice p.A4 a.txs.length p.c4], .dat false [dTxs b.txs] [.slice r.A4 b.txs.length r.c4], .dat false [dOuts a.outs] [.slice p.A5 a.outs.length p.c5], .dat false [dOuts b.outs] [.slice r.A5 b.outs.length r.c5]] (by simp)
  refine cutS Unit (fun _ W => St w gs W [(g3, 26, bkcs b r), (g2, 26, bkcs a p)] [] [.dat false [dTxs a.txs] [.slice p.A4 a.txs.length p.c4], .dat false [dTxs b.txs] [.slice r.A4 b.txs.length r.c4], .dat false [dOuts a.outs] [.slice p.A5 a.outs.length p.c5], .dat false [dOuts b.outs] [.slice r.A5 b.outs.length r.c5]]) (fun _ => [(2, .pointer (some ⟨g2, 0, none⟩)), (3, .pointer (some ⟨g3, 0, none⟩))]) ?_ ?_
  · exact ⟨(), M, (by repeat (first | exact trivial | refine ⟨rfl, ?_⟩))⟩
  clear M
  rintro - E W M
  refine cutS Unit (fun _ W => a.txs = b.txs ∧ St w gs W [(g3, 26, bkcs b r), (g2, 26, bkcs a p)] [] [.dat false [dOuts a.outs] [.slice p.A5 a.outs.length p.c5], .dat false [dOuts b.outs] [.slice r.A5 b.outs.length r.c5]]) (fun _ => [(2, .pointer (some ⟨g2, 0, none⟩)), (3, .pointer (some ⟨g3, 0, none⟩))]) ?_ ?_
  · refine lp Nat (fun i W => i ≤ a.txs.length ∧ a.txs.take i = b.txs.take i ∧ St w gs W [(g3, 26, bkcs b r), (g2, 26, bkcs a p)] [] [.dat false [dTxs a.txs] [.slice p.A4 a.txs.length p.c4], .dat false [dTxs b.txs] [.slice r.A4 b.txs.length r.c4], .dat false [dOuts a.outs] [.slice p.A5 a.outs.length p.c5], .dat false [dOuts b.outs] [.slice r.A5 b.outs.length r.c5]]) (fun i => [(2, .pointer (some ⟨g2, 0, none⟩)), (3, .pointer (some ⟨g3, 0, none⟩)), (5, .int .i64 i)]) (fun i => a.txs.length - i) 0 ⟨Nat.zero_le _, rfl, M⟩ (by repeat (first | exact trivial | refine ⟨rfl, ?_⟩)) ?_
    clear M
    rintro i E W ⟨hi, ht, M⟩
    refine p_fld fB4 rfl ?_
    refine v_load agg_tss rfl ((M.B 1 rfl).at_ rfl) ?_
    refine p_len sltss rfl ?_
    refine p_lt rfl rfl (fun hlt => ?_) (fun hge => ?_)
    rotate_left
    · have hi : i = a.txs.length := by have h : ¬ (i : Int) < (a.txs.length : Int) := hge; omega
      subst hi
      rw [List.take_of_length_le (Nat.le_refl _), List.take_of_length_le (by omega)] at ht
      exact ⟨(), ⟨ht, M.fsub _ (by simp)⟩, (by repeat (first | exact trivial | refine ⟨rfl, ?_⟩))⟩
    have hlt : i < a.txs.length := by have h : (i : Int) < (a.txs.length : Int) := hlt; omega
    obtain ⟨u, hu⟩ : ∃ u, a.txs[i]? = some u := ⟨_, List.getElem?_eq_getElem hlt⟩
    obtain ⟨v, hv⟩ : ∃ v, b.txs[i]? = some v := ⟨_, List.getElem?_eq_getElem (by omega)⟩
    have hlu := hl2 u (List.mem_of_getElem? hu)
    obtain ⟨b1, o1, Au, cu, eA, M'⟩ := M.txe (M.d1 0 rfl) hu
    replace M := M'; clear M'
    obtain ⟨b2, o2, Bv, dv, eB, M'⟩ := M.txe (M.d1 3 rfl) hv
    replace M := M'.drew; clear M'
    refine drT (Kp w gs [(g2, 26, bkcs a p), (g3, 26, bkcs b r)] [.loc ((⟨b1, o1, none⟩ : Addr).add (i * 1)) [.slice Au u.length cu], .loc ((⟨b2, o2, none⟩ : Addr).add (i * 1)) [.slice Bv v.length dv]]) (.take 0 (.take 1 (.take 2 (.take 3 (.take 4 (.take 5 (.take 6 (.take 7 (.take 8 (.take 9 (.take 10 (.take 11 (.take 12 (.nil)))))))))))))) (by kernel_rfl) (M.kp (by simp) (by simp)) ?_
    refine p_fld fB4 rfl ?_
    refine t_load agg_tss rfl (fun W K => (K.B 0 rfl).at_ rfl) ?_
    refine p_at (i := i) sltss (by show Value.slice p.A4 a.txs.length p.c4 = _; rw [eA]) rfl rfl hlt ?_
    refine t_load agg_ts rfl (fun W K => K.lc 0 rfl 0 _ rfl) ?_
    refine p_len slts rfl ?_
    refine p_fld fB4 rfl ?_
    refine t_load agg_tss rfl (fun W K => (K.B 1 rfl).at_ rfl) ?_
    refine p_at (i := i) sltss (by show Value.slice r.A4 b.txs.length r.c4 = _; rw [eB]) rfl rfl (by omega) ?_
    refine t_load agg_ts rfl (fun W K => K.lc 1 rfl 0 _ rfl) ?_
    refine p_len slts rfl ?_
    refine p_ne rfl rfl (fun q5 => ?_) (fun q5 => ?_)
    rotate_left
    · exact ⟨false, rfl, ⟨(fun h => by cases h), fun e => absurd (congrArg Bk.txs e) (take_ne hu hv (fun e => q5 (by rw [e])))⟩, M.below⟩
    have n5 : u.length = v.length := by have h : (u.length : Int) = (v.length : Int) := q5; omega
    refine cutS Unit (fun _ W => St w gs W [(g3, 26, bkcs b r), (g2, 26, bkcs a p)] [] [.loc ((⟨b2, o2, none⟩ : Addr).add (i * 1)) [.slice Bv v.length dv], .dat false [dTx v] [.slice Bv v.length dv], .loc ((⟨b1, o1, none⟩ : Addr).add (i * 1)) [.slice Au u.length cu], .dat false [dTx u] [.slice Au u.length cu], .dat false [dTxs a.txs] [.slice p.A4 a.txs.length p.c4], .dat false [dTxs b.txs] [.slice r.A4 b.txs.length r.c4], .dat false [dOuts a.outs] [.slice p.A5 a.outs.length p.c5], .dat false [dOuts b.outs] [.slice r.A5 b.outs.length r.c5]]) (fun _ => [(2, .pointer (some ⟨g2, 0, none⟩)), (3, .pointer (some ⟨g3, 0, none⟩)), (5, .int .i64 i)]) ?_ ?_
    · exact ⟨(), M, (by repeat (first | exact trivial | refine ⟨rfl, ?_⟩))⟩
    clear M
    rintro - E W M
    refine lp Nat (fun k W => k ≤ u.length ∧ u.take k = v.take k ∧ St w gs W [(g3, 26, bkcs b r), (g2, 26, bkcs a p)] [] [.loc ((⟨b2, o2, none⟩ : Addr).add (i * 1)) [.slice Bv v.length dv], .dat false [dTx v] [.slice Bv v.length dv], .loc ((⟨b1, o1, none⟩ : Addr).add (i * 1)) [.slice Au u.length cu], .dat false [dTx u] [.slice Au u.length cu], .dat false [dTxs a.txs] [.slice p.A4 a.txs.length p.c4], .dat false [dTxs b.txs] [.slice r.A4 b.txs.length r.c4], .dat false [dOuts a.outs] [.slice p.A5 a.outs.length p.c5], .dat false [dOuts b.outs] [.slice r.A5 b.outs.length r.c5]])
      (fun k => [(2, .pointer (some ⟨g2, 0, none⟩)), (3, .pointer (some ⟨g3, 0, none⟩)), (5, .int .i64 i), (6, .int .i64 k)]) (fun k => u.length - k) 0 ⟨Nat.zero_le _, rfl, M⟩ (by repeat (first | exact trivial | refine ⟨rfl, ?_⟩)) ?_
    clear M
    rintro k E W ⟨hk, htk, M⟩
    refine p_fld fB4 rfl ?_
    refine v_load agg_tss rfl ((M.B 1 rfl).at_ rfl) ?_
    refine p_at (i := i) sltss (by show Value.slice p.A4 a.txs.length p.c4 = _; rw [eA]) rfl rfl hlt ?_
    refine v_load agg_ts rfl (M.lc 2 rfl 0 _ rfl) ?_
    refine p_len slts rfl ?_
    refine p_lt rfl rfl (fun hlt2 => ?_) (fun hge => ?_)
    rotate_left
    · have hk : k = u.length := by have h : ¬ (k : Int) < (u.length : Int) := hge; omega
      subst hk
      rw [List.take_of_length_le (Nat.le_refl _), List.take_of_length_le (by omega)] at htk
      refine p_addN (b := 1) rfl rfl (by omega) ?_
      exact ⟨i + 1, ⟨by omega, take_ext ht hu hv htk, M.fsub _ (by simp)⟩, (by repeat (first | exact trivial | refine ⟨rfl, ?_⟩)), by omega⟩
    have hlt2 : k < u.length := by have h : (k : Int) < (u.length : Int) := hlt2; omega
    obtain ⟨x, hx⟩ : ∃ x, u[k]? = some x := ⟨_, List.getElem?_eq_getElem hlt2⟩
    obtain ⟨y, hy⟩ : ∃ y, v[k]? = some y := ⟨_, List.getElem?_eq_getElem (by omega)⟩
    obtain ⟨b3, o3, rfl, M'⟩ := M.stre (M.d1 3 rfl) hx
    replace M := M'; clear M'
    obtain ⟨b4, o4, rfl, M'⟩ := M.stre (M.d1 2 rfl) hy
    replace M := M'.drew; clear M'
    refine drT (Kp w gs [(g2, 26, bkcs a p), (g3, 26, bkcs b r)] [.loc ((⟨b1, o1, none⟩ : Addr).add (i * 1)) [.slice (some ⟨b3, o3, none⟩) u.length cu], .loc ((⟨b2, o2, none⟩ : Addr).add (i * 1)) [.slice (some ⟨b4, o4, none⟩) v.length dv], .loc ((⟨b3, o3, none⟩ : Addr).add (k * 1)) [.string (sb x)], .loc ((⟨b4, o4, none⟩ : Addr).add (k * 1)) [.string (sb y)]]) (.take 0 (.take 1 (.take 2 (.take 3 (.take 4 (.take 5 (.take 6 (.take 7 (.take 8 (.take 9 (.take 10 (.take 11 (.take 12 (.take 13 (.take 14 (.take 15 (.take 16 (.nil)))))))))))))))))) (by kernel_rfl) (M.kp (by simp) (by simp)) ?_
    refine p_fld fB4 rfl ?_
    refine t_load agg_tss rfl (fun W K => (K.B 0 rfl).at_ rfl) ?_
    refine p_at (i := i) sltss (by show Value.slice p.A4 a.txs.length p.c4 = _; rw [eA]) rfl rfl hlt ?_
    refine t_load agg_ts rfl (fun W K => K.lc 0 rfl 0 _ rfl) ?_
    refine p_at (i := k) slts rfl rfl rfl hlt2 ?_
    refine t_load agg_st rfl (fun W K => K.lc 2 rfl 0 _ rfl) ?_
    refine p_fld fB4 rfl ?_
    refine t_load agg_tss rfl (fun W K => (K.B 1 rfl).at_ rfl) ?_
    refine p_at (i := i) sltss (by show Value.slice r.A4 b.txs.length r.c4 = _; rw [eB]) rfl rfl (by omega) ?_
    refine t_load agg_ts rfl (fun W K => K.lc 1 rfl 0 _ rfl) ?_
    refine p_at (i := k) slts rfl rfl rfl (by omega) ?_
    refine t_load agg_st rfl (fun W K => K.lc 3 rfl 0 _ rfl) ?_
    refine p_sne rfl rfl (fun he => ?_) (fun he => ?_)
    rotate_left
    · exact ⟨false, rfl, ⟨(fun h => by cases h), fun e => absurd (congrArg Bk.txs e) (take_ne hu hv (take_ne hx hy (fun e => he (by rw [e]))))⟩, M.below⟩
    refine p_addN (b := 1) rfl rfl (by omega) ?_
    exact ⟨k + 1, ⟨by omega, take_ext htk hx hy (sb_inj.1 he), M.fsub _ (by simp)⟩, (by repeat (first | exact trivial | refine ⟨rfl, ?_⟩)), by omega⟩
  clear M
  rintro - E W ⟨ht4, M⟩
  refine p_fld fB5 rfl ?_
  refine v_load agg_os rfl ((M.B 1 rfl).at_ rfl) ?_
  refine p_fld fB5 rfl ?_
  refine v_load agg_os rfl ((M.B 0 rfl).at_ rfl) ?_
  refine cc is_r20all (r20all_any a.outs b.outs _ _ _ _ _ _ _ _ (M.d1 0 rfl) (M.d1 1 rfl) M.olt hl3 hl4 hlb.2.2.2) ?_
  rintro e W ⟨q, rfl, hq, hb⟩
  replace M := M.call hb
  clear hb
  refine ⟨_, rfl, ?_⟩
  exact ⟨q, rfl, ⟨fun h => Bk.ext' q0 hq1 hq2 hq3 ht4 (hq.1 h) hq6, fun e => hq.2 (by rw [e])⟩, M.below⟩
end Go.Proofs.YtejbljopighenaaDoor
namespace Go.Proofs.YtejbljopighenaaDoor
open Go.RowKit
theorem part_s {s a0 a1 a2 a3 a4 a5 a6 : List UInt8} {T : List (List (List UInt8))} {O : List Out} (h : spE s = 0 ∧ gE a0 0 = 0 ∧ gN a0 0 ≤ 9223372036854775807) (ht : txsP a4 = some T) (ho : outsP a5 = some O) : partBk s a0 a1 a2 a3 a4 a5 a6 = some ⟨gN a0 0, a1, a2, a3, T, O, a6⟩ := by unfold partBk; rw [if_pos h, ht, ho]; rfl
theorem RdL.ht {W : World} {F : Nat → Prop} {d : D} {ds : List D} {u : Value} {us : List Value} (h : RdL W F (d :: ds) (u :: us)) : RdD W F d u ∧ RdL W F ds us := by
  obtain ⟨v, vs, e, h1, h2⟩ := h.uncons
  injection e with e1 e2
  subst e1; subst e2
  exact ⟨h1, h2⟩
end Go.Proofs.YtejbljopighenaaDoor
