/- Reference 07's walks: Same, Much. append onto a row: what the old cells still hold. No program in sight. Operations on arrays. No program in sight. Words turned to the right: the walks of bits.RotateLeft32 and of digest's turn. SHA-256, plainly. SHA-256, plainly: rounds. Words of 32 bits: single operations. Reference 05: the walks of right, word, round, constants, Sum: they come to SHA-256 as it stands in ShaH. Reference 05: the walks of constants and Sum: SHA-256. Numbers and bytes in one way: the plain functions and their laws. Numbers and bytes in one way: the walks of package vint. Numbers and bytes in one way: the walk of vint.Get. Numbers and bytes in one way: the walks of vint.GetBytes, PutInt. -/
import Derived.Test.YtliccofjlheceaaG07
import Derived.Test.YtliccofjlheceaaG04
import Derived.Test.YtliccofjlheceaaG03
import Derived.Laws.BitsAllLaws
import Derived.WalkSmall
namespace Go.Proofs.Ytliccofjlheceaa
open Go.RowKit
def RSameOk (a : Nd) : Prop := ∀ (b : Nd) (gs : List (Option Nat)) (w : World) (ca cb : List Value), RdL w (Fd w gs) (dN a) ca → RdL w (Fd w gs) (dN b) cb → (∀ b, some b ∈ gs → b < w.heap.size) → sz b ≤ 1000000000 →
  Calls Try.prog 25 #[.agg ca.toArray, .agg cb.toArray] w fun e w' => ∃ q : Bool, e = .returned (.bool q) ∧ (q = true ↔ a = b) ∧ Below w.heap.size w w'
theorem Nd.ext' {a b : Nd} (h1 : a.kind = b.kind) (h2 : a.path = b.path) (h3 : a.has = b.has) (h4 : a.val = b.val) (h5 : a.kids = b.kids) (h6 : a.hash = b.hash) : a = b := by
  rw [Nd.eta a, Nd.eta b, h1, h2, h3, h4, h5, h6]
set_option maxRecDepth 100000 in
set_option maxHeartbeats 2000000 in
theorem rsame_step (N : Nat) (ih : ∀ k : Nd, sz k < N → RSameOk k) (a : Nd) (ht : sz a ≤ N) (hN : N ≤ 1000000000) : RSameOk a := by
  intro b gs w ca cb hra hrb hgs hzb
  refine calls_ev (args := [.agg ca.toArray, .agg cb.toArray]) mixed Try.func25 rfl (by kernel_rfl) ?_
  obtain ⟨Ap, cp, Av, cv, Ak, ck, Ah, ch, rfl, r1, r3, r4, r5⟩ := hra.node
  obtain ⟨Bp, dp, Bv, dv, Bk, dk, Bh, dh, rfl, s1, s3, s4, s5⟩ := hrb.node
  have hsz := sz_eq a
  have hsl := szs_len a.kids
  have hsz' := sz_eq b
  have hsl' := szs_len b.kids
  have M := ((((((((St.start hgs).addD r5).addD r3).addD r1).addD s5).addD s3).addD s1).addD s4).addD r4
  clear r1 r3 r4 r5 hra s1 s3 s4 s5 hrb
  refine ev_assoc ?_
  refine cutS (Nat × Nat) (fun s W => St w gs W [(s.2, 38, ncs b Bp dp Bv dv Bk dk Bh dh), (s.1, 38, ncs a Ap cp Av cv Ak ck Ah ch)] [] [.dat false [dKs a.kids] [.slice Ak a.kids.length ck], .dat false [dKs b.kids] [.slice Bk b.kids.length dk]] ∧ a.kids.length = b.kids.length ∧ (a.kids = b.kids → a = b)) (fun s => [(2, .pointer (some ⟨s.1, 0, none⟩)), (3, .pointer (some ⟨s.2, 0, none⟩))]) ?_ ?_
  ·
    refine s_box (ncs a Ap cp Av cv Ak ck Ah ch) M rfl ?_
    clear M
    rintro g2 W M
    refine s_box (ncs b Bp dp Bv dv Bk dk Bh dh) M rfl ?_
    clear M
    rintro g3 W M
    have hB := M.B 0 rfl
    have hC := M.B 1 rfl
    unfold ncs at hB hC
    have hbel := M.below
    repeat' first
      | (refine p_fld fN0 rfl ?_)
      | (refine v_load agg_int rfl (hB.at_ rfl) ?_)
      | (refine v_load agg_int rfl (hC.at_ rfl) ?_)
    refine p_ne rfl rfl (fun hk => ?_) (fun hk => ?_)
    rotate_left
    ·
      exact ⟨false, rfl, ⟨(fun h => by cases h), fun h => absurd (by rw [h]) hk⟩, hbel⟩
    repeat' first
      | (refine p_fld fN2 rfl ?_)
      | (refine v_load agg_bo rfl (hB.at_ rfl) ?_)
      | (refine v_load agg_bo rfl (hC.at_ rfl) ?_)
    refine p_bneC u_bool rfl rfl (fun hh => ?_) (fun hh => ?_)
    rotate_left
    ·
      exact ⟨false, rfl, ⟨(fun h => by cases h), fun h => absurd (by rw [h]) hh⟩, hbel⟩
    repeat' first
      | (refine p_fld fN1 rfl ?_)
      | (refine v_load agg_b rfl (hB.at_ rfl) ?_)
      | (refine v_load agg_b rfl (hC.at_ rfl) ?_)
    obtain ⟨q, hq, hc⟩ := same_tf (c1 := cp) (c2 := dp) (M.rdb 5 rfl).2.2 (M.rdb 2 rfl).2.2
    cases q with
    | false =>
      refine cc is_same0 hc ?_
      rintro e W' ⟨rfl, rfl⟩
      refine ⟨_, rfl, ?_⟩
      refine p_not rfl ?_
      exact ⟨false, rfl, ⟨(fun h => by cases h), fun h => absurd (hq.2 (by rw [h])) (by decide)⟩, hbel⟩
    | true =>
    have hp := hq.1 rfl
    refine cc is_same0 hc ?_
    rintro e W' ⟨rfl, rfl⟩
    refine ⟨_, rfl, ?_⟩
    refine p_not rfl ?_
    clear hq hc
    repeat' first
      | (refine p_fld fN3 rfl ?_)
      | (refine v_load agg_b rfl (hB.at_ rfl) ?_)
      | (refine v_load agg_b rfl (hC.at_ rfl) ?_)
    obtain ⟨q, hq, hc⟩ := same_tf (c1 := cv) (c2 := dv) (M.rdb 6 rfl).2.2 (M.rdb 3 rfl).2.2
    cases q with
    | false =>
      refine cc is_same0 hc ?_
      rintro e W' ⟨rfl, rfl⟩
      refine ⟨_, rfl, ?_⟩
      refine p_not rfl ?_
      exact ⟨false, rfl, ⟨(fun h => by cases h), fun h => absurd (hq.2 (by rw [h])) (by decide)⟩, hbel⟩
    | true =>
    have hv := hq.1 rfl
    refine cc is_same0 hc ?_
    rintro e W' ⟨rfl, rfl⟩
    refine ⟨_, rfl, ?_⟩
    refine p_not rfl ?_
    clear hq hc
    repeat' first
      | (refine p_fld fN5 rfl ?_)
      | (refine v_load agg_b rfl (hB.at_ rfl) ?_)
      | (refine v_load agg_b rfl (hC.at_ rfl) ?_)
    obtain ⟨q, hq, hc⟩ := same_tf (c1 := ch) (c2 := dh) (M.rdb 7 rfl).2.2 (M.rdb 4 rfl).2.2
    cases q with
    | false =>
      refine cc is_same0 hc ?_
      rintro e W' ⟨rfl, rfl⟩
      refine ⟨_, rfl, ?_⟩
      refine p_not rfl ?_
      exact ⟨false, rfl, ⟨(fun h => by cases h), fun h => absurd (hq.2 (by rw [h])) (by decide)⟩, hbel⟩
    | true =>
    have hs := hq.1 rfl
    refine cc is_same0 hc ?_
    rintro e W' ⟨rfl, rfl⟩
    refine ⟨_, rfl, ?_⟩
    refine p_not rfl ?_
    clear hq hc
    repeat' first
      | (refine p_fld fN4 rfl ?_)
      | (refine v_load agg_ns rfl (hB.at_ rfl) ?_)
      | (refine v_load agg_ns rfl (hC.at_ rfl) ?_)
    repeat' first
      | (refine p_fld fN0 rfl ?_)
      | (refine p_fld fN1 rfl ?_)
      | (refine p_fld fN2 rfl ?_)
      | (refine p_fld fN3 rfl ?_)
      | (refine p_fld fN4 rfl ?_)
      | (refine p_fld fN5 rfl ?_)
      | (refine v_load agg_int rfl (hB.at_ rfl) ?_)
      | (refine v_load agg_b rfl (hB.at_ rfl) ?_)
      | (refine v_load agg_bo rfl (hB.at_ rfl) ?_)
      | (refine v_load agg_ns rfl (hB.at_ rfl) ?_)
      | (refine p_len slb rfl ?_)
      | (refine p_len sln rfl ?_)
    repeat' first
      | (refine p_fld fN0 rfl ?_)
      | (refine p_fld fN1 rfl ?_)
      | (refine p_fld fN2 rfl ?_)
      | (refine p_fld fN3 rfl ?_)
      | (refine p_fld fN4 rfl ?_)
      | (refine p_fld fN5 rfl ?_)
      | (refine v_load agg_int rfl (hC.at_ rfl) ?_)
      | (refine v_load agg_b rfl (hC.at_ rfl) ?_)
      | (refine v_load agg_bo rfl (hC.at_ rfl) ?_)
      | (refine v_load agg_ns rfl (hC.at_ rfl) ?_)
      | (refine p_len slb rfl ?_)
      | (refine p_len sln rfl ?_)
    refine p_ne rfl rfl (fun hl => ?_) (fun hl => ?_)
    · exact ⟨(g2, g3), ⟨M.fsub _ (by simp), by omega, fun h => Nd.ext' hk hp hh hv h hs⟩, (by repeat (first | exact trivial | refine ⟨rfl, ?_⟩))⟩
    · exact ⟨false, rfl, ⟨(fun h => by cases h), fun h => absurd (by rw [h]) hl⟩, hbel⟩
  · clear M
    rintro ⟨g2, g3⟩ B W ⟨M, hl, hab⟩
    dsimp only at M
    refine lp Nat (fun i W => i ≤ a.kids.length ∧ St w gs W [(g3, 38, ncs b Bp dp Bv dv Bk dk Bh dh), (g2, 38, ncs a Ap cp Av cv Ak ck Ah ch)] [] [.dat false [dKs a.kids] [.slice Ak a.kids.length ck], .dat false [dKs b.kids] [.slice Bk b.kids.length dk]] ∧ a.kids.take i = b.kids.take i) (fun i => [(2, .pointer (some ⟨g2, 0, none⟩)), (3, .pointer (some ⟨g3, 0, none⟩)), (5, .int .i64 i)]) (fun i => a.kids.length - i) 0 ⟨Nat.zero_le _, M, rfl⟩ (by repeat (first | exact trivial | refine ⟨rfl, ?_⟩)) ?_
    clear M
    rintro i E5 W5 ⟨hi, M, hrs⟩
    refine p_fld fN4 rfl ?_
    refine v_load agg_ns rfl (by first | exact (M.B 0 rfl).at_ rfl | exact (M.B 1 rfl).at_ rfl | exact (M.B 2 rfl).at_ rfl | exact (M.B 3 rfl).at_ rfl | exact (M.B 4 rfl).at_ rfl | exact M.lc 0 rfl _ _ rfl | exact M.lc 1 rfl _ _ rfl | exact M.lc 2 rfl _ _ rfl | exact M.lc 3 rfl _ _ rfl | exact M.lc 4 rfl _ _ rfl | exact M.lc 5 rfl _ _ rfl | exact M.lc 6 rfl _ _ rfl | exact M.lc 7 rfl _ _ rfl) ?_
    refine p_len sln rfl ?_
    refine p_lt rfl rfl (fun hlt => ?_) (fun hge => ?_)
    · obtain ⟨k, hki⟩ : ∃ k, a.kids[i]? = some k := ⟨_, List.getElem?_eq_getElem (by omega)⟩
      obtain ⟨k', hki'⟩ : ∃ k, b.kids[i]? = some k := ⟨_, List.getElem?_eq_getElem (by omega)⟩
      have hkz := szs_mem (List.mem_of_getElem? hki)
      have hkz' := szs_mem (List.mem_of_getElem? hki')
      replace M := M.drew
      obtain ⟨b1, o1, es, rfl, hel, M'⟩ := M.kid (M.d1 0 rfl) hki
      replace M := M'; clear M'
      obtain ⟨b2, o2, es', rfl, hel', M'⟩ := M.kid (M.d1 3 rfl) hki'
      replace M := M'; clear M'
      refine drT (Kp w gs [(g3, 38, ncs b Bp dp Bv dv (some ⟨b2, o2, none⟩) dk Bh dh), (g2, 38, ncs a Ap cp Av cv (some ⟨b1, o1, none⟩) ck Ah ch)] [.loc ((⟨b1, o1, none⟩ : Addr).add (i * 6)) es, .loc ((⟨b2, o2, none⟩ : Addr).add (i * 6)) es']) (.take 0 (.take 1 (.take 2 (.take 3 (.take 4 (.take 5 (.take 6 (.take 7 (.take 8 (.take 9 (.one 10 (.take 11 (.nil))))))))))))) (by kernel_rfl) (M.kp (by simp) (by simp)) ?_
      refine p_fld fN4 rfl ?_
      refine t_load agg_ns rfl (fun W K => by first | exact (K.B 0 rfl).at_ rfl | exact (K.B 1 rfl).at_ rfl | exact (K.B 2 rfl).at_ rfl | exact (K.B 3 rfl).at_ rfl | exact K.lc 0 rfl _ _ rfl | exact K.lc 1 rfl _ _ rfl | exact K.lc 2 rfl _ _ rfl | exact K.lc 3 rfl _ _ rfl) ?_
      refine p_at sln rfl rfl rfl (by omega) ?_
      refine t_loadN es agg_nd rfl hel (fun W K => K.lc 0 rfl) ?_
      refine p_fld fN4 rfl ?_
      refine t_load agg_ns rfl (fun W K => by first | exact (K.B 0 rfl).at_ rfl | exact (K.B 1 rfl).at_ rfl | exact (K.B 2 rfl).at_ rfl | exact (K.B 3 rfl).at_ rfl | exact K.lc 0 rfl _ _ rfl | exact K.lc 1 rfl _ _ rfl | exact K.lc 2 rfl _ _ rfl | exact K.lc 3 rfl _ _ rfl) ?_
      refine p_at sln rfl rfl rfl (by omega) ?_
      refine t_loadN es' agg_nd rfl hel' (fun W K => K.lc 1 rfl) ?_
      refine cc is_r7same (ih k (by omega) k' _ _ es es' (M.da 3 rfl) (M.da 1 rfl) M.olt (by omega)) ?_
      rintro e W ⟨q, rfl, hq, hb⟩
      replace M := M.call hb
      refine ⟨_, rfl, (M.kp (by simp) (by simp)), ?_⟩
      refine p_not rfl ?_
      cases q with
      | false =>
        refine ⟨false, rfl, ⟨(fun h => by cases h), fun h => ?_⟩, M.below⟩
        rw [h, hki'] at hki
        injection hki with hki
        exact hq.2 hki.symm
      | true =>
        have hkk := hq.1 rfl
        refine p_addN (b := 1) rfl rfl (by omega) ?_
        refine ⟨i + 1, ⟨by omega, M.fsub _ (by simp), ?_⟩, (by repeat (first | exact trivial | refine ⟨rfl, ?_⟩)), by omega⟩
        have h1 := List.getElem?_eq_some_iff.1 hki
        have h2 := List.getElem?_eq_some_iff.1 hki'
        rw [List.take_succ_eq_append_getElem h1.1, List.take_succ_eq_append_getElem h2.1, h1.2, h2.2, hrs, hkk]
    · refine ⟨true, rfl, ⟨fun _ => hab ?_, fun _ => rfl⟩, M.below⟩
      rw [List.take_of_length_le (by omega), List.take_of_length_le (by omega)] at hrs
      exact hrs
theorem rsame_any : ∀ (N : Nat), N ≤ 1000000000 → ∀ t : Nd, sz t < N → RSameOk t
  | 0, _, t, h => by omega
  | N + 1, hN, t, h => rsame_step N (fun k hk => rsame_any N (by omega) k hk) t (by omega) (by omega)
mutual
def muchP : Nd → Nat → Nat
  | .mk _ p _ v ks h, most => muchK ks most (1 + (p.length + v.length + h.length) / 50)
def muchK : List Nd → Nat → Nat → Nat
  | [], _, m => m
  | k :: ks, most, m => if m < most then muchK ks most (m + muchP k (most - m)) else m
end
theorem muchP_eq (t : Nd) (most : Nat) : muchP t most = muchK t.kids most (1 + (t.path.length + t.val.length + t.hash.length) / 50) := by cases t; rw [muchP]; rfl
mutual
theorem much_sz : ∀ (t : Nd) (most : Nat), muchP t most < most → sz t ≤ 55 * muchP t most
  | .mk _ p _ v ks h, most, hm => by
    rw [muchP] at hm ⊢
    rw [sz]
    have := muchK_sz ks most _ hm
    omega
theorem muchK_sz : ∀ (ks : List Nd) (most m : Nat), muchK ks most m < most → szs ks + 55 * m ≤ 55 * muchK ks most m
  | [], most, m, _ => by rw [muchK, szs]; omega
  | k :: ks, most, m, hm => by
    rw [muchK] at hm ⊢
    rw [szs]
    by_cases h : m < most
    · rw [if_pos h] at hm ⊢
      have h1 := muchK_sz ks most _ hm
      have h2 : m + muchP k (most - m) ≤ muchK ks most (m + muchP k (most - m)) := muchK_ge ks most _
      have h3 := much_sz k (most - m) (by omega)
      omega
    · rw [if_neg h] at hm; omega
theorem muchK_ge : ∀ (ks : List Nd) (most m : Nat), m ≤ muchK ks most m
  | [], most, m => by rw [muchK]; omega
  | k :: ks, most, m => by
    rw [muchK]
    split
    · have := muchK_ge ks most (m + muchP k (most - m)); omega
    · omega
end
mutual
theorem much_le : ∀ (t : Nd) (most : Nat), muchP t most ≤ sz t
  | .mk _ p _ v ks h, most => by
    rw [muchP, sz]
    have := muchK_le ks most (1 + (p.length + v.length + h.length) / 50)
    omega
theorem muchK_le : ∀ (ks : List Nd) (most m : Nat), muchK ks most m ≤ m + szs ks
  | [], most, m => by rw [muchK]; omega
  | k :: ks, most, m => by
    rw [muchK, szs]
    split
    · have := muchK_le ks most (m + muchP k (most - m))
      have := much_le k (most - m)
      omega
    · omega
end
def MuchOk (t : Nd) : Prop := ∀ (gs : List (Option Nat)) (w : World) (cs : List Value) (most : Nat), RdL w (Fd w gs) (dN t) cs → (∀ b, some b ∈ gs → b < w.heap.size) → most ≤ 1000000 →
  Calls Try.prog 42 #[.agg cs.toArray, .int .i64 most] w fun e w' => e = .returned (.int .i64 (muchP t most)) ∧ Below w.heap.size w w'
set_option maxRecDepth 100000 in
set_option maxHeartbeats 1000000 in
theorem much_step (N : Nat) (ih : ∀ k : Nd, sz k < N → MuchOk k) (t : Nd) (ht : sz t ≤ N) (hN : N ≤ 1000000000) : MuchOk t := by
  intro gs w cs most hr hgs hmost
  refine calls_ev (args := [.agg cs.toArray, .int .i64 most]) mixed Try.func42 rfl (by kernel_rfl) ?_
  obtain ⟨Ap, cp, Av, cv, Ak, ck, Ah, ch, rfl, r1, r3, r4, r5⟩ := hr.node
  have hsz := sz_eq t
  have hsl := szs_len t.kids
  have M := (St.start hgs).addD r4
  clear r1 r3 r4 r5 hr
  obtain ⟨T, hT⟩ : ∃ T, T = muchP t most := ⟨_, rfl⟩
  rw [← hT]
  rw [muchP_eq] at hT
  refine s_box (ncs t Ap cp Av cv Ak ck Ah ch) M rfl ?_
  clear M
  rintro g2 W M
  have hB := M.B 0 rfl
  unfold ncs at hB
  repeat' first
    | (refine p_fld fN0 rfl ?_)
    | (refine p_fld fN1 rfl ?_)
    | (refine p_fld fN2 rfl ?_)
    | (refine p_fld fN3 rfl ?_)
    | (refine p_fld fN4 rfl ?_)
    | (refine p_fld fN5 rfl ?_)
    | (refine v_load agg_int rfl (hB.at_ rfl) ?_)
    | (refine v_load agg_b rfl (hB.at_ rfl) ?_)
    | (refine v_load agg_bo rfl (hB.at_ rfl) ?_)
    | (refine v_load agg_ns rfl (hB.at_ rfl) ?_)
    | (refine p_len slb rfl ?_)
    | (refine p_len sln rfl ?_)
  refine p_addN rfl rfl (by omega) ?_
  repeat' first
    | (refine p_fld fN0 rfl ?_)
    | (refine p_fld fN1 rfl ?_)
    | (refine p_fld fN2 rfl ?_)
    | (refine p_fld fN3 rfl ?_)
    | (refine p_fld fN4 rfl ?_)
    | (refine p_fld fN5 rfl ?_)
    | (refine v_load agg_int rfl (hB.at_ rfl) ?_)
    | (refine v_load agg_b rfl (hB.at_ rfl) ?_)
    | (refine v_load agg_bo rfl (hB.at_ rfl) ?_)
    | (refine v_load agg_ns rfl (hB.at_ rfl) ?_)
    | (refine p_len slb rfl ?_)
    | (refine p_len sln rfl ?_)
  refine p_addN rfl rfl (by omega) ?_
  refine p_quoN (b := 50) rfl rfl (by decide) (by omega) ?_
  refine p_addN (a := 1) rfl rfl (by omega) ?_
  obtain ⟨m0, hm0⟩ : ∃ m0, m0 = 1 + (t.path.length + t.val.length + t.hash.length) / 50 := ⟨_, rfl⟩
  have hm0l : m0 + szs t.kids ≤ sz t := by omega
  rw [← hm0] at hT ⊢
  clear hB
  refine lp (Nat × Nat) (fun s W => s.1 ≤ t.kids.length ∧ St w gs W [(g2, 38, ncs t Ap cp Av cv Ak ck Ah ch)] [] [.dat false [dKs t.kids] [.slice Ak t.kids.length ck]] ∧ T = muchK (t.kids.drop s.1) most s.2 ∧ s.2 + szs (t.kids.drop s.1) ≤ sz t) (fun s => [(1, .int .i64 most), (2, .pointer (some ⟨g2, 0, none⟩)), (5, .int .i64 s.2), (6, .int .i64 s.1)]) (fun s => t.kids.length - s.1) (0, m0) ⟨Nat.zero_le _, M, hT, by simp only [List.drop_zero]; exact hm0l⟩ (by repeat (first | exact trivial | refine ⟨rfl, ?_⟩)) ?_
  clear M
  rintro ⟨i, m⟩ E5 W5 ⟨hi, M, hTi, hbd⟩
  dsimp only at hi hTi hbd
  have hB := M.B 0 rfl
  unfold ncs at hB
  repeat' first
    | (refine p_fld fN0 rfl ?_)
    | (refine p_fld fN1 rfl ?_)
    | (refine p_fld fN2 rfl ?_)
    | (refine p_fld fN3 rfl ?_)
    | (refine p_fld fN4 rfl ?_)
    | (refine p_fld fN5 rfl ?_)
    | (refine v_load agg_int rfl (hB.at_ rfl) ?_)
    | (refine v_load agg_b rfl (hB.at_ rfl) ?_)
    | (refine v_load agg_bo rfl (hB.at_ rfl) ?_)
    | (refine v_load agg_ns rfl (hB.at_ rfl) ?_)
    | (refine p_len slb rfl ?_)
    | (refine p_len sln rfl ?_)
  refine p_lt rfl rfl (fun hlt => ?_) (fun hge => ?_)
  · dsimp only at hlt
    obtain ⟨k, hki⟩ : ∃ k, t.kids[i]? = some k := ⟨_, List.getElem?_eq_getElem (by omega)⟩
    have hdr : t.kids.drop i = k :: t.kids.drop (i + 1) := by
      have h1 := (List.getElem?_eq_some_iff.1 hki)
      rw [List.drop_eq_getElem_cons h1.1, h1.2]
    have hkz := szs_mem (List.mem_of_getElem? hki)
    rw [hdr] at hTi hbd
    unfold muchK at hTi
    unfold szs at hbd
    refine p_lt rfl rfl (fun hm => ?_) (fun hm => ?_)
    · dsimp only at hm
      rw [if_pos (by omega)] at hTi
      obtain ⟨b, off, es, e0, hel, M'⟩ := M.kid (by first | with_reducible exact M.d1_0 | with_reducible exact M.d1_1 | with_reducible exact M.d1_2 | with_reducible exact M.d1_3 | with_reducible exact M.d1_4 | with_reducible exact M.d1_5 | with_reducible exact M.d1_6 | with_reducible exact M.d1_7 | with_reducible exact M.d1_8 | with_reducible exact M.d1_9 | with_reducible exact M.d1_10 | with_reducible exact M.d1_11) hki
      replace M := M'; clear M'
      repeat' first
        | (refine p_fld fN0 rfl ?_)
        | (refine p_fld fN1 rfl ?_)
        | (refine p_fld fN2 rfl ?_)
        | (refine p_fld fN3 rfl ?_)
        | (refine p_fld fN4 rfl ?_)
        | (refine p_fld fN5 rfl ?_)
        | (refine v_load agg_int rfl (hB.at_ rfl) ?_)
        | (refine v_load agg_b rfl (hB.at_ rfl) ?_)
        | (refine v_load agg_bo rfl (hB.at_ rfl) ?_)
        | (refine v_load agg_ns rfl (hB.at_ rfl) ?_)
        | (refine p_len slb rfl ?_)
        | (refine p_len sln rfl ?_)
      refine p_at sln (by show (Value.slice Ak t.kids.length ck) = _; rw [e0]) rfl rfl (by omega) ?_
      refine v_loadN es agg_nd rfl hel (M.lc 0 rfl) ?_
      refine p_subN rfl rfl (by dsimp only; omega) (by omega) ?_
      refine cc is_r7much (ih k (by omega) _ _ es (most - m) (by first | with_reducible exact M.da_0 | with_reducible exact M.da_1 | with_reducible exact M.da_2 | with_reducible exact M.da_3 | with_reducible exact M.da_4 | with_reducible exact M.da_5 | with_reducible exact M.da_6 | with_reducible exact M.da_7 | with_reducible exact M.da_8 | with_reducible exact M.da_9 | with_reducible exact M.da_10 | with_reducible exact M.da_11) M.olt (by omega)) ?_
      rintro e W ⟨rfl, hb⟩
      refine ⟨_, rfl, ?_⟩
      replace M := M.call hb
      have hkl := much_le k (most - m)
      refine p_addN rfl rfl (by dsimp only; omega) ?_
      refine p_addN (b := 1) rfl rfl (by dsimp only; omega) ?_
      exact ⟨(i + 1, m + muchP k (most - m)), ⟨by dsimp only; omega, M.fsub _ (by simp), hTi, by dsimp only; omega⟩, (by repeat (first | exact trivial | refine ⟨rfl, ?_⟩)), by dsimp only; omega⟩
    · dsimp only at hm
      rw [if_neg (by omega)] at hTi
      exact ⟨by rw [hTi]; rfl, M.below⟩
  · dsimp only at hge
    rw [List.drop_of_length_le (by omega)] at hTi
    unfold muchK at hTi
    exact ⟨by rw [hTi]; rfl, M.below⟩
theorem much_any : ∀ (N : Nat), N ≤ 1000000000 → ∀ t : Nd, sz t < N → MuchOk t
  | 0, _, t, h => by omega
  | N + 1, hN, t, h => much_step N (fun k hk => much_any N (by omega) k hk) t (by omega) (by omega)
end Go.Proofs.Ytliccofjlheceaa
namespace Go.Proofs.Ytliccofjlheceaa
open Go.RowKit
/-- An element's place, reckoned. -/
theorem p_atM {P : Program} {E : Env} {d : Option Nat} {ty : TypeId} {p : String} {af : Array Edge} {g : Option (Nat × Bool)} {x y : Operand} {t : TypeId} {kd : IntKind} {k : Value → Prop} {b o q n c i : Nat} {e : TypeId} {s : Nat} {j : Int} (hT : slOf P t = some (e, s)) (hx : val E x = .slice (some ⟨b, o, none⟩) n c) (hy : val E y = .int kd j) (hj : j = (i : Int)) (hi : i < n) (hq : o + i * s = q)
    (h : k (.pointer (some ⟨b, q, none⟩))) : VPure P E { dst := d, op := .indexAddr t x y, type := ty, pos := p, after := af, guard := g } k :=
  p_at hT hx hy hj hi (by rw [Addr.add_lit, hq]; exact h)
section
variable {P : Program} {E : Env} {d : Option Nat} {ty : TypeId} {p : String} {af : Array Edge} {gd : Option (Nat × Bool)} {x y : Operand} {t : TypeId} {kw : Value → World → Prop} {w W : World} {gs : List (Option Nat)} {L : Lc} {R : List Row} {fs : List Fact}
theorem row_cells {W : World} {base : Nat} {e : TypeId} {s n c : Nat} {A : Option Addr} {xs : List Value} (h : W.ownsRow base e s (.slice A n c) n xs) : ∀ (ad : Addr), A = some ad → ∀ j u, xs[j]? = some u → W.cell? (ad.add j) = some u := by
  intro ad hA j u hu
  subst hA
  rcases h.2 with ⟨hv, _⟩ | ⟨g, cap, cur, hv, _⟩
  · cases hv
  · injection hv with e1 e2 e3
    injection e1 with e1
    subst e1
    exact h.cells (g := g) rfl j u hu
end
theorem St.frzN {w W : World} {gs : List (Option Nat)} {L : Lc} {R : List Row} {fs : List Fact} {g : Nat} {T : TypeId} {cs : List Value} (M : St w gs W ((g, T, cs) :: L) R fs) : St w gs W L R (.loc ⟨g, 0, none⟩ cs :: fs) := by
  have hB := M.B 0 rfl
  have hg := (M.blk _ (List.mem_cons_self ..)).2
  have hap := M.ap
  rw [List.map_cons, List.cons_append, List.pairwise_cons] at hap
  have hn : some g ∉ own L R gs := fun e => by
    unfold own at e
    rw [← List.append_assoc] at e
    rcases List.mem_append.1 e with e | e
    · rcases hap.1 _ e with h | h
      · cases h
      · exact h rfl
    · have := M.lt g e
      have : w.heap.size ≤ g := hg
      omega
  exact M.dropL.addC (a := ⟨g, 0, none⟩) ⟨hB.lt, hn⟩ (M.run 0 rfl)
end Go.Proofs.Ytliccofjlheceaa
namespace Go.Proofs.Ytliccofjlheceaa
open Go.RowKit
/-- Turned to the right. -/
def rotr (x n : Nat) : Nat := ((x <<< (32 - n)) % 4294967296) ||| (x >>> n)
end Go.Proofs.Ytliccofjlheceaa
namespace Go.Proofs.Ytliccofjlheceaa
def byt (b : List UInt8) (k : Nat) : Nat := (b.getD k 0).toNat
/-- Four bytes, the highest first. -/
def wordB (b : List UInt8) (i : Nat) : Nat := (((byt b (4 * i) <<< 24) ||| (byt b (4 * i + 1) <<< 16)) ||| (byt b (4 * i + 2) <<< 8)) ||| byt b (4 * i + 3)
def sg0 (x : Nat) : Nat := (rotr x 7 ^^^ rotr x 18) ^^^ (x >>> 3)
def sg1 (x : Nat) : Nat := (rotr x 17 ^^^ rotr x 19) ^^^ (x >>> 10)
def nextW (w : List Nat) (i : Nat) : Nat := (((sg1 (w.getD (i - 2) 0) + w.getD (i - 7) 0) % 4294967296 + sg0 (w.getD (i - 15) 0)) % 4294967296 + w.getD (i - 16) 0) % 4294967296
/-- The first i of the words of 64 bytes. -/
def wsF (b : List UInt8) : Nat → List Nat
  | 0 => []
  | i + 1 => wsF b i ++ [if i < 16 then wordB b i else nextW (wsF b i) i]
def words (b : List UInt8) : List Nat := wsF b 64
/-- A cell of a word. -/
def cu (n : Nat) : Value := .int .u32 (n : Int)
end Go.Proofs.Ytliccofjlheceaa
namespace Go.Proofs.Ytliccofjlheceaa
/-- Eight words. -/
structure H8 where
  a : Nat
  b : Nat
  c : Nat
  d : Nat
  e : Nat
  f : Nat
  g : Nat
  h : Nat
def hc (v : H8) : List Value := [cu v.a, cu v.b, cu v.c, cu v.d, cu v.e, cu v.f, cu v.g, cu v.h]
structure H8.Ok (v : H8) : Prop where
  a : v.a < 4294967296
  b : v.b < 4294967296
  c : v.c < 4294967296
  d : v.d < 4294967296
  e : v.e < 4294967296
  f : v.f < 4294967296
  g : v.g < 4294967296
  h : v.h < 4294967296
def bs1 (e : Nat) : Nat := (rotr e 6 ^^^ rotr e 11) ^^^ rotr e 25
def bs0 (a : Nat) : Nat := (rotr a 2 ^^^ rotr a 13) ^^^ rotr a 22
def chs (e f g : Nat) : Nat := (e &&& f) ^^^ ((4294967295 ^^^ e) &&& g)
def maj (a b c : Nat) : Nat := ((a &&& b) ^^^ (a &&& c)) ^^^ (b &&& c)
def tt1 (v : H8) (k w : Nat) : Nat := ((((v.h + bs1 v.e) % 4294967296 + chs v.e v.f v.g) % 4294967296 + k) % 4294967296 + w) % 4294967296
def tt2 (v : H8) : Nat := (bs0 v.a + maj v.a v.b v.c) % 4294967296
def rnd (v : H8) (k w : Nat) : H8 := ⟨(tt1 v k w + tt2 v) % 4294967296, v.a, v.b, v.c, (v.d + tt1 v k w) % 4294967296, v.e, v.f, v.g⟩
/-- i rounds. -/
def rndF (ks ws : List Nat) (v : H8) : Nat → H8
  | 0 => v
  | i + 1 => rnd (rndF ks ws v i) (ks.getD i 0) (ws.getD i 0)
def add8 (x y : H8) : H8 := ⟨(x.a + y.a) % 4294967296, (x.b + y.b) % 4294967296, (x.c + y.c) % 4294967296, (x.d + y.d) % 4294967296, (x.e + y.e) % 4294967296, (x.f + y.f) % 4294967296, (x.g + y.g) % 4294967296, (x.h + y.h) % 4294967296⟩
def begin8 : H8 := ⟨1779033703, 3144134277, 1013904242, 2773480762, 1359893119, 2600822924, 528734635, 1541459225⟩
def roots : List Nat := [0x428a2f98, 0x71374491, 0xb5c0fbcf, 0xe9b5dba5, 0x3956c25b, 0x59f111f1, 0x923f82a4, 0xab1c5ed5,
  0xd807aa98, 0x12835b01, 0x243185be, 0x550c7dc3, 0x72be5d74, 0x80deb1fe, 0x9bdc06a7, 0xc19bf174,
  0xe49b69c1, 0xefbe4786, 0x0fc19dc6, 0x240ca1cc, 0x2de92c6f, 0x4a7484aa, 0x5cb0a9dc, 0x76f988da,
  0x983e5152, 0xa831c66d, 0xb00327c8, 0xbf597fc7, 0xc6e00bf3, 0xd5a79147, 0x06ca6351, 0x14292967,
  0x27b70a85, 0x2e1b2138, 0x4d2c6dfc, 0x53380d13, 0x650a7354, 0x766a0abb, 0x81c2c92e, 0x92722c85,
  0xa2bfe8a1, 0xa81a664b, 0xc24b8b70, 0xc76c51a3, 0xd192e819, 0xd6990624, 0xf40e3585, 0x106aa070,
  0x19a4c116, 0x1e376c08, 0x2748774c, 0x34b0bcb5, 0x391c0cb3, 0x4ed8aa4a, 0x5b9cca4f, 0x682e6ff3,
  0x748f82ee, 0x78a5636f, 0x84c87814, 0x8cc70208, 0x90befffa, 0xa4506ceb, 0xbef9a3f7, 0xc67178f2]
/-- What 64 bytes make of eight words. -/
def take8 (h : H8) (b : List UInt8) : H8 := add8 h (rndF roots (words b) h 64)
/-- What all whole blocks make; n blocks. -/
def blocksF (h : H8) : Nat → List UInt8 → H8
  | 0, _ => h
  | n + 1, b => blocksF (take8 h (b.take 64)) n (b.drop 64)
def put4 (x : Nat) : List UInt8 := [UInt8.ofNat (x >>> 24), UInt8.ofNat (x >>> 16), UInt8.ofNat (x >>> 8), UInt8.ofNat x]
def out8 (h : H8) : List UInt8 := put4 h.a ++ (put4 h.b ++ (put4 h.c ++ (put4 h.d ++ (put4 h.e ++ (put4 h.f ++ (put4 h.g ++ put4 h.h))))))
/-- What is put behind so many bytes. -/
def padL (n : Nat) : List UInt8 := (128 : UInt8) :: (List.replicate ((119 - n % 64) % 64) (0 : UInt8) ++ [UInt8.ofNat ((8 * n) >>> 56), UInt8.ofNat ((8 * n) >>> 48), UInt8.ofNat ((8 * n) >>> 40), UInt8.ofNat ((8 * n) >>> 32), UInt8.ofNat ((8 * n) >>> 24), UInt8.ofNat ((8 * n) >>> 16), UInt8.ofNat ((8 * n) >>> 8), UInt8.ofNat (8 * n)])
def sha (b : List UInt8) : List UInt8 := out8 (blocksF begin8 ((b ++ padL b.length).length / 64) (b ++ padL b.length))
end Go.Proofs.Ytliccofjlheceaa
namespace Go.Proofs.Ytliccofjlheceaa
open Go.RowKit
theorem sha_def (b : List UInt8) : sha b = out8 (blocksF begin8 ((b ++ padL b.length).length / 64) (b ++ padL b.length)) := rfl
end Go.Proofs.Ytliccofjlheceaa
namespace Go.Proofs.Ytliccofjlheceaa

/-- A number's bytes: seven bits each, the lowest first (so many at most as the first argument says). -/
def putF : Nat → Nat → List UInt8
  | 0, _ => []
  | f + 1, n => if n < 128 then [b8 (n : Int)] else b8 ((n % 128 + 128 : Nat) : Int) :: putF f (n / 128)
def putN (n : Nat) : List UInt8 := putF (n + 1) n
theorem putF_any : ∀ (f g n : Nat), n < f → n < g → putF f n = putF g n
  | f + 1, g + 1, n, hf, hg => by
    unfold putF
    by_cases h : n < 128
    · rw [if_pos h, if_pos h]
    · rw [if_neg h, if_neg h, putF_any f g (n / 128) (by omega) (by omega)]
theorem putN_lt {n : Nat} (h : n < 128) : putN n = [b8 (n : Int)] := by unfold putN putF; rw [if_pos h]
theorem putN_ge {n : Nat} (h : ¬ n < 128) : putN n = b8 ((n % 128 + 128 : Nat) : Int) :: putN (n / 128) := by
  unfold putN; rw [putF, if_neg h, putF_any n (n / 128 + 1) (n / 128) (by omega) (by omega)]
theorem putN_pos (n : Nat) : 1 ≤ (putN n).length := by
  by_cases h : n < 128
  · rw [putN_lt h]; simp
  · rw [putN_ge h]; simp
theorem putN_len : ∀ (k n : Nat), n < 128 ^ (k + 1) → (putN n).length ≤ k + 1
  | 0, n, h => by rw [putN_lt (by simpa using h)]; simp
  | k + 1, n, h => by
    by_cases h1 : n < 128
    · rw [putN_lt h1]; simp
    · rw [putN_ge h1, List.length_cons]
      have := putN_len k (n / 128) (by rw [Nat.div_lt_iff_lt_mul (by omega)]; rw [Nat.pow_succ] at h; exact h)
      omega
theorem putN_len10 {n : Nat} (h : n < 18446744073709551616) : (putN n).length ≤ 10 := putN_len 9 n (Nat.lt_of_lt_of_le h (by decide))
/-- The number that stands at the head of some bytes, at the i-th of which we are: the number, how many bytes, an error. -/
def getF : List UInt8 → Nat → Nat → Nat × Nat × Int
  | [], _, _ => (0, 0, 10)
  | c :: l, i, acc => if (i = 9 ∧ 1 < c.toNat) ∨ (c.toNat = 0 ∧ 0 < i) then (0, 0, 11) else if c.toNat < 128 then (acc + c.toNat * 128 ^ i, i + 1, 0) else getF l (i + 1) (acc + (c.toNat - 128) * 128 ^ i)

theorem getF_step (l : List UInt8) (a k acc : Nat) (h : a + k < l.length) : getF (l.drop (a + k)) k acc =
    if (k = 9 ∧ 1 < at8 l (a + k)) ∨ (at8 l (a + k) = 0 ∧ 0 < k) then (0, 0, 11) else if at8 l (a + k) < 128 then (acc + (at8 l (a + k)).toNat * 128 ^ k, k + 1, 0) else getF (l.drop (a + (k + 1))) (k + 1) (acc + ((at8 l (a + k)).toNat - 128) * 128 ^ k) := by
  rw [List.drop_eq_getElem_cons h, getF, at8_of l _ h, Int.toNat_natCast]
  have e1 : ((k = 9 ∧ 1 < l[a + k].toNat) ∨ (l[a + k].toNat = 0 ∧ 0 < k)) ↔ ((k = 9 ∧ (1 : Int) < (l[a + k].toNat : Int)) ∨ ((l[a + k].toNat : Int) = 0 ∧ 0 < k)) := by omega
  have e2 : (l[a + k].toNat < 128) ↔ ((l[a + k].toNat : Int) < 128) := by omega
  simp only [e1, e2]
  rfl
theorem getF_end (l : List UInt8) (a k acc : Nat) (h : l.length ≤ a + k) : getF (l.drop (a + k)) k acc = (0, 0, 10) := by
  rw [List.drop_eq_nil_of_le h]; rfl

/-- What is read is a number of 64 bits, no more than there is, and written as the bytes that stand there. -/
theorem getF_ok : ∀ (l : List UInt8) (i acc n t : Nat), acc < 128 ^ i → i ≤ 9 → getF l i acc = (n, t, 0) → ∃ m, n = acc + m * 128 ^ i ∧ n < 18446744073709551616 ∧ t = i + (putN m).length ∧ t ≤ i + l.length ∧ l.take (putN m).length = putN m ∧ (0 < i → 0 < m)
  | [], i, acc, n, t, _, _, h => by simp [getF] at h
  | c :: l, i, acc, n, t, ha, hi, h => by
    rw [getF] at h
    split at h
    · simp at h
    · rename_i hc
      have hc1 : ¬ (i = 9 ∧ 1 < c.toNat) := fun e => hc (.inl e)
      have hc2 : ¬ (c.toNat = 0 ∧ 0 < i) := fun e => hc (.inr e)
      have c256 := c.toNat_lt
      split at h
      · rename_i hlt
        simp only [Prod.mk.injEq, and_true] at h
        obtain ⟨rfl, rfl⟩ := h
        have e : putN c.toNat = [c] := by rw [putN_lt hlt, b8_nat]
        refine ⟨c.toNat, rfl, ?_, by rw [e]; rfl, by simp, by rw [e]; rfl, by omega⟩
        by_cases h9 : i = 9
        · subst h9
          have : c.toNat ≤ 1 := by omega
          have hp : (128 : Nat) ^ 9 = 9223372036854775808 := by decide
          rw [hp] at ha ⊢
          have : c.toNat * 9223372036854775808 ≤ 1 * 9223372036854775808 := Nat.mul_le_mul_right _ this
          omega
        · have h1 : c.toNat * 128 ^ i ≤ 127 * 128 ^ i := Nat.mul_le_mul_right _ (by omega)
          have h2 : 128 ^ (i + 1) ≤ 128 ^ 9 := Nat.pow_le_pow_right (by omega) (by omega)
          have hp : (128 : Nat) ^ 9 = 9223372036854775808 := by decide
          rw [hp, Nat.pow_succ] at h2
          omega
      · rename_i hge
        have hi8 : i ≤ 8 := by omega
        have hpow : 128 ^ (i + 1) = 128 ^ i * 128 := Nat.pow_succ ..
        have h1 : (c.toNat - 128) * 128 ^ i ≤ 127 * 128 ^ i := Nat.mul_le_mul_right _ (by omega)
        obtain ⟨m, hn, hlt, ht, hl, htk, hm⟩ := getF_ok l (i + 1) _ n t (by rw [hpow]; omega) (by omega) h
        have hm0 := hm (by omega)
        have e : putN (c.toNat - 128 + 128 * m) = c :: putN m := by
          rw [putN_ge (by omega)]
          rw [show (c.toNat - 128 + 128 * m) % 128 + 128 = c.toNat by omega, show (c.toNat - 128 + 128 * m) / 128 = m by omega, b8_nat]
        refine ⟨c.toNat - 128 + 128 * m, ?_, hlt, by rw [e, ht, List.length_cons]; omega, by rw [List.length_cons]; omega, by rw [e, List.length_cons, List.take_succ_cons, htk], by omega⟩
        rw [hn, hpow, Nat.add_mul, Nat.add_assoc, Nat.mul_comm (128 ^ i) 128, ← Nat.mul_assoc, Nat.mul_comm m 128]
/-- A number's bytes are read as it. -/
theorem getF_put : ∀ (f m i acc : Nat) (r : List UInt8), m < f → (0 < i → 0 < m) → i ≤ 9 → m * 128 ^ i < 18446744073709551616 → getF (putN m ++ r) i acc = (acc + m * 128 ^ i, i + (putN m).length, 0)
  | f + 1, m, i, acc, r, hf, h0, hi, hm => by
    have hb : ∀ x : Nat, x < 256 → (b8 (x : Int)).toNat = x := fun x hx => by unfold b8; rw [UInt8.toNat_ofNat']; omega
    by_cases h : m < 128
    · rw [putN_lt h, List.singleton_append, getF, hb m (by omega)]
      have h9 : ¬ (i = 9 ∧ 1 < m) := by
        rintro ⟨rfl, h1⟩
        have hp : (128 : Nat) ^ 9 = 9223372036854775808 := by decide
        rw [hp] at hm; omega
      rw [if_neg (by omega), if_pos h]
      rfl
    · rw [putN_ge h, List.cons_append, getF, hb _ (by omega)]
      have h9 : i ≤ 8 := by
        by_cases e : i = 9
        · subst e
          have hp : (128 : Nat) ^ 9 = 9223372036854775808 := by decide
          rw [hp] at hm; omega
        · omega
      rw [if_neg (by omega), if_neg (by omega)]
      have hd : m % 128 + m / 128 * 128 = m := by omega
      have hpow : 128 ^ (i + 1) = 128 ^ i * 128 := Nat.pow_succ ..
      have hle : m / 128 * 128 ^ (i + 1) ≤ m * 128 ^ i := by
        rw [hpow, Nat.mul_comm (128 ^ i) 128, ← Nat.mul_assoc]
        exact Nat.mul_le_mul_right _ (by omega)
      rw [getF_put f (m / 128) (i + 1) _ r (by omega) (by omega) (by omega) (by omega)]
      have e : m % 128 + 128 - 128 = m % 128 := by omega
      rw [e, List.length_cons]
      refine Prod.ext ?_ (Prod.ext ?_ rfl)
      · show acc + m % 128 * 128 ^ i + m / 128 * 128 ^ (i + 1) = acc + m * 128 ^ i
        rw [hpow, Nat.mul_comm (128 ^ i) 128, ← Nat.mul_assoc, Nat.add_assoc, ← Nat.add_mul, hd]
      · show i + 1 + (putN (m / 128)).length = i + ((putN (m / 128)).length + 1)
        omega
/-- Get: the error, the number, the place behind it. -/
def gE (l : List UInt8) (at_ : Int) : Int := if at_ < 0 ∨ (l.length : Int) < at_ then 2 else (getF (l.drop at_.toNat) 0 0).2.2
def gN (l : List UInt8) (at_ : Int) : Int := if at_ < 0 ∨ (l.length : Int) < at_ then 0 else ((getF (l.drop at_.toNat) 0 0).1 : Int)
def gTo (l : List UInt8) (at_ : Int) : Int := if gE l at_ = 0 then at_ + ((getF (l.drop at_.toNat) 0 0).2.1 : Int) else 0
theorem g_out {l : List UInt8} {a : Int} (h : a < 0 ∨ (l.length : Int) < a) : gE l a = 2 ∧ gN l a = 0 ∧ gTo l a = 0 := by
  have e : gE l a = 2 := by unfold gE; rw [if_pos h]
  exact ⟨e, by unfold gN; rw [if_pos h], by unfold gTo; rw [e]; rfl⟩
theorem g_in {l : List UInt8} {a : Nat} (h : a ≤ l.length) : gE l (a : Int) = (getF (l.drop a) 0 0).2.2 ∧ gN l (a : Int) = ((getF (l.drop a) 0 0).1 : Int) := by
  have hn : ¬ ((a : Int) < 0 ∨ (l.length : Int) < (a : Int)) := by omega
  exact ⟨by unfold gE; rw [if_neg hn]; rfl, by unfold gN; rw [if_neg hn]; rfl⟩
theorem g_fail {l : List UInt8} {a : Nat} {x : Int} (h : a ≤ l.length) (hx : x ≠ 0) (k : getF (l.drop a) 0 0 = (0, 0, x)) : gE l (a : Int) = x ∧ gN l (a : Int) = 0 ∧ gTo l (a : Int) = 0 := by
  obtain ⟨h1, h2⟩ := g_in h
  rw [k] at h1 h2
  exact ⟨h1, h2, by unfold gTo; rw [h1]; rw [if_neg hx]⟩
theorem g_done {l : List UInt8} {a n t : Nat} (h : a ≤ l.length) (k : getF (l.drop a) 0 0 = (n, t, 0)) : gE l (a : Int) = 0 ∧ gN l (a : Int) = (n : Int) ∧ gTo l (a : Int) = ((a + t : Nat) : Int) := by
  obtain ⟨h1, h2⟩ := g_in h
  rw [k] at h1 h2
  refine ⟨h1, h2, ?_⟩
  unfold gTo; rw [h1, if_pos rfl, Int.toNat_natCast, k]; simp
theorem gN_nonneg (l : List UInt8) (a : Int) : 0 ≤ gN l a := by unfold gN; split <;> omega
/-- What has been read, in full. -/
theorem g_ok {l : List UInt8} {a : Int} (h : gE l a = 0) : ∃ (x t : Nat), a = (x : Int) ∧ x ≤ l.length ∧ t = (putN (gN l a).toNat).length ∧ gTo l a = ((x + t : Nat) : Int) ∧ 1 ≤ t ∧ x + t ≤ l.length ∧ (l.drop x).take t = putN (gN l a).toNat ∧ gN l a < 18446744073709551616 := by
  by_cases ho : a < 0 ∨ (l.length : Int) < a
  · rw [(g_out ho).1] at h; cases h
  · obtain ⟨x, rfl⟩ := Int.eq_ofNat_of_zero_le (show 0 ≤ a by omega)
    have hx : x ≤ l.length := by omega
    obtain ⟨h1, h2⟩ := g_in hx
    rw [h] at h1
    obtain ⟨n, t, hk⟩ : ∃ n t, getF (l.drop x) 0 0 = (n, t, 0) := ⟨(getF (l.drop x) 0 0).1, (getF (l.drop x) 0 0).2.1, Prod.ext rfl (Prod.ext rfl h1.symm)⟩
    obtain ⟨d1, d2, d3⟩ := g_done hx hk
    obtain ⟨m, hn, hlt, ht, hl, htk, _⟩ := getF_ok (l.drop x) 0 0 n t (by simp) (by omega) hk
    have hmn : m = n := by simpa using hn.symm
    subst hmn
    have hp := putN_pos m
    rw [List.length_drop] at hl
    refine ⟨x, t, rfl, hx, ?_, d3, by omega, by omega, ?_, by rw [d2]; omega⟩
    · rw [d2, Int.toNat_natCast]; omega
    · rw [d2, Int.toNat_natCast]; rw [show t = (putN m).length by omega]; exact htk
/-- Bytes behind others: what stands there is read. -/
theorem g_put (p : List UInt8) (n : Nat) (r : List UInt8) (h : n < 18446744073709551616) : gE (p ++ (putN n ++ r)) (p.length : Int) = 0 ∧ gN (p ++ (putN n ++ r)) (p.length : Int) = (n : Int) ∧ gTo (p ++ (putN n ++ r)) (p.length : Int) = ((p.length + (putN n).length : Nat) : Int) := by
  have e := getF_put (n + 1) n 0 0 r (by omega) (by omega) (by omega) (by simpa using h)
  rw [show 0 + n * 128 ^ 0 = n by simp, Nat.zero_add] at e
  exact g_done (by simp) (by rw [List.drop_left]; exact e)

/-- GetBytes: the error, the bytes, the place behind. -/
def gbE (l : List UInt8) (a : Int) : Int := if gE l a ≠ 0 then gE l a else if 1048576 < gN l a then 3 else if (l.length : Int) - gTo l a < gN l a then 10 else 0
def gbL (l : List UInt8) (a : Int) : List UInt8 := if gbE l a = 0 then (l.drop (gTo l a).toNat).take (gN l a).toNat else []
def gbTo (l : List UInt8) (a : Int) : Int := if gbE l a = 0 then gTo l a + gN l a else 0
theorem gb_err1 {l : List UInt8} {a : Int} (h : gE l a ≠ 0) : gbE l a = gE l a ∧ gbL l a = [] ∧ gbTo l a = 0 := by
  have e : gbE l a = gE l a := by unfold gbE; rw [if_pos h]
  exact ⟨e, by unfold gbL; rw [if_neg (by rw [e]; exact h)], by unfold gbTo; rw [if_neg (by rw [e]; exact h)]⟩
theorem gb_err2 {l : List UInt8} {a : Int} (h : gE l a = 0) (k : 1048576 < gN l a) : gbE l a = 3 ∧ gbL l a = [] ∧ gbTo l a = 0 := by
  have e : gbE l a = 3 := by unfold gbE; rw [if_neg (fun x => x h), if_pos k]
  exact ⟨e, by unfold gbL; rw [if_neg (by rw [e]; decide)], by unfold gbTo; rw [if_neg (by rw [e]; decide)]⟩
theorem gb_err3 {l : List UInt8} {a : Int} (h : gE l a = 0) (k : ¬ 1048576 < gN l a) (m : (l.length : Int) - gTo l a < gN l a) : gbE l a = 10 ∧ gbL l a = [] ∧ gbTo l a = 0 := by
  have e : gbE l a = 10 := by unfold gbE; rw [if_neg (fun x => x h), if_neg k, if_pos m]
  exact ⟨e, by unfold gbL; rw [if_neg (by rw [e]; decide)], by unfold gbTo; rw [if_neg (by rw [e]; decide)]⟩
theorem gb_ok {l : List UInt8} {a : Int} (h : gE l a = 0) (k : ¬ 1048576 < gN l a) (m : ¬ (l.length : Int) - gTo l a < gN l a) : gbE l a = 0 ∧ gbL l a = (l.drop (gTo l a).toNat).take (gN l a).toNat ∧ gbTo l a = gTo l a + gN l a := by
  have e : gbE l a = 0 := by unfold gbE; rw [if_neg (fun x => x h), if_neg k, if_neg m]
  exact ⟨e, by unfold gbL; rw [if_pos e], by unfold gbTo; rw [if_pos e]⟩
theorem gb_cases (l : List UInt8) (a : Int) : (gE l a ≠ 0) ∨ (gE l a = 0 ∧ 1048576 < gN l a) ∨ (gE l a = 0 ∧ ¬ 1048576 < gN l a ∧ (l.length : Int) - gTo l a < gN l a) ∨ (gE l a = 0 ∧ ¬ 1048576 < gN l a ∧ ¬ (l.length : Int) - gTo l a < gN l a) := by
  by_cases h1 : gE l a = 0
  · by_cases h2 : 1048576 < gN l a
    · exact .inr (.inl ⟨h1, h2⟩)
    · by_cases h3 : (l.length : Int) - gTo l a < gN l a
      · exact .inr (.inr (.inl ⟨h1, h2, h3⟩))
      · exact .inr (.inr (.inr ⟨h1, h2, h3⟩))
  · exact .inl h1
/-- PutBytes. -/
def putB (s : List UInt8) : List UInt8 := putN s.length ++ s
end Go.Proofs.Ytliccofjlheceaa
namespace Go.Proofs.Ytliccofjlheceaa
open Go.RowKit

theorem or128 (x : Int) (h0 : 0 ≤ x) (h1 : x ≤ 255) : bits .or .u8 x 128 = x % 128 + 128 := by
  have h : ∀ y : Fin 256, bits .or .u8 (y.val : Int) 128 = (y.val : Int) % 128 + 128 := by decide +kernel
  have := h ⟨x.toNat, by omega⟩
  simp only [Int.toNat_of_nonneg h0] at this
  exact this

set_option maxRecDepth 100000 in
set_option maxHeartbeats 400000 in
theorem put_any (n : Nat) (w : World) (hlen : (putN n).length ≤ 10) :
    Calls Try.prog 34 #[.int .u64 n] w fun e w' => ∃ A' c', e = .returned (.slice A' (putN n).length c') ∧ Own w' w.heap.size A' (putN n).length c' (putN n) ∧ Below w.heap.size w w' := by
  go_enter Try.func34, Try.ntmps34
  go_wp2
  go_loopw [0, 3] (fun i v wr => ∃ (x : Nat) (o : List UInt8) (k : Nat) (A' : Option Addr) (c' : Nat), i = .int .u64 x ∧ v = .slice A' k c' ∧ Own wr w.heap.size A' k c' o ∧ o ++ putN x = putN n ∧ Below w.heap.size w wr) (fun i _ _ => (intOf i).toNat)
  case atStart => exact ⟨n, [], 0, none, 0, rfl, rfl, Own.nil_ _ _, rfl, Below.refl _ _⟩
  case round =>
    obtain ⟨x, o, k, A', c', rfl, rfl, hown, hx, hb⟩ := hrel
    have hk : k ≤ 10 := by
      have h1 := congrArg List.length hx
      rw [List.length_append, hown.len] at h1
      omega
    have Hx := Lib.hid hx
    clear hx
    by_cases hlt : x < 128
    · have hp := Lib.hid (putN_lt hlt)
      have hw : IntKind.u8.wrap (x : Int) = x := IntWalk.u8_in _ (by omega)
      have hm : (x : Int) % 256 = x := by omega
      go_wp2_with (at_builtin; refine wpList_app rfl _ _ rfl rfl (hown.alloc _) rfl (Rd.lit1 _ _ (by omega)) (by omega) (by simp; have := hb.size; omega) ?_; intro A2 c2 w2 hown2 hg2)
      have hb2 := below_own (belowA hb _) (hown.alloc _) hg2
      go_ret
      have e1 : o ++ [b8 (x : Int)] = putN n := by rw [← hp.out]; exact Hx.out
      rw [e1] at hown2
      have e2 := hown2.len
      exact ⟨A2, c2, ret_slice e2.symm, by rw [e2]; exact hown2, hb2⟩
    · have hp := Lib.hid (putN_ge hlt)
      have hm : IntKind.u8.wrap (x : Int) = (x : Int) % 256 := IntKind.wrap_u8 _
      have ho := or128 ((x : Int) % 256) (by omega) (by omega)
      have he : (x : Int) % 128 + 128 = ((x % 128 + 128 : Nat) : Int) := by omega
      have He := Lib.hid he
      clear he
      go_wp2_with (at_builtin; refine wpList_app rfl _ _ rfl rfl (hown.alloc _) rfl (Rd.lit1 _ _ (by omega)) (by omega) (by simp; have := hb.size; omega) ?_; intro A2 c2 w2 hown2 hg2)
      have hb2 := below_own (belowA hb _) (hown.alloc _) hg2
      clear hm ho
      go_roundw
      case rel => exact ⟨x / 128, o ++ [b8 ((x : Int) % 128 + 128)], k + 1, A2, c2, by go_num, rfl, hown2, by rw [He.out, List.append_assoc, List.singleton_append, ← hp.out]; exact Hx.out, hb2⟩
      case measure => simp [intOf]; omega

set_option maxRecDepth 100000 in
set_option maxHeartbeats 400000 in
theorem putBytes_any (A : Option Addr) (n c : Nat) (l : List UInt8) (w : World) (hr : Rd w w.heap.size A n l) (hn : n ≤ 100000000000) :
    Calls Try.prog 36 #[.slice A n c] w fun e w' => ∃ A' c', e = .returned (.slice A' ((putN n).length + n) c') ∧ Own w' w.heap.size A' ((putN n).length + n) c' (putB l) ∧ Below w.heap.size w w' := by
  have hln := Lib.hid hr.len
  have hlen := putN_len10 (n := n) (by omega)
  have hw : IntKind.u64.wrap (n : Int) = n := IntWalk.u64_in _ (by omega)
  go_enter Try.func36, Try.ntmps36
  go_wp2_with fail
  refine (put_any n _ hlen).mono ?_
  rintro e w1 ⟨A1, c1, rfl, o1, b1⟩
  go_wp2_with (at_builtin; refine wpList_app rfl _ _ rfl rfl o1 rfl (hr.up b1) (by omega) b1.size ?_; intro A2 c2 w2 o2 g2)
  have b2 := below_own b1 o1 g2
  go_ret
  exact ⟨A2, c2, rfl, by unfold putB; rw [hln.out]; exact o2, b2⟩
end Go.Proofs.Ytliccofjlheceaa
namespace Go.Proofs.Ytliccofjlheceaa
open Go.RowKit

theorem ret3 {k1 k2 k3 : IntKind} {a b c a' b' c' : Int} (h1 : a = a') (h2 : b = b') (h3 : c = c') : Ending.returned (.tuple #[.int k1 a, .int k2 b, .int k3 c]) = Ending.returned (.tuple #[.int k1 a', .int k2 b', .int k3 c']) := by rw [h1, h2, h3]
theorem and127 (x : Int) (h0 : 0 ≤ x) (h1 : x ≤ 255) : bits .and .u8 x 127 = x % 128 := by
  have h : ∀ y : Fin 256, bits .and .u8 (y.val : Int) 127 = (y.val : Int) % 128 := by decide +kernel
  have := h ⟨x.toNat, by omega⟩
  simp only [Int.toNat_of_nonneg h0] at this
  exact this
theorem acc_lt {acc k x : Nat} (h : acc < 128 ^ k) (hx : x ≤ 127) : acc + x * 128 ^ k < 128 ^ (k + 1) := by
  have h1 : x * 128 ^ k ≤ 127 * 128 ^ k := Nat.mul_le_mul_right _ hx
  rw [Nat.pow_succ]; omega
/-- The number gets seven bits more. -/
theorem or_step (acc k : Nat) (x : Int) (h0 : 0 ≤ x) (h1 : x ≤ 255) (hacc : acc < 128 ^ k) (hk : k ≤ 9) (h9 : k = 9 → x ≤ 1) :
    bits .or .u64 (acc : Int) (IntKind.u64.wrap (IntKind.u64.wrap (bits .and .u8 x 127) * 2 ^ (7 * k))) = ((acc + (x.toNat % 128) * 128 ^ k : Nat) : Int) := by
  rw [and127 x h0 h1]
  obtain ⟨y, rfl⟩ := Int.eq_ofNat_of_zero_le h0
  have e1 : IntKind.u64.wrap ((y : Int) % 128) = ((y % 128 : Nat) : Int) := by rw [IntKind.wrap_u64]; omega
  have hp : (2 : Nat) ^ (7 * k) = 128 ^ k := by rw [Nat.pow_mul]
  have hb : (y % 128) * 128 ^ k < 18446744073709551616 := by
    by_cases e : k = 9
    · subst e
      have hp9 : (128 : Nat) ^ 9 = 9223372036854775808 := by decide
      rw [hp9]
      have : y % 128 ≤ 1 := by have := h9 rfl; omega
      have := Nat.mul_le_mul_right 9223372036854775808 this
      omega
    · have h2 : 128 ^ (k + 1) ≤ 128 ^ 9 := Nat.pow_le_pow_right (by omega) (by omega)
      have hp9 : (128 : Nat) ^ 9 = 9223372036854775808 := by decide
      have h3 : (y % 128) * 128 ^ k ≤ 127 * 128 ^ k := Nat.mul_le_mul_right _ (by omega)
      rw [hp9, Nat.pow_succ] at h2
      omega
  have hpz : (2 : Int) ^ (7 * k) = ((128 ^ k : Nat) : Int) := by
    have : ((2 ^ (7 * k) : Nat) : Int) = ((128 ^ k : Nat) : Int) := by rw [hp]
    rw [← this, Int.natCast_pow]; rfl
  rw [e1, hpz, Int.toNat_natCast, ← Int.natCast_mul]
  have e2 : IntKind.u64.wrap (((y % 128 * 128 ^ k : Nat)) : Int) = ((y % 128 * 128 ^ k : Nat) : Int) := by rw [IntKind.wrap_u64]; omega
  rw [e2]
  have ha : acc < 18446744073709551616 := by
    have h2 : 128 ^ k ≤ 128 ^ 9 := Nat.pow_le_pow_right (by omega) hk
    have hp9 : (128 : Nat) ^ 9 = 9223372036854775808 := by decide
    omega
  have := bits_or_u64_nat acc (y % 128 * 128 ^ k) ha hb
  rw [this]
  congr 1
  rw [Nat.mul_comm, ← hp, Nat.or_comm, ← Nat.two_pow_add_eq_or_of_lt (by rw [hp]; exact hacc), Nat.add_comm]
/-- What Get comes to. -/
def Got (w : World) (l : List UInt8) (at_ : Int) (e : Ending) (w' : World) : Prop := e = .returned (.tuple #[.int .u64 (gN l at_), .int .i64 (gTo l at_), .int .i64 (gE l at_)]) ∧ w = w'

set_option maxRecDepth 100000 in
set_option maxHeartbeats 1600000 in
theorem get_in (A : Option Addr) (n c B a : Nat) (l : List UInt8) (w : World) (hr : Rd w B A n l) (hn : n ≤ 100000000000) (hnc : n ≤ c) (ha : a < n) :
    Calls Try.prog 33 #[.slice A n c, .int .i64 a] w (Got w l a) := by
  obtain ⟨b, off, rfl, hB, hcells⟩ := hr.cells (by omega)
  have hln := Lib.hid hr.len
  have Hcells := Lib.hid hcells
  have hca : ¬ c = a := by omega
  clear hcells
  go_enter Try.func33, Try.ntmps33
  go_wp2
  go_step3
  go_wp2
  go_step3
  go_wp2
  go_loop [7, 8, 23] (fun v e i => ∃ (k acc : Nat), a + k ≤ n ∧ k ≤ 9 ∧ acc < 128 ^ k ∧ i = .int .i64 k ∧ v = .int .u64 acc ∧ e = .int .i64 10 ∧ getF (l.drop (a + k)) k acc = getF (l.drop a) 0 0) (fun _ _ i => n - (intOf i).toNat)
  case atStart => exact ⟨0, 0, by omega, by omega, by simp, rfl, rfl, rfl, rfl⟩
  case round =>
    obtain ⟨k, acc, hkn, hk9, hacc, rfl, rfl, rfl, hg⟩ := hrel
    have Hg := Lib.hid hg
    have Hacc := Lib.hid hacc
    have hal : Hid (a ≤ l.length) := Lib.hid (by rw [hln.out]; omega)
    clear hg hacc
    by_cases hlt : a + k < n
    · have hc : w.cell? ⟨b, off + a + k, none⟩ = some (.int .u8 (at8 l (a + k))) := by rw [Nat.add_assoc]; exact Hcells.out (a + k) hlt
      have h0 := at8_lo l (a + k)
      have h1 := at8_hi l (a + k)
      have hst := Lib.hid (getF_step l a k acc (by rw [hln.out]; exact hlt))
      by_cases h9 : k = 9
      · have hb9 : ((k : Int) == 9) = true := by simp; omega
        have hk0 : (0 : Int) < k := by omega
        by_cases hc1 : 1 < at8 l (a + k)
        · have F := Lib.hid (g_fail hal.out (by decide) (show getF (l.drop a) 0 0 = (0, 0, 11) by rw [← Hg.out, hst.out, if_pos (.inl ⟨h9, hc1⟩)]))
          clear h9
          go_wp2
          go_ret3
          exact ⟨ret3 F.out.2.1.symm F.out.2.2.symm F.out.1.symm, rfl⟩
        · have hd1 : decide (1 < at8 l (a + k)) = false := by simp; omega
          by_cases hz : at8 l (a + k) = 0
          · have hbz : (at8 l (a + k) == 0) = true := by simp [hz]
            have F := Lib.hid (g_fail hal.out (by decide) (show getF (l.drop a) 0 0 = (0, 0, 11) by rw [← Hg.out, hst.out, if_pos (.inr ⟨hz, by omega⟩)]))
            clear h9 hz
            go_wp2
            go_ret3
            exact ⟨ret3 F.out.2.1.symm F.out.2.2.symm F.out.1.symm, rfl⟩
          · have hbz : (at8 l (a + k) == 0) = false := by simp [hz]
            have hv := or_step acc k (at8 l (a + k)) h0 h1 Hacc.out hk9 (by omega)
            have F := Lib.hid (g_done hal.out (show getF (l.drop a) 0 0 = (acc + (at8 l (a + k)).toNat * 128 ^ k, k + 1, 0) by rw [← Hg.out, hst.out, if_neg (by omega), if_pos (by omega)]))
            rw [show (at8 l (a + k)).toNat % 128 = (at8 l (a + k)).toNat by omega] at hv
            have Hv := Lib.hid hv
            have hlt8 : at8 l (a + k) < 128 := by omega
            clear hv hz h9
            go_wp2
            go_ret3
            exact ⟨ret3 (by rw [Hv.out]; exact F.out.2.1.symm) (by rw [F.out.2.2]; omega) F.out.1.symm, rfl⟩
      · have hb9 : ((k : Int) == 9) = false := by simp; omega
        by_cases hz : at8 l (a + k) = 0
        · have hbz : (at8 l (a + k) == 0) = true := by simp [hz]
          by_cases hk0 : 0 < k
          · have hk0' : (0 : Int) < k := by omega
            have F := Lib.hid (g_fail hal.out (by decide) (show getF (l.drop a) 0 0 = (0, 0, 11) by rw [← Hg.out, hst.out, if_pos (.inr ⟨hz, by omega⟩)]))
            clear h9 hz
            go_wp2
            go_ret3
            exact ⟨ret3 F.out.2.1.symm F.out.2.2.symm F.out.1.symm, rfl⟩
          · have hk0' : decide ((0 : Int) < k) = false := by simp; omega
            have hv := or_step acc k (at8 l (a + k)) h0 h1 Hacc.out hk9 (by omega)
            have F := Lib.hid (g_done hal.out (show getF (l.drop a) 0 0 = (acc + (at8 l (a + k)).toNat * 128 ^ k, k + 1, 0) by rw [← Hg.out, hst.out, if_neg (by omega), if_pos (by omega)]))
            rw [show (at8 l (a + k)).toNat % 128 = (at8 l (a + k)).toNat by omega] at hv
            have Hv := Lib.hid hv
            have hlt8 : at8 l (a + k) < 128 := by omega
            clear hv hz h9
            go_wp2
            go_ret3
            exact ⟨ret3 (by rw [Hv.out]; exact F.out.2.1.symm) (by rw [F.out.2.2]; omega) F.out.1.symm, rfl⟩
        · have hbz : (at8 l (a + k) == 0) = false := by simp [hz]
          by_cases hs : at8 l (a + k) < 128
          · have hv := or_step acc k (at8 l (a + k)) h0 h1 Hacc.out hk9 (by omega)
            have F := Lib.hid (g_done hal.out (show getF (l.drop a) 0 0 = (acc + (at8 l (a + k)).toNat * 128 ^ k, k + 1, 0) by rw [← Hg.out, hst.out, if_neg (by omega), if_pos (by omega)]))
            rw [show (at8 l (a + k)).toNat % 128 = (at8 l (a + k)).toNat by omega] at hv
            have Hv := Lib.hid hv
            clear hv hz h9
            go_wp2
            go_ret3
            exact ⟨ret3 (by rw [Hv.out]; exact F.out.2.1.symm) (by rw [F.out.2.2]; omega) F.out.1.symm, rfl⟩
          · have hv := or_step acc k (at8 l (a + k)) h0 h1 Hacc.out hk9 (by omega)
            rw [show (at8 l (a + k)).toNat % 128 = (at8 l (a + k)).toNat - 128 by omega] at hv
            have Hv := Lib.hid hv
            have F := Lib.hid (show getF (l.drop (a + (k + 1))) (k + 1) (acc + ((at8 l (a + k)).toNat - 128) * 128 ^ k) = getF (l.drop a) 0 0 by rw [← Hg.out, hst.out, if_neg (by omega), if_neg (by omega)])
            have Hb := Lib.hid (acc_lt (x := (at8 l (a + k)).toNat - 128) Hacc.out (by omega))
            clear hv hz
            go_wp2
            go_round
            case rel => exact ⟨k + 1, _, by omega, by omega, Hb.out, by go_num, by rw [Hv.out], rfl, F.out⟩
            case measure => simp [intOf]; omega
    · have F := Lib.hid (g_fail hal.out (by decide) (show getF (l.drop a) 0 0 = (0, 0, 10) by rw [← Hg.out, getF_end l a k acc (by rw [hln.out]; omega)]))
      go_wp2
      go_ret3
      exact ⟨ret3 F.out.2.1.symm F.out.2.2.symm F.out.1.symm, rfl⟩

set_option maxRecDepth 100000 in
set_option maxHeartbeats 1600000 in
theorem get_end (A : Option Addr) (n c B : Nat) (l : List UInt8) (w : World) (hr : Rd w B A n l) :
    Calls Try.prog 33 #[.slice A n c, .int .i64 n] w (Got w l n) := by
  have F := Lib.hid (g_fail (l := l) (a := n) (x := 10) (by rw [hr.len]; exact Nat.le_refl _) (by decide) (by rw [List.drop_eq_nil_of_le (by rw [hr.len]; exact Nat.le_refl _)]; rfl))
  go_enter Try.func33, Try.ntmps33
  go_wp2
  go_step3
  go_wp2
  go_step3
  go_wp2
  all_goals
    refine wp_loop_rounds 1 ?_
    rw [rounds_succ]
    go_wp2
    go_ret3
    exact ⟨ret3 F.out.2.1.symm F.out.2.2.symm F.out.1.symm, rfl⟩

set_option maxRecDepth 100000 in
set_option maxHeartbeats 1600000 in
theorem get_any (A : Option Addr) (n c B : Nat) (at_ : Int) (l : List UInt8) (w : World) (hr : Rd w B A n l) (hn : n ≤ 100000000000) (hnc : n ≤ c) :
    Calls Try.prog 33 #[.slice A n c, .int .i64 at_] w (Got w l at_) := by
  by_cases ho : at_ < 0
  · have F := Lib.hid (g_out (l := l) (.inl ho))
    go_enter Try.func33, Try.ntmps33
    go_wp2
    go_step3
    go_wp2
    try rw [Exit.noGoto_ret]
    go_ret3
    exact ⟨ret3 F.out.2.1.symm F.out.2.2.symm F.out.1.symm, rfl⟩
  · by_cases hp : (n : Int) < at_
    · have F := Lib.hid (g_out (l := l) (a := at_) (.inr (by rw [hr.len]; exact hp)))
      go_enter Try.func33, Try.ntmps33
      go_wp2
      go_step3
      go_wp2
      try rw [Exit.noGoto_ret]
      go_ret3
      exact ⟨ret3 F.out.2.1.symm F.out.2.2.symm F.out.1.symm, rfl⟩
    · obtain ⟨a, rfl⟩ := Int.eq_ofNat_of_zero_le (show 0 ≤ at_ by omega)
      by_cases he : a = n
      · subst he
        exact get_end A a c B l w hr
      · exact get_in A n c B a l w hr hn hnc (by omega)

end Go.Proofs.Ytliccofjlheceaa
namespace Go.Proofs.Ytliccofjlheceaa
open Go.RowKit

theorem g_to {l : List UInt8} {a : Int} (h : gE l a = 0) : ∃ T : Nat, gTo l a = (T : Int) ∧ T ≤ l.length := by
  obtain ⟨x, t, _, _, _, hT, _, hle, _, _⟩ := g_ok h
  exact ⟨x + t, hT, hle⟩
theorem ret_sie {A A' : Option Addr} {n n' c c' : Nat} {x y x' y' : Int} (h : Value.slice A n c = Value.slice A' n' c') (h1 : x = x') (h2 : y = y') :
    Ending.returned (.tuple #[.slice A n c, .int .i64 x, .int .i64 y]) = Ending.returned (.tuple #[.slice A' n' c', .int .i64 x', .int .i64 y']) := by rw [h, h1, h2]
/-- What GetBytes comes to. -/
def GotBytes (w : World) (l : List UInt8) (at_ : Int) (e : Ending) (w' : World) : Prop :=
  ∃ A' n' c', e = .returned (.tuple #[.slice A' n' c', .int .i64 (gbTo l at_), .int .i64 (gbE l at_)]) ∧ Own w' w.heap.size A' n' c' (gbL l at_) ∧ Below w.heap.size w w'
theorem gotBytes_none {w w' : World} {l : List UInt8} {a : Int} {x : Int} (h : gbE l a = x ∧ gbL l a = [] ∧ gbTo l a = 0) (hb : Below w.heap.size w w') : GotBytes w l a (.returned (.tuple #[.slice none 0 0, .int .i64 0, .int .i64 x])) w' :=
  ⟨none, 0, 0, by rw [h.1, h.2.2], by rw [h.2.1]; exact Own.nil_ _ _, hb⟩

set_option maxRecDepth 100000 in
set_option maxHeartbeats 1600000 in
theorem getBytes_any (A : Option Addr) (n c : Nat) (at_ : Int) (l : List UInt8) (w : World) (hr : Rd w w.heap.size A n l) (hn : n ≤ 100000000000) (hnc : n ≤ c) :
    Calls Try.prog 37 #[.slice A n c, .int .i64 at_] w (GotBytes w l at_) := by
  have hln := Lib.hid hr.len
  rcases gb_cases l at_ with h | ⟨h, k⟩ | ⟨h, k, m⟩ | ⟨h, k, m⟩
  · have F := Lib.hid (gb_err1 h)
    have hne : (gE l at_ != 0) = true := by simp [h]
    clear h
    go_enter Try.func37, Try.ntmps37
    go_wp2_with fail
    refine (get_any _ _ _ _ _ _ _ hr hn hnc).mono ?_
    rintro e w' ⟨rfl, rfl⟩
    go_wp2_with fail
    go_ret3
    exact gotBytes_none F.out (Below.refl _ _)
  · have F := Lib.hid (gb_err2 h k)
    have H := Lib.hid h
    clear h
    go_enter Try.func37, Try.ntmps37
    go_wp2_with fail
    refine (get_any _ _ _ _ _ _ _ hr hn hnc).mono ?_
    rintro e w' ⟨rfl, rfl⟩
    rw [H.out]
    go_wp2_with fail
    go_ret3
    exact gotBytes_none F.out (Below.refl _ _)
  · have F := Lib.hid (gb_err3 h k m)
    have H := Lib.hid h
    obtain ⟨T, hT, hle⟩ := g_to h
    have h0 := gN_nonneg l at_
    rw [hln.out] at m hle
    rw [hT] at m
    have HT := Lib.hid hT
    have hw : IntKind.u64.wrap ((n : Int) - (T : Int)) = (n : Int) - (T : Int) := IntWalk.u64_in _ (by omega)
    clear h hT
    go_enter Try.func37, Try.ntmps37
    go_wp2_with fail
    refine (get_any _ _ _ _ _ _ _ hr hn hnc).mono ?_
    rintro e w' ⟨rfl, rfl⟩
    rw [H.out, HT.out]
    go_wp2_with fail
    go_ret3
    exact gotBytes_none F.out (Below.refl _ _)
  · have F := Lib.hid (gb_ok h k m)
    have H := Lib.hid h
    obtain ⟨T, hT, hle⟩ := g_to h
    obtain ⟨N, hN⟩ := Int.eq_ofNat_of_zero_le (gN_nonneg l at_)
    rw [hln.out] at m hle
    rw [hT, hN] at m
    rw [hN] at k
    have HT := Lib.hid hT
    have HN := Lib.hid hN
    have hw : IntKind.u64.wrap ((n : Int) - (T : Int)) = (n : Int) - (T : Int) := IntWalk.u64_in _ (by omega)
    have hTn : T + N ≤ n := by omega
    have hNb : N ≤ 1048576 := by omega
    have eN : T + N - T = N := by omega
    have hcut : Rd w w.heap.size (if c = T then A else A.map (·.add T)) (T + N - T) ((l.drop T).take N) := by rw [eN]; exact hr.mid (i := T) (j := N) (c := c) hTn hnc
    have EN := Lib.hid eN
    clear eN
    clear h hT hN k m
    go_enter Try.func37, Try.ntmps37
    go_wp2_with fail
    refine (get_any _ _ _ _ _ _ _ hr hn hnc).mono ?_
    rintro e w' ⟨rfl, rfl⟩
    rw [H.out, HT.out, HN.out]
    go_wp2_with (at_builtin; refine wpList_app rfl _ _ rfl rfl (Own.nil_ w w.heap.size) rfl hcut (by omega) (Nat.le_refl _) ?_; intro A2 c2 w2 o2 g2)
    all_goals
      have b2 := below_nil rfl g2
      go_ret3
      refine ⟨A2, N, c2, ret_sie rfl (by rw [F.out.2.2, HT.out, HN.out]) F.out.1.symm, ?_, b2⟩
      rw [F.out.2.1, HT.out, HN.out, Int.toNat_natCast, Int.toNat_natCast]
      rw [Nat.zero_add, EN.out] at o2
      exact o2

end Go.Proofs.Ytliccofjlheceaa
