/- Reference 07's walks: Same, Much. append onto a row: what the old cells still hold. No program in sight. Operations on arrays. No program in sight. Words turned to the right: the walks of bits.RotateLeft32 and of digest's turn. SHA-256, plainly. SHA-256, plainly: rounds. Words of 32 bits: single operations. -/
import Derived.Test.YtliccofjlheceaaG08
import Derived.Test.YtliccofjlheceaaG04
import Derived.Test.YtliccofjlheceaaG03
import Derived.Laws.BitsAllLaws
namespace Go.Proofs.Ytliccofjlheceaa
open Go.RowKit
def RSameOk (a : Nd) : Prop := ∀ (b : Nd) (gs : List (Option Nat)) (w : World) (ca cb : List Value), RdL w (Fd w gs) (dN a) ca → RdL w (Fd w gs) (dN b) cb → (∀ b, some b ∈ gs → b < w.heap.size) → sz b ≤ 1000000000 →
  Calls Try.prog 25 #[.agg ca.toArray, .agg cb.toArray] w fun e w' => ∃ q : Bool, e = .returned (.bool q) ∧ (q = true ↔ a = b) ∧ Below w.heap.size w w'
theorem Nd.ext' {a b : Nd} (h1 : a.kind = b.kind) (h2 : a.path = b.path) (h3 : a.has = b.has) (h4 : a.val = b.val) (h5 : a.kids = b.kids) (h6 : a.hash = b.hash) : a = b := by
  rw [Nd.eta a, Nd.eta b, h1, h2, h3, h4, h5, h6]
set_option maxRecDepth 100000 in
set_option maxHeartbeats 2000000 in
theorem rsame_step (N : Nat) (ih : ∀ k : Nd, sz k < N → RSameOk k) (a : Nd) (ht : sz a ≤ N) (hN : N ≤ 1000000000) : RSameOk a := by
  intro b gs w ca cb hra hrb hgs hzb
  refine calls_ev (args := [.agg ca.toArray, .agg cb.toArray]) mixed Try.func25 rfl (by kernel_rfl) ?_
  obtain ⟨Ap, cp, Av, cv, Ak, ck, Ah, ch, rfl, r1, r3, r4, r5⟩ := hra.node
  obtain ⟨Bp, dp, Bv, dv, Bk, dk, Bh, dh, rfl, s1, s3, s4, s5⟩ := hrb.node
  have hsz := sz_eq a
  have hsl := szs_len a.kids
  have hsz' := sz_eq b
  have hsl' := szs_len b.kids
  have M := ((((((((St.start hgs).addD r5).addD r3).addD r1).addD s5).addD s3).addD s1).addD s4).addD r4
  clear r1 r3 r4 r5 hra s1 s3 s4 s5 hrb
  refine ev_assoc ?_
  refine cutS (Nat × Nat) (fun s W => St w gs W [(s.2, 38, ncs b Bp dp Bv dv Bk dk Bh dh), (s.1, 38, ncs a Ap cp Av cv Ak ck Ah ch)] [] [.dat false [dKs a.kids] [.slice Ak a.kids.length ck], .dat false [dKs b.kids] [.slice Bk b.kids.length dk]] ∧ a.kids.length = b.kids.length ∧ (a.kids = b.kids → a = b)) (fun s => [(2, .pointer (some ⟨s.1, 0, none⟩)), (3, .pointer (some ⟨s.2, 0, none⟩))]) ?_ ?_
  ·
    refine s_box (ncs a Ap cp Av cv Ak ck Ah ch) M rfl ?_
    clear M
    rintro g2 W M
    refine s_box (ncs b Bp dp Bv dv Bk dk Bh dh) M rfl ?_
    clear M
    rintro g3 W M
    have hB := M.B 0 rfl
    have hC := M.B 1 rfl
    unfold ncs at hB hC
    have hbel := M.below
    repeat' first
      | (refine p_fld fN0 rfl ?_)
      | (refine v_load agg_int rfl (hB.at_ rfl) ?_)
      | (refine v_load agg_int rfl (hC.at_ rfl) ?_)
    refine p_ne rfl rfl (fun hk => ?_) (fun hk => ?_)
    rotate_left
    ·
      exact ⟨false, rfl, ⟨(fun h => by cases h), fun h => absurd (by rw [h]) hk⟩, hbel⟩
    repeat' first
      | (refine p_fld fN2 rfl ?_)
      | (refine v_load agg_bo rfl (hB.at_ rfl) ?_)
      | (refine v_load agg_bo rfl (hC.at_ rfl) ?_)
    refine p_bneC u_bool rfl rfl (fun hh => ?_) (fun hh => ?_)
    rotate_left
    ·
      exact ⟨false, rfl, ⟨(fun h => by cases h), fun h => absurd (by rw [h]) hh⟩, hbel⟩
    repeat' first
      | (refine p_fld fN1 rfl ?_)
      | (refine v_load agg_b rfl (hB.at_ rfl) ?_)
      | (refine v_load agg_b rfl (hC.at_ rfl) ?_)
    obtain ⟨q, hq, hc⟩ := same_tf (c1 := cp) (c2 := dp) (M.rdb 5 rfl).2.2 (M.rdb 2 rfl).2.2
    cases q with
    | false =>
      refine cc is_same0 hc ?_
      rintro e W' ⟨rfl, rfl⟩
      refine ⟨_, rfl, ?_⟩
      refine p_not rfl ?_
      exact ⟨false, rfl, ⟨(fun h => by cases h), fun h => absurd (hq.2 (by rw [h])) (by decide)⟩, hbel⟩
    | true =>
    have hp := hq.1 rfl
    refine cc is_same0 hc ?_
    rintro e W' ⟨rfl, rfl⟩
    refine ⟨_, rfl, ?_⟩
    refine p_not rfl ?_
    clear hq hc
    repeat' first
      | (refine p_fld fN3 rfl ?_)
      | (refine v_load agg_b rfl (hB.at_ rfl) ?_)
      | (refine v_load agg_b rfl (hC.at_ rfl) ?_)
    obtain ⟨q, hq, hc⟩ := same_tf (c1 := cv) (c2 := dv) (M.rdb 6 rfl).2.2 (M.rdb 3 rfl).2.2
    cases q with
    | false =>
      refine cc is_same0 hc ?_
      rintro e W' ⟨rfl, rfl⟩
      refine ⟨_, rfl, ?_⟩
      refine p_not rfl ?_
      exact ⟨false, rfl, ⟨(fun h => by cases h), fun h => absurd (hq.2 (by rw [h])) (by decide)⟩, hbel⟩
    | true =>
    have hv := hq.1 rfl
    refine cc is_same0 hc ?_
    rintro e W' ⟨rfl, rfl⟩
    refine ⟨_, rfl, ?_⟩
    refine p_not rfl ?_
    clear hq hc
    repeat' first
      | (refine p_fld fN5 rfl ?_)
      | (refine v_load agg_b rfl (hB.at_ rfl) ?_)
      | (refine v_load agg_b rfl (hC.at_ rfl) ?_)
    obtain ⟨q, hq, hc⟩ := same_tf (c1 := ch) (c2 := dh) (M.rdb 7 rfl).2.2 (M.rdb 4 rfl).2.2
    cases q with
    | false =>
      refine cc is_same0 hc ?_
      rintro e W' ⟨rfl, rfl⟩
      refine ⟨_, rfl, ?_⟩
      refine p_not rfl ?_
      exact ⟨false, rfl, ⟨(fun h => by cases h), fun h => absurd (hq.2 (by rw [h])) (by decide)⟩, hbel⟩
    | true =>
    have hs := hq.1 rfl
    refine cc is_same0 hc ?_
    rintro e W' ⟨rfl, rfl⟩
    refine ⟨_, rfl, ?_⟩
    refine p_not rfl ?_
    clear hq hc
    repeat' first
      | (refine p_fld fN4 rfl ?_)
      | (refine v_load agg_ns rfl (hB.at_ rfl) ?_)
      | (refine v_load agg_ns rfl (hC.at_ rfl) ?_)
    repeat' first
      | (refine p_fld fN0 rfl ?_)
      | (refine p_fld fN1 rfl ?_)
      | (refine p_fld fN2 rfl ?_)
      | (refine p_fld fN3 rfl ?_)
      | (refine p_fld fN4 rfl ?_)
      | (refine p_fld fN5 rfl ?_)
      | (refine v_load agg_int rfl (hB.at_ rfl) ?_)
      | (refine v_load agg_b rfl (hB.at_ rfl) ?_)
      | (refine v_load agg_bo rfl (hB.at_ rfl) ?_)
      | (refine v_load agg_ns rfl (hB.at_ rfl) ?_)
      | (refine p_len slb rfl ?_)
      | (refine p_len sln rfl ?_)
    repeat' first
      | (refine p_fld fN0 rfl ?_)
      | (refine p_fld fN1 rfl ?_)
      | (refine p_fld fN2 rfl ?_)
      | (refine p_fld fN3 rfl ?_)
      | (refine p_fld fN4 rfl ?_)
      | (refine p_fld fN5 rfl ?_)
      | (refine v_load agg_int rfl (hC.at_ rfl) ?_)
      | (refine v_load agg_b rfl (hC.at_ rfl) ?_)
      | (refine v_load agg_bo rfl (hC.at_ rfl) ?_)
      | (refine v_load agg_ns rfl (hC.at_ rfl) ?_)
      | (refine p_len slb rfl ?_)
      | (refine p_len sln rfl ?_)
    refine p_ne rfl rfl (fun hl => ?_) (fun hl => ?_)
    · exact ⟨(g2, g3), ⟨M.fsub _ (by simp), by omega, fun h => Nd.ext' hk hp hh hv h hs⟩, (by repeat (first | exact trivial | refine ⟨rfl, ?_⟩))⟩
    · exact ⟨false, rfl, ⟨(fun h => by cases h), fun h => absurd (by rw [h]) hl⟩, hbel⟩
  · clear M
    rintro ⟨g2, g3⟩ B W ⟨M, hl, hab⟩
    dsimp only at M
    refine lp Nat (fun i W => i ≤ a.kids.length ∧ St w gs W [(g3, 38, ncs b Bp dp Bv dv Bk dk Bh dh), (g2, 38, ncs a Ap cp Av cv Ak ck Ah ch)] [] [.dat false [dKs a.kids] [.slice Ak a.kids.length ck], .dat false [dKs b.kids] [.slice Bk b.kids.length dk]] ∧ a.kids.take i = b.kids.take i) (fun i => [(2, .pointer (some ⟨g2, 0, none⟩)), (3, .pointer (some ⟨g3, 0, none⟩)), (5, .int .i64 i)]) (fun i => a.kids.length - i) 0 ⟨Nat.zero_le _, M, rfl⟩ (by repeat (first | exact trivial | refine ⟨rfl, ?_⟩)) ?_
    clear M
    rintro i E5 W5 ⟨hi, M, hrs⟩
    refine p_fld fN4 rfl ?_
    refine v_load agg_ns rfl (by first | exact (M.B 0 rfl).at_ rfl | exact (M.B 1 rfl).at_ rfl | exact (M.B 2 rfl).at_ rfl | exact (M.B 3 rfl).at_ rfl | exact (M.B 4 rfl).at_ rfl | exact M.lc 0 rfl _ _ rfl | exact M.lc 1 rfl _ _ rfl | exact M.lc 2 rfl _ _ rfl | exact M.lc 3 rfl _ _ rfl | exact M.lc 4 rfl _ _ rfl | exact M.lc 5 rfl _ _ rfl | exact M.lc 6 rfl _ _ rfl | exact M.lc 7 rfl _ _ rfl) ?_
    refine p_len sln rfl ?_
    refine p_lt rfl rfl (fun hlt => ?_) (fun hge => ?_)
    · obtain ⟨k, hki⟩ : ∃ k, a.kids[i]? = some k := ⟨_, List.getElem?_eq_getElem (by omega)⟩
      obtain ⟨k', hki'⟩ : ∃ k, b.kids[i]? = some k := ⟨_, List.getElem?_eq_getElem (by omega)⟩
      have hkz := szs_mem (List.mem_of_getElem? hki)
      have hkz' := szs_mem (List.mem_of_getElem? hki')
      replace M := M.drew
      obtain ⟨b1, o1, es, rfl, hel, M'⟩ := M.kid (M.d1 0 rfl) hki
      replace M := M'; clear M'
      obtain ⟨b2, o2, es', rfl, hel', M'⟩ := M.kid (M.d1 3 rfl) hki'
      replace M := M'; clear M'
      refine drT (Kp w gs [(g3, 38, ncs b Bp dp Bv dv (some ⟨b2, o2, none⟩) dk Bh dh), (g2, 38, ncs a Ap cp Av cv (some ⟨b1, o1, none⟩) ck Ah ch)] [.loc ((⟨b1, o1, none⟩ : Addr).add (i * 6)) es, .loc ((⟨b2, o2, none⟩ : Addr).add (i * 6)) es']) (.take 0 (.take 1 (.take 2 (.take 3 (.take 4 (.take 5 (.take 6 (.take 7 (.take 8 (.take 9 (.one 10 (.take 11 (.nil))))))))))))) (by kernel_rfl) (M.kp (by simp) (by simp)) ?_
      refine p_fld fN4 rfl ?_
      refine t_load agg_ns rfl (fun W K => by first | exact (K.B 0 rfl).at_ rfl | exact (K.B 1 rfl).at_ rfl | exact (K.B 2 rfl).at_ rfl | exact (K.B 3 rfl).at_ rfl | exact K.lc 0 rfl _ _ rfl | exact K.lc 1 rfl _ _ rfl | exact K.lc 2 rfl _ _ rfl | exact K.lc 3 rfl _ _ rfl) ?_
      refine p_at sln rfl rfl rfl (by omega) ?_
      refine t_loadN es agg_nd rfl hel (fun W K => K.lc 0 rfl) ?_
      refine p_fld fN4 rfl ?_
      refine t_load agg_ns rfl (fun W K => by first | exact (K.B 0 rfl).at_ rfl | exact (K.B 1 rfl).at_ rfl | exact (K.B 2 rfl).at_ rfl | exact (K.B 3 rfl).at_ rfl | exact K.lc 0 rfl _ _ rfl | exact K.lc 1 rfl _ _ rfl | exact K.lc 2 rfl _ _ rfl | exact K.lc 3 rfl _ _ rfl) ?_
      refine p_at sln rfl rfl rfl (by omega) ?_
      refine t_loadN es' agg_nd rfl hel' (fun W K => K.lc 1 rfl) ?_
      refine cc is_r7same (ih k (by omega) k' _ _ es es' (M.da 3 rfl) (M.da 1 rfl) M.olt (by omega)) ?_
      rintro e W ⟨q, rfl, hq, hb⟩
      replace M := M.call hb
      refine ⟨_, rfl, (M.kp (by simp) (by simp)), ?_⟩
      refine p_not rfl ?_
      cases q with
      | false =>
        refine ⟨false, rfl, ⟨(fun h => by cases h), fun h => ?_⟩, M.below⟩
        rw [h, hki'] at hki
        injection hki with hki
        exact hq.2 hki.symm
      | true =>
        have hkk := hq.1 rfl
        refine p_addN (b := 1) rfl rfl (by omega) ?_
        refine ⟨i + 1, ⟨by omega, M.fsub _ (by simp), ?_⟩, (by repeat (first | exact trivial | refine ⟨rfl, ?_⟩)), by omega⟩
        have h1 := List.getElem?_eq_some_iff.1 hki
        have h2 := List.getElem?_eq_some_iff.1 hki'
        rw [List.take_succ_eq_append_getElem h1.1, List.take_succ_eq_append_getElem h2.1, h1.2, h2.2, hrs, hkk]
    · refine ⟨true, rfl, ⟨fun _ => hab ?_, fun _ => rfl⟩, M.below⟩
      rw [List.take_of_length_le (by omega), List.take_of_length_le (by omega)] at hrs
      exact hrs
theorem rsame_any : ∀ (N : Nat), N ≤ 1000000000 → ∀ t : Nd, sz t < N → RSameOk t
  | 0, _, t, h => by omega
  | N + 1, hN, t, h => rsame_step N (fun k hk => rsame_any N (by omega) k hk) t (by omega) (by omega)
mutual
def muchP : Nd → Nat → Nat
  | .mk _ p _ v ks h, most => muchK ks most (1 + (p.length + v.length + h.length) / 50)
def muchK : List Nd → Nat → Nat → Nat
  | [], _, m => m
  | k :: ks, most, m => if m < most then muchK ks most (m + muchP k (most - m)) else m
end
theorem muchP_eq (t : Nd) (most : Nat) : muchP t most = muchK t.kids most (1 + (t.path.length + t.val.length + t.hash.length) / 50) := by cases t; rw [muchP]; rfl
mutual
theorem much_sz : ∀ (t : Nd) (most : Nat), muchP t most < most → sz t ≤ 55 * muchP t most
  | .mk _ p _ v ks h, most, hm => by
    rw [muchP] at hm ⊢
    rw [sz]
    have := muchK_sz ks most _ hm
    omega
theorem muchK_sz : ∀ (ks : List Nd) (most m : Nat), muchK ks most m < most → szs ks + 55 * m ≤ 55 * muchK ks most m
  | [], most, m, _ => by rw [muchK, szs]; omega
  | k :: ks, most, m, hm => by
    rw [muchK] at hm ⊢
    rw [szs]
    by_cases h : m < most
    · rw [if_pos h] at hm ⊢
      have h1 := muchK_sz ks most _ hm
      have h2 : m + muchP k (most - m) ≤ muchK ks most (m + muchP k (most - m)) := muchK_ge ks most _
      have h3 := much_sz k (most - m) (by omega)
      omega
    · rw [if_neg h] at hm; omega
theorem muchK_ge : ∀ (ks : List Nd) (most m : Nat), m ≤ muchK ks most m
  | [], most, m => by rw [muchK]; omega
  | k :: ks, most, m => by
    rw [muchK]
    split
    · have := muchK_ge ks most (m + muchP k (most - m)); omega
    · omega
end
mutual
theorem much_le : ∀ (t : Nd) (most : Nat), muchP t most ≤ sz t
  | .mk _ p _ v ks h, most => by
    rw [muchP, sz]
    have := muchK_le ks most (1 + (p.length + v.length + h.length) / 50)
    omega
theorem muchK_le : ∀ (ks : List Nd) (most m : Nat), muchK ks most m ≤ m + szs ks
  | [], most, m => by rw [muchK]; omega
  | k :: ks, most, m => by
    rw [muchK, szs]
    split
    · have := muchK_le ks most (m + muchP k (most - m))
      have := much_le k (most - m)
      omega
    · omega
end
def MuchOk (t : Nd) : Prop := ∀ (gs : List (Option Nat)) (w : World) (cs : List Value) (most : Nat), RdL w (Fd w gs) (dN t) cs → (∀ b, some b ∈ gs → b < w.heap.size) → most ≤ 1000000 →
  Calls Try.prog 42 #[.agg cs.toArray, .int .i64 most] w fun e w' => e = .returned (.int .i64 (muchP t most)) ∧ Below w.heap.size w w'
set_option maxRecDepth 100000 in
set_option maxHeartbeats 1000000 in
theorem much_step (N : Nat) (ih : ∀ k : Nd, sz k < N → MuchOk k) (t : Nd) (ht : sz t ≤ N) (hN : N ≤ 1000000000) : MuchOk t := by
  intro gs w cs most hr hgs hmost
  refine calls_ev (args := [.agg cs.toArray, .int .i64 most]) mixed Try.func42 rfl (by kernel_rfl) ?_
  obtain ⟨Ap, cp, Av, cv, Ak, ck, Ah, ch, rfl, r1, r3, r4, r5⟩ := hr.node
  have hsz := sz_eq t
  have hsl := szs_len t.kids
  have M := (St.start hgs).addD r4
  clear r1 r3 r4 r5 hr
  obtain ⟨T, hT⟩ : ∃ T, T = muchP t most := ⟨_, rfl⟩
  rw [← hT]
  rw [muchP_eq] at hT
  refine s_box (ncs t Ap cp Av cv Ak ck Ah ch) M rfl ?_
  clear M
  rintro g2 W M
  have hB := M.B 0 rfl
  unfold ncs at hB
  repeat' first
    | (refine p_fld fN0 rfl ?_)
    | (refine p_fld fN1 rfl ?_)
    | (refine p_fld fN2 rfl ?_)
    | (refine p_fld fN3 rfl ?_)
    | (refine p_fld fN4 rfl ?_)
    | (refine p_fld fN5 rfl ?_)
    | (refine v_load agg_int rfl (hB.at_ rfl) ?_)
    | (refine v_load agg_b rfl (hB.at_ rfl) ?_)
    | (refine v_load agg_bo rfl (hB.at_ rfl) ?_)
    | (refine v_load agg_ns rfl (hB.at_ rfl) ?_)
    | (refine p_len slb rfl ?_)
    | (refine p_len sln rfl ?_)
  refine p_addN rfl rfl (by omega) ?_
  repeat' first
    | (refine p_fld fN0 rfl ?_)
    | (refine p_fld fN1 rfl ?_)
    | (refine p_fld fN2 rfl ?_)
    | (refine p_fld fN3 rfl ?_)
    | (refine p_fld fN4 rfl ?_)
    | (refine p_fld fN5 rfl ?_)
    | (refine v_load agg_int rfl (hB.at_ rfl) ?_)
    | (refine v_load agg_b rfl (hB.at_ rfl) ?_)
    | (refine v_load agg_bo rfl (hB.at_ rfl) ?_)
    | (refine v_load agg_ns rfl (hB.at_ rfl) ?_)
    | (refine p_len slb rfl ?_)
    | (refine p_len sln rfl ?_)
  refine p_addN rfl rfl (by omega) ?_
  refine p_quoN (b := 50) rfl rfl (by decide) (by omega) ?_
  refine p_addN (a := 1) rfl rfl (by omega) ?_
  obtain ⟨m0, hm0⟩ : ∃ m0, m0 = 1 + (t.path.length + t.val.length + t.hash.length) / 50 := ⟨_, rfl⟩
  have hm0l : m0 + szs t.kids ≤ sz t := by omega
  rw [← hm0] at hT ⊢
  clear hB
  refine lp (Nat × Nat) (fun s W => s.1 ≤ t.kids.length ∧ St w gs W [(g2, 38, ncs t Ap cp Av cv Ak ck Ah ch)] [] [.dat false [dKs t.kids] [.slice Ak t.kids.length ck]] ∧ T = muchK (t.kids.drop s.1) most s.2 ∧ s.2 + szs (t.kids.drop s.1) ≤ sz t) (fun s => [(1, .int .i64 most), (2, .pointer (some ⟨g2, 0, none⟩)), (5, .int .i64 s.2), (6, .int .i64 s.1)]) (fun s => t.kids.length - s.1) (0, m0) ⟨Nat.zero_le _, M, hT, by simp only [List.drop_zero]; exact hm0l⟩ (by repeat (first | exact trivial | refine ⟨rfl, ?_⟩)) ?_
  clear M
  rintro ⟨i, m⟩ E5 W5 ⟨hi, M, hTi, hbd⟩
  dsimp only at hi hTi hbd
  have hB := M.B 0 rfl
  unfold ncs at hB
  repeat' first
    | (refine p_fld fN0 rfl ?_)
    | (refine p_fld fN1 rfl ?_)
    | (refine p_fld fN2 rfl ?_)
    | (refine p_fld fN3 rfl ?_)
    | (refine p_fld fN4 rfl ?_)
    | (refine p_fld fN5 rfl ?_)
    | (refine v_load agg_int rfl (hB.at_ rfl) ?_)
    | (refine v_load agg_b rfl (hB.at_ rfl) ?_)
    | (refine v_load agg_bo rfl (hB.at_ rfl) ?_)
    | (refine v_load agg_ns rfl (hB.at_ rfl) ?_)
    | (refine p_len slb rfl ?_)
    | (refine p_len sln rfl ?_)
  refine p_lt rfl rfl (fun hlt => ?_) (fun hge => ?_)
  · dsimp only at hlt
    obtain ⟨k, hki⟩ : ∃ k, t.kids[i]? = some k := ⟨_, List.getElem?_eq_getElem (by omega)⟩
    have hdr : t.kids.drop i = k :: t.kids.drop (i + 1) := by
      have h1 := (List.getElem?_eq_some_iff.1 hki)
      rw [List.drop_eq_getElem_cons h1.1, h1.2]
    have hkz := szs_mem (List.mem_of_getElem? hki)
    rw [hdr] at hTi hbd
    unfold muchK at hTi
    unfold szs at hbd
    refine p_lt rfl rfl (fun hm => ?_) (fun hm => ?_)
    · dsimp only at hm
      rw [if_pos (by omega)] at hTi
      obtain ⟨b, off, es, e0, hel, M'⟩ := M.kid (by first | with_reducible exact M.d1_0 | with_reducible exact M.d1_1 | with_reducible exact M.d1_2 | with_reducible exact M.d1_3 | with_reducible exact M.d1_4 | with_reducible exact M.d1_5 | with_reducible exact M.d1_6 | with_reducible exact M.d1_7 | with_reducible exact M.d1_8 | with_reducible exact M.d1_9 | with_reducible exact M.d1_10 | with_reducible exact M.d1_11) hki
      replace M := M'; clear M'
      repeat' first
        | (refine p_fld fN0 rfl ?_)
        | (refine p_fld fN1 rfl ?_)
        | (refine p_fld fN2 rfl ?_)
        | (refine p_fld fN3 rfl ?_)
        | (refine p_fld fN4 rfl ?_)
        | (refine p_fld fN5 rfl ?_)
        | (refine v_load agg_int rfl (hB.at_ rfl) ?_)
        | (refine v_load agg_b rfl (hB.at_ rfl) ?_)
        | (refine v_load agg_bo rfl (hB.at_ rfl) ?_)
        | (refine v_load agg_ns rfl (hB.at_ rfl) ?_)
        | (refine p_len slb rfl ?_)
        | (refine p_len sln rfl ?_)
      refine p_at sln (by show (Value.slice Ak t.kids.length ck) = _; rw [e0]) rfl rfl (by omega) ?_
      refine v_loadN es agg_nd rfl hel (M.lc 0 rfl) ?_
      refine p_subN rfl rfl (by dsimp only; omega) (by omega) ?_
      refine cc is_r7much (ih k (by omega) _ _ es (most - m) (by first | with_reducible exact M.da_0 | with_reducible exact M.da_1 | with_reducible exact M.da_2 | with_reducible exact M.da_3 | with_reducible exact M.da_4 | with_reducible exact M.da_5 | with_reducible exact M.da_6 | with_reducible exact M.da_7 | with_reducible exact M.da_8 | with_reducible exact M.da_9 | with_reducible exact M.da_10 | with_reducible exact M.da_11) M.olt (by omega)) ?_
      rintro e W ⟨rfl, hb⟩
      refine ⟨_, rfl, ?_⟩
      replace M := M.call hb
      have hkl := much_le k (most - m)
      refine p_addN rfl rfl (by dsimp only; omega) ?_
      refine p_addN (b := 1) rfl rfl (by dsimp only; omega) ?_
      exact ⟨(i + 1, m + muchP k (most - m)), ⟨by dsimp only; omega, M.fsub _ (by simp), hTi, by dsimp only; omega⟩, (by repeat (first | exact trivial | refine ⟨rfl, ?_⟩)), by dsimp only; omega⟩
    · dsimp only at hm
      rw [if_neg (by omega)] at hTi
      exact ⟨by rw [hTi]; rfl, M.below⟩
  · dsimp only at hge
    rw [List.drop_of_length_le (by omega)] at hTi
    unfold muchK at hTi
    exact ⟨by rw [hTi]; rfl, M.below⟩
theorem much_any : ∀ (N : Nat), N ≤ 1000000000 → ∀ t : Nd, sz t < N → MuchOk t
  | 0, _, t, h => by omega
  | N + 1, hN, t, h => much_step N (fun k hk => much_any N (by omega) k hk) t (by omega) (by omega)
end Go.Proofs.Ytliccofjlheceaa
namespace Go.Proofs.Ytliccofjlheceaa
open Go.RowKit
theorem app_moved {P : Program} {w w' : World} {base : Nat} {t ty e : TypeId} {i : TypeInfo} {z : Value} (ht : P.underlying t = some (.slice e)) (hi : P.info? e = some i) (hz : i.zero = some z) {A : Option Addr} {n c0 : Nat} {xs : List Value} (hown : w.ownsRow base e i.size (.slice A n c0) n xs)
    {a : Addr} {m c : Nat} {news : List Value} (hl : news.length = m * i.size) (hnews : ∀ j u, news[j]? = some u → w.cell? (a.add j) = some u) (h1 : ∀ u ∈ news, u.oneCell' = true) (h63 : n + m ≤ maxLen) (hbytes : (n + m) * i.bytes ≤ 140737488355328) {v' : Value}
    (hrun : (Builtin.append_ #[t, t] ty #[.slice A n c0, .slice (some a) m c]).run P w = .ok v' w') : v'.ownBlock = (Value.slice A n c0).ownBlock ∨ w.grownBy w' none := by
  have hsmall : n + m ≤ 9223372036854775807 := by simp only [maxLen] at h63; omega
  rcases hown.2 with ⟨hv, hx⟩ | ⟨g, cap, cur, hv, hbg, hg, hnc, hcm, hcs, htake⟩
  · injection hv with e1 e2 e3
    subst e1; subst e2; subst e3
    have hx : xs = [] := List.eq_nil_of_length_eq_zero (by simpa using hown.1)
    by_cases hm : m = 0
    · subst hm
      have hn : news = [] := List.eq_nil_of_length_eq_zero (by simpa using hl)
      left
      have h2 : (Builtin.append_ #[t, t] ty #[.slice none 0 0, .slice (some a) 0 c]).run P w = .ok (.slice none 0 0) w := by
        simp [Builtin.append_, run_underlying ht, sizeOf, typeInfo, hi, Builtin.lenOf, Builtin.firstCells, loadCells, loadCellsFrom]
      rw [h2] at hrun
      injection hrun with e1 e2
      rw [← e1]
    · right
      have hr := run_append_nil (P := P) w t ty e i z ht hi hz a m c news hl hnews (by omega) (by omega) (by have hb := hbytes; simp only [Nat.zero_add] at hb; omega)
      rw [hr] at hrun
      injection hrun with e1 e2
      rw [← e2]
      exact ⟨rfl, rfl, rfl, by simp, fun k hk _ => Below.heap_alloc w.drew _ k hk⟩
  · injection hv with e1 e2 e3
    subst e1; subst e3
    by_cases hroom : n + m ≤ c0
    · left
      have hfit : n * i.size + news.length ≤ cur.size := by rw [hl, hcs, ← Nat.add_mul]; exact Nat.mul_le_mul_right _ hroom
      have hr := run_append_room (P := P) w t ty e i ht hi g n c0 cur hg a m c news hl hnews h1 hroom hfit
      rw [hr] at hrun
      injection hrun with e1 e2
      rw [← e1]; rfl
    · right
      have holds : ∀ j u, xs[j]? = some u → w.cell? ((⟨g, 0, none⟩ : Addr).add j) = some u := hown.cells (g := g) rfl
      have hr := run_append_grow (P := P) w t ty e i z ht hi hz ⟨g, 0, none⟩ n c0 xs hown.1 holds a m c news hl hnews (by omega) (by omega) (growslice_fits (by omega) hbytes)
      rw [hr] at hrun
      injection hrun with e1 e2
      rw [← e2]
      exact ⟨rfl, rfl, rfl, by simp, fun k hk _ => Below.heap_alloc w.drew _ k hk⟩
/-- An element's place, reckoned. -/
theorem p_atM {P : Program} {E : Env} {d : Option Nat} {ty : TypeId} {p : String} {af : Array Edge} {g : Option (Nat × Bool)} {x y : Operand} {t : TypeId} {kd : IntKind} {k : Value → Prop} {b o q n c i : Nat} {e : TypeId} {s : Nat} {j : Int} (hT : slOf P t = some (e, s)) (hx : val E x = .slice (some ⟨b, o, none⟩) n c) (hy : val E y = .int kd j) (hj : j = (i : Int)) (hi : i < n) (hq : o + i * s = q)
    (h : k (.pointer (some ⟨b, q, none⟩))) : VPure P E { dst := d, op := .indexAddr t x y, type := ty, pos := p, after := af, guard := g } k :=
  p_at hT hx hy hj hi (by rw [Addr.add_lit, hq]; exact h)
section
variable {P : Program} {E : Env} {d : Option Nat} {ty : TypeId} {p : String} {af : Array Edge} {gd : Option (Nat × Bool)} {x y : Operand} {t : TypeId} {kw : Value → World → Prop} {w W : World} {gs : List (Option Nat)} {L : Lc} {R : List Row} {fs : List Fact}
theorem row_cells {W : World} {base : Nat} {e : TypeId} {s n c : Nat} {A : Option Addr} {xs : List Value} (h : W.ownsRow base e s (.slice A n c) n xs) : ∀ (ad : Addr), A = some ad → ∀ j u, xs[j]? = some u → W.cell? (ad.add j) = some u := by
  intro ad hA j u hu
  subst hA
  rcases h.2 with ⟨hv, _⟩ | ⟨g, cap, cur, hv, _⟩
  · cases hv
  · injection hv with e1 e2 e3
    injection e1 with e1
    subst e1
    exact h.cells (g := g) rfl j u hu
/-- append of a block onto the first row; the old cells hold what they held. -/
theorem s_appK {e : TypeId} {z : Value} {s bytes : Nat} {A : Option Addr} {n c : Nat} {xs : List Value} (M : St w gs W L (⟨e, s, A, n, c, xs⟩ :: R) fs) (hT : P.underlying t = some (.slice e)) (hi : (P.info? e).map (fun i => (i.zero, i.size, i.bytes)) = some (some z, s, bytes)) (hzs : z.cells.size = s) (hs0 : 0 < s)
    (hx : val E x = .slice A n c) {a : Addr} {m c2 : Nat} {news : List Value} (hy : val E y = .slice (some a) m c2) {B : Nat} (hr : Reads W B s (some a) m news) (hm : 0 < m) (h1 : ∀ u ∈ news, u.oneCell' = true)
    (hsz : n + m ≤ 1000000000 ∧ bytes ≤ 1000)
    (h : ∀ A' c' W', St w gs W' L (⟨e, s, A', n + m, c', xs ++ news⟩ :: R) fs → (∀ ad, A = some ad → ∀ j u, xs[j]? = some u → W'.cell? (ad.add j) = some u) → kw (.slice A' (n + m) c') W') :
    VVal P E { dst := d, op := .call { callee := .builtin .append, args := #[x, y], argTypes := #[t, t] }, type := ty, pos := p, after := af, guard := gd } W kw := by
  have hrow := M.row _ (List.mem_cons_self ..)
  have key := s_app (d := d) (ty := ty) (p := p) (af := af) (gd := gd) (kw := fun v W' => ∃ A' c', v = .slice A' (n + m) c' ∧ St w gs W' L (⟨e, s, A', n + m, c', xs ++ news⟩ :: R) fs) M hT hi hzs hs0 hx hy hr h1 hsz (fun A' c' W' M' _ => ⟨A', c', rfl, M'⟩)
  obtain ⟨v, W', hrun, A', c', rfl, M'⟩ := key.go
  refine ⟨_, W', hrun, h A' c' W' M' ?_⟩
  intro ad hA j u hu
  obtain ⟨i, hi0, hz0, hz1, hz2⟩ := info_parts hi
  have hcells : ∀ j u, news[j]? = some u → W.cell? (a.add j) = some u := by
    intro j u hu
    obtain ⟨b, off, h, _, hc⟩ := hr.2 hm
    injection h with h
    subst h
    rw [Addr.add_lit]
    exact hc j u hu
  have hrun2 : (Builtin.append_ #[t, t] ty #[.slice A n c, .slice (some a) m c2]).run P W = .ok (.slice A' (n + m) c') W' := by
    simp only [execOp, resolve, invoke, builtin, Sem.run_bind, Sem.run_pure, Result.andThen_ok, List.map_toArray, List.map_cons, List.map_nil, hx, hy] at hrun
    revert hrun
    cases hq : (Builtin.append_ #[t, t] ty #[.slice A n c, .slice (some a) m c2]).run P W with
    | ok v w1 =>
      simp only [Result.andThen_ok]
      intro h
      simp only [Sem.run_pure, Result.ok.injEq, Next.value.injEq] at h
      rw [h.1, h.2]
    | _ => intro h; simp at h
  have hb : (n + m) * bytes ≤ 140737488355328 := by
    have := Nat.mul_le_mul hsz.1 hsz.2
    omega
  subst hz1; subst hz2
  rcases app_moved (P := P) hT hi0 hz0 hrow hr.1 hcells h1 (show n + m ≤ maxLen by unfold maxLen; omega) hb hrun2 with h2 | h2
  · have hrow' := M'.row _ (List.mem_cons_self ..)
    have hju : (xs ++ news)[j]? = some u := by rw [List.getElem?_append_left (List.getElem?_eq_some_iff.1 hu).1]; exact hu
    have hc := row_cells hrow'
    rw [own_bk, own_bk] at h2
    subst hA
    rcases hrow.2 with ⟨hv, _⟩ | ⟨g, cap, cur, hv, _⟩
    · cases hv
    · injection hv with e1 e2 e3
      injection e1 with e1
      subst e1
      rcases hrow'.2 with ⟨hv', _⟩ | ⟨g', cap', cur', hv', _⟩
      · injection hv' with e1
        subst e1
        cases h2
      · injection hv' with e1 e2 e3
        subst e1
        have : g' = g := by simpa [bk] using h2
        subst this
        exact hc _ rfl j u hju
  · have hlt := row_bklo hrow
    subst hA
    have h0 := row_cells hrow _ rfl j u hu
    exact (World.cell?_of_block (w := W) (a := ad.add j) (h2.block _ (World.block_lt_of_cell? W _ h0) (by simp))).trans h0
end
theorem St.frzN {w W : World} {gs : List (Option Nat)} {L : Lc} {R : List Row} {fs : List Fact} {g : Nat} {T : TypeId} {cs : List Value} (M : St w gs W ((g, T, cs) :: L) R fs) : St w gs W L R (.loc ⟨g, 0, none⟩ cs :: fs) := by
  have hB := M.B 0 rfl
  have hg := (M.blk _ (List.mem_cons_self ..)).2
  have hap := M.ap
  rw [List.map_cons, List.cons_append, List.pairwise_cons] at hap
  have hn : some g ∉ own L R gs := fun e => by
    unfold own at e
    rw [← List.append_assoc] at e
    rcases List.mem_append.1 e with e | e
    · rcases hap.1 _ e with h | h
      · cases h
      · exact h rfl
    · have := M.lt g e
      have : w.heap.size ≤ g := hg
      omega
  exact M.dropL.addC (a := ⟨g, 0, none⟩) ⟨hB.lt, hn⟩ (M.run 0 rfl)
end Go.Proofs.Ytliccofjlheceaa
namespace Go.Proofs.Ytliccofjlheceaa
open Go.RowKit
/-- Turned to the right. -/
def rotr (x n : Nat) : Nat := ((x <<< (32 - n)) % 4294967296) ||| (x >>> n)
theorem rotr_lt {x : Nat} (n : Nat) (h : x < 4294967296) : rotr x n < 4294967296 := by
  unfold rotr
  have h1 : x >>> n < 2 ^ 32 := by
    rw [Nat.shiftRight_eq_div_pow]
    exact Nat.lt_of_le_of_lt (Nat.div_le_self _ _) h
  exact Nat.or_lt_two_pow (n := 32) (Nat.mod_lt _ (by decide)) h1
end Go.Proofs.Ytliccofjlheceaa
namespace Go.Proofs.Ytliccofjlheceaa
def byt (b : List UInt8) (k : Nat) : Nat := (b.getD k 0).toNat
theorem byt_lt (b : List UInt8) (k : Nat) : byt b k < 256 := (b.getD k 0).toNat_lt
/-- Four bytes, the highest first. -/
def wordB (b : List UInt8) (i : Nat) : Nat := (((byt b (4 * i) <<< 24) ||| (byt b (4 * i + 1) <<< 16)) ||| (byt b (4 * i + 2) <<< 8)) ||| byt b (4 * i + 3)
def sg0 (x : Nat) : Nat := (rotr x 7 ^^^ rotr x 18) ^^^ (x >>> 3)
def sg1 (x : Nat) : Nat := (rotr x 17 ^^^ rotr x 19) ^^^ (x >>> 10)
def nextW (w : List Nat) (i : Nat) : Nat := (((sg1 (w.getD (i - 2) 0) + w.getD (i - 7) 0) % 4294967296 + sg0 (w.getD (i - 15) 0)) % 4294967296 + w.getD (i - 16) 0) % 4294967296
/-- The first i of the words of 64 bytes. -/
def wsF (b : List UInt8) : Nat → List Nat
  | 0 => []
  | i + 1 => wsF b i ++ [if i < 16 then wordB b i else nextW (wsF b i) i]
theorem wsF_len (b : List UInt8) : ∀ i, (wsF b i).length = i
  | 0 => rfl
  | i + 1 => by unfold wsF; rw [List.length_append, wsF_len b i]; rfl
theorem shl_lt {x n : Nat} (h : x < 256) (hn : n ≤ 24) : x <<< n < 4294967296 := by
  rw [Nat.shiftLeft_eq]
  have : 2 ^ n ≤ 2 ^ 24 := Nat.pow_le_pow_right (by decide) hn
  have h2 : x * 2 ^ n ≤ 255 * 2 ^ 24 := Nat.mul_le_mul (by omega) this
  exact Nat.lt_of_le_of_lt h2 (by decide)
theorem or_lt {x y : Nat} (hx : x < 4294967296) (hy : y < 4294967296) : x ||| y < 4294967296 := Nat.or_lt_two_pow (n := 32) hx hy
theorem xor_lt {x y : Nat} (hx : x < 4294967296) (hy : y < 4294967296) : x ^^^ y < 4294967296 := Nat.xor_lt_two_pow (n := 32) hx hy
theorem and_lt {x y : Nat} (hx : x < 4294967296) : x &&& y < 4294967296 := Nat.lt_of_le_of_lt Nat.and_le_left hx
theorem shr_lt {x : Nat} (n : Nat) (hx : x < 4294967296) : x >>> n < 4294967296 := by
  rw [Nat.shiftRight_eq_div_pow]; exact Nat.lt_of_le_of_lt (Nat.div_le_self _ _) hx
theorem wordB_lt (b : List UInt8) (i : Nat) : wordB b i < 4294967296 :=
  or_lt (or_lt (or_lt (shl_lt (byt_lt _ _) (by decide)) (shl_lt (byt_lt _ _) (by decide))) (shl_lt (byt_lt _ _) (by decide))) (Nat.lt_trans (byt_lt _ _) (by decide))
theorem wsF_lt (b : List UInt8) : ∀ (i : Nat), ∀ x ∈ wsF b i, x < 4294967296
  | 0, x, h => by cases h
  | i + 1, x, h => by
    unfold wsF at h
    rcases List.mem_append.1 h with h | h
    · exact wsF_lt b i x h
    · simp only [List.mem_singleton] at h
      subst h
      split
      · exact wordB_lt b i
      · exact Nat.mod_lt _ (by decide)
theorem getD_lt {l : List Nat} (h : ∀ x ∈ l, x < 4294967296) (j : Nat) : l.getD j 0 < 4294967296 := by
  rw [List.getD_eq_getElem?_getD]
  cases hx : l[j]? with
  | none => decide
  | some x => exact h x (List.mem_of_getElem? hx)
def words (b : List UInt8) : List Nat := wsF b 64
/-- A cell of a word. -/
def cu (n : Nat) : Value := .int .u32 (n : Int)
end Go.Proofs.Ytliccofjlheceaa
namespace Go.Proofs.Ytliccofjlheceaa
/-- Eight words. -/
structure H8 where
  a : Nat
  b : Nat
  c : Nat
  d : Nat
  e : Nat
  f : Nat
  g : Nat
  h : Nat
def hc (v : H8) : List Value := [cu v.a, cu v.b, cu v.c, cu v.d, cu v.e, cu v.f, cu v.g, cu v.h]
structure H8.Ok (v : H8) : Prop where
  a : v.a < 4294967296
  b : v.b < 4294967296
  c : v.c < 4294967296
  d : v.d < 4294967296
  e : v.e < 4294967296
  f : v.f < 4294967296
  g : v.g < 4294967296
  h : v.h < 4294967296
def bs1 (e : Nat) : Nat := (rotr e 6 ^^^ rotr e 11) ^^^ rotr e 25
def bs0 (a : Nat) : Nat := (rotr a 2 ^^^ rotr a 13) ^^^ rotr a 22
def chs (e f g : Nat) : Nat := (e &&& f) ^^^ ((4294967295 ^^^ e) &&& g)
def maj (a b c : Nat) : Nat := ((a &&& b) ^^^ (a &&& c)) ^^^ (b &&& c)
def tt1 (v : H8) (k w : Nat) : Nat := ((((v.h + bs1 v.e) % 4294967296 + chs v.e v.f v.g) % 4294967296 + k) % 4294967296 + w) % 4294967296
def tt2 (v : H8) : Nat := (bs0 v.a + maj v.a v.b v.c) % 4294967296
def rnd (v : H8) (k w : Nat) : H8 := ⟨(tt1 v k w + tt2 v) % 4294967296, v.a, v.b, v.c, (v.d + tt1 v k w) % 4294967296, v.e, v.f, v.g⟩
theorem rnd_ok {v : H8} (h : v.Ok) (k w : Nat) : (rnd v k w).Ok := ⟨Nat.mod_lt _ (by decide), h.a, h.b, h.c, Nat.mod_lt _ (by decide), h.e, h.f, h.g⟩
/-- i rounds. -/
def rndF (ks ws : List Nat) (v : H8) : Nat → H8
  | 0 => v
  | i + 1 => rnd (rndF ks ws v i) (ks.getD i 0) (ws.getD i 0)
theorem rndF_ok (ks ws : List Nat) {v : H8} (h : v.Ok) : ∀ i, (rndF ks ws v i).Ok
  | 0 => h
  | i + 1 => rnd_ok (rndF_ok ks ws h i) _ _
def add8 (x y : H8) : H8 := ⟨(x.a + y.a) % 4294967296, (x.b + y.b) % 4294967296, (x.c + y.c) % 4294967296, (x.d + y.d) % 4294967296, (x.e + y.e) % 4294967296, (x.f + y.f) % 4294967296, (x.g + y.g) % 4294967296, (x.h + y.h) % 4294967296⟩
theorem add8_ok (x y : H8) : (add8 x y).Ok := ⟨Nat.mod_lt _ (by decide), Nat.mod_lt _ (by decide), Nat.mod_lt _ (by decide), Nat.mod_lt _ (by decide), Nat.mod_lt _ (by decide), Nat.mod_lt _ (by decide), Nat.mod_lt _ (by decide), Nat.mod_lt _ (by decide)⟩
def begin8 : H8 := ⟨1779033703, 3144134277, 1013904242, 2773480762, 1359893119, 2600822924, 528734635, 1541459225⟩
def roots : List Nat := [0x428a2f98, 0x71374491, 0xb5c0fbcf, 0xe9b5dba5, 0x3956c25b, 0x59f111f1, 0x923f82a4, 0xab1c5ed5,
  0xd807aa98, 0x12835b01, 0x243185be, 0x550c7dc3, 0x72be5d74, 0x80deb1fe, 0x9bdc06a7, 0xc19bf174,
  0xe49b69c1, 0xefbe4786, 0x0fc19dc6, 0x240ca1cc, 0x2de92c6f, 0x4a7484aa, 0x5cb0a9dc, 0x76f988da,
  0x983e5152, 0xa831c66d, 0xb00327c8, 0xbf597fc7, 0xc6e00bf3, 0xd5a79147, 0x06ca6351, 0x14292967,
  0x27b70a85, 0x2e1b2138, 0x4d2c6dfc, 0x53380d13, 0x650a7354, 0x766a0abb, 0x81c2c92e, 0x92722c85,
  0xa2bfe8a1, 0xa81a664b, 0xc24b8b70, 0xc76c51a3, 0xd192e819, 0xd6990624, 0xf40e3585, 0x106aa070,
  0x19a4c116, 0x1e376c08, 0x2748774c, 0x34b0bcb5, 0x391c0cb3, 0x4ed8aa4a, 0x5b9cca4f, 0x682e6ff3,
  0x748f82ee, 0x78a5636f, 0x84c87814, 0x8cc70208, 0x90befffa, 0xa4506ceb, 0xbef9a3f7, 0xc67178f2]
/-- What 64 bytes make of eight words. -/
def take8 (h : H8) (b : List UInt8) : H8 := add8 h (rndF roots (words b) h 64)
/-- What all whole blocks make; n blocks. -/
def blocksF (h : H8) : Nat → List UInt8 → H8
  | 0, _ => h
  | n + 1, b => blocksF (take8 h (b.take 64)) n (b.drop 64)
def put4 (x : Nat) : List UInt8 := [UInt8.ofNat (x >>> 24), UInt8.ofNat (x >>> 16), UInt8.ofNat (x >>> 8), UInt8.ofNat x]
def out8 (h : H8) : List UInt8 := put4 h.a ++ (put4 h.b ++ (put4 h.c ++ (put4 h.d ++ (put4 h.e ++ (put4 h.f ++ (put4 h.g ++ put4 h.h))))))
/-- What is put behind so many bytes. -/
def padL (n : Nat) : List UInt8 := (128 : UInt8) :: (List.replicate ((119 - n % 64) % 64) (0 : UInt8) ++ [UInt8.ofNat ((8 * n) >>> 56), UInt8.ofNat ((8 * n) >>> 48), UInt8.ofNat ((8 * n) >>> 40), UInt8.ofNat ((8 * n) >>> 32), UInt8.ofNat ((8 * n) >>> 24), UInt8.ofNat ((8 * n) >>> 16), UInt8.ofNat ((8 * n) >>> 8), UInt8.ofNat (8 * n)])
def sha (b : List UInt8) : List UInt8 := out8 (blocksF begin8 ((b ++ padL b.length).length / 64) (b ++ padL b.length))
end Go.Proofs.Ytliccofjlheceaa
namespace Go.Proofs.Ytliccofjlheceaa
open Go.RowKit
section
variable {P : Program} {E : Env} {d : Option Nat} {ty : TypeId} {p : String} {af : Array Edge} {g : Option (Nat × Bool)} {x y : Operand} {t : TypeId} {k : Value → Prop} {kd : IntKind}
end
theorem Rd.get {w : World} {B n : Nat} {ad : Addr} {l : List UInt8} (h : Rd w B (some ad) n l) {j : Nat} (hj : j < n) : w.cell? (ad.add (j * 1)) = some (.int .u8 (byt l j : Nat)) := by
  obtain ⟨b, off, e, hc⟩ := h.at_ hj
  injection e with e
  subst e
  rw [Nat.mul_one, Addr.add_lit]; exact hc
theorem agg_u32 : aggOf Try.prog 119 = some (false, 1) := by kernel_rfl
theorem agg_by : aggOf Try.prog 5 = some (false, 1) := by kernel_rfl
theorem sz_u32 : (Try.prog.info? 119).map (·.size) = some 1 := by kernel_rfl
theorem u_byt : (Try.prog.underlying 5).isSome = true := by kernel_rfl
theorem u_u32 : Try.prog.underlying 119 = some (.int .u32) := by kernel_rfl
theorem sl_by : slOf Try.prog 23 = some (5, 1) := by kernel_rfl
theorem add32 (x y : Nat) : IntKind.u32.wrap ((x : Int) + (y : Int)) = (((x + y) % 4294967296 : Nat) : Int) := by
  rw [IntKind.wrap_u32']; omega
theorem shr32 {x n : Nat} (hn : n ≤ 32) : (x : Int).fdiv (2 ^ (min ((n : Nat) : Int).toNat 32)) = ((x >>> n : Nat) : Int) := by
  rw [Int.toNat_natCast, Nat.min_eq_left (by omega), Nat.shiftRight_eq_div_pow, Int.fdiv_eq_ediv_of_nonneg _ (Int.le_of_lt (Int.pow_pos (by decide))), Int.natCast_ediv, Int.natCast_pow]
  rfl
end Go.Proofs.Ytliccofjlheceaa
