/- Reference 07's walks: Same, Much. Reference 08: items as data; the walk of Items. Halves of bytes: packed and unpacked: the program's own. Halves of bytes: unpacked; compared: the program's own. -/
import Derived.Test.YtkfbkhahkkmcoaaG13
import Derived.Test.YtkfbkhahkkmcoaaG09
import Derived.Test.YtkfbkhahkkmcoaaG03
namespace Go.Proofs.Ytkfbkhahkkmcoaa
open Go.RowKit
def RSameOk (a : Nd) : Prop := ∀ (b : Nd) (gs : List (Option Nat)) (w : World) (ca cb : List Value), RdL w (Fd w gs) (dN a) ca → RdL w (Fd w gs) (dN b) cb → (∀ b, some b ∈ gs → b < w.heap.size) → sz b ≤ 1000000000 →
  Calls Try.prog 39 #[.agg ca.toArray, .agg cb.toArray] w fun e w' => ∃ q : Bool, e = .returned (.bool q) ∧ (q = true ↔ a = b) ∧ Below w.heap.size w w'
theorem Nd.ext' {a b : Nd} (h1 : a.kind = b.kind) (h2 : a.path = b.path) (h3 : a.has = b.has) (h4 : a.val = b.val) (h5 : a.kids = b.kids) (h6 : a.hash = b.hash) : a = b := by
  rw [Nd.eta a, Nd.eta b, h1, h2, h3, h4, h5, h6]
set_option maxRecDepth 100000 in
set_option maxHeartbeats 2000000 in
theorem rsame_step (N : Nat) (ih : ∀ k : Nd, sz k < N → RSameOk k) (a : Nd) (ht : sz a ≤ N) (hN : N ≤ 1000000000) : RSameOk a := by
  intro b gs w ca cb hra hrb hgs hzb
  refine calls_ev (args := [.agg ca.toArray, .agg cb.toArray]) mixed Try.func39 rfl (by kernel_rfl) ?_
  obtain ⟨Ap, cp, Av, cv, Ak, ck, Ah, ch, rfl, r1, r3, r4, r5⟩ := hra.node
  obtain ⟨Bp, dp, Bv, dv, Bk, dk, Bh, dh, rfl, s1, s3, s4, s5⟩ := hrb.node
  have hsz := sz_eq a
  have hsl := szs_len a.kids
  have hsz' := sz_eq b
  have hsl' := szs_len b.kids
  have M := ((((((((St.start hgs).addD r5).addD r3).addD r1).addD s5).addD s3).addD s1).addD s4).addD r4
  clear r1 r3 r4 r5 hra s1 s3 s4 s5 hrb
  refine ev_assoc ?_
  refine cutS (Nat × Nat) (fun s W => St w gs W [(s.2, 25, ncs b Bp dp Bv dv Bk dk Bh dh), (s.1, 25, ncs a Ap cp Av cv Ak ck Ah ch)] [] [.dat false [dKs a.kids] [.slice Ak a.kids.length ck], .dat false [dKs b.kids] [.slice Bk b.kids.length dk]] ∧ a.kids.length = b.kids.length ∧ (a.kids = b.kids → a = b)) (fun s => [(2, .pointer (some ⟨s.1, 0, none⟩)), (3, .pointer (some ⟨s.2, 0, none⟩))]) ?_ ?_
  ·
    refine s_box (ncs a Ap cp Av cv Ak ck Ah ch) M rfl ?_
    clear M
    rintro g2 W M
    refine s_box (ncs b Bp dp Bv dv Bk dk Bh dh) M rfl ?_
    clear M
    rintro g3 W M
    have hB := M.B 0 rfl
    have hC := M.B 1 rfl
    unfold ncs at hB hC
    have hbel := M.below
    repeat' first
      | (refine p_fld fN0 rfl ?_)
      | (refine v_load agg_int rfl (hB.at_ rfl) ?_)
      | (refine v_load agg_int rfl (hC.at_ rfl) ?_)
    refine p_ne rfl rfl (fun hk => ?_) (fun hk => ?_)
    rotate_left
    ·
      exact ⟨false, rfl, ⟨(fun h => by cases h), fun h => absurd (by rw [h]) hk⟩, hbel⟩
    repeat' first
      | (refine p_fld fN2 rfl ?_)
      | (refine v_load agg_bo rfl (hB.at_ rfl) ?_)
      | (refine v_load agg_bo rfl (hC.at_ rfl) ?_)
    refine p_bneC u_bool rfl rfl (fun hh => ?_) (fun hh => ?_)
    rotate_left
    ·
      exact ⟨false, rfl, ⟨(fun h => by cases h), fun h => absurd (by rw [h]) hh⟩, hbel⟩
    repeat' first
      | (refine p_fld fN1 rfl ?_)
      | (refine v_load agg_b rfl (hB.at_ rfl) ?_)
      | (refine v_load agg_b rfl (hC.at_ rfl) ?_)
    obtain ⟨q, hq, hc⟩ := same_tf (c1 := cp) (c2 := dp) (M.rdb 5 rfl).2.2 (M.rdb 2 rfl).2.2
    cases q with
    | false =>
      refine cc is_same0 hc ?_
      rintro e W' ⟨rfl, rfl⟩
      refine ⟨_, rfl, ?_⟩
      refine p_not rfl ?_
      exact ⟨false, rfl, ⟨(fun h => by cases h), fun h => absurd (hq.2 (by rw [h])) (by decide)⟩, hbel⟩
    | true =>
    have hp := hq.1 rfl
    refine cc is_same0 hc ?_
    rintro e W' ⟨rfl, rfl⟩
    refine ⟨_, rfl, ?_⟩
    refine p_not rfl ?_
    clear hq hc
    repeat' first
      | (refine p_fld fN3 rfl ?_)
      | (refine v_load agg_b rfl (hB.at_ rfl) ?_)
      | (refine v_load agg_b rfl (hC.at_ rfl) ?_)
    obtain ⟨q, hq, hc⟩ := same_tf (c1 := cv) (c2 := dv) (M.rdb 6 rfl).2.2 (M.rdb 3 rfl).2.2
    cases q with
    | false =>
      refine cc is_same0 hc ?_
      rintro e W' ⟨rfl, rfl⟩
      refine ⟨_, rfl, ?_⟩
      refine p_not rfl ?_
      exact ⟨false, rfl, ⟨(fun h => by cases h), fun h => absurd (hq.2 (by rw [h])) (by decide)⟩, hbel⟩
    | true =>
    have hv := hq.1 rfl
    refine cc is_same0 hc ?_
    rintro e W' ⟨rfl, rfl⟩
    refine ⟨_, rfl, ?_⟩
    refine p_not rfl ?_
    clear hq hc
    repeat' first
      | (refine p_fld fN5 rfl ?_)
      | (refine v_load agg_b rfl (hB.at_ rfl) ?_)
      | (refine v_load agg_b rfl (hC.at_ rfl) ?_)
    obtain ⟨q, hq, hc⟩ := same_tf (c1 := ch) (c2 := dh) (M.rdb 7 rfl).2.2 (M.rdb 4 rfl).2.2
    cases q with
    | false =>
      refine cc is_same0 hc ?_
      rintro e W' ⟨rfl, rfl⟩
      refine ⟨_, rfl, ?_⟩
      refine p_not rfl ?_
      exact ⟨false, rfl, ⟨(fun h => by cases h), fun h => absurd (hq.2 (by rw [h])) (by decide)⟩, hbel⟩
    | true =>
    have hs := hq.1 rfl
    refine cc is_same0 hc ?_
    rintro e W' ⟨rfl, rfl⟩
    refine ⟨_, rfl, ?_⟩
    refine p_not rfl ?_
    clear hq hc
    repeat' first
      | (refine p_fld fN4 rfl ?_)
      | (refine v_load agg_ns rfl (hB.at_ rfl) ?_)
      | (refine v_load agg_ns rfl (hC.at_ rfl) ?_)
    repeat' first
      | (refine p_fld fN0 rfl ?_)
      | (refine p_fld fN1 rfl ?_)
      | (refine p_fld fN2 rfl ?_)
      | (refine p_fld fN3 rfl ?_)
      | (refine p_fld fN4 rfl ?_)
      | (refine p_fld fN5 rfl ?_)
      | (refine v_load agg_int rfl (hB.at_ rfl) ?_)
      | (refine v_load agg_b rfl (hB.at_ rfl) ?_)
      | (refine v_load agg_bo rfl (hB.at_ rfl) ?_)
      | (refine v_load agg_ns rfl (hB.at_ rfl) ?_)
      | (refine p_len slb rfl ?_)
      | (refine p_len sln rfl ?_)
    repeat' first
      | (refine p_fld fN0 rfl ?_)
      | (refine p_fld fN1 rfl ?_)
      | (refine p_fld fN2 rfl ?_)
      | (refine p_fld fN3 rfl ?_)
      | (refine p_fld fN4 rfl ?_)
      | (refine p_fld fN5 rfl ?_)
      | (refine v_load agg_int rfl (hC.at_ rfl) ?_)
      | (refine v_load agg_b rfl (hC.at_ rfl) ?_)
      | (refine v_load agg_bo rfl (hC.at_ rfl) ?_)
      | (refine v_load agg_ns rfl (hC.at_ rfl) ?_)
      | (refine p_len slb rfl ?_)
      | (refine p_len sln rfl ?_)
    refine p_ne rfl rfl (fun hl => ?_) (fun hl => ?_)
    · exact ⟨(g2, g3), ⟨M.fsub _ (by simp), by omega, fun h => Nd.ext' hk hp hh hv h hs⟩, (by repeat (first | exact trivial | refine ⟨rfl, ?_⟩))⟩
    · exact ⟨false, rfl, ⟨(fun h => by cases h), fun h => absurd (by rw [h]) hl⟩, hbel⟩
  · clear M
    rintro ⟨g2, g3⟩ B W ⟨M, hl, hab⟩
    dsimp only at M
    refine lp Nat (fun i W => i ≤ a.kids.length ∧ St w gs W [(g3, 25, ncs b Bp dp Bv dv Bk dk Bh dh), (g2, 25, ncs a Ap cp Av cv Ak ck Ah ch)] [] [.dat false [dKs a.kids] [.slice Ak a.kids.length ck], .dat false [dKs b.kids] [.slice Bk b.kids.length dk]] ∧ a.kids.take i = b.kids.take i) (fun i => [(2, .pointer (some ⟨g2, 0, none⟩)), (3, .pointer (some ⟨g3, 0, none⟩)), (5, .int .i64 i)]) (fun i => a.kids.length - i) 0 ⟨Nat.zero_le _, M, rfl⟩ (by repeat (first | exact trivial | refine ⟨rfl, ?_⟩)) ?_
    clear M
    rintro i E5 W5 ⟨hi, M, hrs⟩
    refine p_fld fN4 rfl ?_
    refine v_load agg_ns rfl (by first | exact (M.B 0 rfl).at_ rfl | exact (M.B 1 rfl).at_ rfl | exact (M.B 2 rfl).at_ rfl | exact (M.B 3 rfl).at_ rfl | exact (M.B 4 rfl).at_ rfl | exact M.lc 0 rfl _ _ rfl | exact M.lc 1 rfl _ _ rfl | exact M.lc 2 rfl _ _ rfl | exact M.lc 3 rfl _ _ rfl | exact M.lc 4 rfl _ _ rfl | exact M.lc 5 rfl _ _ rfl | exact M.lc 6 rfl _ _ rfl | exact M.lc 7 rfl _ _ rfl) ?_
    refine p_len sln rfl ?_
    refine p_lt rfl rfl (fun hlt => ?_) (fun hge => ?_)
    · obtain ⟨k, hki⟩ : ∃ k, a.kids[i]? = some k := ⟨_, List.getElem?_eq_getElem (by omega)⟩
      obtain ⟨k', hki'⟩ : ∃ k, b.kids[i]? = some k := ⟨_, List.getElem?_eq_getElem (by omega)⟩
      have hkz := szs_mem (List.mem_of_getElem? hki)
      have hkz' := szs_mem (List.mem_of_getElem? hki')
      replace M := M.drew
      obtain ⟨b1, o1, es, rfl, hel, M'⟩ := M.kid (M.d1 0 rfl) hki
      replace M := M'; clear M'
      obtain ⟨b2, o2, es', rfl, hel', M'⟩ := M.kid (M.d1 3 rfl) hki'
      replace M := M'; clear M'
      refine drT (Kp w gs [(g3, 25, ncs b Bp dp Bv dv (some ⟨b2, o2, none⟩) dk Bh dh), (g2, 25, ncs a Ap cp Av cv (some ⟨b1, o1, none⟩) ck Ah ch)] [.loc ((⟨b1, o1, none⟩ : Addr).add (i * 6)) es, .loc ((⟨b2, o2, none⟩ : Addr).add (i * 6)) es']) (.take 0 (.take 1 (.take 2 (.take 3 (.take 4 (.take 5 (.take 6 (.take 7 (.take 8 (.take 9 (.one 10 (.take 11 (.nil))))))))))))) (by kernel_rfl) (M.kp (by simp) (by simp)) ?_
      refine p_fld fN4 rfl ?_
      refine t_load agg_ns rfl (fun W K => by first | exact (K.B 0 rfl).at_ rfl | exact (K.B 1 rfl).at_ rfl | exact (K.B 2 rfl).at_ rfl | exact (K.B 3 rfl).at_ rfl | exact K.lc 0 rfl _ _ rfl | exact K.lc 1 rfl _ _ rfl | exact K.lc 2 rfl _ _ rfl | exact K.lc 3 rfl _ _ rfl) ?_
      refine p_at sln rfl rfl rfl (by omega) ?_
      refine t_loadN es agg_nd rfl hel (fun W K => K.lc 0 rfl) ?_
      refine p_fld fN4 rfl ?_
      refine t_load agg_ns rfl (fun W K => by first | exact (K.B 0 rfl).at_ rfl | exact (K.B 1 rfl).at_ rfl | exact (K.B 2 rfl).at_ rfl | exact (K.B 3 rfl).at_ rfl | exact K.lc 0 rfl _ _ rfl | exact K.lc 1 rfl _ _ rfl | exact K.lc 2 rfl _ _ rfl | exact K.lc 3 rfl _ _ rfl) ?_
      refine p_at sln rfl rfl rfl (by omega) ?_
      refine t_loadN es' agg_nd rfl hel' (fun W K => K.lc 1 rfl) ?_
      refine cc is_r7same (ih k (by omega) k' _ _ es es' (M.da 3 rfl) (M.da 1 rfl) M.olt (by omega)) ?_
      rintro e W ⟨q, rfl, hq, hb⟩
      replace M := M.call hb
      refine ⟨_, rfl, (M.kp (by simp) (by simp)), ?_⟩
      refine p_not rfl ?_
      cases q with
      | false =>
        refine ⟨false, rfl, ⟨(fun h => by cases h), fun h => ?_⟩, M.below⟩
        rw [h, hki'] at hki
        injection hki with hki
        exact hq.2 hki.symm
      | true =>
        have hkk := hq.1 rfl
        refine p_addN (b := 1) rfl rfl (by omega) ?_
        refine ⟨i + 1, ⟨by omega, M.fsub _ (by simp), ?_⟩, (by repeat (first | exact trivial | refine ⟨rfl, ?_⟩)), by omega⟩
        have h1 := List.getElem?_eq_some_iff.1 hki
        have h2 := List.getElem?_eq_some_iff.1 hki'
        rw [List.take_succ_eq_append_getElem h1.1, List.take_succ_eq_append_getElem h2.1, h1.2, h2.2, hrs, hkk]
    · refine ⟨true, rfl, ⟨fun _ => hab ?_, fun _ => rfl⟩, M.below⟩
      rw [List.take_of_length_le (by omega), List.take_of_length_le (by omega)] at hrs
      exact hrs
theorem rsame_any : ∀ (N : Nat), N ≤ 1000000000 → ∀ t : Nd, sz t < N → RSameOk t
  | 0, _, t, h => by omega
  | N + 1, hN, t, h => rsame_step N (fun k hk => rsame_any N (by omega) k hk) t (by omega) (by omega)
mutual
def muchP : Nd → Nat → Nat
  | .mk _ p _ v ks h, most => muchK ks most (1 + (p.length + v.length + h.length) / 50)
def muchK : List Nd → Nat → Nat → Nat
  | [], _, m => m
  | k :: ks, most, m => if m < most then muchK ks most (m + muchP k (most - m)) else m
end
theorem muchP_eq (t : Nd) (most : Nat) : muchP t most = muchK t.kids most (1 + (t.path.length + t.val.length + t.hash.length) / 50) := by cases t; rw [muchP]; rfl
mutual
theorem much_sz : ∀ (t : Nd) (most : Nat), muchP t most < most → sz t ≤ 55 * muchP t most
  | .mk _ p _ v ks h, most, hm => by
    rw [muchP] at hm ⊢
    rw [sz]
    have := muchK_sz ks most _ hm
    omega
theorem muchK_sz : ∀ (ks : List Nd) (most m : Nat), muchK ks most m < most → szs ks + 55 * m ≤ 55 * muchK ks most m
  | [], most, m, _ => by rw [muchK, szs]; omega
  | k :: ks, most, m, hm => by
    rw [muchK] at hm ⊢
    rw [szs]
    by_cases h : m < most
    · rw [if_pos h] at hm ⊢
      have h1 := muchK_sz ks most _ hm
      have h2 : m + muchP k (most - m) ≤ muchK ks most (m + muchP k (most - m)) := muchK_ge ks most _
      have h3 := much_sz k (most - m) (by omega)
      omega
    · rw [if_neg h] at hm; omega
theorem muchK_ge : ∀ (ks : List Nd) (most m : Nat), m ≤ muchK ks most m
  | [], most, m => by rw [muchK]; omega
  | k :: ks, most, m => by
    rw [muchK]
    split
    · have := muchK_ge ks most (m + muchP k (most - m)); omega
    · omega
end
mutual
theorem much_le : ∀ (t : Nd) (most : Nat), muchP t most ≤ sz t
  | .mk _ p _ v ks h, most => by
    rw [muchP, sz]
    have := muchK_le ks most (1 + (p.length + v.length + h.length) / 50)
    omega
theorem muchK_le : ∀ (ks : List Nd) (most m : Nat), muchK ks most m ≤ m + szs ks
  | [], most, m => by rw [muchK]; omega
  | k :: ks, most, m => by
    rw [muchK, szs]
    split
    · have := muchK_le ks most (m + muchP k (most - m))
      have := much_le k (most - m)
      omega
    · omega
end
def MuchOk (t : Nd) : Prop := ∀ (gs : List (Option Nat)) (w : World) (cs : List Value) (most : Nat), RdL w (Fd w gs) (dN t) cs → (∀ b, some b ∈ gs → b < w.heap.size) → most ≤ 1000000 →
  Calls Try.prog 51 #[.agg cs.toArray, .int .i64 most] w fun e w' => e = .returned (.int .i64 (muchP t most)) ∧ Below w.heap.size w w'
set_option maxRecDepth 100000 in
set_option maxHeartbeats 1000000 in
theorem much_step (N : Nat) (ih : ∀ k : Nd, sz k < N → MuchOk k) (t : Nd) (ht : sz t ≤ N) (hN : N ≤ 1000000000) : MuchOk t := by
  intro gs w cs most hr hgs hmost
  refine calls_ev (args := [.agg cs.toArray, .int .i64 most]) mixed Try.func51 rfl (by kernel_rfl) ?_
  obtain ⟨Ap, cp, Av, cv, Ak, ck, Ah, ch, rfl, r1, r3, r4, r5⟩ := hr.node
  have hsz := sz_eq t
  have hsl := szs_len t.kids
  have M := (St.start hgs).addD r4
  clear r1 r3 r4 r5 hr
  obtain ⟨T, hT⟩ : ∃ T, T = muchP t most := ⟨_, rfl⟩
  rw [← hT]
  rw [muchP_eq] at hT
  refine s_box (ncs t Ap cp Av cv Ak ck Ah ch) M rfl ?_
  clear M
  rintro g2 W M
  have hB := M.B 0 rfl
  unfold ncs at hB
  repeat' first
    | (refine p_fld fN0 rfl ?_)
    | (refine p_fld fN1 rfl ?_)
    | (refine p_fld fN2 rfl ?_)
    | (refine p_fld fN3 rfl ?_)
    | (refine p_fld fN4 rfl ?_)
    | (refine p_fld fN5 rfl ?_)
    | (refine v_load agg_int rfl (hB.at_ rfl) ?_)
    | (refine v_load agg_b rfl (hB.at_ rfl) ?_)
    | (refine v_load agg_bo rfl (hB.at_ rfl) ?_)
    | (refine v_load agg_ns rfl (hB.at_ rfl) ?_)
    | (refine p_len slb rfl ?_)
    | (refine p_len sln rfl ?_)
  refine p_addN rfl rfl (by omega) ?_
  repeat' first
    | (refine p_fld fN0 rfl ?_)
    | (refine p_fld fN1 rfl ?_)
    | (refine p_fld fN2 rfl ?_)
    | (refine p_fld fN3 rfl ?_)
    | (refine p_fld fN4 rfl ?_)
    | (refine p_fld fN5 rfl ?_)
    | (refine v_load agg_int rfl (hB.at_ rfl) ?_)
    | (refine v_load agg_b rfl (hB.at_ rfl) ?_)
    | (refine v_load agg_bo rfl (hB.at_ rfl) ?_)
    | (refine v_load agg_ns rfl (hB.at_ rfl) ?_)
    | (refine p_len slb rfl ?_)
    | (refine p_len sln rfl ?_)
  refine p_addN rfl rfl (by omega) ?_
  refine p_quoN (b := 50) rfl rfl (by decide) (by omega) ?_
  refine p_addN (a := 1) rfl rfl (by omega) ?_
  obtain ⟨m0, hm0⟩ : ∃ m0, m0 = 1 + (t.path.length + t.val.length + t.hash.length) / 50 := ⟨_, rfl⟩
  have hm0l : m0 + szs t.kids ≤ sz t := by omega
  rw [← hm0] at hT ⊢
  clear hB
  refine lp (Nat × Nat) (fun s W => s.1 ≤ t.kids.length ∧ St w gs W [(g2, 25, ncs t Ap cp Av cv Ak ck Ah ch)] [] [.dat false [dKs t.kids] [.slice Ak t.kids.length ck]] ∧ T = muchK (t.kids.drop s.1) most s.2 ∧ s.2 + szs (t.kids.drop s.1) ≤ sz t) (fun s => [(1, .int .i64 most), (2, .pointer (some ⟨g2, 0, none⟩)), (5, .int .i64 s.2), (6, .int .i64 s.1)]) (fun s => t.kids.length - s.1) (0, m0) ⟨Nat.zero_le _, M, hT, by simp only [List.drop_zero]; exact hm0l⟩ (by repeat (first | exact trivial | refine ⟨rfl, ?_⟩)) ?_
  clear M
  rintro ⟨i, m⟩ E5 W5 ⟨hi, M, hTi, hbd⟩
  dsimp only at hi hTi hbd
  have hB := M.B 0 rfl
  unfold ncs at hB
  repeat' first
    | (refine p_fld fN0 rfl ?_)
    | (refine p_fld fN1 rfl ?_)
    | (refine p_fld fN2 rfl ?_)
    | (refine p_fld fN3 rfl ?_)
    | (refine p_fld fN4 rfl ?_)
    | (refine p_fld fN5 rfl ?_)
    | (refine v_load agg_int rfl (hB.at_ rfl) ?_)
    | (refine v_load agg_b rfl (hB.at_ rfl) ?_)
    | (refine v_load agg_bo rfl (hB.at_ rfl) ?_)
    | (refine v_load agg_ns rfl (hB.at_ rfl) ?_)
    | (refine p_len slb rfl ?_)
    | (refine p_len sln rfl ?_)
  refine p_lt rfl rfl (fun hlt => ?_) (fun hge => ?_)
  · dsimp only at hlt
    obtain ⟨k, hki⟩ : ∃ k, t.kids[i]? = some k := ⟨_, List.getElem?_eq_getElem (by omega)⟩
    have hdr : t.kids.drop i = k :: t.kids.drop (i + 1) := by
      have h1 := (List.getElem?_eq_some_iff.1 hki)
      rw [List.drop_eq_getElem_cons h1.1, h1.2]
    have hkz := szs_mem (List.mem_of_getElem? hki)
    rw [hdr] at hTi hbd
    unfold muchK at hTi
    unfold szs at hbd
    refine p_lt rfl rfl (fun hm => ?_) (fun hm => ?_)
    · dsimp only at hm
      rw [if_pos (by omega)] at hTi
      obtain ⟨b, off, es, e0, hel, M'⟩ := M.kid (by first | with_reducible exact M.d1_0 | with_reducible exact M.d1_1 | with_reducible exact M.d1_2 | with_reducible exact M.d1_3 | with_reducible exact M.d1_4 | with_reducible exact M.d1_5 | with_reducible exact M.d1_6 | with_reducible exact M.d1_7 | with_reducible exact M.d1_8 | with_reducible exact M.d1_9 | with_reducible exact M.d1_10 | with_reducible exact M.d1_11) hki
      replace M := M'; clear M'
      repeat' first
        | (refine p_fld fN0 rfl ?_)
        | (refine p_fld fN1 rfl ?_)
        | (refine p_fld fN2 rfl ?_)
        | (refine p_fld fN3 rfl ?_)
        | (refine p_fld fN4 rfl ?_)
        | (refine p_fld fN5 rfl ?_)
        | (refine v_load agg_int rfl (hB.at_ rfl) ?_)
        | (refine v_load agg_b rfl (hB.at_ rfl) ?_)
        | (refine v_load agg_bo rfl (hB.at_ rfl) ?_)
        | (refine v_load agg_ns rfl (hB.at_ rfl) ?_)
        | (refine p_len slb rfl ?_)
        | (refine p_len sln rfl ?_)
      refine p_at sln (by show (Value.slice Ak t.kids.length ck) = _; rw [e0]) rfl rfl (by omega) ?_
      refine v_loadN es agg_nd rfl hel (M.lc 0 rfl) ?_
      refine p_subN rfl rfl (by dsimp only; omega) (by omega) ?_
      refine cc is_r7much (ih k (by omega) _ _ es (most - m) (by first | with_reducible exact M.da_0 | with_reducible exact M.da_1 | with_reducible exact M.da_2 | with_reducible exact M.da_3 | with_reducible exact M.da_4 | with_reducible exact M.da_5 | with_reducible exact M.da_6 | with_reducible exact M.da_7 | with_reducible exact M.da_8 | with_reducible exact M.da_9 | with_reducible exact M.da_10 | with_reducible exact M.da_11) M.olt (by omega)) ?_
      rintro e W ⟨rfl, hb⟩
      refine ⟨_, rfl, ?_⟩
      replace M := M.call hb
      have hkl := much_le k (most - m)
      refine p_addN rfl rfl (by dsimp only; omega) ?_
      refine p_addN (b := 1) rfl rfl (by dsimp only; omega) ?_
      exact ⟨(i + 1, m + muchP k (most - m)), ⟨by dsimp only; omega, M.fsub _ (by simp), hTi, by dsimp only; omega⟩, (by repeat (first | exact trivial | refine ⟨rfl, ?_⟩)), by dsimp only; omega⟩
    · dsimp only at hm
      rw [if_neg (by omega)] at hTi
      exact ⟨by rw [hTi]; rfl, M.below⟩
  · dsimp only at hge
    rw [List.drop_of_length_le (by omega)] at hTi
    unfold muchK at hTi
    exact ⟨by rw [hTi]; rfl, M.below⟩
theorem much_any : ∀ (N : Nat), N ≤ 1000000000 → ∀ t : Nd, sz t < N → MuchOk t
  | 0, _, t, h => by omega
  | N + 1, hN, t, h => much_step N (fun k hk => much_any N (by omega) k hk) t (by omega) (by omega)
end Go.Proofs.Ytkfbkhahkkmcoaa
namespace Go.Proofs.Ytkfbkhahkkmcoaa
open Go.RowKit
structure It where
  path : List UInt8
  val : List UInt8
  stub : Bool
  known : Bool
  hash : List UInt8
def dI (x : It) : List D := [dB x.path, dB x.val, .v (.bool x.stub), .v (.bool x.known), dB x.hash]
theorem dI_len (x : It) : (dI x).length = 5 := rfl
def dIs (l : List It) : List D := l.flatMap dI
abbrev dIl (l : List It) : D := .sl 5 l.length (dIs l)
theorem dIs_len (l : List It) : (dIs l).length = l.length * 5 := flat_len dI_len l
theorem dIs_app (a b : List It) : dIs (a ++ b) = dIs a ++ dIs b := by unfold dIs; rw [List.flatMap_append]
theorem dIs_one (l : List It) : ∀ d ∈ dIs l, d.One := by
  intro d hd
  unfold dIs at hd
  obtain ⟨x, _, hx⟩ := List.mem_flatMap.1 hd
  simp only [dI, List.mem_cons, List.not_mem_nil, or_false] at hx
  rcases hx with rfl | rfl | rfl | rfl | rfl <;> first | trivial | rfl
theorem sli : slOf Try.prog 87 = some (90, 5) := by kernel_rfl
theorem agg_it : aggOf Try.prog 90 = some (true, 5) := by kernel_rfl
theorem fI0 : fieldOff Try.prog 90 0 = some 0 := by kernel_rfl
theorem fI1 : fieldOff Try.prog 90 1 = some 1 := by kernel_rfl
theorem fI2 : fieldOff Try.prog 90 2 = some 2 := by kernel_rfl
theorem fI3 : fieldOff Try.prog 90 3 = some 3 := by kernel_rfl
theorem fI4 : fieldOff Try.prog 90 4 = some 4 := by kernel_rfl
def zI : List Value := [.slice none 0 0, .slice none 0 0, .bool false, .bool false, .slice none 0 0]
theorem pl_it : placesOf Try.prog 90 = some [(0, 1), (1, 1), (2, 1), (3, 1), (4, 1)] := by kernel_rfl
theorem z_it : zeroOf Try.prog 90 = some zI := by kernel_rfl
theorem itinfo : (Try.prog.info? 90).map (fun i => (i.zero, i.size, i.bytes)) = some (some (.agg zI.toArray), 5, 80) := by kernel_rfl
theorem agg_its : aggOf Try.prog 87 = some (false, 1) := by kernel_rfl
def ics (x : It) (Ap : Option Addr) (cp : Nat) (Av : Option Addr) (cv : Nat) (Ah : Option Addr) (ch : Nat) : List Value := [.slice Ap x.path.length cp, .slice Av x.val.length cv, .bool x.stub, .bool x.known, .slice Ah x.hash.length ch]
theorem RdL.item {W : World} {F : Nat → Prop} {x : It} {cs : List Value} (h : RdL W F (dI x) cs) : ∃ Ap cp Av cv Ah ch, cs = ics x Ap cp Av cv Ah ch ∧ RdD W F (dB x.path) (.slice Ap x.path.length cp) ∧ RdD W F (dB x.val) (.slice Av x.val.length cv) ∧ RdD W F (dB x.hash) (.slice Ah x.hash.length ch) := by
  obtain ⟨u0, _, rfl, h0, h⟩ := (show RdL W F [dB x.path, dB x.val, .v (.bool x.stub), .v (.bool x.known), dB x.hash] cs from h).uncons
  obtain ⟨u1, _, rfl, h1, h⟩ := h.uncons
  obtain ⟨u2, _, rfl, h2, h⟩ := h.uncons
  obtain ⟨u3, _, rfl, h3, h⟩ := h.uncons
  obtain ⟨u4, _, rfl, h4, h⟩ := h.uncons
  rw [h.isnil]
  obtain ⟨A0, c0, e0, _⟩ := h0.open_
  obtain ⟨A1, c1, e1, _⟩ := h1.open_
  obtain ⟨A4, c4, e4, _⟩ := h4.open_
  have e2 := RdD.val.1 h2
  have e3 := RdD.val.1 h3
  subst e0; subst e1; subst e2; subst e3; subst e4
  exact ⟨A0, c0, A1, c1, A4, c4, rfl, h0, h1, h4⟩
theorem RdL.ofitem {W : World} {F : Nat → Prop} {x : It} {Ap Av Ah : Option Addr} {cp cv ch : Nat} (h0 : RdD W F (dB x.path) (.slice Ap x.path.length cp)) (h1 : RdD W F (dB x.val) (.slice Av x.val.length cv)) (h4 : RdD W F (dB x.hash) (.slice Ah x.hash.length ch)) : RdL W F (dI x) (ics x Ap cp Av cv Ah ch) :=
  RdL.cons h0 (RdL.cons h1 (RdL.cons (RdD.ofv _) (RdL.cons (RdD.ofv _) (RdL.cons h4 RdL.nil_))))
/-- An item of a slice that stays. -/
theorem St.item {w W : World} {gs : List (Option Nat)} {L : Lc} {R : List Row} {fs : List Fact} (M : St w gs W L R fs) {l : List It} {A : Option Addr} {n c i : Nat} {x : It} (h : RdD W (Fd W (own L R gs)) (dIl l) (.slice A n c)) (hi : l[i]? = some x) :
    ∃ b off Ap cp Av cv Ah ch, A = some ⟨b, off, none⟩ ∧ St w gs W L R (.loc ((⟨b, off, none⟩ : Addr).add (i * 5)) (ics x Ap cp Av cv Ah ch) :: .dat false (dI x) (ics x Ap cp Av cv Ah ch) :: .dat false [dB x.path] [.slice Ap x.path.length cp] :: .dat false [dB x.val] [.slice Av x.val.length cv] :: .dat false [dB x.hash] [.slice Ah x.hash.length ch] :: fs) := by
  obtain ⟨b, off, es, e, hF, hes, hel, hc⟩ := RdD.elt dI 5 dI_len h hi
  have hes' := hes
  obtain ⟨Ap, cp, Av, cv, Ah, ch, rfl, h1, h2, h3⟩ := hes.item
  exact ⟨b, off, Ap, cp, Av, cv, Ah, ch, e, ((((M.addD h3).addD h2).addD h1).addL hes').addC (by rw [block_of_add]; exact hF) hc⟩
mutual
def itemsP : Nd → List UInt8 → Bool → List It
  | .mk k p has v ks h, way, known =>
    if k = 4 then [⟨way ++ p, [], true, known, h⟩]
    else (if k = 1 ∨ has = true then [⟨way ++ p, v, false, false, []⟩] else []) ++ itemsK ks (decide (k = 3)) (decide (k = 2)) 0 (way ++ p)
def itemsK : List Nd → Bool → Bool → Nat → List UInt8 → List It
  | [], _, _, _, _ => []
  | t :: ts, br, known, i, at_ => itemsP t (if br then at_ ++ [UInt8.ofNat i] else at_) known ++ itemsK ts br known (i + 1) at_
end
theorem itemsP_eq (t : Nd) (way : List UInt8) (known : Bool) : itemsP t way known = if t.kind = 4 then [⟨way ++ t.path, [], true, known, t.hash⟩] else (if t.kind = 1 ∨ t.has = true then [⟨way ++ t.path, t.val, false, false, []⟩] else []) ++ itemsK t.kids (decide (t.kind = 3)) (decide (t.kind = 2)) 0 (way ++ t.path) := by
  cases t; rw [itemsP]; rfl
mutual
theorem itemsP_len : ∀ (t : Nd) (way : List UInt8) (known : Bool), (itemsP t way known).length + 5 ≤ sz t
  | .mk k p has v ks h, way, known => by
    have := itemsK_len ks (decide (k = 3)) (decide (k = 2)) 0 (way ++ p)
    rw [itemsP, sz]
    split
    · simp; omega
    · simp only [List.length_append]
      split <;> simp <;> omega
theorem itemsK_len : ∀ (ks : List Nd) (br known : Bool) (i : Nat) (at_ : List UInt8), (itemsK ks br known i at_).length + 5 * ks.length ≤ szs ks
  | [], _, _, _, _ => by simp [itemsK]
  | t :: ts, br, known, i, at_ => by
    have := itemsP_len t (if br then at_ ++ [UInt8.ofNat i] else at_) known
    have := itemsK_len ts br known (i + 1) at_
    rw [itemsK, szs, List.length_cons, List.length_append]; omega
end
theorem is_items : isFn Try.prog 55 = true := by kernel_rfl
def ItemsOk (t : Nd) : Prop := ∀ (gs : List (Option Nat)) (w : World) (cs : List Value) (way : List UInt8) (A1 : Option Addr) (n1 c1 : Nat) (known : Bool),
  RdL w (Fd w gs) (dN t) cs → RdD w (Fd w gs) (dB way) (.slice A1 n1 c1) → (∀ b, some b ∈ gs → b < w.heap.size) → n1 + sz t ≤ 100000000 →
  Calls Try.prog 55 #[.agg cs.toArray, .slice A1 n1 c1, .bool known] w fun e w' => ∃ A n c, e = .returned (.slice A n c) ∧ RdD w' (Fd w' gs) (dIl (itemsP t way known)) (.slice A n c) ∧ Below w.heap.size w w'
set_option maxRecDepth 100000 in
set_option maxHeartbeats 1000000 in
theorem items_step (N : Nat) (ih : ∀ k : Nd, sz k < N → ItemsOk k) (t : Nd) (ht : sz t ≤ N) : ItemsOk t := by
  intro gs w cs way A1 n1 c1 known hr hw hgs hn1
  refine calls_ev (args := [.agg cs.toArray, .slice A1 n1 c1, .bool known]) mixed Try.func55 rfl (by kernel_rfl) ?_
  have hsz := sz_eq t
  have hsl := szs_len t.kids
  have en1 := hw.slen
  obtain ⟨Ap, cp, Av, cv, Ak, ck, Ah, ch, rfl, r1, r3, r4, r5⟩ := hr.node
  have M := (((((St.start hgs).addD hw).addD r5).addD r4).addD r3).addD r1
  clear r1 r3 r4 r5 hr hw
  obtain ⟨T, hT⟩ : ∃ T, T = itemsP t way known := ⟨_, rfl⟩
  have hTl := itemsP_len t way known
  rw [← hT] at hTl ⊢
  rw [itemsP_eq] at hT
  refine ev_assoc (ev_assoc (ev_assoc (ev_assoc (ev_assoc (ev_assoc ?_)))))
  obtain ⟨AT, hAT⟩ : ∃ AT, AT = way ++ t.path := ⟨_, rfl⟩
  obtain ⟨n3, hn3⟩ : ∃ n3, n3 = 0 + n1 + t.path.length := ⟨_, rfl⟩
  rw [← hAT] at hT
  refine cutS (Nat × Option Addr × Nat × Option Addr × Nat × Nat × List Value × List It) (fun s W => St w gs W [(s.1, 25, ncs t Ap cp Av cv Ak ck Ah ch)] [⟨90, 5, s.2.2.2.1, s.2.2.2.2.1, s.2.2.2.2.2.1, s.2.2.2.2.2.2.1⟩] [.dat false (dIs s.2.2.2.2.2.2.2) s.2.2.2.2.2.2.1, .dat false [dB AT] [.slice s.2.1 n3 s.2.2.1], .dat false [dKs t.kids] [.slice Ak t.kids.length ck]] ∧ s.2.2.2.2.1 = s.2.2.2.2.2.2.2.length ∧ T = s.2.2.2.2.2.2.2 ++ itemsK t.kids (decide (t.kind = 3)) (decide (t.kind = 2)) 0 AT)
    (fun s => [(3, .pointer (some ⟨s.1, 0, none⟩)), (7, .slice s.2.1 n3 s.2.2.1), (8, .slice s.2.2.2.1 s.2.2.2.2.1 s.2.2.2.2.2.1)]) ?_ ?_
  ·
    refine s_box (ncs t Ap cp Av cv Ak ck Ah ch) M rfl ?_
    clear M
    rintro g3 W M
    replace M := M.nilR 5 1
    refine s_appB (l := []) M rfl rfl (M.rdb 4 rfl).2.2 (by omega) ?_
    clear M; rintro A2 c2 W M -
    refine p_fld fN1 rfl ?_
    refine v_load agg_b rfl (by first | exact (M.B 0 rfl).at_ rfl | exact (M.B 1 rfl).at_ rfl | exact (M.B 2 rfl).at_ rfl | exact (M.B 3 rfl).at_ rfl | exact (M.B 4 rfl).at_ rfl | exact M.lc 0 rfl _ _ rfl | exact M.lc 1 rfl _ _ rfl | exact M.lc 2 rfl _ _ rfl | exact M.lc 3 rfl _ _ rfl | exact M.lc 4 rfl _ _ rfl | exact M.lc 5 rfl _ _ rfl | exact M.lc 6 rfl _ _ rfl | exact M.lc 7 rfl _ _ rfl) ?_
    refine s_appB M rfl rfl (M.rdb 0 rfl).2.2 (by omega) ?_
    clear M; rintro A3 c3 W M -
    replace M := M.frzO
    rw [List.nil_append, ← hAT, ← hn3] at M
    rw [← hn3]
    have hal : AT.length = n3 := by rw [hAT, List.length_append]; omega
    refine p_fld fN0 rfl ?_
    refine v_load agg_int rfl (by first | exact (M.B 0 rfl).at_ rfl | exact (M.B 1 rfl).at_ rfl | exact (M.B 2 rfl).at_ rfl | exact (M.B 3 rfl).at_ rfl | exact (M.B 4 rfl).at_ rfl | exact M.lc 0 rfl _ _ rfl | exact M.lc 1 rfl _ _ rfl | exact M.lc 2 rfl _ _ rfl | exact M.lc 3 rfl _ _ rfl | exact M.lc 4 rfl _ _ rfl | exact M.lc 5 rfl _ _ rfl | exact M.lc 6 rfl _ _ rfl | exact M.lc 7 rfl _ _ rfl) ?_
    refine p_eq rfl rfl (fun h4 => ?_) (fun h4 => ?_)
    · rw [if_pos h4] at hT
      refine p_fld fN5 rfl ?_
      refine v_load agg_b rfl (by first | exact (M.B 0 rfl).at_ rfl | exact (M.B 1 rfl).at_ rfl | exact (M.B 2 rfl).at_ rfl | exact (M.B 3 rfl).at_ rfl | exact (M.B 4 rfl).at_ rfl | exact M.lc 0 rfl _ _ rfl | exact M.lc 1 rfl _ _ rfl | exact M.lc 2 rfl _ _ rfl | exact M.lc 3 rfl _ _ rfl | exact M.lc 4 rfl _ _ rfl | exact M.lc 5 rfl _ _ rfl | exact M.lc 6 rfl _ _ rfl | exact M.lc 7 rfl _ _ rfl) ?_
      subst hal
      refine p_build (vs := ics ⟨AT, [], true, known, t.hash⟩ A3 c3 none 0 Ah ch) pl_it z_it rfl ?_
      have hI : RdL _ _ (dI ⟨AT, [], true, known, t.hash⟩) (ics ⟨AT, [], true, known, t.hash⟩ A3 c3 none 0 Ah ch) := RdL.ofitem (M.w1_0) (RdD.nil_ _ _) (M.w1_4)
      refine s_bslice (fr := false) (ds := dI ⟨AT, [], true, known, t.hash⟩) (ics ⟨AT, [], true, known, t.hash⟩ A3 c3 none 0 Ah ch) M sli z_it rfl (by decide) rfl hI rfl ?_
      clear M hI; rintro g9 W M
      rw [hT]
      exact ⟨_, 1, 1, rfl, M.fin1 0 rfl, M.below⟩
    rw [if_neg h4] at hT
    replace M := (M.nilR 90 5).addT (fr := false) (ds := dIs []) (cs := []) RdL.nil_
    refine p_fld fN0 rfl ?_
    refine v_load agg_int rfl (by first | exact (M.B 0 rfl).at_ rfl | exact (M.B 1 rfl).at_ rfl | exact (M.B 2 rfl).at_ rfl | exact (M.B 3 rfl).at_ rfl | exact (M.B 4 rfl).at_ rfl | exact M.lc 0 rfl _ _ rfl | exact M.lc 1 rfl _ _ rfl | exact M.lc 2 rfl _ _ rfl | exact M.lc 3 rfl _ _ rfl | exact M.lc 4 rfl _ _ rfl | exact M.lc 5 rfl _ _ rfl | exact M.lc 6 rfl _ _ rfl | exact M.lc 7 rfl _ _ rfl) ?_
    refine p_eq rfl rfl (fun h1 => ?_) (fun h1 => ?_)
    ·
      rw [if_pos (.inl h1)] at hT
      refine p_fld fN3 rfl ?_
      refine v_load agg_b rfl (by first | exact (M.B 0 rfl).at_ rfl | exact (M.B 1 rfl).at_ rfl | exact (M.B 2 rfl).at_ rfl | exact (M.B 3 rfl).at_ rfl | exact (M.B 4 rfl).at_ rfl | exact M.lc 0 rfl _ _ rfl | exact M.lc 1 rfl _ _ rfl | exact M.lc 2 rfl _ _ rfl | exact M.lc 3 rfl _ _ rfl | exact M.lc 4 rfl _ _ rfl | exact M.lc 5 rfl _ _ rfl | exact M.lc 6 rfl _ _ rfl | exact M.lc 7 rfl _ _ rfl) ?_
      subst hal
      refine p_build (vs := ics ⟨AT, t.val, false, false, []⟩ A3 c3 Av cv none 0) pl_it z_it rfl ?_
      have hI : RdL _ _ (dI ⟨AT, t.val, false, false, []⟩) (ics ⟨AT, t.val, false, false, []⟩ A3 c3 Av cv none 0) := RdL.ofitem (M.w1_1) (M.w1_3) (RdD.nil_ _ _)
      refine s_bsliceB (ics ⟨AT, t.val, false, false, []⟩ A3 c3 Av cv none 0) (M.addT hI) sli z_it rfl (by decide) rfl ?_
      clear M hI; rintro g9 W M
      refine s_app M Try.underlying87 itinfo rfl (by decide) rfl rfl (Reads.blk (M.B 0 rfl) rfl) (all1 rfl) ⟨by omega, by decide⟩ ?_
      clear M; rintro A5 c5 W M -
      have hX := (M.dt 1 rfl).app (M.dt 0 rfl)
      replace M := (M.addT (ds := dIs [⟨AT, t.val, false, false, []⟩]) hX).addL (M.da 2 rfl)
      refine ⟨(g3, A3, c3, A5, 1, c5, _, [⟨AT, t.val, false, false, []⟩]), ⟨M.dropL.fsub _ (by simp), rfl, hT⟩, (by repeat (first | exact trivial | refine ⟨rfl, ?_⟩))⟩
    · refine p_fld fN2 rfl ?_
      refine v_load agg_bo rfl (by first | exact (M.B 0 rfl).at_ rfl | exact (M.B 1 rfl).at_ rfl | exact (M.B 2 rfl).at_ rfl | exact (M.B 3 rfl).at_ rfl | exact (M.B 4 rfl).at_ rfl | exact M.lc 0 rfl _ _ rfl | exact M.lc 1 rfl _ _ rfl | exact M.lc 2 rfl _ _ rfl | exact M.lc 3 rfl _ _ rfl | exact M.lc 4 rfl _ _ rfl | exact M.lc 5 rfl _ _ rfl | exact M.lc 6 rfl _ _ rfl | exact M.lc 7 rfl _ _ rfl) ?_
      cases hh : t.has with
      | true =>
        rw [if_pos (.inr hh)] at hT
        refine p_fld fN3 rfl ?_
        refine v_load agg_b rfl (by first | exact (M.B 0 rfl).at_ rfl | exact (M.B 1 rfl).at_ rfl | exact (M.B 2 rfl).at_ rfl | exact (M.B 3 rfl).at_ rfl | exact (M.B 4 rfl).at_ rfl | exact M.lc 0 rfl _ _ rfl | exact M.lc 1 rfl _ _ rfl | exact M.lc 2 rfl _ _ rfl | exact M.lc 3 rfl _ _ rfl | exact M.lc 4 rfl _ _ rfl | exact M.lc 5 rfl _ _ rfl | exact M.lc 6 rfl _ _ rfl | exact M.lc 7 rfl _ _ rfl) ?_
        subst hal
        refine p_build (vs := ics ⟨AT, t.val, false, false, []⟩ A3 c3 Av cv none 0) pl_it z_it rfl ?_
        have hI : RdL _ _ (dI ⟨AT, t.val, false, false, []⟩) (ics ⟨AT, t.val, false, false, []⟩ A3 c3 Av cv none 0) := RdL.ofitem (M.w1_1) (M.w1_3) (RdD.nil_ _ _)
        refine s_bsliceB (ics ⟨AT, t.val, false, false, []⟩ A3 c3 Av cv none 0) (M.addT hI) sli z_it rfl (by decide) rfl ?_
        clear M hI; rintro g9 W M
        refine s_app M Try.underlying87 itinfo rfl (by decide) rfl rfl (Reads.blk (M.B 0 rfl) rfl) (all1 rfl) ⟨by omega, by decide⟩ ?_
        clear M; rintro A5 c5 W M -
        have hX := (M.dt 1 rfl).app (M.dt 0 rfl)
        replace M := (M.addT (ds := dIs [⟨AT, t.val, false, false, []⟩]) hX).addL (M.da 2 rfl)
        refine ⟨(g3, A3, c3, A5, 1, c5, _, [⟨AT, t.val, false, false, []⟩]), ⟨M.dropL.fsub _ (by simp), rfl, hT⟩, (by repeat (first | exact trivial | refine ⟨rfl, ?_⟩))⟩
      | false =>
        rw [if_neg (by rw [hh]; simp [h1])] at hT
        refine ⟨(g3, A3, c3, none, 0, 0, [], []), ⟨(M.addL (M.da 1 rfl)).fsub _ (by simp), rfl, hT⟩, (by repeat (first | exact trivial | refine ⟨rfl, ?_⟩))⟩
  · clear M hT
    rintro ⟨g3, A3, c3, A6, n6, c6, xs6, don⟩ B6 W6 ⟨M, hn6, hT⟩
    dsimp only at M hn6 hT
    refine lp (Nat × Option Addr × Nat × Nat × List Value × List It) (fun s W => s.1 ≤ t.kids.length ∧ St w gs W [(g3, 25, ncs t Ap cp Av cv Ak ck Ah ch)] [⟨90, 5, s.2.1, s.2.2.1, s.2.2.2.1, s.2.2.2.2.1⟩] [.dat false (dIs s.2.2.2.2.2) s.2.2.2.2.1, .dat false [dB AT] [.slice A3 n3 c3], .dat false [dKs t.kids] [.slice Ak t.kids.length ck]] ∧ s.2.2.1 = s.2.2.2.2.2.length ∧ T = s.2.2.2.2.2 ++ itemsK (t.kids.drop s.1) (decide (t.kind = 3)) (decide (t.kind = 2)) s.1 AT)
      (fun s => [(3, .pointer (some ⟨g3, 0, none⟩)), (7, .slice A3 n3 c3), (8, .slice s.2.1 s.2.2.1 s.2.2.2.1), (9, .int .i64 s.1)]) (fun s => t.kids.length - s.1) (0, A6, n6, c6, xs6, don)
      ⟨Nat.zero_le _, M, hn6, by simp only [List.drop_zero]; exact hT⟩ (by repeat (first | exact trivial | refine ⟨rfl, ?_⟩)) ?_
    clear M hT hn6
    rintro ⟨i, A7, n7, c7, xs7, don7⟩ E7 W7 ⟨hi, M, hn7, hT⟩
    dsimp only at hi M hn7 hT
    refine p_fld fN4 rfl ?_
    refine v_load agg_ns rfl (by first | exact (M.B 0 rfl).at_ rfl | exact (M.B 1 rfl).at_ rfl | exact (M.B 2 rfl).at_ rfl | exact (M.B 3 rfl).at_ rfl | exact (M.B 4 rfl).at_ rfl | exact M.lc 0 rfl _ _ rfl | exact M.lc 1 rfl _ _ rfl | exact M.lc 2 rfl _ _ rfl | exact M.lc 3 rfl _ _ rfl | exact M.lc 4 rfl _ _ rfl | exact M.lc 5 rfl _ _ rfl | exact M.lc 6 rfl _ _ rfl | exact M.lc 7 rfl _ _ rfl) ?_
    refine p_len sln rfl ?_
    refine p_lt rfl rfl (fun hlt => ?_) (fun hge => ?_)
    · dsimp only at hlt
      obtain ⟨k, hki⟩ : ∃ k, t.kids[i]? = some k := ⟨_, List.getElem?_eq_getElem (by omega)⟩
      have hdr : t.kids.drop i = k :: t.kids.drop (i + 1) := by
        have h1 := (List.getElem?_eq_some_iff.1 hki)
        rw [List.drop_eq_getElem_cons h1.1, h1.2]
      rw [hdr] at hT
      unfold itemsK at hT
      have hkz := szs_mem (List.mem_of_getElem? hki)
      have hTl2 : don7.length ≤ T.length := by rw [hT, List.length_append]; omega
      replace M := M.nilR 5 1
      refine s_appB (l := []) M rfl rfl (M.rdb 1 rfl).2.2 (by omega) ?_
      clear M; rintro A4 c4 W M -
      rw [List.nil_append, Nat.zero_add] at M
      rw [Nat.zero_add]
      refine p_fld fN0 rfl ?_
      refine v_load agg_int rfl (by first | exact (M.B 0 rfl).at_ rfl | exact (M.B 1 rfl).at_ rfl | exact (M.B 2 rfl).at_ rfl | exact (M.B 3 rfl).at_ rfl | exact (M.B 4 rfl).at_ rfl | exact M.lc 0 rfl _ _ rfl | exact M.lc 1 rfl _ _ rfl | exact M.lc 2 rfl _ _ rfl | exact M.lc 3 rfl _ _ rfl | exact M.lc 4 rfl _ _ rfl | exact M.lc 5 rfl _ _ rfl | exact M.lc 6 rfl _ _ rfl | exact M.lc 7 rfl _ _ rfl) ?_
      refine p_eq rfl rfl (fun h3 => ?_) (fun h3 => ?_)
      · rw [decide_eq_true h3] at hT
        rw [decide_eq_true h3]
        simp only [if_true] at hT
        refine v_cvt u_int u_u8 rfl (r := ((i % 256 : Nat) : Int)) (by rw [IntKind.wrap_u8']; omega) ?_
        refine s_litB [.int .u8 ((i % 256 : Nat) : Int)] [UInt8.ofNat i] M (by decide) rfl (bvs1 i) rfl ?_
        clear M; rintro g9 W M
        replace M := M.frzO
        refine s_appB M rfl rfl (M.rdb 0 rfl).2.2 (by omega) ?_
        clear M; rintro A9 c9 W M -
        replace M := M.frzO
        replace M := M.drew
        obtain ⟨b, off, es, rfl, hel, M'⟩ := M.kid (by first | with_reducible exact M.d1_0 | with_reducible exact M.d1_1 | with_reducible exact M.d1_2 | with_reducible exact M.d1_3 | with_reducible exact M.d1_4 | with_reducible exact M.d1_5 | with_reducible exact M.d1_6 | with_reducible exact M.d1_7 | with_reducible exact M.d1_8 | with_reducible exact M.d1_9 | with_reducible exact M.d1_10 | with_reducible exact M.d1_11) hki
        replace M := M'; clear M'
        refine drT (Kp w gs [(g3, 25, ncs t Ap cp Av cv (some ⟨b, off, none⟩) ck Ah ch)] [.loc ((⟨b, off, none⟩ : Addr).add (i * 6)) es]) (.take 0 (.take 1 (.take 2 (.take 3 (.take 4 (.take 5 (.take 6 (.take 7 (.take 8 (.take 9 (.one 10 (.one 11 (.take 12 (.nil)))))))))))))) (by kernel_rfl) (M.kp (by simp) (by simp)) ?_
        refine p_fld fN4 rfl ?_
        refine t_load agg_ns rfl (fun W K => by first | exact (K.B 0 rfl).at_ rfl | exact (K.B 1 rfl).at_ rfl | exact (K.B 2 rfl).at_ rfl | exact (K.B 3 rfl).at_ rfl | exact K.lc 0 rfl _ _ rfl | exact K.lc 1 rfl _ _ rfl | exact K.lc 2 rfl _ _ rfl | exact K.lc 3 rfl _ _ rfl) ?_
        refine p_at sln rfl rfl rfl (by omega) ?_
        refine t_loadN es agg_nd rfl hel (fun W K => K.lc 0 rfl) ?_
        refine p_fld fN0 rfl ?_
        refine t_load agg_int rfl (fun W K => by first | exact (K.B 0 rfl).at_ rfl | exact (K.B 1 rfl).at_ rfl | exact (K.B 2 rfl).at_ rfl | exact (K.B 3 rfl).at_ rfl | exact K.lc 0 rfl _ _ rfl | exact K.lc 1 rfl _ _ rfl | exact K.lc 2 rfl _ _ rfl | exact K.lc 3 rfl _ _ rfl) ?_
        refine p_eqD rfl rfl ?_
        have hcall := ih k (by omega) _ _ es (AT ++ [UInt8.ofNat i]) A9 _ c9 (decide (t.kind = 2)) (by first | with_reducible exact M.da_0 | with_reducible exact M.da_1 | with_reducible exact M.da_2 | with_reducible exact M.da_3 | with_reducible exact M.da_4 | with_reducible exact M.da_5 | with_reducible exact M.da_6 | with_reducible exact M.da_7 | with_reducible exact M.da_8 | with_reducible exact M.da_9 | with_reducible exact M.da_10 | with_reducible exact M.da_11) (by first | with_reducible exact M.d1_0 | with_reducible exact M.d1_1 | with_reducible exact M.d1_2 | with_reducible exact M.d1_3 | with_reducible exact M.d1_4 | with_reducible exact M.d1_5 | with_reducible exact M.d1_6 | with_reducible exact M.d1_7 | with_reducible exact M.d1_8 | with_reducible exact M.d1_9 | with_reducible exact M.d1_10 | with_reducible exact M.d1_11) M.olt (by omega)
        refine cc is_items hcall ?_
        clear hcall
        rintro e W ⟨A8, n8, c8, rfl, h8, hb⟩
        have e8 := h8.slen
        subst e8
        replace M := (M.call hb).addD h8
        refine ⟨_, rfl, (M.kp (by simp) (by simp)), ?_⟩
        obtain ⟨ys, hrd, hys⟩ := h8.reads Fd.lt
        replace M := M.addL hys
        refine s_app M Try.underlying87 itinfo rfl (by decide) rfl rfl hrd (hys.ones (dIs_one _)) ⟨by have := itemsP_len k (AT ++ [UInt8.ofNat i]) (decide (t.kind = 2)); omega, by decide⟩ ?_
        clear M; rintro A9 c9 W M -
        refine ⟨(M.kp (by simp) (by simp)), ?_⟩
        have hX := (M.dw 6 rfl).app (M.dw 0 rfl)
        rw [← dIs_app] at hX
        refine p_addN (b := 1) rfl rfl (by omega) ?_
        refine ⟨(i + 1, A9, n7 + (itemsP k (AT ++ [UInt8.ofNat i]) (decide (t.kind = 2))).length, c9, xs7 ++ ys, don7 ++ itemsP k (AT ++ [UInt8.ofNat i]) (decide (t.kind = 2))), ⟨by dsimp only; omega, (M.addT hX).fsub _ (by simp), by dsimp only; rw [List.length_append]; omega, by rw [hT, List.append_assoc]⟩, (by repeat (first | exact trivial | refine ⟨rfl, ?_⟩)), by dsimp only; omega⟩
      · rw [decide_eq_false h3] at hT
        rw [decide_eq_false h3]
        simp only [Bool.false_eq_true, if_false] at hT
        replace M := M.frzO
        replace M := M.drew
        obtain ⟨b, off, es, rfl, hel, M'⟩ := M.kid (by first | with_reducible exact M.d1_0 | with_reducible exact M.d1_1 | with_reducible exact M.d1_2 | with_reducible exact M.d1_3 | with_reducible exact M.d1_4 | with_reducible exact M.d1_5 | with_reducible exact M.d1_6 | with_reducible exact M.d1_7 | with_reducible exact M.d1_8 | with_reducible exact M.d1_9 | with_reducible exact M.d1_10 | with_reducible exact M.d1_11) hki
        replace M := M'; clear M'
        refine drT (Kp w gs [(g3, 25, ncs t Ap cp Av cv (some ⟨b, off, none⟩) ck Ah ch)] [.loc ((⟨b, off, none⟩ : Addr).add (i * 6)) es]) (.take 0 (.take 1 (.take 2 (.take 3 (.take 4 (.take 5 (.take 6 (.take 7 (.take 8 (.take 9 (.one 10 (.one 11 (.take 12 (.nil)))))))))))))) (by kernel_rfl) (M.kp (by simp) (by simp)) ?_
        refine p_fld fN4 rfl ?_
        refine t_load agg_ns rfl (fun W K => by first | exact (K.B 0 rfl).at_ rfl | exact (K.B 1 rfl).at_ rfl | exact (K.B 2 rfl).at_ rfl | exact (K.B 3 rfl).at_ rfl | exact K.lc 0 rfl _ _ rfl | exact K.lc 1 rfl _ _ rfl | exact K.lc 2 rfl _ _ rfl | exact K.lc 3 rfl _ _ rfl) ?_
        refine p_at sln rfl rfl rfl (by omega) ?_
        refine t_loadN es agg_nd rfl hel (fun W K => K.lc 0 rfl) ?_
        refine p_fld fN0 rfl ?_
        refine t_load agg_int rfl (fun W K => by first | exact (K.B 0 rfl).at_ rfl | exact (K.B 1 rfl).at_ rfl | exact (K.B 2 rfl).at_ rfl | exact (K.B 3 rfl).at_ rfl | exact K.lc 0 rfl _ _ rfl | exact K.lc 1 rfl _ _ rfl | exact K.lc 2 rfl _ _ rfl | exact K.lc 3 rfl _ _ rfl) ?_
        refine p_eqD rfl rfl ?_
        have hcall := ih k (by omega) _ _ es (AT) A4 n3 c4 (decide (t.kind = 2)) (by first | with_reducible exact M.da_0 | with_reducible exact M.da_1 | with_reducible exact M.da_2 | with_reducible exact M.da_3 | with_reducible exact M.da_4 | with_reducible exact M.da_5 | with_reducible exact M.da_6 | with_reducible exact M.da_7 | with_reducible exact M.da_8 | with_reducible exact M.da_9 | with_reducible exact M.da_10 | with_reducible exact M.da_11) (by first | with_reducible exact M.d1_0 | with_reducible exact M.d1_1 | with_reducible exact M.d1_2 | with_reducible exact M.d1_3 | with_reducible exact M.d1_4 | with_reducible exact M.d1_5 | with_reducible exact M.d1_6 | with_reducible exact M.d1_7 | with_reducible exact M.d1_8 | with_reducible exact M.d1_9 | with_reducible exact M.d1_10 | with_reducible exact M.d1_11) M.olt (by omega)
        refine cc is_items hcall ?_
        clear hcall
        rintro e W ⟨A8, n8, c8, rfl, h8, hb⟩
        have e8 := h8.slen
        subst e8
        replace M := (M.call hb).addD h8
        refine ⟨_, rfl, (M.kp (by simp) (by simp)), ?_⟩
        obtain ⟨ys, hrd, hys⟩ := h8.reads Fd.lt
        replace M := M.addL hys
        refine s_app M Try.underlying87 itinfo rfl (by decide) rfl rfl hrd (hys.ones (dIs_one _)) ⟨by have := itemsP_len k (AT) (decide (t.kind = 2)); omega, by decide⟩ ?_
        clear M; rintro A9 c9 W M -
        refine ⟨(M.kp (by simp) (by simp)), ?_⟩
        have hX := (M.dw 5 rfl).app (M.dw 0 rfl)
        rw [← dIs_app] at hX
        refine p_addN (b := 1) rfl rfl (by omega) ?_
        refine ⟨(i + 1, A9, n7 + (itemsP k (AT) (decide (t.kind = 2))).length, c9, xs7 ++ ys, don7 ++ itemsP k (AT) (decide (t.kind = 2))), ⟨by dsimp only; omega, (M.addT hX).fsub _ (by simp), by dsimp only; rw [List.length_append]; omega, by rw [hT, List.append_assoc]⟩, (by repeat (first | exact trivial | refine ⟨rfl, ?_⟩)), by dsimp only; omega⟩
    · dsimp only at hge
      rw [List.drop_of_length_le (by omega)] at hT
      unfold itemsK at hT
      rw [List.append_nil] at hT
      subst hT
      subst hn7
      replace M := M.frzR (fr := false) (M.dt 0 rfl)
      exact ⟨A7, _, c7, rfl, M.fin1 0 rfl, M.below⟩
theorem items_any : ∀ (N : Nat), ∀ t : Nd, sz t < N → ItemsOk t
  | 0, t, h => by omega
  | N + 1, t, h => items_step N (fun k hk => items_any N k hk) t (by omega)
end Go.Proofs.Ytkfbkhahkkmcoaa
namespace Go.Proofs.Ytkfbkhahkkmcoaa
open Go.RowKit

theorem bytesE_no {l : List UInt8} (h : halvesB l = false) : bytesE l = 2 ∧ bytesL l = [] := by simp [bytesE, bytesL, h]
theorem bytesE_odd {l : List UInt8} (h : halvesB l = true) (k : l.length % 2 = 1) : bytesE l = 11 ∧ bytesL l = [] := by simp [bytesE, bytesL, h, k]
theorem bytesE_ok {l : List UInt8} (h : halvesB l = true) (k : l.length % 2 = 0) : bytesE l = 0 ∧ bytesL l = joinB l := by simp [bytesE, bytesL, h, k]
theorem ret_se {A A' : Option Addr} {n n' c c' : Nat} {x y : Int} (h : Value.slice A n c = Value.slice A' n' c') (k : x = y) : Ending.returned (.tuple #[.slice A n c, .int .i64 x]) = Ending.returned (.tuple #[.slice A' n' c', .int .i64 y]) := by rw [h, k]

set_option maxHeartbeats 800000 in
theorem bytes_any (A : Option Addr) (n c : Nat) (l : List UInt8) (w : World) (hr : Rd w w.heap.size A n l) (hn : n ≤ 100000000000) :
    Calls Try.prog 92 #[.slice A n c] w fun e w' => ∃ A' n' c', e = .returned (.tuple #[.slice A' n' c', .int .i64 (bytesE l)]) ∧ Own w' w.heap.size A' n' c' (bytesL l) ∧ Below w.heap.size w w' := by
  have hln := Lib.hid hr.len
  by_cases hh : halvesB l = true
  · by_cases hodd : n % 2 = 1
    · obtain ⟨he, hl⟩ := bytesE_odd hh (by rw [hln.out]; exact hodd)
      have He := Lib.hid he
      have Hl := Lib.hid hl
      clear he hl
      go_enter Try.func92, Try.ntmps92
      go_wp2_with (go_at_call 109; refine (halves_any _ _ _ _ _ _ hr hn).mono ?_; rintro e w' ⟨rfl, rfl⟩)
      go_ret2
      exact ⟨none, 0, 0, ret_se rfl He.out.symm, by rw [Hl.out]; exact Own.nil_ _ _, Below.refl _ _⟩
    · obtain ⟨he, hl⟩ := bytesE_ok hh (by rw [hln.out]; omega)
      have He := Lib.hid he
      have Hl := Lib.hid hl
      clear he hl
      go_enter Try.func92, Try.ntmps92
      go_wp2_with (first
        | (go_at_call 109; refine (halves_any _ _ _ _ _ _ hr hn).mono ?_; rintro e w' ⟨rfl, rfl⟩)
        | (go_at_call 110; refine (joined_any _ _ _ _ _ hr hn hh).mono ?_; rintro e w' ⟨A2, c2, rfl, hown2, hb2⟩))
      go_ret2
      exact ⟨A2, n / 2, c2, ret_se rfl He.out.symm, by rw [Hl.out]; exact hown2, hb2⟩
  · have hh' : halvesB l = false := by simpa using hh
    obtain ⟨he, hl⟩ := bytesE_no hh'
    have He := Lib.hid he
    have Hl := Lib.hid hl
    clear he hl hh
    go_enter Try.func92, Try.ntmps92
    go_wp2_with (go_at_call 109; refine (halves_any _ _ _ _ _ _ hr hn).mono ?_; rintro e w' ⟨rfl, rfl⟩)
    go_ret2
    exact ⟨none, 0, 0, ret_se rfl He.out.symm, by rw [Hl.out]; exact Own.nil_ _ _, Below.refl _ _⟩

theorem packE_no {l : List UInt8} (h : halvesB l = false) (leaf : Bool) : packE l = 2 ∧ packL l leaf = [] := by simp [packE, packL, h]
theorem packE_ok {l : List UInt8} (h : halvesB l = true) : packE l = 0 := by simp [packE, h]
theorem packL_even {l : List UInt8} (h : halvesB l = true) (k : l.length % 2 = 0) (leaf : Bool) (x : Int) (hx : x = if leaf = true then 32 else 0) : packL l leaf = [b8 x] ++ joinB l := by simp [packL, h, k, hx]
theorem packL_odd {l : List UInt8} (h : halvesB l = true) (k : l.length % 2 = 1) (leaf : Bool) (x : Int) (hx : x = (if leaf = true then 32 else 0) + 16 + at8 l 0) : packL l leaf = [b8 x] ++ joinB (l.drop 1) := by simp [packL, h, k, hx]
theorem halvesB_dropP {l : List UInt8} (h : halvesB l = true) (k : Nat) : halvesB (l.drop k) = true := by
  unfold halvesB at *
  rw [List.all_eq_true] at *
  exact fun x hx => h x (List.mem_of_mem_drop hx)
theorem or16 (x : Int) (h0 : 0 ≤ x) (h1 : x ≤ 15) : bits .or .u8 16 x = 16 + x := by
  have h : ∀ y : Fin 16, bits .or .u8 16 (y.val : Int) = 16 + (y.val : Int) := by decide +kernel
  have := h ⟨x.toNat, by omega⟩
  simp only [Int.toNat_of_nonneg h0] at this
  exact this
theorem or32 (x : Int) (h0 : 0 ≤ x) (h1 : x ≤ 15) : bits .or .u8 32 (16 + x) = 48 + x := by
  have h : ∀ y : Fin 16, bits .or .u8 32 (16 + (y.val : Int)) = 48 + (y.val : Int) := by decide +kernel
  have := h ⟨x.toNat, by omega⟩
  simp only [Int.toNat_of_nonneg h0] at this
  exact this
theorem or0 (x : Int) (h0 : 0 ≤ x) (h1 : x ≤ 15) : bits .or .u8 0 (16 + x) = 16 + x := by
  have h : ∀ y : Fin 16, bits .or .u8 0 (16 + (y.val : Int)) = 16 + (y.val : Int) := by decide +kernel
  have := h ⟨x.toNat, by omega⟩
  simp only [Int.toNat_of_nonneg h0] at this
  exact this

end Go.Proofs.Ytkfbkhahkkmcoaa
namespace Go.Proofs.Ytkfbkhahkkmcoaa
open Go.RowKit

theorem and16_1 (x : Int) (h0 : 0 ≤ x) (h1 : x ≤ 255) (h : x / 16 % 2 = 1) : bits .and .u8 x 16 = 16 := by
  have key : ∀ y : Fin 256, (y.val : Int) / 16 % 2 = 1 → bits .and .u8 (y.val : Int) 16 = 16 := by decide +kernel
  have := key ⟨x.toNat, by omega⟩
  simp only [Int.toNat_of_nonneg h0] at this
  exact this h
theorem and16_0 (x : Int) (h0 : 0 ≤ x) (h1 : x ≤ 255) (h : ¬ x / 16 % 2 = 1) : bits .and .u8 x 16 = 0 := by
  have key : ∀ y : Fin 256, ¬ (y.val : Int) / 16 % 2 = 1 → bits .and .u8 (y.val : Int) 16 = 0 := by decide +kernel
  have := key ⟨x.toNat, by omega⟩
  simp only [Int.toNat_of_nonneg h0] at this
  exact this h
theorem and32_1 (x : Int) (h0 : 0 ≤ x) (h1 : x ≤ 255) (h : x / 32 % 2 = 1) : bits .and .u8 x 32 = 32 := by
  have key : ∀ y : Fin 256, (y.val : Int) / 32 % 2 = 1 → bits .and .u8 (y.val : Int) 32 = 32 := by decide +kernel
  have := key ⟨x.toNat, by omega⟩
  simp only [Int.toNat_of_nonneg h0] at this
  exact this h
theorem and32_0 (x : Int) (h0 : 0 ≤ x) (h1 : x ≤ 255) (h : ¬ x / 32 % 2 = 1) : bits .and .u8 x 32 = 0 := by
  have key : ∀ y : Fin 256, ¬ (y.val : Int) / 32 % 2 = 1 → bits .and .u8 (y.val : Int) 32 = 0 := by decide +kernel
  have := key ⟨x.toNat, by omega⟩
  simp only [Int.toNat_of_nonneg h0] at this
  exact this h
theorem unpack_nil {b : List UInt8} (h : b.length = 0) : unpackE b = 10 ∧ unpackB b = false ∧ unpackL b = [] := by simp [unpackE, unpackB, unpackL, h]
theorem unpack_no {b : List UInt8} (h : b.length ≠ 0) (k : unpackOk b = false) : unpackE b = 11 ∧ unpackB b = false ∧ unpackL b = [] := by simp [unpackE, unpackB, unpackL, h, k]
theorem unpack_ok {b : List UInt8} (h : b.length ≠ 0) (k : unpackOk b = true) : unpackE b = 0 ∧ unpackB b = decide (at8 b 0 / 32 % 2 = 1) ∧ unpackL b = (if at8 b 0 / 16 % 2 = 1 then [b8 (at8 b 0 % 16)] else []) ++ ofB (b.drop 1) := by simp [unpackE, unpackB, unpackL, h, k]
theorem ret_sbe {A A' : Option Addr} {n n' c c' : Nat} {p q : Bool} {x y : Int} (h : Value.slice A n c = Value.slice A' n' c') (hp : p = q) (k : x = y) :
    Ending.returned (.tuple #[.slice A n c, .bool p, .int .i64 x]) = Ending.returned (.tuple #[.slice A' n' c', .bool q, .int .i64 y]) := by rw [h, hp, k]

theorem cmpB_eq {a b : List UInt8} {n : Nat} (h : commonB a b = n) (h1 : n = a.length) (h2 : n = b.length) : cmpB a b = 0 := by unfold cmpB; simp only [h]; rw [if_pos ⟨h1, h2⟩]
theorem cmpB_lt {a b : List UInt8} {n : Nat} (h : commonB a b = n) (h1 : n = a.length) (h2 : n ≠ b.length) : cmpB a b = -1 := by unfold cmpB; simp only [h]; rw [if_neg (fun e => h2 e.2), if_pos (.inl h1)]
theorem cmpB_gt {a b : List UInt8} {n : Nat} (h : commonB a b = n) (h1 : n ≠ a.length) (h2 : ¬ n < b.length) : cmpB a b = 1 := by unfold cmpB; simp only [h]; rw [if_neg (fun e => h1 e.1), if_neg (fun e => e.elim h1 (fun e => h2 e.1))]
theorem cmpB_at_lt {a b : List UInt8} {n : Nat} (h : commonB a b = n) (h1 : n < b.length) (h2 : at8 a n < at8 b n) (h3 : n ≠ a.length) : cmpB a b = -1 := by unfold cmpB; simp only [h]; rw [if_neg (fun e => h3 e.1), if_pos (.inr ⟨h1, h2⟩)]
theorem cmpB_at_ge {a b : List UInt8} {n : Nat} (h : commonB a b = n) (h1 : n ≠ a.length) (h2 : ¬ at8 a n < at8 b n) : cmpB a b = 1 := by unfold cmpB; simp only [h]; rw [if_neg (fun e => h1 e.1), if_neg (fun e => e.elim h1 (fun e => h2 e.2))]

set_option maxHeartbeats 1600000 in
theorem cmp_any (A1 A2 : Option Addr) (n m c1 c2 B : Nat) (a b : List UInt8) (w : World) (h1 : Rd w B A1 n a) (h2 : Rd w B A2 m b) (hn : n ≤ 100000000000) (hm : m ≤ 100000000000) :
    Calls Try.prog 116 #[.slice A1 n c1, .slice A2 m c2] w fun e w' => e = .returned (.int .i64 (cmpB a b)) ∧ ∃ d, w' = w.drewN d := by
  have hla := Lib.hid h1.len
  have hlb := Lib.hid h2.len
  obtain ⟨k, hk⟩ : ∃ k, commonB a b = k := ⟨_, rfl⟩
  have hle := commonB_le a b
  have hkn : k ≤ n := by rw [← hk, ← hla.out]; exact hle.1
  have hkm : k ≤ m := by rw [← hk, ← hlb.out]; exact hle.2
  have hcall : Hid (∀ W : World, Rd W B A1 n a → Rd W B A2 m b → Calls Try.prog 98 #[.slice A1 n c1, .slice A2 m c2] W fun e w' => e = .returned (.int .i64 k) ∧ ∃ d, w' = W.drewN d) :=
    Lib.hid (fun W g1 g2 => by rw [← hk]; exact common_any A1 A2 n m c1 c2 B a b W g1 g2 hn hm)
  have Hk := Lib.hid hk
  clear hk hle
  by_cases e1 : k = n
  · by_cases e2 : k = m
    · have hfin := Lib.hid (cmpB_eq Hk.out (by rw [hla.out]; exact e1) (by rw [hlb.out]; exact e2))
      subst e1
      subst e2
      go_enter Try.func116, Try.ntmps116
      go_wp2_with (go_at_call 98; refine (hcall.out _ h1 h2).mono ?_; rintro e w' ⟨rfl, d, rfl⟩)
      go_ret
      exact ⟨ret_int hfin.out.symm, _, rfl⟩
    · have hfin := Lib.hid (cmpB_lt Hk.out (by rw [hla.out]; exact e1) (by rw [hlb.out]; exact e2))
      have hb1 : ((k : Int) == (m : Int)) = false := by simp; omega
      subst e1
      go_enter Try.func116, Try.ntmps116
      go_wp2_with (go_at_call 98; refine (hcall.out _ h1 h2).mono ?_; rintro e w' ⟨rfl, d, rfl⟩)
      go_quiet (fail)
      go_wp2
      go_ret
      exact ⟨ret_int hfin.out.symm, _, World.drewN_drewN ..⟩
  · have hb1 : ((k : Int) == (n : Int)) = false := by simp; omega
    by_cases e2 : k < m
    · obtain ⟨bb1, off1, rfl, hc1⟩ := h1.at_ (k := k) (by omega)
      obtain ⟨bb2, off2, rfl, hc2⟩ := h2.at_ (k := k) (by omega)
      have hd : decide ((k : Int) < (m : Int)) = true := by simp; omega
      by_cases e3 : at8 a k < at8 b k
      · have hfin := Lib.hid (cmpB_at_lt Hk.out (by rw [hlb.out]; exact e2) e3 (by rw [hla.out]; exact e1))
        go_enter Try.func116, Try.ntmps116
        go_wp2_with (go_at_call 98; refine (hcall.out _ h1 h2).mono ?_; rintro e w' ⟨rfl, d, rfl⟩)
        go_quiet (fail)
        go_wp2
        go_ret
        exact ⟨ret_int hfin.out.symm, _, World.drewN_drewN ..⟩
      · have hfin := Lib.hid (cmpB_at_ge Hk.out (by rw [hla.out]; exact e1) e3)
        have hd2 : decide (at8 a k < at8 b k) = false := by simpa using e3
        go_enter Try.func116, Try.ntmps116
        go_wp2_with (go_at_call 98; refine (hcall.out _ h1 h2).mono ?_; rintro e w' ⟨rfl, d, rfl⟩)
        go_quiet (fail)
        go_wp2
        go_ret
        exact ⟨ret_int hfin.out.symm, _, World.drewN_drewN ..⟩
    · have hfin := Lib.hid (cmpB_gt Hk.out (by rw [hla.out]; exact e1) (by rw [hlb.out]; exact e2))
      have hd : decide ((k : Int) < (m : Int)) = false := by simp; omega
      go_enter Try.func116, Try.ntmps116
      go_wp2_with (go_at_call 98; refine (hcall.out _ h1 h2).mono ?_; rintro e w' ⟨rfl, d, rfl⟩)
      go_quiet (fail)
      go_wp2
      go_ret
      exact ⟨ret_int hfin.out.symm, _, World.drewN_drewN ..⟩
end Go.Proofs.Ytkfbkhahkkmcoaa
