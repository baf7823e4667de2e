/- The walk of the law RowMany. -/
import Derived.Test.YtjneoinacobbaaaRowK
import Derived.Test.YtjneoinacobbaaaRowM
import Derived.Test.YtjneoinacobbaaaLawVV
namespace Go.Proofs.Ytjneoinacobbaaa
open Go.RowKit
theorem is_many : isFn Try.prog 17 = true := by kernel_rfl
theorem is_rmany : isFn Try.prog 18 = true := by kernel_rfl
theorem is_few : isFn Try.prog 19 = true := by kernel_rfl
theorem is_rfew : isFn Try.prog 20 = true := by kernel_rfl
theorem is_srows : isFn Try.prog 21 = true := by kernel_rfl
theorem fewL_ok (b : List UInt8) : (fewL b).length ≤ b.length ∧ ∀ l ∈ fewL b, l.length ≤ 1000000000 := by
  by_cases h : fewE b = 0
  · have e : fewL b = (spL b).map decL := by unfold fewL; rw [if_pos h]
    have h0 : spE b = 0 := by
      unfold fewE at h
      split at h
      · rename_i h1; exact absurd h h1
      · rename_i h1; simpa using h1
    obtain ⟨hc, hs⟩ := spL_cnt h0
    rw [e]
    refine ⟨by rw [List.length_map]; exact hc, fun l hl => ?_⟩
    obtain ⟨s, hs1, rfl⟩ := List.mem_map.1 hl
    have := hs s hs1
    by_cases h2 : decE s = 0
    · have := (enc_ok (enc_dec (by omega) h2).1).2.1; omega
    · unfold decL; rw [if_neg h2]; simp
  · have e : fewL b = [] := by unfold fewL; rw [if_neg h]
    rw [e]; exact ⟨Nat.zero_le _, by simp⟩
set_option maxRecDepth 100000 in
theorem rowMany_walk (w : World) {A0 : Option Addr} {n0 c0 : Nat} {l0 : List (List Val)} (g0 : RdN w w.heap.size 3 A0 n0 (l0.map vcs)) (_k0 : n0 ≤ c0) (o0 : ∀ l ∈ l0, ∀ v ∈ l, VOk v) (b0 : vvbulk l0 ≤ 1048576)
    {A1 : Option Addr} {n1 c1 : Nat} {l1 : List UInt8} (g1 : Rd w w.heap.size A1 n1 l1) (k1 : n1 ≤ c1) :
    Calls Try.prog 6 #[.slice A0 n0 c0, .slice A1 n1 c1] w (RetTrue w) := by
  refine calls_ev (args := [.slice A0 n0 c0, .slice A1 n1 c1]) mixed Try.func6 rfl (by kernel_rfl) ?_
  replace g0 : RdVS w w.heap.size A0 n0 l0 := g0
  have hl0 := g0.len
  have hcnt := vvbulk_len l0
  refine lp Nat (fun i W => W = w ∧ i ≤ n0 ∧ (0 < i → n0 ≤ 40) ∧ ∀ l ∈ l0.take i, ¬ 4000 < l.length + slen l) (fun i => [(0, .slice A0 n0 c0), (1, .slice A1 n1 c1), (5, .int .i64 i)]) (fun i => n0 - i) 0 ⟨rfl, Nat.zero_le _, (by omega), (by simp)⟩ ⟨rfl, rfl, rfl, trivial⟩ ?_
  rintro i E0 W ⟨rfl, hin, h40, hall⟩
  refine p_len slvv rfl ?_
  refine p_lt rfl rfl (fun h => ?_) (fun h => ?_)
  · obtain ⟨l, hl⟩ : ∃ l, l0[i]? = some l := ⟨_, List.getElem?_eq_getElem (by omega)⟩
    have hbl := vvbulk_mem (List.mem_of_getElem? hl)
    have hv := vbulk_long l
    obtain ⟨ad, A4, m, c4, rfl, _, hcell, hmc, hrv⟩ := g0.at_ hl
    have hml := hrv.len
    refine p_at (i := i) slvv rfl rfl rfl (by omega) ?_
    refine v_load agg_slv rfl hcell ?_
    refine cc is_long (long_any _ _ _ _ _ _ hrv (by omega)) ?_
    rintro e W' ⟨b, rfl, hb, rfl⟩
    refine ⟨_, rfl, ?_⟩
    cases b
    rotate_left
    · refine cc is_known (known03_any _) ?_
      rintro e W1 ⟨rfl, b1⟩
      exact ⟨_, rfl, rfl, b1⟩
    refine p_len slvv rfl ?_
    refine p_gt rfl rfl (fun h1 => ?_) (fun h1 => ?_)
    · refine cc is_known (known03_any _) ?_
      rintro e W1 ⟨rfl, b1⟩
      exact ⟨_, rfl, rfl, b1⟩
    refine p_add rfl rfl (w64 (by omega)) ?_
    exact ⟨i + 1, ⟨rfl, by omega, fun _ => by omega, all_take_snoc hall hl (by simpa [hml] using hb)⟩, ⟨rfl, rfl, rfl, trivial⟩, by omega⟩
  have hi : i = n0 := by omega
  rw [List.take_of_length_le (by omega)] at hall
  have hf : FitsL l0 := ⟨by omega, fun l hl => ⟨o0 l hl, long_tot (hall l hl)⟩⟩
  have hl1 := g1.len
  refine p_len slb rfl ?_
  refine p_gt rfl rfl (fun h1 => ?_) (fun h1 => ?_)
  · refine cc is_known (known03_any _) ?_
    rintro e W1 ⟨rfl, b1⟩
    exact ⟨_, rfl, rfl, b1⟩
  refine cc is_many (many_any _ _ _ _ _ g0 hf) ?_
  rintro e W1 ⟨A2, n2, c2, rfl, o2, b1⟩
  refine ⟨_, rfl, ?_⟩
  have q2 := o2.rd
  replace g0 := g0.up b1
  replace g1 := g1.up b1
  refine cc is_rmany (rmany_any _ _ _ _ _ g0 hf) ?_
  rintro e W2 ⟨A3, n3, c3, rfl, o3, b2⟩
  refine ⟨_, rfl, ?_⟩
  have q3 := o3.rd
  replace q2 := q2.up b2
  replace g1 := g1.up b2
  replace b1 := b1.trans (b2.mono b1.size)
  refine cc is_few (few_any _ _ _ _ _ g1 (by omega) k1) ?_
  rintro e W3 ⟨A4, n4, c4, rfl, o4, b3⟩
  refine ⟨_, rfl, ?_⟩
  have q4 : RdVS W3 W3.heap.size A4 n4 (fewL l1) := o4.rd
  replace q2 := q2.up b3
  replace q3 := q3.up b3
  replace g1 := g1.up b3
  replace b1 := b1.trans (b3.mono b1.size)
  refine cc is_rfew (rfew_any _ _ _ _ _ g1 (by omega) k1) ?_
  rintro e W4 ⟨A5, n5, c5, rfl, o5, b4⟩
  refine ⟨_, rfl, ?_⟩
  have q5 : RdVS W4 W4.heap.size A5 n5 (fewL l1) := o5.rd
  replace q2 := q2.up b4
  replace q3 := q3.up b4
  replace q4 := q4.up b4
  replace b1 := b1.trans (b4.mono b1.size)
  refine cc is_same (same_yes _ _ _ _ _ _ _ _ _ _ _ q2 q3 rfl) ?_
  rintro e W5 ⟨rfl, rfl⟩
  refine ⟨_, rfl, ?_⟩
  refine p_eq rfl rfl (fun _ => ?_) (fun h => absurd rfl h)
  have hL := fewL_ok l1
  have hn4 := q4.len
  refine cc is_srows (sameRows_any _ _ _ _ _ _ _ _ _ q4 q5 (by omega) hL.2 hL.2) ?_
  rintro e W6 ⟨r, rfl, hr, b6⟩
  refine ⟨_, rfl, ?_⟩
  replace b1 := b1.trans (b6.mono b1.size)
  obtain rfl : r = true := by rw [hr]; simp
  refine p_eq rfl rfl (fun _ => ?_) (fun h => absurd rfl h)
  refine cc is_known (known03_any _) ?_
  rintro e W7 ⟨rfl, b7⟩
  exact ⟨_, rfl, rfl, b1.trans (b7.mono b1.size)⟩
end Go.Proofs.Ytjneoinacobbaaa
