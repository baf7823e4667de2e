/- The walk of the law TrieModel. The walk of the law SeekUnder. The walk of the law SeekModel. The walk of the law SeekFolded. -/
import Derived.Test.YtkfbkhahkkmcoaaG19
import Derived.Test.YtkfbkhahkkmcoaaG20
namespace Go.Proofs.Ytkfbkhahkkmcoaa
open Go.RowKit

/-- What a trie and a row of pairs have to do with each other. -/
structure Mo (i : Nat) (n : Nd) (left : List Pr) : Prop where
  full : Full n
  mem : ∀ y, y ∈ prsT n ↔ y ∈ left
  len : left.length ≤ i
  small : ∀ p ∈ left, p.k.length ≤ 200 ∧ p.v.length ≤ 4000
  size : sz n ≤ 6 + 4530 * i
theorem Mo.start : Mo 0 noneN [] := ⟨full_none, fun y => by rw [prs_none], Nat.le_refl _, fun p h => (by cases h), (show sz noneN ≤ 6 from Nat.le_refl _)⟩
theorem filter_len {left : List Pr} (f : Pr → Bool) : (left.filter f).length ≤ left.length := List.length_filter_le _ _
theorem Mo.drop {i : Nat} {n m : Nd} {left : List Pr} {k : List UInt8} (h : Mo i n left) (hf : Full m) (hp : prsT m = (prsT n).filter fun p => decide (p.k ≠ k)) (hz : sz m ≤ sz n) : Mo (i + 1) m (left.filter fun p => decide (p.k ≠ k)) :=
  ⟨hf, fun y => by rw [hp, List.mem_filter, List.mem_filter, h.mem], by have := h.len; have := filter_len (left := left) (fun p => decide (p.k ≠ k)); omega, fun p hp => h.small p (List.mem_filter.1 hp).1, by have := h.size; omega⟩
theorem Mo.put {i : Nat} {n m : Nd} {left : List Pr} {p : Pr} (h : Mo i n left) (hf : Full m) (hp : prsT m = insP (prsT n) p) (hz : sz m ≤ sz n + 130 + 2 * p.k.length + p.v.length) (h1 : p.k.length ≤ 200) (h2 : p.v.length ≤ 4000) : Mo (i + 1) m ((left.filter fun y => decide (y.k ≠ p.k)) ++ [p]) :=
  ⟨hf, fun y => by
    rw [hp, insP_mem (prs_ris h.full), List.mem_append, List.mem_filter, h.mem, decide_eq_true_eq, List.mem_singleton]
    exact Or.comm, by have := h.len; have := filter_len (left := left) (fun y => decide (y.k ≠ p.k)); rw [List.length_append, List.length_singleton]; omega, fun y hy => by
    rcases List.mem_append.1 hy with hy | hy
    · exact h.small y (List.mem_filter.1 hy).1
    · rw [List.mem_singleton] at hy; rw [hy]; exact ⟨h1, h2⟩, by have := h.size; omega⟩
theorem Mo.of {i : Nat} {n : Nd} {left : List Pr} (h : Mo i n left) : ((n, 0) : Nd × Int) = tOf left := by
  have hl : longPr left = false := by
    unfold longPr
    rw [List.any_eq_false]
    intro p hp
    have := h.small p hp
    rw [decide_eq_true_eq]; omega
  obtain ⟨e, hF, hr⟩ := tOf_prs hl
  have h1 : n = (tOf left).1 := prs_inj h.full hF (by rw [hr]; exact (rising_same (prs_ris h.full) (fun y => (h.mem y).symm)).symm)
  exact Prod.ext h1 e.symm
end Go.Proofs.Ytkfbkhahkkmcoaa
namespace Go.Proofs.Ytkfbkhahkkmcoaa
open Go.RowKit


theorem take_min {α : Type} (l : List α) (m : Nat) : l.take m = l.take (min m l.length) := by
  rcases Nat.le_total m l.length with h | h
  · rw [Nat.min_eq_left h]
  · rw [Nat.min_eq_right h, List.take_of_length_le h, List.take_length]
theorem range_some {t : Nd} (h : Full t) (low high : List UInt8) (m : Nat) : rangeP t low high (m : Int) false = ⟨(selR low high (prsT t)).take (min m (selR low high (prsT t)).length), none, 0⟩ := by
  rw [range_full h _ _ (by omega)]
  dsimp only
  rw [Int.toNat_natCast, take_min]
theorem back_some {t : Nd} (h : Full t) (low high : List UInt8) (m : Nat) : rangeP t low high (m : Int) true = ⟨(selR low high (prsT t)).reverse.take (min m (selR low high (prsT t)).length), none, 0⟩ := by
  rw [range_full h _ _ (by omega)]
  dsimp only
  rw [Int.toNat_natCast, take_min, List.length_reverse]
end Go.Proofs.Ytkfbkhahkkmcoaa
namespace Go.Proofs.Ytkfbkhahkkmcoaa
open Go.RowKit


set_option maxRecDepth 100000 in
set_option maxHeartbeats 8000000 in
theorem seekFolded_walk (w : World) {A0 : Option Addr} {n0 c0 : Nat} {l : List Pr} (g0 : RdD w (Fd w []) (dPl l) (.slice A0 n0 c0)) (b0 : (l.map fun t => t.k.length + t.v.length + 3).sum ≤ 1048576) {A1 : Option Addr} {n1 c1 : Nat} {way : List UInt8} (g1 : RdD w (Fd w []) (dB way) (.slice A1 n1 c1)) (_b1 : way.length ≤ 1048576)
    {A2 : Option Addr} {n2 c2 : Nat} {low : List UInt8} (g2 : RdD w (Fd w []) (dB low) (.slice A2 n2 c2)) (_b2 : low.length ≤ 1048576) {A3 : Option Addr} {n3 c3 : Nat} {high : List UInt8} (g3 : RdD w (Fd w []) (dB high) (.slice A3 n3 c3)) (_b3 : high.length ≤ 1048576) (most : Int) (hm : 0 ≤ most ∧ most ≤ 255) :
    Calls Try.prog 6 #[.slice A0 n0 c0, .slice A1 n1 c1, .slice A2 n2 c2, .slice A3 n3 c3, .int .u8 most] w (RetTrue w) := by
  refine calls_ev (args := [.slice A0 n0 c0, .slice A1 n1 c1, .slice A2 n2 c2, .slice A3 n3 c3, .int .u8 most]) mixed Try.func6 rfl (by kernel_rfl) ?_
  obtain ⟨m, rfl⟩ : ∃ m : Nat, most = m := ⟨most.toNat, by omega⟩
  have hu := longN_up l
  have en1 := g1.slen
  have en2 := g2.slen
  have en3 := g3.slen
  subst en1; subst en2; subst en3
  have M := ((((St.start (w := w) (gs := []) (fun b h => by cases h)).addD g3).addD g2).addD g1).addD g0
  clear g0 g1 g2 g3
  have hbl := prBulk_up l
  obtain ⟨T, hT⟩ : ∃ T, T = tOf l := ⟨_, rfl⟩
  have hTz0 := tOf_sz l
  rw [← hT] at hTz0
  refine cc is_r8of (r8of_any 401 (Nat.le_refl _) l _ _ _ _ _ (M.d1 0 rfl) M.olt (longN_big (by omega))) ?_
  rintro e W ⟨cs5, he, hres, hb⟩
  rw [← tOf_eq (Nat.le_refl _), ← hT] at he hres
  subst he
  have hc5 := hres.len
  rw [dN_len] at hc5
  replace M := (M.call hb).addL hres
  clear hres hb
  refine ⟨_, rfl, ?_⟩
  refine s_alloc (zN) M al_nd ?_
  clear M
  rintro g5 W M
  refine s_storeA 0 cs5 M rfl sz_nd rfl rfl hc5 ((M.da 0 rfl).ones (dN_one _)) rfl ?_
  clear M; rintro W M
  dsimp only [setL] at M
  refine cc is_long9 (long9_any l _ _ A0 _ _ (M.d1 1 rfl) M.olt (by omega)) ?_
  rintro e W ⟨he, hb⟩
  obtain ⟨q, hq⟩ : ∃ q, q = decide (longN l > 9000) := ⟨_, rfl⟩
  rw [← hq] at he
  subst he
  replace M := M.call hb
  clear hb
  refine ⟨_, rfl, ?_⟩
  cases q with
  | true =>
    refine cc is_kn9 (known9_any _) ?_
    rintro e W ⟨rfl, hb⟩
    replace M := M.call hb
    clear hb
    exact ⟨_, rfl, rfl, M.below⟩
  | false =>
  have hlong : ¬ longN l > 9000 := of_decide_eq_false hq.symm
  clear hq
  refine p_ne rfl rfl (fun hT2 => ?_) (fun _ => ?_)
  rotate_left
  ·
    refine cc is_kn9 (known9_any _) ?_
    rintro e W ⟨rfl, hb⟩
    replace M := M.call hb
    clear hb
    exact ⟨_, rfl, rfl, M.below⟩
  obtain ⟨hlp, hF, hr⟩ := of_ok hT hT2
  refine p_len slb rfl ?_
  refine p_gt rfl rfl (fun k1 => ?_) (fun k1 => ?_)
  ·
    refine cc is_kn9 (known9_any _) ?_
    rintro e W ⟨rfl, hb⟩
    replace M := M.call hb
    clear hb
    exact ⟨_, rfl, rfl, M.below⟩
  refine p_len slb rfl ?_
  refine p_gt rfl rfl (fun k2 => ?_) (fun k2 => ?_)
  ·
    refine cc is_kn9 (known9_any _) ?_
    rintro e W ⟨rfl, hb⟩
    replace M := M.call hb
    clear hb
    exact ⟨_, rfl, rfl, M.below⟩
  refine p_len slb rfl ?_
  refine p_gt rfl rfl (fun k3 => ?_) (fun k3 => ?_)
  ·
    refine cc is_kn9 (known9_any _) ?_
    rintro e W ⟨rfl, hb⟩
    replace M := M.call hb
    clear hb
    exact ⟨_, rfl, rfl, M.below⟩
  have hTz : sz T.1 ≤ 200000 := by omega
  have hmz := sz_folded way hF.1
  obtain ⟨wy, hfold⟩ := fold_range hF way
  obtain ⟨mt, hmt⟩ : ∃ m, m = foldedP way T.1 := ⟨_, rfl⟩
  refine v_loadN cs5 agg_nd rfl hc5 (M.run 0 rfl) ?_
  refine cc is_fo9 (folded9_any way T.1 _ _ cs5 _ _ _ (by omega) (M.da 0 rfl) (M.d1 2 rfl) M.olt) ?_
  rintro e W ⟨cs11, rfl, hres, hb⟩
  rw [← hmt] at hres hfold hmz
  have hc11 := hres.len
  rw [dN_len] at hc11
  replace M := (M.call hb).addL hres
  clear hres hb
  refine ⟨_, rfl, ?_⟩
  refine s_alloc (zN) M al_nd ?_
  clear M
  rintro g11 W M
  refine s_storeA 0 cs11 M rfl sz_nd rfl rfl hc11 ((M.da 0 rfl).ones (dN_one _)) rfl ?_
  clear M; rintro W M
  dsimp only [setL] at M
  have f1 := hfold low high m false (by omega)
  have f2 := hfold low high m true (by omega)
  have s1 := range_some hF low high m
  have s2 := back_some hF low high m
  have z1 := range_len T.1 low high m false
  have z2 := range_len T.1 low high m true
  obtain ⟨RA, hRA⟩ : ∃ R, R = rangeP mt low high m false := ⟨_, rfl⟩
  obtain ⟨RB, hRB⟩ : ∃ R, R = rangeP T.1 low high m false := ⟨_, rfl⟩
  obtain ⟨RC, hRC⟩ : ∃ R, R = rangeP mt low high m true := ⟨_, rfl⟩
  obtain ⟨RD, hRD⟩ : ∃ R, R = rangeP T.1 low high m true := ⟨_, rfl⟩
  rw [← hRA, ← hRB] at f1
  rw [← hRC, ← hRD] at f2
  rw [← hRB] at s1 z1
  rw [← hRD] at s2 z2
  refine v_loadN cs11 agg_nd rfl hc11 (M.run 0 rfl) ?_
  refine v_cvt u_u8x u_inty rfl (r := (m : Int)) (w64 (by omega)) ?_
  refine cc is_range (srange_any mt low high _ (by omega) _ _ cs11 _ _ _ _ _ _ (M.da 0 rfl) (M.d1 4 rfl) (M.d1 5 rfl) M.olt ⟨by omega, by omega⟩) ?_
  rintro e W ⟨A8, na, c8, Am, nm, cma, he, rv, rm, hb⟩
  rw [← hRA] at he rv rm
  subst he
  have hna := rv.slen
  replace M := ((M.call hb).addD rm.toD).addD rv
  clear rv rm hb
  refine ⟨_, rfl, ?_⟩
  refine v_loadN cs5 agg_nd rfl hc5 (M.run 1 rfl) ?_
  refine v_cvt u_u8x u_inty rfl (r := (m : Int)) (w64 (by omega)) ?_
  refine cc is_range (srange_any T.1 low high _ (by omega) _ _ cs5 _ _ _ _ _ _ (M.da 3 rfl) (M.d1 6 rfl) (M.d1 7 rfl) M.olt ⟨by omega, by omega⟩) ?_
  rintro e W ⟨A8, nb, c8, Am, nm, cmb, he, rv, rm, hb⟩
  rw [← hRB] at he rv rm
  subst he
  have hnb := rv.slen
  replace M := ((M.call hb).addD rm.toD).addD rv
  clear rv rm hb
  refine ⟨_, rfl, ?_⟩
  refine v_loadN cs11 agg_nd rfl hc11 (M.run 0 rfl) ?_
  refine v_cvt u_u8x u_inty rfl (r := (m : Int)) (w64 (by omega)) ?_
  refine cc is_back (sback_any mt low high _ (by omega) _ _ cs11 _ _ _ _ _ _ (M.da 4 rfl) (M.d1 8 rfl) (M.d1 9 rfl) M.olt ⟨by omega, by omega⟩) ?_
  rintro e W ⟨A8, nc, c8, Am, nm, cmc, he, rv, rm, hb⟩
  rw [← hRC] at he rv rm
  subst he
  have hnc := rv.slen
  replace M := ((M.call hb).addD rm.toD).addD rv
  clear rv rm hb
  refine ⟨_, rfl, ?_⟩
  refine v_loadN cs5 agg_nd rfl hc5 (M.run 1 rfl) ?_
  refine v_cvt u_u8x u_inty rfl (r := (m : Int)) (w64 (by omega)) ?_
  refine cc is_back (sback_any T.1 low high _ (by omega) _ _ cs5 _ _ _ _ _ _ (M.da 7 rfl) (M.d1 10 rfl) (M.d1 11 rfl) M.olt ⟨by omega, by omega⟩) ?_
  rintro e W ⟨A8, nd, c8, Am, nm, cmd, he, rv, rm, hb⟩
  rw [← hRD] at he rv rm
  subst he
  have hnd := rv.slen
  replace M := ((M.call hb).addD rm.toD).addD rv
  clear rv rm hb
  refine ⟨_, rfl, ?_⟩
  clear hRA hRB hRC hRD
  obtain ⟨SB, hSB⟩ : ∃ S, S = (selR low high (prsT T.1)).take (min m (selR low high (prsT T.1)).length) := ⟨_, rfl⟩
  obtain ⟨SD, hSD⟩ : ∃ S, S = (selR low high (prsT T.1)).reverse.take (min m (selR low high (prsT T.1)).length) := ⟨_, rfl⟩
  rw [← hSB] at s1
  rw [← hSD] at s2
  subst s1; subst s2
  dsimp only at z1 z2
  rcases f1 with rfl | rfl <;> rcases f2 with rfl | rfl
  ·
    refine p_eq rfl rfl (fun e => absurd (show (80 : Int) = 0 from e) (by decide)) (fun _ => ?_)
    refine p_eq rfl rfl (fun e => absurd (show (80 : Int) = 0 from e) (by decide)) (fun _ => ?_)
    refine p_ne rfl rfl (fun e => absurd (show (80 : Int) = 0 from e) (by decide)) (fun _ => ?_)
    refine p_ne rfl rfl (fun _ => ?_) (fun e => absurd rfl e)
    refine p_len slp rfl ?_
    refine p_gt rfl rfl (fun h => absurd (show ((na : Nat) : Int) > 0 from h) (by rw [hna]; exact fun h => absurd (show (0 : Int) < 0 from h) (by decide))) (fun _ => ?_)
    refine p_ne rfl rfl (fun e => absurd (show (80 : Int) = 0 from e) (by decide)) (fun _ => ?_)
    refine p_ne rfl rfl (fun _ => ?_) (fun e => absurd rfl e)
    refine p_len slp rfl ?_
    refine p_gt rfl rfl (fun h => absurd (show ((nc : Nat) : Int) > 0 from h) (by rw [hnc]; exact fun h => absurd (show (0 : Int) < 0 from h) (by decide))) (fun _ => ?_)
    refine p_ne rfl rfl (fun _ => ?_) (fun e => absurd rfl e)
    refine p_ne rfl rfl (fun _ => ?_) (fun e => absurd rfl e)
    obtain ⟨q, hq, hc⟩ := same_tf (c1 := cma) (c2 := cmc) (M.rdb 7 rfl).2.2 (M.rdb 3 rfl).2.2
    obtain rfl := hq.2 rfl
    refine cc is_same0 hc ?_
    rintro e W' ⟨rfl, rfl⟩
    refine ⟨_, rfl, ?_⟩
    clear hq hc
    refine cc is_kn9 (known9_any _) ?_
    rintro e W ⟨rfl, hb⟩
    replace M := M.call hb
    clear hb
    exact ⟨_, rfl, rfl, M.below⟩
  ·
    refine p_eq rfl rfl (fun e => absurd (show (80 : Int) = 0 from e) (by decide)) (fun _ => ?_)
    refine p_eq rfl rfl (fun _ => ?_) (fun e => absurd rfl e)
    refine cc is_r8sp (r8sp_any (SD) (SD) _ _ _ _ _ _ _ _ (M.d1 2 rfl) (M.d1 0 rfl) M.olt ⟨by omega, by omega⟩) ?_
    rintro e W ⟨q, rfl, hq, hb⟩
    obtain rfl := hq.2 rfl
    replace M := M.call hb
    clear hb hq
    refine ⟨_, rfl, ?_⟩
    refine p_not rfl ?_
    refine p_ne rfl rfl (fun e => absurd (show (80 : Int) = 0 from e) (by decide)) (fun _ => ?_)
    refine p_ne rfl rfl (fun _ => ?_) (fun e => absurd rfl e)
    refine p_len slp rfl ?_
    refine p_gt rfl rfl (fun h => absurd (show ((na : Nat) : Int) > 0 from h) (by rw [hna]; exact fun h => absurd (show (0 : Int) < 0 from h) (by decide))) (fun _ => ?_)
    refine p_ne rfl rfl (fun _ => ?_) (fun e => absurd rfl e)
    refine p_ne rfl rfl (fun _ => ?_) (fun e => absurd rfl e)
    refine p_ne rfl rfl (fun e => absurd (show (0 : Int) = 80 from e) (by decide)) (fun _ => ?_)
    refine cc is_kn9 (known9_any _) ?_
    rintro e W ⟨rfl, hb⟩
    replace M := M.call hb
    clear hb
    exact ⟨_, rfl, rfl, M.below⟩
  ·
    refine p_eq rfl rfl (fun _ => ?_) (fun e => absurd rfl e)
    refine cc is_r8sp (r8sp_any (SB) (SB) _ _ _ _ _ _ _ _ (M.d1 6 rfl) (M.d1 4 rfl) M.olt ⟨by omega, by omega⟩) ?_
    rintro e W ⟨q, rfl, hq, hb⟩
    obtain rfl := hq.2 rfl
    replace M := M.call hb
    clear hb hq
    refine ⟨_, rfl, ?_⟩
    refine p_not rfl ?_
    refine p_eq rfl rfl (fun e => absurd (show (80 : Int) = 0 from e) (by decide)) (fun _ => ?_)
    refine p_ne rfl rfl (fun _ => ?_) (fun e => absurd rfl e)
    refine p_ne rfl rfl (fun e => absurd (show (80 : Int) = 0 from e) (by decide)) (fun _ => ?_)
    refine p_ne rfl rfl (fun _ => ?_) (fun e => absurd rfl e)
    refine p_len slp rfl ?_
    refine p_gt rfl rfl (fun h => absurd (show ((nc : Nat) : Int) > 0 from h) (by rw [hnc]; exact fun h => absurd (show (0 : Int) < 0 from h) (by decide))) (fun _ => ?_)
    refine p_ne rfl rfl (fun e => absurd (show (0 : Int) = 80 from e) (by decide)) (fun _ => ?_)
    refine cc is_kn9 (known9_any _) ?_
    rintro e W ⟨rfl, hb⟩
    replace M := M.call hb
    clear hb
    exact ⟨_, rfl, rfl, M.below⟩
  ·
    refine p_eq rfl rfl (fun _ => ?_) (fun e => absurd rfl e)
    refine cc is_r8sp (r8sp_any (SB) (SB) _ _ _ _ _ _ _ _ (M.d1 6 rfl) (M.d1 4 rfl) M.olt ⟨by omega, by omega⟩) ?_
    rintro e W ⟨q, rfl, hq, hb⟩
    obtain rfl := hq.2 rfl
    replace M := M.call hb
    clear hb hq
    refine ⟨_, rfl, ?_⟩
    refine p_not rfl ?_
    refine p_eq rfl rfl (fun _ => ?_) (fun e => absurd rfl e)
    refine cc is_r8sp (r8sp_any (SD) (SD) _ _ _ _ _ _ _ _ (M.d1 2 rfl) (M.d1 0 rfl) M.olt ⟨by omega, by omega⟩) ?_
    rintro e W ⟨q, rfl, hq, hb⟩
    obtain rfl := hq.2 rfl
    replace M := M.call hb
    clear hb hq
    refine ⟨_, rfl, ?_⟩
    refine p_not rfl ?_
    refine p_ne rfl rfl (fun _ => ?_) (fun e => absurd rfl e)
    refine p_ne rfl rfl (fun _ => ?_) (fun e => absurd rfl e)
    refine p_ne rfl rfl (fun e => absurd (show (0 : Int) = 80 from e) (by decide)) (fun _ => ?_)
    refine cc is_kn9 (known9_any _) ?_
    rintro e W ⟨rfl, hb⟩
    replace M := M.call hb
    clear hb
    exact ⟨_, rfl, rfl, M.below⟩
end Go.Proofs.Ytkfbkhahkkmcoaa
