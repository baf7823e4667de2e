/- Tries without stubs, plainly: what Get, Put, Drop, Pairs, Of answer of them. No walk here. The walk of the law TrieTwo. The walks of the laws TrieOf and TrieDigest. -/
import Derived.Test.YtkfbkhahkkmcoaaG27
import Derived.Test.YtkfbkhahkkmcoaaG26
namespace Go.Proofs.Ytkfbkhahkkmcoaa
theorem longN_cons (p : Pr) (l : List Pr) : longN (p :: l) = 10 + p.k.length + p.v.length + longN l := by unfold longN; rw [List.map_cons, List.sum_cons]
theorem prBulk_cons (p : Pr) (l : List Pr) : prBulk (p :: l) = 140 + 2 * p.k.length + p.v.length + prBulk l := by unfold prBulk; rw [List.map_cons, List.sum_cons]
theorem longN_up : ∀ l : List Pr, longN l ≤ 4 * (l.map fun t => t.k.length + t.v.length + 3).sum
  | [] => Nat.zero_le _
  | p :: l => by have := longN_up l; rw [longN_cons, List.map_cons, List.sum_cons]; omega
theorem prBulk_up : ∀ l : List Pr, prBulk l ≤ 14 * longN l
  | [] => Nat.zero_le _
  | p :: l => by have := prBulk_up l; rw [prBulk_cons, longN_cons]; omega
theorem longN_mem : ∀ {l : List Pr} {p : Pr}, p ∈ l → 10 + p.k.length + p.v.length ≤ longN l
  | q :: l, p, h => by
    rw [longN_cons]
    rcases List.mem_cons.1 h with rfl | h
    · omega
    · have := longN_mem h; omega
theorem longN_big {l : List Pr} (h : longN l ≤ 10000000) : prBig l := by
  have := longN_len l
  exact ⟨by omega, fun p hp => by have := longN_mem hp; omega⟩
theorem prBulk_ins : ∀ (l : List Pr) (p : Pr), prBulk (insP l p) ≤ 140 + 2 * p.k.length + p.v.length + prBulk l
  | [], p => by rw [insP, prBulk_cons]; exact Nat.le_refl _
  | x :: r, p => by
    have := prBulk_ins r p
    rw [insP]
    split
    · rw [prBulk_cons, prBulk_cons]; omega
    · split
      · rw [prBulk_cons, prBulk_cons]; omega
      · rw [prBulk_cons, prBulk_cons]; omega
theorem prBulk_fold : ∀ (l o : List Pr), prBulk (l.foldl insP o) ≤ prBulk o + prBulk l
  | [], o => by rw [List.foldl_nil]; exact Nat.le_add_right _ _
  | p :: l, o => by
    have h1 := prBulk_fold l (insP o p)
    have h2 := prBulk_ins o p
    rw [List.foldl_cons, prBulk_cons]; omega
theorem prBulk_rising (l : List Pr) : prBulk (risingP l) ≤ prBulk l := by have := prBulk_fold l []; unfold risingP; have e : prBulk [] = 0 := rfl; omega
theorem longN_ins : ∀ (l : List Pr) (p : Pr), longN (insP l p) ≤ 10 + p.k.length + p.v.length + longN l
  | [], p => by rw [insP, longN_cons]; exact Nat.le_refl _
  | x :: r, p => by
    have := longN_ins r p
    rw [insP]
    split
    · rw [longN_cons, longN_cons]; omega
    · split
      · rw [longN_cons, longN_cons]; omega
      · rw [longN_cons, longN_cons]; omega
theorem longN_fold : ∀ (l o : List Pr), longN (l.foldl insP o) ≤ longN o + longN l
  | [], o => by rw [List.foldl_nil]; exact Nat.le_add_right _ _
  | p :: l, o => by
    have h1 := longN_fold l (insP o p)
    have h2 := longN_ins o p
    rw [List.foldl_cons, longN_cons]; omega
theorem longN_rising (l : List Pr) : longN (risingP l) ≤ longN l := by have := longN_fold l []; unfold risingP; have e : longN [] = 0 := rfl; omega
theorem prBulk_app : ∀ a b : List Pr, prBulk (a ++ b) = prBulk a + prBulk b
  | [], b => by rw [List.nil_append]; exact (Nat.zero_add _).symm
  | p :: a, b => by rw [List.cons_append, prBulk_cons, prBulk_cons, prBulk_app a b]; omega
theorem tOfF_sz : ∀ (l : List Pr) (t : Nd), Full t → sz (tOfF l t).1 ≤ sz t + prBulk l
  | [], t, _ => Nat.le_add_right _ _
  | p :: l, t, h => by
    rw [tOfF, prBulk_cons]
    split
    · have e : sz noneN = 6 := rfl
      have := sz_eq t
      show sz noneN ≤ _
      omega
    · obtain ⟨_, h2, _⟩ := put_prs h (k := p.k) (v := p.v) (by omega) (by omega)
      have h3 := tOfF_sz l _ h2
      have h4 := sz_put h.1 (ofB p.k) p.v (halvesB_ofB _)
      rw [ofB_length] at h4
      omega
theorem tOf_sz (l : List Pr) : sz (tOf l).1 ≤ 6 + prBulk l := tOfF_sz l noneN full_none
theorem full_tri {t : Nd} (h : Full t) {nk nv : Nat} (h1 : nk ≤ 200) (h2 : nv ≤ 4000) : tri t nk nv = true := tri_of h.1 h1 h2
theorem tPut_full {t : Nd} (h : Full t) {k v : List UInt8} (h1 : k.length ≤ 200) (h2 : v.length ≤ 4000) : ∃ t', tPut t k v = (t', none, 0) ∧ Full t' ∧ prsT t' = insP (prsT t) ⟨k, v⟩ ∧ sz t' ≤ sz t + 130 + 2 * k.length + v.length := by
  obtain ⟨p1, p2, p3⟩ := put_prs h h1 h2
  have e : tPut t k v = ((putP t (ofB k) v).1, none, 0) := by unfold tPut; rw [full_tri h h1 h2, if_pos rfl, p1]
  refine ⟨_, e, p2, p3, ?_⟩
  have := sz_put h.1 (ofB k) v (halvesB_ofB _)
  rw [ofB_length] at this; exact this
theorem tGet_full {t : Nd} (h : Full t) {k : List UInt8} (h1 : k.length ≤ 200) : ∃ v has, tGet t k = ⟨v, has, none, 0⟩ ∧ (has = true → ⟨k, v⟩ ∈ prsT t) ∧ (has = false → v = [] ∧ ∀ p ∈ prsT t, p.k ≠ k) := by
  obtain ⟨g1, g2, g3⟩ := get_prs h k
  rcases tGet_cases t k with ⟨a, b⟩ | ⟨a, ⟨r, b, c⟩ | ⟨b, c, d⟩ | ⟨b, c, d⟩⟩
  · rw [full_tri h h1 (by decide)] at a; cases a
  · rw [g1] at b; cases b
  · exact ⟨_, _, d, fun _ => g2 c, fun h => by cases h⟩
  · exact ⟨_, _, d, fun h => (by cases h), fun _ => ⟨rfl, g3 c⟩⟩
theorem tGet_in {t : Nd} (h : Full t) {k v : List UInt8} (h1 : k.length ≤ 200) (hm : ⟨k, v⟩ ∈ prsT t) : tGet t k = ⟨v, true, none, 0⟩ := by
  obtain ⟨v', has, e, a, b⟩ := tGet_full h h1
  cases has with
  | true =>
    have := ris_key (prs_ris h) (a rfl) hm rfl
    injection this with _ e2
    rw [e, e2]
  | false => exact absurd rfl ((b rfl).2 _ hm)
theorem tGet_out {t : Nd} (h : Full t) {k : List UInt8} (h1 : k.length ≤ 200) (hm : ∀ p ∈ prsT t, p.k ≠ k) : tGet t k = ⟨[], false, none, 0⟩ := by
  obtain ⟨v', has, e, a, b⟩ := tGet_full h h1
  cases has with
  | true => exact absurd rfl (hm _ (a rfl))
  | false => rw [e, (b rfl).1]
theorem tDrop_full {t : Nd} (h : Full t) {k : List UInt8} (h1 : k.length ≤ 200) : ∃ t' has, tDrop t k = ⟨t', has, none, 0⟩ ∧ Full t' ∧ prsT t' = (prsT t).filter (fun p => decide (p.k ≠ k)) ∧ (has = true ↔ ∃ p ∈ prsT t, p.k = k) ∧ sz t' ≤ sz t := by
  obtain ⟨g1, g2, g3⟩ := get_prs h k
  unfold tDrop
  rcases tGet_cases t k with ⟨a, b⟩ | ⟨a, ⟨r, b, c⟩ | ⟨b, c, d⟩ | ⟨b, c, d⟩⟩
  · rw [full_tri h h1 (by decide)] at a; cases a
  · rw [g1] at b; cases b
  · obtain ⟨d1, d2, d3⟩ := drop_prs h c
    rw [d, if_pos rfl, if_pos rfl, d1]
    exact ⟨_, _, rfl, d2, d3, ⟨fun _ => ⟨_, g2 c, rfl⟩, fun _ => rfl⟩, sz_drop h.1 (ofB k) (halvesB_ofB k) c⟩
  · rw [d, if_pos rfl, if_neg (by decide)]
    refine ⟨_, _, rfl, h, (List.filter_eq_self.2 fun p hp => decide_eq_true (g3 c p hp)).symm, ⟨fun h => (by cases h), ?_⟩, Nat.le_refl _⟩
    rintro ⟨p, hp, e⟩
    exact absurd e (g3 c p hp)
theorem full_check {t : Nd} (h : Full t) : checkE t = 0 := by unfold checkE; rw [right_of_val h.1, if_pos rfl]
theorem tPairs_full {t : Nd} (h : Full t) : tPairs t = ⟨prsT t, none, 0⟩ := by
  unfold tPairs
  rw [full_check h, if_pos rfl, (full_pairs h).1]; rfl
/- Orders. -/
theorem put_comm {r : List Pr} (h : Ris r) {a b : Pr} (hk : a.k ≠ b.k) : insP (insP r a) b = insP (insP r b) a := by
  have ha := ins_ris a h
  have hb := ins_ris b h
  refine ris_ext (ins_ris b ha) (ins_ris a hb) fun y => ?_
  rw [insP_mem ha, insP_mem h, insP_mem hb, insP_mem h]
  constructor
  · rintro (rfl | ⟨rfl | ⟨h1, h2⟩, h3⟩)
    · exact .inr ⟨.inl rfl, fun e => hk e.symm⟩
    · exact .inl rfl
    · exact .inr ⟨.inr ⟨h1, h3⟩, h2⟩
  · rintro (rfl | ⟨rfl | ⟨h1, h2⟩, h3⟩)
    · exact .inr ⟨.inl rfl, hk⟩
    · exact .inl rfl
    · exact .inr ⟨.inr ⟨h1, h3⟩, h2⟩
theorem ins_drop {r : List Pr} (h : Ris r) {a : Pr} (ha : ∀ p ∈ r, p.k ≠ a.k) : (insP r a).filter (fun p => decide (p.k ≠ a.k)) = r := by
  refine ris_ext (filter_ris _ (ins_ris a h)) h fun y => ?_
  rw [List.mem_filter, insP_mem h, decide_eq_true_eq]
  constructor
  · rintro ⟨rfl | h1, h2⟩
    · exact absurd rfl h2
    · exact h1.1
  · intro hy
    exact ⟨.inr ⟨hy, ha y hy⟩, ha y hy⟩
theorem fold_inj_mem : ∀ {l o : List Pr}, Ris o → (∀ x ∈ l ++ o, ∀ y ∈ l ++ o, x.k = y.k → x = y) → ∀ y, y ∈ l.foldl insP o ↔ y ∈ l ∨ y ∈ o
  | [], o, _, _, y => by simp
  | p :: l, o, ho, hi, y => by
    rw [List.foldl_cons]
    have hm : ∀ z, z ∈ insP o p ↔ z = p ∨ z ∈ o := fun z => by
      rw [insP_mem ho]
      constructor
      · rintro (rfl | h)
        · exact .inl rfl
        · exact .inr h.1
      · rintro (rfl | h)
        · exact .inl rfl
        · by_cases hk : z.k = p.k
          · exact .inl (hi z (by simp [h]) p (by simp) hk)
          · exact .inr ⟨h, hk⟩
    have hi' : ∀ x ∈ l ++ insP o p, ∀ y ∈ l ++ insP o p, x.k = y.k → x = y := fun x hx y hy e => by
      have conv : ∀ z ∈ l ++ insP o p, z ∈ (p :: l) ++ o := fun z hz => by
        rcases List.mem_append.1 hz with h | h
        · simp [h]
        · rcases (hm z).1 h with rfl | h <;> simp [*]
      exact hi x (conv x hx) y (conv y hy) e
    rw [fold_inj_mem (ins_ris p ho) hi' y, hm, List.mem_cons]
    constructor
    · rintro (h | h | h) <;> simp [h]
    · rintro ((h | h) | h) <;> simp [h]
theorem rising_same {r back : List Pr} (h : Ris r) (hm : ∀ y, y ∈ back ↔ y ∈ r) : risingP back = r := by
  refine ris_ext (rising_ris back) h fun y => ?_
  unfold risingP
  rw [fold_inj_mem List.Pairwise.nil (fun x hx y hy e => by
    rw [List.append_nil] at hx hy
    exact ris_key h ((hm x).1 hx) ((hm y).1 hy) e), hm]
  simp
theorem longPr_mem {l : List Pr} (h : longPr l = false) {p : Pr} (hp : p ∈ l) : p.k.length ≤ 200 ∧ p.v.length ≤ 4000 := by
  unfold longPr at h
  rw [List.any_eq_false] at h
  have := h p hp
  rw [decide_eq_true_eq] at this
  omega
theorem longPr_sub {l m : List Pr} (h : longPr l = false) (hm : ∀ p ∈ m, p ∈ l) : longPr m = false := by
  unfold longPr
  rw [List.any_eq_false]
  intro p hp
  have := longPr_mem h (hm p hp)
  rw [decide_eq_true_eq]; omega
theorem rising_sub (l : List Pr) : ∀ p ∈ risingP l, p ∈ l := fun p hp => by
  rcases rising_mem List.Pairwise.nil hp with h | h
  · exact h
  · cases h
end Go.Proofs.Ytkfbkhahkkmcoaa
namespace Go.Proofs.Ytkfbkhahkkmcoaa
open Go.RowKit

theorem of_ok {l : List Pr} {T : Nd × Int} (hT : T = tOf l) (h0 : T.2 = 0) : longPr l = false ∧ Full T.1 ∧ prsT T.1 = risingP l := by
  cases hl : longPr l with
  | true =>
    have : T = (noneN, 2) := hT.trans (of_long l _ hl)
    rw [this] at h0
    exact absurd h0 (by decide)
  | false =>
    obtain ⟨_, h2, h3⟩ := tOf_prs hl
    rw [hT]
    exact ⟨rfl, h2, h3⟩
set_option maxRecDepth 100000 in
set_option maxHeartbeats 4000000 in
theorem trieTwo_walk (w : World) {A0 : Option Addr} {n0 c0 : Nat} {l : List Pr} (g0 : RdD w (Fd w []) (dPl l) (.slice A0 n0 c0)) (b0 : (l.map fun t => t.k.length + t.v.length + 3).sum ≤ 1048576) {a : Pr} {s1 : List Value} (g1 : RdL w (Fd w []) (dPr a) s1) (b1 : a.k.length + a.v.length ≤ 1048576) {b : Pr} {s2 : List Value} (g2 : RdL w (Fd w []) (dPr b) s2) (b2 : b.k.length + b.v.length ≤ 1048576) :
    Calls Try.prog 15 #[.slice A0 n0 c0, .agg s1.toArray, .agg s2.toArray] w (RetTrue w) := by
  refine calls_ev (args := [.slice A0 n0 c0, .agg s1.toArray, .agg s2.toArray]) mixed Try.func15 rfl (by kernel_rfl) ?_
  have hu := longN_up l
  obtain ⟨Aak, cak, Aav, cav, rfl, ha1, ha2⟩ := g1.pair
  obtain ⟨Abk, cbk, Abv, cbv, rfl, hb1, hb2⟩ := g2.pair
  have M := ((((((St.start (w := w) (gs := []) (fun b h => by cases h)).addD hb2).addD hb1).addD ha2).addD ha1).addD g0)
  clear ha1 ha2 hb1 hb2 g0 g1 g2
  refine s_box (pcs a Aak cak Aav cav) M rfl ?_
  clear M
  rintro g4 W M
  refine s_box (pcs b Abk cbk Abv cbv) M rfl ?_
  clear M
  rintro g5 W M
  obtain ⟨T, hT⟩ : ∃ T, T = tOf l := ⟨_, rfl⟩
  refine cc is_r8of (r8of_any 401 (Nat.le_refl _) l _ _ _ _ _ (M.d1 0 rfl) M.olt (longN_big (by omega))) ?_
  rintro e W ⟨cs7, he, hres, hb⟩
  rw [← tOf_eq (Nat.le_refl _), ← hT] at he hres
  subst he
  have hc7 := hres.len
  rw [dN_len] at hc7
  replace M := (M.call hb).addL hres
  clear hres hb
  refine ⟨_, rfl, ?_⟩
  refine s_alloc (zN) M al_nd ?_
  clear M
  rintro g7 W M
  refine s_storeA 0 cs7 M rfl sz_nd rfl rfl hc7 ((M.da 0 rfl).ones (dN_one _)) rfl ?_
  clear M; rintro W M
  dsimp only [setL] at M
  refine cc is_long8 (long8_any l _ _ A0 _ _ (M.d1 1 rfl) M.olt (by omega)) ?_
  rintro e W ⟨he, hb⟩
  obtain ⟨q, hq⟩ : ∃ q, q = decide (longN l > 9000) := ⟨_, rfl⟩
  rw [← hq] at he
  subst he
  replace M := M.call hb
  clear hb
  refine ⟨_, rfl, ?_⟩
  cases q with
  | true =>
    refine cc is_kn8 (known8_any _) ?_
    rintro e W ⟨rfl, hb⟩
    replace M := M.call hb
    clear hb
    exact ⟨_, rfl, rfl, M.below⟩
  | false =>
  have hlong : ¬ longN l > 9000 := of_decide_eq_false hq.symm
  clear hq
  refine v_loadN (pcs a Aak cak Aav cav) agg_pr rfl rfl (M.run 2 rfl) ?_
  refine v_loadN (pcs b Abk cbk Abv cbv) agg_pr rfl rfl (M.run 1 rfl) ?_
  refine s_bslice [.slice Aak a.k.length cak, .slice Aav a.v.length cav, .slice Abk b.k.length cbk, .slice Abv b.v.length cbv] (fr := false) (ds := dPrs [a, b]) M slp z_pr rfl (by decide) rfl (RdL.cons (M.dw 2 rfl).hd (RdL.cons (M.dw 3 rfl).hd (RdL.cons (M.dw 4 rfl).hd (M.dw 5 rfl)))) rfl ?_
  clear M; rintro g6 W M
  have hlab : longN [a, b] = 20 + a.k.length + a.v.length + b.k.length + b.v.length := by rw [longN_cons, longN_cons]; have e : longN [] = 0 := rfl; omega
  refine cc is_long8 (long8_any [a, b] _ _ _ _ _ (M.d1 0 rfl) M.olt (by omega)) ?_
  rintro e W ⟨he, hb⟩
  obtain ⟨q, hq⟩ : ∃ q, q = decide (longN [a, b] > 9000) := ⟨_, rfl⟩
  rw [← hq] at he
  subst he
  replace M := M.call hb
  clear hb
  refine ⟨_, rfl, ?_⟩
  cases q with
  | true =>
    refine cc is_kn8 (known8_any _) ?_
    rintro e W ⟨rfl, hb⟩
    replace M := M.call hb
    clear hb
    exact ⟨_, rfl, rfl, M.below⟩
  | false =>
  clear hq
  refine p_ne rfl rfl (fun hT2 => ?_) (fun _ => ?_)
  rotate_left
  ·
    refine cc is_kn8 (known8_any _) ?_
    rintro e W ⟨rfl, hb⟩
    replace M := M.call hb
    clear hb
    exact ⟨_, rfl, rfl, M.below⟩
  refine p_fld fP0 rfl ?_
  refine v_load agg_b rfl (by first | exact (M.B 0 rfl).at_ rfl | exact (M.B 1 rfl).at_ rfl | exact (M.B 2 rfl).at_ rfl | exact (M.B 3 rfl).at_ rfl | exact (M.B 4 rfl).at_ rfl | exact M.lc 0 rfl _ _ rfl | exact M.lc 1 rfl _ _ rfl | exact M.lc 2 rfl _ _ rfl | exact M.lc 3 rfl _ _ rfl | exact M.lc 4 rfl _ _ rfl | exact M.lc 5 rfl _ _ rfl | exact M.lc 6 rfl _ _ rfl | exact M.lc 7 rfl _ _ rfl) ?_
  refine p_len slb rfl ?_
  refine p_gt rfl rfl (fun k1 => ?_) (fun k1 => ?_)
  ·
    refine cc is_kn8 (known8_any _) ?_
    rintro e W ⟨rfl, hb⟩
    replace M := M.call hb
    clear hb
    exact ⟨_, rfl, rfl, M.below⟩
  refine p_fld fP0 rfl ?_
  refine v_load agg_b rfl (by first | exact (M.B 0 rfl).at_ rfl | exact (M.B 1 rfl).at_ rfl | exact (M.B 2 rfl).at_ rfl | exact (M.B 3 rfl).at_ rfl | exact (M.B 4 rfl).at_ rfl | exact M.lc 0 rfl _ _ rfl | exact M.lc 1 rfl _ _ rfl | exact M.lc 2 rfl _ _ rfl | exact M.lc 3 rfl _ _ rfl | exact M.lc 4 rfl _ _ rfl | exact M.lc 5 rfl _ _ rfl | exact M.lc 6 rfl _ _ rfl | exact M.lc 7 rfl _ _ rfl) ?_
  refine p_len slb rfl ?_
  refine p_gt rfl rfl (fun k2 => ?_) (fun k2 => ?_)
  ·
    refine cc is_kn8 (known8_any _) ?_
    rintro e W ⟨rfl, hb⟩
    replace M := M.call hb
    clear hb
    exact ⟨_, rfl, rfl, M.below⟩
  refine p_fld fP1 rfl ?_
  refine v_load agg_b rfl (by first | exact (M.B 0 rfl).at_ rfl | exact (M.B 1 rfl).at_ rfl | exact (M.B 2 rfl).at_ rfl | exact (M.B 3 rfl).at_ rfl | exact (M.B 4 rfl).at_ rfl | exact M.lc 0 rfl _ _ rfl | exact M.lc 1 rfl _ _ rfl | exact M.lc 2 rfl _ _ rfl | exact M.lc 3 rfl _ _ rfl | exact M.lc 4 rfl _ _ rfl | exact M.lc 5 rfl _ _ rfl | exact M.lc 6 rfl _ _ rfl | exact M.lc 7 rfl _ _ rfl) ?_
  refine p_len slb rfl ?_
  refine p_gt rfl rfl (fun k3 => ?_) (fun k3 => ?_)
  ·
    refine cc is_kn8 (known8_any _) ?_
    rintro e W ⟨rfl, hb⟩
    replace M := M.call hb
    clear hb
    exact ⟨_, rfl, rfl, M.below⟩
  refine p_fld fP1 rfl ?_
  refine v_load agg_b rfl (by first | exact (M.B 0 rfl).at_ rfl | exact (M.B 1 rfl).at_ rfl | exact (M.B 2 rfl).at_ rfl | exact (M.B 3 rfl).at_ rfl | exact (M.B 4 rfl).at_ rfl | exact M.lc 0 rfl _ _ rfl | exact M.lc 1 rfl _ _ rfl | exact M.lc 2 rfl _ _ rfl | exact M.lc 3 rfl _ _ rfl | exact M.lc 4 rfl _ _ rfl | exact M.lc 5 rfl _ _ rfl | exact M.lc 6 rfl _ _ rfl | exact M.lc 7 rfl _ _ rfl) ?_
  refine p_len slb rfl ?_
  refine p_gt rfl rfl (fun k4 => ?_) (fun k4 => ?_)
  ·
    refine cc is_kn8 (known8_any _) ?_
    rintro e W ⟨rfl, hb⟩
    replace M := M.call hb
    clear hb
    exact ⟨_, rfl, rfl, M.below⟩
  obtain ⟨hlp, hF, hr⟩ := of_ok hT hT2
  have hTz : sz T.1 ≤ 200000 := by
    have h1 := tOf_sz l
    have h2 := prBulk_up l
    rw [← hT] at h1
    omega
  have hak : a.k.length ≤ 200 := by omega
  have hbk : b.k.length ≤ 200 := by omega
  have hav : a.v.length ≤ 4000 := by omega
  have hbv : b.v.length ≤ 4000 := by omega
  have hR := prs_ris hF
  obtain ⟨x1, ex1, fx1, px1, zx1⟩ := tPut_full hF hak hav
  obtain ⟨x2, ex2, fx2, px2, zx2⟩ := tPut_full fx1 hbk hbv
  refine v_loadN cs7 agg_nd rfl hc7 (M.run 0 rfl) ?_
  refine p_fld fP0 rfl ?_
  refine v_load agg_b rfl (by first | exact (M.B 0 rfl).at_ rfl | exact (M.B 1 rfl).at_ rfl | exact (M.B 2 rfl).at_ rfl | exact (M.B 3 rfl).at_ rfl | exact (M.B 4 rfl).at_ rfl | exact M.lc 0 rfl _ _ rfl | exact M.lc 1 rfl _ _ rfl | exact M.lc 2 rfl _ _ rfl | exact M.lc 3 rfl _ _ rfl | exact M.lc 4 rfl _ _ rfl | exact M.lc 5 rfl _ _ rfl | exact M.lc 6 rfl _ _ rfl | exact M.lc 7 rfl _ _ rfl) ?_
  refine p_fld fP1 rfl ?_
  refine v_load agg_b rfl (by first | exact (M.B 0 rfl).at_ rfl | exact (M.B 1 rfl).at_ rfl | exact (M.B 2 rfl).at_ rfl | exact (M.B 3 rfl).at_ rfl | exact (M.B 4 rfl).at_ rfl | exact M.lc 0 rfl _ _ rfl | exact M.lc 1 rfl _ _ rfl | exact M.lc 2 rfl _ _ rfl | exact M.lc 3 rfl _ _ rfl | exact M.lc 4 rfl _ _ rfl | exact M.lc 5 rfl _ _ rfl | exact M.lc 6 rfl _ _ rfl | exact M.lc 7 rfl _ _ rfl) ?_
  refine cc is_tPut (tPut_any T.1 (by omega) a.k a.v _ _ _ _ _ _ _ _ _ (M.da 1 rfl) (M.d1 3 rfl) (M.d1 4 rfl) M.olt) ?_
  rintro e W ⟨cs9, Am, nm, cm, he, rv, rm, hb⟩
  rw [ex1] at he rv
  dsimp only at he rv
  subst he
  have hc9 := rv.len
  rw [dN_len] at hc9
  replace M := (M.call hb).addL rv
  clear rv rm hb
  refine ⟨_, rfl, ?_⟩
  refine s_alloc (zN) M al_nd ?_
  clear M
  rintro g9 W M
  refine s_storeA 0 cs9 M rfl sz_nd rfl rfl hc9 ((M.da 0 rfl).ones (dN_one _)) rfl ?_
  clear M; rintro W M
  dsimp only [setL] at M
  refine v_loadN cs9 agg_nd rfl hc9 (M.run 0 rfl) ?_
  refine p_fld fP0 rfl ?_
  refine v_load agg_b rfl (by first | exact (M.B 0 rfl).at_ rfl | exact (M.B 1 rfl).at_ rfl | exact (M.B 2 rfl).at_ rfl | exact (M.B 3 rfl).at_ rfl | exact (M.B 4 rfl).at_ rfl | exact M.lc 0 rfl _ _ rfl | exact M.lc 1 rfl _ _ rfl | exact M.lc 2 rfl _ _ rfl | exact M.lc 3 rfl _ _ rfl | exact M.lc 4 rfl _ _ rfl | exact M.lc 5 rfl _ _ rfl | exact M.lc 6 rfl _ _ rfl | exact M.lc 7 rfl _ _ rfl) ?_
  refine p_fld fP1 rfl ?_
  refine v_load agg_b rfl (by first | exact (M.B 0 rfl).at_ rfl | exact (M.B 1 rfl).at_ rfl | exact (M.B 2 rfl).at_ rfl | exact (M.B 3 rfl).at_ rfl | exact (M.B 4 rfl).at_ rfl | exact M.lc 0 rfl _ _ rfl | exact M.lc 1 rfl _ _ rfl | exact M.lc 2 rfl _ _ rfl | exact M.lc 3 rfl _ _ rfl | exact M.lc 4 rfl _ _ rfl | exact M.lc 5 rfl _ _ rfl | exact M.lc 6 rfl _ _ rfl | exact M.lc 7 rfl _ _ rfl) ?_
  refine cc is_tPut (tPut_any x1 (by omega) b.k b.v _ _ _ _ _ _ _ _ _ (M.da 0 rfl) (M.d1 6 rfl) (M.d1 7 rfl) M.olt) ?_
  rintro e W ⟨cs8, Am, nm, cm, he, rv, rm, hb⟩
  rw [ex2] at he rv
  dsimp only at he rv
  subst he
  have hc8 := rv.len
  rw [dN_len] at hc8
  replace M := (M.call hb).addL rv
  clear rv rm hb
  refine ⟨_, rfl, ?_⟩
  refine s_storeA 0 cs8 M rfl sz_nd rfl rfl hc8 ((M.da 0 rfl).ones (dN_one _)) hc9 ?_
  clear M; rintro W M
  dsimp only [setL] at M
  refine p_ne rfl rfl (fun _ => ?_) (fun e => absurd rfl e)
  refine p_ne rfl rfl (fun _ => ?_) (fun e => absurd rfl e)
  refine p_fld fP0 rfl ?_
  refine v_load agg_b rfl (by first | exact (M.B 0 rfl).at_ rfl | exact (M.B 1 rfl).at_ rfl | exact (M.B 2 rfl).at_ rfl | exact (M.B 3 rfl).at_ rfl | exact (M.B 4 rfl).at_ rfl | exact M.lc 0 rfl _ _ rfl | exact M.lc 1 rfl _ _ rfl | exact M.lc 2 rfl _ _ rfl | exact M.lc 3 rfl _ _ rfl | exact M.lc 4 rfl _ _ rfl | exact M.lc 5 rfl _ _ rfl | exact M.lc 6 rfl _ _ rfl | exact M.lc 7 rfl _ _ rfl) ?_
  refine p_fld fP0 rfl ?_
  refine v_load agg_b rfl (by first | exact (M.B 0 rfl).at_ rfl | exact (M.B 1 rfl).at_ rfl | exact (M.B 2 rfl).at_ rfl | exact (M.B 3 rfl).at_ rfl | exact (M.B 4 rfl).at_ rfl | exact M.lc 0 rfl _ _ rfl | exact M.lc 1 rfl _ _ rfl | exact M.lc 2 rfl _ _ rfl | exact M.lc 3 rfl _ _ rfl | exact M.lc 4 rfl _ _ rfl | exact M.lc 5 rfl _ _ rfl | exact M.lc 6 rfl _ _ rfl | exact M.lc 7 rfl _ _ rfl) ?_
  obtain ⟨q, hq, hc⟩ := same_tf (c1 := cak) (c2 := cbk) (M.rdb 5 rfl).2.2 (M.rdb 7 rfl).2.2
  refine cc is_same0 hc ?_
  rintro e W' ⟨rfl, rfl⟩
  refine ⟨_, rfl, ?_⟩
  clear hc
  cases q with
  | true =>
    have hab : a.k = b.k := hq.1 rfl
    have hG := (tGet_in fx2 (k := a.k) (v := b.v) hak (by rw [px2, insP_mem (prs_ris fx1), hab]; exact .inl rfl)).symm
    refine v_loadN cs8 agg_nd rfl hc8 (M.run 0 rfl) ?_
    refine p_fld fP0 rfl ?_
    refine v_load agg_b rfl (by first | exact (M.B 0 rfl).at_ rfl | exact (M.B 1 rfl).at_ rfl | exact (M.B 2 rfl).at_ rfl | exact (M.B 3 rfl).at_ rfl | exact (M.B 4 rfl).at_ rfl | exact M.lc 0 rfl _ _ rfl | exact M.lc 1 rfl _ _ rfl | exact M.lc 2 rfl _ _ rfl | exact M.lc 3 rfl _ _ rfl | exact M.lc 4 rfl _ _ rfl | exact M.lc 5 rfl _ _ rfl | exact M.lc 6 rfl _ _ rfl | exact M.lc 7 rfl _ _ rfl) ?_
    refine cc is_tGet (tGet_any x2 (by omega) _ _ _ a.k _ _ _ (M.da 0 rfl) (M.d1 5 rfl) M.olt) ?_
    rintro e W ⟨Av, nv, c14, Am, nm, cm, he, rv, rm, hb⟩
    rw [← hG] at he rv rm
    try dsimp only at he rv rm
    subst he
    replace M := M.callF2 hb rv rm.toD
    clear rv rm hb
    refine ⟨_, rfl, ?_⟩
    refine p_eq rfl rfl (fun _ => ?_) (fun e => absurd rfl e)
    refine p_fld fP1 rfl ?_
    refine v_load agg_b rfl (by first | exact (M.B 0 rfl).at_ rfl | exact (M.B 1 rfl).at_ rfl | exact (M.B 2 rfl).at_ rfl | exact (M.B 3 rfl).at_ rfl | exact (M.B 4 rfl).at_ rfl | exact M.lc 0 rfl _ _ rfl | exact M.lc 1 rfl _ _ rfl | exact M.lc 2 rfl _ _ rfl | exact M.lc 3 rfl _ _ rfl | exact M.lc 4 rfl _ _ rfl | exact M.lc 5 rfl _ _ rfl | exact M.lc 6 rfl _ _ rfl | exact M.lc 7 rfl _ _ rfl) ?_
    obtain ⟨q, hq, hc⟩ := same_tf (c1 := c14) (c2 := cbv) (M.rdb 0 rfl).2.2 (M.rdb 10 rfl).2.2
    obtain rfl := hq.2 rfl
    refine cc is_same0 hc ?_
    rintro e W' ⟨rfl, rfl⟩
    refine ⟨_, rfl, ?_⟩
    clear hq hc
    refine cc is_kn8 (known8_any _) ?_
    rintro e W ⟨rfl, hb⟩
    replace M := M.call hb
    clear hb
    exact ⟨_, rfl, rfl, M.below⟩
  | false =>
    have hab : a.k ≠ b.k := fun e => by have := hq.2 e; cases this
    clear hq
    obtain ⟨y1, ey1, fy1, py1, zy1⟩ := tPut_full hF hbk hbv
    obtain ⟨y2, ey2, fy2, py2, zy2⟩ := tPut_full fy1 hak hav
    have hxy : y2 = x2 := prs_inj fy2 fx2 (by rw [py2, py1, px2, px1]; exact put_comm hR (fun e => hab e.symm))
    subst hxy
    refine v_loadN cs7 agg_nd rfl hc7 (M.run 1 rfl) ?_
    refine p_fld fP0 rfl ?_
    refine v_load agg_b rfl (by first | exact (M.B 0 rfl).at_ rfl | exact (M.B 1 rfl).at_ rfl | exact (M.B 2 rfl).at_ rfl | exact (M.B 3 rfl).at_ rfl | exact (M.B 4 rfl).at_ rfl | exact M.lc 0 rfl _ _ rfl | exact M.lc 1 rfl _ _ rfl | exact M.lc 2 rfl _ _ rfl | exact M.lc 3 rfl _ _ rfl | exact M.lc 4 rfl _ _ rfl | exact M.lc 5 rfl _ _ rfl | exact M.lc 6 rfl _ _ rfl | exact M.lc 7 rfl _ _ rfl) ?_
    refine p_fld fP1 rfl ?_
    refine v_load agg_b rfl (by first | exact (M.B 0 rfl).at_ rfl | exact (M.B 1 rfl).at_ rfl | exact (M.B 2 rfl).at_ rfl | exact (M.B 3 rfl).at_ rfl | exact (M.B 4 rfl).at_ rfl | exact M.lc 0 rfl _ _ rfl | exact M.lc 1 rfl _ _ rfl | exact M.lc 2 rfl _ _ rfl | exact M.lc 3 rfl _ _ rfl | exact M.lc 4 rfl _ _ rfl | exact M.lc 5 rfl _ _ rfl | exact M.lc 6 rfl _ _ rfl | exact M.lc 7 rfl _ _ rfl) ?_
    refine cc is_tPut (tPut_any T.1 (by omega) b.k b.v _ _ _ _ _ _ _ _ _ (M.da 3 rfl) (M.d1 7 rfl) (M.d1 8 rfl) M.olt) ?_
    rintro e W ⟨cs18, Am, nm, cm, he, rv, rm, hb⟩
    rw [ey1] at he rv
    dsimp only at he rv
    subst he
    have hc18 := rv.len
    rw [dN_len] at hc18
    replace M := (M.call hb).addL rv
    clear rv rm hb
    refine ⟨_, rfl, ?_⟩
    refine s_alloc (zN) M al_nd ?_
    clear M
    rintro g18 W M
    refine s_storeA 0 cs18 M rfl sz_nd rfl rfl hc18 ((M.da 0 rfl).ones (dN_one _)) rfl ?_
    clear M; rintro W M
    dsimp only [setL] at M
    refine v_loadN cs18 agg_nd rfl hc18 (M.run 0 rfl) ?_
    refine p_fld fP0 rfl ?_
    refine v_load agg_b rfl (by first | exact (M.B 0 rfl).at_ rfl | exact (M.B 1 rfl).at_ rfl | exact (M.B 2 rfl).at_ rfl | exact (M.B 3 rfl).at_ rfl | exact (M.B 4 rfl).at_ rfl | exact M.lc 0 rfl _ _ rfl | exact M.lc 1 rfl _ _ rfl | exact M.lc 2 rfl _ _ rfl | exact M.lc 3 rfl _ _ rfl | exact M.lc 4 rfl _ _ rfl | exact M.lc 5 rfl _ _ rfl | exact M.lc 6 rfl _ _ rfl | exact M.lc 7 rfl _ _ rfl) ?_
    refine p_fld fP1 rfl ?_
    refine v_load agg_b rfl (by first | exact (M.B 0 rfl).at_ rfl | exact (M.B 1 rfl).at_ rfl | exact (M.B 2 rfl).at_ rfl | exact (M.B 3 rfl).at_ rfl | exact (M.B 4 rfl).at_ rfl | exact M.lc 0 rfl _ _ rfl | exact M.lc 1 rfl _ _ rfl | exact M.lc 2 rfl _ _ rfl | exact M.lc 3 rfl _ _ rfl | exact M.lc 4 rfl _ _ rfl | exact M.lc 5 rfl _ _ rfl | exact M.lc 6 rfl _ _ rfl | exact M.lc 7 rfl _ _ rfl) ?_
    refine cc is_tPut (tPut_any y1 (by omega) a.k a.v _ _ _ _ _ _ _ _ _ (M.da 0 rfl) (M.d1 6 rfl) (M.d1 7 rfl) M.olt) ?_
    rintro e W ⟨cs19, Am, nm, cm, he, rv, rm, hb⟩
    rw [ey2] at he rv
    dsimp only at he rv
    subst he
    have hc19 := rv.len
    rw [dN_len] at hc19
    replace M := (M.call hb).addL rv
    clear rv rm hb
    refine ⟨_, rfl, ?_⟩
    refine s_storeA 0 cs19 M rfl sz_nd rfl rfl hc19 ((M.da 0 rfl).ones (dN_one _)) hc18 ?_
    clear M; rintro W M
    dsimp only [setL] at M
    refine v_loadN cs8 agg_nd rfl hc8 (M.run 1 rfl) ?_
    refine v_loadN cs19 agg_nd rfl hc19 (M.run 0 rfl) ?_
    refine cc is_r7same (rsame_any 2000000 (by decide) y2 (by omega) y2 _ _ cs8 cs19 (M.da 2 rfl) (M.da 0 rfl) M.olt (by omega)) ?_
    rintro e W ⟨q, rfl, hq, hb⟩
    obtain rfl := hq.2 rfl
    replace M := M.call hb
    clear hb hq
    refine ⟨_, rfl, ?_⟩
    refine p_not rfl ?_
    obtain ⟨v1, h1, e1, in1, out1⟩ := tGet_full hF hak
    obtain ⟨v2, h2, e2, in2, out2⟩ := tGet_full hF hbk
    refine v_loadN cs7 agg_nd rfl hc7 (M.run 2 rfl) ?_
    refine p_fld fP0 rfl ?_
    refine v_load agg_b rfl (by first | exact (M.B 0 rfl).at_ rfl | exact (M.B 1 rfl).at_ rfl | exact (M.B 2 rfl).at_ rfl | exact (M.B 3 rfl).at_ rfl | exact (M.B 4 rfl).at_ rfl | exact M.lc 0 rfl _ _ rfl | exact M.lc 1 rfl _ _ rfl | exact M.lc 2 rfl _ _ rfl | exact M.lc 3 rfl _ _ rfl | exact M.lc 4 rfl _ _ rfl | exact M.lc 5 rfl _ _ rfl | exact M.lc 6 rfl _ _ rfl | exact M.lc 7 rfl _ _ rfl) ?_
    have hG1 := e1.symm
    have hG2 := e2.symm
    refine cc is_tGet (tGet_any T.1 (by omega) _ _ _ a.k _ _ _ (M.da 5 rfl) (M.d1 7 rfl) M.olt) ?_
    rintro e W ⟨Av, nv, c21, Am, nm, cm, he, rv, rm, hb⟩
    rw [← hG1] at he rv rm
    try dsimp only at he rv rm
    subst he
    replace M := M.callF2 hb rv rm.toD
    clear rv rm hb
    refine ⟨_, rfl, ?_⟩
    refine v_loadN cs7 agg_nd rfl hc7 (M.run 2 rfl) ?_
    refine p_fld fP0 rfl ?_
    refine v_load agg_b rfl (by first | exact (M.B 0 rfl).at_ rfl | exact (M.B 1 rfl).at_ rfl | exact (M.B 2 rfl).at_ rfl | exact (M.B 3 rfl).at_ rfl | exact (M.B 4 rfl).at_ rfl | exact M.lc 0 rfl _ _ rfl | exact M.lc 1 rfl _ _ rfl | exact M.lc 2 rfl _ _ rfl | exact M.lc 3 rfl _ _ rfl | exact M.lc 4 rfl _ _ rfl | exact M.lc 5 rfl _ _ rfl | exact M.lc 6 rfl _ _ rfl | exact M.lc 7 rfl _ _ rfl) ?_
    refine cc is_tGet (tGet_any T.1 (by omega) _ _ _ b.k _ _ _ (M.da 7 rfl) (M.d1 11 rfl) M.olt) ?_
    rintro e W ⟨Av, nv, c25, Am, nm, cm, he, rv, rm, hb⟩
    rw [← hG2] at he rv rm
    try dsimp only at he rv rm
    subst he
    replace M := M.callF2 hb rv rm.toD
    clear rv rm hb
    refine ⟨_, rfl, ?_⟩
    cases h1 with
    | true =>
      refine cc is_kn8 (known8_any _) ?_
      rintro e W ⟨rfl, hb⟩
      replace M := M.call hb
      clear hb
      exact ⟨_, rfl, rfl, M.below⟩
    | false =>
    cases h2 with
    | true =>
      refine cc is_kn8 (known8_any _) ?_
      rintro e W ⟨rfl, hb⟩
      replace M := M.call hb
      clear hb
      exact ⟨_, rfl, rfl, M.below⟩
    | false =>
    have oa := (out1 rfl).2
    have ob := (out2 rfl).2
    obtain ⟨z1, d1, ez1, fz1, pz1, hz1, zz1⟩ := tDrop_full fy2 hak
    obtain ⟨z2, d2, ez2, fz2, pz2, hz2, zz2⟩ := tDrop_full fz1 hbk
    have hd1 : d1 = true := hz1.2 ⟨a, by rw [py2, insP_mem (prs_ris fy1)]; exact .inl rfl, rfl⟩
    have hd2 : d2 = true := hz2.2 ⟨b, by
      rw [pz1, List.mem_filter, py2, insP_mem (prs_ris fy1), py1, insP_mem hR]
      exact ⟨.inr ⟨.inl rfl, fun e => hab e.symm⟩, decide_eq_true fun e => hab e.symm⟩, rfl⟩
    subst hd1; subst hd2
    have hzT : z2 = T.1 := prs_inj fz2 hF (by
      rw [pz2, pz1, py2, py1, ← put_comm hR hab]
      have e1 := ins_drop hR oa
      rw [put_comm hR hab]
      have e2 := ins_drop (ins_ris b hR) (a := a) (fun p hp => by
        rcases (insP_mem hR).1 hp with rfl | h
        · exact fun e => hab e.symm
        · exact oa p h.1)
      rw [e2]
      exact ins_drop hR ob)
    subst hzT
    have hE1 := ez1.symm
    have hE2 := ez2.symm
    refine v_loadN cs8 agg_nd rfl hc8 (M.run 1 rfl) ?_
    refine p_fld fP0 rfl ?_
    refine v_load agg_b rfl (by first | exact (M.B 0 rfl).at_ rfl | exact (M.B 1 rfl).at_ rfl | exact (M.B 2 rfl).at_ rfl | exact (M.B 3 rfl).at_ rfl | exact (M.B 4 rfl).at_ rfl | exact M.lc 0 rfl _ _ rfl | exact M.lc 1 rfl _ _ rfl | exact M.lc 2 rfl _ _ rfl | exact M.lc 3 rfl _ _ rfl | exact M.lc 4 rfl _ _ rfl | exact M.lc 5 rfl _ _ rfl | exact M.lc 6 rfl _ _ rfl | exact M.lc 7 rfl _ _ rfl) ?_
    refine cc is_tDrop (tDrop_any y2 (by omega) a.k _ _ _ _ _ _ (M.da 6 rfl) (M.d1 11 rfl) M.olt) ?_
    rintro e W ⟨cs29, Am, nm, cm, he, rv, rm, hb⟩
    rw [← hE1] at he rv rm
    try dsimp only at he rv rm
    subst he
    have hc29 := rv.len
    rw [dN_len] at hc29
    replace M := M.callFD hb rv rm.toD
    clear rv rm hb
    refine ⟨_, rfl, ?_⟩
    refine s_alloc (zN) M al_nd ?_
    clear M
    rintro g29 W M
    refine s_storeA 0 cs29 M rfl sz_nd rfl rfl hc29 ((M.da 0 rfl).ones (dN_one _)) rfl ?_
    clear M; rintro W M
    dsimp only [setL] at M
    refine v_loadN cs29 agg_nd rfl hc29 (M.run 0 rfl) ?_
    refine p_fld fP0 rfl ?_
    refine v_load agg_b rfl (by first | exact (M.B 0 rfl).at_ rfl | exact (M.B 1 rfl).at_ rfl | exact (M.B 2 rfl).at_ rfl | exact (M.B 3 rfl).at_ rfl | exact (M.B 4 rfl).at_ rfl | exact M.lc 0 rfl _ _ rfl | exact M.lc 1 rfl _ _ rfl | exact M.lc 2 rfl _ _ rfl | exact M.lc 3 rfl _ _ rfl | exact M.lc 4 rfl _ _ rfl | exact M.lc 5 rfl _ _ rfl | exact M.lc 6 rfl _ _ rfl | exact M.lc 7 rfl _ _ rfl) ?_
    refine cc is_tDrop (tDrop_any z1 (by omega) b.k _ _ _ _ _ _ (M.da 0 rfl) (M.d1 15 rfl) M.olt) ?_
    rintro e W ⟨cs30, Am, nm, cm, he, rv, rm, hb⟩
    rw [← hE2] at he rv rm
    try dsimp only at he rv rm
    subst he
    have hc30 := rv.len
    rw [dN_len] at hc30
    replace M := M.callFD hb rv rm.toD
    clear rv rm hb
    refine ⟨_, rfl, ?_⟩
    refine s_storeA 0 cs30 M rfl sz_nd rfl rfl hc30 ((M.da 0 rfl).ones (dN_one _)) hc29 ?_
    clear M; rintro W M
    dsimp only [setL] at M
    refine p_eq rfl rfl (fun _ => ?_) (fun e => absurd rfl e)
    refine p_eq rfl rfl (fun _ => ?_) (fun e => absurd rfl e)
    refine v_loadN cs30 agg_nd rfl hc30 (M.run 0 rfl) ?_
    refine v_loadN cs7 agg_nd rfl hc7 (M.run 3 rfl) ?_
    refine cc is_r7same (rsame_any 2000000 (by decide) T.1 (by omega) T.1 _ _ cs30 cs7 (M.da 0 rfl) (M.da 13 rfl) M.olt (by omega)) ?_
    rintro e W ⟨q, rfl, hq, hb⟩
    obtain rfl := hq.2 rfl
    replace M := M.call hb
    clear hb hq
    refine ⟨_, rfl, ?_⟩
    refine cc is_kn8 (known8_any _) ?_
    rintro e W ⟨rfl, hb⟩
    replace M := M.call hb
    clear hb
    exact ⟨_, rfl, rfl, M.below⟩
end Go.Proofs.Ytkfbkhahkkmcoaa
namespace Go.Proofs.Ytkfbkhahkkmcoaa
open Go.RowKit

theorem u_u64x : (Try.prog.underlying 122).isSome = true := by kernel_rfl
theorem u_u64y : Try.prog.underlying 122 = some (.int .u64) := by kernel_rfl
theorem u_intx : (Try.prog.underlying 3).isSome = true := by kernel_rfl
theorem u_inty : Try.prog.underlying 3 = some (.int .i64) := by kernel_rfl
theorem tmodNx (a b : Nat) : ((a : Nat) : Int).tmod (b : Nat) = ((a % b : Nat) : Int) := by rw [Int.tmod_eq_emod_of_nonneg (by omega)]; omega
def turnP (r : List Pr) (k : Nat) : List Pr := r.drop k ++ r.take k
theorem turn_len {r : List Pr} {k : Nat} (h : k ≤ r.length) : (turnP r k).length = r.length := by unfold turnP; rw [List.length_append, List.length_drop, List.length_take]; omega
theorem turn_at {r : List Pr} {k i : Nat} (hk : k < r.length) (hi : i < r.length) : (turnP r k)[i]? = r[(i + k) % r.length]? := by
  unfold turnP
  rcases Nat.lt_or_ge (i + k) r.length with h | h
  · rw [List.getElem?_append_left (by rw [List.length_drop]; omega), List.getElem?_drop, Nat.mod_eq_of_lt h, Nat.add_comm]
  · rw [List.getElem?_append_right (by rw [List.length_drop]; omega), List.length_drop, List.getElem?_take, if_pos (by omega)]
    have : (i + k) % r.length = i + k - r.length := by rw [Nat.mod_eq_sub_mod h, Nat.mod_eq_of_lt (by omega)]
    rw [this, show i - (r.length - k) = i + k - r.length by omega]
theorem turn_mem {r : List Pr} {k : Nat} (y : Pr) : y ∈ turnP r k ↔ y ∈ r := by
  unfold turnP
  rw [List.mem_append]
  conv => rhs; rw [← List.take_append_drop k r, List.mem_append]
  exact Or.comm
theorem turn_bulk (r : List Pr) (k : Nat) : prBulk (turnP r k) = prBulk r := by
  unfold turnP
  rw [prBulk_app]
  conv => rhs; rw [← List.take_append_drop k r, prBulk_app]
  omega
theorem rev_bulk : ∀ r : List Pr, prBulk r.reverse = prBulk r
  | [] => rfl
  | p :: r => by
    rw [List.reverse_cons, prBulk_app, rev_bulk r, prBulk_cons, prBulk_cons]
    have e : prBulk [] = 0 := rfl
    omega
/-- The same pairs, in whichever order. -/
theorem of_same {l back : List Pr} {T : Nd × Int} (hT : T = tOf l) (h0 : T.2 = 0) (hm : ∀ y, y ∈ back ↔ y ∈ risingP l) : T = tOf back := by
  obtain ⟨hl, hF, hr⟩ := of_ok hT h0
  have hb : longPr back = false := longPr_sub hl fun p hp => rising_sub l p ((hm p).1 hp)
  obtain ⟨e, hF2, hr2⟩ := tOf_prs hb
  have h1 : T.1 = (tOf back).1 := prs_inj hF hF2 (by rw [hr, hr2]; exact (rising_same (rising_ris l) hm).symm)
  exact Prod.ext h1 (h0.trans e.symm)
theorem ins_same {r : List Pr} (h : Ris r) (p : Pr) : insP r p = r ↔ p ∈ r := by
  constructor
  · intro e
    rw [← e, insP_mem h]; exact .inl rfl
  · intro hp
    refine ris_ext (ins_ris p h) h fun y => ?_
    rw [insP_mem h]
    constructor
    · rintro (rfl | h1)
      · exact hp
      · exact h1.1
    · intro hy
      by_cases e : y.k = p.k
      · exact .inl (ris_key h hy hp e)
      · exact .inr ⟨hy, e⟩
set_option maxRecDepth 100000 in
set_option maxHeartbeats 4000000 in
theorem trieOf_walk (w : World) {A0 : Option Addr} {n0 c0 : Nat} {l : List Pr} (g0 : RdD w (Fd w []) (dPl l) (.slice A0 n0 c0)) (b0 : (l.map fun t => t.k.length + t.v.length + 3).sum ≤ 1048576) (turn : Int) (_ : -9223372036854775808 ≤ turn ∧ turn ≤ 9223372036854775807) :
    Calls Try.prog 11 #[.slice A0 n0 c0, .int .i64 turn] w (RetTrue w) := by
  refine calls_ev (args := [.slice A0 n0 c0, .int .i64 turn]) mixed Try.func11 rfl (by kernel_rfl) ?_
  have hu := longN_up l
  have M := (St.start (w := w) (gs := []) (fun b h => by cases h)).addD g0
  clear g0
  refine cc is_long8 (long8_any l _ _ A0 _ _ (M.d1 0 rfl) M.olt (by omega)) ?_
  rintro e W ⟨he, hb⟩
  obtain ⟨q, hq⟩ : ∃ q, q = decide (longN l > 9000) := ⟨_, rfl⟩
  rw [← hq] at he
  subst he
  replace M := M.call hb
  clear hb
  refine ⟨_, rfl, ?_⟩
  cases q with
  | true =>
    refine cc is_kn8 (known8_any _) ?_
    rintro e W ⟨rfl, hb⟩
    replace M := M.call hb
    clear hb
    exact ⟨_, rfl, rfl, M.below⟩
  | false =>
  have hlong : ¬ longN l > 9000 := of_decide_eq_false hq.symm
  clear hq
  have hbl := prBulk_up l
  have hbr := prBulk_rising l
  obtain ⟨T, hT⟩ : ∃ T, T = tOf l := ⟨_, rfl⟩
  have hTz : sz T.1 ≤ 200000 := by
    have h1 := tOf_sz l
    rw [← hT] at h1
    omega
  refine cc is_tOf (tOf_any l _ _ _ _ _ (M.d1 0 rfl) M.olt (by omega)) ?_
  rintro e W ⟨cs5, he, hres, hb⟩
  rw [← hT] at he hres
  subst he
  have hc5 := hres.len
  rw [dN_len] at hc5
  replace M := (M.call hb).addL hres
  clear hres hb
  refine ⟨_, rfl, ?_⟩
  refine s_alloc (zN) M al_nd ?_
  clear M
  rintro g5 W M
  refine s_storeA 0 cs5 M rfl sz_nd rfl rfl hc5 ((M.da 0 rfl).ones (dN_one _)) rfl ?_
  clear M; rintro W M
  dsimp only [setL] at M
  refine cc is_r8of (r8of_any 401 (Nat.le_refl _) l _ _ _ _ _ (M.d1 1 rfl) M.olt (longN_big (by omega))) ?_
  rintro e W ⟨cs7, he, hres, hb⟩
  rw [← tOf_eq (Nat.le_refl _), ← hT] at he hres
  subst he
  have hc7 := hres.len
  rw [dN_len] at hc7
  replace M := (M.call hb).addL hres
  clear hres hb
  refine ⟨_, rfl, ?_⟩
  refine s_alloc (zN) M al_nd ?_
  clear M
  rintro g7 W M
  refine s_storeA 0 cs7 M rfl sz_nd rfl rfl hc7 ((M.da 0 rfl).ones (dN_one _)) rfl ?_
  clear M; rintro W M
  dsimp only [setL] at M
  refine v_loadN cs5 agg_nd rfl hc5 (M.run 1 rfl) ?_
  refine v_loadN cs7 agg_nd rfl hc7 (M.run 0 rfl) ?_
  refine cc is_r7same (rsame_any 2000000 (by decide) T.1 (by omega) T.1 _ _ cs5 cs7 (M.da 1 rfl) (M.da 0 rfl) M.olt (by omega)) ?_
  rintro e W ⟨q, rfl, hq, hb⟩
  obtain rfl := hq.2 rfl
  replace M := M.call hb
  clear hb hq
  refine ⟨_, rfl, ?_⟩
  refine p_not rfl ?_
  refine p_ne rfl rfl (fun _ => ?_) (fun e => absurd rfl e)
  refine p_ne rfl rfl (fun hT2 => ?_) (fun hT2 => ?_)
  rotate_left
  · have hlp : longPr l = true := by
      cases hl : longPr l with
      | true => rfl
      | false => exact absurd (by rw [hT]; exact (tOf_prs hl).1) hT2
    have hTn : T.1 = noneN := by rw [hT]; unfold tOf; rw [of_long l _ hlp]
    have hk : T.1.kind = 0 := by rw [hTn]; rfl
    obtain ⟨Ap, cp, Av, cv, Ak, ck, Ah, ch, rfl, -⟩ := (M.da 1 rfl).node
    refine p_fld fN0 rfl ?_
    refine v_load agg_int rfl ((M.B 1 rfl).at_ rfl) ?_
    refine p_eq rfl rfl (fun _ => ?_) (fun e => absurd hk e)
    refine cc is_kn8 (known8_any _) ?_
    rintro e W ⟨rfl, hb⟩
    replace M := M.call hb
    clear hb
    exact ⟨_, rfl, rfl, M.below⟩
  obtain ⟨hlp, hF, hr⟩ := of_ok hT hT2
  have hP := tPairs_full hF
  have hlr := longN_rising l
  refine cc is_rising (rising_any l _ _ _ _ _ (M.d1 2 rfl) M.olt (longN_big (by omega))) ?_
  rintro e W ⟨Ar, nr, cr, he, hres, hb⟩
  obtain ⟨r, hrr⟩ : ∃ r, r = risingP l := ⟨_, rfl⟩
  rw [← hrr] at hres hr hlr hbr
  subst he
  have hnr := hres.slen
  subst hnr
  replace M := (M.call hb).addD hres
  clear hres hb
  refine ⟨_, rfl, ?_⟩
  have hrl : r.length ≤ 900 := by have := longN_len r; omega
  refine v_loadN cs5 agg_nd rfl hc5 (M.run 1 rfl) ?_
  refine cc is_tPairs (tPairs_any T.1 (by omega) _ _ cs5 (M.da 2 rfl) M.olt) ?_
  rintro e W ⟨Ap, np, cp, Am, nm, cm, he, rv, rm, hb⟩
  rw [hP] at he rv
  dsimp only at he rv
  rw [hr] at rv
  subst he
  replace M := M.callF1 hb rv
  clear rv rm hb
  refine ⟨_, rfl, ?_⟩
  obtain ⟨u, hu2⟩ : ∃ u : Nat, IntKind.u64.wrap turn = (u : Int) := ⟨(IntKind.u64.wrap turn).toNat, by rw [IntKind.wrap_u64]; omega⟩
  obtain ⟨K, hK⟩ : ∃ K, K = u % r.length := ⟨_, rfl⟩
  have hKr : K < r.length ∨ r.length = 0 := by
    rcases Nat.eq_zero_or_pos r.length with h | h
    · exact .inr h
    · left; rw [hK]; exact Nat.mod_lt _ h
  obtain ⟨back, hback⟩ : ∃ back, back = turnP r K := ⟨_, rfl⟩
  have hbl2 : back.length = r.length := by
    rw [hback]
    unfold turnP
    rw [List.length_append, List.length_drop, List.length_take]
    rcases hKr with h | h
    · omega
    · rw [h]; omega
  have hTb : T = tOf back := of_same hT hT2 (fun y => by rw [hback, turn_mem, hrr])
  have hbb : prBulk back ≤ 500000 := by rw [hback, turn_bulk]; omega
  replace M := (M.nilR 43 2).addT (fr := false) (ds := dPrs []) (cs := []) RdL.nil_
  refine lp (Nat × Option Addr × Nat × List Value) (fun s W => s.1 ≤ r.length ∧ St w [] W [(g7, 25, cs7), (g5, 25, cs5)] [⟨43, 2, s.2.1, s.1, s.2.2.1, s.2.2.2⟩] [.dat false (dPrs (back.take s.1)) s.2.2.2, .dat true [dPl r] [.slice Ap np cp], .dat false [dPl r] [.slice Ar r.length cr], .dat false (dN T.1) cs5])
    (fun s => [(1, .int .i64 turn), (5, .pointer (some ⟨g5, 0, none⟩)), (9, .slice Ar r.length cr), (10, .slice Ap np cp), (12, .int .i64 0), (13, .slice s.2.1 s.1 s.2.2.1), (14, .int .i64 s.1)]) (fun s => r.length - s.1) (0, none, 0, []) ⟨Nat.zero_le _, M.fsub _ (by simp)⟩ (by repeat (first | exact trivial | refine ⟨rfl, ?_⟩)) ?_
  clear M
  rintro ⟨i, A3, c3, xs⟩ E5 W5 ⟨hi, M⟩
  dsimp only at hi M
  refine p_len slp rfl ?_
  refine p_lt rfl rfl (fun hlt => ?_) (fun hge => ?_)
  · dsimp only at hlt
    have hlt' : i < r.length := by omega
    have hK' : K < r.length := by omega
    have hm : (i + K) % r.length < r.length := Nat.mod_lt _ (by omega)
    obtain ⟨p, hp⟩ : ∃ p, r[(i + K) % r.length]? = some p := ⟨_, List.getElem?_eq_getElem hm⟩
    have hpb : back[i]? = some p := by rw [hback, turn_at hK' hlt']; exact hp
    have hpb1 := List.getElem?_eq_some_iff.1 hpb
    have htk : back.take (i + 1) = back.take i ++ [p] := by rw [List.take_succ_eq_append_getElem hpb1.1, hpb1.2]
    refine v_cvt u_intx u_u64y rfl hu2 ?_
    refine p_len slp rfl ?_
    refine v_cvt u_intx u_u64y rfl (wu64 (by omega)) ?_
    refine p_rem rfl rfl (by omega) (r := (K : Int)) (by rw [tmodNx, hK]) ?_
    refine v_cvt u_u64x u_inty rfl (r := (K : Int)) (w64 (by omega)) ?_
    refine p_addN rfl rfl (by omega) ?_
    refine p_len slp rfl ?_
    refine p_remN rfl rfl (by omega) ?_
    obtain ⟨b1, o1, Ak, ck, Av, cv, rfl, M'⟩ := M.pair (M.d1 2 rfl) hp
    replace M := M'; clear M'
    refine p_at slp rfl rfl rfl hm ?_
    refine v_loadN (pcs p Ak ck Av cv) agg_pr rfl rfl (M.lc 0 rfl) ?_
    refine s_bsliceB (pcs p Ak ck Av cv) M slp z_pr rfl (by decide) rfl ?_
    clear M; rintro g9 W M
    refine s_app M Try.underlying28 prinfo rfl (by decide) rfl rfl (Reads.blk (M.B 0 rfl) rfl) (all1 rfl) ⟨by omega, by decide⟩ ?_
    clear M; rintro A5 c5 W M -
    have hX := (M.dw 3 rfl).app (show RdL W _ [dB p.k, dB p.v] (pcs p Ak ck Av cv) from RdL.cons (M.dw 1 rfl).hd (M.dw 2 rfl))
    have e5 : dPrs (back.take i) ++ [dB p.k, dB p.v] = dPrs (back.take (i + 1)) := by rw [htk, dPrs_snoc]; rfl
    rw [e5] at hX
    replace M := M.addT hX
    refine p_addN (b := 1) rfl rfl (by dsimp only; omega) ?_
    exact ⟨(i + 1, A5, c5, _), ⟨by dsimp only; omega, M.dropL.fsub _ (by simp)⟩, (by repeat (first | exact trivial | refine ⟨rfl, ?_⟩)), by dsimp only; omega⟩
  · dsimp only at hge
    have hin : i = back.length := by omega
    subst hin
    rw [List.take_of_length_le (Nat.le_refl _)] at M
    replace M := M.frzR (fr := false) (M.dt 0 rfl)
    refine cc is_tOf (tOf_any back _ _ _ _ _ (M.d1 0 rfl) M.olt hbb) ?_
    rintro e W ⟨cs15, he, hres, hb⟩
    rw [← hTb] at he hres
    subst he
    have hc15 := hres.len
    rw [dN_len] at hc15
    replace M := (M.call hb).addL hres
    clear hres hb
    refine ⟨_, rfl, ?_⟩
    refine s_alloc (zN) M al_nd ?_
    clear M
    rintro g15 W M
    refine s_storeA 0 cs15 M rfl sz_nd rfl rfl hc15 ((M.da 0 rfl).ones (dN_one _)) rfl ?_
    clear M; rintro W M
    dsimp only [setL] at M
    refine v_loadN cs5 agg_nd rfl hc5 (M.run 2 rfl) ?_
    refine cc is_r7check (r7check_any T.1 (by omega) _ _ cs5 (M.da 5 rfl) M.olt) ?_
    rintro e W ⟨he, hb⟩
    rw [full_check hF] at he
    subst he
    replace M := M.call hb
    clear hb
    refine ⟨_, rfl, ?_⟩
    refine p_eq rfl rfl (fun _ => ?_) (fun e => absurd rfl e)
    refine p_eq rfl rfl (fun _ => ?_) (fun e => absurd rfl e)
    refine cc is_r8sp (r8sp_any r r _ _ _ _ _ _ _ _ (M.d1 3 rfl) (M.d1 4 rfl) M.olt (by omega)) ?_
    rintro e W ⟨q, rfl, hq, hb⟩
    obtain rfl := hq.2 rfl
    replace M := M.call hb
    clear hb hq
    refine ⟨_, rfl, ?_⟩
    refine p_eq rfl rfl (fun _ => ?_) (fun e => absurd hT2 e)
    refine v_loadN cs15 agg_nd rfl hc15 (M.run 0 rfl) ?_
    refine v_loadN cs5 agg_nd rfl hc5 (M.run 2 rfl) ?_
    refine cc is_r7same (rsame_any 2000000 (by decide) T.1 (by omega) T.1 _ _ cs15 cs5 (M.da 0 rfl) (M.da 5 rfl) M.olt (by omega)) ?_
    rintro e W ⟨q, rfl, hq, hb⟩
    obtain rfl := hq.2 rfl
    replace M := M.call hb
    clear hb hq
    refine ⟨_, rfl, ?_⟩
    refine cc is_kn8 (known8_any _) ?_
    rintro e W ⟨rfl, hb⟩
    replace M := M.call hb
    clear hb
    exact ⟨_, rfl, rfl, M.below⟩
end Go.Proofs.Ytkfbkhahkkmcoaa
