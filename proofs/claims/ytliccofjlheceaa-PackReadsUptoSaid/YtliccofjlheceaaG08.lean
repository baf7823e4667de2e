/- Pairs as data; slices of whatever by a function of the elements. Reference 07's walks: right, Check, Same, Much. Reference 07's walks: Same, Much. Operations on arrays. No program in sight. Words turned to the right: the walks of bits.RotateLeft32 and of digest's turn. SHA-256, plainly. SHA-256, plainly: rounds. Words of 32 bits: single operations. Reference 05: the walks of right, word, round, constants, Sum: they come to SHA-256 as it stands in ShaH. Reference 05: the walks of constants and Sum: SHA-256. Numbers and bytes in one way: the plain functions and their laws. Numbers and bytes in one way: the walks of package vint. -/
import Derived.Test.YtliccofjlheceaaG07
import Derived.Test.YtliccofjlheceaaG03
import Derived.Laws.BitsAllLaws
import Derived.Test.YtliccofjlheceaaG04
import Derived.WalkSmall
namespace Go.Proofs.Ytliccofjlheceaa
open Go.RowKit
structure Pr where
  k : List UInt8
  v : List UInt8
deriving DecidableEq
def dPr (p : Pr) : List D := [dB p.k, dB p.v]
def dPrs (l : List Pr) : List D := l.flatMap dPr
theorem flat_at {α : Type} {f : α → List D} {s : Nat} (hf : ∀ x, (f x).length = s) : ∀ {l : List α} {i : Nat} {x : α}, l[i]? = some x → ((l.flatMap f).drop (i * s)).take s = f x
  | y :: l, 0, x, h => by
    simp at h; subst h
    rw [Nat.zero_mul, List.drop_zero, List.flatMap_cons, List.take_append_of_le_length (by rw [hf]; omega), List.take_of_length_le (by rw [hf]; omega)]
  | y :: l, i + 1, x, h => by
    rw [List.flatMap_cons, show (i + 1) * s = (f y).length + i * s by rw [hf, Nat.add_mul]; omega, ← List.drop_drop, List.drop_left]
    exact flat_at hf (by simpa using h)
/-- An element. -/
theorem RdD.elt {W : World} {F : Nat → Prop} {α : Type} (f : α → List D) (s : Nat) (hf : ∀ x, (f x).length = s) {l : List α} {A : Option Addr} {n c i : Nat} {x : α} (h : RdD W F (.sl s l.length (l.flatMap f)) (.slice A n c)) (hi : l[i]? = some x) :
    ∃ b off es, A = some ⟨b, off, none⟩ ∧ F b ∧ RdL W F (f x) es ∧ es.length = s ∧ ∀ j y, es[j]? = some y → W.cell? (((⟨b, off, none⟩ : Addr).add (i * s)).add j) = some y := by
  have hn := h.slen
  have hil := (List.getElem?_eq_some_iff.1 hi).1
  obtain ⟨b, off, es, e1, hF, hes, hel, hc⟩ := h.at_ (i := i) (by omega)
  rw [flat_at hf hi] at hes
  exact ⟨b, off, es, e1, hF, hes, hel, fun j y hy => by rw [Addr.add_lit, Addr.add_lit]; exact hc j y hy⟩
theorem dPr_len (p : Pr) : (dPr p).length = 2 := rfl
abbrev dPl (l : List Pr) : D := .sl 2 l.length (dPrs l)
def pcs (p : Pr) (Ak : Option Addr) (ck : Nat) (Av : Option Addr) (cv : Nat) : List Value := [.slice Ak p.k.length ck, .slice Av p.v.length cv]
theorem RdL.pair {W : World} {F : Nat → Prop} {p : Pr} {cs : List Value} (h : RdL W F (dPr p) cs) : ∃ Ak ck Av cv, cs = pcs p Ak ck Av cv ∧ RdD W F (dB p.k) (.slice Ak p.k.length ck) ∧ RdD W F (dB p.v) (.slice Av p.v.length cv) := by
  obtain ⟨u0, _, rfl, h0, h⟩ := (show RdL W F [dB p.k, dB p.v] cs from h).uncons
  obtain ⟨u1, _, rfl, h1, h⟩ := h.uncons
  rw [h.isnil]
  obtain ⟨A0, c0, e0, _⟩ := h0.open_
  obtain ⟨A1, c1, e1, _⟩ := h1.open_
  subst e0; subst e1
  exact ⟨A0, c0, A1, c1, rfl, h0, h1⟩
/-- A pair of a slice that stays. -/
theorem St.pair {w W : World} {gs : List (Option Nat)} {L : Lc} {R : List Row} {fs : List Fact} (M : St w gs W L R fs) {l : List Pr} {A : Option Addr} {n c i : Nat} {p : Pr} (h : RdD W (Fd W (own L R gs)) (dPl l) (.slice A n c)) (hi : l[i]? = some p) :
    ∃ b off Ak ck Av cv, A = some ⟨b, off, none⟩ ∧ St w gs W L R (.loc ((⟨b, off, none⟩ : Addr).add (i * 2)) (pcs p Ak ck Av cv) :: .dat false [dB p.k] [.slice Ak p.k.length ck] :: .dat false [dB p.v] [.slice Av p.v.length cv] :: fs) := by
  obtain ⟨b, off, es, e, hF, hes, hel, hc⟩ := RdD.elt dPr 2 dPr_len h hi
  obtain ⟨Ak, ck, Av, cv, rfl, h1, h2⟩ := hes.pair
  exact ⟨b, off, Ak, ck, Av, cv, e, ((M.addD h2).addD h1).addC (by rw [block_of_add]; exact hF) hc⟩
end Go.Proofs.Ytliccofjlheceaa
namespace Go.Proofs.Ytliccofjlheceaa
open Go.RowKit
def endR (t : Nd) (d : Nat) : Nat := if t.kind = 1 ∨ t.kind = 2 then d + t.path.length else d
def endK (t : Nd) (d : Nat) : Nat := if t.kind = 3 then endR t d + 1 else endR t d
theorem rightP_R (even : Bool) (t : Nd) (d : Nat) : rightP even t d = (ownR t && (decide (d ≤ 400) && ((!(decide (t.kind = 1) || t.has) || endsP (endR t d) even) && rightsP even t.kids (endK t d)))) := by
  rw [rightP_eq]
  unfold ownP ownR endK endR
  rw [Bool.eq_iff_iff]
  have hfalse : (t.has = true → t.kind = 3) → t.kind ≠ 3 → t.has = false := fun h h3 => by
    cases hh : t.has with
    | false => rfl
    | true => exact absurd (h hh) h3
  have nf : t.has = false → t.has = true → t.kind = 3 := fun h e => by rw [h] at e; cases e
  by_cases h0 : t.kind = 0
  · simp only [h0, Int.reduceEq, if_true, if_false, Bool.and_eq_true, decide_eq_true_eq, or_self, decide_false, Bool.false_or] at nf hfalse ⊢
    constructor
    · rintro ⟨a, b, c, e1, e2, e3, e4, e5⟩
      refine ⟨⟨c, ⟨b, nf e5⟩, by omega⟩, a, by rw [e5]; rfl, by rw [nil_of_len e3]; rfl⟩
    · rintro ⟨⟨a, ⟨b, c⟩, e⟩, f, g, h⟩
      exact ⟨f, b, a, by omega, by omega, by omega, by omega, hfalse c (by decide)⟩
  by_cases h1 : t.kind = 1
  · simp only [h1, Int.reduceEq, if_true, if_false, Bool.and_eq_true, decide_eq_true_eq, true_or, decide_true, Bool.true_or, Bool.not_true, Bool.false_or] at nf hfalse ⊢
    constructor
    · rintro ⟨a, b, c, ⟨e1, e2, e3⟩, e⟩
      exact ⟨⟨c, ⟨b, nf e3⟩, by omega⟩, a, e, by rw [nil_of_len e1]; rfl⟩
    · rintro ⟨⟨a, ⟨b, c⟩, e⟩, f, g, h⟩
      exact ⟨f, b, a, ⟨by omega, by omega, hfalse c (by decide)⟩, g⟩
  by_cases h2 : t.kind = 2
  · simp only [h2, Int.reduceEq, if_true, if_false, Bool.and_eq_true, decide_eq_true_eq, or_true, decide_false, Bool.false_or, Bool.or_eq_true, Bool.not_eq_true'] at nf hfalse ⊢
    constructor
    · rintro ⟨a, b, c, ⟨e1, e2, e0, e3, e4⟩, e5, e6⟩
      refine ⟨⟨c, ⟨b, nf e0⟩, by omega, e4, by omega, ?_⟩, a, .inl e0, e6⟩
      unfold kindsB at e5
      match hk : t.kids, e4 with
      | [k0], _ =>
        rw [hk, List.all_cons, Bool.and_eq_true, decide_eq_true_eq] at e5
        exact e5.1
    · rintro ⟨⟨a, ⟨b, c⟩, e1, e2, e3, e4⟩, f, g, h⟩
      refine ⟨f, b, a, ⟨by omega, by omega, hfalse c (by decide), by omega, e2⟩, ?_, h⟩
      unfold kindsB
      match hk : t.kids, e2 with
      | [k0], _ =>
        rw [hk] at e4
        rw [List.all_cons, Bool.and_eq_true, decide_eq_true_eq]
        exact ⟨e4, rfl⟩
  by_cases h3 : t.kind = 3
  · simp only [h3, Int.reduceEq, if_true, if_false, Bool.and_eq_true, decide_eq_true_eq, or_self, decide_false, Bool.false_or, Bool.or_eq_true, Bool.not_eq_true'] at nf hfalse ⊢
    constructor
    · rintro ⟨a, b, c, ⟨e1, e2, e3⟩, e4, e5, e6, e7⟩
      exact ⟨⟨c, ⟨b, fun _ => trivial⟩, e5, by omega, by omega, e3⟩, a, e4, e6⟩
    · rintro ⟨⟨a, ⟨b, c⟩, e1, e2, e3, e4⟩, f, g, h⟩
      exact ⟨f, b, a, ⟨by omega, by omega, e4⟩, g, e1, h, by omega⟩
  by_cases h4 : t.kind = 4
  · simp only [h4, Int.reduceEq, if_true, if_false, Bool.and_eq_true, decide_eq_true_eq, or_self, decide_false, Bool.false_or, Bool.or_eq_true, Bool.not_eq_true'] at nf hfalse ⊢
    constructor
    · rintro ⟨a, b, c, e1, e2, e3, e0, e5⟩
      exact ⟨⟨c, ⟨b, nf e0⟩, e5, by omega⟩, a, .inl e0, by rw [nil_of_len e3]; rfl⟩
    · rintro ⟨⟨a, ⟨b, c⟩, e1, e2⟩, f, g, h⟩
      exact ⟨f, b, a, by omega, by omega, by omega, hfalse c (by decide), e1⟩
  · rw [if_neg h0, if_neg h1, if_neg h4, if_neg h2, if_neg h3, if_neg h0, if_neg h1, if_neg h2, if_neg h3, if_neg h4]
    simp
theorem ends_no1 {e : Nat} {even : Bool} (h : 400 < e) : endsP e even = false := by unfold endsP; rw [decide_eq_false (by omega)]; rfl
theorem ends_no2 {e : Nat} (h : e % 2 = 1) : endsP e true = false := by unfold endsP; rw [decide_eq_false (show ¬ e % 2 = 0 by omega)]; simp
theorem ends_yes {e : Nat} {even : Bool} (h : e ≤ 400) (h2 : even = false ∨ e % 2 = 0) : endsP e even = true := by
  unfold endsP
  rw [decide_eq_true h]
  rcases h2 with h2 | h2
  · rw [h2]; rfl
  · rw [decide_eq_true h2]; simp
def RRightOk (t : Nd) : Prop := ∀ (gs : List (Option Nat)) (w : World) (cs : List Value) (d : Nat) (even : Bool), RdL w (Fd w gs) (dN t) cs → (∀ b, some b ∈ gs → b < w.heap.size) → d + sz t ≤ 3000000000000 →
  Calls Try.prog 53 #[.agg cs.toArray, .int .i64 d, .bool even] w fun e w' => e = .returned (.bool (rightP even t d)) ∧ Below w.heap.size w w'
theorem rightsP_take {even : Bool} {d : Nat} {ks : List Nd} {i : Nat} {k : Nd} (hi : ks[i]? = some k) (h : rightsP even (ks.take i) d = true) (hk : rightP even k d = true) : rightsP even (ks.take (i + 1)) d = true := by
  have h1 := List.getElem?_eq_some_iff.1 hi
  rw [List.take_succ_eq_append_getElem h1.1, h1.2, rightsP_snoc, h, hk]; rfl
set_option maxRecDepth 100000 in
set_option maxHeartbeats 1000000 in
theorem rright_step (N : Nat) (ih : ∀ k : Nd, sz k < N → RRightOk k) (t : Nd) (ht : sz t ≤ N) (hN : N ≤ 1000000000000) : RRightOk t := by
  intro gs w cs d even hr hgs hd
  refine calls_ev (args := [.agg cs.toArray, .int .i64 d, .bool even]) mixed Try.func53 rfl (by kernel_rfl) ?_
  obtain ⟨Ap, cp, Av, cv, Ak, ck, Ah, ch, rfl, r1, r3, r4, r5⟩ := hr.node
  have hsz := sz_eq t
  have hsl := szs_len t.kids
  have M := ((St.start hgs).addD r4).addL hr
  have hR := rightP_R even t d
  clear r1 r3 r4 r5 hr
  have hK : endK t d ≤ d + t.path.length + 1 := by unfold endK endR; split <;> split <;> omega
  refine ev_assoc (ev_assoc (ev_assoc (ev_assoc (ev_assoc ?_))))
  refine cutS Nat (fun g3 W => St w gs W [(g3, 38, ncs t Ap cp Av cv Ak ck Ah ch)] [] [.dat false [dKs t.kids] [.slice Ak t.kids.length ck]] ∧ rightP even t d = rightsP even t.kids (endK t d)) (fun g3 => [(2, .bool even), (3, .pointer (some ⟨g3, 0, none⟩)), (7, .int .i64 (endK t d))]) ?_ ?_
  ·
    refine s_box (ncs t Ap cp Av cv Ak ck Ah ch) M rfl ?_
    clear M
    rintro g3 W M
    refine v_loadN (ncs t Ap cp Av cv Ak ck Ah ch) agg_nd rfl rfl (by first | exact M.run 0 rfl | exact M.run 1 rfl | exact M.run 2 rfl | exact M.run 3 rfl | exact M.run 4 rfl | exact M.lc 0 rfl | exact M.lc 1 rfl | exact M.lc 2 rfl | exact M.lc 3 rfl | exact M.lc 4 rfl | exact M.lc 5 rfl | exact M.lc 6 rfl | exact M.lc 7 rfl) ?_
    refine cc is_r7own (r7own_any t (by omega) _ _ _ (by first | with_reducible exact M.da_0 | with_reducible exact M.da_1 | with_reducible exact M.da_2 | with_reducible exact M.da_3 | with_reducible exact M.da_4 | with_reducible exact M.da_5 | with_reducible exact M.da_6 | with_reducible exact M.da_7 | with_reducible exact M.da_8 | with_reducible exact M.da_9 | with_reducible exact M.da_10 | with_reducible exact M.da_11) M.olt) ?_
    rintro e W ⟨rfl, hb⟩
    refine ⟨_, rfl, ?_⟩
    replace M := M.call hb
    have hB := M.B 0 rfl
    unfold ncs at hB
    have hbel := M.below
    refine p_not rfl ?_
    cases ho : ownR t with
    | false => rw [ho] at hR; exact ⟨by rw [hR]; rfl, hbel⟩
    | true =>
    rw [ho, Bool.true_and] at hR
    refine p_gt rfl rfl (fun h4 => ?_) (fun h4 => ?_)
    · rw [decide_eq_false (by omega), Bool.false_and] at hR
      exact ⟨by rw [hR]; rfl, hbel⟩
    rw [decide_eq_true (by omega), Bool.true_and] at hR
    have M' := M.fsub [.dat false [dKs t.kids] [.slice Ak t.kids.length ck]] (by simp)
    have key : (t.kind = 1 ∧ endR t d = d + t.path.length ∧ endK t d = d + t.path.length) ∨ (t.kind = 2 ∧ endR t d = d + t.path.length ∧ endK t d = d + t.path.length) ∨ (t.kind = 3 ∧ endR t d = d ∧ endK t d = d + 1) ∨ (t.kind ≠ 1 ∧ t.kind ≠ 2 ∧ t.kind ≠ 3 ∧ endR t d = d ∧ endK t d = d) := by
      unfold endK endR
      by_cases h1 : t.kind = 1
      · left; simp [h1]
      by_cases h2 : t.kind = 2
      · right; left; simp [h2]
      by_cases h3 : t.kind = 3
      · right; right; left; simp [h3]
      · right; right; right; simp [h1, h2, h3]
    clear M
    rcases key with ⟨k1, k2, k3⟩ | ⟨k1, k2, k3⟩ | ⟨k1, k2, k3⟩ | ⟨k0, k1, k4, k2, k3⟩ <;> cases hh : t.has <;> cases even <;> rw [hh] at hB hR <;> rw [k2, k3] at hR <;> rw [k3]
    all_goals first
      | (rw [decide_eq_true k1] at hR; simp only [Bool.true_or, Bool.not_true, Bool.false_or] at hR)
      | (rw [decide_eq_false (by omega)] at hR; simp only [Bool.or_true, Bool.or_false, Bool.or_self, Bool.not_false, Bool.not_true, Bool.false_or, Bool.true_or, Bool.true_and] at hR)
    all_goals
      repeat' first
        | (refine p_fld fN0 rfl ?_)
        | (refine p_fld fN1 rfl ?_)
        | (refine p_fld fN2 rfl ?_)
        | (refine v_load agg_int rfl (hB.at_ rfl) ?_)
        | (refine v_load agg_b rfl (hB.at_ rfl) ?_)
        | (refine v_load agg_bo rfl (hB.at_ rfl) ?_)
        | (refine p_len slb rfl ?_)
        | (refine p_eq rfl rfl (fun _ => ?_) (fun _ => ?_) <;> try (exfalso; omega))
        | (refine p_gt rfl rfl (fun _ => ?_) (fun _ => ?_) <;> try (exfalso; omega))
        | (refine p_remN (b := 2) rfl rfl (by decide) ?_)
        | (refine p_addN (b := 1) rfl rfl (by omega) ?_)
        | (refine p_addN rfl rfl (by omega) ?_)
      all_goals first
        | exact ⟨g3, ⟨M', hR⟩, (by repeat (first | exact trivial | refine ⟨rfl, ?_⟩))⟩
        | exact ⟨g3, ⟨M', by rw [hR, ends_yes (by omega) (by first | exact .inl rfl | (right; omega)), Bool.true_and]⟩, (by repeat (first | exact trivial | refine ⟨rfl, ?_⟩))⟩
        | exact ⟨by rw [hR, ends_no1 (by omega)]; rfl, hbel⟩
        | exact ⟨by rw [hR, ends_no2 (by omega)]; rfl, hbel⟩
  · clear M
    rintro g3 B W ⟨M, hR⟩
    rw [hR]
    refine lp Nat (fun i W => i ≤ t.kids.length ∧ St w gs W [(g3, 38, ncs t Ap cp Av cv Ak ck Ah ch)] [] [.dat false [dKs t.kids] [.slice Ak t.kids.length ck]] ∧ rightsP even (t.kids.take i) (endK t d) = true) (fun i => [(2, .bool even), (3, .pointer (some ⟨g3, 0, none⟩)), (7, .int .i64 (endK t d)), (8, .int .i64 i)]) (fun i => t.kids.length - i) 0 ⟨Nat.zero_le _, M, rfl⟩ (by repeat (first | exact trivial | refine ⟨rfl, ?_⟩)) ?_
    clear M
    rintro i E5 W5 ⟨hi, M, hrs⟩
    have hB := M.B 0 rfl
    unfold ncs at hB
    repeat' first
      | (refine p_fld fN0 rfl ?_)
      | (refine p_fld fN1 rfl ?_)
      | (refine p_fld fN2 rfl ?_)
      | (refine p_fld fN3 rfl ?_)
      | (refine p_fld fN4 rfl ?_)
      | (refine p_fld fN5 rfl ?_)
      | (refine v_load agg_int rfl (hB.at_ rfl) ?_)
      | (refine v_load agg_b rfl (hB.at_ rfl) ?_)
      | (refine v_load agg_bo rfl (hB.at_ rfl) ?_)
      | (refine v_load agg_ns rfl (hB.at_ rfl) ?_)
      | (refine p_len slb rfl ?_)
      | (refine p_len sln rfl ?_)
    refine p_lt rfl rfl (fun hlt => ?_) (fun hge => ?_)
    · obtain ⟨k, hki⟩ : ∃ k, t.kids[i]? = some k := ⟨_, List.getElem?_eq_getElem (by omega)⟩
      have hkz := szs_mem (List.mem_of_getElem? hki)
      obtain ⟨b, off, es, e0, hel, M'⟩ := M.kid (by first | with_reducible exact M.d1_0 | with_reducible exact M.d1_1 | with_reducible exact M.d1_2 | with_reducible exact M.d1_3 | with_reducible exact M.d1_4 | with_reducible exact M.d1_5 | with_reducible exact M.d1_6 | with_reducible exact M.d1_7 | with_reducible exact M.d1_8 | with_reducible exact M.d1_9 | with_reducible exact M.d1_10 | with_reducible exact M.d1_11) hki
      replace M := M'; clear M'
      repeat' first
        | (refine p_fld fN0 rfl ?_)
        | (refine p_fld fN1 rfl ?_)
        | (refine p_fld fN2 rfl ?_)
        | (refine p_fld fN3 rfl ?_)
        | (refine p_fld fN4 rfl ?_)
        | (refine p_fld fN5 rfl ?_)
        | (refine v_load agg_int rfl (hB.at_ rfl) ?_)
        | (refine v_load agg_b rfl (hB.at_ rfl) ?_)
        | (refine v_load agg_bo rfl (hB.at_ rfl) ?_)
        | (refine v_load agg_ns rfl (hB.at_ rfl) ?_)
        | (refine p_len slb rfl ?_)
        | (refine p_len sln rfl ?_)
      refine p_at sln (by show (Value.slice Ak t.kids.length ck) = _; rw [e0]) rfl rfl (by omega) ?_
      refine v_loadN es agg_nd rfl hel (M.lc 0 rfl) ?_
      refine cc is_r7right (ih k (by omega) _ _ es _ _ (by first | with_reducible exact M.da_0 | with_reducible exact M.da_1 | with_reducible exact M.da_2 | with_reducible exact M.da_3 | with_reducible exact M.da_4 | with_reducible exact M.da_5 | with_reducible exact M.da_6 | with_reducible exact M.da_7 | with_reducible exact M.da_8 | with_reducible exact M.da_9 | with_reducible exact M.da_10 | with_reducible exact M.da_11) M.olt (by omega)) ?_
      rintro e W ⟨rfl, hb⟩
      refine ⟨_, rfl, ?_⟩
      replace M := M.call hb
      refine p_not rfl ?_
      cases hk : rightP even k (endK t d) with
      | false => exact ⟨by rw [rightsP_bad (List.mem_of_getElem? hki) hk]; rfl, M.below⟩
      | true =>
        refine p_addN (b := 1) rfl rfl (by omega) ?_
        exact ⟨i + 1, ⟨by omega, M.fsub _ (by simp), rightsP_take hki hrs hk⟩, (by repeat (first | exact trivial | refine ⟨rfl, ?_⟩)), by omega⟩
    · have hin : i = t.kids.length := by omega
      rw [List.take_of_length_le (by omega)] at hrs
      exact ⟨by rw [hrs]; rfl, M.below⟩
theorem rright_any : ∀ (N : Nat), N ≤ 1000000000000 → ∀ t : Nd, sz t < N → RRightOk t
  | 0, _, t, h => by omega
  | N + 1, hN, t, h => rright_step N (fun k hk => rright_any N (by omega) k hk) t (by omega) (by omega)
set_option maxRecDepth 100000 in
theorem r7check_any (t : Nd) (ht : sz t < 1000000000000) (gs : List (Option Nat)) (w : World) (cs : List Value) (hr : RdL w (Fd w gs) (dN t) cs) (hgs : ∀ b, some b ∈ gs → b < w.heap.size) :
    Calls Try.prog 46 #[.agg cs.toArray] w fun e w' => e = .returned (.int .i64 (checkE t)) ∧ Below w.heap.size w w' := by
  refine calls_ev (args := [.agg cs.toArray]) mixed Try.func46 rfl (by kernel_rfl) ?_
  have hl := hr.len
  rw [dN_len] at hl
  have M := (St.start hgs).addL hr
  refine s_box (cs) M rfl ?_
  clear M
  rintro g1 W M
  refine v_loadN cs agg_nd rfl hl (M.run 0 rfl) ?_
  refine cc is_r7right (rright_any 1000000000000 (by decide) t ht _ _ cs 0 true (by first | with_reducible exact M.da_0 | with_reducible exact M.da_1 | with_reducible exact M.da_2 | with_reducible exact M.da_3 | with_reducible exact M.da_4 | with_reducible exact M.da_5 | with_reducible exact M.da_6 | with_reducible exact M.da_7 | with_reducible exact M.da_8 | with_reducible exact M.da_9 | with_reducible exact M.da_10 | with_reducible exact M.da_11) M.olt (by omega)) ?_
  rintro e W ⟨rfl, hb⟩
  refine ⟨_, rfl, ?_⟩
  replace M := M.call hb
  refine p_not rfl ?_
  unfold checkE
  cases h : rightP true t 0 with
  | false => exact ⟨rfl, M.below⟩
  | true => exact ⟨rfl, M.below⟩
end Go.Proofs.Ytliccofjlheceaa
namespace Go.Proofs.Ytliccofjlheceaa
open Go.RowKit
def RSameOk (a : Nd) : Prop := ∀ (b : Nd) (gs : List (Option Nat)) (w : World) (ca cb : List Value), RdL w (Fd w gs) (dN a) ca → RdL w (Fd w gs) (dN b) cb → (∀ b, some b ∈ gs → b < w.heap.size) → sz b ≤ 1000000000 →
  Calls Try.prog 25 #[.agg ca.toArray, .agg cb.toArray] w fun e w' => ∃ q : Bool, e = .returned (.bool q) ∧ (q = true ↔ a = b) ∧ Below w.heap.size w w'
theorem Nd.ext' {a b : Nd} (h1 : a.kind = b.kind) (h2 : a.path = b.path) (h3 : a.has = b.has) (h4 : a.val = b.val) (h5 : a.kids = b.kids) (h6 : a.hash = b.hash) : a = b := by
  rw [Nd.eta a, Nd.eta b, h1, h2, h3, h4, h5, h6]
set_option maxRecDepth 100000 in
set_option maxHeartbeats 2000000 in
theorem rsame_step (N : Nat) (ih : ∀ k : Nd, sz k < N → RSameOk k) (a : Nd) (ht : sz a ≤ N) (hN : N ≤ 1000000000) : RSameOk a := by
  intro b gs w ca cb hra hrb hgs hzb
  refine calls_ev (args := [.agg ca.toArray, .agg cb.toArray]) mixed Try.func25 rfl (by kernel_rfl) ?_
  obtain ⟨Ap, cp, Av, cv, Ak, ck, Ah, ch, rfl, r1, r3, r4, r5⟩ := hra.node
  obtain ⟨Bp, dp, Bv, dv, Bk, dk, Bh, dh, rfl, s1, s3, s4, s5⟩ := hrb.node
  have hsz := sz_eq a
  have hsl := szs_len a.kids
  have hsz' := sz_eq b
  have hsl' := szs_len b.kids
  have M := ((((((((St.start hgs).addD r5).addD r3).addD r1).addD s5).addD s3).addD s1).addD s4).addD r4
  clear r1 r3 r4 r5 hra s1 s3 s4 s5 hrb
  refine ev_assoc ?_
  refine cutS (Nat × Nat) (fun s W => St w gs W [(s.2, 38, ncs b Bp dp Bv dv Bk dk Bh dh), (s.1, 38, ncs a Ap cp Av cv Ak ck Ah ch)] [] [.dat false [dKs a.kids] [.slice Ak a.kids.length ck], .dat false [dKs b.kids] [.slice Bk b.kids.length dk]] ∧ a.kids.length = b.kids.length ∧ (a.kids = b.kids → a = b)) (fun s => [(2, .pointer (some ⟨s.1, 0, none⟩)), (3, .pointer (some ⟨s.2, 0, none⟩))]) ?_ ?_
  ·
    refine s_box (ncs a Ap cp Av cv Ak ck Ah ch) M rfl ?_
    clear M
    rintro g2 W M
    refine s_box (ncs b Bp dp Bv dv Bk dk Bh dh) M rfl ?_
    clear M
    rintro g3 W M
    have hB := M.B 0 rfl
    have hC := M.B 1 rfl
    unfold ncs at hB hC
    have hbel := M.below
    repeat' first
      | (refine p_fld fN0 rfl ?_)
      | (refine v_load agg_int rfl (hB.at_ rfl) ?_)
      | (refine v_load agg_int rfl (hC.at_ rfl) ?_)
    refine p_ne rfl rfl (fun hk => ?_) (fun hk => ?_)
    rotate_left
    ·
      exact ⟨false, rfl, ⟨(fun h => by cases h), fun h => absurd (by rw [h]) hk⟩, hbel⟩
    repeat' first
      | (refine p_fld fN2 rfl ?_)
      | (refine v_load agg_bo rfl (hB.at_ rfl) ?_)
      | (refine v_load agg_bo rfl (hC.at_ rfl) ?_)
    refine p_bneC u_bool rfl rfl (fun hh => ?_) (fun hh => ?_)
    rotate_left
    ·
      exact ⟨false, rfl, ⟨(fun h => by cases h), fun h => absurd (by rw [h]) hh⟩, hbel⟩
    repeat' first
      | (refine p_fld fN1 rfl ?_)
      | (refine v_load agg_b rfl (hB.at_ rfl) ?_)
      | (refine v_load agg_b rfl (hC.at_ rfl) ?_)
    obtain ⟨q, hq, hc⟩ := same_tf (c1 := cp) (c2 := dp) (M.rdb 5 rfl).2.2 (M.rdb 2 rfl).2.2
    cases q with
    | false =>
      refine cc is_same0 hc ?_
      rintro e W' ⟨rfl, rfl⟩
      refine ⟨_, rfl, ?_⟩
      refine p_not rfl ?_
      exact ⟨false, rfl, ⟨(fun h => by cases h), fun h => absurd (hq.2 (by rw [h])) (by decide)⟩, hbel⟩
    | true =>
    have hp := hq.1 rfl
    refine cc is_same0 hc ?_
    rintro e W' ⟨rfl, rfl⟩
    refine ⟨_, rfl, ?_⟩
    refine p_not rfl ?_
    clear hq hc
    repeat' first
      | (refine p_fld fN3 rfl ?_)
      | (refine v_load agg_b rfl (hB.at_ rfl) ?_)
      | (refine v_load agg_b rfl (hC.at_ rfl) ?_)
    obtain ⟨q, hq, hc⟩ := same_tf (c1 := cv) (c2 := dv) (M.rdb 6 rfl).2.2 (M.rdb 3 rfl).2.2
    cases q with
    | false =>
      refine cc is_same0 hc ?_
      rintro e W' ⟨rfl, rfl⟩
      refine ⟨_, rfl, ?_⟩
      refine p_not rfl ?_
      exact ⟨false, rfl, ⟨(fun h => by cases h), fun h => absurd (hq.2 (by rw [h])) (by decide)⟩, hbel⟩
    | true =>
    have hv := hq.1 rfl
    refine cc is_same0 hc ?_
    rintro e W' ⟨rfl, rfl⟩
    refine ⟨_, rfl, ?_⟩
    refine p_not rfl ?_
    clear hq hc
    repeat' first
      | (refine p_fld fN5 rfl ?_)
      | (refine v_load agg_b rfl (hB.at_ rfl) ?_)
      | (refine v_load agg_b rfl (hC.at_ rfl) ?_)
    obtain ⟨q, hq, hc⟩ := same_tf (c1 := ch) (c2 := dh) (M.rdb 7 rfl).2.2 (M.rdb 4 rfl).2.2
    cases q with
    | false =>
      refine cc is_same0 hc ?_
      rintro e W' ⟨rfl, rfl⟩
      refine ⟨_, rfl, ?_⟩
      refine p_not rfl ?_
      exact ⟨false, rfl, ⟨(fun h => by cases h), fun h => absurd (hq.2 (by rw [h])) (by decide)⟩, hbel⟩
    | true =>
    have hs := hq.1 rfl
    refine cc is_same0 hc ?_
    rintro e W' ⟨rfl, rfl⟩
    refine ⟨_, rfl, ?_⟩
    refine p_not rfl ?_
    clear hq hc
    repeat' first
      | (refine p_fld fN4 rfl ?_)
      | (refine v_load agg_ns rfl (hB.at_ rfl) ?_)
      | (refine v_load agg_ns rfl (hC.at_ rfl) ?_)
    repeat' first
      | (refine p_fld fN0 rfl ?_)
      | (refine p_fld fN1 rfl ?_)
      | (refine p_fld fN2 rfl ?_)
      | (refine p_fld fN3 rfl ?_)
      | (refine p_fld fN4 rfl ?_)
      | (refine p_fld fN5 rfl ?_)
      | (refine v_load agg_int rfl (hB.at_ rfl) ?_)
      | (refine v_load agg_b rfl (hB.at_ rfl) ?_)
      | (refine v_load agg_bo rfl (hB.at_ rfl) ?_)
      | (refine v_load agg_ns rfl (hB.at_ rfl) ?_)
      | (refine p_len slb rfl ?_)
      | (refine p_len sln rfl ?_)
    repeat' first
      | (refine p_fld fN0 rfl ?_)
      | (refine p_fld fN1 rfl ?_)
      | (refine p_fld fN2 rfl ?_)
      | (refine p_fld fN3 rfl ?_)
      | (refine p_fld fN4 rfl ?_)
      | (refine p_fld fN5 rfl ?_)
      | (refine v_load agg_int rfl (hC.at_ rfl) ?_)
      | (refine v_load agg_b rfl (hC.at_ rfl) ?_)
      | (refine v_load agg_bo rfl (hC.at_ rfl) ?_)
      | (refine v_load agg_ns rfl (hC.at_ rfl) ?_)
      | (refine p_len slb rfl ?_)
      | (refine p_len sln rfl ?_)
    refine p_ne rfl rfl (fun hl => ?_) (fun hl => ?_)
    · exact ⟨(g2, g3), ⟨M.fsub _ (by simp), by omega, fun h => Nd.ext' hk hp hh hv h hs⟩, (by repeat (first | exact trivial | refine ⟨rfl, ?_⟩))⟩
    · exact ⟨false, rfl, ⟨(fun h => by cases h), fun h => absurd (by rw [h]) hl⟩, hbel⟩
  · clear M
    rintro ⟨g2, g3⟩ B W ⟨M, hl, hab⟩
    dsimp only at M
    refine lp Nat (fun i W => i ≤ a.kids.length ∧ St w gs W [(g3, 38, ncs b Bp dp Bv dv Bk dk Bh dh), (g2, 38, ncs a Ap cp Av cv Ak ck Ah ch)] [] [.dat false [dKs a.kids] [.slice Ak a.kids.length ck], .dat false [dKs b.kids] [.slice Bk b.kids.length dk]] ∧ a.kids.take i = b.kids.take i) (fun i => [(2, .pointer (some ⟨g2, 0, none⟩)), (3, .pointer (some ⟨g3, 0, none⟩)), (5, .int .i64 i)]) (fun i => a.kids.length - i) 0 ⟨Nat.zero_le _, M, rfl⟩ (by repeat (first | exact trivial | refine ⟨rfl, ?_⟩)) ?_
    clear M
    rintro i E5 W5 ⟨hi, M, hrs⟩
    refine p_fld fN4 rfl ?_
    refine v_load agg_ns rfl (by first | exact (M.B 0 rfl).at_ rfl | exact (M.B 1 rfl).at_ rfl | exact (M.B 2 rfl).at_ rfl | exact (M.B 3 rfl).at_ rfl | exact (M.B 4 rfl).at_ rfl | exact M.lc 0 rfl _ _ rfl | exact M.lc 1 rfl _ _ rfl | exact M.lc 2 rfl _ _ rfl | exact M.lc 3 rfl _ _ rfl | exact M.lc 4 rfl _ _ rfl | exact M.lc 5 rfl _ _ rfl | exact M.lc 6 rfl _ _ rfl | exact M.lc 7 rfl _ _ rfl) ?_
    refine p_len sln rfl ?_
    refine p_lt rfl rfl (fun hlt => ?_) (fun hge => ?_)
    · obtain ⟨k, hki⟩ : ∃ k, a.kids[i]? = some k := ⟨_, List.getElem?_eq_getElem (by omega)⟩
      obtain ⟨k', hki'⟩ : ∃ k, b.kids[i]? = some k := ⟨_, List.getElem?_eq_getElem (by omega)⟩
      have hkz := szs_mem (List.mem_of_getElem? hki)
      have hkz' := szs_mem (List.mem_of_getElem? hki')
      replace M := M.drew
      obtain ⟨b1, o1, es, rfl, hel, M'⟩ := M.kid (M.d1 0 rfl) hki
      replace M := M'; clear M'
      obtain ⟨b2, o2, es', rfl, hel', M'⟩ := M.kid (M.d1 3 rfl) hki'
      replace M := M'; clear M'
      refine drT (Kp w gs [(g3, 38, ncs b Bp dp Bv dv (some ⟨b2, o2, none⟩) dk Bh dh), (g2, 38, ncs a Ap cp Av cv (some ⟨b1, o1, none⟩) ck Ah ch)] [.loc ((⟨b1, o1, none⟩ : Addr).add (i * 6)) es, .loc ((⟨b2, o2, none⟩ : Addr).add (i * 6)) es']) (.take 0 (.take 1 (.take 2 (.take 3 (.take 4 (.take 5 (.take 6 (.take 7 (.take 8 (.take 9 (.one 10 (.take 11 (.nil))))))))))))) (by kernel_rfl) (M.kp (by simp) (by simp)) ?_
      refine p_fld fN4 rfl ?_
      refine t_load agg_ns rfl (fun W K => by first | exact (K.B 0 rfl).at_ rfl | exact (K.B 1 rfl).at_ rfl | exact (K.B 2 rfl).at_ rfl | exact (K.B 3 rfl).at_ rfl | exact K.lc 0 rfl _ _ rfl | exact K.lc 1 rfl _ _ rfl | exact K.lc 2 rfl _ _ rfl | exact K.lc 3 rfl _ _ rfl) ?_
      refine p_at sln rfl rfl rfl (by omega) ?_
      refine t_loadN es agg_nd rfl hel (fun W K => K.lc 0 rfl) ?_
      refine p_fld fN4 rfl ?_
      refine t_load agg_ns rfl (fun W K => by first | exact (K.B 0 rfl).at_ rfl | exact (K.B 1 rfl).at_ rfl | exact (K.B 2 rfl).at_ rfl | exact (K.B 3 rfl).at_ rfl | exact K.lc 0 rfl _ _ rfl | exact K.lc 1 rfl _ _ rfl | exact K.lc 2 rfl _ _ rfl | exact K.lc 3 rfl _ _ rfl) ?_
      refine p_at sln rfl rfl rfl (by omega) ?_
      refine t_loadN es' agg_nd rfl hel' (fun W K => K.lc 1 rfl) ?_
      refine cc is_r7same (ih k (by omega) k' _ _ es es' (M.da 3 rfl) (M.da 1 rfl) M.olt (by omega)) ?_
      rintro e W ⟨q, rfl, hq, hb⟩
      replace M := M.call hb
      refine ⟨_, rfl, (M.kp (by simp) (by simp)), ?_⟩
      refine p_not rfl ?_
      cases q with
      | false =>
        refine ⟨false, rfl, ⟨(fun h => by cases h), fun h => ?_⟩, M.below⟩
        rw [h, hki'] at hki
        injection hki with hki
        exact hq.2 hki.symm
      | true =>
        have hkk := hq.1 rfl
        refine p_addN (b := 1) rfl rfl (by omega) ?_
        refine ⟨i + 1, ⟨by omega, M.fsub _ (by simp), ?_⟩, (by repeat (first | exact trivial | refine ⟨rfl, ?_⟩)), by omega⟩
        have h1 := List.getElem?_eq_some_iff.1 hki
        have h2 := List.getElem?_eq_some_iff.1 hki'
        rw [List.take_succ_eq_append_getElem h1.1, List.take_succ_eq_append_getElem h2.1, h1.2, h2.2, hrs, hkk]
    · refine ⟨true, rfl, ⟨fun _ => hab ?_, fun _ => rfl⟩, M.below⟩
      rw [List.take_of_length_le (by omega), List.take_of_length_le (by omega)] at hrs
      exact hrs
theorem rsame_any : ∀ (N : Nat), N ≤ 1000000000 → ∀ t : Nd, sz t < N → RSameOk t
  | 0, _, t, h => by omega
  | N + 1, hN, t, h => rsame_step N (fun k hk => rsame_any N (by omega) k hk) t (by omega) (by omega)
end Go.Proofs.Ytliccofjlheceaa
namespace Go.Proofs.Ytliccofjlheceaa
open Go.RowKit
/-- Turned to the right. -/
def rotr (x n : Nat) : Nat := ((x <<< (32 - n)) % 4294967296) ||| (x >>> n)
end Go.Proofs.Ytliccofjlheceaa
namespace Go.Proofs.Ytliccofjlheceaa
def byt (b : List UInt8) (k : Nat) : Nat := (b.getD k 0).toNat
/-- Four bytes, the highest first. -/
def wordB (b : List UInt8) (i : Nat) : Nat := (((byt b (4 * i) <<< 24) ||| (byt b (4 * i + 1) <<< 16)) ||| (byt b (4 * i + 2) <<< 8)) ||| byt b (4 * i + 3)
def sg0 (x : Nat) : Nat := (rotr x 7 ^^^ rotr x 18) ^^^ (x >>> 3)
def sg1 (x : Nat) : Nat := (rotr x 17 ^^^ rotr x 19) ^^^ (x >>> 10)
def nextW (w : List Nat) (i : Nat) : Nat := (((sg1 (w.getD (i - 2) 0) + w.getD (i - 7) 0) % 4294967296 + sg0 (w.getD (i - 15) 0)) % 4294967296 + w.getD (i - 16) 0) % 4294967296
/-- The first i of the words of 64 bytes. -/
def wsF (b : List UInt8) : Nat → List Nat
  | 0 => []
  | i + 1 => wsF b i ++ [if i < 16 then wordB b i else nextW (wsF b i) i]
def words (b : List UInt8) : List Nat := wsF b 64
/-- A cell of a word. -/
def cu (n : Nat) : Value := .int .u32 (n : Int)
end Go.Proofs.Ytliccofjlheceaa
namespace Go.Proofs.Ytliccofjlheceaa
/-- Eight words. -/
structure H8 where
  a : Nat
  b : Nat
  c : Nat
  d : Nat
  e : Nat
  f : Nat
  g : Nat
  h : Nat
def hc (v : H8) : List Value := [cu v.a, cu v.b, cu v.c, cu v.d, cu v.e, cu v.f, cu v.g, cu v.h]
structure H8.Ok (v : H8) : Prop where
  a : v.a < 4294967296
  b : v.b < 4294967296
  c : v.c < 4294967296
  d : v.d < 4294967296
  e : v.e < 4294967296
  f : v.f < 4294967296
  g : v.g < 4294967296
  h : v.h < 4294967296
def bs1 (e : Nat) : Nat := (rotr e 6 ^^^ rotr e 11) ^^^ rotr e 25
def bs0 (a : Nat) : Nat := (rotr a 2 ^^^ rotr a 13) ^^^ rotr a 22
def chs (e f g : Nat) : Nat := (e &&& f) ^^^ ((4294967295 ^^^ e) &&& g)
def maj (a b c : Nat) : Nat := ((a &&& b) ^^^ (a &&& c)) ^^^ (b &&& c)
def tt1 (v : H8) (k w : Nat) : Nat := ((((v.h + bs1 v.e) % 4294967296 + chs v.e v.f v.g) % 4294967296 + k) % 4294967296 + w) % 4294967296
def tt2 (v : H8) : Nat := (bs0 v.a + maj v.a v.b v.c) % 4294967296
def rnd (v : H8) (k w : Nat) : H8 := ⟨(tt1 v k w + tt2 v) % 4294967296, v.a, v.b, v.c, (v.d + tt1 v k w) % 4294967296, v.e, v.f, v.g⟩
/-- i rounds. -/
def rndF (ks ws : List Nat) (v : H8) : Nat → H8
  | 0 => v
  | i + 1 => rnd (rndF ks ws v i) (ks.getD i 0) (ws.getD i 0)
def add8 (x y : H8) : H8 := ⟨(x.a + y.a) % 4294967296, (x.b + y.b) % 4294967296, (x.c + y.c) % 4294967296, (x.d + y.d) % 4294967296, (x.e + y.e) % 4294967296, (x.f + y.f) % 4294967296, (x.g + y.g) % 4294967296, (x.h + y.h) % 4294967296⟩
def begin8 : H8 := ⟨1779033703, 3144134277, 1013904242, 2773480762, 1359893119, 2600822924, 528734635, 1541459225⟩
def roots : List Nat := [0x428a2f98, 0x71374491, 0xb5c0fbcf, 0xe9b5dba5, 0x3956c25b, 0x59f111f1, 0x923f82a4, 0xab1c5ed5,
  0xd807aa98, 0x12835b01, 0x243185be, 0x550c7dc3, 0x72be5d74, 0x80deb1fe, 0x9bdc06a7, 0xc19bf174,
  0xe49b69c1, 0xefbe4786, 0x0fc19dc6, 0x240ca1cc, 0x2de92c6f, 0x4a7484aa, 0x5cb0a9dc, 0x76f988da,
  0x983e5152, 0xa831c66d, 0xb00327c8, 0xbf597fc7, 0xc6e00bf3, 0xd5a79147, 0x06ca6351, 0x14292967,
  0x27b70a85, 0x2e1b2138, 0x4d2c6dfc, 0x53380d13, 0x650a7354, 0x766a0abb, 0x81c2c92e, 0x92722c85,
  0xa2bfe8a1, 0xa81a664b, 0xc24b8b70, 0xc76c51a3, 0xd192e819, 0xd6990624, 0xf40e3585, 0x106aa070,
  0x19a4c116, 0x1e376c08, 0x2748774c, 0x34b0bcb5, 0x391c0cb3, 0x4ed8aa4a, 0x5b9cca4f, 0x682e6ff3,
  0x748f82ee, 0x78a5636f, 0x84c87814, 0x8cc70208, 0x90befffa, 0xa4506ceb, 0xbef9a3f7, 0xc67178f2]
/-- What 64 bytes make of eight words. -/
def take8 (h : H8) (b : List UInt8) : H8 := add8 h (rndF roots (words b) h 64)
/-- What all whole blocks make; n blocks. -/
def blocksF (h : H8) : Nat → List UInt8 → H8
  | 0, _ => h
  | n + 1, b => blocksF (take8 h (b.take 64)) n (b.drop 64)
def put4 (x : Nat) : List UInt8 := [UInt8.ofNat (x >>> 24), UInt8.ofNat (x >>> 16), UInt8.ofNat (x >>> 8), UInt8.ofNat x]
def out8 (h : H8) : List UInt8 := put4 h.a ++ (put4 h.b ++ (put4 h.c ++ (put4 h.d ++ (put4 h.e ++ (put4 h.f ++ (put4 h.g ++ put4 h.h))))))
/-- What is put behind so many bytes. -/
def padL (n : Nat) : List UInt8 := (128 : UInt8) :: (List.replicate ((119 - n % 64) % 64) (0 : UInt8) ++ [UInt8.ofNat ((8 * n) >>> 56), UInt8.ofNat ((8 * n) >>> 48), UInt8.ofNat ((8 * n) >>> 40), UInt8.ofNat ((8 * n) >>> 32), UInt8.ofNat ((8 * n) >>> 24), UInt8.ofNat ((8 * n) >>> 16), UInt8.ofNat ((8 * n) >>> 8), UInt8.ofNat (8 * n)])
def sha (b : List UInt8) : List UInt8 := out8 (blocksF begin8 ((b ++ padL b.length).length / 64) (b ++ padL b.length))
end Go.Proofs.Ytliccofjlheceaa
namespace Go.Proofs.Ytliccofjlheceaa
open Go.RowKit
theorem sha_def (b : List UInt8) : sha b = out8 (blocksF begin8 ((b ++ padL b.length).length / 64) (b ++ padL b.length)) := rfl
end Go.Proofs.Ytliccofjlheceaa
namespace Go.Proofs.Ytliccofjlheceaa

/-- A number's bytes: seven bits each, the lowest first (so many at most as the first argument says). -/
def putF : Nat → Nat → List UInt8
  | 0, _ => []
  | f + 1, n => if n < 128 then [b8 (n : Int)] else b8 ((n % 128 + 128 : Nat) : Int) :: putF f (n / 128)
def putN (n : Nat) : List UInt8 := putF (n + 1) n
theorem putF_any : ∀ (f g n : Nat), n < f → n < g → putF f n = putF g n
  | f + 1, g + 1, n, hf, hg => by
    unfold putF
    by_cases h : n < 128
    · rw [if_pos h, if_pos h]
    · rw [if_neg h, if_neg h, putF_any f g (n / 128) (by omega) (by omega)]
theorem putN_lt {n : Nat} (h : n < 128) : putN n = [b8 (n : Int)] := by unfold putN putF; rw [if_pos h]
theorem putN_ge {n : Nat} (h : ¬ n < 128) : putN n = b8 ((n % 128 + 128 : Nat) : Int) :: putN (n / 128) := by
  unfold putN; rw [putF, if_neg h, putF_any n (n / 128 + 1) (n / 128) (by omega) (by omega)]
theorem putN_pos (n : Nat) : 1 ≤ (putN n).length := by
  by_cases h : n < 128
  · rw [putN_lt h]; simp
  · rw [putN_ge h]; simp
theorem putN_len : ∀ (k n : Nat), n < 128 ^ (k + 1) → (putN n).length ≤ k + 1
  | 0, n, h => by rw [putN_lt (by simpa using h)]; simp
  | k + 1, n, h => by
    by_cases h1 : n < 128
    · rw [putN_lt h1]; simp
    · rw [putN_ge h1, List.length_cons]
      have := putN_len k (n / 128) (by rw [Nat.div_lt_iff_lt_mul (by omega)]; rw [Nat.pow_succ] at h; exact h)
      omega
theorem putN_len10 {n : Nat} (h : n < 18446744073709551616) : (putN n).length ≤ 10 := putN_len 9 n (Nat.lt_of_lt_of_le h (by decide))
/-- The number that stands at the head of some bytes, at the i-th of which we are: the number, how many bytes, an error. -/
def getF : List UInt8 → Nat → Nat → Nat × Nat × Int
  | [], _, _ => (0, 0, 10)
  | c :: l, i, acc => if (i = 9 ∧ 1 < c.toNat) ∨ (c.toNat = 0 ∧ 0 < i) then (0, 0, 11) else if c.toNat < 128 then (acc + c.toNat * 128 ^ i, i + 1, 0) else getF l (i + 1) (acc + (c.toNat - 128) * 128 ^ i)

theorem getF_step (l : List UInt8) (a k acc : Nat) (h : a + k < l.length) : getF (l.drop (a + k)) k acc =
    if (k = 9 ∧ 1 < at8 l (a + k)) ∨ (at8 l (a + k) = 0 ∧ 0 < k) then (0, 0, 11) else if at8 l (a + k) < 128 then (acc + (at8 l (a + k)).toNat * 128 ^ k, k + 1, 0) else getF (l.drop (a + (k + 1))) (k + 1) (acc + ((at8 l (a + k)).toNat - 128) * 128 ^ k) := by
  rw [List.drop_eq_getElem_cons h, getF, at8_of l _ h, Int.toNat_natCast]
  have e1 : ((k = 9 ∧ 1 < l[a + k].toNat) ∨ (l[a + k].toNat = 0 ∧ 0 < k)) ↔ ((k = 9 ∧ (1 : Int) < (l[a + k].toNat : Int)) ∨ ((l[a + k].toNat : Int) = 0 ∧ 0 < k)) := by omega
  have e2 : (l[a + k].toNat < 128) ↔ ((l[a + k].toNat : Int) < 128) := by omega
  simp only [e1, e2]
  rfl
theorem getF_end (l : List UInt8) (a k acc : Nat) (h : l.length ≤ a + k) : getF (l.drop (a + k)) k acc = (0, 0, 10) := by
  rw [List.drop_eq_nil_of_le h]; rfl

/-- What is read is a number of 64 bits, no more than there is, and written as the bytes that stand there. -/
theorem getF_ok : ∀ (l : List UInt8) (i acc n t : Nat), acc < 128 ^ i → i ≤ 9 → getF l i acc = (n, t, 0) → ∃ m, n = acc + m * 128 ^ i ∧ n < 18446744073709551616 ∧ t = i + (putN m).length ∧ t ≤ i + l.length ∧ l.take (putN m).length = putN m ∧ (0 < i → 0 < m)
  | [], i, acc, n, t, _, _, h => by simp [getF] at h
  | c :: l, i, acc, n, t, ha, hi, h => by
    rw [getF] at h
    split at h
    · simp at h
    · rename_i hc
      have hc1 : ¬ (i = 9 ∧ 1 < c.toNat) := fun e => hc (.inl e)
      have hc2 : ¬ (c.toNat = 0 ∧ 0 < i) := fun e => hc (.inr e)
      have c256 := c.toNat_lt
      split at h
      · rename_i hlt
        simp only [Prod.mk.injEq, and_true] at h
        obtain ⟨rfl, rfl⟩ := h
        have e : putN c.toNat = [c] := by rw [putN_lt hlt, b8_nat]
        refine ⟨c.toNat, rfl, ?_, by rw [e]; rfl, by simp, by rw [e]; rfl, by omega⟩
        by_cases h9 : i = 9
        · subst h9
          have : c.toNat ≤ 1 := by omega
          have hp : (128 : Nat) ^ 9 = 9223372036854775808 := by decide
          rw [hp] at ha ⊢
          have : c.toNat * 9223372036854775808 ≤ 1 * 9223372036854775808 := Nat.mul_le_mul_right _ this
          omega
        · have h1 : c.toNat * 128 ^ i ≤ 127 * 128 ^ i := Nat.mul_le_mul_right _ (by omega)
          have h2 : 128 ^ (i + 1) ≤ 128 ^ 9 := Nat.pow_le_pow_right (by omega) (by omega)
          have hp : (128 : Nat) ^ 9 = 9223372036854775808 := by decide
          rw [hp, Nat.pow_succ] at h2
          omega
      · rename_i hge
        have hi8 : i ≤ 8 := by omega
        have hpow : 128 ^ (i + 1) = 128 ^ i * 128 := Nat.pow_succ ..
        have h1 : (c.toNat - 128) * 128 ^ i ≤ 127 * 128 ^ i := Nat.mul_le_mul_right _ (by omega)
        obtain ⟨m, hn, hlt, ht, hl, htk, hm⟩ := getF_ok l (i + 1) _ n t (by rw [hpow]; omega) (by omega) h
        have hm0 := hm (by omega)
        have e : putN (c.toNat - 128 + 128 * m) = c :: putN m := by
          rw [putN_ge (by omega)]
          rw [show (c.toNat - 128 + 128 * m) % 128 + 128 = c.toNat by omega, show (c.toNat - 128 + 128 * m) / 128 = m by omega, b8_nat]
        refine ⟨c.toNat - 128 + 128 * m, ?_, hlt, by rw [e, ht, List.length_cons]; omega, by rw [List.length_cons]; omega, by rw [e, List.length_cons, List.take_succ_cons, htk], by omega⟩
        rw [hn, hpow, Nat.add_mul, Nat.add_assoc, Nat.mul_comm (128 ^ i) 128, ← Nat.mul_assoc, Nat.mul_comm m 128]
/-- A number's bytes are read as it. -/
theorem getF_put : ∀ (f m i acc : Nat) (r : List UInt8), m < f → (0 < i → 0 < m) → i ≤ 9 → m * 128 ^ i < 18446744073709551616 → getF (putN m ++ r) i acc = (acc + m * 128 ^ i, i + (putN m).length, 0)
  | f + 1, m, i, acc, r, hf, h0, hi, hm => by
    have hb : ∀ x : Nat, x < 256 → (b8 (x : Int)).toNat = x := fun x hx => by unfold b8; rw [UInt8.toNat_ofNat']; omega
    by_cases h : m < 128
    · rw [putN_lt h, List.singleton_append, getF, hb m (by omega)]
      have h9 : ¬ (i = 9 ∧ 1 < m) := by
        rintro ⟨rfl, h1⟩
        have hp : (128 : Nat) ^ 9 = 9223372036854775808 := by decide
        rw [hp] at hm; omega
      rw [if_neg (by omega), if_pos h]
      rfl
    · rw [putN_ge h, List.cons_append, getF, hb _ (by omega)]
      have h9 : i ≤ 8 := by
        by_cases e : i = 9
        · subst e
          have hp : (128 : Nat) ^ 9 = 9223372036854775808 := by decide
          rw [hp] at hm; omega
        · omega
      rw [if_neg (by omega), if_neg (by omega)]
      have hd : m % 128 + m / 128 * 128 = m := by omega
      have hpow : 128 ^ (i + 1) = 128 ^ i * 128 := Nat.pow_succ ..
      have hle : m / 128 * 128 ^ (i + 1) ≤ m * 128 ^ i := by
        rw [hpow, Nat.mul_comm (128 ^ i) 128, ← Nat.mul_assoc]
        exact Nat.mul_le_mul_right _ (by omega)
      rw [getF_put f (m / 128) (i + 1) _ r (by omega) (by omega) (by omega) (by omega)]
      have e : m % 128 + 128 - 128 = m % 128 := by omega
      rw [e, List.length_cons]
      refine Prod.ext ?_ (Prod.ext ?_ rfl)
      · show acc + m % 128 * 128 ^ i + m / 128 * 128 ^ (i + 1) = acc + m * 128 ^ i
        rw [hpow, Nat.mul_comm (128 ^ i) 128, ← Nat.mul_assoc, Nat.add_assoc, ← Nat.add_mul, hd]
      · show i + 1 + (putN (m / 128)).length = i + ((putN (m / 128)).length + 1)
        omega
/-- Get: the error, the number, the place behind it. -/
def gE (l : List UInt8) (at_ : Int) : Int := if at_ < 0 ∨ (l.length : Int) < at_ then 2 else (getF (l.drop at_.toNat) 0 0).2.2
def gN (l : List UInt8) (at_ : Int) : Int := if at_ < 0 ∨ (l.length : Int) < at_ then 0 else ((getF (l.drop at_.toNat) 0 0).1 : Int)
def gTo (l : List UInt8) (at_ : Int) : Int := if gE l at_ = 0 then at_ + ((getF (l.drop at_.toNat) 0 0).2.1 : Int) else 0
theorem g_out {l : List UInt8} {a : Int} (h : a < 0 ∨ (l.length : Int) < a) : gE l a = 2 ∧ gN l a = 0 ∧ gTo l a = 0 := by
  have e : gE l a = 2 := by unfold gE; rw [if_pos h]
  exact ⟨e, by unfold gN; rw [if_pos h], by unfold gTo; rw [e]; rfl⟩
theorem g_in {l : List UInt8} {a : Nat} (h : a ≤ l.length) : gE l (a : Int) = (getF (l.drop a) 0 0).2.2 ∧ gN l (a : Int) = ((getF (l.drop a) 0 0).1 : Int) := by
  have hn : ¬ ((a : Int) < 0 ∨ (l.length : Int) < (a : Int)) := by omega
  exact ⟨by unfold gE; rw [if_neg hn]; rfl, by unfold gN; rw [if_neg hn]; rfl⟩
theorem g_fail {l : List UInt8} {a : Nat} {x : Int} (h : a ≤ l.length) (hx : x ≠ 0) (k : getF (l.drop a) 0 0 = (0, 0, x)) : gE l (a : Int) = x ∧ gN l (a : Int) = 0 ∧ gTo l (a : Int) = 0 := by
  obtain ⟨h1, h2⟩ := g_in h
  rw [k] at h1 h2
  exact ⟨h1, h2, by unfold gTo; rw [h1]; rw [if_neg hx]⟩
theorem g_done {l : List UInt8} {a n t : Nat} (h : a ≤ l.length) (k : getF (l.drop a) 0 0 = (n, t, 0)) : gE l (a : Int) = 0 ∧ gN l (a : Int) = (n : Int) ∧ gTo l (a : Int) = ((a + t : Nat) : Int) := by
  obtain ⟨h1, h2⟩ := g_in h
  rw [k] at h1 h2
  refine ⟨h1, h2, ?_⟩
  unfold gTo; rw [h1, if_pos rfl, Int.toNat_natCast, k]; simp
theorem gN_nonneg (l : List UInt8) (a : Int) : 0 ≤ gN l a := by unfold gN; split <;> omega
/-- What has been read, in full. -/
theorem g_ok {l : List UInt8} {a : Int} (h : gE l a = 0) : ∃ (x t : Nat), a = (x : Int) ∧ x ≤ l.length ∧ t = (putN (gN l a).toNat).length ∧ gTo l a = ((x + t : Nat) : Int) ∧ 1 ≤ t ∧ x + t ≤ l.length ∧ (l.drop x).take t = putN (gN l a).toNat ∧ gN l a < 18446744073709551616 := by
  by_cases ho : a < 0 ∨ (l.length : Int) < a
  · rw [(g_out ho).1] at h; cases h
  · obtain ⟨x, rfl⟩ := Int.eq_ofNat_of_zero_le (show 0 ≤ a by omega)
    have hx : x ≤ l.length := by omega
    obtain ⟨h1, h2⟩ := g_in hx
    rw [h] at h1
    obtain ⟨n, t, hk⟩ : ∃ n t, getF (l.drop x) 0 0 = (n, t, 0) := ⟨(getF (l.drop x) 0 0).1, (getF (l.drop x) 0 0).2.1, Prod.ext rfl (Prod.ext rfl h1.symm)⟩
    obtain ⟨d1, d2, d3⟩ := g_done hx hk
    obtain ⟨m, hn, hlt, ht, hl, htk, _⟩ := getF_ok (l.drop x) 0 0 n t (by simp) (by omega) hk
    have hmn : m = n := by simpa using hn.symm
    subst hmn
    have hp := putN_pos m
    rw [List.length_drop] at hl
    refine ⟨x, t, rfl, hx, ?_, d3, by omega, by omega, ?_, by rw [d2]; omega⟩
    · rw [d2, Int.toNat_natCast]; omega
    · rw [d2, Int.toNat_natCast]; rw [show t = (putN m).length by omega]; exact htk
/-- Bytes behind others: what stands there is read. -/
theorem g_put (p : List UInt8) (n : Nat) (r : List UInt8) (h : n < 18446744073709551616) : gE (p ++ (putN n ++ r)) (p.length : Int) = 0 ∧ gN (p ++ (putN n ++ r)) (p.length : Int) = (n : Int) ∧ gTo (p ++ (putN n ++ r)) (p.length : Int) = ((p.length + (putN n).length : Nat) : Int) := by
  have e := getF_put (n + 1) n 0 0 r (by omega) (by omega) (by omega) (by simpa using h)
  rw [show 0 + n * 128 ^ 0 = n by simp, Nat.zero_add] at e
  exact g_done (by simp) (by rw [List.drop_left]; exact e)

/-- GetBytes: the error, the bytes, the place behind. -/
def gbE (l : List UInt8) (a : Int) : Int := if gE l a ≠ 0 then gE l a else if 1048576 < gN l a then 3 else if (l.length : Int) - gTo l a < gN l a then 10 else 0
def gbL (l : List UInt8) (a : Int) : List UInt8 := if gbE l a = 0 then (l.drop (gTo l a).toNat).take (gN l a).toNat else []
def gbTo (l : List UInt8) (a : Int) : Int := if gbE l a = 0 then gTo l a + gN l a else 0
theorem gb_err1 {l : List UInt8} {a : Int} (h : gE l a ≠ 0) : gbE l a = gE l a ∧ gbL l a = [] ∧ gbTo l a = 0 := by
  have e : gbE l a = gE l a := by unfold gbE; rw [if_pos h]
  exact ⟨e, by unfold gbL; rw [if_neg (by rw [e]; exact h)], by unfold gbTo; rw [if_neg (by rw [e]; exact h)]⟩
theorem gb_err2 {l : List UInt8} {a : Int} (h : gE l a = 0) (k : 1048576 < gN l a) : gbE l a = 3 ∧ gbL l a = [] ∧ gbTo l a = 0 := by
  have e : gbE l a = 3 := by unfold gbE; rw [if_neg (fun x => x h), if_pos k]
  exact ⟨e, by unfold gbL; rw [if_neg (by rw [e]; decide)], by unfold gbTo; rw [if_neg (by rw [e]; decide)]⟩
theorem gb_err3 {l : List UInt8} {a : Int} (h : gE l a = 0) (k : ¬ 1048576 < gN l a) (m : (l.length : Int) - gTo l a < gN l a) : gbE l a = 10 ∧ gbL l a = [] ∧ gbTo l a = 0 := by
  have e : gbE l a = 10 := by unfold gbE; rw [if_neg (fun x => x h), if_neg k, if_pos m]
  exact ⟨e, by unfold gbL; rw [if_neg (by rw [e]; decide)], by unfold gbTo; rw [if_neg (by rw [e]; decide)]⟩
theorem gb_ok {l : List UInt8} {a : Int} (h : gE l a = 0) (k : ¬ 1048576 < gN l a) (m : ¬ (l.length : Int) - gTo l a < gN l a) : gbE l a = 0 ∧ gbL l a = (l.drop (gTo l a).toNat).take (gN l a).toNat ∧ gbTo l a = gTo l a + gN l a := by
  have e : gbE l a = 0 := by unfold gbE; rw [if_neg (fun x => x h), if_neg k, if_neg m]
  exact ⟨e, by unfold gbL; rw [if_pos e], by unfold gbTo; rw [if_pos e]⟩
theorem gb_cases (l : List UInt8) (a : Int) : (gE l a ≠ 0) ∨ (gE l a = 0 ∧ 1048576 < gN l a) ∨ (gE l a = 0 ∧ ¬ 1048576 < gN l a ∧ (l.length : Int) - gTo l a < gN l a) ∨ (gE l a = 0 ∧ ¬ 1048576 < gN l a ∧ ¬ (l.length : Int) - gTo l a < gN l a) := by
  by_cases h1 : gE l a = 0
  · by_cases h2 : 1048576 < gN l a
    · exact .inr (.inl ⟨h1, h2⟩)
    · by_cases h3 : (l.length : Int) - gTo l a < gN l a
      · exact .inr (.inr (.inl ⟨h1, h2, h3⟩))
      · exact .inr (.inr (.inr ⟨h1, h2, h3⟩))
  · exact .inl h1
/-- PutBytes. -/
def putB (s : List UInt8) : List UInt8 := putN s.length ++ s
end Go.Proofs.Ytliccofjlheceaa
namespace Go.Proofs.Ytliccofjlheceaa
open Go.RowKit

theorem or128 (x : Int) (h0 : 0 ≤ x) (h1 : x ≤ 255) : bits .or .u8 x 128 = x % 128 + 128 := by
  have h : ∀ y : Fin 256, bits .or .u8 (y.val : Int) 128 = (y.val : Int) % 128 + 128 := by decide +kernel
  have := h ⟨x.toNat, by omega⟩
  simp only [Int.toNat_of_nonneg h0] at this
  exact this

set_option maxRecDepth 100000 in
set_option maxHeartbeats 400000 in
theorem put_any (n : Nat) (w : World) (hlen : (putN n).length ≤ 10) :
    Calls Try.prog 34 #[.int .u64 n] w fun e w' => ∃ A' c', e = .returned (.slice A' (putN n).length c') ∧ Own w' w.heap.size A' (putN n).length c' (putN n) ∧ Below w.heap.size w w' := by
  go_enter Try.func34, Try.ntmps34
  go_wp2
  go_loopw [0, 3] (fun i v wr => ∃ (x : Nat) (o : List UInt8) (k : Nat) (A' : Option Addr) (c' : Nat), i = .int .u64 x ∧ v = .slice A' k c' ∧ Own wr w.heap.size A' k c' o ∧ o ++ putN x = putN n ∧ Below w.heap.size w wr) (fun i _ _ => (intOf i).toNat)
  case atStart => exact ⟨n, [], 0, none, 0, rfl, rfl, Own.nil_ _ _, rfl, Below.refl _ _⟩
  case round =>
    obtain ⟨x, o, k, A', c', rfl, rfl, hown, hx, hb⟩ := hrel
    have hk : k ≤ 10 := by
      have h1 := congrArg List.length hx
      rw [List.length_append, hown.len] at h1
      omega
    have Hx := Lib.hid hx
    clear hx
    by_cases hlt : x < 128
    · have hp := Lib.hid (putN_lt hlt)
      have hw : IntKind.u8.wrap (x : Int) = x := IntWalk.u8_in _ (by omega)
      have hm : (x : Int) % 256 = x := by omega
      go_wp2_with (at_builtin; refine wpList_app rfl _ _ rfl rfl (hown.alloc _) rfl (Rd.lit1 _ _ (by omega)) (by omega) (by simp; have := hb.size; omega) ?_; intro A2 c2 w2 hown2 hg2)
      have hb2 := below_own (belowA hb _) (hown.alloc _) hg2
      go_ret
      have e1 : o ++ [b8 (x : Int)] = putN n := by rw [← hp.out]; exact Hx.out
      rw [e1] at hown2
      have e2 := hown2.len
      exact ⟨A2, c2, ret_slice e2.symm, by rw [e2]; exact hown2, hb2⟩
    · have hp := Lib.hid (putN_ge hlt)
      have hm : IntKind.u8.wrap (x : Int) = (x : Int) % 256 := IntKind.wrap_u8 _
      have ho := or128 ((x : Int) % 256) (by omega) (by omega)
      have he : (x : Int) % 128 + 128 = ((x % 128 + 128 : Nat) : Int) := by omega
      have He := Lib.hid he
      clear he
      go_wp2_with (at_builtin; refine wpList_app rfl _ _ rfl rfl (hown.alloc _) rfl (Rd.lit1 _ _ (by omega)) (by omega) (by simp; have := hb.size; omega) ?_; intro A2 c2 w2 hown2 hg2)
      have hb2 := below_own (belowA hb _) (hown.alloc _) hg2
      clear hm ho
      go_roundw
      case rel => exact ⟨x / 128, o ++ [b8 ((x : Int) % 128 + 128)], k + 1, A2, c2, by go_num, rfl, hown2, by rw [He.out, List.append_assoc, List.singleton_append, ← hp.out]; exact Hx.out, hb2⟩
      case measure => simp [intOf]; omega

set_option maxRecDepth 100000 in
set_option maxHeartbeats 400000 in
theorem putBytes_any (A : Option Addr) (n c : Nat) (l : List UInt8) (w : World) (hr : Rd w w.heap.size A n l) (hn : n ≤ 100000000000) :
    Calls Try.prog 36 #[.slice A n c] w fun e w' => ∃ A' c', e = .returned (.slice A' ((putN n).length + n) c') ∧ Own w' w.heap.size A' ((putN n).length + n) c' (putB l) ∧ Below w.heap.size w w' := by
  have hln := Lib.hid hr.len
  have hlen := putN_len10 (n := n) (by omega)
  have hw : IntKind.u64.wrap (n : Int) = n := IntWalk.u64_in _ (by omega)
  go_enter Try.func36, Try.ntmps36
  go_wp2_with fail
  refine (put_any n _ hlen).mono ?_
  rintro e w1 ⟨A1, c1, rfl, o1, b1⟩
  go_wp2_with (at_builtin; refine wpList_app rfl _ _ rfl rfl o1 rfl (hr.up b1) (by omega) b1.size ?_; intro A2 c2 w2 o2 g2)
  have b2 := below_own b1 o1 g2
  go_ret
  exact ⟨A2, c2, rfl, by unfold putB; rw [hln.out]; exact o2, b2⟩
end Go.Proofs.Ytliccofjlheceaa
