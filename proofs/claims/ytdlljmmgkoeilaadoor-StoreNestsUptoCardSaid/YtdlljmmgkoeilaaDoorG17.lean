/- Seek: the walk of walk. Seek: all. -/
import Derived.Test.YtdlljmmgkoeilaaDoorG16
namespace Go.Proofs.YtdlljmmgkoeilaaDoor
open Go.RowKit
mutual
/-- What is found below a node, in order, or the other way round. -/
def walkP (s : Span) (back : Bool) : Nd → List UInt8 → List Fnd
  | .mk k p has v ks hs, way =>
    if k = 0 ∨ meetsB s (way ++ p) = false then []
    else if k = 4 then [.miss (way ++ p)]
    else (match back with
      | false => ownF (.mk k p has v ks hs) s (way ++ p) ++ (walkK s back ks (decide (k = 3)) 0 (way ++ p)).flatten
      | true => (walkK s back ks (decide (k = 3)) 0 (way ++ p)).reverse.flatten ++ ownF (.mk k p has v ks hs) s (way ++ p))
def walkK (s : Span) (back : Bool) : List Nd → Bool → Nat → List UInt8 → List (List Fnd)
  | [], _, _, _ => []
  | t :: ts, br, i, at_ => walkP s back t (if br then at_ ++ [UInt8.ofNat i] else at_) :: walkK s back ts br (i + 1) at_
end
theorem walkP_eq (s : Span) (back : Bool) (t : Nd) (way : List UInt8) : walkP s back t way = if t.kind = 0 ∨ meetsB s (way ++ t.path) = false then [] else if t.kind = 4 then [.miss (way ++ t.path)] else (match back with
      | false => ownF t s (way ++ t.path) ++ (walkK s back t.kids (decide (t.kind = 3)) 0 (way ++ t.path)).flatten
      | true => (walkK s back t.kids (decide (t.kind = 3)) 0 (way ++ t.path)).reverse.flatten ++ ownF t s (way ++ t.path)) := by
  cases t; cases back <;> (rw [walkP]; rfl)
theorem walkK_len (s : Span) (back br : Bool) (at_ : List UInt8) : ∀ (ks : List Nd) (i : Nat), (walkK s back ks br i at_).length = ks.length
  | [], i => by rw [walkK]; rfl
  | t :: ts, i => by rw [walkK, List.length_cons, walkK_len s back br at_ ts, List.length_cons]
theorem walkK_get (s : Span) (back br : Bool) (at_ : List UInt8) : ∀ (ks : List Nd) (i j : Nat) (k : Nd), ks[j]? = some k → (walkK s back ks br i at_)[j]? = some (walkP s back k (if br then at_ ++ [UInt8.ofNat (i + j)] else at_))
  | t :: ts, i, 0, k, h => by simp at h; subst h; rw [walkK]; rfl
  | t :: ts, i, j + 1, k, h => by
    rw [walkK, List.getElem?_cons_succ, walkK_get s back br at_ ts (i + 1) j k (by simpa using h), show i + 1 + j = i + (j + 1) by omega]
theorem drop_get {α : Type} {l : List α} {i : Nat} {x : α} (h : l[i]? = some x) : l.drop i = x :: l.drop (i + 1) := by
  have h1 := List.getElem?_eq_some_iff.1 h
  rw [List.drop_eq_getElem_cons h1.1, h1.2]
theorem rev_get {α : Type} {l : List α} {n i : Nat} {x : α} (hn : l.length = n) (hi : i < n) (h : l[n - 1 - i]? = some x) : l.reverse[i]? = some x := by
  rw [List.getElem?_reverse (by omega), hn]; exact h
def ysW (i : Nat) : Option Nat := match Nat.beq i 5 with | true => some 3 | false => none
def WalkOk (s : Span) (back : Bool) (t : Nd) : Prop := ∀ {l : Nat} {go : List Fnd → Bool} {J : List (Option Nat) → List Fnd → World → Prop} {NB : Nat} (_ : YOk Tryd.prog l FndG go NB J) (w : World) (gs : List (Option Nat)) (pre : List Fnd) (way : List UInt8) (A1 : Option Addr) (n1 c1 : Nat) (cs ss : List Value),
  RdL w (Fd w gs) (dSp s) ss → RdL w (Fd w gs) (dN t) cs → RdD w (Fd w gs) (dB way) (.slice A1 n1 c1) → J gs pre w → go pre = true → pre.length + (walkP s back t way).length ≤ NB → sz t + n1 ≤ 1000000 →
  Calls Tryd.prog 81 #[.agg ss.toArray, .agg cs.toArray, .slice A1 n1 c1, .bool back, .func (.yield l) #[] #[]] w fun e W' => ∃ gs', e = .returned (.bool (feed go pre (walkP s back t way)).2) ∧ Stp w gs W' gs' ∧ J gs' (feed go pre (walkP s back t way)).1 W'
theorem is_walk : isFn Tryd.prog 81 = true := by kernel_rfl
set_option maxRecDepth 100000 in
set_option maxHeartbeats 4000000 in
theorem walk_step (s : Span) (hs : s.lo.length ≤ 1000000 ∧ s.hi.length ≤ 1000000) (back : Bool) (N : Nat) (ih : ∀ k : Nd, sz k < N → WalkOk s back k) (t : Nd) (ht : sz t ≤ N) : WalkOk s back t := by
  intro l go J NB hY w gs pre way A1 n1 c1 cs ss hS hN hW hJ hgo hNB hz
  refine calls_evX (args := [.agg ss.toArray, .agg cs.toArray, .slice A1 n1 c1, .bool back, .func (.yield l) #[] #[]]) ysW mixed Tryd.func81 rfl (by kernel_rfl) ?_
  have hsz := sz_eq t
  have hsl := szs_len t.kids
  have en1 := hW.slen
  obtain ⟨Al, cl, Aq, cq, rfl, s0, s1⟩ := hS.span
  obtain ⟨Ap, cp, Av, cv, Ak, ck, Ah, ch, rfl, r1, r3, r4, r5⟩ := hN.node
  have M := (((((St.start (fun b => hY.lt _ _ _ _ hJ)).step0.addL hS).addD r4).addD r3).addD r1).addD hW
  clear hS hN hW s0 s1 r1 r3 r4 r5
  obtain ⟨RR, hRR⟩ : ∃ RR, RR = feed go pre (walkP s back t way) := ⟨_, rfl⟩
  rw [← hRR]
  rw [walkP_eq] at hRR hNB
  refine s_box (scs s Al cl Aq cq) M rfl ?_
  clear M
  rintro gp W M
  refine s_box (ncs t Ap cp Av cv Ak ck Ah ch) M rfl ?_
  clear M
  rintro gn W M
  refine s_box ([.slice A1 n1 c1]) M rfl ?_
  clear M
  rintro gw W M
  refine s_box ([.func (.yield l) #[] #[]]) M rfl ?_
  clear M
  rintro gy W M
  replace M := M.drew
  obtain ⟨AT, hAT⟩ : ∃ AT, AT = way ++ t.path := ⟨_, rfl⟩
  rw [← hAT] at hRR hNB
  obtain ⟨n3, hn3⟩ : ∃ n3, n3 = 0 + n1 + t.path.length := ⟨_, rfl⟩
  refine drZ 6 (Kp w gs [(gn, 28, ncs t Ap cp Av cv Ak ck Ah ch), (gw, 23, [.slice A1 n1 c1])] []) [(1, true), (3, true), (4, true), (0, false), (2, false), (5, false)] (by kernel_rfl) (M.kp (by simp) (by simp)) ?_
  refine t_load agg_b rfl (fun W K => by first | exact (K.B 0 rfl).at_ rfl | exact (K.B 1 rfl).at_ rfl | exact (K.B 2 rfl).at_ rfl | exact (K.B 3 rfl).at_ rfl | exact K.lc 0 rfl _ _ rfl | exact K.lc 1 rfl _ _ rfl | exact K.lc 2 rfl _ _ rfl | exact K.lc 3 rfl _ _ rfl) ?_
  refine p_fld fN1 rfl ?_
  refine t_load agg_b rfl (fun W K => by first | exact (K.B 0 rfl).at_ rfl | exact (K.B 1 rfl).at_ rfl | exact (K.B 2 rfl).at_ rfl | exact (K.B 3 rfl).at_ rfl | exact K.lc 0 rfl _ _ rfl | exact K.lc 1 rfl _ _ rfl | exact K.lc 2 rfl _ _ rfl | exact K.lc 3 rfl _ _ rfl) ?_
  refine s_bslice0 M slb ?_
  clear M; rintro g0 W M
  refine ⟨(M.kp (by simp) (by simp)), ?_⟩
  refine s_appB (l := []) M rfl rfl (M.rdb 0 rfl).2.2 (by omega) ?_
  clear M; rintro A2 c2 W M hA2
  refine ⟨(M.kp (by simp) (by simp)), ?_⟩
  refine s_appB M rfl rfl (M.rdb 1 rfl).2.2 (by omega) ?_
  clear M; rintro A3 c3 W M hA3
  refine ⟨(M.kp (by simp) (by simp)), ?_⟩
  replace M := M.frzO
  have hA3n : A3 ≠ none := fun e => by have := (hA3.1 e).1; have := (hA2.1 this).1; cases this
  clear hA2 hA3
  rw [List.nil_append, ← hAT, ← hn3] at M
  rw [← hn3]
  refine s_set 1 (.slice A3 n3 c3) ([.slice A3 n3 c3]) M rfl (by kernel_rfl) rfl rfl rfl (Nat.le_of_ble_eq_true rfl) rfl ?_
  clear M; rintro W M
  dsimp only [setL] at M
  have en3 := (M.d1 0 rfl).slen
  replace M := M.frzL.frzL.frzL.frzL
  replace M := M.fsub [.loc ⟨gn, 0, none⟩ (ncs t Ap cp Av cv Ak ck Ah ch), .loc ⟨gp, 0, none⟩ (scs s Al cl Aq cq), .loc ⟨gw, 0, none⟩ [.slice A3 n3 c3], .loc ⟨gy, 0, none⟩ [.func (.yield l) #[] #[]],
    .dat false [dB t.val] [.slice Av t.val.length cv], .dat false [dKs t.kids] [.slice Ak t.kids.length ck], .dat true [dB AT] [.slice A3 n3 c3], .dat false (dSp s) (scs s Al cl Aq cq), .stp w gs] (by intro f hf; simp only [List.mem_cons, List.not_mem_nil, or_false] at hf ⊢; rcases hf with h | h | h | h | h | h | h | h | h <;> simp [h, own])
  have hJ1 := hY.stay _ _ _ _ hJ M.below
  replace M := M.fresh
  clear hJ
  -- the kind; does the range meet it?
  refine p_fld fN0 rfl ?_
  refine v_load agg_int rfl (by first | exact (M.B 0 rfl).at_ rfl | exact (M.B 1 rfl).at_ rfl | exact (M.B 2 rfl).at_ rfl | exact (M.B 3 rfl).at_ rfl | exact (M.B 4 rfl).at_ rfl | exact M.lc 0 rfl _ _ rfl | exact M.lc 1 rfl _ _ rfl | exact M.lc 2 rfl _ _ rfl | exact M.lc 3 rfl _ _ rfl | exact M.lc 4 rfl _ _ rfl | exact M.lc 5 rfl _ _ rfl | exact M.lc 6 rfl _ _ rfl | exact M.lc 7 rfl _ _ rfl) ?_
  refine p_eq rfl rfl (fun h0 => ?_) (fun h0 => ?_)
  ·
    exact ⟨gs, by rw [hRR, if_pos (.inl h0)]; rfl, M.stp 8 rfl, by rw [hRR, if_pos (.inl h0)]; exact hY.stay _ _ _ _ hJ1 M.below⟩
  refine v_loadN (scs s Al cl Aq cq) agg_sp rfl rfl (M.lc 1 rfl) ?_
  refine v_load agg_b rfl (M.lc 2 rfl 0 _ rfl) ?_
  refine cc is_smeets (smeets_any s AT gs _ _ A3 n3 c3 (M.da 7 rfl) (M.d1 6 rfl) M.olt (by omega)) ?_
  rintro e W1 ⟨rfl, hb⟩
  replace M := M.call hb
  refine ⟨_, rfl, ?_⟩
  refine p_not rfl ?_
  cases hmt : meetsB s AT with
  | false =>
    exact ⟨gs, by rw [hRR, if_pos (.inr hmt)]; rfl, M.stp 8 rfl, by rw [hRR, if_pos (.inr hmt)]; exact hY.stay _ _ _ _ hJ1 M.below⟩
  | true =>
  rw [if_neg (by rw [hmt]; simp [h0])] at hRR hNB
  refine p_fld fN0 rfl ?_
  refine v_load agg_int rfl (by first | exact (M.B 0 rfl).at_ rfl | exact (M.B 1 rfl).at_ rfl | exact (M.B 2 rfl).at_ rfl | exact (M.B 3 rfl).at_ rfl | exact (M.B 4 rfl).at_ rfl | exact M.lc 0 rfl _ _ rfl | exact M.lc 1 rfl _ _ rfl | exact M.lc 2 rfl _ _ rfl | exact M.lc 3 rfl _ _ rfl | exact M.lc 4 rfl _ _ rfl | exact M.lc 5 rfl _ _ rfl | exact M.lc 6 rfl _ _ rfl | exact M.lc 7 rfl _ _ rfl) ?_
  refine p_eq rfl rfl (fun h4 => ?_) (fun h4 => ?_)
  · rw [if_pos h4] at hRR hNB
    rw [feed_one] at hRR
    have hnb : pre.length < NB := hNB
    refine v_load agg_yf rfl (M.lc 3 rfl 0 _ rfl) ?_
    refine v_load agg_b rfl (M.lc 2 rfl 0 _ rfl) ?_
    refine p_build (vs := [.slice none 0 0, .slice none 0 0, .slice A3 n3 c3]) pl_fnd z_fnd rfl ?_
    refine ⟨rfl, vy_of hY (x := .miss AT) rfl (hY.stay _ _ _ _ hJ1 M.below) hgo hnb ⟨A3, c3, by rw [en3]; rfl, hA3n, by rw [← en3]; exact M.d1 6 rfl⟩ ?_⟩
    intro gs' W5 hs5 hj
    have M := M.turn hs5 (fun b => hY.lt _ _ _ _ hj)
    exact ⟨gs', by rw [hRR]; rfl, M.stp 8 rfl, by rw [hRR]; exact hj⟩
  rw [if_neg h4] at hRR hNB
  refine p_fun #[] #[.tmp 6, .tmp 5, .tmp 7, .tmp 9] ?_
  cases back with
  | false =>
    dsimp only at hRR hNB
    obtain ⟨LL, hLLe⟩ : ∃ LL, LL = walkK s false t.kids (decide (t.kind = 3)) 0 AT := ⟨_, rfl⟩
    have hLn : LL.length = t.kids.length := by rw [hLLe, walkK_len]
    have hLL : ∀ i j k, i < t.kids.length → j = i → t.kids[j]? = some k → LL[i]? = some (walkP s false k (if decide (t.kind = 3) then AT ++ [UInt8.ofNat j] else AT)) := by
      rintro i j k - rfl h
      rw [hLLe, walkK_get s false _ AT _ 0 _ _ h, Nat.zero_add]
    rw [← hLLe] at hRR hNB
    rw [feed_app] at hRR
    rw [List.length_append] at hNB
    clear hLLe
    refine p_not rfl ?_
    refine cc is_own (own_any hY t s AT _ _ pre gn gp gw gy Ap cp Av cv Ak ck Ah ch Al cl Aq cq A3 n3 c3 _ M.fresh (hY.stay _ _ _ _ hJ1 M.below) hgo (by omega) (by omega)) ?_
    rintro e W2 ⟨gs1, rfl, hs1, hj1⟩
    refine ⟨_, rfl, ?_⟩
    replace M := M.turn hs1 (fun b => hY.lt _ _ _ _ hj1)
    have hfg := feed_go (ownF t s AT) pre hgo
    refine p_not rfl ?_
    cases hb1 : (feed go pre (ownF t s AT)).2 with
    | false =>
      rw [hb1] at hRR
      exact ⟨gs1, by rw [hRR]; rfl, M.stp 8 rfl, by rw [hRR]; exact hj1⟩
    | true =>
      rw [hb1] at hRR hfg
      obtain ⟨TL, hTL⟩ : ∃ TL : List Fnd, TL = [] := ⟨_, rfl⟩
      obtain ⟨p1, hp1⟩ : ∃ p1, p1 = (feed go pre (ownF t s AT)).1 := ⟨_, rfl⟩
      rw [← hp1] at hfg hj1 hRR
      have hRR : RR = feed go p1 (LL.flatten ++ TL) := by rw [hTL, List.append_nil]; exact hRR
      have hp1l : p1.length = pre.length + (ownF t s AT).length := by rw [hp1, feed_true _ _ hb1, List.length_append]
      have hNB : p1.length + (LL.flatten ++ TL).length ≤ NB := by rw [hTL, List.append_nil]; omega
      refine p_fld fN4 rfl ?_
      refine v_load agg_ns rfl (by first | exact (M.B 0 rfl).at_ rfl | exact (M.B 1 rfl).at_ rfl | exact (M.B 2 rfl).at_ rfl | exact (M.B 3 rfl).at_ rfl | exact (M.B 4 rfl).at_ rfl | exact M.lc 0 rfl _ _ rfl | exact M.lc 1 rfl _ _ rfl | exact M.lc 2 rfl _ _ rfl | exact M.lc 3 rfl _ _ rfl | exact M.lc 4 rfl _ _ rfl | exact M.lc 5 rfl _ _ rfl | exact M.lc 6 rfl _ _ rfl | exact M.lc 7 rfl _ _ rfl) ?_
      refine p_len sln rfl ?_
      refine lp (Nat × List (Option Nat) × List Fnd) (fun st W => st.1 ≤ t.kids.length ∧ St W st.2.1 W [] [] [.loc ⟨gn, 0, none⟩ (ncs t Ap cp Av cv Ak ck Ah ch), .loc ⟨gp, 0, none⟩ (scs s Al cl Aq cq), .loc ⟨gw, 0, none⟩ [.slice A3 n3 c3], .loc ⟨gy, 0, none⟩ [.func (.yield l) #[] #[]],
        .dat false [dB t.val] [.slice Av t.val.length cv], .dat false [dKs t.kids] [.slice Ak t.kids.length ck], .dat false [dB AT] [.slice A3 n3 c3], .dat false (dSp s) (scs s Al cl Aq cq), .stp w gs] ∧ J st.2.1 st.2.2 W ∧ go st.2.2 = true ∧ RR = feed go st.2.2 ((LL.drop st.1).flatten ++ TL) ∧ st.2.2.length + ((LL.drop st.1).flatten ++ TL).length ≤ NB)
        (fun st => [(3, .bool false), (5, .pointer (some ⟨gp, 0, none⟩)), (6, .pointer (some ⟨gn, 0, none⟩)), (7, .pointer (some ⟨gw, 0, none⟩)), (9, .pointer (some ⟨gy, 0, none⟩)), (11, .func (.func 88) #[] #[.pointer (some ⟨gn, 0, none⟩), .pointer (some ⟨gp, 0, none⟩), .pointer (some ⟨gw, 0, none⟩), .pointer (some ⟨gy, 0, none⟩)]), (46, .int .i64 t.kids.length), (47, .int .i64 st.1)]) (fun st => t.kids.length - st.1) (0, _, p1)
        ⟨Nat.zero_le _, M.fresh, hY.stay _ _ _ _ hj1 M.below, hfg, by rw [List.drop_zero]; exact hRR, by rw [List.drop_zero]; exact hNB⟩ (by repeat (first | exact trivial | refine ⟨rfl, ?_⟩)) ?_
      clear M hRR hNB
      rintro ⟨i, g2, p2⟩ E7 W7 ⟨hi, M, hj2, hg2, hR2, hN2⟩
      dsimp only at hi M hj2 hg2 hR2 hN2
      refine p_lt rfl rfl (fun hlt => ?_) (fun hge => ?_)
      · dsimp only at hlt
        have hlt' : i < t.kids.length := by omega
        obtain ⟨j, hj⟩ : ∃ j, j = i := ⟨_, rfl⟩
        have hjn : j < t.kids.length := by omega
        obtain ⟨k, hki⟩ : ∃ k, t.kids[j]? = some k := ⟨_, List.getElem?_eq_getElem hjn⟩
        have hkz := szs_mem (List.mem_of_getElem? hki)
        have hLi := hLL i j k hlt' hj hki
        refine v_load agg_b rfl (M.lc 2 rfl 0 _ rfl) ?_
        obtain ⟨b, off, es, rfl, hel, M'⟩ := M.kid (M.d1 5 rfl) hki
        replace M := M'; clear M'
        refine p_fld fN0 rfl ?_
        refine v_load agg_int rfl (by first | exact (M.B 0 rfl).at_ rfl | exact (M.B 1 rfl).at_ rfl | exact (M.B 2 rfl).at_ rfl | exact (M.B 3 rfl).at_ rfl | exact (M.B 4 rfl).at_ rfl | exact M.lc 0 rfl _ _ rfl | exact M.lc 1 rfl _ _ rfl | exact M.lc 2 rfl _ _ rfl | exact M.lc 3 rfl _ _ rfl | exact M.lc 4 rfl _ _ rfl | exact M.lc 5 rfl _ _ rfl | exact M.lc 6 rfl _ _ rfl | exact M.lc 7 rfl _ _ rfl) ?_
        refine p_eq rfl rfl (fun h3 => ?_) (fun h3 => ?_)
        · rw [decide_eq_true h3] at hLi
          simp only [if_true] at hLi
          refine v_load agg_b rfl (M.lc 4 rfl 0 _ rfl) ?_
          refine cc is_sclone (sclone_any _ A3 n3 c3 AT _ (M.d1 8 rfl) (by omega)) ?_
          rintro e W ⟨A4, c4, rfl, o4, hA4, hb⟩
          replace M := M.callR (r := ⟨5, 1, A4, n3, c4, bvs AT⟩) hb o4
          refine ⟨_, rfl, ?_⟩
          refine v_cvt u_int u_u8 rfl (r := ((j % 256 : Nat) : Int)) (by rw [IntKind.wrap_u8']; omega) ?_
          refine s_litB [.int .u8 ((j % 256 : Nat) : Int)] [UInt8.ofNat j] M (by decide) rfl (bvs1 j) rfl ?_
          clear M; rintro g9 W M
          replace M := M.frzO
          refine s_appB M rfl rfl (M.rdb 0 rfl).2.2 (by omega) ?_
          clear M; rintro A9 c9 W M -
          replace M := M.frzO
          obtain ⟨TO, hTO⟩ : ∃ TO, TO = AT ++ [UInt8.ofNat j] := ⟨_, rfl⟩
          rw [← hTO] at M hLi
          replace M := M.fsub [.dat true [dB TO] [.slice A9 (n3 + 1) c9], .loc ((⟨b, off, none⟩ : Addr).add (j * 6)) es, .dat false (dN k) es, .loc ⟨gn, 0, none⟩ (ncs t Ap cp Av cv (some ⟨b, off, none⟩) ck Ah ch), .loc ⟨gp, 0, none⟩ (scs s Al cl Aq cq), .loc ⟨gw, 0, none⟩ [.slice A3 n3 c3], .loc ⟨gy, 0, none⟩ [.func (.yield l) #[] #[]],
        .dat false [dB t.val] [.slice Av t.val.length cv], .dat false [dKs t.kids] [.slice (some ⟨b, off, none⟩) t.kids.length ck], .dat false [dB AT] [.slice A3 n3 c3], .dat false (dSp s) (scs s Al cl Aq cq), .stp w gs] (by intro f hf; simp only [List.mem_cons, List.not_mem_nil, or_false] at hf ⊢; rcases hf with h | h | h | h | h | h | h | h | h | h | h | h <;> simp [h])
          obtain ⟨DL, hDL⟩ : ∃ DL, DL = LL.drop (i + 1) := ⟨_, rfl⟩
          rw [drop_get (x := walkP s false k TO) (by first | exact hLi | exact (hLi ▸ rfl)), ← hDL, List.flatten_cons, List.append_assoc] at hR2 hN2
          rw [feed_app] at hR2
          rw [List.length_append] at hN2
          have hn2 : p2.length + (walkP s false k TO).length ≤ NB := by omega
          replace M := M.drew
          have hkn : sz k + (n3 + 1) ≤ 1000000 := by omega
          have hkN : sz k < N := by omega
          refine drT (fun W => (∀ j x, (scs s Al cl Aq cq)[j]? = some x → W.cell? ((⟨gp, 0, none⟩ : Addr).add j) = some x) ∧ (∀ j x, (ncs t Ap cp Av cv (some ⟨b, off, none⟩) ck Ah ch)[j]? = some x → W.cell? ((⟨gn, 0, none⟩ : Addr).add j) = some x) ∧ W.cell? ⟨gy, 0, none⟩ = some (.func (.yield l) #[] #[]) ∧ (∀ j' x, es[j']? = some x → W.cell? ((((⟨b, off, none⟩ : Addr).add (j * 6))).add j') = some x)) (.take 0 (.take 1 (.take 2 (.take 3 (.take 4 (.take 5 (.take 6 (.take 7 (.take 8 (.one 9 (.take 10 (.nil)))))))))))) (by kernel_rfl) ⟨by first | exact M.lc 3 rfl | exact M.lc 4 rfl, by first | exact M.lc 2 rfl | exact M.lc 3 rfl, by first | exact M.lc 5 rfl 0 _ rfl | exact M.lc 6 rfl 0 _ rfl, by first | exact M.lc 0 rfl | exact M.lc 1 rfl⟩ ?_
          refine t_loadN (scs s Al cl Aq cq) agg_sp rfl rfl (fun W h => h.1) ?_
          refine p_fld fN4 rfl ?_
          refine t_load agg_ns rfl (fun W h => h.2.1 4 _ rfl) ?_
          refine p_at (i := j) sln rfl rfl (by first | rfl | (rw [hj])) hjn ?_
          refine t_loadN es agg_nd rfl hel (fun W h => h.2.2.2) ?_
          refine t_load agg_yf rfl (fun W h => h.2.2.1) ?_
          refine cc is_walk (ih k hkN hY _ _ p2 TO _ _ _ es (scs s Al cl Aq cq) (by first | exact M.da 9 rfl | exact M.da 10 rfl) (by first | exact M.da 1 rfl | exact M.da 2 rfl) (by first | exact M.d1 8 rfl | exact M.d1 0 rfl) (hY.stay _ _ _ _ hj2 M.below) hg2 hn2 hkn) ?_
          rintro e W8 ⟨gs3, rfl, hs3, hj3⟩
          replace M := M.turn hs3 (fun b => hY.lt _ _ _ _ hj3)
          refine ⟨_, rfl, ⟨by first | exact M.lc 3 rfl | exact M.lc 4 rfl, by first | exact M.lc 2 rfl | exact M.lc 3 rfl, by first | exact M.lc 5 rfl 0 _ rfl | exact M.lc 6 rfl 0 _ rfl, by first | exact M.lc 0 rfl | exact M.lc 1 rfl⟩, ?_⟩
          refine p_not rfl ?_
          have hfg := feed_go (walkP s false k TO) p2 hg2
          cases hb3 : (feed go p2 (walkP s false k TO)).2 with
          | false =>
            rw [hb3] at hR2
            refine ⟨gs3, by rw [hR2]; rfl, by first | exact M.stp 10 rfl | exact M.stp 11 rfl, by rw [hR2]; exact hj3⟩
          | true =>
            rw [hb3] at hR2 hfg
            refine p_add rfl rfl (r := ((i + 1 : Nat) : Int)) ((w64 (by omega)).trans (by omega)) ?_
            refine ⟨(i + 1, gs3, (feed go p2 (walkP s false k TO)).1), ⟨by dsimp only; omega, M.fsub _ ?_, hj3, hfg, by rw [← hDL]; exact hR2, by dsimp only; rw [← hDL, feed_true _ _ hb3, List.length_append]; omega⟩, (by repeat (first | exact trivial | refine ⟨rfl, ?_⟩)), by dsimp only; omega⟩
            intro f hf
            simp only [List.map, Fact.weak, List.mem_cons, List.not_mem_nil, or_false] at hf ⊢
            rcases hf with h | h | h | h | h | h | h | h | h <;> simp [h, own]
        · rw [decide_eq_false h3] at hLi
          simp only [Bool.false_eq_true, if_false] at hLi
          obtain ⟨DL, hDL⟩ : ∃ DL, DL = LL.drop (i + 1) := ⟨_, rfl⟩
          rw [drop_get (x := walkP s false k AT) (by first | exact hLi | exact (hLi ▸ rfl)), ← hDL, List.flatten_cons, List.append_assoc] at hR2 hN2
          rw [feed_app] at hR2
          rw [List.length_append] at hN2
          have hn2 : p2.length + (walkP s false k AT).length ≤ NB := by omega
          replace M := M.drew
          have hkn : sz k + n3 ≤ 1000000 := by omega
          have hkN : sz k < N := by omega
          refine drT (fun W => (∀ j x, (scs s Al cl Aq cq)[j]? = some x → W.cell? ((⟨gp, 0, none⟩ : Addr).add j) = some x) ∧ (∀ j x, (ncs t Ap cp Av cv (some ⟨b, off, none⟩) ck Ah ch)[j]? = some x → W.cell? ((⟨gn, 0, none⟩ : Addr).add j) = some x) ∧ W.cell? ⟨gy, 0, none⟩ = some (.func (.yield l) #[] #[]) ∧ (∀ j' x, es[j']? = some x → W.cell? ((((⟨b, off, none⟩ : Addr).add (j * 6))).add j') = some x)) (.take 0 (.take 1 (.take 2 (.take 3 (.take 4 (.take 5 (.take 6 (.take 7 (.take 8 (.one 9 (.take 10 (.nil)))))))))))) (by kernel_rfl) ⟨by first | exact M.lc 3 rfl | exact M.lc 4 rfl, by first | exact M.lc 2 rfl | exact M.lc 3 rfl, by first | exact M.lc 5 rfl 0 _ rfl | exact M.lc 6 rfl 0 _ rfl, by first | exact M.lc 0 rfl | exact M.lc 1 rfl⟩ ?_
          refine t_loadN (scs s Al cl Aq cq) agg_sp rfl rfl (fun W h => h.1) ?_
          refine p_fld fN4 rfl ?_
          refine t_load agg_ns rfl (fun W h => h.2.1 4 _ rfl) ?_
          refine p_at (i := j) sln rfl rfl (by first | rfl | (rw [hj])) hjn ?_
          refine t_loadN es agg_nd rfl hel (fun W h => h.2.2.2) ?_
          refine t_load agg_yf rfl (fun W h => h.2.2.1) ?_
          refine cc is_walk (ih k hkN hY _ _ p2 AT _ _ _ es (scs s Al cl Aq cq) (by first | exact M.da 9 rfl | exact M.da 10 rfl) (by first | exact M.da 1 rfl | exact M.da 2 rfl) (by first | exact M.d1 8 rfl | exact M.d1 0 rfl) (hY.stay _ _ _ _ hj2 M.below) hg2 hn2 hkn) ?_
          rintro e W8 ⟨gs3, rfl, hs3, hj3⟩
          replace M := M.turn hs3 (fun b => hY.lt _ _ _ _ hj3)
          refine ⟨_, rfl, ⟨by first | exact M.lc 3 rfl | exact M.lc 4 rfl, by first | exact M.lc 2 rfl | exact M.lc 3 rfl, by first | exact M.lc 5 rfl 0 _ rfl | exact M.lc 6 rfl 0 _ rfl, by first | exact M.lc 0 rfl | exact M.lc 1 rfl⟩, ?_⟩
          refine p_not rfl ?_
          have hfg := feed_go (walkP s false k AT) p2 hg2
          cases hb3 : (feed go p2 (walkP s false k AT)).2 with
          | false =>
            rw [hb3] at hR2
            refine ⟨gs3, by rw [hR2]; rfl, by first | exact M.stp 10 rfl | exact M.stp 11 rfl, by rw [hR2]; exact hj3⟩
          | true =>
            rw [hb3] at hR2 hfg
            refine p_add rfl rfl (r := ((i + 1 : Nat) : Int)) ((w64 (by omega)).trans (by omega)) ?_
            refine ⟨(i + 1, gs3, (feed go p2 (walkP s false k AT)).1), ⟨by dsimp only; omega, M.fsub _ ?_, hj3, hfg, by rw [← hDL]; exact hR2, by dsimp only; rw [← hDL, feed_true _ _ hb3, List.length_append]; omega⟩, (by repeat (first | exact trivial | refine ⟨rfl, ?_⟩)), by dsimp only; omega⟩
            intro f hf
            simp only [List.map, Fact.weak, List.mem_cons, List.not_mem_nil, or_false] at hf ⊢
            rcases hf with h | h | h | h | h | h | h | h | h <;> simp [h, own]
      · have hin : i = t.kids.length := by dsimp only at hge; omega
        rw [List.drop_of_length_le (by rw [hLn]; omega), List.flatten_nil, List.nil_append] at hR2 hN2
        refine p_not rfl ?_
        exact ⟨g2, by rw [hR2, hTL]; rfl, M.stp 8 rfl, by rw [hR2, hTL]; exact hj2⟩
  | true =>
    dsimp only at hRR hNB
    obtain ⟨LL, hLLe⟩ : ∃ LL, LL = (walkK s true t.kids (decide (t.kind = 3)) 0 AT).reverse := ⟨_, rfl⟩
    have hLn : LL.length = t.kids.length := by rw [hLLe, List.length_reverse, walkK_len]
    have hLL : ∀ i j k, i < t.kids.length → j = t.kids.length - 1 - i → t.kids[j]? = some k → LL[i]? = some (walkP s true k (if decide (t.kind = 3) then AT ++ [UInt8.ofNat j] else AT)) := by
      rintro i j k hi rfl h
      rw [hLLe]
      refine rev_get (walkK_len s true _ AT _ 0) hi ?_
      rw [walkK_get s true _ AT _ 0 _ _ h, Nat.zero_add]
    rw [← hLLe] at hRR hNB
    clear hLLe
    obtain ⟨TL, hTL⟩ : ∃ TL : List Fnd, TL = ownF t s AT := ⟨_, rfl⟩
    rw [← hTL] at hRR hNB
    refine p_not rfl ?_
    refine p_fld fN4 rfl ?_
    refine v_load agg_ns rfl (by first | exact (M.B 0 rfl).at_ rfl | exact (M.B 1 rfl).at_ rfl | exact (M.B 2 rfl).at_ rfl | exact (M.B 3 rfl).at_ rfl | exact (M.B 4 rfl).at_ rfl | exact M.lc 0 rfl _ _ rfl | exact M.lc 1 rfl _ _ rfl | exact M.lc 2 rfl _ _ rfl | exact M.lc 3 rfl _ _ rfl | exact M.lc 4 rfl _ _ rfl | exact M.lc 5 rfl _ _ rfl | exact M.lc 6 rfl _ _ rfl | exact M.lc 7 rfl _ _ rfl) ?_
    refine p_len sln rfl ?_
    refine lp (Nat × List (Option Nat) × List Fnd) (fun st W => st.1 ≤ t.kids.length ∧ St W st.2.1 W [] [] [.loc ⟨gn, 0, none⟩ (ncs t Ap cp Av cv Ak ck Ah ch), .loc ⟨gp, 0, none⟩ (scs s Al cl Aq cq), .loc ⟨gw, 0, none⟩ [.slice A3 n3 c3], .loc ⟨gy, 0, none⟩ [.func (.yield l) #[] #[]],
      .dat false [dB t.val] [.slice Av t.val.length cv], .dat false [dKs t.kids] [.slice Ak t.kids.length ck], .dat false [dB AT] [.slice A3 n3 c3], .dat false (dSp s) (scs s Al cl Aq cq), .stp w gs] ∧ J st.2.1 st.2.2 W ∧ go st.2.2 = true ∧ RR = feed go st.2.2 ((LL.drop st.1).flatten ++ TL) ∧ st.2.2.length + ((LL.drop st.1).flatten ++ TL).length ≤ NB)
      (fun st => [(3, .bool true), (5, .pointer (some ⟨gp, 0, none⟩)), (6, .pointer (some ⟨gn, 0, none⟩)), (7, .pointer (some ⟨gw, 0, none⟩)), (9, .pointer (some ⟨gy, 0, none⟩)), (11, .func (.func 88) #[] #[.pointer (some ⟨gn, 0, none⟩), .pointer (some ⟨gp, 0, none⟩), .pointer (some ⟨gw, 0, none⟩), .pointer (some ⟨gy, 0, none⟩)]), (46, .int .i64 t.kids.length), (47, .int .i64 st.1)]) (fun st => t.kids.length - st.1) (0, _, pre)
      ⟨Nat.zero_le _, M.fresh, hY.stay _ _ _ _ hJ1 M.below, hgo, by rw [List.drop_zero]; exact hRR, by rw [List.drop_zero]; exact hNB⟩ (by repeat (first | exact trivial | refine ⟨rfl, ?_⟩)) ?_
    clear M hRR hNB
    rintro ⟨i, g2, p2⟩ E7 W7 ⟨hi, M, hj2, hg2, hR2, hN2⟩
    dsimp only at hi M hj2 hg2 hR2 hN2
    refine p_lt rfl rfl (fun hlt => ?_) (fun hge => ?_)
    · dsimp only at hlt
      have hlt' : i < t.kids.length := by omega
      obtain ⟨j, hj⟩ : ∃ j, j = t.kids.length - 1 - i := ⟨_, rfl⟩
      have hjn : j < t.kids.length := by omega
      obtain ⟨k, hki⟩ : ∃ k, t.kids[j]? = some k := ⟨_, List.getElem?_eq_getElem hjn⟩
      have hkz := szs_mem (List.mem_of_getElem? hki)
      have hLi := hLL i j k hlt' hj hki
      refine p_fld fN4 rfl ?_
      refine v_load agg_ns rfl (by first | exact (M.B 0 rfl).at_ rfl | exact (M.B 1 rfl).at_ rfl | exact (M.B 2 rfl).at_ rfl | exact (M.B 3 rfl).at_ rfl | exact (M.B 4 rfl).at_ rfl | exact M.lc 0 rfl _ _ rfl | exact M.lc 1 rfl _ _ rfl | exact M.lc 2 rfl _ _ rfl | exact M.lc 3 rfl _ _ rfl | exact M.lc 4 rfl _ _ rfl | exact M.lc 5 rfl _ _ rfl | exact M.lc 6 rfl _ _ rfl | exact M.lc 7 rfl _ _ rfl) ?_
      refine p_len sln rfl ?_
      refine p_subN (a := t.kids.length) (b := 1) rfl rfl (by omega) (by omega) ?_
      refine p_subN (a := t.kids.length - 1) (b := i) rfl rfl (by omega) (by omega) ?_
      rw [← hj]
      refine v_load agg_b rfl (M.lc 2 rfl 0 _ rfl) ?_
      obtain ⟨b, off, es, rfl, hel, M'⟩ := M.kid (M.d1 5 rfl) hki
      replace M := M'; clear M'
      refine p_fld fN0 rfl ?_
      refine v_load agg_int rfl (by first | exact (M.B 0 rfl).at_ rfl | exact (M.B 1 rfl).at_ rfl | exact (M.B 2 rfl).at_ rfl | exact (M.B 3 rfl).at_ rfl | exact (M.B 4 rfl).at_ rfl | exact M.lc 0 rfl _ _ rfl | exact M.lc 1 rfl _ _ rfl | exact M.lc 2 rfl _ _ rfl | exact M.lc 3 rfl _ _ rfl | exact M.lc 4 rfl _ _ rfl | exact M.lc 5 rfl _ _ rfl | exact M.lc 6 rfl _ _ rfl | exact M.lc 7 rfl _ _ rfl) ?_
      refine p_eq rfl rfl (fun h3 => ?_) (fun h3 => ?_)
      · rw [decide_eq_true h3] at hLi
        simp only [if_true] at hLi
        refine v_load agg_b rfl (M.lc 4 rfl 0 _ rfl) ?_
        refine cc is_sclone (sclone_any _ A3 n3 c3 AT _ (M.d1 8 rfl) (by omega)) ?_
        rintro e W ⟨A4, c4, rfl, o4, hA4, hb⟩
        replace M := M.callR (r := ⟨5, 1, A4, n3, c4, bvs AT⟩) hb o4
        refine ⟨_, rfl, ?_⟩
        refine v_cvt u_int u_u8 rfl (r := ((j % 256 : Nat) : Int)) (by rw [IntKind.wrap_u8']; omega) ?_
        refine s_litB [.int .u8 ((j % 256 : Nat) : Int)] [UInt8.ofNat j] M (by decide) rfl (bvs1 j) rfl ?_
        clear M; rintro g9 W M
        replace M := M.frzO
        refine s_appB M rfl rfl (M.rdb 0 rfl).2.2 (by omega) ?_
        clear M; rintro A9 c9 W M -
        replace M := M.frzO
        obtain ⟨TO, hTO⟩ : ∃ TO, TO = AT ++ [UInt8.ofNat j] := ⟨_, rfl⟩
        rw [← hTO] at M hLi
        replace M := M.fsub [.dat true [dB TO] [.slice A9 (n3 + 1) c9], .loc ((⟨b, off, none⟩ : Addr).add (j * 6)) es, .dat false (dN k) es, .loc ⟨gn, 0, none⟩ (ncs t Ap cp Av cv (some ⟨b, off, none⟩) ck Ah ch), .loc ⟨gp, 0, none⟩ (scs s Al cl Aq cq), .loc ⟨gw, 0, none⟩ [.slice A3 n3 c3], .loc ⟨gy, 0, none⟩ [.func (.yield l) #[] #[]],
      .dat false [dB t.val] [.slice Av t.val.length cv], .dat false [dKs t.kids] [.slice (some ⟨b, off, none⟩) t.kids.length ck], .dat false [dB AT] [.slice A3 n3 c3], .dat false (dSp s) (scs s Al cl Aq cq), .stp w gs] (by intro f hf; simp only [List.mem_cons, List.not_mem_nil, or_false] at hf ⊢; rcases hf with h | h | h | h | h | h | h | h | h | h | h | h <;> simp [h])
        obtain ⟨DL, hDL⟩ : ∃ DL, DL = LL.drop (i + 1) := ⟨_, rfl⟩
        rw [drop_get (x := walkP s true k TO) (by first | exact hLi | exact (hLi ▸ rfl)), ← hDL, List.flatten_cons, List.append_assoc] at hR2 hN2
        rw [feed_app] at hR2
        rw [List.length_append] at hN2
        have hn2 : p2.length + (walkP s true k TO).length ≤ NB := by omega
        replace M := M.drew
        have hkn : sz k + (n3 + 1) ≤ 1000000 := by omega
        have hkN : sz k < N := by omega
        refine drT (fun W => (∀ j x, (scs s Al cl Aq cq)[j]? = some x → W.cell? ((⟨gp, 0, none⟩ : Addr).add j) = some x) ∧ (∀ j x, (ncs t Ap cp Av cv (some ⟨b, off, none⟩) ck Ah ch)[j]? = some x → W.cell? ((⟨gn, 0, none⟩ : Addr).add j) = some x) ∧ W.cell? ⟨gy, 0, none⟩ = some (.func (.yield l) #[] #[]) ∧ (∀ j' x, es[j']? = some x → W.cell? ((((⟨b, off, none⟩ : Addr).add (j * 6))).add j') = some x)) (.take 0 (.take 1 (.take 2 (.take 3 (.take 4 (.take 5 (.take 6 (.take 7 (.take 8 (.one 9 (.take 10 (.nil)))))))))))) (by kernel_rfl) ⟨by first | exact M.lc 3 rfl | exact M.lc 4 rfl, by first | exact M.lc 2 rfl | exact M.lc 3 rfl, by first | exact M.lc 5 rfl 0 _ rfl | exact M.lc 6 rfl 0 _ rfl, by first | exact M.lc 0 rfl | exact M.lc 1 rfl⟩ ?_
        refine t_loadN (scs s Al cl Aq cq) agg_sp rfl rfl (fun W h => h.1) ?_
        refine p_fld fN4 rfl ?_
        refine t_load agg_ns rfl (fun W h => h.2.1 4 _ rfl) ?_
        refine p_at (i := j) sln rfl rfl (by first | rfl | (rw [hj])) hjn ?_
        refine t_loadN es agg_nd rfl hel (fun W h => h.2.2.2) ?_
        refine t_load agg_yf rfl (fun W h => h.2.2.1) ?_
        refine cc is_walk (ih k hkN hY _ _ p2 TO _ _ _ es (scs s Al cl Aq cq) (by first | exact M.da 9 rfl | exact M.da 10 rfl) (by first | exact M.da 1 rfl | exact M.da 2 rfl) (by first | exact M.d1 8 rfl | exact M.d1 0 rfl) (hY.stay _ _ _ _ hj2 M.below) hg2 hn2 hkn) ?_
        rintro e W8 ⟨gs3, rfl, hs3, hj3⟩
        replace M := M.turn hs3 (fun b => hY.lt _ _ _ _ hj3)
        refine ⟨_, rfl, ⟨by first | exact M.lc 3 rfl | exact M.lc 4 rfl, by first | exact M.lc 2 rfl | exact M.lc 3 rfl, by first | exact M.lc 5 rfl 0 _ rfl | exact M.lc 6 rfl 0 _ rfl, by first | exact M.lc 0 rfl | exact M.lc 1 rfl⟩, ?_⟩
        refine p_not rfl ?_
        have hfg := feed_go (walkP s true k TO) p2 hg2
        cases hb3 : (feed go p2 (walkP s true k TO)).2 with
        | false =>
          rw [hb3] at hR2
          refine ⟨gs3, by rw [hR2]; rfl, by first | exact M.stp 10 rfl | exact M.stp 11 rfl, by rw [hR2]; exact hj3⟩
        | true =>
          rw [hb3] at hR2 hfg
          refine p_add rfl rfl (r := ((i + 1 : Nat) : Int)) ((w64 (by omega)).trans (by omega)) ?_
          refine ⟨(i + 1, gs3, (feed go p2 (walkP s true k TO)).1), ⟨by dsimp only; omega, M.fsub _ ?_, hj3, hfg, by rw [← hDL]; exact hR2, by dsimp only; rw [← hDL, feed_true _ _ hb3, List.length_append]; omega⟩, (by repeat (first | exact trivial | refine ⟨rfl, ?_⟩)), by dsimp only; omega⟩
          intro f hf
          simp only [List.map, Fact.weak, List.mem_cons, List.not_mem_nil, or_false] at hf ⊢
          rcases hf with h | h | h | h | h | h | h | h | h <;> simp [h, own]
      · rw [decide_eq_false h3] at hLi
        simp only [Bool.false_eq_true, if_false] at hLi
        obtain ⟨DL, hDL⟩ : ∃ DL, DL = LL.drop (i + 1) := ⟨_, rfl⟩
        rw [drop_get (x := walkP s true k AT) (by first | exact hLi | exact (hLi ▸ rfl)), ← hDL, List.flatten_cons, List.append_assoc] at hR2 hN2
        rw [feed_app] at hR2
        rw [List.length_append] at hN2
        have hn2 : p2.length + (walkP s true k AT).length ≤ NB := by omega
        replace M := M.drew
        have hkn : sz k + n3 ≤ 1000000 := by omega
        have hkN : sz k < N := by omega
        refine drT (fun W => (∀ j x, (scs s Al cl Aq cq)[j]? = some x → W.cell? ((⟨gp, 0, none⟩ : Addr).add j) = some x) ∧ (∀ j x, (ncs t Ap cp Av cv (some ⟨b, off, none⟩) ck Ah ch)[j]? = some x → W.cell? ((⟨gn, 0, none⟩ : Addr).add j) = some x) ∧ W.cell? ⟨gy, 0, none⟩ = some (.func (.yield l) #[] #[]) ∧ (∀ j' x, es[j']? = some x → W.cell? ((((⟨b, off, none⟩ : Addr).add (j * 6))).add j') = some x)) (.take 0 (.take 1 (.take 2 (.take 3 (.take 4 (.take 5 (.take 6 (.take 7 (.take 8 (.one 9 (.take 10 (.nil)))))))))))) (by kernel_rfl) ⟨by first | exact M.lc 3 rfl | exact M.lc 4 rfl, by first | exact M.lc 2 rfl | exact M.lc 3 rfl, by first | exact M.lc 5 rfl 0 _ rfl | exact M.lc 6 rfl 0 _ rfl, by first | exact M.lc 0 rfl | exact M.lc 1 rfl⟩ ?_
        refine t_loadN (scs s Al cl Aq cq) agg_sp rfl rfl (fun W h => h.1) ?_
        refine p_fld fN4 rfl ?_
        refine t_load agg_ns rfl (fun W h => h.2.1 4 _ rfl) ?_
        refine p_at (i := j) sln rfl rfl (by first | rfl | (rw [hj])) hjn ?_
        refine t_loadN es agg_nd rfl hel (fun W h => h.2.2.2) ?_
        refine t_load agg_yf rfl (fun W h => h.2.2.1) ?_
        refine cc is_walk (ih k hkN hY _ _ p2 AT _ _ _ es (scs s Al cl Aq cq) (by first | exact M.da 9 rfl | exact M.da 10 rfl) (by first | exact M.da 1 rfl | exact M.da 2 rfl) (by first | exact M.d1 8 rfl | exact M.d1 0 rfl) (hY.stay _ _ _ _ hj2 M.below) hg2 hn2 hkn) ?_
        rintro e W8 ⟨gs3, rfl, hs3, hj3⟩
        replace M := M.turn hs3 (fun b => hY.lt _ _ _ _ hj3)
        refine ⟨_, rfl, ⟨by first | exact M.lc 3 rfl | exact M.lc 4 rfl, by first | exact M.lc 2 rfl | exact M.lc 3 rfl, by first | exact M.lc 5 rfl 0 _ rfl | exact M.lc 6 rfl 0 _ rfl, by first | exact M.lc 0 rfl | exact M.lc 1 rfl⟩, ?_⟩
        refine p_not rfl ?_
        have hfg := feed_go (walkP s true k AT) p2 hg2
        cases hb3 : (feed go p2 (walkP s true k AT)).2 with
        | false =>
          rw [hb3] at hR2
          refine ⟨gs3, by rw [hR2]; rfl, by first | exact M.stp 10 rfl | exact M.stp 11 rfl, by rw [hR2]; exact hj3⟩
        | true =>
          rw [hb3] at hR2 hfg
          refine p_add rfl rfl (r := ((i + 1 : Nat) : Int)) ((w64 (by omega)).trans (by omega)) ?_
          refine ⟨(i + 1, gs3, (feed go p2 (walkP s true k AT)).1), ⟨by dsimp only; omega, M.fsub _ ?_, hj3, hfg, by rw [← hDL]; exact hR2, by dsimp only; rw [← hDL, feed_true _ _ hb3, List.length_append]; omega⟩, (by repeat (first | exact trivial | refine ⟨rfl, ?_⟩)), by dsimp only; omega⟩
          intro f hf
          simp only [List.map, Fact.weak, List.mem_cons, List.not_mem_nil, or_false] at hf ⊢
          rcases hf with h | h | h | h | h | h | h | h | h <;> simp [h, own]
    · have hin : i = t.kids.length := by dsimp only at hge; omega
      rw [List.drop_of_length_le (by rw [hLn]; omega), List.flatten_nil, List.nil_append] at hR2 hN2
      rw [hTL] at hR2 hN2
      refine p_not rfl ?_
      refine cc is_own (own_any hY t s AT _ _ p2 gn gp gw gy Ap cp Av cv Ak ck Ah ch Al cl Aq cq A3 n3 c3 _ M.fresh (hY.stay _ _ _ _ hj2 M.below) hg2 hN2 (by omega)) ?_
      rintro e W2 ⟨gs1, rfl, hs1, hj1⟩
      refine ⟨_, rfl, ?_⟩
      replace M := M.turn hs1 (fun b => hY.lt _ _ _ _ hj1)
      exact ⟨gs1, by rw [hR2]; rfl, M.stp 8 rfl, by rw [hR2]; exact hj1⟩
end Go.Proofs.YtdlljmmgkoeilaaDoor
namespace Go.Proofs.YtdlljmmgkoeilaaDoor
open Go.RowKit
theorem walk_any (s : Span) (hs : s.lo.length ≤ 1000000 ∧ s.hi.length ≤ 1000000) (back : Bool) : ∀ (N : Nat), ∀ t : Nd, sz t < N → WalkOk s back t
  | 0, t, h => by omega
  | N + 1, t, h => walk_step s hs back N (fun k hk => walk_any s hs back N k hk) t (by omega)
theorem is_all : isFn Tryd.prog 68 = true := by kernel_rfl
theorem is_all1 : isFn Tryd.prog 80 = true := by kernel_rfl
set_option maxRecDepth 100000 in
set_option maxHeartbeats 1000000 in
theorem all1_any {l : Nat} {go : List Fnd → Bool} {J : List (Option Nat) → List Fnd → World → Prop} {NB : Nat} (hY : YOk Tryd.prog l FndG go NB J) (t : Nd) (s : Span) (back : Bool) (W : World) (gs : List (Option Nat)) (gp gn gb : Nat) (cs ss : List Value) (fs : List Fact) (hcl : cs.length = 6) (hsl : ss.length = 3)
    (M : St W gs W [] [] (.loc ⟨gp, 0, none⟩ ss :: .loc ⟨gn, 0, none⟩ cs :: .loc ⟨gb, 0, none⟩ [.bool back] :: .dat false (dSp s) ss :: .dat false (dN t) cs :: fs)) (hJ : J gs [] W) (hgo : go [] = true) (hNB : (walkP s back t []).length ≤ NB) (hz : sz t ≤ 1000000 ∧ s.lo.length ≤ 1000000 ∧ s.hi.length ≤ 1000000) :
    Calls Tryd.prog 80 #[.func (.yield l) #[] #[], .pointer (some ⟨gp, 0, none⟩), .pointer (some ⟨gn, 0, none⟩), .pointer (some ⟨gb, 0, none⟩)] W fun e W' => (∃ v, e = .returned v) ∧ ∃ gs', J gs' (feed go [] (walkP s back t [])).1 W' := by
  refine calls_ev (args := [.func (.yield l) #[] #[], .pointer (some ⟨gp, 0, none⟩), .pointer (some ⟨gn, 0, none⟩), .pointer (some ⟨gb, 0, none⟩)]) mixed Tryd.func80 rfl (by kernel_rfl) ?_
  refine v_loadN ss agg_sp rfl hsl (M.lc 0 rfl) ?_
  refine v_loadN cs agg_nd rfl hcl (M.lc 1 rfl) ?_
  refine v_load agg_bo rfl (M.lc 2 rfl 0 _ rfl) ?_
  refine cc is_walk (walk_any s hz.2 back _ t (Nat.lt_succ_self _) hY W gs [] [] none 0 0 cs ss (M.da 3 rfl) (M.da 4 rfl) (RdD.nil_ _ _) hJ hgo (by simpa using hNB) (by omega)) ?_
  rintro e W' ⟨gs', rfl, -, hj⟩
  exact ⟨_, rfl, ⟨_, rfl⟩, gs', hj⟩
set_option maxRecDepth 100000 in
set_option maxHeartbeats 1000000 in
theorem all_any {w W : World} {gs : List (Option Nat)} {L : Lc} {R : List Row} {fs : List Fact} (M : St w gs W L R fs) (back : Bool) (cs ss : List Value) :
    Calls Tryd.prog 68 #[.agg ss.toArray, .agg cs.toArray, .bool back] W fun e W' => ∃ gp gn gb, e = .returned (.func (.func 80) #[] #[.pointer (some ⟨gp, 0, none⟩), .pointer (some ⟨gn, 0, none⟩), .pointer (some ⟨gb, 0, none⟩)]) ∧
      St w gs W' L R (.loc ⟨gp, 0, none⟩ ss :: .loc ⟨gn, 0, none⟩ cs :: .loc ⟨gb, 0, none⟩ [.bool back] :: fs) := by
  refine calls_ev (args := [.agg ss.toArray, .agg cs.toArray, .bool back]) mixed Tryd.func68 rfl (by kernel_rfl) ?_
  refine s_box (ss) M rfl ?_
  clear M
  rintro gp W M
  replace M := M.frzL
  refine s_box (cs) M rfl ?_
  clear M
  rintro gn W M
  replace M := M.frzL
  refine s_box ([.bool back]) M rfl ?_
  clear M
  rintro gb W M
  replace M := M.frzL
  refine p_fun #[] #[.tmp 3, .tmp 4, .tmp 5] ?_
  exact ⟨gp, gn, gb, rfl, M.fsub _ (by intro f hf; simp only [List.mem_cons] at hf ⊢; rcases hf with h | h | h | h <;> simp [h])⟩
end Go.Proofs.YtdlljmmgkoeilaaDoor
