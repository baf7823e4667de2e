/- The walk of the law TrieModel. -/
import Derived.Test.YtkfbkhahkkmcoaaG19
namespace Go.Proofs.Ytkfbkhahkkmcoaa
open Go.RowKit

/-- What a trie and a row of pairs have to do with each other. -/
structure Mo (i : Nat) (n : Nd) (left : List Pr) : Prop where
  full : Full n
  mem : ∀ y, y ∈ prsT n ↔ y ∈ left
  len : left.length ≤ i
  small : ∀ p ∈ left, p.k.length ≤ 200 ∧ p.v.length ≤ 4000
  size : sz n ≤ 6 + 4530 * i
theorem Mo.start : Mo 0 noneN [] := ⟨full_none, fun y => by rw [prs_none], Nat.le_refl _, fun p h => (by cases h), (show sz noneN ≤ 6 from Nat.le_refl _)⟩
theorem filter_len {left : List Pr} (f : Pr → Bool) : (left.filter f).length ≤ left.length := List.length_filter_le _ _
theorem Mo.drop {i : Nat} {n m : Nd} {left : List Pr} {k : List UInt8} (h : Mo i n left) (hf : Full m) (hp : prsT m = (prsT n).filter fun p => decide (p.k ≠ k)) (hz : sz m ≤ sz n) : Mo (i + 1) m (left.filter fun p => decide (p.k ≠ k)) :=
  ⟨hf, fun y => by rw [hp, List.mem_filter, List.mem_filter, h.mem], by have := h.len; have := filter_len (left := left) (fun p => decide (p.k ≠ k)); omega, fun p hp => h.small p (List.mem_filter.1 hp).1, by have := h.size; omega⟩
theorem Mo.put {i : Nat} {n m : Nd} {left : List Pr} {p : Pr} (h : Mo i n left) (hf : Full m) (hp : prsT m = insP (prsT n) p) (hz : sz m ≤ sz n + 130 + 2 * p.k.length + p.v.length) (h1 : p.k.length ≤ 200) (h2 : p.v.length ≤ 4000) : Mo (i + 1) m ((left.filter fun y => decide (y.k ≠ p.k)) ++ [p]) :=
  ⟨hf, fun y => by
    rw [hp, insP_mem (prs_ris h.full), List.mem_append, List.mem_filter, h.mem, decide_eq_true_eq, List.mem_singleton]
    exact Or.comm, by have := h.len; have := filter_len (left := left) (fun y => decide (y.k ≠ p.k)); rw [List.length_append, List.length_singleton]; omega, fun y hy => by
    rcases List.mem_append.1 hy with hy | hy
    · exact h.small y (List.mem_filter.1 hy).1
    · rw [List.mem_singleton] at hy; rw [hy]; exact ⟨h1, h2⟩, by have := h.size; omega⟩
theorem Mo.bulk : ∀ {left : List Pr}, (∀ p ∈ left, p.k.length ≤ 200 ∧ p.v.length ≤ 4000) → prBulk left ≤ 4540 * left.length
  | [], _ => Nat.zero_le _
  | p :: l, h => by
    have := Mo.bulk (left := l) (fun y hy => h y (by simp [hy]))
    have := h p (by simp)
    rw [prBulk_cons, List.length_cons]; omega
theorem Mo.of {i : Nat} {n : Nd} {left : List Pr} (h : Mo i n left) : ((n, 0) : Nd × Int) = tOf left := by
  have hl : longPr left = false := by
    unfold longPr
    rw [List.any_eq_false]
    intro p hp
    have := h.small p hp
    rw [decide_eq_true_eq]; omega
  obtain ⟨e, hF, hr⟩ := tOf_prs hl
  have h1 : n = (tOf left).1 := prs_inj h.full hF (by rw [hr]; exact (rising_same (prs_ris h.full) (fun y => (h.mem y).symm)).symm)
  exact Prod.ext h1 e.symm
theorem any_snoc {l : List Pr} {k : Nat} {y : Pr} (f : Pr → Bool) (h : l[k]? = some y) : (l.take (k + 1)).any f = ((l.take k).any f || f y) := by
  have h1 := List.getElem?_eq_some_iff.1 h
  rw [List.take_succ_eq_append_getElem h1.1, h1.2, List.any_append]; simp
theorem filter_snoc {l : List Pr} {k : Nat} {y : Pr} (f : Pr → Bool) (h : l[k]? = some y) : (l.take (k + 1)).filter f = (l.take k).filter f ++ (if f y then [y] else []) := by
  have h1 := List.getElem?_eq_some_iff.1 h
  rw [List.take_succ_eq_append_getElem h1.1, h1.2, List.filter_append, List.filter_cons, List.filter_nil]
theorem St.dropL1 {w W : World} {gs : List (Option Nat)} {L : Lc} {R : List Row} {fs : List Fact} {x y : Nat × TypeId × List Value} (M : St w gs W (x :: y :: L) R fs) : St w gs W (y :: L) R fs := M.dropL
theorem dPrs_snoc' {l : List Pr} {p : Pr} : dPrs (l ++ [p]) = dPrs l ++ [dB p.k, dB p.v] := dPrs_snoc l p
set_option maxRecDepth 100000 in
set_option maxHeartbeats 8000000 in
theorem trieModel_walk (w : World) {A0 : Option Addr} {n0 c0 : Nat} {l : List Pr} (g0 : RdD w (Fd w []) (dPl l) (.slice A0 n0 c0)) (b0 : (l.map fun t => t.k.length + t.v.length + 3).sum ≤ 1048576) {A1 : Option Addr} {n1 c1 : Nat} {goes : List Bool} (g1 : RdD w (Fd w []) (dBo goes) (.slice A1 n1 c1)) (_b1 : goes.length ≤ 1048576) :
    Calls Try.prog 13 #[.slice A0 n0 c0, .slice A1 n1 c1] w (RetTrue w) := by
  refine calls_ev (args := [.slice A0 n0 c0, .slice A1 n1 c1]) mixed Try.func13 rfl (by kernel_rfl) ?_
  have hu := longN_up l
  have en0 := g0.slen
  have en1 := g1.slen
  subst en0; subst en1
  have M := ((St.start (w := w) (gs := []) (fun b h => by cases h)).addD g1).addD g0
  clear g0 g1
  refine cc is_long8 (long8_any l _ _ A0 _ _ (M.d1 0 rfl) M.olt (by omega)) ?_
  rintro e W ⟨he, hb⟩
  obtain ⟨q, hq⟩ : ∃ q, q = decide (longN l > 9000) := ⟨_, rfl⟩
  rw [← hq] at he
  subst he
  replace M := M.call hb
  clear hb
  refine ⟨_, rfl, ?_⟩
  cases q with
  | true =>
    refine cc is_kn8 (known8_any _) ?_
    rintro e W ⟨rfl, hb⟩
    replace M := M.call hb
    clear hb
    exact ⟨_, rfl, rfl, M.below⟩
  | false =>
  clear hq
  refine p_len slp rfl ?_
  refine p_gt rfl rfl (fun k60 => ?_) (fun k60 => ?_)
  ·
    refine cc is_kn8 (known8_any _) ?_
    rintro e W ⟨rfl, hb⟩
    replace M := M.call hb
    clear hb
    exact ⟨_, rfl, rfl, M.below⟩
  refine p_build (vs := zN) pl_nd z_nd rfl ?_
  refine s_alloc (zN) M al_nd ?_
  clear M
  rintro g5 W M
  first | refine s_storeA 0 (zN) M rfl (by kernel_rfl) rfl rfl rfl (all1 rfl) rfl ?_ | refine s_storeA 1 (zN) M rfl (by kernel_rfl) rfl rfl rfl (all1 rfl) rfl ?_ | refine s_storeA 2 (zN) M rfl (by kernel_rfl) rfl rfl rfl (all1 rfl) rfl ?_ | refine s_storeA 3 (zN) M rfl (by kernel_rfl) rfl rfl rfl (all1 rfl) rfl ?_
  clear M
  rintro W M
  dsimp only [setL] at M
  replace M := ((M.addD (d := dPl []) (RdD.nil_ (s := 2) none 0)).addL (ds := dN noneN) (cs := zN) RdL.znone)
  refine lp (Nat × Nd × List Value × List Pr × Option Addr × Nat) (fun s W => s.1 ≤ l.length ∧ Mo s.1 s.2.1 s.2.2.2.1 ∧ s.2.2.1.length = 6 ∧ St w [] W [(g5, 25, s.2.2.1)] [] [.dat false (dN s.2.1) s.2.2.1, .dat false [dPl s.2.2.2.1] [.slice s.2.2.2.2.1 s.2.2.2.1.length s.2.2.2.2.2], .dat false [dPl l] [.slice A0 l.length c0], .dat false [dBo goes] [.slice A1 goes.length c1]])
    (fun s => [(0, .slice A0 l.length c0), (1, .slice A1 goes.length c1), (5, .pointer (some ⟨g5, 0, none⟩)), (6, .slice s.2.2.2.2.1 s.2.2.2.1.length s.2.2.2.2.2), (7, .int .i64 s.1)]) (fun s => l.length - s.1) (0, noneN, zN, [], none, 0) ⟨Nat.zero_le _, Mo.start, rfl, M.fsub _ (by simp)⟩ (by repeat (first | exact trivial | refine ⟨rfl, ?_⟩)) ?_
  clear M
  rintro ⟨i, n, cs, left, Al, cl⟩ E5 W5 ⟨hi, hmo, hcs, M⟩
  dsimp only at hi hmo hcs M
  refine p_len slp rfl ?_
  refine p_lt rfl rfl (fun hlt => ?_) (fun hge => ?_)
  · dsimp only at hlt
    have hlt' : i < l.length := by omega
    obtain ⟨p, hp⟩ : ∃ p, l[i]? = some p := ⟨_, List.getElem?_eq_getElem hlt'⟩
    obtain ⟨b1, o1, Ak, ck, Av, cv, rfl, M'⟩ := M.pair (M.d1 2 rfl) hp
    replace M := M'; clear M'
    refine p_at slp rfl rfl rfl (by omega) ?_
    refine p_fld fP0 rfl ?_
    refine v_load agg_b rfl (M.lc 0 rfl 0 _ rfl) ?_
    refine p_len slb rfl ?_
    refine p_gt rfl rfl (fun k1 => ?_) (fun k1 => ?_)
    ·
      refine cc is_kn8 (known8_any _) ?_
      rintro e W ⟨rfl, hb⟩
      replace M := M.call hb
      clear hb
      exact ⟨_, rfl, rfl, M.below⟩
    refine p_at slp rfl rfl rfl (by omega) ?_
    refine p_fld fP1 rfl ?_
    refine v_load agg_b rfl (M.lc 0 rfl 1 _ rfl) ?_
    refine p_len slb rfl ?_
    refine p_gt rfl rfl (fun k2 => ?_) (fun k2 => ?_)
    ·
      refine cc is_kn8 (known8_any _) ?_
      rintro e W ⟨rfl, hb⟩
      replace M := M.call hb
      clear hb
      exact ⟨_, rfl, rfl, M.below⟩
    have hpk : p.k.length ≤ 200 := by omega
    have hpv : p.v.length ≤ 4000 := by omega
    have hll := hmo.len
    have hsz := hmo.size
    replace M := (M.nilR 43 2).addT (fr := false) (ds := dPrs []) (cs := []) RdL.nil_
    refine lp (Nat × Option Addr × Nat × Nat × List Value) (fun s W => s.1 ≤ left.length ∧ St w [] W [(g5, 25, cs)] [⟨43, 2, s.2.1, s.2.2.1, s.2.2.2.1, s.2.2.2.2⟩] [.dat false (dPrs ((left.take s.1).filter fun y => decide (y.k ≠ p.k))) s.2.2.2.2, .loc ((⟨b1, o1, none⟩ : Addr).add (i * 2)) (pcs p Ak ck Av cv), .dat false [dB p.k] [.slice Ak p.k.length ck], .dat false [dB p.v] [.slice Av p.v.length cv], .dat false (dN n) cs, .dat false [dPl left] [.slice Al left.length cl], .dat false [dPl l] [.slice (some ⟨b1, o1, none⟩) l.length c0], .dat false [dBo goes] [.slice A1 goes.length c1]] ∧ s.2.2.1 = ((left.take s.1).filter fun y => decide (y.k ≠ p.k)).length)
      (fun s => [(0, .slice (some ⟨b1, o1, none⟩) l.length c0), (1, .slice A1 goes.length c1), (5, .pointer (some ⟨g5, 0, none⟩)), (6, .slice Al left.length cl), (7, .int .i64 i), (8, .slice s.2.1 s.2.2.1 s.2.2.2.1), (9, .bool ((left.take s.1).any fun y => decide (y.k = p.k))), (10, .int .i64 s.1)]) (fun s => left.length - s.1) (0, none, 0, 0, []) ⟨Nat.zero_le _, M.fsub _ (by simp), rfl⟩ (by repeat (first | exact trivial | refine ⟨rfl, ?_⟩)) ?_
    clear M
    rintro ⟨k, A8, n8, c8, xs⟩ E6 W6 ⟨hk, M, hn8⟩
    dsimp only at hk M hn8
    refine p_len slp rfl ?_
    refine p_lt rfl rfl (fun hlt2 => ?_) (fun hge2 => ?_)
    · dsimp only at hlt2
      have hlt2' : k < left.length := by omega
      obtain ⟨y, hy⟩ : ∃ y, left[k]? = some y := ⟨_, List.getElem?_eq_getElem hlt2'⟩
      have hfs := filter_snoc (fun y => decide (y.k ≠ p.k)) hy
      have has := any_snoc (fun y => decide (y.k = p.k)) hy
      have hfl : ((left.take k).filter fun y => decide (y.k ≠ p.k)).length ≤ 60 := Nat.le_trans (filter_len _) (by rw [List.length_take]; omega)
      obtain ⟨b2, o2, Ak2, ck2, Av2, cv2, rfl, M'⟩ := M.pair (M.d1 5 rfl) hy
      replace M := M'.drew; clear M'
      refine drT (Kp w [] [] [.loc ((⟨b2, o2, none⟩ : Addr).add (k * 2)) (pcs y Ak2 ck2 Av2 cv2), .loc ((⟨b1, o1, none⟩ : Addr).add (i * 2)) (pcs p Ak ck Av cv)]) (.take 0 (.take 1 (.take 2 (.take 3 (.take 4 (.take 5 (.take 6 (.take 7 (.take 8 (.take 9 (.one 10 (.nil)))))))))))) (by kernel_rfl) (M.kp (by simp) (by simp)) ?_
      refine p_at slp rfl rfl rfl (by omega) ?_
      refine p_fld fP0 rfl ?_
      refine t_load agg_b rfl (fun W K => K.lc 0 rfl 0 _ rfl) ?_
      refine p_at slp rfl rfl rfl (by omega) ?_
      refine p_fld fP0 rfl ?_
      refine t_load agg_b rfl (fun W K => K.lc 1 rfl 0 _ rfl) ?_
      obtain ⟨q, hq, hc⟩ := same_tf (c1 := ck2) (c2 := ck) (M.rdb 1 rfl).2.2 (M.rdb 5 rfl).2.2
      refine cc is_same0 hc ?_
      rintro e W' ⟨rfl, rfl⟩
      refine ⟨_, rfl, (M.kp (by simp) (by simp)), ?_⟩
      clear hc
      cases q with
      | true =>
        have hyk := hq.1 rfl
        rw [decide_eq_true hyk, Bool.or_true] at has
        rw [decide_eq_false (fun h => h hyk), if_neg (by decide), List.append_nil] at hfs
        refine p_addN (b := 1) rfl rfl (by omega) ?_
        exact ⟨(k + 1, A8, n8, c8, xs), ⟨by dsimp only; omega, by dsimp only; rw [hfs]; exact M.fsub _ (by simp), by dsimp only; rw [hfs]; exact hn8⟩, ⟨rfl, rfl, rfl, rfl, rfl, rfl, (by show Value.bool true = .bool _; rw [has]), rfl, trivial⟩, by dsimp only; omega⟩
      | false =>
        have hyk : y.k ≠ p.k := fun e => by have := hq.2 e; cases this
        rw [decide_eq_false hyk, Bool.or_false] at has
        rw [decide_eq_true hyk, if_pos rfl] at hfs
        refine p_at slp rfl rfl rfl (by omega) ?_
        refine v_loadN (pcs y Ak2 ck2 Av2 cv2) agg_pr rfl rfl (M.lc 0 rfl) ?_
        refine s_bsliceB (pcs y Ak2 ck2 Av2 cv2) M slp z_pr rfl (by decide) rfl ?_
        clear M; rintro g9 W M
        refine s_app M Try.underlying28 prinfo rfl (by decide) rfl rfl (Reads.blk (M.B 0 rfl) rfl) (all1 rfl) ⟨by omega, by decide⟩ ?_
        clear M; rintro A9 c9 W M -
        have hX := (M.dw 3 rfl).app (show RdL W _ [dB y.k, dB y.v] (pcs y Ak2 ck2 Av2 cv2) from RdL.cons (M.dw 1 rfl).hd (M.dw 2 rfl))
        have e5 : dPrs ((left.take k).filter fun y => decide (y.k ≠ p.k)) ++ [dB y.k, dB y.v] = dPrs ((left.take (k + 1)).filter fun y => decide (y.k ≠ p.k)) := by rw [hfs, dPrs_snoc]; rfl
        rw [e5] at hX
        replace M := M.addT hX
        refine p_addN (b := 1) rfl rfl (by omega) ?_
        exact ⟨(k + 1, A9, n8 + 1, c9, _), ⟨by dsimp only; omega, M.dropL.fsub _ (by simp), by dsimp only; rw [hfs, List.length_append, hn8]; rfl⟩, ⟨rfl, rfl, rfl, rfl, rfl, rfl, (by show Value.bool _ = .bool _; rw [has]), rfl, trivial⟩, by dsimp only; omega⟩
    · dsimp only at hge2
      have hkl : k = left.length := by omega
      subst hkl
      rw [List.take_of_length_le (Nat.le_refl _)] at M hn8
      rw [List.take_of_length_le (Nat.le_refl _)]
      obtain ⟨was, hwas⟩ : ∃ was, was = left.any fun y => decide (y.k = p.k) := ⟨_, rfl⟩
      rw [← hwas]
      have hnl : n8 ≤ 60 := by have := filter_len (left := left) (fun y => decide (y.k ≠ p.k)); omega
      subst hn8
      obtain ⟨gn, hgn⟩ : ∃ gn : Bool, (i < goes.length ∧ goes[i]? = some gn) ∨ (goes.length ≤ i ∧ gn = false) := by
        rcases Nat.lt_or_ge i goes.length with h | h
        · exact ⟨goes[i], .inl ⟨h, List.getElem?_eq_getElem h⟩⟩
        · exact ⟨false, .inr ⟨h, rfl⟩⟩
      rcases hgn with ⟨hgl, hge⟩ | ⟨hgl, rfl⟩
      · obtain ⟨b3, o3, es, rfl, hF, hes, hel, hcg⟩ := (M.d1 7 rfl).at_ (i := i) hgl
        have hes2 : es = [.bool gn] := by
          have e1 : (((goes.map fun b => D.v (.bool b)).drop (i * 1)).take 1) = [D.v (.bool gn)] := by
            have h1 := List.getElem?_eq_some_iff.1 hge
            rw [Nat.mul_one, ← List.map_drop, ← List.map_take, List.drop_eq_getElem_cons h1.1, h1.2]; rfl
          rw [e1] at hes
          exact hes.vals (xs := [.bool gn])
        subst hes2
        replace M := M.addC (a := (⟨b3, o3, none⟩ : Addr).add (i * 1)) (cs := [.bool gn]) (by rw [block_of_add]; exact hF) (fun j x hx => by rw [Addr.add_lit, Addr.add_lit]; exact hcg j x hx)
        refine p_len slbo rfl ?_
        refine p_lt rfl rfl (fun _ => ?_) (fun h => absurd h (by omega))
        refine p_at slbo rfl rfl rfl (by omega) ?_
        refine v_load agg_bo rfl (M.lc 0 rfl 0 _ rfl) ?_
        cases gn with
        | true =>
          obtain ⟨m, d1, ed, fm, pm, hd1, zm⟩ := tDrop_full hmo.full hpk
          have hmo2 := hmo.drop fm pm zm
          have eg := tGet_out fm (k := p.k) hpk (fun y hy => by rw [pm] at hy; exact of_decide_eq_true (List.mem_filter.1 hy).2)
          have hdw : d1 = was := by
            have : d1 = true ↔ was = true := by
              rw [hd1, hwas, List.any_eq_true]
              constructor
              · rintro ⟨y, hy, e⟩; exact ⟨y, (hmo.mem y).1 hy, decide_eq_true e⟩
              · rintro ⟨y, hy, e⟩; exact ⟨y, (hmo.mem y).2 hy, of_decide_eq_true e⟩
            cases d1 <;> cases was <;> simp_all
          replace M := M.drew
          refine drT (Kp w [] [(g5, 25, cs)] [.loc ((⟨b1, o1, none⟩ : Addr).add (i * 2)) (pcs p Ak ck Av cv)]) (.take 0 (.take 1 (.take 2 (.take 3 (.take 4 (.take 5 (.two 6 (.take 7 (.take 8 (.take 9 (.take 10 (.take 11 (.one 12 (.one 13 (.take 14 (.take 15 (.take 16 (.nil))))))))))) 12 (.one 6 (.take 7 (.take 8 (.take 9 (.take 10 (.take 11 (.one 13 (.take 14 (.take 15 (.take 16 (.nil)))))))))))))))))) (by kernel_rfl) (M.kp (by simp) (by simp)) ?_
          refine t_loadN cs agg_nd rfl hcs (fun W K => K.run 0 rfl) ?_
          refine p_at slp rfl rfl rfl (by omega) ?_
          refine p_fld fP0 rfl ?_
          refine t_load agg_b rfl (fun W K => K.lc 0 rfl 0 _ rfl) ?_
          refine ⟨?_, ?_⟩
          ·
            refine cc is_tDrop (tDrop_any n (by omega) p.k _ _ cs _ _ _ (M.da 5 rfl) (M.d1 3 rfl) M.olt) ?_
            rintro e W ⟨cs11, Am, nm, cm, he, rv, rm, hb⟩
            rw [ed] at he rv
            dsimp only at he rv
            subst he
            have hc11 := rv.len
            rw [dN_len] at hc11
            replace M := (M.call hb).addL rv
            clear rv rm hb
            refine ⟨_, rfl, (M.kp (by simp) (by simp)), ?_⟩
            refine s_alloc (zN) M al_nd ?_
            clear M
            rintro g11 W M
            refine ⟨(M.kp (by simp) (by simp)), ?_⟩
            refine s_storeA 0 cs11 M rfl sz_nd rfl rfl hc11 ((M.da 0 rfl).ones (dN_one _)) rfl ?_
            clear M; rintro W M
            dsimp only [setL] at M
            refine ⟨(M.kp (by simp) (by simp)), ?_⟩
            refine p_ne rfl rfl (fun _ => ?_) (fun e => absurd rfl e)
            refine p_bneC u_bool rfl rfl (fun _ => ?_) (fun e => absurd hdw e)
            refine v_loadN cs11 agg_nd rfl hc11 (M.run 0 rfl) ?_
            refine s_storeA 1 cs11 M rfl sz_nd rfl rfl hc11 ((M.da 0 rfl).ones (dN_one _)) hcs ?_
            clear M; rintro W M
            dsimp only [setL] at M
            replace M := M.dropL1
            replace M := M.frzR (fr := false) (M.dt 2 rfl)
            replace M := M.drew
            refine drT (Kp w [] [(g5, 25, cs11)] [.loc ((⟨b1, o1, none⟩ : Addr).add (i * 2)) (pcs p Ak ck Av cv)]) (.take 0 (.take 1 (.take 2 (.take 3 (.take 4 (.take 5 (.one 6 (.take 7 (.take 8 (.take 9 (.take 10 (.take 11 (.take 12 (.take 13 (.take 14 (.take 15 (.nil))))))))))))))))) (by kernel_rfl) (M.kp (by simp) (by simp)) ?_
            refine t_loadN cs11 agg_nd rfl hc11 (fun W K => K.run 0 rfl) ?_
            refine p_at slp rfl rfl rfl (by omega) ?_
            refine p_fld fP0 rfl ?_
            refine t_load agg_b rfl (fun W K => K.lc 0 rfl 0 _ rfl) ?_
            refine cc is_tGet (tGet_any m (by omega) _ _ _ p.k _ _ _ (M.da 1 rfl) (M.d1 5 rfl) M.olt) ?_
            rintro e W ⟨Ag, ng, cg, Am, nm, cm, he, rv, rm, hb⟩
            rw [eg] at he rv
            dsimp only at he rv
            subst he
            replace M := M.callF1 hb rv
            clear rv rm hb
            refine ⟨_, rfl, (M.kp (by simp) (by simp)), ?_⟩
            refine p_len slbo rfl ?_
            refine p_lt rfl rfl (fun _ => ?_) (fun h => absurd h (by omega))
            refine p_at slbo rfl rfl rfl (by omega) ?_
            refine v_load agg_bo rfl (M.lc 3 rfl 0 _ rfl) ?_
            refine p_ne rfl rfl (fun _ => ?_) (fun e => absurd rfl e)
            refine p_beqC u_bool rfl rfl (fun e => by cases e) (fun _ => ?_)
            refine p_addN (b := 1) rfl rfl (by omega) ?_
            exact ⟨(i + 1, m, cs11, left.filter (fun y => decide (y.k ≠ p.k)), A8, c8), ⟨by dsimp only; omega, hmo2, hc11, M.fsub _ (by simp)⟩, (by repeat (first | exact trivial | refine ⟨rfl, ?_⟩)), by dsimp only; omega⟩
          ·
            refine s_alloc (zN) M al_nd ?_
            clear M
            rintro g11 W M
            refine ⟨(M.kp (by simp) (by simp)), ?_⟩
            refine cc is_tDrop (tDrop_any n (by omega) p.k _ _ cs _ _ _ (M.da 5 rfl) (M.d1 3 rfl) M.olt) ?_
            rintro e W ⟨cs11, Am, nm, cm, he, rv, rm, hb⟩
            rw [ed] at he rv
            dsimp only at he rv
            subst he
            have hc11 := rv.len
            rw [dN_len] at hc11
            replace M := (M.call hb).addL rv
            clear rv rm hb
            refine ⟨_, rfl, (M.kp (by simp) (by simp)), ?_⟩
            refine s_storeA 0 cs11 M rfl sz_nd rfl rfl hc11 ((M.da 0 rfl).ones (dN_one _)) rfl ?_
            clear M; rintro W M
            dsimp only [setL] at M
            refine ⟨(M.kp (by simp) (by simp)), ?_⟩
            refine p_ne rfl rfl (fun _ => ?_) (fun e => absurd rfl e)
            refine p_bneC u_bool rfl rfl (fun _ => ?_) (fun e => absurd hdw e)
            refine v_loadN cs11 agg_nd rfl hc11 (M.run 0 rfl) ?_
            refine s_storeA 1 cs11 M rfl sz_nd rfl rfl hc11 ((M.da 0 rfl).ones (dN_one _)) hcs ?_
            clear M; rintro W M
            dsimp only [setL] at M
            replace M := M.dropL1
            replace M := M.frzR (fr := false) (M.dt 2 rfl)
            replace M := M.drew
            refine drT (Kp w [] [(g5, 25, cs11)] [.loc ((⟨b1, o1, none⟩ : Addr).add (i * 2)) (pcs p Ak ck Av cv)]) (.take 0 (.take 1 (.take 2 (.take 3 (.take 4 (.take 5 (.one 6 (.take 7 (.take 8 (.take 9 (.take 10 (.take 11 (.take 12 (.take 13 (.take 14 (.take 15 (.nil))))))))))))))))) (by kernel_rfl) (M.kp (by simp) (by simp)) ?_
            refine t_loadN cs11 agg_nd rfl hc11 (fun W K => K.run 0 rfl) ?_
            refine p_at slp rfl rfl rfl (by omega) ?_
            refine p_fld fP0 rfl ?_
            refine t_load agg_b rfl (fun W K => K.lc 0 rfl 0 _ rfl) ?_
            refine cc is_tGet (tGet_any m (by omega) _ _ _ p.k _ _ _ (M.da 1 rfl) (M.d1 5 rfl) M.olt) ?_
            rintro e W ⟨Ag, ng, cg, Am, nm, cm, he, rv, rm, hb⟩
            rw [eg] at he rv
            dsimp only at he rv
            subst he
            replace M := M.callF1 hb rv
            clear rv rm hb
            refine ⟨_, rfl, (M.kp (by simp) (by simp)), ?_⟩
            refine p_len slbo rfl ?_
            refine p_lt rfl rfl (fun _ => ?_) (fun h => absurd h (by omega))
            refine p_at slbo rfl rfl rfl (by omega) ?_
            refine v_load agg_bo rfl (M.lc 3 rfl 0 _ rfl) ?_
            refine p_ne rfl rfl (fun _ => ?_) (fun e => absurd rfl e)
            refine p_beqC u_bool rfl rfl (fun e => by cases e) (fun _ => ?_)
            refine p_addN (b := 1) rfl rfl (by omega) ?_
            exact ⟨(i + 1, m, cs11, left.filter (fun y => decide (y.k ≠ p.k)), A8, c8), ⟨by dsimp only; omega, hmo2, hc11, M.fsub _ (by simp)⟩, (by repeat (first | exact trivial | refine ⟨rfl, ?_⟩)), by dsimp only; omega⟩
        | false =>
          obtain ⟨m, ep, fm, pm, zm⟩ := tPut_full hmo.full hpk hpv
          have hmo2 := hmo.put (p := p) fm pm zm hpk hpv
          have eg := tGet_in fm (k := p.k) (v := p.v) hpk (by rw [pm, insP_mem (prs_ris hmo.full)]; exact .inl rfl)
          replace M := M.drew
          refine drT (Kp w [] [(g5, 25, cs)] [.loc ((⟨b1, o1, none⟩ : Addr).add (i * 2)) (pcs p Ak ck Av cv)]) (.take 0 (.take 1 (.take 2 (.take 3 (.take 4 (.take 5 (.take 6 (.take 7 (.take 8 (.take 9 (.take 10 (.two 11 (.take 12 (.take 13 (.take 14 (.take 15 (.one 16 (.one 17 (.take 18 (.take 19 (.nil))))))))) 16 (.one 11 (.take 12 (.take 13 (.take 14 (.take 15 (.one 17 (.take 18 (.take 19 (.nil))))))))))))))))))))) (by kernel_rfl) (M.kp (by simp) (by simp)) ?_
          refine t_loadN cs agg_nd rfl hcs (fun W K => K.run 0 rfl) ?_
          refine p_at slp rfl rfl rfl (by omega) ?_
          refine p_fld fP0 rfl ?_
          refine t_load agg_b rfl (fun W K => K.lc 0 rfl 0 _ rfl) ?_
          refine p_at slp rfl rfl rfl (by omega) ?_
          refine p_fld fP1 rfl ?_
          refine t_load agg_b rfl (fun W K => K.lc 0 rfl 1 _ rfl) ?_
          refine ⟨?_, ?_⟩
          ·
            refine cc is_tPut (tPut_any n (by omega) p.k p.v _ _ cs _ _ _ _ _ _ (M.da 5 rfl) (M.d1 3 rfl) (M.d1 4 rfl) M.olt) ?_
            rintro e W ⟨cs11, Am, nm, cm, he, rv, rm, hb⟩
            rw [ep] at he rv
            dsimp only at he rv
            subst he
            have hc11 := rv.len
            rw [dN_len] at hc11
            replace M := (M.call hb).addL rv
            clear rv rm hb
            refine ⟨_, rfl, (M.kp (by simp) (by simp)), ?_⟩
            refine s_alloc (zN) M al_nd ?_
            clear M
            rintro g11 W M
            refine ⟨(M.kp (by simp) (by simp)), ?_⟩
            refine s_storeA 0 cs11 M rfl sz_nd rfl rfl hc11 ((M.da 0 rfl).ones (dN_one _)) rfl ?_
            clear M; rintro W M
            dsimp only [setL] at M
            refine ⟨(M.kp (by simp) (by simp)), ?_⟩
            refine p_ne rfl rfl (fun _ => ?_) (fun e => absurd rfl e)
            refine v_loadN cs11 agg_nd rfl hc11 (M.run 0 rfl) ?_
            refine s_storeA 1 cs11 M rfl sz_nd rfl rfl hc11 ((M.da 0 rfl).ones (dN_one _)) hcs ?_
            clear M; rintro W M
            dsimp only [setL] at M
            replace M := M.dropL1
            refine p_at slp rfl rfl rfl (by omega) ?_
            refine v_loadN (pcs p Ak ck Av cv) agg_pr rfl rfl (M.lc 3 rfl) ?_
            refine s_bsliceB (pcs p Ak ck Av cv) M slp z_pr rfl (by decide) rfl ?_
            clear M; rintro g9 W M
            refine s_app M Try.underlying28 prinfo rfl (by decide) rfl rfl (Reads.blk (M.B 0 rfl) rfl) (all1 rfl) ⟨by omega, by decide⟩ ?_
            clear M; rintro A9 c9 W M -
            have hX := (M.dw 2 rfl).app (show RdL W _ [dB p.k, dB p.v] (pcs p Ak ck Av cv) from RdL.cons (M.dw 4 rfl).hd (M.dw 5 rfl))
            rw [← dPrs_snoc' (l := left.filter (fun y => decide (y.k ≠ p.k)))] at hX
            replace M := (M.addT hX).dropL
            have hn9 : (left.filter fun y => decide (y.k ≠ p.k)).length + 1 = ((left.filter fun y => decide (y.k ≠ p.k)) ++ [p]).length := by rw [List.length_append]; rfl
            rw [hn9] at M
            replace M := M.frzR (fr := false) (M.dt 0 rfl)
            replace M := M.drew
            refine drT (Kp w [] [(g5, 25, cs11)] [.loc ((⟨b1, o1, none⟩ : Addr).add (i * 2)) (pcs p Ak ck Av cv)]) (.take 0 (.take 1 (.take 2 (.take 3 (.take 4 (.take 5 (.one 6 (.take 7 (.take 8 (.take 9 (.take 10 (.take 11 (.take 12 (.take 13 (.take 14 (.take 15 (.nil))))))))))))))))) (by kernel_rfl) (M.kp (by simp) (by simp)) ?_
            refine t_loadN cs11 agg_nd rfl hc11 (fun W K => K.run 0 rfl) ?_
            refine p_at slp rfl rfl rfl (by omega) ?_
            refine p_fld fP0 rfl ?_
            refine t_load agg_b rfl (fun W K => K.lc 0 rfl 0 _ rfl) ?_
            refine cc is_tGet (tGet_any m (by omega) _ _ _ p.k _ _ _ (M.da 2 rfl) (M.d1 6 rfl) M.olt) ?_
            rintro e W ⟨Ag, ng, cg, Am, nm, cm, he, rv, rm, hb⟩
            rw [eg] at he rv
            dsimp only at he rv
            subst he
            replace M := M.callF1 hb rv
            clear rv rm hb
            refine ⟨_, rfl, (M.kp (by simp) (by simp)), ?_⟩
            refine p_len slbo rfl ?_
            refine p_lt rfl rfl (fun _ => ?_) (fun h => absurd h (by omega))
            refine p_at slbo rfl rfl rfl (by omega) ?_
            refine v_load agg_bo rfl (M.lc 4 rfl 0 _ rfl) ?_
            refine p_ne rfl rfl (fun _ => ?_) (fun e => absurd rfl e)
            refine p_beqC u_bool rfl rfl (fun e => by cases e) (fun _ => ?_)
            refine p_at slp rfl rfl rfl (by omega) ?_
            refine p_fld fP1 rfl ?_
            refine v_load agg_b rfl (M.lc 6 rfl 1 _ rfl) ?_
            obtain ⟨q, hq, hc⟩ := same_tf (c1 := cg) (c2 := cv) (M.rdb 0 rfl).2.2 (M.rdb 8 rfl).2.2
            obtain rfl := hq.2 rfl
            refine cc is_same0 hc ?_
            rintro e W' ⟨rfl, rfl⟩
            refine ⟨_, rfl, ?_⟩
            clear hq hc
            refine p_not rfl ?_
            refine p_addN (b := 1) rfl rfl (by omega) ?_
            exact ⟨(i + 1, m, cs11, (left.filter (fun y => decide (y.k ≠ p.k))) ++ [p], A9, c9), ⟨by dsimp only; omega, hmo2, hc11, by dsimp only; rw [← hn9]; exact M.fsub _ (by simp)⟩, ⟨rfl, rfl, rfl, congrArg (fun q => Value.slice A9 q c9) hn9, rfl, trivial⟩, by dsimp only; omega⟩
          ·
            refine s_alloc (zN) M al_nd ?_
            clear M
            rintro g11 W M
            refine ⟨(M.kp (by simp) (by simp)), ?_⟩
            refine cc is_tPut (tPut_any n (by omega) p.k p.v _ _ cs _ _ _ _ _ _ (M.da 5 rfl) (M.d1 3 rfl) (M.d1 4 rfl) M.olt) ?_
            rintro e W ⟨cs11, Am, nm, cm, he, rv, rm, hb⟩
            rw [ep] at he rv
            dsimp only at he rv
            subst he
            have hc11 := rv.len
            rw [dN_len] at hc11
            replace M := (M.call hb).addL rv
            clear rv rm hb
            refine ⟨_, rfl, (M.kp (by simp) (by simp)), ?_⟩
            refine s_storeA 0 cs11 M rfl sz_nd rfl rfl hc11 ((M.da 0 rfl).ones (dN_one _)) rfl ?_
            clear M; rintro W M
            dsimp only [setL] at M
            refine ⟨(M.kp (by simp) (by simp)), ?_⟩
            refine p_ne rfl rfl (fun _ => ?_) (fun e => absurd rfl e)
            refine v_loadN cs11 agg_nd rfl hc11 (M.run 0 rfl) ?_
            refine s_storeA 1 cs11 M rfl sz_nd rfl rfl hc11 ((M.da 0 rfl).ones (dN_one _)) hcs ?_
            clear M; rintro W M
            dsimp only [setL] at M
            replace M := M.dropL1
            refine p_at slp rfl rfl rfl (by omega) ?_
            refine v_loadN (pcs p Ak ck Av cv) agg_pr rfl rfl (M.lc 3 rfl) ?_
            refine s_bsliceB (pcs p Ak ck Av cv) M slp z_pr rfl (by decide) rfl ?_
            clear M; rintro g9 W M
            refine s_app M Try.underlying28 prinfo rfl (by decide) rfl rfl (Reads.blk (M.B 0 rfl) rfl) (all1 rfl) ⟨by omega, by decide⟩ ?_
            clear M; rintro A9 c9 W M -
            have hX := (M.dw 2 rfl).app (show RdL W _ [dB p.k, dB p.v] (pcs p Ak ck Av cv) from RdL.cons (M.dw 4 rfl).hd (M.dw 5 rfl))
            rw [← dPrs_snoc' (l := left.filter (fun y => decide (y.k ≠ p.k)))] at hX
            replace M := (M.addT hX).dropL
            have hn9 : (left.filter fun y => decide (y.k ≠ p.k)).length + 1 = ((left.filter fun y => decide (y.k ≠ p.k)) ++ [p]).length := by rw [List.length_append]; rfl
            rw [hn9] at M
            replace M := M.frzR (fr := false) (M.dt 0 rfl)
            replace M := M.drew
            refine drT (Kp w [] [(g5, 25, cs11)] [.loc ((⟨b1, o1, none⟩ : Addr).add (i * 2)) (pcs p Ak ck Av cv)]) (.take 0 (.take 1 (.take 2 (.take 3 (.take 4 (.take 5 (.one 6 (.take 7 (.take 8 (.take 9 (.take 10 (.take 11 (.take 12 (.take 13 (.take 14 (.take 15 (.nil))))))))))))))))) (by kernel_rfl) (M.kp (by simp) (by simp)) ?_
            refine t_loadN cs11 agg_nd rfl hc11 (fun W K => K.run 0 rfl) ?_
            refine p_at slp rfl rfl rfl (by omega) ?_
            refine p_fld fP0 rfl ?_
            refine t_load agg_b rfl (fun W K => K.lc 0 rfl 0 _ rfl) ?_
            refine cc is_tGet (tGet_any m (by omega) _ _ _ p.k _ _ _ (M.da 2 rfl) (M.d1 6 rfl) M.olt) ?_
            rintro e W ⟨Ag, ng, cg, Am, nm, cm, he, rv, rm, hb⟩
            rw [eg] at he rv
            dsimp only at he rv
            subst he
            replace M := M.callF1 hb rv
            clear rv rm hb
            refine ⟨_, rfl, (M.kp (by simp) (by simp)), ?_⟩
            refine p_len slbo rfl ?_
            refine p_lt rfl rfl (fun _ => ?_) (fun h => absurd h (by omega))
            refine p_at slbo rfl rfl rfl (by omega) ?_
            refine v_load agg_bo rfl (M.lc 4 rfl 0 _ rfl) ?_
            refine p_ne rfl rfl (fun _ => ?_) (fun e => absurd rfl e)
            refine p_beqC u_bool rfl rfl (fun e => by cases e) (fun _ => ?_)
            refine p_at slp rfl rfl rfl (by omega) ?_
            refine p_fld fP1 rfl ?_
            refine v_load agg_b rfl (M.lc 6 rfl 1 _ rfl) ?_
            obtain ⟨q, hq, hc⟩ := same_tf (c1 := cg) (c2 := cv) (M.rdb 0 rfl).2.2 (M.rdb 8 rfl).2.2
            obtain rfl := hq.2 rfl
            refine cc is_same0 hc ?_
            rintro e W' ⟨rfl, rfl⟩
            refine ⟨_, rfl, ?_⟩
            clear hq hc
            refine p_not rfl ?_
            refine p_addN (b := 1) rfl rfl (by omega) ?_
            exact ⟨(i + 1, m, cs11, (left.filter (fun y => decide (y.k ≠ p.k))) ++ [p], A9, c9), ⟨by dsimp only; omega, hmo2, hc11, by dsimp only; rw [← hn9]; exact M.fsub _ (by simp)⟩, ⟨rfl, rfl, rfl, congrArg (fun q => Value.slice A9 q c9) hn9, rfl, trivial⟩, by dsimp only; omega⟩
      ·
        refine p_len slbo rfl ?_
        refine p_lt rfl rfl (fun h => absurd h (by omega)) (fun _ => ?_)
        obtain ⟨m, ep, fm, pm, zm⟩ := tPut_full hmo.full hpk hpv
        have hmo2 := hmo.put (p := p) fm pm zm hpk hpv
        have eg := tGet_in fm (k := p.k) (v := p.v) hpk (by rw [pm, insP_mem (prs_ris hmo.full)]; exact .inl rfl)
        replace M := M.drew
        refine drT (Kp w [] [(g5, 25, cs)] [.loc ((⟨b1, o1, none⟩ : Addr).add (i * 2)) (pcs p Ak ck Av cv)]) (.take 0 (.take 1 (.take 2 (.take 3 (.take 4 (.take 5 (.take 6 (.take 7 (.take 8 (.take 9 (.take 10 (.two 11 (.take 12 (.take 13 (.take 14 (.take 15 (.one 16 (.one 17 (.take 18 (.take 19 (.nil))))))))) 16 (.one 11 (.take 12 (.take 13 (.take 14 (.take 15 (.one 17 (.take 18 (.take 19 (.nil))))))))))))))))))))) (by kernel_rfl) (M.kp (by simp) (by simp)) ?_
        refine t_loadN cs agg_nd rfl hcs (fun W K => K.run 0 rfl) ?_
        refine p_at slp rfl rfl rfl (by omega) ?_
        refine p_fld fP0 rfl ?_
        refine t_load agg_b rfl (fun W K => K.lc 0 rfl 0 _ rfl) ?_
        refine p_at slp rfl rfl rfl (by omega) ?_
        refine p_fld fP1 rfl ?_
        refine t_load agg_b rfl (fun W K => K.lc 0 rfl 1 _ rfl) ?_
        refine ⟨?_, ?_⟩
        ·
          refine cc is_tPut (tPut_any n (by omega) p.k p.v _ _ cs _ _ _ _ _ _ (M.da 4 rfl) (M.d1 2 rfl) (M.d1 3 rfl) M.olt) ?_
          rintro e W ⟨cs11, Am, nm, cm, he, rv, rm, hb⟩
          rw [ep] at he rv
          dsimp only at he rv
          subst he
          have hc11 := rv.len
          rw [dN_len] at hc11
          replace M := (M.call hb).addL rv
          clear rv rm hb
          refine ⟨_, rfl, (M.kp (by simp) (by simp)), ?_⟩
          refine s_alloc (zN) M al_nd ?_
          clear M
          rintro g11 W M
          refine ⟨(M.kp (by simp) (by simp)), ?_⟩
          refine s_storeA 0 cs11 M rfl sz_nd rfl rfl hc11 ((M.da 0 rfl).ones (dN_one _)) rfl ?_
          clear M; rintro W M
          dsimp only [setL] at M
          refine ⟨(M.kp (by simp) (by simp)), ?_⟩
          refine p_ne rfl rfl (fun _ => ?_) (fun e => absurd rfl e)
          refine v_loadN cs11 agg_nd rfl hc11 (M.run 0 rfl) ?_
          refine s_storeA 1 cs11 M rfl sz_nd rfl rfl hc11 ((M.da 0 rfl).ones (dN_one _)) hcs ?_
          clear M; rintro W M
          dsimp only [setL] at M
          replace M := M.dropL1
          refine p_at slp rfl rfl rfl (by omega) ?_
          refine v_loadN (pcs p Ak ck Av cv) agg_pr rfl rfl (M.lc 2 rfl) ?_
          refine s_bsliceB (pcs p Ak ck Av cv) M slp z_pr rfl (by decide) rfl ?_
          clear M; rintro g9 W M
          refine s_app M Try.underlying28 prinfo rfl (by decide) rfl rfl (Reads.blk (M.B 0 rfl) rfl) (all1 rfl) ⟨by omega, by decide⟩ ?_
          clear M; rintro A9 c9 W M -
          have hX := (M.dw 1 rfl).app (show RdL W _ [dB p.k, dB p.v] (pcs p Ak ck Av cv) from RdL.cons (M.dw 3 rfl).hd (M.dw 4 rfl))
          rw [← dPrs_snoc' (l := left.filter (fun y => decide (y.k ≠ p.k)))] at hX
          replace M := (M.addT hX).dropL
          have hn9 : (left.filter fun y => decide (y.k ≠ p.k)).length + 1 = ((left.filter fun y => decide (y.k ≠ p.k)) ++ [p]).length := by rw [List.length_append]; rfl
          rw [hn9] at M
          replace M := M.frzR (fr := false) (M.dt 0 rfl)
          replace M := M.drew
          refine drT (Kp w [] [(g5, 25, cs11)] [.loc ((⟨b1, o1, none⟩ : Addr).add (i * 2)) (pcs p Ak ck Av cv)]) (.take 0 (.take 1 (.take 2 (.take 3 (.take 4 (.take 5 (.one 6 (.take 7 (.take 8 (.take 9 (.take 10 (.take 11 (.take 12 (.take 13 (.take 14 (.take 15 (.nil))))))))))))))))) (by kernel_rfl) (M.kp (by simp) (by simp)) ?_
          refine t_loadN cs11 agg_nd rfl hc11 (fun W K => K.run 0 rfl) ?_
          refine p_at slp rfl rfl rfl (by omega) ?_
          refine p_fld fP0 rfl ?_
          refine t_load agg_b rfl (fun W K => K.lc 0 rfl 0 _ rfl) ?_
          refine cc is_tGet (tGet_any m (by omega) _ _ _ p.k _ _ _ (M.da 2 rfl) (M.d1 5 rfl) M.olt) ?_
          rintro e W ⟨Ag, ng, cg, Am, nm, cm, he, rv, rm, hb⟩
          rw [eg] at he rv
          dsimp only at he rv
          subst he
          replace M := M.callF1 hb rv
          clear rv rm hb
          refine ⟨_, rfl, (M.kp (by simp) (by simp)), ?_⟩
          refine p_len slbo rfl ?_
          refine p_lt rfl rfl (fun h => absurd h (by omega)) (fun _ => ?_)
          refine p_ne rfl rfl (fun _ => ?_) (fun e => absurd rfl e)
          refine p_beqC u_bool rfl rfl (fun e => by cases e) (fun _ => ?_)
          refine p_at slp rfl rfl rfl (by omega) ?_
          refine p_fld fP1 rfl ?_
          refine v_load agg_b rfl (M.lc 5 rfl 1 _ rfl) ?_
          obtain ⟨q, hq, hc⟩ := same_tf (c1 := cg) (c2 := cv) (M.rdb 0 rfl).2.2 (M.rdb 7 rfl).2.2
          obtain rfl := hq.2 rfl
          refine cc is_same0 hc ?_
          rintro e W' ⟨rfl, rfl⟩
          refine ⟨_, rfl, ?_⟩
          clear hq hc
          refine p_not rfl ?_
          refine p_addN (b := 1) rfl rfl (by omega) ?_
          exact ⟨(i + 1, m, cs11, (left.filter (fun y => decide (y.k ≠ p.k))) ++ [p], A9, c9), ⟨by dsimp only; omega, hmo2, hc11, by dsimp only; rw [← hn9]; exact M.fsub _ (by simp)⟩, ⟨rfl, rfl, rfl, congrArg (fun q => Value.slice A9 q c9) hn9, rfl, trivial⟩, by dsimp only; omega⟩
        ·
          refine s_alloc (zN) M al_nd ?_
          clear M
          rintro g11 W M
          refine ⟨(M.kp (by simp) (by simp)), ?_⟩
          refine cc is_tPut (tPut_any n (by omega) p.k p.v _ _ cs _ _ _ _ _ _ (M.da 4 rfl) (M.d1 2 rfl) (M.d1 3 rfl) M.olt) ?_
          rintro e W ⟨cs11, Am, nm, cm, he, rv, rm, hb⟩
          rw [ep] at he rv
          dsimp only at he rv
          subst he
          have hc11 := rv.len
          rw [dN_len] at hc11
          replace M := (M.call hb).addL rv
          clear rv rm hb
          refine ⟨_, rfl, (M.kp (by simp) (by simp)), ?_⟩
          refine s_storeA 0 cs11 M rfl sz_nd rfl rfl hc11 ((M.da 0 rfl).ones (dN_one _)) rfl ?_
          clear M; rintro W M
          dsimp only [setL] at M
          refine ⟨(M.kp (by simp) (by simp)), ?_⟩
          refine p_ne rfl rfl (fun _ => ?_) (fun e => absurd rfl e)
          refine v_loadN cs11 agg_nd rfl hc11 (M.run 0 rfl) ?_
          refine s_storeA 1 cs11 M rfl sz_nd rfl rfl hc11 ((M.da 0 rfl).ones (dN_one _)) hcs ?_
          clear M; rintro W M
          dsimp only [setL] at M
          replace M := M.dropL1
          refine p_at slp rfl rfl rfl (by omega) ?_
          refine v_loadN (pcs p Ak ck Av cv) agg_pr rfl rfl (M.lc 2 rfl) ?_
          refine s_bsliceB (pcs p Ak ck Av cv) M slp z_pr rfl (by decide) rfl ?_
          clear M; rintro g9 W M
          refine s_app M Try.underlying28 prinfo rfl (by decide) rfl rfl (Reads.blk (M.B 0 rfl) rfl) (all1 rfl) ⟨by omega, by decide⟩ ?_
          clear M; rintro A9 c9 W M -
          have hX := (M.dw 1 rfl).app (show RdL W _ [dB p.k, dB p.v] (pcs p Ak ck Av cv) from RdL.cons (M.dw 3 rfl).hd (M.dw 4 rfl))
          rw [← dPrs_snoc' (l := left.filter (fun y => decide (y.k ≠ p.k)))] at hX
          replace M := (M.addT hX).dropL
          have hn9 : (left.filter fun y => decide (y.k ≠ p.k)).length + 1 = ((left.filter fun y => decide (y.k ≠ p.k)) ++ [p]).length := by rw [List.length_append]; rfl
          rw [hn9] at M
          replace M := M.frzR (fr := false) (M.dt 0 rfl)
          replace M := M.drew
          refine drT (Kp w [] [(g5, 25, cs11)] [.loc ((⟨b1, o1, none⟩ : Addr).add (i * 2)) (pcs p Ak ck Av cv)]) (.take 0 (.take 1 (.take 2 (.take 3 (.take 4 (.take 5 (.one 6 (.take 7 (.take 8 (.take 9 (.take 10 (.take 11 (.take 12 (.take 13 (.take 14 (.take 15 (.nil))))))))))))))))) (by kernel_rfl) (M.kp (by simp) (by simp)) ?_
          refine t_loadN cs11 agg_nd rfl hc11 (fun W K => K.run 0 rfl) ?_
          refine p_at slp rfl rfl rfl (by omega) ?_
          refine p_fld fP0 rfl ?_
          refine t_load agg_b rfl (fun W K => K.lc 0 rfl 0 _ rfl) ?_
          refine cc is_tGet (tGet_any m (by omega) _ _ _ p.k _ _ _ (M.da 2 rfl) (M.d1 5 rfl) M.olt) ?_
          rintro e W ⟨Ag, ng, cg, Am, nm, cm, he, rv, rm, hb⟩
          rw [eg] at he rv
          dsimp only at he rv
          subst he
          replace M := M.callF1 hb rv
          clear rv rm hb
          refine ⟨_, rfl, (M.kp (by simp) (by simp)), ?_⟩
          refine p_len slbo rfl ?_
          refine p_lt rfl rfl (fun h => absurd h (by omega)) (fun _ => ?_)
          refine p_ne rfl rfl (fun _ => ?_) (fun e => absurd rfl e)
          refine p_beqC u_bool rfl rfl (fun e => by cases e) (fun _ => ?_)
          refine p_at slp rfl rfl rfl (by omega) ?_
          refine p_fld fP1 rfl ?_
          refine v_load agg_b rfl (M.lc 5 rfl 1 _ rfl) ?_
          obtain ⟨q, hq, hc⟩ := same_tf (c1 := cg) (c2 := cv) (M.rdb 0 rfl).2.2 (M.rdb 7 rfl).2.2
          obtain rfl := hq.2 rfl
          refine cc is_same0 hc ?_
          rintro e W' ⟨rfl, rfl⟩
          refine ⟨_, rfl, ?_⟩
          clear hq hc
          refine p_not rfl ?_
          refine p_addN (b := 1) rfl rfl (by omega) ?_
          exact ⟨(i + 1, m, cs11, (left.filter (fun y => decide (y.k ≠ p.k))) ++ [p], A9, c9), ⟨by dsimp only; omega, hmo2, hc11, by dsimp only; rw [← hn9]; exact M.fsub _ (by simp)⟩, ⟨rfl, rfl, rfl, congrArg (fun q => Value.slice A9 q c9) hn9, rfl, trivial⟩, by dsimp only; omega⟩
  · dsimp only at hge
    have hin : i = l.length := by omega
    subst hin
    have hz := hmo.size
    have hll := hmo.len
    have hbk := Mo.bulk hmo.small
    have hE := hmo.of
    refine cc is_tOf (tOf_any left _ _ _ _ _ (M.d1 1 rfl) M.olt (by omega)) ?_
    rintro e W ⟨cs23, he, hres, hb⟩
    rw [← hE] at he hres
    subst he
    have hc23 := hres.len
    rw [dN_len] at hc23
    replace M := (M.call hb).addL hres
    clear hres hb
    refine ⟨_, rfl, ?_⟩
    refine s_alloc (zN) M al_nd ?_
    clear M
    rintro g23 W M
    refine s_storeA 0 cs23 M rfl sz_nd rfl rfl hc23 ((M.da 0 rfl).ones (dN_one _)) rfl ?_
    clear M; rintro W M
    dsimp only [setL] at M
    refine v_loadN cs23 agg_nd rfl hc23 (M.run 0 rfl) ?_
    refine v_loadN cs agg_nd rfl hcs (M.run 1 rfl) ?_
    refine cc is_r7same (rsame_any 2000000 (by decide) n (by omega) n _ _ cs23 cs (M.da 0 rfl) (M.da 1 rfl) M.olt (by omega)) ?_
    rintro e W ⟨q, rfl, hq, hb⟩
    obtain rfl := hq.2 rfl
    replace M := M.call hb
    clear hb hq
    refine ⟨_, rfl, ?_⟩
    refine cc is_kn8 (known8_any _) ?_
    rintro e W ⟨rfl, hb⟩
    replace M := M.call hb
    clear hb
    exact ⟨_, rfl, rfl, M.below⟩
end Go.Proofs.Ytkfbkhahkkmcoaa
