/- The walk of the law TrieDigest. -/
import Derived.Test.YtkfbkhahkkmcoaaG28
namespace Go.Proofs.Ytkfbkhahkkmcoaa
open Go.RowKit

theorem rev_take {r : List Pr} {j : Nat} {p : Pr} (h : r[r.length - 1 - j]? = some p) (hj : j < r.length) : r.reverse.take (j + 1) = r.reverse.take j ++ [p] := by
  have h1 : r.reverse[j]? = some p := by rw [List.getElem?_reverse hj]; exact h
  have h2 := List.getElem?_eq_some_iff.1 h1
  rw [List.take_succ_eq_append_getElem h2.1, h2.2]
set_option maxRecDepth 100000 in
set_option maxHeartbeats 4000000 in
theorem trieDigest_walk (w : World) {A0 : Option Addr} {n0 c0 : Nat} {l : List Pr} (g0 : RdD w (Fd w []) (dPl l) (.slice A0 n0 c0)) (b0 : (l.map fun t => t.k.length + t.v.length + 3).sum ≤ 1048576) {a : Pr} {s1 : List Value} (g1 : RdL w (Fd w []) (dPr a) s1) (b1 : a.k.length + a.v.length ≤ 1048576) :
    Calls Try.prog 9 #[.slice A0 n0 c0, .agg s1.toArray] w (RetTrue w) := by
  refine calls_ev (args := [.slice A0 n0 c0, .agg s1.toArray]) mixed Try.func9 rfl (by kernel_rfl) ?_
  have hu := longN_up l
  obtain ⟨Aak, cak, Aav, cav, rfl, ha1, ha2⟩ := g1.pair
  have M := (((St.start (w := w) (gs := []) (fun b h => by cases h)).addD ha2).addD ha1).addD g0
  clear ha1 ha2 g0 g1
  refine s_box (pcs a Aak cak Aav cav) M rfl ?_
  clear M
  rintro g3 W M
  refine cc is_long8 (long8_any l _ _ A0 _ _ (M.d1 0 rfl) M.olt (by omega)) ?_
  rintro e W ⟨he, hb⟩
  obtain ⟨q, hq⟩ : ∃ q, q = decide (longN l > 9000) := ⟨_, rfl⟩
  rw [← hq] at he
  subst he
  replace M := M.call hb
  clear hb
  refine ⟨_, rfl, ?_⟩
  cases q with
  | true =>
    refine cc is_kn8 (known8_any _) ?_
    rintro e W ⟨rfl, hb⟩
    replace M := M.call hb
    clear hb
    exact ⟨_, rfl, rfl, M.below⟩
  | false =>
  have hlong : ¬ longN l > 9000 := of_decide_eq_false hq.symm
  clear hq
  refine p_fld fP0 rfl ?_
  refine v_load agg_b rfl (by first | exact (M.B 0 rfl).at_ rfl | exact (M.B 1 rfl).at_ rfl | exact (M.B 2 rfl).at_ rfl | exact (M.B 3 rfl).at_ rfl | exact (M.B 4 rfl).at_ rfl | exact M.lc 0 rfl _ _ rfl | exact M.lc 1 rfl _ _ rfl | exact M.lc 2 rfl _ _ rfl | exact M.lc 3 rfl _ _ rfl | exact M.lc 4 rfl _ _ rfl | exact M.lc 5 rfl _ _ rfl | exact M.lc 6 rfl _ _ rfl | exact M.lc 7 rfl _ _ rfl) ?_
  refine p_len slb rfl ?_
  refine p_gt rfl rfl (fun k1 => ?_) (fun k1 => ?_)
  ·
    refine cc is_kn8 (known8_any _) ?_
    rintro e W ⟨rfl, hb⟩
    replace M := M.call hb
    clear hb
    exact ⟨_, rfl, rfl, M.below⟩
  refine p_fld fP1 rfl ?_
  refine v_load agg_b rfl (by first | exact (M.B 0 rfl).at_ rfl | exact (M.B 1 rfl).at_ rfl | exact (M.B 2 rfl).at_ rfl | exact (M.B 3 rfl).at_ rfl | exact (M.B 4 rfl).at_ rfl | exact M.lc 0 rfl _ _ rfl | exact M.lc 1 rfl _ _ rfl | exact M.lc 2 rfl _ _ rfl | exact M.lc 3 rfl _ _ rfl | exact M.lc 4 rfl _ _ rfl | exact M.lc 5 rfl _ _ rfl | exact M.lc 6 rfl _ _ rfl | exact M.lc 7 rfl _ _ rfl) ?_
  refine p_len slb rfl ?_
  refine p_gt rfl rfl (fun k2 => ?_) (fun k2 => ?_)
  ·
    refine cc is_kn8 (known8_any _) ?_
    rintro e W ⟨rfl, hb⟩
    replace M := M.call hb
    clear hb
    exact ⟨_, rfl, rfl, M.below⟩
  have hak : a.k.length ≤ 200 := by omega
  have hav : a.v.length ≤ 4000 := by omega
  have hbl := prBulk_up l
  have hbr := prBulk_rising l
  have hlr := longN_rising l
  refine cc is_rising (rising_any l _ _ _ _ _ (M.d1 0 rfl) M.olt (longN_big (by omega))) ?_
  rintro e W ⟨Ar, nr, cr, he, hres, hb⟩
  obtain ⟨r, hrr⟩ : ∃ r, r = risingP l := ⟨_, rfl⟩
  rw [← hrr] at hres hlr hbr
  subst he
  have hnr := hres.slen
  subst hnr
  replace M := (M.call hb).addD hres
  clear hres hb
  refine ⟨_, rfl, ?_⟩
  have hrl : r.length ≤ 900 := by have := longN_len r; omega
  refine p_len slp rfl ?_
  refine p_sub rfl rfl (r := ((r.length : Int) - 1)) (w64 (by omega)) ?_
  replace M := (M.nilR 43 2).addT (fr := false) (ds := dPrs []) (cs := []) RdL.nil_
  refine lp (Nat × Option Addr × Nat × List Value) (fun s W => s.1 ≤ r.length ∧ St w [] W [(g3, 43, pcs a Aak cak Aav cav)] [⟨43, 2, s.2.1, s.1, s.2.2.1, s.2.2.2⟩] [.dat false (dPrs (r.reverse.take s.1)) s.2.2.2, .dat false [dPl r] [.slice Ar r.length cr], .dat false [dPl l] [.slice A0 n0 c0], .dat false [dB a.k] [.slice Aak a.k.length cak], .dat false [dB a.v] [.slice Aav a.v.length cav]])
    (fun s => [(0, .slice A0 n0 c0), (3, .pointer (some ⟨g3, 0, none⟩)), (5, .slice s.2.1 s.1 s.2.2.1), (6, .slice Ar r.length cr), (7, .int .i64 ((r.length : Int) - 1 - s.1))]) (fun s => r.length - s.1) (0, none, 0, []) ⟨Nat.zero_le _, M.fsub _ (by simp)⟩ ⟨rfl, rfl, rfl, rfl, (by show Value.int .i64 ((r.length : Int) - 1) = _; congr 1; dsimp only; omega), trivial⟩ ?_
  clear M
  rintro ⟨i, A3, c3, xs⟩ E5 W5 ⟨hi, M⟩
  dsimp only at hi M
  refine p_ge rfl rfl (fun hge => ?_) (fun hlt => ?_)
  · dsimp only at hge
    have hlt' : i < r.length := by omega
    obtain ⟨p, hp⟩ : ∃ p, r[r.length - 1 - i]? = some p := ⟨_, List.getElem?_eq_getElem (by omega)⟩
    have htk := rev_take hp hlt'
    obtain ⟨b1, o1, Ak, ck, Av, cv, rfl, M'⟩ := M.pair (M.d1 1 rfl) hp
    replace M := M'; clear M'
    refine p_at (i := r.length - 1 - i) slp rfl rfl (by dsimp only; omega) (by omega) ?_
    refine v_loadN (pcs p Ak ck Av cv) agg_pr rfl rfl (M.lc 0 rfl) ?_
    refine s_bsliceB (pcs p Ak ck Av cv) M slp z_pr rfl (by decide) rfl ?_
    clear M; rintro g9 W M
    refine s_app M Try.underlying28 prinfo rfl (by decide) rfl rfl (Reads.blk (M.B 0 rfl) rfl) (all1 rfl) ⟨by omega, by decide⟩ ?_
    clear M; rintro A5 c5 W M -
    have hX := (M.dw 3 rfl).app (show RdL W _ [dB p.k, dB p.v] (pcs p Ak ck Av cv) from RdL.cons (M.dw 1 rfl).hd (M.dw 2 rfl))
    have e5 : dPrs (r.reverse.take i) ++ [dB p.k, dB p.v] = dPrs (r.reverse.take (i + 1)) := by rw [htk, dPrs_snoc]; rfl
    rw [e5] at hX
    replace M := M.addT hX
    refine p_sub rfl rfl (r := ((r.length : Int) - 1 - ((i + 1 : Nat) : Int))) ((w64 (by dsimp only; omega)).trans (by dsimp only; omega)) ?_
    exact ⟨(i + 1, A5, c5, _), ⟨by dsimp only; omega, M.dropL.fsub _ (by simp)⟩, (by repeat (first | exact trivial | refine ⟨rfl, ?_⟩)), by dsimp only; omega⟩
  · dsimp only at hlt
    have hin : i = r.reverse.length := by rw [List.length_reverse]; omega
    subst hin
    rw [List.take_of_length_le (Nat.le_refl _)] at M
    replace M := M.frzR (fr := false) (M.dt 0 rfl)
    obtain ⟨T, hT⟩ : ∃ T, T = tOf l := ⟨_, rfl⟩
    obtain ⟨T', hT'⟩ : ∃ T', T' = tOf r.reverse := ⟨_, rfl⟩
    have hTz : sz T.1 ≤ 200000 := by
      have h1 := tOf_sz l
      rw [← hT] at h1
      omega
    have hbb : prBulk r.reverse ≤ 500000 := by rw [rev_bulk]; omega
    refine cc is_tOf (tOf_any l _ _ _ _ _ (M.d1 3 rfl) M.olt (by omega)) ?_
    rintro e W ⟨cs8, he, hres, hb⟩
    rw [← hT] at he hres
    subst he
    have hc8 := hres.len
    rw [dN_len] at hc8
    replace M := (M.call hb).addL hres
    clear hres hb
    refine ⟨_, rfl, ?_⟩
    refine s_alloc (zN) M al_nd ?_
    clear M
    rintro g8 W M
    refine s_storeA 0 cs8 M rfl sz_nd rfl rfl hc8 ((M.da 0 rfl).ones (dN_one _)) rfl ?_
    clear M; rintro W M
    dsimp only [setL] at M
    refine cc is_tOf (tOf_any r.reverse _ _ _ _ _ (M.d1 1 rfl) M.olt hbb) ?_
    rintro e W ⟨cs10, he, hres, hb⟩
    rw [← hT'] at he hres
    subst he
    have hc10 := hres.len
    rw [dN_len] at hc10
    replace M := (M.call hb).addL hres
    clear hres hb
    refine ⟨_, rfl, ?_⟩
    refine s_alloc (zN) M al_nd ?_
    clear M
    rintro g10 W M
    refine s_storeA 0 cs10 M rfl sz_nd rfl rfl hc10 ((M.da 0 rfl).ones (dN_one _)) rfl ?_
    clear M; rintro W M
    dsimp only [setL] at M
    refine p_ne rfl rfl (fun hT2 => ?_) (fun _ => ?_)
    rotate_left
    ·
      refine cc is_kn8 (known8_any _) ?_
      rintro e W ⟨rfl, hb⟩
      replace M := M.call hb
      clear hb
      exact ⟨_, rfl, rfl, M.below⟩
    obtain ⟨hlp, hF, hr⟩ := of_ok hT hT2
    have hTT : T = T' := (of_same hT hT2 (fun y => by rw [List.mem_reverse, hrr])).trans hT'.symm
    subst hTT
    clear hT'
    replace M := M.drew
    refine drT (Kp w [] [(g10, 25, cs10), (g8, 25, cs8)] []) (.take 0 (.take 1 (.take 2 (.take 3 (.take 5 (.one 4 (.one 6 (.one 7 (.take 8 (.take 9 (.nil))))))))))) (by kernel_rfl) (M.kp (by simp) (by simp)) ?_
    refine p_ne rfl rfl (fun _ => ?_) (fun e => absurd hT2 e)
    refine t_loadN cs8 agg_nd rfl hc8 (fun W K => K.run 1 rfl) ?_
    refine t_loadN cs10 agg_nd rfl hc10 (fun W K => K.run 0 rfl) ?_
    refine cc is_r7hash (rhash_any T.1 (by omega) _ _ cs8 (M.da 1 rfl) M.olt) ?_
    rintro e W ⟨A6, n6, c6, rfl, o6, hb⟩
    have hn6 := o6.len
    replace M := M.callO hb o6
    clear o6 hb
    refine ⟨_, rfl, (M.kp (by simp) (by simp)), ?_⟩
    refine cc is_r7hash (rhash_any T.1 (by omega) _ _ cs10 (M.da 1 rfl) M.olt) ?_
    rintro e W ⟨A7, n7, c7, rfl, o7, hb⟩
    have hn7 := o7.len
    replace M := M.callO hb o7
    clear o7 hb
    refine ⟨_, rfl, (M.kp (by simp) (by simp)), ?_⟩
    obtain ⟨q, hq, hc⟩ := same_tf (c1 := c6) (c2 := c7) (M.rdb 1 rfl).2.2 (M.rdb 0 rfl).2.2
    obtain rfl := hq.2 rfl
    refine cc is_same0 hc ?_
    rintro e W' ⟨rfl, rfl⟩
    refine ⟨_, rfl, (M.kp (by simp) (by simp)), ?_⟩
    clear hq hc
    refine p_not rfl ?_
    try refine ⟨(M.kp (by simp) (by simp)), ?_⟩
    obtain ⟨v1, h1, e1, in1, out1⟩ := tGet_full hF hak
    obtain ⟨x, ex, fx, px, zx⟩ := tPut_full hF hak hav
    have hG := e1.symm
    have hR := prs_ris hF
    have hTx : T.1 = x ↔ a ∈ prsT T.1 := by
      rw [← ins_same hR a]
      constructor
      · intro e
        have h := px
        rw [← e] at h
        exact h.symm
      · intro e; exact prs_inj hF fx (by rw [px]; exact e.symm)
    refine v_loadN cs8 agg_nd rfl hc8 (M.run 1 rfl) ?_
    refine p_fld fP0 rfl ?_
    refine v_load agg_b rfl (by first | exact (M.B 0 rfl).at_ rfl | exact (M.B 1 rfl).at_ rfl | exact (M.B 2 rfl).at_ rfl | exact (M.B 3 rfl).at_ rfl | exact (M.B 4 rfl).at_ rfl | exact M.lc 0 rfl _ _ rfl | exact M.lc 1 rfl _ _ rfl | exact M.lc 2 rfl _ _ rfl | exact M.lc 3 rfl _ _ rfl | exact M.lc 4 rfl _ _ rfl | exact M.lc 5 rfl _ _ rfl | exact M.lc 6 rfl _ _ rfl | exact M.lc 7 rfl _ _ rfl) ?_
    refine cc is_tGet (tGet_any T.1 (by omega) _ _ _ a.k _ _ _ (M.da 3 rfl) (M.d1 8 rfl) M.olt) ?_
    rintro e W ⟨Av, nv, c12, Am, nm, cm, he, rv, rm, hb⟩
    rw [← hG] at he rv rm
    try dsimp only at he rv rm
    subst he
    replace M := M.callF2 hb rv rm.toD
    clear rv rm hb
    refine ⟨_, rfl, ?_⟩
    refine v_loadN cs8 agg_nd rfl hc8 (M.run 1 rfl) ?_
    refine p_fld fP0 rfl ?_
    refine v_load agg_b rfl (by first | exact (M.B 0 rfl).at_ rfl | exact (M.B 1 rfl).at_ rfl | exact (M.B 2 rfl).at_ rfl | exact (M.B 3 rfl).at_ rfl | exact (M.B 4 rfl).at_ rfl | exact M.lc 0 rfl _ _ rfl | exact M.lc 1 rfl _ _ rfl | exact M.lc 2 rfl _ _ rfl | exact M.lc 3 rfl _ _ rfl | exact M.lc 4 rfl _ _ rfl | exact M.lc 5 rfl _ _ rfl | exact M.lc 6 rfl _ _ rfl | exact M.lc 7 rfl _ _ rfl) ?_
    refine p_fld fP1 rfl ?_
    refine v_load agg_b rfl (by first | exact (M.B 0 rfl).at_ rfl | exact (M.B 1 rfl).at_ rfl | exact (M.B 2 rfl).at_ rfl | exact (M.B 3 rfl).at_ rfl | exact (M.B 4 rfl).at_ rfl | exact M.lc 0 rfl _ _ rfl | exact M.lc 1 rfl _ _ rfl | exact M.lc 2 rfl _ _ rfl | exact M.lc 3 rfl _ _ rfl | exact M.lc 4 rfl _ _ rfl | exact M.lc 5 rfl _ _ rfl | exact M.lc 6 rfl _ _ rfl | exact M.lc 7 rfl _ _ rfl) ?_
    refine cc is_tPut (tPut_any T.1 (by omega) a.k a.v _ _ _ _ _ _ _ _ _ (M.da 5 rfl) (M.d1 10 rfl) (M.d1 11 rfl) M.olt) ?_
    rintro e W ⟨cs16, Am, nm, cm, he, rv, rm, hb⟩
    rw [ex] at he rv
    dsimp only at he rv
    subst he
    have hc16 := rv.len
    rw [dN_len] at hc16
    replace M := (M.call hb).addL rv
    clear rv rm hb
    refine ⟨_, rfl, ?_⟩
    refine s_alloc (zN) M al_nd ?_
    clear M
    rintro g16 W M
    refine s_storeA 0 cs16 M rfl sz_nd rfl rfl hc16 ((M.da 0 rfl).ones (dN_one _)) rfl ?_
    clear M; rintro W M
    dsimp only [setL] at M
    cases h1 with
    | true =>
      refine p_fld fP1 rfl ?_
      refine v_load agg_b rfl (by first | exact (M.B 0 rfl).at_ rfl | exact (M.B 1 rfl).at_ rfl | exact (M.B 2 rfl).at_ rfl | exact (M.B 3 rfl).at_ rfl | exact (M.B 4 rfl).at_ rfl | exact M.lc 0 rfl _ _ rfl | exact M.lc 1 rfl _ _ rfl | exact M.lc 2 rfl _ _ rfl | exact M.lc 3 rfl _ _ rfl | exact M.lc 4 rfl _ _ rfl | exact M.lc 5 rfl _ _ rfl | exact M.lc 6 rfl _ _ rfl | exact M.lc 7 rfl _ _ rfl) ?_
      obtain ⟨q, hq, hc⟩ := same_tf (c1 := c12) (c2 := cav) (M.rdb 1 rfl).2.2 (M.rdb 12 rfl).2.2
      refine cc is_same0 hc ?_
      rintro e W' ⟨rfl, rfl⟩
      refine ⟨_, rfl, ?_⟩
      clear hc
      refine p_eq rfl rfl (fun _ => ?_) (fun e => absurd rfl e)
      refine p_eq rfl rfl (fun _ => ?_) (fun e => absurd rfl e)
      refine v_loadN cs8 agg_nd rfl hc8 (M.run 2 rfl) ?_
      refine v_loadN cs16 agg_nd rfl hc16 (M.run 0 rfl) ?_
      refine cc is_r7same (rsame_any 2000000 (by decide) T.1 (by omega) x _ _ cs8 cs16 (M.da 6 rfl) (M.da 0 rfl) M.olt (by omega)) ?_
      rintro e W ⟨q2, rfl, hq2, hb⟩
      replace M := M.call hb
      clear hb
      refine ⟨_, rfl, ?_⟩
      have hqq : q2 = q := by
        have h1 : q2 = true ↔ q = true := by
          rw [hq2, hq, hTx]
          constructor
          · intro h
            exact congrArg Pr.v (ris_key hR (in1 rfl) h rfl)
          · intro h
            have := in1 rfl
            rw [h] at this
            exact this
        cases q2 <;> cases q <;> simp_all
      refine p_beqC u_bool rfl rfl (fun _ => ?_) (fun e => absurd hqq e)
      refine cc is_kn8 (known8_any _) ?_
      rintro e W ⟨rfl, hb⟩
      replace M := M.call hb
      clear hb
      exact ⟨_, rfl, rfl, M.below⟩
    | false =>
      refine p_eq rfl rfl (fun _ => ?_) (fun e => absurd rfl e)
      refine p_eq rfl rfl (fun _ => ?_) (fun e => absurd rfl e)
      refine v_loadN cs8 agg_nd rfl hc8 (M.run 2 rfl) ?_
      refine v_loadN cs16 agg_nd rfl hc16 (M.run 0 rfl) ?_
      refine cc is_r7same (rsame_any 2000000 (by decide) T.1 (by omega) x _ _ cs8 cs16 (M.da 6 rfl) (M.da 0 rfl) M.olt (by omega)) ?_
      rintro e W ⟨q2, rfl, hq2, hb⟩
      replace M := M.call hb
      clear hb
      refine ⟨_, rfl, ?_⟩
      have hqq : q2 = false := by
        cases q2 with
        | false => rfl
        | true => exact absurd rfl ((out1 rfl).2 a (hTx.1 (hq2.1 rfl)))
      refine p_beqC u_bool rfl rfl (fun _ => ?_) (fun e => absurd hqq e)
      refine cc is_kn8 (known8_any _) ?_
      rintro e W ⟨rfl, hb⟩
      replace M := M.call hb
      clear hb
      exact ⟨_, rfl, rfl, M.below⟩
end Go.Proofs.Ytkfbkhahkkmcoaa
