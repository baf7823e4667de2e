/- The walk of the law RevealWays. What the rows' list of package variables gives: the tables of digest. -/
import Derived.Test.YtojjfkbffjkojaaDoorG21
import Derived.Test.YtojjfkbffjkojaaDoorG10
import Derived.Test.YtojjfkbffjkojaaDoorRows
import Derived.Lib.LaidTab
import Derived.MakeChecks
namespace Go.Proofs.YtojjfkbffjkojaaDoor
open Go.RowKit


set_option maxRecDepth 100000 in
set_option maxHeartbeats 8000000 in
theorem revealWays_walk (w : World) (hG : GL w []) {A0 : Option Addr} {n0 c0 : Nat} {l : List Pr} (g0 : RdD w (Fd w []) (dPl l) (.slice A0 n0 c0)) (b0 : (l.map fun t => t.k.length + t.v.length + 3).sum ≤ 1048576) {A1 : Option Addr} {n1 c1 : Nat} {key : List UInt8} (g1 : RdD w (Fd w []) (dB key) (.slice A1 n1 c1)) (b1 : key.length ≤ 1048576) {A2 : Option Addr} {n2 c2 : Nat} {other : List UInt8} (g2 : RdD w (Fd w []) (dB other) (.slice A2 n2 c2)) (b2 : other.length ≤ 1048576) :
    Calls Tryd.prog 3 #[.slice A0 n0 c0, .slice A1 n1 c1, .slice A2 n2 c2] w (RetTrue w) := by
  refine calls_ev (args := [.slice A0 n0 c0, .slice A1 n1 c1, .slice A2 n2 c2]) mixed Tryd.func3 rfl (by kernel_rfl) ?_
  have en1 : n1 = key.length := g1.slen
  subst en1
  have en2 : n2 = other.length := g2.slen
  subst en2
  have hbk := prBulk_le l
  have M := (((St.start (w := w) (gs := []) (fun b h => by cases h)).addD g2).addD g1).addD g0
  clear g0 g1 g2
  obtain ⟨T, hT⟩ : ∃ T, T = tOf l := ⟨_, rfl⟩
  have hTz := tOf_sz l
  rw [← hT] at hTz
  refine cc is_r8of (r8of_any 401 (Nat.le_refl _) l _ _ _ _ _ (M.d1 0 rfl) M.olt (prBig_of b0)) ?_
  rintro e W ⟨cs, he, hres, hb⟩
  rw [← tOf_eq (Nat.le_refl _), ← hT] at he hres
  subst he
  have hc7 := hres.len
  rw [dN_len] at hc7
  replace M := (M.call hb).addL hres
  clear hres hb
  refine ⟨_, rfl, ?_⟩
  refine s_alloc (zN) M al_nd ?_
  clear M
  rintro g7 W M
  refine s_storeA 0 cs M rfl sz_nd rfl rfl hc7 ((M.da 0 rfl).ones (dN_one _)) rfl ?_
  clear M; rintro W M
  dsimp only [setL] at M
  refine p_ne rfl rfl (fun h0 => ?_) (fun h0 => ?_)
  rotate_left
  ·
    refine cc is_kn10 (known10_any _ _ (M.gl hG) M.olt) ?_
    rintro e W ⟨rfl, hb⟩
    replace M := M.call hb
    clear hb
    exact ⟨_, rfl, rfl, M.below⟩
  have h0 : T.2 = 0 := h0
  have hF : Full T.1 := (of_ok hT h0).2.1
  obtain ⟨t, ht⟩ : ∃ t, t = T.1 := ⟨_, rfl⟩
  rw [← ht] at M hTz hF
  obtain ⟨Ap, cp, Av, cv, Ak, ck, Ah, ch, rfl, -⟩ := (M.da 0 rfl).node
  refine v_loadN (ncs t Ap cp Av cv Ak ck Ah ch) agg_nd rfl rfl (M.run 0 rfl) ?_
  refine cc is_much10 (much10_any t (by omega) _ _ (ncs t Ap cp Av cv Ak ck Ah ch) (M.da 0 rfl) M.olt) ?_
  rintro e W ⟨he, hb⟩
  obtain ⟨qa, hqqa⟩ : ∃ q, q = decide (400 ≤ muchP t 400) := ⟨_, rfl⟩
  rw [← hqqa] at he
  subst he
  replace M := M.call hb
  clear hb
  refine ⟨_, rfl, ?_⟩
  cases qa with
  | true =>
    refine cc is_kn10 (known10_any _ _ (M.gl hG) M.olt) ?_
    rintro e W ⟨rfl, hb⟩
    replace M := M.call hb
    clear hb
    exact ⟨_, rfl, rfl, M.below⟩
  | false =>
  have hz2 := much10_no hqqa.symm
  refine p_len slb rfl ?_
  refine p_gt rfl rfl (fun k2 => ?_) (fun k2 => ?_)
  ·
    refine cc is_kn10 (known10_any _ _ (M.gl hG) M.olt) ?_
    rintro e W ⟨rfl, hb⟩
    replace M := M.call hb
    clear hb
    exact ⟨_, rfl, rfl, M.below⟩
  refine p_len slb rfl ?_
  refine p_gt rfl rfl (fun k3 => ?_) (fun k3 => ?_)
  ·
    refine cc is_kn10 (known10_any _ _ (M.gl hG) M.olt) ?_
    rintro e W ⟨rfl, hb⟩
    replace M := M.call hb
    clear hb
    exact ⟨_, rfl, rfl, M.below⟩
  have k2 : key.length ≤ 50 := by have h : ¬ (50 : Int) < (key.length : Int) := k2; omega
  have k3 : other.length ≤ 50 := by have h : ¬ (50 : Int) < (other.length : Int) := k3; omega
  have hwl : ∀ x ∈ [ofB key], x.length ≤ 10000000 := fun x hx => by rw [List.mem_singleton.1 hx, ofB_length]; omega
  have hPz : sz (onP (Sof [ofB key]) t []) ≤ 154000 := by have := on_sz (S := Sof [ofB key]) (sz t + 1) t [] (Nat.lt_succ_self _); omega
  obtain ⟨hown1, hown2⟩ := ways_own hF (key := key) (by omega)
  have hoth := ways_get (S := Sof [ofB key]) hF (Sof_closed _) (other := other) (by omega)
  obtain ⟨S, hS⟩ : ∃ S, S = Sof [ofB key] := ⟨_, rfl⟩
  rw [← hS] at hPz hown1 hoth
  refine cutV (Nat × List Value) (fun s W => s.2.length = 6 ∧ St w [] W [(s.1, 26, s.2), (g7, 26, ncs t Ap cp Av cv Ak ck Ah ch)] [] [.dat false (dN (onP S t [])) s.2, .dat false (dN t) (ncs t Ap cp Av cv Ak ck Ah ch), .dat false [dB key] [.slice A1 key.length c1], .dat false [dB other] [.slice A2 other.length c2]])
    (fun s => [(1, .slice A1 key.length c1), (2, .slice A2 other.length c2), (7, .pointer (some ⟨g7, 0, none⟩)), (9, .pointer (some ⟨s.1, 0, none⟩)), (10, .int .i64 0)]) ?_ ?_
  · replace M := M.drew
    refine drT (Kp w [] [(g7, 26, ncs t Ap cp Av cv Ak ck Ah ch)] []) (.take 0 (.take 1 (.two 2 (.two 3 (.two 4 (.take 5 (.take 6 (.take 7 (.one 8 (.one 9 (.take 10 (.nil))))))) 8 (.one 4 (.take 5 (.take 6 (.take 7 (.one 9 (.take 10 (.nil)))))))) 8 (.one 3 (.one 4 (.take 5 (.take 6 (.take 7 (.one 9 (.take 10 (.nil))))))))) 8 (.one 2 (.one 3 (.one 4 (.take 5 (.take 6 (.take 7 (.one 9 (.take 10 (.nil))))))))))) ) (by kernel_rfl) (M.kp (by simp) (by simp)) ?_
    refine t_loadN (ncs t Ap cp Av cv Ak ck Ah ch) agg_nd rfl rfl (fun W K => K.run 0 rfl) ?_
    refine ⟨?_, ?_⟩
    ·
      refine cc is_rof (rof_any A1 key.length c1 key _ (M.rdb 2 rfl).2.2 (by omega)) ?_
      rintro e W ⟨A5, c5, rfl, o, hb⟩
      replace M := M.callO hb o
      clear o hb
      refine ⟨_, rfl, (M.kp (by simp) (by simp)), ?_⟩
      refine ⟨?_, ?_⟩
      ·
        refine s_bslice [.slice A5 (2 * key.length) c5] (fr := false) (ds := [dB (ofB key)]) M slls zls10 rfl (by decide) rfl (M.dw 0 rfl) rfl ?_
        clear M; rintro g6 W M
        refine ⟨(M.kp (by simp) (by simp)), ?_⟩
        refine ⟨?_, ?_⟩
        ·
          have ca := vonly_any t (by omega) [ofB key] _ _ _ (M.gl hG) (M.da 2 rfl) (show RdD _ _ (dLs [ofB key]) _ from M.d1 0 rfl) M.olt (by omega) hwl
          rw [only_full hF, ← hS] at ca
          dsimp only at ca
          refine cc is_vonly ca ?_
          clear ca
          rintro e W ⟨cs9, rfl, r9, hb9⟩
          have hc9 := r9.len
          rw [dN_len] at hc9
          replace M := (M.call hb9).addL r9
          clear r9 hb9
          refine ⟨_, rfl, (M.kp (by simp) (by simp)), ?_⟩
          refine s_alloc (zN) M al_nd ?_
          clear M
          rintro g9 W M
          refine ⟨(M.kp (by simp) (by simp)), ?_⟩
          refine s_storeA 0 cs9 M rfl sz_nd rfl rfl hc9 ((M.da 0 rfl).ones (dN_one _)) rfl ?_
          clear M; rintro W M
          dsimp only [setL] at M
          refine ⟨(M.kp (by simp) (by simp)), ?_⟩
          exact ⟨(g9, cs9), ⟨hc9, M.fsub _ (by simp)⟩, (by repeat (first | exact trivial | refine ⟨rfl, ?_⟩))⟩
        ·
          refine s_alloc (zN) M al_nd ?_
          clear M
          rintro g9 W M
          refine ⟨(M.kp (by simp) (by simp)), ?_⟩
          have ca := vonly_any t (by omega) [ofB key] _ _ _ (M.gl hG) (M.da 2 rfl) (show RdD _ _ (dLs [ofB key]) _ from M.d1 0 rfl) M.olt (by omega) hwl
          rw [only_full hF, ← hS] at ca
          dsimp only at ca
          refine cc is_vonly ca ?_
          clear ca
          rintro e W ⟨cs9, rfl, r9, hb9⟩
          have hc9 := r9.len
          rw [dN_len] at hc9
          replace M := (M.call hb9).addL r9
          clear r9 hb9
          refine ⟨_, rfl, (M.kp (by simp) (by simp)), ?_⟩
          refine s_storeA 0 cs9 M rfl sz_nd rfl rfl hc9 ((M.da 0 rfl).ones (dN_one _)) rfl ?_
          clear M; rintro W M
          dsimp only [setL] at M
          refine ⟨(M.kp (by simp) (by simp)), ?_⟩
          exact ⟨(g9, cs9), ⟨hc9, M.fsub _ (by simp)⟩, (by repeat (first | exact trivial | refine ⟨rfl, ?_⟩))⟩
      ·
        refine s_alloc (zN) M al_nd ?_
        clear M
        rintro g9 W M
        refine ⟨(M.kp (by simp) (by simp)), ?_⟩
        refine s_bslice [.slice A5 (2 * key.length) c5] (fr := false) (ds := [dB (ofB key)]) M slls zls10 rfl (by decide) rfl (M.dw 0 rfl) rfl ?_
        clear M; rintro g6 W M
        refine ⟨(M.kp (by simp) (by simp)), ?_⟩
        have ca := vonly_any t (by omega) [ofB key] _ _ _ (M.gl hG) (M.da 2 rfl) (show RdD _ _ (dLs [ofB key]) _ from M.d1 0 rfl) M.olt (by omega) hwl
        rw [only_full hF, ← hS] at ca
        dsimp only at ca
        refine cc is_vonly ca ?_
        clear ca
        rintro e W ⟨cs9, rfl, r9, hb9⟩
        have hc9 := r9.len
        rw [dN_len] at hc9
        replace M := (M.call hb9).addL r9
        clear r9 hb9
        refine ⟨_, rfl, (M.kp (by simp) (by simp)), ?_⟩
        refine s_storeA 0 cs9 M rfl sz_nd rfl rfl hc9 ((M.da 0 rfl).ones (dN_one _)) rfl ?_
        clear M; rintro W M
        dsimp only [setL] at M
        refine ⟨(M.kp (by simp) (by simp)), ?_⟩
        exact ⟨(g9, cs9), ⟨hc9, M.fsub _ (by simp)⟩, (by repeat (first | exact trivial | refine ⟨rfl, ?_⟩))⟩
    ·
      refine s_alloc (zN) M al_nd ?_
      clear M
      rintro g9 W M
      refine ⟨(M.kp (by simp) (by simp)), ?_⟩
      refine cc is_rof (rof_any A1 key.length c1 key _ (M.rdb 2 rfl).2.2 (by omega)) ?_
      rintro e W ⟨A5, c5, rfl, o, hb⟩
      replace M := M.callO hb o
      clear o hb
      refine ⟨_, rfl, (M.kp (by simp) (by simp)), ?_⟩
      refine s_bslice [.slice A5 (2 * key.length) c5] (fr := false) (ds := [dB (ofB key)]) M slls zls10 rfl (by decide) rfl (M.dw 0 rfl) rfl ?_
      clear M; rintro g6 W M
      refine ⟨(M.kp (by simp) (by simp)), ?_⟩
      have ca := vonly_any t (by omega) [ofB key] _ _ _ (M.gl hG) (M.da 2 rfl) (show RdD _ _ (dLs [ofB key]) _ from M.d1 0 rfl) M.olt (by omega) hwl
      rw [only_full hF, ← hS] at ca
      dsimp only at ca
      refine cc is_vonly ca ?_
      clear ca
      rintro e W ⟨cs9, rfl, r9, hb9⟩
      have hc9 := r9.len
      rw [dN_len] at hc9
      replace M := (M.call hb9).addL r9
      clear r9 hb9
      refine ⟨_, rfl, (M.kp (by simp) (by simp)), ?_⟩
      refine s_storeA 0 cs9 M rfl sz_nd rfl rfl hc9 ((M.da 0 rfl).ones (dN_one _)) rfl ?_
      clear M; rintro W M
      dsimp only [setL] at M
      refine ⟨(M.kp (by simp) (by simp)), ?_⟩
      exact ⟨(g9, cs9), ⟨hc9, M.fsub _ (by simp)⟩, (by repeat (first | exact trivial | refine ⟨rfl, ?_⟩))⟩
  clear M
  rintro ⟨g9, cs9⟩ E2 W2 ⟨hc9, M⟩
  dsimp only at hc9 M
  refine p_ne rfl rfl (fun _ => ?_) (fun h => absurd rfl h)
  obtain ⟨G, hGq⟩ : ∃ G, G = rGet t key := ⟨_, rfl⟩
  obtain ⟨H, hHq⟩ : ∃ H, H = rGet (onP S t []) other := ⟨_, rfl⟩
  obtain ⟨O, hOq⟩ : ∃ O, O = rGet t other := ⟨_, rfl⟩
  rw [← hGq] at hown1 hown2
  rw [← hHq, ← hOq] at hoth
  refine v_loadN cs9 agg_nd rfl hc9 (M.run 0 rfl) ?_
  have ca := r8get_any (onP S t []) (by omega) key _ _ cs9 _ _ _ (M.da 0 rfl) (M.d1 2 rfl) M.olt
  rw [hown1] at ca
  refine cc is_r8get ca ?_
  clear ca
  rintro e W ⟨A11, n11, c11, Am11, nm11, cm11, rfl, rv, rm, hb⟩
  replace M := ((M.call hb).addD rv).addD rm
  clear rv rm hb
  refine ⟨_, rfl, ?_⟩
  refine v_loadN (ncs t Ap cp Av cv Ak ck Ah ch) agg_nd rfl rfl (M.run 1 rfl) ?_
  have ca := r8get_any t (by omega) key _ _ (ncs t Ap cp Av cv Ak ck Ah ch) _ _ _ (M.da 3 rfl) (M.d1 4 rfl) M.olt
  rw [← hGq] at ca
  refine cc is_r8get ca ?_
  clear ca
  rintro e W ⟨A15, n15, c15, Am15, nm15, cm15, rfl, rv, rm, hb⟩
  replace M := ((M.call hb).addD rv).addD rm
  clear rv rm hb
  refine ⟨_, rfl, ?_⟩
  refine v_loadN cs9 agg_nd rfl hc9 (M.run 0 rfl) ?_
  have ca := r8get_any (onP S t []) (by omega) other _ _ cs9 _ _ _ (M.da 4 rfl) (M.d1 7 rfl) M.olt
  rw [← hHq] at ca
  refine cc is_r8get ca ?_
  clear ca
  rintro e W ⟨A19, n19, c19, Am19, nm19, cm19, rfl, rv, rm, hb⟩
  replace M := ((M.call hb).addD rv).addD rm
  clear rv rm hb
  refine ⟨_, rfl, ?_⟩
  refine v_loadN (ncs t Ap cp Av cv Ak ck Ah ch) agg_nd rfl rfl (M.run 1 rfl) ?_
  have ca := r8get_any t (by omega) other _ _ (ncs t Ap cp Av cv Ak ck Ah ch) _ _ _ (M.da 7 rfl) (M.d1 9 rfl) M.olt
  rw [← hOq] at ca
  refine cc is_r8get ca ?_
  clear ca
  rintro e W ⟨A23, n23, c23, Am23, nm23, cm23, rfl, rv, rm, hb⟩
  replace M := ((M.call hb).addD rv).addD rm
  clear rv rm hb
  refine ⟨_, rfl, ?_⟩
  refine p_ne rfl rfl (fun _ => ?_) (fun h => absurd hown2 h)
  refine p_bneC u_bool rfl rfl (fun _ => ?_) (fun h => absurd rfl h)
  obtain ⟨qs, hqs, hc⟩ := same_tf (c1 := c11) (c2 := c15) (M.rdb 7 rfl).2.2 (M.rdb 5 rfl).2.2
  obtain rfl := hqs.2 rfl
  refine cc is_same0 hc ?_
  rintro e W' ⟨rfl, rfl⟩
  refine ⟨_, rfl, ?_⟩
  clear hqs hc
  refine p_not rfl ?_
  rcases hoth with ⟨r, x, hH, hr1, hr2, hx, hx4⟩ | ⟨hH, he⟩
  · have hr3 : ¬ r <+: ofB key := fun h => by
      rw [hS, Sof_one] at hr2
      exact of_decide_eq_false hr2 h
    clear hHq
    subst hH
    dsimp only [Option.getD_some] at M
    refine p_eq rfl rfl (fun _ => ?_) (fun h => absurd rfl h)
    refine cc is_rof (rof_any A2 other.length c2 other _ (M.rdb 11 rfl).2.2 (by omega)) ?_
    rintro e W ⟨A5, c5, rfl, o, hb⟩
    replace M := M.callO hb o
    clear o hb
    refine ⟨_, rfl, ?_⟩
    have ern := (M.rdb 3 rfl).1
    subst ern
    have hrl := hr1.length_le
    rw [ofB_length] at hrl
    refine v_loadN cs9 agg_nd rfl hc9 (M.run 0 rfl) ?_
    have ca := vat_any (onP S t []) (by omega) r _ _ cs9 (M.da 9 rfl) (M.d1 3 rfl) M.olt (by omega)
    rw [hx] at ca
    refine cc is_vat ca ?_
    clear ca
    rintro e W ⟨cs28, rfl, r9, hb9⟩
    have hc28 := r9.len
    rw [dN_len] at hc28
    replace M := (M.call hb9).addL (r9.to fun b q => ⟨rfl, q.2.1, fun e => by have := M.olt b e; have := q.1; omega⟩)
    clear r9 hb9
    refine ⟨_, rfl, ?_⟩
    refine s_alloc (zN) M al_nd ?_
    clear M
    rintro g28 W M
    refine s_storeA 0 cs28 M rfl sz_nd rfl rfl hc28 ((M.da 0 rfl).ones (dN_one _)) rfl ?_
    clear M; rintro W M
    dsimp only [setL] at M
    refine cc is_begins (begins_any _ _ _ _ _ _ (ofB other) r _ (M.rdb 1 rfl).2.2 (M.rdb 1 rfl).2.1 (M.rdb 4 rfl).2.2 (by omega) (by omega)) ?_
    rintro e W ⟨q, rfl, hq, hb⟩
    obtain rfl := hq.2 hr1
    replace M := M.call hb
    clear hb hq
    refine ⟨_, rfl, ?_⟩
    refine cc is_rof (rof_any A1 key.length c1 key _ (M.rdb 12 rfl).2.2 (by omega)) ?_
    rintro e W ⟨A6, c6, rfl, o, hb⟩
    replace M := M.callO hb o
    clear o hb
    refine ⟨_, rfl, ?_⟩
    refine cc is_begins (begins_any _ _ _ _ _ _ (ofB key) r _ (M.rdb 0 rfl).2.2 (M.rdb 0 rfl).2.1 (M.rdb 5 rfl).2.2 (by omega) (by omega)) ?_
    rintro e W ⟨q, rfl, hq, hb⟩
    obtain rfl : q = false := by
      cases q with
      | false => rfl
      | true => exact absurd (hq.1 rfl) hr3
    replace M := M.call hb
    clear hb hq
    refine ⟨_, rfl, ?_⟩
    refine p_not rfl ?_
    obtain ⟨Bp, dp, Bv, dv, Bk, dk, Bh, dh, rfl, -⟩ := (M.da 1 rfl).node
    refine p_fld fN0 rfl ?_
    refine v_load agg_int rfl ((M.B 0 rfl).at_ rfl) ?_
    refine p_eq rfl rfl (fun _ => ?_) (fun h => absurd hx4 h)
    refine cc is_kn10 (known10_any _ _ (M.gl hG) M.olt) ?_
    rintro e W ⟨rfl, hb⟩
    replace M := M.call hb
    clear hb
    exact ⟨_, rfl, rfl, M.below⟩
  · subst hH
    refine p_eq rfl rfl (fun h => absurd (show H.e = 80 from h) (by rw [he]; decide)) (fun _ => ?_)
    refine p_beqC u_bool rfl rfl (fun _ => ?_) (fun h => absurd rfl h)
    obtain ⟨qs, hqs, hc⟩ := same_tf (c1 := c19) (c2 := c23) (M.rdb 3 rfl).2.2 (M.rdb 1 rfl).2.2
    obtain rfl := hqs.2 rfl
    refine cc is_same0 hc ?_
    rintro e W' ⟨rfl, rfl⟩
    refine ⟨_, rfl, ?_⟩
    clear hqs hc
    refine cc is_kn10 (known10_any _ _ (M.gl hG) M.olt) ?_
    rintro e W ⟨rfl, hb⟩
    replace M := M.call hb
    clear hb
    exact ⟨_, rfl, rfl, M.below⟩
end Go.Proofs.YtojjfkbffjkojaaDoor
namespace Go.Proofs.YtojjfkbffjkojaaDoor
open Go.RowKit Go.ChangeShapes
theorem gBegin : Tryd.prog.globalNamed "exchequer/digest.begin" = some 0 := by kernel_rfl
theorem gRoots : Tryd.prog.globalNamed "exchequer/digest.roots" = some 1 := by kernel_rfl
theorem tBegin : (Tryd.prog.globals[0]?).map (·.type) = some 130 := by kernel_rfl
theorem tRoots : (Tryd.prog.globals[1]?).map (·.type) = some 133 := by kernel_rfl
theorem cB : Tryd.prog.cellsOf 130 = 8 := by kernel_rfl
theorem cR : Tryd.prog.cellsOf 133 = 64 := by kernel_rfl
theorem cU : Tryd.prog.cellsOf 94 = 1 := by kernel_rfl
def laidL : List (String × DataW Unit) := [("exchequer/digest.begin", Rows.laid_exchequer_digest_begin), ("exchequer/digest.roots", Rows.laid_exchequer_digest_roots)]
theorem gl_of {W : World} (h : laidMetH Tryd.prog laidL W) : GL W [] := by
  rw [MakeChecks.laidMetH_plain _ _ _ (by kernel_rfl)] at h
  have hb : Lib.TabIs Tryd.prog W "exchequer/digest.begin" .u32 [1779033703, 3144134277, 1013904242, 2773480762, 1359893119, 2600822924, 528734635, 1541459225] :=
    Lib.tabIs_of_head (rest := [("exchequer/digest.roots", Rows.laid_exchequer_digest_roots)]) gBegin tBegin Tryd.underlying130 Tryd.underlying94 cU cB h
  obtain ⟨ps, ⟨g0, t0, cs0, f0, p0, q0, hg0, ht0, hv0, hd0, ⟨g1, t1, cs1, f1, p1, q1, hg1, ht1, hv1, hd1, _, _⟩, _⟩, _, _⟩ := h
  obtain rfl := Option.some.inj (gRoots.symm.trans hg1)
  obtain rfl := Option.some.inj (tRoots.symm.trans ht1)
  have hr : Lib.TabIs Tryd.prog W "exchequer/digest.roots" .u32 (List.map (fun (n : Nat) => (n : Int)) roots) := by
    unfold Lib.TabIs
    rw [hv1, ← Lib.cells_of_tab Tryd.underlying133 Tryd.underlying94 cU cR hd1]
  refine ⟨fun j hj => ?_, fun j v hv => ?_, ?_, by simp, by simp⟩
  · have := hr.cell gRoots j (by rw [List.length_map]; exact hj)
    rw [this]
    unfold cu
    congr 2
    rw [List.getD_eq_getElem?_getD, List.getD_eq_getElem?_getD, List.getElem?_map]
    have : j < roots.length := hj
    rw [List.getElem?_eq_getElem this]; rfl
  · have hj := (List.getElem?_eq_some_iff.1 hv).1
    have := hb.cell gBegin j hj
    rw [this]
    have hj8 : j = 0 ∨ j = 1 ∨ j = 2 ∨ j = 3 ∨ j = 4 ∨ j = 5 ∨ j = 6 ∨ j = 7 := by have : j < 8 := hj; omega
    rcases hj8 with rfl | rfl | rfl | rfl | rfl | rfl | rfl | rfl <;> exact hv
  · have := hr.cell gRoots 0 (by decide)
    have := World.block_lt_of_cell? W _ this
    exact this
/-- A world for the witness: the tables hold what their initialisers lay. -/
def layAt (cs : List Value) : Obj → Obj
  | .cells _ t frozen => .cells cs.toArray t frozen
  | o => o
noncomputable def laidWorld (os : Os) : World :=
  { World.holding Tryd.prog os ⟨#[], #[], []⟩ with heap := ((World.holding Tryd.prog os ⟨#[], #[], []⟩).heap.modify 0 (layAt (hc begin8))).modify 1 (layAt (roots.map cu)) }
end Go.Proofs.YtojjfkbffjkojaaDoor
