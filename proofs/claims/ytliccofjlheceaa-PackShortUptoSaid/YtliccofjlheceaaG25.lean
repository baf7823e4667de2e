/- The walk of the law PackShort. -/
import Derived.Test.YtliccofjlheceaaG24
import Derived.Test.YtliccofjlheceaaG18
namespace Go.Proofs.Ytliccofjlheceaa
open Go.RowKit


theorem prBulk_le : ∀ l : List Pr, prBulk l ≤ 140 * (l.map fun t => t.k.length + t.v.length + 3).sum
  | [] => Nat.zero_le _
  | p :: l => by
    have := prBulk_le l
    rw [List.map_cons, List.sum_cons, show prBulk (p :: l) = (140 + 2 * p.k.length + p.v.length) + prBulk l by unfold prBulk; rw [List.map_cons, List.sum_cons]]
    omega
theorem prBig_of : ∀ {l : List Pr}, (l.map fun t => t.k.length + t.v.length + 3).sum ≤ 1048576 → prBig l := by
  intro l h
  have key : ∀ l : List Pr, l.length ≤ (l.map fun t => t.k.length + t.v.length + 3).sum ∧ ∀ p ∈ l, p.k.length + p.v.length ≤ (l.map fun t => t.k.length + t.v.length + 3).sum := by
    intro l
    induction l with
    | nil => exact ⟨Nat.zero_le _, fun p hp => by cases hp⟩
    | cons q l ih =>
      rw [List.map_cons, List.sum_cons]
      refine ⟨by rw [List.length_cons]; omega, fun p hp => ?_⟩
      rcases List.mem_cons.1 hp with rfl | hp
      · omega
      · have := ih.2 p hp; omega
  obtain ⟨h1, h2⟩ := key l
  exact ⟨by omega, fun p hp => by have := h2 p hp; omega⟩
theorem RdS.rdD {W : World} {A : Option Addr} {n c : Nat} {ll : List (List UInt8)} (h : RdS W W.heap.size A n ll) (hc : n ≤ c) : RdD W (Fd W []) (dLs ll) (.slice A n c) := (h.toD hc).to fun b hb => ⟨rfl, hb, fun e => by cases e⟩
theorem zls11 : zeroOf Try.prog 23 = some [.slice none 0 0] := by kernel_rfl
theorem St.frzLw {w W : World} {gs : List (Option Nat)} {L : Lc} {R : List Row} {fs : List Fact} {A : Option Addr} {n c : Nat} {xs : List Value} {ll : List (List UInt8)} {fr : Bool} (M : St w gs W L (⟨23, 1, A, n, c, xs⟩ :: R) fs) (hd : RdL W (Ft w W (own L (⟨23, 1, A, n, c, xs⟩ :: R) gs) fr) (ll.map dB) xs) (hn : n = ll.length) : St w gs W L R (.dat fr [dLs ll] [.slice A ll.length c] :: fs) := by
  subst hn
  exact M.frzR hd
theorem sum_memW : ∀ (l : List (List UInt8)), ∀ x ∈ l, x.length + 1 ≤ (l.map fun x => x.length + 1).sum
  | [], x, h => by cases h
  | y :: l, x, h => by
    rw [List.map_cons, List.sum_cons]
    rcases List.mem_cons.1 h with rfl | h
    · omega
    · have := sum_memW l x h; omega
set_option maxRecDepth 100000 in
set_option maxHeartbeats 8000000 in
theorem packShort_walk (w : World) {A0 : Option Addr} {n0 c0 : Nat} {l : List Pr} (g0 : RdD w (Fd w []) (dPl l) (.slice A0 n0 c0)) (b0 : (l.map fun t => t.k.length + t.v.length + 3).sum ≤ 1048576) {A1 : Option Addr} {n1 c1 : Nat} {a : List (List UInt8)} (g1 : RdD w (Fd w []) (dLs a) (.slice A1 n1 c1)) (b1 : (a.map fun x => x.length + 1).sum ≤ 1048576) {A2 : Option Addr} {n2 c2 : Nat} {b : List UInt8} (g2 : RdD w (Fd w []) (dB b) (.slice A2 n2 c2)) (b2 : b.length ≤ 1048576) :
    Calls Try.prog 8 #[.slice A0 n0 c0, .slice A1 n1 c1, .slice A2 n2 c2] w (RetTrue w) := by
  refine calls_ev (args := [.slice A0 n0 c0, .slice A1 n1 c1, .slice A2 n2 c2]) mixed Try.func8 rfl (by kernel_rfl) ?_
  have en1 : n1 = a.length := g1.slen
  subst en1
  have en2 : n2 = b.length := g2.slen
  subst en2
  have hwa : ∀ x ∈ a, x.length ≤ 10000000 := fun x hx => by have := sum_memW a x hx; omega
  have hbk := prBulk_le l
  have M := (((St.start (w := w) (gs := []) (fun b h => by cases h)).addD g2).addD g1).addD g0
  clear g0 g1 g2
  obtain ⟨T, hT⟩ : ∃ T, T = tOf l := ⟨_, rfl⟩
  have hTz := tOf_sz l
  rw [← hT] at hTz
  refine cc is_r8of (r8of_any 401 (Nat.le_refl _) l _ _ _ _ _ (M.d1 0 rfl) M.olt (prBig_of b0)) ?_
  rintro e W ⟨cs, he, hres, hb⟩
  rw [← tOf_eq (Nat.le_refl _), ← hT] at he hres
  subst he
  have hc7 := hres.len
  rw [dN_len] at hc7
  replace M := (M.call hb).addL hres
  clear hres hb
  refine ⟨_, rfl, ?_⟩
  refine s_alloc (zN) M al_nd ?_
  clear M
  rintro g7 W M
  refine s_storeA 0 cs M rfl sz_nd rfl rfl hc7 ((M.da 0 rfl).ones (dN_one _)) rfl ?_
  clear M; rintro W M
  dsimp only [setL] at M
  refine p_ne rfl rfl (fun h0 => ?_) (fun h0 => ?_)
  rotate_left
  ·
    refine cc is_kn11 (known11_any _ _ M.olt) ?_
    rintro e W ⟨rfl, hb⟩
    replace M := M.call hb
    clear hb
    exact ⟨_, rfl, rfl, M.below⟩
  have h0 : T.2 = 0 := h0
  have hF : Full T.1 := (of_ok hT h0).2.1
  obtain ⟨t, ht⟩ : ∃ t, t = T.1 := ⟨_, rfl⟩
  rw [← ht] at M hTz hF
  obtain ⟨Ap, cp, Av, cv, Ak, ck, Ah, ch, rfl, -⟩ := (M.da 0 rfl).node
  refine v_loadN (ncs t Ap cp Av cv Ak ck Ah ch) agg_nd rfl rfl (M.run 0 rfl) ?_
  refine cc is_much11 (much11_any t (by omega) _ _ (ncs t Ap cp Av cv Ak ck Ah ch) (M.da 0 rfl) M.olt) ?_
  rintro e W ⟨he, hb⟩
  obtain ⟨qa, hqqa⟩ : ∃ q, q = decide (500 ≤ muchP t 500) := ⟨_, rfl⟩
  rw [← hqqa] at he
  subst he
  replace M := M.call hb
  clear hb
  refine ⟨_, rfl, ?_⟩
  cases qa with
  | true =>
    refine cc is_kn11 (known11_any _ _ M.olt) ?_
    rintro e W ⟨rfl, hb⟩
    replace M := M.call hb
    clear hb
    exact ⟨_, rfl, rfl, M.below⟩
  | false =>
  have hz2 := much11_no hqqa.symm
  have hct := much11_cnt hqqa.symm
  refine p_fld fN0 rfl ?_
  refine v_load agg_int rfl ((M.B 0 rfl).at_ rfl) ?_
  refine p_eq rfl rfl (fun hk => ?_) (fun hk => ?_)
  ·
    refine cc is_kn11 (known11_any _ _ M.olt) ?_
    rintro e W ⟨rfl, hb⟩
    replace M := M.call hb
    clear hb
    exact ⟨_, rfl, rfl, M.below⟩
  have hk : t.kind ≠ 0 := hk
  refine p_len slls rfl ?_
  refine p_gt rfl rfl (fun k2 => ?_) (fun k2 => ?_)
  ·
    refine cc is_kn11 (known11_any _ _ M.olt) ?_
    rintro e W ⟨rfl, hb⟩
    replace M := M.call hb
    clear hb
    exact ⟨_, rfl, rfl, M.below⟩
  have k2 : a.length ≤ 8 := by have h : ¬ (8 : Int) < (a.length : Int) := k2; omega
  refine p_len slb rfl ?_
  refine p_gt rfl rfl (fun k3 => ?_) (fun k3 => ?_)
  ·
    refine cc is_kn11 (known11_any _ _ M.olt) ?_
    rintro e W ⟨rfl, hb⟩
    replace M := M.call hb
    clear hb
    exact ⟨_, rfl, rfl, M.below⟩
  replace M := (M.nilR 23 1).addT (fr := false) (ds := (a.take 0).map dB) (cs := []) RdL.nil_
  refine lp (Nat × Option Addr × Nat × List Value) (fun s W => s.1 ≤ a.length ∧ St w [] W [(g7, 38, ncs t Ap cp Av cv Ak ck Ah ch)] [⟨23, 1, s.2.1, s.1, s.2.2.1, s.2.2.2⟩] [.dat false ((a.take s.1).map dB) s.2.2.2, .dat false [dLs a] [.slice A1 a.length c1], .dat false [dB b] [.slice A2 b.length c2], .dat false (dN t) (ncs t Ap cp Av cv Ak ck Ah ch)])
    (fun s => [(1, .slice A1 a.length c1), (2, .slice A2 b.length c2), (7, .pointer (some ⟨g7, 0, none⟩)), (9, .slice s.2.1 s.1 s.2.2.1), (10, .int .i64 (s.1 : Nat))]) (fun s => a.length - s.1) (0, none, 0, []) ⟨Nat.zero_le _, M.fsub _ (by simp)⟩ (by repeat (first | exact trivial | refine ⟨rfl, ?_⟩)) ?_
  clear M
  rintro ⟨i, A9, c9, xs⟩ E W ⟨hi, M⟩
  dsimp only at hi M
  refine p_len slls rfl ?_
  refine p_lt rfl rfl (fun hlt => ?_) (fun hge => ?_)
  · have hlt : i < a.length := by have h : (i : Int) < (a.length : Int) := hlt; omega
    obtain ⟨x, hx⟩ : ∃ x, a[i]? = some x := ⟨_, List.getElem?_eq_getElem hlt⟩
    obtain ⟨y1, o1, A8, c8, e1, hF8, r8, hcell⟩ := (M.d1 1 rfl).atL hx
    subst e1
    refine p_at (i := i) slls rfl rfl rfl hlt ?_
    refine v_load agg_b rfl hcell ?_
    refine p_len slb rfl ?_
    refine p_gt rfl rfl (fun k4 => ?_) (fun k4 => ?_)
    ·
      refine cc is_kn11 (known11_any _ _ M.olt) ?_
      rintro e W ⟨rfl, hb⟩
      replace M := M.call hb
      clear hb
      exact ⟨_, rfl, rfl, M.below⟩
    refine p_at (i := i) slls rfl rfl rfl hlt ?_
    refine v_load agg_b rfl hcell ?_
    clear hcell hF8
    replace M := M.addD r8
    refine s_bsliceB [.slice A8 x.length c8] M slls zls11 rfl (by decide) rfl ?_
    clear M; rintro g9 W M
    refine s_app M Try.underlying22 lsinfo rfl (by decide) rfl rfl (Reads.blk (M.B 0 rfl) rfl) (all1 rfl) ⟨by omega, by decide⟩ ?_
    clear M; rintro A6 c6 W M -
    have hX := (M.dw 1 rfl).app (M.dw 0 rfl)
    have hst : (a.take i).map dB ++ [dB x] = (a.take (i + 1)).map dB := by rw [List.take_add_one, hx, List.map_append]; rfl
    rw [hst] at hX
    refine p_addN (b := 1) rfl rfl (by dsimp only; omega) ?_
    exact ⟨(i + 1, A6, c6, xs ++ [.slice A8 x.length c8]), ⟨by dsimp only; omega, (M.addT hX).dropL.fsub _ (by simp)⟩, (by repeat (first | exact trivial | refine ⟨rfl, ?_⟩)), by dsimp only; omega⟩
  have hge : i = a.length := by have h : ¬ (i : Int) < (a.length : Int) := hge; omega
  subst hge
  clear hi
  rw [List.take_length] at M
  have hw := ((M.frzLw (ll := a) (M.dw 0 rfl) rfl).d1 0 rfl)
  replace hw : RdD W (Fd W []) (dLs a) (.slice A9 a.length c9) := hw.to fun b hb => ⟨rfl, hb.1, fun h => by cases h⟩
  refine v_loadN (ncs t Ap cp Av cv Ak ck Ah ch) agg_nd rfl rfl (M.run 0 rfl) ?_
  have ca := tonlyW_any t (by omega) a _ _ _ (M.da 3 rfl) hw M.olt (by omega) hwa
  rw [only_full hF] at ca
  dsimp only at ca
  refine cc is_tonlyW ca ?_
  clear ca
  rintro e W ⟨c11, rfl, r9, hb⟩
  have hl11 := r9.len
  rw [dN_len] at hl11
  replace M := (M.call hb).addL r9
  clear r9 hb
  refine ⟨_, rfl, ?_⟩
  refine s_alloc (zN) M al_nd ?_
  clear M
  rintro g11 W M
  refine s_storeA 0 c11 M rfl sz_nd rfl rfl hl11 ((M.da 0 rfl).ones (dN_one _)) rfl ?_
  clear M; rintro W M
  dsimp only [setL] at M
  clear hw
  refine s_bsliceB [.slice A2 b.length c2] M slls zls11 rfl (by decide) rfl ?_
  clear M; rintro g10 W M
  refine s_app M Try.underlying22 lsinfo rfl (by decide) rfl rfl (Reads.blk (M.B 0 rfl) rfl) (all1 rfl) ⟨by omega, by decide⟩ ?_
  clear M; rintro A6 c6 W M -
  have hX := (M.dw 1 rfl).app (M.dw 3 rfl)
  have hst : a.map dB ++ [dB b] = (a ++ [b]).map dB := by rw [List.map_append]; rfl
  rw [hst] at hX
  have hab : a.length + 1 = (a ++ [b]).length := by rw [List.length_append]; rfl
  replace M := (M.addT hX).dropL
  replace M := M.frzLw (ll := a ++ [b]) (M.dw 0 rfl) hab
  clear hX
  rw [hab]
  have hwv : ∀ x ∈ a ++ [b], x.length ≤ 10000000 := fun x hx => (List.mem_append.1 hx).elim (hwa x) (fun h => by rw [List.mem_singleton.1 h]; omega)
  have hlv : (a ++ [b]).length ≤ 9 := by omega
  have hw := M.d1 0 rfl
  replace hw : RdD W (Fd W []) (dLs (a ++ [b])) (.slice A6 (a ++ [b]).length c6) := hw.to fun b hb => ⟨rfl, hb.1, fun h => by cases h⟩
  refine v_loadN (ncs t Ap cp Av cv Ak ck Ah ch) agg_nd rfl rfl (M.run 1 rfl) ?_
  have ca := tonlyW_any t (by omega) (a ++ [b]) _ _ _ (M.da 6 rfl) hw M.olt (by omega) hwv
  rw [only_full hF] at ca
  dsimp only at ca
  refine cc is_tonlyW ca ?_
  clear ca
  rintro e W ⟨c13, rfl, r9, hb⟩
  have hl13 := r9.len
  rw [dN_len] at hl13
  replace M := (M.call hb).addL r9
  clear r9 hb
  refine ⟨_, rfl, ?_⟩
  refine s_alloc (zN) M al_nd ?_
  clear M
  rintro g13 W M
  refine s_storeA 0 c13 M rfl sz_nd rfl rfl hl13 ((M.da 0 rfl).ones (dN_one _)) rfl ?_
  clear M; rintro W M
  dsimp only [setL] at M
  clear hw
  have hXz : sz (onP (Sof a) t []) ≤ 192500 := by have := on_sz (S := Sof a) (sz t + 1) t [] (Nat.lt_succ_self _); omega
  have hYz : sz (onP (Sof (a ++ [b])) t []) ≤ 192500 := by have := on_sz (S := Sof (a ++ [b])) (sz t + 1) t [] (Nat.lt_succ_self _); omega
  have hh : hashR (onP (Sof (a ++ [b])) t []) = hashR t := by rw [on_hash (Sof (a ++ [b])) [] hF.1, hashR_val hF.1]
  have hle : (cntP (onP (Sof a) t [])).1 ≤ (cntP (onP (Sof (a ++ [b])) t [])).1 := cnt_le (Sof_le a [b]) t []
  have hpk := pack_val (on_val (Sof (a ++ [b])) [] hF.1) (Nat.le_trans (cnt_on (Sof (a ++ [b])) t []) hct)
  have hpf := pack_fold hF.1 hk
  obtain ⟨X, hX⟩ : ∃ X, X = onP (Sof a) t [] := ⟨_, rfl⟩
  obtain ⟨Y, hY⟩ : ∃ Y, Y = onP (Sof (a ++ [b])) t [] := ⟨_, rfl⟩
  rw [← hX] at M hXz hle
  rw [← hY] at M hYz hle hh hpk
  clear hX hY
  have hp0 : (packP Y).2 = 0 := by rw [hpk]
  have hup := unp_pack hp0 (by omega)
  obtain ⟨Bp, dp, Bv, dv, Bk, dk, Bh, dh, rfl, -⟩ := (M.da 0 rfl).node
  replace M := M.fsub [.dat false (dN Y) (ncs Y Bp dp Bv dv Bk dk Bh dh), .dat false (dN X) c11, .dat false (dN t) (ncs t Ap cp Av cv Ak ck Ah ch)] (by simp)
  refine v_loadN (ncs Y Bp dp Bv dv Bk dk Bh dh) agg_nd rfl rfl (M.run 0 rfl) ?_
  refine cc is_pPack (ppack_any Y (by omega) _ _ _ (M.da 0 rfl) M.olt) ?_
  rintro e W ⟨A5, n5, c5, he5, o, hb⟩
  have e5 := o.len
  have hpl := packP_len Y
  rw [hp0] at he5
  subst he5
  replace M := M.callO hb o
  clear o hb
  refine ⟨_, rfl, ?_⟩
  refine cc is_pUnpack (punpack_any (packP Y).1 _ _ _ n5 c5 (M.d1 0 rfl) M.olt (by omega)) ?_
  rintro e W ⟨cs17, he7, r7, hb⟩
  rw [hup] at he7 r7
  dsimp only at he7 r7
  subst he7
  obtain ⟨Cp, ep, Cv, ev, Ck, ek, Ch, eh, rfl, -⟩ := id r7.node
  replace M := M.callF hb r7
  clear r7 hb
  refine ⟨_, rfl, ?_⟩
  refine s_alloc (zN) M al_nd ?_
  clear M
  rintro g17 W M
  first | refine s_storeA 0 (ncs Y Cp ep Cv ev Ck ek Ch eh) M rfl (by kernel_rfl) rfl rfl rfl (all1 rfl) rfl ?_ | refine s_storeA 1 (ncs Y Cp ep Cv ev Ck ek Ch eh) M rfl (by kernel_rfl) rfl rfl rfl (all1 rfl) rfl ?_ | refine s_storeA 2 (ncs Y Cp ep Cv ev Ck ek Ch eh) M rfl (by kernel_rfl) rfl rfl rfl (all1 rfl) rfl ?_ | refine s_storeA 3 (ncs Y Cp ep Cv ev Ck ek Ch eh) M rfl (by kernel_rfl) rfl rfl rfl (all1 rfl) rfl ?_
  clear M
  rintro W M
  dsimp only [setL] at M
  refine v_loadN c11 agg_nd rfl hl11 (M.run 2 rfl) ?_
  refine cc is_rcnt (rcnt_any 100000000 (by decide) X (by omega) _ _ _ (M.da 3 rfl) M.olt) ?_
  rintro e W ⟨rfl, hb⟩
  replace M := M.call hb
  clear hb
  refine ⟨_, rfl, ?_⟩
  refine v_loadN (ncs Y Cp ep Cv ev Ck ek Ch eh) agg_nd rfl rfl (M.run 0 rfl) ?_
  refine cc is_rcnt (rcnt_any 100000000 (by decide) Y (by omega) _ _ _ (M.da 0 rfl) M.olt) ?_
  rintro e W ⟨rfl, hb⟩
  replace M := M.call hb
  clear hb
  refine ⟨_, rfl, ?_⟩
  replace M := M.drew
  refine drT (Kp w [] [(g17, 38, ncs Y Cp ep Cv ev Ck ek Ch eh), (g13, 38, ncs Y Bp dp Bv dv Bk dk Bh dh), (g11, 38, c11), (g7, 38, ncs t Ap cp Av cv Ak ck Ah ch)] []) (.take 0 (.take 1 (.take 2 (.take 3 (.take 4 (.take 5 (.take 6 (.take 7 (.take 8 (.take 9 (.take 10 (.take 11 (.take 12 (.take 14 (.one 13 (.one 15 (.one 16 (.take 17 (.take 18 (.take 19 (.one 20 (.one 21 (.take 22 (.take 23 (.take 24 (.one 25 (.take 26 (.take 27 (.nil))))))))))))))))))))))))))))) (by kernel_rfl) (M.kp (by simp) (by simp)) ?_
  refine p_eq rfl rfl (fun _ => ?_) (fun e => absurd rfl e)
  refine p_eq rfl rfl (fun _ => ?_) (fun e => absurd rfl e)
  refine p_le rfl rfl (fun _ => ?_) (fun h => absurd (show (((cntP X).1 : Nat) : Int) ≤ (((cntP Y).1 : Nat) : Int) by omega) h)
  refine t_loadN (ncs Y Cp ep Cv ev Ck ek Ch eh) agg_nd rfl rfl (fun W K => K.run 0 rfl) ?_
  refine t_loadN (ncs t Ap cp Av cv Ak ck Ah ch) agg_nd rfl rfl (fun W K => K.run 3 rfl) ?_
  refine cc is_r7hash (rhash_any Y (by omega) _ _ _ (M.da 0 rfl) M.olt) ?_
  rintro e W ⟨A8, n8, c8, rfl, o, hb⟩
  replace M := M.callO hb o
  clear o hb
  refine ⟨_, rfl, (M.kp (by simp) (by simp)), ?_⟩
  refine cc is_r7hash (rhash_any t (by omega) _ _ _ (M.da 5 rfl) M.olt) ?_
  rintro e W ⟨A9, n9, c9, rfl, o, hb⟩
  replace M := M.callO hb o
  clear o hb
  refine ⟨_, rfl, (M.kp (by simp) (by simp)), ?_⟩
  rw [hh] at M
  obtain ⟨qs, hqs, hc⟩ := same_tf (c1 := c8) (c2 := c9) (M.rdb 1 rfl).2.2 (M.rdb 0 rfl).2.2
  obtain rfl := hqs.2 rfl
  refine cc is_same0 hc ?_
  rintro e W' ⟨rfl, rfl⟩
  refine ⟨_, rfl, (M.kp (by simp) (by simp)), ?_⟩
  clear hqs hc
  refine t_loadN (ncs t Ap cp Av cv Ak ck Ah ch) agg_nd rfl rfl (fun W K => K.run 3 rfl) ?_
  refine cc is_r7fold (rfold_any t (by omega) _ _ _ (M.da 6 rfl) M.olt) ?_
  rintro e W ⟨csf, rfl, rf, hb⟩
  have hcf := rf.len
  rw [dN_len] at hcf
  replace M := M.callF hb rf
  clear rf hb
  refine ⟨_, rfl, (M.kp (by simp) (by simp)), ?_⟩
  have hfz := fold_sz t
  refine cc is_pSize (psize_any (foldN t) (by omega) _ _ _ (M.da 0 rfl) M.olt) ?_
  rintro e W ⟨he, hb⟩
  rw [hpf] at he
  subst he
  replace M := M.call hb
  clear hb
  refine ⟨_, rfl, (M.kp (by simp) (by simp)), ?_⟩
  refine p_eq rfl rfl (fun _ => ?_) (fun e => absurd rfl e)
  refine cc is_kn11 (known11_any _ _ M.olt) ?_
  rintro e W ⟨rfl, hb⟩
  replace M := M.call hb
  clear hb
  refine ⟨_, rfl, (M.kp (by simp) (by simp)), ?_⟩
  exact ⟨rfl, M.below⟩
end Go.Proofs.Ytliccofjlheceaa
