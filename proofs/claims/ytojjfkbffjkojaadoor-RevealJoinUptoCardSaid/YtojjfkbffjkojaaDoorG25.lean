/- The walk of the law RevealJoin. What the rows' list of package variables gives: the tables of digest. -/
import Derived.Test.YtojjfkbffjkojaaDoorG24
import Derived.Test.YtojjfkbffjkojaaDoorG13
import Derived.Test.YtojjfkbffjkojaaDoorRows
import Derived.Lib.LaidTab
import Derived.MakeChecks
namespace Go.Proofs.YtojjfkbffjkojaaDoor
open Go.RowKit


theorem zls10 : zeroOf Tryd.prog 23 = some [.slice none 0 0] := by kernel_rfl
theorem dLs_app (a b : List (List UInt8)) : (a ++ b).map dB = a.map dB ++ b.map dB := List.map_append
theorem dBs_one (a : List (List UInt8)) : ∀ d ∈ a.map dB, d.One := fun d hd => by
  obtain ⟨l, _, rfl⟩ := List.mem_map.1 hd
  exact trivial
theorem St.frzLs {w W : World} {gs : List (Option Nat)} {L : Lc} {R : List Row} {fs : List Fact} {A : Option Addr} {n c : Nat} {xs : List Value} {ll : List (List UInt8)} {fr : Bool} (M : St w gs W L (⟨23, 1, A, n, c, xs⟩ :: R) fs) (hd : RdL W (Ft w W (own L (⟨23, 1, A, n, c, xs⟩ :: R) gs) fr) (ll.map dB) xs) (hn : n = ll.length) : St w gs W L R (.dat fr [dLs ll] [.slice A ll.length c] :: fs) := by
  subst hn
  exact M.frzR hd
set_option maxRecDepth 100000 in
set_option maxHeartbeats 8000000 in
theorem revealJoin_walk (w : World) (hG : GL w []) {A0 : Option Addr} {n0 c0 : Nat} {l : List Pr} (g0 : RdD w (Fd w []) (dPl l) (.slice A0 n0 c0)) (b0 : (l.map fun t => t.k.length + t.v.length + 3).sum ≤ 1048576) {A1 : Option Addr} {n1 c1 : Nat} {a : List (List UInt8)} (g1 : RdD w (Fd w []) (dLs a) (.slice A1 n1 c1)) (b1 : (a.map fun x => x.length + 1).sum ≤ 1048576) {A2 : Option Addr} {n2 c2 : Nat} {b : List (List UInt8)} (g2 : RdD w (Fd w []) (dLs b) (.slice A2 n2 c2)) (b2 : (b.map fun x => x.length + 1).sum ≤ 1048576) :
    Calls Tryd.prog 4 #[.slice A0 n0 c0, .slice A1 n1 c1, .slice A2 n2 c2] w (RetTrue w) := by
  refine calls_ev (args := [.slice A0 n0 c0, .slice A1 n1 c1, .slice A2 n2 c2]) mixed Tryd.func4 rfl (by kernel_rfl) ?_
  have en1 : n1 = a.length := g1.slen
  subst en1
  have en2 : n2 = b.length := g2.slen
  subst en2
  have hwa : ∀ x ∈ a, x.length ≤ 10000000 := fun x hx => by have := sum_mem1 a x hx; omega
  have hwb : ∀ x ∈ b, x.length ≤ 10000000 := fun x hx => by have := sum_mem1 b x hx; omega
  have hna := sum_len1 a
  have hnb := sum_len1 b
  have hbk := prBulk_le l
  have M := (((St.start (w := w) (gs := []) (fun b h => by cases h)).addD g2).addD g1).addD g0
  clear g0 g1 g2
  obtain ⟨T, hT⟩ : ∃ T, T = tOf l := ⟨_, rfl⟩
  have hTz := tOf_sz l
  rw [← hT] at hTz
  refine cc is_r8of (r8of_any 401 (Nat.le_refl _) l _ _ _ _ _ (M.d1 0 rfl) M.olt (prBig_of b0)) ?_
  rintro e W ⟨cs, he, hres, hb⟩
  rw [← tOf_eq (Nat.le_refl _), ← hT] at he hres
  subst he
  have hc7 := hres.len
  rw [dN_len] at hc7
  replace M := (M.call hb).addL hres
  clear hres hb
  refine ⟨_, rfl, ?_⟩
  refine s_alloc (zN) M al_nd ?_
  clear M
  rintro g7 W M
  refine s_storeA 0 cs M rfl sz_nd rfl rfl hc7 ((M.da 0 rfl).ones (dN_one _)) rfl ?_
  clear M; rintro W M
  dsimp only [setL] at M
  refine p_ne rfl rfl (fun h0 => ?_) (fun h0 => ?_)
  rotate_left
  ·
    refine cc is_kn10 (known10_any _ _ (M.gl hG) M.olt) ?_
    rintro e W ⟨rfl, hb⟩
    replace M := M.call hb
    clear hb
    exact ⟨_, rfl, rfl, M.below⟩
  have h0 : T.2 = 0 := h0
  have hF : Full T.1 := (of_ok hT h0).2.1
  obtain ⟨t, ht⟩ : ∃ t, t = T.1 := ⟨_, rfl⟩
  rw [← ht] at M hTz hF
  obtain ⟨Ap, cp, Av, cv, Ak, ck, Ah, ch, rfl, -⟩ := (M.da 0 rfl).node
  refine v_loadN (ncs t Ap cp Av cv Ak ck Ah ch) agg_nd rfl rfl (M.run 0 rfl) ?_
  refine cc is_much10 (much10_any t (by omega) _ _ (ncs t Ap cp Av cv Ak ck Ah ch) (M.da 0 rfl) M.olt) ?_
  rintro e W ⟨he, hb⟩
  obtain ⟨qa, hqqa⟩ : ∃ q, q = decide (400 ≤ muchP t 400) := ⟨_, rfl⟩
  rw [← hqqa] at he
  subst he
  replace M := M.call hb
  clear hb
  refine ⟨_, rfl, ?_⟩
  cases qa with
  | true =>
    refine cc is_kn10 (known10_any _ _ (M.gl hG) M.olt) ?_
    rintro e W ⟨rfl, hb⟩
    replace M := M.call hb
    clear hb
    exact ⟨_, rfl, rfl, M.below⟩
  | false =>
  have hz2 := much10_no hqqa.symm
  refine p_len slls rfl ?_
  refine p_len slls rfl ?_
  refine p_addN (b := b.length) rfl rfl (by omega) ?_
  refine p_gt rfl rfl (fun k2 => ?_) (fun k2 => ?_)
  ·
    refine cc is_kn10 (known10_any _ _ (M.gl hG) M.olt) ?_
    rintro e W ⟨rfl, hb⟩
    replace M := M.call hb
    clear hb
    exact ⟨_, rfl, rfl, M.below⟩
  have k2 : a.length + b.length ≤ 12 := by have h : ¬ (12 : Int) < ((a.length + b.length : Nat) : Int) := k2; omega
  replace M := M.nilR 23 1
  obtain ⟨ys, hrd, hys⟩ := (M.d1 2 rfl).reads Fd.lt
  replace M := M.addL hys
  refine s_app M Tryd.underlying41 lsinfo rfl (by decide) rfl rfl hrd (hys.ones (dBs_one a)) ⟨by omega, by decide⟩ ?_
  clear M hrd hys; rintro A9 c9 W M -
  obtain ⟨ys, hrd, hys⟩ := (M.d1 4 rfl).reads Fd.lt
  replace M := M.addL hys
  refine s_app M Tryd.underlying41 lsinfo rfl (by decide) rfl rfl hrd (hys.ones (dBs_one b)) ⟨by omega, by decide⟩ ?_
  clear M hrd hys; rintro A9 c9 W M -
  have hab : 0 + a.length + b.length = (a ++ b).length := by rw [List.length_append, Nat.zero_add]
  have hba : 0 + b.length + a.length = (b ++ a).length := by rw [List.length_append, Nat.zero_add]
  have hX := (M.dw 1 rfl).app (M.dw 0 rfl)
  rw [← dLs_app] at hX
  replace M := M.frzLs (ll := a ++ b) hX hab
  clear hX
  rw [hab]
  replace M := M.nilR 23 1
  obtain ⟨ys, hrd, hys⟩ := (M.d1 6 rfl).reads Fd.lt
  replace M := M.addL hys
  refine s_app M Tryd.underlying41 lsinfo rfl (by decide) rfl rfl hrd (hys.ones (dBs_one b)) ⟨by omega, by decide⟩ ?_
  clear M hrd hys; rintro A9 c9 W M -
  obtain ⟨ys, hrd, hys⟩ := (M.d1 6 rfl).reads Fd.lt
  replace M := M.addL hys
  refine s_app M Tryd.underlying41 lsinfo rfl (by decide) rfl rfl hrd (hys.ones (dBs_one a)) ⟨by omega, by decide⟩ ?_
  clear M hrd hys; rintro A9 c9 W M -
  have hX := (M.dw 1 rfl).app (M.dw 0 rfl)
  rw [← dLs_app] at hX
  replace M := M.frzLs (ll := b ++ a) hX hba
  clear hX
  rw [hba]
  rename_i A9' c9' _ _ _ _ _
  have hwv : ∀ x ∈ a ++ b, x.length ≤ 10000000 := fun x hx => (List.mem_append.1 hx).elim (hwa x) (hwb x)
  have hwt : ∀ x ∈ b ++ a, x.length ≤ 10000000 := fun x hx => (List.mem_append.1 hx).elim (hwb x) (hwa x)
  have hlv : (a ++ b).length ≤ 12 := by rw [List.length_append]; exact k2
  have hlt : (b ++ a).length ≤ 12 := by rw [List.length_append]; omega
  refine lp Nat (fun i W => i ≤ (a ++ b).length ∧ St w [] W [(g7, 26, ncs t Ap cp Av cv Ak ck Ah ch)] [] [.dat false [dLs (b ++ a)] [.slice A9 (b ++ a).length c9], .dat false [dLs (a ++ b)] [.slice A9' (a ++ b).length c9'], .dat false (dN t) (ncs t Ap cp Av cv Ak ck Ah ch), .dat false [dLs a] [.slice A1 a.length c1]])
    (fun i => [(1, .slice A1 a.length c1), (7, .pointer (some ⟨g7, 0, none⟩)), (9, .slice A9' (a ++ b).length c9'), (10, .slice A9 (b ++ a).length c9), (11, .int .i64 (i : Nat))]) (fun i => (a ++ b).length - i) 0 ⟨Nat.zero_le _, M.fsub _ (by simp)⟩ (by repeat (first | exact trivial | refine ⟨rfl, ?_⟩)) ?_
  clear M
  rintro i E W ⟨hi, M⟩
  refine p_len slls rfl ?_
  refine p_lt rfl rfl (fun hlt => ?_) (fun hge => ?_)
  · have hlt : i < (a ++ b).length := by have h : (i : Int) < ((a ++ b).length : Int) := hlt; omega
    obtain ⟨x, hx⟩ : ∃ x, (a ++ b)[i]? = some x := ⟨_, List.getElem?_eq_getElem hlt⟩
    obtain ⟨y1, o1, A8, c8, e1, hF, r8, hcell⟩ := (M.d1 1 rfl).atL hx
    subst e1
    refine p_at (i := i) slls rfl rfl rfl hlt ?_
    refine v_load agg_b rfl hcell ?_
    clear hcell hF r8
    refine p_len slb rfl ?_
    refine p_gt rfl rfl (fun k3 => ?_) (fun k3 => ?_)
    ·
      refine cc is_kn10 (known10_any _ _ (M.gl hG) M.olt) ?_
      rintro e W ⟨rfl, hb⟩
      replace M := M.call hb
      clear hb
      exact ⟨_, rfl, rfl, M.below⟩
    refine p_addN (b := 1) rfl rfl (by omega) ?_
    exact ⟨i + 1, ⟨by omega, M⟩, (by repeat (first | exact trivial | refine ⟨rfl, ?_⟩)), by omega⟩
  clear hge hi
  refine v_loadN (ncs t Ap cp Av cv Ak ck Ah ch) agg_nd rfl rfl (M.run 0 rfl) ?_
  have ca := vonly_any t (by omega) (a ++ b) _ _ _ (M.gl hG) (M.da 2 rfl) (M.d1 1 rfl) M.olt (by omega) hwv
  rw [only_full hF] at ca
  dsimp only at ca
  refine cc is_vonly ca ?_
  clear ca
  rintro e W ⟨c12, rfl, r9, hb⟩
  have hl12 := r9.len
  rw [dN_len] at hl12
  replace M := (M.call hb).addL r9
  clear r9 hb
  refine ⟨_, rfl, ?_⟩
  refine s_alloc (zN) M al_nd ?_
  clear M
  rintro g12 W M
  refine s_storeA 0 c12 M rfl sz_nd rfl rfl hl12 ((M.da 0 rfl).ones (dN_one _)) rfl ?_
  clear M; rintro W M
  dsimp only [setL] at M
  refine v_loadN (ncs t Ap cp Av cv Ak ck Ah ch) agg_nd rfl rfl (M.run 1 rfl) ?_
  have ca := vonly_any t (by omega) (b ++ a) _ _ _ (M.gl hG) (M.da 3 rfl) (M.d1 1 rfl) M.olt (by omega) hwt
  rw [only_full hF] at ca
  dsimp only at ca
  refine cc is_vonly ca ?_
  clear ca
  rintro e W ⟨c14, rfl, r9, hb⟩
  have hl14 := r9.len
  rw [dN_len] at hl14
  replace M := (M.call hb).addL r9
  clear r9 hb
  refine ⟨_, rfl, ?_⟩
  refine s_alloc (zN) M al_nd ?_
  clear M
  rintro g14 W M
  refine s_storeA 0 c14 M rfl sz_nd rfl rfl hl14 ((M.da 0 rfl).ones (dN_one _)) rfl ?_
  clear M; rintro W M
  dsimp only [setL] at M
  rw [Sof_comm b a] at M
  refine v_loadN (ncs t Ap cp Av cv Ak ck Ah ch) agg_nd rfl rfl (M.run 2 rfl) ?_
  have ca := vonly_any t (by omega) a _ _ _ (M.gl hG) (M.da 4 rfl) (M.d1 5 rfl) M.olt (by omega) hwa
  rw [only_full hF] at ca
  dsimp only at ca
  refine cc is_vonly ca ?_
  clear ca
  rintro e W ⟨c16, rfl, r9, hb⟩
  have hl16 := r9.len
  rw [dN_len] at hl16
  replace M := (M.call hb).addL r9
  clear r9 hb
  refine ⟨_, rfl, ?_⟩
  refine s_alloc (zN) M al_nd ?_
  clear M
  rintro g16 W M
  refine s_storeA 0 c16 M rfl sz_nd rfl rfl hl16 ((M.da 0 rfl).ones (dN_one _)) rfl ?_
  clear M; rintro W M
  dsimp only [setL] at M
  have hXz : sz (onP (Sof (a ++ b)) t []) ≤ 154000 := by have := on_sz (S := Sof (a ++ b)) (sz t + 1) t [] (Nat.lt_succ_self _); omega
  have hZz : sz (onP (Sof a) t []) ≤ 154000 := by have := on_sz (S := Sof a) (sz t + 1) t [] (Nat.lt_succ_self _); omega
  have hag : AgrP (onP (Sof a) t []) (onP (Sof (a ++ b)) t []) = true := agr_le hF.1 (Sof_le a b)
  have hh1 : hashR (onP (Sof a) t []) = hashP t := on_hash (Sof a) [] hF.1
  have hh2 : hashR (onP (Sof (a ++ b)) t []) = hashP t := on_hash (Sof (a ++ b)) [] hF.1
  obtain ⟨X, hX⟩ : ∃ X, X = onP (Sof (a ++ b)) t [] := ⟨_, rfl⟩
  obtain ⟨Z, hZ⟩ : ∃ Z, Z = onP (Sof a) t [] := ⟨_, rfl⟩
  rw [← hX] at M hXz hag hh2
  rw [← hZ] at M hZz hag hh1
  clear hX hZ
  refine v_loadN (ncs t Ap cp Av cv Ak ck Ah ch) agg_nd rfl rfl (M.run 3 rfl) ?_
  refine cc is_items (items_any (sz t + 1) t (Nat.lt_succ_self _) _ _ _ [] none 0 0 true (M.da 5 rfl) (RdD.nil_ _ _) M.olt (by omega)) ?_
  rintro e W ⟨A19, n19, c19, rfl, r9, hb⟩
  have en19 : n19 = (itemsP t [] true).length := r9.slen
  have hIl := itemsP_len t [] true
  have hIp := items_plen t [] true
  have hon := on_items hF.1
  obtain ⟨I, hI⟩ : ∃ I, I = itemsP t [] true := ⟨_, rfl⟩
  rw [← hI] at r9 en19 hIl hIp hon
  subst en19
  replace M := (M.call hb).addD r9
  clear r9 hb
  refine ⟨_, rfl, ?_⟩
  replace M := M.nilR 23 1
  refine lp (Nat × Option Addr × Nat × List Value) (fun s W => s.1 ≤ I.length ∧ St w [] W [(g16, 26, c16), (g14, 26, c14), (g12, 26, c12), (g7, 26, ncs t Ap cp Av cv Ak ck Ah ch)] [⟨23, 1, s.2.1, s.1, s.2.2.1, s.2.2.2⟩] [.dat false (((I.take s.1).map fun x => x.path).map dB) s.2.2.2, .dat false [dIl I] [.slice A19 I.length c19], .dat false (dN Z) c16, .dat false (dN X) c14, .dat false (dN X) c12, .dat false (dN t) (ncs t Ap cp Av cv Ak ck Ah ch)])
    (fun s => [(7, .pointer (some ⟨g7, 0, none⟩)), (12, .pointer (some ⟨g12, 0, none⟩)), (13, .int .i64 0), (14, .pointer (some ⟨g14, 0, none⟩)), (15, .int .i64 0), (16, .pointer (some ⟨g16, 0, none⟩)), (17, .int .i64 0), (18, .slice s.2.1 s.1 s.2.2.1), (19, .slice A19 I.length c19), (20, .int .i64 (s.1 : Nat))]) (fun s => I.length - s.1) (0, none, 0, []) ⟨Nat.zero_le _, (M.addT (fr := false) (ds := []) (cs := []) RdL.nil_).fsub _ (by simp)⟩ (by repeat (first | exact trivial | refine ⟨rfl, ?_⟩)) ?_
  clear M
  rintro ⟨i, A18, c18, xs⟩ E W ⟨hi, M⟩
  dsimp only at hi M
  refine p_len sli rfl ?_
  refine p_lt rfl rfl (fun hlt => ?_) (fun hge => ?_)
  · have hlt : i < I.length := by have h : (i : Int) < (I.length : Int) := hlt; omega
    obtain ⟨x, hx⟩ : ∃ x, I[i]? = some x := ⟨_, List.getElem?_eq_getElem hlt⟩
    obtain ⟨b1, o1, Bp, dp, Bv, dv, Bh, dh, e1, M'⟩ := M.item (M.d1 1 rfl) hx
    replace M := M'; clear M'
    subst e1
    refine p_at (i := i) sli rfl rfl rfl hlt ?_
    refine p_fld fI0 rfl ?_
    refine v_load agg_b rfl (M.lc 0 rfl 0 _ rfl) ?_
    refine s_bsliceB [.slice Bp x.path.length dp] M slls zls10 rfl (by decide) rfl ?_
    clear M; rintro g W M
    refine s_app M Tryd.underlying41 lsinfo rfl (by decide) rfl rfl (Reads.blk (M.B 0 rfl) rfl) (all1 rfl) ⟨by omega, by decide⟩ ?_
    clear M; rintro A6 c6 W M -
    have hX := (M.dw 5 rfl).app (M.dw 2 rfl)
    have hst : I.take (i + 1) = I.take i ++ [x] := by rw [List.take_add_one, hx]; rfl
    rw [show ((I.take i).map fun x => x.path).map dB ++ [dB x.path] = ((I.take (i + 1)).map fun x => x.path).map dB by rw [hst, List.map_append, List.map_append]; rfl] at hX
    refine p_addN (b := 1) rfl rfl (by omega) ?_
    exact ⟨(i + 1, A6, c6, xs ++ [.slice Bp x.path.length dp]), ⟨by dsimp only; omega, (M.addT hX).dropL.fsub _ (by simp)⟩, (by repeat (first | exact trivial | refine ⟨rfl, ?_⟩)), by dsimp only; omega⟩
  have hge : i = I.length := by have h : ¬ (i : Int) < (I.length : Int) := hge; omega
  subst hge
  rw [List.take_length] at M
  have hX := M.dw 0 rfl
  have hIm : I.length = (I.map fun x => x.path).length := by rw [List.length_map]
  replace M := M.frzLs (ll := I.map fun x => x.path) hX hIm
  clear hX
  rw [hIm]
  refine v_loadN (ncs t Ap cp Av cv Ak ck Ah ch) agg_nd rfl rfl (M.run 3 rfl) ?_
  have ca := vonly_any t (by omega) (I.map fun x => x.path) _ _ _ (M.gl hG) (M.da 6 rfl) (M.d1 0 rfl) M.olt (by rw [← hIm]; omega) (fun x hx => by
    obtain ⟨y, hy, rfl⟩ := List.mem_map.1 hx
    have := hIp y hy
    rw [List.length_nil] at this
    omega)
  rw [only_full hF] at ca
  dsimp only at ca
  refine cc is_vonly ca ?_
  clear ca
  rintro e W ⟨c21, rfl, r9, hb⟩
  have hl21 := r9.len
  rw [dN_len] at hl21
  replace M := (M.call hb).addL r9
  clear r9 hb
  refine ⟨_, rfl, ?_⟩
  refine s_alloc (zN) M al_nd ?_
  clear M
  rintro g21 W M
  refine s_storeA 0 c21 M rfl sz_nd rfl rfl hl21 ((M.da 0 rfl).ones (dN_one _)) rfl ?_
  clear M; rintro W M
  dsimp only [setL] at M
  rw [hon] at M
  replace M := M.drew
  refine drT (Kp w [] [(g21, 26, c21), (g16, 26, c16), (g14, 26, c14), (g12, 26, c12), (g7, 26, ncs t Ap cp Av cv Ak ck Ah ch)] []) (.take 0 (.take 1 (.take 2 (.take 3 (.take 4 (.take 5 (.take 6 (.take 7 (.take 8 (.take 9 (.take 10 (.take 11 (.take 12 (.take 13 (.take 14 (.take 15 (.take 16 (.one 17 (.take 18 (.take 19 (.take 20 (.take 21 (.one 22 (.take 23 (.take 24 (.take 25 (.take 27 (.one 26 (.one 28 (.one 29 (.take 30 (.take 31 (.take 32 (.take 33 (.one 34 (.take 35 (.take 36 (.one 37 (.take 38 (.take 39 (.nil))))))))))))))))))))))))))))))))))))))))) (by kernel_rfl) (M.kp (by simp) (by simp)) ?_
  refine p_eq rfl rfl (fun _ => ?_) (fun h => absurd rfl h)
  refine p_eq rfl rfl (fun _ => ?_) (fun h => absurd rfl h)
  refine p_eq rfl rfl (fun _ => ?_) (fun h => absurd rfl h)
  refine p_eq rfl rfl (fun _ => ?_) (fun h => absurd rfl h)
  refine t_loadN c12 agg_nd rfl hl12 (fun W K => K.run 3 rfl) ?_
  refine t_loadN c14 agg_nd rfl hl14 (fun W K => K.run 2 rfl) ?_
  refine cc is_r7same (rsame_any 1000000000 (Nat.le_refl _) X (by omega) X _ _ _ _ (M.da 6 rfl) (M.da 5 rfl) M.olt (by omega)) ?_
  rintro e W ⟨q, rfl, hq, hb⟩
  obtain rfl := hq.2 rfl
  replace M := M.call hb
  clear hb hq
  refine ⟨_, rfl, (M.kp (by simp) (by simp)), ?_⟩
  refine t_loadN c16 agg_nd rfl hl16 (fun W K => K.run 1 rfl) ?_
  refine t_loadN c12 agg_nd rfl hl12 (fun W K => K.run 3 rfl) ?_
  have ca := vAgr_any Z X (by omega) (by omega) _ _ _ _ (M.gl hG) (M.da 4 rfl) (M.da 6 rfl) M.olt
  rw [hag] at ca
  refine cc is_vAgr ca ?_
  clear ca
  rintro e W ⟨rfl, hb⟩
  replace M := M.call hb
  clear hb
  refine ⟨_, rfl, (M.kp (by simp) (by simp)), ?_⟩
  refine t_loadN c16 agg_nd rfl hl16 (fun W K => K.run 1 rfl) ?_
  refine t_loadN c12 agg_nd rfl hl12 (fun W K => K.run 3 rfl) ?_
  refine cc is_r7hash (rhash_any Z (by omega) _ _ _ (M.da 4 rfl) M.olt) ?_
  rintro e W ⟨A5, n5, c5, rfl, o, hb⟩
  replace M := M.callO hb o
  clear o hb
  refine ⟨_, rfl, (M.kp (by simp) (by simp)), ?_⟩
  refine cc is_r7hash (rhash_any X (by omega) _ _ _ (M.da 7 rfl) M.olt) ?_
  rintro e W ⟨A6, n6, c6, rfl, o, hb⟩
  replace M := M.callO hb o
  clear o hb
  refine ⟨_, rfl, (M.kp (by simp) (by simp)), ?_⟩
  rw [hh1, hh2] at M
  obtain ⟨qs, hqs, hc⟩ := same_tf (c1 := c5) (c2 := c6) (M.rdb 1 rfl).2.2 (M.rdb 0 rfl).2.2
  obtain rfl := hqs.2 rfl
  refine cc is_same0 hc ?_
  rintro e W' ⟨rfl, rfl⟩
  refine ⟨_, rfl, (M.kp (by simp) (by simp)), ?_⟩
  refine t_loadN c21 agg_nd rfl hl21 (fun W K => K.run 0 rfl) ?_
  refine t_loadN (ncs t Ap cp Av cv Ak ck Ah ch) agg_nd rfl rfl (fun W K => K.run 4 rfl) ?_
  refine cc is_r7same (rsame_any 1000000000 (Nat.le_refl _) t (by omega) t _ _ _ _ (M.da 2 rfl) (M.da 9 rfl) M.olt (by omega)) ?_
  rintro e W ⟨q, rfl, hq, hb⟩
  obtain rfl := hq.2 rfl
  replace M := M.call hb
  clear hb hq
  refine ⟨_, rfl, (M.kp (by simp) (by simp)), ?_⟩
  refine cc is_kn10 (known10_any _ _ (M.gl hG) M.olt) ?_
  rintro e W ⟨rfl, hb⟩
  replace M := M.call hb
  clear hb
  exact ⟨_, rfl, (M.kp (by simp) (by simp)), rfl, M.below⟩
end Go.Proofs.YtojjfkbffjkojaaDoor
namespace Go.Proofs.YtojjfkbffjkojaaDoor
open Go.RowKit Go.ChangeShapes
theorem gBegin : Tryd.prog.globalNamed "exchequer/digest.begin" = some 0 := by kernel_rfl
theorem gRoots : Tryd.prog.globalNamed "exchequer/digest.roots" = some 1 := by kernel_rfl
theorem tBegin : (Tryd.prog.globals[0]?).map (·.type) = some 130 := by kernel_rfl
theorem tRoots : (Tryd.prog.globals[1]?).map (·.type) = some 133 := by kernel_rfl
theorem cB : Tryd.prog.cellsOf 130 = 8 := by kernel_rfl
theorem cR : Tryd.prog.cellsOf 133 = 64 := by kernel_rfl
theorem cU : Tryd.prog.cellsOf 94 = 1 := by kernel_rfl
def laidL : List (String × DataW Unit) := [("exchequer/digest.begin", Rows.laid_exchequer_digest_begin), ("exchequer/digest.roots", Rows.laid_exchequer_digest_roots)]
theorem gl_of {W : World} (h : laidMetH Tryd.prog laidL W) : GL W [] := by
  rw [MakeChecks.laidMetH_plain _ _ _ (by kernel_rfl)] at h
  have hb : Lib.TabIs Tryd.prog W "exchequer/digest.begin" .u32 [1779033703, 3144134277, 1013904242, 2773480762, 1359893119, 2600822924, 528734635, 1541459225] :=
    Lib.tabIs_of_head (rest := [("exchequer/digest.roots", Rows.laid_exchequer_digest_roots)]) gBegin tBegin Tryd.underlying130 Tryd.underlying94 cU cB h
  obtain ⟨ps, ⟨g0, t0, cs0, f0, p0, q0, hg0, ht0, hv0, hd0, ⟨g1, t1, cs1, f1, p1, q1, hg1, ht1, hv1, hd1, _, _⟩, _⟩, _, _⟩ := h
  obtain rfl := Option.some.inj (gRoots.symm.trans hg1)
  obtain rfl := Option.some.inj (tRoots.symm.trans ht1)
  have hr : Lib.TabIs Tryd.prog W "exchequer/digest.roots" .u32 (List.map (fun (n : Nat) => (n : Int)) roots) := by
    unfold Lib.TabIs
    rw [hv1, ← Lib.cells_of_tab Tryd.underlying133 Tryd.underlying94 cU cR hd1]
  refine ⟨fun j hj => ?_, fun j v hv => ?_, ?_, by simp, by simp⟩
  · have := hr.cell gRoots j (by rw [List.length_map]; exact hj)
    rw [this]
    unfold cu
    congr 2
    rw [List.getD_eq_getElem?_getD, List.getD_eq_getElem?_getD, List.getElem?_map]
    have : j < roots.length := hj
    rw [List.getElem?_eq_getElem this]; rfl
  · have hj := (List.getElem?_eq_some_iff.1 hv).1
    have := hb.cell gBegin j hj
    rw [this]
    have hj8 : j = 0 ∨ j = 1 ∨ j = 2 ∨ j = 3 ∨ j = 4 ∨ j = 5 ∨ j = 6 ∨ j = 7 := by have : j < 8 := hj; omega
    rcases hj8 with rfl | rfl | rfl | rfl | rfl | rfl | rfl | rfl <;> exact hv
  · have := hr.cell gRoots 0 (by decide)
    have := World.block_lt_of_cell? W _ this
    exact this
/-- A world for the witness: the tables hold what their initialisers lay. -/
def layAt (cs : List Value) : Obj → Obj
  | .cells _ t frozen => .cells cs.toArray t frozen
  | o => o
noncomputable def laidWorld (os : Os) : World :=
  { World.holding Tryd.prog os ⟨#[], #[], []⟩ with heap := ((World.holding Tryd.prog os ⟨#[], #[], []⟩).heap.modify 0 (layAt (hc begin8))).modify 1 (layAt (roots.map cu)) }
end Go.Proofs.YtojjfkbffjkojaaDoor
