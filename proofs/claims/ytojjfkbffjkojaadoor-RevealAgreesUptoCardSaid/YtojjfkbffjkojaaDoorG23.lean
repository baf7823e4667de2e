/- The walk of the law RevealAgrees. What the rows' list of package variables gives: the tables of digest. -/
import Derived.Test.YtojjfkbffjkojaaDoorG22
import Derived.Test.YtojjfkbffjkojaaDoorG12
import Derived.Test.YtojjfkbffjkojaaDoorRows
import Derived.Lib.LaidTab
import Derived.MakeChecks
namespace Go.Proofs.YtojjfkbffjkojaaDoor
open Go.RowKit


theorem prBulk_le : ∀ l : List Pr, prBulk l ≤ 140 * (l.map fun t => t.k.length + t.v.length + 3).sum
  | [] => Nat.zero_le _
  | p :: l => by
    have := prBulk_le l
    rw [List.map_cons, List.sum_cons, show prBulk (p :: l) = (140 + 2 * p.k.length + p.v.length) + prBulk l by unfold prBulk; rw [List.map_cons, List.sum_cons]]
    omega
theorem prBig_of : ∀ {l : List Pr}, (l.map fun t => t.k.length + t.v.length + 3).sum ≤ 1048576 → prBig l := by
  intro l h
  have key : ∀ l : List Pr, l.length ≤ (l.map fun t => t.k.length + t.v.length + 3).sum ∧ ∀ p ∈ l, p.k.length + p.v.length ≤ (l.map fun t => t.k.length + t.v.length + 3).sum := by
    intro l
    induction l with
    | nil => exact ⟨Nat.zero_le _, fun p hp => by cases hp⟩
    | cons q l ih =>
      rw [List.map_cons, List.sum_cons]
      refine ⟨by rw [List.length_cons]; omega, fun p hp => ?_⟩
      rcases List.mem_cons.1 hp with rfl | hp
      · omega
      · have := ih.2 p hp; omega
  obtain ⟨h1, h2⟩ := key l
  exact ⟨by omega, fun p hp => by have := h2 p hp; omega⟩
def stubO (r : Option Nd) : Bool := match r with
  | some x => decide (x.kind = 4)
  | none => false
/-- A list of bytes among what is read. -/
theorem St.atLc {w W : World} {gs : List (Option Nat)} {L : Lc} {R : List Row} {fs : List Fact} (M : St w gs W L R fs) {ll : List (List UInt8)} {A : Option Addr} {n c i : Nat} {l : List UInt8} (h : RdD W (Fd W (own L R gs)) (dLs ll) (.slice A n c)) (hk : ll[i]? = some l) :
    ∃ b o A1 c1, A = some ⟨b, o, none⟩ ∧ St w gs W L R (.loc ((⟨b, o, none⟩ : Addr).add (i * 1)) [.slice A1 l.length c1] :: .dat false [dB l] [.slice A1 l.length c1] :: fs) := by
  obtain ⟨b, o, A1, c1, e, hF, hr, hc⟩ := h.atL hk
  refine ⟨b, o, A1, c1, e, (M.addD hr).addC (by rw [block_of_add]; exact hF) (fun j x hx => ?_)⟩
  match j, hx with
  | 0, hx =>
    injection hx with hx
    subst hx
    rw [Addr.add_lit] at hc
    rw [Addr.add_lit, Addr.add_lit, Nat.add_zero]
    exact hc
  | j + 1, hx => cases hx
set_option maxRecDepth 100000 in
set_option maxHeartbeats 8000000 in
theorem revealAgrees_walk (w : World) (hG : GL w []) {A0 : Option Addr} {n0 c0 : Nat} {l : List Pr} (g0 : RdD w (Fd w []) (dPl l) (.slice A0 n0 c0)) (b0 : (l.map fun t => t.k.length + t.v.length + 3).sum ≤ 1048576) {A1 : Option Addr} {n1 c1 : Nat} {ways : List (List UInt8)} (g1 : RdD w (Fd w []) (dLs ways) (.slice A1 n1 c1)) (b1 : (ways.map fun x => x.length + 1).sum ≤ 1048576) :
    Calls Tryd.prog 6 #[.slice A0 n0 c0, .slice A1 n1 c1] w (RetTrue w) := by
  refine calls_ev (args := [.slice A0 n0 c0, .slice A1 n1 c1]) mixed Tryd.func6 rfl (by kernel_rfl) ?_
  have en1 : n1 = ways.length := g1.slen
  subst en1
  have hwl : ∀ x ∈ ways, x.length ≤ 10000000 := fun x hx => by have := sum_mem1 ways x hx; omega
  have hwn := sum_len1 ways
  have hbk := prBulk_le l
  have M := ((St.start (w := w) (gs := []) (fun b h => by cases h)).addD g1).addD g0
  clear g0 g1
  obtain ⟨T, hT⟩ : ∃ T, T = tOf l := ⟨_, rfl⟩
  have hTz := tOf_sz l
  rw [← hT] at hTz
  refine cc is_r8of (r8of_any 401 (Nat.le_refl _) l _ _ _ _ _ (M.d1 0 rfl) M.olt (prBig_of b0)) ?_
  rintro e W ⟨cs, he, hres, hb⟩
  rw [← tOf_eq (Nat.le_refl _), ← hT] at he hres
  subst he
  have hc5 := hres.len
  rw [dN_len] at hc5
  replace M := (M.call hb).addL hres
  clear hres hb
  refine ⟨_, rfl, ?_⟩
  refine s_alloc (zN) M al_nd ?_
  clear M
  rintro g5 W M
  refine s_storeA 0 cs M rfl sz_nd rfl rfl hc5 ((M.da 0 rfl).ones (dN_one _)) rfl ?_
  clear M; rintro W M
  dsimp only [setL] at M
  refine p_ne rfl rfl (fun h0 => ?_) (fun h0 => ?_)
  rotate_left
  ·
    refine cc is_kn10 (known10_any _ _ (M.gl hG) M.olt) ?_
    rintro e W ⟨rfl, hb⟩
    replace M := M.call hb
    clear hb
    exact ⟨_, rfl, rfl, M.below⟩
  have h0 : T.2 = 0 := h0
  have hF : Full T.1 := (of_ok hT h0).2.1
  obtain ⟨t, ht⟩ : ∃ t, t = T.1 := ⟨_, rfl⟩
  rw [← ht] at M hTz hF
  obtain ⟨Ap, cp, Av, cv, Ak, ck, Ah, ch, rfl, -⟩ := (M.da 0 rfl).node
  refine v_loadN (ncs t Ap cp Av cv Ak ck Ah ch) agg_nd rfl rfl (M.run 0 rfl) ?_
  refine cc is_much10 (much10_any t (by omega) _ _ (ncs t Ap cp Av cv Ak ck Ah ch) (M.da 0 rfl) M.olt) ?_
  rintro e W ⟨he, hb⟩
  obtain ⟨qa, hqqa⟩ : ∃ q, q = decide (400 ≤ muchP t 400) := ⟨_, rfl⟩
  rw [← hqqa] at he
  subst he
  replace M := M.call hb
  clear hb
  refine ⟨_, rfl, ?_⟩
  cases qa with
  | true =>
    refine cc is_kn10 (known10_any _ _ (M.gl hG) M.olt) ?_
    rintro e W ⟨rfl, hb⟩
    replace M := M.call hb
    clear hb
    exact ⟨_, rfl, rfl, M.below⟩
  | false =>
  have hz2 := much10_no hqqa.symm
  refine p_len slls rfl ?_
  refine p_gt rfl rfl (fun k2 => ?_) (fun k2 => ?_)
  ·
    refine cc is_kn10 (known10_any _ _ (M.gl hG) M.olt) ?_
    rintro e W ⟨rfl, hb⟩
    replace M := M.call hb
    clear hb
    exact ⟨_, rfl, rfl, M.below⟩
  have k2 : ways.length ≤ 12 := by have h : ¬ (12 : Int) < (ways.length : Int) := k2; omega
  refine p_fld fN0 rfl ?_
  refine v_load agg_int rfl ((M.B 0 rfl).at_ rfl) ?_
  refine p_eq rfl rfl (fun hk => ?_) (fun hk => ?_)
  ·
    refine cc is_kn10 (known10_any _ _ (M.gl hG) M.olt) ?_
    rintro e W ⟨rfl, hb⟩
    replace M := M.call hb
    clear hb
    exact ⟨_, rfl, rfl, M.below⟩
  refine v_loadN (ncs t Ap cp Av cv Ak ck Ah ch) agg_nd rfl rfl (M.run 0 rfl) ?_
  refine cc is_r7fold (rfold_any t (by omega) _ _ _ (M.da 0 rfl) M.olt) ?_
  rintro e W ⟨cs7, rfl, r9, hb⟩
  have hc7 := r9.len
  rw [dN_len] at hc7
  have e0 : onP (fun _ => false) t [] = foldN t := onP_shut rfl
  rw [← e0] at r9
  replace M := (M.call hb).addL (r9.to fun b q => ⟨rfl, q.2.1, fun e => by have := M.olt b e; have := q.1; omega⟩)
  clear r9 hb e0
  refine ⟨_, rfl, ?_⟩
  refine s_alloc (zN) M al_nd ?_
  clear M
  rintro g7 W M
  refine s_storeA 0 cs7 M rfl sz_nd rfl rfl hc7 ((M.da 0 rfl).ones (dN_one _)) rfl ?_
  clear M; rintro W M
  dsimp only [setL] at M
  refine lp (Nat × (List UInt8 → Bool) × List Value) (fun s W => s.1 ≤ ways.length ∧ Closed s.2.1 ∧ s.2.2.length = 6 ∧ St w [] W [(g7, 26, s.2.2), (g5, 26, ncs t Ap cp Av cv Ak ck Ah ch)] [] [.dat false (dN (onP s.2.1 t [])) s.2.2, .dat false (dN t) (ncs t Ap cp Av cv Ak ck Ah ch), .dat false [dLs ways] [.slice A1 ways.length c1]])
    (fun s => [(1, .slice A1 ways.length c1), (5, .pointer (some ⟨g5, 0, none⟩)), (7, .pointer (some ⟨g7, 0, none⟩)), (8, .int .i64 (s.1 : Nat))]) (fun s => ways.length - s.1) (0, (fun _ => false), cs7) ⟨Nat.zero_le _, (fun q r _ h => h), hc7, M.fsub _ (by simp)⟩ (by repeat (first | exact trivial | refine ⟨rfl, ?_⟩)) ?_
  clear M hc7
  rintro ⟨i, S, cs7⟩ E W ⟨hi, hS, hc7, M⟩
  dsimp only at hi hS hc7 M
  refine p_len slls rfl ?_
  refine p_lt rfl rfl (fun hlt => ?_) (fun _ => ?_)
  rotate_left
  ·
    refine cc is_kn10 (known10_any _ _ (M.gl hG) M.olt) ?_
    rintro e W ⟨rfl, hb⟩
    replace M := M.call hb
    clear hb
    exact ⟨_, rfl, rfl, M.below⟩
  have hlt : i < ways.length := by have h : (i : Int) < (ways.length : Int) := hlt; omega
  obtain ⟨q, hq⟩ : ∃ q, ways[i]? = some q := ⟨_, List.getElem?_eq_getElem hlt⟩
  have hql := hwl q (List.mem_of_getElem? hq)
  obtain ⟨y1, o1, A8, c8, e1, M'⟩ := M.atLc (M.d1 2 rfl) hq
  replace M := M'; clear M'
  subst e1
  have hPz : sz (onP S t []) ≤ 154000 := by have := on_sz (S := S) (sz t + 1) t [] (Nat.lt_succ_self _); omega
  obtain ⟨O, hO⟩ : ∃ O, O = OpenP (onP S t []) t q := ⟨_, rfl⟩
  refine cutV (Nat × List Value) (fun s W => s.2.length = 6 ∧ St w [] W [(s.1, 26, s.2), (g7, 26, cs7), (g5, 26, ncs t Ap cp Av cv Ak ck Ah ch)] [] [.dat false (dN O.1) s.2, .loc ((⟨y1, o1, none⟩ : Addr).add (i * 1)) [.slice A8 q.length c8], .dat false [dB q] [.slice A8 q.length c8], .dat false (dN (onP S t [])) cs7, .dat false (dN t) (ncs t Ap cp Av cv Ak ck Ah ch), .dat false [dLs ways] [.slice (some ⟨y1, o1, none⟩) ways.length c1]])
    (fun s => [(1, .slice (some ⟨y1, o1, none⟩) ways.length c1), (5, .pointer (some ⟨g5, 0, none⟩)), (7, .pointer (some ⟨g7, 0, none⟩)), (8, .int .i64 (i : Nat)), (9, .pointer (some ⟨s.1, 0, none⟩)), (10, .int .i64 O.2)]) ?_ ?_
  · replace M := M.drew
    refine drT (Kp w [] [(g7, 26, cs7), (g5, 26, ncs t Ap cp Av cv Ak ck Ah ch)] [.loc ((⟨y1, o1, none⟩ : Addr).add (i * 1)) [.slice A8 q.length c8]]) (.take 0 (.take 1 (.take 2 (.take 3 (.take 4 (.take 5 (.two 6 (.take 7 (.take 8 (.take 9 (.one 10 (.one 11 (.take 12 (.nil))))))) 10 (.one 6 (.take 7 (.take 8 (.take 9 (.one 11 (.take 12 (.nil)))))))))))))) (by kernel_rfl) (M.kp (by simp) (by simp)) ?_
    refine t_loadN cs7 agg_nd rfl hc7 (fun W K => K.run 0 rfl) ?_
    refine t_loadN (ncs t Ap cp Av cv Ak ck Ah ch) agg_nd rfl rfl (fun W K => K.run 1 rfl) ?_
    refine p_at (i := i) slls rfl rfl rfl hlt ?_
    refine t_load agg_b rfl (fun W K => K.lc 0 rfl 0 _ rfl) ?_
    refine ⟨?_, ?_⟩
    ·
      have ca := vOpen_any (onP S t []) t (by omega) (by omega) q _ _ cs7 _ (M.gl hG) (M.da 2 rfl) (M.da 3 rfl) (M.d1 1 rfl) M.olt (by omega)
      rw [← hO] at ca
      refine cc is_vOpen ca ?_
      clear ca
      rintro e W ⟨cs9, rfl, r9, hb9⟩
      have hc9 := r9.len
      rw [dN_len] at hc9
      replace M := (M.call hb9).addL r9
      clear r9 hb9
      refine ⟨_, rfl, (M.kp (by simp) (by simp)), ?_⟩
      refine s_alloc (zN) M al_nd ?_
      clear M
      rintro g9 W M
      refine ⟨(M.kp (by simp) (by simp)), ?_⟩
      refine s_storeA 0 cs9 M rfl sz_nd rfl rfl hc9 ((M.da 0 rfl).ones (dN_one _)) rfl ?_
      clear M; rintro W M
      dsimp only [setL] at M
      refine ⟨(M.kp (by simp) (by simp)), ?_⟩
      exact ⟨(g9, cs9), ⟨hc9, M⟩, (by repeat (first | exact trivial | refine ⟨rfl, ?_⟩))⟩
    ·
      refine s_alloc (zN) M al_nd ?_
      clear M
      rintro g9 W M
      refine ⟨(M.kp (by simp) (by simp)), ?_⟩
      have ca := vOpen_any (onP S t []) t (by omega) (by omega) q _ _ cs7 _ (M.gl hG) (M.da 2 rfl) (M.da 3 rfl) (M.d1 1 rfl) M.olt (by omega)
      rw [← hO] at ca
      refine cc is_vOpen ca ?_
      clear ca
      rintro e W ⟨cs9, rfl, r9, hb9⟩
      have hc9 := r9.len
      rw [dN_len] at hc9
      replace M := (M.call hb9).addL r9
      clear r9 hb9
      refine ⟨_, rfl, (M.kp (by simp) (by simp)), ?_⟩
      refine s_storeA 0 cs9 M rfl sz_nd rfl rfl hc9 ((M.da 0 rfl).ones (dN_one _)) rfl ?_
      clear M; rintro W M
      dsimp only [setL] at M
      refine ⟨(M.kp (by simp) (by simp)), ?_⟩
      exact ⟨(g9, cs9), ⟨hc9, M⟩, (by repeat (first | exact trivial | refine ⟨rfl, ?_⟩))⟩
  clear M
  rintro ⟨g9, cs9⟩ E2 W2 ⟨hc9, M⟩
  dsimp only at hc9 M
  obtain ⟨R, hR⟩ : ∃ R, R = atP (onP S t []) q := ⟨_, rfl⟩
  refine cutV (Nat × List Value) (fun s W => s.2.length = 6 ∧ St w [] W [(s.1, 26, s.2), (g9, 26, cs9), (g7, 26, cs7), (g5, 26, ncs t Ap cp Av cv Ak ck Ah ch)] [] [.dat false (dN (R.getD noneN)) s.2, .dat false (dN O.1) cs9, .loc ((⟨y1, o1, none⟩ : Addr).add (i * 1)) [.slice A8 q.length c8], .dat false [dB q] [.slice A8 q.length c8], .dat false (dN (onP S t [])) cs7, .dat false (dN t) (ncs t Ap cp Av cv Ak ck Ah ch), .dat false [dLs ways] [.slice (some ⟨y1, o1, none⟩) ways.length c1]])
    (fun s => [(1, .slice (some ⟨y1, o1, none⟩) ways.length c1), (5, .pointer (some ⟨g5, 0, none⟩)), (7, .pointer (some ⟨g7, 0, none⟩)), (8, .int .i64 (i : Nat)), (9, .pointer (some ⟨g9, 0, none⟩)), (10, .int .i64 O.2), (11, .pointer (some ⟨s.1, 0, none⟩)), (12, .bool R.isSome)]) ?_ ?_
  · replace M := M.drew
    refine drT (Kp w [] [(g7, 26, cs7)] [.loc ((⟨y1, o1, none⟩ : Addr).add (i * 1)) [.slice A8 q.length c8]]) (.take 0 (.take 1 (.take 2 (.take 3 (.take 4 (.two 5 (.take 6 (.take 7 (.take 8 (.one 9 (.one 10 (.take 11 (.nil))))))) 9 (.one 5 (.take 6 (.take 7 (.take 8 (.one 10 (.take 11 (.nil))))))))))))) (by kernel_rfl) (M.kp (by simp) (by simp)) ?_
    refine t_loadN cs7 agg_nd rfl hc7 (fun W K => K.run 0 rfl) ?_
    refine p_at (i := i) slls rfl rfl rfl hlt ?_
    refine t_load agg_b rfl (fun W K => K.lc 0 rfl 0 _ rfl) ?_
    refine ⟨?_, ?_⟩
    ·
      have ca := vat_any (onP S t []) (by omega) q _ _ cs7 (M.da 3 rfl) (M.d1 2 rfl) M.olt (by omega)
      rw [← hR] at ca
      refine cc is_vat ca ?_
      clear ca
      rintro e W ⟨cs11, rfl, r9, hb9⟩
      have hc11 := r9.len
      rw [dN_len] at hc11
      replace M := (M.call hb9).addL (r9.to fun b q => ⟨rfl, q.2.1, fun e => by have := M.olt b e; have := q.1; omega⟩)
      clear r9 hb9
      refine ⟨_, rfl, (M.kp (by simp) (by simp)), ?_⟩
      refine s_alloc (zN) M al_nd ?_
      clear M
      rintro g11 W M
      refine ⟨(M.kp (by simp) (by simp)), ?_⟩
      refine s_storeA 0 cs11 M rfl sz_nd rfl rfl hc11 ((M.da 0 rfl).ones (dN_one _)) rfl ?_
      clear M; rintro W M
      dsimp only [setL] at M
      refine ⟨(M.kp (by simp) (by simp)), ?_⟩
      exact ⟨(g11, cs11), ⟨hc11, M⟩, (by repeat (first | exact trivial | refine ⟨rfl, ?_⟩))⟩
    ·
      refine s_alloc (zN) M al_nd ?_
      clear M
      rintro g11 W M
      refine ⟨(M.kp (by simp) (by simp)), ?_⟩
      have ca := vat_any (onP S t []) (by omega) q _ _ cs7 (M.da 3 rfl) (M.d1 2 rfl) M.olt (by omega)
      rw [← hR] at ca
      refine cc is_vat ca ?_
      clear ca
      rintro e W ⟨cs11, rfl, r9, hb9⟩
      have hc11 := r9.len
      rw [dN_len] at hc11
      replace M := (M.call hb9).addL (r9.to fun b q => ⟨rfl, q.2.1, fun e => by have := M.olt b e; have := q.1; omega⟩)
      clear r9 hb9
      refine ⟨_, rfl, (M.kp (by simp) (by simp)), ?_⟩
      refine s_storeA 0 cs11 M rfl sz_nd rfl rfl hc11 ((M.da 0 rfl).ones (dN_one _)) rfl ?_
      clear M; rintro W M
      dsimp only [setL] at M
      refine ⟨(M.kp (by simp) (by simp)), ?_⟩
      exact ⟨(g11, cs11), ⟨hc11, M⟩, (by repeat (first | exact trivial | refine ⟨rfl, ?_⟩))⟩
  clear M
  rintro ⟨g11, cs11⟩ E3 W3 ⟨hc11, M⟩
  dsimp only at hc11 M
  obtain ⟨Bp, dp, Bv, dv, Bk, dk, Bh, dh, rfl, -⟩ := (M.da 0 rfl).node
  have hst : stubB (onP S t []) q = stubO R := by rw [hR]; rfl
  clear hR
  cases R with
  | none =>
    have hno : stubB (onP S t []) q = false := hst
    have hO2 : O = (noneN, 4) := by rw [hO, Open_on hF.1]; exact open_no hno
    rw [hO2]
    refine p_eq rfl rfl (fun h => absurd (show (4 : Int) = 0 from h) (by decide)) (fun _ => ?_)
    refine p_bneC u_bool rfl rfl (fun _ => ?_) (fun h => absurd rfl h)
    refine p_ne rfl rfl (fun h => absurd (show (4 : Int) = 0 from h) (by decide)) (fun _ => ?_)
    refine p_addN (b := 1) rfl rfl (by omega) ?_
    exact ⟨(i + 1, S, cs7), ⟨by dsimp only; omega, hS, hc7, M.dropL.dropL.fsub _ (by simp)⟩, (by repeat (first | exact trivial | refine ⟨rfl, ?_⟩)), by dsimp only; omega⟩
  | some x =>
  by_cases hx4 : x.kind = 4
  rotate_left
  · have hno : stubB (onP S t []) q = false := by rw [hst]; exact decide_eq_false hx4
    have hO2 : O = (noneN, 4) := by rw [hO, Open_on hF.1]; exact open_no hno
    rw [hO2]
    refine p_eq rfl rfl (fun h => absurd (show (4 : Int) = 0 from h) (by decide)) (fun _ => ?_)
    refine p_fld fN0 rfl ?_
    refine v_load agg_int rfl ((M.B 0 rfl).at_ rfl) ?_
    refine p_eq rfl rfl (fun h => absurd h hx4) (fun _ => ?_)
    refine p_bneC u_bool rfl rfl (fun _ => ?_) (fun h => absurd rfl h)
    refine p_ne rfl rfl (fun h => absurd (show (4 : Int) = 0 from h) (by decide)) (fun _ => ?_)
    refine p_addN (b := 1) rfl rfl (by omega) ?_
    exact ⟨(i + 1, S, cs7), ⟨by dsimp only; omega, hS, hc7, M.dropL.dropL.fsub _ (by simp)⟩, (by repeat (first | exact trivial | refine ⟨rfl, ?_⟩)), by dsimp only; omega⟩
  have hyes : stubB (onP S t []) q = true := by rw [hst]; exact decide_eq_true hx4
  have hO2 : O = (onP (Sq S q) t [], 0) := by rw [hO, Open_on hF.1]; exact (open_yes hF hS hyes).1
  rw [hO2] at M ⊢
  dsimp only at M ⊢
  refine p_eq rfl rfl (fun _ => ?_) (fun h => absurd rfl h)
  refine p_fld fN0 rfl ?_
  refine v_load agg_int rfl ((M.B 0 rfl).at_ rfl) ?_
  refine p_eq rfl rfl (fun _ => ?_) (fun h => absurd hx4 h)
  refine p_bneC u_bool rfl rfl (fun _ => ?_) (fun h => absurd rfl h)
  refine p_ne rfl rfl (fun _ => ?_) (fun h => absurd rfl h)
  have hPz2 : sz (onP (Sq S q) t []) ≤ 154000 := by have := on_sz (S := Sq S q) (sz t + 1) t [] (Nat.lt_succ_self _); omega
  have hO3 : OpenP (onP (Sq S q) t []) t q = (noneN, 4) := by rw [Open_on hF.1]; exact open_no (open_twice hF)
  replace M := M.dropL
  refine cutV (Nat × List Value) (fun s W => s.2.length = 6 ∧ St w [] W [(s.1, 26, s.2), (g9, 26, cs9), (g7, 26, cs7), (g5, 26, ncs t Ap cp Av cv Ak ck Ah ch)] [] [.dat false (dN (onP (Sq S q) t [])) cs9, .dat false (dN t) (ncs t Ap cp Av cv Ak ck Ah ch), .dat false [dLs ways] [.slice (some ⟨y1, o1, none⟩) ways.length c1]])
    (fun s => [(1, .slice (some ⟨y1, o1, none⟩) ways.length c1), (5, .pointer (some ⟨g5, 0, none⟩)), (7, .pointer (some ⟨g7, 0, none⟩)), (8, .int .i64 (i : Nat)), (9, .pointer (some ⟨g9, 0, none⟩)), (14, .int .i64 4)]) ?_ ?_
  · replace M := M.drew
    refine drT (Kp w [] [(g9, 26, cs9), (g5, 26, ncs t Ap cp Av cv Ak ck Ah ch)] [.loc ((⟨y1, o1, none⟩ : Addr).add (i * 1)) [.slice A8 q.length c8]]) (.take 0 (.take 1 (.take 2 (.take 3 (.take 4 (.take 5 (.two 6 (.take 7 (.take 8 (.take 9 (.one 10 (.one 11 (.take 12 (.nil))))))) 10 (.one 6 (.take 7 (.take 8 (.take 9 (.one 11 (.take 12 (.nil)))))))))))))) (by kernel_rfl) (M.kp (by simp) (by simp)) ?_
    refine t_loadN cs9 agg_nd rfl hc9 (fun W K => K.run 0 rfl) ?_
    refine t_loadN (ncs t Ap cp Av cv Ak ck Ah ch) agg_nd rfl rfl (fun W K => K.run 1 rfl) ?_
    refine p_at (i := i) slls rfl rfl rfl hlt ?_
    refine t_load agg_b rfl (fun W K => K.lc 0 rfl 0 _ rfl) ?_
    refine ⟨?_, ?_⟩
    ·
      have ca := vOpen_any (onP (Sq S q) t []) t (by omega) (by omega) q _ _ cs9 _ (M.gl hG) (M.da 1 rfl) (M.da 5 rfl) (M.d1 3 rfl) M.olt (by omega)
      rw [hO3] at ca
      refine cc is_vOpen ca ?_
      clear ca
      rintro e W ⟨cs13, rfl, r9, hb9⟩
      have hc13 := r9.len
      rw [dN_len] at hc13
      replace M := (M.call hb9).addL r9
      clear r9 hb9
      refine ⟨_, rfl, (M.kp (by simp) (by simp)), ?_⟩
      refine s_alloc (zN) M al_nd ?_
      clear M
      rintro g13 W M
      refine ⟨(M.kp (by simp) (by simp)), ?_⟩
      refine s_storeA 0 cs13 M rfl sz_nd rfl rfl hc13 ((M.da 0 rfl).ones (dN_one _)) rfl ?_
      clear M; rintro W M
      dsimp only [setL] at M
      refine ⟨(M.kp (by simp) (by simp)), ?_⟩
      exact ⟨(g13, cs13), ⟨hc13, M.fsub _ (by simp)⟩, (by repeat (first | exact trivial | refine ⟨rfl, ?_⟩))⟩
    ·
      refine s_alloc (zN) M al_nd ?_
      clear M
      rintro g13 W M
      refine ⟨(M.kp (by simp) (by simp)), ?_⟩
      have ca := vOpen_any (onP (Sq S q) t []) t (by omega) (by omega) q _ _ cs9 _ (M.gl hG) (M.da 1 rfl) (M.da 5 rfl) (M.d1 3 rfl) M.olt (by omega)
      rw [hO3] at ca
      refine cc is_vOpen ca ?_
      clear ca
      rintro e W ⟨cs13, rfl, r9, hb9⟩
      have hc13 := r9.len
      rw [dN_len] at hc13
      replace M := (M.call hb9).addL r9
      clear r9 hb9
      refine ⟨_, rfl, (M.kp (by simp) (by simp)), ?_⟩
      refine s_storeA 0 cs13 M rfl sz_nd rfl rfl hc13 ((M.da 0 rfl).ones (dN_one _)) rfl ?_
      clear M; rintro W M
      dsimp only [setL] at M
      refine ⟨(M.kp (by simp) (by simp)), ?_⟩
      exact ⟨(g13, cs13), ⟨hc13, M.fsub _ (by simp)⟩, (by repeat (first | exact trivial | refine ⟨rfl, ?_⟩))⟩
  clear M
  rintro ⟨g13, cs13⟩ E4 W4 ⟨hc13, M⟩
  dsimp only at hc13 M
  replace M := M.dropL.drew
  refine drT (Kp w [] [(g9, 26, cs9), (g5, 26, ncs t Ap cp Av cv Ak ck Ah ch)] []) (.take 0 (.take 1 (.one 2 (.take 3 (.take 4 (.take 5 (.take 7 (.one 6 (.one 8 (.one 9 (.take 10 (.take 11 (.take 12 (.take 13 (.take 14 (.take 15 (.nil))))))))))))))))) (by kernel_rfl) (M.kp (by simp) (by simp)) ?_
  refine t_loadN cs9 agg_nd rfl hc9 (fun W K => K.run 0 rfl) ?_
  refine t_loadN (ncs t Ap cp Av cv Ak ck Ah ch) agg_nd rfl rfl (fun W K => K.run 1 rfl) ?_
  have ca := vAgr_any (onP (Sq S q) t []) t (by omega) (by omega) _ _ _ _ (M.gl hG) (M.da 0 rfl) (M.da 1 rfl) M.olt
  rw [agr_whole hF.1] at ca
  refine cc is_vAgr ca ?_
  clear ca
  rintro e W ⟨rfl, hb⟩
  replace M := M.call hb
  clear hb
  refine ⟨_, rfl, (M.kp (by simp) (by simp)), ?_⟩
  refine p_not rfl ?_
  refine t_loadN cs9 agg_nd rfl hc9 (fun W K => K.run 0 rfl) ?_
  refine t_loadN (ncs t Ap cp Av cv Ak ck Ah ch) agg_nd rfl rfl (fun W K => K.run 1 rfl) ?_
  refine cc is_r7hash (rhash_any (onP (Sq S q) t []) (by omega) _ _ _ (M.da 0 rfl) M.olt) ?_
  rintro e W ⟨A5, n5, c5, rfl, o, hb⟩
  replace M := M.callO hb o
  clear o hb
  refine ⟨_, rfl, (M.kp (by simp) (by simp)), ?_⟩
  refine cc is_r7hash (rhash_any t (by omega) _ _ _ (M.da 2 rfl) M.olt) ?_
  rintro e W ⟨A6, n6, c6, rfl, o, hb⟩
  replace M := M.callO hb o
  clear o hb
  refine ⟨_, rfl, (M.kp (by simp) (by simp)), ?_⟩
  rw [on_hash (Sq S q) [] hF.1, hashR_val hF.1] at M
  obtain ⟨qs, hqs, hc⟩ := same_tf (c1 := c5) (c2 := c6) (M.rdb 1 rfl).2.2 (M.rdb 0 rfl).2.2
  obtain rfl := hqs.2 rfl
  refine cc is_same0 hc ?_
  rintro e W' ⟨rfl, rfl⟩
  refine ⟨_, rfl, (M.kp (by simp) (by simp)), ?_⟩
  refine p_not rfl ?_
  refine p_ne rfl rfl (fun _ => ?_) (fun h => absurd rfl h)
  refine v_loadN cs9 agg_nd rfl hc9 (M.run 0 rfl) ?_
  refine s_storeA 1 cs9 M rfl sz_nd rfl rfl hc9 ((M.da 2 rfl).ones (dN_one _)) hc7 ?_
  clear M; rintro W M
  dsimp only [setL] at M
  refine p_addN (b := 1) rfl rfl (by omega) ?_
  exact ⟨(i + 1, Sq S q, cs9), ⟨by dsimp only; omega, Sq_closed hS q, hc9, M.dropL.fsub _ (by simp)⟩, (by repeat (first | exact trivial | refine ⟨rfl, ?_⟩)), by dsimp only; omega⟩
end Go.Proofs.YtojjfkbffjkojaaDoor
namespace Go.Proofs.YtojjfkbffjkojaaDoor
open Go.RowKit Go.ChangeShapes
theorem gBegin : Tryd.prog.globalNamed "exchequer/digest.begin" = some 0 := by kernel_rfl
theorem gRoots : Tryd.prog.globalNamed "exchequer/digest.roots" = some 1 := by kernel_rfl
theorem tBegin : (Tryd.prog.globals[0]?).map (·.type) = some 130 := by kernel_rfl
theorem tRoots : (Tryd.prog.globals[1]?).map (·.type) = some 133 := by kernel_rfl
theorem cB : Tryd.prog.cellsOf 130 = 8 := by kernel_rfl
theorem cR : Tryd.prog.cellsOf 133 = 64 := by kernel_rfl
theorem cU : Tryd.prog.cellsOf 94 = 1 := by kernel_rfl
def laidL : List (String × DataW Unit) := [("exchequer/digest.begin", Rows.laid_exchequer_digest_begin), ("exchequer/digest.roots", Rows.laid_exchequer_digest_roots)]
theorem gl_of {W : World} (h : laidMetH Tryd.prog laidL W) : GL W [] := by
  rw [MakeChecks.laidMetH_plain _ _ _ (by kernel_rfl)] at h
  have hb : Lib.TabIs Tryd.prog W "exchequer/digest.begin" .u32 [1779033703, 3144134277, 1013904242, 2773480762, 1359893119, 2600822924, 528734635, 1541459225] :=
    Lib.tabIs_of_head (rest := [("exchequer/digest.roots", Rows.laid_exchequer_digest_roots)]) gBegin tBegin Tryd.underlying130 Tryd.underlying94 cU cB h
  obtain ⟨ps, ⟨g0, t0, cs0, f0, p0, q0, hg0, ht0, hv0, hd0, ⟨g1, t1, cs1, f1, p1, q1, hg1, ht1, hv1, hd1, _, _⟩, _⟩, _, _⟩ := h
  obtain rfl := Option.some.inj (gRoots.symm.trans hg1)
  obtain rfl := Option.some.inj (tRoots.symm.trans ht1)
  have hr : Lib.TabIs Tryd.prog W "exchequer/digest.roots" .u32 (List.map (fun (n : Nat) => (n : Int)) roots) := by
    unfold Lib.TabIs
    rw [hv1, ← Lib.cells_of_tab Tryd.underlying133 Tryd.underlying94 cU cR hd1]
  refine ⟨fun j hj => ?_, fun j v hv => ?_, ?_, by simp, by simp⟩
  · have := hr.cell gRoots j (by rw [List.length_map]; exact hj)
    rw [this]
    unfold cu
    congr 2
    rw [List.getD_eq_getElem?_getD, List.getD_eq_getElem?_getD, List.getElem?_map]
    have : j < roots.length := hj
    rw [List.getElem?_eq_getElem this]; rfl
  · have hj := (List.getElem?_eq_some_iff.1 hv).1
    have := hb.cell gBegin j hj
    rw [this]
    have hj8 : j = 0 ∨ j = 1 ∨ j = 2 ∨ j = 3 ∨ j = 4 ∨ j = 5 ∨ j = 6 ∨ j = 7 := by have : j < 8 := hj; omega
    rcases hj8 with rfl | rfl | rfl | rfl | rfl | rfl | rfl | rfl <;> exact hv
  · have := hr.cell gRoots 0 (by decide)
    have := World.block_lt_of_cell? W _ this
    exact this
/-- A world for the witness: the tables hold what their initialisers lay. -/
def layAt (cs : List Value) : Obj → Obj
  | .cells _ t frozen => .cells cs.toArray t frozen
  | o => o
noncomputable def laidWorld (os : Os) : World :=
  { World.holding Tryd.prog os ⟨#[], #[], []⟩ with heap := ((World.holding Tryd.prog os ⟨#[], #[], []⟩).heap.modify 0 (layAt (hc begin8))).modify 1 (layAt (roots.map cu)) }
end Go.Proofs.YtojjfkbffjkojaaDoor
