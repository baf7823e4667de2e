/- The walk of the law PackTwins. -/
import Derived.Test.YtliccofjlheceaaG19
namespace Go.Proofs.Ytliccofjlheceaa
open Go.RowKit


theorem St.frzPr {w W : World} {gs : List (Option Nat)} {L : Lc} {R : List Row} {fs : List Fact} {A : Option Addr} {n c : Nat} {xs : List Value} {ll : List Pr} {fr : Bool} (M : St w gs W L (⟨65, 2, A, n, c, xs⟩ :: R) fs) (hd : RdL W (Ft w W (own L (⟨65, 2, A, n, c, xs⟩ :: R) gs) fr) (dPrs ll) xs) (hn : n = ll.length) : St w gs W L R (.dat fr [dPl ll] [.slice A ll.length c] :: fs) := by
  subst hn
  exact M.frzR hd
theorem q16 (a : UInt8) : IntKind.u8.wrap (((a.toNat : Nat) : Int).tdiv (16 : Nat)) = ((a / 16).toNat : Nat) := by
  have h := a.toNat_lt
  rw [Int.tdiv_eq_ediv_of_nonneg (by omega), IntKind.wrap_u8', UInt8.toNat_div]
  show _ = ((a.toNat / 16 : Nat) : Int)
  omega
theorem r16 (a : UInt8) : ((a.toNat : Nat) : Int).tmod (16 : Nat) = ((a % 16).toNat : Nat) := by
  rw [Int.tmod_eq_emod_of_nonneg (by omega), UInt8.toNat_mod]
  show _ = ((a.toNat % 16 : Nat) : Int)
  omega
theorem own_snoc (a : UInt8) (l : List Pr) (p : Pr) : ownL a (l ++ [p]) = ownL a l ++ [⟨a :: p.k, p.v⟩] := by unfold ownL; rw [List.map_append]; rfl
theorem both_snoc (a b : UInt8) (l : List Pr) (p : Pr) : bothL a b (l ++ [p]) = bothL a b l ++ [⟨a :: p.k, p.v⟩] ++ [⟨b :: p.k, p.v⟩] := by
  unfold bothL; rw [List.flatMap_append]; simp
theorem prBig_few {l : List Pr} {n : Nat} (hn : l.length ≤ n) (h1 : n ≤ 1000) (h : ∀ p ∈ l, p.k.length ≤ 101 ∧ p.v.length ≤ 300) : prBig l := ⟨by omega, fun p hp => by have := h p hp; omega⟩
set_option maxRecDepth 100000 in
set_option maxHeartbeats 8000000 in
theorem packTwins_walk (w : World) {A0 : Option Addr} {n0 c0 : Nat} {l : List Pr} (g0 : RdD w (Fd w []) (dPl l) (.slice A0 n0 c0)) (_b0 : (l.map fun t => t.k.length + t.v.length + 3).sum ≤ 1048576) (x1 : Int) (hx1 : 0 ≤ x1 ∧ x1 ≤ 255) (x2 : Int) (hx2 : 0 ≤ x2 ∧ x2 ≤ 255) :
    Calls Try.prog 9 #[.slice A0 n0 c0, .int .u8 x1, .int .u8 x2] w (RetTrue w) := by
  refine calls_ev (args := [.slice A0 n0 c0, .int .u8 x1, .int .u8 x2]) mixed Try.func9 rfl (by kernel_rfl) ?_
  obtain ⟨a, ha⟩ : ∃ a : UInt8, x1 = (a.toNat : Nat) := ⟨UInt8.ofNat x1.toNat, by rw [UInt8.toNat_ofNat']; omega⟩
  obtain ⟨b, hb⟩ : ∃ b : UInt8, x2 = (b.toNat : Nat) := ⟨UInt8.ofNat x2.toNat, by rw [UInt8.toNat_ofNat']; omega⟩
  subst ha hb
  have en0 : n0 = l.length := g0.slen
  subst en0
  have M := (St.start (w := w) (gs := []) (fun b h => by cases h)).addD g0
  clear g0
  replace M := (((M.nilR 65 2).nilR 65 2).addT (fr := false) (ds := dPrs (bothL a b (l.take 0))) (cs := []) RdL.nil_).addT (fr := false) (ds := dPrs (ownL a (l.take 0))) (cs := []) RdL.nil_
  refine lp (Nat × (Option Addr × Nat × Nat × List Value) × (Option Addr × Nat × Nat × List Value)) (fun s W => (s.1 ≤ l.length ∧ Few (l.take s.1) ∧ (0 < s.1 → l.length ≤ 20)) ∧ s.2.1.2.1 = (ownL a (l.take s.1)).length ∧ s.2.2.2.1 = (bothL a b (l.take s.1)).length ∧ St w [] W [] [⟨65, 2, s.2.1.1, s.2.1.2.1, s.2.1.2.2.1, s.2.1.2.2.2⟩, ⟨65, 2, s.2.2.1, s.2.2.2.1, s.2.2.2.2.1, s.2.2.2.2.2⟩] [.dat false (dPrs (ownL a (l.take s.1))) s.2.1.2.2.2, .dat false (dPrs (bothL a b (l.take s.1))) s.2.2.2.2.2, .dat false [dPl l] [.slice A0 l.length c0]])
    (fun s => [(0, .slice A0 l.length c0), (1, .int .u8 (a.toNat : Nat)), (2, .int .u8 (b.toNat : Nat)), (7, .slice s.2.1.1 s.2.1.2.1 s.2.1.2.2.1), (8, .slice s.2.2.1 s.2.2.2.1 s.2.2.2.2.1), (9, .int .i64 (s.1 : Nat))]) (fun s => l.length - s.1) (0, (none, 0, 0, []), (none, 0, 0, [])) ⟨⟨Nat.zero_le _, (fun p hp => by cases hp), (fun h => absurd h (by decide))⟩, rfl, rfl, M⟩ (by repeat (first | exact trivial | refine ⟨rfl, ?_⟩)) ?_
  clear M
  rintro ⟨i, ⟨A7, n7, c7, xs⟩, ⟨A8, n8, c8, ys⟩⟩ E W ⟨⟨hi, hf, h20⟩, e7, e8, M⟩
  dsimp only at hi hf h20 e7 e8 M
  refine p_len slp rfl ?_
  refine p_lt rfl rfl (fun hlt => ?_) (fun hge => ?_)
  · have hlt : i < l.length := by have h : (i : Int) < (l.length : Int) := hlt; omega
    obtain ⟨p, hp⟩ : ∃ p, l[i]? = some p := ⟨_, List.getElem?_eq_getElem hlt⟩
    have hpl := List.getElem?_eq_some_iff.1 hp
    have htk : l.take (i + 1) = l.take i ++ [p] := by rw [List.take_succ_eq_append_getElem hpl.1, hpl.2]
    obtain ⟨b1, o1, Ak, ck, Av, cv, rfl, M'⟩ := M.pair (M.d1 2 rfl) hp
    replace M := M'; clear M'
    refine p_at slp rfl rfl rfl hlt ?_
    refine p_fld fP0 rfl ?_
    refine v_load agg_b rfl (M.lc 0 rfl 0 _ rfl) ?_
    refine p_len slb rfl ?_
    refine p_gt rfl rfl (fun k1 => ?_) (fun k1 => ?_)
    ·
      refine cc is_kn11 (known11_any _ _ M.olt) ?_
      rintro e W ⟨rfl, hb⟩
      replace M := M.call hb
      clear hb
      exact ⟨_, rfl, rfl, M.below⟩
    have k1 : p.k.length ≤ 100 := by have h : ¬ (100 : Int) < (p.k.length : Int) := k1; omega
    refine p_at slp rfl rfl rfl hlt ?_
    refine p_fld fP1 rfl ?_
    refine v_load agg_b rfl (M.lc 0 rfl 1 _ rfl) ?_
    refine p_len slb rfl ?_
    refine p_gt rfl rfl (fun k2 => ?_) (fun k2 => ?_)
    ·
      refine cc is_kn11 (known11_any _ _ M.olt) ?_
      rintro e W ⟨rfl, hb⟩
      replace M := M.call hb
      clear hb
      exact ⟨_, rfl, rfl, M.below⟩
    have k2 : p.v.length ≤ 300 := by have h : ¬ (300 : Int) < (p.v.length : Int) := k2; omega
    refine p_len slp rfl ?_
    refine p_gt rfl rfl (fun k3 => ?_) (fun k3 => ?_)
    ·
      refine cc is_kn11 (known11_any _ _ M.olt) ?_
      rintro e W ⟨rfl, hb⟩
      replace M := M.call hb
      clear hb
      exact ⟨_, rfl, rfl, M.below⟩
    have k3 : l.length ≤ 20 := by have h : ¬ (20 : Int) < (l.length : Int) := k3; omega
    have hf' : Few (l.take (i + 1)) := by
      rw [htk]
      intro q hq
      rcases List.mem_append.1 hq with hq | hq
      · exact hf q hq
      · rw [List.mem_singleton.1 hq]; exact ⟨k1, k2⟩
    have l7 : n7 ≤ 20 := by
      rw [e7]
      show (List.map _ _).length ≤ 20
      rw [List.length_map, List.length_take]; omega
    have l8 : n8 ≤ 40 := by rw [e8, both_len, List.length_take]; omega
    refine s_litB [.int .u8 (a.toNat : Nat)] [a] M (by decide) rfl rfl rfl ?_
    clear M; rintro g10 W M
    refine p_at slp rfl rfl rfl hlt ?_
    refine p_fld fP0 rfl ?_
    refine v_load agg_b rfl (M.lc 0 rfl 0 _ rfl) ?_
    refine s_appB M rfl rfl (M.rdb 1 rfl).2.2 (by omega) ?_
    clear M; rintro A10 c10 W M -
    replace M := M.frzO
    refine s_litB [.int .u8 (b.toNat : Nat)] [b] M (by decide) rfl rfl rfl ?_
    clear M; rintro g11 W M
    refine p_at slp rfl rfl rfl hlt ?_
    refine p_fld fP0 rfl ?_
    refine v_load agg_b rfl (M.lc 1 rfl 0 _ rfl) ?_
    refine s_appB M rfl rfl (M.rdb 2 rfl).2.2 (by omega) ?_
    clear M; rintro A11 c11 W M -
    replace M := M.frzO
    -- the half by itself
    refine p_at slp rfl rfl rfl hlt ?_
    refine p_fld fP1 rfl ?_
    refine v_load agg_b rfl (M.lc 2 rfl 1 _ rfl) ?_
    refine p_build (vs := [.slice A10 (1 + p.k.length) c10, .slice Av p.v.length cv]) pl_pr z_pr rfl ?_
    refine s_bsliceB [.slice A10 (1 + p.k.length) c10, .slice Av p.v.length cv] M slp z_pr rfl (by decide) rfl ?_
    clear M; rintro g12 W M
    refine s_app M Try.underlying57 prinfo rfl (by decide) rfl rfl (Reads.blk (M.B 0 rfl) rfl) (all1 rfl) ⟨by omega, by decide⟩ ?_
    clear M; rintro A12 c12 W M -
    have hX := (M.dw 5 rfl).app (show RdL W _ (dPr ⟨a :: p.k, p.v⟩) [.slice A10 (1 + p.k.length) c10, .slice Av p.v.length cv] from RdL.cons (M.dw 1 rfl).hd (RdL.cons (M.dw 4 rfl).hd RdL.nil_))
    rw [← dPrs_snoc] at hX
    replace M := (M.addT hX).dropL
    clear hX
    replace M := M.swpR
    refine p_at slp rfl rfl rfl hlt ?_
    refine p_fld fP1 rfl ?_
    refine v_load agg_b rfl (M.lc 3 rfl 1 _ rfl) ?_
    refine p_build (vs := [.slice A10 (1 + p.k.length) c10, .slice Av p.v.length cv]) pl_pr z_pr rfl ?_
    refine s_bsliceB [.slice A10 (1 + p.k.length) c10, .slice Av p.v.length cv] M slp z_pr rfl (by decide) rfl ?_
    clear M; rintro g12 W M
    refine s_app M Try.underlying57 prinfo rfl (by decide) rfl rfl (Reads.blk (M.B 0 rfl) rfl) (all1 rfl) ⟨by omega, by decide⟩ ?_
    clear M; rintro A13 c13 W M -
    have hX := (M.dw 7 rfl).app (show RdL W _ (dPr ⟨a :: p.k, p.v⟩) [.slice A10 (1 + p.k.length) c10, .slice Av p.v.length cv] from RdL.cons (M.dw 2 rfl).hd (RdL.cons (M.dw 5 rfl).hd RdL.nil_))
    rw [← dPrs_snoc] at hX
    replace M := (M.addT hX).dropL
    clear hX
    refine p_at slp rfl rfl rfl hlt ?_
    refine p_fld fP1 rfl ?_
    refine v_load agg_b rfl (M.lc 4 rfl 1 _ rfl) ?_
    refine p_build (vs := [.slice A11 (1 + p.k.length) c11, .slice Av p.v.length cv]) pl_pr z_pr rfl ?_
    refine s_bsliceB [.slice A11 (1 + p.k.length) c11, .slice Av p.v.length cv] M slp z_pr rfl (by decide) rfl ?_
    clear M; rintro g12 W M
    refine s_app M Try.underlying57 prinfo rfl (by decide) rfl rfl (Reads.blk (M.B 0 rfl) rfl) (all1 rfl) ⟨by omega, by decide⟩ ?_
    clear M; rintro A14 c14 W M -
    have hX := (M.dw 0 rfl).app (show RdL W _ (dPr ⟨b :: p.k, p.v⟩) [.slice A11 (1 + p.k.length) c11, .slice Av p.v.length cv] from RdL.cons (M.dw 2 rfl).hd (RdL.cons (M.dw 6 rfl).hd RdL.nil_))
    rw [← dPrs_snoc] at hX
    replace M := (M.addT hX).dropL
    clear hX
    replace M := M.swpR
    refine p_addN (b := 1) rfl rfl (by dsimp only; omega) ?_
    refine ⟨(i + 1, (A12, n7 + 1, c12, xs ++ [.slice A10 (1 + p.k.length) c10, .slice Av p.v.length cv]), (A14, n8 + 1 + 1, c14, (ys ++ [.slice A10 (1 + p.k.length) c10, .slice Av p.v.length cv]) ++ [.slice A11 (1 + p.k.length) c11, .slice Av p.v.length cv])), ⟨⟨by dsimp only; omega, hf', fun _ => k3⟩, ?_, ?_, ?_⟩, (by repeat (first | exact trivial | refine ⟨rfl, ?_⟩)), by dsimp only; omega⟩
    · dsimp only; rw [htk, own_snoc, List.length_append, ← e7]; rfl
    · dsimp only; rw [htk, both_snoc, List.length_append, List.length_append, ← e8]; rfl
    · dsimp only
      rw [htk, own_snoc, both_snoc]
      exact M.fsub _ (by simp)
  have hge : i = l.length := by have h : ¬ (i : Int) < (l.length : Int) := hge; omega
  subst hge
  clear hi
  rw [List.take_length] at M hf e7 e8
  subst e7 e8
  refine p_quo rfl rfl (by decide) (q16 a) ?_
  refine p_quo rfl rfl (by decide) (q16 b) ?_
  refine p_eq rfl rfl (fun _ => ?_) (fun hxy => ?_)
  ·
    refine cc is_kn11 (known11_any _ _ M.olt) ?_
    rintro e W ⟨rfl, hb⟩
    replace M := M.call hb
    clear hb
    exact ⟨_, rfl, rfl, M.below⟩
  refine p_rem rfl rfl (by decide) (r16 a) ?_
  refine p_rem rfl rfl (by decide) (r16 b) ?_
  refine p_ne rfl rfl (fun hz => ?_) (fun hz => ?_)
  rotate_left
  ·
    refine cc is_kn11 (known11_any _ _ M.olt) ?_
    rintro e W ⟨rfl, hb⟩
    replace M := M.call hb
    clear hb
    exact ⟨_, rfl, rfl, M.below⟩
  refine p_len slp rfl ?_
  refine p_eq rfl rfl (fun _ => ?_) (fun hl => ?_)
  ·
    refine cc is_kn11 (known11_any _ _ M.olt) ?_
    rintro e W ⟨rfl, hb⟩
    replace M := M.call hb
    clear hb
    exact ⟨_, rfl, rfl, M.below⟩
  have hl0 : l.length ≠ 0 := fun e => hl (by show ((l.length : Nat) : Int) = 0; rw [e]; rfl)
  have hl1 : l ≠ [] := fun e => hl0 (by rw [e]; rfl)
  have h20' := h20 (by omega)
  have hxy' : a / 16 ≠ b / 16 := fun e => hxy (by rw [e])
  have hz' : a % 16 = b % 16 := UInt8.toNat_inj.1 (by have h : (((a % 16).toNat : Nat) : Int) = (((b % 16).toNat : Nat) : Int) := hz; omega)
  obtain ⟨o1, t1, so, st, po, pt, hle, hc3⟩ := twins hl1 hf h20' hxy' hz'
  have lo : (ownL a l).length ≤ 20 := by show (List.map _ _).length ≤ 20; rw [List.length_map]; exact h20'
  have lt : (bothL a b l).length ≤ 40 := by rw [both_len]; omega
  replace M := M.frzPr (ll := ownL a l) (M.dw 0 rfl) rfl
  replace M := M.frzPr (ll := bothL a b l) (M.dw 2 rfl) rfl
  obtain ⟨T, hT⟩ : ∃ T, T = tOf (ownL a l) := ⟨_, rfl⟩
  obtain ⟨S, hS⟩ : ∃ S, S = tOf (bothL a b l) := ⟨_, rfl⟩
  rw [← hT] at o1 so po hle
  rw [← hS] at t1 st pt hle hc3
  refine cc is_r8of (r8of_any 401 (Nat.le_refl _) (ownL a l) _ _ _ _ _ (M.d1 1 rfl) M.olt (prBig_few lo (by decide) (own_mem hf))) ?_
  rintro e W ⟨cs12, he, hres, hb⟩
  rw [← tOf_eq (Nat.le_refl _), ← hT] at he hres
  subst he
  have hc12 := hres.len
  rw [dN_len] at hc12
  replace M := (M.call hb).addL hres
  clear hres hb
  refine ⟨_, rfl, ?_⟩
  refine s_alloc (zN) M al_nd ?_
  clear M
  rintro g12 W M
  refine s_storeA 0 cs12 M rfl sz_nd rfl rfl hc12 ((M.da 0 rfl).ones (dN_one _)) rfl ?_
  clear M; rintro W M
  dsimp only [setL] at M
  refine cc is_r8of (r8of_any 401 (Nat.le_refl _) (bothL a b l) _ _ _ _ _ (M.d1 1 rfl) M.olt (prBig_few lt (by decide) (both_mem hf))) ?_
  rintro e W ⟨cs14, he, hres, hb⟩
  rw [← tOf_eq (Nat.le_refl _), ← hS] at he hres
  subst he
  have hc14 := hres.len
  rw [dN_len] at hc14
  replace M := (M.call hb).addL hres
  clear hres hb
  refine ⟨_, rfl, ?_⟩
  refine s_alloc (zN) M al_nd ?_
  clear M
  rintro g14 W M
  refine s_storeA 0 cs14 M rfl sz_nd rfl rfl hc14 ((M.da 0 rfl).ones (dN_one _)) rfl ?_
  clear M; rintro W M
  dsimp only [setL] at M
  refine p_ne rfl rfl (fun _ => ?_) (fun h => absurd o1 h)
  refine p_ne rfl rfl (fun _ => ?_) (fun h => absurd t1 h)
  replace M := M.fsub [.dat false (dN S.1) cs14, .dat false (dN T.1) cs12] (by simp)
  refine v_loadN cs12 agg_nd rfl hc12 (M.run 1 rfl) ?_
  refine cc is_pSize (psize_any T.1 (by omega) _ _ _ (M.da 1 rfl) M.olt) ?_
  rintro e W ⟨rfl, hb⟩
  replace M := M.call hb
  clear hb
  refine ⟨_, rfl, ?_⟩
  refine v_loadN cs14 agg_nd rfl hc14 (M.run 0 rfl) ?_
  refine cc is_pSize (psize_any S.1 (by omega) _ _ _ (M.da 0 rfl) M.olt) ?_
  rintro e W ⟨rfl, hb⟩
  replace M := M.call hb
  clear hb
  refine ⟨_, rfl, ?_⟩
  refine v_loadN cs14 agg_nd rfl hc14 (M.run 0 rfl) ?_
  refine cc is_rcnt (rcnt_any 100000000 (by decide) S.1 (by omega) _ _ _ (M.da 0 rfl) M.olt) ?_
  rintro e W ⟨rfl, hb⟩
  replace M := M.call hb
  clear hb
  refine ⟨_, rfl, ?_⟩
  have hp1 := packP_len T.1
  refine p_gt rfl rfl (fun _ => ?_) (fun h => absurd (show (0 : Int) < (((packP T.1).1.length : Nat) : Int) by omega) h)
  refine p_gt rfl rfl (fun _ => ?_) (fun h => absurd (show (0 : Int) < (((packP S.1).1.length : Nat) : Int) by omega) h)
  refine p_addN (b := 12) rfl rfl (by omega) ?_
  refine p_le rfl rfl (fun _ => ?_) (fun h => absurd (show (((packP S.1).1.length : Nat) : Int) ≤ (((packP T.1).1.length + 12 : Nat) : Int) by omega) h)
  refine p_ge rfl rfl (fun _ => ?_) (fun h => absurd (show (3 : Int) ≤ (((cntP S.1).1 : Nat) : Int) by omega) h)
  refine cc is_kn11 (known11_any _ _ M.olt) ?_
  rintro e W ⟨rfl, hb⟩
  replace M := M.call hb
  clear hb
  exact ⟨_, rfl, rfl, M.below⟩
end Go.Proofs.Ytliccofjlheceaa
