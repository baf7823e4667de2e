/- The walks of trie.Of, pairs and Pairs. -/
import Derived.Test.YtkfbkhahkkmcoaaG18
import Derived.Test.YtkfbkhahkkmcoaaG14
namespace Go.Proofs.Ytkfbkhahkkmcoaa
open Go.RowKit
theorem is_tOf : isFn Try.prog 35 = true := by kernel_rfl
def schOf : Sch := .take 0 (.take 1 (.take 2 (.take 4 (.take 5 (.one 3 (.one 6 (.take 7 (.take 8 (.take 9 (.one 10 (.nil)))))))))))
theorem ends_of {k : List UInt8} (h : k.length ≤ 200) : endsP (0 + (ofB k).length) true = true := by
  unfold endsP; rw [ofB_length, decide_eq_true (by omega), decide_eq_true (by omega)]; rfl
set_option maxRecDepth 100000 in
set_option maxHeartbeats 1000000 in
theorem tOf_any (l : List Pr) (gs : List (Option Nat)) (w : World) (A : Option Addr) (n c : Nat) (hr : RdD w (Fd w gs) (dPl l) (.slice A n c)) (hgs : ∀ b, some b ∈ gs → b < w.heap.size) (hz : prBulk l ≤ 500000) :
    Calls Try.prog 35 #[.slice A n c] w fun e w' => ∃ cs', e = .returned (.tuple #[.agg cs'.toArray, .int .i64 (tOf l).2]) ∧ RdL w' (Fd w' gs) (dN (tOf l).1) cs' ∧ Below w.heap.size w w' := by
  refine calls_ev (args := [.slice A n c]) mixed Try.func35 rfl (by kernel_rfl) ?_
  have en := hr.slen
  have hll := prBulk_len l
  have M := (St.start hgs).addD hr
  refine s_alloc (zN) M al_nd ?_
  clear M
  rintro g2 W M
  refine s_alloc (zN) M al_nd ?_
  clear M
  rintro g4 W M
  refine p_len slp rfl ?_
  obtain ⟨T, hT⟩ : ∃ T, T = tOf l := ⟨_, rfl⟩
  rw [← hT]
  have hl1 : ∀ p ∈ l, 140 + 2 * p.k.length + p.v.length ≤ 500000 := fun p hp => by
    have := sum_mem (fun p : Pr => 140 + 2 * p.k.length + p.v.length) hp
    unfold prBulk at hz
    omega
  refine lp (Nat × Nd × List Value) (fun s W => s.1 ≤ l.length ∧ St w gs W [(g4, 25, s.2.2), (g2, 25, zN)] [] [.dat false (dN s.2.1) s.2.2, .dat false [dPl l] [.slice A n c]] ∧ T = tOfF (l.drop s.1) s.2.1 ∧ Val true s.2.1 0 ∧ sfB s.2.1 = true ∧ sz s.2.1 + prBulk (l.drop s.1) ≤ 600000)
    (fun s => [(2, .pointer (some ⟨g2, 0, none⟩)), (3, .int .i64 0), (4, .pointer (some ⟨g4, 0, none⟩)), (7, .slice A n c), (8, .int .i64 n), (9, .int .i64 s.1)]) (fun s => l.length - s.1) (0, noneN, zN)
    ⟨Nat.zero_le _, ((M.add (f := .dat false (dN noneN) zN) RdL.znone).fsub _ (by simp)), hT, .none 0 (by decide), sf_none, by rw [show sz noneN = 6 by decide]; simp only [List.drop_zero]; omega⟩ (by repeat (first | exact trivial | refine ⟨rfl, ?_⟩)) ?_
  clear M
  rintro ⟨i, cur, cs⟩ E5 W ⟨hi, M, hTi, hval, hsf, hbk⟩
  dsimp only at hi M hTi hval hsf hbk
  have hcl := (M.da 0 rfl).len
  rw [dN_len] at hcl
  refine p_lt rfl rfl (fun hlt => ?_) (fun hge => ?_)
  · obtain ⟨p, hp⟩ : ∃ p, l[i]? = some p := ⟨_, List.getElem?_eq_getElem (by dsimp only at hlt; omega)⟩
    have hpm := hl1 p (List.mem_of_getElem? hp)
    have hdr : l.drop i = p :: l.drop (i + 1) := by
      have h1 := (List.getElem?_eq_some_iff.1 hp)
      rw [List.drop_eq_getElem_cons h1.1, h1.2]
    rw [hdr] at hTi hbk
    unfold tOfF at hTi
    unfold prBulk at hbk
    rw [List.map_cons, List.sum_cons] at hbk
    obtain ⟨b, off, Ak, ck, Av, cv, rfl, M'⟩ := M.pair (by first | with_reducible exact M.d1_0 | with_reducible exact M.d1_1 | with_reducible exact M.d1_2 | with_reducible exact M.d1_3 | with_reducible exact M.d1_4 | with_reducible exact M.d1_5 | with_reducible exact M.d1_6 | with_reducible exact M.d1_7 | with_reducible exact M.d1_8 | with_reducible exact M.d1_9 | with_reducible exact M.d1_10 | with_reducible exact M.d1_11) hp
    replace M := M'; clear M'
    refine p_at slp rfl rfl rfl (by dsimp only at hlt; omega) ?_
    refine v_loadN (pcs p Ak ck Av cv) agg_pr rfl rfl (by first | exact M.run 0 rfl | exact M.run 1 rfl | exact M.run 2 rfl | exact M.run 3 rfl | exact M.run 4 rfl | exact M.lc 0 rfl | exact M.lc 1 rfl | exact M.lc 2 rfl | exact M.lc 3 rfl | exact M.lc 4 rfl | exact M.lc 5 rfl | exact M.lc 6 rfl | exact M.lc 7 rfl) ?_
    refine s_alloc (zP) M al_pr ?_
    clear M
    rintro g6 W M
    first | refine s_storeA 0 (pcs p Ak ck Av cv) M rfl (by kernel_rfl) rfl rfl rfl (all1 rfl) rfl ?_ | refine s_storeA 1 (pcs p Ak ck Av cv) M rfl (by kernel_rfl) rfl rfl rfl (all1 rfl) rfl ?_ | refine s_storeA 2 (pcs p Ak ck Av cv) M rfl (by kernel_rfl) rfl rfl rfl (all1 rfl) rfl ?_ | refine s_storeA 3 (pcs p Ak ck Av cv) M rfl (by kernel_rfl) rfl rfl rfl (all1 rfl) rfl ?_
    clear M
    rintro W M
    dsimp only [setL] at M
    refine p_fld fP0 rfl ?_
    refine v_load agg_b rfl (by first | exact (M.B 0 rfl).at_ rfl | exact (M.B 1 rfl).at_ rfl | exact (M.B 2 rfl).at_ rfl | exact (M.B 3 rfl).at_ rfl | exact (M.B 4 rfl).at_ rfl | exact M.lc 0 rfl _ _ rfl | exact M.lc 1 rfl _ _ rfl | exact M.lc 2 rfl _ _ rfl | exact M.lc 3 rfl _ _ rfl | exact M.lc 4 rfl _ _ rfl | exact M.lc 5 rfl _ _ rfl | exact M.lc 6 rfl _ _ rfl | exact M.lc 7 rfl _ _ rfl) ?_
    refine p_len slb rfl ?_
    refine p_gt rfl rfl (fun hk => ?_) (fun hk => ?_)
    ·
      rw [if_pos (by omega)] at hTi
      refine p_build (vs := zN) pl_nd z_nd rfl ?_
      refine s_storeA 2 zN M rfl sz_nd rfl rfl rfl (all1 rfl) rfl ?_
      clear M; rintro W M
      dsimp only [setL] at M
      refine c_loadN zN agg_nd rfl rfl (M.run 2 rfl) ?_
      rw [hTi]
      exact ⟨zN, rfl, RdL.znone, M.below⟩
    · refine p_fld fP1 rfl ?_
      refine v_load agg_b rfl (by first | exact (M.B 0 rfl).at_ rfl | exact (M.B 1 rfl).at_ rfl | exact (M.B 2 rfl).at_ rfl | exact (M.B 3 rfl).at_ rfl | exact (M.B 4 rfl).at_ rfl | exact M.lc 0 rfl _ _ rfl | exact M.lc 1 rfl _ _ rfl | exact M.lc 2 rfl _ _ rfl | exact M.lc 3 rfl _ _ rfl | exact M.lc 4 rfl _ _ rfl | exact M.lc 5 rfl _ _ rfl | exact M.lc 6 rfl _ _ rfl | exact M.lc 7 rfl _ _ rfl) ?_
      refine p_len slb rfl ?_
      refine p_gt rfl rfl (fun hv => ?_) (fun hv => ?_)
      ·
        rw [if_pos (by omega)] at hTi
        refine p_build (vs := zN) pl_nd z_nd rfl ?_
        refine s_storeA 2 zN M rfl sz_nd rfl rfl rfl (all1 rfl) rfl ?_
        clear M; rintro W M
        dsimp only [setL] at M
        refine c_loadN zN agg_nd rfl rfl (M.run 2 rfl) ?_
        rw [hTi]
        exact ⟨zN, rfl, RdL.znone, M.below⟩
      · rw [if_neg (by omega)] at hTi
        obtain ⟨hpn, hps⟩ := sf_put hval hsf (ofB p.k) p.v (halvesB_ofB _)
        have hvn := put_val hval (ofB p.k) p.v (halvesB_ofB _) (ends_of (by omega)) (by omega) hpn
        have hzn := sz_put hval (ofB p.k) p.v (halvesB_ofB _)
        rw [ofB_length] at hzn
        replace M := M.drew
        refine drZ 10 (Kp w gs [(g6, 43, pcs p Ak ck Av cv), (g4, 25, cs)] []) [(0, true), (1, true), (2, true), (4, true), (5, true), (3, false), (6, false), (7, true), (8, true), (9, true)] (by kernel_rfl) (M.kp (by simp) (by simp)) ?_
        refine t_loadN cs agg_nd rfl hcl (fun W K => by first | exact K.run 0 rfl | exact K.run 1 rfl | exact K.run 2 rfl | exact K.run 3 rfl | exact K.lc 0 rfl | exact K.lc 1 rfl | exact K.lc 2 rfl | exact K.lc 3 rfl) ?_
        refine p_fld fP0 rfl ?_
        refine t_load agg_b rfl (fun W K => by first | exact (K.B 0 rfl).at_ rfl | exact (K.B 1 rfl).at_ rfl | exact (K.B 2 rfl).at_ rfl | exact (K.B 3 rfl).at_ rfl | exact K.lc 0 rfl _ _ rfl | exact K.lc 1 rfl _ _ rfl | exact K.lc 2 rfl _ _ rfl | exact K.lc 3 rfl _ _ rfl) ?_
        refine p_fld fP1 rfl ?_
        refine t_load agg_b rfl (fun W K => by first | exact (K.B 0 rfl).at_ rfl | exact (K.B 1 rfl).at_ rfl | exact (K.B 2 rfl).at_ rfl | exact (K.B 3 rfl).at_ rfl | exact K.lc 0 rfl _ _ rfl | exact K.lc 1 rfl _ _ rfl | exact K.lc 2 rfl _ _ rfl | exact K.lc 3 rfl _ _ rfl) ?_
        refine cc is_nof (of_any Ak p.k.length ck p.k _ (M.rdb 1 rfl).2.2 (by omega)) ?_
        rintro e W5 ⟨A5, c5, rfl, o5, hb⟩
        replace M := M.callO hb o5
        refine ⟨_, rfl, (M.kp (by simp) (by simp)), ?_⟩
        refine cc is_tput (tput_any 1000000 (Nat.le_refl _) cur (by omega) _ _ cs (ofB p.k) p.v [] A5 _ c5 Av _ cv none 0 0 0 true (by first | with_reducible exact M.da_0 | with_reducible exact M.da_1 | with_reducible exact M.da_2 | with_reducible exact M.da_3 | with_reducible exact M.da_4 | with_reducible exact M.da_5 | with_reducible exact M.da_6 | with_reducible exact M.da_7 | with_reducible exact M.da_8 | with_reducible exact M.da_9 | with_reducible exact M.da_10 | with_reducible exact M.da_11) (by first | with_reducible exact M.d1_0 | with_reducible exact M.d1_1 | with_reducible exact M.d1_2 | with_reducible exact M.d1_3 | with_reducible exact M.d1_4 | with_reducible exact M.d1_5 | with_reducible exact M.d1_6 | with_reducible exact M.d1_7 | with_reducible exact M.d1_8 | with_reducible exact M.d1_9 | with_reducible exact M.d1_10 | with_reducible exact M.d1_11) (by first | with_reducible exact M.d1_0 | with_reducible exact M.d1_1 | with_reducible exact M.d1_2 | with_reducible exact M.d1_3 | with_reducible exact M.d1_4 | with_reducible exact M.d1_5 | with_reducible exact M.d1_6 | with_reducible exact M.d1_7 | with_reducible exact M.d1_8 | with_reducible exact M.d1_9 | with_reducible exact M.d1_10 | with_reducible exact M.d1_11) (RdD.nil_ _ _) M.olt (.inr hpn) (halvesB_ofB _) hval (by rw [ofB_length]; simp; omega)) ?_
        rintro e W7 ⟨cs7, Am, nm, cm, rfl, hres, -, hb⟩
        replace M := (M.call hb).addL hres
        have hl7 := hres.len
        rw [dN_len] at hl7
        refine ⟨_, rfl, (M.kp (by simp) (by simp)), ?_⟩
        refine s_storeA 1 cs7 M rfl sz_nd rfl rfl hl7 (hres.ones (dN_one _)) hcl ?_
        clear M; rintro W M
        dsimp only [setL] at M
        refine p_add rfl rfl (r := ((i + 1 : Nat) : Int)) ((w64 (by dsimp only at hlt ⊢; omega)).trans (by dsimp only; omega)) ?_
        exact ⟨(i + 1, (putP cur (ofB p.k) p.v).1, cs7), ⟨by dsimp only at hlt ⊢; omega, M.dropL.fsub _ (by simp), hTi, hvn, hps, by dsimp only; unfold prBulk; omega⟩, (by repeat (first | exact trivial | refine ⟨rfl, ?_⟩)), by dsimp only at hlt ⊢; omega⟩
  · have hin : i = l.length := by dsimp only at hge; omega
    rw [List.drop_of_length_le (by omega)] at hTi
    unfold tOfF at hTi
    refine v_loadN cs agg_nd rfl hcl (M.run 0 rfl) ?_
    refine s_storeA 1 cs M rfl sz_nd rfl rfl hcl ((M.da 0 rfl).ones (dN_one _)) rfl ?_
    clear M; rintro W M
    dsimp only [setL] at M
    refine c_loadN cs agg_nd rfl hcl (M.run 1 rfl) ?_
    rw [hTi]
    exact ⟨cs, rfl, (by first | with_reducible exact M.fin_0 | with_reducible exact M.fin_1 | with_reducible exact M.fin_2 | with_reducible exact M.fin_3 | with_reducible exact M.fin_4 | with_reducible exact M.fin_5 | with_reducible exact M.fin_6 | with_reducible exact M.fin_7 | with_reducible exact M.fin_8 | with_reducible exact M.fin_9 | with_reducible exact M.fin_10 | with_reducible exact M.fin_11), M.below⟩
mutual
/-- What trie.pairs comes to: the pairs; the way to a stub. -/
def pairsP : Nd → List UInt8 → List Pr × Option (List UInt8)
  | .mk k p has v ks _, way =>
    if k = 4 then ([], some (way ++ p))
    else ((if k = 1 ∨ has = true then [⟨bytesL (way ++ p), v⟩] else []) ++ (pairsK ks (decide (k = 3)) 0 (way ++ p)).1, (pairsK ks (decide (k = 3)) 0 (way ++ p)).2)
def pairsK : List Nd → Bool → Nat → List UInt8 → List Pr × Option (List UInt8)
  | [], _, _, _ => ([], none)
  | t :: ts, br, i, at_ => match (pairsP t (if br then at_ ++ [UInt8.ofNat i] else at_)).2 with
    | some m => ([], some m)
    | none => ((pairsP t (if br then at_ ++ [UInt8.ofNat i] else at_)).1 ++ (pairsK ts br (i + 1) at_).1, (pairsK ts br (i + 1) at_).2)
end
theorem pairsP_eq (t : Nd) (way : List UInt8) : pairsP t way = if t.kind = 4 then ([], some (way ++ t.path)) else ((if t.kind = 1 ∨ t.has = true then [⟨bytesL (way ++ t.path), t.val⟩] else []) ++ (pairsK t.kids (decide (t.kind = 3)) 0 (way ++ t.path)).1, (pairsK t.kids (decide (t.kind = 3)) 0 (way ++ t.path)).2) := by
  cases t; rw [pairsP]; rfl
theorem is_pr1 : isFn Try.prog 91 = true := by kernel_rfl
theorem is_prs : isFn Try.prog 71 = true := by kernel_rfl
theorem is_nby : isFn Try.prog 92 = true := by kernel_rfl
theorem sz_prs : (Try.prog.info? 28).map (·.size) = some 1 := by kernel_rfl
theorem dPrs_snoc (l : List Pr) (p : Pr) : dPrs (l ++ [p]) = dPrs l ++ dPr p := by unfold dPrs; simp
set_option maxRecDepth 100000 in
set_option maxHeartbeats 1000000 in
theorem one_any' {w W : World} {gs : List (Option Nat)} {L : Lc} {R : List Row} {fs : List Fact} {g5 : Nat} {A : Option Addr} {n c : Nat} {xs : List Value} {ps : List Pr} {way val : List UInt8} {A1 A2 : Option Addr} {n1 c1 n2 c2 : Nat}
    (M : St w gs W ((g5, 28, [.slice A n c]) :: L) (⟨43, 2, A, n, c, xs⟩ :: R) (.dat true (dPrs ps) xs :: .dat true [dB way] [.slice A1 n1 c1] :: .dat false [dB val] [.slice A2 n2 c2] :: fs)) (hs : n ≤ 1000000 ∧ n1 ≤ 1000000 ∧ n2 ≤ 1000000) :
    Calls Try.prog 91 #[.slice A1 n1 c1, .slice A2 n2 c2, .pointer (some ⟨g5, 0, none⟩)] W fun e W' => e = .returned (.tuple #[]) ∧ ∃ A' c' xs', St w gs W' ((g5, 28, [.slice A' (n + 1) c']) :: L) (⟨43, 2, A', n + 1, c', xs'⟩ :: R) (.dat true (dPrs (ps ++ [⟨bytesL way, val⟩])) xs' :: .dat true [dB way] [.slice A1 n1 c1] :: .dat false [dB val] [.slice A2 n2 c2] :: fs) := by
  refine calls_ev (args := [.slice A1 n1 c1, .slice A2 n2 c2, .pointer (some ⟨g5, 0, none⟩)]) mixed Try.func91 rfl (by kernel_rfl) ?_
  have e1 := (M.d1 1 rfl).slen
  have e2 := (M.d1 2 rfl).slen
  refine cc is_nby (bytes_any A1 n1 c1 way _ (M.rdb 1 rfl).2.2 (by omega)) ?_
  rintro e W3 ⟨A3, n3, c3, rfl, o3, hb⟩
  refine ⟨_, rfl, ?_⟩
  replace M := (M.callO hb o3).drew
  have e3 := o3.len
  refine drZ 7 (Kp w gs [(g5, 28, [.slice A n c])] []) [(0, true), (1, true), (2, true), (3, false), (4, true), (5, false), (6, false)] (by kernel_rfl) (M.kp (by simp) (by simp)) ?_
  refine t_load agg_prs rfl (fun W K => by first | exact (K.B 0 rfl).at_ rfl | exact (K.B 1 rfl).at_ rfl | exact (K.B 2 rfl).at_ rfl | exact (K.B 3 rfl).at_ rfl | exact K.lc 0 rfl _ _ rfl | exact K.lc 1 rfl _ _ rfl | exact K.lc 2 rfl _ _ rfl | exact K.lc 3 rfl _ _ rfl) ?_
  refine cc is_bclone (bclone_any _ A2 n2 c2 val _ (by first | with_reducible exact M.d1_0 | with_reducible exact M.d1_1 | with_reducible exact M.d1_2 | with_reducible exact M.d1_3 | with_reducible exact M.d1_4 | with_reducible exact M.d1_5 | with_reducible exact M.d1_6 | with_reducible exact M.d1_7 | with_reducible exact M.d1_8 | with_reducible exact M.d1_9 | with_reducible exact M.d1_10 | with_reducible exact M.d1_11) (by omega)) ?_
  rintro e W4 ⟨A4, c4, rfl, o4, -, hb⟩
  replace M := M.callO hb o4
  refine ⟨_, rfl, (M.kp (by simp) (by simp)), ?_⟩
  refine p_build (vs := [.slice A3 n3 c3, .slice A4 n2 c4]) pl_pr z_pr rfl ?_
  refine s_bsliceB [.slice A3 n3 c3, .slice A4 n2 c4] M slp z_pr rfl (by decide) rfl ?_
  clear M; rintro g6 W M
  refine ⟨(M.kp (by simp) (by simp)), ?_⟩
  have hP : RdL W (Ft w W (own _ (⟨43, 2, A, n, c, xs⟩ :: R) gs) true) (dPr ⟨bytesL way, val⟩) [.slice A3 n3 c3, .slice A4 n2 c4] := RdL.cons (M.dt 1 rfl).hd (M.dt 0 rfl)
  replace M := M.addT hP
  refine s_app M Try.underlying28 prinfo rfl (by decide) rfl rfl (Reads.blk (M.B 0 rfl) rfl) (all1 rfl) ⟨by omega, by decide⟩ ?_
  clear M hP; rintro A5 c5 W M -
  refine ⟨(M.kp (by simp) (by simp)), ?_⟩
  refine s_set 1 (.slice A5 (n + 1) c5) ([.slice A5 (n + 1) c5]) M rfl sz_prs rfl rfl rfl (Nat.le_of_ble_eq_true rfl) rfl ?_
  clear M; rintro W M
  dsimp only [setL] at M
  refine ⟨rfl, A5, c5, xs ++ [.slice A3 n3 c3, .slice A4 n2 c4], ?_⟩
  have hX := (M.dt 3 rfl).app (M.dt 0 rfl)
  rw [← dPrs_snoc] at hX
  exact (M.addT hX).dropL.fsub _ (by intro f hf; simp only [List.mem_cons] at hf ⊢; rcases hf with h | h | h | h <;> simp [h])
def PairsOk (t : Nd) : Prop := ∀ (w W : World) (gs : List (Option Nat)) (L : Lc) (R : List Row) (fs : List Fact) (A : Option Addr) (n c : Nat) (xs : List Value) (ps : List Pr) (way : List UInt8) (A1 : Option Addr) (n1 c1 : Nat) (cs : List Value),
  St w gs W L (⟨43, 2, A, n, c, xs⟩ :: R) (.dat true (dPrs ps) xs :: .dat false (dN t) cs :: .dat false [dB way] [.slice A1 n1 c1] :: fs) → n + sz t ≤ 1000000 → n1 + sz t ≤ 1000000 →
  Calls Try.prog 71 #[.agg cs.toArray, .slice A1 n1 c1, .slice A n c] W fun e W' => match (pairsP t way).2 with
    | none => ∃ A' c' xs', e = .returned (.tuple #[.slice A' (n + (pairsP t way).1.length) c', .slice none 0 0]) ∧ St w gs W' L (⟨43, 2, A', n + (pairsP t way).1.length, c', xs'⟩ :: R) (.dat true (dPrs (ps ++ (pairsP t way).1)) xs' :: fs)
    | some m => ∃ Am nm cm r', e = .returned (.tuple #[.slice none 0 0, .slice Am nm cm]) ∧ Am ≠ none ∧ St w gs W' L (r' :: R) (.dat true [dB m] [.slice Am nm cm] :: fs)
mutual
theorem pairsP_len : ∀ (t : Nd) (way : List UInt8), (pairsP t way).1.length + 5 ≤ sz t
  | .mk k p has v ks h, way => by
    have := pairsK_len ks (decide (k = 3)) 0 (way ++ p)
    rw [pairsP, sz]
    split
    · simp; omega
    · simp only [List.length_append]
      split <;> simp <;> omega
theorem pairsK_len : ∀ (ks : List Nd) (br : Bool) (i : Nat) (at_ : List UInt8), (pairsK ks br i at_).1.length + 5 * ks.length ≤ szs ks
  | [], _, _, _ => by simp [pairsK]
  | t :: ts, br, i, at_ => by
    have := pairsP_len t (if br then at_ ++ [UInt8.ofNat i] else at_)
    have := pairsK_len ts br (i + 1) at_
    rw [pairsK, szs, List.length_cons]
    split
    · simp; omega
    · simp only [List.length_append]; omega
end
set_option maxRecDepth 100000 in
set_option maxHeartbeats 1000000 in
theorem pairs_step (N : Nat) (ih : ∀ k : Nd, sz k < N → PairsOk k) (t : Nd) (ht : sz t ≤ N) : PairsOk t := by
  intro w W gs L R fs A n c xs ps way A1 n1 c1 cs M hn hn1
  refine calls_ev (args := [.agg cs.toArray, .slice A1 n1 c1, .slice A n c]) mixed Try.func71 rfl (by kernel_rfl) ?_
  have hsz := sz_eq t
  have hsl := szs_len t.kids
  have en1 := (M.d1 2 rfl).slen
  obtain ⟨Ap, cp, Av, cv, Ak, ck, Ah, ch, rfl, r1, r3, r4, r5⟩ := (M.da 1 rfl).node
  replace M := ((M.addD r4).addD r3).addD r1
  clear r1 r3 r4 r5
  obtain ⟨TT, hTT⟩ : ∃ TT, TT = pairsP t way := ⟨_, rfl⟩
  have hTl := pairsP_len t way
  rw [← hTT] at hTl ⊢
  rw [pairsP_eq] at hTT
  refine s_box (ncs t Ap cp Av cv Ak ck Ah ch) M rfl ?_
  clear M
  rintro g3 W M
  refine s_box ([.slice A n c]) M rfl ?_
  clear M
  rintro g5 W M
  refine p_fun #[] #[.tmp 5] ?_
  replace M := M.drew
  obtain ⟨AT, hAT⟩ : ∃ AT, AT = way ++ t.path := ⟨_, rfl⟩
  obtain ⟨n3, hn3⟩ : ∃ n3, n3 = 0 + n1 + t.path.length := ⟨_, rfl⟩
  refine cutV (Option Addr × Nat) (fun s W => St w gs W ((g5, 28, [.slice A n c]) :: (g3, 25, ncs t Ap cp Av cv Ak ck Ah ch) :: L) (⟨43, 2, A, n, c, xs⟩ :: R) (.dat true [dB AT] [.slice s.1 n3 s.2] :: .dat false [dB t.val] [.slice Av t.val.length cv] :: .dat false [dKs t.kids] [.slice Ak t.kids.length ck] :: .dat true (dPrs ps) xs :: fs) ∧ s.1 ≠ none)
    (fun s => [(1, .slice s.1 n3 s.2), (3, .pointer (some ⟨g3, 0, none⟩)), (5, .pointer (some ⟨g5, 0, none⟩)), (8, .func (.func 91) #[] #[.pointer (some ⟨g5, 0, none⟩)])]) ?_ ?_
  · refine drT (Kp w gs [(g3, 25, ncs t Ap cp Av cv Ak ck Ah ch)] []) (.take 1 (.take 3 (.take 4 (.one 0 (.one 2 (.one 5 (.take 6 (.nil)))))))) (by kernel_rfl) (M.kp (by simp) (by simp)) ?_
    refine p_fld fN1 rfl ?_
    refine t_load agg_b rfl (fun W K => by first | exact (K.B 0 rfl).at_ rfl | exact (K.B 1 rfl).at_ rfl | exact (K.B 2 rfl).at_ rfl | exact (K.B 3 rfl).at_ rfl | exact K.lc 0 rfl _ _ rfl | exact K.lc 1 rfl _ _ rfl | exact K.lc 2 rfl _ _ rfl | exact K.lc 3 rfl _ _ rfl) ?_
    refine s_bslice0 M slb ?_
    clear M; rintro g0 W M
    refine ⟨(M.kp (by simp) (by simp)), ?_⟩
    refine s_appB (l := []) M rfl rfl (M.rdb 5 rfl).2.2 (by omega) ?_
    clear M; rintro A2 c2 W M hA2
    refine ⟨(M.kp (by simp) (by simp)), ?_⟩
    refine s_appB M rfl rfl (M.rdb 0 rfl).2.2 (by omega) ?_
    clear M; rintro A3 c3 W M hA3
    refine ⟨(M.kp (by simp) (by simp)), ?_⟩
    replace M := M.frzO
    rw [List.nil_append, ← hAT, ← hn3] at M
    have hA3n : A3 ≠ none := fun e => by have := (hA3.1 e).1; have := (hA2.1 this).1; cases this
    rw [← hn3]
    exact ⟨(A3, c3), ⟨M.fsub _ (by intro f hf; simp only [List.mem_cons] at hf ⊢; rcases hf with h | h | h | h | h <;> simp [h]), hA3n⟩, (by repeat (first | exact trivial | refine ⟨rfl, ?_⟩))⟩
  clear M
  rintro ⟨A3, c3⟩ B3 W3 ⟨M, hA3n⟩
  dsimp only at M hA3n
  rw [← hAT] at hTT
  refine nx ?_
  refine cutS (Option Addr × Nat × Nat × List Value × List Pr) (fun s W => St w gs W ((g5, 28, [.slice s.1 s.2.1 s.2.2.1]) :: (g3, 25, ncs t Ap cp Av cv Ak ck Ah ch) :: L) (⟨43, 2, s.1, s.2.1, s.2.2.1, s.2.2.2.1⟩ :: R) (.dat true (dPrs (ps ++ s.2.2.2.2)) s.2.2.2.1 :: .dat true [dB AT] [.slice A3 n3 c3] :: .dat false [dKs t.kids] [.slice Ak t.kids.length ck] :: fs) ∧ s.2.1 = n + s.2.2.2.2.length ∧ s.2.2.2.2.length ≤ 1 ∧ t.kind ≠ 4 ∧ TT.1 = s.2.2.2.2 ++ (pairsK t.kids (decide (t.kind = 3)) 0 AT).1 ∧ TT.2 = (pairsK t.kids (decide (t.kind = 3)) 0 AT).2)
    (fun s => [(1, .slice A3 n3 c3), (3, .pointer (some ⟨g3, 0, none⟩)), (5, .pointer (some ⟨g5, 0, none⟩))]) ?_ ?_
  · refine p_fld fN0 rfl ?_
    refine v_load agg_int rfl (by first | exact (M.B 0 rfl).at_ rfl | exact (M.B 1 rfl).at_ rfl | exact (M.B 2 rfl).at_ rfl | exact (M.B 3 rfl).at_ rfl | exact (M.B 4 rfl).at_ rfl | exact M.lc 0 rfl _ _ rfl | exact M.lc 1 rfl _ _ rfl | exact M.lc 2 rfl _ _ rfl | exact M.lc 3 rfl _ _ rfl | exact M.lc 4 rfl _ _ rfl | exact M.lc 5 rfl _ _ rfl | exact M.lc 6 rfl _ _ rfl | exact M.lc 7 rfl _ _ rfl) ?_
    refine p_eq rfl rfl (fun h4 => ?_) (fun h4 => ?_)
    · rw [if_pos h4] at hTT
      rw [hTT]
      refine ⟨A3, n3, c3, _, rfl, hA3n, M.dropL.dropL.fsub _ ?_⟩
      intro f hf; simp only [List.mem_cons] at hf ⊢; rcases hf with h | h <;> simp [h]
    rw [if_neg h4] at hTT
    refine p_fld fN0 rfl ?_
    refine v_load agg_int rfl (by first | exact (M.B 0 rfl).at_ rfl | exact (M.B 1 rfl).at_ rfl | exact (M.B 2 rfl).at_ rfl | exact (M.B 3 rfl).at_ rfl | exact (M.B 4 rfl).at_ rfl | exact M.lc 0 rfl _ _ rfl | exact M.lc 1 rfl _ _ rfl | exact M.lc 2 rfl _ _ rfl | exact M.lc 3 rfl _ _ rfl | exact M.lc 4 rfl _ _ rfl | exact M.lc 5 rfl _ _ rfl | exact M.lc 6 rfl _ _ rfl | exact M.lc 7 rfl _ _ rfl) ?_
    refine p_eq rfl rfl (fun h1 => ?_) (fun h1 => ?_)
    ·
      rw [if_pos (.inl h1)] at hTT
      refine p_fld fN3 rfl ?_
      refine v_load agg_b rfl (by first | exact (M.B 0 rfl).at_ rfl | exact (M.B 1 rfl).at_ rfl | exact (M.B 2 rfl).at_ rfl | exact (M.B 3 rfl).at_ rfl | exact (M.B 4 rfl).at_ rfl | exact M.lc 0 rfl _ _ rfl | exact M.lc 1 rfl _ _ rfl | exact M.lc 2 rfl _ _ rfl | exact M.lc 3 rfl _ _ rfl | exact M.lc 4 rfl _ _ rfl | exact M.lc 5 rfl _ _ rfl | exact M.lc 6 rfl _ _ rfl | exact M.lc 7 rfl _ _ rfl) ?_
      have M1 := M.fsub (.dat true (dPrs ps) xs :: .dat true [dB AT] [.slice A3 n3 c3] :: .dat false [dB t.val] [.slice Av t.val.length cv] :: .dat false [dKs t.kids] [.slice Ak t.kids.length ck] :: fs) (by intro f hf; simp only [List.mem_cons] at hf ⊢; rcases hf with h | h | h | h | h <;> simp [h])
      refine cc is_pr1 (one_any' M1 (by omega)) ?_
      rintro e W' ⟨rfl, A', c', xs', M2⟩
      refine ⟨_, rfl, ?_⟩
      refine ⟨(A', n + 1, c', xs', [⟨bytesL AT, t.val⟩]), ⟨M2.fsub _ (by intro f hf; simp only [List.mem_cons] at hf ⊢; rcases hf with h | h | h | h <;> simp [h]), rfl, Nat.le_refl _, h4, by rw [hTT], by rw [hTT]⟩, (by repeat (first | exact trivial | refine ⟨rfl, ?_⟩))⟩
    · refine p_fld fN2 rfl ?_
      refine v_load agg_bo rfl (by first | exact (M.B 0 rfl).at_ rfl | exact (M.B 1 rfl).at_ rfl | exact (M.B 2 rfl).at_ rfl | exact (M.B 3 rfl).at_ rfl | exact (M.B 4 rfl).at_ rfl | exact M.lc 0 rfl _ _ rfl | exact M.lc 1 rfl _ _ rfl | exact M.lc 2 rfl _ _ rfl | exact M.lc 3 rfl _ _ rfl | exact M.lc 4 rfl _ _ rfl | exact M.lc 5 rfl _ _ rfl | exact M.lc 6 rfl _ _ rfl | exact M.lc 7 rfl _ _ rfl) ?_
      cases hh : t.has with
      | true =>
        rw [if_pos (.inr hh)] at hTT
        refine p_fld fN3 rfl ?_
        refine v_load agg_b rfl (by first | exact (M.B 0 rfl).at_ rfl | exact (M.B 1 rfl).at_ rfl | exact (M.B 2 rfl).at_ rfl | exact (M.B 3 rfl).at_ rfl | exact (M.B 4 rfl).at_ rfl | exact M.lc 0 rfl _ _ rfl | exact M.lc 1 rfl _ _ rfl | exact M.lc 2 rfl _ _ rfl | exact M.lc 3 rfl _ _ rfl | exact M.lc 4 rfl _ _ rfl | exact M.lc 5 rfl _ _ rfl | exact M.lc 6 rfl _ _ rfl | exact M.lc 7 rfl _ _ rfl) ?_
        have M1 := M.fsub (.dat true (dPrs ps) xs :: .dat true [dB AT] [.slice A3 n3 c3] :: .dat false [dB t.val] [.slice Av t.val.length cv] :: .dat false [dKs t.kids] [.slice Ak t.kids.length ck] :: fs) (by intro f hf; simp only [List.mem_cons] at hf ⊢; rcases hf with h | h | h | h | h <;> simp [h])
        refine cc is_pr1 (one_any' M1 (by omega)) ?_
        rintro e W' ⟨rfl, A', c', xs', M2⟩
        refine ⟨_, rfl, ?_⟩
        refine ⟨(A', n + 1, c', xs', [⟨bytesL AT, t.val⟩]), ⟨M2.fsub _ (by intro f hf; simp only [List.mem_cons] at hf ⊢; rcases hf with h | h | h | h <;> simp [h]), rfl, Nat.le_refl _, h4, by rw [hTT], by rw [hTT]⟩, (by repeat (first | exact trivial | refine ⟨rfl, ?_⟩))⟩
      | false =>
        rw [if_neg (by rw [hh]; simp [h1])] at hTT
        refine ⟨(A, n, c, xs, []), ⟨M.fsub _ (by rw [List.append_nil]; intro f hf; simp only [List.mem_cons] at hf ⊢; rcases hf with h | h | h | h <;> simp [h]), rfl, Nat.zero_le _, h4, by rw [hTT], by rw [hTT]⟩, (by repeat (first | exact trivial | refine ⟨rfl, ?_⟩))⟩
  · clear M hTT
    rintro ⟨A6, n6, c6, xs6, don⟩ B6 W6 ⟨M, hn6, hd1, h4, hT1, hT2⟩
    dsimp only at M hn6 hT1 hd1
    have hTm : ∀ m, TT.2 = some m → TT.1.length ≤ 1000000 := fun _ _ => by omega
    refine p_fld fN4 rfl ?_
    refine v_load agg_ns rfl (by first | exact (M.B 0 rfl).at_ rfl | exact (M.B 1 rfl).at_ rfl | exact (M.B 2 rfl).at_ rfl | exact (M.B 3 rfl).at_ rfl | exact (M.B 4 rfl).at_ rfl | exact M.lc 0 rfl _ _ rfl | exact M.lc 1 rfl _ _ rfl | exact M.lc 2 rfl _ _ rfl | exact M.lc 3 rfl _ _ rfl | exact M.lc 4 rfl _ _ rfl | exact M.lc 5 rfl _ _ rfl | exact M.lc 6 rfl _ _ rfl | exact M.lc 7 rfl _ _ rfl) ?_
    refine p_len sln rfl ?_
    refine lp (Nat × Option Addr × Nat × Nat × List Value × List Pr) (fun s W => s.1 ≤ t.kids.length ∧ St w gs W ((g5, 28, [.slice s.2.1 s.2.2.1 s.2.2.2.1]) :: (g3, 25, ncs t Ap cp Av cv Ak ck Ah ch) :: L) (⟨43, 2, s.2.1, s.2.2.1, s.2.2.2.1, s.2.2.2.2.1⟩ :: R) (.dat true (dPrs (ps ++ s.2.2.2.2.2)) s.2.2.2.2.1 :: .dat true [dB AT] [.slice A3 n3 c3] :: .dat false [dKs t.kids] [.slice Ak t.kids.length ck] :: fs) ∧ s.2.2.1 = n + s.2.2.2.2.2.length ∧ s.2.2.2.2.2.length + szs (t.kids.drop s.1) + 5 ≤ sz t ∧ TT.2 = (pairsK (t.kids.drop s.1) (decide (t.kind = 3)) s.1 AT).2 ∧ (TT.2 = none → TT.1 = s.2.2.2.2.2 ++ (pairsK (t.kids.drop s.1) (decide (t.kind = 3)) s.1 AT).1))
      (fun s => [(1, .slice A3 n3 c3), (3, .pointer (some ⟨g3, 0, none⟩)), (5, .pointer (some ⟨g5, 0, none⟩)), (40, .slice Ak t.kids.length ck), (41, .int .i64 t.kids.length), (42, .int .i64 s.1)]) (fun s => t.kids.length - s.1) (0, A6, n6, c6, xs6, don)
      ⟨Nat.zero_le _, M, hn6, by simp only [List.drop_zero]; omega, by simp only [List.drop_zero]; exact hT2, fun _ => by simp only [List.drop_zero]; exact hT1⟩ (by repeat (first | exact trivial | refine ⟨rfl, ?_⟩)) ?_
    clear M hn6 hT1 hT2 hd1
    rintro ⟨i, A7, n7, c7, xs7, don7⟩ E7 W7 ⟨hi, M, hn7, hbd, hT2, hT1⟩
    dsimp only at hi M hn7 hT2 hT1 hbd
    refine p_lt rfl rfl (fun hlt => ?_) (fun hge => ?_)
    · dsimp only at hlt
      obtain ⟨k, hki⟩ : ∃ k, t.kids[i]? = some k := ⟨_, List.getElem?_eq_getElem (by omega)⟩
      have hdr : t.kids.drop i = k :: t.kids.drop (i + 1) := by
        have h1 := (List.getElem?_eq_some_iff.1 hki)
        rw [List.drop_eq_getElem_cons h1.1, h1.2]
      rw [hdr] at hT1 hT2 hbd
      unfold pairsK at hT1 hT2
      unfold szs at hbd
      have hkz := szs_mem (List.mem_of_getElem? hki)
      obtain ⟨b, off, es, rfl, hel, M'⟩ := M.kid (by first | with_reducible exact M.d1_0 | with_reducible exact M.d1_1 | with_reducible exact M.d1_2 | with_reducible exact M.d1_3 | with_reducible exact M.d1_4 | with_reducible exact M.d1_5 | with_reducible exact M.d1_6 | with_reducible exact M.d1_7 | with_reducible exact M.d1_8 | with_reducible exact M.d1_9 | with_reducible exact M.d1_10 | with_reducible exact M.d1_11) hki
      replace M := M'; clear M'
      have hes := M.da 1 rfl
      refine p_at sln rfl rfl rfl (by omega) ?_
      refine v_loadN es agg_nd rfl hel (M.lc 0 rfl) ?_
      refine s_alloc (zN) M al_nd ?_
      clear M
      rintro g10 W M
      refine s_storeA 0 es M rfl sz_nd rfl rfl hel (hes.ones (dN_one _)) rfl ?_
      clear M hes; rintro W M
      dsimp only [setL] at M
      obtain ⟨Ap5, cp5, Av5, cv5, Ak5, ck5, Ah5, ch5, rfl, -⟩ := (M.da 1 rfl).node
      refine p_fld fN0 rfl ?_
      refine v_load agg_int rfl (by first | exact (M.B 0 rfl).at_ rfl | exact (M.B 1 rfl).at_ rfl | exact (M.B 2 rfl).at_ rfl | exact (M.B 3 rfl).at_ rfl | exact (M.B 4 rfl).at_ rfl | exact M.lc 0 rfl _ _ rfl | exact M.lc 1 rfl _ _ rfl | exact M.lc 2 rfl _ _ rfl | exact M.lc 3 rfl _ _ rfl | exact M.lc 4 rfl _ _ rfl | exact M.lc 5 rfl _ _ rfl | exact M.lc 6 rfl _ _ rfl | exact M.lc 7 rfl _ _ rfl) ?_
      refine p_eq rfl rfl (fun h3 => ?_) (fun h3 => ?_)
      · rw [decide_eq_true h3] at hT1 hT2
        rw [decide_eq_true h3]
        simp only [if_true] at hT1 hT2
        refine cc is_sclone (sclone_any _ A3 n3 c3 AT _ (by first | with_reducible exact M.d1_0 | with_reducible exact M.d1_1 | with_reducible exact M.d1_2 | with_reducible exact M.d1_3 | with_reducible exact M.d1_4 | with_reducible exact M.d1_5 | with_reducible exact M.d1_6 | with_reducible exact M.d1_7 | with_reducible exact M.d1_8 | with_reducible exact M.d1_9 | with_reducible exact M.d1_10 | with_reducible exact M.d1_11) (by omega)) ?_
        rintro e W ⟨A4, c4, rfl, o4, hA4, hb⟩
        replace M := M.callR (r := ⟨5, 1, A4, n3, c4, bvs AT⟩) hb o4
        refine ⟨_, rfl, ?_⟩
        refine v_cvt u_int u_u8 rfl (r := ((i % 256 : Nat) : Int)) (by rw [IntKind.wrap_u8']; omega) ?_
        refine s_litB [.int .u8 ((i % 256 : Nat) : Int)] [UInt8.ofNat i] M (by decide) rfl (bvs1 i) rfl ?_
        clear M; rintro g9 W M
        replace M := M.frzO
        refine s_appB M rfl rfl (M.rdb 0 rfl).2.2 (by omega) ?_
        clear M; rintro A9 c9 W M -
        replace M := M.frzO
        obtain ⟨TO, hTO⟩ : ∃ TO, TO = AT ++ [UInt8.ofNat i] := ⟨_, rfl⟩
        rw [← hTO] at M hT1 hT2
        refine v_loadN (ncs k Ap5 cp5 Av5 cv5 Ak5 ck5 Ah5 ch5) agg_nd rfl rfl (by first | exact M.run 0 rfl | exact M.run 1 rfl | exact M.run 2 rfl | exact M.run 3 rfl | exact M.run 4 rfl | exact M.lc 0 rfl | exact M.lc 1 rfl | exact M.lc 2 rfl | exact M.lc 3 rfl | exact M.lc 4 rfl | exact M.lc 5 rfl | exact M.lc 6 rfl | exact M.lc 7 rfl) ?_
        refine v_load agg_prs rfl (by first | exact (M.B 0 rfl).at_ rfl | exact (M.B 1 rfl).at_ rfl | exact (M.B 2 rfl).at_ rfl | exact (M.B 3 rfl).at_ rfl | exact (M.B 4 rfl).at_ rfl | exact M.lc 0 rfl _ _ rfl | exact M.lc 1 rfl _ _ rfl | exact M.lc 2 rfl _ _ rfl | exact M.lc 3 rfl _ _ rfl | exact M.lc 4 rfl _ _ rfl | exact M.lc 5 rfl _ _ rfl | exact M.lc 6 rfl _ _ rfl | exact M.lc 7 rfl _ _ rfl) ?_
        have hTD : RdD _ _ (dB TO) (.slice A9 (n3+1) c9) := (by first | with_reducible exact M.d1_0 | with_reducible exact M.d1_1 | with_reducible exact M.d1_2 | with_reducible exact M.d1_3 | with_reducible exact M.d1_4 | with_reducible exact M.d1_5 | with_reducible exact M.d1_6 | with_reducible exact M.d1_7 | with_reducible exact M.d1_8 | with_reducible exact M.d1_9 | with_reducible exact M.d1_10 | with_reducible exact M.d1_11)
        replace M := M.addD hTD
        clear hTD
        have hkl := pairsP_len k TO
        refine cc is_prs (ih k (by omega) w _ gs _ R (.dat true [dB AT] [.slice A3 n3 c3] :: .dat false [dKs t.kids] [.slice (some ⟨b, off, none⟩) t.kids.length ck] :: fs) A7 n7 c7 xs7 (ps ++ don7) TO _ _ _ (ncs k Ap5 cp5 Av5 cv5 Ak5 ck5 Ah5 ch5) (M.fsub _ (by intro f hf; simp only [List.mem_cons] at hf ⊢; rcases hf with h | h | h | h | h | h <;> simp [h])) (by omega) (by omega)) ?_
        clear M
        cases hk2 : (pairsP k TO).2 with
        | some m =>
          rw [hk2] at hT1 hT2
          rintro e W ⟨Am, nm, cm, r', rfl, hAm, M⟩
          refine ⟨_, rfl, ?_⟩
          refine p_slnn isSlb rfl rfl (fun hA0 => absurd hA0 hAm) (fun _ => ?_)
          rw [hT2]
          refine ⟨Am, nm, cm, r', rfl, hAm, M.dropL.dropL.dropL.fsub _ ?_⟩
          intro f hf; simp only [List.mem_cons] at hf ⊢; rcases hf with h | h <;> simp [h]
        | none =>
          rw [hk2] at hT1 hT2
          rintro e W ⟨A8, c8, xs8, rfl, M⟩
          refine ⟨_, rfl, ?_⟩
          refine p_slnn isSlb rfl rfl (fun _ => ?_) (fun h => absurd rfl h)
          first | refine s_set 0 (.slice A8 (n7 + (pairsP k TO).1.length) c8) ([.slice A8 (n7 + (pairsP k TO).1.length) c8]) M rfl (by kernel_rfl) rfl rfl rfl (Nat.le_of_ble_eq_true rfl) rfl ?_ | refine s_set 1 (.slice A8 (n7 + (pairsP k TO).1.length) c8) ([.slice A8 (n7 + (pairsP k TO).1.length) c8]) M rfl (by kernel_rfl) rfl rfl rfl (Nat.le_of_ble_eq_true rfl) rfl ?_ | refine s_set 2 (.slice A8 (n7 + (pairsP k TO).1.length) c8) ([.slice A8 (n7 + (pairsP k TO).1.length) c8]) M rfl (by kernel_rfl) rfl rfl rfl (Nat.le_of_ble_eq_true rfl) rfl ?_ | refine s_set 3 (.slice A8 (n7 + (pairsP k TO).1.length) c8) ([.slice A8 (n7 + (pairsP k TO).1.length) c8]) M rfl (by kernel_rfl) rfl rfl rfl (Nat.le_of_ble_eq_true rfl) rfl ?_
          clear M
          rintro W M
          dsimp only [setL] at M
          refine p_add rfl rfl (r := ((i + 1 : Nat) : Int)) ((w64 (by omega)).trans (by omega)) ?_
          refine ⟨(i + 1, A8, n7 + (pairsP k TO).1.length, c8, xs8, don7 ++ (pairsP k TO).1), ⟨by omega, ?_, by dsimp only; rw [List.length_append]; omega, by dsimp only; rw [List.length_append]; omega, hT2, fun h => ?_⟩, (by repeat (first | exact trivial | refine ⟨rfl, ?_⟩)), by dsimp only; omega⟩
          · rw [← List.append_assoc]; exact M.dropL
          · rw [hT1 h, List.append_assoc]
      · rw [decide_eq_false h3] at hT1 hT2
        rw [decide_eq_false h3]
        simp only [Bool.false_eq_true, if_false] at hT1 hT2
        refine v_loadN (ncs k Ap5 cp5 Av5 cv5 Ak5 ck5 Ah5 ch5) agg_nd rfl rfl (by first | exact M.run 0 rfl | exact M.run 1 rfl | exact M.run 2 rfl | exact M.run 3 rfl | exact M.run 4 rfl | exact M.lc 0 rfl | exact M.lc 1 rfl | exact M.lc 2 rfl | exact M.lc 3 rfl | exact M.lc 4 rfl | exact M.lc 5 rfl | exact M.lc 6 rfl | exact M.lc 7 rfl) ?_
        refine v_load agg_prs rfl (by first | exact (M.B 0 rfl).at_ rfl | exact (M.B 1 rfl).at_ rfl | exact (M.B 2 rfl).at_ rfl | exact (M.B 3 rfl).at_ rfl | exact (M.B 4 rfl).at_ rfl | exact M.lc 0 rfl _ _ rfl | exact M.lc 1 rfl _ _ rfl | exact M.lc 2 rfl _ _ rfl | exact M.lc 3 rfl _ _ rfl | exact M.lc 4 rfl _ _ rfl | exact M.lc 5 rfl _ _ rfl | exact M.lc 6 rfl _ _ rfl | exact M.lc 7 rfl _ _ rfl) ?_
        have hTD : RdD _ _ (dB AT) (.slice A3 n3 c3) := (by first | with_reducible exact M.d1_0 | with_reducible exact M.d1_1 | with_reducible exact M.d1_2 | with_reducible exact M.d1_3 | with_reducible exact M.d1_4 | with_reducible exact M.d1_5 | with_reducible exact M.d1_6 | with_reducible exact M.d1_7 | with_reducible exact M.d1_8 | with_reducible exact M.d1_9 | with_reducible exact M.d1_10 | with_reducible exact M.d1_11)
        replace M := M.addD hTD
        clear hTD
        have hkl := pairsP_len k AT
        refine cc is_prs (ih k (by omega) w _ gs _ R (.dat true [dB AT] [.slice A3 n3 c3] :: .dat false [dKs t.kids] [.slice (some ⟨b, off, none⟩) t.kids.length ck] :: fs) A7 n7 c7 xs7 (ps ++ don7) AT _ _ _ (ncs k Ap5 cp5 Av5 cv5 Ak5 ck5 Ah5 ch5) (M.fsub _ (by intro f hf; simp only [List.mem_cons] at hf ⊢; rcases hf with h | h | h | h | h | h <;> simp [h])) (by omega) (by omega)) ?_
        clear M
        cases hk2 : (pairsP k AT).2 with
        | some m =>
          rw [hk2] at hT1 hT2
          rintro e W ⟨Am, nm, cm, r', rfl, hAm, M⟩
          refine ⟨_, rfl, ?_⟩
          refine p_slnn isSlb rfl rfl (fun hA0 => absurd hA0 hAm) (fun _ => ?_)
          rw [hT2]
          refine ⟨Am, nm, cm, r', rfl, hAm, M.dropL.dropL.dropL.fsub _ ?_⟩
          intro f hf; simp only [List.mem_cons] at hf ⊢; rcases hf with h | h <;> simp [h]
        | none =>
          rw [hk2] at hT1 hT2
          rintro e W ⟨A8, c8, xs8, rfl, M⟩
          refine ⟨_, rfl, ?_⟩
          refine p_slnn isSlb rfl rfl (fun _ => ?_) (fun h => absurd rfl h)
          first | refine s_set 0 (.slice A8 (n7 + (pairsP k AT).1.length) c8) ([.slice A8 (n7 + (pairsP k AT).1.length) c8]) M rfl (by kernel_rfl) rfl rfl rfl (Nat.le_of_ble_eq_true rfl) rfl ?_ | refine s_set 1 (.slice A8 (n7 + (pairsP k AT).1.length) c8) ([.slice A8 (n7 + (pairsP k AT).1.length) c8]) M rfl (by kernel_rfl) rfl rfl rfl (Nat.le_of_ble_eq_true rfl) rfl ?_ | refine s_set 2 (.slice A8 (n7 + (pairsP k AT).1.length) c8) ([.slice A8 (n7 + (pairsP k AT).1.length) c8]) M rfl (by kernel_rfl) rfl rfl rfl (Nat.le_of_ble_eq_true rfl) rfl ?_ | refine s_set 3 (.slice A8 (n7 + (pairsP k AT).1.length) c8) ([.slice A8 (n7 + (pairsP k AT).1.length) c8]) M rfl (by kernel_rfl) rfl rfl rfl (Nat.le_of_ble_eq_true rfl) rfl ?_
          clear M
          rintro W M
          dsimp only [setL] at M
          refine p_add rfl rfl (r := ((i + 1 : Nat) : Int)) ((w64 (by omega)).trans (by omega)) ?_
          refine ⟨(i + 1, A8, n7 + (pairsP k AT).1.length, c8, xs8, don7 ++ (pairsP k AT).1), ⟨by omega, ?_, by dsimp only; rw [List.length_append]; omega, by dsimp only; rw [List.length_append]; omega, hT2, fun h => ?_⟩, (by repeat (first | exact trivial | refine ⟨rfl, ?_⟩)), by dsimp only; omega⟩
          · rw [← List.append_assoc]; exact M.dropL
          · rw [hT1 h, List.append_assoc]
    · have hin : i = t.kids.length := by dsimp only at hge; omega
      rw [List.drop_of_length_le (by omega)] at hT1 hT2
      unfold pairsK at hT1 hT2
      refine v_load agg_prs rfl (by first | exact (M.B 0 rfl).at_ rfl | exact (M.B 1 rfl).at_ rfl | exact (M.B 2 rfl).at_ rfl | exact (M.B 3 rfl).at_ rfl | exact (M.B 4 rfl).at_ rfl | exact M.lc 0 rfl _ _ rfl | exact M.lc 1 rfl _ _ rfl | exact M.lc 2 rfl _ _ rfl | exact M.lc 3 rfl _ _ rfl | exact M.lc 4 rfl _ _ rfl | exact M.lc 5 rfl _ _ rfl | exact M.lc 6 rfl _ _ rfl | exact M.lc 7 rfl _ _ rfl) ?_
      rw [hT2]
      have hT := hT1 hT2
      rw [List.append_nil] at hT
      rw [hT]
      refine ⟨A7, c7, xs7, by rw [hn7]; rfl, ?_⟩
      rw [← hn7]
      exact M.dropL.dropL.fsub _ (by intro f hf; simp only [List.mem_cons] at hf ⊢; rcases hf with h | h <;> simp [h])
theorem pairs_any : ∀ (N : Nat), ∀ t : Nd, sz t < N → PairsOk t
  | 0, t, h => by omega
  | N + 1, t, h => pairs_step N (fun k hk => pairs_any N k hk) t (by omega)
theorem is_tPairs : isFn Try.prog 42 = true := by kernel_rfl
structure PairsR where
  l : List Pr
  miss : Option (List UInt8)
  e : Int
def tPairs (t : Nd) : PairsR :=
  if checkE t = 0 then (match (pairsP t []).2 with
    | some m => ⟨[], some m, 80⟩
    | none => ⟨(pairsP t []).1, none, 0⟩)
  else ⟨[], none, 2⟩
set_option maxRecDepth 100000 in
set_option maxHeartbeats 1000000 in
theorem tPairs_any (t : Nd) (ht : sz t ≤ 1000000) (gs : List (Option Nat)) (w : World) (cs : List Value) (hr : RdL w (Fd w gs) (dN t) cs) (hgs : ∀ b, some b ∈ gs → b < w.heap.size) :
    Calls Try.prog 42 #[.agg cs.toArray] w fun e w' => ∃ A n c Am nm cm, e = .returned (.tuple #[.slice A n c, .slice Am nm cm, .int .i64 (tPairs t).e]) ∧ RdD w' (Fr w w') (dPl (tPairs t).l) (.slice A n c) ∧ missOk w' (Fr w w') [] (tPairs t).miss Am nm cm ∧ Below w.heap.size w w' := by
  refine calls_ev (args := [.agg cs.toArray]) mixed Try.func42 rfl (by kernel_rfl) ?_
  have hl := hr.len
  rw [dN_len] at hl
  have M := (St.start hgs).addL hr
  refine s_box (cs) M rfl ?_
  clear M
  rintro g1 W M
  refine v_loadN cs agg_nd rfl hl (M.run 0 rfl) ?_
  refine cc is_ncheck (ncheck_any t (by omega) _ _ cs (by first | with_reducible exact M.da_0 | with_reducible exact M.da_1 | with_reducible exact M.da_2 | with_reducible exact M.da_3 | with_reducible exact M.da_4 | with_reducible exact M.da_5 | with_reducible exact M.da_6 | with_reducible exact M.da_7 | with_reducible exact M.da_8 | with_reducible exact M.da_9 | with_reducible exact M.da_10 | with_reducible exact M.da_11) M.olt) ?_
  rintro e W ⟨rfl, hb⟩
  refine ⟨_, rfl, ?_⟩
  replace M := M.call hb
  unfold tPairs
  refine p_ne rfl rfl (fun he => ?_) (fun he => ?_)
  · rw [if_pos he]
    refine v_loadN cs agg_nd rfl hl (M.run 0 rfl) ?_
    replace M := (M.nilR 43 2).fsub [.dat false (dN t) cs] (by simp)
    replace M := M.addD (u := .slice none 0 0) (d := dB []) (RdD.nil_ _ _)
    replace M := M.addT (fr := true) (ds := dPrs []) (cs := []) RdL.nil_
    refine cc is_prs (pairs_any (sz t + 1) t (by omega) _ _ _ _ _ [] none 0 0 [] [] [] none 0 0 cs (M.fsub _ (by simp)) (by omega) (by omega)) ?_
    cases hm : (pairsP t []).2 with
    | none =>
      rintro e W ⟨A', c', xs', rfl, M⟩
      refine ⟨_, rfl, ?_⟩
      refine p_slnn isSlb rfl rfl (fun _ => ?_) (fun h => absurd rfl h)
      rw [Nat.zero_add, List.nil_append] at M
      rw [Nat.zero_add]
      replace M := M.frzR (fr := true) (M.dt 0 rfl)
      exact ⟨A', _, c', none, 0, 0, rfl, M.finF1 0 rfl, ⟨rfl, rfl, rfl⟩, M.below⟩
    | some m =>
      rintro e W ⟨Am, nm, cm, r', rfl, hAm, M⟩
      refine ⟨_, rfl, ?_⟩
      refine p_slnn isSlb rfl rfl (fun h => absurd h hAm) (fun _ => ?_)
      exact ⟨none, 0, 0, Am, nm, cm, rfl, RdD.nil_ _ _, ⟨hAm, M.finF1 0 rfl⟩, M.below⟩
  · rw [if_neg he]
    exact ⟨none, 0, 0, none, 0, 0, rfl, RdD.nil_ _ _, ⟨rfl, rfl, rfl⟩, M.below⟩
end Go.Proofs.Ytkfbkhahkkmcoaa
