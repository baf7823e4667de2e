/- Reference 21: Decode. Blocks: Links of the package and of reference 21. How great a block is, plainly. No walk here. -/
import Derived.Test.YtejbljopighenaaDoorG19
import Derived.Test.YtejbljopighenaaDoorG14
namespace Go.Proofs.YtejbljopighenaaDoor
open Go.RowKit
theorem is_r21EncZ : isFn Tryd.prog 10 = true := by kernel_rfl
theorem is_r1splitZ : isFn Tryd.prog 35 = true := by kernel_rfl
theorem sz_tss : (Tryd.prog.info? 23).map (·.size) = some 1 := by kernel_rfl
theorem sz_os : (Tryd.prog.info? 24).map (·.size) = some 1 := by kernel_rfl
theorem mk_none1 {n : Int} {a1 a2 a3 a6 : List UInt8} {o : Option (List Out)} : mkBk n a1 a2 a3 a6 none o = none := by cases o <;> rfl
theorem mk_none2 {n : Int} {a1 a2 a3 a6 : List UInt8} {t : Option (List (List (List UInt8)))} : mkBk n a1 a2 a3 a6 t none = none := by cases t <;> rfl
theorem part_t {s a0 a1 a2 a3 a4 a5 a6 : List UInt8} (h : txsP a4 = none) : partBk s a0 a1 a2 a3 a4 a5 a6 = none := by unfold partBk; rw [h, mk_none1]; split <;> rfl
theorem part_o {s a0 a1 a2 a3 a4 a5 a6 : List UInt8} (h : outsP a5 = none) : partBk s a0 a1 a2 a3 a4 a5 a6 = none := by unfold partBk; rw [h, mk_none2]; split <;> rfl
theorem part_h {s a0 a1 a2 a3 a4 a5 a6 : List UInt8} (h : ¬ (spE s = 0 ∧ gE a0 0 = 0 ∧ gN a0 0 ≤ 9223372036854775807)) : partBk s a0 a1 a2 a3 a4 a5 a6 = none := by unfold partBk; rw [if_neg h]
theorem part_s {s a0 a1 a2 a3 a4 a5 a6 : List UInt8} {T : List (List (List UInt8))} {O : List Out} (h : spE s = 0 ∧ gE a0 0 = 0 ∧ gN a0 0 ≤ 9223372036854775807) (ht : txsP a4 = some T) (ho : outsP a5 = some O) : partBk s a0 a1 a2 a3 a4 a5 a6 = some ⟨gN a0 0, a1, a2, a3, T, O, a6⟩ := by unfold partBk; rw [if_pos h, ht, ho]; rfl
theorem RdL.ht {W : World} {F : Nat → Prop} {d : D} {ds : List D} {u : Value} {us : List Value} (h : RdL W F (d :: ds) (u :: us)) : RdD W F d u ∧ RdL W F ds us := by
  obtain ⟨v, vs, e, h1, h2⟩ := h.uncons
  injection e with e1 e2
  subst e1; subst e2
  exact ⟨h1, h2⟩
/-- A block's cells while its rows grow. -/
def bkc (n : Int) (a1 a2 a3 a6 : List UInt8) (p : Bp) (A4 : Option Addr) (i c4 : Nat) (A5 : Option Addr) (j c5 : Nat) : List Value := [.int .i64 n, .slice p.A1 a1.length p.c1, .slice p.A2 a2.length p.c2, .slice p.A3 a3.length p.c3, .slice A4 i c4, .slice A5 j c5, .slice p.A6 a6.length p.c6]
set_option maxRecDepth 100000 in
set_option maxHeartbeats 8000000 in
theorem r21Dec_any (s : List UInt8) (gs : List (Option Nat)) (w : World) (A : Option Addr) (n c : Nat) (hr : RdD w (Fd w gs) (dB s) (.slice A n c)) (hgs : ∀ b, some b ∈ gs → b < w.heap.size) (hs : s.length ≤ 1000000) :
    Calls Tryd.prog 12 #[.slice A n c] w fun e w' => ∃ p, e = .returned (.tuple #[.agg (bkcs (decBk s).1 p).toArray, .int .i64 (decBk s).2]) ∧ RdL w' (Fd w' gs) (dBk (decBk s).1) (bkcs (decBk s).1 p) ∧ Below w.heap.size w w' := by
  refine calls_ev (args := [.slice A n c]) mixed Tryd.func12 rfl (by kernel_rfl) ?_
  obtain ⟨en, enc, hrd⟩ := hr.rd Fd.lt
  subst en
  have M := (St.start hgs).addD hr
  clear hr hrd
  refine s_alloc (zBk) M al_bk ?_
  clear M
  rintro g2 W M
  refine p_len slb rfl ?_
  refine p_gt rfl rfl (fun h => absurd (show (1048576 : Int) < (s.length : Int) from h) (by omega)) (fun _ => ?_)
  have hd0 : decBk s = finBk s (parseBk s) := by unfold decBk; rw [if_neg (by omega)]
  refine cc is_r1splitZ (refSplit_any _ _ _ s _ (M.rdb 0 rfl).2.2 (by omega) enc) ?_
  rintro e W ⟨A4, n4, c4, rfl, o4, hb⟩
  have h4 : RdD W (Fr _ W) (dLs (spL s)) (.slice A4 n4 c4) := o4.rdLs fun b q1 q2 q3 => ⟨q1, q2, q3⟩
  have en4 : n4 = (spL s).length := h4.slen
  subst en4
  replace M := M.callF1 hb h4
  clear hb h4 o4
  refine ⟨_, rfl, ?_⟩
  refine p_ne rfl rfl (fun q => ?_) (fun q => ?_)
  rotate_left
  · have q : ¬ spE s = 0 := q
    have hsp : spL s = [] := by unfold spL; rw [if_neg q]
    have hp : parseBk s = none := parse_n (by rw [hsp]; decide)
    have hd : decBk s = (bkZ, 11) := by rw [hd0, hp]; rfl
    refine p_build (vs := zBk) pl_bk z_bk rfl ?_
    refine s_storeA 0 zBk M rfl sz_bk rfl rfl rfl (all1 rfl) rfl ?_
    clear M; rintro W M
    dsimp only [setL] at M
    refine c_loadN zBk agg_bk rfl rfl (M.run 0 rfl) ?_
    rw [hd]
    exact ⟨⟨none, 0, none, 0, none, 0, none, 0, none, 0, none, 0⟩, rfl, RdL.ofbk (RdD.nil_ (s := 1) none 0) (RdD.nil_ (s := 1) none 0) (RdD.nil_ (s := 1) none 0) (RdD.nil_ none 0) (RdD.nil_ none 0) (RdD.nil_ (s := 1) none 0), M.below⟩
  have q : spE s = 0 := q
  refine p_len sls rfl ?_
  refine p_ne rfl rfl (fun q7 => ?_) (fun q7 => ?_)
  rotate_left
  · have q7 : ¬ ((spL s).length : Int) = 7 := q7
    have hp : parseBk s = none := parse_n (fun h => q7 (by rw [h]; rfl))
    have hd : decBk s = (bkZ, 11) := by rw [hd0, hp]; rfl
    refine p_build (vs := zBk) pl_bk z_bk rfl ?_
    refine s_storeA 0 zBk M rfl sz_bk rfl rfl rfl (all1 rfl) rfl ?_
    clear M; rintro W M
    dsimp only [setL] at M
    refine c_loadN zBk agg_bk rfl rfl (M.run 0 rfl) ?_
    rw [hd]
    exact ⟨⟨none, 0, none, 0, none, 0, none, 0, none, 0, none, 0⟩, rfl, RdL.ofbk (RdD.nil_ (s := 1) none 0) (RdD.nil_ (s := 1) none 0) (RdD.nil_ (s := 1) none 0) (RdD.nil_ none 0) (RdD.nil_ none 0) (RdD.nil_ (s := 1) none 0), M.below⟩
  have q7 : (spL s).length = 7 := by have h : ((spL s).length : Int) = 7 := q7; omega
  have hmm : ∀ x ∈ spL s, x.length ≤ s.length := fun x hx => (sp_bound hx).1
  obtain ⟨a0, a1, a2, a3, a4, a5, a6, hsp⟩ := list7 q7
  have m0 := hmm a0 (by rw [hsp]; simp)
  have m4 := hmm a4 (by rw [hsp]; simp)
  have m5 := hmm a5 (by rw [hsp]; simp)
  rw [q7]
  rw [q7] at M
  have hp0 := parse_7 hsp
  obtain ⟨bl, ol, B0, d0, rfl, M'⟩ := M.lse (M.d1 0 rfl) (i := 0) (l := a0) (by rw [hsp]; rfl)
  replace M := M'; clear M'
  refine p_at (i := 0) sls rfl rfl rfl (by decide) ?_
  refine v_load agg_b rfl (M.lc 0 rfl 0 _ rfl) ?_
  obtain ⟨-, enc0, hrd0⟩ := M.rdb 1 rfl
  refine cc is_r1get (refGet_any _ _ _ _ 0 a0 _ hrd0 (by omega)) ?_
  rintro e W' ⟨rfl, rfl⟩
  refine ⟨_, rfl, ?_⟩
  clear hrd0 enc0
  obtain ⟨B4, d4, M'⟩ := M.lse' (M.d1 2 rfl) (i := 4) (l := a4) (by rw [hsp]; rfl)
  replace M := M'; clear M'
  refine p_at (i := 4) sls rfl rfl rfl (by decide) ?_
  refine v_load agg_b rfl (M.lc 0 rfl 0 _ rfl) ?_
  obtain ⟨-, enc4, hrd4⟩ := M.rdb 1 rfl
  refine cc is_r1splitZ (refSplit_any _ _ _ a4 _ hrd4 (by omega) enc4) ?_
  rintro e W ⟨A9, n9, c9, rfl, o9, hb⟩
  have h9 : RdD W (Fr _ W) (dLs (spL a4)) (.slice A9 n9 c9) := o9.rdLs fun b q1 q2 q3 => ⟨q1, q2, q3⟩
  have en9 : n9 = (spL a4).length := h9.slen
  subst en9
  replace M := M.callF1 hb h9
  clear hb h9 o9 hrd4 enc4
  refine ⟨_, rfl, ?_⟩
  obtain ⟨B5, d5, M'⟩ := M.lse' (M.d1 5 rfl) (i := 5) (l := a5) (by rw [hsp]; rfl)
  replace M := M'; clear M'
  refine p_at (i := 5) sls rfl rfl rfl (by decide) ?_
  refine v_load agg_b rfl (M.lc 0 rfl 0 _ rfl) ?_
  obtain ⟨-, enc5, hrd5⟩ := M.rdb 1 rfl
  refine cc is_r1splitZ (refSplit_any _ _ _ a5 _ hrd5 (by omega) enc5) ?_
  rintro e W ⟨A11, n11, c11, rfl, o11, hb⟩
  have h11 : RdD W (Fr _ W) (dLs (spL a5)) (.slice A11 n11 c11) := o11.rdLs fun b q1 q2 q3 => ⟨q1, q2, q3⟩
  have en11 : n11 = (spL a5).length := h11.slen
  subst en11
  replace M := M.callF1 hb h11
  clear hb h11 o11 hrd5 enc5
  refine ⟨_, rfl, ?_⟩
  replace M := M.fsub [.dat true [dLs (spL a5)] [.slice A11 (spL a5).length c11], .dat true [dLs (spL a4)] [.slice A9 (spL a4).length c9], .dat true [dLs (spL s)] [.slice (some ⟨bl, ol, none⟩) 7 c4], .dat false [dB s] [.slice A s.length c]] (by simp)
  refine p_ne rfl rfl (fun r1 => ?_) (fun r1 => ?_)
  rotate_left
  · have r1 : ¬ gE a0 0 = 0 := r1
    have hp : parseBk s = none := by rw [hp0, part_h (fun h => r1 h.2.1)]
    have hd : decBk s = (bkZ, 11) := by rw [hd0, hp]; rfl
    refine p_build (vs := zBk) pl_bk z_bk rfl ?_
    refine s_storeA 0 zBk M rfl sz_bk rfl rfl rfl (all1 rfl) rfl ?_
    clear M; rintro W M
    dsimp only [setL] at M
    refine c_loadN zBk agg_bk rfl rfl (M.run 0 rfl) ?_
    rw [hd]
    exact ⟨⟨none, 0, none, 0, none, 0, none, 0, none, 0, none, 0⟩, rfl, RdL.ofbk (RdD.nil_ (s := 1) none 0) (RdD.nil_ (s := 1) none 0) (RdD.nil_ (s := 1) none 0) (RdD.nil_ none 0) (RdD.nil_ none 0) (RdD.nil_ (s := 1) none 0), M.below⟩
  have r1 : gE a0 0 = 0 := r1
  refine p_ne rfl rfl (fun r3 => ?_) (fun r3 => ?_)
  rotate_left
  · have r3 : ¬ spE a4 = 0 := r3
    have hp : parseBk s = none := by rw [hp0, part_t (txsP_none (fun h => r3 h.1))]
    have hd : decBk s = (bkZ, 11) := by rw [hd0, hp]; rfl
    refine p_build (vs := zBk) pl_bk z_bk rfl ?_
    refine s_storeA 0 zBk M rfl sz_bk rfl rfl rfl (all1 rfl) rfl ?_
    clear M; rintro W M
    dsimp only [setL] at M
    refine c_loadN zBk agg_bk rfl rfl (M.run 0 rfl) ?_
    rw [hd]
    exact ⟨⟨none, 0, none, 0, none, 0, none, 0, none, 0, none, 0⟩, rfl, RdL.ofbk (RdD.nil_ (s := 1) none 0) (RdD.nil_ (s := 1) none 0) (RdD.nil_ (s := 1) none 0) (RdD.nil_ none 0) (RdD.nil_ none 0) (RdD.nil_ (s := 1) none 0), M.below⟩
  have r3 : spE a4 = 0 := r3
  refine p_ne rfl rfl (fun r4 => ?_) (fun r4 => ?_)
  rotate_left
  · have r4 : ¬ spE a5 = 0 := r4
    have hp : parseBk s = none := by rw [hp0, part_o (outsP_none (fun h => r4 h.1))]
    have hd : decBk s = (bkZ, 11) := by rw [hd0, hp]; rfl
    refine p_build (vs := zBk) pl_bk z_bk rfl ?_
    refine s_storeA 0 zBk M rfl sz_bk rfl rfl rfl (all1 rfl) rfl ?_
    clear M; rintro W M
    dsimp only [setL] at M
    refine c_loadN zBk agg_bk rfl rfl (M.run 0 rfl) ?_
    rw [hd]
    exact ⟨⟨none, 0, none, 0, none, 0, none, 0, none, 0, none, 0⟩, rfl, RdL.ofbk (RdD.nil_ (s := 1) none 0) (RdD.nil_ (s := 1) none 0) (RdD.nil_ (s := 1) none 0) (RdD.nil_ none 0) (RdD.nil_ none 0) (RdD.nil_ (s := 1) none 0), M.below⟩
  have r4 : spE a5 = 0 := r4
  refine p_gt rfl rfl (fun r2 => ?_) (fun r2 => ?_)
  · have r2 : (9223372036854775807 : Int) < gN a0 0 := r2
    have hp : parseBk s = none := by rw [hp0, part_h (fun h => by have := h.2.2; omega)]
    have hd : decBk s = (bkZ, 11) := by rw [hd0, hp]; rfl
    refine p_build (vs := zBk) pl_bk z_bk rfl ?_
    refine s_storeA 0 zBk M rfl sz_bk rfl rfl rfl (all1 rfl) rfl ?_
    clear M; rintro W M
    dsimp only [setL] at M
    refine c_loadN zBk agg_bk rfl rfl (M.run 0 rfl) ?_
    rw [hd]
    exact ⟨⟨none, 0, none, 0, none, 0, none, 0, none, 0, none, 0⟩, rfl, RdL.ofbk (RdD.nil_ (s := 1) none 0) (RdD.nil_ (s := 1) none 0) (RdD.nil_ (s := 1) none 0) (RdD.nil_ none 0) (RdD.nil_ none 0) (RdD.nil_ (s := 1) none 0), M.below⟩
  have r2 : ¬ (9223372036854775807 : Int) < gN a0 0 := r2
  have hc0 : spE s = 0 ∧ gE a0 0 = 0 ∧ gN a0 0 ≤ 9223372036854775807 := ⟨q, r1, by omega⟩
  obtain ⟨B1, d1, M'⟩ := M.lse' (M.d1 2 rfl) (i := 1) (l := a1) (by rw [hsp]; rfl)
  replace M := M'; clear M'
  obtain ⟨B2, d2, M'⟩ := M.lse' (M.d1 4 rfl) (i := 2) (l := a2) (by rw [hsp]; rfl)
  replace M := M'; clear M'
  obtain ⟨B3, d3, M'⟩ := M.lse' (M.d1 6 rfl) (i := 3) (l := a3) (by rw [hsp]; rfl)
  replace M := M'; clear M'
  obtain ⟨B6, d6, M'⟩ := M.lse' (M.d1 8 rfl) (i := 6) (l := a6) (by rw [hsp]; rfl)
  replace M := M'.drew; clear M'
  obtain ⟨p, hp⟩ : ∃ p : Bp, p = ⟨B1, d1, B2, d2, B3, d3, none, 0, none, 0, B6, d6⟩ := ⟨_, rfl⟩
  obtain ⟨N, hN⟩ : ∃ N, N = gN a0 0 := ⟨_, rfl⟩
  have hcs : bkc N a1 a2 a3 a6 p none 0 0 none 0 0 = [.int .i64 (gN a0 0), .slice B1 a1.length d1, .slice B2 a2.length d2, .slice B3 a3.length d3, .slice none 0 0, .slice none 0 0, .slice B6 a6.length d6] := by rw [hp, hN]; rfl
  have hcf : ([.slice B1 a1.length d1, .slice B2 a2.length d2, .slice B3 a3.length d3, .slice B6 a6.length d6] : List Value) = [.slice p.A1 a1.length p.c1, .slice p.A2 a2.length p.c2, .slice p.A3 a3.length p.c3, .slice p.A6 a6.length p.c6] := by rw [hp]
  refine cutV Nat (fun g W => St w gs W [(g, 26, bkc N a1 a2 a3 a6 p none 0 0 none 0 0), (g2, 26, zBk)] [] [.dat true [dLs (spL a5)] [.slice A11 (spL a5).length c11], .dat true [dLs (spL a4)] [.slice A9 (spL a4).length c9], .dat false [dB a1, dB a2, dB a3, dB a6] [.slice p.A1 a1.length p.c1, .slice p.A2 a2.length p.c2, .slice p.A3 a3.length p.c3, .slice p.A6 a6.length p.c6], .dat false [dB s] [.slice A s.length c]]) (fun g => [(0, .slice A s.length c), (2, .pointer (some ⟨g2, 0, none⟩)), (9, .slice A9 (spL a4).length c9), (11, .slice A11 (spL a5).length c11), (13, .pointer (some ⟨g, 0, none⟩))]) ?_ ?_
  · refine drT (Kp w gs [] [.loc ((⟨bl, ol, none⟩ : Addr).add (1 * 1)) [.slice B1 a1.length d1], .loc ((⟨bl, ol, none⟩ : Addr).add (2 * 1)) [.slice B2 a2.length d2], .loc ((⟨bl, ol, none⟩ : Addr).add (3 * 1)) [.slice B3 a3.length d3], .loc ((⟨bl, ol, none⟩ : Addr).add (6 * 1)) [.slice B6 a6.length d6]]) (.take 0 (.take 1 (.take 2 (.take 3 (.take 4 (.take 5 (.take 6 (.take 7 (.take 8 (.take 9 (.take 10 (.take 11 (.take 12 (.take 13 (.take 14 (.one 15 (.one 16 (.nil)))))))))))))))))) (by kernel_rfl) (M.kp (by simp) (by simp)) ?_
    refine t_cvt u_u64s u_i64u rfl (cvi64 (gN_ge _ _) (by omega)) ?_
    refine p_at (i := 1) sls rfl rfl rfl (by decide) ?_
    refine t_load agg_b rfl (fun W K => K.lc 0 rfl 0 _ rfl) ?_
    refine p_at (i := 2) sls rfl rfl rfl (by decide) ?_
    refine t_load agg_b rfl (fun W K => K.lc 1 rfl 0 _ rfl) ?_
    refine p_at (i := 3) sls rfl rfl rfl (by decide) ?_
    refine t_load agg_b rfl (fun W K => K.lc 2 rfl 0 _ rfl) ?_
    refine p_at (i := 6) sls rfl rfl rfl (by decide) ?_
    refine t_load agg_b rfl (fun W K => K.lc 3 rfl 0 _ rfl) ?_
    refine p_build (vs := [.int .i64 (gN a0 0), .slice B1 a1.length d1, .slice B2 a2.length d2, .slice B3 a3.length d3, .slice none 0 0, .slice none 0 0, .slice B6 a6.length d6]) pl_bk z_bk rfl ?_
    rw [← hcs]
    refine s_alloc (zBk) M al_bk ?_
    clear M
    rintro g12 W M
    refine ⟨(M.kp (by simp) (by simp)), ?_⟩
    refine s_storeA 0 (bkc N a1 a2 a3 a6 p none 0 0 none 0 0) M rfl sz_bk rfl rfl rfl (all1 rfl) rfl ?_
    clear M; rintro W M
    dsimp only [setL] at M
    refine ⟨(M.kp (by simp) (by simp)), ?_⟩
    have hbd : RdL W (Fd W (own [(g12, 26, bkc N a1 a2 a3 a6 p none 0 0 none 0 0), (g2, 26, zBk)] [] gs)) [dB a1, dB a2, dB a3, dB a6] [.slice p.A1 a1.length p.c1, .slice p.A2 a2.length p.c2, .slice p.A3 a3.length p.c3, .slice p.A6 a6.length p.c6] := by
      rw [← hcf]
      exact RdL.cons (M.d1 7 rfl) (RdL.cons (M.d1 5 rfl) (RdL.cons (M.d1 3 rfl) (RdL.cons (M.d1 1 rfl) RdL.nil_)))
    exact ⟨g12, (M.addL hbd).fsub _ (by simp), (by repeat (first | exact trivial | refine ⟨rfl, ?_⟩))⟩
  clear M
  rintro g13 E W M
  have hcnt4 := sp_cnt a4
  have hcnt5 := sp_cnt a5
  refine cutS (List Value × Option Addr × Nat) (fun z W => txsP a4 = some ((spL a4).map spL) ∧ St w gs W [(g13, 26, bkc N a1 a2 a3 a6 p z.2.1 (spL a4).length z.2.2 none 0 0), (g2, 26, zBk)] [⟨52, 1, z.2.1, (spL a4).length, z.2.2, z.1⟩] [.dat false (((spL a4).map spL).map dTx) z.1, .dat true [dLs (spL a5)] [.slice A11 (spL a5).length c11], .dat false [dB a1, dB a2, dB a3, dB a6] [.slice p.A1 a1.length p.c1, .slice p.A2 a2.length p.c2, .slice p.A3 a3.length p.c3, .slice p.A6 a6.length p.c6], .dat false [dB s] [.slice A s.length c]]) (fun _ => [(0, .slice A s.length c), (2, .pointer (some ⟨g2, 0, none⟩)), (11, .slice A11 (spL a5).length c11), (13, .pointer (some ⟨g13, 0, none⟩))]) ?_ ?_
  · refine lp (Nat × List Value × Option Addr × Nat) (fun z W => z.1 ≤ (spL a4).length ∧ (∀ x ∈ (spL a4).take z.1, spE x = 0) ∧ St w gs W [(g13, 26, bkc N a1 a2 a3 a6 p z.2.2.1 z.1 z.2.2.2 none 0 0), (g2, 26, zBk)] [⟨52, 1, z.2.2.1, z.1, z.2.2.2, z.2.1⟩] [.dat false ((((spL a4).take z.1).map spL).map dTx) z.2.1, .dat true [dLs (spL a5)] [.slice A11 (spL a5).length c11], .dat true [dLs (spL a4)] [.slice A9 (spL a4).length c9], .dat false [dB a1, dB a2, dB a3, dB a6] [.slice p.A1 a1.length p.c1, .slice p.A2 a2.length p.c2, .slice p.A3 a3.length p.c3, .slice p.A6 a6.length p.c6], .dat false [dB s] [.slice A s.length c]])
      (fun z => [(0, .slice A s.length c), (2, .pointer (some ⟨g2, 0, none⟩)), (9, .slice A9 (spL a4).length c9), (11, .slice A11 (spL a5).length c11), (13, .pointer (some ⟨g13, 0, none⟩)), (14, .int .i64 z.1)]) (fun z => (spL a4).length - z.1) (0, [], none, 0) ⟨Nat.zero_le _, (fun x h => by rw [List.take_zero] at h; cases h), ?_⟩ (by repeat (first | exact trivial | refine ⟨rfl, ?_⟩)) ?_
    · have M2 := (M.nilR 52 1).addL (ds := []) (cs := []) RdL.nil_
      exact M2.fsub _ (by simp)
    clear M
    rintro ⟨i, xs, A6, c6⟩ E W ⟨hi, hall, M⟩
    dsimp only at hi hall M
    refine p_len sls rfl ?_
    refine p_lt rfl rfl (fun hlt => ?_) (fun hge => ?_)
    rotate_left
    · have hi : i = (spL a4).length := by have h : ¬ (i : Int) < ((spL a4).length : Int) := hge; omega
      subst hi
      rw [List.take_of_length_le (Nat.le_refl _)] at hall M
      exact ⟨(xs, A6, c6), ⟨txsP_some r3 hall, M.fsub _ (by simp)⟩, (by repeat (first | exact trivial | refine ⟨rfl, ?_⟩))⟩
    have hil : i < (spL a4).length := by have h : (i : Int) < ((spL a4).length : Int) := hlt; omega
    obtain ⟨x, hx⟩ : ∃ x, (spL a4)[i]? = some x := ⟨_, List.getElem?_eq_getElem hil⟩
    have hxl := (sp_bound (List.mem_of_getElem? hx)).1
    have hcx := sp_cnt x
    obtain ⟨b1, o1, A8, c8, eA9, M'⟩ := M.lse (M.d1 2 rfl) hx
    replace M := M'; clear M'
    refine p_at (i := i) sls (by show Value.slice A9 (spL a4).length c9 = _; rw [eA9]) rfl rfl hil ?_
    refine v_load agg_b rfl (M.lc 0 rfl 0 _ rfl) ?_
    obtain ⟨-, enc8, hrd8⟩ := M.rdb 1 rfl
    refine cc is_r1splitZ (refSplit_any _ _ _ x _ hrd8 (by omega) enc8) ?_
    rintro e W ⟨A15, n15, c15, rfl, o15, hb⟩
    have h15 : RdD W (Fr _ W) (dLs (spL x)) (.slice A15 n15 c15) := o15.rdLs fun b q1 q2 q3 => ⟨q1, q2, q3⟩
    have en15 : n15 = (spL x).length := h15.slen
    subst en15
    replace M := M.callF1 hb h15
    clear hb h15 o15 hrd8 enc8
    refine ⟨_, rfl, ?_⟩
    refine p_ne rfl rfl (fun q2 => ?_) (fun q2 => ?_)
    rotate_left
    · have q2 : ¬ spE x = 0 := q2
      have hp : parseBk s = none := by rw [hp0, part_t (txsP_none (fun h => q2 (h.2 x (List.mem_of_getElem? hx))))]
      have hd : decBk s = (bkZ, 11) := by rw [hd0, hp]; rfl
      refine p_build (vs := zBk) pl_bk z_bk rfl ?_
      refine s_storeA 1 zBk M rfl sz_bk rfl rfl rfl (all1 rfl) rfl ?_
      clear M; rintro W M
      dsimp only [setL] at M
      refine c_loadN zBk agg_bk rfl rfl (M.run 1 rfl) ?_
      rw [hd]
      exact ⟨⟨none, 0, none, 0, none, 0, none, 0, none, 0, none, 0⟩, rfl, RdL.ofbk (RdD.nil_ (s := 1) none 0) (RdD.nil_ (s := 1) none 0) (RdD.nil_ (s := 1) none 0) (RdD.nil_ none 0) (RdD.nil_ none 0) (RdD.nil_ (s := 1) none 0), M.below⟩
    have q2 : spE x = 0 := q2
    refine cutS Unit (fun _ W => St w gs W [(g13, 26, bkc N a1 a2 a3 a6 p A6 i c6 none 0 0), (g2, 26, zBk)] [⟨52, 1, A6, i, c6, xs⟩] [.dat true [dLs (spL x)] [.slice A15 (spL x).length c15], .dat false ((((spL a4).take i).map spL).map dTx) xs, .dat true [dLs (spL a5)] [.slice A11 (spL a5).length c11], .dat true [dLs (spL a4)] [.slice A9 (spL a4).length c9], .dat false [dB a1, dB a2, dB a3, dB a6] [.slice p.A1 a1.length p.c1, .slice p.A2 a2.length p.c2, .slice p.A3 a3.length p.c3, .slice p.A6 a6.length p.c6], .dat false [dB s] [.slice A s.length c]])
      (fun _ => [(0, .slice A s.length c), (2, .pointer (some ⟨g2, 0, none⟩)), (9, .slice A9 (spL a4).length c9), (11, .slice A11 (spL a5).length c11), (13, .pointer (some ⟨g13, 0, none⟩)), (14, .int .i64 i), (15, .slice A15 (spL x).length c15)]) ?_ ?_
    · exact ⟨(), M.fsub _ (by simp), (by repeat (first | exact trivial | refine ⟨rfl, ?_⟩))⟩
    clear M
    rintro - E W M
    refine lp (Nat × List Value × Option Addr × Nat) (fun z W => z.1 ≤ (spL x).length ∧ St w gs W [(g13, 26, bkc N a1 a2 a3 a6 p A6 i c6 none 0 0), (g2, 26, zBk)] [⟨9, 1, z.2.2.1, z.1, z.2.2.2, z.2.1⟩, ⟨52, 1, A6, i, c6, xs⟩] [.dat false (((spL x).take z.1).map fun s => .v (.string (sb s))) z.2.1, .dat true [dLs (spL x)] [.slice A15 (spL x).length c15], .dat false ((((spL a4).take i).map spL).map dTx) xs, .dat true [dLs (spL a5)] [.slice A11 (spL a5).length c11], .dat true [dLs (spL a4)] [.slice A9 (spL a4).length c9], .dat false [dB a1, dB a2, dB a3, dB a6] [.slice p.A1 a1.length p.c1, .slice p.A2 a2.length p.c2, .slice p.A3 a3.length p.c3, .slice p.A6 a6.length p.c6], .dat false [dB s] [.slice A s.length c]])
      (fun z => [(0, .slice A s.length c), (2, .pointer (some ⟨g2, 0, none⟩)), (9, .slice A9 (spL a4).length c9), (11, .slice A11 (spL a5).length c11), (13, .pointer (some ⟨g13, 0, none⟩)), (14, .int .i64 i), (15, .slice A15 (spL x).length c15), (17, .slice z.2.2.1 z.1 z.2.2.2), (18, .int .i64 z.1)]) (fun z => (spL x).length - z.1) (0, [], none, 0) ⟨Nat.zero_le _, ?_⟩ (by repeat (first | exact trivial | refine ⟨rfl, ?_⟩)) ?_
    · have M2 := (M.nilR 9 1).addL (ds := []) (cs := []) RdL.nil_
      exact M2.fsub _ (by simp)
    clear M
    rintro ⟨k, ys, A17, c17⟩ E W ⟨hk, M⟩
    dsimp only at hk M
    refine p_len sls rfl ?_
    refine p_lt rfl rfl (fun hlt2 => ?_) (fun hge => ?_)
    · have hkl : k < (spL x).length := by have h : (k : Int) < ((spL x).length : Int) := hlt2; omega
      obtain ⟨y, hy⟩ : ∃ y, (spL x)[k]? = some y := ⟨_, List.getElem?_eq_getElem hkl⟩
      obtain ⟨b2, o2, A13, c13, eA15, M'⟩ := M.lse (M.d1 1 rfl) hy
      replace M := M'; clear M'
      refine p_at (i := k) sls (by show Value.slice A15 (spL x).length c15 = _; rw [eA15]) rfl rfl hkl ?_
      refine v_load agg_b rfl (M.lc 0 rfl 0 _ rfl) ?_
      refine v_str rfl (M.rdb 1 rfl).2.2 ?_
      refine s_bslice (fr := false) (ds := [.v (.string (sb y))]) [.string (sb y)] M slts zstr rfl (by decide) rfl (RdL.cons (RdD.ofv _) RdL.nil_) rfl ?_
      clear M; rintro gq W M
      obtain ⟨news, hrd, hnd⟩ := (M.d1 0 rfl).reads Fd.lt
      replace M := M.addL hnd
      refine s_app (z := .string (sb [])) (news := news) M u_tst stinfo rfl (by decide) rfl rfl hrd (hnd.ones (fun d hd => by rcases List.mem_singleton.1 hd with rfl; rfl)) ⟨by omega, by decide⟩ ?_
      clear M hrd hnd
      rintro A44 c44 W M -
      refine p_addN (b := 1) rfl rfl (by omega) ?_
      have hx2 := (M.da 4 rfl).app (M.da 0 rfl)
      have em := take_map_snoc (fun s => D.v (.string (sb s))) hy
      rw [← em] at hx2
      replace M := M.addL hx2
      exact ⟨(k + 1, ys ++ news, A44, c44), ⟨by dsimp only; omega, M.fsub _ (by simp)⟩, (by repeat (first | exact trivial | refine ⟨rfl, ?_⟩)), by dsimp only; omega⟩
    have hk : k = (spL x).length := by have h : ¬ (k : Int) < ((spL x).length : Int) := hge; omega
    subst hk
    rw [List.take_of_length_le (Nat.le_refl _)] at M
    replace M := M.frzR (fr := false) (M.dt 0 rfl)
    have hdx : RdD W (Fd W (own [(g13, 26, bkc N a1 a2 a3 a6 p A6 i c6 none 0 0), (g2, 26, zBk)] [⟨52, 1, A6, i, c6, xs⟩] gs)) (dTx (spL x)) (.slice A17 (spL x).length c17) := M.d1 0 rfl
    replace M := M.addD hdx
    refine p_fld fB4 rfl ?_
    refine v_load agg_tss rfl ((M.B 0 rfl).at_ rfl) ?_
    refine s_bslice (fr := false) (ds := [dTx (spL x)]) [.slice A17 (spL x).length c17] M sltss ztst rfl (by decide) rfl (M.dw 0 rfl) rfl ?_
    clear M hdx; rintro gq W M
    obtain ⟨news, hrd, hnd⟩ := (M.d1 0 rfl).reads Fd.lt
    replace M := M.addL hnd
    refine s_app (z := .slice none 0 0) (news := news) M u_tsst tsinfo rfl (by decide) rfl rfl hrd (hnd.ones (fun d hd => by rcases List.mem_singleton.1 hd with rfl; exact trivial)) ⟨by omega, by decide⟩ ?_
    clear M hrd hnd
    rintro A49 c49 W M -
    refine p_fld fB4 rfl ?_
    refine s_set 0 (off := 4) (.slice A49 (i + 1) c49) (bkc N a1 a2 a3 a6 p A49 (i + 1) c49 none 0 0) M rfl sz_tss rfl rfl rfl (Nat.le_of_ble_eq_true rfl) rfl ?_
    clear M; rintro W M
    dsimp only [setL] at M
    refine p_addN (b := 1) rfl rfl (by omega) ?_
    have hx2 := (M.da 6 rfl).app (M.da 0 rfl)
    have em : (((spL a4).take (i + 1)).map spL).map dTx = (((spL a4).take i).map spL).map dTx ++ [dTx (spL x)] := by rw [take_map_snoc spL hx, List.map_append]; rfl
    rw [← em] at hx2
    replace M := M.addL hx2
    refine ⟨(i + 1, xs ++ news, A49, c49), ⟨by dsimp only; omega, fun y hy => ?_, M.fsub _ (by simp)⟩, (by repeat (first | exact trivial | refine ⟨rfl, ?_⟩)), by dsimp only; omega⟩
    rw [List.take_add_one, hx, List.mem_append] at hy
    rcases hy with hy | hy
    · exact hall y hy
    · have : y = x := by simpa using hy
      rw [this]; exact q2
  clear M
  rintro ⟨xs4, AT, cT⟩ E W ⟨hT, M⟩
  dsimp only at hT M
  replace M := M.frzR (fr := false) (M.dt 0 rfl)
  obtain ⟨T, hTe⟩ : ∃ T, T = (spL a4).map spL := ⟨_, rfl⟩
  have hTl : (spL a4).length = T.length := by rw [hTe, List.length_map]
  rw [← hTe] at hT M
  rw [hTl] at M
  have hdt : RdD W (Fd W (own [(g13, 26, bkc N a1 a2 a3 a6 p AT T.length cT none 0 0), (g2, 26, zBk)] [] gs)) (dTxs T) (.slice AT T.length cT) := M.d1 0 rfl
  replace M := (M.addD hdt).fsub [.dat false [dTxs T] [.slice AT T.length cT], .dat true [dLs (spL a5)] [.slice A11 (spL a5).length c11], .dat false [dB a1, dB a2, dB a3, dB a6] [.slice p.A1 a1.length p.c1, .slice p.A2 a2.length p.c2, .slice p.A3 a3.length p.c3, .slice p.A6 a6.length p.c6], .dat false [dB s] [.slice A s.length c]] (by simp)
  clear hdt
  refine cutS (List Value × Option Addr × Nat) (fun z W => outsP a5 = some ((spL a5).map fun x => (decO x).1) ∧ St w gs W [(g13, 26, bkc N a1 a2 a3 a6 p AT T.length cT z.2.1 (spL a5).length z.2.2), (g2, 26, zBk)] [⟨55, 3, z.2.1, (spL a5).length, z.2.2, z.1⟩] [.dat false ((spL a5).flatMap fun x => dOut (decO x).1) z.1, .dat false [dTxs T] [.slice AT T.length cT], .dat false [dB a1, dB a2, dB a3, dB a6] [.slice p.A1 a1.length p.c1, .slice p.A2 a2.length p.c2, .slice p.A3 a3.length p.c3, .slice p.A6 a6.length p.c6], .dat false [dB s] [.slice A s.length c]]) (fun _ => [(0, .slice A s.length c), (2, .pointer (some ⟨g2, 0, none⟩)), (13, .pointer (some ⟨g13, 0, none⟩))]) ?_ ?_
  · refine lp (Nat × List Value × Option Addr × Nat) (fun z W => z.1 ≤ (spL a5).length ∧ (∀ x ∈ (spL a5).take z.1, (decO x).2 = 0) ∧ St w gs W [(g13, 26, bkc N a1 a2 a3 a6 p AT T.length cT z.2.2.1 z.1 z.2.2.2), (g2, 26, zBk)] [⟨55, 3, z.2.2.1, z.1, z.2.2.2, z.2.1⟩] [.dat false (((spL a5).take z.1).flatMap fun x => dOut (decO x).1) z.2.1, .dat false [dTxs T] [.slice AT T.length cT], .dat true [dLs (spL a5)] [.slice A11 (spL a5).length c11], .dat false [dB a1, dB a2, dB a3, dB a6] [.slice p.A1 a1.length p.c1, .slice p.A2 a2.length p.c2, .slice p.A3 a3.length p.c3, .slice p.A6 a6.length p.c6], .dat false [dB s] [.slice A s.length c]])
      (fun z => [(0, .slice A s.length c), (2, .pointer (some ⟨g2, 0, none⟩)), (11, .slice A11 (spL a5).length c11), (13, .pointer (some ⟨g13, 0, none⟩)), (19, .int .i64 z.1)]) (fun z => (spL a5).length - z.1) (0, [], none, 0) ⟨Nat.zero_le _, (fun x h => by rw [List.take_zero] at h; cases h), ?_⟩ (by repeat (first | exact trivial | refine ⟨rfl, ?_⟩)) ?_
    · have M2 := (M.nilR 55 3).addL (ds := []) (cs := []) RdL.nil_
      exact M2.fsub _ (by simp)
    clear M
    rintro ⟨i, xs, A6, c6⟩ E W ⟨hi, ha, M⟩
    dsimp only at hi ha M
    refine p_len sls rfl ?_
    refine p_lt rfl rfl (fun hlt => ?_) (fun hge => ?_)
    rotate_left
    · have hi : i = (spL a5).length := by have h : ¬ (i : Int) < ((spL a5).length : Int) := hge; omega
      subst hi
      rw [List.take_of_length_le (Nat.le_refl _)] at ha M
      exact ⟨(xs, A6, c6), ⟨outsP_some r4 ha, M.fsub _ (by simp)⟩, (by repeat (first | exact trivial | refine ⟨rfl, ?_⟩))⟩
    have hil : i < (spL a5).length := by have h : (i : Int) < ((spL a5).length : Int) := hlt; omega
    obtain ⟨x, hx⟩ : ∃ x, (spL a5)[i]? = some x := ⟨_, List.getElem?_eq_getElem hil⟩
    have hxl := (sp_bound (List.mem_of_getElem? hx)).1
    obtain ⟨b1, o1, A8, c8, eA11, M'⟩ := M.lse (M.d1 2 rfl) hx
    replace M := M'; clear M'
    refine p_at (i := i) sls (by show Value.slice A11 (spL a5).length c11 = _; rw [eA11]) rfl rfl hil ?_
    refine v_load agg_b rfl (M.lc 0 rfl 0 _ rfl) ?_
    refine cc is_r20Dec (r20Dec_any x _ _ _ _ _ (M.d1 1 rfl) M.olt (by omega)) ?_
    rintro e W ⟨A9, c9, rfl, h9, hb⟩
    replace M := M.callF hb h9
    clear hb h9
    refine ⟨_, rfl, ?_⟩
    obtain ⟨D, hD⟩ : ∃ D, D = decO x := ⟨_, rfl⟩
    rw [← hD] at M
    rw [← hD]
    refine s_alloc (zOut) M al_out ?_
    clear M
    rintro g20 W M
    refine s_storeA 0 (outcs D.1 A9 c9) M rfl sz_out rfl rfl rfl (all1 rfl) rfl ?_
    clear M; rintro W M
    dsimp only [setL] at M
    refine p_ne rfl rfl (fun q2 => ?_) (fun q2 => ?_)
    rotate_left
    · have q2 : ¬ D.2 = 0 := q2
      have hp : parseBk s = none := by rw [hp0, part_o (outsP_none (fun h => q2 (by rw [hD]; exact h.2 x (List.mem_of_getElem? hx))))]
      have hd : decBk s = (bkZ, 11) := by rw [hd0, hp]; rfl
      refine p_build (vs := zBk) pl_bk z_bk rfl ?_
      refine s_storeA 2 zBk M rfl sz_bk rfl rfl rfl (all1 rfl) rfl ?_
      clear M; rintro W M
      dsimp only [setL] at M
      refine c_loadN zBk agg_bk rfl rfl (M.run 2 rfl) ?_
      rw [hd]
      exact ⟨⟨none, 0, none, 0, none, 0, none, 0, none, 0, none, 0⟩, rfl, RdL.ofbk (RdD.nil_ (s := 1) none 0) (RdD.nil_ (s := 1) none 0) (RdD.nil_ (s := 1) none 0) (RdD.nil_ none 0) (RdD.nil_ none 0) (RdD.nil_ (s := 1) none 0), M.below⟩
    have q2 : D.2 = 0 := q2
    refine p_fld fB5 rfl ?_
    refine v_load agg_os rfl ((M.B 1 rfl).at_ rfl) ?_
    refine v_loadN (outcs D.1 A9 c9) agg_out rfl rfl (M.run 0 rfl) ?_
    refine s_bslice (fr := true) (ds := dOut D.1) (outcs D.1 A9 c9) M slos z_out rfl (by decide) rfl (M.dt 0 rfl) rfl ?_
    clear M; rintro gq W M
    obtain ⟨news, hrd, hnd⟩ := (M.d1 0 rfl).reads Fd.lt
    replace M := M.addL hnd
    refine s_app (z := .agg zOut.toArray) (news := news) M u_ost outinfo rfl (by decide) rfl rfl hrd (hnd.ones (fun d hd => by
      rcases List.mem_cons.1 hd with rfl | hd
      · rfl
      rcases List.mem_cons.1 hd with rfl | hd
      · rfl
      rcases List.mem_singleton.1 hd with rfl
      exact trivial)) ⟨by omega, by decide⟩ ?_
    clear M hrd hnd
    rintro A34 c34 W M -
    refine p_fld fB5 rfl ?_
    refine s_set 1 (off := 5) (.slice A34 (i + 1) c34) (bkc N a1 a2 a3 a6 p AT T.length cT A34 (i + 1) c34) M rfl sz_os rfl rfl rfl (Nat.le_of_ble_eq_true rfl) rfl ?_
    clear M; rintro W M
    dsimp only [setL] at M
    refine p_addN (b := 1) rfl rfl (by omega) ?_
    have hx2 := (M.da 5 rfl).app (M.da 0 rfl)
    have em : ((spL a5).take (i + 1)).flatMap (fun x => dOut (decO x).1) = ((spL a5).take i).flatMap (fun x => dOut (decO x).1) ++ dOut D.1 := by rw [List.take_add_one, hx, List.flatMap_append, hD]; simp
    rw [← em] at hx2
    replace M := M.addL hx2
    refine ⟨(i + 1, xs ++ news, A34, c34), ⟨by dsimp only; omega, fun y hy => ?_, M.dropL.fsub _ (by simp)⟩, (by repeat (first | exact trivial | refine ⟨rfl, ?_⟩)), by dsimp only; omega⟩
    rw [List.take_add_one, hx, List.mem_append] at hy
    rcases hy with hy | hy
    · exact ha y hy
    · have : y = x := by simpa using hy
      rw [this, ← hD]; exact q2
  clear M
  rintro ⟨xs5, AO, cO⟩ E W ⟨hO, M⟩
  dsimp only at hO M
  replace M := M.frzR (fr := false) (M.dt 0 rfl)
  obtain ⟨O, hOe⟩ : ∃ O, O = (spL a5).map fun x => (decO x).1 := ⟨_, rfl⟩
  have hOl : (spL a5).length = O.length := by rw [hOe, List.length_map]
  have hOf : ((spL a5).flatMap fun x => dOut (decO x).1) = O.flatMap dOut := by rw [hOe, List.flatMap_map]
  rw [← hOe] at hO
  rw [hOl, hOf] at M
  rw [part_s hc0 hT hO] at hp0
  have hfb := parse_fitsB hp0 hs
  obtain ⟨b, hb0⟩ : ∃ b : Bk, b = ⟨gN a0 0, a1, a2, a3, T, O, a6⟩ := ⟨_, rfl⟩
  obtain ⟨p2, hp2⟩ : ∃ p2 : Bp, p2 = ⟨p.A1, p.c1, p.A2, p.c2, p.A3, p.c3, AT, cT, AO, cO, p.A6, p.c6⟩ := ⟨_, rfl⟩
  have hcs2 : bkc N a1 a2 a3 a6 p AT T.length cT AO O.length cO = bkcs b p2 := by rw [hb0, hp2, hN]; rfl
  rw [hcs2] at M
  have hbd : RdL W (Fd W (own [(g13, 26, bkcs b p2), (g2, 26, zBk)] [] gs)) (dBk b) (bkcs b p2) := by
    have h4 := M.da 3 rfl
    obtain ⟨k1, h4⟩ := h4.ht
    obtain ⟨k2, h4⟩ := h4.ht
    obtain ⟨k3, h4⟩ := h4.ht
    obtain ⟨k6, h4⟩ := h4.ht
    rw [hb0, hp2]
    exact RdL.ofbk k1 k2 k3 (M.d1 2 rfl) (M.d1 0 rfl) k6
  replace M := (M.addL hbd).fsub [.dat false (dBk b) (bkcs b p2), .dat false [dB s] [.slice A s.length c]] (by simp)
  clear hbd
  rw [← hb0] at hp0 hfb
  have hd1 : decBk s = if encBk b = (s, 0) then (b, 0) else (bkZ, 11) := by rw [hd0, hp0]; rfl
  refine v_loadN (bkcs b p2) agg_bk rfl rfl (M.run 0 rfl) ?_
  refine cc is_r21EncZ (r21Enc_any b _ _ _ (M.da 0 rfl) M.olt hfb) ?_
  rintro e W ⟨A13, n13, c13, rfl, o13, hb⟩
  replace M := M.callO hb o13
  clear hb o13
  refine ⟨_, rfl, ?_⟩
  obtain ⟨Y, hY⟩ : ∃ Y, Y = encBk b := ⟨_, rfl⟩
  rw [← hY] at M hd1
  rw [← hY]
  refine p_ne rfl rfl (fun h2 => ?_) (fun h2 => ?_)
  rotate_left
  · have h2 : ¬ Y.2 = 0 := h2
    have hd : decBk s = (bkZ, 11) := by rw [hd1, if_neg (fun h => h2 (by rw [h]))]
    refine p_build (vs := zBk) pl_bk z_bk rfl ?_
    refine s_storeA 1 zBk M rfl sz_bk rfl rfl rfl (all1 rfl) rfl ?_
    clear M; rintro W M
    dsimp only [setL] at M
    refine c_loadN zBk agg_bk rfl rfl (M.run 1 rfl) ?_
    rw [hd]
    exact ⟨⟨none, 0, none, 0, none, 0, none, 0, none, 0, none, 0⟩, rfl, RdL.ofbk (RdD.nil_ (s := 1) none 0) (RdD.nil_ (s := 1) none 0) (RdD.nil_ (s := 1) none 0) (RdD.nil_ none 0) (RdD.nil_ none 0) (RdD.nil_ (s := 1) none 0), M.below⟩
  have h2 : Y.2 = 0 := h2
  obtain ⟨z, hz, hc⟩ := same_tf (c1 := c13) (c2 := c) (M.rdb 0 rfl).2.2 (M.rdb 2 rfl).2.2
  refine cc is_same0B hc ?_
  rintro e W' ⟨rfl, rfl⟩
  refine ⟨_, rfl, ?_⟩
  clear hc
  refine p_not rfl ?_
  cases z with
  | false =>
    have h3 : ¬ Y.1 = s := fun h => by have := hz.2 h; cases this
    have hd : decBk s = (bkZ, 11) := by rw [hd1, if_neg (fun h => h3 (by rw [h]))]
    refine p_build (vs := zBk) pl_bk z_bk rfl ?_
    refine s_storeA 1 zBk M rfl sz_bk rfl rfl rfl (all1 rfl) rfl ?_
    clear M; rintro W M
    dsimp only [setL] at M
    refine c_loadN zBk agg_bk rfl rfl (M.run 1 rfl) ?_
    rw [hd]
    exact ⟨⟨none, 0, none, 0, none, 0, none, 0, none, 0, none, 0⟩, rfl, RdL.ofbk (RdD.nil_ (s := 1) none 0) (RdD.nil_ (s := 1) none 0) (RdD.nil_ (s := 1) none 0) (RdD.nil_ none 0) (RdD.nil_ none 0) (RdD.nil_ (s := 1) none 0), M.below⟩
  | true =>
  have h3 : Y.1 = s := hz.1 rfl
  rw [if_pos (Prod.ext h3 h2)] at hd1
  refine v_loadN (bkcs b p2) agg_bk rfl rfl (M.run 0 rfl) ?_
  refine s_storeA 1 (bkcs b p2) M rfl sz_bk rfl rfl rfl (all1 rfl) rfl ?_
  clear M; rintro W M
  dsimp only [setL] at M
  refine c_loadN (bkcs b p2) agg_bk rfl rfl (M.run 1 rfl) ?_
  rw [hd1]
  exact ⟨p2, rfl, M.fin 1 rfl, M.below⟩
end Go.Proofs.YtejbljopighenaaDoor
namespace Go.Proofs.YtejbljopighenaaDoor
open Go.RowKit
theorem is_bHashL : isFn Tryd.prog 16 = true := by kernel_rfl
theorem is_r21HashL : isFn Tryd.prog 17 = true := by kernel_rfl
theorem slbks : slOf Tryd.prog 44 = some (26, 7) := by kernel_rfl
theorem isslb : isSl Tryd.prog 22 = true := by kernel_rfl
/-- The block stands behind those ahead of it. -/
def goodB (l : List Bk) (i : Nat) : Prop := ∃ b, l[i]? = some b ∧ (encBk b).2 = 0 ∧ ∀ a, 0 < i → l[i - 1]? = some a → b.num = a.num + 1 ∧ b.last = hashBk a ∧ b.prev = a.next
def LinkN (l : List Bk) (n : Nat) : Prop := n ≤ l.length ∧ (∀ i, i < n → goodB l i) ∧ (n < l.length → ¬ goodB l n)
theorem link_inj {l : List Bk} {n m : Nat} (h : LinkN l n) (k : LinkN l m) : n = m := by
  rcases Nat.lt_trichotomy n m with q | q | q
  · exact absurd (k.2.1 n q) (h.2.2 (by have := k.1; omega))
  · exact q
  · exact absurd (h.2.1 m q) (k.2.2 (by have := h.1; omega))
theorem ok_num {b : Bk} (h : (encBk b).2 = 0) : 0 ≤ b.num := by
  have h2 := (encBk_ok (encBk_full h)).1
  exact (right_iff.1 h2).1.1
theorem wrap_succ {a : Int} (h0 : 0 ≤ a) (h1 : a ≤ 9223372036854775807) : (IntKind.i64.wrap (a + 1) = a + 1 ∧ a < 9223372036854775807) ∨ IntKind.i64.wrap (a + 1) < 0 := by
  rw [IntKind.wrap_i64]; omega
section
variable {w W : World} {gs : List (Option Nat)} {L : Lc} {R : List Row} {fs : List Fact}
theorem St.bke (M : St w gs W L R fs) {l : List Bk} {A : Option Addr} {n c i : Nat} {x : Bk} (h : RdD W (Fd W (own L R gs)) (dBks l) (.slice A n c)) (hi : l[i]? = some x) :
    ∃ b off p, A = some ⟨b, off, none⟩ ∧ St w gs W L R (.loc ((⟨b, off, none⟩ : Addr).add (i * 7)) (bkcs x p) :: .dat false [dB x.last] [.slice p.A1 x.last.length p.c1] :: .dat false [dB x.prev] [.slice p.A2 x.prev.length p.c2] :: .dat false [dB x.next] [.slice p.A3 x.next.length p.c3] :: .dat false (dBk x) (bkcs x p) :: fs) := by
  obtain ⟨b, off, es, e, hF, hes, hel, hc⟩ := RdD.eltO dBk 7 dBk_len h hi
  obtain ⟨p, rfl, h1, h2, h3, -⟩ := hes.bk
  exact ⟨b, off, p, e, ((((M.addL hes).addD h3).addD h2).addD h1).addC (by rw [block_of_add]; exact hF) hc⟩
theorem Kp.rb (K : Kp w gs L fs W) (i : Nat) {fr : Bool} {l : List UInt8} {A : Option Addr} {n c : Nat} (h : nth fs i = some (.dat fr [dB l] [.slice A n c])) : ∃ B, Rd W B A n l := by
  obtain ⟨L2, R2, fs2, M, _, h2⟩ := K
  have h3 : RdL W (Ft w W (own L2 R2 gs) fr) [dB l] [.slice A n c] := M.fct _ (h2 _ (nth_mem h))
  exact ⟨_, (h3.hd.rd (fun b hb => hb.1)).2.2⟩
end
section
variable {S : World → Prop} {E : Env} {d : Option Nat} {ty : TypeId} {p : String} {af : Array Edge} {g : Option (Nat × Bool)} {x : Operand} {k : Value → Prop}
theorem t_strE {A : Option Addr} {n c : Nat} {l : List UInt8} (hx : val E x = .slice A n c) (hr : ∀ w, S w → ∃ B, Rd w B A n l) (h : k (.string (sb l))) :
    VHeld Tryd.prog S E { dst := d, op := .convert 22 9 x, type := ty, pos := p, after := af, guard := g } k :=
  th (fun w hw => by
    obtain ⟨B, hB⟩ := hr w hw
    simp only [execOp, hx, Sem.run_bind, run_str hB c, Result.andThen_ok, Sem.run_pure]; rfl) h
end
set_option maxRecDepth 100000 in
set_option maxHeartbeats 8000000 in
theorem bLinks_any (l : List Bk) (gs : List (Option Nat)) (w : World) (A : Option Addr) (n c : Nat) (hG : GL w gs) (hr : RdD w (Fd w gs) (dBks l) (.slice A n c)) (hgs : ∀ b, some b ∈ gs → b < w.heap.size) (hf : ∀ b ∈ l, FitsB b) (hl : l.length ≤ 1000000) :
    Calls Tryd.prog 19 #[.slice A n c] w fun e w' => ∃ k : Nat, e = .returned (.int .i64 k) ∧ LinkN l k ∧ Below w.heap.size w w' := by
  refine calls_ev (args := [.slice A n c]) mixed Tryd.func19 rfl (by kernel_rfl) ?_
  have en : n = l.length := hr.slen
  subst en
  have M := (St.start hgs).addD hr
  clear hr
  refine p_len slbks rfl ?_
  refine lp (Nat × List UInt8 × Option Addr × Nat) (fun z W => z.1 ≤ l.length ∧ (∀ j, j < z.1 → goodB l j) ∧ (∀ a, 0 < z.1 → l[z.1 - 1]? = some a → z.2.1 = hashBk a) ∧ St w gs W [] [] [.dat false [dBks l] [.slice A l.length c], .dat false [dB z.2.1] [.slice z.2.2.1 z.2.1.length z.2.2.2]])
    (fun z => [(0, .slice A l.length c), (3, .int .i64 z.1), (4, .slice z.2.2.1 z.2.1.length z.2.2.2), (8, .slice A l.length c), (9, .int .i64 (l.length : Nat)), (10, .int .i64 z.1)]) (fun z => l.length - z.1) (0, [], none, 0) ⟨Nat.zero_le _, (fun j h => absurd h (Nat.not_lt_zero _)), (fun a h => absurd h (Nat.lt_irrefl _)), ?_⟩ (by repeat (first | exact trivial | refine ⟨rfl, ?_⟩)) ?_
  · exact (M.addD (d := dB []) (u := .slice none 0 0) (RdD.nil_ (s := 1) none 0)).fsub _ (by simp)
  clear M
  rintro ⟨i, la, A4, c4⟩ E W ⟨hi, hall, hla, M⟩
  dsimp only at hi hall hla M
  refine p_lt rfl rfl (fun hlt => ?_) (fun hge => ?_)
  rotate_left
  · have hi : i = l.length := by have h : ¬ (i : Int) < (l.length : Int) := hge; omega
    exact ⟨i, rfl, ⟨by omega, hall, fun h => absurd h (by omega)⟩, M.below⟩
  have hil : i < l.length := by have h : (i : Int) < (l.length : Int) := hlt; omega
  obtain ⟨b, hb⟩ : ∃ b, l[i]? = some b := ⟨_, List.getElem?_eq_getElem hil⟩
  have hfb := hf b (List.mem_of_getElem? hb)
  obtain ⟨b1, o1, p, eA, M'⟩ := M.bke (M.d1 0 rfl) hb
  replace M := M'; clear M'
  refine p_at (i := i) slbks (by show Value.slice A l.length c = _; rw [eA]) rfl rfl hil ?_
  refine v_loadN (bkcs b p) agg_bk rfl rfl (M.lc 0 rfl) ?_
  refine s_alloc (zBk) M al_bk ?_
  clear M
  rintro g6 W M
  refine s_storeA 0 (bkcs b p) M rfl sz_bk rfl rfl rfl (all1 rfl) rfl ?_
  clear M; rintro W M
  dsimp only [setL] at M
  refine v_loadN (bkcs b p) agg_bk rfl rfl (M.run 0 rfl) ?_
  refine cc is_bHashL (bHash_any b _ _ _ (M.glB hG) (M.da 4 rfl) M.olt hfb) ?_
  rintro e W ⟨A7, n7, c7, rfl, o7, hA, hA2, hn7, hbw⟩
  have en7 : (hashBk b).length = n7 := o7.len
  subst en7
  replace M := M.callO hbw o7
  replace M := (M.addD (M.d1 0 rfl)).drew
  clear hbw o7
  refine ⟨_, rfl, ?_⟩
  by_cases q : (encBk b).2 = 0
  rotate_left
  · have hA0 : A7 = none := hA.2 q
    subst hA0
    refine drT (Kp w gs [] []) (.take 0 (.take 1 (.take 2 (.take 3 (.take 4 (.take 5 (.take 6 (.take 7 (.take 8 (.take 9 (.take 10 (.take 11 (.take 12 (.take 13 (.take 14 (.take 15 (.take 16 (.take 17 (.take 18 (.take 19 (.take 20 (.take 21 (.take 22 (.take 23 (.take 24 (.take 25 (.take 26 (.take 27 (.take 28 (.take 29 (.take 30 (.take 31 (.take 32 (.take 33 (.take 34 (.take 35 (.take 36 (.take 37 (.take 38 (.nil)))))))))))))))))))))))))))))))))))))))) (by kernel_rfl) (M.kp (by simp) (by simp)) ?_
    refine p_sln isslb rfl rfl (fun _ => ?_) (fun h => absurd rfl h)
    refine ⟨i, rfl, ⟨by omega, hall, fun _ => ?_⟩, M.below⟩
    rintro ⟨b', hb', hq', -⟩
    rw [hb] at hb'; injection hb' with hb'; subst hb'
    exact q hq'
  have hA0 : A7 ≠ none := fun h => hA.1 h q
  have hnum := ok_num q
  have hmx := hfb.1
  by_cases h0 : i = 0
  · subst h0
    refine drT (Kp w gs [] []) (.take 0 (.take 1 (.take 2 (.take 3 (.take 4 (.take 5 (.take 6 (.take 7 (.take 8 (.take 9 (.take 10 (.take 11 (.take 12 (.take 13 (.take 14 (.take 15 (.take 16 (.take 17 (.take 18 (.take 19 (.take 20 (.take 21 (.take 22 (.take 23 (.take 24 (.take 25 (.take 26 (.take 27 (.take 28 (.take 29 (.take 30 (.take 31 (.take 32 (.take 33 (.take 34 (.take 35 (.take 36 (.take 37 (.take 38 (.nil)))))))))))))))))))))))))))))))))))))))) (by kernel_rfl) (M.kp (by simp) (by simp)) ?_
    refine p_sln isslb rfl rfl (fun h => absurd h hA0) (fun _ => ?_)
    refine p_gt rfl rfl (fun h => absurd (show (0 : Int) < ((0 : Nat) : Int) from h) (by decide)) (fun _ => ?_)
    refine p_addN (b := 1) rfl rfl (by omega) ?_
    refine p_addN (b := 1) rfl rfl (by omega) ?_
    have hgood : goodB l 0 := ⟨b, hb, q, fun a h => absurd h (Nat.lt_irrefl _)⟩
    refine ⟨(1, hashBk b, A7, c7), ⟨by dsimp only; omega, fun j hj => ?_, fun a _ ha => ?_, M.dropL.fsub _ (by simp)⟩, (by repeat (first | exact trivial | refine ⟨rfl, ?_⟩)), by dsimp only; omega⟩
    · have hj : j < 1 := hj
      have : j = 0 := by omega
      rw [this]; exact hgood
    · have ha : l[0]? = some a := ha
      rw [hb] at ha; injection ha with ha; rw [ha]
  obtain ⟨a, ha⟩ : ∃ a, l[i - 1]? = some a := ⟨_, List.getElem?_eq_getElem (by omega)⟩
  have hga := hall (i - 1) (by omega)
  obtain ⟨a', ha', qa, -⟩ := hga
  rw [ha] at ha'; injection ha' with ha'; subst ha'
  have hna := ok_num qa
  have hmxa := (hf a (List.mem_of_getElem? ha)).1
  have hlaa := hla a (by omega) ha
  obtain ⟨b2, o2, r, eA2, M'⟩ := M.bke (M.d1 7 rfl) ha
  replace M := M'; clear M'
  refine drT (Kp w gs [(g6, 26, bkcs b p)] [.loc ((⟨b2, o2, none⟩ : Addr).add ((i - 1) * 7)) (bkcs a r), .dat false [dB a.next] [.slice r.A3 a.next.length r.c3], .dat false [dB b.last] [.slice p.A1 b.last.length p.c1], .dat false [dB b.prev] [.slice p.A2 b.prev.length p.c2], .dat false [dB la] [.slice A4 la.length c4]]) (.take 0 (.take 1 (.take 2 (.take 3 (.take 4 (.take 5 (.take 6 (.take 7 (.take 8 (.take 9 (.take 10 (.take 11 (.take 12 (.take 13 (.take 14 (.take 15 (.take 16 (.take 17 (.take 18 (.take 19 (.take 20 (.take 21 (.take 22 (.take 23 (.take 24 (.take 25 (.take 26 (.take 27 (.take 28 (.take 29 (.take 30 (.take 31 (.take 32 (.take 33 (.take 34 (.take 35 (.take 36 (.take 37 (.take 38 (.nil)))))))))))))))))))))))))))))))))))))))) (by kernel_rfl) (M.kp (by simp) (by simp)) ?_
  refine p_sln isslb rfl rfl (fun h => absurd h hA0) (fun _ => ?_)
  refine p_gt rfl rfl (fun _ => ?_) (fun h => absurd (show (0 : Int) < (i : Int) by omega) h)
  refine p_fld fB0 rfl ?_
  refine t_load agg_i rfl (fun W K => (K.B 0 rfl).at_ rfl) ?_
  refine p_subN (b := 1) rfl rfl (by omega) (by omega) ?_
  refine p_at (i := i - 1) slbks (by show Value.slice A l.length c = _; rw [eA2]) rfl rfl (by omega) ?_
  refine p_fld fB0 rfl ?_
  refine t_load agg_i rfl (fun W K => K.lc 0 rfl 0 _ rfl) ?_
  refine p_add rfl rfl rfl ?_
  refine p_ne rfl rfl (fun q1 => ?_) (fun q1 => ?_)
  rotate_left
  · have q1 : ¬ b.num = IntKind.i64.wrap (a.num + 1) := q1
    refine ⟨i, rfl, ⟨by omega, hall, fun _ => ?_⟩, M.below⟩
    rintro ⟨b', hb', -, hq'⟩
    rw [hb] at hb'; injection hb' with hb'; subst hb'
    obtain ⟨g1, g2, g3⟩ := hq' a (by omega) ha
    rcases wrap_succ hna hmxa with ⟨e, -⟩ | h
    · rw [e] at q1; exact q1 g1
    · have h2 : a.num = 9223372036854775807 := by rw [IntKind.wrap_i64] at h; omega
      omega
  have q1 : b.num = IntKind.i64.wrap (a.num + 1) := q1
  have q1' : b.num = a.num + 1 := by
    rcases wrap_succ hna hmxa with ⟨e, -⟩ | h
    · rw [e] at q1; exact q1
    · omega
  refine p_fld fB1 rfl ?_
  refine t_load agg_b rfl (fun W K => (K.B 0 rfl).at_ rfl) ?_
  refine t_strE rfl (fun W K => K.rb 2 rfl) ?_
  refine t_strE rfl (fun W K => K.rb 4 rfl) ?_
  refine p_sne rfl rfl (fun q2 => ?_) (fun q2 => ?_)
  rotate_left
  ·
    refine ⟨i, rfl, ⟨by omega, hall, fun _ => ?_⟩, M.below⟩
    rintro ⟨b', hb', -, hq'⟩
    rw [hb] at hb'; injection hb' with hb'; subst hb'
    obtain ⟨g1, g2, g3⟩ := hq' a (by omega) ha
    exact q2 (by rw [g2, hlaa])
  have q2 : b.last = la := sb_inj.1 q2
  refine p_fld fB2 rfl ?_
  refine t_load agg_b rfl (fun W K => (K.B 0 rfl).at_ rfl) ?_
  refine t_strE rfl (fun W K => K.rb 3 rfl) ?_
  refine p_subN (b := 1) rfl rfl (by omega) (by omega) ?_
  refine p_at (i := i - 1) slbks (by show Value.slice A l.length c = _; rw [eA2]) rfl rfl (by omega) ?_
  refine p_fld fB3 rfl ?_
  refine t_load agg_b rfl (fun W K => K.lc 0 rfl 3 _ rfl) ?_
  refine t_strE rfl (fun W K => K.rb 1 rfl) ?_
  refine p_sne rfl rfl (fun q3 => ?_) (fun q3 => ?_)
  rotate_left
  ·
    refine ⟨i, rfl, ⟨by omega, hall, fun _ => ?_⟩, M.below⟩
    rintro ⟨b', hb', -, hq'⟩
    rw [hb] at hb'; injection hb' with hb'; subst hb'
    obtain ⟨g1, g2, g3⟩ := hq' a (by omega) ha
    exact q3 (by rw [g3])
  have q3 : b.prev = a.next := sb_inj.1 q3
  have hgood : goodB l i := ⟨b, hb, q, fun a' _ ha' => by rw [ha] at ha'; injection ha' with ha'; subst ha'; exact ⟨q1', by rw [q2, hlaa], q3⟩⟩
  refine p_addN (b := 1) rfl rfl (by omega) ?_
  refine p_addN (b := 1) rfl rfl (by omega) ?_
  refine ⟨(i + 1, hashBk b, A7, c7), ⟨by dsimp only; omega, fun j hj => ?_, fun a' _ ha' => ?_, M.dropL.fsub _ (by simp)⟩, (by repeat (first | exact trivial | refine ⟨rfl, ?_⟩)), by dsimp only; omega⟩
  · have hj : j < i + 1 := hj
    by_cases hji : j = i
    · rw [hji]; exact hgood
    · exact hall j (by omega)
  · have ha' : l[i + 1 - 1]? = some a' := ha'
    rw [Nat.add_sub_cancel, hb] at ha'; injection ha' with ha'; rw [ha']
end Go.Proofs.YtejbljopighenaaDoor
namespace Go.Proofs.YtejbljopighenaaDoor
def txN (t : List (List UInt8)) : Nat := (t.map fun s => 1 + s.length / 20).sum
def valN (v : Val) : Nat := v.s.length / 20
def rowN (l : List Val) : Nat := 1 + l.length + (l.map valN).sum
def resN (r : Res) : Nat := 1 + (r.rows.map rowN).sum
def outN (o : Out) : Nat := (o.l.map resN).sum
def baseN (b : Bk) : Nat := b.proof.length / 20 + b.txs.length + b.outs.length
def bigN (b : Bk) : Nat := baseN b + (b.txs.map txN).sum + (b.outs.map outN).sum
section
variable {α : Type}
theorem sum_le_sum {f g : α → Nat} : ∀ {l : List α}, (∀ x ∈ l, f x ≤ g x) → (l.map f).sum ≤ (l.map g).sum
  | [], _ => Nat.le_refl _
  | x :: l, h => by
    have h1 := h x (List.mem_cons_self ..)
    have h2 := sum_le_sum (l := l) (fun y hy => h y (List.mem_cons_of_mem _ hy))
    rw [List.map_cons, List.map_cons, List.sum_cons, List.sum_cons]; omega
theorem sum_mem {f : α → Nat} : ∀ {l : List α} {x : α}, x ∈ l → f x ≤ (l.map f).sum
  | y :: l, x, h => by
    rw [List.map_cons, List.sum_cons]
    rcases List.mem_cons.1 h with rfl | h
    · omega
    · have := sum_mem (f := f) h; omega
theorem sum_len {f : α → Nat} : ∀ {l : List α}, (∀ x ∈ l, 1 ≤ f x) → l.length ≤ (l.map f).sum
  | [], _ => Nat.le_refl _
  | x :: l, h => by
    have h1 := h x (List.mem_cons_self ..)
    have h2 := sum_len (l := l) (fun y hy => h y (List.mem_cons_of_mem _ hy))
    rw [List.map_cons, List.sum_cons, List.length_cons]; omega
theorem sum_lin {f g : α → Nat} (a b : Nat) : ∀ {l : List α}, (∀ x ∈ l, f x ≤ a + b * g x) → (l.map f).sum ≤ a * l.length + b * (l.map g).sum
  | [], _ => Nat.zero_le _
  | x :: l, h => by
    have h1 := h x (List.mem_cons_self ..)
    have h2 := sum_lin a b (l := l) (fun y hy => h y (List.mem_cons_of_mem _ hy))
    rw [List.map_cons, List.map_cons, List.sum_cons, List.sum_cons, List.length_cons, Nat.mul_add, Nat.mul_add, Nat.mul_one]; omega
theorem sum_take_succ (f : α → Nat) {l : List α} {i : Nat} {x : α} (h : l[i]? = some x) : ((l.take (i + 1)).map f).sum = ((l.take i).map f).sum + f x := by
  rw [List.take_add_one, h, List.map_append, List.sum_append]; simp
theorem sum_take_le (f : α → Nat) (l : List α) (i : Nat) : ((l.take i).map f).sum ≤ (l.map f).sum := by
  conv => rhs; rw [← List.take_append_drop i l, List.map_append, List.sum_append]
  omega
end
theorem rowN_le (l : List Val) : rowN l ≤ rowbk l := by
  have h := sum_le_sum (l := l) (f := valN) (g := fun v => v.s.length) (fun v _ => by unfold valN; omega)
  have h2 : (l.map vbk).sum = (l.map fun v => v.s.length).sum + 4 * l.length := by
    clear h
    induction l with
    | nil => rfl
    | cons v l ih => rw [List.map_cons, List.map_cons, List.sum_cons, List.sum_cons, List.length_cons, ih]; unfold vbk; omega
  unfold rowN rowbk; omega
theorem resN_le (r : Res) : resN r ≤ resbk r := by
  have h := sum_le_sum (l := r.rows) (f := rowN) (g := rowbk) (fun l _ => rowN_le l)
  unfold resN resbk rowsbk; omega
theorem outN_le (o : Out) : outN o + 4 ≤ outbk o := by
  have h := sum_le_sum (l := o.l) (f := resN) (g := resbk) (fun r _ => resN_le r)
  unfold outN outbk; omega
theorem txN_le (t : List (List UInt8)) : txN t + 1 ≤ txbk t := by
  have h := sum_le_sum (l := t) (f := fun s => 1 + s.length / 20) (g := strbk) (fun s _ => by unfold strbk; omega)
  unfold txN txbk; omega
theorem bigN_le (b : Bk) : bigN b ≤ bkbk b := by
  have h1 := sum_lin (f := fun t => txN t + 1) (g := txbk) 0 1 (l := b.txs) (fun t _ => by have := txN_le t; omega)
  have h2 := sum_lin (f := fun o => outN o + 1) (g := outbk) 0 1 (l := b.outs) (fun o _ => by have := outN_le o; omega)
  have e1 : (b.txs.map fun t => txN t + 1).sum = (b.txs.map txN).sum + b.txs.length := by
    induction b.txs with
    | nil => rfl
    | cons v l ih => rw [List.map_cons, List.map_cons, List.sum_cons, List.sum_cons, List.length_cons, ih]; omega
  have e2 : (b.outs.map fun o => outN o + 1).sum = (b.outs.map outN).sum + b.outs.length := by
    induction b.outs with
    | nil => rfl
    | cons v l ih => rw [List.map_cons, List.map_cons, List.sum_cons, List.sum_cons, List.length_cons, ih]; omega
  unfold bigN baseN bkbk; omega
theorem tot_le (l : List Val) : tot l ≤ 60 * rowN l := by
  have h := sum_lin (l := l) (f := fun v => 40 + v.s.length) (g := valN) 59 20 (fun v _ => by unfold valN; omega)
  unfold tot rowN; omega
theorem join_le {ll : List (List UInt8)} (hn : ll.length < 18446744073709551616) (h : ∀ x ∈ ll, x.length < 18446744073709551616) : (joinL ll).length ≤ 10 + (10 * ll.length + 1 * (ll.map fun s => s.length).sum) := by
  rw [join_sum]
  have h1 := putN_len10 hn
  have h2 := sum_lin (l := ll) (f := fun s => (putB s).length) (g := fun s => s.length) 10 1 (fun s hs => by have := putB_le (h s hs); omega)
  omega
theorem joinTx_le {t : List (List UInt8)} (h : txN t < 1000000) : (joinL t).length ≤ 10 + 29 * txN t := by
  have hm : ∀ x ∈ t, x.length < 18446744073709551616 := fun x hx => by
    have := sum_mem (f := fun s : List UInt8 => 1 + s.length / 20) hx
    unfold txN at h; omega
  have hn : t.length ≤ txN t := sum_len (f := fun s : List UInt8 => 1 + s.length / 20) (fun x _ => by omega)
  have h1 := join_le (by omega) hm
  have h2 := sum_lin (l := t) (f := fun s => s.length + 10) (g := fun s => 1 + s.length / 20) 0 29 (fun s _ => by omega)
  have e : (t.map fun s => s.length + 10).sum = (t.map fun s => s.length).sum + 10 * t.length := by
    clear h1 h2 hm hn h
    induction t with
    | nil => rfl
    | cons v l ih => rw [List.map_cons, List.map_cons, List.sum_cons, List.sum_cons, List.length_cons, ih]; omega
  unfold txN at *
  omega
theorem resB_le {r : Res} (hw : WfRes r) (h : resN r < 1000) : (resB r).length ≤ 1000020 * resN r ∧ FitsL r.rows := by
  have hn : r.rows.length + 1 ≤ resN r := by
    have := sum_len (f := rowN) (l := r.rows) (fun x _ => by unfold rowN; omega)
    unfold resN; omega
  have hl : ∀ l ∈ r.rows, (∀ v ∈ l, VOk v) ∧ tot l ≤ 1000000 := fun l hl => by
    have h1 := sum_mem (f := rowN) hl
    have h2 := tot_le l
    unfold resN at h
    exact ⟨hw.2 l hl, by omega⟩
  refine ⟨?_, fits_of ⟨by omega, hl⟩⟩
  have h1 := many_len r.rows hl
  have h2 : (manyB r.rows).length ≤ 10 + r.rows.length * 1000020 := by
    unfold manyB
    split
    · unfold joinL
      rw [List.length_append]
      have := putN_len10 (n := (r.rows.map encB).length) (by rw [List.length_map]; omega)
      omega
    · exact Nat.zero_le _
  have h3 := putN_len10 (n := r.n.toNat) (by have := hw.1; omega)
  have h4 := putB_le (s := manyB r.rows) (by omega)
  unfold resB
  rw [List.length_append]
  omega
theorem outB_le {o : Out} (hw : WfOut o) (h : outN o < 850) : (outB o).length ≤ 30 + 1000020 * outN o ∧ FitsO o := by
  obtain ⟨⟨he, ha⟩, hw⟩ := hw
  have hr : ∀ r ∈ o.l, resN r < 1000 := fun r hr => by have := sum_mem (f := resN) hr; unfold outN at h; omega
  have hn : o.l.length ≤ outN o := sum_len (f := resN) (l := o.l) (fun x _ => by unfold resN; omega)
  have h1 := sum_lin (l := o.l) (f := fun r => (resB r).length) (g := resN) 0 1000020 (fun r hr' => by have := (resB_le (hw r hr') (hr r hr')).1; omega)
  have h2 : (outB o).length ≤ 30 + 1000020 * outN o := by
    unfold outB hdB
    rw [List.length_append, List.length_append, List.length_append, List.length_flatMap]
    have k1 := putN_len10 (n := o.e.toNat) (by omega)
    have k2 := putN_len10 (n := o.at_.toNat) (by omega)
    have k3 := putN_len10 (n := o.l.length) (by omega)
    unfold outN at *
    omega
  exact ⟨h2, fun r hr' => ⟨(resB_le (hw r hr') (hr r hr')).2, (hw r hr').1⟩, by omega, by omega⟩
/-- A block that is not big. -/
theorem fits_small {b : Bk} (hw : WfB b) (hk : bkbk b ≤ 1048576) (h : bigN b < 800) : FitsB b := by
  obtain ⟨-, hw1, hw2⟩ := hw
  have hb : bigN b = baseN b + (b.txs.map txN).sum + (b.outs.map outN).sum := rfl
  have hbase : baseN b = b.proof.length / 20 + b.txs.length + b.outs.length := rfl
  have ho : ∀ o ∈ b.outs, outN o < 850 := fun o ho => by have := sum_mem (f := outN) ho; omega
  have ht : ∀ t ∈ b.txs, txN t < 1000000 := fun t ht => by have := sum_mem (f := txN) ht; omega
  have h1 := sum_lin (l := b.outs) (f := fun o => (outB o).length) (g := outN) 30 1000020 (fun o ho' => by have := (outB_le (hw2 o ho') (ho o ho')).1; omega)
  have h2 := sum_lin (l := b.txs) (f := fun t => (joinL t).length) (g := txN) 10 29 (fun t ht' => by have := joinTx_le (ht t ht'); omega)
  have e1 : ((outsB b).map fun s => s.length).sum = (b.outs.map fun o => (outB o).length).sum := by unfold outsB; rw [List.map_map]; rfl
  have e2 : ((txsB b).map fun s => s.length).sum = (b.txs.map fun t => (joinL t).length).sum := by unfold txsB; rw [List.map_map]; rfl
  have l1 : (outsB b).length = b.outs.length := by unfold outsB; rw [List.length_map]
  have l2 : (txsB b).length = b.txs.length := by unfold txsB; rw [List.length_map]
  have j1 := join_le (ll := outsB b) (by omega) (fun x hx => by
    have := sum_mem (f := fun s : List UInt8 => s.length) hx
    omega)
  have j2 := join_le (ll := txsB b) (by omega) (fun x hx => by
    have := sum_mem (f := fun s : List UInt8 => s.length) hx
    omega)
  have hbk : bkbk b = (b.last.length + 1) + ((b.prev.length + 1) + ((b.next.length + 1) + (((b.txs.map txbk).sum + 1) + (((b.outs.map outbk).sum + 1) + (b.proof.length + 1))))) + 2 := rfl
  refine ⟨hw1, fun o ho' => (outB_le (hw2 o ho') (ho o ho')).2, ?_⟩
  have n0 := putN_len10 (n := b.num.toNat) (by omega)
  have n7 : (putN (partsB b).length).length ≤ 10 := putN_len10 (n := 7) (by decide)
  unfold blockB
  rw [join_sum]
  unfold partsB at n7 ⊢
  have b0 := putB_le (s := putN b.num.toNat) (by omega)
  have b1 := putB_le (s := b.last) (by omega)
  have b2 := putB_le (s := b.prev) (by omega)
  have b3 := putB_le (s := b.next) (by omega)
  have b4 := putB_le (s := joinL (txsB b)) (by omega)
  have b5 := putB_le (s := joinL (outsB b)) (by omega)
  have b6 := putB_le (s := b.proof) (by omega)
  simp only [List.map_cons, List.map_nil, List.sum_cons, List.sum_nil]
  omega
/-- A block with nothing in it. -/
theorem fits_bare {b : Bk} (hn : b.num ≤ 9223372036854775807) (h1 : b.last.length ≤ 1000000) (h2 : b.prev.length ≤ 1000000) (h3 : b.next.length ≤ 1000000) (ht : b.txs = []) (ho : b.outs = []) (hp : b.proof = []) : FitsB b := by
  refine ⟨hn, fun o h => (by rw [ho] at h; cases h), ?_⟩
  have n0 := putN_len10 (n := b.num.toNat) (by omega)
  have n7 : (putN (partsB b).length).length ≤ 10 := putN_len10 (n := 7) (by decide)
  unfold blockB
  rw [join_sum]
  unfold partsB txsB outsB at n7 ⊢
  rw [ht, ho, hp, List.map_nil, List.map_nil] at n7 ⊢
  have e : (joinL []).length = 1 := by decide
  have b0 := putB_le (s := putN b.num.toNat) (by omega)
  have b1 := putB_le (s := b.last) (by omega)
  have b2 := putB_le (s := b.prev) (by omega)
  have b3 := putB_le (s := b.next) (by omega)
  have b4 := putB_le (s := joinL []) (by omega)
  have b6 := putB_le (s := ([] : List UInt8)) (by decide)
  rw [e] at b4
  rw [show ([] : List UInt8).length = 0 from rfl] at b6
  simp only [List.map_cons, List.map_nil, List.sum_cons, List.sum_nil]
  omega
end Go.Proofs.YtejbljopighenaaDoor
