/- law17: put, known. The walk of the law StoreUndoes. What the rows' list of package variables gives: the tables of digest. What is done to a store, that came in, opened. No walk here. -/
import Derived.Test.YtdlljmmgkoeilaaDoorG23
import Derived.Test.YtdlljmmgkoeilaaDoorG20
import Derived.Test.YtdlljmmgkoeilaaDoorRows
import Derived.Lib.LaidTab
import Derived.MakeChecks
import Derived.Test.YtdlljmmgkoeilaaDoorG21
namespace Go.Proofs.YtdlljmmgkoeilaaDoor
open Go.RowKit
set_option maxRecDepth 100000 in
set_option maxHeartbeats 1000000 in
theorem put17_any (k v : UInt8) (gs : List (Option Nat)) (W : World) (hgs : ∀ b, some b ∈ gs → b < W.heap.size) :
    Calls Tryd.prog 25 #[.int .u8 (k.toNat : Int), .int .u8 (v.toNat : Int)] W fun e W' => ∃ cs, e = .returned (.agg cs.toArray) ∧ RdL W' (Fr W W') (dDo ⟨2, [k], [v], 0⟩) cs ∧ Below W.heap.size W W' := by
  refine calls_ev (args := [.int .u8 (k.toNat : Int), .int .u8 (v.toNat : Int)]) mixed Tryd.func25 rfl (by kernel_rfl) ?_
  have M := St.start hgs
  refine s_alloc (zDo) M al_do ?_
  clear M
  rintro g4 W M
  refine s_bslice (bvs [k]) (fr := true) (ds := (bvs [k]).map D.v) M slb (zs := [.int .u8 0]) (by kernel_rfl) rfl (by decide) rfl (RdL.ofvals _) rfl ?_
  clear M; rintro g6 W M
  refine s_bslice (bvs [v]) (fr := true) (ds := (bvs [v]).map D.v) M slb (zs := [.int .u8 0]) (by kernel_rfl) rfl (by decide) rfl (RdL.ofvals _) rfl ?_
  clear M; rintro g8 W M
  refine p_build (vs := [.int .i64 2, .slice (some ⟨g6, 0, none⟩) 1 1, .slice (some ⟨g8, 0, none⟩) 1 1, .int .i64 0]) pl_do z_do rfl ?_
  refine s_storeA 0 [.int .i64 2, .slice (some ⟨g6, 0, none⟩) 1 1, .slice (some ⟨g8, 0, none⟩) 1 1, .int .i64 0] M rfl sz_do rfl rfl rfl (all1 rfl) rfl ?_
  clear M; rintro W M
  dsimp only [setL] at M
  refine c_loadN [.int .i64 2, .slice (some ⟨g6, 0, none⟩) 1 1, .slice (some ⟨g8, 0, none⟩) 1 1, .int .i64 0] agg_do rfl rfl (M.run 0 rfl) ?_
  exact ⟨_, rfl, RdL.cons (RdD.ofv _) (RdL.cons (M.finF1 1 rfl) (RdL.cons (M.finF1 0 rfl) (RdL.cons (RdD.ofv _) RdL.nil_))), M.below⟩
section
variable {w W : World} {gs : List (Option Nat)} {l : List SEn} {L : Lc} {R : List Row} {fs : List Fact} {g : Nat} {t : Nd} {ss : List Nd}
theorem StN.callF {W' : World} (h : StN w gs W l L R fs) (hb : Below W.heap.size W W') {ds : List D} {cs : List Value} (hr : RdL W' (Fr W W') ds cs) : StN w gs W' l L R (.dat true ds cs :: fs) := by
  obtain ⟨L', R', fs', M, hsub, hN, -⟩ := h.open_
  exact hN W' [.dat true ds cs] (M.callF hb hr)
/-- Something by itself is done to the first one. -/
theorem doneN1 (h : StN w gs W (⟨g, t, ss, true⟩ :: l) L R fs) (hz : sz t < 500000) {fr : Bool} {d : Do} {cs : List Value} (hm : Fact.dat fr (dDo d) cs ∈ fs) (hk : d.kind ≤ 4) (hdl : d.key.length + d.val.length ≤ 500000) :
    Calls Tryd.prog 9 #[.pointer (some ⟨g, 0, none⟩), .agg cs.toArray] W fun e W' => (∃ v, e = .returned v) ∧ StN w gs W' (⟨g, if d.kind ≤ 4 then stepT t d.kind d.key d.val else t, ss, true⟩ :: l) L R fs := by
  obtain ⟨L', R', fs', ⟨A, c0, xs, hS⟩, hsub, hG, -⟩ := h.headG
  obtain ⟨p, Am, nm, cm, M⟩ := id hS
  have hd : RdL W (Ft w W (own ((g, 74, pcN t p ++ [.slice A ss.length c0, .slice Am nm cm]) :: L') (⟨71, 6, A, ss.length, c0, xs⟩ :: R') gs) fr) (dDo d) cs := M.fct (.dat fr (dDo d) cs) (List.mem_cons_of_mem _ (List.mem_cons_of_mem _ (hsub _ hm)))
  refine (done_any hS hz (hd.to fun b q => ⟨rfl, q.1, q.2.1⟩) hdl hk).mono ?_
  rintro e W' ⟨he, hS'⟩
  exact ⟨he, hG W' g _ ss [] ⟨A, c0, xs, hS'⟩⟩
theorem getN (h : StN w gs W (⟨g, t, ss, false⟩ :: l) L R fs) (hz : sz t ≤ 1000000) {fr : Bool} {key : List UInt8} {A : Option Addr} {n c : Nat} (hm : Fact.dat fr [dB key] [.slice A n c] ∈ fs) :
    Calls Tryd.prog 26 #[.pointer (some ⟨g, 0, none⟩), .slice A n c] W fun e W' => ∃ A' n' c', e = .returned (.tuple #[.slice A' n' c', .bool (tGet t key).has, .int .i64 (tGet t key).e]) ∧ StN w gs W' (⟨g, t, ss, false⟩ :: l) L R (.dat false [dB (tGet t key).v] [.slice A' n' c'] :: fs) := by
  obtain ⟨L', R', fs', ⟨A0, c0, hS⟩, hsub, -, hF⟩ := h.headF
  obtain ⟨p, Am, nm, cm, M⟩ := id hS
  have hd : RdL W (Ft w W (own ((g, 74, pcN t p ++ [.slice A0 ss.length c0, .slice Am nm cm]) :: L') R' gs) fr) [dB key] [.slice A n c] := M.fct (.dat fr [dB key] [.slice A n c]) (List.mem_cons_of_mem _ (List.mem_cons_of_mem _ (hsub _ hm)))
  refine (sGet_any hS hz (hd.to fun b q => ⟨rfl, q.1, q.2.1⟩).hd).mono ?_
  rintro e W' ⟨A', n', c', rfl, hS'⟩
  refine ⟨A', n', c', rfl, hF W' g t ss [.dat false [dB (tGet t key).v] [.slice A' n' c']] ⟨A0, c0, hS'.fsub ?_⟩⟩
  intro f hf
  simp only [List.mem_cons, List.cons_append, List.nil_append] at hf ⊢
  rcases hf with h | h | h <;> simp [h]
end
theorem rd_noneN (W : World) (F : Nat → Prop) : RdL W F (dN noneN) zN := RdL.ofnode (t := noneN) (RdD.nil_ (s := 1) none 0) (RdD.nil_ (s := 1) none 0) (RdD.nil_ (s := 6) none 0) (RdD.nil_ (s := 1) none 0)
def ka17 : Nd := if (2 : Int) ≤ 4 then stepT noneN 2 [1] [7] else noneN
def kb17 : Nd := if (2 : Int) ≤ 4 then stepT ka17 2 [2] [8] else ka17
theorem k17c : checkE noneN = 0 := by decide +kernel
theorem k17a : sz ka17 ≤ 10000 := by decide +kernel
theorem k17h2 : (tGet ka17 [2]).has = false := by decide +kernel
theorem k17h1 : (tGet ka17 [1]).has = true := by decide +kernel
theorem k17v : (tGet ka17 [1]).v = [7] := by decide +kernel
set_option maxRecDepth 100000 in
set_option maxHeartbeats 4000000 in
theorem known17_any (gs : List (Option Nat)) (w : World) (hgs : ∀ b, some b ∈ gs → b < w.heap.size) : Calls Tryd.prog 8 #[] w fun e w' => e = .returned (.bool true) ∧ Below w.heap.size w w' := by
  refine calls_ev (args := []) mixed Tryd.func8 rfl (by kernel_rfl) ?_
  have M := StN.nil ((St.start hgs).addL (rd_noneN w _))
  refine p_build (vs := zN) pl_nd z_nd rfl ?_
  refine cc is_sNew (newN M (t := noneN) (fr := false) (by simp) (by decide +kernel)) ?_
  clear M
  rintro e W (⟨h0, -⟩ | ⟨-, g, rfl, M⟩)
  · exact absurd k17c h0
  refine ⟨_, rfl, ?_⟩
  refine p_ne rfl rfl (fun _ => ?_) (fun h => absurd rfl h)
  refine p_peq isp_sto rfl rfl ?_
  obtain ⟨os, h1, -, -⟩ := M.dam (fr := false) (ds := dN noneN) (cs := zN) (by simp)
  refine cc is_put17 (put17_any 1 7 os _ h1) ?_
  rintro e W ⟨cs, rfl, hr, hb⟩
  replace M := M.callF hb hr
  clear hb hr h1 os
  refine ⟨_, rfl, ?_⟩
  refine cc is_done (doneN1 M (by decide +kernel) (d := ⟨2, [1], [7], 0⟩) (cs := cs) (fr := true) (by simp) (by decide) (by decide)) ?_
  clear M
  rintro e W ⟨⟨v, rfl⟩, M⟩
  refine ⟨_, rfl, ?_⟩
  change StN w gs W (⟨g, ka17, [], true⟩ :: []) [] [] _ at M
  refine cc is_sSave (saveN M (by decide)) ?_
  clear M
  rintro e W ⟨rfl, M⟩
  refine ⟨_, rfl, ?_⟩
  obtain ⟨os, h1, -, -⟩ := M.dam (fr := false) (ds := dN noneN) (cs := zN) (by simp)
  refine cc is_put17 (put17_any 2 8 os _ h1) ?_
  rintro e W ⟨cs, rfl, hr, hb⟩
  replace M := M.callF hb hr
  clear hb hr h1 os
  refine ⟨_, rfl, ?_⟩
  refine cc is_done (doneN1 M (by have := k17a; omega) (d := ⟨2, [2], [8], 0⟩) (cs := cs) (fr := true) (by simp) (by decide) (by decide)) ?_
  clear M
  rintro e W ⟨⟨v, rfl⟩, M⟩
  refine ⟨_, rfl, ?_⟩
  change StN w gs W (⟨g, kb17, [ka17], true⟩ :: []) [] [] _ at M
  replace M := M.frz
  refine cc is_sUndo (undoN (ss := []) M (by decide)) ?_
  clear M
  rintro e W ⟨rfl, M⟩
  refine ⟨_, rfl, ?_⟩
  obtain ⟨L', R', fs', M0, hsub, hN, -⟩ := M.open_
  refine s_bslice (bvs [2]) (fr := true) (ds := (bvs [2]).map D.v) M0 slb (zs := [.int .u8 0]) (by kernel_rfl) rfl (by decide) rfl (RdL.ofvals _) rfl ?_
  clear M0 M; rintro g3 W M0
  have M := hN W [.dat true [dB [2]] [.slice (some ⟨g3, 0, none⟩) 1 1]] M0
  clear M0 hN hsub
  have cg := getN M (by have := k17a; omega) (fr := true) (key := [2]) (A := some ⟨g3, 0, none⟩) (n := 1) (c := 1) (by simp)
  rw [k17h2] at cg
  refine cc is_sGet cg ?_
  clear M cg
  rintro e W ⟨A1, n1, c1, rfl, M⟩
  refine ⟨_, rfl, ?_⟩
  obtain ⟨L', R', fs', M0, hsub, hN, -⟩ := M.open_
  refine s_bslice (bvs [1]) (fr := true) (ds := (bvs [1]).map D.v) M0 slb (zs := [.int .u8 0]) (by kernel_rfl) rfl (by decide) rfl (RdL.ofvals _) rfl ?_
  clear M0 M; rintro g4 W M0
  have M := hN W [.dat true [dB [1]] [.slice (some ⟨g4, 0, none⟩) 1 1]] M0
  clear M0 hN hsub
  have cg := getN M (by have := k17a; omega) (fr := true) (key := [1]) (A := some ⟨g4, 0, none⟩) (n := 1) (c := 1) (by simp)
  rw [k17h1, k17v] at cg
  refine cc is_sGet cg ?_
  clear M cg
  rintro e W ⟨A2, n2, c2, rfl, M⟩
  refine ⟨_, rfl, ?_⟩
  refine cc is_sUndo (undoN0 M) ?_
  clear M
  rintro e W ⟨rfl, M⟩
  refine ⟨_, rfl, ?_⟩
  refine p_eq rfl rfl (fun _ => ?_) (fun h => absurd rfl h)
  refine p_eq rfl rfl (fun _ => ?_) (fun h => absurd rfl h)
  refine p_not rfl ?_
  obtain ⟨L', R', fs', M0, hsub, hN, -⟩ := M.open_
  refine s_bslice (bvs [7]) (fr := true) (ds := (bvs [7]).map D.v) M0 slb (zs := [.int .u8 0]) (by kernel_rfl) rfl (by decide) rfl (RdL.ofvals _) rfl ?_
  clear M0 M; rintro g5 W M0
  have M := hN W [.dat true [dB [7]] [.slice (some ⟨g5, 0, none⟩) 1 1]] M0
  clear M0 hN hsub
  obtain ⟨q, hq, hc⟩ := same_tf (c1 := c2) (c2 := 1) (M.rdm (fr := false) (b := [7]) (A := A2) (n := n2) (c := c2) (by simp)) (M.rdm (fr := true) (b := [7]) (A := some ⟨g5, 0, none⟩) (n := 1) (c := 1) (by simp))
  obtain rfl := hq.2 rfl
  refine cc is_same0 hc ?_
  rintro e W' ⟨rfl, rfl⟩
  refine ⟨_, rfl, ?_⟩
  clear hq hc
  refine p_eq rfl rfl (fun _ => ?_) (fun h => absurd rfl h)
  refine cc is_sSaves (savesN M) ?_
  rintro e W' ⟨rfl, rfl⟩
  refine ⟨_, rfl, ?_⟩
  refine p_eq rfl rfl (fun _ => ?_) (fun h => absurd rfl h)
  exact ⟨rfl, M.below⟩
end Go.Proofs.YtdlljmmgkoeilaaDoor
namespace Go.Proofs.YtdlljmmgkoeilaaDoor
open Go.RowKit
section
variable {w W : World} {gs : List (Option Nat)} {l : List SEn} {L : Lc} {R : List Row} {fs : List Fact} {g : Nat} {t : Nd} {ss : List Nd}
theorem StN.dams (h : StN w gs W l L R fs) : ∃ os, (∀ b, some b ∈ os → b < W.heap.size) ∧ (∀ fr ds cs, Fact.dat fr ds cs ∈ fs → RdL W (Fd W os) ds cs) ∧ (GL w gs → GL W os) := by
  obtain ⟨bs, e, M⟩ := h
  refine ⟨_, M.olt, fun fr ds cs hm => ?_, fun hG => M.gl hG⟩
  have h : RdL W (Ft w W _ fr) ds cs := M.fct _ (List.mem_append_right _ hm)
  exact h.to fun b q => ⟨rfl, q.1, q.2.1⟩
theorem StN.blk (h : StN w gs W l L R fs) {T : TypeId} {cs : List Value} (hm : (g, T, cs) ∈ L) : Blk W g T cs := by
  obtain ⟨bs, e, M⟩ := h
  exact (M.blk _ (List.mem_append_right _ hm)).1
theorem StN.run (h : StN w gs W l L R fs) {T : TypeId} {cs : List Value} (hm : (g, T, cs) ∈ L) : ∀ j v, cs[j]? = some v → W.cell? ((⟨g, 0, none⟩ : Addr).add j) = some v := (h.blk hm).run 0 _ fun j v h => by rw [Nat.zero_add]; exact h
end
theorem bigN_no {t : Nd} {l : List Do} (h : false = decide (bigN t l)) : sz t ≤ 16500 ∧ doN l < 300 ∧ l.length ≤ 60 := by
  have h := of_decide_eq_false h.symm
  unfold bigN at h
  have h1 : muchP t 300 < 300 := by omega
  have := much_sz t 300 h1
  exact ⟨by omega, by omega, by omega⟩

set_option maxRecDepth 100000 in
set_option maxHeartbeats 4000000 in
theorem storeUndoes_walk (w : World) (hG : GL w []) {t : Nd} {cs : List Value} (hr : RdL w (Fd w []) (dN t) cs) (hz : sz t ≤ 1048576) {A1 : Option Addr} {n1 c1 : Nat} {a : List Do} (g1 : RdD w (Fd w []) (dDl a) (.slice A1 n1 c1)) (b1 : (a.map fun t => t.key.length + t.val.length + 4).sum ≤ 1048576)
    {A2 : Option Addr} {n2 c2 : Nat} {b : List Do} (g2 : RdD w (Fd w []) (dDl b) (.slice A2 n2 c2)) (b2 : (b.map fun t => t.key.length + t.val.length + 4).sum ≤ 1048576) :
    Calls Tryd.prog 5 #[.agg cs.toArray, .slice A1 n1 c1, .slice A2 n2 c2] w (RetTrue w) := by
  refine calls_ev (args := [.agg cs.toArray, .slice A1 n1 c1, .slice A2 n2 c2]) mixed Tryd.func5 rfl (by kernel_rfl) ?_
  have hcl := hr.len
  rw [dN_len] at hcl
  have en1 : n1 = a.length := g1.slen
  have en2 : n2 = b.length := g2.slen
  subst en1; subst en2
  have M := (((St.start (w := w) (gs := []) (fun b h => by cases h)).addD g2).addD g1).addL hr
  clear g1 g2 hr
  refine s_box (cs) M rfl ?_
  clear M
  rintro g3 W M
  replace M := StN.nil M
  refine v_loadN cs agg_nd rfl hcl (M.run (T := 28) (by simp)) ?_
  obtain ⟨os, h1, h2, -⟩ := M.dams
  refine cc is_long17 (long17_any t (by omega) a os _ cs _ _ _ (h2 false _ _ (by simp)) (h2 false [dDl a] _ (by simp)).hd h1 (by omega)) ?_
  rintro e W ⟨he, hb⟩
  obtain ⟨qa, hqqa⟩ : ∃ q, q = decide (bigN t a) := ⟨_, rfl⟩
  rw [← hqqa] at he
  subst he
  replace M := M.call hb
  clear hb h1 h2 os
  refine ⟨_, rfl, ?_⟩
  cases qa with
  | true =>
    refine cc is_kn17 (known17_any [] _ (fun b h => by cases h)) ?_
    rintro e W ⟨rfl, hb⟩
    replace M := M.call hb
    clear hb
    exact ⟨_, rfl, rfl, M.below⟩
  | false =>
  refine v_loadN cs agg_nd rfl hcl (M.run (T := 28) (by simp)) ?_
  obtain ⟨os, h1, h2, -⟩ := M.dams
  refine cc is_long17 (long17_any t (by omega) b os _ cs _ _ _ (h2 false _ _ (by simp)) (h2 false [dDl b] _ (by simp)).hd h1 (by omega)) ?_
  rintro e W ⟨he, hb⟩
  obtain ⟨qb, hqqb⟩ : ∃ q, q = decide (bigN t b) := ⟨_, rfl⟩
  rw [← hqqb] at he
  subst he
  replace M := M.call hb
  clear hb h1 h2 os
  refine ⟨_, rfl, ?_⟩
  cases qb with
  | true =>
    refine cc is_kn17 (known17_any [] _ (fun b h => by cases h)) ?_
    rintro e W ⟨rfl, hb⟩
    replace M := M.call hb
    clear hb
    exact ⟨_, rfl, rfl, M.below⟩
  | false =>
  obtain ⟨hzt, hda, hla⟩ := bigN_no hqqa
  obtain ⟨-, hdb, hlb⟩ := bigN_no hqqb
  refine v_loadN cs agg_nd rfl hcl (M.run (T := 28) (by simp)) ?_
  refine cc is_sNew (newN M (t := t) (fr := false) (cs := cs) (by simp) (by omega)) ?_
  clear M
  rintro e W (⟨h0, rfl, M⟩ | ⟨h0, g7, rfl, M⟩)
  · refine ⟨_, rfl, ?_⟩
    refine v_loadN cs agg_nd rfl hcl (M.run (T := 28) (by simp)) ?_
    refine cc is_sNew (newN M (t := t) (fr := false) (cs := cs) (by simp) (by omega)) ?_
    clear M
    rintro e W (⟨h0', rfl, M⟩ | ⟨h0', g9, rfl, M⟩)
    · refine ⟨_, rfl, ?_⟩
      refine p_ne rfl rfl (fun h => absurd h h0) (fun _ => ?_)
      refine cc is_kn17 (known17_any [] _ (fun b h => by cases h)) ?_
      rintro e W ⟨rfl, hb⟩
      replace M := M.call hb
      clear hb
      exact ⟨_, rfl, rfl, M.below⟩
    · exact absurd h0' h0
  refine ⟨_, rfl, ?_⟩
  refine v_loadN cs agg_nd rfl hcl (M.run (T := 28) (by simp)) ?_
  refine cc is_sNew (newN M (t := t) (fr := false) (cs := cs) (by simp) (by omega)) ?_
  clear M
  rintro e W (⟨h0', rfl, M⟩ | ⟨-, g9, rfl, M⟩)
  · exact absurd h0 h0'
  refine ⟨_, rfl, ?_⟩
  refine p_ne rfl rfl (fun _ => ?_) (fun h => absurd rfl h)
  refine p_ne rfl rfl (fun _ => ?_) (fun h => absurd rfl h)
  refine p_peq isp_sto rfl rfl ?_
  refine p_peq isp_sto rfl rfl ?_
  refine cutS Unit (fun _ W => StN w [] W [⟨g9, t, [], true⟩, ⟨g7, t, [], true⟩] [(g3, 28, cs)] [] [.dat false (dN t) cs, .dat false [dDl a] [.slice A1 a.length c1], .dat false [dDl b] [.slice A2 b.length c2]]) (fun _ => [(1, .slice A1 a.length c1), (2, .slice A2 b.length c2), (3, .pointer (some ⟨g3, 0, none⟩)), (7, .pointer (some ⟨g7, 0, none⟩)), (9, .pointer (some ⟨g9, 0, none⟩))]) ?_ ?_
  · exact ⟨(), M, (by repeat (first | exact trivial | refine ⟨rfl, ?_⟩))⟩
  clear M
  rintro - E W M
  refine cutS Unit (fun _ W => StN w [] W [⟨g9, stepsT t a, [], true⟩, ⟨g7, stepsT t a, [], true⟩] [(g3, 28, cs)] [] [.dat false (dN t) cs, .dat false [dDl a] [.slice A1 a.length c1], .dat false [dDl b] [.slice A2 b.length c2]]) (fun _ => [(1, .slice A1 a.length c1), (2, .slice A2 b.length c2), (3, .pointer (some ⟨g3, 0, none⟩)), (7, .pointer (some ⟨g7, 0, none⟩)), (9, .pointer (some ⟨g9, 0, none⟩))]) ?_ ?_
  · have e0 : stepsT t (a.take 0) = t := by rw [List.take_zero]; rfl
    refine lp Nat (fun i W => i ≤ a.length ∧ StN w [] W [⟨g9, stepsT t (a.take i), [], true⟩, ⟨g7, stepsT t (a.take i), [], true⟩] [(g3, 28, cs)] [] [.dat false (dN t) cs, .dat false [dDl a] [.slice A1 a.length c1], .dat false [dDl b] [.slice A2 b.length c2]]) (fun i => [(1, .slice A1 a.length c1), (2, .slice A2 b.length c2), (3, .pointer (some ⟨g3, 0, none⟩)), (7, .pointer (some ⟨g7, 0, none⟩)), (9, .pointer (some ⟨g9, 0, none⟩)), (11, .int .i64 i)]) (fun i => a.length - i) 0 ⟨Nat.zero_le _, by rw [e0]; exact M⟩ (by repeat (first | exact trivial | refine ⟨rfl, ?_⟩)) ?_
    clear M
    rintro i E W ⟨hi, M⟩
    refine p_len sldo rfl ?_
    refine p_lt rfl rfl (fun hlt => ?_) (fun hge => ?_)
    rotate_left
    · have hi : i = a.length := by omega
      subst hi
      rw [List.take_of_length_le (Nat.le_refl _)] at M
      exact ⟨(), M, (by repeat (first | exact trivial | refine ⟨rfl, ?_⟩))⟩
    have hlt : i < a.length := by omega
    obtain ⟨d, hd⟩ : ∃ d, a[i]? = some d := ⟨_, List.getElem?_eq_getElem hlt⟩
    have hdm := doN_mem (List.mem_of_getElem? hd)
    have hdl : d.key.length + d.val.length ≤ 500000 := by omega
    have hst := steps_snoc t a hd
    have hsz : sz (stepsT t (a.take i)) < 500000 := by
      have h1 := (steps_ok (a.take i) h0).2
      have h2 := doN_le_take a i
      omega
    obtain ⟨bb, oo, Ak, ck, Av, cv, rfl, hc⟩ := M.doL (fr := false) (ds := a) (A := A1) (n := a.length) (c := c1) (by simp) hd
    refine p_at (i := i) sldo rfl rfl rfl hlt ?_
    refine p_fld fDo0 rfl ?_
    refine v_load agg_int rfl (hc 0 _ rfl) ?_
    refine p_le rfl rfl (fun hk => ?_) (fun hk => ?_)
    · have hk : d.kind ≤ 4 := hk
      refine p_at (i := i) sldo rfl rfl rfl hlt ?_
      refine v_loadN (dcs d Ak ck Av cv) agg_do rfl rfl hc ?_
      replace M := M.rot
      refine cc is_done (doneN M hsz (fr := false) (ds := a) (b := bb) (off := oo) (n := a.length) (c := c1) (by simp) hd hk hdl hc) ?_
      clear M hc
      rintro e W ⟨⟨v, rfl⟩, M⟩
      rw [← hst] at M
      refine ⟨_, rfl, ?_⟩
      obtain ⟨b0, o0, Ak, ck, Av, cv, e0, hc⟩ := M.doL (fr := false) (ds := a) (A := some ⟨bb, oo, none⟩) (n := a.length) (c := c1) (by simp) hd
      injection e0 with e0
      injection e0 with e0 e1
      subst e0; subst e1
      refine p_at (i := i) sldo rfl rfl rfl hlt ?_
      refine v_loadN (dcs d Ak ck Av cv) agg_do rfl rfl hc ?_
      replace M := M.rot
      refine cc is_done (doneN M hsz (fr := false) (ds := a) (b := bb) (off := oo) (n := a.length) (c := c1) (by simp) hd hk hdl hc) ?_
      clear M hc
      rintro e W ⟨⟨v, rfl⟩, M⟩
      rw [← hst] at M
      refine ⟨_, rfl, ?_⟩
      refine p_addN (b := 1) rfl rfl (by omega) ?_
      exact ⟨i + 1, ⟨by omega, M⟩, (by repeat (first | exact trivial | refine ⟨rfl, ?_⟩)), by omega⟩
    · have hk : ¬ d.kind ≤ 4 := hk
      rw [if_neg hk] at hst
      rw [← hst] at M
      refine p_addN (b := 1) rfl rfl (by omega) ?_
      exact ⟨i + 1, ⟨by omega, M⟩, (by repeat (first | exact trivial | refine ⟨rfl, ?_⟩)), by omega⟩
  rintro - E W M
  have hta := (steps_ok a h0).1
  have hzta := (steps_ok a h0).2
  obtain ⟨ta, hTa⟩ : ∃ x, x = stepsT t a := ⟨_, rfl⟩
  rw [← hTa] at M hta hzta
  replace M := M.rot
  refine cc is_sHash (hashN hG M (by omega)) ?_
  clear M
  rintro e W ⟨A4, n4, c4, rfl, M⟩
  refine ⟨_, rfl, ?_⟩
  refine cc is_sSave (saveN M (by decide)) ?_
  clear M
  rintro e W ⟨rfl, M⟩
  refine ⟨_, rfl, ?_⟩
  replace M := M.rot
  refine p_ne rfl rfl (fun _ => ?_) (fun h => absurd rfl h)
  refine cc is_sSave (saveN M (by decide)) ?_
  clear M
  rintro e W ⟨rfl, M⟩
  refine ⟨_, rfl, ?_⟩
  replace M := M.rot
  refine p_ne rfl rfl (fun _ => ?_) (fun h => absurd rfl h)
  refine cc is_sRoot (rootN M (by omega)) ?_
  clear M
  rintro e W ⟨cs5, rfl, M⟩
  refine ⟨_, rfl, ?_⟩
  refine cc is_sNew (newN M (t := ta) (fr := true) (cs := cs5) (by simp) (by omega)) ?_
  clear M
  rintro e W (⟨h0', rfl, M⟩ | ⟨-, g13, rfl, M⟩)
  · exact absurd hta h0'
  refine ⟨_, rfl, ?_⟩
  refine p_ne rfl rfl (fun _ => ?_) (fun h => absurd rfl h)
  refine p_peq isp_sto rfl rfl ?_
  replace M := M.fsub (fs' := [.dat true [dB (hashR ta)] [.slice A4 n4 c4], .dat false [dDl b] [.slice A2 b.length c2]]) (by simp)
  refine cutS Unit (fun _ W => StN w [] W [⟨g13, ta, [], true⟩, ⟨g7, ta, [ta], true⟩, ⟨g9, ta, [ta], true⟩] [(g3, 28, cs)] [] [.dat true [dB (hashR ta)] [.slice A4 n4 c4], .dat false [dDl b] [.slice A2 b.length c2]]) (fun _ => [(2, .slice A2 b.length c2), (7, .pointer (some ⟨g7, 0, none⟩)), (9, .pointer (some ⟨g9, 0, none⟩)), (12, .slice A4 n4 c4), (13, .pointer (some ⟨g13, 0, none⟩))]) ?_ ?_
  · exact ⟨(), M, (by repeat (first | exact trivial | refine ⟨rfl, ?_⟩))⟩
  clear M
  rintro - E W M
  refine cutS Unit (fun _ W => StN w [] W [⟨g13, stepsT ta b, [], true⟩, ⟨g7, stepsT ta b, [ta], true⟩, ⟨g9, stepsT ta b, [ta], true⟩] [(g3, 28, cs)] [] [.dat true [dB (hashR ta)] [.slice A4 n4 c4], .dat false [dDl b] [.slice A2 b.length c2]]) (fun _ => [(7, .pointer (some ⟨g7, 0, none⟩)), (9, .pointer (some ⟨g9, 0, none⟩)), (12, .slice A4 n4 c4), (13, .pointer (some ⟨g13, 0, none⟩))]) ?_ ?_
  · have e0 : stepsT ta (b.take 0) = ta := by rw [List.take_zero]; rfl
    refine lp Nat (fun i W => i ≤ b.length ∧ StN w [] W [⟨g13, stepsT ta (b.take i), [], true⟩, ⟨g7, stepsT ta (b.take i), [ta], true⟩, ⟨g9, stepsT ta (b.take i), [ta], true⟩] [(g3, 28, cs)] [] [.dat true [dB (hashR ta)] [.slice A4 n4 c4], .dat false [dDl b] [.slice A2 b.length c2]]) (fun i => [(2, .slice A2 b.length c2), (7, .pointer (some ⟨g7, 0, none⟩)), (9, .pointer (some ⟨g9, 0, none⟩)), (12, .slice A4 n4 c4), (13, .pointer (some ⟨g13, 0, none⟩)), (15, .int .i64 i)]) (fun i => b.length - i) 0 ⟨Nat.zero_le _, by rw [e0]; exact M⟩ (by repeat (first | exact trivial | refine ⟨rfl, ?_⟩)) ?_
    clear M
    rintro i E W ⟨hi, M⟩
    refine p_len sldo rfl ?_
    refine p_lt rfl rfl (fun hlt => ?_) (fun hge => ?_)
    rotate_left
    · have hi : i = b.length := by omega
      subst hi
      rw [List.take_of_length_le (Nat.le_refl _)] at M
      exact ⟨(), M, (by repeat (first | exact trivial | refine ⟨rfl, ?_⟩))⟩
    have hlt : i < b.length := by omega
    obtain ⟨d, hd⟩ : ∃ d, b[i]? = some d := ⟨_, List.getElem?_eq_getElem hlt⟩
    have hdm := doN_mem (List.mem_of_getElem? hd)
    have hdl : d.key.length + d.val.length ≤ 500000 := by omega
    have hst := steps_snoc ta b hd
    have hsz : sz (stepsT ta (b.take i)) < 500000 := by
      have h1 := (steps_ok (b.take i) hta).2
      have h2 := doN_le_take b i
      omega
    obtain ⟨bb, oo, Ak, ck, Av, cv, rfl, hc⟩ := M.doL (fr := false) (ds := b) (A := A2) (n := b.length) (c := c2) (by simp) hd
    refine p_at (i := i) sldo rfl rfl rfl hlt ?_
    refine p_fld fDo0 rfl ?_
    refine v_load agg_int rfl (hc 0 _ rfl) ?_
    refine p_le rfl rfl (fun hk => ?_) (fun hk => ?_)
    · have hk : d.kind ≤ 4 := hk
      refine p_at (i := i) sldo rfl rfl rfl hlt ?_
      refine v_loadN (dcs d Ak ck Av cv) agg_do rfl rfl hc ?_
      replace M := M.rot
      refine cc is_done (doneN M hsz (fr := false) (ds := b) (b := bb) (off := oo) (n := b.length) (c := c2) (by simp) hd hk hdl hc) ?_
      clear M hc
      rintro e W ⟨⟨v, rfl⟩, M⟩
      rw [← hst] at M
      refine ⟨_, rfl, ?_⟩
      obtain ⟨b0, o0, Ak, ck, Av, cv, e0, hc⟩ := M.doL (fr := false) (ds := b) (A := some ⟨bb, oo, none⟩) (n := b.length) (c := c2) (by simp) hd
      injection e0 with e0
      injection e0 with e0 e1
      subst e0; subst e1
      refine p_at (i := i) sldo rfl rfl rfl hlt ?_
      refine v_loadN (dcs d Ak ck Av cv) agg_do rfl rfl hc ?_
      replace M := M.rot
      refine cc is_done (doneN M hsz (fr := false) (ds := b) (b := bb) (off := oo) (n := b.length) (c := c2) (by simp) hd hk hdl hc) ?_
      clear M hc
      rintro e W ⟨⟨v, rfl⟩, M⟩
      rw [← hst] at M
      refine ⟨_, rfl, ?_⟩
      obtain ⟨b0, o0, Ak, ck, Av, cv, e0, hc⟩ := M.doL (fr := false) (ds := b) (A := some ⟨bb, oo, none⟩) (n := b.length) (c := c2) (by simp) hd
      injection e0 with e0
      injection e0 with e0 e1
      subst e0; subst e1
      refine p_at (i := i) sldo rfl rfl rfl hlt ?_
      refine v_loadN (dcs d Ak ck Av cv) agg_do rfl rfl hc ?_
      replace M := M.rot
      refine cc is_done (doneN M hsz (fr := false) (ds := b) (b := bb) (off := oo) (n := b.length) (c := c2) (by simp) hd hk hdl hc) ?_
      clear M hc
      rintro e W ⟨⟨v, rfl⟩, M⟩
      rw [← hst] at M
      refine ⟨_, rfl, ?_⟩
      refine p_addN (b := 1) rfl rfl (by omega) ?_
      exact ⟨i + 1, ⟨by omega, M⟩, (by repeat (first | exact trivial | refine ⟨rfl, ?_⟩)), by omega⟩
    · have hk : ¬ d.kind ≤ 4 := hk
      rw [if_neg hk] at hst
      rw [← hst] at M
      refine p_addN (b := 1) rfl rfl (by omega) ?_
      exact ⟨i + 1, ⟨by omega, M⟩, (by repeat (first | exact trivial | refine ⟨rfl, ?_⟩)), by omega⟩
  rintro - E W M
  have hztb := (steps_ok b hta).2
  obtain ⟨tb, hTb⟩ : ∃ x, x = stepsT ta b := ⟨_, rfl⟩
  rw [← hTb] at M hztb
  replace M := M.rot.frz
  refine cc is_sUndo (undoN (ss := []) M (by decide)) ?_
  clear M
  rintro e W ⟨rfl, M⟩
  refine ⟨_, rfl, ?_⟩
  refine p_ne rfl rfl (fun _ => ?_) (fun h => absurd rfl h)
  replace M := M.rot.frz
  refine cc is_sKeep (keepN (ss := []) M (by decide)) ?_
  clear M
  rintro e W ⟨rfl, M⟩
  refine ⟨_, rfl, ?_⟩
  refine p_ne rfl rfl (fun _ => ?_) (fun h => absurd rfl h)
  replace M := M.rot.rot
  refine cc is_sSaves (savesN M) ?_
  rintro e W' ⟨rfl, rfl⟩
  refine ⟨_, rfl, ?_⟩
  refine p_ne rfl rfl (fun _ => ?_) (fun h => absurd rfl h)
  replace M := M.rot
  refine cc is_sSaves (savesN M) ?_
  rintro e W' ⟨rfl, rfl⟩
  refine ⟨_, rfl, ?_⟩
  refine p_ne rfl rfl (fun _ => ?_) (fun h => absurd rfl h)
  replace M := M.rot.rot
  refine cc is_sHash (hashN hG M (by omega)) ?_
  clear M
  rintro e W ⟨A5, n5, c5, rfl, M⟩
  refine ⟨_, rfl, ?_⟩
  obtain ⟨q, hq, hc⟩ := same_tf (c1 := c5) (c2 := c4) (M.rdm (fr := true) (b := hashR ta) (A := A5) (n := n5) (c := c5) (by simp)) (M.rdm (fr := true) (b := hashR ta) (A := A4) (n := n4) (c := c4) (by simp))
  obtain rfl := hq.2 rfl
  refine cc is_same0 hc ?_
  rintro e W' ⟨rfl, rfl⟩
  refine ⟨_, rfl, ?_⟩
  clear hq hc
  replace M := M.rot
  refine cc is_sHash (hashN hG M (by omega)) ?_
  clear M
  rintro e W ⟨A6, n6, c6, rfl, M⟩
  refine ⟨_, rfl, ?_⟩
  replace M := M.rot
  refine cc is_sHash (hashN hG M (by omega)) ?_
  clear M
  rintro e W ⟨A7, n7, c7, rfl, M⟩
  refine ⟨_, rfl, ?_⟩
  obtain ⟨q, hq, hc⟩ := same_tf (c1 := c6) (c2 := c7) (M.rdm (fr := true) (b := hashR tb) (A := A6) (n := n6) (c := c6) (by simp)) (M.rdm (fr := true) (b := hashR tb) (A := A7) (n := n7) (c := c7) (by simp))
  obtain rfl := hq.2 rfl
  refine cc is_same0 hc ?_
  rintro e W' ⟨rfl, rfl⟩
  refine ⟨_, rfl, ?_⟩
  clear hq hc
  refine cc is_kn17 (known17_any [] _ (fun b h => by cases h)) ?_
  rintro e W ⟨rfl, hb⟩
  replace M := M.call hb
  clear hb
  exact ⟨_, rfl, rfl, M.below⟩
end Go.Proofs.YtdlljmmgkoeilaaDoor
namespace Go.Proofs.YtdlljmmgkoeilaaDoor
open Go.RowKit Go.ChangeShapes
theorem gBegin : Tryd.prog.globalNamed "exchequer/digest.begin" = some 0 := by kernel_rfl
theorem gRoots : Tryd.prog.globalNamed "exchequer/digest.roots" = some 1 := by kernel_rfl
theorem tBegin : (Tryd.prog.globals[0]?).map (·.type) = some 131 := by kernel_rfl
theorem tRoots : (Tryd.prog.globals[1]?).map (·.type) = some 137 := by kernel_rfl
theorem cB : Tryd.prog.cellsOf 131 = 8 := by kernel_rfl
theorem cR : Tryd.prog.cellsOf 137 = 64 := by kernel_rfl
theorem cU : Tryd.prog.cellsOf 130 = 1 := by kernel_rfl
def laidL : List (String × DataW Unit) := [("exchequer/digest.begin", Rows.laid_exchequer_digest_begin), ("exchequer/digest.roots", Rows.laid_exchequer_digest_roots)]
theorem gl_of {W : World} (h : laidMetH Tryd.prog laidL W) : GL W [] := by
  rw [MakeChecks.laidMetH_plain _ _ _ (by kernel_rfl)] at h
  have hb : Lib.TabIs Tryd.prog W "exchequer/digest.begin" .u32 [1779033703, 3144134277, 1013904242, 2773480762, 1359893119, 2600822924, 528734635, 1541459225] :=
    Lib.tabIs_of_head (rest := [("exchequer/digest.roots", Rows.laid_exchequer_digest_roots)]) gBegin tBegin Tryd.underlying131 Tryd.underlying130 cU cB h
  obtain ⟨ps, ⟨g0, t0, cs0, f0, p0, q0, hg0, ht0, hv0, hd0, ⟨g1, t1, cs1, f1, p1, q1, hg1, ht1, hv1, hd1, _, _⟩, _⟩, _, _⟩ := h
  obtain rfl := Option.some.inj (gRoots.symm.trans hg1)
  obtain rfl := Option.some.inj (tRoots.symm.trans ht1)
  have hr : Lib.TabIs Tryd.prog W "exchequer/digest.roots" .u32 (List.map (fun (n : Nat) => (n : Int)) roots) := by
    unfold Lib.TabIs
    rw [hv1, ← Lib.cells_of_tab Tryd.underlying137 Tryd.underlying130 cU cR hd1]
  refine ⟨fun j hj => ?_, fun j v hv => ?_, ?_, by simp, by simp⟩
  · have := hr.cell gRoots j (by rw [List.length_map]; exact hj)
    rw [this]
    unfold cu
    congr 2
    rw [List.getD_eq_getElem?_getD, List.getD_eq_getElem?_getD, List.getElem?_map]
    have : j < roots.length := hj
    rw [List.getElem?_eq_getElem this]; rfl
  · have hj := (List.getElem?_eq_some_iff.1 hv).1
    have := hb.cell gBegin j hj
    rw [this]
    have hj8 : j = 0 ∨ j = 1 ∨ j = 2 ∨ j = 3 ∨ j = 4 ∨ j = 5 ∨ j = 6 ∨ j = 7 := by have : j < 8 := hj; omega
    rcases hj8 with rfl | rfl | rfl | rfl | rfl | rfl | rfl | rfl <;> exact hv
  · have := hr.cell gRoots 0 (by decide)
    have := World.block_lt_of_cell? W _ this
    exact this
/-- A world for the witness: the tables hold what their initialisers lay. -/
def layAt (cs : List Value) : Obj → Obj
  | .cells _ t frozen => .cells cs.toArray t frozen
  | o => o
noncomputable def laidWorld (os : Os) : World :=
  { World.holding Tryd.prog os ⟨#[], #[], []⟩ with heap := ((World.holding Tryd.prog os ⟨#[], #[], []⟩).heap.modify 0 (layAt (hc begin8))).modify 1 (layAt (roots.map cu)) }
end Go.Proofs.YtdlljmmgkoeilaaDoor
namespace Go.Proofs.YtdlljmmgkoeilaaDoor
open Go.ChangeShapes Go.WideShapes Go.ChangeAt Go.RowKit
section
variable {H : Type} {enc : TypeId × Value → H} {W : World}
theorem list4 {α : Type} {l : List α} (h : l.length = 4) : ∃ a b c d, l = [a, b, c, d] := by
  match l, h with
  | [a, b, c, d], _ => exact ⟨a, b, c, d, rfl⟩
theorem c4do : Program.cellsOf Tryd.prog 25 = 4 := by kernel_rfl
set_option maxRecDepth 100000 in
theorem do_trod (fuel : Nat) (cs : List Value) (x : DataW H × List MemPlace) (hf : DataW.trod enc Tryd.prog W 0 (fun _ => true) true fuel 25 cs = some x) (hlt : ∀ q ∈ x.2, q.block < W.heap.size) :
    ∃ t : Do, t.key.length + t.val.length + 4 ≤ Rows.uptoBulk x.1 ∧ RdL W (Fd W []) (dDo t) cs := by
  obtain ⟨xs, n, rfl, rfl, hl, hlen, hfs⟩ := DataW.trod_struct Tryd.underlying25 hf
  rw [c4do] at hl
  obtain ⟨a0, a1, a2, a3, rfl⟩ := list4 hl
  obtain ⟨y0, y1, y2, y3, rfl⟩ := list4 (show xs.length = 4 from hlen)
  have h0 : DataW.trod enc Tryd.prog W 0 (fun _ => true) true n 3 [a0] = some y0 := by have := (show DataW.trod enc Tryd.prog W 0 (fun _ => true) true n 3 (([a0, a1, a2, a3].drop 0).take (Program.cellsOf Tryd.prog 3)) = some y0 from hfs 0 _ rfl); rw [c1int] at this; exact this
  have h1 : DataW.trod enc Tryd.prog W 0 (fun _ => true) true n 23 [a1] = some y1 := by have := (show DataW.trod enc Tryd.prog W 0 (fun _ => true) true n 23 (([a0, a1, a2, a3].drop 1).take (Program.cellsOf Tryd.prog 23)) = some y1 from hfs 1 _ rfl); rw [c1bytes] at this; exact this
  have h2 : DataW.trod enc Tryd.prog W 0 (fun _ => true) true n 23 [a2] = some y2 := by have := (show DataW.trod enc Tryd.prog W 0 (fun _ => true) true n 23 (([a0, a1, a2, a3].drop 2).take (Program.cellsOf Tryd.prog 23)) = some y2 from hfs 2 _ rfl); rw [c1bytes] at this; exact this
  have h3 : DataW.trod enc Tryd.prog W 0 (fun _ => true) true n 3 [a3] = some y3 := by have := (show DataW.trod enc Tryd.prog W 0 (fun _ => true) true n 3 (([a0, a1, a2, a3].drop 3).take (Program.cellsOf Tryd.prog 3)) = some y3 from hfs 3 _ rfl); rw [c1int] at this; exact this
  have hq : ∀ y ∈ [y0, y1, y2, y3], ∀ q ∈ y.2, q.block < W.heap.size := fun y hy q hq => hlt q (List.mem_flatMap.2 ⟨y, hy, hq⟩)
  obtain ⟨m0, e0, rfl, _⟩ := DataW.trod_int Tryd.underlying3 h0
  obtain ⟨k, u1, e1, r1, b1⟩ := bytes_trod h1 (hq y1 (by simp))
  obtain ⟨v, u2, e2, r2, b2⟩ := bytes_trod h2 (hq y2 (by simp))
  obtain ⟨m3, e3, rfl, _⟩ := DataW.trod_int Tryd.underlying3 h3
  injection e0 with e0
  injection e1 with e1
  injection e2 with e2
  injection e3 with e3
  subst e0; subst e1; subst e2; subst e3
  refine ⟨⟨m0, k, v, m3⟩, ?_, RdL.cons (RdD.ofv _) (RdL.cons r1 (RdL.cons r2 (RdL.cons (RdD.ofv _) RdL.nil_)))⟩
  show k.length + v.length + 4 ≤ 1 + (Rows.uptoBulk y1.1 + (Rows.uptoBulk y2.1 + (1 + 0))) + 1
  omega
set_option maxRecDepth 100000 in
/-- A row of them that came in. -/
theorem dos_open {base : Nat} {v : Value} {d : DataW H} {p : List MemPlace} (hv : Value.okWide Tryd.prog W .any base 32 v)
    (h : DataW.Trod enc Tryd.prog W 0 (fun _ => true) true 32 v d p) : ∃ A n c l, v = .slice A n c ∧ RdD W (Fd W []) (dDl l) (.slice A n c) ∧ (l.map fun t => t.key.length + t.val.length + 4).sum + 1 ≤ Rows.uptoBulk d := by
  obtain ⟨a0, len, cap, rfl⟩ := okWide_slice Tryd.underlying32 hv
  have hlt : ∀ x ∈ p, x.block < W.heap.size := by obtain ⟨m, hm⟩ := h; exact DataW.trod_lt m _ _ _ hm
  obtain ⟨fuel, hf⟩ := h
  obtain ⟨A, m, c, ks, ds, rest, e4, hd4, l1, l2, hP, r4⟩ := trod_elts (x := (d, p)) dDo 4 (fun _ => rfl) (by decide) (P := fun d (t : Do) => t.key.length + t.val.length + 4 ≤ Rows.uptoBulk d) Tryd.underlying32 c4do hf hlt (fun m cs' y hm hy hyq => do_trod m cs' y hy hyq)
  simp [Value.cells] at e4
  obtain ⟨rfl, rfl, rfl⟩ := e4
  have hks := bulk_sums (fun t : Do => t.key.length + t.val.length + 4) ks ds l2 (fun i l d a b => hP i l d a b)
  refine ⟨_, _, _, ks, rfl, by rw [← l1] at r4 ⊢; exact r4, ?_⟩
  dsimp only at hd4
  rcases hd4 with h | ⟨h, e⟩
  · rw [h]
    show _ ≤ Rows.uptoBulkAll ds + Rows.uptoBulkAll rest + 1
    omega
  · rw [h]
    rw [e] at hks
    have : Rows.uptoBulkAll ([] : List (DataW H)) = 0 := rfl
    show _ ≤ 1
    omega
end
end Go.Proofs.YtdlljmmgkoeilaaDoor
