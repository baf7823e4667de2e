/- Package reveal: Shut, agrees, Agrees. Package reveal: laid, open, Open, nearest. -/
import Derived.Test.YtojjfkbffjkojaaDoorG17
import Derived.Test.YtojjfkbffjkojaaDoorG21
namespace Go.Proofs.YtojjfkbffjkojaaDoor
open Go.RowKit
/-- A copy, its kids a row. -/
theorem St.callC {w W W' : World} {gs : List (Option Nat)} {L : Lc} {R : List Row} {fs : List Fact} (M : St w gs W L R fs) (hb : Below W.heap.size W W') {t : Nd} {Ap Av Ak Ah : Option Addr} {cp cv ck ch : Nat} {xs : List Value}
    (hrow : W'.ownsRow W.heap.size 26 6 (.slice Ak t.kids.length ck) t.kids.length xs) (hxs : RdL W' (Fz W.heap.size W' [bk Ak]) (dNs t.kids) xs)
    (h1 : RdD W' (Fz W.heap.size W' [bk Ak]) (dB t.path) (.slice Ap t.path.length cp)) (h2 : RdD W' (Fz W.heap.size W' [bk Ak]) (dB t.val) (.slice Av t.val.length cv)) (h3 : RdD W' (Fz W.heap.size W' [bk Ak]) (dB t.hash) (.slice Ah t.hash.length ch)) :
    St w gs W' L (⟨26, 6, Ak, t.kids.length, ck, xs⟩ :: R) (.dat true (dNs t.kids) xs :: .dat true [dB t.path] [.slice Ap t.path.length cp] :: .dat true [dB t.val] [.slice Av t.val.length cv] :: .dat true [dB t.hash] [.slice Ah t.hash.length ch] :: fs) := by
  have hol := M.olt
  have hms := M.size
  have M1 := M.callR (r := ⟨26, 6, Ak, t.kids.length, ck, xs⟩) hb hrow
  have hF : ∀ b, Fz W.heap.size W' [bk Ak] b → W'.heap[b]? = W'.heap[b]? ∧ Ft w W' (own L (⟨26, 6, Ak, t.kids.length, ck, xs⟩ :: R) gs) true b := fun b q => ⟨rfl, q.2.1, fun e => by
    unfold own at e hol
    rcases List.mem_append.1 e with e | e
    · have := hol b (List.mem_append_left _ e); have := q.1; omega
    rcases List.mem_append.1 e with e | e
    · rw [List.map_cons] at e
      rcases List.mem_cons.1 e with e | e
      · exact q.2.2.1 (by rw [e]; exact List.mem_cons_self ..)
      · have := hol b (List.mem_append_right _ (List.mem_append_left _ e)); have := q.1; omega
    · have := hol b (List.mem_append_right _ (List.mem_append_right _ e)); have := q.1; omega, fun _ => ⟨Nat.le_trans hms q.1, q.2.2.2⟩⟩
  exact (((M1.addT (fr := true) (RdL.one (h3.to hF))).addT (fr := true) (RdL.one (h2.to hF))).addT (fr := true) (RdL.one (h1.to hF))).addT (fr := true) (hxs.to hF)
def shutK (t : Nd) : Nd := .mk t.kind t.path t.has t.val (t.kids.map foldN) t.hash
theorem is_vshut : isFn Tryd.prog 81 = true := by kernel_rfl
set_option maxRecDepth 100000 in
set_option maxHeartbeats 4000000 in
theorem vshut_any (t : Nd) (ht : sz t ≤ 1000000) (gs : List (Option Nat)) (w : World) (cs : List Value) (hG : GL w gs) (hr : RdL w (Fd w gs) (dN t) cs) (hgs : ∀ b, some b ∈ gs → b < w.heap.size) :
    Calls Tryd.prog 81 #[.agg cs.toArray] w fun e w' => ∃ cs', e = .returned (.agg cs'.toArray) ∧ RdL w' (Fr w w') (dN (shutK t)) cs' ∧ Below w.heap.size w w' := by
  refine calls_ev (args := [.agg cs.toArray]) mixed Tryd.func81 rfl (by kernel_rfl) ?_
  have hl0 := hr.len
  rw [dN_len] at hl0
  have hsz := sz_eq t
  have hsl := szs_len t.kids
  have M := (St.start hgs).addL hr
  clear hr
  refine s_box (cs) M rfl ?_
  clear M
  rintro g1 W M
  refine s_alloc (zN) M al_nd ?_
  clear M
  rintro g2 W M
  refine v_loadN cs agg_nd rfl hl0 (M.run 1 rfl) ?_
  refine cc is_ncopy (ncopyR_any t (by omega) _ _ _ (M.da 0 rfl) M.olt) ?_
  rintro e W ⟨Ap, cp, Av, cv, Ak, ck, Ah, ch, xs, rfl, hrow, hxs, ⟨h1, h2, h3⟩, hb⟩
  replace M := M.callC hb hrow hxs h1 h2 h3
  clear hrow hxs h1 h2 h3 hb
  refine ⟨_, rfl, ?_⟩
  refine s_alloc (zN) M al_nd ?_
  clear M
  rintro g3 W M
  first | refine s_storeA 0 (ncs t Ap cp Av cv Ak ck Ah ch) M rfl (by kernel_rfl) rfl rfl rfl (all1 rfl) rfl ?_ | refine s_storeA 1 (ncs t Ap cp Av cv Ak ck Ah ch) M rfl (by kernel_rfl) rfl rfl rfl (all1 rfl) rfl ?_ | refine s_storeA 2 (ncs t Ap cp Av cv Ak ck Ah ch) M rfl (by kernel_rfl) rfl rfl rfl (all1 rfl) rfl ?_ | refine s_storeA 3 (ncs t Ap cp Av cv Ak ck Ah ch) M rfl (by kernel_rfl) rfl rfl rfl (all1 rfl) rfl ?_
  clear M
  rintro W M
  dsimp only [setL] at M
  refine p_fld fN4 rfl ?_
  refine v_load agg_ns rfl ((M.B 0 rfl).at_ rfl) ?_
  refine p_len sln rfl ?_
  by_cases hk0 : t.kids = []
  · refine lp Unit (fun _ W => St w gs W [(g3, 26, ncs t Ap cp Av cv Ak ck Ah ch), (g2, 26, zN), (g1, 26, cs)] [⟨26, 6, Ak, t.kids.length, ck, xs⟩] [.dat true [dB t.path] [.slice Ap t.path.length cp], .dat true [dB t.val] [.slice Av t.val.length cv], .dat true [dB t.hash] [.slice Ah t.hash.length ch], .dat true (dNs t.kids) xs])
      (fun _ => [(2, .pointer (some ⟨g2, 0, none⟩)), (3, .pointer (some ⟨g3, 0, none⟩)), (10, .int .i64 (t.kids.length : Nat)), (11, .int .i64 0)]) (fun _ => 0) () (M.fsub _ (by simp)) (by repeat (first | exact trivial | refine ⟨rfl, ?_⟩)) ?_
    clear M
    rintro - E W M
    have hkl : t.kids.length = 0 := by rw [hk0]; rfl
    refine p_lt rfl rfl (fun h => absurd (show (0 : Int) < (t.kids.length : Int) from h) (by omega)) (fun _ => ?_)
    refine v_loadN (ncs t Ap cp Av cv Ak ck Ah ch) agg_nd rfl rfl (M.run 0 rfl) ?_
    refine s_storeA 1 (ncs t Ap cp Av cv Ak ck Ah ch) M rfl sz_nd rfl rfl rfl (all1 rfl) rfl ?_
    clear M; rintro W M
    dsimp only [setL] at M
    refine c_loadN (ncs t Ap cp Av cv Ak ck Ah ch) agg_nd rfl rfl (M.run 1 rfl) ?_
    have hkd : RdD W (Fr w W) (dKs t.kids) (.slice Ak t.kids.length ck) := rdD_row (M.row _ (List.mem_cons_self ..)) (M.finF 3 rfl) (fun b q1 q2 q3 => ⟨q1, q2, row_thaw (M.row _ (List.mem_cons_self ..)) (by rw [← own_bk]; exact q3)⟩)
    refine ⟨_, rfl, ?_, M.below⟩
    have e : shutK t = .mk t.kind t.path t.has t.val t.kids t.hash := by unfold shutK; rw [hk0]; rfl
    rw [e]
    exact RdL.ofnode (t := .mk t.kind t.path t.has t.val t.kids t.hash) (M.finF1 0 rfl) (M.finF1 1 rfl) hkd (M.finF1 2 rfl)
  have hkn : 0 < t.kids.length := List.length_pos_iff.2 hk0
  obtain ⟨gk, rest, rfl, hgc, M'⟩ := M.rowBlk hkn
  replace M := M'; clear M'
  refine lp (Nat × List Value) (fun s W => s.1 ≤ t.kids.length ∧ St w gs W [(gk, 26, s.2 ++ rest), (g3, 26, ncs t Ap cp Av cv (some ⟨gk, 0, none⟩) ck Ah ch), (g2, 26, zN), (g1, 26, cs)] [] [.dat true (dNs ((t.kids.map foldN).take s.1 ++ t.kids.drop s.1)) s.2, .dat true [dB t.path] [.slice Ap t.path.length cp], .dat true [dB t.val] [.slice Av t.val.length cv], .dat true [dB t.hash] [.slice Ah t.hash.length ch]])
    (fun s => [(2, .pointer (some ⟨g2, 0, none⟩)), (3, .pointer (some ⟨g3, 0, none⟩)), (9, .slice (some ⟨gk, 0, none⟩) t.kids.length ck), (10, .int .i64 (t.kids.length : Nat)), (11, .int .i64 s.1)]) (fun s => t.kids.length - s.1) (0, xs) ⟨Nat.zero_le _, M.fsub _ (by simp)⟩ (by repeat (first | exact trivial | refine ⟨rfl, ?_⟩)) ?_
  clear M
  rintro ⟨i, ys⟩ E W ⟨hi, M⟩
  dsimp only at hi M
  have hyl := (M.da 0 rfl).len
  rw [dNs_len, List.length_append, List.length_take, List.length_map, List.length_drop] at hyl
  refine p_lt rfl rfl (fun hlt => ?_) (fun hge => ?_)
  · have hlt : i < t.kids.length := by have h : (i : Int) < (t.kids.length : Int) := hlt; omega
    obtain ⟨k, hk⟩ : ∃ k, t.kids[i]? = some k := ⟨_, List.getElem?_eq_getElem hlt⟩
    have hkz := szs_mem (List.mem_of_getElem? hk)
    have hkd : ((t.kids.map foldN).take i ++ t.kids.drop i)[i]? = some k := by
      rw [List.getElem?_append_right (by rw [List.length_take, List.length_map]; omega), List.length_take, List.length_map, List.getElem?_drop, show i + (i - min i t.kids.length) = i by omega, hk]
    have hes := ((M.dt 0 rfl).drop (i * 6)).take 6
    rw [dNs_at hkd] at hes
    have hel := hes.len
    rw [dN_len] at hel
    obtain ⟨es, he⟩ : ∃ es, es = (ys.drop (i * 6)).take 6 := ⟨_, rfl⟩
    rw [← he] at hes hel
    have hcell : ∀ j v, es[j]? = some v → W.cell? ((⟨gk, i * 6, none⟩ : Addr).add j) = some v := fun j v hj => by
      have hj6 : j < 6 := by rw [← hel]; exact (List.getElem?_eq_some_iff.1 hj).1
      have h := M.run 0 rfl (i * 6 + j) v (by
        rw [he, List.getElem?_take_of_lt hj6, List.getElem?_drop] at hj
        rw [List.getElem?_append_left (by omega)]
        exact hj)
      rw [Addr.add_lit] at h ⊢
      rw [Nat.zero_add] at h
      exact h
    replace M := M.addT hes
    refine p_atL (i := i) (q := i * 6) sln rfl rfl rfl hlt (by omega) ?_
    refine v_loadN es agg_nd rfl hel hcell ?_
    clear hcell
    refine s_alloc (zN) M al_nd ?_
    clear M
    rintro g5 W M
    refine s_storeA 0 es M rfl sz_nd rfl rfl hel ((M.da 0 rfl).ones (dN_one _)) rfl ?_
    clear M; rintro W M
    dsimp only [setL] at M
    replace M := M.drew
    refine drT (Kp w gs [(g5, 26, es), (g3, 26, ncs t Ap cp Av cv (some ⟨gk, 0, none⟩) ck Ah ch)] []) (.take 0 (.take 1 (.take 2 (.take 3 (.one 4 (.take 5 (.one 6 (.nil)))))))) (by kernel_rfl) (M.kp (by simp) (by simp)) ?_
    refine p_fld fN4 rfl ?_
    refine t_load agg_ns rfl (fun W K => (K.B 1 rfl).at_ rfl) ?_
    refine t_loadN es agg_nd rfl hel (fun W K => K.run 0 rfl) ?_
    refine cc is_nFold (nFold_any k (by omega) _ _ _ (M.gl hG) (M.da 0 rfl) M.olt) ?_
    rintro e W ⟨csf, rfl, rf, hb⟩
    have hcf := rf.len
    rw [dN_len] at hcf
    replace M := M.callF hb rf
    clear rf hb
    refine ⟨_, rfl, (M.kp (by simp) (by simp)), ?_⟩
    refine p_atL (i := i) (q := i * 6) sln rfl rfl rfl hlt (by omega) ?_
    refine s_storeP 1 (n := 6) (off := i * 6) csf _ M rfl sz_nd rfl rfl hcf ((M.da 0 rfl).ones (dN_one _)) (by rw [List.length_append]; omega) rfl ?_
    clear M; rintro W M
    dsimp only [setL] at M
    refine ⟨(M.kp (by simp) (by simp)), ?_⟩
    have e1 : (ys ++ rest).take (i * 6) = ys.take (i * 6) := List.take_append_of_le_length (by omega)
    have e2 : (ys ++ rest).drop (i * 6 + 6) = ys.drop (i * 6 + 6) ++ rest := List.drop_append_of_le_length (by omega)
    rw [e1, e2, ← List.append_assoc] at M
    have hX := M.dt 2 rfl
    have hX2 := ((hX.take (i * 6)).app (M.dt 0 rfl)).app (hX.drop (i * 6 + 6))
    rw [← dNs_set (foldN k) (by rw [List.length_append, List.length_take, List.length_map, List.length_drop]; omega)] at hX2
    have hst : ((t.kids.map foldN).take i ++ t.kids.drop i).set i (foldN k) = (t.kids.map foldN).take (i + 1) ++ t.kids.drop (i + 1) := by
      rw [List.set_append_right _ _ (by rw [List.length_take]; omega), List.length_take, List.length_map, show i - min i t.kids.length = 0 by omega, List.drop_eq_getElem_cons hlt, List.set_cons_zero, List.take_add_one, List.getElem?_map, hk, List.append_assoc]
      rfl
    rw [hst] at hX2
    replace M := (M.addT hX2).dropL
    refine p_addN (b := 1) rfl rfl (by dsimp only; omega) ?_
    exact ⟨(i + 1, _), ⟨by dsimp only; omega, M.fsub _ (by simp)⟩, (by repeat (first | exact trivial | refine ⟨rfl, ?_⟩)), by dsimp only; omega⟩
  · have hge : i = t.kids.length := by have h : ¬ (i : Int) < (t.kids.length : Int) := hge; omega
    subst hge
    rw [List.take_of_length_le (by rw [List.length_map]; omega), List.drop_length, List.append_nil] at M
    obtain ⟨ks, hks⟩ : ∃ ks, ks = t.kids.map foldN := ⟨_, rfl⟩
    have hkl : ks.length = t.kids.length := by rw [hks, List.length_map]
    unfold shutK
    rw [← hks] at M ⊢
    replace M := M.frzB' (fr := true) (s := 6) (n := ks.length) (c := ck) (M.dt 0 rfl) (dNs_len ks) (by omega)
    refine v_loadN (ncs t Ap cp Av cv (some ⟨gk, 0, none⟩) ck Ah ch) agg_nd rfl rfl (M.run 0 rfl) ?_
    refine s_storeA 1 (ncs t Ap cp Av cv (some ⟨gk, 0, none⟩) ck Ah ch) M rfl sz_nd rfl rfl rfl (all1 rfl) rfl ?_
    clear M; rintro W M
    dsimp only [setL] at M
    refine c_loadN (ncs t Ap cp Av cv (some ⟨gk, 0, none⟩) ck Ah ch) agg_nd rfl rfl (M.run 1 rfl) ?_
    have hn := RdL.ofnode (t := .mk t.kind t.path t.has t.val ks t.hash) (M.finF1 2 rfl) (M.finF1 3 rfl) (M.finF1 0 rfl) (M.finF1 4 rfl)
    refine ⟨_, rfl, ?_, M.below⟩
    unfold ncs at hn ⊢
    rw [show (Nd.mk t.kind t.path t.has t.val ks t.hash).kids.length = t.kids.length from hkl] at hn
    exact hn
mutual
/-- Node for node, but where a stub stands. -/
def agP : Nd → Nd → Bool
  | .mk k p has v ks h, f => if k = 4 then decide (hashR (.mk k p has v ks h) = hashR f) else decide (k = f.kind) && (decide (has = f.has) && (decide (p = f.path) && (decide (v = f.val) && agsP ks f.kids)))
def agsP : List Nd → List Nd → Bool
  | [], [] => true
  | a :: xs, b :: ys => agP a b && agsP xs ys
  | [], _ :: _ => false
  | _ :: _, [] => false
end
theorem agP_eq (t f : Nd) : agP t f = if t.kind = 4 then decide (hashR t = hashR f) else decide (t.kind = f.kind) && (decide (t.has = f.has) && (decide (t.path = f.path) && (decide (t.val = f.val) && agsP t.kids f.kids))) := by
  cases t; rw [agP]; rfl
theorem agsP_iff : ∀ (xs ys : List Nd), agsP xs ys = true ↔ All2 (fun a b => agP a b = true) xs ys
  | [], [] => ⟨fun _ => ⟨rfl, fun i x y h => by simp at h⟩, fun _ => by rw [agsP]⟩
  | [], b :: ys => ⟨fun h => (by rw [agsP] at h; cases h), fun h => (by cases h.1)⟩
  | a :: xs, [] => ⟨fun h => (by rw [agsP] at h; cases h), fun h => (by cases h.1)⟩
  | a :: xs, b :: ys => by
    have ih := agsP_iff xs ys
    rw [agsP, Bool.and_eq_true]
    constructor
    · rintro ⟨h1, h2⟩
      obtain ⟨k1, k2⟩ := ih.1 h2
      refine ⟨by simp [k1], fun i x y hx hy => ?_⟩
      cases i with
      | zero =>
        simp only [List.getElem?_cons_zero] at hx hy
        injection hx with hx; injection hy with hy
        subst hx; subst hy; exact h1
      | succ i => exact k2 i x y hx hy
    · rintro ⟨h1, h2⟩
      exact ⟨h2 0 a b rfl rfl, ih.2 ⟨by simpa using h1, fun i x y hx hy => h2 (i + 1) x y hx hy⟩⟩
theorem is_vagr : isFn Tryd.prog 58 = true := by kernel_rfl
theorem is_vAgr : isFn Tryd.prog 24 = true := by kernel_rfl
def VAgrOk (a : Nd) : Prop := ∀ (b : Nd) (gs : List (Option Nat)) (w : World) (ca cb : List Value), GL w gs → RdL w (Fd w gs) (dN a) ca → RdL w (Fd w gs) (dN b) cb → (∀ b, some b ∈ gs → b < w.heap.size) → sz b ≤ 1000000 →
  Calls Tryd.prog 58 #[.agg ca.toArray, .agg cb.toArray] w fun e w' => ∃ q : Bool, e = .returned (.bool q) ∧ (q = true ↔ agP a b = true) ∧ Below w.heap.size w w'
set_option maxRecDepth 100000 in
set_option maxHeartbeats 2000000 in
theorem vagr_step (N : Nat) (ih : ∀ k : Nd, sz k < N → VAgrOk k) (a : Nd) (ht : sz a ≤ N) (hN : N ≤ 1000000) : VAgrOk a := by
  intro b gs w ca cb hG hra hrb hgs hzb
  refine calls_ev (args := [.agg ca.toArray, .agg cb.toArray]) mixed Tryd.func58 rfl (by kernel_rfl) ?_
  obtain ⟨Ap, cp, Av, cv, Ak, ck, Ah, ch, rfl, r1, r3, r4, r5⟩ := id hra.node
  obtain ⟨Bp, dp, Bv, dv, Bk, dk, Bh, dh, rfl, s1, s3, s4, s5⟩ := id hrb.node
  have hsz := sz_eq a
  have hsl := szs_len a.kids
  have hsz' := sz_eq b
  have hsl' := szs_len b.kids
  have M := ((((((((St.start hgs).addL hrb).addL hra).addD r3).addD r1).addD s3).addD s1).addD s4).addD r4
  clear r1 r3 r4 r5 hra s1 s3 s4 s5 hrb
  refine s_box (ncs a Ap cp Av cv Ak ck Ah ch) M rfl ?_
  clear M
  rintro g2 W M
  refine s_box (ncs b Bp dp Bv dv Bk dk Bh dh) M rfl ?_
  clear M
  rintro g3 W M
  have hB := M.B 0 rfl
  have hC := M.B 1 rfl
  unfold ncs at hB hC
  refine p_fld fN0 rfl ?_
  refine v_load agg_int rfl (hC.at_ rfl) ?_
  refine p_eq rfl rfl (fun h4 => ?_) (fun h4 => ?_)
  · have h4 : a.kind = 4 := h4
    clear hB hC
    replace M := M.drew
    refine drT (Kp w gs [(g3, 26, ncs b Bp dp Bv dv Bk dk Bh dh), (g2, 26, ncs a Ap cp Av cv Ak ck Ah ch)] []) (.take 0 (.take 2 (.one 1 (.one 3 (.one 4 (.take 5 (.nil))))))) (by kernel_rfl) (M.kp (by simp) (by simp)) ?_
    refine t_loadN (ncs a Ap cp Av cv Ak ck Ah ch) agg_nd rfl rfl (fun W K => K.run 1 rfl) ?_
    refine t_loadN (ncs b Bp dp Bv dv Bk dk Bh dh) agg_nd rfl rfl (fun W K => K.run 0 rfl) ?_
    refine cc is_nHash (nHash_any a (by omega) _ _ _ (M.gl hG) (M.da 6 rfl) M.olt) ?_
    rintro e W ⟨A5, n5, c5, rfl, o, hb⟩
    replace M := M.callO hb o
    clear o hb
    refine ⟨_, rfl, (M.kp (by simp) (by simp)), ?_⟩
    refine cc is_nHash (nHash_any b (by omega) _ _ _ (M.gl hG) (M.da 8 rfl) M.olt) ?_
    rintro e W ⟨A6, n6, c6, rfl, o, hb⟩
    replace M := M.callO hb o
    clear o hb
    refine ⟨_, rfl, (M.kp (by simp) (by simp)), ?_⟩
    refine cc is_beq (beq_any _ _ _ _ c5 c6 _ _ (hashR a) (hashR b) _ (M.rdb 1 rfl).2.2 (M.rdb 0 rfl).2.2) ?_
    rintro e W' ⟨rfl, rfl⟩
    refine ⟨_, rfl, (M.kp (by simp) (by simp)), ?_⟩
    exact ⟨_, rfl, by rw [agP_eq, if_pos h4], M.below⟩
  have h4 : ¬ a.kind = 4 := h4
  repeat' first
    | (refine p_fld fN0 rfl ?_)
    | (refine v_load agg_int rfl (hB.at_ rfl) ?_)
    | (refine v_load agg_int rfl (hC.at_ rfl) ?_)
  refine p_eq rfl rfl (fun hk => ?_) (fun hk => ?_)
  rotate_left
  · have hk : ¬ a.kind = b.kind := hk
    exact ⟨false, rfl, ⟨(fun h => by cases h), fun h => by rw [agP_eq, if_neg h4] at h; simp only [Bool.and_eq_true, decide_eq_true_eq] at h; exact absurd h.1 hk⟩, M.below⟩
  have hk : a.kind = b.kind := hk
  repeat' first
    | (refine p_fld fN2 rfl ?_)
    | (refine v_load agg_bo rfl (hB.at_ rfl) ?_)
    | (refine v_load agg_bo rfl (hC.at_ rfl) ?_)
  refine p_beqC u_bool rfl rfl (fun hh => ?_) (fun hh => ?_)
  rotate_left
  ·
    exact ⟨false, rfl, ⟨(fun h => by cases h), fun h => by rw [agP_eq, if_neg h4] at h; simp only [Bool.and_eq_true, decide_eq_true_eq] at h; exact absurd h.2.1 hh⟩, M.below⟩
  repeat' first
    | (refine p_fld fN1 rfl ?_)
    | (refine v_load agg_b rfl (hB.at_ rfl) ?_)
    | (refine v_load agg_b rfl (hC.at_ rfl) ?_)
  refine cc is_beq (beq_any _ _ _ _ cp dp _ _ a.path b.path _ (M.rdb 4 rfl).2.2 (M.rdb 2 rfl).2.2) ?_
  rintro e W' ⟨rfl, rfl⟩
  refine ⟨_, rfl, ?_⟩
  by_cases hp : a.path = b.path
  rotate_left
  · rw [decide_eq_false hp]
    exact ⟨false, rfl, ⟨(fun h => by cases h), fun h => by rw [agP_eq, if_neg h4] at h; simp only [Bool.and_eq_true, decide_eq_true_eq] at h; exact absurd h.2.2.1 hp⟩, M.below⟩
  rw [decide_eq_true hp]
  repeat' first
    | (refine p_fld fN3 rfl ?_)
    | (refine v_load agg_b rfl (hB.at_ rfl) ?_)
    | (refine v_load agg_b rfl (hC.at_ rfl) ?_)
  refine cc is_beq (beq_any _ _ _ _ cv dv _ _ a.val b.val _ (M.rdb 5 rfl).2.2 (M.rdb 3 rfl).2.2) ?_
  rintro e W' ⟨rfl, rfl⟩
  refine ⟨_, rfl, ?_⟩
  by_cases hv : a.val = b.val
  rotate_left
  · rw [decide_eq_false hv]
    exact ⟨false, rfl, ⟨(fun h => by cases h), fun h => by rw [agP_eq, if_neg h4] at h; simp only [Bool.and_eq_true, decide_eq_true_eq] at h; exact absurd h.2.2.2.1 hv⟩, M.below⟩
  rw [decide_eq_true hv]
  repeat' first
    | (refine p_fld fN4 rfl ?_)
    | (refine v_load agg_ns rfl (hB.at_ rfl) ?_)
    | (refine v_load agg_ns rfl (hC.at_ rfl) ?_)
  refine cc is_eqfn (eqfn_any _ is_vagr (fun x y => agP x y = true) GL a.kids b.kids _ _ Ak Bk _ ck _ dk (fun _ _ _ _ M' => M'.gl (M.gl hG)) (fun i x y hx hy gs w ca cb hG h1 h2 h3 => ?_) (M.d1 0 rfl) (M.d1 1 rfl) M.olt ⟨by omega, by omega⟩) ?_
  · have hxz := szs_mem (List.mem_of_getElem? hx)
    have hyz := szs_mem (List.mem_of_getElem? hy)
    exact ih x (by omega) y gs w ca cb hG h1 h2 h3 (by omega)
  · rintro e W ⟨q, rfl, hq, hb⟩
    replace M := M.call hb
    refine ⟨_, rfl, ?_⟩
    refine ⟨q, rfl, hq.trans ?_, M.below⟩
    rw [← agsP_iff, agP_eq, if_neg h4, decide_eq_true hk, decide_eq_true hh, decide_eq_true hp, decide_eq_true hv]
    simp
theorem vagr_any : ∀ (N : Nat), N ≤ 1000000 → ∀ t : Nd, sz t < N → VAgrOk t
  | 0, _, t, h => by omega
  | N + 1, hN, t, h => vagr_step N (fun k hk => vagr_any N (by omega) k hk) t (by omega) (by omega)
/-- Do they agree? -/
def AgrP (p f : Nd) : Bool := decide (0 < (hashR p).length) && (decide (hashR p = hashR f) && agP p f)
set_option maxRecDepth 100000 in
set_option maxHeartbeats 2000000 in
theorem vAgr_any (a b : Nd) (ha : sz a < 1000000) (hbz : sz b < 1000000) (gs : List (Option Nat)) (w : World) (ca cb : List Value) (hG : GL w gs) (hra : RdL w (Fd w gs) (dN a) ca) (hrb : RdL w (Fd w gs) (dN b) cb) (hgs : ∀ b, some b ∈ gs → b < w.heap.size) :
    Calls Tryd.prog 24 #[.agg ca.toArray, .agg cb.toArray] w fun e w' => e = .returned (.bool (AgrP a b)) ∧ Below w.heap.size w w' := by
  refine calls_ev (args := [.agg ca.toArray, .agg cb.toArray]) mixed Tryd.func24 rfl (by kernel_rfl) ?_
  have hla := hra.len
  have hlb := hrb.len
  rw [dN_len] at hla hlb
  have M := ((St.start hgs).addL hrb).addL hra
  clear hra hrb
  refine s_box (ca) M rfl ?_
  clear M
  rintro g2 W M
  refine s_box (cb) M rfl ?_
  clear M
  rintro g3 W M
  refine v_loadN ca agg_nd rfl hla (M.run 1 rfl) ?_
  refine cc is_nHash (nHash_any a (by omega) _ _ _ (M.gl hG) (M.da 0 rfl) M.olt) ?_
  rintro e W ⟨A5, n5, c5, rfl, o, hb⟩
  have e5 := o.len
  replace M := M.callO hb o
  clear o hb
  refine ⟨_, rfl, ?_⟩
  unfold AgrP
  refine p_len slb rfl ?_
  refine p_gt rfl rfl (fun hgt => ?_) (fun hgt => ?_)
  rotate_left
  · have hgt : ¬ 0 < (hashR a).length := fun h => hgt (by show (0 : Int) < ((n5 : Nat) : Int); omega)
    rw [decide_eq_false hgt, Bool.false_and]
    exact ⟨rfl, M.below⟩
  have hgt : 0 < (hashR a).length := by have h : (0 : Int) < ((n5 : Nat) : Int) := hgt; omega
  rw [decide_eq_true hgt, Bool.true_and]
  refine v_loadN cb agg_nd rfl hlb (M.run 0 rfl) ?_
  refine cc is_nHash (nHash_any b (by omega) _ _ _ (M.gl hG) (M.da 2 rfl) M.olt) ?_
  rintro e W ⟨A6, n6, c6, rfl, o, hb⟩
  replace M := M.callO hb o
  clear o hb
  refine ⟨_, rfl, ?_⟩
  refine cc is_beq (beq_any _ _ _ _ c5 c6 _ _ (hashR a) (hashR b) _ (M.rdb 1 rfl).2.2 (M.rdb 0 rfl).2.2) ?_
  rintro e W' ⟨rfl, rfl⟩
  refine ⟨_, rfl, ?_⟩
  by_cases hh : hashR a = hashR b
  rotate_left
  · rw [decide_eq_false hh, Bool.false_and]
    exact ⟨rfl, M.below⟩
  rw [decide_eq_true hh, Bool.true_and]
  refine v_loadN ca agg_nd rfl hla (M.run 1 rfl) ?_
  refine v_loadN cb agg_nd rfl hlb (M.run 0 rfl) ?_
  refine cc is_vagr (vagr_any 1000000 (Nat.le_refl _) a ha b _ _ _ _ (M.gl hG) (M.da 2 rfl) (M.da 3 rfl) M.olt (by omega)) ?_
  rintro e W ⟨q, rfl, hq, hb⟩
  replace M := M.call hb
  refine ⟨_, rfl, ?_⟩
  have : q = agP a b := by
    cases q with
    | true => exact (hq.1 rfl).symm
    | false => cases h : agP a b with
      | false => rfl
      | true => exact hq.2 h
  exact ⟨by rw [← this]; rfl, M.below⟩
end Go.Proofs.YtojjfkbffjkojaaDoor
namespace Go.Proofs.YtojjfkbffjkojaaDoor
open Go.RowKit
def laidF : Nat → Nd → List UInt8 → Nd → Nd
  | 0, t, _, _ => t
  | N + 1, t, w, x =>
    if w = [] then x
    else if t.kind = 2 then .mk t.kind t.path t.has t.val (t.kids.set 0 (laidF N (t.kids.getD 0 noneN) (w.drop t.path.length) x)) t.hash
    else .mk t.kind t.path t.has t.val (t.kids.set (w.getD 0 0).toNat (laidF N (t.kids.getD (w.getD 0 0).toNat noneN) (w.drop 1) x)) t.hash
/-- A node instead of the one at the end of halves. -/
def laidP (t : Nd) (w : List UInt8) (x : Nd) : Nd := laidF (sz t + 1) t w x
theorem at_some {t : Nd} {w : List UInt8} (h : (atP t w).isSome = true) (h0 : w ≠ []) : (t.kind = 2 ∧ t.path <+: w ∧ t.kids.length = 1 ∧ (atP (t.kids.getD 0 noneN) (w.drop t.path.length)).isSome = true) ∨
    (t.kind = 3 ∧ (w.getD 0 0).toNat < t.kids.length ∧ (t.kids.getD (w.getD 0 0).toNat noneN).kind ≠ 0 ∧ (atP (t.kids.getD (w.getD 0 0).toNat noneN) (w.drop 1)).isSome = true) := by
  rw [atP_eq, if_neg h0] at h
  by_cases h1 : t.kind = 2 ∧ t.path <+: w ∧ t.kids.length = 1
  · rw [if_pos h1] at h; exact .inl ⟨h1.1, h1.2.1, h1.2.2, h⟩
  rw [if_neg h1] at h
  by_cases h2 : t.kind = 3 ∧ (w.getD 0 0).toNat < t.kids.length ∧ (t.kids.getD (w.getD 0 0).toNat noneN).kind ≠ 0
  · rw [if_pos h2] at h; exact .inr ⟨h2.1, h2.2.1, h2.2.2, h⟩
  rw [if_neg h2] at h; cases h
theorem laidF_eq : ∀ (N M : Nat) (t : Nd) (w : List UInt8) (x : Nd), sz t < N → sz t < M → (atP t w).isSome = true → laidF N t w x = laidF M t w x
  | 0, _, _, _, _, h, _, _ => by omega
  | _, 0, _, _, _, _, h, _ => by omega
  | N + 1, M + 1, t, w, x, h, k, ha => by
    rw [laidF, laidF]
    by_cases h0 : w = []
    · rw [if_pos h0, if_pos h0]
    rw [if_neg h0, if_neg h0]
    rcases at_some ha h0 with ⟨h1, h2, h3, h4⟩ | ⟨h1, h2, h3, h4⟩
    · have := sz_kidD t (i := 0) (by omega)
      rw [if_pos h1, if_pos h1, laidF_eq N M _ _ _ (by omega) (by omega) h4]
    · have := sz_kidD t h2
      rw [if_neg (by omega), if_neg (by omega), laidF_eq N M _ _ _ (by omega) (by omega) h4]
theorem laidP_nil (t x : Nd) : laidP t [] x = x := by unfold laidP; rw [laidF, if_pos rfl]
theorem laidP_way {t : Nd} {w : List UInt8} (x : Nd) (h0 : w ≠ []) (h1 : t.kind = 2) (h3 : t.kids.length = 1) (h4 : (atP (t.kids.getD 0 noneN) (w.drop t.path.length)).isSome = true) :
    laidP t w x = .mk t.kind t.path t.has t.val (t.kids.set 0 (laidP (t.kids.getD 0 noneN) (w.drop t.path.length) x)) t.hash := by
  have := sz_kidD t (i := 0) (by omega)
  unfold laidP
  rw [laidF, if_neg h0, if_pos h1, laidF_eq (sz t) (sz (t.kids.getD 0 noneN) + 1) _ _ _ (by omega) (by omega) h4]
theorem laidP_br {t : Nd} {w : List UInt8} (x : Nd) (h0 : w ≠ []) (h1 : t.kind = 3) (h3 : (w.getD 0 0).toNat < t.kids.length) (h4 : (atP (t.kids.getD (w.getD 0 0).toNat noneN) (w.drop 1)).isSome = true) :
    laidP t w x = .mk t.kind t.path t.has t.val (t.kids.set (w.getD 0 0).toNat (laidP (t.kids.getD (w.getD 0 0).toNat noneN) (w.drop 1) x)) t.hash := by
  have := sz_kidD t h3
  unfold laidP
  rw [laidF, if_neg h0, if_neg (by omega), laidF_eq (sz t) (sz (t.kids.getD (w.getD 0 0).toNat noneN) + 1) _ _ _ (by omega) (by omega) h4]
theorem is_vlaid : isFn Tryd.prog 80 = true := by kernel_rfl
def VLaidOk (t : Nd) : Prop := ∀ (l : List UInt8) (x : Nd) (gs : List (Option Nat)) (w : World) (cs xs : List Value) (A : Option Addr) (n c : Nat), (atP t l).isSome = true → RdL w (Fd w gs) (dN t) cs → RdD w (Fd w gs) (dB l) (.slice A n c) → RdL w (Fd w gs) (dN x) xs → (∀ b, some b ∈ gs → b < w.heap.size) → n ≤ 100000000 →
  Calls Tryd.prog 80 #[.agg cs.toArray, .slice A n c, .agg xs.toArray] w fun e w' => ∃ cs', e = .returned (.agg cs'.toArray) ∧ RdL w' (Fd w' gs) (dN (laidP t l x)) cs' ∧ Below w.heap.size w w'
set_option maxRecDepth 100000 in
set_option maxHeartbeats 4000000 in
theorem vlaid_step (N : Nat) (ih : ∀ k : Nd, sz k < N → VLaidOk k) (t : Nd) (ht : sz t ≤ N) (hN : N ≤ 1000000) : VLaidOk t := by
  intro l x gs w cs xcs A n c hat hr hw hx hgs hn
  refine calls_ev (args := [.agg cs.toArray, .slice A n c, .agg xcs.toArray]) mixed Tryd.func80 rfl (by kernel_rfl) ?_
  obtain ⟨Ap, cp, Av, cv, Ak, ck, Ah, ch, rfl, r1, r3, r4, r5⟩ := id hr.node
  have hcx := hx.len
  rw [dN_len] at hcx
  have hsz := sz_eq t
  have hsl := szs_len t.kids
  have en := hw.slen
  have hcap := hw.scap
  have M := ((((((St.start hgs).addL hx).addD hw).addD r5).addD r3).addD r1).addD r4
  clear hr hw hx r1 r3 r4 r5
  refine s_box (ncs t Ap cp Av cv Ak ck Ah ch) M rfl ?_
  clear M
  rintro g3 W M
  refine s_box (xcs) M rfl ?_
  clear M
  rintro g5 W M
  refine s_alloc (zN) M al_nd ?_
  clear M
  rintro g6 W M
  refine p_len slb rfl ?_
  refine p_eq rfl rfl (fun h0 => ?_) (fun h0 => ?_)
  · have h0 : l = [] := List.eq_nil_of_length_eq_zero (by have h : ((n : Nat) : Int) = 0 := h0; omega)
    subst h0
    rw [laidP_nil]
    refine v_loadN xcs agg_nd rfl hcx (M.run 1 rfl) ?_
    refine s_storeA 0 xcs M rfl sz_nd rfl rfl hcx ((M.da 5 rfl).ones (dN_one _)) rfl ?_
    clear M; rintro W M
    dsimp only [setL] at M
    refine c_loadN xcs agg_nd rfl hcx (M.run 0 rfl) ?_
    exact ⟨xcs, rfl, M.fin 5 rfl, M.below⟩
  have hn0 : 0 < n := by
    rcases Nat.eq_zero_or_pos n with h | h
    · exact absurd (show ((n : Nat) : Int) = 0 by omega) h0
    · exact h
  have hl0 : l ≠ [] := fun e => by rw [e] at en; exact absurd en (by simp; omega)
  clear h0
  have hkn : 0 < t.kids.length := by
    rcases at_some hat hl0 with ⟨-, -, h, -⟩ | ⟨-, h, -⟩ <;> omega
  refine p_fld fN4 rfl ?_
  refine v_load agg_ns rfl ((M.B 2 rfl).at_ rfl) ?_
  refine cc is_kclone (kclone_any _ Ak t.kids.length ck t.kids _ (M.d1 0 rfl) M.olt (by omega) hkn) ?_
  rintro e W ⟨gk, ck', ys, rest, rfl, hgk, hck, hK, hX, hb⟩
  refine ⟨_, rfl, ?_⟩
  replace M := (M.callB hb hgk hK).addL (ds := dNs t.kids) (cs := ys) hX
  have hyl := hX.len
  rw [dNs_len] at hyl
  clear hb hgk hK hX
  refine p_fld fN4 rfl ?_
  refine s_set 3 (off := 4) (.slice (some ⟨gk, 0, none⟩) t.kids.length ck') (ncs t Ap cp Av cv (some ⟨gk, 0, none⟩) ck' Ah ch) M rfl sz_nsR rfl rfl rfl (Nat.le_of_ble_eq_true rfl) rfl ?_
  clear M; rintro W M
  dsimp only [setL] at M
  refine p_fld fN0 rfl ?_
  refine v_load agg_int rfl ((M.B 3 rfl).at_ rfl) ?_
  refine p_eq rfl rfl (fun h2 => ?_) (fun h2 => ?_)
  · have h2 : t.kind = 2 := h2
    obtain ⟨h3, h5, h4⟩ : t.kids.length = 1 ∧ t.path.length ≤ n ∧ (atP (t.kids.getD 0 noneN) (l.drop t.path.length)).isSome = true := by
      rcases at_some hat hl0 with ⟨-, h5, h3, h4⟩ | ⟨h, -⟩
      · exact ⟨h3, by rw [en]; exact h5.length_le, h4⟩
      · omega
    rw [laidP_way x hl0 h2 h3 h4]
    obtain ⟨kd, hkd⟩ : ∃ kd, t.kids[0]? = some kd := ⟨_, List.getElem?_eq_getElem hkn⟩
    have hgd : t.kids.getD 0 noneN = kd := by rw [List.getD_eq_getElem?_getD, hkd]; rfl
    have hkz := szs_mem (List.mem_of_getElem? hkd)
    rw [hgd] at h4
    have hes := ((M.dw 0 rfl).drop (0 * 6)).take 6
    rw [dNs_at hkd] at hes
    have hel := hes.len
    rw [dN_len] at hel
    obtain ⟨es, he⟩ : ∃ es, es = (ys.drop (0 * 6)).take 6 := ⟨_, rfl⟩
    rw [← he] at hes hel
    have hix : ∀ j v, es[j]? = some v → (ys ++ rest)[0 * 6 + j]? = some v := fun j v hj => by
      have hj6 : j < 6 := by rw [← hel]; exact (List.getElem?_eq_some_iff.1 hj).1
      rw [he, List.getElem?_take_of_lt hj6, List.getElem?_drop] at hj
      rw [List.getElem?_append_left (by omega)]
      exact hj
    replace M := M.addT hes
    clear hes
    rw [hgd]
    have hcut := (M.d1 6 rfl).cutB (i := t.path.length) (j := n) (m := c) h5 (Nat.le_refl _) hcap
    rw [List.take_of_length_le (by rw [List.length_drop]; omega)] at hcut
    replace M := (M.addD hcut).drew
    replace M := M.fsub [.dat false [dB (l.drop t.path.length)] [.slice (slA A c t.path.length 1) (n - t.path.length) (c - t.path.length)], .dat false (dN kd) es, .dat false (dNs t.kids) ys, .dat false [dKs t.kids] [.slice Ak t.kids.length ck], .dat false [dB t.path] [.slice Ap t.path.length cp], .dat false [dB t.val] [.slice Av t.val.length cv], .dat false [dB t.hash] [.slice Ah t.hash.length ch], .dat false (dN x) xcs] (by intro f hf; simp only [List.mem_cons, List.not_mem_nil, or_false] at hf ⊢; rcases hf with rfl | rfl | rfl | rfl | rfl | rfl | rfl | rfl <;> simp only [true_or, or_true])
    clear hcut
    refine drZ 14 (Kp w gs [(gk, 26, ys ++ rest), (g5, 26, xcs), (g3, 26, ncs t Ap cp Av cv (some ⟨gk, 0, none⟩) ck' Ah ch)] []) [(0, true), (1, true), (2, true), (3, true), (4, true), (5, true), (6, true), (7, true), (8, true), (9, true), (10, true), (11, true), (12, false), (13, true)] (by kernel_rfl) (M.kp (by simp) (by simp)) ?_
    refine p_fld fN4 rfl ?_
    refine t_load agg_ns rfl (fun W K => (K.B 2 rfl).at_ rfl) ?_
    refine p_fld fN4 rfl ?_
    refine t_load agg_ns rfl (fun W K => (K.B 2 rfl).at_ rfl) ?_
    refine p_atL (i := 0) (q := 0 * 6) sln rfl rfl rfl hkn (by omega) ?_
    refine t_loadN es agg_nd rfl hel (fun W K j v hj => by
      have h := K.run 0 rfl (0 * 6 + j) v (hix j v hj)
      rw [Addr.add_lit] at h ⊢
      rw [Nat.zero_add] at h
      exact h) ?_
    refine p_fld fN1 rfl ?_
    refine t_load agg_b rfl (fun W K => (K.B 2 rfl).at_ rfl) ?_
    refine p_len slb rfl ?_
    refine p_slice (i := t.path.length) (j := n) (m := c) slb rfl (bnd_i rfl) rfl rfl rfl h5 hcap (Nat.le_refl _) ?_
    refine t_loadN xcs agg_nd rfl hcx (fun W K => K.run 1 rfl) ?_
    refine cc is_vlaid (ih kd (by omega) _ x _ _ es xcs _ _ _ h4 (M.da 1 rfl) (M.d1 0 rfl) (M.da 7 rfl) M.olt (by omega)) ?_
    rintro e W ⟨cs9, rfl, r9, hb⟩
    have hc9 := r9.len
    rw [dN_len] at hc9
    replace M := (M.call hb).addL r9
    clear r9 hb
    refine ⟨_, rfl, (M.kp (by simp) (by simp)), ?_⟩
    refine p_atL (i := 0) (q := 0 * 6) sln rfl rfl rfl hkn (by omega) ?_
    refine s_storeP 0 (n := 6) (off := 0 * 6) cs9 _ M rfl sz_nd rfl rfl hc9 ((M.da 0 rfl).ones (dN_one _)) (by rw [List.length_append]; omega) rfl ?_
    clear M; rintro W M
    dsimp only [setL] at M
    have e1 : (ys ++ rest).take (0 * 6) = ys.take (0 * 6) := List.take_append_of_le_length (by omega)
    have e2 : (ys ++ rest).drop (0 * 6 + 6) = ys.drop (0 * 6 + 6) ++ rest := List.drop_append_of_le_length (by omega)
    rw [e1, e2, ← List.append_assoc] at M
    have hX := M.dw 3 rfl
    have hX2 := ((hX.take (0 * 6)).app (M.dw 0 rfl)).app (hX.drop (0 * 6 + 6))
    rw [← dNs_set _ hkn] at hX2
    replace M := M.addT hX2
    clear hX hX2
    obtain ⟨ks', hks'⟩ : ∃ ks', ks' = t.kids.set 0 (laidP kd (l.drop t.path.length) x) := ⟨_, rfl⟩
    have hkl' : ks'.length = t.kids.length := by rw [hks', List.length_set]
    rw [← hks'] at M ⊢
    replace M := M.frzB' (fr := false) (s := 6) (n := ks'.length) (c := ck') (M.dt 0 rfl) (dNs_len ks') (by omega)
    refine v_loadN (ncs t Ap cp Av cv (some ⟨gk, 0, none⟩) ck' Ah ch) agg_nd rfl rfl (M.run 2 rfl) ?_
    refine s_storeA 0 (ncs t Ap cp Av cv (some ⟨gk, 0, none⟩) ck' Ah ch) M rfl sz_nd rfl rfl rfl (all1 rfl) rfl ?_
    clear M; rintro W M
    dsimp only [setL] at M
    refine c_loadN (ncs t Ap cp Av cv (some ⟨gk, 0, none⟩) ck' Ah ch) agg_nd rfl rfl (M.run 0 rfl) ?_
    have hnd := RdL.ofnode (t := .mk t.kind t.path t.has t.val ks' t.hash) (M.fin1 7 rfl) (M.fin1 8 rfl) (M.fin1 0 rfl) (M.fin1 9 rfl)
    refine ⟨_, rfl, ?_, M.below⟩
    unfold ncs at hnd ⊢
    rw [show (Nd.mk t.kind t.path t.has t.val ks' t.hash).kids.length = t.kids.length from hkl'] at hnd
    exact hnd
  · have h2 : ¬ t.kind = 2 := h2
    obtain ⟨h3, h5, h4⟩ : t.kind = 3 ∧ (l.getD 0 0).toNat < t.kids.length ∧ (atP (t.kids.getD (l.getD 0 0).toNat noneN) (l.drop 1)).isSome = true := by
      rcases at_some hat hl0 with ⟨h, -⟩ | ⟨h3, h5, -, h4⟩
      · exact absurd h h2
      · exact ⟨h3, h5, h4⟩
    rw [laidP_br x hl0 h3 h5 h4]
    obtain ⟨q, hq⟩ : ∃ q, q = (l.getD 0 0).toNat := ⟨_, rfl⟩
    have e8 : at8 l 0 = (q : Int) := by rw [hq]; rfl
    rw [← hq] at h5 h4 ⊢
    obtain ⟨kd, hkd⟩ : ∃ kd, t.kids[q]? = some kd := ⟨_, List.getElem?_eq_getElem h5⟩
    have hgd : t.kids.getD q noneN = kd := by rw [List.getD_eq_getElem?_getD, hkd]; rfl
    have hkz := szs_mem (List.mem_of_getElem? hkd)
    rw [hgd] at h4
    have hes := ((M.dw 0 rfl).drop (q * 6)).take 6
    rw [dNs_at hkd] at hes
    have hel := hes.len
    rw [dN_len] at hel
    obtain ⟨es, he⟩ : ∃ es, es = (ys.drop (q * 6)).take 6 := ⟨_, rfl⟩
    rw [← he] at hes hel
    have hix : ∀ j v, es[j]? = some v → (ys ++ rest)[q * 6 + j]? = some v := fun j v hj => by
      have hj6 : j < 6 := by rw [← hel]; exact (List.getElem?_eq_some_iff.1 hj).1
      rw [he, List.getElem?_take_of_lt hj6, List.getElem?_drop] at hj
      rw [List.getElem?_append_left (by omega)]
      exact hj
    replace M := M.addT hes
    clear hes
    rw [hgd]
    have hcut := (M.d1 6 rfl).cutB (i := 1) (j := n) (m := c) (by omega) (Nat.le_refl _) hcap
    rw [List.take_of_length_le (by rw [List.length_drop]; omega)] at hcut
    obtain ⟨b0, o0, hA0, M'⟩ := M.at8c (M.d1 6 rfl) hn0
    replace M := M'; clear M'
    subst hA0
    rw [e8] at M
    replace M := (M.addD hcut).drew
    clear hcut
    refine drZ 17 (Kp w gs [(gk, 26, ys ++ rest), (g5, 26, xcs), (g3, 26, ncs t Ap cp Av cv (some ⟨gk, 0, none⟩) ck' Ah ch)] [.loc ((⟨b0, o0, none⟩ : Addr).add (0 * 1)) [.int .u8 (q : Int)]]) [(0, true), (1, true), (2, true), (3, true), (4, true), (5, true), (6, true), (7, true), (8, true), (9, true), (10, true), (11, true), (12, true), (13, true), (14, true), (15, false), (16, true)] (by kernel_rfl) (M.kp (by simp) (by simp)) ?_
    refine p_fld fN4 rfl ?_
    refine t_load agg_ns rfl (fun W K => (K.B 2 rfl).at_ rfl) ?_
    refine p_at (i := 0) slb rfl rfl rfl hn0 ?_
    refine t_load agg_by' rfl (fun W K => K.lc 0 rfl 0 _ rfl) ?_
    refine p_fld fN4 rfl ?_
    refine t_load agg_ns rfl (fun W K => (K.B 2 rfl).at_ rfl) ?_
    refine p_at (i := 0) slb rfl rfl rfl hn0 ?_
    refine t_load agg_by' rfl (fun W K => K.lc 0 rfl 0 _ rfl) ?_
    refine p_atL (i := q) (q := q * 6) sln rfl rfl rfl h5 (by omega) ?_
    refine t_loadN es agg_nd rfl hel (fun W K j v hj => by
      have h := K.run 0 rfl (q * 6 + j) v (hix j v hj)
      rw [Addr.add_lit] at h ⊢
      rw [Nat.zero_add] at h
      exact h) ?_
    refine p_slice (i := 1) (j := n) (m := c) slb rfl (bnd_i rfl) rfl rfl rfl (by omega) hcap (Nat.le_refl _) ?_
    replace M := M.fsub [.dat false [dB (l.drop 1)] [.slice (slA (some ⟨b0, o0, none⟩) c 1 1) (n - 1) (c - 1)], .dat false (dN kd) es, .dat false (dNs t.kids) ys, .dat false [dKs t.kids] [.slice Ak t.kids.length ck], .dat false [dB t.path] [.slice Ap t.path.length cp], .dat false [dB t.val] [.slice Av t.val.length cv], .dat false [dB t.hash] [.slice Ah t.hash.length ch], .dat false (dN x) xcs, .loc ((⟨b0, o0, none⟩ : Addr).add (0 * 1)) [.int .u8 (q : Int)]] (by intro f hf; simp only [List.mem_cons, List.not_mem_nil, or_false] at hf ⊢; rcases hf with rfl | rfl | rfl | rfl | rfl | rfl | rfl | rfl | rfl <;> simp only [true_or, or_true])
    refine t_loadN xcs agg_nd rfl hcx (fun W K => K.run 1 rfl) ?_
    refine cc is_vlaid (ih kd (by omega) _ x _ _ es xcs _ _ _ h4 (M.da 1 rfl) (M.d1 0 rfl) (M.da 7 rfl) M.olt (by omega)) ?_
    rintro e W ⟨cs9, rfl, r9, hb⟩
    have hc9 := r9.len
    rw [dN_len] at hc9
    replace M := (M.call hb).addL r9
    clear r9 hb
    refine ⟨_, rfl, (M.kp (by simp) (by simp)), ?_⟩
    refine p_atL (i := q) (q := q * 6) sln rfl rfl rfl h5 (by omega) ?_
    refine s_storeP 0 (n := 6) (off := q * 6) cs9 _ M rfl sz_nd rfl rfl hc9 ((M.da 0 rfl).ones (dN_one _)) (by rw [List.length_append]; omega) rfl ?_
    clear M; rintro W M
    dsimp only [setL] at M
    have e1 : (ys ++ rest).take (q * 6) = ys.take (q * 6) := List.take_append_of_le_length (by omega)
    have e2 : (ys ++ rest).drop (q * 6 + 6) = ys.drop (q * 6 + 6) ++ rest := List.drop_append_of_le_length (by omega)
    rw [e1, e2, ← List.append_assoc] at M
    have hX := M.dw 3 rfl
    have hX2 := ((hX.take (q * 6)).app (M.dw 0 rfl)).app (hX.drop (q * 6 + 6))
    rw [← dNs_set _ h5] at hX2
    replace M := M.addT hX2
    clear hX hX2
    obtain ⟨ks', hks'⟩ : ∃ ks', ks' = t.kids.set q (laidP kd (l.drop 1) x) := ⟨_, rfl⟩
    have hkl' : ks'.length = t.kids.length := by rw [hks', List.length_set]
    rw [← hks'] at M ⊢
    replace M := M.frzB' (fr := false) (s := 6) (n := ks'.length) (c := ck') (M.dt 0 rfl) (dNs_len ks') (by omega)
    refine v_loadN (ncs t Ap cp Av cv (some ⟨gk, 0, none⟩) ck' Ah ch) agg_nd rfl rfl (M.run 2 rfl) ?_
    refine s_storeA 0 (ncs t Ap cp Av cv (some ⟨gk, 0, none⟩) ck' Ah ch) M rfl sz_nd rfl rfl rfl (all1 rfl) rfl ?_
    clear M; rintro W M
    dsimp only [setL] at M
    refine c_loadN (ncs t Ap cp Av cv (some ⟨gk, 0, none⟩) ck' Ah ch) agg_nd rfl rfl (M.run 0 rfl) ?_
    have hnd := RdL.ofnode (t := .mk t.kind t.path t.has t.val ks' t.hash) (M.fin1 7 rfl) (M.fin1 8 rfl) (M.fin1 0 rfl) (M.fin1 9 rfl)
    refine ⟨_, rfl, ?_, M.below⟩
    unfold ncs at hnd ⊢
    rw [show (Nd.mk t.kind t.path t.has t.val ks' t.hash).kids.length = t.kids.length from hkl'] at hnd
    exact hnd
theorem vlaid_any (t : Nd) (ht : sz t ≤ 999999) : VLaidOk t := by
  have key : ∀ (N : Nat), N ≤ 1000000 → ∀ t : Nd, sz t < N → VLaidOk t := by
    intro N
    induction N with
    | zero => intro _ t h; omega
    | succ N ih => intro hN t h; exact vlaid_step N (fun k hk => ih (by omega) k hk) t (by omega) (by omega)
  exact key 1000000 (Nat.le_refl _) t (by omega)
/-- Open, of tries that agree. -/
def openP (p f : Nd) (w : List UInt8) : Nd × Int := match atP p w, atP f w with
  | some s, some x => if s.kind = 4 ∧ x.kind ≠ 4 then (laidP p w (shutK x), 0) else (noneN, 4)
  | _, _ => (noneN, 4)
theorem is_vopen : isFn Tryd.prog 51 = true := by kernel_rfl
theorem is_vOpen : isFn Tryd.prog 26 = true := by kernel_rfl
theorem is_vnear : isFn Tryd.prog 50 = true := by kernel_rfl
theorem at_sz : ∀ (N : Nat) (t : Nd) (w : List UInt8) (x : Nd), sz t < N → atP t w = some x → sz x ≤ sz t
  | 0, t, w, x, h, _ => by omega
  | N + 1, t, w, x, h, ha => by
    by_cases h0 : w = []
    · rw [atP_eq, if_pos h0] at ha; injection ha with ha; rw [ha]; exact Nat.le_refl _
    rcases at_some (by rw [ha]; rfl) h0 with ⟨h1, h2, h3, h4⟩ | ⟨h1, h2, h3, h4⟩
    · rw [atP_way h0 h1 h2 h3] at ha
      have := sz_kidD t (i := 0) (by omega)
      have := at_sz N _ _ _ (by omega) ha
      omega
    · rw [atP_br h0 h1 h2 h3] at ha
      have := sz_kidD t h2
      have := at_sz N _ _ _ (by omega) ha
      omega
set_option maxRecDepth 100000 in
set_option maxHeartbeats 4000000 in
theorem vopen_any (p f : Nd) (hp : sz p ≤ 999999) (hf : sz f ≤ 999999) (l : List UInt8) (gs : List (Option Nat)) (w : World) (cp cf : List Value) {A : Option Addr} {n c : Nat} (hG : GL w gs) (hrp : RdL w (Fd w gs) (dN p) cp) (hrf : RdL w (Fd w gs) (dN f) cf) (hw : RdD w (Fd w gs) (dB l) (.slice A n c)) (hgs : ∀ b, some b ∈ gs → b < w.heap.size) (hn : n ≤ 100000000) :
    Calls Tryd.prog 51 #[.agg cp.toArray, .agg cf.toArray, .slice A n c] w fun e w' => ∃ cs', e = .returned (.tuple #[.agg cs'.toArray, .int .i64 (openP p f l).2]) ∧ RdL w' (Fd w' gs) (dN (openP p f l).1) cs' ∧ Below w.heap.size w w' := by
  refine calls_ev (args := [.agg cp.toArray, .agg cf.toArray, .slice A n c]) mixed Tryd.func51 rfl (by kernel_rfl) ?_
  have hlp := hrp.len
  have hlf := hrf.len
  rw [dN_len] at hlp hlf
  have M := (((St.start hgs).addD hw).addL hrf).addL hrp
  clear hrp hrf hw
  refine s_box (cp) M rfl ?_
  clear M
  rintro g3 W M
  refine s_box (cf) M rfl ?_
  clear M
  rintro g4 W M
  refine s_alloc (zN) M al_nd ?_
  clear M
  rintro g6 W M
  refine v_loadN cp agg_nd rfl hlp (M.run 2 rfl) ?_
  have ca := vat_any p (by omega) l _ _ cp (M.da 0 rfl) (M.d1 2 rfl) M.olt hn
  have hz8 := at_sz (sz p + 1) p l
  obtain ⟨o8, ho8⟩ : ∃ o, o = atP p l := ⟨_, rfl⟩
  rw [← ho8] at ca hz8
  refine cc is_vat ca ?_
  clear ca
  rintro e W ⟨c8, rfl, r9, hb⟩
  have hl8 := r9.len
  rw [dN_len] at hl8
  replace M := M.callF hb r9
  clear r9 hb
  refine ⟨_, rfl, ?_⟩
  refine s_alloc (zN) M al_nd ?_
  clear M
  rintro g8 W M
  refine s_storeA 0 c8 M rfl sz_nd rfl rfl hl8 ((M.da 0 rfl).ones (dN_one _)) rfl ?_
  clear M; rintro W M
  dsimp only [setL] at M
  refine v_loadN cf agg_nd rfl hlf (M.run 2 rfl) ?_
  have ca := vat_any f (by omega) l _ _ cf (M.da 2 rfl) (M.d1 3 rfl) M.olt hn
  have hz9 := at_sz (sz f + 1) f l
  obtain ⟨o9, ho9⟩ : ∃ o, o = atP f l := ⟨_, rfl⟩
  rw [← ho9] at ca hz9
  refine cc is_vat ca ?_
  clear ca
  rintro e W ⟨c9, rfl, r9, hb⟩
  have hl9 := r9.len
  rw [dN_len] at hl9
  replace M := M.callF hb r9
  clear r9 hb
  refine ⟨_, rfl, ?_⟩
  refine s_alloc (zN) M al_nd ?_
  clear M
  rintro g9 W M
  refine s_storeA 0 c9 M rfl sz_nd rfl rfl hl9 ((M.da 0 rfl).ones (dN_one _)) rfl ?_
  clear M; rintro W M
  dsimp only [setL] at M
  unfold openP
  rw [← ho8, ← ho9]
  cases o8 with
  | none =>
    refine p_not rfl ?_
    refine p_build (vs := zN) pl_nd z_nd rfl ?_
    refine s_storeA 2 zN M rfl sz_nd rfl rfl rfl (all1 rfl) rfl ?_
    clear M; rintro W M
    dsimp only [setL] at M
    refine c_loadN zN agg_nd rfl rfl (M.run 2 rfl) ?_
    exact ⟨zN, rfl, RdL.znone, M.below⟩
  | some s =>
  refine p_not rfl ?_
  cases o9 with
  | none =>
    refine p_not rfl ?_
    refine p_build (vs := zN) pl_nd z_nd rfl ?_
    refine s_storeA 2 zN M rfl sz_nd rfl rfl rfl (all1 rfl) rfl ?_
    clear M; rintro W M
    dsimp only [setL] at M
    refine c_loadN zN agg_nd rfl rfl (M.run 2 rfl) ?_
    exact ⟨zN, rfl, RdL.znone, M.below⟩
  | some x =>
  refine p_not rfl ?_
  have hzs := hz8 s (Nat.lt_succ_self _) rfl
  have hzx := hz9 x (Nat.lt_succ_self _) rfl
  clear hz8 hz9
  obtain ⟨Ap, dp, Av, dv, Ak, dk, Ah, dh, rfl, -⟩ := (M.da 1 rfl).node
  obtain ⟨Bp, ep, Bv, ev, Bk, ek, Bh, eh, rfl, -⟩ := (M.da 0 rfl).node
  dsimp only
  refine p_fld fN0 rfl ?_
  refine v_load agg_int rfl ((M.B 1 rfl).at_ rfl) ?_
  refine p_ne rfl rfl (fun hs4 => ?_) (fun hs4 => ?_)
  rotate_left
  · have hs4 : ¬ s.kind = 4 := hs4
    rw [if_neg (fun h => hs4 h.1)]
    refine p_build (vs := zN) pl_nd z_nd rfl ?_
    refine s_storeA 2 zN M rfl sz_nd rfl rfl rfl (all1 rfl) rfl ?_
    clear M; rintro W M
    dsimp only [setL] at M
    refine c_loadN zN agg_nd rfl rfl (M.run 2 rfl) ?_
    exact ⟨zN, rfl, RdL.znone, M.below⟩
  have hs4 : s.kind = 4 := hs4
  refine p_fld fN0 rfl ?_
  refine v_load agg_int rfl ((M.B 0 rfl).at_ rfl) ?_
  refine p_eq rfl rfl (fun hx4 => ?_) (fun hx4 => ?_)
  · have hx4 : x.kind = 4 := hx4
    rw [if_neg (fun h => h.2 hx4)]
    refine p_build (vs := zN) pl_nd z_nd rfl ?_
    refine s_storeA 2 zN M rfl sz_nd rfl rfl rfl (all1 rfl) rfl ?_
    clear M; rintro W M
    dsimp only [setL] at M
    refine c_loadN zN agg_nd rfl rfl (M.run 2 rfl) ?_
    exact ⟨zN, rfl, RdL.znone, M.below⟩
  have hx4 : ¬ x.kind = 4 := hx4
  rw [if_pos ⟨hs4, hx4⟩]
  replace M := M.drew
  refine drT (Kp w gs [(g9, 26, ncs x Bp ep Bv ev Bk ek Bh eh), (g3, 26, cp)] []) (.take 0 (.take 2 (.take 3 (.one 1 (.one 4 (.one 5 (.one 6 (.take 7 (.nil))))))))) (by kernel_rfl) (M.kp (by simp) (by simp)) ?_
  refine t_loadN cp agg_nd rfl hlp (fun W K => K.run 1 rfl) ?_
  refine t_loadN (ncs x Bp ep Bv ev Bk ek Bh eh) agg_nd rfl rfl (fun W K => K.run 0 rfl) ?_
  refine cc is_ncopy (ncopy_any 10000000 (Nat.le_refl _) p (by omega) _ _ _ (M.da 2 rfl) M.olt) ?_
  rintro e W ⟨cs5, rfl, r9, hb⟩
  replace M := M.callF hb r9
  clear r9 hb
  refine ⟨_, rfl, (M.kp (by simp) (by simp)), ?_⟩
  refine cc is_vshut (vshut_any x (by omega) _ _ _ (M.gl hG) (M.da 1 rfl) M.olt) ?_
  rintro e W ⟨cs6, rfl, r9, hb⟩
  replace M := M.callF hb r9
  clear r9 hb
  refine ⟨_, rfl, (M.kp (by simp) (by simp)), ?_⟩
  refine cc is_vlaid (vlaid_any p hp l (shutK x) _ _ cs5 cs6 _ _ _ (by rw [← ho8]; rfl) (M.da 1 rfl) (M.d1 6 rfl) (M.da 0 rfl) M.olt hn) ?_
  rintro e W ⟨cs7, rfl, r9, hb⟩
  have hc7 := r9.len
  rw [dN_len] at hc7
  replace M := (M.call hb).addL r9
  clear r9 hb
  refine ⟨_, rfl, (M.kp (by simp) (by simp)), ?_⟩
  refine s_storeA 2 cs7 M rfl sz_nd rfl rfl hc7 ((M.da 0 rfl).ones (dN_one _)) rfl ?_
  clear M; rintro W M
  dsimp only [setL] at M
  refine ⟨(M.kp (by simp) (by simp)), ?_⟩
  refine c_loadN cs7 agg_nd rfl hc7 (M.run 2 rfl) ?_
  exact ⟨cs7, rfl, M.fin 0 rfl, M.below⟩
/-- Open. -/
def OpenP (p f : Nd) (w : List UInt8) : Nd × Int := if checkE p = 0 ∧ checkE f = 0 ∧ AgrP p f = true then openP p f w else (noneN, 2)
set_option maxRecDepth 100000 in
set_option maxHeartbeats 4000000 in
theorem vOpen_any (p f : Nd) (hp : sz p ≤ 999999) (hf : sz f ≤ 999999) (l : List UInt8) (gs : List (Option Nat)) (w : World) (cp cf : List Value) {A : Option Addr} {n c : Nat} (hG : GL w gs) (hrp : RdL w (Fd w gs) (dN p) cp) (hrf : RdL w (Fd w gs) (dN f) cf) (hw : RdD w (Fd w gs) (dB l) (.slice A n c)) (hgs : ∀ b, some b ∈ gs → b < w.heap.size) (hn : n ≤ 100000000) :
    Calls Tryd.prog 26 #[.agg cp.toArray, .agg cf.toArray, .slice A n c] w fun e w' => ∃ cs', e = .returned (.tuple #[.agg cs'.toArray, .int .i64 (OpenP p f l).2]) ∧ RdL w' (Fd w' gs) (dN (OpenP p f l).1) cs' ∧ Below w.heap.size w w' := by
  refine calls_ev (args := [.agg cp.toArray, .agg cf.toArray, .slice A n c]) mixed Tryd.func26 rfl (by kernel_rfl) ?_
  have hlp := hrp.len
  have hlf := hrf.len
  rw [dN_len] at hlp hlf
  have M := (((St.start hgs).addD hw).addL hrf).addL hrp
  clear hrp hrf hw
  refine s_box (cp) M rfl ?_
  clear M
  rintro g3 W M
  refine s_box (cf) M rfl ?_
  clear M
  rintro g4 W M
  refine s_alloc (zN) M al_nd ?_
  clear M
  rintro g6 W M
  unfold OpenP
  refine v_loadN cp agg_nd rfl hlp (M.run 2 rfl) ?_
  refine cc is_ncheck (ncheck_any p (by omega) _ _ _ (M.da 0 rfl) M.olt) ?_
  rintro e W ⟨rfl, hb⟩
  replace M := M.call hb
  clear hb
  refine ⟨_, rfl, ?_⟩
  refine p_ne rfl rfl (fun h1 => ?_) (fun h1 => ?_)
  rotate_left
  ·
    rw [if_neg (fun h => h1 h.1)]
    refine p_build (vs := zN) pl_nd z_nd rfl ?_
    refine s_storeA 0 zN M rfl sz_nd rfl rfl rfl (all1 rfl) rfl ?_
    clear M; rintro W M
    dsimp only [setL] at M
    refine c_loadN zN agg_nd rfl rfl (M.run 0 rfl) ?_
    exact ⟨zN, rfl, RdL.znone, M.below⟩
  have h1 : checkE p = 0 := h1
  refine v_loadN cf agg_nd rfl hlf (M.run 1 rfl) ?_
  refine cc is_ncheck (ncheck_any f (by omega) _ _ _ (M.da 1 rfl) M.olt) ?_
  rintro e W ⟨rfl, hb⟩
  replace M := M.call hb
  clear hb
  refine ⟨_, rfl, ?_⟩
  refine p_ne rfl rfl (fun h2 => ?_) (fun h2 => ?_)
  rotate_left
  ·
    rw [if_neg (fun h => h2 h.2.1)]
    refine p_build (vs := zN) pl_nd z_nd rfl ?_
    refine s_storeA 0 zN M rfl sz_nd rfl rfl rfl (all1 rfl) rfl ?_
    clear M; rintro W M
    dsimp only [setL] at M
    refine c_loadN zN agg_nd rfl rfl (M.run 0 rfl) ?_
    exact ⟨zN, rfl, RdL.znone, M.below⟩
  have h2 : checkE f = 0 := h2
  refine v_loadN cp agg_nd rfl hlp (M.run 2 rfl) ?_
  refine v_loadN cf agg_nd rfl hlf (M.run 1 rfl) ?_
  have ca := vAgr_any p f (by omega) (by omega) _ _ _ _ (M.gl hG) (M.da 0 rfl) (M.da 1 rfl) M.olt
  obtain ⟨q, hq⟩ : ∃ q, q = AgrP p f := ⟨_, rfl⟩
  rw [← hq] at ca ⊢
  refine cc is_vAgr ca ?_
  clear ca
  rintro e W ⟨rfl, hb⟩
  replace M := M.call hb
  clear hb
  refine ⟨_, rfl, ?_⟩
  refine p_not rfl ?_
  cases q with
  | false =>
    rw [if_neg (fun h => by cases h.2.2)]
    refine p_build (vs := zN) pl_nd z_nd rfl ?_
    refine s_storeA 0 zN M rfl sz_nd rfl rfl rfl (all1 rfl) rfl ?_
    clear M; rintro W M
    dsimp only [setL] at M
    refine c_loadN zN agg_nd rfl rfl (M.run 0 rfl) ?_
    exact ⟨zN, rfl, RdL.znone, M.below⟩
  | true =>
  rw [if_pos ⟨h1, h2, rfl⟩]
  refine v_loadN cp agg_nd rfl hlp (M.run 2 rfl) ?_
  refine v_loadN cf agg_nd rfl hlf (M.run 1 rfl) ?_
  refine cc is_vopen (vopen_any p f hp hf l _ _ _ _ (M.gl hG) (M.da 0 rfl) (M.da 1 rfl) (M.d1 2 rfl) M.olt hn) ?_
  rintro e W ⟨cs7, rfl, r9, hb⟩
  have hc7 := r9.len
  rw [dN_len] at hc7
  replace M := (M.call hb).addL r9
  clear r9 hb
  refine ⟨_, rfl, ?_⟩
  refine s_storeA 0 cs7 M rfl sz_nd rfl rfl hc7 ((M.da 0 rfl).ones (dN_one _)) rfl ?_
  clear M; rintro W M
  dsimp only [setL] at M
  refine c_loadN cs7 agg_nd rfl hc7 (M.run 0 rfl) ?_
  exact ⟨cs7, rfl, M.fin 0 rfl, M.below⟩
/-- Does a stub stand there? -/
def stubB (t : Nd) (w : List UInt8) : Bool := match atP t w with
  | some x => decide (x.kind = 4)
  | none => false
def NearOk (t : Nd) (w : List UInt8) (r : Int) : Prop := (∃ a : Nat, r = (a : Int) ∧ a ≤ w.length ∧ stubB t (w.take a) = true ∧ ∀ b, b < a → stubB t (w.take b) = false) ∨ (r = -1 ∧ ∀ b, b ≤ w.length → stubB t (w.take b) = false)
set_option maxRecDepth 100000 in
set_option maxHeartbeats 4000000 in
theorem vnear_any (t : Nd) (ht : sz t < 10000000) (l : List UInt8) (gs : List (Option Nat)) (w : World) (cs : List Value) (hr : RdL w (Fd w gs) (dN t) cs) {A : Option Addr} {n c : Nat} (hw : RdD w (Fd w gs) (dB l) (.slice A n c)) (hgs : ∀ b, some b ∈ gs → b < w.heap.size) (hn : n ≤ 100000000) :
    Calls Tryd.prog 50 #[.agg cs.toArray, .slice A n c] w fun e w' => ∃ r, e = .returned (.int .i64 r) ∧ NearOk t l r ∧ Below w.heap.size w w' := by
  refine calls_ev (args := [.agg cs.toArray, .slice A n c]) mixed Tryd.func50 rfl (by kernel_rfl) ?_
  have hl0 := hr.len
  rw [dN_len] at hl0
  have en := hw.slen
  have hcap := hw.scap
  subst en
  have M := ((St.start hgs).addD hw).addL hr
  clear hr hw
  refine s_box (cs) M rfl ?_
  clear M
  rintro g2 W M
  refine lp Nat (fun i W => i ≤ l.length + 1 ∧ (∀ b, b < i → stubB t (l.take b) = false) ∧ St w gs W [(g2, 26, cs)] [] [.dat false (dN t) cs, .dat false [dB l] [.slice A l.length c]])
    (fun i => [(1, .slice A l.length c), (2, .pointer (some ⟨g2, 0, none⟩)), (5, .int .i64 (i : Nat))]) (fun i => l.length + 1 - i) 0 ⟨Nat.zero_le _, (fun b h => absurd h (Nat.not_lt_zero _)), M⟩ (by repeat (first | exact trivial | refine ⟨rfl, ?_⟩)) ?_
  clear M
  rintro i E W ⟨hi, hb, M⟩
  refine p_len slb rfl ?_
  refine p_le rfl rfl (fun hle => ?_) (fun hle => ?_)
  rotate_left
  · have hle : ¬ i ≤ l.length := fun h => hle (by show (i : Int) ≤ (l.length : Int); omega)
    exact ⟨-1, rfl, .inr ⟨rfl, fun b h => hb b (by omega)⟩, M.below⟩
  have hle : i ≤ l.length := by have h : (i : Int) ≤ (l.length : Int) := hle; omega
  have hcut := (M.d1 1 rfl).cutB (i := 0) (j := i) (m := c) (Nat.zero_le _) hle (by omega)
  rw [List.drop_zero, Nat.sub_zero, Nat.sub_zero] at hcut
  replace M := M.addD hcut
  clear hcut
  obtain ⟨o, ho⟩ : ∃ o, o = atP t (l.take i) := ⟨_, rfl⟩
  have hz := at_sz (sz t + 1) t (l.take i)
  rw [← ho] at hz
  refine cutV (Nat × List Value) (fun s W => s.2.length = 6 ∧ St w gs W [(s.1, 26, s.2), (g2, 26, cs)] [] [.dat true (dN (o.getD noneN)) s.2, .dat false [dB (l.take i)] [.slice (slA A c 0 1) i c], .dat false (dN t) cs, .dat false [dB l] [.slice A l.length c]])
    (fun s => [(1, .slice A l.length c), (2, .pointer (some ⟨g2, 0, none⟩)), (5, .int .i64 (i : Nat)), (6, .pointer (some ⟨s.1, 0, none⟩)), (7, .bool o.isSome)]) ?_ ?_
  · replace M := M.drew
    refine drT (Kp w gs [(g2, 26, cs)] []) (.take 0 (.take 1 (.take 2 (.take 3 (.two 4 (.take 5 (.take 6 (.take 7 (.one 8 (.one 9 (.take 10 (.nil))))))) 8 (.one 4 (.take 5 (.take 6 (.take 7 (.one 9 (.take 10 (.nil))))))))))) ) (by kernel_rfl) (M.kp (by simp) (by simp)) ?_
    refine t_loadN cs agg_nd rfl hl0 (fun W K => K.run 0 rfl) ?_
    refine p_slice (i := 0) (j := i) (m := c) slb rfl rfl (bnd_i rfl) rfl rfl (Nat.zero_le _) (by omega) (Nat.le_refl _) ?_
    rw [Nat.sub_zero, Nat.sub_zero]
    refine ⟨?_, ?_⟩
    ·
      have ca := vat_any t ht (l.take i) _ _ cs (M.da 1 rfl) (M.d1 0 rfl) M.olt (by omega)
      rw [← ho] at ca
      refine cc is_vat ca ?_
      clear ca
      rintro e W ⟨cs9, rfl, r9, hb9⟩
      have hc9 := r9.len
      rw [dN_len] at hc9
      replace M := M.callF hb9 r9
      clear r9 hb9
      refine ⟨_, rfl, (M.kp (by simp) (by simp)), ?_⟩
      refine s_alloc (zN) M al_nd ?_
      clear M
      rintro g7 W M
      refine ⟨(M.kp (by simp) (by simp)), ?_⟩
      refine s_storeA 0 cs9 M rfl sz_nd rfl rfl hc9 ((M.da 0 rfl).ones (dN_one _)) rfl ?_
      clear M; rintro W M
      dsimp only [setL] at M
      refine ⟨(M.kp (by simp) (by simp)), ?_⟩
      exact ⟨(g7, cs9), ⟨hc9, M⟩, (by repeat (first | exact trivial | refine ⟨rfl, ?_⟩))⟩
    ·
      refine s_alloc (zN) M al_nd ?_
      clear M
      rintro g7 W M
      refine ⟨(M.kp (by simp) (by simp)), ?_⟩
      have ca := vat_any t ht (l.take i) _ _ cs (M.da 1 rfl) (M.d1 0 rfl) M.olt (by omega)
      rw [← ho] at ca
      refine cc is_vat ca ?_
      clear ca
      rintro e W ⟨cs9, rfl, r9, hb9⟩
      have hc9 := r9.len
      rw [dN_len] at hc9
      replace M := M.callF hb9 r9
      clear r9 hb9
      refine ⟨_, rfl, (M.kp (by simp) (by simp)), ?_⟩
      refine s_storeA 0 cs9 M rfl sz_nd rfl rfl hc9 ((M.da 0 rfl).ones (dN_one _)) rfl ?_
      clear M; rintro W M
      dsimp only [setL] at M
      refine ⟨(M.kp (by simp) (by simp)), ?_⟩
      exact ⟨(g7, cs9), ⟨hc9, M⟩, (by repeat (first | exact trivial | refine ⟨rfl, ?_⟩))⟩
  · clear M
    rintro ⟨g7, cs9⟩ B0 W0 ⟨hc9, M⟩
    dsimp only at hc9 M
    cases o with
    | none =>
      refine p_addN (b := 1) rfl rfl (by omega) ?_
      exact ⟨i + 1, ⟨by omega, (fun b h => by
        by_cases e : b = i
        · rw [e]; unfold stubB; rw [← ho]; skip
        · exact hb b (by omega)), M.dropL.fsub _ (by simp)⟩, (by repeat (first | exact trivial | refine ⟨rfl, ?_⟩)), by omega⟩
    | some x =>
      obtain ⟨Bp, ep, Bv, ev, Bk, ek, Bh, eh, rfl, -⟩ := (M.da 0 rfl).node
      refine p_fld fN0 rfl ?_
      refine v_load agg_int rfl ((M.B 0 rfl).at_ rfl) ?_
      refine p_eq rfl rfl (fun h4 => ?_) (fun h4 => ?_)
      · have h4 : x.kind = 4 := h4
        exact ⟨(i : Int), rfl, .inl ⟨i, rfl, hle, by unfold stubB; rw [← ho]; exact decide_eq_true h4, hb⟩, M.below⟩
      · have h4 : ¬ x.kind = 4 := h4
        refine p_addN (b := 1) rfl rfl (by omega) ?_
        exact ⟨i + 1, ⟨by omega, (fun b h => by
          by_cases e : b = i
          · rw [e]; unfold stubB; rw [← ho]; exact decide_eq_false h4
          · exact hb b (by omega)), M.dropL.fsub _ (by simp)⟩, (by repeat (first | exact trivial | refine ⟨rfl, ?_⟩)), by omega⟩
end Go.Proofs.YtojjfkbffjkojaaDoor
