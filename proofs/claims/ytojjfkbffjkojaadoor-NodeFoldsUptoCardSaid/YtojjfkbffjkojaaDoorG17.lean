/- law07: folded (which says, too, whether it did fold). Tries of which something is folded, plainly. No walk here. Lists of bytes as bytes: the walk of vint.Split. Numbers and bytes in one way: plain laws of what stands at a place. Lists of bytes as bytes: plain laws: what is joined is split as it was, what is split is joined as it was, one byte more, one byte less. The walks of the laws NodeFolds and NodeDigests. What the rows' list of package variables gives: the tables of digest. -/
import Derived.Test.YtojjfkbffjkojaaDoorG16
import Derived.Test.YtojjfkbffjkojaaDoorG14
import Derived.Test.YtojjfkbffjkojaaDoorG12
import Derived.Test.YtojjfkbffjkojaaDoorG09
import Derived.Test.YtojjfkbffjkojaaDoorG11
import Derived.Test.YtojjfkbffjkojaaDoorRows
import Derived.Lib.LaidTab
import Derived.MakeChecks
namespace Go.Proofs.YtojjfkbffjkojaaDoor
open Go.RowKit
def okN (t : Nd) : Bool := decide (t.kind ≠ 0) && decide (t.kind ≠ 4)
def okP : List UInt8 → Nd → Bool
  | [], t => okN t
  | x :: w, t => if t.kids = [] then okN t else okP w (t.kids.getD (x.toNat % t.kids.length) noneN)
theorem is_fo7 : isFn Tryd.prog 40 = true := by kernel_rfl
def Fo7Ok (way : List UInt8) : Prop := ∀ (t : Nd) (gs : List (Option Nat)) (w : World) (cs : List Value) (A1 : Option Addr) (n1 c1 : Nat), sz t ≤ 1000000 → RdL w (Fd w gs) (dN t) cs → RdD w (Fd w gs) (dB way) (.slice A1 n1 c1) → (∀ b, some b ∈ gs → b < w.heap.size) →
  Calls Tryd.prog 40 #[.agg cs.toArray, .slice A1 n1 c1] w fun e w' => ∃ cs', e = .returned (.tuple #[.agg cs'.toArray, .bool (okP way t)]) ∧ RdL w' (Fd w' gs) (dN (foldedP way t)) cs' ∧ Below w.heap.size w w'
set_option maxRecDepth 100000 in
set_option maxHeartbeats 2000000 in
theorem folded7_any : ∀ way : List UInt8, Fo7Ok way := by
  intro way
  induction way with
  | nil =>
    intro t gs w cs A1 n1 c1 hz hr hw hgs
    refine calls_ev (args := [.agg cs.toArray, .slice A1 n1 c1]) mixed Tryd.func40 rfl (by kernel_rfl) ?_
    have en := hw.slen
    obtain ⟨Ap, cp, Av, cv, Ak, ck, Ah, ch, rfl, -⟩ := hr.node
    have M := (St.start hgs).addL hr
    clear hr
    refine s_box (ncs t Ap cp Av cv Ak ck Ah ch) M rfl ?_
    clear M
    rintro g2 W M
    refine s_alloc (zN) M al_nd ?_
    clear M
    rintro g4 W M
    refine p_len slb rfl ?_
    refine p_eq rfl rfl (fun _ => ?_) (fun h => absurd (by rw [en]; rfl) h)
    unfold foldedP okP
    replace M := M.drew
    refine drT (Kp w gs [(g2, 26, ncs t Ap cp Av cv Ak ck Ah ch)] []) (.take 0 (.take 2 (.take 3 (.take 4 (.one 1 (.take 5 (.take 6 (.take 7 (.take 8 (.take 9 (.one 10 (.take 11 (.nil))))))))))))) (by kernel_rfl) (M.kp (by simp) (by simp)) ?_
    refine t_loadN (ncs t Ap cp Av cv Ak ck Ah ch) agg_nd rfl rfl (fun W K => K.run 0 rfl) ?_
    refine p_fld fN0 rfl ?_
    refine t_load agg_int rfl (fun W K => (K.B 0 rfl).at_ rfl) ?_
    refine p_ne rfl rfl (fun h0 => ?_) (fun h0 => ?_)
    · rw [show okN t = false by unfold okN; rw [decide_eq_false (fun h => h h0)]; rfl]
      refine cc is_r7fold (rfold_any t (by omega) _ _ _ (M.da 0 rfl) M.olt) ?_
      rintro e W ⟨cs9, rfl, r9, hb⟩
      have hc9 := r9.len
      rw [dN_len] at hc9
      replace M := M.callF hb r9
      clear r9 hb
      refine ⟨_, rfl, (M.kp (by simp) (by simp)), ?_⟩
      refine s_storeA 0 cs9 M rfl sz_nd rfl rfl hc9 ((M.da 0 rfl).ones (dN_one _)) rfl ?_
      clear M; rintro W M
      dsimp only [setL] at M
      refine ⟨(M.kp (by simp) (by simp)), ?_⟩
      refine c_loadN cs9 agg_nd rfl hc9 (M.run 0 rfl) ?_
      exact ⟨cs9, rfl, M.fin 0 rfl, M.below⟩
    ·
      refine cc is_r7fold (rfold_any t (by omega) _ _ _ (M.da 0 rfl) M.olt) ?_
      rintro e W ⟨cs9, rfl, r9, hb⟩
      have hc9 := r9.len
      rw [dN_len] at hc9
      replace M := M.callF hb r9
      clear r9 hb
      refine ⟨_, rfl, (M.kp (by simp) (by simp)), ?_⟩
      refine p_fld fN0 rfl ?_
      refine t_load agg_int rfl (fun W K => (K.B 0 rfl).at_ rfl) ?_
      refine p_ne rfl rfl (fun h4 => ?_) (fun h4 => ?_)
      · rw [show okN t = false by unfold okN; rw [decide_eq_false (show ¬ t.kind ≠ 4 from fun h => h h4), Bool.and_false]]
        refine s_storeA 0 cs9 M rfl sz_nd rfl rfl hc9 ((M.da 0 rfl).ones (dN_one _)) rfl ?_
        clear M; rintro W M
        dsimp only [setL] at M
        refine ⟨(M.kp (by simp) (by simp)), ?_⟩
        refine c_loadN cs9 agg_nd rfl hc9 (M.run 0 rfl) ?_
        exact ⟨cs9, rfl, M.fin 0 rfl, M.below⟩
      · rw [show okN t = true by unfold okN; rw [decide_eq_true h0, decide_eq_true h4]; rfl]
        refine s_storeA 0 cs9 M rfl sz_nd rfl rfl hc9 ((M.da 0 rfl).ones (dN_one _)) rfl ?_
        clear M; rintro W M
        dsimp only [setL] at M
        refine ⟨(M.kp (by simp) (by simp)), ?_⟩
        refine c_loadN cs9 agg_nd rfl hc9 (M.run 0 rfl) ?_
        exact ⟨cs9, rfl, M.fin 0 rfl, M.below⟩
  | cons x way ih =>
    intro t gs w cs A1 n1 c1 hz hr hw hgs
    refine calls_ev (args := [.agg cs.toArray, .slice A1 n1 c1]) mixed Tryd.func40 rfl (by kernel_rfl) ?_
    have en := hw.slen
    rw [List.length_cons] at en
    obtain ⟨Ap, cp, Av, cv, Ak, ck, Ah, ch, rfl, r1, r3, r4, r5⟩ := id hr.node
    have M := ((((((St.start hgs).addD r5).addD r3).addD r1).addD hw).addD r4).addL hr
    clear hr hw r1 r3 r4 r5
    refine s_box (ncs t Ap cp Av cv Ak ck Ah ch) M rfl ?_
    clear M
    rintro g2 W M
    refine s_alloc (zN) M al_nd ?_
    clear M
    rintro g4 W M
    refine p_len slb rfl ?_
    refine p_eq rfl rfl (fun h => absurd h (by rw [en]; omega)) (fun _ => ?_)
    refine p_fld fN4 rfl ?_
    refine v_load agg_ns rfl ((M.B 1 rfl).at_ rfl) ?_
    refine p_len sln rfl ?_
    unfold foldedP okP
    refine p_eq rfl rfl (fun h0 => ?_) (fun h0 => ?_)
    · have hk0 : t.kids = [] := List.eq_nil_of_length_eq_zero (by omega)
      rw [if_pos hk0, if_pos hk0]
      replace M := M.drew
      refine drT (Kp w gs [(g2, 26, ncs t Ap cp Av cv Ak ck Ah ch)] []) (.take 0 (.take 2 (.take 3 (.take 4 (.one 1 (.take 5 (.take 6 (.take 7 (.take 8 (.take 9 (.one 10 (.take 11 (.nil))))))))))))) (by kernel_rfl) (M.kp (by simp) (by simp)) ?_
      refine t_loadN (ncs t Ap cp Av cv Ak ck Ah ch) agg_nd rfl rfl (fun W K => K.run 0 rfl) ?_
      refine p_fld fN0 rfl ?_
      refine t_load agg_int rfl (fun W K => (K.B 0 rfl).at_ rfl) ?_
      refine p_ne rfl rfl (fun h0 => ?_) (fun h0 => ?_)
      · rw [show okN t = false by unfold okN; rw [decide_eq_false (fun h => h h0)]; rfl]
        refine cc is_r7fold (rfold_any t (by omega) _ _ _ (M.da 0 rfl) M.olt) ?_
        rintro e W ⟨cs9, rfl, r9, hb⟩
        have hc9 := r9.len
        rw [dN_len] at hc9
        replace M := M.callF hb r9
        clear r9 hb
        refine ⟨_, rfl, (M.kp (by simp) (by simp)), ?_⟩
        refine s_storeA 0 cs9 M rfl sz_nd rfl rfl hc9 ((M.da 0 rfl).ones (dN_one _)) rfl ?_
        clear M; rintro W M
        dsimp only [setL] at M
        refine ⟨(M.kp (by simp) (by simp)), ?_⟩
        refine c_loadN cs9 agg_nd rfl hc9 (M.run 0 rfl) ?_
        exact ⟨cs9, rfl, M.fin 0 rfl, M.below⟩
      ·
        refine cc is_r7fold (rfold_any t (by omega) _ _ _ (M.da 0 rfl) M.olt) ?_
        rintro e W ⟨cs9, rfl, r9, hb⟩
        have hc9 := r9.len
        rw [dN_len] at hc9
        replace M := M.callF hb r9
        clear r9 hb
        refine ⟨_, rfl, (M.kp (by simp) (by simp)), ?_⟩
        refine p_fld fN0 rfl ?_
        refine t_load agg_int rfl (fun W K => (K.B 0 rfl).at_ rfl) ?_
        refine p_ne rfl rfl (fun h4 => ?_) (fun h4 => ?_)
        · rw [show okN t = false by unfold okN; rw [decide_eq_false (show ¬ t.kind ≠ 4 from fun h => h h4), Bool.and_false]]
          refine s_storeA 0 cs9 M rfl sz_nd rfl rfl hc9 ((M.da 0 rfl).ones (dN_one _)) rfl ?_
          clear M; rintro W M
          dsimp only [setL] at M
          refine ⟨(M.kp (by simp) (by simp)), ?_⟩
          refine c_loadN cs9 agg_nd rfl hc9 (M.run 0 rfl) ?_
          exact ⟨cs9, rfl, M.fin 0 rfl, M.below⟩
        · rw [show okN t = true by unfold okN; rw [decide_eq_true h0, decide_eq_true h4]; rfl]
          refine s_storeA 0 cs9 M rfl sz_nd rfl rfl hc9 ((M.da 0 rfl).ones (dN_one _)) rfl ?_
          clear M; rintro W M
          dsimp only [setL] at M
          refine ⟨(M.kp (by simp) (by simp)), ?_⟩
          refine c_loadN cs9 agg_nd rfl hc9 (M.run 0 rfl) ?_
          exact ⟨cs9, rfl, M.fin 0 rfl, M.below⟩
    have hkl : 0 < t.kids.length := by omega
    have hkn : ¬ t.kids = [] := fun e => by rw [e] at hkl; exact absurd hkl (by decide)
    rw [if_neg hkn, if_neg hkn]
    have hzs := sz_eq t
    have hsl := szs_len t.kids
    obtain ⟨k, hk⟩ : ∃ k, k = x.toNat % t.kids.length := ⟨_, rfl⟩
    have hkk : k < t.kids.length := by rw [hk]; exact Nat.mod_lt _ hkl
    obtain ⟨kd, hkd⟩ : ∃ kd, t.kids[k]? = some kd := ⟨_, List.getElem?_eq_getElem hkk⟩
    have hgd : t.kids.getD k noneN = kd := by rw [List.getD_eq_getElem?_getD, hkd]; rfl
    rw [← hk, hgd]
    have hkz := szs_mem (List.mem_of_getElem? hkd)
    obtain ⟨b1, o1, es, rfl, hF, hes, hel, hcg⟩ := (M.d1 2 rfl).at_ (i := 0) (by omega)
    have hes2 : es = [.int .u8 (x.toNat : Nat)] := by
      have e1 : ((((bvs (x :: way)).map D.v).drop (0 * 1)).take 1) = [D.v (.int .u8 (x.toNat : Nat))] := rfl
      rw [e1] at hes
      exact hes.vals (xs := [.int .u8 (x.toNat : Nat)])
    subst hes2
    replace M := M.addC (a := (⟨b1, o1, none⟩ : Addr).add (0 * 1)) (cs := [.int .u8 (x.toNat : Nat)]) (by rw [block_of_add]; exact hF) (fun j x hx => by rw [Addr.add_lit, Addr.add_lit]; exact hcg j x hx)
    replace M := M.drew
    refine drT (Kp w gs [(g2, 26, ncs t Ap cp Av cv Ak ck Ah ch)] [.loc ((⟨b1, o1, none⟩ : Addr).add (0 * 1)) [.int .u8 (x.toNat : Nat)]]) (.take 0 (.take 1 (.take 2 (.take 3 (.take 4 (.take 5 (.take 6 (.take 7 (.take 8 (.nil)))))))))) (by kernel_rfl) (M.kp (by simp) (by simp)) ?_
    refine p_at (i := 0) slb rfl rfl rfl (by omega) ?_
    refine t_load agg_by' rfl (fun W K => K.lc 0 rfl 0 _ rfl) ?_
    refine t_cvt u_u8x u_inty rfl (r := ((x.toNat : Nat) : Int)) (w64 (by have := x.toNat_lt; omega)) ?_
    refine p_fld fN4 rfl ?_
    refine t_load agg_ns rfl (fun W K => (K.B 0 rfl).at_ rfl) ?_
    refine p_len sln rfl ?_
    refine p_remN rfl rfl hkl ?_
    rw [← hk]
    obtain ⟨b, off, es, e0, hel2, M'⟩ := M.kid (M.d1 2 rfl) hkd
    replace M := M'; clear M'
    have hcut := (M.d1 5 rfl).cutB (i := 1) (j := n1) (m := c1) (by omega) (Nat.le_refl _) (M.d1 5 rfl).scap
    rw [List.drop_succ_cons, List.drop_zero, List.take_of_length_le (by omega)] at hcut
    have hcap := (M.d1 5 rfl).scap
    replace M := M.addD hcut
    clear hcut
    refine cutV (Nat × List Value) (fun s W => s.2.length = 6 ∧ St w gs W [(s.1, 26, s.2), (g4, 26, zN), (g2, 26, ncs t Ap cp Av cv Ak ck Ah ch)] [] [.dat false (dN (foldedP way kd)) s.2, .dat false [dKs t.kids] [.slice Ak t.kids.length ck], .dat false [dB t.path] [.slice Ap t.path.length cp], .dat false [dB t.val] [.slice Av t.val.length cv], .dat false [dB t.hash] [.slice Ah t.hash.length ch]])
      (fun s => [(2, .pointer (some ⟨g2, 0, none⟩)), (4, .pointer (some ⟨g4, 0, none⟩)), (6, .int .i64 (k : Nat)), (7, .pointer (some ⟨s.1, 0, none⟩)), (8, .bool (okP way kd))]) ?_ ?_
    · replace M := M.drew
      refine drT (Kp w gs [(g2, 26, ncs t Ap cp Av cv Ak ck Ah ch)] [.loc ((⟨b, off, none⟩ : Addr).add (k * 6)) es]) (.take 0 (.take 1 (.take 2 (.take 3 (.take 4 (.take 5 (.take 6 (.two 7 (.take 8 (.take 9 (.take 10 (.one 11 (.one 12 (.take 13 (.nil))))))) 11 (.one 7 (.take 8 (.take 9 (.take 10 (.one 12 (.take 13 (.nil))))))))))))))) (by kernel_rfl) (M.kp (by simp) (by simp)) ?_
      refine p_fld fN4 rfl ?_
      refine t_load agg_ns rfl (fun W K => (K.B 0 rfl).at_ rfl) ?_
      refine p_at (i := k) sln (by show (Value.slice Ak t.kids.length ck) = _; rw [e0]) rfl rfl hkk ?_
      refine t_loadN es agg_nd rfl hel2 (fun W K => K.lc 0 rfl) ?_
      refine p_slice (i := 1) (j := n1) (m := c1) slb rfl (bnd_i rfl) rfl rfl rfl (by omega) hcap (Nat.le_refl _) ?_
      refine ⟨?_, ?_⟩
      ·
        refine cc is_fo7 (ih kd _ _ es _ _ _ (by omega) (M.da 2 rfl) (M.d1 0 rfl) M.olt) ?_
        rintro e W ⟨cs9, rfl, r9, hb⟩
        have hc9 := r9.len
        rw [dN_len] at hc9
        replace M := (M.call hb).addL r9
        clear r9 hb
        refine ⟨_, rfl, (M.kp (by simp) (by simp)), ?_⟩
        refine s_alloc (zN) M al_nd ?_
        clear M
        rintro g7 W M
        refine ⟨(M.kp (by simp) (by simp)), ?_⟩
        refine s_storeA 0 cs9 M rfl sz_nd rfl rfl hc9 ((M.da 0 rfl).ones (dN_one _)) rfl ?_
        clear M; rintro W M
        dsimp only [setL] at M
        refine ⟨(M.kp (by simp) (by simp)), ?_⟩
        exact ⟨(g7, cs9), ⟨hc9, M.fsub _ (by intro f hf; simp only [List.mem_cons, List.not_mem_nil, or_false] at hf ⊢; rcases hf with h | h | h | h | h <;> simp [h])⟩, (by repeat (first | exact trivial | refine ⟨rfl, ?_⟩))⟩
      ·
        refine s_alloc (zN) M al_nd ?_
        clear M
        rintro g7 W M
        refine ⟨(M.kp (by simp) (by simp)), ?_⟩
        refine cc is_fo7 (ih kd _ _ es _ _ _ (by omega) (M.da 2 rfl) (M.d1 0 rfl) M.olt) ?_
        rintro e W ⟨cs9, rfl, r9, hb⟩
        have hc9 := r9.len
        rw [dN_len] at hc9
        replace M := (M.call hb).addL r9
        clear r9 hb
        refine ⟨_, rfl, (M.kp (by simp) (by simp)), ?_⟩
        refine s_storeA 0 cs9 M rfl sz_nd rfl rfl hc9 ((M.da 0 rfl).ones (dN_one _)) rfl ?_
        clear M; rintro W M
        dsimp only [setL] at M
        refine ⟨(M.kp (by simp) (by simp)), ?_⟩
        exact ⟨(g7, cs9), ⟨hc9, M.fsub _ (by intro f hf; simp only [List.mem_cons, List.not_mem_nil, or_false] at hf ⊢; rcases hf with h | h | h | h | h <;> simp [h])⟩, (by repeat (first | exact trivial | refine ⟨rfl, ?_⟩))⟩
    clear M
    rintro ⟨g7, cs9⟩ B0 W0 ⟨hc9, M⟩
    dsimp only at hc9 M
    refine p_fld fN4 rfl ?_
    refine v_load agg_ns rfl ((M.B 2 rfl).at_ rfl) ?_
    replace M := M.nilR 26 6
    obtain ⟨ys, hrd, hys⟩ := (M.d1 1 rfl).reads Fd.lt
    replace M := M.addL hys
    refine s_app M Tryd.underlying24 inf_nd rfl (by decide) rfl rfl hrd (hys.ones (dNs_one _)) ⟨by omega, by decide⟩ ?_
    clear M hrd hys; rintro A5 c5 W M -
    rw [Nat.zero_add, List.nil_append] at M
    obtain ⟨g, rest, rfl, hgc, M'⟩ := M.rowBlk hkl
    replace M := M'; clear M'
    have hyl := (M.da 0 rfl).len
    rw [dNs_len] at hyl
    refine v_loadN cs9 agg_nd rfl hc9 (M.run 1 rfl) ?_
    refine p_atL (i := k) (q := k * 6) sln rfl rfl rfl (by omega) (by omega) ?_
    refine s_storeP 0 (n := 6) (off := k * 6) cs9 _ M rfl sz_nd rfl rfl hc9 ((M.da 1 rfl).ones (dN_one _)) (by rw [List.length_append, hyl]; omega) rfl ?_
    clear M; rintro W M
    dsimp only [setL] at M
    have e1 : (ys ++ rest).take (k * 6) = ys.take (k * 6) := List.take_append_of_le_length (by omega)
    have e2 : (ys ++ rest).drop (k * 6 + 6) = ys.drop (k * 6 + 6) ++ rest := List.drop_append_of_le_length (by omega)
    rw [e1, e2, ← List.append_assoc] at M
    have hX := M.dw 0 rfl
    have hX2 := ((hX.take (k * 6)).app (M.dw 1 rfl)).app (hX.drop (k * 6 + 6))
    rw [← dNs_set _ (by omega)] at hX2
    replace M := M.addT hX2
    obtain ⟨ks', hks'⟩ : ∃ ks', ks' = t.kids.set k (foldedP way kd) := ⟨_, rfl⟩
    have hkl' : ks'.length = t.kids.length := by rw [hks', List.length_set]
    rw [← hks'] at M ⊢
    replace M := M.frzB' (fr := false) (s := 6) (n := ks'.length) (c := c5) (M.dt 0 rfl) (dNs_len ks') (by omega)
    refine p_fld fN4 rfl ?_
    refine s_set 2 (.slice (some ⟨g, 0, none⟩) (0 + t.kids.length) c5) [.int .i64 t.kind, .slice Ap t.path.length cp, .bool t.has, .slice Av t.val.length cv, .slice (some ⟨g, 0, none⟩) (0 + t.kids.length) c5, .slice Ah t.hash.length ch] M rfl (by kernel_rfl) rfl rfl rfl (Nat.le_of_ble_eq_true rfl) rfl ?_
    clear M; rintro W M
    dsimp only [setL] at M
    refine v_loadN [.int .i64 t.kind, .slice Ap t.path.length cp, .bool t.has, .slice Av t.val.length cv, .slice (some ⟨g, 0, none⟩) (0 + t.kids.length) c5, .slice Ah t.hash.length ch] agg_nd rfl rfl (M.run 2 rfl) ?_
    refine s_storeA 1 [.int .i64 t.kind, .slice Ap t.path.length cp, .bool t.has, .slice Av t.val.length cv, .slice (some ⟨g, 0, none⟩) (0 + t.kids.length) c5, .slice Ah t.hash.length ch] M rfl sz_nd rfl rfl rfl (all1 rfl) rfl ?_
    clear M; rintro W M
    dsimp only [setL] at M
    refine c_loadN [.int .i64 t.kind, .slice Ap t.path.length cp, .bool t.has, .slice Av t.val.length cv, .slice (some ⟨g, 0, none⟩) (0 + t.kids.length) c5, .slice Ah t.hash.length ch] agg_nd rfl rfl (M.run 1 rfl) ?_
    refine ⟨_, rfl, ?_, M.below⟩
    rw [Nat.zero_add, ← hkl']
    exact RdL.ofnode (t := .mk t.kind t.path t.has t.val ks' t.hash) (M.fin1 5 rfl) (M.fin1 6 rfl) (M.fin1 0 rfl) (M.fin1 7 rfl)
end Go.Proofs.YtojjfkbffjkojaaDoor
namespace Go.Proofs.YtojjfkbffjkojaaDoor
/-- The second one, with something folded. -/
inductive Fo : Nd → Nd → Prop
  | refl (t : Nd) : Fo t t
  | stub (t : Nd) (h0 : t.kind ≠ 0) : Fo (.mk 4 [] false [] [] (hashP t)) t
  | way (p : List UInt8) {k k' : Nd} (h : Fo k k') : Fo (.mk 2 p false [] [k] []) (.mk 2 p false [] [k'] [])
  | branch (has : Bool) (v : List UInt8) (ks ks' : List Nd) (hl : ks.length = ks'.length) (h : ∀ (i : Nat) (k k' : Nd), ks[i]? = some k → ks'[i]? = some k' → Fo k k') : Fo (.mk 3 [] has v ks []) (.mk 3 [] has v ks' [])
theorem Fo.kind {m n : Nd} (h : Fo m n) : (m.kind = 0 ↔ n.kind = 0) ∧ (m.kind ≠ 4 → m.kind = n.kind) := by
  cases h with
  | refl => exact ⟨Iff.rfl, fun _ => rfl⟩
  | stub _ h0 => exact ⟨⟨fun e => absurd (show (4 : Int) = 0 from e) (by decide), fun e => absurd e h0⟩, fun e => absurd rfl e⟩
  | way => exact ⟨⟨fun e => absurd (show (2 : Int) = 0 from e) (by decide), fun e => absurd (show (2 : Int) = 0 from e) (by decide)⟩, fun _ => rfl⟩
  | branch => exact ⟨⟨fun e => absurd (show (3 : Int) = 0 from e) (by decide), fun e => absurd (show (3 : Int) = 0 from e) (by decide)⟩, fun _ => rfl⟩
/-- Kids, each the other's or folded. -/
def Fos (ks ks' : List Nd) : Prop := ks.length = ks'.length ∧ ∀ (i : Nat) (k k' : Nd), ks[i]? = some k → ks'[i]? = some k' → Fo k k'
theorem Fos.refl (ks : List Nd) : Fos ks ks := ⟨rfl, fun i k k' h h' => by rw [h] at h'; injection h' with h'; rw [h']; exact .refl _⟩
theorem Fos.set {ks ks' : List Nd} (h : Fos ks ks') {a b : Nd} (hab : Fo a b) (i : Nat) : Fos (ks.set i a) (ks'.set i b) := by
  refine ⟨by rw [List.length_set, List.length_set]; exact h.1, fun j k k' hk hk' => ?_⟩
  by_cases e : i = j
  · subst e
    have h1 := (List.getElem?_eq_some_iff.1 hk).1
    have h2 := (List.getElem?_eq_some_iff.1 hk').1
    rw [List.length_set] at h1 h2
    rw [List.getElem?_set_self h1] at hk
    rw [List.getElem?_set_self h2] at hk'
    injection hk with hk; injection hk' with hk'
    rw [← hk, ← hk']; exact hab
  · rw [List.getElem?_set_ne e] at hk hk'
    exact h.2 j k k' hk hk'
theorem Fos.tail {k k' : Nd} {ks ks' : List Nd} (h : Fos (k :: ks) (k' :: ks')) : Fo k k' ∧ Fos ks ks' :=
  ⟨h.2 0 k k' rfl rfl, by have := h.1; simpa using this, fun i a b h1 h2 => h.2 (i + 1) a b (by simpa using h1) (by simpa using h2)⟩
theorem Fos.many : ∀ {ks ks' : List Nd}, Fos ks ks' → manyN ks = manyN ks'
  | [], [], _ => rfl
  | [], _ :: _, h => by have := h.1; simp at this
  | _ :: _, [], h => by have := h.1; simp at this
  | k :: ks, k' :: ks', h => by
    obtain ⟨h1, h2⟩ := h.tail
    rw [many_cons, many_cons, Fos.many h2]
    by_cases e : k.kind = 0
    · rw [if_pos e, if_pos (h1.kind.1.1 e)]
    · rw [if_neg e, if_neg (fun e' => e (h1.kind.1.2 e'))]
theorem Fos.scan {has : Bool} : ∀ {ks ks' : List Nd} {i : Nat} {o : Option Nat}, Fos ks ks' → scanK has ks i o = scanK has ks' i o
  | [], [], _, _, _ => rfl
  | [], _ :: _, _, _, h => by have := h.1; simp at this
  | _ :: _, [], _, _, h => by have := h.1; simp at this
  | k :: ks, k' :: ks', i, o, h => by
    obtain ⟨h1, h2⟩ := h.tail
    rw [scanK, scanK]
    by_cases e : k.kind = 0
    · rw [if_pos e, if_pos (h1.kind.1.1 e), Fos.scan h2]
    · rw [if_neg e, if_neg (fun e' => e (h1.kind.1.2 e')), Fos.scan h2]
theorem Fo.val {even : Bool} {m n : Nd} (h : Fo m n) : ∀ d, Val even n d → Val even m d := by
  induction h with
  | refl => exact fun d h => h
  | stub t h0 => exact fun d h => .stub d _ h.le (hashP_len h)
  | way p h ih =>
    intro d hv
    cases hv with
    | way _ _ _ hd hp h0 hk hr =>
      refine .way d p _ hd hp h0 ?_ (ih _ hr)
      rename_i k k'
      by_cases h4 : k.kind = 4
      · exact .inr h4
      · rw [h.kind.2 h4]; exact hk
  | branch has v ks ks' hl h ih =>
    intro d hv
    cases hv with
    | branch _ _ _ _ hd hv hv0 he h16 hr hm =>
      refine .branch d has v ks hd hv hv0 he (hl.trans h16) (fun k hk => ?_) (by rw [Fos.many ⟨hl, h⟩]; exact hm)
      obtain ⟨i, hi⟩ := List.getElem?_of_mem hk
      have hi' := (List.getElem?_eq_some_iff.1 hi).1
      have hk' : ks'[i]? = some (ks'[i]'(by omega)) := List.getElem?_eq_getElem (by omega)
      exact ih i k _ hi hk' _ (hr _ (List.mem_of_getElem? hk'))
theorem hashes_eq : ∀ {ks ks' : List Nd}, ks.length = ks'.length → (∀ (i : Nat) (k k' : Nd), ks[i]? = some k → ks'[i]? = some k' → (k.kind = 0 ↔ k'.kind = 0) ∧ hashP k = hashP k') → hashesP ks = hashesP ks'
  | [], [], _, _ => rfl
  | [], _ :: _, h, _ => by simp at h
  | _ :: _, [], h, _ => by simp at h
  | k :: ks, k' :: ks', h, hh => by
    obtain ⟨h1, h2⟩ := hh 0 k k' rfl rfl
    rw [hashesP, hashesP, hashes_eq (by simpa using h) (fun i a b ha hb => hh (i + 1) a b (by simpa using ha) (by simpa using hb)), h2]
    by_cases e : k.kind = 0
    · rw [if_neg (fun x => x e), if_neg (fun x => x (h1.1 e))]
    · rw [if_pos e, if_pos (fun x => e (h1.2 x))]
theorem kbit_eq {ks ks' : List Nd} (h : Fos ks ks') (i : Nat) : kbit ks i = kbit ks' i := by
  unfold kbit
  have : ((ks.getD i noneN).kind ≠ 0) ↔ ((ks'.getD i noneN).kind ≠ 0) := by
    rw [List.getD_eq_getElem?_getD, List.getD_eq_getElem?_getD]
    rcases Nat.lt_or_ge i ks.length with hi | hi
    · have h1 : ks[i]? = some (ks[i]'hi) := List.getElem?_eq_getElem hi
      have h2 : ks'[i]? = some (ks'[i]'(by have := h.1; omega)) := List.getElem?_eq_getElem (by have := h.1; omega)
      rw [h1, h2]
      exact not_congr (h.2 i _ _ h1 h2).kind.1
    · rw [List.getElem?_eq_none hi, List.getElem?_eq_none (by have := h.1; omega)]
  by_cases e : (ks.getD i noneN).kind ≠ 0
  · rw [if_pos e, if_pos (this.1 e)]
  · rw [if_neg e, if_neg (fun x => e (this.2 x))]
theorem kbits_eq {ks ks' : List Nd} (h : Fos ks ks') : ∀ i, kbits ks i = kbits ks' i
  | 0 => rfl
  | i + 1 => by rw [kbits, kbits, kbits_eq h i, kbit_eq h i]
theorem Fo.hash {m n : Nd} (h : Fo m n) : hashP m = hashP n := by
  induction h with
  | refl => rfl
  | stub t h0 => rw [hashP_eq]; exact if_pos rfl
  | @way p k k' h ih =>
    rw [hashP, hashP, if_neg (by decide), if_neg (by decide), hashes_eq (ks := [k]) (ks' := [k']) rfl (fun i a b ha hb => by
      match i, ha, hb with
      | 0, ha, hb =>
        simp at ha hb
        subst ha; subst hb
        exact ⟨h.kind.1, ih⟩)]
    rfl
  | branch has v ks ks' hl h ih =>
    rw [hashP, hashP, if_neg (by decide), if_neg (by decide), hashes_eq hl (fun i a b ha hb => ⟨(h i a b ha hb).kind.1, ih i a b ha hb⟩)]
    unfold encF
    rw [kbits_eq ⟨hl, h⟩ 16]
theorem ends_down {even : Bool} {d e : Nat} (h : endsP d even = true) (he : e ≤ d) : endsP e false = true := by
  have := endsP_le h
  unfold endsP
  rw [decide_eq_true (show e ≤ 400 by omega)]; rfl
theorem val_down {even : Bool} {t : Nd} {d : Nat} (h : Val even t d) : ∀ e, e ≤ d → Val false t e := by
  induction h with
  | none d hd => exact fun e he => .none e (by omega)
  | leaf d p v hd hp hv hend => exact fun e he => .leaf e p v (by omega) hp hv (ends_down hend (by omega))
  | stub d h hd hh => exact fun e he => .stub e h (by omega) hh
  | way d p k hd hp h0 hk hr ih => exact fun e he => .way e p k (by omega) hp h0 hk (ih _ (by omega))
  | branch d has v ks hd hv hv0 hend h16 hr hm ih => exact fun e he => .branch e has v ks (by omega) hv hv0 (fun x => ends_down (hend x) he) h16 (fun k hk => ih k hk _ (by omega)) hm
theorem hashR_val {even : Bool} {t : Nd} {d : Nat} (h : Val even t d) : hashR t = hashP t := by
  unfold hashR
  rw [right_of_val (val_down h 0 (Nat.zero_le _)), if_pos rfl]
theorem fold_fo {even : Bool} {t : Nd} {d : Nat} (h : Val even t d) : Fo (foldN t) t := by
  unfold foldN
  by_cases e : t.kind = 0
  · rw [if_pos e, kind0 h e]; exact .refl _
  · rw [if_neg e, hashR_val h]; exact .stub t e
theorem folded_fo : ∀ (way : List UInt8) {even : Bool} {t : Nd} {d : Nat}, Val even t d → Fo (foldedP way t) t
  | [], _, _, _, h => fold_fo h
  | x :: w, even, t, d, h => by
    rw [foldedP]
    cases h with
    | none d hd => rw [if_pos (show noneN.kids = [] from rfl)]; exact fold_fo (.none (even := even) d hd)
    | leaf d p v hd hp hv he => rw [if_pos (show (Nd.mk 1 p false v [] []).kids = [] from rfl)]; exact fold_fo (.leaf d p v hd hp hv he)
    | stub d h hd hh => rw [if_pos (show (Nd.mk 4 [] false [] [] h).kids = [] from rfl)]; exact fold_fo (.stub (even := even) d h hd hh)
    | way d p k hd hp h0 hk hr =>
      rw [if_neg (fun e => by cases e)]
      have e : x.toNat % ([k] : List Nd).length = 0 := Nat.mod_one _
      simp only [Nd.kids, Nd.kind, Nd.path, Nd.has, Nd.val, Nd.hash, e]
      exact .way p (folded_fo w hr)
    | branch d has v ks hd hv hv0 he h16 hr hm =>
      have hne : (Nd.mk 3 [] has v ks []).kids ≠ [] := fun e => by
        have e2 : ks = [] := e
        rw [e2] at h16; cases h16
      rw [if_neg hne]
      simp only [Nd.kids, Nd.kind, Nd.path, Nd.has, Nd.val, Nd.hash]
      have hlt : x.toNat % ks.length < ks.length := Nat.mod_lt _ (by omega)
      obtain ⟨k, hk⟩ : ∃ k, ks[x.toNat % ks.length]? = some k := ⟨_, List.getElem?_eq_getElem hlt⟩
      have hg : ks.getD (x.toNat % ks.length) noneN = k := by rw [List.getD_eq_getElem?_getD, hk]; rfl
      rw [hg]
      have hs := (Fos.refl ks).set (folded_fo w (hr k (List.mem_of_getElem? hk))) (x.toNat % ks.length)
      have e : ks.set (x.toNat % ks.length) k = ks := by
        refine List.ext_getElem? fun i => ?_
        by_cases e : x.toNat % ks.length = i
        · subst e
          rw [List.getElem?_set_self hlt, hk]
        · rw [List.getElem?_set_ne e]
      rw [e] at hs
      exact .branch has v _ ks hs.1 hs.2
theorem Fo.get {even : Bool} {m n : Nd} (h : Fo m n) : ∀ d, Val even n d → ∀ q, halvesB q = true → getP m q = getP n q ∨ ∃ r, (getP m q).miss = some r ∧ r <+: q := by
  induction h with
  | refl => exact fun _ _ _ _ => .inl rfl
  | stub t h0 => exact fun _ _ q _ => .inr ⟨[], by rw [getP_stub], List.nil_prefix⟩
  | way p h ih =>
    intro d hv q hq
    cases hv with
    | way _ _ _ hd hp h0 hk hr =>
      by_cases hpq : p <+: q
      · rw [getP_way hpq, getP_way hpq]
        rcases ih _ hr (q.drop p.length) (halvesB_drop hq) with e | ⟨r, e1, e2⟩
        · exact .inl (by rw [e])
        · refine .inr ⟨p ++ r, by simp only [e1]; rfl, ?_⟩
          obtain ⟨s, rfl⟩ := hpq
          rw [List.drop_left] at e2
          exact (List.prefix_append_right_inj _).2 e2
      · exact .inl (by rw [getP_way0 hpq, getP_way0 hpq])
  | branch has v ks ks' hl h ih =>
    intro d hv q hq
    cases hv with
    | branch _ _ _ _ hd hv hv0 he h16 hr hm =>
      match q, hq with
      | [], _ => exact .inl (by rw [getP_br0, getP_br0])
      | x :: q', hq =>
        have hx := halves_hd hq
        obtain ⟨k, hk⟩ : ∃ k, ks[x.toNat]? = some k := ⟨_, List.getElem?_eq_getElem (by omega)⟩
        obtain ⟨k', hk'⟩ : ∃ k', ks'[x.toNat]? = some k' := ⟨_, List.getElem?_eq_getElem (by omega)⟩
        rw [getP_br hk, getP_br hk']
        rcases ih _ k k' hk hk' _ (hr k' (List.mem_of_getElem? hk')) q' (by have := halvesB_drop (n := 1) hq; simpa using this) with e | ⟨r, e1, e2⟩
        · exact .inl (by rw [e])
        · exact .inr ⟨x :: r, by simp only [e1]; rfl, List.cons_prefix_cons.2 ⟨rfl, e2⟩⟩
theorem Fo.along {a b : Nd} (h : Fo a b) (p : List UInt8) : Fo (alongN p a) (alongN p b) := by
  unfold alongN
  split
  · exact h
  · exact .way p h
theorem Fos.hold {ks ks' : List Nd} (h : Fos ks ks') (has : Bool) (v p val : List UInt8) : (holdK has v ks p val).1 = (holdK has v ks' p val).1 ∧ (holdK has v ks p val).2.1 = (holdK has v ks' p val).2.1 ∧ Fos (holdK has v ks p val).2.2 (holdK has v ks' p val).2.2 := by
  cases p with
  | nil => exact ⟨rfl, rfl, h⟩
  | cons x r => exact ⟨rfl, rfl, h.set (.refl _) _⟩
theorem Fo.fork {k k' : Nd} (h : Fo k k') (p q val : List UInt8) : Fo (forkN (.mk 2 p false [] [k] []) q val) (forkN (.mk 2 p false [] [k'] []) q val) := by
  unfold forkN
  simp only [Nd.path, Nd.kind, Nd.val, Nd.kids, List.headD_cons, Int.reduceEq, if_false]
  refine Fo.along ?_ _
  obtain ⟨h1, h2, h3⟩ := ((Fos.refl (noneNs 16)).set (h.along (p.drop (commonB p q + 1))) (p.getD (commonB p q) 0).toNat).hold false [] (q.drop (commonB p q)) val
  rw [h1, h2]
  exact .branch _ _ _ _ h3.1 h3.2
theorem Fo.put {even : Bool} {m n : Nd} (h : Fo m n) : ∀ d, Val even n d → ∀ q val, halvesB q = true → (getP m q).miss = none → Fo (putP m q val).1 (putP n q val).1 := by
  induction h with
  | refl => exact fun _ _ _ _ _ _ => .refl _
  | stub t h0 => intro _ _ q _ _ hm; rw [getP_stub] at hm; cases hm
  | way p h ih =>
    intro d hv q val hq hm
    cases hv with
    | way _ _ _ hd hp h0 hk hr =>
      by_cases hpq : p <+: q
      · rw [getP_way hpq] at hm
        rw [putP_way hpq, putP_way hpq]
        exact .way p (ih _ hr _ val (halvesB_drop hq) (by simpa using hm))
      · rw [putP_way0 hpq, putP_way0 hpq]
        exact h.fork p q val
  | branch has v ks ks' hl h ih =>
    intro d hv q val hq hm
    cases hv with
    | branch _ _ _ _ hd hv hv0 he h16 hr hm' =>
      match q, hq, hm with
      | [], _, _ => rw [putP_br0, putP_br0]; exact .branch _ _ _ _ hl h
      | x :: q', hq, hm =>
        have hx := halves_hd hq
        obtain ⟨k, hk⟩ : ∃ k, ks[x.toNat]? = some k := ⟨_, List.getElem?_eq_getElem (by omega)⟩
        obtain ⟨k', hk'⟩ : ∃ k', ks'[x.toNat]? = some k' := ⟨_, List.getElem?_eq_getElem (by omega)⟩
        rw [getP_br hk] at hm
        rw [putP_br hk, putP_br hk']
        have := Fos.set (ks := ks) (ks' := ks') ⟨hl, h⟩ (ih _ k k' hk hk' _ (hr k' (List.mem_of_getElem? hk')) q' val (by have := halvesB_drop (n := 1) hq; simpa using this) (by simpa using hm)) x.toNat
        exact .branch _ _ _ _ this.1 this.2
theorem Fo.behind {a b : Nd} (h : Fo a b) (h4 : a.kind ≠ 4) (p : List UInt8) : Fo (behindN p a) (behindN p b) := by
  cases h with
  | refl => exact .refl _
  | stub => exact absurd rfl h4
  | way p' h => rw [behind_way, behind_way]; exact .way _ h
  | branch has v ks ks' hl h => rw [behind_br, behind_br]; exact (Fo.branch has v ks ks' hl h).along p
theorem Fos.settle {ks ks' : List Nd} (h : Fos ks ks') (h16 : ks.length = 16) (has : Bool) (v : List UInt8) (hm : (settleP (.mk 3 [] has v ks [])).2 = none) : Fo (settleP (.mk 3 [] has v ks [])).1 (settleP (.mk 3 [] has v ks' [])).1 := by
  unfold settleP at hm ⊢
  dsimp only [Nd.has, Nd.kids, Nd.val] at hm ⊢
  rw [← Fos.scan h]
  cases hs : scanK has ks 0 none with
  | none => exact .branch _ _ _ _ h.1 h.2
  | some o =>
    cases o with
    | none => exact .refl _
    | some i =>
      rw [hs] at hm
      dsimp only at hm ⊢
      have hi : i < ks.length := by
        rcases scan_lt hs with h | h
        · cases h
        · omega
      have h1 : ks[i]? = some (ks[i]'hi) := List.getElem?_eq_getElem hi
      have h2 : ks'[i]? = some (ks'[i]'(by have := h.1; omega)) := List.getElem?_eq_getElem (by have := h.1; omega)
      have e1 : ks.getD i noneN = ks[i]'hi := by rw [List.getD_eq_getElem?_getD, h1]; rfl
      have e2 : ks'.getD i noneN = ks'[i]'(by have := h.1; omega) := by rw [List.getD_eq_getElem?_getD, h2]; rfl
      simp only [e1, e2] at hm ⊢
      have hf := h.2 i _ _ h1 h2
      by_cases h4 : (ks[i]'hi).kind = 4
      · rw [if_pos h4] at hm; cases hm
      · rw [if_neg h4, if_neg (by rw [← hf.kind.2 h4]; exact h4)]
        exact hf.behind h4 _
theorem Fo.drop {even : Bool} {m n : Nd} (h : Fo m n) : ∀ d, Val even n d → ∀ q, halvesB q = true → (getP m q).has = true → (dropP m q).2 = none → (dropP n q).2 = none → Fo (dropP m q).1 (dropP n q).1 := by
  induction h with
  | refl => exact fun _ _ _ _ _ _ _ => .refl _
  | stub t h0 => intro _ _ q _ hm; rw [getP_stub] at hm; cases hm
  | @way p k k' h ih =>
    intro d hv q hq hg hm hn
    have hvm := (Fo.way p h).val d hv
    cases hv with
    | way _ _ _ hd hp h0 hk hr =>
      have hpre : p <+: q := by
        rcases Classical.em (p <+: q) with h | h
        · exact h
        · rw [getP_way0 h] at hg; cases hg
      rw [getP_way hpre] at hg
      rw [dropP_way] at hm
      rw [dropP_way, dropP_way]
      have hm' : (dropP k (q.drop p.length)).2 = none := by simpa using hm
      rw [dropP_way] at hn
      have := ih _ hr _ (halvesB_drop hq) hg hm' (by simpa using hn)
      refine this.behind ?_ p
      cases hvm with
      | way _ _ _ _ _ _ _ hr2 => exact ((drop_items hr2 _ (halvesB_drop hq) hg).1 hm').2.1
  | branch has v ks ks' hl h ih =>
    intro d hv q hq hg hmm hn
    have hvm := (Fo.branch has v ks ks' hl h).val d hv
    cases hv with
    | branch _ _ _ _ hd hv hv0 he h16 hr hm =>
      match q, hq, hg, hmm, hn with
      | [], _, _, hmm, _ =>
        rw [dropP_br0] at hmm
        rw [dropP_br0, dropP_br0]
        exact Fos.settle ⟨hl, h⟩ (by omega) _ _ hmm
      | x :: q', hq, hg, hmm, hn =>
        have hx := halves_hd hq
        obtain ⟨k, hk⟩ : ∃ k, ks[x.toNat]? = some k := ⟨_, List.getElem?_eq_getElem (by omega)⟩
        obtain ⟨k', hk'⟩ : ∃ k', ks'[x.toNat]? = some k' := ⟨_, List.getElem?_eq_getElem (by omega)⟩
        rw [getP_br hk] at hg
        rw [dropP_br hk] at hmm
        rw [dropP_br hk'] at hn
        rw [dropP_br hk, dropP_br hk']
        cases hd2 : (dropP k q').2 with
        | some r => rw [hd2] at hmm; simp at hmm
        | none =>
          have hd3 : (dropP k' q').2 = none := by
            cases hd3 : (dropP k' q').2 with
            | none => rfl
            | some r => rw [hd3] at hn; simp at hn
          have hq' : halvesB q' = true := by have := halvesB_drop (n := 1) hq; simpa using this
          have hF := ih _ k k' hk hk' _ (hr k' (List.mem_of_getElem? hk')) q' hq' hg hd2 hd3
          rw [hd2] at hmm
          rw [hd3]
          simp only [Option.isSome_none, Bool.false_eq_true, if_false] at hmm ⊢
          exact Fos.settle (Fos.set ⟨hl, h⟩ hF x.toNat) (by rw [List.length_set]; omega) _ _ hmm
mutual
theorem sz_foldN {even : Bool} {t : Nd} {d : Nat} (h : Val even t d) : sz (foldN t) ≤ sz t + 38 := by
  unfold foldN
  split
  · have e : sz noneN = 6 := rfl
    rw [e]; omega
  · rw [sz, hashR_val h, szs]
    have := hashP_len h
    simp only [List.length_nil]; omega
end
theorem sz_folded : ∀ (way : List UInt8) {even : Bool} {t : Nd} {d : Nat}, Val even t d → sz (foldedP way t) ≤ sz t + 38
  | [], _, _, _, h => sz_foldN h
  | x :: w, even, t, d, h => by
    rw [foldedP]
    split
    · exact sz_foldN h
    · rename_i hne
      have hlt : x.toNat % t.kids.length < t.kids.length := Nat.mod_lt _ (by cases hq : t.kids with | nil => exact absurd hq hne | cons a b => simp)
      obtain ⟨k, hk⟩ : ∃ k, t.kids[x.toNat % t.kids.length]? = some k := ⟨_, List.getElem?_eq_getElem hlt⟩
      have hg : t.kids.getD (x.toNat % t.kids.length) noneN = k := by rw [List.getD_eq_getElem?_getD, hk]; rfl
      rw [hg]
      have hkv : ∃ e, Val even k e := by
        have hm := List.mem_of_getElem? hk
        cases h with
        | none => cases hm
        | leaf => cases hm
        | stub => cases hm
        | way _ _ k' _ _ _ _ hr =>
          have : k = k' := List.mem_singleton.1 (show k ∈ [k'] from hm)
          rw [this]; exact ⟨_, hr⟩
        | branch _ _ _ ks _ _ _ _ _ hr => exact ⟨_, hr k hm⟩
      obtain ⟨e, hv⟩ := hkv
      have h1 := sz_folded w hv
      have h2 := szs_set_eq (k' := foldedP w k) hk
      have h3 := sz_eq t
      rw [sz]
      omega
end Go.Proofs.YtojjfkbffjkojaaDoor
namespace Go.Proofs.YtojjfkbffjkojaaDoor
open Go.RowKit


theorem val_chk {t : Nd} (h : checkE t = 0) : Val true t 0 := by
  refine val_of_right true (sz t + 1) t 0 (by omega) ?_
  unfold checkE at h
  cases hr : rightP true t 0 with
  | true => rfl
  | false => rw [hr] at h; simp at h
theorem chk_val {t : Nd} (h : Val true t 0) : checkE t = 0 := by unfold checkE; rw [right_of_val h, if_pos rfl]
theorem hashR_chk {t : Nd} (h : Val true t 0) : hashR t = hashP t := by unfold hashR; rw [right_of_val (h.mono 0 (Nat.zero_le _)), if_pos rfl]
theorem cntsP_set : ∀ {ks : List Nd} {i : Nat} {k : Nd} (k' : Nd), ks[i]? = some k → (cntsP (ks.set i k')).1 + (cntP k).1 = (cntsP ks).1 + (cntP k').1 ∧ (cntsP (ks.set i k')).2 + (cntP k).2 = (cntsP ks).2 + (cntP k').2
  | t :: ks, 0, k, k', h => by
    simp at h
    subst h
    rw [List.set_cons_zero, cntsP, cntsP]
    dsimp only
    omega
  | t :: ks, i + 1, k, k', h => by
    have ih := cntsP_set (ks := ks) k' (show ks[i]? = some k by simpa using h)
    rw [List.set_cons_succ, cntsP, cntsP]
    dsimp only
    omega
theorem foldN_cnt {t : Nd} (h : okN t = true) : (cntP (foldN t)).1 ≤ (cntP t).1 ∧ 1 ≤ (cntP (foldN t)).2 ∧ (cntP (foldN t)).2 ≤ (cntP t).2 + 1 := by
  unfold okN at h
  rw [Bool.and_eq_true, decide_eq_true_eq, decide_eq_true_eq] at h
  unfold foldN
  rw [if_neg h.1, cntP_eq t, if_neg h.1]
  have e : cntP (.mk 4 [] false [] [] (hashR t)) = (1, 1) := by rw [cntP, cntsP]; rfl
  rw [e]
  dsimp only
  omega
theorem folded_cnt : ∀ (way : List UInt8) {even : Bool} {t : Nd} {d : Nat}, Val even t d → okP way t = true → (cntP (foldedP way t)).1 ≤ (cntP t).1 ∧ 1 ≤ (cntP (foldedP way t)).2 ∧ (cntP (foldedP way t)).2 ≤ (cntP t).2 + 1
  | [], _, _, _, _, h => foldN_cnt h
  | x :: w, even, t, d, hv, h => by
    rw [okP] at h
    rw [foldedP]
    by_cases hn : t.kids = []
    · rw [if_pos hn] at h ⊢
      exact foldN_cnt h
    · rw [if_neg hn] at h ⊢
      have hlt : x.toNat % t.kids.length < t.kids.length := Nat.mod_lt _ (List.length_pos_iff.2 hn)
      obtain ⟨k, hk⟩ : ∃ k, t.kids[x.toNat % t.kids.length]? = some k := ⟨_, List.getElem?_eq_getElem hlt⟩
      have hg : t.kids.getD (x.toNat % t.kids.length) noneN = k := by rw [List.getD_eq_getElem?_getD, hk]; rfl
      rw [hg] at h ⊢
      have hkv : ∃ e, Val even k e := by
        have hm := List.mem_of_getElem? hk
        cases hv with
        | none => cases hm
        | leaf => cases hm
        | stub => cases hm
        | way _ _ k' _ _ _ _ hr =>
          have : k = k' := List.mem_singleton.1 (show k ∈ [k'] from hm)
          rw [this]; exact ⟨_, hr⟩
        | branch _ _ _ ks _ _ _ _ _ hr => exact ⟨_, hr k hm⟩
      obtain ⟨e, hv'⟩ := hkv
      obtain ⟨h1, h2, h3⟩ := folded_cnt w hv' h
      obtain ⟨s1, s2⟩ := cntsP_set (foldedP w k) hk
      obtain ⟨s3, s4⟩ := cntsP_set noneN hk
      have e0 : cntP noneN = (0, 0) := by unfold noneN; rw [cntP, cntsP]; rfl
      rw [e0] at s3 s4
      rw [cntP, cntP_eq t]
      dsimp only at s3 s4 ⊢
      omega
set_option maxRecDepth 100000 in
set_option maxHeartbeats 4000000 in
theorem nodeFolds_walk (w : World) (hG : GL w []) {t : Nd} {cs : List Value} (hr : RdL w (Fd w []) (dN t) cs) (hz : sz t ≤ 1048576) {A1 : Option Addr} {n1 c1 : Nat} {way : List UInt8} (g1 : RdD w (Fd w []) (dB way) (.slice A1 n1 c1)) (_b1 : way.length ≤ 1048576) :
    Calls Tryd.prog 9 #[.agg cs.toArray, .slice A1 n1 c1] w (RetTrue w) := by
  refine calls_ev (args := [.agg cs.toArray, .slice A1 n1 c1]) mixed Tryd.func9 rfl (by kernel_rfl) ?_
  have hcl := hr.len
  rw [dN_len] at hcl
  have en1 := g1.slen
  have M := ((St.start (w := w) (gs := []) (fun b h => by cases h)).addD g1).addL hr
  clear g1 hr
  refine s_box (cs) M rfl ?_
  clear M
  rintro g2 W M
  refine v_loadN cs agg_nd rfl hcl (M.run 0 rfl) ?_
  refine cc is_much7 (much7_any t (by omega) _ _ cs (M.da 0 rfl) M.olt) ?_
  rintro e W ⟨he, hb⟩
  obtain ⟨q, hqq⟩ : ∃ q, q = decide (900 ≤ muchP t 900) := ⟨_, rfl⟩
  rw [← hqq] at he
  subst he
  replace M := M.call hb
  clear hb
  refine ⟨_, rfl, ?_⟩
  cases q with
  | true =>
    refine cc is_kn7 (known7_any _ _ (M.gl hG) M.olt) ?_
    rintro e W ⟨rfl, hb⟩
    replace M := M.call hb
    clear hb
    exact ⟨_, rfl, rfl, M.below⟩
  | false =>
  have hz2 := much7_no hqq.symm
  refine p_len slb rfl ?_
  refine p_gt rfl rfl (fun k1 => ?_) (fun k1 => ?_)
  ·
    refine cc is_kn7 (known7_any _ _ (M.gl hG) M.olt) ?_
    rintro e W ⟨rfl, hb⟩
    replace M := M.call hb
    clear hb
    exact ⟨_, rfl, rfl, M.below⟩
  refine v_loadN cs agg_nd rfl hcl (M.run 0 rfl) ?_
  refine cc is_ncheck (ncheck_any t (by omega) _ _ cs (M.da 0 rfl) M.olt) ?_
  rintro e W ⟨rfl, hb⟩
  replace M := M.call hb
  clear hb
  refine ⟨_, rfl, ?_⟩
  refine p_ne rfl rfl (fun hck => ?_) (fun _ => ?_)
  rotate_left
  ·
    refine cc is_kn7 (known7_any _ _ (M.gl hG) M.olt) ?_
    rintro e W ⟨rfl, hb⟩
    replace M := M.call hb
    clear hb
    exact ⟨_, rfl, rfl, M.below⟩
  have hv := val_chk hck
  have hmz := sz_folded way hv
  have hcnt := folded_cnt way hv
  have hFo := folded_fo way hv
  have hvx := hFo.val 0 hv
  refine v_loadN cs agg_nd rfl hcl (M.run 0 rfl) ?_
  refine cc is_fo7 (folded7_any way t _ _ cs _ _ _ (by omega) (M.da 0 rfl) (M.d1 1 rfl) M.olt) ?_
  rintro e W ⟨csx, he, hres, hb⟩
  obtain ⟨x, hx⟩ : ∃ x, x = foldedP way t := ⟨_, rfl⟩
  rw [← hx] at hres hmz hcnt hFo hvx
  have hcx := hres.len
  rw [dN_len] at hcx
  replace M := (M.call hb).addL hres
  clear hres hb
  obtain ⟨ok, hok⟩ : ∃ ok, ok = okP way t := ⟨_, rfl⟩
  rw [← hok] at he hcnt
  subst he
  refine ⟨_, rfl, ?_⟩
  refine s_alloc (zN) M al_nd ?_
  clear M
  rintro g5 W M
  refine s_storeA 0 csx M rfl sz_nd rfl rfl hcx ((M.da 0 rfl).ones (dN_one _)) rfl ?_
  clear M; rintro W M
  dsimp only [setL] at M
  refine p_not rfl ?_
  cases ok with
  | false =>
    refine cc is_kn7 (known7_any _ _ (M.gl hG) M.olt) ?_
    rintro e W ⟨rfl, hb⟩
    replace M := M.call hb
    clear hb
    exact ⟨_, rfl, rfl, M.below⟩
  | true =>
  obtain ⟨k2, k3, k4⟩ := hcnt rfl
  have q1 := cntP_sz t
  have q2 := cntP_sz x
  refine v_loadN cs agg_nd rfl hcl (M.run 1 rfl) ?_
  refine cc is_cnt (ncount_any t (by omega) _ _ cs (M.da 1 rfl) M.olt) ?_
  rintro e W ⟨rfl, hb⟩
  replace M := M.call hb
  clear hb
  refine ⟨_, rfl, ?_⟩
  refine v_loadN csx agg_nd rfl hcx (M.run 0 rfl) ?_
  refine cc is_cnt (ncount_any x (by omega) _ _ csx (M.da 0 rfl) M.olt) ?_
  rintro e W ⟨rfl, hb⟩
  replace M := M.call hb
  clear hb
  refine ⟨_, rfl, ?_⟩
  replace M := M.drew
  refine drT (Kp w [] [(g5, 26, csx), (g2, 26, cs)] []) (.take 0 (.one 1 (.take 2 (.take 3 (.take 4 (.take 6 (.one 5 (.one 7 (.one 8 (.take 9 (.take 10 (.take 11 (.take 12 (.take 13 (.take 14 (.take 15 (.take 16 (.take 17 (.take 18 (.take 19 (.take 20 (.take 21 (.take 22 (.take 23 (.take 24 (.take 25 (.one 26 (.take 27 (.take 28 (.nil)))))))))))))))))))))))))))))) (by kernel_rfl) (M.kp (by simp) (by simp)) ?_
  refine t_loadN csx agg_nd rfl hcx (fun W K => K.run 0 rfl) ?_
  refine cc is_ncheck (ncheck_any x (by omega) _ _ csx (M.da 0 rfl) M.olt) ?_
  rintro e W ⟨he, hb⟩
  rw [chk_val hvx] at he
  subst he
  replace M := M.call hb
  clear hb
  refine ⟨_, rfl, (M.kp (by simp) (by simp)), ?_⟩
  refine p_eq rfl rfl (fun _ => ?_) (fun e => absurd rfl e)
  refine t_loadN csx agg_nd rfl hcx (fun W K => K.run 0 rfl) ?_
  refine t_loadN cs agg_nd rfl hcl (fun W K => K.run 1 rfl) ?_
  refine cc is_nHash (nHash_any x (by omega) _ _ csx (M.gl hG) (M.da 0 rfl) M.olt) ?_
  rintro e W ⟨A6, n6, c6, rfl, o, hb⟩
  replace M := M.callO hb o
  clear o hb
  refine ⟨_, rfl, (M.kp (by simp) (by simp)), ?_⟩
  refine cc is_nHash (nHash_any t (by omega) _ _ cs (M.gl hG) (M.da 2 rfl) M.olt) ?_
  rintro e W ⟨A7, n7, c7, rfl, o, hb⟩
  replace M := M.callO hb o
  clear o hb
  refine ⟨_, rfl, (M.kp (by simp) (by simp)), ?_⟩
  obtain ⟨q, hq, hc⟩ := same_tf (c1 := c6) (c2 := c7) (M.rdb 1 rfl).2.2 (M.rdb 0 rfl).2.2
  obtain rfl := hq.2 (by rw [hashR_chk hvx, hashR_chk hv, hFo.hash])
  refine cc is_same0 hc ?_
  rintro e W' ⟨rfl, rfl⟩
  refine ⟨_, rfl, (M.kp (by simp) (by simp)), ?_⟩
  clear hq hc
  refine p_le rfl rfl (fun _ => ?_) (fun h => absurd (show (((cntP x).1 : Nat) : Int) ≤ (((cntP t).1 : Nat) : Int) by omega) h)
  refine p_ge rfl rfl (fun _ => ?_) (fun h => absurd (show (1 : Int) ≤ (((cntP x).2 : Nat) : Int) by omega) h)
  refine p_addN (b := 1) rfl rfl (by omega) ?_
  refine p_le rfl rfl (fun _ => ?_) (fun h => absurd (show (((cntP x).2 : Nat) : Int) ≤ (((cntP t).2 + 1 : Nat) : Int) by omega) h)
  refine cc is_kn7 (known7_any _ _ (M.gl hG) M.olt) ?_
  rintro e W ⟨rfl, hb⟩
  replace M := M.call hb
  clear hb
  refine ⟨_, rfl, (M.kp (by simp) (by simp)), ?_⟩
  exact ⟨rfl, M.below⟩
end Go.Proofs.YtojjfkbffjkojaaDoor
namespace Go.Proofs.YtojjfkbffjkojaaDoor
open Go.RowKit Go.ChangeShapes
theorem gBegin : Tryd.prog.globalNamed "exchequer/digest.begin" = some 0 := by kernel_rfl
theorem gRoots : Tryd.prog.globalNamed "exchequer/digest.roots" = some 1 := by kernel_rfl
theorem tBegin : (Tryd.prog.globals[0]?).map (·.type) = some 130 := by kernel_rfl
theorem tRoots : (Tryd.prog.globals[1]?).map (·.type) = some 133 := by kernel_rfl
theorem cB : Tryd.prog.cellsOf 130 = 8 := by kernel_rfl
theorem cR : Tryd.prog.cellsOf 133 = 64 := by kernel_rfl
theorem cU : Tryd.prog.cellsOf 94 = 1 := by kernel_rfl
def laidL : List (String × DataW Unit) := [("exchequer/digest.begin", Rows.laid_exchequer_digest_begin), ("exchequer/digest.roots", Rows.laid_exchequer_digest_roots)]
theorem gl_of {W : World} (h : laidMetH Tryd.prog laidL W) : GL W [] := by
  rw [MakeChecks.laidMetH_plain _ _ _ (by kernel_rfl)] at h
  have hb : Lib.TabIs Tryd.prog W "exchequer/digest.begin" .u32 [1779033703, 3144134277, 1013904242, 2773480762, 1359893119, 2600822924, 528734635, 1541459225] :=
    Lib.tabIs_of_head (rest := [("exchequer/digest.roots", Rows.laid_exchequer_digest_roots)]) gBegin tBegin Tryd.underlying130 Tryd.underlying94 cU cB h
  obtain ⟨ps, ⟨g0, t0, cs0, f0, p0, q0, hg0, ht0, hv0, hd0, ⟨g1, t1, cs1, f1, p1, q1, hg1, ht1, hv1, hd1, _, _⟩, _⟩, _, _⟩ := h
  obtain rfl := Option.some.inj (gRoots.symm.trans hg1)
  obtain rfl := Option.some.inj (tRoots.symm.trans ht1)
  have hr : Lib.TabIs Tryd.prog W "exchequer/digest.roots" .u32 (List.map (fun (n : Nat) => (n : Int)) roots) := by
    unfold Lib.TabIs
    rw [hv1, ← Lib.cells_of_tab Tryd.underlying133 Tryd.underlying94 cU cR hd1]
  refine ⟨fun j hj => ?_, fun j v hv => ?_, ?_, by simp, by simp⟩
  · have := hr.cell gRoots j (by rw [List.length_map]; exact hj)
    rw [this]
    unfold cu
    congr 2
    rw [List.getD_eq_getElem?_getD, List.getD_eq_getElem?_getD, List.getElem?_map]
    have : j < roots.length := hj
    rw [List.getElem?_eq_getElem this]; rfl
  · have hj := (List.getElem?_eq_some_iff.1 hv).1
    have := hb.cell gBegin j hj
    rw [this]
    have hj8 : j = 0 ∨ j = 1 ∨ j = 2 ∨ j = 3 ∨ j = 4 ∨ j = 5 ∨ j = 6 ∨ j = 7 := by have : j < 8 := hj; omega
    rcases hj8 with rfl | rfl | rfl | rfl | rfl | rfl | rfl | rfl <;> exact hv
  · have := hr.cell gRoots 0 (by decide)
    have := World.block_lt_of_cell? W _ this
    exact this
/-- A world for the witness: the tables hold what their initialisers lay. -/
def layAt (cs : List Value) : Obj → Obj
  | .cells _ t frozen => .cells cs.toArray t frozen
  | o => o
noncomputable def laidWorld (os : Os) : World :=
  { World.holding Tryd.prog os ⟨#[], #[], []⟩ with heap := ((World.holding Tryd.prog os ⟨#[], #[], []⟩).heap.modify 0 (layAt (hc begin8))).modify 1 (layAt (roots.map cu)) }
end Go.Proofs.YtojjfkbffjkojaaDoor
