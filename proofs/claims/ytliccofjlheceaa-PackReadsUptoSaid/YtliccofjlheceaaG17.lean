/- Package pack: Pack, Size, Unpack. law11: known, much. law11: spoil. Reference 11: kids. Reference 11: head. Reference 07: Count. -/
import Derived.Test.YtliccofjlheceaaG16
import Derived.Test.YtliccofjlheceaaG11
import Derived.Test.YtliccofjlheceaaG08
import Derived.Test.YtliccofjlheceaaG05
import Derived.Test.YtliccofjlheceaaG10
namespace Go.Proofs.Ytliccofjlheceaa
open Go.RowKit
theorem is_pPack : isFn Try.prog 20 = true := by kernel_rfl
theorem is_pSize : isFn Try.prog 22 = true := by kernel_rfl
theorem is_pUnpack : isFn Try.prog 23 = true := by kernel_rfl
theorem pl_rdr : placesOf Try.prog 87 = some [(0, 1), (1, 1), (2, 1), (3, 1)] := by kernel_rfl
theorem z_rdr : zeroOf Try.prog 87 = some (rc none 0 0 none 0 0 0 0) := by kernel_rfl
theorem check_valK {t : Nd} (h : checkE t = 0) : Val true t 0 := by
  unfold checkE at h
  split at h
  · rename_i h'; exact val_of_right true _ t 0 (Nat.lt_succ_self _) h'
  · cases h
theorem val_sm {even : Bool} {t : Nd} {d : Nat} (h : Val even t d) : smP 4432 t := by
  induction h with
  | none => exact sm_none _
  | leaf d p v hd hp hv he =>
    have := endsP_le he
    rw [smP, smsP]
    exact ⟨by rw [List.length_nil]; omega, by simp, fun h => absurd h (by decide), trivial⟩
  | stub d h hd hh =>
    rw [smP, smsP]
    exact ⟨by simp; omega, by simp, fun h => absurd h (by decide), trivial⟩
  | way d p k hd hp h0 hk hr ih =>
    have := hr.le
    rw [smP, smsP, smsP]
    exact ⟨by simp; omega, by simp, fun h => absurd h (by decide), ih, trivial⟩
  | branch d has v ks hd hv hv0 he h16 hr hm ih =>
    rw [smP]
    exact ⟨by simp; omega, by omega, fun h => absurd h (by decide), sms_all.2 ih⟩
theorem val_szc {even : Bool} {t : Nd} {d : Nat} (h : Val even t d) (hc : (cntP t).1 ≤ 5000) : sz t ≤ 22670006 := by
  have h1 := sm_sz 4432 t (val_sm h)
  have : (102 + 4432) * (cntP t).1 ≤ 4534 * 5000 := Nat.mul_le_mul (Nat.le_refl _) hc
  omega
set_option maxRecDepth 100000 in
set_option maxHeartbeats 4000000 in
theorem ppack_any (t : Nd) (ht : sz t ≤ 999999999999) (gs : List (Option Nat)) (w : World) (cs : List Value) (hr : RdL w (Fd w gs) (dN t) cs) (hgs : ∀ b, some b ∈ gs → b < w.heap.size) :
    Calls Try.prog 20 #[.agg cs.toArray] w fun e w' => ∃ A n c, e = .returned (.tuple #[.slice A n c, .int .i64 (packP t).2]) ∧ Own w' w.heap.size A n c (packP t).1 ∧ Below w.heap.size w w' := by
  refine calls_ev (args := [.agg cs.toArray]) mixed Try.func20 rfl (by kernel_rfl) ?_
  have hcl := hr.len
  rw [dN_len] at hcl
  have hone := hr.ones (dN_one _)
  have M := (St.start hgs).addL hr
  clear hr
  refine s_box (cs) M rfl ?_
  clear M
  rintro g1 W M
  unfold packP
  refine v_loadN cs agg_nd rfl hcl (M.run 0 rfl) ?_
  refine cc is_ncheck (ncheck_any t ht _ _ _ (M.da 0 rfl) M.olt) ?_
  rintro e W ⟨rfl, hb⟩
  replace M := M.call hb
  clear hb
  refine ⟨_, rfl, ?_⟩
  refine p_ne rfl rfl (fun h0 => ?_) (fun h0 => ?_)
  rotate_left
  · rw [if_pos (show checkE t ≠ 0 from h0)]
    exact ⟨none, 0, 0, rfl, World.ownsRow_nil _ _ _ _, M.below⟩
  have h0 : checkE t = 0 := h0
  rw [if_neg (fun h => h h0)]
  have hv := check_valK h0
  refine v_loadN cs agg_nd rfl hcl (M.run 0 rfl) ?_
  refine cc is_pcnt (ncount_any t (by omega) _ _ cs (M.da 0 rfl) M.olt) ?_
  rintro e W ⟨rfl, hb⟩
  replace M := M.call hb
  clear hb
  refine ⟨_, rfl, ?_⟩
  refine p_gt rfl rfl (fun hc => ?_) (fun hc => ?_)
  · have hc : (5000 : Int) < (((cntP t).1 : Nat) : Int) := hc
    rw [if_pos (by omega)]
    exact ⟨none, 0, 0, rfl, World.ownsRow_nil _ _ _ _, M.below⟩
  have hc : ¬ (5000 : Int) < (((cntP t).1 : Nat) : Int) := hc
  rw [if_neg (by omega)]
  have hz := val_szc hv (by omega)
  refine s_alloc ([.slice none 0 0, .slice none 0 0]) M (by kernel_rfl) ?_
  clear M
  rintro g7 W M
  refine v_loadN cs agg_nd rfl hcl (M.run 1 rfl) ?_
  replace M := (((M.nilR 38 6).nilR 5 1).addT (fr := false) (ds := dNs []) (cs := []) RdL.nil_)
  refine cc is_snode (snd_any 100000000 (Nat.le_refl _) t (by omega) _ 0 w _ gs g7 none 0 0 none 0 0 [] [] [] _ [] _ cs hv M (M.da 1 rfl) (by rw [List.length_nil]; omega) (by rw [List.length_nil]; omega) (fun x hx => by cases hx)) ?_
  clear M
  rintro e W ⟨⟨v, rfl⟩, Ao, co, Ad, nd, cd, xs, M⟩
  refine ⟨_, rfl, ?_⟩
  rw [List.nil_append] at M
  refine p_fld fsd0 rfl ?_
  refine v_load agg_b rfl ((M.B 0 rfl).at_ rfl) ?_
  exact ⟨Ao, _, co, rfl, M.row _ (List.mem_cons_self ..), M.below⟩
set_option maxRecDepth 100000 in
set_option maxHeartbeats 1000000 in
theorem psize_any (t : Nd) (ht : sz t ≤ 999999999999) (gs : List (Option Nat)) (w : World) (cs : List Value) (hr : RdL w (Fd w gs) (dN t) cs) (hgs : ∀ b, some b ∈ gs → b < w.heap.size) :
    Calls Try.prog 22 #[.agg cs.toArray] w fun e w' => e = .returned (.int .i64 ((packP t).1.length : Nat)) ∧ Below w.heap.size w w' := by
  refine calls_ev (args := [.agg cs.toArray]) mixed Try.func22 rfl (by kernel_rfl) ?_
  have hcl := hr.len
  rw [dN_len] at hcl
  have hone := hr.ones (dN_one _)
  have M := (St.start hgs).addL hr
  clear hr
  refine s_box (cs) M rfl ?_
  clear M
  rintro g1 W M
  refine v_loadN cs agg_nd rfl hcl (M.run 0 rfl) ?_
  refine cc is_pPack (ppack_any t ht _ _ cs (M.da 0 rfl) M.olt) ?_
  rintro e W ⟨A, n, c, rfl, o, hb⟩
  have el := o.len
  replace M := M.call hb
  refine ⟨_, rfl, ?_⟩
  refine p_len slb rfl ?_
  exact ⟨by rw [el]; rfl, M.below⟩
set_option maxRecDepth 100000 in
set_option maxHeartbeats 4000000 in
theorem punpack_any (b : List UInt8) (gs : List (Option Nat)) (w : World) (A : Option Addr) (n c : Nat) (h : RdD w (Fd w gs) (dB b) (.slice A n c)) (hgs : ∀ b, some b ∈ gs → b < w.heap.size) (hn : n ≤ 1000000000) :
    Calls Try.prog 23 #[.slice A n c] w fun e w' => ∃ cs, e = .returned (.tuple #[.agg cs.toArray, .int .i64 (unpP b).2]) ∧ RdL w' (Fr w w') (dN (unpP b).1) cs ∧ Below w.heap.size w w' := by
  refine calls_ev (args := [.slice A n c]) mixed Try.func23 rfl (by kernel_rfl) ?_
  have en := h.slen
  have M := (St.start hgs).addD h
  clear h
  refine s_alloc (zN) M al_nd ?_
  clear M
  rintro g2 W M
  unfold unpP
  refine p_len slb rfl ?_
  refine p_gt rfl rfl (fun hl => ?_) (fun hl => ?_)
  · have hl : (1048576 : Int) < (n : Int) := hl
    rw [if_pos (by omega)]
    refine p_build (vs := zN) pl_nd z_nd rfl ?_
    refine s_storeA 0 zN M rfl sz_nd rfl rfl rfl (all1 rfl) rfl ?_
    clear M; rintro W M
    dsimp only [setL] at M
    refine c_loadN zN agg_nd rfl rfl (M.run 0 rfl) ?_
    exact ⟨zN, rfl, RdL.znone, M.below⟩
  have hl : ¬ (1048576 : Int) < (n : Int) := hl
  rw [if_neg (by omega)]
  refine p_build (vs := rc A n c none 0 0 5000 0) pl_rdr z_rdr rfl ?_
  refine s_box (rc A n c none 0 0 5000 0) M rfl ?_
  clear M
  rintro g4 W M
  replace M := (M.nilR 38 6).addT (fr := false) (ds := dNs []) (cs := []) RdL.nil_
  have hsz := one_sz (B := 3 * b.length + 32) 403 b [] 5000 (by decide) (by decide) (fun x hx => by cases hx) (Nat.le_refl _)
  refine cc is_pnode (rn_any 403 (3 * b.length + 32) 0 rfl (by omega) w _ gs g4 A n c none 0 0 5000 b [] [] _ [] [.dat false [dB b] [.slice A n c]] (by decide) (by decide) (fun x hx => by cases hx) (Nat.le_refl _) (by rw [List.length_nil]; omega) (M.fsub _ (by simp))) ?_
  clear M
  rintro e W ⟨cs, tn, A1, n1, c1, Ad, nd, cd, xs, b1, done1, left1, e1, rfl, M, hP⟩
  refine ⟨_, rfl, ?_⟩
  have hcl := (M.da 0 rfl).len
  rw [dN_len] at hcl
  have en1 := (M.d1 2 rfl).slen
  refine s_alloc (zN) M al_nd ?_
  clear M
  rintro g5 W M
  refine s_storeA 0 cs M rfl sz_nd rfl rfl hcl ((M.da 0 rfl).ones (dN_one _)) rfl ?_
  clear M; rintro W M
  dsimp only [setL] at M
  refine p_nil rfl ?_
  refine p_fld fp3 rfl ?_
  refine v_load agg_errP rfl ((M.B 1 rfl).at_ rfl) ?_
  cases hr : oneF 403 b [] 5000 with
  | bad x =>
    rw [hr] at hP hsz
    obtain ⟨p1, p2, p3, p4, p5, p6⟩ := hP
    have hx0 : x ≠ 0 := by rcases hsz with h | h <;> rw [h] <;> decide
    subst p1
    dsimp only
    refine p_ne rfl rfl (fun h => absurd h hx0) (fun _ => ?_)
    replace M := M.drew
    refine drT (Kp w gs [(g4, 87, rc A1 n1 c1 Ad nd cd left1 e1)] []) (.take 0 (.take 1 (.take 2 (.take 3 (.take 4 (.one 5 (.take 6 (.nil)))))))) (by kernel_rfl) (M.kp (by simp) (by simp)) ?_
    refine p_build (vs := zN) pl_nd z_nd rfl ?_
    refine p_nil rfl ?_
    refine p_fld fp3 rfl ?_
    refine t_load agg_errP rfl (fun W K => (K.B 0 rfl).at_ rfl) ?_
    refine s_storeA 2 zN M rfl sz_nd rfl rfl rfl (all1 rfl) rfl ?_
    clear M; rintro W M
    dsimp only [setL] at M
    refine ⟨(M.kp (by simp) (by simp)), ?_⟩
    refine c_loadN zN agg_nd rfl rfl (M.run 2 rfl) ?_
    exact ⟨zN, rfl, RdL.znone, M.below⟩
  | got nn b2 d2 l2 =>
    rw [hr] at hP hsz
    obtain ⟨p1, p2, p3, p4, p5⟩ := hP
    obtain ⟨s1, s2, s3, s4, s5, s6⟩ := hsz
    subst p1; subst p2; subst p3; subst p4; subst p5
    dsimp only
    refine p_ne rfl rfl (fun _ => ?_) (fun h => absurd rfl h)
    refine p_nil rfl ?_
    refine p_fld fp0 rfl ?_
    refine v_load agg_b rfl ((M.B 1 rfl).at_ rfl) ?_
    refine p_len slb rfl ?_
    refine p_gt rfl rfl (fun hg => ?_) (fun hg => ?_)
    · have hg : (0 : Int) < (n1 : Int) := hg
      rw [if_pos (.inl (by omega))]
      refine p_build (vs := zN) pl_nd z_nd rfl ?_
      refine s_storeA 2 zN M rfl sz_nd rfl rfl rfl (all1 rfl) rfl ?_
      clear M; rintro W M
      dsimp only [setL] at M
      refine c_loadN zN agg_nd rfl rfl (M.run 2 rfl) ?_
      exact ⟨zN, rfl, RdL.znone, M.below⟩
    have hg : ¬ (0 : Int) < (n1 : Int) := hg
    have hzn : sz tn ≤ 999999999999 := by
      have h1 := sm_sz _ tn s1.1
      have : (102 + (3 * b.length + 32)) * (cntP tn).1 ≤ 3145862 * 5000 := Nat.mul_le_mul (by omega) s1.2
      omega
    refine v_loadN cs agg_nd rfl hcl (M.run 0 rfl) ?_
    refine cc is_pPack (ppack_any tn hzn _ _ cs (M.da 0 rfl) M.olt) ?_
    rintro e W ⟨A6, n6, c6, rfl, o6, hb⟩
    replace M := M.callO hb o6
    clear o6 hb
    refine ⟨_, rfl, ?_⟩
    obtain ⟨E, hE⟩ : ∃ E, E = packP tn := ⟨_, rfl⟩
    rw [← hE] at M ⊢
    obtain ⟨eb, ee⟩ := E
    dsimp only at M ⊢
    have hno : ∀ q : (eb, ee) ≠ (b, 0), (if 0 < b1.length ∨ (eb, ee) ≠ (b, 0) then (noneN, (11 : Int)) else (tn, 0)) = (noneN, 11) := fun q => if_pos (.inr q)
    refine p_ne rfl rfl (fun he0 => ?_) (fun he0 => ?_)
    rotate_left
    · rw [hno (fun h => he0 (congrArg Prod.snd h))]
      refine p_build (vs := zN) pl_nd z_nd rfl ?_
      refine s_storeA 2 zN M rfl sz_nd rfl rfl rfl (all1 rfl) rfl ?_
      clear M; rintro W M
      dsimp only [setL] at M
      refine c_loadN zN agg_nd rfl rfl (M.run 2 rfl) ?_
      exact ⟨zN, rfl, RdL.znone, M.below⟩
    have he0 : ee = 0 := he0
    subst he0
    refine cc is_beq (beq_any _ _ _ _ _ c _ _ eb b _ (M.rdb 0 rfl).2.2 (M.rdb 4 rfl).2.2) ?_
    rintro e W' ⟨rfl, rfl⟩
    refine ⟨_, rfl, ?_⟩
    refine p_not rfl ?_
    by_cases heq : eb = b
    rotate_left
    · rw [hno (fun h => heq (congrArg Prod.fst h)), decide_eq_false heq]
      refine p_build (vs := zN) pl_nd z_nd rfl ?_
      refine s_storeA 2 zN M rfl sz_nd rfl rfl rfl (all1 rfl) rfl ?_
      clear M; rintro W M
      dsimp only [setL] at M
      refine c_loadN zN agg_nd rfl rfl (M.run 2 rfl) ?_
      exact ⟨zN, rfl, RdL.znone, M.below⟩
    subst heq
    rw [decide_eq_true rfl, if_neg (fun h => h.elim (fun h => by omega) (fun h => h rfl))]
    have hv : Val true tn 0 ∧ (cntP tn).1 ≤ 5000 := by
      unfold packP at hE
      split at hE
      · rename_i h; injection hE with _ h2; exact absurd h2.symm h
      · rename_i h
        exact ⟨check_valK (by omega), s1.2⟩
    have hz2 := val_szc hv.1 hv.2
    refine v_loadN cs agg_nd rfl hcl (M.run 0 rfl) ?_
    refine cc is_ncopy (ncopy_any 100000000 (by decide) tn (by omega) _ _ cs (M.da 1 rfl) M.olt) ?_
    rintro e W ⟨csc, rfl, r9, hb⟩
    have hcc := r9.len
    rw [dN_len] at hcc
    replace M := M.callF hb r9
    clear r9 hb
    refine ⟨_, rfl, ?_⟩
    refine s_storeA 2 csc M rfl sz_nd rfl rfl hcc ((M.da 0 rfl).ones (dN_one _)) rfl ?_
    clear M; rintro W M
    dsimp only [setL] at M
    refine c_loadN csc agg_nd rfl hcc (M.run 2 rfl) ?_
    exact ⟨csc, rfl, M.finF 0 rfl, M.below⟩
end Go.Proofs.Ytliccofjlheceaa
namespace Go.Proofs.Ytliccofjlheceaa
open Go.RowKit

theorem is_kn11 : isFn Try.prog 19 = true := by kernel_rfl
/-- What packs is read back. -/
theorem packP_ok {t : Nd} (h : (packP t).2 = 0) : checkE t = 0 ∧ (cntP t).1 ≤ 5000 ∧ packP t = ((sdP t []).1, 0) := by
  unfold packP at h ⊢
  by_cases hc : checkE t ≠ 0
  · rw [if_pos hc] at h; exact absurd h hc
  · rw [if_neg hc] at h ⊢
    by_cases hn : 5000 < (cntP t).1
    · rw [if_pos hn] at h; cases h
    · rw [if_neg hn]; exact ⟨Classical.not_not.1 hc, by omega, rfl⟩
theorem unp_pack {t : Nd} (h : (packP t).2 = 0) (hs : sz t ≤ 200000) : unpP (packP t).1 = (t, 0) := by
  obtain ⟨h0, hc, he⟩ := packP_ok h
  rw [he]
  have hl := sd_size t [] (by rw [List.length_nil]; omega)
  have ho := one_rt (check_valK h0) 403 (by omega) [] 5000 [] (by omega) (by rw [List.length_nil]; omega)
  rw [List.append_nil] at ho
  unfold unpP
  dsimp only
  rw [if_neg (by omega), ho]
  dsimp only
  rw [if_neg (by rintro (h | h); · exact absurd h (by decide)
                 · exact h he)]
def lf11 : Nd := .mk 1 [1] false [118] [] []
def ks11 : List Nd := ((noneNs 16).set 0 lf11).set 2 lf11
def kt11 : Nd := .mk 3 [] false [] ks11 []
def kb11 : List UInt8 := [3, 0, 160, 0, 1, 1, 49, 1, 118, 5, 0]
set_option maxRecDepth 100000 in
theorem kt11_p : packP kt11 = (kb11, 0) := by decide +kernel
set_option maxRecDepth 100000 in
theorem kt11_z : sz kt11 ≤ 1000 := by decide +kernel
theorem kt11_u : unpP kb11 = (kt11, 0) := by
  have h := unp_pack (t := kt11) (by rw [kt11_p]) (by have := kt11_z; omega)
  rwa [kt11_p] at h
set_option maxRecDepth 100000 in
theorem kt11_b : (unpP [5, 0]).2 = 11 := by decide +kernel
set_option maxRecDepth 100000 in
set_option maxHeartbeats 4000000 in
theorem known11_any (gs : List (Option Nat)) (w : World) (hgs : ∀ b, some b ∈ gs → b < w.heap.size) : Calls Try.prog 19 #[] w fun e w' => e = .returned (.bool true) ∧ Below w.heap.size w w' := by
  refine calls_ev (args := []) mixed Try.func19 rfl (by kernel_rfl) ?_
  have M := St.start (w := w) (gs := gs) hgs
  refine s_bsliceB (bvs [118]) M slb (zs := [.int .u8 0]) (by kernel_rfl) rfl (by decide) rfl ?_
  clear M; rintro g1 W M
  refine s_cvtB [118] M rfl rfl (Nat.le_refl _) ?_
  clear M; rintro W M
  refine s_mkN M rfl rfl ?_
  clear M; rintro gk W M
  replace M := M.addT (fr := false) (ds := dNs (noneNs 16)) (cs := zNs 16) (RdL.znones 16)
  refine p_build (vs := ncs kt11 none 0 none 0 (some ⟨gk, 0, none⟩) 16 none 0) pl_nd z_nd rfl ?_
  refine s_alloc (zN) M al_nd ?_
  clear M
  rintro g2 W M
  refine s_storeA 0 (ncs kt11 none 0 none 0 (some ⟨gk, 0, none⟩) 16 none 0) M rfl sz_nd rfl rfl rfl (all1 rfl) rfl ?_
  clear M; rintro W M
  dsimp only [setL] at M
  -- the first leaf
  refine p_fld fN4 rfl ?_
  refine v_load agg_ns rfl ((M.B 0 rfl).at_ rfl) ?_
  refine s_bslice (bvs [1]) (fr := true) (ds := (bvs [1]).map D.v) M slb (zs := [.int .u8 0]) (by kernel_rfl) rfl (by decide) rfl (RdL.ofvals _) rfl ?_
  clear M; rintro g3 W M
  refine p_build (vs := ncs lf11 (some ⟨g3, 0, none⟩) 1 (some ⟨g1, 0, none⟩) 1 none 0 none 0) pl_nd z_nd rfl ?_
  refine p_atL (i := 0) (q := 0) sln rfl rfl rfl (by decide) (by decide) ?_
  have hxl := (M.dw 1 rfl).len
  refine s_storeP 1 (n := 6) (off := 0) (ncs lf11 (some ⟨g3, 0, none⟩) 1 (some ⟨g1, 0, none⟩) 1 none 0 none 0) _ M rfl sz_nd rfl rfl rfl (all1 rfl) (by rw [hxl, dNs_len]; decide) rfl ?_
  clear M; rintro W M
  dsimp only [setL] at M
  have hst := RdL.ofnode (t := lf11) (M.dw 0 rfl).hd (M.dw 2 rfl).hd (RdD.nil_ (s := 6) none 0) (RdD.nil_ (s := 1) none 0)
  have hX := M.dw 1 rfl
  have hX2 := ((hX.take 0).app hst).app (hX.drop 6)
  rw [show dNs (noneNs 16) = dNs (noneNs 16) from rfl] at hX2
  replace hX2 : RdL W _ ((dNs (noneNs 16)).take (0 * 6) ++ dN lf11 ++ (dNs (noneNs 16)).drop (0 * 6 + 6)) _ := hX2
  rw [← dNs_set lf11 (by decide)] at hX2
  replace M := M.addT (fr := false) hX2
  clear hX hX2 hst hxl
  -- the other leaf
  refine p_fld fN4 rfl ?_
  refine v_load agg_ns rfl ((M.B 0 rfl).at_ rfl) ?_
  refine s_bslice (bvs [1]) (fr := true) (ds := (bvs [1]).map D.v) M slb (zs := [.int .u8 0]) (by kernel_rfl) rfl (by decide) rfl (RdL.ofvals _) rfl ?_
  clear M; rintro g4 W M
  refine p_build (vs := ncs lf11 (some ⟨g4, 0, none⟩) 1 (some ⟨g1, 0, none⟩) 1 none 0 none 0) pl_nd z_nd rfl ?_
  refine p_atL (i := 2) (q := 12) sln rfl rfl rfl (by decide) (by decide) ?_
  have hxl := (M.dw 1 rfl).len
  refine s_storeP 1 (n := 6) (off := 12) (ncs lf11 (some ⟨g4, 0, none⟩) 1 (some ⟨g1, 0, none⟩) 1 none 0 none 0) _ M rfl sz_nd rfl rfl rfl (all1 rfl) (by rw [hxl, dNs_len]; decide) rfl ?_
  clear M; rintro W M
  dsimp only [setL] at M
  have hst := RdL.ofnode (t := lf11) (M.dw 0 rfl).hd (M.dw 4 rfl).hd (RdD.nil_ (s := 6) none 0) (RdD.nil_ (s := 1) none 0)
  have hX := M.dw 1 rfl
  have hX2 := ((hX.take 12).app hst).app (hX.drop 18)
  replace hX2 : RdL W _ ((dNs ((noneNs 16).set 0 lf11)).take (2 * 6) ++ dN lf11 ++ (dNs ((noneNs 16).set 0 lf11)).drop (2 * 6 + 6)) _ := hX2
  rw [← dNs_set lf11 (by decide)] at hX2
  replace M := (M.addT (fr := false) hX2).permL (List.Perm.swap ..)
  clear hX hX2 hst hxl
  replace M := M.frzB (fr := false) (s := 6) (n := 16) (c := 16) (M.dw 0 rfl) (by rw [dNs_len]; rfl) (Nat.le_refl _)
  replace M := M.addT (fr := false) (RdL.ofnode (t := kt11) (RdD.nil_ (s := 1) none 0) (RdD.nil_ (s := 1) none 0) (M.dw 0 rfl).hd (RdD.nil_ (s := 1) none 0))
  replace M := M.fsub [.dat false (dN kt11) (ncs kt11 none 0 none 0 (some ⟨gk, 0, none⟩) 16 none 0)] (by simp)
  have p1 := kt11_p
  have p2 := kt11_u
  have p3 := kt11_b
  have hz := kt11_z
  obtain ⟨t, ht⟩ : ∃ t, t = kt11 := ⟨_, rfl⟩
  rw [← ht] at M p1 p2 hz
  clear ht
  refine v_loadN (ncs t none 0 none 0 (some ⟨gk, 0, none⟩) 16 none 0) agg_nd rfl rfl (M.run 0 rfl) ?_
  refine cc is_pPack (ppack_any t (by omega) _ _ _ (M.da 0 rfl) M.olt) ?_
  rintro e W ⟨A2, n2, c2, he, o, hb⟩
  rw [p1] at he o
  subst he
  have hn : 11 = n2 := o.len
  subst hn
  replace M := M.callO hb o
  clear o hb
  refine ⟨_, rfl, ?_⟩
  refine cc is_pUnpack (punpack_any kb11 _ _ _ 11 c2 (M.d1 0 rfl) M.olt (by decide)) ?_
  rintro e W ⟨cs3, he, r3, hb⟩
  rw [p2] at he r3
  subst he
  dsimp only at r3
  obtain ⟨Ap, cp, Av, cv, Ak, ck, Ah, ch, rfl, -⟩ := id r3.node
  replace M := M.callF hb r3
  clear r3 hb
  refine ⟨_, rfl, ?_⟩
  refine s_alloc (zN) M al_nd ?_
  clear M
  rintro g5 W M
  first | refine s_storeA 0 (ncs t Ap cp Av cv Ak ck Ah ch) M rfl (by kernel_rfl) rfl rfl rfl (all1 rfl) rfl ?_ | refine s_storeA 1 (ncs t Ap cp Av cv Ak ck Ah ch) M rfl (by kernel_rfl) rfl rfl rfl (all1 rfl) rfl ?_ | refine s_storeA 2 (ncs t Ap cp Av cv Ak ck Ah ch) M rfl (by kernel_rfl) rfl rfl rfl (all1 rfl) rfl ?_ | refine s_storeA 3 (ncs t Ap cp Av cv Ak ck Ah ch) M rfl (by kernel_rfl) rfl rfl rfl (all1 rfl) rfl ?_
  clear M
  rintro W M
  dsimp only [setL] at M
  refine s_bslice (bvs [5, 0]) (fr := true) (ds := (bvs [5, 0]).map D.v) M slb (zs := [.int .u8 0]) (by kernel_rfl) rfl (by decide) rfl (RdL.ofvals _) rfl ?_
  clear M; rintro g6 W M
  refine cc is_pUnpack (punpack_any [5, 0] _ _ _ _ _ (M.d1 0 rfl) M.olt (by decide)) ?_
  rintro e W ⟨cs4, he, r4, hb⟩
  rw [p3] at he
  subst he
  have hc4 := r4.len
  rw [dN_len] at hc4
  replace M := M.callF hb r4
  clear r4 hb
  refine ⟨_, rfl, ?_⟩
  refine s_alloc (zN) M al_nd ?_
  clear M
  rintro g7 W M
  refine s_storeA 0 cs4 M rfl sz_nd rfl rfl hc4 ((M.da 0 rfl).ones (dN_one _)) rfl ?_
  clear M; rintro W M
  dsimp only [setL] at M
  refine s_bslice (bvs kb11) (fr := true) (ds := (bvs kb11).map D.v) M slb (zs := [.int .u8 0]) (by kernel_rfl) rfl (by decide) rfl (RdL.ofvals _) rfl ?_
  clear M; rintro g8 W M
  obtain ⟨q, hq, hc⟩ := same_tf (c1 := c2) (c2 := 11) (M.rdb (l := kb11) 4 rfl).2.2 (M.rdb (l := kb11) 0 rfl).2.2
  obtain rfl := hq.2 rfl
  refine cc is_same0 hc ?_
  rintro e W' ⟨rfl, rfl⟩
  refine ⟨_, rfl, ?_⟩
  clear hq hc
  refine p_eq rfl rfl (fun _ => ?_) (fun e => absurd rfl e)
  refine p_eq rfl rfl (fun _ => ?_) (fun e => absurd rfl e)
  refine v_loadN (ncs t Ap cp Av cv Ak ck Ah ch) agg_nd rfl rfl (M.run 1 rfl) ?_
  refine v_loadN (ncs t none 0 none 0 (some ⟨gk, 0, none⟩) 16 none 0) agg_nd rfl rfl (M.run 2 rfl) ?_
  refine cc is_r7same (rsame_any 2000000 (by decide) t (by omega) t _ _ (ncs t Ap cp Av cv Ak ck Ah ch) (ncs t none 0 none 0 (some ⟨gk, 0, none⟩) 16 none 0) (M.da 3 rfl) (M.da 5 rfl) M.olt (by omega)) ?_
  rintro e W ⟨q, rfl, hq, hb⟩
  obtain rfl := hq.2 rfl
  replace M := M.call hb
  clear hb hq
  refine ⟨_, rfl, ?_⟩
  refine p_eq rfl rfl (fun _ => ?_) (fun e => absurd rfl e)
  refine v_loadN (ncs t none 0 none 0 (some ⟨gk, 0, none⟩) 16 none 0) agg_nd rfl rfl (M.run 2 rfl) ?_
  refine cc is_pSize (psize_any t (by omega) _ _ _ (M.da 5 rfl) M.olt) ?_
  rintro e W ⟨he, hb⟩
  rw [p1] at he
  subst he
  replace M := M.call hb
  refine ⟨_, rfl, ?_⟩
  refine p_eq rfl rfl (fun _ => ?_) (fun e => absurd rfl e)
  exact ⟨rfl, M.below⟩
end Go.Proofs.Ytliccofjlheceaa
namespace Go.Proofs.Ytliccofjlheceaa
open Go.RowKit
theorem is_spl : isFn Try.prog 26 = true := by kernel_rfl
theorem SoftRd.up2 {B : Nat → Prop} {W W' : World} {A : Option Addr} {n : Nat} (h : SoftRd B W A n) (t : Tame2 B W W') : SoftRd B W' A n := fun hn => by
  obtain ⟨b, off, e, hB, hc⟩ := h hn
  refine ⟨b, off, e, hB, fun j hj => ?_⟩
  obtain ⟨c, hc⟩ := hc j hj
  obtain ⟨v', h1, h2⟩ := t.inn _ _ hB hc
  obtain ⟨c', rfl⟩ := h2.byte
  exact ⟨c', h1⟩
theorem soft_cells {B : Nat → Prop} {W W' : World} (t : Tame2 B W W') {a : Addr} (hB : B a.block) (es : List Value) (h : ∀ j v, es[j]? = some v → W.cell? (a.add j) = some v) :
    ∃ es' : List Value, es'.length = es.length ∧ (∀ (j : Nat) (v : Value), es[j]? = some v → ∃ v', es'[j]? = some v' ∧ soft v v') ∧ ∀ j v, es'[j]? = some v → W'.cell? (a.add j) = some v := by
  have hc : ∀ j v, es[j]? = some v → ∃ v', W'.cell? (a.add j) = some v' ∧ soft v v' := fun j v hj => t.inn _ _ (by rw [block_of_add]; exact hB) (h j v hj)
  have hat : ∀ j, j < es.length → ((List.range es.length).map fun j => (W'.cell? (a.add j)).getD (.bool false))[j]? = some ((W'.cell? (a.add j)).getD (.bool false)) := fun j hj => by
    rw [List.getElem?_map, List.getElem?_range hj]; rfl
  refine ⟨(List.range es.length).map fun j => (W'.cell? (a.add j)).getD (.bool false), by rw [List.length_map, List.length_range], fun j v hj => ?_, fun j v hj => ?_⟩
  · obtain ⟨v', h1, h2⟩ := hc j v hj
    refine ⟨v', ?_, h2⟩
    rw [hat j (List.getElem?_eq_some_iff.1 hj).1, h1]; rfl
  · have hjl : j < es.length := by
      have := (List.getElem?_eq_some_iff.1 hj).1
      rwa [List.length_map, List.length_range] at this
    obtain ⟨v', h1, -⟩ := hc j _ (List.getElem?_eq_getElem hjl)
    rw [hat j hjl, h1] at hj
    injection hj with hj
    rw [h1]; exact congrArg some hj
def SplOk (t : Nd) : Prop := ∀ (B : Nat → Prop) (W0 : World) (cs : List Value), RdL W0 B (dN t) cs → (∀ b, B b → b < W0.heap.size) → (∀ b, B b → Thaw W0 b) → ∀ (W : World) (cs' : List Value), Tame2 B W0 W → cs'.length = 6 → (∀ (j : Nat) (v : Value), cs[j]? = some v → ∃ v', cs'[j]? = some v' ∧ soft v v') →
  Calls Try.prog 26 #[.agg cs'.toArray] W fun e W' => (∃ v, e = .returned v) ∧ Tame2 B W W'
set_option maxRecDepth 100000 in
set_option maxHeartbeats 2000000 in
theorem spl_step (N : Nat) (ih : ∀ k : Nd, sz k < N → SplOk k) (t : Nd) (ht : sz t ≤ N) (hN : N ≤ 1000000000) : SplOk t := by
  intro B W0 cs hr hlt hth W cs' T hl hsoft
  refine calls_ev (args := [.agg cs'.toArray]) mixed Try.func26 rfl (by kernel_rfl) ?_
  obtain ⟨Ap, cp, Av, cv, Ak, ck, Ah, ch, rfl, q1, q3, q4, q5⟩ := hr.node
  have hsz := sz_eq t
  have hslc := szs_len t.kids
  match cs', hl, hsoft with
  | [u0, u1, u2, u3, u4, u5], _, hsoft =>
  obtain ⟨_, e, s1⟩ := hsoft 1 _ rfl
  injection e with e; subst e
  have := s1.sl; subst this
  obtain ⟨_, e, s3⟩ := hsoft 3 _ rfl
  injection e with e; subst e
  have := s3.sl; subst this
  obtain ⟨_, e, s4⟩ := hsoft 4 _ rfl
  injection e with e; subst e
  have := s4.sl; subst this
  obtain ⟨_, e, s5⟩ := hsoft 5 _ rfl
  injection e with e; subst e
  have := s5.sl; subst this
  clear hsoft s1 s3 s4 s5
  refine v_boxB [u0, .slice Ap t.path.length cp, u2, .slice Av t.val.length cv, .slice Ak t.kids.length ck, .slice Ah t.hash.length ch] rfl ?_
  rintro g W1 hg hB hb hs
  rw [hg] at hb
  have hBlt : ∀ b, B b → b < W.heap.size := fun b h => Nat.lt_of_lt_of_le (hlt b h) T.size
  have hgB : ¬ B g := fun h => by have := hBlt g h; omega
  have T1 : Tame2 B W W1 := Tame2.new hb hBlt
  have keep : ∀ W', Tame2 B W1 W' → Blk W' g 38 [u0, .slice Ap t.path.length cp, u2, .slice Av t.val.length cv, .slice Ak t.kids.length ck, .slice Ah t.hash.length ch] := fun W' k => (k.out g (by omega) hgB).trans hB
  have thw : ∀ W', Tame2 B W1 W' → ∀ b, B b → Thaw W' b := fun W' k b h => ((T.trans T1).trans k).thaw b h (hth b h)
  refine p_fld fN1 rfl ?_
  refine v_load agg_b rfl (hB.at_ rfl) ?_
  refine cc is_spoil (spoil_any B _ _ _ _ ((SoftRd.of q1 (fun b h => h) hlt).up2 (T.trans T1)) (thw W1 (Tame2.refl _ _)) (by omega)) ?_
  rintro e W2 ⟨⟨u, rfl⟩, t2⟩
  have K2 := t2.two
  refine ⟨_, rfl, ?_⟩
  refine p_fld fN3 rfl ?_
  refine v_load agg_b rfl ((keep W2 K2).at_ rfl) ?_
  refine cc is_spoil (spoil_any B _ _ _ _ ((SoftRd.of q3 (fun b h => h) hlt).up2 ((T.trans T1).trans K2)) (thw W2 K2) (by omega)) ?_
  rintro e W3 ⟨⟨u', rfl⟩, t3⟩
  have K3 := K2.trans t3.two
  refine ⟨_, rfl, ?_⟩
  refine p_fld fN5 rfl ?_
  refine v_load agg_b rfl ((keep W3 K3).at_ rfl) ?_
  refine cc is_spoil (spoil_any B _ _ _ _ ((SoftRd.of q5 (fun b h => h) hlt).up2 ((T.trans T1).trans K3)) (thw W3 K3) (by omega)) ?_
  rintro e W4 ⟨⟨u'', rfl⟩, t4⟩
  have K4 := K3.trans t4.two
  refine ⟨_, rfl, ?_⟩
  refine lp Nat (fun i W' => i ≤ t.kids.length ∧ Tame2 B W1 W') (fun i => [(1, .pointer (some ⟨g, 0, none⟩)), (2, .int .i64 (i : Nat))]) (fun i => t.kids.length - i) 0 ⟨Nat.zero_le _, K4⟩ (by repeat (first | exact trivial | refine ⟨rfl, ?_⟩)) ?_
  clear K2 K3 K4 t2 t3 t4
  rintro i E5 W5 ⟨hi, K5⟩
  refine p_fld fN4 rfl ?_
  refine v_load agg_ns rfl ((keep W5 K5).at_ rfl) ?_
  refine p_len sln rfl ?_
  refine p_lt rfl rfl (fun hlt2 => ?_) (fun _ => ?_)
  rotate_left
  · exact ⟨⟨_, rfl⟩, T1.trans K5⟩
  have hlt2 : i < t.kids.length := by have h : (i : Int) < (t.kids.length : Int) := hlt2; omega
  obtain ⟨k, hk⟩ : ∃ k, t.kids[i]? = some k := ⟨_, List.getElem?_eq_getElem hlt2⟩
  have hkz := szs_mem (List.mem_of_getElem? hk)
  obtain ⟨b0, o0, es, e0, hb0, hes, hel, hcell⟩ := q4.kid hk
  subst e0
  obtain ⟨es', hl', hs', hc'⟩ := soft_cells ((T.trans T1).trans K5) (a := (⟨b0, o0, none⟩ : Addr).add (i * 6)) (by rw [block_of_add]; exact hb0) es hcell
  refine p_fld fN4 rfl ?_
  refine v_load agg_ns rfl ((keep W5 K5).at_ rfl) ?_
  refine p_at (i := i) sln rfl rfl rfl hlt2 ?_
  refine v_loadN es' agg_nd rfl (by rw [hl', hel]) hc' ?_
  refine cc is_spl (ih k (by omega) B W0 es hes hlt hth _ es' ((T.trans T1).trans K5) (by rw [hl', hel]) hs') ?_
  rintro e W6 ⟨⟨u3, rfl⟩, t6⟩
  refine ⟨_, rfl, ?_⟩
  refine p_addN (b := 1) rfl rfl (by omega) ?_
  exact ⟨i + 1, ⟨by omega, K5.trans t6⟩, (by repeat (first | exact trivial | refine ⟨rfl, ?_⟩)), by omega⟩
theorem spl_any : ∀ (N : Nat), N ≤ 1000000000 → ∀ t : Nd, sz t < N → SplOk t
  | 0, _, t, h => by omega
  | N + 1, hN, t, h => spl_step N (fun k hk => spl_any N (by omega) k hk) t (by omega) (by omega)
end Go.Proofs.Ytliccofjlheceaa
namespace Go.Proofs.Ytliccofjlheceaa
open Go.RowKit
theorem is_rkids : isFn Try.prog 68 = true := by kernel_rfl
/-- The kids that are sent; the two bytes that tell which. -/
def kidsN (ks : List Nd) : List Nd := ks.filter fun k => decide (k.kind ≠ 0)
def bitsN (ks : List Nd) (i : Nat) : List UInt8 := [UInt8.ofNat (kbits ks i).1, UInt8.ofNat (kbits ks i).2]
theorem kidsN_le (ks : List Nd) : (kidsN ks).length ≤ ks.length := List.length_filter_le _ _
theorem bits_put {ks : List Nd} {i : Nat} {k : Nd} (hi : i < 16) (hk : ks[i]? = some k) (hk0 : k.kind ≠ 0) : ∃ q x : Nat, i / 8 = q ∧ q < 2 ∧ at8 (bitsN ks i) q = (x : Int) ∧ x + 128 / 2 ^ (i % 8) ≤ 255 ∧ (bitsN ks i).set q (b8 ((x + 128 / 2 ^ (i % 8) : Nat) : Int)) = bitsN ks (i + 1) := by
  have hkd : ks.getD i noneN = k := by rw [List.getD_eq_getElem?_getD, hk]; rfl
  have hkb : kbit ks i = 128 / 2 ^ (i % 8) := by unfold kbit; rw [hkd, if_pos hk0]
  have hks := kbits_succ ks i
  have hkl := kbits_le ks i (by omega)
  have hkl1 := kbits_le ks (i + 1) (by omega)
  rcases Nat.lt_or_ge i 8 with h8 | h8
  · rw [if_pos h8, hkb] at hks
    rw [hks] at hkl1
    obtain ⟨u1, u2⟩ := two_lo [] [] (kbits ks i).1 (kbits ks i).2 (128 / 2 ^ (i % 8)) hkl.1
    refine ⟨0, (kbits ks i).1, by omega, by decide, u1, hkl1.1, ?_⟩
    unfold bitsN
    rw [hks]
    exact u2
  · rw [if_neg (by omega), hkb] at hks
    rw [hks] at hkl1
    obtain ⟨u1, u2⟩ := two_hi [] [] (kbits ks i).1 (kbits ks i).2 (128 / 2 ^ (i % 8)) hkl.2
    refine ⟨1, (kbits ks i).2, by omega, by decide, u1, hkl1.2, ?_⟩
    unfold bitsN
    rw [hks]
    exact u2
theorem bits_no {ks : List Nd} {i : Nat} {k : Nd} (hk : ks[i]? = some k) (hk0 : k.kind = 0) : bitsN ks (i + 1) = bitsN ks i := by
  have hkd : ks.getD i noneN = k := by rw [List.getD_eq_getElem?_getD, hk]; rfl
  have hkb : kbit ks i = 0 := by unfold kbit; rw [hkd, if_neg (by simp [hk0])]
  have hks := kbits_succ ks i
  rw [hkb] at hks
  unfold bitsN
  rw [hks]
  split <;> rfl
set_option maxRecDepth 100000 in
set_option maxHeartbeats 4000000 in
theorem rkids_any (t : Nd) (h16 : t.kids.length ≤ 16) (gs : List (Option Nat)) (w : World) (cs : List Value) (hr : RdL w (Fd w gs) (dN t) cs) (hgs : ∀ b, some b ∈ gs → b < w.heap.size) :
    Calls Try.prog 68 #[.agg cs.toArray] w fun e w' => ∃ A n c B d, e = .returned (.tuple #[.slice A n c, .slice B 2 d]) ∧ RdD w' (Fd w' gs) (dKs (kidsN t.kids)) (.slice A n c) ∧ Own w' w.heap.size B 2 d (bitsN t.kids t.kids.length) ∧ Below w.heap.size w w' := by
  refine calls_ev (args := [.agg cs.toArray]) mixed Try.func68 rfl (by kernel_rfl) ?_
  obtain ⟨Ap, cp, Av, cv, Ak, ck, Ah, ch, rfl, -, -, r4, -⟩ := id hr.node
  have M := ((St.start hgs).addL hr).addD r4
  clear hr r4
  refine s_box (ncs t Ap cp Av cv Ak ck Ah ch) M rfl ?_
  clear M
  rintro g1 W M
  replace M := (M.nilR 38 6).addT (fr := false) (ds := dNs (kidsN (t.kids.take 0))) (cs := []) RdL.nil_
  refine s_litB [.int .u8 0, .int .u8 0] [0, 0] M (by decide) rfl rfl rfl ?_
  clear M; rintro g5 W M
  refine lp (Nat × Option Addr × Nat × Nat × List Value) (fun s W => s.1 ≤ t.kids.length ∧ s.2.2.1 = (kidsN (t.kids.take s.1)).length ∧ St w gs W [(g1, 38, ncs t Ap cp Av cv Ak ck Ah ch)] [⟨5, 1, some ⟨g5, 0, none⟩, 2, 2, bvs (bitsN t.kids s.1)⟩, ⟨38, 6, s.2.1, s.2.2.1, s.2.2.2.1, s.2.2.2.2⟩] [.dat false (dNs (kidsN (t.kids.take s.1))) s.2.2.2.2, .dat false [dKs t.kids] [.slice Ak t.kids.length ck]])
    (fun s => [(1, .pointer (some ⟨g1, 0, none⟩)), (4, .slice s.2.1 s.2.2.1 s.2.2.2.1), (5, .slice (some ⟨g5, 0, none⟩) 2 2), (6, .int .i64 (s.1 : Nat))]) (fun s => t.kids.length - s.1) (0, none, 0, 0, []) ⟨Nat.zero_le _, rfl, M.fsub _ (by simp)⟩ (by repeat (first | exact trivial | refine ⟨rfl, ?_⟩)) ?_
  clear M
  rintro ⟨i, A4, n4, c4, xs⟩ E W ⟨hi, e4, M⟩
  dsimp only at hi e4 M
  refine p_fld fN4 rfl ?_
  refine v_load agg_ns rfl ((M.B 0 rfl).at_ rfl) ?_
  refine p_len sln rfl ?_
  refine p_lt rfl rfl (fun hlt => ?_) (fun hge => ?_)
  · have hlt : i < t.kids.length := by have h : (i : Int) < (t.kids.length : Int) := hlt; omega
    obtain ⟨k, hk⟩ : ∃ k, t.kids[i]? = some k := ⟨_, List.getElem?_eq_getElem hlt⟩
    have htk : t.kids.take (i + 1) = t.kids.take i ++ [k] := by rw [List.take_add_one, hk]; rfl
    obtain ⟨b1, o1, es, e1, hel, M'⟩ := M.kid (M.d1 1 rfl) hk
    replace M := M'; clear M'
    obtain ⟨Bp, dp, Bv, dv, Bk, dk, Bh, dh, rfl, -⟩ := (M.da 1 rfl).node
    refine p_fld fN4 rfl ?_
    refine v_load agg_ns rfl ((M.B 0 rfl).at_ rfl) ?_
    refine p_at (i := i) sln (by show (Value.slice Ak t.kids.length ck) = _; rw [e1]) rfl rfl hlt ?_
    refine p_fld fN0 rfl ?_
    refine v_load agg_int rfl (M.lc 0 rfl 0 _ rfl) ?_
    have hn4 : n4 ≤ 16 := by have := kidsN_le (t.kids.take i); rw [List.length_take] at this; omega
    refine p_ne rfl rfl (fun hk0 => ?_) (fun hk0 => ?_)
    · have hk0 : k.kind = 0 := hk0
      have hkn : kidsN (t.kids.take (i + 1)) = kidsN (t.kids.take i) := by
        rw [htk]; unfold kidsN; rw [List.filter_append, List.filter_cons, if_neg (by simp [hk0])]; exact List.append_nil _
      refine p_addN (b := 1) rfl rfl (by dsimp only; omega) ?_
      refine ⟨(i + 1, A4, n4, c4, xs), ⟨by dsimp only; omega, by dsimp only; rw [hkn]; exact e4, ?_⟩, (by repeat (first | exact trivial | refine ⟨rfl, ?_⟩)), by dsimp only; omega⟩
      dsimp only
      rw [hkn, bits_no hk hk0]
      exact M.fsub _ (by simp)
    have hk0 : k.kind ≠ 0 := hk0
    have hkn : kidsN (t.kids.take (i + 1)) = kidsN (t.kids.take i) ++ [k] := by
      rw [htk]; unfold kidsN; rw [List.filter_append, List.filter_cons, if_pos (by simp [hk0])]; rfl
    refine p_fld fN4 rfl ?_
    refine v_load agg_ns rfl ((M.B 0 rfl).at_ rfl) ?_
    refine p_at (i := i) sln (by show (Value.slice Ak t.kids.length ck) = _; rw [e1]) rfl rfl hlt ?_
    refine v_loadN (ncs k Bp dp Bv dv Bk dk Bh dh) agg_nd rfl rfl (M.lc 0 rfl) ?_
    refine s_bsliceB (ncs k Bp dp Bv dv Bk dk Bh dh) M sln z_nd rfl (by decide) rfl ?_
    clear M; rintro g9 W M
    replace M := M.swpR
    refine s_app M Try.underlying36 inf_nd rfl (by decide) rfl rfl (Reads.blk (M.B 0 rfl) rfl) (all1 rfl) ⟨by omega, by decide⟩ ?_
    clear M; rintro A6 c6 W M -
    have hX := (M.dw 2 rfl).app (M.dw 1 rfl)
    have hdk : dNs (kidsN (t.kids.take i)) ++ dN k = dNs (kidsN (t.kids.take (i + 1))) := by rw [hkn, dNs_app, dNs, dNs, List.append_nil]
    rw [hdk] at hX
    replace M := (M.addT hX).dropL.swpR
    clear hX
    obtain ⟨q, x, hq, hq2, hx1, hx2, hx3⟩ := bits_put (by omega) hk hk0
    replace M := M.fsub [.dat false (dNs (kidsN (t.kids.take (i + 1)))) (xs ++ ncs k Bp dp Bv dv Bk dk Bh dh), .dat false [dKs t.kids] [.slice Ak t.kids.length ck]] (by simp)
    obtain ⟨W5, hW5⟩ : ∃ W5, W5 = W := ⟨_, rfl⟩
    rw [← hW5] at M ⊢
    refine lp Nat (fun j W => j ≤ i % 8 ∧ W = W5) (fun j => [(1, .pointer (some ⟨g1, 0, none⟩)), (4, .slice A6 (n4 + 1) c6), (5, .slice (some ⟨g5, 0, none⟩) 2 2), (6, .int .i64 (i : Nat)), (7, .int .u8 ((128 / 2 ^ j : Nat) : Int)), (8, .int .i64 (j : Nat))]) (fun j => i % 8 - j) 0 ⟨Nat.zero_le _, rfl⟩ (by repeat (first | exact trivial | refine ⟨rfl, ?_⟩)) ?_
    rintro j E6 W6 ⟨hj, rfl⟩
    refine p_remN (b := 8) rfl rfl (by decide) ?_
    refine p_lt rfl rfl (fun hlj => ?_) (fun hgj => ?_)
    · have hlj : j < i % 8 := by have h : (j : Int) < ((i % 8 : Nat) : Int) := hlj; omega
      refine p_quo (b := (2 : Nat)) rfl rfl (by decide) (quo8 (by have : 128 / 2 ^ j ≤ 128 := Nat.div_le_self _ _; omega)) ?_
      refine p_addN (b := 1) rfl rfl (by omega) ?_
      exact ⟨j + 1, ⟨by omega, rfl⟩, ⟨rfl, rfl, rfl, rfl, (by show Value.int .u8 ((128 / 2 ^ j / 2 : Nat) : Int) = _; rw [Nat.div_div_eq_div_mul, ← Nat.pow_succ]), rfl, trivial⟩, by omega⟩
    have hje : j = i % 8 := by have h : ¬ (j : Int) < ((i % 8 : Nat) : Int) := hgj; omega
    subst hje
    have hg : ∀ z : Nat, x + z ≤ 255 → IntKind.u8.wrap ((x : Int) + (z : Int)) = ((x + z : Nat) : Int) := fun z h => by rw [IntKind.wrap_u8']; omega
    have hrow : Own W6 w.heap.size (some ⟨g5, 0, none⟩) 2 2 (bitsN t.kids i) := M.row _ (List.mem_cons_self ..)
    refine p_quoN (b := 8) rfl rfl (by decide) (by omega) ?_
    refine p_quoN (b := 8) rfl rfl (by decide) (by omega) ?_
    rw [hq]
    refine p_atM (i := q) (q := q) slb rfl rfl rfl hq2 (by omega) ?_
    refine v_load agg_u8 rfl (hrow.cell hq2) ?_
    rw [hx1]
    refine p_add rfl rfl (r := ((x + 128 / 2 ^ (i % 8) : Nat) : Int)) (hg _ hx2) ?_
    refine p_atM (i := q) (q := q) slb rfl rfl rfl hq2 (by omega) ?_
    refine s_setRow q _ M rfl rfl hq2 (by have h := hx2; revert h; generalize x + 128 / 2 ^ (i % 8) = y; intro h; omega) ?_
    clear M; rintro W M
    rw [hx3] at M
    refine p_addN (b := 1) rfl rfl (by omega) ?_
    exact ⟨(i + 1, A6, n4 + 1, c6, xs ++ ncs k Bp dp Bv dv Bk dk Bh dh), ⟨by dsimp only; omega, by dsimp only; rw [hkn, List.length_append, ← e4]; rfl, M⟩, (by repeat (first | exact trivial | refine ⟨rfl, ?_⟩)), by dsimp only; omega⟩
  · have hge : i = t.kids.length := by have h : ¬ (i : Int) < (t.kids.length : Int) := hge; omega
    subst hge
    rw [List.take_length] at M e4
    subst e4
    have M1 := M.swpR
    have M2 := M1.frzR (fr := false) (M1.dt 0 rfl)
    exact ⟨_, _, _, _, _, rfl, M2.fin1 0 rfl, M.row _ (List.mem_cons_self ..), M.below⟩
end Go.Proofs.Ytliccofjlheceaa
namespace Go.Proofs.Ytliccofjlheceaa
open Go.RowKit
theorem is_rhead : isFn Try.prog 67 = true := by kernel_rfl
theorem headP_eq (t : Nd) : headP t = if t.kind = 4 then 4 :: t.hash else encF t.kind t.path t.has t.val t.kids [] := rfl
set_option maxRecDepth 100000 in
set_option maxHeartbeats 4000000 in
theorem rhead_any (t : Nd) (ht : sz t ≤ 100000000) (h3 : t.kind = 3 → t.kids.length = 16) (gs : List (Option Nat)) (w : World) (cs : List Value) (hr : RdL w (Fd w gs) (dN t) cs) (hgs : ∀ b, some b ∈ gs → b < w.heap.size) :
    Calls Try.prog 67 #[.agg cs.toArray] w fun e w' => ∃ A n c, e = .returned (.slice A n c) ∧ Own w' w.heap.size A n c (headP t) ∧ Below w.heap.size w w' := by
  refine calls_ev (args := [.agg cs.toArray]) mixed Try.func67 rfl (by kernel_rfl) ?_
  obtain ⟨Ap, cp, Av, cv, Ak, ck, Ah, ch, rfl, r1, r3, r4, r5⟩ := id hr.node
  have hsz := sz_eq t
  have hsl := szs_len t.kids
  have M := (((((St.start hgs).addD r4).addD r3).addD r1).addD r5).addL hr
  clear r1 r3 r4 r5 hr
  refine s_box (ncs t Ap cp Av cv Ak ck Ah ch) M rfl ?_
  clear M
  rintro g1 W M
  refine p_fld fN0 rfl ?_
  refine v_load agg_int rfl (by first | exact (M.B 0 rfl).at_ rfl | exact (M.B 1 rfl).at_ rfl | exact (M.B 2 rfl).at_ rfl | exact (M.B 3 rfl).at_ rfl | exact (M.B 4 rfl).at_ rfl | exact M.lc 0 rfl _ _ rfl | exact M.lc 1 rfl _ _ rfl | exact M.lc 2 rfl _ _ rfl | exact M.lc 3 rfl _ _ rfl | exact M.lc 4 rfl _ _ rfl | exact M.lc 5 rfl _ _ rfl | exact M.lc 6 rfl _ _ rfl | exact M.lc 7 rfl _ _ rfl) ?_
  refine v_cvt u_int u_u8 rfl (r := t.kind % 256) (by rw [IntKind.wrap_u8']) ?_
  refine s_litB [.int .u8 (t.kind % 256)] [b8 (t.kind % 256)] M (by decide) rfl (one_blk (by omega)) rfl ?_
  clear M; rintro g4 W M
  refine p_fld fN1 rfl ?_
  refine v_load agg_b rfl (by first | exact (M.B 0 rfl).at_ rfl | exact (M.B 1 rfl).at_ rfl | exact (M.B 2 rfl).at_ rfl | exact (M.B 3 rfl).at_ rfl | exact (M.B 4 rfl).at_ rfl | exact M.lc 0 rfl _ _ rfl | exact M.lc 1 rfl _ _ rfl | exact M.lc 2 rfl _ _ rfl | exact M.lc 3 rfl _ _ rfl | exact M.lc 4 rfl _ _ rfl | exact M.lc 5 rfl _ _ rfl | exact M.lc 6 rfl _ _ rfl | exact M.lc 7 rfl _ _ rfl) ?_
  refine p_fld fN0 rfl ?_
  refine v_load agg_int rfl (by first | exact (M.B 0 rfl).at_ rfl | exact (M.B 1 rfl).at_ rfl | exact (M.B 2 rfl).at_ rfl | exact (M.B 3 rfl).at_ rfl | exact (M.B 4 rfl).at_ rfl | exact M.lc 0 rfl _ _ rfl | exact M.lc 1 rfl _ _ rfl | exact M.lc 2 rfl _ _ rfl | exact M.lc 3 rfl _ _ rfl | exact M.lc 4 rfl _ _ rfl | exact M.lc 5 rfl _ _ rfl | exact M.lc 6 rfl _ _ rfl | exact M.lc 7 rfl _ _ rfl) ?_
  refine p_eqD rfl rfl ?_
  refine cc is_rpack (refPack_any Ap _ cp (decide (t.kind = 1)) t.path _ (M.rdb 2 rfl).2.2 (by omega)) ?_
  rintro e W ⟨A5, n5, c5, rfl, o5, hb⟩
  replace M := M.callO hb o5
  refine ⟨_, rfl, ?_⟩
  have e5 := o5.len
  have hpk := packL_len t.path (decide (t.kind = 1))
  have hpn := putN_len10 (n := n5) (by omega)
  have hvn := putN_len10 (n := t.val.length) (by omega)
  clear o5 hb
  refine p_fld fN0 rfl ?_
  refine v_load agg_int rfl (by first | exact (M.B 0 rfl).at_ rfl | exact (M.B 1 rfl).at_ rfl | exact (M.B 2 rfl).at_ rfl | exact (M.B 3 rfl).at_ rfl | exact (M.B 4 rfl).at_ rfl | exact M.lc 0 rfl _ _ rfl | exact M.lc 1 rfl _ _ rfl | exact M.lc 2 rfl _ _ rfl | exact M.lc 3 rfl _ _ rfl | exact M.lc 4 rfl _ _ rfl | exact M.lc 5 rfl _ _ rfl | exact M.lc 6 rfl _ _ rfl | exact M.lc 7 rfl _ _ rfl) ?_
  rw [headP_eq]
  refine p_eq rfl rfl (fun hk1 => ?_) (fun hk1 => ?_)
  · have hk1 : t.kind = 1 := hk1
    rw [if_neg (by rw [hk1]; decide)]
    unfold encF
    rw [if_pos hk1]
    rw [decide_eq_true hk1] at M
    refine cc is_rpb (refPutBytes_any _ _ _ (packL t.path true) _ (M.rdb 0 rfl).2.2 (by omega)) ?_
    rintro e W ⟨A7, c7, rfl, o7, hb⟩
    replace M := M.callO hb o7
    refine ⟨_, rfl, ?_⟩
    refine s_appB M rfl rfl (M.rdb 0 rfl).2.2 (by omega) ?_
    clear M; rintro A8 c8 W M -
    clear o7 hb
    refine p_fld fN3 rfl ?_
    refine v_load agg_b rfl (by first | exact (M.B 0 rfl).at_ rfl | exact (M.B 1 rfl).at_ rfl | exact (M.B 2 rfl).at_ rfl | exact (M.B 3 rfl).at_ rfl | exact (M.B 4 rfl).at_ rfl | exact M.lc 0 rfl _ _ rfl | exact M.lc 1 rfl _ _ rfl | exact M.lc 2 rfl _ _ rfl | exact M.lc 3 rfl _ _ rfl | exact M.lc 4 rfl _ _ rfl | exact M.lc 5 rfl _ _ rfl | exact M.lc 6 rfl _ _ rfl | exact M.lc 7 rfl _ _ rfl) ?_
    refine cc is_rpb (refPutBytes_any _ _ _ t.val _ (M.rdb 5 rfl).2.2 (by omega)) ?_
    rintro e W ⟨A7, c7, rfl, o7, hb⟩
    replace M := M.callO hb o7
    refine ⟨_, rfl, ?_⟩
    refine s_appB M rfl rfl (M.rdb 0 rfl).2.2 (by omega) ?_
    clear M; rintro A8 c8 W M -
    clear o7 hb
    rw [List.singleton_append, List.cons_append] at M
    exact ⟨A8, _, c8, rfl, M.row _ (List.mem_cons_self ..), M.below⟩
  have hk1 : ¬ t.kind = 1 := hk1
  rw [decide_eq_false hk1] at M
  refine p_eq rfl rfl (fun hk2 => ?_) (fun hk2 => ?_)
  · have hk2 : t.kind = 2 := hk2
    rw [if_neg (by rw [hk2]; decide)]
    unfold encF
    rw [if_neg hk1, if_pos hk2, List.append_nil]
    refine cc is_rpb (refPutBytes_any _ _ _ (packL t.path false) _ (M.rdb 0 rfl).2.2 (by omega)) ?_
    rintro e W ⟨A7, c7, rfl, o7, hb⟩
    replace M := M.callO hb o7
    refine ⟨_, rfl, ?_⟩
    refine s_appB M rfl rfl (M.rdb 0 rfl).2.2 (by omega) ?_
    clear M; rintro A8 c8 W M -
    clear o7 hb
    rw [List.singleton_append] at M
    exact ⟨A8, _, c8, rfl, M.row _ (List.mem_cons_self ..), M.below⟩
  have hk2 : ¬ t.kind = 2 := hk2
  refine p_eq rfl rfl (fun hk3 => ?_) (fun hk3 => ?_)
  · have hk3 : t.kind = 3 := hk3
    have h16 := h3 hk3
    rw [if_neg (by rw [hk3]; decide)]
    unfold encF
    rw [if_neg hk1, if_neg hk2, if_pos hk3]
    refine s_litB [.int .u8 0] [0] M (by decide) rfl rfl rfl ?_
    clear M; rintro g9 W M
    replace M := M.frzO
    refine s_appB M rfl rfl (M.rdb 0 rfl).2.2 (by decide) ?_
    clear M; rintro A8 c8 W M -
    obtain ⟨P, hP⟩ : ∃ P, P = b8 (t.kind % 256) :: (if t.has then (1 : UInt8) :: putB t.val else [0]) := ⟨_, rfl⟩
    have hPl : P.length ≤ 12 + t.val.length := by
      rw [hP, List.length_cons]
      split
      · rw [List.length_cons, putB_lenE]; omega
      · simp only [List.length_cons, List.length_nil]; omega
    have hgoal : b8 (t.kind % 256) :: ((if t.has = true then (1 : UInt8) :: putB t.val else [0]) ++ (UInt8.ofNat (kbits t.kids 16).1 :: UInt8.ofNat (kbits t.kids 16).2 :: [])) = P ++ bitsN t.kids t.kids.length := by rw [hP, h16]; rfl
    rw [hgoal]
    refine cutS (Option Addr × Nat) (fun s W => St w gs W [(g1, 38, ncs t Ap cp Av cv Ak ck Ah ch)] [⟨5, 1, s.1, P.length, s.2, bvs P⟩] [.dat false (dN t) (ncs t Ap cp Av cv Ak ck Ah ch)]) (fun s => [(1, .pointer (some ⟨g1, 0, none⟩)), (3, .slice s.1 P.length s.2)]) ?_ ?_
    · refine p_fld fN2 rfl ?_
      refine v_load agg_bo rfl (by first | exact (M.B 0 rfl).at_ rfl | exact (M.B 1 rfl).at_ rfl | exact (M.B 2 rfl).at_ rfl | exact (M.B 3 rfl).at_ rfl | exact (M.B 4 rfl).at_ rfl | exact M.lc 0 rfl _ _ rfl | exact M.lc 1 rfl _ _ rfl | exact M.lc 2 rfl _ _ rfl | exact M.lc 3 rfl _ _ rfl | exact M.lc 4 rfl _ _ rfl | exact M.lc 5 rfl _ _ rfl | exact M.lc 6 rfl _ _ rfl | exact M.lc 7 rfl _ _ rfl) ?_
      cases hh : t.has with
      | true =>
        rw [hh, if_pos rfl] at hP
        obtain ⟨g, rfl⟩ := row_addr M (by decide)
        refine p_atM (i := 1) (q := 1) slb rfl rfl rfl (by decide) (by decide) ?_
        refine s_setRow 1 1 M rfl rfl (by decide) (by decide) ?_
        clear M; rintro W M
        refine p_fld fN3 rfl ?_
        refine v_load agg_b rfl (by first | exact (M.B 0 rfl).at_ rfl | exact (M.B 1 rfl).at_ rfl | exact (M.B 2 rfl).at_ rfl | exact (M.B 3 rfl).at_ rfl | exact (M.B 4 rfl).at_ rfl | exact M.lc 0 rfl _ _ rfl | exact M.lc 1 rfl _ _ rfl | exact M.lc 2 rfl _ _ rfl | exact M.lc 3 rfl _ _ rfl | exact M.lc 4 rfl _ _ rfl | exact M.lc 5 rfl _ _ rfl | exact M.lc 6 rfl _ _ rfl | exact M.lc 7 rfl _ _ rfl) ?_
        refine cc is_rpb (refPutBytes_any _ _ _ t.val _ (M.rdb 5 rfl).2.2 (by omega)) ?_
        rintro e W ⟨A7, c7, rfl, o7, hb⟩
        replace M := M.callO hb o7
        refine ⟨_, rfl, ?_⟩
        refine s_appB M rfl rfl (M.rdb 0 rfl).2.2 (by omega) ?_
        clear M; rintro A8 c8 W M -
        clear o7 hb
        have e : ([b8 (t.kind % 256)] ++ [0] : List UInt8).set 1 (b8 1) ++ putB t.val = P := by rw [hP]; rfl
        rw [e] at M
        have hl : 1 + 1 + ((putN t.val.length).length + t.val.length) = P.length := by rw [hP, List.length_cons, List.length_cons, putB_lenE]; omega
        rw [hl] at M
        exact ⟨(A8, c8), M.fsub _ (by simp), ⟨rfl, (by show Value.slice A8 (1 + 1 + ((putN t.val.length).length + t.val.length)) c8 = _; rw [hl]), trivial⟩⟩
      | false =>
        rw [hh, if_neg (by simp)] at hP
        have e : ([b8 (t.kind % 256)] ++ [0] : List UInt8) = P := by rw [hP]; rfl
        have hl : P.length = 2 := by rw [hP]; rfl
        rw [e] at M
        exact ⟨(A8, c8), by dsimp only; rw [hl]; exact M.fsub _ (by simp), ⟨rfl, (by show Value.slice A8 (1 + 1) c8 = _; rw [hl]), trivial⟩⟩
    · clear M
      rintro ⟨A0, c0⟩ B0 W0 M
      dsimp only at M
      refine v_loadN (ncs t Ap cp Av cv Ak ck Ah ch) agg_nd rfl rfl (M.run 0 rfl) ?_
      refine cc is_rkids (rkids_any t (by omega) _ _ _ (M.da 0 rfl) M.olt) ?_
      rintro e W ⟨A2, n2, c2, B2, d2, rfl, r9, o9, hb⟩
      replace M := M.callO hb o9
      clear r9 o9 hb
      refine ⟨_, rfl, ?_⟩
      refine s_appB M rfl rfl (M.rdb 0 rfl).2.2 (by omega) ?_
      clear M; rintro A3 c3 W M -
      exact ⟨A3, _, c3, rfl, M.row _ (List.mem_cons_self ..), M.below⟩
  have hk3 : ¬ t.kind = 3 := hk3
  refine p_eq rfl rfl (fun hk4 => ?_) (fun hk4 => ?_)
  · have hk4 : t.kind = 4 := hk4
    rw [if_pos hk4]
    refine p_fld fN5 rfl ?_
    refine v_load agg_b rfl (by first | exact (M.B 0 rfl).at_ rfl | exact (M.B 1 rfl).at_ rfl | exact (M.B 2 rfl).at_ rfl | exact (M.B 3 rfl).at_ rfl | exact (M.B 4 rfl).at_ rfl | exact M.lc 0 rfl _ _ rfl | exact M.lc 1 rfl _ _ rfl | exact M.lc 2 rfl _ _ rfl | exact M.lc 3 rfl _ _ rfl | exact M.lc 4 rfl _ _ rfl | exact M.lc 5 rfl _ _ rfl | exact M.lc 6 rfl _ _ rfl | exact M.lc 7 rfl _ _ rfl) ?_
    refine s_appB M rfl rfl (M.rdb 2 rfl).2.2 (by omega) ?_
    clear M; rintro A3 c3 W M -
    rw [show [b8 (t.kind % 256)] ++ t.hash = 4 :: t.hash by rw [hk4]; rfl] at M
    exact ⟨A3, _, c3, rfl, M.row _ (List.mem_cons_self ..), M.below⟩
  have hk4 : ¬ t.kind = 4 := hk4
  rw [if_neg hk4]
  unfold encF
  rw [if_neg hk1, if_neg hk2, if_neg hk3]
  exact ⟨_, 1, _, rfl, M.row _ (List.mem_cons_self ..), M.below⟩
end Go.Proofs.Ytliccofjlheceaa
namespace Go.Proofs.Ytliccofjlheceaa
open Go.RowKit
theorem is_rcnt : isFn Try.prog 31 = true := by kernel_rfl
def RCntOk (t : Nd) : Prop := ∀ (gs : List (Option Nat)) (w : World) (cs : List Value), RdL w (Fd w gs) (dN t) cs → (∀ b, some b ∈ gs → b < w.heap.size) →
  Calls Try.prog 31 #[.agg cs.toArray] w fun e w' => e = .returned (.tuple #[.int .i64 ((cntP t).1 : Nat), .int .i64 ((cntP t).2 : Nat)]) ∧ Below w.heap.size w w'
set_option maxRecDepth 100000 in
set_option maxHeartbeats 2000000 in
theorem rcnt_step (N : Nat) (ih : ∀ k : Nd, sz k < N → RCntOk k) (t : Nd) (ht : sz t ≤ N) (hN : N ≤ 1000000000000) : RCntOk t := by
  intro gs w cs hr hgs
  refine calls_ev (args := [.agg cs.toArray]) mixed Try.func31 rfl (by kernel_rfl) ?_
  have hsz := sz_eq t
  obtain ⟨Ap, cp, Av, cv, Ak, ck, Ah, ch, rfl, -, -, r4, -⟩ := hr.node
  have M := (St.start hgs).addD r4
  clear hr r4
  have hcq := cntP_eq t
  have hcz := cntsP_sz t.kids
  have hsl := szs_len t.kids
  obtain ⟨a0, ha0⟩ : ∃ a0, a0 = (if t.kind = 0 then 0 else 1) := ⟨_, rfl⟩
  obtain ⟨s0, hs0⟩ : ∃ s0, s0 = (if t.kind = 4 then 1 else 0) := ⟨_, rfl⟩
  have ha1 : a0 ≤ 1 := by rw [ha0]; split <;> omega
  have hs1 : s0 ≤ 1 := by rw [hs0]; split <;> omega
  rw [← ha0, ← hs0] at hcq
  refine s_box (ncs t Ap cp Av cv Ak ck Ah ch) M rfl ?_
  clear M
  rintro g1 W M
  refine p_fld fN0 rfl ?_
  refine v_load agg_int rfl ((M.B 0 rfl).at_ rfl) ?_
  refine p_ne rfl rfl (fun h0 => ?_) (fun h0 => ?_)
  · have ha : a0 = 0 := by rw [ha0]; exact if_pos h0
    subst ha
    refine p_fld fN0 rfl ?_
    refine v_load agg_int rfl ((M.B 0 rfl).at_ rfl) ?_
    refine p_eq rfl rfl (fun h4 => ?_) (fun h4 => ?_)
    · rw [h0] at h4; exact absurd h4 (by decide)
    · have hs : s0 = 0 := by rw [hs0]; exact if_neg h4
      subst hs
      refine lp Nat (fun i W => i ≤ t.kids.length ∧ St w gs W [(g1, 38, ncs t Ap cp Av cv Ak ck Ah ch)] [] [.dat false [dKs t.kids] [.slice Ak t.kids.length ck]])
        (fun i => [(1, .pointer (some ⟨g1, 0, none⟩)), (4, .int .i64 (0 + (cntsP (t.kids.take i)).1 : Nat)), (5, .int .i64 (0 + (cntsP (t.kids.take i)).2 : Nat)), (6, .int .i64 (i : Nat))]) (fun i => t.kids.length - i) 0 ⟨Nat.zero_le _, M⟩ (by repeat (first | exact trivial | refine ⟨rfl, ?_⟩)) ?_
      clear M
      rintro i E W ⟨hi, M⟩
      refine p_fld fN4 rfl ?_
      refine v_load agg_ns rfl ((M.B 0 rfl).at_ rfl) ?_
      refine p_len sln rfl ?_
      refine p_lt rfl rfl (fun hlt => ?_) (fun hge => ?_)
      · obtain ⟨k, hki⟩ : ∃ k, t.kids[i]? = some k := ⟨_, List.getElem?_eq_getElem (by omega)⟩
        have hki1 := List.getElem?_eq_some_iff.1 hki
        have hkz := szs_mem (List.mem_of_getElem? hki)
        have htk1 : t.kids.take (i + 1) = t.kids.take i ++ [k] := by rw [List.take_succ_eq_append_getElem hki1.1, hki1.2]
        have hcs := cntsP_snoc (t.kids.take i) k
        rw [← htk1] at hcs
        have hcz1 := cntsP_sz (t.kids.take i)
        have hcz2 := cntP_sz k
        have hsp : szs (t.kids.take i) + sz k ≤ szs t.kids := by
          have e : t.kids = t.kids.take (i + 1) ++ t.kids.drop (i + 1) := (List.take_append_drop ..).symm
          have h := congrArg szs e
          rw [htk1, szs_appC, szs_appC, szs, szs] at h
          omega
        obtain ⟨b, off, es, e0, hel, M'⟩ := M.kid (M.d1 0 rfl) hki
        replace M := M'; clear M'
        refine p_fld fN4 rfl ?_
        refine v_load agg_ns rfl ((M.B 0 rfl).at_ rfl) ?_
        refine p_at sln (by show (Value.slice Ak t.kids.length ck) = _; rw [e0]) rfl rfl (by omega) ?_
        refine v_loadN es agg_nd rfl hel (M.lc 0 rfl) ?_
        refine cc is_rcnt (ih k (by omega) _ _ es (M.da 1 rfl) M.olt) ?_
        rintro e W ⟨rfl, hb⟩
        replace M := M.call hb
        clear hb
        refine ⟨_, rfl, ?_⟩
        refine p_addN (b := (cntP k).1) rfl rfl (by omega) ?_
        refine p_addN (b := (cntP k).2) rfl rfl (by omega) ?_
        refine p_addN (b := 1) rfl rfl (by omega) ?_
        refine ⟨i + 1, ⟨by omega, M.fsub _ (by simp)⟩, ?_, by omega⟩
        rw [hcs]
        dsimp only
        rw [← Nat.add_assoc, ← Nat.add_assoc]
        exact (by repeat (first | exact trivial | refine ⟨rfl, ?_⟩))
      · have hin : i = t.kids.length := by omega
        subst hin
        rw [List.take_length]
        refine ⟨?_, M.below⟩
        rw [hcq]; rfl
  · have ha : a0 = 1 := by rw [ha0]; exact if_neg h0
    subst ha
    refine p_fld fN0 rfl ?_
    refine v_load agg_int rfl ((M.B 0 rfl).at_ rfl) ?_
    refine p_eq rfl rfl (fun h4 => ?_) (fun h4 => ?_)
    · have hs : s0 = 1 := by rw [hs0]; exact if_pos h4
      subst hs
      refine lp Nat (fun i W => i ≤ t.kids.length ∧ St w gs W [(g1, 38, ncs t Ap cp Av cv Ak ck Ah ch)] [] [.dat false [dKs t.kids] [.slice Ak t.kids.length ck]])
        (fun i => [(1, .pointer (some ⟨g1, 0, none⟩)), (4, .int .i64 (1 + (cntsP (t.kids.take i)).1 : Nat)), (5, .int .i64 (1 + (cntsP (t.kids.take i)).2 : Nat)), (6, .int .i64 (i : Nat))]) (fun i => t.kids.length - i) 0 ⟨Nat.zero_le _, M⟩ (by repeat (first | exact trivial | refine ⟨rfl, ?_⟩)) ?_
      clear M
      rintro i E W ⟨hi, M⟩
      refine p_fld fN4 rfl ?_
      refine v_load agg_ns rfl ((M.B 0 rfl).at_ rfl) ?_
      refine p_len sln rfl ?_
      refine p_lt rfl rfl (fun hlt => ?_) (fun hge => ?_)
      · obtain ⟨k, hki⟩ : ∃ k, t.kids[i]? = some k := ⟨_, List.getElem?_eq_getElem (by omega)⟩
        have hki1 := List.getElem?_eq_some_iff.1 hki
        have hkz := szs_mem (List.mem_of_getElem? hki)
        have htk1 : t.kids.take (i + 1) = t.kids.take i ++ [k] := by rw [List.take_succ_eq_append_getElem hki1.1, hki1.2]
        have hcs := cntsP_snoc (t.kids.take i) k
        rw [← htk1] at hcs
        have hcz1 := cntsP_sz (t.kids.take i)
        have hcz2 := cntP_sz k
        have hsp : szs (t.kids.take i) + sz k ≤ szs t.kids := by
          have e : t.kids = t.kids.take (i + 1) ++ t.kids.drop (i + 1) := (List.take_append_drop ..).symm
          have h := congrArg szs e
          rw [htk1, szs_appC, szs_appC, szs, szs] at h
          omega
        obtain ⟨b, off, es, e0, hel, M'⟩ := M.kid (M.d1 0 rfl) hki
        replace M := M'; clear M'
        refine p_fld fN4 rfl ?_
        refine v_load agg_ns rfl ((M.B 0 rfl).at_ rfl) ?_
        refine p_at sln (by show (Value.slice Ak t.kids.length ck) = _; rw [e0]) rfl rfl (by omega) ?_
        refine v_loadN es agg_nd rfl hel (M.lc 0 rfl) ?_
        refine cc is_rcnt (ih k (by omega) _ _ es (M.da 1 rfl) M.olt) ?_
        rintro e W ⟨rfl, hb⟩
        replace M := M.call hb
        clear hb
        refine ⟨_, rfl, ?_⟩
        refine p_addN (b := (cntP k).1) rfl rfl (by omega) ?_
        refine p_addN (b := (cntP k).2) rfl rfl (by omega) ?_
        refine p_addN (b := 1) rfl rfl (by omega) ?_
        refine ⟨i + 1, ⟨by omega, M.fsub _ (by simp)⟩, ?_, by omega⟩
        rw [hcs]
        dsimp only
        rw [← Nat.add_assoc, ← Nat.add_assoc]
        exact (by repeat (first | exact trivial | refine ⟨rfl, ?_⟩))
      · have hin : i = t.kids.length := by omega
        subst hin
        rw [List.take_length]
        refine ⟨?_, M.below⟩
        rw [hcq]; rfl
    · have hs : s0 = 0 := by rw [hs0]; exact if_neg h4
      subst hs
      refine lp Nat (fun i W => i ≤ t.kids.length ∧ St w gs W [(g1, 38, ncs t Ap cp Av cv Ak ck Ah ch)] [] [.dat false [dKs t.kids] [.slice Ak t.kids.length ck]])
        (fun i => [(1, .pointer (some ⟨g1, 0, none⟩)), (4, .int .i64 (1 + (cntsP (t.kids.take i)).1 : Nat)), (5, .int .i64 (0 + (cntsP (t.kids.take i)).2 : Nat)), (6, .int .i64 (i : Nat))]) (fun i => t.kids.length - i) 0 ⟨Nat.zero_le _, M⟩ (by repeat (first | exact trivial | refine ⟨rfl, ?_⟩)) ?_
      clear M
      rintro i E W ⟨hi, M⟩
      refine p_fld fN4 rfl ?_
      refine v_load agg_ns rfl ((M.B 0 rfl).at_ rfl) ?_
      refine p_len sln rfl ?_
      refine p_lt rfl rfl (fun hlt => ?_) (fun hge => ?_)
      · obtain ⟨k, hki⟩ : ∃ k, t.kids[i]? = some k := ⟨_, List.getElem?_eq_getElem (by omega)⟩
        have hki1 := List.getElem?_eq_some_iff.1 hki
        have hkz := szs_mem (List.mem_of_getElem? hki)
        have htk1 : t.kids.take (i + 1) = t.kids.take i ++ [k] := by rw [List.take_succ_eq_append_getElem hki1.1, hki1.2]
        have hcs := cntsP_snoc (t.kids.take i) k
        rw [← htk1] at hcs
        have hcz1 := cntsP_sz (t.kids.take i)
        have hcz2 := cntP_sz k
        have hsp : szs (t.kids.take i) + sz k ≤ szs t.kids := by
          have e : t.kids = t.kids.take (i + 1) ++ t.kids.drop (i + 1) := (List.take_append_drop ..).symm
          have h := congrArg szs e
          rw [htk1, szs_appC, szs_appC, szs, szs] at h
          omega
        obtain ⟨b, off, es, e0, hel, M'⟩ := M.kid (M.d1 0 rfl) hki
        replace M := M'; clear M'
        refine p_fld fN4 rfl ?_
        refine v_load agg_ns rfl ((M.B 0 rfl).at_ rfl) ?_
        refine p_at sln (by show (Value.slice Ak t.kids.length ck) = _; rw [e0]) rfl rfl (by omega) ?_
        refine v_loadN es agg_nd rfl hel (M.lc 0 rfl) ?_
        refine cc is_rcnt (ih k (by omega) _ _ es (M.da 1 rfl) M.olt) ?_
        rintro e W ⟨rfl, hb⟩
        replace M := M.call hb
        clear hb
        refine ⟨_, rfl, ?_⟩
        refine p_addN (b := (cntP k).1) rfl rfl (by omega) ?_
        refine p_addN (b := (cntP k).2) rfl rfl (by omega) ?_
        refine p_addN (b := 1) rfl rfl (by omega) ?_
        refine ⟨i + 1, ⟨by omega, M.fsub _ (by simp)⟩, ?_, by omega⟩
        rw [hcs]
        dsimp only
        rw [← Nat.add_assoc, ← Nat.add_assoc]
        exact (by repeat (first | exact trivial | refine ⟨rfl, ?_⟩))
      · have hin : i = t.kids.length := by omega
        subst hin
        rw [List.take_length]
        refine ⟨?_, M.below⟩
        rw [hcq]; rfl
theorem rcnt_any : ∀ (N : Nat), N ≤ 1000000000000 → ∀ t : Nd, sz t < N → RCntOk t
  | 0, _, t, h => by omega
  | N + 1, hN, t, h => rcnt_step N (fun k hk => rcnt_any N (by omega) k hk) t (by omega) (by omega)
end Go.Proofs.Ytliccofjlheceaa
