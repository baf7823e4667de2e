/- Package pack: Pack, Size, Unpack. law11: known, much. The walk of the law PackBack. The walk of the law PackCut. How many nodes of what is opened. PackTwins, plainly: a trie whose keys all begin alike; two such halves under one branch. PackTwins, plainly: how much is sent. Reference 10: At, Shut, below, Agrees. Reference 10: Shut, put, Open. Reference 10: on, Only, of ways that the caller still owns. Reference 07: Count. The walk of the law PackShort. -/
import Derived.Test.YtliccofjlheceaaG18
import Derived.Test.YtliccofjlheceaaG13
import Derived.Test.YtliccofjlheceaaG08
import Derived.Test.YtliccofjlheceaaG14
import Derived.Test.YtliccofjlheceaaG07
import Derived.Test.YtliccofjlheceaaG11
import Derived.Test.YtliccofjlheceaaG09
namespace Go.Proofs.Ytliccofjlheceaa
open Go.RowKit
theorem is_pPack : isFn Try.prog 20 = true := by kernel_rfl
theorem is_pSize : isFn Try.prog 22 = true := by kernel_rfl
theorem is_pUnpack : isFn Try.prog 23 = true := by kernel_rfl
theorem pl_rdr : placesOf Try.prog 87 = some [(0, 1), (1, 1), (2, 1), (3, 1)] := by kernel_rfl
theorem z_rdr : zeroOf Try.prog 87 = some (rc none 0 0 none 0 0 0 0) := by kernel_rfl
theorem check_valK {t : Nd} (h : checkE t = 0) : Val true t 0 := by
  unfold checkE at h
  split at h
  · rename_i h'; exact val_of_right true _ t 0 (Nat.lt_succ_self _) h'
  · cases h
theorem val_sm {even : Bool} {t : Nd} {d : Nat} (h : Val even t d) : smP 4432 t := by
  induction h with
  | none => exact sm_none _
  | leaf d p v hd hp hv he =>
    have := endsP_le he
    rw [smP, smsP]
    exact ⟨by rw [List.length_nil]; omega, by simp, fun h => absurd h (by decide), trivial⟩
  | stub d h hd hh =>
    rw [smP, smsP]
    exact ⟨by simp; omega, by simp, fun h => absurd h (by decide), trivial⟩
  | way d p k hd hp h0 hk hr ih =>
    have := hr.le
    rw [smP, smsP, smsP]
    exact ⟨by simp; omega, by simp, fun h => absurd h (by decide), ih, trivial⟩
  | branch d has v ks hd hv hv0 he h16 hr hm ih =>
    rw [smP]
    exact ⟨by simp; omega, by omega, fun h => absurd h (by decide), sms_all.2 ih⟩
theorem val_szc {even : Bool} {t : Nd} {d : Nat} (h : Val even t d) (hc : (cntP t).1 ≤ 5000) : sz t ≤ 22670006 := by
  have h1 := sm_sz 4432 t (val_sm h)
  have : (102 + 4432) * (cntP t).1 ≤ 4534 * 5000 := Nat.mul_le_mul (Nat.le_refl _) hc
  omega
theorem packP_len (t : Nd) : (packP t).1.length ≤ 113350030 := by
  unfold packP
  split
  · simp
  · rename_i h
    split
    · simp
    · rename_i hc
      have hv : Val true t 0 := check_valK (by omega)
      have hz := val_szc hv (by omega)
      have := sd_size t [] (by rw [List.length_nil]; omega)
      dsimp only
      omega
set_option maxRecDepth 100000 in
set_option maxHeartbeats 4000000 in
theorem ppack_any (t : Nd) (ht : sz t ≤ 999999999999) (gs : List (Option Nat)) (w : World) (cs : List Value) (hr : RdL w (Fd w gs) (dN t) cs) (hgs : ∀ b, some b ∈ gs → b < w.heap.size) :
    Calls Try.prog 20 #[.agg cs.toArray] w fun e w' => ∃ A n c, e = .returned (.tuple #[.slice A n c, .int .i64 (packP t).2]) ∧ Own w' w.heap.size A n c (packP t).1 ∧ Below w.heap.size w w' := by
  refine calls_ev (args := [.agg cs.toArray]) mixed Try.func20 rfl (by kernel_rfl) ?_
  have hcl := hr.len
  rw [dN_len] at hcl
  have hone := hr.ones (dN_one _)
  have M := (St.start hgs).addL hr
  clear hr
  refine s_box (cs) M rfl ?_
  clear M
  rintro g1 W M
  unfold packP
  refine v_loadN cs agg_nd rfl hcl (M.run 0 rfl) ?_
  refine cc is_ncheck (ncheck_any t ht _ _ _ (M.da 0 rfl) M.olt) ?_
  rintro e W ⟨rfl, hb⟩
  replace M := M.call hb
  clear hb
  refine ⟨_, rfl, ?_⟩
  refine p_ne rfl rfl (fun h0 => ?_) (fun h0 => ?_)
  rotate_left
  · rw [if_pos (show checkE t ≠ 0 from h0)]
    exact ⟨none, 0, 0, rfl, World.ownsRow_nil _ _ _ _, M.below⟩
  have h0 : checkE t = 0 := h0
  rw [if_neg (fun h => h h0)]
  have hv := check_valK h0
  refine v_loadN cs agg_nd rfl hcl (M.run 0 rfl) ?_
  refine cc is_pcnt (ncount_any t (by omega) _ _ cs (M.da 0 rfl) M.olt) ?_
  rintro e W ⟨rfl, hb⟩
  replace M := M.call hb
  clear hb
  refine ⟨_, rfl, ?_⟩
  refine p_gt rfl rfl (fun hc => ?_) (fun hc => ?_)
  · have hc : (5000 : Int) < (((cntP t).1 : Nat) : Int) := hc
    rw [if_pos (by omega)]
    exact ⟨none, 0, 0, rfl, World.ownsRow_nil _ _ _ _, M.below⟩
  have hc : ¬ (5000 : Int) < (((cntP t).1 : Nat) : Int) := hc
  rw [if_neg (by omega)]
  have hz := val_szc hv (by omega)
  refine s_alloc ([.slice none 0 0, .slice none 0 0]) M (by kernel_rfl) ?_
  clear M
  rintro g7 W M
  refine v_loadN cs agg_nd rfl hcl (M.run 1 rfl) ?_
  replace M := (((M.nilR 38 6).nilR 5 1).addT (fr := false) (ds := dNs []) (cs := []) RdL.nil_)
  refine cc is_snode (snd_any 100000000 (Nat.le_refl _) t (by omega) _ 0 w _ gs g7 none 0 0 none 0 0 [] [] [] _ [] _ cs hv M (M.da 1 rfl) (by rw [List.length_nil]; omega) (by rw [List.length_nil]; omega) (fun x hx => by cases hx)) ?_
  clear M
  rintro e W ⟨⟨v, rfl⟩, Ao, co, Ad, nd, cd, xs, M⟩
  refine ⟨_, rfl, ?_⟩
  rw [List.nil_append] at M
  refine p_fld fsd0 rfl ?_
  refine v_load agg_b rfl ((M.B 0 rfl).at_ rfl) ?_
  exact ⟨Ao, _, co, rfl, M.row _ (List.mem_cons_self ..), M.below⟩
set_option maxRecDepth 100000 in
set_option maxHeartbeats 1000000 in
theorem psize_any (t : Nd) (ht : sz t ≤ 999999999999) (gs : List (Option Nat)) (w : World) (cs : List Value) (hr : RdL w (Fd w gs) (dN t) cs) (hgs : ∀ b, some b ∈ gs → b < w.heap.size) :
    Calls Try.prog 22 #[.agg cs.toArray] w fun e w' => e = .returned (.int .i64 ((packP t).1.length : Nat)) ∧ Below w.heap.size w w' := by
  refine calls_ev (args := [.agg cs.toArray]) mixed Try.func22 rfl (by kernel_rfl) ?_
  have hcl := hr.len
  rw [dN_len] at hcl
  have hone := hr.ones (dN_one _)
  have M := (St.start hgs).addL hr
  clear hr
  refine s_box (cs) M rfl ?_
  clear M
  rintro g1 W M
  refine v_loadN cs agg_nd rfl hcl (M.run 0 rfl) ?_
  refine cc is_pPack (ppack_any t ht _ _ cs (M.da 0 rfl) M.olt) ?_
  rintro e W ⟨A, n, c, rfl, o, hb⟩
  have el := o.len
  replace M := M.call hb
  refine ⟨_, rfl, ?_⟩
  refine p_len slb rfl ?_
  exact ⟨by rw [el]; rfl, M.below⟩
set_option maxRecDepth 100000 in
set_option maxHeartbeats 4000000 in
theorem punpack_any (b : List UInt8) (gs : List (Option Nat)) (w : World) (A : Option Addr) (n c : Nat) (h : RdD w (Fd w gs) (dB b) (.slice A n c)) (hgs : ∀ b, some b ∈ gs → b < w.heap.size) (hn : n ≤ 1000000000) :
    Calls Try.prog 23 #[.slice A n c] w fun e w' => ∃ cs, e = .returned (.tuple #[.agg cs.toArray, .int .i64 (unpP b).2]) ∧ RdL w' (Fr w w') (dN (unpP b).1) cs ∧ Below w.heap.size w w' := by
  refine calls_ev (args := [.slice A n c]) mixed Try.func23 rfl (by kernel_rfl) ?_
  have en := h.slen
  have M := (St.start hgs).addD h
  clear h
  refine s_alloc (zN) M al_nd ?_
  clear M
  rintro g2 W M
  unfold unpP
  refine p_len slb rfl ?_
  refine p_gt rfl rfl (fun hl => ?_) (fun hl => ?_)
  · have hl : (1048576 : Int) < (n : Int) := hl
    rw [if_pos (by omega)]
    refine p_build (vs := zN) pl_nd z_nd rfl ?_
    refine s_storeA 0 zN M rfl sz_nd rfl rfl rfl (all1 rfl) rfl ?_
    clear M; rintro W M
    dsimp only [setL] at M
    refine c_loadN zN agg_nd rfl rfl (M.run 0 rfl) ?_
    exact ⟨zN, rfl, RdL.znone, M.below⟩
  have hl : ¬ (1048576 : Int) < (n : Int) := hl
  rw [if_neg (by omega)]
  refine p_build (vs := rc A n c none 0 0 5000 0) pl_rdr z_rdr rfl ?_
  refine s_box (rc A n c none 0 0 5000 0) M rfl ?_
  clear M
  rintro g4 W M
  replace M := (M.nilR 38 6).addT (fr := false) (ds := dNs []) (cs := []) RdL.nil_
  have hsz := one_sz (B := 3 * b.length + 32) 403 b [] 5000 (by decide) (by decide) (fun x hx => by cases hx) (Nat.le_refl _)
  refine cc is_pnode (rn_any 403 (3 * b.length + 32) 0 rfl (by omega) w _ gs g4 A n c none 0 0 5000 b [] [] _ [] [.dat false [dB b] [.slice A n c]] (by decide) (by decide) (fun x hx => by cases hx) (Nat.le_refl _) (by rw [List.length_nil]; omega) (M.fsub _ (by simp))) ?_
  clear M
  rintro e W ⟨cs, tn, A1, n1, c1, Ad, nd, cd, xs, b1, done1, left1, e1, rfl, M, hP⟩
  refine ⟨_, rfl, ?_⟩
  have hcl := (M.da 0 rfl).len
  rw [dN_len] at hcl
  have en1 := (M.d1 2 rfl).slen
  refine s_alloc (zN) M al_nd ?_
  clear M
  rintro g5 W M
  refine s_storeA 0 cs M rfl sz_nd rfl rfl hcl ((M.da 0 rfl).ones (dN_one _)) rfl ?_
  clear M; rintro W M
  dsimp only [setL] at M
  refine p_nil rfl ?_
  refine p_fld fp3 rfl ?_
  refine v_load agg_errP rfl ((M.B 1 rfl).at_ rfl) ?_
  cases hr : oneF 403 b [] 5000 with
  | bad x =>
    rw [hr] at hP hsz
    obtain ⟨p1, p2, p3, p4, p5, p6⟩ := hP
    have hx0 : x ≠ 0 := by rcases hsz with h | h <;> rw [h] <;> decide
    subst p1
    dsimp only
    refine p_ne rfl rfl (fun h => absurd h hx0) (fun _ => ?_)
    replace M := M.drew
    refine drT (Kp w gs [(g4, 87, rc A1 n1 c1 Ad nd cd left1 e1)] []) (.take 0 (.take 1 (.take 2 (.take 3 (.take 4 (.one 5 (.take 6 (.nil)))))))) (by kernel_rfl) (M.kp (by simp) (by simp)) ?_
    refine p_build (vs := zN) pl_nd z_nd rfl ?_
    refine p_nil rfl ?_
    refine p_fld fp3 rfl ?_
    refine t_load agg_errP rfl (fun W K => (K.B 0 rfl).at_ rfl) ?_
    refine s_storeA 2 zN M rfl sz_nd rfl rfl rfl (all1 rfl) rfl ?_
    clear M; rintro W M
    dsimp only [setL] at M
    refine ⟨(M.kp (by simp) (by simp)), ?_⟩
    refine c_loadN zN agg_nd rfl rfl (M.run 2 rfl) ?_
    exact ⟨zN, rfl, RdL.znone, M.below⟩
  | got nn b2 d2 l2 =>
    rw [hr] at hP hsz
    obtain ⟨p1, p2, p3, p4, p5⟩ := hP
    obtain ⟨s1, s2, s3, s4, s5, s6⟩ := hsz
    subst p1; subst p2; subst p3; subst p4; subst p5
    dsimp only
    refine p_ne rfl rfl (fun _ => ?_) (fun h => absurd rfl h)
    refine p_nil rfl ?_
    refine p_fld fp0 rfl ?_
    refine v_load agg_b rfl ((M.B 1 rfl).at_ rfl) ?_
    refine p_len slb rfl ?_
    refine p_gt rfl rfl (fun hg => ?_) (fun hg => ?_)
    · have hg : (0 : Int) < (n1 : Int) := hg
      rw [if_pos (.inl (by omega))]
      refine p_build (vs := zN) pl_nd z_nd rfl ?_
      refine s_storeA 2 zN M rfl sz_nd rfl rfl rfl (all1 rfl) rfl ?_
      clear M; rintro W M
      dsimp only [setL] at M
      refine c_loadN zN agg_nd rfl rfl (M.run 2 rfl) ?_
      exact ⟨zN, rfl, RdL.znone, M.below⟩
    have hg : ¬ (0 : Int) < (n1 : Int) := hg
    have hzn : sz tn ≤ 999999999999 := by
      have h1 := sm_sz _ tn s1.1
      have : (102 + (3 * b.length + 32)) * (cntP tn).1 ≤ 3145862 * 5000 := Nat.mul_le_mul (by omega) s1.2
      omega
    refine v_loadN cs agg_nd rfl hcl (M.run 0 rfl) ?_
    refine cc is_pPack (ppack_any tn hzn _ _ cs (M.da 0 rfl) M.olt) ?_
    rintro e W ⟨A6, n6, c6, rfl, o6, hb⟩
    replace M := M.callO hb o6
    clear o6 hb
    refine ⟨_, rfl, ?_⟩
    obtain ⟨E, hE⟩ : ∃ E, E = packP tn := ⟨_, rfl⟩
    rw [← hE] at M ⊢
    obtain ⟨eb, ee⟩ := E
    dsimp only at M ⊢
    have hno : ∀ q : (eb, ee) ≠ (b, 0), (if 0 < b1.length ∨ (eb, ee) ≠ (b, 0) then (noneN, (11 : Int)) else (tn, 0)) = (noneN, 11) := fun q => if_pos (.inr q)
    refine p_ne rfl rfl (fun he0 => ?_) (fun he0 => ?_)
    rotate_left
    · rw [hno (fun h => he0 (congrArg Prod.snd h))]
      refine p_build (vs := zN) pl_nd z_nd rfl ?_
      refine s_storeA 2 zN M rfl sz_nd rfl rfl rfl (all1 rfl) rfl ?_
      clear M; rintro W M
      dsimp only [setL] at M
      refine c_loadN zN agg_nd rfl rfl (M.run 2 rfl) ?_
      exact ⟨zN, rfl, RdL.znone, M.below⟩
    have he0 : ee = 0 := he0
    subst he0
    refine cc is_beq (beq_any _ _ _ _ _ c _ _ eb b _ (M.rdb 0 rfl).2.2 (M.rdb 4 rfl).2.2) ?_
    rintro e W' ⟨rfl, rfl⟩
    refine ⟨_, rfl, ?_⟩
    refine p_not rfl ?_
    by_cases heq : eb = b
    rotate_left
    · rw [hno (fun h => heq (congrArg Prod.fst h)), decide_eq_false heq]
      refine p_build (vs := zN) pl_nd z_nd rfl ?_
      refine s_storeA 2 zN M rfl sz_nd rfl rfl rfl (all1 rfl) rfl ?_
      clear M; rintro W M
      dsimp only [setL] at M
      refine c_loadN zN agg_nd rfl rfl (M.run 2 rfl) ?_
      exact ⟨zN, rfl, RdL.znone, M.below⟩
    subst heq
    rw [decide_eq_true rfl, if_neg (fun h => h.elim (fun h => by omega) (fun h => h rfl))]
    have hv : Val true tn 0 ∧ (cntP tn).1 ≤ 5000 := by
      unfold packP at hE
      split at hE
      · rename_i h; injection hE with _ h2; exact absurd h2.symm h
      · rename_i h
        exact ⟨check_valK (by omega), s1.2⟩
    have hz2 := val_szc hv.1 hv.2
    refine v_loadN cs agg_nd rfl hcl (M.run 0 rfl) ?_
    refine cc is_ncopy (ncopy_any 100000000 (by decide) tn (by omega) _ _ cs (M.da 1 rfl) M.olt) ?_
    rintro e W ⟨csc, rfl, r9, hb⟩
    have hcc := r9.len
    rw [dN_len] at hcc
    replace M := M.callF hb r9
    clear r9 hb
    refine ⟨_, rfl, ?_⟩
    refine s_storeA 2 csc M rfl sz_nd rfl rfl hcc ((M.da 0 rfl).ones (dN_one _)) rfl ?_
    clear M; rintro W M
    dsimp only [setL] at M
    refine c_loadN csc agg_nd rfl hcc (M.run 2 rfl) ?_
    exact ⟨csc, rfl, M.finF 0 rfl, M.below⟩
end Go.Proofs.Ytliccofjlheceaa
namespace Go.Proofs.Ytliccofjlheceaa
open Go.RowKit

theorem is_kn11 : isFn Try.prog 19 = true := by kernel_rfl
/-- What packs is read back. -/
theorem packP_ok {t : Nd} (h : (packP t).2 = 0) : checkE t = 0 ∧ (cntP t).1 ≤ 5000 ∧ packP t = ((sdP t []).1, 0) := by
  unfold packP at h ⊢
  by_cases hc : checkE t ≠ 0
  · rw [if_pos hc] at h; exact absurd h hc
  · rw [if_neg hc] at h ⊢
    by_cases hn : 5000 < (cntP t).1
    · rw [if_pos hn] at h; cases h
    · rw [if_neg hn]; exact ⟨Classical.not_not.1 hc, by omega, rfl⟩
theorem unp_pack {t : Nd} (h : (packP t).2 = 0) (hs : sz t ≤ 200000) : unpP (packP t).1 = (t, 0) := by
  obtain ⟨h0, hc, he⟩ := packP_ok h
  rw [he]
  have hl := sd_size t [] (by rw [List.length_nil]; omega)
  have ho := one_rt (check_valK h0) 403 (by omega) [] 5000 [] (by omega) (by rw [List.length_nil]; omega)
  rw [List.append_nil] at ho
  unfold unpP
  dsimp only
  rw [if_neg (by omega), ho]
  dsimp only
  rw [if_neg (by rintro (h | h); · exact absurd h (by decide)
                 · exact h he)]
def lf11 : Nd := .mk 1 [1] false [118] [] []
def ks11 : List Nd := ((noneNs 16).set 0 lf11).set 2 lf11
def kt11 : Nd := .mk 3 [] false [] ks11 []
def kb11 : List UInt8 := [3, 0, 160, 0, 1, 1, 49, 1, 118, 5, 0]
set_option maxRecDepth 100000 in
theorem kt11_p : packP kt11 = (kb11, 0) := by decide +kernel
set_option maxRecDepth 100000 in
theorem kt11_z : sz kt11 ≤ 1000 := by decide +kernel
theorem kt11_u : unpP kb11 = (kt11, 0) := by
  have h := unp_pack (t := kt11) (by rw [kt11_p]) (by have := kt11_z; omega)
  rwa [kt11_p] at h
set_option maxRecDepth 100000 in
theorem kt11_b : (unpP [5, 0]).2 = 11 := by decide +kernel
set_option maxRecDepth 100000 in
set_option maxHeartbeats 4000000 in
theorem known11_any (gs : List (Option Nat)) (w : World) (hgs : ∀ b, some b ∈ gs → b < w.heap.size) : Calls Try.prog 19 #[] w fun e w' => e = .returned (.bool true) ∧ Below w.heap.size w w' := by
  refine calls_ev (args := []) mixed Try.func19 rfl (by kernel_rfl) ?_
  have M := St.start (w := w) (gs := gs) hgs
  refine s_bsliceB (bvs [118]) M slb (zs := [.int .u8 0]) (by kernel_rfl) rfl (by decide) rfl ?_
  clear M; rintro g1 W M
  refine s_cvtB [118] M rfl rfl (Nat.le_refl _) ?_
  clear M; rintro W M
  refine s_mkN M rfl rfl ?_
  clear M; rintro gk W M
  replace M := M.addT (fr := false) (ds := dNs (noneNs 16)) (cs := zNs 16) (RdL.znones 16)
  refine p_build (vs := ncs kt11 none 0 none 0 (some ⟨gk, 0, none⟩) 16 none 0) pl_nd z_nd rfl ?_
  refine s_alloc (zN) M al_nd ?_
  clear M
  rintro g2 W M
  refine s_storeA 0 (ncs kt11 none 0 none 0 (some ⟨gk, 0, none⟩) 16 none 0) M rfl sz_nd rfl rfl rfl (all1 rfl) rfl ?_
  clear M; rintro W M
  dsimp only [setL] at M
  -- the first leaf
  refine p_fld fN4 rfl ?_
  refine v_load agg_ns rfl ((M.B 0 rfl).at_ rfl) ?_
  refine s_bslice (bvs [1]) (fr := true) (ds := (bvs [1]).map D.v) M slb (zs := [.int .u8 0]) (by kernel_rfl) rfl (by decide) rfl (RdL.ofvals _) rfl ?_
  clear M; rintro g3 W M
  refine p_build (vs := ncs lf11 (some ⟨g3, 0, none⟩) 1 (some ⟨g1, 0, none⟩) 1 none 0 none 0) pl_nd z_nd rfl ?_
  refine p_atL (i := 0) (q := 0) sln rfl rfl rfl (by decide) (by decide) ?_
  have hxl := (M.dw 1 rfl).len
  refine s_storeP 1 (n := 6) (off := 0) (ncs lf11 (some ⟨g3, 0, none⟩) 1 (some ⟨g1, 0, none⟩) 1 none 0 none 0) _ M rfl sz_nd rfl rfl rfl (all1 rfl) (by rw [hxl, dNs_len]; decide) rfl ?_
  clear M; rintro W M
  dsimp only [setL] at M
  have hst := RdL.ofnode (t := lf11) (M.dw 0 rfl).hd (M.dw 2 rfl).hd (RdD.nil_ (s := 6) none 0) (RdD.nil_ (s := 1) none 0)
  have hX := M.dw 1 rfl
  have hX2 := ((hX.take 0).app hst).app (hX.drop 6)
  rw [show dNs (noneNs 16) = dNs (noneNs 16) from rfl] at hX2
  replace hX2 : RdL W _ ((dNs (noneNs 16)).take (0 * 6) ++ dN lf11 ++ (dNs (noneNs 16)).drop (0 * 6 + 6)) _ := hX2
  rw [← dNs_set lf11 (by decide)] at hX2
  replace M := M.addT (fr := false) hX2
  clear hX hX2 hst hxl
  -- the other leaf
  refine p_fld fN4 rfl ?_
  refine v_load agg_ns rfl ((M.B 0 rfl).at_ rfl) ?_
  refine s_bslice (bvs [1]) (fr := true) (ds := (bvs [1]).map D.v) M slb (zs := [.int .u8 0]) (by kernel_rfl) rfl (by decide) rfl (RdL.ofvals _) rfl ?_
  clear M; rintro g4 W M
  refine p_build (vs := ncs lf11 (some ⟨g4, 0, none⟩) 1 (some ⟨g1, 0, none⟩) 1 none 0 none 0) pl_nd z_nd rfl ?_
  refine p_atL (i := 2) (q := 12) sln rfl rfl rfl (by decide) (by decide) ?_
  have hxl := (M.dw 1 rfl).len
  refine s_storeP 1 (n := 6) (off := 12) (ncs lf11 (some ⟨g4, 0, none⟩) 1 (some ⟨g1, 0, none⟩) 1 none 0 none 0) _ M rfl sz_nd rfl rfl rfl (all1 rfl) (by rw [hxl, dNs_len]; decide) rfl ?_
  clear M; rintro W M
  dsimp only [setL] at M
  have hst := RdL.ofnode (t := lf11) (M.dw 0 rfl).hd (M.dw 4 rfl).hd (RdD.nil_ (s := 6) none 0) (RdD.nil_ (s := 1) none 0)
  have hX := M.dw 1 rfl
  have hX2 := ((hX.take 12).app hst).app (hX.drop 18)
  replace hX2 : RdL W _ ((dNs ((noneNs 16).set 0 lf11)).take (2 * 6) ++ dN lf11 ++ (dNs ((noneNs 16).set 0 lf11)).drop (2 * 6 + 6)) _ := hX2
  rw [← dNs_set lf11 (by decide)] at hX2
  replace M := (M.addT (fr := false) hX2).permL (List.Perm.swap ..)
  clear hX hX2 hst hxl
  replace M := M.frzB (fr := false) (s := 6) (n := 16) (c := 16) (M.dw 0 rfl) (by rw [dNs_len]; rfl) (Nat.le_refl _)
  replace M := M.addT (fr := false) (RdL.ofnode (t := kt11) (RdD.nil_ (s := 1) none 0) (RdD.nil_ (s := 1) none 0) (M.dw 0 rfl).hd (RdD.nil_ (s := 1) none 0))
  replace M := M.fsub [.dat false (dN kt11) (ncs kt11 none 0 none 0 (some ⟨gk, 0, none⟩) 16 none 0)] (by simp)
  have p1 := kt11_p
  have p2 := kt11_u
  have p3 := kt11_b
  have hz := kt11_z
  obtain ⟨t, ht⟩ : ∃ t, t = kt11 := ⟨_, rfl⟩
  rw [← ht] at M p1 p2 hz
  clear ht
  refine v_loadN (ncs t none 0 none 0 (some ⟨gk, 0, none⟩) 16 none 0) agg_nd rfl rfl (M.run 0 rfl) ?_
  refine cc is_pPack (ppack_any t (by omega) _ _ _ (M.da 0 rfl) M.olt) ?_
  rintro e W ⟨A2, n2, c2, he, o, hb⟩
  rw [p1] at he o
  subst he
  have hn : 11 = n2 := o.len
  subst hn
  replace M := M.callO hb o
  clear o hb
  refine ⟨_, rfl, ?_⟩
  refine cc is_pUnpack (punpack_any kb11 _ _ _ 11 c2 (M.d1 0 rfl) M.olt (by decide)) ?_
  rintro e W ⟨cs3, he, r3, hb⟩
  rw [p2] at he r3
  subst he
  dsimp only at r3
  obtain ⟨Ap, cp, Av, cv, Ak, ck, Ah, ch, rfl, -⟩ := id r3.node
  replace M := M.callF hb r3
  clear r3 hb
  refine ⟨_, rfl, ?_⟩
  refine s_alloc (zN) M al_nd ?_
  clear M
  rintro g5 W M
  first | refine s_storeA 0 (ncs t Ap cp Av cv Ak ck Ah ch) M rfl (by kernel_rfl) rfl rfl rfl (all1 rfl) rfl ?_ | refine s_storeA 1 (ncs t Ap cp Av cv Ak ck Ah ch) M rfl (by kernel_rfl) rfl rfl rfl (all1 rfl) rfl ?_ | refine s_storeA 2 (ncs t Ap cp Av cv Ak ck Ah ch) M rfl (by kernel_rfl) rfl rfl rfl (all1 rfl) rfl ?_ | refine s_storeA 3 (ncs t Ap cp Av cv Ak ck Ah ch) M rfl (by kernel_rfl) rfl rfl rfl (all1 rfl) rfl ?_
  clear M
  rintro W M
  dsimp only [setL] at M
  refine s_bslice (bvs [5, 0]) (fr := true) (ds := (bvs [5, 0]).map D.v) M slb (zs := [.int .u8 0]) (by kernel_rfl) rfl (by decide) rfl (RdL.ofvals _) rfl ?_
  clear M; rintro g6 W M
  refine cc is_pUnpack (punpack_any [5, 0] _ _ _ _ _ (M.d1 0 rfl) M.olt (by decide)) ?_
  rintro e W ⟨cs4, he, r4, hb⟩
  rw [p3] at he
  subst he
  have hc4 := r4.len
  rw [dN_len] at hc4
  replace M := M.callF hb r4
  clear r4 hb
  refine ⟨_, rfl, ?_⟩
  refine s_alloc (zN) M al_nd ?_
  clear M
  rintro g7 W M
  refine s_storeA 0 cs4 M rfl sz_nd rfl rfl hc4 ((M.da 0 rfl).ones (dN_one _)) rfl ?_
  clear M; rintro W M
  dsimp only [setL] at M
  refine s_bslice (bvs kb11) (fr := true) (ds := (bvs kb11).map D.v) M slb (zs := [.int .u8 0]) (by kernel_rfl) rfl (by decide) rfl (RdL.ofvals _) rfl ?_
  clear M; rintro g8 W M
  obtain ⟨q, hq, hc⟩ := same_tf (c1 := c2) (c2 := 11) (M.rdb (l := kb11) 4 rfl).2.2 (M.rdb (l := kb11) 0 rfl).2.2
  obtain rfl := hq.2 rfl
  refine cc is_same0 hc ?_
  rintro e W' ⟨rfl, rfl⟩
  refine ⟨_, rfl, ?_⟩
  clear hq hc
  refine p_eq rfl rfl (fun _ => ?_) (fun e => absurd rfl e)
  refine p_eq rfl rfl (fun _ => ?_) (fun e => absurd rfl e)
  refine v_loadN (ncs t Ap cp Av cv Ak ck Ah ch) agg_nd rfl rfl (M.run 1 rfl) ?_
  refine v_loadN (ncs t none 0 none 0 (some ⟨gk, 0, none⟩) 16 none 0) agg_nd rfl rfl (M.run 2 rfl) ?_
  refine cc is_r7same (rsame_any 2000000 (by decide) t (by omega) t _ _ (ncs t Ap cp Av cv Ak ck Ah ch) (ncs t none 0 none 0 (some ⟨gk, 0, none⟩) 16 none 0) (M.da 3 rfl) (M.da 5 rfl) M.olt (by omega)) ?_
  rintro e W ⟨q, rfl, hq, hb⟩
  obtain rfl := hq.2 rfl
  replace M := M.call hb
  clear hb hq
  refine ⟨_, rfl, ?_⟩
  refine p_eq rfl rfl (fun _ => ?_) (fun e => absurd rfl e)
  refine v_loadN (ncs t none 0 none 0 (some ⟨gk, 0, none⟩) 16 none 0) agg_nd rfl rfl (M.run 2 rfl) ?_
  refine cc is_pSize (psize_any t (by omega) _ _ _ (M.da 5 rfl) M.olt) ?_
  rintro e W ⟨he, hb⟩
  rw [p1] at he
  subst he
  replace M := M.call hb
  refine ⟨_, rfl, ?_⟩
  refine p_eq rfl rfl (fun _ => ?_) (fun e => absurd rfl e)
  exact ⟨rfl, M.below⟩
end Go.Proofs.Ytliccofjlheceaa
namespace Go.Proofs.Ytliccofjlheceaa
open Go.RowKit


theorem packP_ne {t : Nd} (h : (packP t).2 = 0) (hz : ([] : List Nd).length + sz t ≤ 1000000000000000000) : (packP t).1 ≠ [] := by
  intro e
  obtain ⟨h0, hc, he⟩ := packP_ok h
  have ho := one_rt (check_valK h0) 403 (by omega) [] 5000 [] (by omega) hz
  rw [he] at e
  dsimp only at e
  rw [e, List.append_nil, oneF_nil] at ho
  cases ho
end Go.Proofs.Ytliccofjlheceaa
namespace Go.Proofs.Ytliccofjlheceaa
open Go.RowKit
theorem cnt_ge (t : Nd) (h : t.kind ≠ 0) : 1 ≤ (cntP t).1 := by rw [cntP_eq, if_neg h]; dsimp only; omega
theorem val_check {t : Nd} (h : Val true t 0) : checkE t = 0 := by unfold checkE; rw [right_of_val h, if_pos rfl]
theorem pack_val {t : Nd} (h : Val true t 0) (hc : (cntP t).1 ≤ 5000) : packP t = ((sdP t []).1, 0) := by
  unfold packP
  rw [if_neg (fun e => e (val_check h)), if_neg (by omega)]
end Go.Proofs.Ytliccofjlheceaa
namespace Go.Proofs.Ytliccofjlheceaa
open Go.RowKit
/-- A trie, further down by a way. -/
def extN (p : List UInt8) (t : Nd) : Nd := if t.kind = 1 then .mk 1 (p ++ t.path) false t.val [] [] else if t.kind = 2 then .mk 2 (p ++ t.path) false [] t.kids [] else .mk 2 p false [] [t] []
theorem ext_leaf (p q v : List UInt8) : extN p (leafN q v) = leafN (p ++ q) v := by unfold extN; exact if_pos rfl
theorem ext_way (p q : List UInt8) (k : Nd) : extN p (.mk 2 q false [] [k] []) = .mk 2 (p ++ q) false [] [k] [] := by
  unfold extN
  exact (if_neg (fun e => absurd (show (2 : Int) = 1 from e) (by decide))).trans (if_pos rfl)
theorem ext_br {p : List UInt8} {t : Nd} (h : t.kind = 3) : extN p t = .mk 2 p false [] [t] [] := by
  unfold extN
  rw [if_neg (by rw [h]; decide), if_neg (by rw [h]; decide)]
theorem ext_kind {p : List UInt8} {t : Nd} : (extN p t).kind ≠ 0 := by
  unfold extN
  split
  · exact show (1 : Int) ≠ 0 by decide
  · split
    · exact show (2 : Int) ≠ 0 by decide
    · exact show (2 : Int) ≠ 0 by decide
theorem common_app (p a b : List UInt8) : commonB (p ++ a) (p ++ b) = p.length + commonB a b := by
  induction p with
  | nil => rw [List.nil_append, List.nil_append, List.length_nil, Nat.zero_add]
  | cons x p ih => rw [List.cons_append, List.cons_append, commonB, if_pos rfl, ih, List.length_cons]; omega
theorem drop_app (p a : List UInt8) (k : Nat) : (p ++ a).drop (p.length + k) = a.drop k := by rw [List.drop_append, List.drop_of_length_le (by omega), List.nil_append, Nat.add_sub_cancel_left]
theorem take_app (p a : List UInt8) (k : Nat) : (p ++ a).take (p.length + k) = p ++ a.take k := by rw [List.take_append, List.take_of_length_le (by omega), Nat.add_sub_cancel_left]
theorem getD_app (p a : List UInt8) (k : Nat) : (p ++ a).getD (p.length + k) 0 = a.getD k 0 := by
  rw [List.getD_eq_getElem?_getD, List.getD_eq_getElem?_getD, List.getElem?_append_right (by omega), Nat.add_sub_cancel_left]
theorem ext_along {p x : List UInt8} (h0 : p ≠ []) {t : Nd} (h : t.kind = 3) : alongN (p ++ x) t = extN p (alongN x t) := by
  unfold alongN
  rw [if_neg (fun e => h0 (List.append_eq_nil_iff.1 e).1)]
  by_cases hx : x = []
  · rw [if_pos hx, ext_br h, hx, List.append_nil]
  · rw [if_neg hx, ext_way]
theorem xfork_leaf {p : List UInt8} (h0 : p ≠ []) (a v q val : List UInt8) : forkN (.mk 1 (p ++ a) false v [] []) (p ++ q) val = extN p (forkN (.mk 1 a false v [] []) q val) := by
  unfold forkN
  have e1 : (Nd.mk 1 (p ++ a) false v [] []).path = p ++ a := rfl
  have e2 : (Nd.mk 1 a false v [] []).path = a := rfl
  have e3 : (Nd.mk 1 (p ++ a) false v [] []).kind = 1 := rfl
  have e4 : (Nd.mk 1 a false v [] []).kind = 1 := rfl
  simp only [e1, e2, e3, e4, if_true, common_app, drop_app, take_app]
  exact ext_along h0 rfl
theorem xfork_way {p : List UInt8} (h0 : p ≠ []) (a q val : List UInt8) (k : Nd) : forkN (.mk 2 (p ++ a) false [] [k] []) (p ++ q) val = extN p (forkN (.mk 2 a false [] [k] []) q val) := by
  unfold forkN
  have e1 : (Nd.mk 2 (p ++ a) false [] [k] []).path = p ++ a := rfl
  have e2 : (Nd.mk 2 a false [] [k] []).path = a := rfl
  have e3 : ¬ (Nd.mk 2 (p ++ a) false [] [k] []).kind = 1 := fun e => absurd (show (2 : Int) = 1 from e) (by decide)
  have e4 : ¬ (Nd.mk 2 a false [] [k] []).kind = 1 := fun e => absurd (show (2 : Int) = 1 from e) (by decide)
  simp only [e1, e2, if_neg e3, if_neg e4, common_app, drop_app, take_app, getD_app, Nat.add_assoc]
  exact ext_along h0 rfl
theorem ext_put {p : List UInt8} (h0 : p ≠ []) {t : Nd} {d : Nat} {even : Bool} (hv : Val even t d) (hs : sfB t = true) (hk : t.kind ≠ 0) (q val : List UInt8) : (putP (extN p t) (p ++ q) val).1 = extN p (putP t q val).1 := by
  cases hv with
  | none => exact absurd rfl hk
  | leaf _ a v hd hp hvl he =>
    rw [show Nd.mk 1 a false v [] [] = leafN a v from rfl, ext_leaf]
    unfold leafN
    rw [putP_leaf, putP_leaf]
    by_cases e : a = q
    · rw [if_pos e, if_pos (by rw [e]), ext_leaf]
    · rw [if_neg e, if_neg (fun h => e (List.append_cancel_left h))]
      exact xfork_leaf h0 a v q val
  | stub _ h hd hh => rw [sfB_mk] at hs; simp at hs
  | way _ a k hd hp ha hkk hr =>
    rw [ext_way]
    by_cases e : a <+: q
    · rw [putP_way e, putP_way ((List.prefix_append_right_inj p).2 e), ext_way]
      dsimp only
      rw [show (p ++ a).length = p.length + a.length from List.length_append, drop_app]
    · rw [putP_way0 e, putP_way0 (fun h => e ((List.prefix_append_right_inj p).1 h))]
      exact xfork_way h0 a q val k
  | branch _ has v ks hd hvl hv0 he h16 hr hm =>
    have hB : Val even (.mk 3 [] has v ks []) d := .branch _ has v ks hd hvl hv0 he h16 hr hm
    rw [ext_br rfl, putP_way (List.prefix_append p q), List.drop_left, ext_br ((put_kind0 hB q val).2 rfl)]
/-- Two halves alike under one branch. -/
def twinN (x y : Nat) (t : Nd) : Nd := .mk 3 [] false [] (((noneNs 16).set x t).set y t) []
theorem twin_put {x y : UInt8} (hx : x.toNat < 16) (hy : y.toNat < 16) (hxy : x.toNat ≠ y.toNat) (t : Nd) (q val : List UInt8) :
    (putP (putP (twinN x.toNat y.toNat t) (x :: q) val).1 (y :: q) val).1 = twinN x.toNat y.toNat (putP t q val).1 := by
  have hl : (noneNs 16).length = 16 := noneNs_len 16
  unfold twinN
  have e1 : (((noneNs 16).set x.toNat t).set y.toNat t)[x.toNat]? = some t := by
    rw [List.getElem?_set_ne (fun e => hxy e.symm), List.getElem?_set_self (by omega)]
  rw [putP_br e1]
  dsimp only
  have e2 : ((((noneNs 16).set x.toNat t).set y.toNat t).set x.toNat (putP t q val).1)[y.toNat]? = some t := by
    rw [List.getElem?_set_ne hxy, List.getElem?_set_self (by rw [List.length_set]; omega)]
  rw [putP_br e2]
  dsimp only
  rw [List.set_comm _ _ (fun e => hxy e), List.set_set, List.set_comm _ _ (fun e => hxy e.symm), List.set_set]
theorem twin_new {x y : UInt8} (hx : x.toNat < 16) (hy : y.toNat < 16) (hxy : x.toNat ≠ y.toNat) (q val : List UInt8) :
    (putP (putP noneN (x :: q) val).1 (y :: q) val).1 = twinN x.toNat y.toNat (leafN q val) := by
  have hne : ¬ x = y := fun e => hxy (by rw [e])
  rw [putP_none]
  unfold leafN
  rw [putP_leaf, if_neg (fun e => hne (List.cons.inj e).1)]
  unfold forkN
  have e1 : (Nd.mk 1 (x :: q) false val [] []).path = x :: q := rfl
  have e3 : (Nd.mk 1 (x :: q) false val [] []).kind = 1 := rfl
  have e5 : commonB (x :: q) (y :: q) = 0 := by rw [commonB, if_neg hne]
  simp only [e1, e3, if_true, e5, List.drop_zero, List.take_zero]
  rfl
end Go.Proofs.Ytliccofjlheceaa
namespace Go.Proofs.Ytliccofjlheceaa
open Go.RowKit
def ownL (a : UInt8) (l : List Pr) : List Pr := l.map fun p => ⟨a :: p.k, p.v⟩
def bothL (a b : UInt8) (l : List Pr) : List Pr := l.flatMap fun p => [⟨a :: p.k, p.v⟩, ⟨b :: p.k, p.v⟩]
def Few (l : List Pr) : Prop := ∀ p ∈ l, p.k.length ≤ 100 ∧ p.v.length ≤ 300
theorem tOfF_cons {p : Pr} {l : List Pr} {n : Nd} (h : p.k.length ≤ 200 ∧ p.v.length ≤ 4000) : tOfF (p :: l) n = tOfF l (putP n (ofB p.k) p.v).1 := by
  rw [tOfF, if_neg (by omega)]
theorem own_fold {a : UInt8} : ∀ (l : List Pr) (T : Nd), Few l → Full T → T.kind ≠ 0 → tOfF (ownL a l) (extN [a / 16, a % 16] T) = (extN [a / 16, a % 16] (tOfF l T).1, 0)
  | [], T, _, _, _ => rfl
  | p :: l, T, hf, hF, hk => by
    obtain ⟨h1, h2⟩ := hf p (List.mem_cons_self ..)
    have hp := put_prs hF (k := p.k) (v := p.v) (by omega) (by omega)
    have ih := own_fold (a := a) l (putP T (ofB p.k) p.v).1 (fun q hq => hf q (List.mem_cons_of_mem _ hq)) hp.2.1 (put_kind0 hF.1 _ _).1
    show tOfF (⟨a :: p.k, p.v⟩ :: ownL a l) _ = _
    rw [tOfF_cons ⟨by show p.k.length + 1 ≤ 200; omega, by show p.v.length ≤ 4000; omega⟩, tOfF_cons ⟨by omega, by omega⟩, ← ih]
    congr 1
    exact ext_put (p := [a / 16, a % 16]) (by simp) hF.1 hF.2 hk (ofB p.k) p.v
theorem nib16 (c : UInt8) : (c / 16).toNat < 16 := by
  rw [UInt8.toNat_div]; have := c.toNat_lt; show c.toNat / 16 < 16; omega
theorem twin_fold {a b : UInt8} (hxy : (a / 16).toNat ≠ (b / 16).toNat) (hz : a % 16 = b % 16) : ∀ (l : List Pr) (T : Nd), Few l → Full T → T.kind ≠ 0 →
    tOfF (bothL a b l) (twinN (a / 16).toNat (b / 16).toNat (extN [a % 16] T)) = (twinN (a / 16).toNat (b / 16).toNat (extN [a % 16] (tOfF l T).1), 0)
  | [], T, _, _, _ => rfl
  | p :: l, T, hf, hF, hk => by
    obtain ⟨h1, h2⟩ := hf p (List.mem_cons_self ..)
    have hp := put_prs hF (k := p.k) (v := p.v) (by omega) (by omega)
    have ih := twin_fold hxy hz l (putP T (ofB p.k) p.v).1 (fun q hq => hf q (List.mem_cons_of_mem _ hq)) hp.2.1 (put_kind0 hF.1 _ _).1
    show tOfF (⟨a :: p.k, p.v⟩ :: ⟨b :: p.k, p.v⟩ :: bothL a b l) _ = _
    rw [tOfF_cons ⟨by show p.k.length + 1 ≤ 200; omega, by show p.v.length ≤ 4000; omega⟩, tOfF_cons ⟨by show p.k.length + 1 ≤ 200; omega, by show p.v.length ≤ 4000; omega⟩, tOfF_cons (p := p) ⟨by omega, by omega⟩, ← ih]
    congr 1
    show (putP (putP _ (a / 16 :: a % 16 :: ofB p.k) p.v).1 (b / 16 :: b % 16 :: ofB p.k) p.v).1 = _
    rw [← hz, twin_put (nib16 a) (nib16 b) hxy]
    congr 1
    exact ext_put (p := [a % 16]) (by simp) hF.1 hF.2 hk (ofB p.k) p.v
theorem few_long {l : List Pr} (h : ∀ p ∈ l, p.k.length ≤ 200 ∧ p.v.length ≤ 4000) : longPr l = false := by
  unfold longPr
  rw [List.any_eq_false]
  intro p hp
  have := h p hp
  simp only [decide_eq_true_eq]
  omega
theorem bulk_le {c : Nat} : ∀ (l : List Pr), (∀ p ∈ l, 140 + 2 * p.k.length + p.v.length ≤ c) → prBulk l ≤ l.length * c
  | [], _ => Nat.zero_le _
  | p :: l, h => by
    have h1 := h p (List.mem_cons_self ..)
    have h2 := bulk_le l (fun q hq => h q (List.mem_cons_of_mem _ hq))
    rw [show prBulk (p :: l) = (140 + 2 * p.k.length + p.v.length) + prBulk l by unfold prBulk; rw [List.map_cons, List.sum_cons], List.length_cons, Nat.add_mul, Nat.one_mul]
    omega
theorem own_mem {a : UInt8} {l : List Pr} (hf : Few l) : ∀ p ∈ ownL a l, p.k.length ≤ 101 ∧ p.v.length ≤ 300 := fun p hp => by
  obtain ⟨q, hq, rfl⟩ := List.mem_map.1 hp
  have := hf q hq
  exact ⟨by show q.k.length + 1 ≤ 101; omega, this.2⟩
theorem both_mem {a b : UInt8} {l : List Pr} (hf : Few l) : ∀ p ∈ bothL a b l, p.k.length ≤ 101 ∧ p.v.length ≤ 300 := fun p hp => by
  obtain ⟨q, hq, hp⟩ := List.mem_flatMap.1 hp
  have := hf q hq
  rcases List.mem_cons.1 hp with rfl | hp
  · exact ⟨by show q.k.length + 1 ≤ 101; omega, this.2⟩
  · rw [List.mem_singleton.1 hp]; exact ⟨by show q.k.length + 1 ≤ 101; omega, this.2⟩
theorem both_len {a b : UInt8} : ∀ l : List Pr, (bothL a b l).length = 2 * l.length
  | [] => rfl
  | p :: l => by
    show (⟨a :: p.k, p.v⟩ :: ⟨b :: p.k, p.v⟩ :: bothL a b l).length = _
    rw [List.length_cons, List.length_cons, both_len l, List.length_cons]; omega
mutual
theorem cnt_sz : ∀ t : Nd, 6 * (cntP t).1 ≤ sz t
  | .mk k p _ v ks h => by
    rw [cntP, sz]
    have := cnts_sz ks
    dsimp only
    split <;> omega
theorem cnts_sz : ∀ ks : List Nd, 6 * (cntsP ks).1 ≤ szs ks
  | [] => Nat.zero_le _
  | t :: ts => by
    rw [cntsP, szs]
    have h1 := cnt_sz t
    have h2 := cnts_sz ts
    dsimp only
    omega
end
theorem cnts_one {t : Nd} : ∀ (n i : Nat), i < n → (cntsP ((noneNs n).set i t)).1 = (cntP t).1
  | 0, i, h => by omega
  | n + 1, 0, _ => by
    show (cntsP (t :: noneNs n)).1 = _
    have h0 : ∀ n, (cntsP (noneNs n)).1 = 0 := fun n => by
      induction n with
      | zero => rfl
      | succ n ih => show (cntsP (noneN :: noneNs n)).1 = 0; rw [cntsP, ih]; rfl
    rw [cntsP, h0]; rfl
  | n + 1, i + 1, h => by
    show (cntsP (noneN :: (noneNs n).set i t)).1 = _
    rw [cntsP, cnts_one n i (by omega)]
    exact Nat.zero_add _
theorem cnts_two {t : Nd} : ∀ (n i j : Nat), i < n → j < n → i ≠ j → (cntsP (((noneNs n).set i t).set j t)).1 = (cntP t).1 + (cntP t).1
  | 0, i, j, h, _, _ => by omega
  | n + 1, 0, 0, _, _, h => absurd rfl h
  | n + 1, 0, j + 1, _, h, _ => by
    show (cntsP (t :: (noneNs n).set j t)).1 = _
    rw [cntsP, cnts_one n j (by omega)]
  | n + 1, i + 1, 0, h, _, _ => by
    show (cntsP (t :: (noneNs n).set i t)).1 = _
    rw [cntsP, cnts_one n i (by omega)]
  | n + 1, i + 1, j + 1, h, h', hn => by
    show (cntsP (noneN :: ((noneNs n).set i t).set j t)).1 = _
    rw [cntsP, cnts_two n i j (by omega) (by omega) (by omega)]
    exact Nat.zero_add _
theorem sdK_none0 (ks : List Nd) (done : List Nd) : sdK (noneN :: ks) done = sdK ks done := by rw [sdK]; exact if_pos rfl
theorem sdK_step {t : Nd} (hk : t.kind ≠ 0) (ks done : List Nd) : sdK (t :: ks) done = ((sdP t done).1 ++ (sdK ks (sdP t done).2).1, (sdK ks (sdP t done).2).2) := by rw [sdK, if_neg hk]
theorem headP_mk {k : Int} {p v hs : List UInt8} {has : Bool} {ks : List Nd} (h4 : ¬ k = 4) : headP (.mk k p has v ks hs) = encF k p has v ks [] := by unfold headP; exact if_neg h4
theorem sdK_nones : ∀ (n : Nat) (done : List Nd), sdK (noneNs n) done = ([], done)
  | 0, done => by show sdK [] done = _; rw [sdK]
  | n + 1, done => by show sdK (noneN :: noneNs n) done = _; rw [sdK_none0, sdK_nones n]
theorem sdK_one {t : Nd} (hk : t.kind ≠ 0) : ∀ (n i : Nat) (done : List Nd), i < n → sdK ((noneNs n).set i t) done = sdK [t] done
  | 0, i, _, h => by omega
  | n + 1, 0, done, _ => by
    show sdK (t :: noneNs n) done = _
    rw [sdK, if_neg hk, sdK_nones, sdK, if_neg hk, sdK]
  | n + 1, i + 1, done, h => by
    show sdK (noneN :: (noneNs n).set i t) done = _
    rw [sdK_none0, sdK_one hk n i done (by omega)]
theorem sdK_cons1 {t : Nd} (hk : t.kind ≠ 0) {ks : List Nd} {done : List Nd} (h : ∀ d, sdK ks d = sdK [t] d) : sdK (t :: ks) done = sdK [t, t] done := by
  rw [sdK_step hk, sdK_step hk [t], h]
theorem sdK_two {t : Nd} (hk : t.kind ≠ 0) : ∀ (n i j : Nat) (done : List Nd), i < n → j < n → i ≠ j → sdK (((noneNs n).set i t).set j t) done = sdK [t, t] done
  | 0, i, j, _, h, _, _ => by omega
  | n + 1, 0, 0, _, _, _, h => absurd rfl h
  | n + 1, 0, j + 1, done, _, h, _ => sdK_cons1 hk fun d => sdK_one hk n j d (by omega)
  | n + 1, i + 1, 0, done, h, _, _ => sdK_cons1 hk fun d => sdK_one hk n i d (by omega)
  | n + 1, i + 1, j + 1, done, h, h', hn => by
    show sdK (noneN :: ((noneNs n).set i t).set j t) done = _
    rw [sdK_none0, sdK_two hk n i j done (by omega) (by omega) (by omega)]
theorem sd_nil (t : Nd) : sdP t [] = (headP t ++ (sdK t.kids []).1, (sdK t.kids []).2 ++ [t]) := sdP_none (idxN_none.2 fun x hx => by cases hx)
/-- What two halves alike take. -/
theorem twin_send {x y : Nat} (hx : x < 16) (hy : y < 16) (hxy : x ≠ y) {t : Nd} (hk : t.kind ≠ 0) (hz : sz t ≤ 200000000) : (sdP (twinN x y t) []).1.length ≤ 9 + (sdP t []).1.length := by
  have h4 : (headP (twinN x y t)).length = 4 := by
    unfold twinN
    rw [headP_mk (by decide)]
    unfold encF
    rw [if_neg (fun e => absurd (show (3 : Int) = 1 from e) (by decide)), if_neg (fun e => absurd (show (3 : Int) = 2 from e) (by decide)), if_pos (show (3 : Int) = 3 from rfl)]
    rfl
  have hl := sd_len t []
  rw [List.length_nil, Nat.zero_add] at hl
  rw [sd_nil (twinN x y t)]
  dsimp only
  rw [List.length_append, h4]
  show 4 + (sdK (((noneNs 16).set x t).set y t) []).1.length ≤ _
  rw [sdK_two hk 16 x y [] hx hy hxy, sdK, if_neg hk, sdK, if_neg hk, sdK]
  dsimp only
  rw [List.append_nil, List.length_append]
  cases hi : idxN (sdP t []).2 t with
  | none =>
    exfalso
    refine idxN_none.1 hi t ?_ rfl
    rw [sd_nil]
    exact List.mem_append_right _ (List.mem_singleton_self _)
  | some i =>
    have h1 := (idxN_some hi).1
    rw [sdP_some hi]
    dsimp only
    rw [List.length_cons]
    have := putN_len 3 i (by omega)
    omega
theorem packL_mono {p q : List UInt8} (leaf : Bool) (hq : halvesB q = true) (h : p.length ≤ q.length) : (packL p leaf).length ≤ (packL q leaf).length := by
  unfold packL
  by_cases hp : halvesB p = true
  · rw [if_pos hp, if_pos hq]
    have e : ∀ l : List UInt8, (if l.length % 2 = 1 then b8 ((if leaf = true then 32 else 0) + 16 + at8 l 0) :: joinB (l.drop 1) else b8 (if leaf = true then 32 else 0) :: joinB l).length = l.length / 2 + 1 := fun l => by
      split
      · rw [List.length_cons, joinB_length, List.length_drop]; omega
      · rw [List.length_cons, joinB_length]
    rw [e, e]
    omega
  · rw [if_neg hp]; exact Nat.zero_le _
theorem ext_head {p q : List UInt8} {t : Nd} (hq : halvesB (q ++ t.path) = true) (hq2 : halvesB q = true) (h : p.length ≤ q.length) : (headP (extN p t)).length ≤ (headP (extN q t)).length := by
  have hB : ∀ a b v : List UInt8, a.length ≤ b.length → (putB a ++ v).length ≤ (putB b ++ v).length := fun a b v h => by
    have := putN_mono (a.length + 1) a.length b.length (Nat.lt_succ_self _) h
    unfold putB
    simp only [List.length_append]
    omega
  have key : ∀ (k : Int) (a b v : List UInt8) (ks : List Nd), (k = 1 ∨ k = 2) → halvesB b = true → a.length ≤ b.length → (headP (.mk k a false v ks [])).length ≤ (headP (.mk k b false v ks [])).length := fun k a b v ks hk hb hl => by
    have h4 : ¬ k = 4 := by rcases hk with rfl | rfl <;> decide
    rw [headP_mk h4, headP_mk h4]
    unfold encF
    rw [List.length_cons, List.length_cons]
    rcases hk with rfl | rfl
    · exact Nat.succ_le_succ (hB _ _ _ (packL_mono true hb hl))
    · exact Nat.succ_le_succ (hB _ _ _ (packL_mono false hb hl))
  unfold extN
  split
  · exact key 1 _ _ _ _ (.inl rfl) hq (by rw [List.length_append, List.length_append]; omega)
  · split
    · exact key 2 _ _ _ _ (.inr rfl) hq (by rw [List.length_append, List.length_append]; omega)
    · exact key 2 _ _ _ _ (.inr rfl) hq2 h
theorem ext_kids (p q : List UInt8) (t : Nd) : (extN p t).kids = (extN q t).kids := by
  unfold extN
  split
  · rfl
  · split <;> rfl
theorem val_path {even : Bool} {t : Nd} {d : Nat} (h : Val even t d) : halvesB t.path = true := by
  cases h with
  | none => rfl
  | leaf _ p v hd hp hv he => exact hp
  | stub => rfl
  | way _ p k hd hp h0 hk hr => exact hp
  | branch => rfl
theorem nib_mod (c : UInt8) : halvesB [c % 16] = true := by
  unfold halvesB
  rw [List.all_cons, List.all_nil, Bool.and_true, decide_eq_true_eq, UInt8.le_iff_toNat_le, UInt8.toNat_mod]
  show c.toNat % 16 ≤ 15
  omega
theorem nib_both (c : UInt8) : halvesB [c / 16, c % 16] = true := by
  have h := nib_mod c
  unfold halvesB at h ⊢
  rw [List.all_cons, h, Bool.and_true, decide_eq_true_eq, UInt8.le_iff_toNat_le]
  have := nib16 c
  show (c / 16).toNat ≤ 15
  omega
/-- The law, plainly. -/
theorem twins {l : List Pr} {a b : UInt8} (hl : l ≠ []) (hf : Few l) (hn : l.length ≤ 20) (hxy : a / 16 ≠ b / 16) (hz : a % 16 = b % 16) :
    (tOf (ownL a l)).2 = 0 ∧ (tOf (bothL a b l)).2 = 0 ∧ sz (tOf (ownL a l)).1 ≤ 30000 ∧ sz (tOf (bothL a b l)).1 ≤ 30000 ∧ 0 < (packP (tOf (ownL a l)).1).1.length ∧ 0 < (packP (tOf (bothL a b l)).1).1.length ∧
    (packP (tOf (bothL a b l)).1).1.length ≤ (packP (tOf (ownL a l)).1).1.length + 12 ∧ 3 ≤ (cntP (tOf (bothL a b l)).1).1 := by
  have hxy' : (a / 16).toNat ≠ (b / 16).toNat := fun e => hxy (UInt8.toNat_inj.1 e)
  obtain ⟨o1, o2, -⟩ := tOf_prs (few_long (l := ownL a l) fun p hp => by have := own_mem hf p hp; omega)
  obtain ⟨t1, t2, -⟩ := tOf_prs (few_long (l := bothL a b l) fun p hp => by have := both_mem hf p hp; omega)
  have so := tOf_sz (ownL a l)
  have st := tOf_sz (bothL a b l)
  have bo := bulk_le (c := 642) (ownL a l) fun p hp => by have := own_mem hf p hp; omega
  have bt := bulk_le (c := 642) (bothL a b l) fun p hp => by have := both_mem hf p hp; omega
  rw [both_len] at bt
  rw [show (ownL a l).length = l.length from List.length_map _] at bo
  -- what they are
  obtain ⟨p, l', rfl⟩ := List.exists_cons_of_ne_nil hl
  obtain ⟨T, hT⟩ : ∃ T, T = (tOf (p :: l')).1 := ⟨_, rfl⟩
  obtain ⟨h1, h2⟩ := hf p (List.mem_cons_self ..)
  have hf' : Few l' := fun q hq => hf q (List.mem_cons_of_mem _ hq)
  have hL := put_prs full_none (k := p.k) (v := p.v) (by omega) (by omega)
  rw [putP_none] at hL
  have hLF : Full (leafN (ofB p.k) p.v) := hL.2.1
  have hT2 : T = (tOfF l' (leafN (ofB p.k) p.v)).1 := by
    rw [hT]; unfold tOf; rw [tOfF_cons ⟨by omega, by omega⟩, putP_none]
  have hk1 : (leafN (ofB p.k) p.v).kind ≠ 0 := fun e => absurd (show (1 : Int) = 0 from e) (by decide)
  have eo : (tOf (ownL a (p :: l'))).1 = extN [a / 16, a % 16] T := by
    have h := own_fold (a := a) l' (leafN (ofB p.k) p.v) hf' hLF hk1
    rw [ext_leaf] at h
    show (tOfF (⟨a :: p.k, p.v⟩ :: ownL a l') noneN).1 = _
    rw [tOfF_cons ⟨by show p.k.length + 1 ≤ 200; omega, by show p.v.length ≤ 4000; omega⟩, putP_none]
    show (tOfF (ownL a l') (leafN ([a / 16, a % 16] ++ ofB p.k) p.v)).1 = _
    rw [h, hT2]
  have et : (tOf (bothL a b (p :: l'))).1 = twinN (a / 16).toNat (b / 16).toNat (extN [a % 16] T) := by
    have h := twin_fold hxy' hz l' (leafN (ofB p.k) p.v) hf' hLF hk1
    rw [ext_leaf] at h
    show (tOfF (⟨a :: p.k, p.v⟩ :: ⟨b :: p.k, p.v⟩ :: bothL a b l') noneN).1 = _
    rw [tOfF_cons ⟨by show p.k.length + 1 ≤ 200; omega, by show p.v.length ≤ 4000; omega⟩, tOfF_cons ⟨by show p.k.length + 1 ≤ 200; omega, by show p.v.length ≤ 4000; omega⟩]
    show (tOfF (bothL a b l') (putP (putP noneN (a / 16 :: a % 16 :: ofB p.k) p.v).1 (b / 16 :: b % 16 :: ofB p.k) p.v).1).1 = _
    rw [← hz, twin_new (nib16 a) (nib16 b) hxy']
    show (tOfF (bothL a b l') (twinN _ _ (leafN ([a % 16] ++ ofB p.k) p.v))).1 = _
    rw [h, hT2]
  have hTF : Full T := by
    rw [hT]
    exact (tOf_prs (few_long (l := p :: l') fun q hq => by have := hf q hq; omega)).2.1
  obtain ⟨n, hnn⟩ : ∃ n, n = (tOf (ownL a (p :: l'))).1 := ⟨_, rfl⟩
  obtain ⟨m, hmm⟩ : ∃ m, m = (tOf (bothL a b (p :: l'))).1 := ⟨_, rfl⟩
  rw [← hnn] at o2 so eo ⊢
  rw [← hmm] at t2 st et ⊢
  have cn := cnt_sz n
  have cm := cnt_sz m
  have pn := pack_val o2.1 (by omega)
  have pm := pack_val t2.1 (by omega)
  have hmem : extN [a % 16] T ∈ m.kids := by
    rw [et]
    exact List.mem_of_getElem? (List.getElem?_set_self (by rw [List.length_set, noneNs_len]; exact nib16 b))
  have hks := szs_mem hmem
  have hmz := sz_eq m
  have hsend := twin_send (nib16 a) (nib16 b) hxy' (t := extN [a % 16] T) ext_kind (by omega)
  rw [← et] at hsend
  have hvp := val_path hTF.1
  have hhd := ext_head (p := [a % 16]) (q := [a / 16, a % 16]) (t := T) (by rw [halvesB_app, nib_both, hvp]; rfl) (nib_both a) (show 1 ≤ 2 by decide)
  have hle : (sdP (extN [a % 16] T) []).1.length ≤ (sdP n []).1.length := by
    rw [eo, sd_nil, sd_nil]
    dsimp only
    rw [List.length_append, List.length_append, ext_kids [a % 16] [a / 16, a % 16] T]
    omega
  have hcm : (cntP m).1 = 1 + ((cntP (extN [a % 16] T)).1 + (cntP (extN [a % 16] T)).1) := by
    rw [et]
    unfold twinN
    rw [cntP, cnts_two 16 _ _ (nib16 a) (nib16 b) hxy']
    rfl
  have hc1 := cnt_ge (extN [a % 16] T) ext_kind
  have nn := packP_ne (t := n) (by rw [pn]) (by rw [List.length_nil]; omega)
  have nm := packP_ne (t := m) (by rw [pm]) (by rw [List.length_nil]; omega)
  refine ⟨o1, t1, by omega, by omega, List.length_pos_iff.2 nn, List.length_pos_iff.2 nm, ?_, by omega⟩
  rw [pn, pm]
  dsimp only
  omega
end Go.Proofs.Ytliccofjlheceaa
namespace Go.Proofs.Ytliccofjlheceaa
open Go.RowKit
theorem is_rcnt : isFn Try.prog 31 = true := by kernel_rfl
def RCntOk (t : Nd) : Prop := ∀ (gs : List (Option Nat)) (w : World) (cs : List Value), RdL w (Fd w gs) (dN t) cs → (∀ b, some b ∈ gs → b < w.heap.size) →
  Calls Try.prog 31 #[.agg cs.toArray] w fun e w' => e = .returned (.tuple #[.int .i64 ((cntP t).1 : Nat), .int .i64 ((cntP t).2 : Nat)]) ∧ Below w.heap.size w w'
set_option maxRecDepth 100000 in
set_option maxHeartbeats 2000000 in
theorem rcnt_step (N : Nat) (ih : ∀ k : Nd, sz k < N → RCntOk k) (t : Nd) (ht : sz t ≤ N) (hN : N ≤ 1000000000000) : RCntOk t := by
  intro gs w cs hr hgs
  refine calls_ev (args := [.agg cs.toArray]) mixed Try.func31 rfl (by kernel_rfl) ?_
  have hsz := sz_eq t
  obtain ⟨Ap, cp, Av, cv, Ak, ck, Ah, ch, rfl, -, -, r4, -⟩ := hr.node
  have M := (St.start hgs).addD r4
  clear hr r4
  have hcq := cntP_eq t
  have hcz := cntsP_sz t.kids
  have hsl := szs_len t.kids
  obtain ⟨a0, ha0⟩ : ∃ a0, a0 = (if t.kind = 0 then 0 else 1) := ⟨_, rfl⟩
  obtain ⟨s0, hs0⟩ : ∃ s0, s0 = (if t.kind = 4 then 1 else 0) := ⟨_, rfl⟩
  have ha1 : a0 ≤ 1 := by rw [ha0]; split <;> omega
  have hs1 : s0 ≤ 1 := by rw [hs0]; split <;> omega
  rw [← ha0, ← hs0] at hcq
  refine s_box (ncs t Ap cp Av cv Ak ck Ah ch) M rfl ?_
  clear M
  rintro g1 W M
  refine p_fld fN0 rfl ?_
  refine v_load agg_int rfl ((M.B 0 rfl).at_ rfl) ?_
  refine p_ne rfl rfl (fun h0 => ?_) (fun h0 => ?_)
  · have ha : a0 = 0 := by rw [ha0]; exact if_pos h0
    subst ha
    refine p_fld fN0 rfl ?_
    refine v_load agg_int rfl ((M.B 0 rfl).at_ rfl) ?_
    refine p_eq rfl rfl (fun h4 => ?_) (fun h4 => ?_)
    · rw [h0] at h4; exact absurd h4 (by decide)
    · have hs : s0 = 0 := by rw [hs0]; exact if_neg h4
      subst hs
      refine lp Nat (fun i W => i ≤ t.kids.length ∧ St w gs W [(g1, 38, ncs t Ap cp Av cv Ak ck Ah ch)] [] [.dat false [dKs t.kids] [.slice Ak t.kids.length ck]])
        (fun i => [(1, .pointer (some ⟨g1, 0, none⟩)), (4, .int .i64 (0 + (cntsP (t.kids.take i)).1 : Nat)), (5, .int .i64 (0 + (cntsP (t.kids.take i)).2 : Nat)), (6, .int .i64 (i : Nat))]) (fun i => t.kids.length - i) 0 ⟨Nat.zero_le _, M⟩ (by repeat (first | exact trivial | refine ⟨rfl, ?_⟩)) ?_
      clear M
      rintro i E W ⟨hi, M⟩
      refine p_fld fN4 rfl ?_
      refine v_load agg_ns rfl ((M.B 0 rfl).at_ rfl) ?_
      refine p_len sln rfl ?_
      refine p_lt rfl rfl (fun hlt => ?_) (fun hge => ?_)
      · obtain ⟨k, hki⟩ : ∃ k, t.kids[i]? = some k := ⟨_, List.getElem?_eq_getElem (by omega)⟩
        have hki1 := List.getElem?_eq_some_iff.1 hki
        have hkz := szs_mem (List.mem_of_getElem? hki)
        have htk1 : t.kids.take (i + 1) = t.kids.take i ++ [k] := by rw [List.take_succ_eq_append_getElem hki1.1, hki1.2]
        have hcs := cntsP_snoc (t.kids.take i) k
        rw [← htk1] at hcs
        have hcz1 := cntsP_sz (t.kids.take i)
        have hcz2 := cntP_sz k
        have hsp : szs (t.kids.take i) + sz k ≤ szs t.kids := by
          have e : t.kids = t.kids.take (i + 1) ++ t.kids.drop (i + 1) := (List.take_append_drop ..).symm
          have h := congrArg szs e
          rw [htk1, szs_appC, szs_appC, szs, szs] at h
          omega
        obtain ⟨b, off, es, e0, hel, M'⟩ := M.kid (M.d1 0 rfl) hki
        replace M := M'; clear M'
        refine p_fld fN4 rfl ?_
        refine v_load agg_ns rfl ((M.B 0 rfl).at_ rfl) ?_
        refine p_at sln (by show (Value.slice Ak t.kids.length ck) = _; rw [e0]) rfl rfl (by omega) ?_
        refine v_loadN es agg_nd rfl hel (M.lc 0 rfl) ?_
        refine cc is_rcnt (ih k (by omega) _ _ es (M.da 1 rfl) M.olt) ?_
        rintro e W ⟨rfl, hb⟩
        replace M := M.call hb
        clear hb
        refine ⟨_, rfl, ?_⟩
        refine p_addN (b := (cntP k).1) rfl rfl (by omega) ?_
        refine p_addN (b := (cntP k).2) rfl rfl (by omega) ?_
        refine p_addN (b := 1) rfl rfl (by omega) ?_
        refine ⟨i + 1, ⟨by omega, M.fsub _ (by simp)⟩, ?_, by omega⟩
        rw [hcs]
        dsimp only
        rw [← Nat.add_assoc, ← Nat.add_assoc]
        exact (by repeat (first | exact trivial | refine ⟨rfl, ?_⟩))
      · have hin : i = t.kids.length := by omega
        subst hin
        rw [List.take_length]
        refine ⟨?_, M.below⟩
        rw [hcq]; rfl
  · have ha : a0 = 1 := by rw [ha0]; exact if_neg h0
    subst ha
    refine p_fld fN0 rfl ?_
    refine v_load agg_int rfl ((M.B 0 rfl).at_ rfl) ?_
    refine p_eq rfl rfl (fun h4 => ?_) (fun h4 => ?_)
    · have hs : s0 = 1 := by rw [hs0]; exact if_pos h4
      subst hs
      refine lp Nat (fun i W => i ≤ t.kids.length ∧ St w gs W [(g1, 38, ncs t Ap cp Av cv Ak ck Ah ch)] [] [.dat false [dKs t.kids] [.slice Ak t.kids.length ck]])
        (fun i => [(1, .pointer (some ⟨g1, 0, none⟩)), (4, .int .i64 (1 + (cntsP (t.kids.take i)).1 : Nat)), (5, .int .i64 (1 + (cntsP (t.kids.take i)).2 : Nat)), (6, .int .i64 (i : Nat))]) (fun i => t.kids.length - i) 0 ⟨Nat.zero_le _, M⟩ (by repeat (first | exact trivial | refine ⟨rfl, ?_⟩)) ?_
      clear M
      rintro i E W ⟨hi, M⟩
      refine p_fld fN4 rfl ?_
      refine v_load agg_ns rfl ((M.B 0 rfl).at_ rfl) ?_
      refine p_len sln rfl ?_
      refine p_lt rfl rfl (fun hlt => ?_) (fun hge => ?_)
      · obtain ⟨k, hki⟩ : ∃ k, t.kids[i]? = some k := ⟨_, List.getElem?_eq_getElem (by omega)⟩
        have hki1 := List.getElem?_eq_some_iff.1 hki
        have hkz := szs_mem (List.mem_of_getElem? hki)
        have htk1 : t.kids.take (i + 1) = t.kids.take i ++ [k] := by rw [List.take_succ_eq_append_getElem hki1.1, hki1.2]
        have hcs := cntsP_snoc (t.kids.take i) k
        rw [← htk1] at hcs
        have hcz1 := cntsP_sz (t.kids.take i)
        have hcz2 := cntP_sz k
        have hsp : szs (t.kids.take i) + sz k ≤ szs t.kids := by
          have e : t.kids = t.kids.take (i + 1) ++ t.kids.drop (i + 1) := (List.take_append_drop ..).symm
          have h := congrArg szs e
          rw [htk1, szs_appC, szs_appC, szs, szs] at h
          omega
        obtain ⟨b, off, es, e0, hel, M'⟩ := M.kid (M.d1 0 rfl) hki
        replace M := M'; clear M'
        refine p_fld fN4 rfl ?_
        refine v_load agg_ns rfl ((M.B 0 rfl).at_ rfl) ?_
        refine p_at sln (by show (Value.slice Ak t.kids.length ck) = _; rw [e0]) rfl rfl (by omega) ?_
        refine v_loadN es agg_nd rfl hel (M.lc 0 rfl) ?_
        refine cc is_rcnt (ih k (by omega) _ _ es (M.da 1 rfl) M.olt) ?_
        rintro e W ⟨rfl, hb⟩
        replace M := M.call hb
        clear hb
        refine ⟨_, rfl, ?_⟩
        refine p_addN (b := (cntP k).1) rfl rfl (by omega) ?_
        refine p_addN (b := (cntP k).2) rfl rfl (by omega) ?_
        refine p_addN (b := 1) rfl rfl (by omega) ?_
        refine ⟨i + 1, ⟨by omega, M.fsub _ (by simp)⟩, ?_, by omega⟩
        rw [hcs]
        dsimp only
        rw [← Nat.add_assoc, ← Nat.add_assoc]
        exact (by repeat (first | exact trivial | refine ⟨rfl, ?_⟩))
      · have hin : i = t.kids.length := by omega
        subst hin
        rw [List.take_length]
        refine ⟨?_, M.below⟩
        rw [hcq]; rfl
    · have hs : s0 = 0 := by rw [hs0]; exact if_neg h4
      subst hs
      refine lp Nat (fun i W => i ≤ t.kids.length ∧ St w gs W [(g1, 38, ncs t Ap cp Av cv Ak ck Ah ch)] [] [.dat false [dKs t.kids] [.slice Ak t.kids.length ck]])
        (fun i => [(1, .pointer (some ⟨g1, 0, none⟩)), (4, .int .i64 (1 + (cntsP (t.kids.take i)).1 : Nat)), (5, .int .i64 (0 + (cntsP (t.kids.take i)).2 : Nat)), (6, .int .i64 (i : Nat))]) (fun i => t.kids.length - i) 0 ⟨Nat.zero_le _, M⟩ (by repeat (first | exact trivial | refine ⟨rfl, ?_⟩)) ?_
      clear M
      rintro i E W ⟨hi, M⟩
      refine p_fld fN4 rfl ?_
      refine v_load agg_ns rfl ((M.B 0 rfl).at_ rfl) ?_
      refine p_len sln rfl ?_
      refine p_lt rfl rfl (fun hlt => ?_) (fun hge => ?_)
      · obtain ⟨k, hki⟩ : ∃ k, t.kids[i]? = some k := ⟨_, List.getElem?_eq_getElem (by omega)⟩
        have hki1 := List.getElem?_eq_some_iff.1 hki
        have hkz := szs_mem (List.mem_of_getElem? hki)
        have htk1 : t.kids.take (i + 1) = t.kids.take i ++ [k] := by rw [List.take_succ_eq_append_getElem hki1.1, hki1.2]
        have hcs := cntsP_snoc (t.kids.take i) k
        rw [← htk1] at hcs
        have hcz1 := cntsP_sz (t.kids.take i)
        have hcz2 := cntP_sz k
        have hsp : szs (t.kids.take i) + sz k ≤ szs t.kids := by
          have e : t.kids = t.kids.take (i + 1) ++ t.kids.drop (i + 1) := (List.take_append_drop ..).symm
          have h := congrArg szs e
          rw [htk1, szs_appC, szs_appC, szs, szs] at h
          omega
        obtain ⟨b, off, es, e0, hel, M'⟩ := M.kid (M.d1 0 rfl) hki
        replace M := M'; clear M'
        refine p_fld fN4 rfl ?_
        refine v_load agg_ns rfl ((M.B 0 rfl).at_ rfl) ?_
        refine p_at sln (by show (Value.slice Ak t.kids.length ck) = _; rw [e0]) rfl rfl (by omega) ?_
        refine v_loadN es agg_nd rfl hel (M.lc 0 rfl) ?_
        refine cc is_rcnt (ih k (by omega) _ _ es (M.da 1 rfl) M.olt) ?_
        rintro e W ⟨rfl, hb⟩
        replace M := M.call hb
        clear hb
        refine ⟨_, rfl, ?_⟩
        refine p_addN (b := (cntP k).1) rfl rfl (by omega) ?_
        refine p_addN (b := (cntP k).2) rfl rfl (by omega) ?_
        refine p_addN (b := 1) rfl rfl (by omega) ?_
        refine ⟨i + 1, ⟨by omega, M.fsub _ (by simp)⟩, ?_, by omega⟩
        rw [hcs]
        dsimp only
        rw [← Nat.add_assoc, ← Nat.add_assoc]
        exact (by repeat (first | exact trivial | refine ⟨rfl, ?_⟩))
      · have hin : i = t.kids.length := by omega
        subst hin
        rw [List.take_length]
        refine ⟨?_, M.below⟩
        rw [hcq]; rfl
theorem rcnt_any : ∀ (N : Nat), N ≤ 1000000000000 → ∀ t : Nd, sz t < N → RCntOk t
  | 0, _, t, h => by omega
  | N + 1, hN, t, h => rcnt_step N (fun k hk => rcnt_any N (by omega) k hk) t (by omega) (by omega)
end Go.Proofs.Ytliccofjlheceaa
