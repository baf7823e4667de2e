/- Package pack: Pack, Size, Unpack. law11: known, much. The walk of the law PackBack. The walk of the law PackCut. How many nodes of what is opened. Reference 10: At, Shut, below, Agrees. Reference 10: Shut, put, Open. Reference 10: on, Only, of ways that the caller still owns. Reference 07: Count. -/
import Derived.Test.YtliccofjlheceaaG23
import Derived.Test.YtliccofjlheceaaG17
import Derived.Test.YtliccofjlheceaaG09
import Derived.Test.YtliccofjlheceaaG18
import Derived.Test.YtliccofjlheceaaG15
import Derived.Test.YtliccofjlheceaaG13
import Derived.Test.YtliccofjlheceaaG19
namespace Go.Proofs.Ytliccofjlheceaa
open Go.RowKit
theorem is_pPack : isFn Try.prog 20 = true := by kernel_rfl
theorem is_pSize : isFn Try.prog 22 = true := by kernel_rfl
theorem is_pUnpack : isFn Try.prog 23 = true := by kernel_rfl
theorem pl_rdr : placesOf Try.prog 87 = some [(0, 1), (1, 1), (2, 1), (3, 1)] := by kernel_rfl
theorem z_rdr : zeroOf Try.prog 87 = some (rc none 0 0 none 0 0 0 0) := by kernel_rfl
theorem check_valK {t : Nd} (h : checkE t = 0) : Val true t 0 := by
  unfold checkE at h
  split at h
  · rename_i h'; exact val_of_right true _ t 0 (Nat.lt_succ_self _) h'
  · cases h
theorem val_sm {even : Bool} {t : Nd} {d : Nat} (h : Val even t d) : smP 4432 t := by
  induction h with
  | none => exact sm_none _
  | leaf d p v hd hp hv he =>
    have := endsP_le he
    rw [smP, smsP]
    exact ⟨by rw [List.length_nil]; omega, by simp, fun h => absurd h (by decide), trivial⟩
  | stub d h hd hh =>
    rw [smP, smsP]
    exact ⟨by simp; omega, by simp, fun h => absurd h (by decide), trivial⟩
  | way d p k hd hp h0 hk hr ih =>
    have := hr.le
    rw [smP, smsP, smsP]
    exact ⟨by simp; omega, by simp, fun h => absurd h (by decide), ih, trivial⟩
  | branch d has v ks hd hv hv0 he h16 hr hm ih =>
    rw [smP]
    exact ⟨by simp; omega, by omega, fun h => absurd h (by decide), sms_all.2 ih⟩
theorem val_szc {even : Bool} {t : Nd} {d : Nat} (h : Val even t d) (hc : (cntP t).1 ≤ 5000) : sz t ≤ 22670006 := by
  have h1 := sm_sz 4432 t (val_sm h)
  have : (102 + 4432) * (cntP t).1 ≤ 4534 * 5000 := Nat.mul_le_mul (Nat.le_refl _) hc
  omega
theorem packP_len (t : Nd) : (packP t).1.length ≤ 113350030 := by
  unfold packP
  split
  · simp
  · rename_i h
    split
    · simp
    · rename_i hc
      have hv : Val true t 0 := check_valK (by omega)
      have hz := val_szc hv (by omega)
      have := sd_size t [] (by rw [List.length_nil]; omega)
      dsimp only
      omega
set_option maxRecDepth 100000 in
set_option maxHeartbeats 4000000 in
theorem ppack_any (t : Nd) (ht : sz t ≤ 999999999999) (gs : List (Option Nat)) (w : World) (cs : List Value) (hr : RdL w (Fd w gs) (dN t) cs) (hgs : ∀ b, some b ∈ gs → b < w.heap.size) :
    Calls Try.prog 20 #[.agg cs.toArray] w fun e w' => ∃ A n c, e = .returned (.tuple #[.slice A n c, .int .i64 (packP t).2]) ∧ Own w' w.heap.size A n c (packP t).1 ∧ Below w.heap.size w w' := by
  refine calls_ev (args := [.agg cs.toArray]) mixed Try.func20 rfl (by kernel_rfl) ?_
  have hcl := hr.len
  rw [dN_len] at hcl
  have hone := hr.ones (dN_one _)
  have M := (St.start hgs).addL hr
  clear hr
  refine s_box (cs) M rfl ?_
  clear M
  rintro g1 W M
  unfold packP
  refine v_loadN cs agg_nd rfl hcl (M.run 0 rfl) ?_
  refine cc is_ncheck (ncheck_any t ht _ _ _ (M.da 0 rfl) M.olt) ?_
  rintro e W ⟨rfl, hb⟩
  replace M := M.call hb
  clear hb
  refine ⟨_, rfl, ?_⟩
  refine p_ne rfl rfl (fun h0 => ?_) (fun h0 => ?_)
  rotate_left
  · rw [if_pos (show checkE t ≠ 0 from h0)]
    exact ⟨none, 0, 0, rfl, World.ownsRow_nil _ _ _ _, M.below⟩
  have h0 : checkE t = 0 := h0
  rw [if_neg (fun h => h h0)]
  have hv := check_valK h0
  refine v_loadN cs agg_nd rfl hcl (M.run 0 rfl) ?_
  refine cc is_pcnt (ncount_any t (by omega) _ _ cs (M.da 0 rfl) M.olt) ?_
  rintro e W ⟨rfl, hb⟩
  replace M := M.call hb
  clear hb
  refine ⟨_, rfl, ?_⟩
  refine p_gt rfl rfl (fun hc => ?_) (fun hc => ?_)
  · have hc : (5000 : Int) < (((cntP t).1 : Nat) : Int) := hc
    rw [if_pos (by omega)]
    exact ⟨none, 0, 0, rfl, World.ownsRow_nil _ _ _ _, M.below⟩
  have hc : ¬ (5000 : Int) < (((cntP t).1 : Nat) : Int) := hc
  rw [if_neg (by omega)]
  have hz := val_szc hv (by omega)
  refine s_alloc ([.slice none 0 0, .slice none 0 0]) M (by kernel_rfl) ?_
  clear M
  rintro g7 W M
  refine v_loadN cs agg_nd rfl hcl (M.run 1 rfl) ?_
  replace M := (((M.nilR 38 6).nilR 5 1).addT (fr := false) (ds := dNs []) (cs := []) RdL.nil_)
  refine cc is_snode (snd_any 100000000 (Nat.le_refl _) t (by omega) _ 0 w _ gs g7 none 0 0 none 0 0 [] [] [] _ [] _ cs hv M (M.da 1 rfl) (by rw [List.length_nil]; omega) (by rw [List.length_nil]; omega) (fun x hx => by cases hx)) ?_
  clear M
  rintro e W ⟨⟨v, rfl⟩, Ao, co, Ad, nd, cd, xs, M⟩
  refine ⟨_, rfl, ?_⟩
  rw [List.nil_append] at M
  refine p_fld fsd0 rfl ?_
  refine v_load agg_b rfl ((M.B 0 rfl).at_ rfl) ?_
  exact ⟨Ao, _, co, rfl, M.row _ (List.mem_cons_self ..), M.below⟩
set_option maxRecDepth 100000 in
set_option maxHeartbeats 1000000 in
theorem psize_any (t : Nd) (ht : sz t ≤ 999999999999) (gs : List (Option Nat)) (w : World) (cs : List Value) (hr : RdL w (Fd w gs) (dN t) cs) (hgs : ∀ b, some b ∈ gs → b < w.heap.size) :
    Calls Try.prog 22 #[.agg cs.toArray] w fun e w' => e = .returned (.int .i64 ((packP t).1.length : Nat)) ∧ Below w.heap.size w w' := by
  refine calls_ev (args := [.agg cs.toArray]) mixed Try.func22 rfl (by kernel_rfl) ?_
  have hcl := hr.len
  rw [dN_len] at hcl
  have hone := hr.ones (dN_one _)
  have M := (St.start hgs).addL hr
  clear hr
  refine s_box (cs) M rfl ?_
  clear M
  rintro g1 W M
  refine v_loadN cs agg_nd rfl hcl (M.run 0 rfl) ?_
  refine cc is_pPack (ppack_any t ht _ _ cs (M.da 0 rfl) M.olt) ?_
  rintro e W ⟨A, n, c, rfl, o, hb⟩
  have el := o.len
  replace M := M.call hb
  refine ⟨_, rfl, ?_⟩
  refine p_len slb rfl ?_
  exact ⟨by rw [el]; rfl, M.below⟩
set_option maxRecDepth 100000 in
set_option maxHeartbeats 4000000 in
theorem punpack_any (b : List UInt8) (gs : List (Option Nat)) (w : World) (A : Option Addr) (n c : Nat) (h : RdD w (Fd w gs) (dB b) (.slice A n c)) (hgs : ∀ b, some b ∈ gs → b < w.heap.size) (hn : n ≤ 1000000000) :
    Calls Try.prog 23 #[.slice A n c] w fun e w' => ∃ cs, e = .returned (.tuple #[.agg cs.toArray, .int .i64 (unpP b).2]) ∧ RdL w' (Fr w w') (dN (unpP b).1) cs ∧ Below w.heap.size w w' := by
  refine calls_ev (args := [.slice A n c]) mixed Try.func23 rfl (by kernel_rfl) ?_
  have en := h.slen
  have M := (St.start hgs).addD h
  clear h
  refine s_alloc (zN) M al_nd ?_
  clear M
  rintro g2 W M
  unfold unpP
  refine p_len slb rfl ?_
  refine p_gt rfl rfl (fun hl => ?_) (fun hl => ?_)
  · have hl : (1048576 : Int) < (n : Int) := hl
    rw [if_pos (by omega)]
    refine p_build (vs := zN) pl_nd z_nd rfl ?_
    refine s_storeA 0 zN M rfl sz_nd rfl rfl rfl (all1 rfl) rfl ?_
    clear M; rintro W M
    dsimp only [setL] at M
    refine c_loadN zN agg_nd rfl rfl (M.run 0 rfl) ?_
    exact ⟨zN, rfl, RdL.znone, M.below⟩
  have hl : ¬ (1048576 : Int) < (n : Int) := hl
  rw [if_neg (by omega)]
  refine p_build (vs := rc A n c none 0 0 5000 0) pl_rdr z_rdr rfl ?_
  refine s_box (rc A n c none 0 0 5000 0) M rfl ?_
  clear M
  rintro g4 W M
  replace M := (M.nilR 38 6).addT (fr := false) (ds := dNs []) (cs := []) RdL.nil_
  have hsz := one_sz (B := 3 * b.length + 32) 403 b [] 5000 (by decide) (by decide) (fun x hx => by cases hx) (Nat.le_refl _)
  refine cc is_pnode (rn_any 403 (3 * b.length + 32) 0 rfl (by omega) w _ gs g4 A n c none 0 0 5000 b [] [] _ [] [.dat false [dB b] [.slice A n c]] (by decide) (by decide) (fun x hx => by cases hx) (Nat.le_refl _) (by rw [List.length_nil]; omega) (M.fsub _ (by simp))) ?_
  clear M
  rintro e W ⟨cs, tn, A1, n1, c1, Ad, nd, cd, xs, b1, done1, left1, e1, rfl, M, hP⟩
  refine ⟨_, rfl, ?_⟩
  have hcl := (M.da 0 rfl).len
  rw [dN_len] at hcl
  have en1 := (M.d1 2 rfl).slen
  refine s_alloc (zN) M al_nd ?_
  clear M
  rintro g5 W M
  refine s_storeA 0 cs M rfl sz_nd rfl rfl hcl ((M.da 0 rfl).ones (dN_one _)) rfl ?_
  clear M; rintro W M
  dsimp only [setL] at M
  refine p_nil rfl ?_
  refine p_fld fp3 rfl ?_
  refine v_load agg_errP rfl ((M.B 1 rfl).at_ rfl) ?_
  cases hr : oneF 403 b [] 5000 with
  | bad x =>
    rw [hr] at hP hsz
    obtain ⟨p1, p2, p3, p4, p5, p6⟩ := hP
    have hx0 : x ≠ 0 := by rcases hsz with h | h <;> rw [h] <;> decide
    subst p1
    dsimp only
    refine p_ne rfl rfl (fun h => absurd h hx0) (fun _ => ?_)
    replace M := M.drew
    refine drT (Kp w gs [(g4, 87, rc A1 n1 c1 Ad nd cd left1 e1)] []) (.take 0 (.take 1 (.take 2 (.take 3 (.take 4 (.one 5 (.take 6 (.nil)))))))) (by kernel_rfl) (M.kp (by simp) (by simp)) ?_
    refine p_build (vs := zN) pl_nd z_nd rfl ?_
    refine p_nil rfl ?_
    refine p_fld fp3 rfl ?_
    refine t_load agg_errP rfl (fun W K => (K.B 0 rfl).at_ rfl) ?_
    refine s_storeA 2 zN M rfl sz_nd rfl rfl rfl (all1 rfl) rfl ?_
    clear M; rintro W M
    dsimp only [setL] at M
    refine ⟨(M.kp (by simp) (by simp)), ?_⟩
    refine c_loadN zN agg_nd rfl rfl (M.run 2 rfl) ?_
    exact ⟨zN, rfl, RdL.znone, M.below⟩
  | got nn b2 d2 l2 =>
    rw [hr] at hP hsz
    obtain ⟨p1, p2, p3, p4, p5⟩ := hP
    obtain ⟨s1, s2, s3, s4, s5, s6⟩ := hsz
    subst p1; subst p2; subst p3; subst p4; subst p5
    dsimp only
    refine p_ne rfl rfl (fun _ => ?_) (fun h => absurd rfl h)
    refine p_nil rfl ?_
    refine p_fld fp0 rfl ?_
    refine v_load agg_b rfl ((M.B 1 rfl).at_ rfl) ?_
    refine p_len slb rfl ?_
    refine p_gt rfl rfl (fun hg => ?_) (fun hg => ?_)
    · have hg : (0 : Int) < (n1 : Int) := hg
      rw [if_pos (.inl (by omega))]
      refine p_build (vs := zN) pl_nd z_nd rfl ?_
      refine s_storeA 2 zN M rfl sz_nd rfl rfl rfl (all1 rfl) rfl ?_
      clear M; rintro W M
      dsimp only [setL] at M
      refine c_loadN zN agg_nd rfl rfl (M.run 2 rfl) ?_
      exact ⟨zN, rfl, RdL.znone, M.below⟩
    have hg : ¬ (0 : Int) < (n1 : Int) := hg
    have hzn : sz tn ≤ 999999999999 := by
      have h1 := sm_sz _ tn s1.1
      have : (102 + (3 * b.length + 32)) * (cntP tn).1 ≤ 3145862 * 5000 := Nat.mul_le_mul (by omega) s1.2
      omega
    refine v_loadN cs agg_nd rfl hcl (M.run 0 rfl) ?_
    refine cc is_pPack (ppack_any tn hzn _ _ cs (M.da 0 rfl) M.olt) ?_
    rintro e W ⟨A6, n6, c6, rfl, o6, hb⟩
    replace M := M.callO hb o6
    clear o6 hb
    refine ⟨_, rfl, ?_⟩
    obtain ⟨E, hE⟩ : ∃ E, E = packP tn := ⟨_, rfl⟩
    rw [← hE] at M ⊢
    obtain ⟨eb, ee⟩ := E
    dsimp only at M ⊢
    have hno : ∀ q : (eb, ee) ≠ (b, 0), (if 0 < b1.length ∨ (eb, ee) ≠ (b, 0) then (noneN, (11 : Int)) else (tn, 0)) = (noneN, 11) := fun q => if_pos (.inr q)
    refine p_ne rfl rfl (fun he0 => ?_) (fun he0 => ?_)
    rotate_left
    · rw [hno (fun h => he0 (congrArg Prod.snd h))]
      refine p_build (vs := zN) pl_nd z_nd rfl ?_
      refine s_storeA 2 zN M rfl sz_nd rfl rfl rfl (all1 rfl) rfl ?_
      clear M; rintro W M
      dsimp only [setL] at M
      refine c_loadN zN agg_nd rfl rfl (M.run 2 rfl) ?_
      exact ⟨zN, rfl, RdL.znone, M.below⟩
    have he0 : ee = 0 := he0
    subst he0
    refine cc is_beq (beq_any _ _ _ _ _ c _ _ eb b _ (M.rdb 0 rfl).2.2 (M.rdb 4 rfl).2.2) ?_
    rintro e W' ⟨rfl, rfl⟩
    refine ⟨_, rfl, ?_⟩
    refine p_not rfl ?_
    by_cases heq : eb = b
    rotate_left
    · rw [hno (fun h => heq (congrArg Prod.fst h)), decide_eq_false heq]
      refine p_build (vs := zN) pl_nd z_nd rfl ?_
      refine s_storeA 2 zN M rfl sz_nd rfl rfl rfl (all1 rfl) rfl ?_
      clear M; rintro W M
      dsimp only [setL] at M
      refine c_loadN zN agg_nd rfl rfl (M.run 2 rfl) ?_
      exact ⟨zN, rfl, RdL.znone, M.below⟩
    subst heq
    rw [decide_eq_true rfl, if_neg (fun h => h.elim (fun h => by omega) (fun h => h rfl))]
    have hv : Val true tn 0 ∧ (cntP tn).1 ≤ 5000 := by
      unfold packP at hE
      split at hE
      · rename_i h; injection hE with _ h2; exact absurd h2.symm h
      · rename_i h
        exact ⟨check_valK (by omega), s1.2⟩
    have hz2 := val_szc hv.1 hv.2
    refine v_loadN cs agg_nd rfl hcl (M.run 0 rfl) ?_
    refine cc is_ncopy (ncopy_any 100000000 (by decide) tn (by omega) _ _ cs (M.da 1 rfl) M.olt) ?_
    rintro e W ⟨csc, rfl, r9, hb⟩
    have hcc := r9.len
    rw [dN_len] at hcc
    replace M := M.callF hb r9
    clear r9 hb
    refine ⟨_, rfl, ?_⟩
    refine s_storeA 2 csc M rfl sz_nd rfl rfl hcc ((M.da 0 rfl).ones (dN_one _)) rfl ?_
    clear M; rintro W M
    dsimp only [setL] at M
    refine c_loadN csc agg_nd rfl hcc (M.run 2 rfl) ?_
    exact ⟨csc, rfl, M.finF 0 rfl, M.below⟩
end Go.Proofs.Ytliccofjlheceaa
namespace Go.Proofs.Ytliccofjlheceaa
open Go.RowKit

theorem is_kn11 : isFn Try.prog 19 = true := by kernel_rfl
theorem is_much11 : isFn Try.prog 18 = true := by kernel_rfl
set_option maxRecDepth 100000 in
set_option maxHeartbeats 1000000 in
theorem much11_any (t : Nd) (ht : sz t ≤ 900000000) (gs : List (Option Nat)) (w : World) (cs : List Value) (hr : RdL w (Fd w gs) (dN t) cs) (hgs : ∀ b, some b ∈ gs → b < w.heap.size) :
    Calls Try.prog 18 #[.agg cs.toArray] w fun e w' => e = .returned (.bool (decide (500 ≤ muchP t 500))) ∧ Below w.heap.size w w' := by
  refine calls_ev (args := [.agg cs.toArray]) mixed Try.func18 rfl (by kernel_rfl) ?_
  have hcl := hr.len
  rw [dN_len] at hcl
  have M := (St.start hgs).addL hr
  refine s_box (cs) M rfl ?_
  clear M
  rintro g1 W M
  refine v_loadN cs agg_nd rfl hcl (M.run 0 rfl) ?_
  refine cc is_r7much (much_any 1000000000 (Nat.le_refl _) t (by omega) _ _ cs 500 (by first | with_reducible exact M.da_0 | with_reducible exact M.da_1 | with_reducible exact M.da_2 | with_reducible exact M.da_3 | with_reducible exact M.da_4 | with_reducible exact M.da_5 | with_reducible exact M.da_6 | with_reducible exact M.da_7 | with_reducible exact M.da_8 | with_reducible exact M.da_9 | with_reducible exact M.da_10 | with_reducible exact M.da_11) M.olt (by decide)) ?_
  rintro e W ⟨rfl, hb⟩
  replace M := M.call hb
  refine ⟨_, rfl, ?_⟩
  refine p_ge rfl rfl (fun h => ?_) (fun h => ?_)
  · rw [decide_eq_true (show 500 ≤ muchP t 500 by omega)]
    exact ⟨rfl, M.below⟩
  · rw [decide_eq_false (show ¬ 500 ≤ muchP t 500 by omega)]
    exact ⟨rfl, M.below⟩
theorem much11_no {t : Nd} (h : decide (500 ≤ muchP t 500) = false) : sz t ≤ 27500 := by
  rw [decide_eq_false_iff_not] at h
  have := much_sz t 500 (by omega)
  omega
/-- What packs is read back. -/
theorem packP_ok {t : Nd} (h : (packP t).2 = 0) : checkE t = 0 ∧ (cntP t).1 ≤ 5000 ∧ packP t = ((sdP t []).1, 0) := by
  unfold packP at h ⊢
  by_cases hc : checkE t ≠ 0
  · rw [if_pos hc] at h; exact absurd h hc
  · rw [if_neg hc] at h ⊢
    by_cases hn : 5000 < (cntP t).1
    · rw [if_pos hn] at h; cases h
    · rw [if_neg hn]; exact ⟨Classical.not_not.1 hc, by omega, rfl⟩
theorem unp_pack {t : Nd} (h : (packP t).2 = 0) (hs : sz t ≤ 200000) : unpP (packP t).1 = (t, 0) := by
  obtain ⟨h0, hc, he⟩ := packP_ok h
  rw [he]
  have hl := sd_size t [] (by rw [List.length_nil]; omega)
  have ho := one_rt (check_valK h0) 403 (by omega) [] 5000 [] (by omega) (by rw [List.length_nil]; omega)
  rw [List.append_nil] at ho
  unfold unpP
  dsimp only
  rw [if_neg (by omega), ho]
  dsimp only
  rw [if_neg (by rintro (h | h); · exact absurd h (by decide)
                 · exact h he)]
def lf11 : Nd := .mk 1 [1] false [118] [] []
def ks11 : List Nd := ((noneNs 16).set 0 lf11).set 2 lf11
def kt11 : Nd := .mk 3 [] false [] ks11 []
def kb11 : List UInt8 := [3, 0, 160, 0, 1, 1, 49, 1, 118, 5, 0]
set_option maxRecDepth 100000 in
theorem kt11_p : packP kt11 = (kb11, 0) := by decide +kernel
set_option maxRecDepth 100000 in
theorem kt11_z : sz kt11 ≤ 1000 := by decide +kernel
theorem kt11_u : unpP kb11 = (kt11, 0) := by
  have h := unp_pack (t := kt11) (by rw [kt11_p]) (by have := kt11_z; omega)
  rwa [kt11_p] at h
set_option maxRecDepth 100000 in
theorem kt11_b : (unpP [5, 0]).2 = 11 := by decide +kernel
set_option maxRecDepth 100000 in
set_option maxHeartbeats 4000000 in
theorem known11_any (gs : List (Option Nat)) (w : World) (hgs : ∀ b, some b ∈ gs → b < w.heap.size) : Calls Try.prog 19 #[] w fun e w' => e = .returned (.bool true) ∧ Below w.heap.size w w' := by
  refine calls_ev (args := []) mixed Try.func19 rfl (by kernel_rfl) ?_
  have M := St.start (w := w) (gs := gs) hgs
  refine s_bsliceB (bvs [118]) M slb (zs := [.int .u8 0]) (by kernel_rfl) rfl (by decide) rfl ?_
  clear M; rintro g1 W M
  refine s_cvtB [118] M rfl rfl (Nat.le_refl _) ?_
  clear M; rintro W M
  refine s_mkN M rfl rfl ?_
  clear M; rintro gk W M
  replace M := M.addT (fr := false) (ds := dNs (noneNs 16)) (cs := zNs 16) (RdL.znones 16)
  refine p_build (vs := ncs kt11 none 0 none 0 (some ⟨gk, 0, none⟩) 16 none 0) pl_nd z_nd rfl ?_
  refine s_alloc (zN) M al_nd ?_
  clear M
  rintro g2 W M
  refine s_storeA 0 (ncs kt11 none 0 none 0 (some ⟨gk, 0, none⟩) 16 none 0) M rfl sz_nd rfl rfl rfl (all1 rfl) rfl ?_
  clear M; rintro W M
  dsimp only [setL] at M
  -- the first leaf
  refine p_fld fN4 rfl ?_
  refine v_load agg_ns rfl ((M.B 0 rfl).at_ rfl) ?_
  refine s_bslice (bvs [1]) (fr := true) (ds := (bvs [1]).map D.v) M slb (zs := [.int .u8 0]) (by kernel_rfl) rfl (by decide) rfl (RdL.ofvals _) rfl ?_
  clear M; rintro g3 W M
  refine p_build (vs := ncs lf11 (some ⟨g3, 0, none⟩) 1 (some ⟨g1, 0, none⟩) 1 none 0 none 0) pl_nd z_nd rfl ?_
  refine p_atL (i := 0) (q := 0) sln rfl rfl rfl (by decide) (by decide) ?_
  have hxl := (M.dw 1 rfl).len
  refine s_storeP 1 (n := 6) (off := 0) (ncs lf11 (some ⟨g3, 0, none⟩) 1 (some ⟨g1, 0, none⟩) 1 none 0 none 0) _ M rfl sz_nd rfl rfl rfl (all1 rfl) (by rw [hxl, dNs_len]; decide) rfl ?_
  clear M; rintro W M
  dsimp only [setL] at M
  have hst := RdL.ofnode (t := lf11) (M.dw 0 rfl).hd (M.dw 2 rfl).hd (RdD.nil_ (s := 6) none 0) (RdD.nil_ (s := 1) none 0)
  have hX := M.dw 1 rfl
  have hX2 := ((hX.take 0).app hst).app (hX.drop 6)
  rw [show dNs (noneNs 16) = dNs (noneNs 16) from rfl] at hX2
  replace hX2 : RdL W _ ((dNs (noneNs 16)).take (0 * 6) ++ dN lf11 ++ (dNs (noneNs 16)).drop (0 * 6 + 6)) _ := hX2
  rw [← dNs_set lf11 (by decide)] at hX2
  replace M := M.addT (fr := false) hX2
  clear hX hX2 hst hxl
  -- the other leaf
  refine p_fld fN4 rfl ?_
  refine v_load agg_ns rfl ((M.B 0 rfl).at_ rfl) ?_
  refine s_bslice (bvs [1]) (fr := true) (ds := (bvs [1]).map D.v) M slb (zs := [.int .u8 0]) (by kernel_rfl) rfl (by decide) rfl (RdL.ofvals _) rfl ?_
  clear M; rintro g4 W M
  refine p_build (vs := ncs lf11 (some ⟨g4, 0, none⟩) 1 (some ⟨g1, 0, none⟩) 1 none 0 none 0) pl_nd z_nd rfl ?_
  refine p_atL (i := 2) (q := 12) sln rfl rfl rfl (by decide) (by decide) ?_
  have hxl := (M.dw 1 rfl).len
  refine s_storeP 1 (n := 6) (off := 12) (ncs lf11 (some ⟨g4, 0, none⟩) 1 (some ⟨g1, 0, none⟩) 1 none 0 none 0) _ M rfl sz_nd rfl rfl rfl (all1 rfl) (by rw [hxl, dNs_len]; decide) rfl ?_
  clear M; rintro W M
  dsimp only [setL] at M
  have hst := RdL.ofnode (t := lf11) (M.dw 0 rfl).hd (M.dw 4 rfl).hd (RdD.nil_ (s := 6) none 0) (RdD.nil_ (s := 1) none 0)
  have hX := M.dw 1 rfl
  have hX2 := ((hX.take 12).app hst).app (hX.drop 18)
  replace hX2 : RdL W _ ((dNs ((noneNs 16).set 0 lf11)).take (2 * 6) ++ dN lf11 ++ (dNs ((noneNs 16).set 0 lf11)).drop (2 * 6 + 6)) _ := hX2
  rw [← dNs_set lf11 (by decide)] at hX2
  replace M := (M.addT (fr := false) hX2).permL (List.Perm.swap ..)
  clear hX hX2 hst hxl
  replace M := M.frzB (fr := false) (s := 6) (n := 16) (c := 16) (M.dw 0 rfl) (by rw [dNs_len]; rfl) (Nat.le_refl _)
  replace M := M.addT (fr := false) (RdL.ofnode (t := kt11) (RdD.nil_ (s := 1) none 0) (RdD.nil_ (s := 1) none 0) (M.dw 0 rfl).hd (RdD.nil_ (s := 1) none 0))
  replace M := M.fsub [.dat false (dN kt11) (ncs kt11 none 0 none 0 (some ⟨gk, 0, none⟩) 16 none 0)] (by simp)
  have p1 := kt11_p
  have p2 := kt11_u
  have p3 := kt11_b
  have hz := kt11_z
  obtain ⟨t, ht⟩ : ∃ t, t = kt11 := ⟨_, rfl⟩
  rw [← ht] at M p1 p2 hz
  clear ht
  refine v_loadN (ncs t none 0 none 0 (some ⟨gk, 0, none⟩) 16 none 0) agg_nd rfl rfl (M.run 0 rfl) ?_
  refine cc is_pPack (ppack_any t (by omega) _ _ _ (M.da 0 rfl) M.olt) ?_
  rintro e W ⟨A2, n2, c2, he, o, hb⟩
  rw [p1] at he o
  subst he
  have hn : 11 = n2 := o.len
  subst hn
  replace M := M.callO hb o
  clear o hb
  refine ⟨_, rfl, ?_⟩
  refine cc is_pUnpack (punpack_any kb11 _ _ _ 11 c2 (M.d1 0 rfl) M.olt (by decide)) ?_
  rintro e W ⟨cs3, he, r3, hb⟩
  rw [p2] at he r3
  subst he
  dsimp only at r3
  obtain ⟨Ap, cp, Av, cv, Ak, ck, Ah, ch, rfl, -⟩ := id r3.node
  replace M := M.callF hb r3
  clear r3 hb
  refine ⟨_, rfl, ?_⟩
  refine s_alloc (zN) M al_nd ?_
  clear M
  rintro g5 W M
  first | refine s_storeA 0 (ncs t Ap cp Av cv Ak ck Ah ch) M rfl (by kernel_rfl) rfl rfl rfl (all1 rfl) rfl ?_ | refine s_storeA 1 (ncs t Ap cp Av cv Ak ck Ah ch) M rfl (by kernel_rfl) rfl rfl rfl (all1 rfl) rfl ?_ | refine s_storeA 2 (ncs t Ap cp Av cv Ak ck Ah ch) M rfl (by kernel_rfl) rfl rfl rfl (all1 rfl) rfl ?_ | refine s_storeA 3 (ncs t Ap cp Av cv Ak ck Ah ch) M rfl (by kernel_rfl) rfl rfl rfl (all1 rfl) rfl ?_
  clear M
  rintro W M
  dsimp only [setL] at M
  refine s_bslice (bvs [5, 0]) (fr := true) (ds := (bvs [5, 0]).map D.v) M slb (zs := [.int .u8 0]) (by kernel_rfl) rfl (by decide) rfl (RdL.ofvals _) rfl ?_
  clear M; rintro g6 W M
  refine cc is_pUnpack (punpack_any [5, 0] _ _ _ _ _ (M.d1 0 rfl) M.olt (by decide)) ?_
  rintro e W ⟨cs4, he, r4, hb⟩
  rw [p3] at he
  subst he
  have hc4 := r4.len
  rw [dN_len] at hc4
  replace M := M.callF hb r4
  clear r4 hb
  refine ⟨_, rfl, ?_⟩
  refine s_alloc (zN) M al_nd ?_
  clear M
  rintro g7 W M
  refine s_storeA 0 cs4 M rfl sz_nd rfl rfl hc4 ((M.da 0 rfl).ones (dN_one _)) rfl ?_
  clear M; rintro W M
  dsimp only [setL] at M
  refine s_bslice (bvs kb11) (fr := true) (ds := (bvs kb11).map D.v) M slb (zs := [.int .u8 0]) (by kernel_rfl) rfl (by decide) rfl (RdL.ofvals _) rfl ?_
  clear M; rintro g8 W M
  obtain ⟨q, hq, hc⟩ := same_tf (c1 := c2) (c2 := 11) (M.rdb (l := kb11) 4 rfl).2.2 (M.rdb (l := kb11) 0 rfl).2.2
  obtain rfl := hq.2 rfl
  refine cc is_same0 hc ?_
  rintro e W' ⟨rfl, rfl⟩
  refine ⟨_, rfl, ?_⟩
  clear hq hc
  refine p_eq rfl rfl (fun _ => ?_) (fun e => absurd rfl e)
  refine p_eq rfl rfl (fun _ => ?_) (fun e => absurd rfl e)
  refine v_loadN (ncs t Ap cp Av cv Ak ck Ah ch) agg_nd rfl rfl (M.run 1 rfl) ?_
  refine v_loadN (ncs t none 0 none 0 (some ⟨gk, 0, none⟩) 16 none 0) agg_nd rfl rfl (M.run 2 rfl) ?_
  refine cc is_r7same (rsame_any 2000000 (by decide) t (by omega) t _ _ (ncs t Ap cp Av cv Ak ck Ah ch) (ncs t none 0 none 0 (some ⟨gk, 0, none⟩) 16 none 0) (M.da 3 rfl) (M.da 5 rfl) M.olt (by omega)) ?_
  rintro e W ⟨q, rfl, hq, hb⟩
  obtain rfl := hq.2 rfl
  replace M := M.call hb
  clear hb hq
  refine ⟨_, rfl, ?_⟩
  refine p_eq rfl rfl (fun _ => ?_) (fun e => absurd rfl e)
  refine v_loadN (ncs t none 0 none 0 (some ⟨gk, 0, none⟩) 16 none 0) agg_nd rfl rfl (M.run 2 rfl) ?_
  refine cc is_pSize (psize_any t (by omega) _ _ _ (M.da 5 rfl) M.olt) ?_
  rintro e W ⟨he, hb⟩
  rw [p1] at he
  subst he
  replace M := M.call hb
  refine ⟨_, rfl, ?_⟩
  refine p_eq rfl rfl (fun _ => ?_) (fun e => absurd rfl e)
  exact ⟨rfl, M.below⟩
end Go.Proofs.Ytliccofjlheceaa
namespace Go.Proofs.Ytliccofjlheceaa
open Go.RowKit
theorem cnt_fold (t : Nd) : (cntP (foldN t)).1 = if t.kind = 0 then 0 else 1 := by
  unfold foldN
  split
  · rfl
  · rw [cntP, cntsP]; rfl
theorem cnt_ge (t : Nd) (h : t.kind ≠ 0) : 1 ≤ (cntP t).1 := by rw [cntP_eq, if_neg h]; dsimp only; omega
theorem onP_p {S : List UInt8 → Bool} {k : Int} {p v h a : List UInt8} {has : Bool} {ks : List Nd} (hc : S a = false ∨ k = 4) : onP S (.mk k p has v ks h) a = foldN (.mk k p has v ks h) := by rw [onP_eq]; exact if_pos hc
theorem onP_n {S : List UInt8 → Bool} {k : Int} {p v h a : List UInt8} {has : Bool} {ks : List Nd} (hc : ¬ (S a = false ∨ k = 4)) : onP S (.mk k p has v ks h) a = .mk k p has v (onsP S ks (a ++ p) (decide (k = 3)) 0) h := by rw [onP_eq]; exact if_neg hc
mutual
theorem cnt_le {S S' : List UInt8 → Bool} (hS : ∀ q, S q = true → S' q = true) : ∀ (t : Nd) (a : List UInt8), (cntP (onP S t a)).1 ≤ (cntP (onP S' t a)).1
  | .mk k p has v ks h, a => by
    by_cases hc : S a = false ∨ k = 4
    · rw [onP_p hc, cnt_fold]
      split
      · exact Nat.zero_le _
      · next hk => exact cnt_ge _ (fun e => hk ((onP_k0 _ _ _).1 e))
    · have h1 : S a = true := by
        cases h : S a with
        | false => exact absurd (.inl h) hc
        | true => rfl
      have hc' : ¬ (S' a = false ∨ k = 4) := by
        rintro (h | h)
        · rw [hS a h1] at h; cases h
        · exact hc (.inr h)
      rw [onP_n hc, onP_n hc', cntP, cntP]
      have := cnts_le hS ks (a ++ p) (decide (k = 3)) 0
      exact Nat.add_le_add_left this _
theorem cnts_le {S S' : List UInt8 → Bool} (hS : ∀ q, S q = true → S' q = true) : ∀ (ks : List Nd) (b : List UInt8) (br : Bool) (i : Nat), (cntsP (onsP S ks b br i)).1 ≤ (cntsP (onsP S' ks b br i)).1
  | [], b, br, i => by rw [onsP, onsP]; exact Nat.le_refl _
  | t :: ts, b, br, i => by
    rw [onsP, onsP, cntsP, cntsP]
    exact Nat.add_le_add (cnt_le hS t _) (cnts_le hS ts b br (i + 1))
end
mutual
theorem cnt_on (S : List UInt8 → Bool) : ∀ (t : Nd) (a : List UInt8), (cntP (onP S t a)).1 ≤ (cntP t).1
  | .mk k p has v ks h, a => by
    by_cases hc : S a = false ∨ k = 4
    · rw [onP_p hc, cnt_fold]
      split
      · exact Nat.zero_le _
      · next hk => exact cnt_ge _ hk
    · rw [onP_n hc, cntP, cntP]
      exact Nat.add_le_add_left (cnts_on S ks (a ++ p) (decide (k = 3)) 0) _
theorem cnts_on (S : List UInt8 → Bool) : ∀ (ks : List Nd) (b : List UInt8) (br : Bool) (i : Nat), (cntsP (onsP S ks b br i)).1 ≤ (cntsP ks).1
  | [], b, br, i => by rw [onsP]; exact Nat.le_refl _
  | t :: ts, b, br, i => by
    rw [onsP, cntsP, cntsP]
    exact Nat.add_le_add (cnt_on S t _) (cnts_on S ts b br (i + 1))
end
mutual
theorem much_cnt : ∀ (t : Nd) (most : Nat), muchP t most < most → (cntP t).1 ≤ muchP t most
  | .mk k p _ v ks h, most, hm => by
    rw [muchP] at hm ⊢
    rw [cntP]
    have := muchK_cnt ks most _ hm
    dsimp only
    split <;> omega
theorem muchK_cnt : ∀ (ks : List Nd) (most m : Nat), muchK ks most m < most → (cntsP ks).1 + m ≤ muchK ks most m
  | [], most, m, _ => by rw [muchK, cntsP]; exact Nat.le_of_eq (Nat.zero_add m)
  | k :: ks, most, m, hm => by
    rw [muchK] at hm ⊢
    rw [cntsP]
    by_cases h : m < most
    · rw [if_pos h] at hm ⊢
      have h1 := muchK_cnt ks most _ hm
      have h2 : m + muchP k (most - m) ≤ muchK ks most (m + muchP k (most - m)) := muchK_ge ks most _
      have h3 := much_cnt k (most - m) (by omega)
      dsimp only
      omega
    · rw [if_neg h] at hm; omega
end
theorem much11_cnt {t : Nd} (h : decide (500 ≤ muchP t 500) = false) : (cntP t).1 ≤ 5000 := by
  rw [decide_eq_false_iff_not] at h
  have := much_cnt t 500 (by omega)
  omega
theorem val_check {t : Nd} (h : Val true t 0) : checkE t = 0 := by unfold checkE; rw [right_of_val h, if_pos rfl]
theorem pack_val {t : Nd} (h : Val true t 0) (hc : (cntP t).1 ≤ 5000) : packP t = ((sdP t []).1, 0) := by
  unfold packP
  rw [if_neg (fun e => e (val_check h)), if_neg (by omega)]
theorem pack_fold {t : Nd} (h : Val true t 0) (hk : t.kind ≠ 0) : (packP (foldN t)).1.length = 33 := by
  have hv : Val true (foldN t) 0 := by
    have := on_val (fun _ => false) [] h
    rwa [onP_shut rfl] at this
  have hc : (cntP (foldN t)).1 ≤ 5000 := by rw [cnt_fold, if_neg hk]; decide
  rw [pack_val hv hc]
  have e : foldN t = .mk 4 [] false [] [] (hashR t) := by unfold foldN; rw [if_neg hk]
  rw [e, sdP_none (idxN_none.2 fun x hx => by cases hx)]
  show (headP _ ++ (sdK [] []).1).length = 33
  rw [sdK, List.append_nil]
  unfold headP
  rw [if_pos (show (Nd.mk 4 [] false [] [] (hashR t)).kind = 4 from rfl)]
  show (hashR t).length + 1 = 33
  rw [hashR_val h, hashP_len h]
end Go.Proofs.Ytliccofjlheceaa
namespace Go.Proofs.Ytliccofjlheceaa
open Go.RowKit
theorem is_tonW : isFn Try.prog 59 = true := by kernel_rfl
theorem is_tonlyW : isFn Try.prog 30 = true := by kernel_rfl
theorem RdD.bl {w W : World} {d : D} {u : Value} (h : RdD w (Fd w []) d u) (hb : Below w.heap.size w W) : RdD W (Fd W []) d u := h.up (Stp.below hb)
def TOnWk (t : Nd) : Prop := ∀ (a : List UInt8) (ways : List (List UInt8)) (gs : List (Option Nat)) (w : World) (cs : List Value) (A : Option Addr) (n c : Nat) (B : Option Addr) (m d : Nat), RdL w (Fd w gs) (dN t) cs → RdD w (Fd w gs) (dB a) (.slice A n c) → RdD w (Fd w []) (dLs ways) (.slice B m d) → (∀ b, some b ∈ gs → b < w.heap.size) → n + sz t ≤ 10000000 → m ≤ 1000000 → (∀ l ∈ ways, l.length ≤ 10000000) →
  Calls Try.prog 59 #[.agg cs.toArray, .slice A n c, .slice B m d] w fun e w' => ∃ cs', e = .returned (.agg cs'.toArray) ∧ RdL w' (Fd w' gs) (dN (onP (Sof ways) t a)) cs' ∧ Below w.heap.size w w'
set_option maxRecDepth 100000 in
set_option maxHeartbeats 4000000 in
theorem tonW_step (N : Nat) (ih : ∀ k : Nd, sz k < N → TOnWk k) (t : Nd) (ht : sz t ≤ N) (hN : N ≤ 1000000) : TOnWk t := by
  intro a ways gs w cs A n c B m d hr ha hw hgs hna hm hwl
  refine calls_ev (args := [.agg cs.toArray, .slice A n c, .slice B m d]) mixed Try.func59 rfl (by kernel_rfl) ?_
  obtain ⟨Ap, cp, Av, cv, Ak, ck, Ah, ch, rfl, r1, r3, r4, r5⟩ := id hr.node
  have hsz := sz_eq t
  have hsl := szs_len t.kids
  have en := ha.slen
  have em : m = ways.length := hw.slen
  subst em
  have M := ((((((St.start hgs).addL hr).addD r5).addD r3).addD r1).addD r4).addD ha
  clear hr r1 r3 r4 r5 ha
  refine s_box (ncs t Ap cp Av cv Ak ck Ah ch) M rfl ?_
  clear M
  rintro g3 W M
  refine s_alloc (zN) M al_nd ?_
  clear M
  rintro g6 W M
  refine lp (Nat × Bool) (fun s W => s.1 ≤ ways.length ∧ s.2 = Sof (ways.take s.1) a ∧ St w gs W [(g6, 38, zN), (g3, 38, ncs t Ap cp Av cv Ak ck Ah ch)] [] [.dat false [dB a] [.slice A n c], .dat false [dKs t.kids] [.slice Ak t.kids.length ck], .dat false [dB t.path] [.slice Ap t.path.length cp], .dat false [dB t.val] [.slice Av t.val.length cv], .dat false [dB t.hash] [.slice Ah t.hash.length ch], .dat false (dN t) (ncs t Ap cp Av cv Ak ck Ah ch)])
    (fun s => [(1, .slice A n c), (2, .slice B ways.length d), (3, .pointer (some ⟨g3, 0, none⟩)), (6, .pointer (some ⟨g6, 0, none⟩)), (7, .bool s.2), (8, .int .i64 (s.1 : Nat))]) (fun s => ways.length - s.1) (0, false) ⟨Nat.zero_le _, rfl, M⟩ (by repeat (first | exact trivial | refine ⟨rfl, ?_⟩)) ?_
  clear M
  rintro ⟨i, lies⟩ E1 W1 ⟨hi, hlies, M⟩
  dsimp only at hi hlies M
  refine p_len slls rfl ?_
  refine p_lt rfl rfl (fun hlt => ?_) (fun hge => ?_)
  · have hlt : i < ways.length := by have h : (i : Int) < (ways.length : Int) := hlt; omega
    obtain ⟨l, hl⟩ : ∃ l, ways[i]? = some l := ⟨_, List.getElem?_eq_getElem hlt⟩
    have hl2 : i < ways.length := hlt
    have hll := hwl l (List.mem_of_getElem? hl)
    have htk : Sof (ways.take (i + 1)) a = (Sof (ways.take i) a || decide (a <+: l)) := by
      rw [List.take_add_one, hl]
      unfold Sof
      rw [List.any_append]
      congr 1
      show (decide (a <+: l) || false) = _
      rw [Bool.or_false]
    cases lies with
    | true =>
      refine p_addN (b := 1) rfl rfl (by dsimp only; omega) ?_
      exact ⟨(i + 1, true), ⟨by dsimp only; omega, by dsimp only; rw [htk, ← hlies]; rfl, M⟩, (by repeat (first | exact trivial | refine ⟨rfl, ?_⟩)), by dsimp only; omega⟩
    | false =>
      obtain ⟨b1, o1, A8, c8, e1, hF, r8, hcell⟩ := (hw.bl M.below).atL hl
      subst e1
      refine p_at (i := i) slls rfl rfl rfl hl2 ?_
      refine v_load agg_b rfl hcell ?_
      clear hcell hF
      have hc8 := r8.scap
      refine cc is_begins (begins_any _ _ _ _ c8 c l a _ (r8.rd Fd.lt).2.2 hc8 (M.rdb 0 rfl).2.2 (by omega) (by omega)) ?_
      rintro e W ⟨q, rfl, hq, hbb⟩
      replace M := M.call hbb
      clear hbb
      refine ⟨_, rfl, ?_⟩
      refine p_addN (b := 1) rfl rfl (by dsimp only; omega) ?_
      have hqd : q = decide (a <+: l) := by
        by_cases h : a <+: l
        · rw [decide_eq_true h]; exact hq.2 h
        · rw [decide_eq_false h]
          cases q with
          | false => rfl
          | true => exact absurd (hq.1 rfl) h
      exact ⟨(i + 1, q), ⟨by dsimp only; omega, by dsimp only; rw [htk, ← hlies, hqd]; rfl, M.fsub _ (by simp)⟩, (by repeat (first | exact trivial | refine ⟨rfl, ?_⟩)), by dsimp only; omega⟩
  have hge : i = ways.length := by have h : ¬ (i : Int) < (ways.length : Int) := hge; omega
  subst hge
  rw [List.take_length] at hlies
  obtain ⟨S, hS⟩ : ∃ S, S = Sof ways := ⟨_, rfl⟩
  rw [← hS] at hlies ⊢
  refine p_not rfl ?_
  cases lies with
  | false =>
    rw [onP_shut hlies.symm]
    refine v_loadN (ncs t Ap cp Av cv Ak ck Ah ch) agg_nd rfl rfl (M.run 1 rfl) ?_
    refine cc is_r7fold (rfold_any t (by omega) _ _ _ (M.da 5 rfl) M.olt) ?_
    rintro e W ⟨csf, rfl, rf, hb⟩
    have hcf := rf.len
    rw [dN_len] at hcf
    replace M := M.callF hb rf
    clear rf hb
    refine ⟨_, rfl, ?_⟩
    refine s_storeA 0 csf M rfl sz_nd rfl rfl hcf ((M.da 0 rfl).ones (dN_one _)) rfl ?_
    clear M; rintro W M
    dsimp only [setL] at M
    refine c_loadN csf agg_nd rfl hcf (M.run 0 rfl) ?_
    exact ⟨csf, rfl, M.fin 0 rfl, M.below⟩
  | true =>
  refine p_fld fN0 rfl ?_
  refine v_load agg_int rfl ((M.B 1 rfl).at_ rfl) ?_
  refine p_eq rfl rfl (fun h4 => ?_) (fun h4 => ?_)
  · have h4 : t.kind = 4 := h4
    rw [onP_eq, if_pos (.inr h4)]
    refine v_loadN (ncs t Ap cp Av cv Ak ck Ah ch) agg_nd rfl rfl (M.run 1 rfl) ?_
    refine cc is_r7fold (rfold_any t (by omega) _ _ _ (M.da 5 rfl) M.olt) ?_
    rintro e W ⟨csf, rfl, rf, hb⟩
    have hcf := rf.len
    rw [dN_len] at hcf
    replace M := M.callF hb rf
    clear rf hb
    refine ⟨_, rfl, ?_⟩
    refine s_storeA 0 csf M rfl sz_nd rfl rfl hcf ((M.da 0 rfl).ones (dN_one _)) rfl ?_
    clear M; rintro W M
    dsimp only [setL] at M
    refine c_loadN csf agg_nd rfl hcf (M.run 0 rfl) ?_
    exact ⟨csf, rfl, M.fin 0 rfl, M.below⟩
  have h4 : ¬ t.kind = 4 := h4
  rw [onP_open hlies.symm h4]
  obtain ⟨ks, hks⟩ : ∃ ks, ks = onsP S t.kids (a ++ t.path) (decide (t.kind = 3)) 0 := ⟨_, rfl⟩
  have hkl : ks.length = t.kids.length := by rw [hks, onsP_len]
  have hkg : ∀ j k, t.kids[j]? = some k → ks[j]? = some (onP S k (a ++ t.path ++ if decide (t.kind = 3) = true then [UInt8.ofNat j] else [])) := fun j k hj => by rw [hks, onsP_get, hj, Nat.zero_add]; rfl
  rw [← hks]
  clear hks hlies
  replace M := (M.nilR 38 6).addT (fr := false) (ds := dNs []) (cs := []) RdL.nil_
  have e0 : ks.take 0 = [] := List.take_zero
  refine lp (Nat × Option Addr × Nat × List Value) (fun s W => s.1 ≤ t.kids.length ∧ St w gs W [(g6, 38, zN), (g3, 38, ncs t Ap cp Av cv Ak ck Ah ch)] [⟨38, 6, s.2.1, s.1, s.2.2.1, s.2.2.2⟩] [.dat false (dNs (ks.take s.1)) s.2.2.2, .dat false [dB a] [.slice A n c], .dat false [dKs t.kids] [.slice Ak t.kids.length ck], .dat false [dB t.path] [.slice Ap t.path.length cp], .dat false [dB t.val] [.slice Av t.val.length cv], .dat false [dB t.hash] [.slice Ah t.hash.length ch]])
    (fun s => [(1, .slice A n c), (2, .slice B ways.length d), (3, .pointer (some ⟨g3, 0, none⟩)), (6, .pointer (some ⟨g6, 0, none⟩)), (9, .slice s.2.1 s.1 s.2.2.1), (10, .int .i64 (s.1 : Nat))]) (fun s => t.kids.length - s.1) (0, none, 0, []) ⟨Nat.zero_le _, by dsimp only; rw [e0]; exact M.fsub _ (by simp)⟩ (by repeat (first | exact trivial | refine ⟨rfl, ?_⟩)) ?_
  clear M
  rintro ⟨i, A9, c9, xs⟩ E W ⟨hi, M⟩
  dsimp only at hi M
  refine p_fld fN4 rfl ?_
  refine v_load agg_ns rfl ((M.B 1 rfl).at_ rfl) ?_
  refine p_len sln rfl ?_
  refine p_lt rfl rfl (fun hlt => ?_) (fun hge => ?_)
  · have hlt : i < t.kids.length := by have h : (i : Int) < (t.kids.length : Int) := hlt; omega
    obtain ⟨k, hk⟩ : ∃ k, t.kids[i]? = some k := ⟨_, List.getElem?_eq_getElem hlt⟩
    have hkz := szs_mem (List.mem_of_getElem? hk)
    have hkk := hkg i k hk
    replace M := M.nilR 5 1
    refine s_appB (l := []) M rfl rfl (M.rdb 1 rfl).2.2 (by omega) ?_
    clear M; rintro A4 c4 W M -
    refine p_fld fN1 rfl ?_
    refine v_load agg_b rfl ((M.B 1 rfl).at_ rfl) ?_
    refine s_appB M rfl rfl (M.rdb 3 rfl).2.2 (by omega) ?_
    clear M; rintro A5 c5 W M -
    rw [List.nil_append] at M
    refine p_fld fN0 rfl ?_
    refine v_load agg_int rfl ((M.B 1 rfl).at_ rfl) ?_
    refine p_eq rfl rfl (fun h3 => ?_) (fun h3 => ?_)
    · have h3 : t.kind = 3 := h3
      rw [decide_eq_true h3, if_pos rfl] at hkk
      refine v_cvt u_ints u_u8 rfl (r := ((i % 256 : Nat) : Int)) (by rw [IntKind.wrap_u8']; omega) ?_
      refine s_litB [.int .u8 ((i % 256 : Nat) : Int)] [UInt8.ofNat i] M (by decide) rfl (bvs1 i) rfl ?_
      clear M; rintro g9 W M
      replace M := M.frzO
      refine s_appB M rfl rfl (M.rdb 0 rfl).2.2 (by omega) ?_
      clear M; rintro A7 c7 W M -
      replace M := M.frzO
      obtain ⟨b1, o1, es, e1, hel, M'⟩ := M.kid (M.d1 4 rfl) hk
      replace M := M'; clear M'
      refine p_fld fN4 rfl ?_
      refine v_load agg_ns rfl ((M.B 1 rfl).at_ rfl) ?_
      refine p_at (i := i) sln (by show (Value.slice Ak t.kids.length ck) = _; rw [e1]) rfl rfl hlt ?_
      refine v_loadN es agg_nd rfl hel (M.lc 0 rfl) ?_
      have co := ih k (by omega) (a ++ t.path ++ [UInt8.ofNat i]) ways _ _ es _ _ _ _ _ _ (M.da 1 rfl) (M.d1 2 rfl) (hw.bl M.below) M.olt (by omega) hm hwl
      rw [← hS] at co
      refine cc is_tonW co ?_
      clear co
      rintro e W ⟨csf, rfl, rf, hb⟩
      obtain ⟨Bp, dp, Bv, dv, Bk, dk, Bh, dh, rfl, -⟩ := rf.node
      replace M := (M.call hb).addL rf
      clear rf hb
      refine ⟨_, rfl, ?_⟩
      refine s_bsliceB (ncs (onP S k (a ++ t.path ++ [UInt8.ofNat i])) Bp dp Bv dv Bk dk Bh dh) M sln z_nd rfl (by decide) rfl ?_
      clear M; rintro g9 W M
      refine s_app M Try.underlying36 inf_nd rfl (by decide) rfl rfl (Reads.blk (M.B 0 rfl) rfl) (all1 rfl) ⟨by omega, by decide⟩ ?_
      clear M; rintro A6 c6 W M -
      have hX := (M.dw 5 rfl).app (M.dw 0 rfl)
      have hst : ks.take (i + 1) = ks.take i ++ [onP S k (a ++ t.path ++ [UInt8.ofNat i])] := by rw [List.take_add_one, hkk]; rfl
      have hdk : dNs (ks.take i) ++ dN (onP S k (a ++ t.path ++ [UInt8.ofNat i])) = dNs (ks.take (i + 1)) := by rw [hst, dNs_app, dNs, dNs, List.append_nil]
      rw [hdk] at hX
      refine p_addN (b := 1) rfl rfl (by dsimp only; omega) ?_
      exact ⟨(i + 1, A6, c6, xs ++ ncs (onP S k (a ++ t.path ++ [UInt8.ofNat i])) Bp dp Bv dv Bk dk Bh dh), ⟨by dsimp only; omega, (M.addT hX).dropL.fsub _ (by simp)⟩, (by repeat (first | exact trivial | refine ⟨rfl, ?_⟩)), by dsimp only; omega⟩
    · have h3 : ¬ t.kind = 3 := h3
      rw [decide_eq_false h3, if_neg (by decide), List.append_nil] at hkk
      replace M := M.frzO
      obtain ⟨b1, o1, es, e1, hel, M'⟩ := M.kid (M.d1 3 rfl) hk
      replace M := M'; clear M'
      refine p_fld fN4 rfl ?_
      refine v_load agg_ns rfl ((M.B 1 rfl).at_ rfl) ?_
      refine p_at (i := i) sln (by show (Value.slice Ak t.kids.length ck) = _; rw [e1]) rfl rfl hlt ?_
      refine v_loadN es agg_nd rfl hel (M.lc 0 rfl) ?_
      have co := ih k (by omega) (a ++ t.path) ways _ _ es _ _ _ _ _ _ (M.da 1 rfl) (M.d1 2 rfl) (hw.bl M.below) M.olt (by omega) hm hwl
      rw [← hS] at co
      refine cc is_tonW co ?_
      clear co
      rintro e W ⟨csf, rfl, rf, hb⟩
      obtain ⟨Bp, dp, Bv, dv, Bk, dk, Bh, dh, rfl, -⟩ := rf.node
      replace M := (M.call hb).addL rf
      clear rf hb
      refine ⟨_, rfl, ?_⟩
      refine s_bsliceB (ncs (onP S k (a ++ t.path)) Bp dp Bv dv Bk dk Bh dh) M sln z_nd rfl (by decide) rfl ?_
      clear M; rintro g9 W M
      refine s_app M Try.underlying36 inf_nd rfl (by decide) rfl rfl (Reads.blk (M.B 0 rfl) rfl) (all1 rfl) ⟨by omega, by decide⟩ ?_
      clear M; rintro A6 c6 W M -
      have hX := (M.dw 4 rfl).app (M.dw 0 rfl)
      have hst : ks.take (i + 1) = ks.take i ++ [onP S k (a ++ t.path)] := by rw [List.take_add_one, hkk]; rfl
      have hdk : dNs (ks.take i) ++ dN (onP S k (a ++ t.path)) = dNs (ks.take (i + 1)) := by rw [hst, dNs_app, dNs, dNs, List.append_nil]
      rw [hdk] at hX
      refine p_addN (b := 1) rfl rfl (by dsimp only; omega) ?_
      exact ⟨(i + 1, A6, c6, xs ++ ncs (onP S k (a ++ t.path)) Bp dp Bv dv Bk dk Bh dh), ⟨by dsimp only; omega, (M.addT hX).dropL.fsub _ (by simp)⟩, (by repeat (first | exact trivial | refine ⟨rfl, ?_⟩)), by dsimp only; omega⟩
  · have hge : i = t.kids.length := by have h : ¬ (i : Int) < (t.kids.length : Int) := hge; omega
    subst hge
    rw [← hkl, List.take_length] at M
    rw [hkl] at M
    replace M := M.frzR (fr := false) (M.dt 0 rfl)
    dsimp only at M
    refine p_fld fN4 rfl ?_
    refine s_set 1 (off := 4) (.slice A9 t.kids.length c9) (ncs t Ap cp Av cv A9 c9 Ah ch) M rfl sz_nsR rfl rfl rfl (Nat.le_of_ble_eq_true rfl) rfl ?_
    clear M; rintro W M
    dsimp only [setL] at M
    refine v_loadN (ncs t Ap cp Av cv A9 c9 Ah ch) agg_nd rfl rfl (M.run 1 rfl) ?_
    refine s_storeA 0 (ncs t Ap cp Av cv A9 c9 Ah ch) M rfl sz_nd rfl rfl rfl (all1 rfl) rfl ?_
    clear M; rintro W M
    dsimp only [setL] at M
    refine c_loadN (ncs t Ap cp Av cv A9 c9 Ah ch) agg_nd rfl rfl (M.run 0 rfl) ?_
    have hkd : RdD W (Fd W gs) (dKs ks) (.slice A9 ks.length c9) := by
      have h := M.fin1 0 rfl
      unfold dKs
      rw [hkl]; exact h
    have hn := RdL.ofnode (t := .mk t.kind t.path t.has t.val ks t.hash) (M.fin1 4 rfl) (M.fin1 5 rfl) hkd (M.fin1 6 rfl)
    refine ⟨_, rfl, ?_, M.below⟩
    unfold ncs at hn ⊢
    rw [show (Nd.mk t.kind t.path t.has t.val ks t.hash).kids.length = t.kids.length from hkl] at hn
    exact hn
theorem tonW_any (t : Nd) (ht : sz t ≤ 999999) : TOnWk t := by
  have key : ∀ (N : Nat), N ≤ 1000000 → ∀ t : Nd, sz t < N → TOnWk t := by
    intro N
    induction N with
    | zero => intro _ t h; omega
    | succ N ih => intro hN t h; exact tonW_step N (fun k hk => ih (by omega) k hk) t (by omega) (by omega)
  exact key 1000000 (Nat.le_refl _) t (by omega)
set_option maxRecDepth 100000 in
set_option maxHeartbeats 4000000 in
theorem tonlyW_any (t : Nd) (hz : sz t ≤ 100000) (ways : List (List UInt8)) (gs : List (Option Nat)) (w : World) (cs : List Value) (hr : RdL w (Fd w gs) (dN t) cs) {A : Option Addr} {n c : Nat} (hw : RdD w (Fd w []) (dLs ways) (.slice A n c)) (hgs : ∀ b, some b ∈ gs → b < w.heap.size) (hn : n ≤ 1000000) (hwl : ∀ l ∈ ways, l.length ≤ 10000000) :
    Calls Try.prog 30 #[.agg cs.toArray, .slice A n c] w fun e w' => ∃ cs', e = .returned (.tuple #[.agg cs'.toArray, .int .i64 (onlyP t ways).2]) ∧ RdL w' (Fd w' gs) (dN (onlyP t ways).1) cs' ∧ Below w.heap.size w w' := by
  refine calls_ev (args := [.agg cs.toArray, .slice A n c]) mixed Try.func30 rfl (by kernel_rfl) ?_
  have hl0 := hr.len
  rw [dN_len] at hl0
  have M := (St.start hgs).addL hr
  clear hr
  refine s_box (cs) M rfl ?_
  clear M
  rintro g2 W M
  refine s_alloc (zN) M al_nd ?_
  clear M
  rintro g4 W M
  unfold onlyP
  refine v_loadN cs agg_nd rfl hl0 (M.run 1 rfl) ?_
  refine cc is_r7check (r7check_any t (by omega) _ _ _ (M.da 0 rfl) M.olt) ?_
  rintro e W ⟨rfl, hb⟩
  replace M := M.call hb
  clear hb
  refine ⟨_, rfl, ?_⟩
  refine p_ne rfl rfl (fun h1 => ?_) (fun h1 => ?_)
  rotate_left
  · have h1 : ¬ checkE t = 0 := h1
    have h2 : checkE t = 2 := by unfold checkE at h1 ⊢; split at h1 <;> simp_all
    rw [if_neg h1]
    refine p_build (vs := zN) pl_nd z_nd rfl ?_
    refine s_storeA 0 zN M rfl sz_nd rfl rfl rfl (all1 rfl) rfl ?_
    clear M; rintro W M
    dsimp only [setL] at M
    refine c_loadN zN agg_nd rfl rfl (M.run 0 rfl) ?_
    rw [h2]
    exact ⟨zN, rfl, RdL.znone, M.below⟩
  have h1 : checkE t = 0 := h1
  rw [if_pos h1]
  replace M := M.addD (d := dB []) (RdD.nil_ (s := 1) none 0)
  refine v_loadN cs agg_nd rfl hl0 (M.run 1 rfl) ?_
  refine cc is_tonW (tonW_any t (by omega) [] ways _ _ cs _ _ _ _ _ _ (M.da 1 rfl) (M.d1 0 rfl) (hw.bl M.below) M.olt (by omega) hn hwl) ?_
  rintro e W ⟨cs9, rfl, r9, hb⟩
  have hc9 := r9.len
  rw [dN_len] at hc9
  replace M := (M.call hb).addL r9
  clear r9 hb
  refine ⟨_, rfl, ?_⟩
  refine s_storeA 0 cs9 M rfl sz_nd rfl rfl hc9 ((M.da 0 rfl).ones (dN_one _)) rfl ?_
  clear M; rintro W M
  dsimp only [setL] at M
  refine c_loadN cs9 agg_nd rfl hc9 (M.run 0 rfl) ?_
  exact ⟨cs9, rfl, M.fin 0 rfl, M.below⟩
end Go.Proofs.Ytliccofjlheceaa
namespace Go.Proofs.Ytliccofjlheceaa
open Go.RowKit
theorem is_rcnt : isFn Try.prog 31 = true := by kernel_rfl
def RCntOk (t : Nd) : Prop := ∀ (gs : List (Option Nat)) (w : World) (cs : List Value), RdL w (Fd w gs) (dN t) cs → (∀ b, some b ∈ gs → b < w.heap.size) →
  Calls Try.prog 31 #[.agg cs.toArray] w fun e w' => e = .returned (.tuple #[.int .i64 ((cntP t).1 : Nat), .int .i64 ((cntP t).2 : Nat)]) ∧ Below w.heap.size w w'
set_option maxRecDepth 100000 in
set_option maxHeartbeats 2000000 in
theorem rcnt_step (N : Nat) (ih : ∀ k : Nd, sz k < N → RCntOk k) (t : Nd) (ht : sz t ≤ N) (hN : N ≤ 1000000000000) : RCntOk t := by
  intro gs w cs hr hgs
  refine calls_ev (args := [.agg cs.toArray]) mixed Try.func31 rfl (by kernel_rfl) ?_
  have hsz := sz_eq t
  obtain ⟨Ap, cp, Av, cv, Ak, ck, Ah, ch, rfl, -, -, r4, -⟩ := hr.node
  have M := (St.start hgs).addD r4
  clear hr r4
  have hcq := cntP_eq t
  have hcz := cntsP_sz t.kids
  have hsl := szs_len t.kids
  obtain ⟨a0, ha0⟩ : ∃ a0, a0 = (if t.kind = 0 then 0 else 1) := ⟨_, rfl⟩
  obtain ⟨s0, hs0⟩ : ∃ s0, s0 = (if t.kind = 4 then 1 else 0) := ⟨_, rfl⟩
  have ha1 : a0 ≤ 1 := by rw [ha0]; split <;> omega
  have hs1 : s0 ≤ 1 := by rw [hs0]; split <;> omega
  rw [← ha0, ← hs0] at hcq
  refine s_box (ncs t Ap cp Av cv Ak ck Ah ch) M rfl ?_
  clear M
  rintro g1 W M
  refine p_fld fN0 rfl ?_
  refine v_load agg_int rfl ((M.B 0 rfl).at_ rfl) ?_
  refine p_ne rfl rfl (fun h0 => ?_) (fun h0 => ?_)
  · have ha : a0 = 0 := by rw [ha0]; exact if_pos h0
    subst ha
    refine p_fld fN0 rfl ?_
    refine v_load agg_int rfl ((M.B 0 rfl).at_ rfl) ?_
    refine p_eq rfl rfl (fun h4 => ?_) (fun h4 => ?_)
    · rw [h0] at h4; exact absurd h4 (by decide)
    · have hs : s0 = 0 := by rw [hs0]; exact if_neg h4
      subst hs
      refine lp Nat (fun i W => i ≤ t.kids.length ∧ St w gs W [(g1, 38, ncs t Ap cp Av cv Ak ck Ah ch)] [] [.dat false [dKs t.kids] [.slice Ak t.kids.length ck]])
        (fun i => [(1, .pointer (some ⟨g1, 0, none⟩)), (4, .int .i64 (0 + (cntsP (t.kids.take i)).1 : Nat)), (5, .int .i64 (0 + (cntsP (t.kids.take i)).2 : Nat)), (6, .int .i64 (i : Nat))]) (fun i => t.kids.length - i) 0 ⟨Nat.zero_le _, M⟩ (by repeat (first | exact trivial | refine ⟨rfl, ?_⟩)) ?_
      clear M
      rintro i E W ⟨hi, M⟩
      refine p_fld fN4 rfl ?_
      refine v_load agg_ns rfl ((M.B 0 rfl).at_ rfl) ?_
      refine p_len sln rfl ?_
      refine p_lt rfl rfl (fun hlt => ?_) (fun hge => ?_)
      · obtain ⟨k, hki⟩ : ∃ k, t.kids[i]? = some k := ⟨_, List.getElem?_eq_getElem (by omega)⟩
        have hki1 := List.getElem?_eq_some_iff.1 hki
        have hkz := szs_mem (List.mem_of_getElem? hki)
        have htk1 : t.kids.take (i + 1) = t.kids.take i ++ [k] := by rw [List.take_succ_eq_append_getElem hki1.1, hki1.2]
        have hcs := cntsP_snoc (t.kids.take i) k
        rw [← htk1] at hcs
        have hcz1 := cntsP_sz (t.kids.take i)
        have hcz2 := cntP_sz k
        have hsp : szs (t.kids.take i) + sz k ≤ szs t.kids := by
          have e : t.kids = t.kids.take (i + 1) ++ t.kids.drop (i + 1) := (List.take_append_drop ..).symm
          have h := congrArg szs e
          rw [htk1, szs_appC, szs_appC, szs, szs] at h
          omega
        obtain ⟨b, off, es, e0, hel, M'⟩ := M.kid (M.d1 0 rfl) hki
        replace M := M'; clear M'
        refine p_fld fN4 rfl ?_
        refine v_load agg_ns rfl ((M.B 0 rfl).at_ rfl) ?_
        refine p_at sln (by show (Value.slice Ak t.kids.length ck) = _; rw [e0]) rfl rfl (by omega) ?_
        refine v_loadN es agg_nd rfl hel (M.lc 0 rfl) ?_
        refine cc is_rcnt (ih k (by omega) _ _ es (M.da 1 rfl) M.olt) ?_
        rintro e W ⟨rfl, hb⟩
        replace M := M.call hb
        clear hb
        refine ⟨_, rfl, ?_⟩
        refine p_addN (b := (cntP k).1) rfl rfl (by omega) ?_
        refine p_addN (b := (cntP k).2) rfl rfl (by omega) ?_
        refine p_addN (b := 1) rfl rfl (by omega) ?_
        refine ⟨i + 1, ⟨by omega, M.fsub _ (by simp)⟩, ?_, by omega⟩
        rw [hcs]
        dsimp only
        rw [← Nat.add_assoc, ← Nat.add_assoc]
        exact (by repeat (first | exact trivial | refine ⟨rfl, ?_⟩))
      · have hin : i = t.kids.length := by omega
        subst hin
        rw [List.take_length]
        refine ⟨?_, M.below⟩
        rw [hcq]; rfl
  · have ha : a0 = 1 := by rw [ha0]; exact if_neg h0
    subst ha
    refine p_fld fN0 rfl ?_
    refine v_load agg_int rfl ((M.B 0 rfl).at_ rfl) ?_
    refine p_eq rfl rfl (fun h4 => ?_) (fun h4 => ?_)
    · have hs : s0 = 1 := by rw [hs0]; exact if_pos h4
      subst hs
      refine lp Nat (fun i W => i ≤ t.kids.length ∧ St w gs W [(g1, 38, ncs t Ap cp Av cv Ak ck Ah ch)] [] [.dat false [dKs t.kids] [.slice Ak t.kids.length ck]])
        (fun i => [(1, .pointer (some ⟨g1, 0, none⟩)), (4, .int .i64 (1 + (cntsP (t.kids.take i)).1 : Nat)), (5, .int .i64 (1 + (cntsP (t.kids.take i)).2 : Nat)), (6, .int .i64 (i : Nat))]) (fun i => t.kids.length - i) 0 ⟨Nat.zero_le _, M⟩ (by repeat (first | exact trivial | refine ⟨rfl, ?_⟩)) ?_
      clear M
      rintro i E W ⟨hi, M⟩
      refine p_fld fN4 rfl ?_
      refine v_load agg_ns rfl ((M.B 0 rfl).at_ rfl) ?_
      refine p_len sln rfl ?_
      refine p_lt rfl rfl (fun hlt => ?_) (fun hge => ?_)
      · obtain ⟨k, hki⟩ : ∃ k, t.kids[i]? = some k := ⟨_, List.getElem?_eq_getElem (by omega)⟩
        have hki1 := List.getElem?_eq_some_iff.1 hki
        have hkz := szs_mem (List.mem_of_getElem? hki)
        have htk1 : t.kids.take (i + 1) = t.kids.take i ++ [k] := by rw [List.take_succ_eq_append_getElem hki1.1, hki1.2]
        have hcs := cntsP_snoc (t.kids.take i) k
        rw [← htk1] at hcs
        have hcz1 := cntsP_sz (t.kids.take i)
        have hcz2 := cntP_sz k
        have hsp : szs (t.kids.take i) + sz k ≤ szs t.kids := by
          have e : t.kids = t.kids.take (i + 1) ++ t.kids.drop (i + 1) := (List.take_append_drop ..).symm
          have h := congrArg szs e
          rw [htk1, szs_appC, szs_appC, szs, szs] at h
          omega
        obtain ⟨b, off, es, e0, hel, M'⟩ := M.kid (M.d1 0 rfl) hki
        replace M := M'; clear M'
        refine p_fld fN4 rfl ?_
        refine v_load agg_ns rfl ((M.B 0 rfl).at_ rfl) ?_
        refine p_at sln (by show (Value.slice Ak t.kids.length ck) = _; rw [e0]) rfl rfl (by omega) ?_
        refine v_loadN es agg_nd rfl hel (M.lc 0 rfl) ?_
        refine cc is_rcnt (ih k (by omega) _ _ es (M.da 1 rfl) M.olt) ?_
        rintro e W ⟨rfl, hb⟩
        replace M := M.call hb
        clear hb
        refine ⟨_, rfl, ?_⟩
        refine p_addN (b := (cntP k).1) rfl rfl (by omega) ?_
        refine p_addN (b := (cntP k).2) rfl rfl (by omega) ?_
        refine p_addN (b := 1) rfl rfl (by omega) ?_
        refine ⟨i + 1, ⟨by omega, M.fsub _ (by simp)⟩, ?_, by omega⟩
        rw [hcs]
        dsimp only
        rw [← Nat.add_assoc, ← Nat.add_assoc]
        exact (by repeat (first | exact trivial | refine ⟨rfl, ?_⟩))
      · have hin : i = t.kids.length := by omega
        subst hin
        rw [List.take_length]
        refine ⟨?_, M.below⟩
        rw [hcq]; rfl
    · have hs : s0 = 0 := by rw [hs0]; exact if_neg h4
      subst hs
      refine lp Nat (fun i W => i ≤ t.kids.length ∧ St w gs W [(g1, 38, ncs t Ap cp Av cv Ak ck Ah ch)] [] [.dat false [dKs t.kids] [.slice Ak t.kids.length ck]])
        (fun i => [(1, .pointer (some ⟨g1, 0, none⟩)), (4, .int .i64 (1 + (cntsP (t.kids.take i)).1 : Nat)), (5, .int .i64 (0 + (cntsP (t.kids.take i)).2 : Nat)), (6, .int .i64 (i : Nat))]) (fun i => t.kids.length - i) 0 ⟨Nat.zero_le _, M⟩ (by repeat (first | exact trivial | refine ⟨rfl, ?_⟩)) ?_
      clear M
      rintro i E W ⟨hi, M⟩
      refine p_fld fN4 rfl ?_
      refine v_load agg_ns rfl ((M.B 0 rfl).at_ rfl) ?_
      refine p_len sln rfl ?_
      refine p_lt rfl rfl (fun hlt => ?_) (fun hge => ?_)
      · obtain ⟨k, hki⟩ : ∃ k, t.kids[i]? = some k := ⟨_, List.getElem?_eq_getElem (by omega)⟩
        have hki1 := List.getElem?_eq_some_iff.1 hki
        have hkz := szs_mem (List.mem_of_getElem? hki)
        have htk1 : t.kids.take (i + 1) = t.kids.take i ++ [k] := by rw [List.take_succ_eq_append_getElem hki1.1, hki1.2]
        have hcs := cntsP_snoc (t.kids.take i) k
        rw [← htk1] at hcs
        have hcz1 := cntsP_sz (t.kids.take i)
        have hcz2 := cntP_sz k
        have hsp : szs (t.kids.take i) + sz k ≤ szs t.kids := by
          have e : t.kids = t.kids.take (i + 1) ++ t.kids.drop (i + 1) := (List.take_append_drop ..).symm
          have h := congrArg szs e
          rw [htk1, szs_appC, szs_appC, szs, szs] at h
          omega
        obtain ⟨b, off, es, e0, hel, M'⟩ := M.kid (M.d1 0 rfl) hki
        replace M := M'; clear M'
        refine p_fld fN4 rfl ?_
        refine v_load agg_ns rfl ((M.B 0 rfl).at_ rfl) ?_
        refine p_at sln (by show (Value.slice Ak t.kids.length ck) = _; rw [e0]) rfl rfl (by omega) ?_
        refine v_loadN es agg_nd rfl hel (M.lc 0 rfl) ?_
        refine cc is_rcnt (ih k (by omega) _ _ es (M.da 1 rfl) M.olt) ?_
        rintro e W ⟨rfl, hb⟩
        replace M := M.call hb
        clear hb
        refine ⟨_, rfl, ?_⟩
        refine p_addN (b := (cntP k).1) rfl rfl (by omega) ?_
        refine p_addN (b := (cntP k).2) rfl rfl (by omega) ?_
        refine p_addN (b := 1) rfl rfl (by omega) ?_
        refine ⟨i + 1, ⟨by omega, M.fsub _ (by simp)⟩, ?_, by omega⟩
        rw [hcs]
        dsimp only
        rw [← Nat.add_assoc, ← Nat.add_assoc]
        exact (by repeat (first | exact trivial | refine ⟨rfl, ?_⟩))
      · have hin : i = t.kids.length := by omega
        subst hin
        rw [List.take_length]
        refine ⟨?_, M.below⟩
        rw [hcq]; rfl
theorem rcnt_any : ∀ (N : Nat), N ≤ 1000000000000 → ∀ t : Nd, sz t < N → RCntOk t
  | 0, _, t, h => by omega
  | N + 1, hN, t, h => rcnt_step N (fun k hk => rcnt_any N (by omega) k hk) t (by omega) (by omega)
end Go.Proofs.Ytliccofjlheceaa
