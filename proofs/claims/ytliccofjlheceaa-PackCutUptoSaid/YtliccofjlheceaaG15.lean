/- Package pack: Pack, Size, Unpack. law11: known, much. The walk of the law PackBack. The walk of the law PackCut. -/
import Derived.Test.YtliccofjlheceaaG14
import Derived.Test.YtliccofjlheceaaG09
import Derived.Test.YtliccofjlheceaaG07
namespace Go.Proofs.Ytliccofjlheceaa
open Go.RowKit
theorem is_pPack : isFn Try.prog 20 = true := by kernel_rfl
theorem is_pSize : isFn Try.prog 22 = true := by kernel_rfl
theorem is_pUnpack : isFn Try.prog 23 = true := by kernel_rfl
theorem pl_rdr : placesOf Try.prog 87 = some [(0, 1), (1, 1), (2, 1), (3, 1)] := by kernel_rfl
theorem z_rdr : zeroOf Try.prog 87 = some (rc none 0 0 none 0 0 0 0) := by kernel_rfl
theorem check_valK {t : Nd} (h : checkE t = 0) : Val true t 0 := by
  unfold checkE at h
  split at h
  · rename_i h'; exact val_of_right true _ t 0 (Nat.lt_succ_self _) h'
  · cases h
theorem val_sm {even : Bool} {t : Nd} {d : Nat} (h : Val even t d) : smP 4432 t := by
  induction h with
  | none => exact sm_none _
  | leaf d p v hd hp hv he =>
    have := endsP_le he
    rw [smP, smsP]
    exact ⟨by rw [List.length_nil]; omega, by simp, fun h => absurd h (by decide), trivial⟩
  | stub d h hd hh =>
    rw [smP, smsP]
    exact ⟨by simp; omega, by simp, fun h => absurd h (by decide), trivial⟩
  | way d p k hd hp h0 hk hr ih =>
    have := hr.le
    rw [smP, smsP, smsP]
    exact ⟨by simp; omega, by simp, fun h => absurd h (by decide), ih, trivial⟩
  | branch d has v ks hd hv hv0 he h16 hr hm ih =>
    rw [smP]
    exact ⟨by simp; omega, by omega, fun h => absurd h (by decide), sms_all.2 ih⟩
theorem val_szc {even : Bool} {t : Nd} {d : Nat} (h : Val even t d) (hc : (cntP t).1 ≤ 5000) : sz t ≤ 22670006 := by
  have h1 := sm_sz 4432 t (val_sm h)
  have : (102 + 4432) * (cntP t).1 ≤ 4534 * 5000 := Nat.mul_le_mul (Nat.le_refl _) hc
  omega
theorem packP_len (t : Nd) : (packP t).1.length ≤ 113350030 := by
  unfold packP
  split
  · simp
  · rename_i h
    split
    · simp
    · rename_i hc
      have hv : Val true t 0 := check_valK (by omega)
      have hz := val_szc hv (by omega)
      have := sd_size t [] (by rw [List.length_nil]; omega)
      dsimp only
      omega
set_option maxRecDepth 100000 in
set_option maxHeartbeats 4000000 in
theorem ppack_any (t : Nd) (ht : sz t ≤ 999999999999) (gs : List (Option Nat)) (w : World) (cs : List Value) (hr : RdL w (Fd w gs) (dN t) cs) (hgs : ∀ b, some b ∈ gs → b < w.heap.size) :
    Calls Try.prog 20 #[.agg cs.toArray] w fun e w' => ∃ A n c, e = .returned (.tuple #[.slice A n c, .int .i64 (packP t).2]) ∧ Own w' w.heap.size A n c (packP t).1 ∧ Below w.heap.size w w' := by
  refine calls_ev (args := [.agg cs.toArray]) mixed Try.func20 rfl (by kernel_rfl) ?_
  have hcl := hr.len
  rw [dN_len] at hcl
  have hone := hr.ones (dN_one _)
  have M := (St.start hgs).addL hr
  clear hr
  refine s_box (cs) M rfl ?_
  clear M
  rintro g1 W M
  unfold packP
  refine v_loadN cs agg_nd rfl hcl (M.run 0 rfl) ?_
  refine cc is_ncheck (ncheck_any t ht _ _ _ (M.da 0 rfl) M.olt) ?_
  rintro e W ⟨rfl, hb⟩
  replace M := M.call hb
  clear hb
  refine ⟨_, rfl, ?_⟩
  refine p_ne rfl rfl (fun h0 => ?_) (fun h0 => ?_)
  rotate_left
  · rw [if_pos (show checkE t ≠ 0 from h0)]
    exact ⟨none, 0, 0, rfl, World.ownsRow_nil _ _ _ _, M.below⟩
  have h0 : checkE t = 0 := h0
  rw [if_neg (fun h => h h0)]
  have hv := check_valK h0
  refine v_loadN cs agg_nd rfl hcl (M.run 0 rfl) ?_
  refine cc is_pcnt (ncount_any t (by omega) _ _ cs (M.da 0 rfl) M.olt) ?_
  rintro e W ⟨rfl, hb⟩
  replace M := M.call hb
  clear hb
  refine ⟨_, rfl, ?_⟩
  refine p_gt rfl rfl (fun hc => ?_) (fun hc => ?_)
  · have hc : (5000 : Int) < (((cntP t).1 : Nat) : Int) := hc
    rw [if_pos (by omega)]
    exact ⟨none, 0, 0, rfl, World.ownsRow_nil _ _ _ _, M.below⟩
  have hc : ¬ (5000 : Int) < (((cntP t).1 : Nat) : Int) := hc
  rw [if_neg (by omega)]
  have hz := val_szc hv (by omega)
  refine s_alloc ([.slice none 0 0, .slice none 0 0]) M (by kernel_rfl) ?_
  clear M
  rintro g7 W M
  refine v_loadN cs agg_nd rfl hcl (M.run 1 rfl) ?_
  replace M := (((M.nilR 38 6).nilR 5 1).addT (fr := false) (ds := dNs []) (cs := []) RdL.nil_)
  refine cc is_snode (snd_any 100000000 (Nat.le_refl _) t (by omega) _ 0 w _ gs g7 none 0 0 none 0 0 [] [] [] _ [] _ cs hv M (M.da 1 rfl) (by rw [List.length_nil]; omega) (by rw [List.length_nil]; omega) (fun x hx => by cases hx)) ?_
  clear M
  rintro e W ⟨⟨v, rfl⟩, Ao, co, Ad, nd, cd, xs, M⟩
  refine ⟨_, rfl, ?_⟩
  rw [List.nil_append] at M
  refine p_fld fsd0 rfl ?_
  refine v_load agg_b rfl ((M.B 0 rfl).at_ rfl) ?_
  exact ⟨Ao, _, co, rfl, M.row _ (List.mem_cons_self ..), M.below⟩
set_option maxRecDepth 100000 in
set_option maxHeartbeats 1000000 in
theorem psize_any (t : Nd) (ht : sz t ≤ 999999999999) (gs : List (Option Nat)) (w : World) (cs : List Value) (hr : RdL w (Fd w gs) (dN t) cs) (hgs : ∀ b, some b ∈ gs → b < w.heap.size) :
    Calls Try.prog 22 #[.agg cs.toArray] w fun e w' => e = .returned (.int .i64 ((packP t).1.length : Nat)) ∧ Below w.heap.size w w' := by
  refine calls_ev (args := [.agg cs.toArray]) mixed Try.func22 rfl (by kernel_rfl) ?_
  have hcl := hr.len
  rw [dN_len] at hcl
  have hone := hr.ones (dN_one _)
  have M := (St.start hgs).addL hr
  clear hr
  refine s_box (cs) M rfl ?_
  clear M
  rintro g1 W M
  refine v_loadN cs agg_nd rfl hcl (M.run 0 rfl) ?_
  refine cc is_pPack (ppack_any t ht _ _ cs (M.da 0 rfl) M.olt) ?_
  rintro e W ⟨A, n, c, rfl, o, hb⟩
  have el := o.len
  replace M := M.call hb
  refine ⟨_, rfl, ?_⟩
  refine p_len slb rfl ?_
  exact ⟨by rw [el]; rfl, M.below⟩
set_option maxRecDepth 100000 in
set_option maxHeartbeats 4000000 in
theorem punpack_any (b : List UInt8) (gs : List (Option Nat)) (w : World) (A : Option Addr) (n c : Nat) (h : RdD w (Fd w gs) (dB b) (.slice A n c)) (hgs : ∀ b, some b ∈ gs → b < w.heap.size) (hn : n ≤ 1000000000) :
    Calls Try.prog 23 #[.slice A n c] w fun e w' => ∃ cs, e = .returned (.tuple #[.agg cs.toArray, .int .i64 (unpP b).2]) ∧ RdL w' (Fr w w') (dN (unpP b).1) cs ∧ Below w.heap.size w w' := by
  refine calls_ev (args := [.slice A n c]) mixed Try.func23 rfl (by kernel_rfl) ?_
  have en := h.slen
  have M := (St.start hgs).addD h
  clear h
  refine s_alloc (zN) M al_nd ?_
  clear M
  rintro g2 W M
  unfold unpP
  refine p_len slb rfl ?_
  refine p_gt rfl rfl (fun hl => ?_) (fun hl => ?_)
  · have hl : (1048576 : Int) < (n : Int) := hl
    rw [if_pos (by omega)]
    refine p_build (vs := zN) pl_nd z_nd rfl ?_
    refine s_storeA 0 zN M rfl sz_nd rfl rfl rfl (all1 rfl) rfl ?_
    clear M; rintro W M
    dsimp only [setL] at M
    refine c_loadN zN agg_nd rfl rfl (M.run 0 rfl) ?_
    exact ⟨zN, rfl, RdL.znone, M.below⟩
  have hl : ¬ (1048576 : Int) < (n : Int) := hl
  rw [if_neg (by omega)]
  refine p_build (vs := rc A n c none 0 0 5000 0) pl_rdr z_rdr rfl ?_
  refine s_box (rc A n c none 0 0 5000 0) M rfl ?_
  clear M
  rintro g4 W M
  replace M := (M.nilR 38 6).addT (fr := false) (ds := dNs []) (cs := []) RdL.nil_
  have hsz := one_sz (B := 3 * b.length + 32) 403 b [] 5000 (by decide) (by decide) (fun x hx => by cases hx) (Nat.le_refl _)
  refine cc is_pnode (rn_any 403 (3 * b.length + 32) 0 rfl (by omega) w _ gs g4 A n c none 0 0 5000 b [] [] _ [] [.dat false [dB b] [.slice A n c]] (by decide) (by decide) (fun x hx => by cases hx) (Nat.le_refl _) (by rw [List.length_nil]; omega) (M.fsub _ (by simp))) ?_
  clear M
  rintro e W ⟨cs, tn, A1, n1, c1, Ad, nd, cd, xs, b1, done1, left1, e1, rfl, M, hP⟩
  refine ⟨_, rfl, ?_⟩
  have hcl := (M.da 0 rfl).len
  rw [dN_len] at hcl
  have en1 := (M.d1 2 rfl).slen
  refine s_alloc (zN) M al_nd ?_
  clear M
  rintro g5 W M
  refine s_storeA 0 cs M rfl sz_nd rfl rfl hcl ((M.da 0 rfl).ones (dN_one _)) rfl ?_
  clear M; rintro W M
  dsimp only [setL] at M
  refine p_nil rfl ?_
  refine p_fld fp3 rfl ?_
  refine v_load agg_errP rfl ((M.B 1 rfl).at_ rfl) ?_
  cases hr : oneF 403 b [] 5000 with
  | bad x =>
    rw [hr] at hP hsz
    obtain ⟨p1, p2, p3, p4, p5, p6⟩ := hP
    have hx0 : x ≠ 0 := by rcases hsz with h | h <;> rw [h] <;> decide
    subst p1
    dsimp only
    refine p_ne rfl rfl (fun h => absurd h hx0) (fun _ => ?_)
    replace M := M.drew
    refine drT (Kp w gs [(g4, 87, rc A1 n1 c1 Ad nd cd left1 e1)] []) (.take 0 (.take 1 (.take 2 (.take 3 (.take 4 (.one 5 (.take 6 (.nil)))))))) (by kernel_rfl) (M.kp (by simp) (by simp)) ?_
    refine p_build (vs := zN) pl_nd z_nd rfl ?_
    refine p_nil rfl ?_
    refine p_fld fp3 rfl ?_
    refine t_load agg_errP rfl (fun W K => (K.B 0 rfl).at_ rfl) ?_
    refine s_storeA 2 zN M rfl sz_nd rfl rfl rfl (all1 rfl) rfl ?_
    clear M; rintro W M
    dsimp only [setL] at M
    refine ⟨(M.kp (by simp) (by simp)), ?_⟩
    refine c_loadN zN agg_nd rfl rfl (M.run 2 rfl) ?_
    exact ⟨zN, rfl, RdL.znone, M.below⟩
  | got nn b2 d2 l2 =>
    rw [hr] at hP hsz
    obtain ⟨p1, p2, p3, p4, p5⟩ := hP
    obtain ⟨s1, s2, s3, s4, s5, s6⟩ := hsz
    subst p1; subst p2; subst p3; subst p4; subst p5
    dsimp only
    refine p_ne rfl rfl (fun _ => ?_) (fun h => absurd rfl h)
    refine p_nil rfl ?_
    refine p_fld fp0 rfl ?_
    refine v_load agg_b rfl ((M.B 1 rfl).at_ rfl) ?_
    refine p_len slb rfl ?_
    refine p_gt rfl rfl (fun hg => ?_) (fun hg => ?_)
    · have hg : (0 : Int) < (n1 : Int) := hg
      rw [if_pos (.inl (by omega))]
      refine p_build (vs := zN) pl_nd z_nd rfl ?_
      refine s_storeA 2 zN M rfl sz_nd rfl rfl rfl (all1 rfl) rfl ?_
      clear M; rintro W M
      dsimp only [setL] at M
      refine c_loadN zN agg_nd rfl rfl (M.run 2 rfl) ?_
      exact ⟨zN, rfl, RdL.znone, M.below⟩
    have hg : ¬ (0 : Int) < (n1 : Int) := hg
    have hzn : sz tn ≤ 999999999999 := by
      have h1 := sm_sz _ tn s1.1
      have : (102 + (3 * b.length + 32)) * (cntP tn).1 ≤ 3145862 * 5000 := Nat.mul_le_mul (by omega) s1.2
      omega
    refine v_loadN cs agg_nd rfl hcl (M.run 0 rfl) ?_
    refine cc is_pPack (ppack_any tn hzn _ _ cs (M.da 0 rfl) M.olt) ?_
    rintro e W ⟨A6, n6, c6, rfl, o6, hb⟩
    replace M := M.callO hb o6
    clear o6 hb
    refine ⟨_, rfl, ?_⟩
    obtain ⟨E, hE⟩ : ∃ E, E = packP tn := ⟨_, rfl⟩
    rw [← hE] at M ⊢
    obtain ⟨eb, ee⟩ := E
    dsimp only at M ⊢
    have hno : ∀ q : (eb, ee) ≠ (b, 0), (if 0 < b1.length ∨ (eb, ee) ≠ (b, 0) then (noneN, (11 : Int)) else (tn, 0)) = (noneN, 11) := fun q => if_pos (.inr q)
    refine p_ne rfl rfl (fun he0 => ?_) (fun he0 => ?_)
    rotate_left
    · rw [hno (fun h => he0 (congrArg Prod.snd h))]
      refine p_build (vs := zN) pl_nd z_nd rfl ?_
      refine s_storeA 2 zN M rfl sz_nd rfl rfl rfl (all1 rfl) rfl ?_
      clear M; rintro W M
      dsimp only [setL] at M
      refine c_loadN zN agg_nd rfl rfl (M.run 2 rfl) ?_
      exact ⟨zN, rfl, RdL.znone, M.below⟩
    have he0 : ee = 0 := he0
    subst he0
    refine cc is_beq (beq_any _ _ _ _ _ c _ _ eb b _ (M.rdb 0 rfl).2.2 (M.rdb 4 rfl).2.2) ?_
    rintro e W' ⟨rfl, rfl⟩
    refine ⟨_, rfl, ?_⟩
    refine p_not rfl ?_
    by_cases heq : eb = b
    rotate_left
    · rw [hno (fun h => heq (congrArg Prod.fst h)), decide_eq_false heq]
      refine p_build (vs := zN) pl_nd z_nd rfl ?_
      refine s_storeA 2 zN M rfl sz_nd rfl rfl rfl (all1 rfl) rfl ?_
      clear M; rintro W M
      dsimp only [setL] at M
      refine c_loadN zN agg_nd rfl rfl (M.run 2 rfl) ?_
      exact ⟨zN, rfl, RdL.znone, M.below⟩
    subst heq
    rw [decide_eq_true rfl, if_neg (fun h => h.elim (fun h => by omega) (fun h => h rfl))]
    have hv : Val true tn 0 ∧ (cntP tn).1 ≤ 5000 := by
      unfold packP at hE
      split at hE
      · rename_i h; injection hE with _ h2; exact absurd h2.symm h
      · rename_i h
        exact ⟨check_valK (by omega), s1.2⟩
    have hz2 := val_szc hv.1 hv.2
    refine v_loadN cs agg_nd rfl hcl (M.run 0 rfl) ?_
    refine cc is_ncopy (ncopy_any 100000000 (by decide) tn (by omega) _ _ cs (M.da 1 rfl) M.olt) ?_
    rintro e W ⟨csc, rfl, r9, hb⟩
    have hcc := r9.len
    rw [dN_len] at hcc
    replace M := M.callF hb r9
    clear r9 hb
    refine ⟨_, rfl, ?_⟩
    refine s_storeA 2 csc M rfl sz_nd rfl rfl hcc ((M.da 0 rfl).ones (dN_one _)) rfl ?_
    clear M; rintro W M
    dsimp only [setL] at M
    refine c_loadN csc agg_nd rfl hcc (M.run 2 rfl) ?_
    exact ⟨csc, rfl, M.finF 0 rfl, M.below⟩
end Go.Proofs.Ytliccofjlheceaa
namespace Go.Proofs.Ytliccofjlheceaa
open Go.RowKit

theorem is_kn11 : isFn Try.prog 19 = true := by kernel_rfl
theorem is_much11 : isFn Try.prog 18 = true := by kernel_rfl
set_option maxRecDepth 100000 in
set_option maxHeartbeats 1000000 in
theorem much11_any (t : Nd) (ht : sz t ≤ 900000000) (gs : List (Option Nat)) (w : World) (cs : List Value) (hr : RdL w (Fd w gs) (dN t) cs) (hgs : ∀ b, some b ∈ gs → b < w.heap.size) :
    Calls Try.prog 18 #[.agg cs.toArray] w fun e w' => e = .returned (.bool (decide (500 ≤ muchP t 500))) ∧ Below w.heap.size w w' := by
  refine calls_ev (args := [.agg cs.toArray]) mixed Try.func18 rfl (by kernel_rfl) ?_
  have hcl := hr.len
  rw [dN_len] at hcl
  have M := (St.start hgs).addL hr
  refine s_box (cs) M rfl ?_
  clear M
  rintro g1 W M
  refine v_loadN cs agg_nd rfl hcl (M.run 0 rfl) ?_
  refine cc is_r7much (much_any 1000000000 (Nat.le_refl _) t (by omega) _ _ cs 500 (by first | with_reducible exact M.da_0 | with_reducible exact M.da_1 | with_reducible exact M.da_2 | with_reducible exact M.da_3 | with_reducible exact M.da_4 | with_reducible exact M.da_5 | with_reducible exact M.da_6 | with_reducible exact M.da_7 | with_reducible exact M.da_8 | with_reducible exact M.da_9 | with_reducible exact M.da_10 | with_reducible exact M.da_11) M.olt (by decide)) ?_
  rintro e W ⟨rfl, hb⟩
  replace M := M.call hb
  refine ⟨_, rfl, ?_⟩
  refine p_ge rfl rfl (fun h => ?_) (fun h => ?_)
  · rw [decide_eq_true (show 500 ≤ muchP t 500 by omega)]
    exact ⟨rfl, M.below⟩
  · rw [decide_eq_false (show ¬ 500 ≤ muchP t 500 by omega)]
    exact ⟨rfl, M.below⟩
theorem much11_no {t : Nd} (h : decide (500 ≤ muchP t 500) = false) : sz t ≤ 27500 := by
  rw [decide_eq_false_iff_not] at h
  have := much_sz t 500 (by omega)
  omega
/-- What packs is read back. -/
theorem packP_ok {t : Nd} (h : (packP t).2 = 0) : checkE t = 0 ∧ (cntP t).1 ≤ 5000 ∧ packP t = ((sdP t []).1, 0) := by
  unfold packP at h ⊢
  by_cases hc : checkE t ≠ 0
  · rw [if_pos hc] at h; exact absurd h hc
  · rw [if_neg hc] at h ⊢
    by_cases hn : 5000 < (cntP t).1
    · rw [if_pos hn] at h; cases h
    · rw [if_neg hn]; exact ⟨Classical.not_not.1 hc, by omega, rfl⟩
theorem packP_bad {t : Nd} (h : (packP t).2 ≠ 0) : (packP t).1 = [] := by
  unfold packP at h ⊢
  split
  · rfl
  · split
    · rfl
    · next h1 h2 => rw [if_neg h1, if_neg h2] at h; exact absurd rfl h
theorem unp_pack {t : Nd} (h : (packP t).2 = 0) (hs : sz t ≤ 200000) : unpP (packP t).1 = (t, 0) := by
  obtain ⟨h0, hc, he⟩ := packP_ok h
  rw [he]
  have hl := sd_size t [] (by rw [List.length_nil]; omega)
  have ho := one_rt (check_valK h0) 403 (by omega) [] 5000 [] (by omega) (by rw [List.length_nil]; omega)
  rw [List.append_nil] at ho
  unfold unpP
  dsimp only
  rw [if_neg (by omega), ho]
  dsimp only
  rw [if_neg (by rintro (h | h); · exact absurd h (by decide)
                 · exact h he)]
def lf11 : Nd := .mk 1 [1] false [118] [] []
def ks11 : List Nd := ((noneNs 16).set 0 lf11).set 2 lf11
def kt11 : Nd := .mk 3 [] false [] ks11 []
def kb11 : List UInt8 := [3, 0, 160, 0, 1, 1, 49, 1, 118, 5, 0]
set_option maxRecDepth 100000 in
theorem kt11_p : packP kt11 = (kb11, 0) := by decide +kernel
set_option maxRecDepth 100000 in
theorem kt11_z : sz kt11 ≤ 1000 := by decide +kernel
theorem kt11_u : unpP kb11 = (kt11, 0) := by
  have h := unp_pack (t := kt11) (by rw [kt11_p]) (by have := kt11_z; omega)
  rwa [kt11_p] at h
set_option maxRecDepth 100000 in
theorem kt11_b : (unpP [5, 0]).2 = 11 := by decide +kernel
set_option maxRecDepth 100000 in
set_option maxHeartbeats 4000000 in
theorem known11_any (gs : List (Option Nat)) (w : World) (hgs : ∀ b, some b ∈ gs → b < w.heap.size) : Calls Try.prog 19 #[] w fun e w' => e = .returned (.bool true) ∧ Below w.heap.size w w' := by
  refine calls_ev (args := []) mixed Try.func19 rfl (by kernel_rfl) ?_
  have M := St.start (w := w) (gs := gs) hgs
  refine s_bsliceB (bvs [118]) M slb (zs := [.int .u8 0]) (by kernel_rfl) rfl (by decide) rfl ?_
  clear M; rintro g1 W M
  refine s_cvtB [118] M rfl rfl (Nat.le_refl _) ?_
  clear M; rintro W M
  refine s_mkN M rfl rfl ?_
  clear M; rintro gk W M
  replace M := M.addT (fr := false) (ds := dNs (noneNs 16)) (cs := zNs 16) (RdL.znones 16)
  refine p_build (vs := ncs kt11 none 0 none 0 (some ⟨gk, 0, none⟩) 16 none 0) pl_nd z_nd rfl ?_
  refine s_alloc (zN) M al_nd ?_
  clear M
  rintro g2 W M
  refine s_storeA 0 (ncs kt11 none 0 none 0 (some ⟨gk, 0, none⟩) 16 none 0) M rfl sz_nd rfl rfl rfl (all1 rfl) rfl ?_
  clear M; rintro W M
  dsimp only [setL] at M
  -- the first leaf
  refine p_fld fN4 rfl ?_
  refine v_load agg_ns rfl ((M.B 0 rfl).at_ rfl) ?_
  refine s_bslice (bvs [1]) (fr := true) (ds := (bvs [1]).map D.v) M slb (zs := [.int .u8 0]) (by kernel_rfl) rfl (by decide) rfl (RdL.ofvals _) rfl ?_
  clear M; rintro g3 W M
  refine p_build (vs := ncs lf11 (some ⟨g3, 0, none⟩) 1 (some ⟨g1, 0, none⟩) 1 none 0 none 0) pl_nd z_nd rfl ?_
  refine p_atL (i := 0) (q := 0) sln rfl rfl rfl (by decide) (by decide) ?_
  have hxl := (M.dw 1 rfl).len
  refine s_storeP 1 (n := 6) (off := 0) (ncs lf11 (some ⟨g3, 0, none⟩) 1 (some ⟨g1, 0, none⟩) 1 none 0 none 0) _ M rfl sz_nd rfl rfl rfl (all1 rfl) (by rw [hxl, dNs_len]; decide) rfl ?_
  clear M; rintro W M
  dsimp only [setL] at M
  have hst := RdL.ofnode (t := lf11) (M.dw 0 rfl).hd (M.dw 2 rfl).hd (RdD.nil_ (s := 6) none 0) (RdD.nil_ (s := 1) none 0)
  have hX := M.dw 1 rfl
  have hX2 := ((hX.take 0).app hst).app (hX.drop 6)
  rw [show dNs (noneNs 16) = dNs (noneNs 16) from rfl] at hX2
  replace hX2 : RdL W _ ((dNs (noneNs 16)).take (0 * 6) ++ dN lf11 ++ (dNs (noneNs 16)).drop (0 * 6 + 6)) _ := hX2
  rw [← dNs_set lf11 (by decide)] at hX2
  replace M := M.addT (fr := false) hX2
  clear hX hX2 hst hxl
  -- the other leaf
  refine p_fld fN4 rfl ?_
  refine v_load agg_ns rfl ((M.B 0 rfl).at_ rfl) ?_
  refine s_bslice (bvs [1]) (fr := true) (ds := (bvs [1]).map D.v) M slb (zs := [.int .u8 0]) (by kernel_rfl) rfl (by decide) rfl (RdL.ofvals _) rfl ?_
  clear M; rintro g4 W M
  refine p_build (vs := ncs lf11 (some ⟨g4, 0, none⟩) 1 (some ⟨g1, 0, none⟩) 1 none 0 none 0) pl_nd z_nd rfl ?_
  refine p_atL (i := 2) (q := 12) sln rfl rfl rfl (by decide) (by decide) ?_
  have hxl := (M.dw 1 rfl).len
  refine s_storeP 1 (n := 6) (off := 12) (ncs lf11 (some ⟨g4, 0, none⟩) 1 (some ⟨g1, 0, none⟩) 1 none 0 none 0) _ M rfl sz_nd rfl rfl rfl (all1 rfl) (by rw [hxl, dNs_len]; decide) rfl ?_
  clear M; rintro W M
  dsimp only [setL] at M
  have hst := RdL.ofnode (t := lf11) (M.dw 0 rfl).hd (M.dw 4 rfl).hd (RdD.nil_ (s := 6) none 0) (RdD.nil_ (s := 1) none 0)
  have hX := M.dw 1 rfl
  have hX2 := ((hX.take 12).app hst).app (hX.drop 18)
  replace hX2 : RdL W _ ((dNs ((noneNs 16).set 0 lf11)).take (2 * 6) ++ dN lf11 ++ (dNs ((noneNs 16).set 0 lf11)).drop (2 * 6 + 6)) _ := hX2
  rw [← dNs_set lf11 (by decide)] at hX2
  replace M := (M.addT (fr := false) hX2).permL (List.Perm.swap ..)
  clear hX hX2 hst hxl
  replace M := M.frzB (fr := false) (s := 6) (n := 16) (c := 16) (M.dw 0 rfl) (by rw [dNs_len]; rfl) (Nat.le_refl _)
  replace M := M.addT (fr := false) (RdL.ofnode (t := kt11) (RdD.nil_ (s := 1) none 0) (RdD.nil_ (s := 1) none 0) (M.dw 0 rfl).hd (RdD.nil_ (s := 1) none 0))
  replace M := M.fsub [.dat false (dN kt11) (ncs kt11 none 0 none 0 (some ⟨gk, 0, none⟩) 16 none 0)] (by simp)
  have p1 := kt11_p
  have p2 := kt11_u
  have p3 := kt11_b
  have hz := kt11_z
  obtain ⟨t, ht⟩ : ∃ t, t = kt11 := ⟨_, rfl⟩
  rw [← ht] at M p1 p2 hz
  clear ht
  refine v_loadN (ncs t none 0 none 0 (some ⟨gk, 0, none⟩) 16 none 0) agg_nd rfl rfl (M.run 0 rfl) ?_
  refine cc is_pPack (ppack_any t (by omega) _ _ _ (M.da 0 rfl) M.olt) ?_
  rintro e W ⟨A2, n2, c2, he, o, hb⟩
  rw [p1] at he o
  subst he
  have hn : 11 = n2 := o.len
  subst hn
  replace M := M.callO hb o
  clear o hb
  refine ⟨_, rfl, ?_⟩
  refine cc is_pUnpack (punpack_any kb11 _ _ _ 11 c2 (M.d1 0 rfl) M.olt (by decide)) ?_
  rintro e W ⟨cs3, he, r3, hb⟩
  rw [p2] at he r3
  subst he
  dsimp only at r3
  obtain ⟨Ap, cp, Av, cv, Ak, ck, Ah, ch, rfl, -⟩ := id r3.node
  replace M := M.callF hb r3
  clear r3 hb
  refine ⟨_, rfl, ?_⟩
  refine s_alloc (zN) M al_nd ?_
  clear M
  rintro g5 W M
  first | refine s_storeA 0 (ncs t Ap cp Av cv Ak ck Ah ch) M rfl (by kernel_rfl) rfl rfl rfl (all1 rfl) rfl ?_ | refine s_storeA 1 (ncs t Ap cp Av cv Ak ck Ah ch) M rfl (by kernel_rfl) rfl rfl rfl (all1 rfl) rfl ?_ | refine s_storeA 2 (ncs t Ap cp Av cv Ak ck Ah ch) M rfl (by kernel_rfl) rfl rfl rfl (all1 rfl) rfl ?_ | refine s_storeA 3 (ncs t Ap cp Av cv Ak ck Ah ch) M rfl (by kernel_rfl) rfl rfl rfl (all1 rfl) rfl ?_
  clear M
  rintro W M
  dsimp only [setL] at M
  refine s_bslice (bvs [5, 0]) (fr := true) (ds := (bvs [5, 0]).map D.v) M slb (zs := [.int .u8 0]) (by kernel_rfl) rfl (by decide) rfl (RdL.ofvals _) rfl ?_
  clear M; rintro g6 W M
  refine cc is_pUnpack (punpack_any [5, 0] _ _ _ _ _ (M.d1 0 rfl) M.olt (by decide)) ?_
  rintro e W ⟨cs4, he, r4, hb⟩
  rw [p3] at he
  subst he
  have hc4 := r4.len
  rw [dN_len] at hc4
  replace M := M.callF hb r4
  clear r4 hb
  refine ⟨_, rfl, ?_⟩
  refine s_alloc (zN) M al_nd ?_
  clear M
  rintro g7 W M
  refine s_storeA 0 cs4 M rfl sz_nd rfl rfl hc4 ((M.da 0 rfl).ones (dN_one _)) rfl ?_
  clear M; rintro W M
  dsimp only [setL] at M
  refine s_bslice (bvs kb11) (fr := true) (ds := (bvs kb11).map D.v) M slb (zs := [.int .u8 0]) (by kernel_rfl) rfl (by decide) rfl (RdL.ofvals _) rfl ?_
  clear M; rintro g8 W M
  obtain ⟨q, hq, hc⟩ := same_tf (c1 := c2) (c2 := 11) (M.rdb (l := kb11) 4 rfl).2.2 (M.rdb (l := kb11) 0 rfl).2.2
  obtain rfl := hq.2 rfl
  refine cc is_same0 hc ?_
  rintro e W' ⟨rfl, rfl⟩
  refine ⟨_, rfl, ?_⟩
  clear hq hc
  refine p_eq rfl rfl (fun _ => ?_) (fun e => absurd rfl e)
  refine p_eq rfl rfl (fun _ => ?_) (fun e => absurd rfl e)
  refine v_loadN (ncs t Ap cp Av cv Ak ck Ah ch) agg_nd rfl rfl (M.run 1 rfl) ?_
  refine v_loadN (ncs t none 0 none 0 (some ⟨gk, 0, none⟩) 16 none 0) agg_nd rfl rfl (M.run 2 rfl) ?_
  refine cc is_r7same (rsame_any 2000000 (by decide) t (by omega) t _ _ (ncs t Ap cp Av cv Ak ck Ah ch) (ncs t none 0 none 0 (some ⟨gk, 0, none⟩) 16 none 0) (M.da 3 rfl) (M.da 5 rfl) M.olt (by omega)) ?_
  rintro e W ⟨q, rfl, hq, hb⟩
  obtain rfl := hq.2 rfl
  replace M := M.call hb
  clear hb hq
  refine ⟨_, rfl, ?_⟩
  refine p_eq rfl rfl (fun _ => ?_) (fun e => absurd rfl e)
  refine v_loadN (ncs t none 0 none 0 (some ⟨gk, 0, none⟩) 16 none 0) agg_nd rfl rfl (M.run 2 rfl) ?_
  refine cc is_pSize (psize_any t (by omega) _ _ _ (M.da 5 rfl) M.olt) ?_
  rintro e W ⟨he, hb⟩
  rw [p1] at he
  subst he
  replace M := M.call hb
  refine ⟨_, rfl, ?_⟩
  refine p_eq rfl rfl (fun _ => ?_) (fun e => absurd rfl e)
  exact ⟨rfl, M.below⟩
end Go.Proofs.Ytliccofjlheceaa
namespace Go.Proofs.Ytliccofjlheceaa
open Go.RowKit


theorem u_uix : (Try.prog.underlying 54).isSome = true := by kernel_rfl
theorem u_uiy : Try.prog.underlying 54 = some (.int .u64) := by kernel_rfl
theorem u_inx : (Try.prog.underlying 3).isSome = true := by kernel_rfl
theorem u_iny : Try.prog.underlying 3 = some (.int .i64) := by kernel_rfl
theorem tmodNy (a b : Nat) : ((a : Nat) : Int).tmod (b : Nat) = ((a % b : Nat) : Int) := by rw [Int.tmod_eq_emod_of_nonneg (by omega)]; omega
theorem unp_cut {t : Nd} (h : (packP t).2 = 0) (hs : sz t ≤ 200000) {j : Nat} (hj : j < (packP t).1.length) : (unpP ((packP t).1.take j)).2 = 11 := by
  obtain ⟨h0, hc, he⟩ := packP_ok h
  rw [he] at hj ⊢
  dsimp only at hj ⊢
  have hl := sd_size t [] (by rw [List.length_nil]; omega)
  have ho := one_cut (check_valK h0) (F := 403) (by omega) (done := []) (left := 5000) (by omega) (by rw [List.length_nil]; omega) hj
  unfold unpP
  rw [if_neg (by rw [List.length_take]; omega), ho]
theorem unp_more {t : Nd} (h : (packP t).2 = 0) (hs : sz t ≤ 200000) (x : UInt8) : (unpP ((packP t).1 ++ [x])).2 = 11 := by
  obtain ⟨h0, hc, he⟩ := packP_ok h
  rw [he]
  dsimp only
  have hl := sd_size t [] (by rw [List.length_nil]; omega)
  have ho := one_rt (check_valK h0) 403 (by omega) [] 5000 [x] (by omega) (by rw [List.length_nil]; omega)
  unfold unpP
  rw [if_neg (by rw [List.length_append]; show ¬ 1048576 < (sdP t []).1.length + 1; omega), ho]
  dsimp only
  rw [if_pos (Or.inl (show 0 < [x].length from Nat.lt_succ_self 0))]
theorem packP_ne {t : Nd} (h : (packP t).2 = 0) (hz : ([] : List Nd).length + sz t ≤ 1000000000000000000) : (packP t).1 ≠ [] := by
  intro e
  obtain ⟨h0, hc, he⟩ := packP_ok h
  have ho := one_rt (check_valK h0) 403 (by omega) [] 5000 [] (by omega) hz
  rw [he] at e
  dsimp only at e
  rw [e, List.append_nil, oneF_nil] at ho
  cases ho
set_option maxRecDepth 100000 in
set_option maxHeartbeats 8000000 in
theorem packCut_walk (w : World) {t : Nd} {cs : List Value} (hr : RdL w (Fd w []) (dN t) cs) (hz : sz t ≤ 1048576) (cut : Int) (_hc : -9223372036854775808 ≤ cut ∧ cut ≤ 9223372036854775807) (more : Int) (hm : 0 ≤ more ∧ more ≤ 255) :
    Calls Try.prog 7 #[.agg cs.toArray, .int .i64 cut, .int .u8 more] w (RetTrue w) := by
  refine calls_ev (args := [.agg cs.toArray, .int .i64 cut, .int .u8 more]) mixed Try.func7 rfl (by kernel_rfl) ?_
  obtain ⟨Ap, cp, Av, cv, Ak, ck, Ah, ch, rfl, -⟩ := id hr.node
  have M := (St.start (w := w) (gs := []) (fun b h => by cases h)).addL hr
  clear hr
  obtain ⟨x, hx⟩ : ∃ x : UInt8, more = (x.toNat : Nat) := ⟨UInt8.ofNat more.toNat, by rw [UInt8.toNat_ofNat']; omega⟩
  subst hx
  refine s_box (ncs t Ap cp Av cv Ak ck Ah ch) M rfl ?_
  clear M
  rintro g2 W M
  refine v_loadN (ncs t Ap cp Av cv Ak ck Ah ch) agg_nd rfl rfl (M.run 0 rfl) ?_
  refine cc is_much11 (much11_any t (by omega) _ _ (ncs t Ap cp Av cv Ak ck Ah ch) (M.da 0 rfl) M.olt) ?_
  rintro e W ⟨he, hb⟩
  obtain ⟨q, hqq⟩ : ∃ q, q = decide (500 ≤ muchP t 500) := ⟨_, rfl⟩
  rw [← hqq] at he
  subst he
  replace M := M.call hb
  clear hb
  refine ⟨_, rfl, ?_⟩
  cases q with
  | true =>
    refine cc is_kn11 (known11_any _ _ M.olt) ?_
    rintro e W ⟨rfl, hb⟩
    replace M := M.call hb
    clear hb
    exact ⟨_, rfl, rfl, M.below⟩
  | false =>
  have hz2 := much11_no hqq.symm
  refine v_loadN (ncs t Ap cp Av cv Ak ck Ah ch) agg_nd rfl rfl (M.run 0 rfl) ?_
  refine cc is_pPack (ppack_any t (by omega) _ _ _ (M.da 0 rfl) M.olt) ?_
  rintro e W ⟨A5, n5, c5, rfl, o, hb⟩
  have e5 := o.len
  have hcap : n5 ≤ c5 := by
    rcases o.2 with ⟨_, h0⟩ | ⟨g, cap, cur, hv, _, _, hcc, _⟩
    · omega
    · injection hv with _ _ hc
      omega
  have hpl := packP_len t
  replace M := M.callO hb o
  clear o hb
  refine ⟨_, rfl, ?_⟩
  refine p_ne rfl rfl (fun he => ?_) (fun he => ?_)
  rotate_left
  · have hn := packP_bad he
    rw [hn] at e5
    refine p_len slb rfl ?_
    refine p_eq rfl rfl (fun _ => ?_) (fun e => absurd (by rw [← e5]; rfl) e)
    refine cc is_kn11 (known11_any _ _ M.olt) ?_
    rintro e W ⟨rfl, hb⟩
    replace M := M.call hb
    clear hb
    exact ⟨_, rfl, rfl, M.below⟩
  have hne := packP_ne he (by rw [List.length_nil]; omega)
  have h1 : 0 < (packP t).1.length := List.length_pos_iff.2 hne
  refine p_len slb rfl ?_
  refine p_eq rfl rfl (fun h => absurd h (by omega)) (fun _ => ?_)
  obtain ⟨u, hu2⟩ : ∃ u : Nat, IntKind.u64.wrap cut = (u : Int) := ⟨(IntKind.u64.wrap cut).toNat, by rw [IntKind.wrap_u64]; omega⟩
  have hlt := Nat.mod_lt u (y := n5) (by omega)
  refine v_cvt u_inx u_uiy rfl hu2 ?_
  refine p_len slb rfl ?_
  refine v_cvt u_inx u_uiy rfl (wu64 (by omega)) ?_
  refine p_rem rfl rfl (by omega) (r := ((u % n5 : Nat) : Int)) (by rw [tmodNy]) ?_
  refine v_cvt u_uix u_iny rfl (r := ((u % n5 : Nat) : Int)) (w64 (by omega)) ?_
  refine p_slice (i := 0) (j := u % n5) (m := c5) slb rfl rfl (bnd_i rfl) rfl rfl (Nat.zero_le _) (by omega) (Nat.le_refl _) ?_
  have hcut := (M.d1 0 rfl).cutB (i := 0) (j := u % n5) (m := c5) (Nat.zero_le _) (by omega) (by omega)
  rw [List.drop_zero, Nat.sub_zero] at hcut
  refine cc is_pUnpack (punpack_any _ _ _ _ _ _ hcut M.olt (by omega)) ?_
  rintro e W ⟨cs7, he7, r7, hb⟩
  rw [unp_cut he (by omega) (by omega)] at he7
  subst he7
  have hc7 := r7.len
  rw [dN_len] at hc7
  replace M := M.callF hb r7
  clear r7 hb
  refine ⟨_, rfl, ?_⟩
  refine s_alloc (zN) M al_nd ?_
  clear M
  rintro g10 W M
  refine s_storeA 0 cs7 M rfl sz_nd rfl rfl hc7 ((M.da 0 rfl).ones (dN_one _)) rfl ?_
  clear M; rintro W M
  dsimp only [setL] at M
  refine cc is_copy0 (copy_any A5 n5 c5 (packP t).1 W (M.rdb 1 rfl).2.2 (by omega)) ?_
  rintro e W ⟨A6, c6, rfl, o, hb⟩
  replace M := M.callR (r := ⟨5, 1, A6, n5, c6, bvs (packP t).1⟩) hb o
  clear o hb
  refine ⟨_, rfl, ?_⟩
  refine s_litB [.int .u8 (x.toNat : Nat)] [x] M (by decide) rfl rfl rfl ?_
  clear M; rintro g12 W M
  replace M := M.frzO
  refine s_appB M rfl rfl (M.rdb 0 rfl).2.2 (by omega) ?_
  clear M; rintro A7 c7 W M -
  replace M := M.frzO
  refine cc is_pUnpack (punpack_any ((packP t).1 ++ [x]) _ _ _ _ _ (M.d1 0 rfl) M.olt (by omega)) ?_
  rintro e W ⟨cs8, he8, r8, hb⟩
  rw [unp_more he (by omega) x] at he8
  subst he8
  have hc8 := r8.len
  rw [dN_len] at hc8
  replace M := M.callF hb r8
  clear r8 hb
  refine ⟨_, rfl, ?_⟩
  refine s_alloc (zN) M al_nd ?_
  clear M
  rintro g13 W M
  refine s_storeA 0 cs8 M rfl sz_nd rfl rfl hc8 ((M.da 0 rfl).ones (dN_one _)) rfl ?_
  clear M; rintro W M
  dsimp only [setL] at M
  refine p_eq rfl rfl (fun _ => ?_) (fun e => absurd rfl e)
  refine p_eq rfl rfl (fun _ => ?_) (fun e => absurd rfl e)
  refine cc is_kn11 (known11_any _ _ M.olt) ?_
  rintro e W ⟨rfl, hb⟩
  replace M := M.call hb
  clear hb
  exact ⟨_, rfl, rfl, M.below⟩
end Go.Proofs.Ytliccofjlheceaa
