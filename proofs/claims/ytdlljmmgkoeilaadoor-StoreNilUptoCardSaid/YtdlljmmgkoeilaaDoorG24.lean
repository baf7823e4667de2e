/- law17: long, done, put, known. Several stores at once, in the state of whoever holds them. The walk of node.Count (a function that calls itself through a variable); what it counts. law07: known, much. law17: put, known. The walk of the law StoreUndoes. Reference 10: on, Only. law10: known, much. The walk of the law RevealOpens. The walk of the law RevealAgrees. Memory that is written over, but keeps its kinds; the walk of reference 00's Spoil. law07: folded (which says, too, whether it did fold). Lists of bytes as bytes: the walk of vint.Split. -/
import Derived.Test.YtdlljmmgkoeilaaDoorG23
import Derived.Test.YtdlljmmgkoeilaaDoorG22
import Derived.Test.YtdlljmmgkoeilaaDoorG14
import Derived.Test.YtdlljmmgkoeilaaDoorG16
import Derived.Test.YtdlljmmgkoeilaaDoorG13
import Derived.Test.YtdlljmmgkoeilaaDoorG21
import Derived.Test.YtdlljmmgkoeilaaDoorG04
import Derived.Test.YtdlljmmgkoeilaaDoorG06
namespace Go.Proofs.YtdlljmmgkoeilaaDoor
open Go.RowKit
theorem is_long17 : isFn Tryd.prog 7 = true := by kernel_rfl
theorem is_done : isFn Tryd.prog 9 = true := by kernel_rfl
theorem is_put17 : isFn Tryd.prog 25 = true := by kernel_rfl
theorem is_kn17 : isFn Tryd.prog 8 = true := by kernel_rfl
theorem is_much7r : isFn Tryd.prog 24 = true := by kernel_rfl
theorem fDo0 : fieldOff Tryd.prog 25 0 = some 0 := by kernel_rfl
theorem fDo1 : fieldOff Tryd.prog 25 1 = some 1 := by kernel_rfl
theorem fDo2 : fieldOff Tryd.prog 25 2 = some 2 := by kernel_rfl
theorem fDo3 : fieldOff Tryd.prog 25 3 = some 3 := by kernel_rfl
theorem fTo0 : fieldOff Tryd.prog 36 0 = some 0 := by kernel_rfl
theorem fTo1 : fieldOff Tryd.prog 36 1 = some 1 := by kernel_rfl
theorem fTo2 : fieldOff Tryd.prog 36 2 = some 2 := by kernel_rfl
theorem fTo3 : fieldOff Tryd.prog 36 3 = some 3 := by kernel_rfl
theorem agg_do : aggOf Tryd.prog 25 = some (true, 4) := by kernel_rfl
theorem agg_to : aggOf Tryd.prog 36 = some (true, 4) := by kernel_rfl
theorem sz_do : (Tryd.prog.info? 25).map (·.size) = some 4 := by kernel_rfl
theorem sz_to : (Tryd.prog.info? 36).map (·.size) = some 4 := by kernel_rfl
theorem sz_bl : (Tryd.prog.info? 4).map (·.size) = some 1 := by kernel_rfl
theorem sz_it : (Tryd.prog.info? 3).map (·.size) = some 1 := by kernel_rfl
theorem sz_ps : (Tryd.prog.info? 22).map (·.size) = some 1 := by kernel_rfl
theorem sldo : slOf Tryd.prog 32 = some (25, 4) := by kernel_rfl
def zDo : List Value := [.int .i64 0, .slice none 0 0, .slice none 0 0, .int .i64 0]
def zTo : List Value := [.slice none 0 0, .bool false, .slice none 0 0, .int .i64 0]
theorem z_do : zeroOf Tryd.prog 25 = some zDo := by kernel_rfl
theorem z_to : zeroOf Tryd.prog 36 = some zTo := by kernel_rfl
theorem al_do : (Tryd.prog.info? 25).map (fun i => i.zero.map fun z => z.cells.toList) = some (some zDo) := by kernel_rfl
theorem al_to : (Tryd.prog.info? 36).map (fun i => i.zero.map fun z => z.cells.toList) = some (some zTo) := by kernel_rfl
theorem pl_do : placesOf Tryd.prog 25 = some [(0, 1), (1, 1), (2, 1), (3, 1)] := by kernel_rfl
theorem pl_to : placesOf Tryd.prog 36 = some [(0, 1), (1, 1), (2, 1), (3, 1)] := by kernel_rfl
theorem doN_le_take (l : List Do) (i : Nat) : doN (l.take i) ≤ doN l := by
  have : doN l = doN (l.take i) + doN (l.drop i) := by unfold doN; rw [← List.sum_append, ← List.map_append, List.take_append_drop]
  omega
theorem doN_len (l : List Do) : l.length ≤ doN l := by
  unfold doN
  induction l with
  | nil => exact Nat.zero_le _
  | cons x l ih => rw [List.map_cons, List.sum_cons, List.length_cons]; omega
def bigN (t : Nd) (l : List Do) : Prop := 300 ≤ muchP t 300 + doN l ∨ 60 < l.length
instance (t : Nd) (l : List Do) : Decidable (bigN t l) := inferInstanceAs (Decidable (_ ∨ _))
set_option maxRecDepth 100000 in
set_option maxHeartbeats 2000000 in
theorem long17_any (t : Nd) (ht : sz t ≤ 900000000) (l : List Do) (gs : List (Option Nat)) (w : World) (cs : List Value) (A : Option Addr) (n c : Nat) (hr : RdL w (Fd w gs) (dN t) cs) (hd : RdD w (Fd w gs) (dDl l) (.slice A n c)) (hgs : ∀ b, some b ∈ gs → b < w.heap.size) (hz : (l.map fun d => d.key.length + d.val.length + 4).sum ≤ 100000000) :
    Calls Tryd.prog 7 #[.agg cs.toArray, .slice A n c] w fun e w' => e = .returned (.bool (decide (bigN t l))) ∧ Below w.heap.size w w' := by
  refine calls_ev (args := [.agg cs.toArray, .slice A n c]) mixed Tryd.func7 rfl (by kernel_rfl) ?_
  have hcl := hr.len
  rw [dN_len] at hcl
  have en : n = l.length := hd.slen
  subst en
  have hdn := doN_le l
  have hdl := doN_len l
  have hml := much_le t 300
  have M := ((St.start hgs).addD hd).addL hr
  clear hr hd
  refine s_box (cs) M rfl ?_
  clear M
  rintro g2 W M
  refine v_loadN cs agg_nd rfl hcl (M.run 0 rfl) ?_
  refine cc is_much7r (much_any 1000000000 (by decide) t (by omega) _ _ cs 300 (M.da 0 rfl) M.olt (by decide)) ?_
  rintro e W ⟨rfl, hb⟩
  replace M := M.call hb
  clear hb
  refine ⟨_, rfl, ?_⟩
  refine lp Nat (fun i W => i ≤ l.length ∧ St w gs W [] [] [.dat false [dDl l] [.slice A l.length c]]) (fun i => [(1, .slice A l.length c), (5, .int .i64 ((muchP t 300 + doN (l.take i) : Nat) : Int)), (6, .int .i64 i)]) (fun i => l.length - i) 0 ⟨Nat.zero_le _, M.dropL.fsub _ (by simp)⟩ ⟨rfl, rfl, rfl, trivial⟩ ?_
  clear M
  rintro i E5 W5 ⟨hi, M⟩
  refine p_len sldo rfl ?_
  refine p_lt rfl rfl (fun hlt => ?_) (fun hge => ?_)
  · obtain ⟨d, hd⟩ : ∃ d, l[i]? = some d := ⟨_, List.getElem?_eq_getElem (by omega)⟩
    have hs := doN_take l hd
    have hs2 := doN_le_take l (i + 1)
    have hdm := doN_mem (List.mem_of_getElem? hd)
    have hlt : i < l.length := by omega
    obtain ⟨b1, o1, Ak, ck, Av, cv, rfl, M'⟩ := M.do_ (M.d1 0 rfl) hd
    replace M := M'.drew; clear M'
    refine drT (Kp w gs [] [.loc ((⟨b1, o1, none⟩ : Addr).add (i * 4)) (dcs d Ak ck Av cv)]) (.take 0 (.take 1 (.take 2 (.take 3 (.take 4 (.take 5 (.take 6 (.take 7 (.take 8 (.take 9 (.take 10 (.take 11 (.take 12 (.take 13 (.take 14 (.take 15 (.take 16 (.take 17 (.nil))))))))))))))))))) (by kernel_rfl) (M.kp (by simp) (by simp)) ?_
    refine p_addN (b := 1) rfl rfl (by omega) ?_
    refine p_at (i := i) sldo rfl rfl rfl hlt ?_
    refine p_fld fDo1 rfl ?_
    refine t_load agg_b rfl (fun W K => K.lc 0 rfl 1 _ rfl) ?_
    refine p_len slb rfl ?_
    refine p_at (i := i) sldo rfl rfl rfl hlt ?_
    refine p_fld fDo2 rfl ?_
    refine t_load agg_b rfl (fun W K => K.lc 0 rfl 2 _ rfl) ?_
    refine p_len slb rfl ?_
    refine p_addN rfl rfl (by omega) ?_
    refine p_quoN (b := 50) rfl rfl (by decide) (by omega) ?_
    refine p_addN rfl rfl (by omega) ?_
    refine p_addN (b := 1) rfl rfl (by omega) ?_
    exact ⟨i + 1, ⟨by omega, M.fsub _ (by simp)⟩, ⟨rfl, (by show Value.int .i64 ((muchP t 300 + doN (l.take i) + 1 + (d.key.length + d.val.length) / 50 : Nat) : Int) = _; rw [hs, ← Nat.add_assoc, ← Nat.add_assoc]), rfl, trivial⟩, by omega⟩
  · have hin : i = l.length := by omega
    subst hin
    rw [List.take_of_length_le (Nat.le_refl _)]
    refine p_ge rfl rfl (fun h => ?_) (fun h => ?_)
    · have h : 300 ≤ muchP t 300 + doN l := by have h : (300 : Int) ≤ ((muchP t 300 + doN l : Nat) : Int) := h; omega
      exact ⟨ret_tf (decide_eq_true (.inl h)).symm, M.below⟩
    · have h : ¬ 300 ≤ muchP t 300 + doN l := by have h : ¬ (300 : Int) ≤ ((muchP t 300 + doN l : Nat) : Int) := h; omega
      refine p_len sldo rfl ?_
      refine p_gt rfl rfl (fun h2 => ?_) (fun h2 => ?_)
      · have h2 : 60 < l.length := by have h2 : (60 : Int) < (l.length : Int) := h2; omega
        exact ⟨ret_tf (decide_eq_true (.inr h2)).symm, M.below⟩
      · have h2 : ¬ 60 < l.length := by have h2 : ¬ (60 : Int) < (l.length : Int) := h2; omega
        exact ⟨ret_tf (decide_eq_false (fun q => q.elim h h2)).symm, M.below⟩
section
variable {w W : World} {gs : List (Option Nat)} {g : Nat} {t : Nd} {sv : Value} {L : Lc} {R : List Row} {fs : List Fact}
set_option maxRecDepth 100000 in
set_option maxHeartbeats 4000000 in
/-- What is done to a store, but for saving. -/
theorem done_any (hS : Sto w gs W g t sv L R fs) (hz : sz t < 500000) {d : Do} {cs : List Value} (hd : RdL W (Fd W (some g :: own L R gs)) (dDo d) cs) (hdl : d.key.length + d.val.length ≤ 500000) (hk : d.kind ≤ 4) :
    Calls Tryd.prog 9 #[.pointer (some ⟨g, 0, none⟩), .agg cs.toArray] W fun e W' => (∃ v, e = .returned v) ∧ Sto w gs W' g (if d.kind ≤ 4 then stepT t d.kind d.key d.val else t) sv L R fs := by
  refine calls_ev (args := [.pointer (some ⟨g, 0, none⟩), .agg cs.toArray]) mixed Tryd.func9 rfl (by kernel_rfl) ?_
  rw [if_pos hk]
  obtain ⟨Ak, ck, Av, cv, rfl, h1, h2⟩ := hd.do_
  obtain ⟨p, A0, n0, c0, M⟩ := hS
  replace M := (M.addD h2).addD h1
  clear h1 h2 hd
  refine s_box (dcs d Ak ck Av cv) M rfl ?_
  clear M
  rintro g3 W M
  replace M := M.swp
  refine s_alloc (zTo) M al_to ?_
  clear M
  rintro g4 W M
  replace M := M.swp
  refine p_build (vs := zTo) pl_to z_to rfl ?_
  refine s_alloc (zTo) M al_to ?_
  clear M
  rintro g5 W M
  replace M := M.swp
  refine s_storeA 1 zTo M rfl sz_to rfl rfl rfl (all1 rfl) rfl ?_
  clear M; rintro W M
  dsimp only [setL] at M
  have hS : Sto w gs W g t sv ((g5, 36, zTo) :: (g4, 36, zTo) :: (g3, 25, dcs d Ak ck Av cv) :: L) R (.dat false [dB d.key] [.slice Ak d.key.length ck] :: .dat false [dB d.val] [.slice Av d.val.length cv] :: fs) := ⟨p, A0, n0, c0, M.fsub _ (by intro f hf; simp only [List.mem_cons] at hf ⊢; rcases hf with h | h | h | h <;> simp [h])⟩
  clear M p
  refine p_fld fDo0 rfl ?_
  obtain ⟨p, A0, n0, c0, M⟩ := id hS
  refine v_load agg_int rfl ((M.B 3 rfl).at_ rfl) ?_
  refine p_eq rfl rfl (fun hk1 => ?_) (fun hk1 => ?_)
  · have hk1 : d.kind = 1 := hk1
    have hst : stepT t d.kind d.key d.val = t := by rw [hk1]; rfl
    refine p_fld fDo1 rfl ?_
    refine v_load agg_b rfl ((M.B 3 rfl).at_ rfl) ?_
    refine cc is_sGet (sGet_any hS (by omega) (M.d1 1 rfl)) ?_
    clear M p hS
    rintro e W ⟨A', n', c', rfl, p, A0, n0, c0, M⟩
    refine ⟨_, rfl, ?_⟩
    refine p_fld fTo0 rfl ?_
    refine s_set 1 (off := 0) (.slice A' n' c') [.slice A' n' c', .bool false, .slice none 0 0, .int .i64 0] M rfl sz_slB rfl rfl rfl (Nat.le_of_ble_eq_true rfl) rfl ?_
    clear M; rintro W M
    dsimp only [setL] at M
    refine p_fld fTo1 rfl ?_
    refine s_set 1 (off := 1) (.bool (tGet t d.key).has) [.slice A' n' c', .bool (tGet t d.key).has, .slice none 0 0, .int .i64 0] M rfl sz_bl rfl rfl rfl (Nat.le_of_ble_eq_true rfl) rfl ?_
    clear M; rintro W M
    dsimp only [setL] at M
    refine p_fld fTo3 rfl ?_
    refine s_set 1 (off := 3) (.int .i64 (tGet t d.key).e) [(.slice A' n' c'), (.bool (tGet t d.key).has), (.slice none 0 0), .int .i64 (tGet t d.key).e] M rfl sz_it rfl rfl rfl (Nat.le_of_ble_eq_true rfl) rfl ?_
    clear M; rintro W M
    dsimp only [setL] at M
    refine v_loadN [(.slice A' n' c'), (.bool (tGet t d.key).has), (.slice none 0 0), .int .i64 (tGet t d.key).e] agg_to rfl rfl (M.run 1 rfl) ?_
    refine s_storeA 2 [(.slice A' n' c'), (.bool (tGet t d.key).has), (.slice none 0 0), .int .i64 (tGet t d.key).e] M rfl sz_to rfl rfl rfl (all1 rfl) rfl ?_
    clear M; rintro W M
    dsimp only [setL] at M
    refine c_loadN [(.slice A' n' c'), (.bool (tGet t d.key).has), (.slice none 0 0), .int .i64 (tGet t d.key).e] agg_to rfl rfl (M.run 2 rfl) ?_
    rw [hst]
    exact ⟨⟨_, rfl⟩, p, A0, n0, c0, M.swp.dropL.swp.dropL.swp.dropL.fsub _ (by intro f hf; simp only [List.mem_cons] at hf ⊢; rcases hf with h | h <;> simp [h])⟩
  refine p_eq rfl rfl (fun hk2 => ?_) (fun hk2 => ?_)
  · have hk2 : d.kind = 2 := hk2
    refine p_fld fDo1 rfl ?_
    refine v_load agg_b rfl ((M.B 3 rfl).at_ rfl) ?_
    refine p_fld fDo2 rfl ?_
    refine v_load agg_b rfl ((M.B 3 rfl).at_ rfl) ?_
    refine cc is_sPut (sPut_any hS (by omega) (M.d1 1 rfl) (M.d1 2 rfl)) ?_
    clear M p hS
    rintro e W ⟨rfl, p, A0, n0, c0, M⟩
    refine ⟨_, rfl, ?_⟩
    refine p_fld fTo3 rfl ?_
    refine s_set 1 (off := 3) (.int .i64 (tPut t d.key d.val).2.2) [(.slice none 0 0), (.bool false), (.slice none 0 0), .int .i64 (tPut t d.key d.val).2.2] M rfl sz_it rfl rfl rfl (Nat.le_of_ble_eq_true rfl) rfl ?_
    clear M; rintro W M
    dsimp only [setL] at M
    refine v_loadN [(.slice none 0 0), (.bool false), (.slice none 0 0), .int .i64 (tPut t d.key d.val).2.2] agg_to rfl rfl (M.run 1 rfl) ?_
    refine s_storeA 2 [(.slice none 0 0), (.bool false), (.slice none 0 0), .int .i64 (tPut t d.key d.val).2.2] M rfl sz_to rfl rfl rfl (all1 rfl) rfl ?_
    clear M; rintro W M
    dsimp only [setL] at M
    refine c_loadN [(.slice none 0 0), (.bool false), (.slice none 0 0), .int .i64 (tPut t d.key d.val).2.2] agg_to rfl rfl (M.run 2 rfl) ?_
    rw [hk2]
    exact ⟨⟨_, rfl⟩, p, A0, n0, c0, M.swp.dropL.swp.dropL.swp.dropL.fsub _ (by intro f hf; simp only [List.mem_cons] at hf ⊢; rcases hf with h | h <;> simp [h])⟩
  refine p_eq rfl rfl (fun hk3 => ?_) (fun hk3 => ?_)
  · have hk3 : d.kind = 3 := hk3
    refine p_fld fDo1 rfl ?_
    refine v_load agg_b rfl ((M.B 3 rfl).at_ rfl) ?_
    refine cc is_sDrop (sDrop_any hS (by omega) d.val (M.d1 1 rfl)) ?_
    clear M p hS
    rintro e W ⟨rfl, p, A0, n0, c0, M⟩
    refine ⟨_, rfl, ?_⟩
    refine p_fld fTo1 rfl ?_
    refine s_set 1 (off := 1) (.bool (tDrop t d.key).has) [.slice none 0 0, .bool (tDrop t d.key).has, .slice none 0 0, .int .i64 0] M rfl sz_bl rfl rfl rfl (Nat.le_of_ble_eq_true rfl) rfl ?_
    clear M; rintro W M
    dsimp only [setL] at M
    refine p_fld fTo3 rfl ?_
    refine s_set 1 (off := 3) (.int .i64 (tDrop t d.key).e) [(.slice none 0 0), (.bool (tDrop t d.key).has), (.slice none 0 0), .int .i64 (tDrop t d.key).e] M rfl sz_it rfl rfl rfl (Nat.le_of_ble_eq_true rfl) rfl ?_
    clear M; rintro W M
    dsimp only [setL] at M
    refine v_loadN [(.slice none 0 0), (.bool (tDrop t d.key).has), (.slice none 0 0), .int .i64 (tDrop t d.key).e] agg_to rfl rfl (M.run 1 rfl) ?_
    refine s_storeA 2 [(.slice none 0 0), (.bool (tDrop t d.key).has), (.slice none 0 0), .int .i64 (tDrop t d.key).e] M rfl sz_to rfl rfl rfl (all1 rfl) rfl ?_
    clear M; rintro W M
    dsimp only [setL] at M
    refine c_loadN [(.slice none 0 0), (.bool (tDrop t d.key).has), (.slice none 0 0), .int .i64 (tDrop t d.key).e] agg_to rfl rfl (M.run 2 rfl) ?_
    rw [hk3]
    exact ⟨⟨_, rfl⟩, p, A0, n0, c0, M.swp.dropL.swp.dropL.swp.dropL.fsub _ (by intro f hf; simp only [List.mem_cons] at hf ⊢; rcases hf with h | h <;> simp [h])⟩
  have hk2 : d.kind ≠ 2 := hk2
  have hk3 : d.kind ≠ 3 := hk3
  have hst : stepT t d.kind d.key d.val = t := by unfold stepT; rw [if_neg hk2, if_neg hk3]
  rw [hst]
  refine p_eq rfl rfl (fun hk4 => ?_) (fun hk4 => ?_)
  · refine p_fld fDo1 rfl ?_
    refine v_load agg_b rfl ((M.B 3 rfl).at_ rfl) ?_
    refine p_fld fDo2 rfl ?_
    refine v_load agg_b rfl ((M.B 3 rfl).at_ rfl) ?_
    refine p_fld fDo3 rfl ?_
    refine v_load agg_int rfl ((M.B 3 rfl).at_ rfl) ?_
    refine cc is_sRange (sRange_any hS (by omega) (M.d1 1 rfl) (M.d1 2 rfl) ⟨by omega, by omega⟩) ?_
    clear M p hS
    rintro e W ⟨A', n', c', rfl, p, A0, n0, c0, M⟩
    refine ⟨_, rfl, ?_⟩
    refine p_fld fTo2 rfl ?_
    refine s_set 1 (off := 2) (.slice A' n' c') [.slice none 0 0, .bool false, .slice A' n' c', .int .i64 0] M rfl sz_ps rfl rfl rfl (Nat.le_of_ble_eq_true rfl) rfl ?_
    clear M; rintro W M
    dsimp only [setL] at M
    refine p_fld fTo3 rfl ?_
    refine s_set 1 (off := 3) (.int .i64 (rangeP t d.key d.val d.most false).e) [(.slice none 0 0), (.bool false), (.slice A' n' c'), .int .i64 (rangeP t d.key d.val d.most false).e] M rfl sz_it rfl rfl rfl (Nat.le_of_ble_eq_true rfl) rfl ?_
    clear M; rintro W M
    dsimp only [setL] at M
    refine v_loadN [(.slice none 0 0), (.bool false), (.slice A' n' c'), .int .i64 (rangeP t d.key d.val d.most false).e] agg_to rfl rfl (M.run 1 rfl) ?_
    refine s_storeA 2 [(.slice none 0 0), (.bool false), (.slice A' n' c'), .int .i64 (rangeP t d.key d.val d.most false).e] M rfl sz_to rfl rfl rfl (all1 rfl) rfl ?_
    clear M; rintro W M
    dsimp only [setL] at M
    refine c_loadN [(.slice none 0 0), (.bool false), (.slice A' n' c'), .int .i64 (rangeP t d.key d.val d.most false).e] agg_to rfl rfl (M.run 2 rfl) ?_
    exact ⟨⟨_, rfl⟩, p, A0, n0, c0, M.swp.dropL.swp.dropL.swp.dropL.fsub _ (by intro f hf; simp only [List.mem_cons] at hf ⊢; rcases hf with h | h <;> simp [h])⟩
  have hk4 : d.kind ≠ 4 := hk4
  clear hS
  refine p_eq rfl rfl (fun h => absurd (show d.kind = 5 from h) (by omega)) (fun _ => ?_)
  refine p_eq rfl rfl (fun h => absurd (show d.kind = 6 from h) (by omega)) (fun _ => ?_)
  refine p_eq rfl rfl (fun h => absurd (show d.kind = 7 from h) (by omega)) (fun _ => ?_)
  refine p_fld fTo3 rfl ?_
  refine s_set 1 (off := 3) (.int .i64 0) [(.slice none 0 0), (.bool false), (.slice none 0 0), .int .i64 0] M rfl sz_it rfl rfl rfl (Nat.le_of_ble_eq_true rfl) rfl ?_
  clear M; rintro W M
  dsimp only [setL] at M
  refine v_loadN [(.slice none 0 0), (.bool false), (.slice none 0 0), .int .i64 0] agg_to rfl rfl (M.run 1 rfl) ?_
  refine s_storeA 2 [(.slice none 0 0), (.bool false), (.slice none 0 0), .int .i64 0] M rfl sz_to rfl rfl rfl (all1 rfl) rfl ?_
  clear M; rintro W M
  dsimp only [setL] at M
  refine c_loadN [(.slice none 0 0), (.bool false), (.slice none 0 0), .int .i64 0] agg_to rfl rfl (M.run 2 rfl) ?_
  exact ⟨⟨_, rfl⟩, p, A0, n0, c0, M.swp.dropL.swp.dropL.swp.dropL.fsub _ (by intro f hf; simp only [List.mem_cons] at hf ⊢; rcases hf with h | h <;> simp [h])⟩
end
set_option maxRecDepth 100000 in
set_option maxHeartbeats 4000000 in
/-- What is done to a store that is not there. -/
theorem done_none (W : World) (gs : List (Option Nat)) {d : Do} {cs : List Value} (hd : RdL W (Fd W gs) (dDo d) cs) (hgs : ∀ b, some b ∈ gs → b < W.heap.size) :
    Calls Tryd.prog 9 #[.pointer none, .agg cs.toArray] W fun e W' => ∃ x : Int, e = .returned (.agg #[.slice none 0 0, .bool false, .slice none 0 0, .int .i64 x]) ∧ (1 ≤ d.kind ∧ d.kind ≤ 7 → x = 1) ∧ Below W.heap.size W W' := by
  refine calls_ev (args := [.pointer none, .agg cs.toArray]) mixed Tryd.func9 rfl (by kernel_rfl) ?_
  obtain ⟨Ak, ck, Av, cv, rfl, h1, h2⟩ := hd.do_
  have M := St.start hgs
  clear h1 h2 hd
  refine s_box (dcs d Ak ck Av cv) M rfl ?_
  clear M
  rintro g3 W M
  refine s_alloc (zTo) M al_to ?_
  clear M
  rintro g4 W M
  refine p_build (vs := zTo) pl_to z_to rfl ?_
  refine s_alloc (zTo) M al_to ?_
  clear M
  rintro g5 W M
  refine s_storeA 0 zTo M rfl sz_to rfl rfl rfl (all1 rfl) rfl ?_
  clear M; rintro W M
  dsimp only [setL] at M
  refine p_fld fDo0 rfl ?_
  refine v_load agg_int rfl ((M.B 2 rfl).at_ rfl) ?_
  refine p_eq rfl rfl (fun hk1 => ?_) (fun hk1 => ?_)
  · refine p_fld fDo1 rfl ?_
    refine v_load agg_b rfl ((M.B 2 rfl).at_ rfl) ?_
    refine cc is_sGet (nGet _ _) ?_
    rintro e W ⟨rfl, rfl⟩
    refine ⟨_, rfl, ?_⟩
    refine p_fld fTo0 rfl ?_
    refine s_set 0 (off := 0) (.slice none 0 0) [.slice none 0 0, .bool false, .slice none 0 0, .int .i64 0] M rfl sz_slB rfl rfl rfl (Nat.le_of_ble_eq_true rfl) rfl ?_
    clear M; rintro W M
    dsimp only [setL] at M
    refine p_fld fTo1 rfl ?_
    refine s_set 0 (off := 1) (.bool false) [.slice none 0 0, .bool false, .slice none 0 0, .int .i64 0] M rfl sz_bl rfl rfl rfl (Nat.le_of_ble_eq_true rfl) rfl ?_
    clear M; rintro W M
    dsimp only [setL] at M
    refine p_fld fTo3 rfl ?_
    refine s_set 0 (off := 3) (.int .i64 1) [.slice none 0 0, .bool false, .slice none 0 0, .int .i64 1] M rfl sz_it rfl rfl rfl (Nat.le_of_ble_eq_true rfl) rfl ?_
    clear M; rintro W M
    dsimp only [setL] at M
    refine v_loadN [.slice none 0 0, .bool false, .slice none 0 0, .int .i64 1] agg_to rfl rfl (M.run 0 rfl) ?_
    refine s_storeA 1 [.slice none 0 0, .bool false, .slice none 0 0, .int .i64 1] M rfl sz_to rfl rfl rfl (all1 rfl) rfl ?_
    clear M; rintro W M
    dsimp only [setL] at M
    refine c_loadN [.slice none 0 0, .bool false, .slice none 0 0, .int .i64 1] agg_to rfl rfl (M.run 1 rfl) ?_
    exact ⟨1, rfl, fun _ => rfl, M.below⟩
  refine p_eq rfl rfl (fun hk2 => ?_) (fun hk2 => ?_)
  · refine p_fld fDo1 rfl ?_
    refine v_load agg_b rfl ((M.B 2 rfl).at_ rfl) ?_
    refine p_fld fDo2 rfl ?_
    refine v_load agg_b rfl ((M.B 2 rfl).at_ rfl) ?_
    refine cc is_sPut (nPut _ _ _) ?_
    rintro e W ⟨rfl, rfl⟩
    refine ⟨_, rfl, ?_⟩
    refine p_fld fTo3 rfl ?_
    refine s_set 0 (off := 3) (.int .i64 1) [.slice none 0 0, .bool false, .slice none 0 0, .int .i64 1] M rfl sz_it rfl rfl rfl (Nat.le_of_ble_eq_true rfl) rfl ?_
    clear M; rintro W M
    dsimp only [setL] at M
    refine v_loadN [.slice none 0 0, .bool false, .slice none 0 0, .int .i64 1] agg_to rfl rfl (M.run 0 rfl) ?_
    refine s_storeA 1 [.slice none 0 0, .bool false, .slice none 0 0, .int .i64 1] M rfl sz_to rfl rfl rfl (all1 rfl) rfl ?_
    clear M; rintro W M
    dsimp only [setL] at M
    refine c_loadN [.slice none 0 0, .bool false, .slice none 0 0, .int .i64 1] agg_to rfl rfl (M.run 1 rfl) ?_
    exact ⟨1, rfl, fun _ => rfl, M.below⟩
  refine p_eq rfl rfl (fun hk3 => ?_) (fun hk3 => ?_)
  · refine p_fld fDo1 rfl ?_
    refine v_load agg_b rfl ((M.B 2 rfl).at_ rfl) ?_
    refine cc is_sDrop (nDrop _ _) ?_
    rintro e W ⟨rfl, rfl⟩
    refine ⟨_, rfl, ?_⟩
    refine p_fld fTo1 rfl ?_
    refine s_set 0 (off := 1) (.bool false) [.slice none 0 0, .bool false, .slice none 0 0, .int .i64 0] M rfl sz_bl rfl rfl rfl (Nat.le_of_ble_eq_true rfl) rfl ?_
    clear M; rintro W M
    dsimp only [setL] at M
    refine p_fld fTo3 rfl ?_
    refine s_set 0 (off := 3) (.int .i64 1) [.slice none 0 0, .bool false, .slice none 0 0, .int .i64 1] M rfl sz_it rfl rfl rfl (Nat.le_of_ble_eq_true rfl) rfl ?_
    clear M; rintro W M
    dsimp only [setL] at M
    refine v_loadN [.slice none 0 0, .bool false, .slice none 0 0, .int .i64 1] agg_to rfl rfl (M.run 0 rfl) ?_
    refine s_storeA 1 [.slice none 0 0, .bool false, .slice none 0 0, .int .i64 1] M rfl sz_to rfl rfl rfl (all1 rfl) rfl ?_
    clear M; rintro W M
    dsimp only [setL] at M
    refine c_loadN [.slice none 0 0, .bool false, .slice none 0 0, .int .i64 1] agg_to rfl rfl (M.run 1 rfl) ?_
    exact ⟨1, rfl, fun _ => rfl, M.below⟩
  refine p_eq rfl rfl (fun hk4 => ?_) (fun hk4 => ?_)
  · refine p_fld fDo1 rfl ?_
    refine v_load agg_b rfl ((M.B 2 rfl).at_ rfl) ?_
    refine p_fld fDo2 rfl ?_
    refine v_load agg_b rfl ((M.B 2 rfl).at_ rfl) ?_
    refine p_fld fDo3 rfl ?_
    refine v_load agg_int rfl ((M.B 2 rfl).at_ rfl) ?_
    refine cc is_sRange (nRange _ _ _ _) ?_
    rintro e W ⟨rfl, rfl⟩
    refine ⟨_, rfl, ?_⟩
    refine p_fld fTo2 rfl ?_
    refine s_set 0 (off := 2) (.slice none 0 0) [.slice none 0 0, .bool false, .slice none 0 0, .int .i64 0] M rfl sz_ps rfl rfl rfl (Nat.le_of_ble_eq_true rfl) rfl ?_
    clear M; rintro W M
    dsimp only [setL] at M
    refine p_fld fTo3 rfl ?_
    refine s_set 0 (off := 3) (.int .i64 1) [.slice none 0 0, .bool false, .slice none 0 0, .int .i64 1] M rfl sz_it rfl rfl rfl (Nat.le_of_ble_eq_true rfl) rfl ?_
    clear M; rintro W M
    dsimp only [setL] at M
    refine v_loadN [.slice none 0 0, .bool false, .slice none 0 0, .int .i64 1] agg_to rfl rfl (M.run 0 rfl) ?_
    refine s_storeA 1 [.slice none 0 0, .bool false, .slice none 0 0, .int .i64 1] M rfl sz_to rfl rfl rfl (all1 rfl) rfl ?_
    clear M; rintro W M
    dsimp only [setL] at M
    refine c_loadN [.slice none 0 0, .bool false, .slice none 0 0, .int .i64 1] agg_to rfl rfl (M.run 1 rfl) ?_
    exact ⟨1, rfl, fun _ => rfl, M.below⟩
  refine p_eq rfl rfl (fun hk5 => ?_) (fun hk5 => ?_)
  · refine cc is_sSave (nSave _) ?_
    rintro e W ⟨rfl, rfl⟩
    refine ⟨_, rfl, ?_⟩
    refine p_fld fTo3 rfl ?_
    refine s_set 0 (off := 3) (.int .i64 1) [.slice none 0 0, .bool false, .slice none 0 0, .int .i64 1] M rfl sz_it rfl rfl rfl (Nat.le_of_ble_eq_true rfl) rfl ?_
    clear M; rintro W M
    dsimp only [setL] at M
    refine v_loadN [.slice none 0 0, .bool false, .slice none 0 0, .int .i64 1] agg_to rfl rfl (M.run 0 rfl) ?_
    refine s_storeA 1 [.slice none 0 0, .bool false, .slice none 0 0, .int .i64 1] M rfl sz_to rfl rfl rfl (all1 rfl) rfl ?_
    clear M; rintro W M
    dsimp only [setL] at M
    refine c_loadN [.slice none 0 0, .bool false, .slice none 0 0, .int .i64 1] agg_to rfl rfl (M.run 1 rfl) ?_
    exact ⟨1, rfl, fun _ => rfl, M.below⟩
  refine p_eq rfl rfl (fun hk6 => ?_) (fun hk6 => ?_)
  · refine cc is_sKeep (nKeep _) ?_
    rintro e W ⟨rfl, hb⟩
    replace M := M.call hb
    refine ⟨_, rfl, ?_⟩
    refine p_fld fTo3 rfl ?_
    refine s_set 0 (off := 3) (.int .i64 1) [.slice none 0 0, .bool false, .slice none 0 0, .int .i64 1] M rfl sz_it rfl rfl rfl (Nat.le_of_ble_eq_true rfl) rfl ?_
    clear M; rintro W M
    dsimp only [setL] at M
    refine v_loadN [.slice none 0 0, .bool false, .slice none 0 0, .int .i64 1] agg_to rfl rfl (M.run 0 rfl) ?_
    refine s_storeA 1 [.slice none 0 0, .bool false, .slice none 0 0, .int .i64 1] M rfl sz_to rfl rfl rfl (all1 rfl) rfl ?_
    clear M; rintro W M
    dsimp only [setL] at M
    refine c_loadN [.slice none 0 0, .bool false, .slice none 0 0, .int .i64 1] agg_to rfl rfl (M.run 1 rfl) ?_
    exact ⟨1, rfl, fun _ => rfl, M.below⟩
  refine p_eq rfl rfl (fun hk7 => ?_) (fun hk7 => ?_)
  · refine cc is_sUndo (nUndo _) ?_
    rintro e W ⟨rfl, hb⟩
    replace M := M.call hb
    refine ⟨_, rfl, ?_⟩
    refine p_fld fTo3 rfl ?_
    refine s_set 0 (off := 3) (.int .i64 1) [.slice none 0 0, .bool false, .slice none 0 0, .int .i64 1] M rfl sz_it rfl rfl rfl (Nat.le_of_ble_eq_true rfl) rfl ?_
    clear M; rintro W M
    dsimp only [setL] at M
    refine v_loadN [.slice none 0 0, .bool false, .slice none 0 0, .int .i64 1] agg_to rfl rfl (M.run 0 rfl) ?_
    refine s_storeA 1 [.slice none 0 0, .bool false, .slice none 0 0, .int .i64 1] M rfl sz_to rfl rfl rfl (all1 rfl) rfl ?_
    clear M; rintro W M
    dsimp only [setL] at M
    refine c_loadN [.slice none 0 0, .bool false, .slice none 0 0, .int .i64 1] agg_to rfl rfl (M.run 1 rfl) ?_
    exact ⟨1, rfl, fun _ => rfl, M.below⟩
  have h1 : ¬ d.kind = 1 := hk1
  have h2 : ¬ d.kind = 2 := hk2
  have h3 : ¬ d.kind = 3 := hk3
  have h4 : ¬ d.kind = 4 := hk4
  have h5 : ¬ d.kind = 5 := hk5
  have h6 : ¬ d.kind = 6 := hk6
  have h7 : ¬ d.kind = 7 := hk7
  refine p_fld fTo3 rfl ?_
  refine s_set 0 (off := 3) (.int .i64 0) zTo M rfl sz_it rfl rfl rfl (Nat.le_of_ble_eq_true rfl) rfl ?_
  clear M; rintro W M
  dsimp only [setL] at M
  refine v_loadN zTo agg_to rfl rfl (M.run 0 rfl) ?_
  refine s_storeA 1 zTo M rfl sz_to rfl rfl rfl (all1 rfl) rfl ?_
  clear M; rintro W M
  dsimp only [setL] at M
  refine c_loadN zTo agg_to rfl rfl (M.run 1 rfl) ?_
  exact ⟨0, rfl, fun h => by omega, M.below⟩
end Go.Proofs.YtdlljmmgkoeilaaDoor
namespace Go.Proofs.YtdlljmmgkoeilaaDoor
open Go.RowKit
/-- A store's own places. -/
structure SPl where
  p : Pts
  A : Option Addr
  c : Nat
  xs : List Value
  Am : Option Addr
  nm : Nat
  cm : Nat
/-- A store: its block, what it holds, what is saved; may that grow. -/
structure SEn where
  g : Nat
  t : Nd
  ss : List Nd
  m : Bool
def sBlk (y : SEn × SPl) : Nat × TypeId × List Value := (y.1.g, 74, pcN y.1.t y.2.p ++ [.slice y.2.A y.1.ss.length y.2.c, .slice y.2.Am y.2.nm y.2.cm])
def sRows (y : SEn × SPl) : List Row := match y.1.m with
  | true => [⟨71, 6, y.2.A, y.1.ss.length, y.2.c, y.2.xs⟩]
  | false => []
def sFs (y : SEn × SPl) : List Fact := .dat false (dN y.1.t) (pcN y.1.t y.2.p) :: match y.1.m with
  | true => [.dat false (dNs y.1.ss) y.2.xs]
  | false => [.dat false [dKs y.1.ss] [.slice y.2.A y.1.ss.length y.2.c]]
def StN (w : World) (gs : List (Option Nat)) (W : World) (l : List SEn) (L : Lc) (R : List Row) (fs : List Fact) : Prop :=
  ∃ bs : List (SEn × SPl), bs.map (·.1) = l ∧ St w gs W (bs.map sBlk ++ L) (bs.flatMap sRows ++ R) (bs.flatMap sFs ++ fs)
section
variable {w W : World} {gs : List (Option Nat)} {l : List SEn} {L : Lc} {R : List Row} {fs : List Fact} {g : Nat} {t : Nd} {ss : List Nd}
theorem StN.nil (M : St w gs W L R fs) : StN w gs W [] L R fs := ⟨[], rfl, M⟩
theorem StN.fsub {fs' : List Fact} (h : StN w gs W l L R fs) (hf : ∀ f ∈ fs', f ∈ fs) : StN w gs W l L R fs' := by
  obtain ⟨bs, e, M⟩ := h
  exact ⟨bs, e, M.fsub _ fun f h => by
    rcases List.mem_append.1 h with h | h
    · exact List.mem_append_left _ h
    · exact List.mem_append_right _ (hf f h)⟩
/-- As any state; and back. -/
theorem StN.open_ (h : StN w gs W l L R fs) : ∃ L' R' fs', St w gs W L' R' fs' ∧ (∀ f ∈ fs, f ∈ fs') ∧ (∀ W' fs2, St w gs W' L' R' (fs2 ++ fs') → StN w gs W' l L R (fs2 ++ fs)) ∧
    (∀ W' g t ss fs2, StG w gs W' g t ss L' R' (fs2 ++ fs') → StN w gs W' (⟨g, t, ss, true⟩ :: l) L R (fs2 ++ fs)) ∧ (∀ W' g t ss fs2, StF w gs W' g t ss L' R' (fs2 ++ fs') → StN w gs W' (⟨g, t, ss, false⟩ :: l) L R (fs2 ++ fs)) := by
  obtain ⟨bs, e, M⟩ := h
  refine ⟨_, _, _, M, fun f h => List.mem_append_right _ h, fun W' fs2 M => ⟨bs, e, M.fsub _ fun f h => ?_⟩, ?_, ?_⟩
  · simp only [List.mem_append] at h ⊢
    rcases h with h | h | h <;> simp [h]
  · rintro W' g t ss fs2 ⟨A, c, xs, p, Am, nm, cm, M⟩
    refine ⟨(⟨g, t, ss, true⟩, ⟨p, A, c, xs, Am, nm, cm⟩) :: bs, by rw [List.map_cons, e], M.fsub _ fun f h => ?_⟩
    have h : f ∈ .dat false (dN t) (pcN t p) :: .dat false (dNs ss) xs :: (bs.flatMap sFs ++ (fs2 ++ fs)) := h
    simp only [List.mem_append, List.mem_cons] at h ⊢
    rcases h with h | h | h | h | h <;> simp [h]
  · rintro W' g t ss fs2 ⟨A, c, p, Am, nm, cm, M⟩
    refine ⟨(⟨g, t, ss, false⟩, ⟨p, A, c, [], Am, nm, cm⟩) :: bs, by rw [List.map_cons, e], M.fsub _ fun f h => ?_⟩
    have h : f ∈ .dat false (dN t) (pcN t p) :: .dat false [dKs ss] [.slice A ss.length c] :: (bs.flatMap sFs ++ (fs2 ++ fs)) := h
    simp only [List.mem_append, List.mem_cons] at h ⊢
    rcases h with h | h | h | h | h <;> simp [h]
theorem StN.tail {x : SEn} (h : StN w gs W (x :: l) L R fs) : ∃ L' R' fs', (match x.m with | true => StG w gs W x.g x.t x.ss L' R' fs' | false => StF w gs W x.g x.t x.ss L' R' fs') ∧ (∀ f ∈ fs, f ∈ fs') ∧
    (∀ W' g t ss fs2, StG w gs W' g t ss L' R' (fs2 ++ fs') → StN w gs W' (⟨g, t, ss, true⟩ :: l) L R (fs2 ++ fs)) ∧ (∀ W' g t ss fs2, StF w gs W' g t ss L' R' (fs2 ++ fs') → StN w gs W' (⟨g, t, ss, false⟩ :: l) L R (fs2 ++ fs)) := by
  obtain ⟨bs, e, M⟩ := h
  cases bs with
  | nil => cases e
  | cons y bs =>
  rw [List.map_cons] at e
  injection e with e1 e
  obtain ⟨x', b⟩ := y
  have e1 : x' = x := e1
  subst e1
  refine ⟨bs.map sBlk ++ L, bs.flatMap sRows ++ R, bs.flatMap sFs ++ fs, ?_, fun f h => List.mem_append_right _ h, ?_, ?_⟩
  · obtain ⟨g, t, ss, m⟩ := x'
    cases m with
    | true => exact ⟨b.A, b.c, b.xs, b.p, b.Am, b.nm, b.cm, M⟩
    | false => exact ⟨b.A, b.c, b.p, b.Am, b.nm, b.cm, M⟩
  · rintro W' g t ss fs2 ⟨A, c, xs, p, Am, nm, cm, M⟩
    refine ⟨(⟨g, t, ss, true⟩, ⟨p, A, c, xs, Am, nm, cm⟩) :: bs, by rw [List.map_cons, e], M.fsub _ fun f h => ?_⟩
    have h : f ∈ .dat false (dN t) (pcN t p) :: .dat false (dNs ss) xs :: (bs.flatMap sFs ++ (fs2 ++ fs)) := h
    simp only [List.mem_append, List.mem_cons] at h ⊢
    rcases h with h | h | h | h | h <;> simp [h]
  · rintro W' g t ss fs2 ⟨A, c, p, Am, nm, cm, M⟩
    refine ⟨(⟨g, t, ss, false⟩, ⟨p, A, c, [], Am, nm, cm⟩) :: bs, by rw [List.map_cons, e], M.fsub _ fun f h => ?_⟩
    have h : f ∈ .dat false (dN t) (pcN t p) :: .dat false [dKs ss] [.slice A ss.length c] :: (bs.flatMap sFs ++ (fs2 ++ fs)) := h
    simp only [List.mem_append, List.mem_cons] at h ⊢
    rcases h with h | h | h | h | h <;> simp [h]
theorem StN.headG (h : StN w gs W (⟨g, t, ss, true⟩ :: l) L R fs) : ∃ L' R' fs', StG w gs W g t ss L' R' fs' ∧ (∀ f ∈ fs, f ∈ fs') ∧
    (∀ W' g t ss fs2, StG w gs W' g t ss L' R' (fs2 ++ fs') → StN w gs W' (⟨g, t, ss, true⟩ :: l) L R (fs2 ++ fs)) ∧ (∀ W' g t ss fs2, StF w gs W' g t ss L' R' (fs2 ++ fs') → StN w gs W' (⟨g, t, ss, false⟩ :: l) L R (fs2 ++ fs)) := h.tail
theorem StN.headF (h : StN w gs W (⟨g, t, ss, false⟩ :: l) L R fs) : ∃ L' R' fs', StF w gs W g t ss L' R' fs' ∧ (∀ f ∈ fs, f ∈ fs') ∧
    (∀ W' g t ss fs2, StG w gs W' g t ss L' R' (fs2 ++ fs') → StN w gs W' (⟨g, t, ss, true⟩ :: l) L R (fs2 ++ fs)) ∧ (∀ W' g t ss fs2, StF w gs W' g t ss L' R' (fs2 ++ fs') → StN w gs W' (⟨g, t, ss, false⟩ :: l) L R (fs2 ++ fs)) := h.tail
theorem StN.below (h : StN w gs W l L R fs) : Below w.heap.size w W := by obtain ⟨_, _, M⟩ := h; exact M.below
theorem StN.call {W' : World} (h : StN w gs W l L R fs) (hb : Below W.heap.size W W') : StN w gs W' l L R fs := by obtain ⟨bs, e, M⟩ := h; exact ⟨bs, e, M.call hb⟩
theorem StN.drew (h : StN w gs W l L R fs) : StN w gs W.drew l L R fs := by obtain ⟨bs, e, M⟩ := h; exact ⟨bs, e, M.drew⟩
/-- Bytes that stay, read. -/
theorem StN.rdm (h : StN w gs W l L R fs) {fr : Bool} {b : List UInt8} {A : Option Addr} {n c : Nat} (hm : Fact.dat fr [dB b] [.slice A n c] ∈ fs) : Rd W W.heap.size A n b := by
  obtain ⟨bs, e, M⟩ := h
  have h : RdL W (Ft w W _ fr) [dB b] [.slice A n c] := M.fct _ (List.mem_append_right _ hm)
  exact (h.hd.rd (fun b h => h.1)).2.2
/-- Data that stay, for whoever is called. -/
theorem StN.dam (h : StN w gs W l L R fs) {fr : Bool} {ds : List D} {cs : List Value} (hm : Fact.dat fr ds cs ∈ fs) : ∃ os, (∀ b, some b ∈ os → b < W.heap.size) ∧ RdL W (Fd W os) ds cs ∧ (GL w gs → GL W os) := by
  obtain ⟨bs, e, M⟩ := h
  have h : RdL W (Ft w W _ fr) ds cs := M.fct _ (List.mem_append_right _ hm)
  exact ⟨_, M.olt, h.to fun b q => ⟨rfl, q.1, q.2.1⟩, fun hG => M.gl hG⟩
theorem rootN {m : Bool} (h : StN w gs W (⟨g, t, ss, m⟩ :: l) L R fs) (hz : sz t < 90000000) :
    Calls Tryd.prog 13 #[.pointer (some ⟨g, 0, none⟩)] W fun e W' => ∃ cs, e = .returned (.agg cs.toArray) ∧ StN w gs W' (⟨g, t, ss, m⟩ :: l) L R (.dat true (dN t) cs :: fs) := by
  obtain ⟨L', R', fs', hS, hsub, hG, hF⟩ := h.tail
  cases m with
  | true =>
    obtain ⟨A0, c0, xs, hS⟩ := hS
    refine (sRoot_any hS (Nat.lt_trans hz (by decide))).mono ?_
    rintro e W' ⟨cs, rfl, hS'⟩
    refine ⟨cs, rfl, hG W' g t ss [.dat true (dN t) cs] ⟨A0, c0, xs, hS'.fsub ?_⟩⟩
    intro f hf
    simp only [List.mem_cons, List.cons_append, List.nil_append] at hf ⊢
    rcases hf with h | h | h <;> simp [h]
  | false =>
    obtain ⟨A0, c0, hS⟩ := hS
    refine (sRoot_any hS (Nat.lt_trans hz (by decide))).mono ?_
    rintro e W' ⟨cs, rfl, hS'⟩
    refine ⟨cs, rfl, hF W' g t ss [.dat true (dN t) cs] ⟨A0, c0, hS'.fsub ?_⟩⟩
    intro f hf
    simp only [List.mem_cons, List.cons_append, List.nil_append] at hf ⊢
    rcases hf with h | h | h <;> simp [h]
theorem savesN {m : Bool} (h : StN w gs W (⟨g, t, ss, m⟩ :: l) L R fs) :
    Calls Tryd.prog 11 #[.pointer (some ⟨g, 0, none⟩)] W fun e W' => e = .returned (.int .i64 ((ss.length : Nat) : Int)) ∧ W' = W := by
  obtain ⟨L', R', fs', hS, -⟩ := h.tail
  cases m with
  | true =>
    obtain ⟨A0, c0, xs, hS⟩ := hS
    exact sSaves_any hS
  | false =>
    obtain ⟨A0, c0, hS⟩ := hS
    exact sSaves_any hS
theorem saveN (h : StN w gs W (⟨g, t, ss, true⟩ :: l) L R fs) (hn : ss.length < 20) :
    Calls Tryd.prog 15 #[.pointer (some ⟨g, 0, none⟩)] W fun e W' => e = .returned (.int .i64 0) ∧ StN w gs W' (⟨g, t, ss ++ [t], true⟩ :: l) L R fs := by
  obtain ⟨L', R', fs', hS, hsub, hG, hF⟩ := h.headG
  refine (sSave_any hS hn).mono ?_
  rintro e W' ⟨rfl, hS'⟩
  exact ⟨rfl, hG W' g t _ [] hS'⟩
theorem StN.frz (h : StN w gs W (⟨g, t, ss, true⟩ :: l) L R fs) : StN w gs W (⟨g, t, ss, false⟩ :: l) L R fs := by
  obtain ⟨L', R', fs', hS, hsub, hG, hF⟩ := h.headG
  exact hF W g t ss [] hS.frz
theorem undoN {t0 : Nd} (h : StN w gs W (⟨g, t, ss ++ [t0], false⟩ :: l) L R fs) (hn : ss.length < 100) :
    Calls Tryd.prog 18 #[.pointer (some ⟨g, 0, none⟩)] W fun e W' => e = .returned (.int .i64 0) ∧ StN w gs W' (⟨g, t0, ss, false⟩ :: l) L R fs := by
  obtain ⟨L', R', fs', hS, hsub, hG, hF⟩ := h.headF
  refine (sUndo_any hS hn).mono ?_
  rintro e W' ⟨rfl, hS'⟩
  exact ⟨rfl, hF W' g t0 _ [] hS'⟩
theorem undoN0 (h : StN w gs W (⟨g, t, [], false⟩ :: l) L R fs) :
    Calls Tryd.prog 18 #[.pointer (some ⟨g, 0, none⟩)] W fun e W' => e = .returned (.int .i64 4) ∧ StN w gs W' (⟨g, t, [], false⟩ :: l) L R fs := by
  obtain ⟨L', R', fs', hS, hsub, hG, hF⟩ := h.headF
  refine (sUndo_none hS).mono ?_
  rintro e W' ⟨rfl, hS'⟩
  exact ⟨rfl, hF W' g t _ [] hS'⟩
theorem newN (h : StN w gs W l L R fs) {fr : Bool} {cs : List Value} (hm : Fact.dat fr (dN t) cs ∈ fs) (hz : sz t < 100000000) :
    Calls Tryd.prog 14 #[.agg cs.toArray] W fun e W' => (checkE t ≠ 0 ∧ e = .returned (.tuple #[.pointer none, .int .i64 (checkE t)]) ∧ StN w gs W' l L R fs) ∨ (checkE t = 0 ∧ ∃ g, e = .returned (.tuple #[.pointer (some ⟨g, 0, none⟩), .int .i64 0]) ∧ StN w gs W' (⟨g, t, [], true⟩ :: l) L R fs) := by
  obtain ⟨L', R', fs', M, hsub, hN, hG, hF⟩ := h.open_
  have hd : RdL W (Ft w W (own L' R' gs) fr) (dN t) cs := M.fct _ (hsub _ hm)
  refine (sNew_any M (hd.to fun b q => ⟨rfl, q.1, q.2.1⟩) hz).mono ?_
  rintro e W' (⟨h0, rfl, M'⟩ | ⟨h0, g, rfl, hS'⟩)
  · exact .inl ⟨h0, rfl, hN W' [] M'⟩
  · exact .inr ⟨h0, g, rfl, hG W' g t [] [] hS'⟩
end
end Go.Proofs.YtdlljmmgkoeilaaDoor
namespace Go.Proofs.YtdlljmmgkoeilaaDoor
open Go.RowKit
set_option maxRecDepth 100000 in
set_option maxHeartbeats 1000000 in
theorem put17_any (k v : UInt8) (gs : List (Option Nat)) (W : World) (hgs : ∀ b, some b ∈ gs → b < W.heap.size) :
    Calls Tryd.prog 25 #[.int .u8 (k.toNat : Int), .int .u8 (v.toNat : Int)] W fun e W' => ∃ cs, e = .returned (.agg cs.toArray) ∧ RdL W' (Fr W W') (dDo ⟨2, [k], [v], 0⟩) cs ∧ Below W.heap.size W W' := by
  refine calls_ev (args := [.int .u8 (k.toNat : Int), .int .u8 (v.toNat : Int)]) mixed Tryd.func25 rfl (by kernel_rfl) ?_
  have M := St.start hgs
  refine s_alloc (zDo) M al_do ?_
  clear M
  rintro g4 W M
  refine s_bslice (bvs [k]) (fr := true) (ds := (bvs [k]).map D.v) M slb (zs := [.int .u8 0]) (by kernel_rfl) rfl (by decide) rfl (RdL.ofvals _) rfl ?_
  clear M; rintro g6 W M
  refine s_bslice (bvs [v]) (fr := true) (ds := (bvs [v]).map D.v) M slb (zs := [.int .u8 0]) (by kernel_rfl) rfl (by decide) rfl (RdL.ofvals _) rfl ?_
  clear M; rintro g8 W M
  refine p_build (vs := [.int .i64 2, .slice (some ⟨g6, 0, none⟩) 1 1, .slice (some ⟨g8, 0, none⟩) 1 1, .int .i64 0]) pl_do z_do rfl ?_
  refine s_storeA 0 [.int .i64 2, .slice (some ⟨g6, 0, none⟩) 1 1, .slice (some ⟨g8, 0, none⟩) 1 1, .int .i64 0] M rfl sz_do rfl rfl rfl (all1 rfl) rfl ?_
  clear M; rintro W M
  dsimp only [setL] at M
  refine c_loadN [.int .i64 2, .slice (some ⟨g6, 0, none⟩) 1 1, .slice (some ⟨g8, 0, none⟩) 1 1, .int .i64 0] agg_do rfl rfl (M.run 0 rfl) ?_
  exact ⟨_, rfl, RdL.cons (RdD.ofv _) (RdL.cons (M.finF1 1 rfl) (RdL.cons (M.finF1 0 rfl) (RdL.cons (RdD.ofv _) RdL.nil_))), M.below⟩
section
variable {w W : World} {gs : List (Option Nat)} {l : List SEn} {L : Lc} {R : List Row} {fs : List Fact} {g : Nat} {t : Nd} {ss : List Nd}
theorem StN.callF {W' : World} (h : StN w gs W l L R fs) (hb : Below W.heap.size W W') {ds : List D} {cs : List Value} (hr : RdL W' (Fr W W') ds cs) : StN w gs W' l L R (.dat true ds cs :: fs) := by
  obtain ⟨L', R', fs', M, hsub, hN, -⟩ := h.open_
  exact hN W' [.dat true ds cs] (M.callF hb hr)
/-- Something by itself is done to the first one. -/
theorem doneN1 (h : StN w gs W (⟨g, t, ss, true⟩ :: l) L R fs) (hz : sz t < 500000) {fr : Bool} {d : Do} {cs : List Value} (hm : Fact.dat fr (dDo d) cs ∈ fs) (hk : d.kind ≤ 4) (hdl : d.key.length + d.val.length ≤ 500000) :
    Calls Tryd.prog 9 #[.pointer (some ⟨g, 0, none⟩), .agg cs.toArray] W fun e W' => (∃ v, e = .returned v) ∧ StN w gs W' (⟨g, if d.kind ≤ 4 then stepT t d.kind d.key d.val else t, ss, true⟩ :: l) L R fs := by
  obtain ⟨L', R', fs', ⟨A, c0, xs, hS⟩, hsub, hG, -⟩ := h.headG
  obtain ⟨p, Am, nm, cm, M⟩ := id hS
  have hd : RdL W (Ft w W (own ((g, 74, pcN t p ++ [.slice A ss.length c0, .slice Am nm cm]) :: L') (⟨71, 6, A, ss.length, c0, xs⟩ :: R') gs) fr) (dDo d) cs := M.fct (.dat fr (dDo d) cs) (List.mem_cons_of_mem _ (List.mem_cons_of_mem _ (hsub _ hm)))
  refine (done_any hS hz (hd.to fun b q => ⟨rfl, q.1, q.2.1⟩) hdl hk).mono ?_
  rintro e W' ⟨he, hS'⟩
  exact ⟨he, hG W' g _ ss [] ⟨A, c0, xs, hS'⟩⟩
theorem getN (h : StN w gs W (⟨g, t, ss, false⟩ :: l) L R fs) (hz : sz t ≤ 1000000) {fr : Bool} {key : List UInt8} {A : Option Addr} {n c : Nat} (hm : Fact.dat fr [dB key] [.slice A n c] ∈ fs) :
    Calls Tryd.prog 26 #[.pointer (some ⟨g, 0, none⟩), .slice A n c] W fun e W' => ∃ A' n' c', e = .returned (.tuple #[.slice A' n' c', .bool (tGet t key).has, .int .i64 (tGet t key).e]) ∧ StN w gs W' (⟨g, t, ss, false⟩ :: l) L R (.dat false [dB (tGet t key).v] [.slice A' n' c'] :: fs) := by
  obtain ⟨L', R', fs', ⟨A0, c0, hS⟩, hsub, -, hF⟩ := h.headF
  obtain ⟨p, Am, nm, cm, M⟩ := id hS
  have hd : RdL W (Ft w W (own ((g, 74, pcN t p ++ [.slice A0 ss.length c0, .slice Am nm cm]) :: L') R' gs) fr) [dB key] [.slice A n c] := M.fct (.dat fr [dB key] [.slice A n c]) (List.mem_cons_of_mem _ (List.mem_cons_of_mem _ (hsub _ hm)))
  refine (sGet_any hS hz (hd.to fun b q => ⟨rfl, q.1, q.2.1⟩).hd).mono ?_
  rintro e W' ⟨A', n', c', rfl, hS'⟩
  refine ⟨A', n', c', rfl, hF W' g t ss [.dat false [dB (tGet t key).v] [.slice A' n' c']] ⟨A0, c0, hS'.fsub ?_⟩⟩
  intro f hf
  simp only [List.mem_cons, List.cons_append, List.nil_append] at hf ⊢
  rcases hf with h | h | h <;> simp [h]
end
theorem rd_noneN (W : World) (F : Nat → Prop) : RdL W F (dN noneN) zN := RdL.ofnode (t := noneN) (RdD.nil_ (s := 1) none 0) (RdD.nil_ (s := 1) none 0) (RdD.nil_ (s := 6) none 0) (RdD.nil_ (s := 1) none 0)
def ka17 : Nd := if (2 : Int) ≤ 4 then stepT noneN 2 [1] [7] else noneN
def kb17 : Nd := if (2 : Int) ≤ 4 then stepT ka17 2 [2] [8] else ka17
theorem k17c : checkE noneN = 0 := by decide +kernel
theorem k17a : sz ka17 ≤ 10000 := by decide +kernel
theorem k17h2 : (tGet ka17 [2]).has = false := by decide +kernel
theorem k17h1 : (tGet ka17 [1]).has = true := by decide +kernel
theorem k17v : (tGet ka17 [1]).v = [7] := by decide +kernel
set_option maxRecDepth 100000 in
set_option maxHeartbeats 4000000 in
theorem known17_any (gs : List (Option Nat)) (w : World) (hgs : ∀ b, some b ∈ gs → b < w.heap.size) : Calls Tryd.prog 8 #[] w fun e w' => e = .returned (.bool true) ∧ Below w.heap.size w w' := by
  refine calls_ev (args := []) mixed Tryd.func8 rfl (by kernel_rfl) ?_
  have M := StN.nil ((St.start hgs).addL (rd_noneN w _))
  refine p_build (vs := zN) pl_nd z_nd rfl ?_
  refine cc is_sNew (newN M (t := noneN) (fr := false) (by simp) (by decide +kernel)) ?_
  clear M
  rintro e W (⟨h0, -⟩ | ⟨-, g, rfl, M⟩)
  · exact absurd k17c h0
  refine ⟨_, rfl, ?_⟩
  refine p_ne rfl rfl (fun _ => ?_) (fun h => absurd rfl h)
  refine p_peq isp_sto rfl rfl ?_
  obtain ⟨os, h1, -, -⟩ := M.dam (fr := false) (ds := dN noneN) (cs := zN) (by simp)
  refine cc is_put17 (put17_any 1 7 os _ h1) ?_
  rintro e W ⟨cs, rfl, hr, hb⟩
  replace M := M.callF hb hr
  clear hb hr h1 os
  refine ⟨_, rfl, ?_⟩
  refine cc is_done (doneN1 M (by decide +kernel) (d := ⟨2, [1], [7], 0⟩) (cs := cs) (fr := true) (by simp) (by decide) (by decide)) ?_
  clear M
  rintro e W ⟨⟨v, rfl⟩, M⟩
  refine ⟨_, rfl, ?_⟩
  change StN w gs W (⟨g, ka17, [], true⟩ :: []) [] [] _ at M
  refine cc is_sSave (saveN M (by decide)) ?_
  clear M
  rintro e W ⟨rfl, M⟩
  refine ⟨_, rfl, ?_⟩
  obtain ⟨os, h1, -, -⟩ := M.dam (fr := false) (ds := dN noneN) (cs := zN) (by simp)
  refine cc is_put17 (put17_any 2 8 os _ h1) ?_
  rintro e W ⟨cs, rfl, hr, hb⟩
  replace M := M.callF hb hr
  clear hb hr h1 os
  refine ⟨_, rfl, ?_⟩
  refine cc is_done (doneN1 M (by have := k17a; omega) (d := ⟨2, [2], [8], 0⟩) (cs := cs) (fr := true) (by simp) (by decide) (by decide)) ?_
  clear M
  rintro e W ⟨⟨v, rfl⟩, M⟩
  refine ⟨_, rfl, ?_⟩
  change StN w gs W (⟨g, kb17, [ka17], true⟩ :: []) [] [] _ at M
  replace M := M.frz
  refine cc is_sUndo (undoN (ss := []) M (by decide)) ?_
  clear M
  rintro e W ⟨rfl, M⟩
  refine ⟨_, rfl, ?_⟩
  obtain ⟨L', R', fs', M0, hsub, hN, -⟩ := M.open_
  refine s_bslice (bvs [2]) (fr := true) (ds := (bvs [2]).map D.v) M0 slb (zs := [.int .u8 0]) (by kernel_rfl) rfl (by decide) rfl (RdL.ofvals _) rfl ?_
  clear M0 M; rintro g3 W M0
  have M := hN W [.dat true [dB [2]] [.slice (some ⟨g3, 0, none⟩) 1 1]] M0
  clear M0 hN hsub
  have cg := getN M (by have := k17a; omega) (fr := true) (key := [2]) (A := some ⟨g3, 0, none⟩) (n := 1) (c := 1) (by simp)
  rw [k17h2] at cg
  refine cc is_sGet cg ?_
  clear M cg
  rintro e W ⟨A1, n1, c1, rfl, M⟩
  refine ⟨_, rfl, ?_⟩
  obtain ⟨L', R', fs', M0, hsub, hN, -⟩ := M.open_
  refine s_bslice (bvs [1]) (fr := true) (ds := (bvs [1]).map D.v) M0 slb (zs := [.int .u8 0]) (by kernel_rfl) rfl (by decide) rfl (RdL.ofvals _) rfl ?_
  clear M0 M; rintro g4 W M0
  have M := hN W [.dat true [dB [1]] [.slice (some ⟨g4, 0, none⟩) 1 1]] M0
  clear M0 hN hsub
  have cg := getN M (by have := k17a; omega) (fr := true) (key := [1]) (A := some ⟨g4, 0, none⟩) (n := 1) (c := 1) (by simp)
  rw [k17h1, k17v] at cg
  refine cc is_sGet cg ?_
  clear M cg
  rintro e W ⟨A2, n2, c2, rfl, M⟩
  refine ⟨_, rfl, ?_⟩
  refine cc is_sUndo (undoN0 M) ?_
  clear M
  rintro e W ⟨rfl, M⟩
  refine ⟨_, rfl, ?_⟩
  refine p_eq rfl rfl (fun _ => ?_) (fun h => absurd rfl h)
  refine p_eq rfl rfl (fun _ => ?_) (fun h => absurd rfl h)
  refine p_not rfl ?_
  obtain ⟨L', R', fs', M0, hsub, hN, -⟩ := M.open_
  refine s_bslice (bvs [7]) (fr := true) (ds := (bvs [7]).map D.v) M0 slb (zs := [.int .u8 0]) (by kernel_rfl) rfl (by decide) rfl (RdL.ofvals _) rfl ?_
  clear M0 M; rintro g5 W M0
  have M := hN W [.dat true [dB [7]] [.slice (some ⟨g5, 0, none⟩) 1 1]] M0
  clear M0 hN hsub
  obtain ⟨q, hq, hc⟩ := same_tf (c1 := c2) (c2 := 1) (M.rdm (fr := false) (b := [7]) (A := A2) (n := n2) (c := c2) (by simp)) (M.rdm (fr := true) (b := [7]) (A := some ⟨g5, 0, none⟩) (n := 1) (c := 1) (by simp))
  obtain rfl := hq.2 rfl
  refine cc is_same0 hc ?_
  rintro e W' ⟨rfl, rfl⟩
  refine ⟨_, rfl, ?_⟩
  clear hq hc
  refine p_eq rfl rfl (fun _ => ?_) (fun h => absurd rfl h)
  refine cc is_sSaves (savesN M) ?_
  rintro e W' ⟨rfl, rfl⟩
  refine ⟨_, rfl, ?_⟩
  refine p_eq rfl rfl (fun _ => ?_) (fun h => absurd rfl h)
  exact ⟨rfl, M.below⟩
end Go.Proofs.YtdlljmmgkoeilaaDoor
namespace Go.Proofs.YtdlljmmgkoeilaaDoor
open Go.RowKit
section
variable {w W : World} {gs : List (Option Nat)} {l : List SEn} {L : Lc} {R : List Row} {fs : List Fact} {g : Nat} {t : Nd} {ss : List Nd}
theorem StN.dams (h : StN w gs W l L R fs) : ∃ os, (∀ b, some b ∈ os → b < W.heap.size) ∧ (∀ fr ds cs, Fact.dat fr ds cs ∈ fs → RdL W (Fd W os) ds cs) ∧ (GL w gs → GL W os) := by
  obtain ⟨bs, e, M⟩ := h
  refine ⟨_, M.olt, fun fr ds cs hm => ?_, fun hG => M.gl hG⟩
  have h : RdL W (Ft w W _ fr) ds cs := M.fct _ (List.mem_append_right _ hm)
  exact h.to fun b q => ⟨rfl, q.1, q.2.1⟩
theorem StN.blk (h : StN w gs W l L R fs) {T : TypeId} {cs : List Value} (hm : (g, T, cs) ∈ L) : Blk W g T cs := by
  obtain ⟨bs, e, M⟩ := h
  exact (M.blk _ (List.mem_append_right _ hm)).1
theorem StN.run (h : StN w gs W l L R fs) {T : TypeId} {cs : List Value} (hm : (g, T, cs) ∈ L) : ∀ j v, cs[j]? = some v → W.cell? ((⟨g, 0, none⟩ : Addr).add j) = some v := (h.blk hm).run 0 _ fun j v h => by rw [Nat.zero_add]; exact h
end
theorem bigN_no {t : Nd} {l : List Do} (h : false = decide (bigN t l)) : sz t ≤ 16500 ∧ doN l < 300 ∧ l.length ≤ 60 := by
  have h := of_decide_eq_false h.symm
  unfold bigN at h
  have h1 : muchP t 300 < 300 := by omega
  have := much_sz t 300 h1
  exact ⟨by omega, by omega, by omega⟩

end Go.Proofs.YtdlljmmgkoeilaaDoor
namespace Go.Proofs.YtdlljmmgkoeilaaDoor
open Go.RowKit


theorem prBulk_le : ∀ l : List Pr, prBulk l ≤ 140 * (l.map fun t => t.k.length + t.v.length + 3).sum
  | [] => Nat.zero_le _
  | p :: l => by
    have := prBulk_le l
    rw [List.map_cons, List.sum_cons, show prBulk (p :: l) = (140 + 2 * p.k.length + p.v.length) + prBulk l by unfold prBulk; rw [List.map_cons, List.sum_cons]]
    omega
theorem prBig_of : ∀ {l : List Pr}, (l.map fun t => t.k.length + t.v.length + 3).sum ≤ 1048576 → prBig l := by
  intro l h
  have key : ∀ l : List Pr, l.length ≤ (l.map fun t => t.k.length + t.v.length + 3).sum ∧ ∀ p ∈ l, p.k.length + p.v.length ≤ (l.map fun t => t.k.length + t.v.length + 3).sum := by
    intro l
    induction l with
    | nil => exact ⟨Nat.zero_le _, fun p hp => by cases hp⟩
    | cons q l ih =>
      rw [List.map_cons, List.sum_cons]
      refine ⟨by rw [List.length_cons]; omega, fun p hp => ?_⟩
      rcases List.mem_cons.1 hp with rfl | hp
      · omega
      · have := ih.2 p hp; omega
  obtain ⟨h1, h2⟩ := key l
  exact ⟨by omega, fun p hp => by have := h2 p hp; omega⟩
end Go.Proofs.YtdlljmmgkoeilaaDoor
namespace Go.Proofs.YtdlljmmgkoeilaaDoor
open Go.RowKit
def soft (v v' : Value) : Prop := v' = v ∨ (∃ (c c' : UInt8), v = u8v c ∧ v' = u8v c') ∨ (∃ x y : Int, v = .int .i64 x ∧ v' = .int .i64 y)
theorem soft.trans {a b c : Value} (h : soft a b) (k : soft b c) : soft a c := by
  rcases h with rfl | ⟨x, y, rfl, rfl⟩ | ⟨x, y, rfl, rfl⟩
  · exact k
  · rcases k with rfl | ⟨x', y', h1, rfl⟩ | ⟨x', y', h1, rfl⟩
    · exact .inr (.inl ⟨_, _, rfl, rfl⟩)
    · exact .inr (.inl ⟨_, _, rfl, rfl⟩)
    · unfold u8v at h1; injection h1 with h1; cases h1
  · rcases k with rfl | ⟨x', y', h1, rfl⟩ | ⟨x', y', h1, rfl⟩
    · exact .inr (.inr ⟨_, _, rfl, rfl⟩)
    · unfold u8v at h1; injection h1 with h1; cases h1
    · exact .inr (.inr ⟨_, _, rfl, rfl⟩)
theorem soft.byte {c : UInt8} {v : Value} (h : soft (u8v c) v) : ∃ c', v = u8v c' := by
  rcases h with rfl | ⟨x, y, _, rfl⟩ | ⟨x, y, h1, rfl⟩
  · exact ⟨c, rfl⟩
  · exact ⟨y, rfl⟩
  · unfold u8v at h1; injection h1 with h1; cases h1
theorem soft.sl {A : Option Addr} {n c : Nat} {v : Value} (h : soft (.slice A n c) v) : v = .slice A n c := by
  rcases h with rfl | ⟨x, y, h1, rfl⟩ | ⟨x, y, h1, rfl⟩
  · rfl
  · cases h1
  · cases h1
theorem soft.int {x : Int} {v : Value} (h : soft (.int .i64 x) v) : ∃ y, v = .int .i64 y := by
  rcases h with rfl | ⟨c, y, h1, rfl⟩ | ⟨x, y, h1, rfl⟩
  · exact ⟨_, rfl⟩
  · unfold u8v at h1; injection h1 with h1; cases h1
  · exact ⟨_, rfl⟩
/-- Only what lies in some blocks is written, and keeps its kind. -/
structure Tame (B : Nat → Prop) (W W' : World) : Prop where
  low : ∀ base, (∀ b, B b → base ≤ b) → Below base W W'
  size : W'.heap.size = W.heap.size
  out : ∀ b, ¬ B b → W'.heap[b]? = W.heap[b]?
  inn : ∀ a v, W.cell? a = some v → ∃ v', W'.cell? a = some v' ∧ soft v v'
  thaw : ∀ b, Thaw W b → Thaw W' b
theorem Tame.refl (B : Nat → Prop) (W : World) : Tame B W W := ⟨fun base _ => Below.refl _ _, rfl, fun _ _ => rfl, fun a v h => ⟨v, h, .inl rfl⟩, fun b h => h⟩
theorem Tame.trans {B : Nat → Prop} {W W1 W2 : World} (h : Tame B W W1) (k : Tame B W1 W2) : Tame B W W2 :=
  ⟨fun base hb => (h.low base hb).trans (k.low base hb), k.size.trans h.size, fun b hb => (k.out b hb).trans (h.out b hb), fun a v hv => by
    obtain ⟨v1, h1, s1⟩ := h.inn a v hv
    obtain ⟨v2, h2, s2⟩ := k.inn a v1 h1
    exact ⟨v2, h2, s1.trans s2⟩, fun b hb => k.thaw b (h.thaw b hb)⟩
theorem heap_set_at {W : World} {b o : Nat} {c : Array Value} {e : TypeId} {z : Nat × Nat} (v : Value) (h : W.heap[b]? = some (.cells c e z)) : (W.setCell ⟨b, o, none⟩ v).heap[b]? = some (.cells (c.setIfInBounds o v) e z) := by
  unfold World.setCell
  simp only [Array.getElem?_modify, h, if_pos]
  rfl
theorem cell_set {W : World} {b o : Nat} {old v : Value} (hc : W.cell? ⟨b, o, none⟩ = some old) {a : Addr} {u : Value} (ha : W.cell? a = some u) : (W.setCell ⟨b, o, none⟩ v).cell? a = some (if a.block = b ∧ a.off = o then v else u) := by
  by_cases hb : a.block = b
  · have hsp := World.cell?_spot ha
    obtain ⟨ab, ao, asp⟩ := a
    dsimp only at hb hsp ⊢
    subst hb
    subst hsp
    cases hh : W.heap[ab]? with
    | none => unfold World.cell? at ha; dsimp only at ha; rw [hh] at ha; cases ha
    | some ob =>
      cases ob with
      | cells c e z =>
        have h2 := heap_set_at (o := o) v hh
        unfold World.cell? at ha hc ⊢
        dsimp only at ha hc ⊢
        rw [hh] at ha hc
        rw [h2]
        simp only [Option.isSome_none, Bool.false_eq_true, if_false] at ha hc ⊢
        by_cases ho : ao = o
        · subst ho
          rw [if_pos (by simp), Array.getElem?_setIfInBounds_self_of_lt (Array.getElem?_eq_some_iff.1 hc).1]
        · rw [if_neg (fun h => ho h.2), Array.getElem?_setIfInBounds_ne (fun e => ho e.symm)]; exact ha
      | _ => unfold World.cell? at ha; dsimp only at ha; rw [hh] at ha; cases ha
  · rw [if_neg (fun h => hb h.1)]
    exact (World.cell?_of_block (w := W) (Below.heap_setCell W ⟨b, o, none⟩ v a.block hb)).trans ha
theorem Tame.set {B : Nat → Prop} {W W1 : World} (h : Tame B W W1) {b o : Nat} {old v : Value} (hB : B b) (hc : W1.cell? ⟨b, o, none⟩ = some old) (hs : soft old v) : Tame B W (W1.setCell ⟨b, o, none⟩ v) :=
  h.trans ⟨fun base hb => (Below.refl _ _).setCell (hb b hB) v, by unfold World.setCell; simp, fun k hk => Below.heap_setCell W1 ⟨b, o, none⟩ v k (fun e => hk (e ▸ hB)), fun a u hu => by
    refine ⟨_, cell_set hc hu, ?_⟩
    by_cases hab : a.block = b ∧ a.off = o
    · rw [if_pos hab]
      have hsp := World.cell?_spot hu
      obtain ⟨ab, ao, asp⟩ := a
      dsimp only at hab hsp
      obtain ⟨rfl, rfl⟩ := hab
      subst hsp
      rw [hc] at hu
      injection hu with hu
      rw [← hu]; exact hs
    · rw [if_neg hab]; exact .inl rfl, fun k hk => by
    by_cases e : k = b
    · subst e
      intro cs T z hz
      cases hh : W1.heap[k]? with
      | none => unfold World.cell? at hc; dsimp only at hc; rw [hh] at hc; cases hc
      | some ob =>
        cases ob with
        | cells c e z' =>
          rw [heap_set_at v hh] at hz
          injection hz with hz
          injection hz with _ _ hz
          rw [← hz]; exact hk c e z' hh
        | _ => unfold World.cell? at hc; dsimp only at hc; rw [hh] at hc; cases hc
    · exact hk.same (Below.heap_setCell W1 ⟨b, o, none⟩ v k e)⟩
/-- A slice of bytes, whichever they are. -/
def SoftRd (B : Nat → Prop) (W : World) (A : Option Addr) (n : Nat) : Prop := 0 < n → ∃ b off, A = some ⟨b, off, none⟩ ∧ B b ∧ ∀ j, j < n → ∃ c : UInt8, W.cell? ⟨b, off + j, none⟩ = some (u8v c)
theorem SoftRd.up {B : Nat → Prop} {W W' : World} {A : Option Addr} {n : Nat} (h : SoftRd B W A n) (t : Tame B W W') : SoftRd B W' A n := fun hn => by
  obtain ⟨b, off, e, hB, hc⟩ := h hn
  refine ⟨b, off, e, hB, fun j hj => ?_⟩
  obtain ⟨c, hc⟩ := hc j hj
  obtain ⟨v', h1, h2⟩ := t.inn _ _ hc
  obtain ⟨c', rfl⟩ := h2.byte
  exact ⟨c', h1⟩
theorem SoftRd.of {B F : Nat → Prop} {W : World} {A : Option Addr} {n c : Nat} {l : List UInt8} (h : RdD W F (dB l) (.slice A n c)) (hF : ∀ b, F b → B b) (hlt : ∀ b, F b → b < W.heap.size) : SoftRd B W A n := fun hn => by
  have e := h.slen
  obtain ⟨A', c', e1, _, hr⟩ := h.bytes hlt
  injection e1 with e1 e2 e3
  subst e1
  subst e2
  obtain ⟨b, off, rfl, _⟩ := hr.at_ (k := 0) (by omega)
  refine ⟨b, off, rfl, hF b (RdD.blk0 h hn), fun j hj => ?_⟩
  obtain ⟨b', off', e2, hc⟩ := hr.at_ (k := j) hj
  injection e2 with e2
  injection e2 with e2 e3
  subst e2; subst e3
  exact ⟨l.getD j 0, hc⟩
theorem sz_u8s : (Tryd.prog.info? 5).map (·.size) = some 1 := by kernel_rfl
theorem xor_range (a : Int) : 0 ≤ bits .xor .u8 a 165 ∧ bits .xor .u8 a 165 ≤ 255 := by
  unfold bits
  rw [IntKind.wrap_u8']
  omega
set_option maxRecDepth 100000 in
set_option maxHeartbeats 1000000 in
theorem spoil_any (B : Nat → Prop) (W : World) (A : Option Addr) (n c : Nat) (h : SoftRd B W A n) (hT : ∀ b, B b → Thaw W b) (hn : n ≤ 1000000000) :
    Calls Tryd.prog 16 #[.slice A n c] W fun e W' => (∃ v, e = .returned v) ∧ Tame B W W' := by
  refine calls_ev (args := [.slice A n c]) mixed Tryd.func16 rfl (by kernel_rfl) ?_
  refine lp Nat (fun i W1 => i ≤ n ∧ Tame B W W1) (fun i => [(0, .slice A n c), (2, .int .i64 i)]) (fun i => n - i) 0 ⟨Nat.zero_le _, Tame.refl _ _⟩ (by repeat (first | exact trivial | refine ⟨rfl, ?_⟩)) ?_
  rintro i E W1 ⟨hi, M⟩
  refine p_len slb rfl ?_
  refine p_lt rfl rfl (fun hlt => ?_) (fun hge => ?_)
  · obtain ⟨b, off, rfl, hB, hc⟩ := (h.up M) (by omega)
    obtain ⟨q, hq⟩ := hc i (by omega)
    have hx := xor_range (q.toNat : Int)
    have hq' : W1.cell? ((⟨b, off, none⟩ : Addr).add (i * 1)) = some (.int .u8 (q.toNat : Int)) := by rw [Addr.add_lit, Nat.mul_one]; exact hq
    refine p_at (i := i) slb rfl rfl rfl (by omega) ?_
    refine v_load agg_by' rfl hq' ?_
    refine p_xor rfl rfl rfl ?_
    refine p_at (i := i) slb rfl rfl rfl (by omega) ?_
    refine v_store (ad := ⟨b, off + i, none⟩) (old := u8v q) sz_u8s (by show Value.pointer (some ((⟨b, off, none⟩ : Addr).add (i * 1))) = _; rw [Addr.add_lit, Nat.mul_one]) rfl rfl hq ((M.thaw b (hT b hB)).free _) ?_
    refine p_addN (b := 1) rfl rfl (by omega) ?_
    exact ⟨i + 1, ⟨by omega, M.set hB hq (.inr (.inl ⟨q, b8 (bits .xor .u8 (q.toNat : Int) 165), rfl, (u8v_b8 _ hx.1 hx.2).symm⟩))⟩, (by repeat (first | exact trivial | refine ⟨rfl, ?_⟩)), by omega⟩
  · exact ⟨⟨_, rfl⟩, M⟩
/-- Behind what is written over. -/
theorem St.tame {w W W' : World} {gs : List (Option Nat)} {L : Lc} {R : List Row} {fs fs' : List Fact} {B : Nat → Prop} {s0 s1 : Nat} (M : St w gs W L R fs) (t : Tame B W W') (hB : ∀ b, B b → s0 ≤ b ∧ b < s1 ∧ some b ∉ own L R gs) (hs : w.heap.size ≤ s0)
    (hf : ∀ f ∈ fs', f ∈ fs ∧ ∃ lo hi ds cs, f = .rng lo hi ds cs ∧ (hi ≤ s0 ∨ s1 ≤ lo)) : St w gs W' L R fs' := by
  have hown : ∀ b, some b ∈ own L R gs → W'.heap[b]? = W.heap[b]? := fun b e => t.out b (fun h => (hB b h).2.2 e)
  refine ⟨M.below.trans (t.low _ (fun b hb => Nat.le_trans hs (hB b hb).1)), M.lt, fun x hx => ⟨(hown x.1 (by unfold own; exact List.mem_append_left _ (List.mem_map.2 ⟨x, hx, rfl⟩))).trans (M.blk x hx).1, (M.blk x hx).2⟩, fun r hr => ?_, M.ap, fun f hfm => ?_⟩
  · obtain ⟨h1, h2⟩ := M.row r hr
    refine ⟨h1, ?_⟩
    rcases h2 with h2 | ⟨g, cap, cur, hv, hb, hh, h3⟩
    · exact .inl h2
    · refine .inr ⟨g, cap, cur, hv, hb, ?_, h3⟩
      rw [hown g (by
        unfold own
        refine List.mem_append_right _ (List.mem_append_left _ (List.mem_map.2 ⟨r, hr, ?_⟩))
        injection hv with e1
        rw [e1]; rfl)]
      exact hh
  · obtain ⟨hm, lo, hi, ds, cs, rfl, hor⟩ := hf f hfm
    have h := M.fct _ hm
    refine RdL.to (fun b hb => ?_) (show RdL W (fun b => Ft w W (own L R gs) true b ∧ lo ≤ b ∧ b < hi) ds cs from h)
    have e : W'.heap[b]? = W.heap[b]? := t.out b (fun h => by have := hB b h; have := hb.2; omega)
    exact ⟨e, ⟨by rw [t.size]; exact hb.1.1, hb.1.2.1, fun q => ⟨(hb.1.2.2 q).1, (hb.1.2.2 q).2.same e⟩⟩, hb.2⟩
end Go.Proofs.YtdlljmmgkoeilaaDoor
