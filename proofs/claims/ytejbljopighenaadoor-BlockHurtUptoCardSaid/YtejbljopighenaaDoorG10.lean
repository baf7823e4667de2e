/- Package txn: the reader, Decode. Package txn: sameRow, Same; reference 19: Same; reference 20: Same, SameAll. Reference 20: Encode, number, Decode. Reference 20: number, Decode. -/
import Derived.Test.YtejbljopighenaaDoorG09
import Derived.Test.YtejbljopighenaaDoorG07
import Derived.Test.YtejbljopighenaaDoorG08
namespace Go.Proofs.YtejbljopighenaaDoor
open Go.RowKit
theorem fX0 : fieldOff Tryd.prog 113 0 = some 0 := by kernel_rfl
theorem fX1 : fieldOff Tryd.prog 113 1 = some 1 := by kernel_rfl
theorem fX2 : fieldOff Tryd.prog 113 2 = some 2 := by kernel_rfl
theorem z_rdr : zeroOf Tryd.prog 113 = some [.slice none 0 0, .int .i64 0, .bool false] := by kernel_rfl
theorem pl_rdr : placesOf Tryd.prog 113 = some [(0, 1), (1, 1), (2, 1)] := by kernel_rfl
def rcs (A : Option Addr) (n c : Nat) (s : RS) : List Value := [.slice A n c, .int .i64 s.at_, .bool s.bad]
theorem cvi64 {x : Int} (h0 : 0 ≤ x) (h : x ≤ 9223372036854775807) : IntKind.i64.wrap x = x := w64 ⟨by omega, h⟩
theorem u_u64s : (Tryd.prog.underlying 66).isSome = true := by kernel_rfl
theorem u_i64u : Tryd.prog.underlying 3 = some (.int .i64) := by kernel_rfl
theorem gN_ge (b : List UInt8) (a : Int) : 0 ≤ gN b a := by unfold gN; split <;> omega
section
variable {w W : World} {gs : List (Option Nat)} {g : Nat} {L : Lc} {R : List Row} {fs : List Fact} {b : List UInt8} {A : Option Addr} {n c : Nat} {s : RS} {fr : Bool}
set_option maxRecDepth 100000 in
set_option maxHeartbeats 2000000 in
theorem xnum_any (M : St w gs W ((g, 113, rcs A n c s) :: L) R (.dat fr [dB b] [.slice A n c] :: fs)) (hn : b.length ≤ 100000000) :
    Calls Tryd.prog 63 #[.pointer (some ⟨g, 0, none⟩)] W fun e W' => e = .returned (.int .i64 (numP b s).1) ∧ St w gs W' ((g, 113, rcs A n c (numP b s).2) :: L) R (.dat fr [dB b] [.slice A n c] :: fs) := by
  refine calls_ev (args := [.pointer (some ⟨g, 0, none⟩)]) mixed Tryd.func63 rfl (by kernel_rfl) ?_
  obtain ⟨en, enc, hrd⟩ := M.rdb 0 rfl
  replace M := M.drew
  refine drT (Kp w gs [(g, 113, rcs A n c s)] []) (.take 0 (.take 1 (.take 2 (.take 3 (.take 4 (.take 5 (.take 6 (.take 7 (.one 8 (.take 9 (.take 10 (.take 11 (.take 12 (.take 13 (.take 14 (.take 15 (.nil))))))))))))))))) (by kernel_rfl) (M.kp (by simp) (by simp)) ?_
  refine p_nil rfl ?_
  refine p_fld fX0 rfl ?_
  refine t_load agg_b rfl (fun W K => (K.B 0 rfl).at_ rfl) ?_
  refine p_nil rfl ?_
  refine p_fld fX1 rfl ?_
  refine t_load agg_i rfl (fun W K => (K.B 0 rfl).at_ rfl) ?_
  refine cc is_vget (get_any _ _ _ _ s.at_ b _ hrd (by omega) enc) ?_
  rintro e W' ⟨rfl, rfl⟩
  refine ⟨_, rfl, (M.kp (by simp) (by simp)), ?_⟩
  refine p_ne rfl rfl (fun h1 => ?_) (fun h1 => ?_)
  rotate_left
  · have h1 : ¬ gE b s.at_ = 0 := h1
    have he : numP b s = (0, ⟨s.at_, true⟩) := by unfold numP; rw [if_pos (.inl h1)]
    refine p_nil rfl ?_
    refine p_fld fX2 rfl ?_
    refine s_set 0 (off := 2) (.bool true) (rcs A n c ⟨s.at_, true⟩) M rfl sz_bln rfl rfl rfl (by show 2 < 3; decide) rfl ?_
    clear M; rintro W M
    dsimp only [setL] at M
    rw [he]
    exact ⟨rfl, M⟩
  have h1 : gE b s.at_ = 0 := h1
  refine p_gt rfl rfl (fun h2 => ?_) (fun h2 => ?_)
  · have h2 : (9223372036854775807 : Int) < gN b s.at_ := h2
    have he : numP b s = (0, ⟨s.at_, true⟩) := by unfold numP; rw [if_pos (.inr h2)]
    refine p_nil rfl ?_
    refine p_fld fX2 rfl ?_
    refine s_set 0 (off := 2) (.bool true) (rcs A n c ⟨s.at_, true⟩) M rfl sz_bln rfl rfl rfl (by show 2 < 3; decide) rfl ?_
    clear M; rintro W M
    dsimp only [setL] at M
    rw [he]
    exact ⟨rfl, M⟩
  have h2 : ¬ (9223372036854775807 : Int) < gN b s.at_ := h2
  have he : numP b s = (gN b s.at_, ⟨gTo b s.at_, s.bad⟩) := by unfold numP; rw [if_neg (fun h => h.elim (fun h => h h1) h2)]
  refine p_nil rfl ?_
  refine p_fld fX1 rfl ?_
  refine s_set 0 (off := 1) (.int .i64 (gTo b s.at_)) (rcs A n c ⟨gTo b s.at_, s.bad⟩) M rfl sz_int rfl rfl rfl (by show 1 < 3; decide) rfl ?_
  clear M; rintro W M
  dsimp only [setL] at M
  refine v_cvt u_u64s u_i64u rfl (cvi64 (gN_ge _ _) (by omega)) ?_
  rw [he]
  exact ⟨rfl, M⟩
set_option maxRecDepth 100000 in
set_option maxHeartbeats 2000000 in
theorem xres_any (M : St w gs W ((g, 113, rcs A n c s) :: L) R (.dat fr [dB b] [.slice A n c] :: fs)) (hn : b.length ≤ 1000000) :
    Calls Tryd.prog 64 #[.pointer (some ⟨g, 0, none⟩)] W fun e W' => ∃ A' c', e = .returned (.agg (rescs (resP b s).1 A' c').toArray) ∧ St w gs W' ((g, 113, rcs A n c (resP b s).2) :: L) R (.dat true (dRes (resP b s).1) (rescs (resP b s).1 A' c') :: .dat fr [dB b] [.slice A n c] :: fs) := by
  refine calls_ev (args := [.pointer (some ⟨g, 0, none⟩)]) mixed Tryd.func64 rfl (by kernel_rfl) ?_
  refine s_alloc (zRes) M al_res ?_
  clear M
  rintro g2 W M
  replace M := M.swp
  refine cc is_xnum (xnum_any M (by omega)) ?_
  clear M
  rintro e W ⟨rfl, M⟩
  refine ⟨_, rfl, ?_⟩
  obtain ⟨q, hq⟩ : ∃ q, q = numP b s := ⟨_, rfl⟩
  have hqn := numP_le b s
  rw [← hq] at M hqn
  rw [← hq]
  obtain ⟨en, enc, hrd⟩ := M.rdb 0 rfl
  replace M := M.drew
  refine drT (Kp w gs [(g, 113, rcs A n c q.2)] []) (.take 0 (.take 1 (.take 2 (.take 3 (.take 4 (.take 5 (.take 6 (.take 7 (.one 8 (.take 9 (.take 10 (.take 11 (.take 12 (.take 13 (.take 14 (.take 15 (.nil))))))))))))))))) (by kernel_rfl) (M.kp (by simp) (by simp)) ?_
  refine p_nil rfl ?_
  refine p_fld fX0 rfl ?_
  refine t_load agg_b rfl (fun W K => (K.B 0 rfl).at_ rfl) ?_
  refine p_nil rfl ?_
  refine p_fld fX1 rfl ?_
  refine t_load agg_i rfl (fun W K => (K.B 0 rfl).at_ rfl) ?_
  refine cc is_vgetB (getBytes_any _ _ _ q.2.at_ b _ hrd (by omega) enc) ?_
  rintro e W ⟨A4, n4, c4, rfl, o4, hb⟩
  have en4 := o4.len
  have enc4 := row_cap' o4
  replace M := M.callO hb o4
  clear o4 hb hrd
  refine ⟨_, rfl, (M.kp (by simp) (by simp)), ?_⟩
  refine p_ne rfl rfl (fun h1 => ?_) (fun h1 => ?_)
  rotate_left
  · have h1 : ¬ gbE b q.2.at_ = 0 := h1
    have he : resP b s = (⟨[], 0⟩, ⟨q.2.at_, true⟩) := by unfold resP; rw [← hq, if_pos h1]
    refine p_nil rfl ?_
    refine p_fld fX2 rfl ?_
    refine s_set 0 (off := 2) (.bool true) (rcs A n c ⟨q.2.at_, true⟩) M rfl sz_bln rfl rfl rfl (by show 2 < 3; decide) rfl ?_
    clear M; rintro W M
    dsimp only [setL] at M
    refine p_build (vs := zRes) pl_res z_res rfl ?_
    refine s_storeA 1 zRes M rfl sz_res rfl rfl rfl (all1 rfl) rfl ?_
    clear M; rintro W M
    dsimp only [setL] at M
    refine c_loadN zRes agg_res rfl rfl (M.run 1 rfl) ?_
    rw [he]
    have M2 := M.swp.dropL.addT (fr := true) (ds := dRes ⟨[], 0⟩) (cs := rescs ⟨[], 0⟩ none 0) (RdL.cons (RdD.nil_ (s := 1) none 0) (RdL.cons (RdD.ofv _) RdL.nil_))
    exact ⟨none, 0, rfl, M2.fsub _ (by intro f hf; simp only [List.mem_cons] at hf ⊢; rcases hf with h | h | h <;> simp [h])⟩
  have h1 : gbE b q.2.at_ = 0 := h1
  have he : resP b s = (⟨fewL (gbL b q.2.at_), q.1⟩, ⟨gbTo b q.2.at_, q.2.bad || decide (fewE (gbL b q.2.at_) ≠ 0)⟩) := by unfold resP; rw [← hq, if_neg (fun h => h h1)]
  refine p_nil rfl ?_
  refine p_fld fX1 rfl ?_
  refine s_set 0 (off := 1) (.int .i64 (gbTo b q.2.at_)) (rcs A n c ⟨gbTo b q.2.at_, q.2.bad⟩) M rfl sz_int rfl rfl rfl (by show 1 < 3; decide) rfl ?_
  clear M; rintro W M
  dsimp only [setL] at M
  have hgl := gbL_le b q.2.at_
  refine cc is_few (few_any _ _ _ (gbL b q.2.at_) _ (M.rdb 0 rfl).2.2 (by omega) enc4) ?_
  rintro e W ⟨A6, n6, c6, rfl, o6, hb⟩
  have hrows : RdD W (Fr _ W) (dRows (fewL (gbL b q.2.at_))) (.slice A6 n6 c6) := o6.rdRows (fun b q1 q2 q3 => ⟨q1, q2, q3⟩)
  have en6 : n6 = (fewL (gbL b q.2.at_)).length := hrows.slen
  subst en6
  replace M := M.callF1 hb hrows
  clear hb hrows o6
  refine ⟨_, rfl, ?_⟩
  obtain ⟨bd, hbd⟩ : ∃ bd, q.2.bad = bd := ⟨_, rfl⟩
  rw [hbd] at M he
  refine p_nil rfl ?_
  refine p_fld fX2 rfl ?_
  refine v_load agg_bl rfl ((M.B 0 rfl).at_ rfl) ?_
  cases bd with
  | true =>
    refine p_nil rfl ?_
    refine p_fld fX2 rfl ?_
    refine s_set 0 (off := 2) (.bool true) (rcs A n c ⟨gbTo b q.2.at_, true⟩) M rfl sz_bln rfl rfl rfl (by show 2 < 3; decide) rfl ?_
    clear M; rintro W M
    dsimp only [setL] at M
    refine p_build (vs := rescs ⟨fewL (gbL b q.2.at_), q.1⟩ A6 c6) pl_res z_res rfl ?_
    refine s_storeA 1 (rescs ⟨fewL (gbL b q.2.at_), q.1⟩ A6 c6) M rfl sz_res rfl rfl rfl (all1 rfl) rfl ?_
    clear M; rintro W M
    dsimp only [setL] at M
    refine c_loadN (rescs ⟨fewL (gbL b q.2.at_), q.1⟩ A6 c6) agg_res rfl rfl (M.run 1 rfl) ?_
    rw [he]
    have M2 := M.swp.dropL.addT (fr := true) (ds := dRes ⟨fewL (gbL b q.2.at_), q.1⟩) (cs := rescs ⟨fewL (gbL b q.2.at_), q.1⟩ A6 c6) (RdL.cons (M.swp.dropL.dt 0 rfl).hd (RdL.cons (RdD.ofv _) RdL.nil_))
    refine ⟨A6, c6, rfl, ?_⟩
    rw [Bool.true_or]
    exact M2.fsub _ (by intro f hf; simp only [List.mem_cons] at hf ⊢; rcases hf with h | h | h <;> simp [h])
  | false =>
  rw [Bool.false_or] at he
  refine p_ne rfl rfl (fun h2 => ?_) (fun h2 => ?_)
  · have h2 : fewE (gbL b q.2.at_) = 0 := h2
    refine p_nil rfl ?_
    refine p_fld fX2 rfl ?_
    refine s_set 0 (off := 2) (.bool false) (rcs A n c ⟨gbTo b q.2.at_, false⟩) M rfl sz_bln rfl rfl rfl (by show 2 < 3; decide) rfl ?_
    clear M; rintro W M
    dsimp only [setL] at M
    refine p_build (vs := rescs ⟨fewL (gbL b q.2.at_), q.1⟩ A6 c6) pl_res z_res rfl ?_
    refine s_storeA 1 (rescs ⟨fewL (gbL b q.2.at_), q.1⟩ A6 c6) M rfl sz_res rfl rfl rfl (all1 rfl) rfl ?_
    clear M; rintro W M
    dsimp only [setL] at M
    refine c_loadN (rescs ⟨fewL (gbL b q.2.at_), q.1⟩ A6 c6) agg_res rfl rfl (M.run 1 rfl) ?_
    rw [he]
    have M2 := M.swp.dropL.addT (fr := true) (ds := dRes ⟨fewL (gbL b q.2.at_), q.1⟩) (cs := rescs ⟨fewL (gbL b q.2.at_), q.1⟩ A6 c6) (RdL.cons (M.swp.dropL.dt 0 rfl).hd (RdL.cons (RdD.ofv _) RdL.nil_))
    refine ⟨A6, c6, rfl, ?_⟩
    rw [decide_eq_false (fun h => h h2)]
    exact M2.fsub _ (by intro f hf; simp only [List.mem_cons] at hf ⊢; rcases hf with h | h | h <;> simp [h])
  · have h2 : ¬ fewE (gbL b q.2.at_) = 0 := h2
    refine p_nil rfl ?_
    refine p_fld fX2 rfl ?_
    refine s_set 0 (off := 2) (.bool true) (rcs A n c ⟨gbTo b q.2.at_, true⟩) M rfl sz_bln rfl rfl rfl (by show 2 < 3; decide) rfl ?_
    clear M; rintro W M
    dsimp only [setL] at M
    refine p_build (vs := rescs ⟨fewL (gbL b q.2.at_), q.1⟩ A6 c6) pl_res z_res rfl ?_
    refine s_storeA 1 (rescs ⟨fewL (gbL b q.2.at_), q.1⟩ A6 c6) M rfl sz_res rfl rfl rfl (all1 rfl) rfl ?_
    clear M; rintro W M
    dsimp only [setL] at M
    refine c_loadN (rescs ⟨fewL (gbL b q.2.at_), q.1⟩ A6 c6) agg_res rfl rfl (M.run 1 rfl) ?_
    rw [he]
    have M2 := M.swp.dropL.addT (fr := true) (ds := dRes ⟨fewL (gbL b q.2.at_), q.1⟩) (cs := rescs ⟨fewL (gbL b q.2.at_), q.1⟩ A6 c6) (RdL.cons (M.swp.dropL.dt 0 rfl).hd (RdL.cons (RdD.ofv _) RdL.nil_))
    refine ⟨A6, c6, rfl, ?_⟩
    rw [decide_eq_true h2]
    exact M2.fsub _ (by intro f hf; simp only [List.mem_cons] at hf ⊢; rcases hf with h | h | h <;> simp [h])
end
theorem inf_res : (Tryd.prog.info? 58).map (fun i => (i.zero, i.size, i.bytes)) = some (some (.agg zRes.toArray), 2, 32) := by kernel_rfl
theorem dRes_one (r : Res) : ∀ d ∈ dRes r, d.One := by
  intro d hd
  rcases List.mem_cons.1 hd with rfl | hd
  · exact trivial
  rcases List.mem_cons.1 hd with rfl | hd
  · rfl
  · cases hd
theorem is_xDec : isFn Tryd.prog 50 = true := by kernel_rfl
set_option maxRecDepth 100000 in
set_option maxHeartbeats 4000000 in
theorem xDec_any (b : List UInt8) (gs : List (Option Nat)) (w : World) (A : Option Addr) (n c : Nat) (hr : RdD w (Fd w gs) (dB b) (.slice A n c)) (hgs : ∀ b, some b ∈ gs → b < w.heap.size) (hn : b.length ≤ 1000000) :
    Calls Tryd.prog 50 #[.slice A n c] w fun e w' => ∃ A' c', e = .returned (.tuple #[.agg (outcs (decO b).1 A' c').toArray, .int .i64 (decO b).2]) ∧ RdL w' (Fr w w') (dOut (decO b).1) (outcs (decO b).1 A' c') ∧ Below w.heap.size w w' := by
  refine calls_ev (args := [.slice A n c]) mixed Tryd.func50 rfl (by kernel_rfl) ?_
  have en := hr.slen
  subst en
  have M := (St.start hgs).addD hr
  clear hr
  refine s_alloc (zOut) M al_out ?_
  clear M
  rintro g2 W M
  refine p_build (vs := rcs A b.length c ⟨0, false⟩) pl_rdr z_rdr rfl ?_
  refine s_box (rcs A b.length c ⟨0, false⟩) M rfl ?_
  clear M; rintro g4 W M
  refine cc is_xnum (xnum_any M (by omega)) ?_
  clear M
  rintro e W ⟨rfl, M⟩
  refine ⟨_, rfl, ?_⟩
  refine cc is_xnum (xnum_any M (by omega)) ?_
  clear M
  rintro e W ⟨rfl, M⟩
  refine ⟨_, rfl, ?_⟩
  refine p_build (vs := outcs ⟨(hd1 b).1, (hd2 b).1, []⟩ none 0) pl_out z_out rfl ?_
  refine s_alloc (zOut) M al_out ?_
  clear M
  rintro g5 W M
  refine s_storeA 0 (outcs ⟨(hd1 b).1, (hd2 b).1, []⟩ none 0) M rfl sz_out rfl rfl rfl (all1 rfl) rfl ?_
  clear M; rintro W M
  dsimp only [setL] at M
  replace M := M.swp
  refine cc is_xnum (xnum_any M (by omega)) ?_
  clear M
  rintro e W ⟨rfl, M⟩
  refine ⟨_, rfl, ?_⟩
  obtain ⟨N, hN⟩ : ∃ N, N = (hd3 b).1 := ⟨_, rfl⟩
  obtain ⟨S, hS⟩ : ∃ S, S = resO b := ⟨_, rfl⟩
  have hSr : S = resF b (min N.toNat 51) (hd3 b).2 := by rw [hS, hN]; rfl
  have hNl : N ≤ 9223372036854775807 := by rw [hN]; exact numP_le b _
  change St w gs W ((g4, 113, rcs A b.length c (hd3 b).2) :: _) [] _ at M
  have h0 : (numP b (numP b (numP b ⟨0, false⟩).2).2).1 = N := hN.symm
  rw [h0]
  refine lp (List Res × RS × List Value × Option Addr × Nat) (fun s W => s.1.length ≤ min N.toNat 51 ∧ s.1 ++ (resF b (min N.toNat 51 - s.1.length) s.2.1).1 = S.1 ∧ (resF b (min N.toNat 51 - s.1.length) s.2.1).2 = S.2 ∧ St w gs W [(g4, 113, rcs A b.length c s.2.1), (g5, 55, [.int .i64 (hd1 b).1, .int .i64 (hd2 b).1, .slice s.2.2.2.1 s.1.length s.2.2.2.2]), (g2, 55, zOut)] [⟨58, 2, s.2.2.2.1, s.1.length, s.2.2.2.2, s.2.2.1⟩] [.dat true (s.1.flatMap dRes) s.2.2.1, .dat false [dB b] [.slice A b.length c]])
    (fun s => [(0, .slice A b.length c), (2, .pointer (some ⟨g2, 0, none⟩)), (4, .pointer (some ⟨g4, 0, none⟩)), (5, .pointer (some ⟨g5, 0, none⟩)), (6, .int .i64 N), (7, .int .i64 (s.1.length : Nat))]) (fun s => min N.toNat 51 - s.1.length) ([], (hd3 b).2, [], none, 0) ⟨Nat.zero_le _, by rw [hSr]; rfl, by rw [hSr]; rfl, ?_⟩ (by repeat (first | exact trivial | refine ⟨rfl, ?_⟩)) ?_
  · have M2 := (M.nilR 58 2).addT (fr := true) (ds := []) (cs := []) RdL.nil_
    exact M2.fsub _ (by simp)
  clear M
  rintro ⟨acc, s, xs, A3, c3⟩ E W ⟨hk, e1, e2, M⟩
  dsimp only at hk e1 e2 M
  have hk51 : acc.length ≤ 51 := by have := Nat.min_le_right N.toNat 51; omega
  refine p_lt rfl rfl (fun h1 => ?_) (fun h1 => ?_)
  rotate_left
  · have h1 : ¬ (acc.length : Int) < N := h1
    have hz : resF b (min N.toNat 51 - acc.length) s = ([], s) := by rw [show min N.toNat 51 - acc.length = 0 by have := Nat.min_le_left N.toNat 51; omega]; rfl
    have hacc : acc = S.1 := by rw [← e1, hz, List.append_nil]
    have hs : s = S.2 := by rw [← e2, hz]
    have hpo : parseO b = ⟨(hd1 b).1, (hd2 b).1, acc⟩ := by unfold parseO; rw [← hS, ← hacc]
    subst hs
    have M2 := M.frzR (fr := true) (M.dt 0 rfl)
    have hro : RdL W (Ft w W (own [(g4, 113, rcs A b.length c S.2), (g5, 55, [.int .i64 (hd1 b).1, .int .i64 (hd2 b).1, .slice A3 acc.length c3]), (g2, 55, zOut)] [] gs) true) (dOut (parseO b)) (outcs (parseO b) A3 c3) := by
      rw [hpo]
      exact RdL.cons (RdD.ofv _) (RdL.cons (RdD.ofv _) (RdL.cons (M2.dt 0 rfl).hd RdL.nil_))
    replace M := M2.addT hro
    clear M2 hro
    have hoc : outcs (parseO b) A3 c3 = [.int .i64 (hd1 b).1, .int .i64 (hd2 b).1, .slice A3 acc.length c3] := by rw [hpo]; rfl
    rw [← hoc] at M
    refine v_loadN (outcs (parseO b) A3 c3) agg_out rfl rfl (M.run 1 rfl) ?_
    refine cc is_xEnc (xEnc_any (parseO b) _ _ _ (M.da 0 rfl) M.olt (parse_fits (by omega))) ?_
    rintro e W ⟨A8, n8, c8, rfl, o8, hb⟩
    replace M := M.callO hb o8
    clear o8 hb
    refine ⟨_, rfl, ?_⟩
    refine p_nil rfl ?_
    refine p_fld fX2 rfl ?_
    refine v_load agg_bl rfl ((M.B 0 rfl).at_ rfl) ?_
    have hdo : decO b = if S.2.bad = false ∧ encO (parseO b) = (b, 0) then (parseO b, 0) else (outZ, 11) := by unfold decO; rw [← hS]
    obtain ⟨bd, hbd⟩ : ∃ bd, S.2.bad = bd := ⟨_, rfl⟩
    obtain ⟨Y, hY⟩ : ∃ Y, Y = encO (parseO b) := ⟨_, rfl⟩
    rw [← hY] at hdo M
    rw [hbd] at hdo
    rw [hbd]
    rw [← hY]
    cases bd with
    | true =>
      rw [if_neg (fun h => by cases h.1)] at hdo
      refine p_build (vs := zOut) pl_out z_out rfl ?_
      refine s_storeA 2 zOut M rfl sz_out rfl rfl rfl (all1 rfl) rfl ?_
      clear M; rintro W M
      dsimp only [setL] at M
      refine c_loadN zOut agg_out rfl rfl (M.run 2 rfl) ?_
      rw [hdo]
      exact ⟨none, 0, rfl, RdL.cons (RdD.ofv _) (RdL.cons (RdD.ofv _) (RdL.cons (RdD.nil_ (s := 2) none 0) RdL.nil_)), M.below⟩
    | false =>
    refine p_ne rfl rfl (fun h2 => ?_) (fun h2 => ?_)
    rotate_left
    · have h2 : ¬ Y.2 = 0 := h2
      rw [if_neg (fun h => h2 (by rw [h.2]))] at hdo
      refine p_build (vs := zOut) pl_out z_out rfl ?_
      refine s_storeA 2 zOut M rfl sz_out rfl rfl rfl (all1 rfl) rfl ?_
      clear M; rintro W M
      dsimp only [setL] at M
      refine c_loadN zOut agg_out rfl rfl (M.run 2 rfl) ?_
      rw [hdo]
      exact ⟨none, 0, rfl, RdL.cons (RdD.ofv _) (RdL.cons (RdD.ofv _) (RdL.cons (RdD.nil_ (s := 2) none 0) RdL.nil_)), M.below⟩
    have h2 : Y.2 = 0 := h2
    refine v_str rfl (M.rdb 0 rfl).2.2 ?_
    refine v_str rfl (M.rdb 4 rfl).2.2 ?_
    refine p_sne rfl rfl (fun h3 => ?_) (fun h3 => ?_)
    rotate_left
    · rw [if_neg (fun h => h3 (by rw [h.2]))] at hdo
      refine p_build (vs := zOut) pl_out z_out rfl ?_
      refine s_storeA 2 zOut M rfl sz_out rfl rfl rfl (all1 rfl) rfl ?_
      clear M; rintro W M
      dsimp only [setL] at M
      refine c_loadN zOut agg_out rfl rfl (M.run 2 rfl) ?_
      rw [hdo]
      exact ⟨none, 0, rfl, RdL.cons (RdD.ofv _) (RdL.cons (RdD.ofv _) (RdL.cons (RdD.nil_ (s := 2) none 0) RdL.nil_)), M.below⟩
    have h3 : Y.1 = b := sb_inj.1 h3
    rw [if_pos ⟨rfl, Prod.ext h3 h2⟩] at hdo
    refine v_loadN (outcs (parseO b) A3 c3) agg_out rfl rfl (M.run 1 rfl) ?_
    refine s_storeA 2 (outcs (parseO b) A3 c3) M rfl sz_out rfl rfl rfl (all1 rfl) rfl ?_
    clear M; rintro W M
    dsimp only [setL] at M
    refine c_loadN (outcs (parseO b) A3 c3) agg_out rfl rfl (M.run 2 rfl) ?_
    rw [hdo]
    exact ⟨A3, c3, rfl, M.finF 1 rfl, M.below⟩
  have h1 : (acc.length : Int) < N := h1
  refine p_le rfl rfl (fun h2 => ?_) (fun h2 => ?_)
  rotate_left
  · have h2 : ¬ (acc.length : Int) ≤ 50 := h2
    have hz : resF b (min N.toNat 51 - acc.length) s = ([], s) := by rw [show min N.toNat 51 - acc.length = 0 by have := Nat.min_le_right N.toNat 51; omega]; rfl
    have hacc : acc = S.1 := by rw [← e1, hz, List.append_nil]
    have hs : s = S.2 := by rw [← e2, hz]
    have hpo : parseO b = ⟨(hd1 b).1, (hd2 b).1, acc⟩ := by unfold parseO; rw [← hS, ← hacc]
    subst hs
    have M2 := M.frzR (fr := true) (M.dt 0 rfl)
    have hro : RdL W (Ft w W (own [(g4, 113, rcs A b.length c S.2), (g5, 55, [.int .i64 (hd1 b).1, .int .i64 (hd2 b).1, .slice A3 acc.length c3]), (g2, 55, zOut)] [] gs) true) (dOut (parseO b)) (outcs (parseO b) A3 c3) := by
      rw [hpo]
      exact RdL.cons (RdD.ofv _) (RdL.cons (RdD.ofv _) (RdL.cons (M2.dt 0 rfl).hd RdL.nil_))
    replace M := M2.addT hro
    clear M2 hro
    have hoc : outcs (parseO b) A3 c3 = [.int .i64 (hd1 b).1, .int .i64 (hd2 b).1, .slice A3 acc.length c3] := by rw [hpo]; rfl
    rw [← hoc] at M
    refine v_loadN (outcs (parseO b) A3 c3) agg_out rfl rfl (M.run 1 rfl) ?_
    refine cc is_xEnc (xEnc_any (parseO b) _ _ _ (M.da 0 rfl) M.olt (parse_fits (by omega))) ?_
    rintro e W ⟨A8, n8, c8, rfl, o8, hb⟩
    replace M := M.callO hb o8
    clear o8 hb
    refine ⟨_, rfl, ?_⟩
    refine p_nil rfl ?_
    refine p_fld fX2 rfl ?_
    refine v_load agg_bl rfl ((M.B 0 rfl).at_ rfl) ?_
    have hdo : decO b = if S.2.bad = false ∧ encO (parseO b) = (b, 0) then (parseO b, 0) else (outZ, 11) := by unfold decO; rw [← hS]
    obtain ⟨bd, hbd⟩ : ∃ bd, S.2.bad = bd := ⟨_, rfl⟩
    obtain ⟨Y, hY⟩ : ∃ Y, Y = encO (parseO b) := ⟨_, rfl⟩
    rw [← hY] at hdo M
    rw [hbd] at hdo
    rw [hbd]
    rw [← hY]
    cases bd with
    | true =>
      rw [if_neg (fun h => by cases h.1)] at hdo
      refine p_build (vs := zOut) pl_out z_out rfl ?_
      refine s_storeA 2 zOut M rfl sz_out rfl rfl rfl (all1 rfl) rfl ?_
      clear M; rintro W M
      dsimp only [setL] at M
      refine c_loadN zOut agg_out rfl rfl (M.run 2 rfl) ?_
      rw [hdo]
      exact ⟨none, 0, rfl, RdL.cons (RdD.ofv _) (RdL.cons (RdD.ofv _) (RdL.cons (RdD.nil_ (s := 2) none 0) RdL.nil_)), M.below⟩
    | false =>
    refine p_ne rfl rfl (fun h2 => ?_) (fun h2 => ?_)
    rotate_left
    · have h2 : ¬ Y.2 = 0 := h2
      rw [if_neg (fun h => h2 (by rw [h.2]))] at hdo
      refine p_build (vs := zOut) pl_out z_out rfl ?_
      refine s_storeA 2 zOut M rfl sz_out rfl rfl rfl (all1 rfl) rfl ?_
      clear M; rintro W M
      dsimp only [setL] at M
      refine c_loadN zOut agg_out rfl rfl (M.run 2 rfl) ?_
      rw [hdo]
      exact ⟨none, 0, rfl, RdL.cons (RdD.ofv _) (RdL.cons (RdD.ofv _) (RdL.cons (RdD.nil_ (s := 2) none 0) RdL.nil_)), M.below⟩
    have h2 : Y.2 = 0 := h2
    refine v_str rfl (M.rdb 0 rfl).2.2 ?_
    refine v_str rfl (M.rdb 4 rfl).2.2 ?_
    refine p_sne rfl rfl (fun h3 => ?_) (fun h3 => ?_)
    rotate_left
    · rw [if_neg (fun h => h3 (by rw [h.2]))] at hdo
      refine p_build (vs := zOut) pl_out z_out rfl ?_
      refine s_storeA 2 zOut M rfl sz_out rfl rfl rfl (all1 rfl) rfl ?_
      clear M; rintro W M
      dsimp only [setL] at M
      refine c_loadN zOut agg_out rfl rfl (M.run 2 rfl) ?_
      rw [hdo]
      exact ⟨none, 0, rfl, RdL.cons (RdD.ofv _) (RdL.cons (RdD.ofv _) (RdL.cons (RdD.nil_ (s := 2) none 0) RdL.nil_)), M.below⟩
    have h3 : Y.1 = b := sb_inj.1 h3
    rw [if_pos ⟨rfl, Prod.ext h3 h2⟩] at hdo
    refine v_loadN (outcs (parseO b) A3 c3) agg_out rfl rfl (M.run 1 rfl) ?_
    refine s_storeA 2 (outcs (parseO b) A3 c3) M rfl sz_out rfl rfl rfl (all1 rfl) rfl ?_
    clear M; rintro W M
    dsimp only [setL] at M
    refine c_loadN (outcs (parseO b) A3 c3) agg_out rfl rfl (M.run 2 rfl) ?_
    rw [hdo]
    exact ⟨A3, c3, rfl, M.finF 1 rfl, M.below⟩
  have h2 : (acc.length : Int) ≤ 50 := h2
  obtain ⟨k, hkk⟩ : ∃ k, min N.toNat 51 - acc.length = k + 1 := ⟨min N.toNat 51 - acc.length - 1, by
    have : acc.length < min N.toNat 51 := Nat.lt_min.2 ⟨by omega, by omega⟩
    omega⟩
  refine p_nil rfl ?_
  refine p_fld fX2 rfl ?_
  refine v_load agg_bl rfl ((M.B 0 rfl).at_ rfl) ?_
  refine p_not rfl ?_
  obtain ⟨bd0, hbd0⟩ : ∃ bd, s.bad = bd := ⟨_, rfl⟩
  rw [hbd0]
  cases bd0 with
  | true =>
    have hz : resF b (min N.toNat 51 - acc.length) s = ([], s) := by rw [hkk, resF, if_pos hbd0]
    have hacc : acc = S.1 := by rw [← e1, hz, List.append_nil]
    have hs : s = S.2 := by rw [← e2, hz]
    have hpo : parseO b = ⟨(hd1 b).1, (hd2 b).1, acc⟩ := by unfold parseO; rw [← hS, ← hacc]
    subst hs
    have M2 := M.frzR (fr := true) (M.dt 0 rfl)
    have hro : RdL W (Ft w W (own [(g4, 113, rcs A b.length c S.2), (g5, 55, [.int .i64 (hd1 b).1, .int .i64 (hd2 b).1, .slice A3 acc.length c3]), (g2, 55, zOut)] [] gs) true) (dOut (parseO b)) (outcs (parseO b) A3 c3) := by
      rw [hpo]
      exact RdL.cons (RdD.ofv _) (RdL.cons (RdD.ofv _) (RdL.cons (M2.dt 0 rfl).hd RdL.nil_))
    replace M := M2.addT hro
    clear M2 hro
    have hoc : outcs (parseO b) A3 c3 = [.int .i64 (hd1 b).1, .int .i64 (hd2 b).1, .slice A3 acc.length c3] := by rw [hpo]; rfl
    rw [← hoc] at M
    refine v_loadN (outcs (parseO b) A3 c3) agg_out rfl rfl (M.run 1 rfl) ?_
    refine cc is_xEnc (xEnc_any (parseO b) _ _ _ (M.da 0 rfl) M.olt (parse_fits (by omega))) ?_
    rintro e W ⟨A8, n8, c8, rfl, o8, hb⟩
    replace M := M.callO hb o8
    clear o8 hb
    refine ⟨_, rfl, ?_⟩
    refine p_nil rfl ?_
    refine p_fld fX2 rfl ?_
    refine v_load agg_bl rfl ((M.B 0 rfl).at_ rfl) ?_
    have hdo : decO b = if S.2.bad = false ∧ encO (parseO b) = (b, 0) then (parseO b, 0) else (outZ, 11) := by unfold decO; rw [← hS]
    obtain ⟨bd, hbd⟩ : ∃ bd, S.2.bad = bd := ⟨_, rfl⟩
    obtain ⟨Y, hY⟩ : ∃ Y, Y = encO (parseO b) := ⟨_, rfl⟩
    rw [← hY] at hdo M
    rw [hbd] at hdo
    rw [hbd]
    rw [← hY]
    cases bd with
    | true =>
      rw [if_neg (fun h => by cases h.1)] at hdo
      refine p_build (vs := zOut) pl_out z_out rfl ?_
      refine s_storeA 2 zOut M rfl sz_out rfl rfl rfl (all1 rfl) rfl ?_
      clear M; rintro W M
      dsimp only [setL] at M
      refine c_loadN zOut agg_out rfl rfl (M.run 2 rfl) ?_
      rw [hdo]
      exact ⟨none, 0, rfl, RdL.cons (RdD.ofv _) (RdL.cons (RdD.ofv _) (RdL.cons (RdD.nil_ (s := 2) none 0) RdL.nil_)), M.below⟩
    | false =>
    refine p_ne rfl rfl (fun h2 => ?_) (fun h2 => ?_)
    rotate_left
    · have h2 : ¬ Y.2 = 0 := h2
      rw [if_neg (fun h => h2 (by rw [h.2]))] at hdo
      refine p_build (vs := zOut) pl_out z_out rfl ?_
      refine s_storeA 2 zOut M rfl sz_out rfl rfl rfl (all1 rfl) rfl ?_
      clear M; rintro W M
      dsimp only [setL] at M
      refine c_loadN zOut agg_out rfl rfl (M.run 2 rfl) ?_
      rw [hdo]
      exact ⟨none, 0, rfl, RdL.cons (RdD.ofv _) (RdL.cons (RdD.ofv _) (RdL.cons (RdD.nil_ (s := 2) none 0) RdL.nil_)), M.below⟩
    have h2 : Y.2 = 0 := h2
    refine v_str rfl (M.rdb 0 rfl).2.2 ?_
    refine v_str rfl (M.rdb 4 rfl).2.2 ?_
    refine p_sne rfl rfl (fun h3 => ?_) (fun h3 => ?_)
    rotate_left
    · rw [if_neg (fun h => h3 (by rw [h.2]))] at hdo
      refine p_build (vs := zOut) pl_out z_out rfl ?_
      refine s_storeA 2 zOut M rfl sz_out rfl rfl rfl (all1 rfl) rfl ?_
      clear M; rintro W M
      dsimp only [setL] at M
      refine c_loadN zOut agg_out rfl rfl (M.run 2 rfl) ?_
      rw [hdo]
      exact ⟨none, 0, rfl, RdL.cons (RdD.ofv _) (RdL.cons (RdD.ofv _) (RdL.cons (RdD.nil_ (s := 2) none 0) RdL.nil_)), M.below⟩
    have h3 : Y.1 = b := sb_inj.1 h3
    rw [if_pos ⟨rfl, Prod.ext h3 h2⟩] at hdo
    refine v_loadN (outcs (parseO b) A3 c3) agg_out rfl rfl (M.run 1 rfl) ?_
    refine s_storeA 2 (outcs (parseO b) A3 c3) M rfl sz_out rfl rfl rfl (all1 rfl) rfl ?_
    clear M; rintro W M
    dsimp only [setL] at M
    refine c_loadN (outcs (parseO b) A3 c3) agg_out rfl rfl (M.run 2 rfl) ?_
    rw [hdo]
    exact ⟨A3, c3, rfl, M.finF 1 rfl, M.below⟩
  | false =>
  have hst : resF b (k + 1) s = ((resP b s).1 :: (resF b k (resP b s).2).1, (resF b k (resP b s).2).2) := by rw [resF, if_neg (by rw [hbd0]; decide)]
  rw [hkk, hst] at e1 e2
  dsimp only at e1 e2
  have hk51' : acc.length < 51 := by have := Nat.min_le_right N.toNat 51; omega
  replace M := (M.fsub [.dat false [dB b] [.slice A b.length c], .dat true (acc.flatMap dRes) xs] (by simp)).drew
  refine drZ 7 (Kp w gs [(g5, 55, [.int .i64 (hd1 b).1, .int .i64 (hd2 b).1, .slice A3 acc.length c3])] []) [(0, true), (1, true), (2, true), (3, false), (4, false), (5, false), (6, true)] (by kernel_rfl) (M.kp (by simp) (by simp)) ?_
  refine p_fld fO2 rfl ?_
  refine t_load agg_rs rfl (fun W K => (K.B 0 rfl).at_ rfl) ?_
  refine cc is_xres (xres_any M (by omega)) ?_
  clear M
  rintro e W ⟨Ar, cr, rfl, M⟩
  refine ⟨_, rfl, (M.kp (by simp) (by simp)), ?_⟩
  obtain ⟨q, hq⟩ : ∃ q, q = resP b s := ⟨_, rfl⟩
  rw [← hq] at M e1 e2
  rw [← hq]
  refine s_bslice (fr := true) (ds := dRes q.1) (rescs q.1 Ar cr) M slrs z_res rfl (by decide) rfl (M.dt 0 rfl) rfl ?_
  clear M; rintro g9 W M
  refine ⟨(M.kp (by simp) (by simp)), ?_⟩
  obtain ⟨news, hrd, hnd⟩ := (M.dt 0 rfl).hd.reads (fun b h => h.1)
  replace M := M.addT hnd
  refine s_app (z := .agg zRes.toArray) (news := news) M Tryd.underlying53 inf_res rfl (by decide) rfl rfl hrd (hnd.ones (dRes_one _)) ⟨by omega, by decide⟩ ?_
  clear M hrd hnd
  rintro A7 c7 W M -
  refine ⟨(M.kp (by simp) (by simp)), ?_⟩
  refine p_fld fO2 rfl ?_
  refine s_set 1 (off := 2) (.slice A7 (acc.length + 1) c7) [.int .i64 (hd1 b).1, .int .i64 (hd2 b).1, .slice A7 (acc.length + 1) c7] M rfl sz_rs rfl rfl rfl (Nat.le_of_ble_eq_true rfl) rfl ?_
  clear M; rintro W M
  dsimp only [setL] at M
  refine p_addN (b := 1) rfl rfl (by omega) ?_
  have hx := (M.dt 4 rfl).app (M.dt 0 rfl)
  replace M := M.addT hx
  have el : (acc ++ [q.1]).length = acc.length + 1 := by simp
  have ef : (acc ++ [q.1]).flatMap dRes = acc.flatMap dRes ++ dRes q.1 := by rw [List.flatMap_append]; simp
  have ek : min N.toNat 51 - (acc.length + 1) = k := by omega
  refine ⟨(acc ++ [q.1], q.2, xs ++ news, A7, c7), ⟨by dsimp only; rw [el]; omega, ?_, ?_, ?_⟩, ?_, ?_⟩
  · dsimp only
    rw [el, ek, List.append_assoc]
    exact e1
  · dsimp only
    rw [el, ek]
    exact e2
  · dsimp only
    rw [el, ef]
    exact M.fsub _ (by simp)
  · dsimp only
    rw [el]
    exact (by repeat (first | exact trivial | refine ⟨rfl, ?_⟩))
  · dsimp only
    rw [el]
    omega
end Go.Proofs.YtejbljopighenaaDoor
namespace Go.Proofs.YtejbljopighenaaDoor
open Go.RowKit
section
variable {E : Env} {d : Option Nat} {ty : TypeId} {p : String} {af : Array Edge} {g : Option (Nat × Bool)} {x y : Operand} {u : TypeId} {k : Value → Prop}
set_option maxRecDepth 100000 in
theorem p_vne {a b : Val} (hx : val E x = vv_ a) (hy : val E y = vv_ b) (h1 : a = b → k (.bool false)) (h2 : ¬ a = b → k (.bool true)) : VPure Tryd.prog E { dst := d, op := .binOp .neq 61 x y u, type := ty, pos := p, after := af, guard := g } k := by
  refine pp (v := .bool (!decide (a = b))) (fun w => ?_) ?_
  · have hv := run_veq a b w
    have hg := run_eqGuard_agg (P := Tryd.prog) w .neq 61 x y (vc a).toArray (vc b).toArray eg_val
    have hb := run_neq_struct (P := Tryd.prog) w 61 (vc a).toArray (vc b).toArray
    unfold vv_ at hx hy hv
    simp only [execOp, hx, hy, Sem.run_bind, hg, Result.andThen_ok, hb, hv, Sem.run_pure]
    congr 4
    rw [Bool.eq_iff_iff]; simp [Val.ext_iff']
  · by_cases h : a = b
    · rw [decide_eq_true h]; exact h1 h
    · rw [decide_eq_false h]; exact h2 h
end
section
variable {w W : World} {gs : List (Option Nat)} {L : Lc} {R : List Row} {fs : List Fact}
theorem dRow_flat (l : List Val) : dRow l = .sl 3 l.length (l.flatMap fun v => (vc v).map D.v) := by unfold dRow vcs; rw [List.map_flatMap]
theorem dRows_flat (ll : List (List Val)) : dRows ll = .sl 1 ll.length (ll.flatMap fun l => [dRow l]) := by unfold dRows; rw [List.map_eq_flatMap]
/-- A value of a row. -/
theorem St.valu (M : St w gs W L R fs) {l : List Val} {A : Option Addr} {n c i : Nat} {v : Val} (h : RdD W (Fd W (own L R gs)) (dRow l) (.slice A n c)) (hi : l[i]? = some v) :
    ∃ b off, A = some ⟨b, off, none⟩ ∧ St w gs W L R (.loc ((⟨b, off, none⟩ : Addr).add (i * 3)) (vc v) :: fs) := by
  rw [dRow_flat] at h
  obtain ⟨b, off, es, e, hF, hes, hel, hc⟩ := RdD.eltO (fun v => (vc v).map D.v) 3 (fun _ => rfl) h hi
  have := hes.vals
  subst this
  exact ⟨b, off, e, M.addC (by rw [block_of_add]; exact hF) hc⟩
theorem slos : slOf Tryd.prog 24 = some (55, 3) := by kernel_rfl
/-- A result, an outcome of a row of these. -/
theorem St.resE (M : St w gs W L R fs) {l : List Res} {A : Option Addr} {n c i : Nat} {r : Res} (h : RdD W (Fd W (own L R gs)) (dRs l) (.slice A n c)) (hi : l[i]? = some r) :
    ∃ b off es, A = some ⟨b, off, none⟩ ∧ St w gs W L R (.loc ((⟨b, off, none⟩ : Addr).add (i * 2)) es :: .dat false (dRes r) es :: fs) := by
  obtain ⟨b, off, es, e, hF, hes, hel, hc⟩ := RdD.eltO dRes 2 dRes_len h hi
  exact ⟨b, off, es, e, (M.addL hes).addC (by rw [block_of_add]; exact hF) hc⟩
theorem St.oute (M : St w gs W L R fs) {l : List Out} {A : Option Addr} {n c i : Nat} {o : Out} (h : RdD W (Fd W (own L R gs)) (dOuts l) (.slice A n c)) (hi : l[i]? = some o) :
    ∃ b off es, A = some ⟨b, off, none⟩ ∧ St w gs W L R (.loc ((⟨b, off, none⟩ : Addr).add (i * 3)) es :: .dat false (dOut o) es :: fs) := by
  obtain ⟨b, off, es, e, hF, hes, hel, hc⟩ := RdD.eltO dOut 3 dOut_len h hi
  exact ⟨b, off, es, e, (M.addL hes).addC (by rw [block_of_add]; exact hF) hc⟩
/-- A row of rows. -/
theorem St.rowe (M : St w gs W L R fs) {ll : List (List Val)} {A : Option Addr} {n c i : Nat} {l : List Val} (h : RdD W (Fd W (own L R gs)) (dRows ll) (.slice A n c)) (hi : ll[i]? = some l) :
    ∃ b off A' c', A = some ⟨b, off, none⟩ ∧ St w gs W L R (.loc ((⟨b, off, none⟩ : Addr).add (i * 1)) [.slice A' l.length c'] :: .dat false [dRow l] [.slice A' l.length c'] :: fs) := by
  rw [dRows_flat] at h
  obtain ⟨b, off, es, e, hF, hes, hel, hc⟩ := RdD.eltO (fun l => [dRow l]) 1 (fun _ => rfl) h hi
  obtain ⟨u, us, rfl, h1, h2⟩ := hes.uncons
  rw [h2.isnil] at hc
  obtain ⟨A', c', e2, -⟩ := h1.open_
  subst e2
  exact ⟨b, off, A', c', e, (M.addD h1).addC (by rw [block_of_add]; exact hF) hc⟩
end
theorem is_xsr : isFn Tryd.prog 60 = true := by kernel_rfl
theorem take_ext {α : Type} {a b : List α} {i : Nat} {x y : α} (h : a.take i = b.take i) (ha : a[i]? = some x) (hb : b[i]? = some y) (he : x = y) : a.take (i + 1) = b.take (i + 1) := by rw [List.take_add_one, List.take_add_one, h, ha, hb, he]
theorem take_ne {α : Type} {a b : List α} {i : Nat} {x y : α} (ha : a[i]? = some x) (hb : b[i]? = some y) (he : x ≠ y) : a ≠ b := by rintro rfl; rw [ha] at hb; injection hb with hb; exact he hb
theorem agg_rowsl : aggOf Tryd.prog 59 = some (false, 1) := by kernel_rfl
set_option maxRecDepth 100000 in
set_option maxHeartbeats 2000000 in
theorem xsr_any (a b : List Val) (gs : List (Option Nat)) (w : World) (A B : Option Addr) (n c m d : Nat) (ha : RdD w (Fd w gs) (dRow a) (.slice A n c)) (hb : RdD w (Fd w gs) (dRow b) (.slice B m d)) (hgs : ∀ b, some b ∈ gs → b < w.heap.size) (hl : a.length ≤ 1000000000) :
    Calls Tryd.prog 60 #[.slice A n c, .slice B m d] w fun e w' => ∃ q : Bool, e = .returned (.bool q) ∧ (q = true ↔ a = b) ∧ Below w.heap.size w w' := by
  refine calls_ev (args := [.slice A n c, .slice B m d]) mixed Tryd.func60 rfl (by kernel_rfl) ?_
  have en : n = a.length := ha.slen
  have em : m = b.length := hb.slen
  subst en; subst em
  have M := ((St.start hgs).addD hb).addD ha
  clear ha hb
  refine p_len slv rfl ?_
  refine p_len slv rfl ?_
  refine p_ne rfl rfl (fun h => ?_) (fun h => ?_)
  rotate_left
  · exact ⟨false, rfl, ⟨(fun h => by cases h), fun e => absurd (by rw [e]) h⟩, M.below⟩
  have hlen : a.length = b.length := by have h : (a.length : Int) = (b.length : Int) := h; omega
  refine p_len slv rfl ?_
  refine lp Nat (fun i W => i ≤ a.length ∧ a.take i = b.take i ∧ St w gs W [] [] [.dat false [dRow a] [.slice A a.length c], .dat false [dRow b] [.slice B b.length d]]) (fun i => [(0, .slice A a.length c), (1, .slice B b.length d), (12, .int .i64 (a.length : Nat)), (13, .int .i64 i)]) (fun i => a.length - i) 0 ⟨Nat.zero_le _, rfl, M⟩ (by repeat (first | exact trivial | refine ⟨rfl, ?_⟩)) ?_
  clear M
  rintro i E W ⟨hi, ht, M⟩
  refine p_lt rfl rfl (fun hlt => ?_) (fun hge => ?_)
  rotate_left
  · have hi : i = a.length := by have h : ¬ (i : Int) < (a.length : Int) := hge; omega
    subst hi
    rw [List.take_of_length_le (Nat.le_refl _), List.take_of_length_le (by omega)] at ht
    exact ⟨true, rfl, ⟨fun _ => ht, fun _ => rfl⟩, M.below⟩
  have hlt : i < a.length := by have h : (i : Int) < (a.length : Int) := hlt; omega
  obtain ⟨u, hu⟩ : ∃ u, a[i]? = some u := ⟨_, List.getElem?_eq_getElem hlt⟩
  obtain ⟨v, hv⟩ : ∃ v, b[i]? = some v := ⟨_, List.getElem?_eq_getElem (by omega)⟩
  obtain ⟨b1, o1, rfl, M'⟩ := M.valu (M.d1 0 rfl) hu
  replace M := M'; clear M'
  obtain ⟨b2, o2, rfl, M'⟩ := M.valu (M.d1 2 rfl) hv
  replace M := M'.drew; clear M'
  refine drT (Kp w gs [] [.loc ((⟨b1, o1, none⟩ : Addr).add (i * 3)) (vc u), .loc ((⟨b2, o2, none⟩ : Addr).add (i * 3)) (vc v)]) (.take 0 (.take 1 (.take 2 (.take 3 (.take 4 (.take 5 (.take 6 (.take 7 (.take 8 (.nil)))))))))) (by kernel_rfl) (M.kp (by simp) (by simp)) ?_
  refine p_at (i := i) slv rfl rfl rfl hlt ?_
  refine t_loadN (vc u) agg_val rfl rfl (fun W K => K.lc 0 rfl) ?_
  refine p_at (i := i) slv rfl rfl rfl (by omega) ?_
  refine t_loadN (vc v) agg_val rfl rfl (fun W K => K.lc 1 rfl) ?_
  refine p_vne (a := u) (b := v) rfl rfl (fun he => ?_) (fun he => ?_)
  rotate_left
  · exact ⟨false, rfl, ⟨(fun h => by cases h), fun e => absurd e (take_ne hu hv he)⟩, M.below⟩
  refine p_addN (b := 1) rfl rfl (by omega) ?_
  exact ⟨i + 1, ⟨by omega, take_ext ht hu hv he, M.fsub _ (by simp)⟩, (by repeat (first | exact trivial | refine ⟨rfl, ?_⟩)), by omega⟩
theorem Res.ext' {a b : Res} (h1 : a.rows = b.rows) (h2 : a.n = b.n) : a = b := by cases a; cases b; simp only at h1 h2; rw [h1, h2]
theorem Out.ext' {a b : Out} (h1 : a.e = b.e) (h2 : a.at_ = b.at_) (h3 : a.l = b.l) : a = b := by cases a; cases b; simp only at h1 h2 h3; rw [h1, h2, h3]
theorem is_xSame : isFn Tryd.prog 43 = true := by kernel_rfl
theorem is_r19same : isFn Tryd.prog 69 = true := by kernel_rfl
theorem is_r20same : isFn Tryd.prog 59 = true := by kernel_rfl
theorem is_r20all : isFn Tryd.prog 41 = true := by kernel_rfl
theorem is_samerows : isFn Tryd.prog 78 = true := by kernel_rfl
/-- Not too many. -/
def LenO (o : Out) : Prop := o.l.length ≤ 1000000000 ∧ ∀ r ∈ o.l, r.rows.length ≤ 1000000000 ∧ ∀ l ∈ r.rows, l.length ≤ 1000000000
set_option maxRecDepth 100000 in
set_option maxHeartbeats 4000000 in
theorem xSame_any (a b : Out) (gs : List (Option Nat)) (w : World) (ca cb : List Value) (ha : RdL w (Fd w gs) (dOut a) ca) (hb : RdL w (Fd w gs) (dOut b) cb) (hgs : ∀ b, some b ∈ gs → b < w.heap.size) (hl : LenO a) :
    Calls Tryd.prog 43 #[.agg ca.toArray, .agg cb.toArray] w fun e w' => ∃ q : Bool, e = .returned (.bool q) ∧ (q = true ↔ a = b) ∧ Below w.heap.size w w' := by
  refine calls_ev (args := [.agg ca.toArray, .agg cb.toArray]) mixed Tryd.func43 rfl (by kernel_rfl) ?_
  obtain ⟨A, c, rfl, h1⟩ := ha.out
  obtain ⟨B, d, rfl, h2⟩ := hb.out
  have M := ((St.start hgs).addD h2).addD h1
  clear h1 h2 ha hb
  refine s_box (outcs a A c) M rfl ?_
  clear M
  rintro g2 W M
  refine s_box (outcs b B d) M rfl ?_
  clear M
  rintro g3 W M
  refine p_fld fO0 rfl ?_
  refine v_load agg_i rfl ((M.B 1 rfl).at_ rfl) ?_
  refine p_fld fO0 rfl ?_
  refine v_load agg_i rfl ((M.B 0 rfl).at_ rfl) ?_
  refine p_ne rfl rfl (fun e1 => ?_) (fun e1 => ?_)
  rotate_left
  · exact ⟨false, rfl, ⟨(fun h => by cases h), fun e => absurd (by rw [e]) e1⟩, M.below⟩
  refine p_fld fO1 rfl ?_
  refine v_load agg_i rfl ((M.B 1 rfl).at_ rfl) ?_
  refine p_fld fO1 rfl ?_
  refine v_load agg_i rfl ((M.B 0 rfl).at_ rfl) ?_
  refine p_ne rfl rfl (fun e2 => ?_) (fun e2 => ?_)
  rotate_left
  · exact ⟨false, rfl, ⟨(fun h => by cases h), fun e => absurd (by rw [e]) e2⟩, M.below⟩
  refine p_fld fO2 rfl ?_
  refine v_load agg_rs rfl ((M.B 1 rfl).at_ rfl) ?_
  refine p_len slrs rfl ?_
  refine p_fld fO2 rfl ?_
  refine v_load agg_rs rfl ((M.B 0 rfl).at_ rfl) ?_
  refine p_len slrs rfl ?_
  refine p_ne rfl rfl (fun e3 => ?_) (fun e3 => ?_)
  rotate_left
  · exact ⟨false, rfl, ⟨(fun h => by cases h), fun e => absurd (by rw [e]) e3⟩, M.below⟩
  have e1 : a.e = b.e := e1
  have e2 : a.at_ = b.at_ := e2
  have hlen : a.l.length = b.l.length := by have h : (a.l.length : Int) = (b.l.length : Int) := e3; omega
  obtain ⟨hl1, hl2⟩ := hl
  refine p_fld fO2 rfl ?_
  refine v_load agg_rs rfl ((M.B 1 rfl).at_ rfl) ?_
  refine p_len slrs rfl ?_
  refine lp Nat (fun i W => i ≤ a.l.length ∧ a.l.take i = b.l.take i ∧ St w gs W [(g3, 55, outcs b B d), (g2, 55, outcs a A c)] [] [.dat false [dRs a.l] [.slice A a.l.length c], .dat false [dRs b.l] [.slice B b.l.length d]]) (fun i => [(2, .pointer (some ⟨g2, 0, none⟩)), (3, .pointer (some ⟨g3, 0, none⟩)), (31, .slice A a.l.length c), (32, .int .i64 (a.l.length : Nat)), (33, .int .i64 i)]) (fun i => a.l.length - i) 0 ⟨Nat.zero_le _, rfl, M.fsub _ (by simp)⟩ (by repeat (first | exact trivial | refine ⟨rfl, ?_⟩)) ?_
  clear M
  rintro i E W ⟨hi, ht, M⟩
  refine p_lt rfl rfl (fun hlt => ?_) (fun hge => ?_)
  rotate_left
  · have hi : i = a.l.length := by have h : ¬ (i : Int) < (a.l.length : Int) := hge; omega
    subst hi
    rw [List.take_of_length_le (Nat.le_refl _), List.take_of_length_le (by omega)] at ht
    exact ⟨true, rfl, ⟨fun _ => Out.ext' e1 e2 ht, fun _ => rfl⟩, M.below⟩
  have hlt : i < a.l.length := by have h : (i : Int) < (a.l.length : Int) := hlt; omega
  obtain ⟨u, hu⟩ : ∃ u, a.l[i]? = some u := ⟨_, List.getElem?_eq_getElem hlt⟩
  obtain ⟨v, hv⟩ : ∃ v, b.l[i]? = some v := ⟨_, List.getElem?_eq_getElem (by omega)⟩
  have hlu := hl2 u (List.mem_of_getElem? hu)
  obtain ⟨b1, o1, Au, cu, rfl, M'⟩ := M.res (M.d1 0 rfl) hu
  replace M := M'; clear M'
  obtain ⟨b2, o2, Bv, dv, rfl, M'⟩ := M.res (M.d1 3 rfl) hv
  replace M := M'; clear M'
  refine p_at (i := i) slrs rfl rfl rfl hlt ?_
  refine v_loadN (rescs u Au cu) agg_res rfl rfl (M.lc 2 rfl) ?_
  refine s_alloc (zRes) M al_res ?_
  clear M
  rintro g6 W M
  refine s_storeA 0 (rescs u Au cu) M rfl sz_res rfl rfl rfl (all1 rfl) rfl ?_
  clear M; rintro W M
  dsimp only [setL] at M
  refine p_fld fO2 rfl ?_
  refine v_load agg_rs rfl ((M.B 1 rfl).at_ rfl) ?_
  refine p_at (i := i) slrs rfl rfl rfl (by omega) ?_
  refine v_loadN (rescs v Bv dv) agg_res rfl rfl (M.lc 0 rfl) ?_
  refine s_alloc (zRes) M al_res ?_
  clear M
  rintro g7 W M
  refine s_storeA 0 (rescs v Bv dv) M rfl sz_res rfl rfl rfl (all1 rfl) rfl ?_
  clear M; rintro W M
  dsimp only [setL] at M
  refine p_fld fR1 rfl ?_
  refine v_load agg_i rfl ((M.B 1 rfl).at_ rfl) ?_
  refine p_fld fR1 rfl ?_
  refine v_load agg_i rfl ((M.B 0 rfl).at_ rfl) ?_
  refine p_ne rfl rfl (fun e4 => ?_) (fun e4 => ?_)
  rotate_left
  · exact ⟨false, rfl, ⟨(fun h => by cases h), fun e => absurd (congrArg Out.l e) (take_ne hu hv (fun e => e4 (by rw [e])))⟩, M.below⟩
  refine p_fld fR0 rfl ?_
  refine v_load agg_vvs rfl ((M.B 1 rfl).at_ rfl) ?_
  refine p_len slvv rfl ?_
  refine p_fld fR0 rfl ?_
  refine v_load agg_vvs rfl ((M.B 0 rfl).at_ rfl) ?_
  refine p_len slvv rfl ?_
  refine p_ne rfl rfl (fun e5 => ?_) (fun e5 => ?_)
  rotate_left
  · exact ⟨false, rfl, ⟨(fun h => by cases h), fun e => absurd (congrArg Out.l e) (take_ne hu hv (fun e => e5 (by rw [e])))⟩, M.below⟩
  have e4 : u.n = v.n := e4
  have hlen2 : u.rows.length = v.rows.length := by have h : (u.rows.length : Int) = (v.rows.length : Int) := e5; omega
  refine p_fld fR0 rfl ?_
  refine v_load agg_vvs rfl ((M.B 1 rfl).at_ rfl) ?_
  refine p_len slvv rfl ?_
  refine lp Nat (fun k W => k ≤ u.rows.length ∧ u.rows.take k = v.rows.take k ∧ St w gs W [(g7, 58, rescs v Bv dv), (g6, 58, rescs u Au cu), (g3, 55, outcs b (some ⟨b2, o2, none⟩) d), (g2, 55, outcs a (some ⟨b1, o1, none⟩) c)] [] [.dat false [dRows u.rows] [.slice Au u.rows.length cu], .dat false [dRows v.rows] [.slice Bv v.rows.length dv], .dat false [dRs a.l] [.slice (some ⟨b1, o1, none⟩) a.l.length c], .dat false [dRs b.l] [.slice (some ⟨b2, o2, none⟩) b.l.length d]])
    (fun k => [(2, .pointer (some ⟨g2, 0, none⟩)), (3, .pointer (some ⟨g3, 0, none⟩)), (31, .slice (some ⟨b1, o1, none⟩) a.l.length c), (32, .int .i64 (a.l.length : Nat)), (33, .int .i64 i), (6, .pointer (some ⟨g6, 0, none⟩)), (7, .pointer (some ⟨g7, 0, none⟩)), (58, .slice Au u.rows.length cu), (59, .int .i64 (u.rows.length : Nat)), (60, .int .i64 k)]) (fun k => u.rows.length - k) 0 ⟨Nat.zero_le _, rfl, M.fsub _ (by simp)⟩ (by repeat (first | exact trivial | refine ⟨rfl, ?_⟩)) ?_
  clear M
  rintro k E W ⟨hk, htk, M⟩
  refine p_lt rfl rfl (fun hlt2 => ?_) (fun hge => ?_)
  rotate_left
  · have hk : k = u.rows.length := by have h : ¬ (k : Int) < (u.rows.length : Int) := hge; omega
    subst hk
    rw [List.take_of_length_le (Nat.le_refl _), List.take_of_length_le (by omega)] at htk
    refine p_addN (b := 1) rfl rfl (by omega) ?_
    exact ⟨i + 1, ⟨by omega, take_ext ht hu hv (Res.ext' htk e4), M.dropL.dropL.fsub _ (by simp)⟩, (by repeat (first | exact trivial | refine ⟨rfl, ?_⟩)), by omega⟩
  have hlt2 : k < u.rows.length := by have h : (k : Int) < (u.rows.length : Int) := hlt2; omega
  obtain ⟨x, hx⟩ : ∃ x, u.rows[k]? = some x := ⟨_, List.getElem?_eq_getElem hlt2⟩
  obtain ⟨y, hy⟩ : ∃ y, v.rows[k]? = some y := ⟨_, List.getElem?_eq_getElem (by omega)⟩
  obtain ⟨b3, o3, Ax, cx, rfl, M'⟩ := M.rowe (M.d1 0 rfl) hx
  replace M := M'; clear M'
  obtain ⟨b4, o4, Ay, cy, rfl, M'⟩ := M.rowe (M.d1 3 rfl) hy
  replace M := M'.drew; clear M'
  refine drT (Kp w gs [(g6, 58, rescs u (some ⟨b3, o3, none⟩) cu), (g7, 58, rescs v (some ⟨b4, o4, none⟩) dv)] [.loc ((⟨b3, o3, none⟩ : Addr).add (k * 1)) [.slice Ax x.length cx], .loc ((⟨b4, o4, none⟩ : Addr).add (k * 1)) [.slice Ay y.length cy]]) (.take 0 (.take 1 (.take 2 (.take 3 (.take 4 (.take 5 (.take 6 (.take 7 (.take 8 (.take 9 (.one 10 (.take 11 (.nil))))))))))))) (by kernel_rfl) (M.kp (by simp) (by simp)) ?_
  refine p_fld fR0 rfl ?_
  refine t_load agg_vvs rfl (fun W K => (K.B 0 rfl).at_ rfl) ?_
  refine p_at (i := k) slvv rfl rfl rfl hlt2 ?_
  refine t_load agg_rowsl rfl (fun W K => K.lc 0 rfl 0 _ rfl) ?_
  refine p_fld fR0 rfl ?_
  refine t_load agg_vvs rfl (fun W K => (K.B 1 rfl).at_ rfl) ?_
  refine p_at (i := k) slvv rfl rfl rfl (by omega) ?_
  refine t_load agg_rowsl rfl (fun W K => K.lc 1 rfl 0 _ rfl) ?_
  refine cc is_xsr (xsr_any x y _ _ _ _ _ _ _ _ (M.d1 3 rfl) (M.d1 1 rfl) M.olt (hlu.2 x (List.mem_of_getElem? hx))) ?_
  rintro e W ⟨q, rfl, hq, hb⟩
  replace M := M.call hb
  clear hb
  refine ⟨_, rfl, (M.kp (by simp) (by simp)), ?_⟩
  refine p_not rfl ?_
  cases q with
  | false =>
    refine ⟨false, rfl, ⟨(fun h => by cases h), fun e => absurd (congrArg Out.l e) (take_ne hu hv (fun e => ?_))⟩, M.below⟩
    exact absurd (congrArg Res.rows e) (take_ne hx hy (fun e => by have := hq.2 e; cases this))
  | true =>
  have hxy := hq.1 rfl
  refine p_addN (b := 1) rfl rfl (by omega) ?_
  exact ⟨k + 1, ⟨by omega, take_ext htk hx hy hxy, M.fsub _ (by simp)⟩, (by repeat (first | exact trivial | refine ⟨rfl, ?_⟩)), by omega⟩
set_option maxRecDepth 100000 in
set_option maxHeartbeats 4000000 in
theorem r19same_any (a b : Res) (gs : List (Option Nat)) (w : World) (ca cb : List Value) (ha : RdL w (Fd w gs) (dRes a) ca) (hb : RdL w (Fd w gs) (dRes b) cb) (hgs : ∀ b, some b ∈ gs → b < w.heap.size) (hl : a.rows.length ≤ 1000000000 ∧ (∀ l ∈ a.rows, l.length ≤ 1000000000) ∧ ∀ l ∈ b.rows, l.length ≤ 1000000000) :
    Calls Tryd.prog 69 #[.agg ca.toArray, .agg cb.toArray] w fun e w' => ∃ q : Bool, e = .returned (.bool q) ∧ (q = true ↔ a = b) ∧ Below w.heap.size w w' := by
  refine calls_ev (args := [.agg ca.toArray, .agg cb.toArray]) mixed Tryd.func69 rfl (by kernel_rfl) ?_
  obtain ⟨A, c, rfl, h1⟩ := ha.res
  obtain ⟨B, d, rfl, h2⟩ := hb.res
  have M := ((St.start hgs).addD h2).addD h1
  clear h1 h2 ha hb
  refine s_box (rescs a A c) M rfl ?_
  clear M
  rintro g2 W M
  refine s_box (rescs b B d) M rfl ?_
  clear M
  rintro g3 W M
  refine p_fld fR1 rfl ?_
  refine v_load agg_i rfl ((M.B 1 rfl).at_ rfl) ?_
  refine p_fld fR1 rfl ?_
  refine v_load agg_i rfl ((M.B 0 rfl).at_ rfl) ?_
  refine p_eq rfl rfl (fun e1 => ?_) (fun e1 => ?_)
  rotate_left
  · exact ⟨false, rfl, ⟨(fun h => by cases h), fun e => absurd (by rw [e]) e1⟩, M.below⟩
  have e1 : a.n = b.n := e1
  refine p_fld fR0 rfl ?_
  refine v_load agg_vvs rfl ((M.B 1 rfl).at_ rfl) ?_
  refine p_fld fR0 rfl ?_
  refine v_load agg_vvs rfl ((M.B 0 rfl).at_ rfl) ?_
  have hrv1 := (RdD.rowsV (M.d1 0 rfl) Fd.lt).2.2
  have hrv2 := (RdD.rowsV (M.d1 1 rfl) Fd.lt).2.2
  refine cc is_samerows (sameRows_any _ _ _ _ _ _ a.rows b.rows _ hrv1 hrv2 hl.1 hl.2.1 hl.2.2) ?_
  rintro e W ⟨q, rfl, hq, hb⟩
  refine ⟨_, rfl, ?_⟩
  refine ⟨q, rfl, ⟨fun h => ?_, fun h => ?_⟩, M.below.trans (hb.mono M.size)⟩
  · rw [h] at hq
    exact Res.ext' (of_decide_eq_true hq.symm) e1
  · rw [hq, h]; exact decide_eq_true rfl
set_option maxRecDepth 100000 in
set_option maxHeartbeats 4000000 in
theorem r20same_any (a b : Out) (gs : List (Option Nat)) (w : World) (ca cb : List Value) (ha : RdL w (Fd w gs) (dOut a) ca) (hb : RdL w (Fd w gs) (dOut b) cb) (hgs : ∀ b, some b ∈ gs → b < w.heap.size) (hla : LenO a) (hlb : LenO b) :
    Calls Tryd.prog 59 #[.agg ca.toArray, .agg cb.toArray] w fun e w' => ∃ q : Bool, e = .returned (.bool q) ∧ (q = true ↔ a = b) ∧ Below w.heap.size w w' := by
  refine calls_ev (args := [.agg ca.toArray, .agg cb.toArray]) mixed Tryd.func59 rfl (by kernel_rfl) ?_
  obtain ⟨A, c, rfl, h1⟩ := ha.out
  obtain ⟨B, d, rfl, h2⟩ := hb.out
  have M := ((St.start hgs).addD h2).addD h1
  clear h1 h2 ha hb
  refine s_box (outcs a A c) M rfl ?_
  clear M
  rintro g2 W M
  refine s_box (outcs b B d) M rfl ?_
  clear M
  rintro g3 W M
  refine p_fld fO0 rfl ?_
  refine v_load agg_i rfl ((M.B 1 rfl).at_ rfl) ?_
  refine p_fld fO0 rfl ?_
  refine v_load agg_i rfl ((M.B 0 rfl).at_ rfl) ?_
  refine p_ne rfl rfl (fun e1 => ?_) (fun e1 => ?_)
  rotate_left
  · exact ⟨false, rfl, ⟨(fun h => by cases h), fun e => absurd (by rw [e]) e1⟩, M.below⟩
  refine p_fld fO1 rfl ?_
  refine v_load agg_i rfl ((M.B 1 rfl).at_ rfl) ?_
  refine p_fld fO1 rfl ?_
  refine v_load agg_i rfl ((M.B 0 rfl).at_ rfl) ?_
  refine p_ne rfl rfl (fun e2 => ?_) (fun e2 => ?_)
  rotate_left
  · exact ⟨false, rfl, ⟨(fun h => by cases h), fun e => absurd (by rw [e]) e2⟩, M.below⟩
  refine p_fld fO2 rfl ?_
  refine v_load agg_rs rfl ((M.B 1 rfl).at_ rfl) ?_
  refine p_len slrs rfl ?_
  refine p_fld fO2 rfl ?_
  refine v_load agg_rs rfl ((M.B 0 rfl).at_ rfl) ?_
  refine p_len slrs rfl ?_
  refine p_ne rfl rfl (fun e3 => ?_) (fun e3 => ?_)
  rotate_left
  · exact ⟨false, rfl, ⟨(fun h => by cases h), fun e => absurd (by rw [e]) e3⟩, M.below⟩
  have e1 : a.e = b.e := e1
  have e2 : a.at_ = b.at_ := e2
  have hlen : a.l.length = b.l.length := by have h : (a.l.length : Int) = (b.l.length : Int) := e3; omega
  obtain ⟨hl1, hl2⟩ := hla
  refine lp Nat (fun i W => i ≤ a.l.length ∧ a.l.take i = b.l.take i ∧ St w gs W [(g3, 55, outcs b B d), (g2, 55, outcs a A c)] [] [.dat false [dRs a.l] [.slice A a.l.length c], .dat false [dRs b.l] [.slice B b.l.length d]]) (fun i => [(2, .pointer (some ⟨g2, 0, none⟩)), (3, .pointer (some ⟨g3, 0, none⟩)), (5, .int .i64 i)]) (fun i => a.l.length - i) 0 ⟨Nat.zero_le _, rfl, M.fsub _ (by simp)⟩ (by repeat (first | exact trivial | refine ⟨rfl, ?_⟩)) ?_
  clear M
  rintro i E W ⟨hi, ht, M⟩
  refine p_fld fO2 rfl ?_
  refine v_load agg_rs rfl ((M.B 1 rfl).at_ rfl) ?_
  refine p_len slrs rfl ?_
  refine p_lt rfl rfl (fun hlt => ?_) (fun hge => ?_)
  rotate_left
  · have hi : i = a.l.length := by have h : ¬ (i : Int) < (a.l.length : Int) := hge; omega
    subst hi
    rw [List.take_of_length_le (Nat.le_refl _), List.take_of_length_le (by omega)] at ht
    exact ⟨true, rfl, ⟨fun _ => Out.ext' e1 e2 ht, fun _ => rfl⟩, M.below⟩
  have hlt : i < a.l.length := by have h : (i : Int) < (a.l.length : Int) := hlt; omega
  obtain ⟨u, hu⟩ : ∃ u, a.l[i]? = some u := ⟨_, List.getElem?_eq_getElem hlt⟩
  obtain ⟨v, hv⟩ : ∃ v, b.l[i]? = some v := ⟨_, List.getElem?_eq_getElem (by omega)⟩
  have hlu := hl2 u (List.mem_of_getElem? hu)
  have hlv := hlb.2 v (List.mem_of_getElem? hv)
  obtain ⟨b1, o1, es1, rfl, M'⟩ := M.resE (M.d1 0 rfl) hu
  replace M := M'; clear M'
  obtain ⟨b2, o2, es2, rfl, M'⟩ := M.resE (M.d1 3 rfl) hv
  replace M := M'.drew; clear M'
  have hc1 := (M.da 3 rfl).len
  have hc2 := (M.da 1 rfl).len
  rw [dRes_len] at hc1 hc2
  refine drT (Kp w gs [(g2, 55, outcs a (some ⟨b1, o1, none⟩) c), (g3, 55, outcs b (some ⟨b2, o2, none⟩) d)] [.loc ((⟨b1, o1, none⟩ : Addr).add (i * 2)) es1, .loc ((⟨b2, o2, none⟩ : Addr).add (i * 2)) es2]) (.take 0 (.take 1 (.take 2 (.take 3 (.take 4 (.take 5 (.take 6 (.take 7 (.take 8 (.take 9 (.one 10 (.take 11 (.nil))))))))))))) (by kernel_rfl) (M.kp (by simp) (by simp)) ?_
  refine p_fld fO2 rfl ?_
  refine t_load agg_rs rfl (fun W K => (K.B 0 rfl).at_ rfl) ?_
  refine p_at (i := i) slrs rfl rfl rfl hlt ?_
  refine t_loadN es1 agg_res rfl hc1 (fun W K => K.lc 0 rfl) ?_
  refine p_fld fO2 rfl ?_
  refine t_load agg_rs rfl (fun W K => (K.B 1 rfl).at_ rfl) ?_
  refine p_at (i := i) slrs rfl rfl rfl (by omega) ?_
  refine t_loadN es2 agg_res rfl hc2 (fun W K => K.lc 1 rfl) ?_
  refine cc is_r19same (r19same_any u v _ _ _ _ (M.da 3 rfl) (M.da 1 rfl) M.olt ⟨hlu.1, hlu.2, hlv.2⟩) ?_
  rintro e W ⟨q, rfl, hq, hb⟩
  replace M := M.call hb
  clear hb
  refine ⟨_, rfl, (M.kp (by simp) (by simp)), ?_⟩
  refine p_not rfl ?_
  cases q with
  | false =>
    exact ⟨false, rfl, ⟨(fun h => by cases h), fun e => absurd (congrArg Out.l e) (take_ne hu hv (fun e => by have := hq.2 e; cases this))⟩, M.below⟩
  | true =>
  refine p_addN (b := 1) rfl rfl (by omega) ?_
  exact ⟨i + 1, ⟨by omega, take_ext ht hu hv (hq.1 rfl), M.fsub _ (by simp)⟩, (by repeat (first | exact trivial | refine ⟨rfl, ?_⟩)), by omega⟩
set_option maxRecDepth 100000 in
set_option maxHeartbeats 4000000 in
theorem r20all_any (a b : List Out) (gs : List (Option Nat)) (w : World) (A B : Option Addr) (n c m d : Nat) (ha : RdD w (Fd w gs) (dOuts a) (.slice A n c)) (hb : RdD w (Fd w gs) (dOuts b) (.slice B m d)) (hgs : ∀ b, some b ∈ gs → b < w.heap.size) (hl : a.length ≤ 1000000000) (hla : ∀ o ∈ a, LenO o) (hlb : ∀ o ∈ b, LenO o) :
    Calls Tryd.prog 41 #[.slice A n c, .slice B m d] w fun e w' => ∃ q : Bool, e = .returned (.bool q) ∧ (q = true ↔ a = b) ∧ Below w.heap.size w w' := by
  refine calls_ev (args := [.slice A n c, .slice B m d]) mixed Tryd.func41 rfl (by kernel_rfl) ?_
  have en : n = a.length := ha.slen
  have em : m = b.length := hb.slen
  subst en; subst em
  have M := ((St.start hgs).addD hb).addD ha
  clear ha hb
  refine p_len slos rfl ?_
  refine p_len slos rfl ?_
  refine p_ne rfl rfl (fun h => ?_) (fun h => ?_)
  rotate_left
  · exact ⟨false, rfl, ⟨(fun h => by cases h), fun e => absurd (by rw [e]) h⟩, M.below⟩
  have hlen : a.length = b.length := by have h : (a.length : Int) = (b.length : Int) := h; omega
  refine lp Nat (fun i W => i ≤ a.length ∧ a.take i = b.take i ∧ St w gs W [] [] [.dat false [dOuts a] [.slice A a.length c], .dat false [dOuts b] [.slice B b.length d]]) (fun i => [(0, .slice A a.length c), (1, .slice B b.length d), (5, .int .i64 i)]) (fun i => a.length - i) 0 ⟨Nat.zero_le _, rfl, M⟩ (by repeat (first | exact trivial | refine ⟨rfl, ?_⟩)) ?_
  clear M
  rintro i E W ⟨hi, ht, M⟩
  refine p_len slos rfl ?_
  refine p_lt rfl rfl (fun hlt => ?_) (fun hge => ?_)
  rotate_left
  · have hi : i = a.length := by have h : ¬ (i : Int) < (a.length : Int) := hge; omega
    subst hi
    rw [List.take_of_length_le (Nat.le_refl _), List.take_of_length_le (by omega)] at ht
    exact ⟨true, rfl, ⟨fun _ => ht, fun _ => rfl⟩, M.below⟩
  have hlt : i < a.length := by have h : (i : Int) < (a.length : Int) := hlt; omega
  obtain ⟨u, hu⟩ : ∃ u, a[i]? = some u := ⟨_, List.getElem?_eq_getElem hlt⟩
  obtain ⟨v, hv⟩ : ∃ v, b[i]? = some v := ⟨_, List.getElem?_eq_getElem (by omega)⟩
  obtain ⟨b1, o1, es1, rfl, M'⟩ := M.oute (M.d1 0 rfl) hu
  replace M := M'; clear M'
  obtain ⟨b2, o2, es2, rfl, M'⟩ := M.oute (M.d1 3 rfl) hv
  replace M := M'.drew; clear M'
  have hc1 := (M.da 3 rfl).len
  have hc2 := (M.da 1 rfl).len
  rw [dOut_len] at hc1 hc2
  refine drT (Kp w gs [] [.loc ((⟨b1, o1, none⟩ : Addr).add (i * 3)) es1, .loc ((⟨b2, o2, none⟩ : Addr).add (i * 3)) es2]) (.take 0 (.take 1 (.take 2 (.take 3 (.take 4 (.take 5 (.take 6 (.take 7 (.one 8 (.take 9 (.nil))))))))))) (by kernel_rfl) (M.kp (by simp) (by simp)) ?_
  refine p_at (i := i) slos rfl rfl rfl hlt ?_
  refine t_loadN es1 agg_out rfl hc1 (fun W K => K.lc 0 rfl) ?_
  refine p_at (i := i) slos rfl rfl rfl (by omega) ?_
  refine t_loadN es2 agg_out rfl hc2 (fun W K => K.lc 1 rfl) ?_
  refine cc is_r20same (r20same_any u v _ _ _ _ (M.da 3 rfl) (M.da 1 rfl) M.olt (hla u (List.mem_of_getElem? hu)) (hlb v (List.mem_of_getElem? hv))) ?_
  rintro e W ⟨q, rfl, hq, hb⟩
  replace M := M.call hb
  clear hb
  refine ⟨_, rfl, (M.kp (by simp) (by simp)), ?_⟩
  refine p_not rfl ?_
  cases q with
  | false =>
    exact ⟨false, rfl, ⟨(fun h => by cases h), fun e => absurd e (take_ne hu hv (fun e => by have := hq.2 e; cases this))⟩, M.below⟩
  | true =>
  refine p_addN (b := 1) rfl rfl (by omega) ?_
  exact ⟨i + 1, ⟨by omega, take_ext ht hu hv (hq.1 rfl), M.fsub _ (by simp)⟩, (by repeat (first | exact trivial | refine ⟨rfl, ?_⟩)), by omega⟩
end Go.Proofs.YtejbljopighenaaDoor
namespace Go.Proofs.YtejbljopighenaaDoor
open Go.RowKit
theorem is_same0B : isFn Tryd.prog 13 = true := by kernel_rfl
end Go.Proofs.YtejbljopighenaaDoor
