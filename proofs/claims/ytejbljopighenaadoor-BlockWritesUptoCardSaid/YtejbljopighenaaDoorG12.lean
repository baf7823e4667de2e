/- Package txn: Encode. Package txn: the reader, Decode. -/
import Derived.Test.YtejbljopighenaaDoorG11
namespace Go.Proofs.YtejbljopighenaaDoor
open Go.RowKit
theorem u_i64t : (Tryd.prog.underlying 3).isSome = true := by kernel_rfl
theorem u_u64t : Tryd.prog.underlying 66 = some (.int .u64) := by kernel_rfl
theorem cv64 {x : Int} (h0 : 0 ≤ x) (h : x ≤ 9223372036854775807) : IntKind.u64.wrap x = ((x.toNat : Nat) : Int) := (wu64 ⟨h0, by omega⟩).trans (Int.toNat_of_nonneg h0).symm
theorem cv64N {n : Nat} (h : n ≤ 9223372036854775807) : IntKind.u64.wrap (n : Int) = ((n : Nat) : Int) := wu64 ⟨by omega, by omega⟩
theorem putB_len2 (s : List UInt8) : (putB s).length = (putN s.length).length + s.length := by unfold putB; rw [List.length_append]
theorem resB_len (r : Res) : (resB r).length = (putN r.n.toNat).length + ((putN (manyB r.rows).length).length + (manyB r.rows).length) := by unfold resB; rw [List.length_append, putB_len2]
theorem flat_take_leO {α : Type} (f : α → List UInt8) (l : List α) (i : Nat) : ((l.take i).flatMap f).length ≤ (l.flatMap f).length := by
  have : l.flatMap f = (l.take i).flatMap f ++ (l.drop i).flatMap f := by rw [← List.flatMap_append, List.take_append_drop]
  rw [this, List.length_append]; omega
theorem flat_take_snocO {α : Type} (f : α → List UInt8) {l : List α} {i : Nat} {x : α} (h : l[i]? = some x) : (l.take (i + 1)).flatMap f = (l.take i).flatMap f ++ f x := by
  rw [List.take_add_one, h, List.flatMap_append]; simp
theorem encO_2 {o : Out} (h : okO o = false) : encO o = ([], 2) := by unfold encO; rw [h, if_neg (by decide)]
theorem encO_3 {o : Out} (h : okO o = true) (h2 : 1048576 < (outB o).length) : encO o = ([], 3) := by unfold encO; rw [if_pos h, if_pos h2]
theorem encO_0 {o : Out} (h : okO o = true) (h2 : ¬ 1048576 < (outB o).length) : encO o = (outB o, 0) := by unfold encO; rw [if_pos h, if_neg h2]
def EncG (w : World) (r : List UInt8 × Int) (e : Ending) (w' : World) : Prop := ∃ A n c, e = .returned (.tuple #[.slice A n c, .int .i64 r.2]) ∧ Own w' w.heap.size A n c r.1 ∧ Below w.heap.size w w'
set_option maxRecDepth 100000 in
set_option maxHeartbeats 4000000 in
theorem xEnc_any (o : Out) (gs : List (Option Nat)) (w : World) (cs : List Value) (hr : RdL w (Fd w gs) (dOut o) cs) (hgs : ∀ b, some b ∈ gs → b < w.heap.size) (hf : FitsO o) :
    Calls Tryd.prog 25 #[.agg cs.toArray] w (EncG w (encO o)) := by
  refine calls_ev (args := [.agg cs.toArray]) mixed Tryd.func25 rfl (by kernel_rfl) ?_
  obtain ⟨A, c, rfl, h1⟩ := id hr.out
  have M := ((St.start hgs).addD h1).addL hr
  clear h1 hr
  obtain ⟨hf1, hf2, hf3⟩ := hf
  refine s_box (outcs o A c) M rfl ?_
  clear M
  rintro g1 W M
  refine v_loadN (outcs o A c) agg_out rfl rfl (M.run 0 rfl) ?_
  refine cc is_xright (xright_any o _ _ _ (M.da 0 rfl) M.olt (by omega)) ?_
  rintro e W ⟨rfl, hb⟩
  replace M := M.call hb
  clear hb
  refine ⟨_, rfl, ?_⟩
  refine p_not rfl ?_
  cases hri : rightO o with
  | false =>
    have he := encO_2 (o := o) (by unfold okO; rw [hri]; rfl)
    exact ⟨none, 0, 0, by rw [he]; rfl, by rw [he]; exact World.ownsRow_nil _ _ _ _, M.below⟩
  | true =>
  obtain ⟨⟨q1, q2, q3, q4, q5, q6⟩, q7⟩ : (0 ≤ o.e ∧ o.e ≤ 999 ∧ 0 ≤ o.at_ ∧ o.at_ ≤ 50 ∧ (o.e ≠ 0 → o.l = []) ∧ o.l.length ≤ 50) ∧ ∀ r ∈ o.l, 0 ≤ r.n := by
    have h := hri
    unfold rightO at h
    rw [Bool.and_eq_true, decide_eq_true_eq, List.all_eq_true] at h
    exact ⟨h.1, fun r hr => of_decide_eq_true (h.2 r hr)⟩
  have p1 := putN_len10 (n := o.e.toNat) (by omega)
  have p2 := putN_len10 (n := o.at_.toNat) (by omega)
  have p3 := putN_len10 (n := o.l.length) (by omega)
  have hob : (outB o).length = (hdB o).length + (o.l.flatMap resB).length := by unfold outB; rw [List.length_append]
  refine cutV (Option Addr × Nat) (fun s W => St w gs W [(g1, 55, outcs o A c)] [⟨5, 1, s.1, (putN o.e.toNat).length + (putN o.at_.toNat).length, s.2, bvs (putN o.e.toNat ++ putN o.at_.toNat)⟩] [.dat false [dRs o.l] [.slice A o.l.length c]]) (fun s => [(1, .pointer (some ⟨g1, 0, none⟩)), (4, .slice s.1 ((putN o.e.toNat).length + (putN o.at_.toNat).length) s.2)]) ?_ ?_
  · replace M := M.drew
    refine drT (Kp w gs [(g1, 55, outcs o A c)] []) (.take 0 (.take 1 (.take 2 (.take 4 (.take 5 (.take 6 (.one 3 (.one 7 (.one 8 (.take 9 (.nil))))))))))) (by kernel_rfl) (M.kp (by simp) (by simp)) ?_
    refine p_fld fO0 rfl ?_
    refine t_load agg_i rfl (fun W K => (K.B 0 rfl).at_ rfl) ?_
    refine t_cvt u_i64t u_u64t rfl (cv64 q1 (by omega)) ?_
    refine p_fld fO1 rfl ?_
    refine t_load agg_i rfl (fun W K => (K.B 0 rfl).at_ rfl) ?_
    refine t_cvt u_i64t u_u64t rfl (cv64 q3 (by omega)) ?_
    refine cc is_vput (put_any _ _ p1) ?_
    rintro e W ⟨A3, c3, rfl, o3, hb⟩
    replace M := M.callR (r := ⟨5, 1, A3, (putN o.e.toNat).length, c3, bvs (putN o.e.toNat)⟩) hb o3
    refine ⟨_, rfl, (M.kp (by simp) (by simp)), ?_⟩
    refine cc is_vput (put_any _ _ p2) ?_
    rintro e W ⟨A5, c5, rfl, o5, hb⟩
    replace M := M.callO hb o5
    refine ⟨_, rfl, (M.kp (by simp) (by simp)), ?_⟩
    refine s_appB M rfl rfl (M.rdb 0 rfl).2.2 (by omega) ?_
    clear M; rintro A6 c6 W M -
    refine ⟨(M.kp (by simp) (by simp)), ?_⟩
    exact ⟨(A6, c6), M.fsub _ (by simp), (by repeat (first | exact trivial | refine ⟨rfl, ?_⟩))⟩
  clear M
  rintro ⟨A4, c4⟩ E W M
  dsimp only at M
  refine p_fld fO2 rfl ?_
  refine v_load agg_rs rfl ((M.B 0 rfl).at_ rfl) ?_
  refine p_len slrs rfl ?_
  refine v_cvt u_i64t u_u64t rfl (cv64N (by omega)) ?_
  refine cc is_vput (put_any _ _ p3) ?_
  rintro e W ⟨A5, c5, rfl, o5, hb⟩
  replace M := M.callO hb o5
  clear o5 hb
  refine ⟨_, rfl, ?_⟩
  refine s_appB M rfl rfl (M.rdb 0 rfl).2.2 (by omega) ?_
  clear M; rintro A6 c6 W M -
  have eH : putN o.e.toNat ++ putN o.at_.toNat ++ putN o.l.length = hdB o := rfl
  have eHl : (putN o.e.toNat).length + (putN o.at_.toNat).length + (putN o.l.length).length = (hdB o).length := by unfold hdB; simp only [List.length_append]
  rw [eH, eHl] at M
  rw [eHl]
  refine p_fld fO2 rfl ?_
  refine v_load agg_rs rfl ((M.B 0 rfl).at_ rfl) ?_
  refine p_len slrs rfl ?_
  refine lp (Nat × Bool × List UInt8 × Option Addr × Nat) (fun s W => s.1 ≤ o.l.length ∧ (∀ r ∈ o.l.take s.1, manyE r.rows = 0) ∧ (s.2.1 = true → 1048576 < s.2.2.1.length) ∧ s.2.2.1 = hdB o ++ (o.l.take s.1).flatMap resB ∧ St w gs W [(g1, 55, outcs o A c)] [⟨5, 1, s.2.2.2.1, s.2.2.1.length, s.2.2.2.2, bvs s.2.2.1⟩] [.dat false [dRs o.l] [.slice A o.l.length c]])
    (fun s => [(1, .pointer (some ⟨g1, 0, none⟩)), (4, .slice s.2.2.2.1 s.2.2.1.length s.2.2.2.2), (5, .bool s.2.1), (30, .slice A o.l.length c), (31, .int .i64 (o.l.length : Nat)), (32, .int .i64 s.1)]) (fun s => o.l.length - s.1) (0, false, hdB o, A6, c6) ⟨Nat.zero_le _, (fun r hr => by rw [List.take_zero] at hr; cases hr), (fun h => by cases h), (by dsimp only; rw [List.take_zero, List.flatMap_nil, List.append_nil]), M.fsub _ (by simp)⟩ (by repeat (first | exact trivial | refine ⟨rfl, ?_⟩)) ?_
  clear M
  rintro ⟨i, lg, P, A4, c4⟩ E W ⟨hi, hall, hlg, hP, M⟩
  dsimp only at hi hall hlg hP M
  have hPl : P.length ≤ (outB o).length := by rw [hP, List.length_append, hob]; have := flat_take_leO resB o.l i; omega
  refine p_lt rfl rfl (fun hlt => ?_) (fun hge => ?_)
  rotate_left
  · have hi : i = o.l.length := by have h : ¬ (i : Int) < (o.l.length : Int) := hge; omega
    subst hi
    rw [List.take_of_length_le (Nat.le_refl _)] at hall hP
    have hok : okO o = true := okO_iff.2 ⟨⟨q1, q2, q3, q4, q5, q6⟩, fun r hr => ⟨q7 r hr, hall r hr⟩⟩
    have hPo : P = outB o := hP
    cases lg with
    | true =>
      have hbig := hlg rfl
      have he := encO_3 hok (by rw [← hPo]; exact hbig)
      exact ⟨none, 0, 0, by rw [he]; rfl, by rw [he]; exact World.ownsRow_nil _ _ _ _, M.below⟩
    | false =>
    refine p_len slb rfl ?_
    refine p_gt rfl rfl (fun hbig => ?_) (fun hbig => ?_)
    · have hbig : 1048576 < P.length := by have h : (1048576 : Int) < (P.length : Int) := hbig; omega
      have he := encO_3 hok (by rw [← hPo]; exact hbig)
      exact ⟨none, 0, 0, by rw [he]; rfl, by rw [he]; exact World.ownsRow_nil _ _ _ _, M.below⟩
    · have hbig : ¬ 1048576 < P.length := by have h : ¬ (1048576 : Int) < (P.length : Int) := hbig; omega
      have he := encO_0 hok (by rw [← hPo]; exact hbig)
      exact ⟨A4, P.length, c4, by rw [he]; rfl, by rw [he, ← hPo]; exact M.row _ (List.mem_cons_self ..), M.below⟩
  have hlt : i < o.l.length := by have h : (i : Int) < (o.l.length : Int) := hlt; omega
  obtain ⟨r, hri⟩ : ∃ r, o.l[i]? = some r := ⟨_, List.getElem?_eq_getElem hlt⟩
  obtain ⟨hfr, hrn⟩ := hf1 r (List.mem_of_getElem? hri)
  have hr0 := q7 r (List.mem_of_getElem? hri)
  have hs := flat_take_snocO resB hri
  have hs2 := flat_take_leO resB o.l (i + 1)
  have hrl := resB_len r
  rw [hs, List.length_append] at hs2
  have hPn : P ++ resB r = hdB o ++ (o.l.take (i + 1)).flatMap resB := by rw [hP, hs, List.append_assoc]
  have hPl2 : P.length = (hdB o).length + ((o.l.take i).flatMap resB).length := by rw [hP, List.length_append]
  obtain ⟨b1, o1, Ar, cr, rfl, M'⟩ := M.res (M.d1 0 rfl) hri
  replace M := M'; clear M'
  refine p_at (i := i) slrs rfl rfl rfl hlt ?_
  refine v_loadN (rescs r Ar cr) agg_res rfl rfl (M.lc 0 rfl) ?_
  refine s_alloc (zRes) M al_res ?_
  clear M
  rintro g7 W M
  refine s_storeA 0 (rescs r Ar cr) M rfl sz_res rfl rfl rfl (all1 rfl) rfl ?_
  clear M; rintro W M
  dsimp only [setL] at M
  refine p_fld fR0 rfl ?_
  refine v_load agg_vvs rfl ((M.B 0 rfl).at_ rfl) ?_
  obtain ⟨-, -, hrv⟩ := RdD.rowsV (M.d1 1 rfl) Fd.lt
  refine cc is_many (many_any _ _ _ r.rows _ hrv hfr) ?_
  clear hrv
  rintro e W ⟨A8, n8, c8, rfl, o8, hb⟩
  have en8 := o8.len
  replace M := M.callO hb o8
  clear o8 hb
  refine ⟨_, rfl, ?_⟩
  refine p_ne rfl rfl (fun hm => ?_) (fun hm => ?_)
  rotate_left
  · have hm : ¬ manyE r.rows = 0 := hm
    have he := encO_2 (o := o) (by
      rw [← Bool.not_eq_true]
      intro h
      exact hm ((okO_iff.1 h).2 r (List.mem_of_getElem? hri)).2)
    exact ⟨none, 0, 0, by rw [he]; rfl, by rw [he]; exact World.ownsRow_nil _ _ _ _, M.below⟩
  have hm : manyE r.rows = 0 := hm
  have hrl10 := putN_len10 (n := r.n.toNat) (by omega)
  have hbl : (manyB r.rows).length ≤ 900000000 := by omega
  have hq8 := putN_len10 (n := n8) (by omega)
  cases lg with
  | true =>
    have hbig := hlg rfl
    refine p_fld fR1 rfl ?_
    refine v_load agg_i rfl ((M.B 0 rfl).at_ rfl) ?_
    refine v_cvt u_i64t u_u64t rfl (cv64 hr0 hrn) ?_
    refine cc is_vput (put_any _ _ hrl10) ?_
    rintro e W ⟨A9, c9, rfl, o9, hb⟩
    replace M := M.callO hb o9
    clear o9 hb
    refine ⟨_, rfl, ?_⟩
    refine s_appB M rfl rfl (M.rdb 0 rfl).2.2 (by omega) ?_
    clear M; rintro A11 c11 W M -
    refine cc is_vputB (putBytes_any _ _ _ _ _ (M.rdb 1 rfl).2.2 (by omega)) ?_
    rintro e W ⟨A12, c12, rfl, o12, hb⟩
    replace M := M.callO hb o12
    clear o12 hb
    refine ⟨_, rfl, ?_⟩
    refine s_appB M rfl rfl (M.rdb 0 rfl).2.2 (by omega) ?_
    clear M; rintro A13 c13 W M -
    refine p_addN (b := 1) rfl rfl (by omega) ?_
    have e2 : P ++ putN r.n.toNat ++ putB (manyB r.rows) = P ++ resB r := by rw [List.append_assoc]; rfl
    have e3 : P.length + (putN r.n.toNat).length + ((putN n8).length + n8) = (P ++ resB r).length := by rw [List.length_append, hrl, en8]; omega
    rw [e2, e3] at M
    refine ⟨(i + 1, true, P ++ resB r, A13, c13), ⟨by dsimp only; omega, fun x hx => ?_, fun h => ?_, hPn, M.dropL.fsub _ (by simp)⟩, ?_, by dsimp only; omega⟩
    · rw [List.take_add_one, hri, List.mem_append] at hx
      rcases hx with hx | hx
      · exact hall x hx
      · have : x = r := by simpa using hx
        rw [this]; exact hm
    · (have := hPl2; dsimp only; rw [List.length_append]; omega)
    · refine ⟨rfl, ?_, rfl, rfl, rfl, rfl, trivial⟩
      dsimp only
      rw [← e3]
      rfl
  | false =>
  refine p_len slb rfl ?_
  refine p_gt rfl rfl (fun hbig => ?_) (fun hbig => ?_)
  · have hbig : 1048576 < n8 := by have h : (1048576 : Int) < (n8 : Int) := hbig; omega
    refine p_fld fR1 rfl ?_
    refine v_load agg_i rfl ((M.B 0 rfl).at_ rfl) ?_
    refine v_cvt u_i64t u_u64t rfl (cv64 hr0 hrn) ?_
    refine cc is_vput (put_any _ _ hrl10) ?_
    rintro e W ⟨A9, c9, rfl, o9, hb⟩
    replace M := M.callO hb o9
    clear o9 hb
    refine ⟨_, rfl, ?_⟩
    refine s_appB M rfl rfl (M.rdb 0 rfl).2.2 (by omega) ?_
    clear M; rintro A11 c11 W M -
    refine cc is_vputB (putBytes_any _ _ _ _ _ (M.rdb 1 rfl).2.2 (by omega)) ?_
    rintro e W ⟨A12, c12, rfl, o12, hb⟩
    replace M := M.callO hb o12
    clear o12 hb
    refine ⟨_, rfl, ?_⟩
    refine s_appB M rfl rfl (M.rdb 0 rfl).2.2 (by omega) ?_
    clear M; rintro A13 c13 W M -
    refine p_addN (b := 1) rfl rfl (by omega) ?_
    have e2 : P ++ putN r.n.toNat ++ putB (manyB r.rows) = P ++ resB r := by rw [List.append_assoc]; rfl
    have e3 : P.length + (putN r.n.toNat).length + ((putN n8).length + n8) = (P ++ resB r).length := by rw [List.length_append, hrl, en8]; omega
    rw [e2, e3] at M
    refine ⟨(i + 1, true, P ++ resB r, A13, c13), ⟨by dsimp only; omega, fun x hx => ?_, fun h => ?_, hPn, M.dropL.fsub _ (by simp)⟩, ?_, by dsimp only; omega⟩
    · rw [List.take_add_one, hri, List.mem_append] at hx
      rcases hx with hx | hx
      · exact hall x hx
      · have : x = r := by simpa using hx
        rw [this]; exact hm
    · (have := hPl2; dsimp only; rw [List.length_append]; omega)
    · refine ⟨rfl, ?_, rfl, rfl, rfl, rfl, trivial⟩
      dsimp only
      rw [← e3]
      rfl
  ·
    refine p_fld fR1 rfl ?_
    refine v_load agg_i rfl ((M.B 0 rfl).at_ rfl) ?_
    refine v_cvt u_i64t u_u64t rfl (cv64 hr0 hrn) ?_
    refine cc is_vput (put_any _ _ hrl10) ?_
    rintro e W ⟨A9, c9, rfl, o9, hb⟩
    replace M := M.callO hb o9
    clear o9 hb
    refine ⟨_, rfl, ?_⟩
    refine s_appB M rfl rfl (M.rdb 0 rfl).2.2 (by omega) ?_
    clear M; rintro A11 c11 W M -
    refine cc is_vputB (putBytes_any _ _ _ _ _ (M.rdb 1 rfl).2.2 (by omega)) ?_
    rintro e W ⟨A12, c12, rfl, o12, hb⟩
    replace M := M.callO hb o12
    clear o12 hb
    refine ⟨_, rfl, ?_⟩
    refine s_appB M rfl rfl (M.rdb 0 rfl).2.2 (by omega) ?_
    clear M; rintro A13 c13 W M -
    refine p_addN (b := 1) rfl rfl (by omega) ?_
    have e2 : P ++ putN r.n.toNat ++ putB (manyB r.rows) = P ++ resB r := by rw [List.append_assoc]; rfl
    have e3 : P.length + (putN r.n.toNat).length + ((putN n8).length + n8) = (P ++ resB r).length := by rw [List.length_append, hrl, en8]; omega
    rw [e2, e3] at M
    refine ⟨(i + 1, false, P ++ resB r, A13, c13), ⟨by dsimp only; omega, fun x hx => ?_, fun h => ?_, hPn, M.dropL.fsub _ (by simp)⟩, ?_, by dsimp only; omega⟩
    · rw [List.take_add_one, hri, List.mem_append] at hx
      rcases hx with hx | hx
      · exact hall x hx
      · have : x = r := by simpa using hx
        rw [this]; exact hm
    · (cases h)
    · refine ⟨rfl, ?_, rfl, rfl, rfl, rfl, trivial⟩
      dsimp only
      rw [← e3]
      rfl
end Go.Proofs.YtejbljopighenaaDoor
namespace Go.Proofs.YtejbljopighenaaDoor
open Go.RowKit
theorem fX0 : fieldOff Tryd.prog 113 0 = some 0 := by kernel_rfl
theorem fX1 : fieldOff Tryd.prog 113 1 = some 1 := by kernel_rfl
theorem fX2 : fieldOff Tryd.prog 113 2 = some 2 := by kernel_rfl
theorem z_rdr : zeroOf Tryd.prog 113 = some [.slice none 0 0, .int .i64 0, .bool false] := by kernel_rfl
theorem pl_rdr : placesOf Tryd.prog 113 = some [(0, 1), (1, 1), (2, 1)] := by kernel_rfl
def rcs (A : Option Addr) (n c : Nat) (s : RS) : List Value := [.slice A n c, .int .i64 s.at_, .bool s.bad]
theorem cvi64 {x : Int} (h0 : 0 ≤ x) (h : x ≤ 9223372036854775807) : IntKind.i64.wrap x = x := w64 ⟨by omega, h⟩
theorem u_u64s : (Tryd.prog.underlying 66).isSome = true := by kernel_rfl
theorem u_i64u : Tryd.prog.underlying 3 = some (.int .i64) := by kernel_rfl
theorem gN_ge (b : List UInt8) (a : Int) : 0 ≤ gN b a := by unfold gN; split <;> omega
section
variable {w W : World} {gs : List (Option Nat)} {g : Nat} {L : Lc} {R : List Row} {fs : List Fact} {b : List UInt8} {A : Option Addr} {n c : Nat} {s : RS} {fr : Bool}
set_option maxRecDepth 100000 in
set_option maxHeartbeats 2000000 in
theorem xnum_any (M : St w gs W ((g, 113, rcs A n c s) :: L) R (.dat fr [dB b] [.slice A n c] :: fs)) (hn : b.length ≤ 100000000) :
    Calls Tryd.prog 63 #[.pointer (some ⟨g, 0, none⟩)] W fun e W' => e = .returned (.int .i64 (numP b s).1) ∧ St w gs W' ((g, 113, rcs A n c (numP b s).2) :: L) R (.dat fr [dB b] [.slice A n c] :: fs) := by
  refine calls_ev (args := [.pointer (some ⟨g, 0, none⟩)]) mixed Tryd.func63 rfl (by kernel_rfl) ?_
  obtain ⟨en, enc, hrd⟩ := M.rdb 0 rfl
  replace M := M.drew
  refine drT (Kp w gs [(g, 113, rcs A n c s)] []) (.take 0 (.take 1 (.take 2 (.take 3 (.take 4 (.take 5 (.take 6 (.take 7 (.one 8 (.take 9 (.take 10 (.take 11 (.take 12 (.take 13 (.take 14 (.take 15 (.nil))))))))))))))))) (by kernel_rfl) (M.kp (by simp) (by simp)) ?_
  refine p_nil rfl ?_
  refine p_fld fX0 rfl ?_
  refine t_load agg_b rfl (fun W K => (K.B 0 rfl).at_ rfl) ?_
  refine p_nil rfl ?_
  refine p_fld fX1 rfl ?_
  refine t_load agg_i rfl (fun W K => (K.B 0 rfl).at_ rfl) ?_
  refine cc is_vget (get_any _ _ _ _ s.at_ b _ hrd (by omega) enc) ?_
  rintro e W' ⟨rfl, rfl⟩
  refine ⟨_, rfl, (M.kp (by simp) (by simp)), ?_⟩
  refine p_ne rfl rfl (fun h1 => ?_) (fun h1 => ?_)
  rotate_left
  · have h1 : ¬ gE b s.at_ = 0 := h1
    have he : numP b s = (0, ⟨s.at_, true⟩) := by unfold numP; rw [if_pos (.inl h1)]
    refine p_nil rfl ?_
    refine p_fld fX2 rfl ?_
    refine s_set 0 (off := 2) (.bool true) (rcs A n c ⟨s.at_, true⟩) M rfl sz_bln rfl rfl rfl (by show 2 < 3; decide) rfl ?_
    clear M; rintro W M
    dsimp only [setL] at M
    rw [he]
    exact ⟨rfl, M⟩
  have h1 : gE b s.at_ = 0 := h1
  refine p_gt rfl rfl (fun h2 => ?_) (fun h2 => ?_)
  · have h2 : (9223372036854775807 : Int) < gN b s.at_ := h2
    have he : numP b s = (0, ⟨s.at_, true⟩) := by unfold numP; rw [if_pos (.inr h2)]
    refine p_nil rfl ?_
    refine p_fld fX2 rfl ?_
    refine s_set 0 (off := 2) (.bool true) (rcs A n c ⟨s.at_, true⟩) M rfl sz_bln rfl rfl rfl (by show 2 < 3; decide) rfl ?_
    clear M; rintro W M
    dsimp only [setL] at M
    rw [he]
    exact ⟨rfl, M⟩
  have h2 : ¬ (9223372036854775807 : Int) < gN b s.at_ := h2
  have he : numP b s = (gN b s.at_, ⟨gTo b s.at_, s.bad⟩) := by unfold numP; rw [if_neg (fun h => h.elim (fun h => h h1) h2)]
  refine p_nil rfl ?_
  refine p_fld fX1 rfl ?_
  refine s_set 0 (off := 1) (.int .i64 (gTo b s.at_)) (rcs A n c ⟨gTo b s.at_, s.bad⟩) M rfl sz_int rfl rfl rfl (by show 1 < 3; decide) rfl ?_
  clear M; rintro W M
  dsimp only [setL] at M
  refine v_cvt u_u64s u_i64u rfl (cvi64 (gN_ge _ _) (by omega)) ?_
  rw [he]
  exact ⟨rfl, M⟩
set_option maxRecDepth 100000 in
set_option maxHeartbeats 2000000 in
theorem xres_any (M : St w gs W ((g, 113, rcs A n c s) :: L) R (.dat fr [dB b] [.slice A n c] :: fs)) (hn : b.length ≤ 1000000) :
    Calls Tryd.prog 64 #[.pointer (some ⟨g, 0, none⟩)] W fun e W' => ∃ A' c', e = .returned (.agg (rescs (resP b s).1 A' c').toArray) ∧ St w gs W' ((g, 113, rcs A n c (resP b s).2) :: L) R (.dat true (dRes (resP b s).1) (rescs (resP b s).1 A' c') :: .dat fr [dB b] [.slice A n c] :: fs) := by
  refine calls_ev (args := [.pointer (some ⟨g, 0, none⟩)]) mixed Tryd.func64 rfl (by kernel_rfl) ?_
  refine s_alloc (zRes) M al_res ?_
  clear M
  rintro g2 W M
  replace M := M.swp
  refine cc is_xnum (xnum_any M (by omega)) ?_
  clear M
  rintro e W ⟨rfl, M⟩
  refine ⟨_, rfl, ?_⟩
  obtain ⟨q, hq⟩ : ∃ q, q = numP b s := ⟨_, rfl⟩
  have hqn := numP_le b s
  rw [← hq] at M hqn
  rw [← hq]
  obtain ⟨en, enc, hrd⟩ := M.rdb 0 rfl
  replace M := M.drew
  refine drT (Kp w gs [(g, 113, rcs A n c q.2)] []) (.take 0 (.take 1 (.take 2 (.take 3 (.take 4 (.take 5 (.take 6 (.take 7 (.one 8 (.take 9 (.take 10 (.take 11 (.take 12 (.take 13 (.take 14 (.take 15 (.nil))))))))))))))))) (by kernel_rfl) (M.kp (by simp) (by simp)) ?_
  refine p_nil rfl ?_
  refine p_fld fX0 rfl ?_
  refine t_load agg_b rfl (fun W K => (K.B 0 rfl).at_ rfl) ?_
  refine p_nil rfl ?_
  refine p_fld fX1 rfl ?_
  refine t_load agg_i rfl (fun W K => (K.B 0 rfl).at_ rfl) ?_
  refine cc is_vgetB (getBytes_any _ _ _ q.2.at_ b _ hrd (by omega) enc) ?_
  rintro e W ⟨A4, n4, c4, rfl, o4, hb⟩
  have en4 := o4.len
  have enc4 := row_cap' o4
  replace M := M.callO hb o4
  clear o4 hb hrd
  refine ⟨_, rfl, (M.kp (by simp) (by simp)), ?_⟩
  refine p_ne rfl rfl (fun h1 => ?_) (fun h1 => ?_)
  rotate_left
  · have h1 : ¬ gbE b q.2.at_ = 0 := h1
    have he : resP b s = (⟨[], 0⟩, ⟨q.2.at_, true⟩) := by unfold resP; rw [← hq, if_pos h1]
    refine p_nil rfl ?_
    refine p_fld fX2 rfl ?_
    refine s_set 0 (off := 2) (.bool true) (rcs A n c ⟨q.2.at_, true⟩) M rfl sz_bln rfl rfl rfl (by show 2 < 3; decide) rfl ?_
    clear M; rintro W M
    dsimp only [setL] at M
    refine p_build (vs := zRes) pl_res z_res rfl ?_
    refine s_storeA 1 zRes M rfl sz_res rfl rfl rfl (all1 rfl) rfl ?_
    clear M; rintro W M
    dsimp only [setL] at M
    refine c_loadN zRes agg_res rfl rfl (M.run 1 rfl) ?_
    rw [he]
    have M2 := M.swp.dropL.addT (fr := true) (ds := dRes ⟨[], 0⟩) (cs := rescs ⟨[], 0⟩ none 0) (RdL.cons (RdD.nil_ (s := 1) none 0) (RdL.cons (RdD.ofv _) RdL.nil_))
    exact ⟨none, 0, rfl, M2.fsub _ (by intro f hf; simp only [List.mem_cons] at hf ⊢; rcases hf with h | h | h <;> simp [h])⟩
  have h1 : gbE b q.2.at_ = 0 := h1
  have he : resP b s = (⟨fewL (gbL b q.2.at_), q.1⟩, ⟨gbTo b q.2.at_, q.2.bad || decide (fewE (gbL b q.2.at_) ≠ 0)⟩) := by unfold resP; rw [← hq, if_neg (fun h => h h1)]
  refine p_nil rfl ?_
  refine p_fld fX1 rfl ?_
  refine s_set 0 (off := 1) (.int .i64 (gbTo b q.2.at_)) (rcs A n c ⟨gbTo b q.2.at_, q.2.bad⟩) M rfl sz_int rfl rfl rfl (by show 1 < 3; decide) rfl ?_
  clear M; rintro W M
  dsimp only [setL] at M
  have hgl := gbL_le b q.2.at_
  refine cc is_few (few_any _ _ _ (gbL b q.2.at_) _ (M.rdb 0 rfl).2.2 (by omega) enc4) ?_
  rintro e W ⟨A6, n6, c6, rfl, o6, hb⟩
  have hrows : RdD W (Fr _ W) (dRows (fewL (gbL b q.2.at_))) (.slice A6 n6 c6) := o6.rdRows (fun b q1 q2 q3 => ⟨q1, q2, q3⟩)
  have en6 : n6 = (fewL (gbL b q.2.at_)).length := hrows.slen
  subst en6
  replace M := M.callF1 hb hrows
  clear hb hrows o6
  refine ⟨_, rfl, ?_⟩
  obtain ⟨bd, hbd⟩ : ∃ bd, q.2.bad = bd := ⟨_, rfl⟩
  rw [hbd] at M he
  refine p_nil rfl ?_
  refine p_fld fX2 rfl ?_
  refine v_load agg_bl rfl ((M.B 0 rfl).at_ rfl) ?_
  cases bd with
  | true =>
    refine p_nil rfl ?_
    refine p_fld fX2 rfl ?_
    refine s_set 0 (off := 2) (.bool true) (rcs A n c ⟨gbTo b q.2.at_, true⟩) M rfl sz_bln rfl rfl rfl (by show 2 < 3; decide) rfl ?_
    clear M; rintro W M
    dsimp only [setL] at M
    refine p_build (vs := rescs ⟨fewL (gbL b q.2.at_), q.1⟩ A6 c6) pl_res z_res rfl ?_
    refine s_storeA 1 (rescs ⟨fewL (gbL b q.2.at_), q.1⟩ A6 c6) M rfl sz_res rfl rfl rfl (all1 rfl) rfl ?_
    clear M; rintro W M
    dsimp only [setL] at M
    refine c_loadN (rescs ⟨fewL (gbL b q.2.at_), q.1⟩ A6 c6) agg_res rfl rfl (M.run 1 rfl) ?_
    rw [he]
    have M2 := M.swp.dropL.addT (fr := true) (ds := dRes ⟨fewL (gbL b q.2.at_), q.1⟩) (cs := rescs ⟨fewL (gbL b q.2.at_), q.1⟩ A6 c6) (RdL.cons (M.swp.dropL.dt 0 rfl).hd (RdL.cons (RdD.ofv _) RdL.nil_))
    refine ⟨A6, c6, rfl, ?_⟩
    rw [Bool.true_or]
    exact M2.fsub _ (by intro f hf; simp only [List.mem_cons] at hf ⊢; rcases hf with h | h | h <;> simp [h])
  | false =>
  rw [Bool.false_or] at he
  refine p_ne rfl rfl (fun h2 => ?_) (fun h2 => ?_)
  · have h2 : fewE (gbL b q.2.at_) = 0 := h2
    refine p_nil rfl ?_
    refine p_fld fX2 rfl ?_
    refine s_set 0 (off := 2) (.bool false) (rcs A n c ⟨gbTo b q.2.at_, false⟩) M rfl sz_bln rfl rfl rfl (by show 2 < 3; decide) rfl ?_
    clear M; rintro W M
    dsimp only [setL] at M
    refine p_build (vs := rescs ⟨fewL (gbL b q.2.at_), q.1⟩ A6 c6) pl_res z_res rfl ?_
    refine s_storeA 1 (rescs ⟨fewL (gbL b q.2.at_), q.1⟩ A6 c6) M rfl sz_res rfl rfl rfl (all1 rfl) rfl ?_
    clear M; rintro W M
    dsimp only [setL] at M
    refine c_loadN (rescs ⟨fewL (gbL b q.2.at_), q.1⟩ A6 c6) agg_res rfl rfl (M.run 1 rfl) ?_
    rw [he]
    have M2 := M.swp.dropL.addT (fr := true) (ds := dRes ⟨fewL (gbL b q.2.at_), q.1⟩) (cs := rescs ⟨fewL (gbL b q.2.at_), q.1⟩ A6 c6) (RdL.cons (M.swp.dropL.dt 0 rfl).hd (RdL.cons (RdD.ofv _) RdL.nil_))
    refine ⟨A6, c6, rfl, ?_⟩
    rw [decide_eq_false (fun h => h h2)]
    exact M2.fsub _ (by intro f hf; simp only [List.mem_cons] at hf ⊢; rcases hf with h | h | h <;> simp [h])
  · have h2 : ¬ fewE (gbL b q.2.at_) = 0 := h2
    refine p_nil rfl ?_
    refine p_fld fX2 rfl ?_
    refine s_set 0 (off := 2) (.bool true) (rcs A n c ⟨gbTo b q.2.at_, true⟩) M rfl sz_bln rfl rfl rfl (by show 2 < 3; decide) rfl ?_
    clear M; rintro W M
    dsimp only [setL] at M
    refine p_build (vs := rescs ⟨fewL (gbL b q.2.at_), q.1⟩ A6 c6) pl_res z_res rfl ?_
    refine s_storeA 1 (rescs ⟨fewL (gbL b q.2.at_), q.1⟩ A6 c6) M rfl sz_res rfl rfl rfl (all1 rfl) rfl ?_
    clear M; rintro W M
    dsimp only [setL] at M
    refine c_loadN (rescs ⟨fewL (gbL b q.2.at_), q.1⟩ A6 c6) agg_res rfl rfl (M.run 1 rfl) ?_
    rw [he]
    have M2 := M.swp.dropL.addT (fr := true) (ds := dRes ⟨fewL (gbL b q.2.at_), q.1⟩) (cs := rescs ⟨fewL (gbL b q.2.at_), q.1⟩ A6 c6) (RdL.cons (M.swp.dropL.dt 0 rfl).hd (RdL.cons (RdD.ofv _) RdL.nil_))
    refine ⟨A6, c6, rfl, ?_⟩
    rw [decide_eq_true h2]
    exact M2.fsub _ (by intro f hf; simp only [List.mem_cons] at hf ⊢; rcases hf with h | h | h <;> simp [h])
end
theorem inf_res : (Tryd.prog.info? 58).map (fun i => (i.zero, i.size, i.bytes)) = some (some (.agg zRes.toArray), 2, 32) := by kernel_rfl
theorem dRes_one (r : Res) : ∀ d ∈ dRes r, d.One := by
  intro d hd
  rcases List.mem_cons.1 hd with rfl | hd
  · exact trivial
  rcases List.mem_cons.1 hd with rfl | hd
  · rfl
  · cases hd
theorem is_xDec : isFn Tryd.prog 50 = true := by kernel_rfl
set_option maxRecDepth 100000 in
set_option maxHeartbeats 4000000 in
theorem xDec_any (b : List UInt8) (gs : List (Option Nat)) (w : World) (A : Option Addr) (n c : Nat) (hr : RdD w (Fd w gs) (dB b) (.slice A n c)) (hgs : ∀ b, some b ∈ gs → b < w.heap.size) (hn : b.length ≤ 1000000) :
    Calls Tryd.prog 50 #[.slice A n c] w fun e w' => ∃ A' c', e = .returned (.tuple #[.agg (outcs (decO b).1 A' c').toArray, .int .i64 (decO b).2]) ∧ RdL w' (Fr w w') (dOut (decO b).1) (outcs (decO b).1 A' c') ∧ Below w.heap.size w w' := by
  refine calls_ev (args := [.slice A n c]) mixed Tryd.func50 rfl (by kernel_rfl) ?_
  have en := hr.slen
  subst en
  have M := (St.start hgs).addD hr
  clear hr
  refine s_alloc (zOut) M al_out ?_
  clear M
  rintro g2 W M
  refine p_build (vs := rcs A b.length c ⟨0, false⟩) pl_rdr z_rdr rfl ?_
  refine s_box (rcs A b.length c ⟨0, false⟩) M rfl ?_
  clear M; rintro g4 W M
  refine cc is_xnum (xnum_any M (by omega)) ?_
  clear M
  rintro e W ⟨rfl, M⟩
  refine ⟨_, rfl, ?_⟩
  refine cc is_xnum (xnum_any M (by omega)) ?_
  clear M
  rintro e W ⟨rfl, M⟩
  refine ⟨_, rfl, ?_⟩
  refine p_build (vs := outcs ⟨(hd1 b).1, (hd2 b).1, []⟩ none 0) pl_out z_out rfl ?_
  refine s_alloc (zOut) M al_out ?_
  clear M
  rintro g5 W M
  refine s_storeA 0 (outcs ⟨(hd1 b).1, (hd2 b).1, []⟩ none 0) M rfl sz_out rfl rfl rfl (all1 rfl) rfl ?_
  clear M; rintro W M
  dsimp only [setL] at M
  replace M := M.swp
  refine cc is_xnum (xnum_any M (by omega)) ?_
  clear M
  rintro e W ⟨rfl, M⟩
  refine ⟨_, rfl, ?_⟩
  obtain ⟨N, hN⟩ : ∃ N, N = (hd3 b).1 := ⟨_, rfl⟩
  obtain ⟨S, hS⟩ : ∃ S, S = resO b := ⟨_, rfl⟩
  have hSr : S = resF b (min N.toNat 51) (hd3 b).2 := by rw [hS, hN]; rfl
  have hNl : N ≤ 9223372036854775807 := by rw [hN]; exact numP_le b _
  change St w gs W ((g4, 113, rcs A b.length c (hd3 b).2) :: _) [] _ at M
  have h0 : (numP b (numP b (numP b ⟨0, false⟩).2).2).1 = N := hN.symm
  rw [h0]
  refine lp (List Res × RS × List Value × Option Addr × Nat) (fun s W => s.1.length ≤ min N.toNat 51 ∧ s.1 ++ (resF b (min N.toNat 51 - s.1.length) s.2.1).1 = S.1 ∧ (resF b (min N.toNat 51 - s.1.length) s.2.1).2 = S.2 ∧ St w gs W [(g4, 113, rcs A b.length c s.2.1), (g5, 55, [.int .i64 (hd1 b).1, .int .i64 (hd2 b).1, .slice s.2.2.2.1 s.1.length s.2.2.2.2]), (g2, 55, zOut)] [⟨58, 2, s.2.2.2.1, s.1.length, s.2.2.2.2, s.2.2.1⟩] [.dat true (s.1.flatMap dRes) s.2.2.1, .dat false [dB b] [.slice A b.length c]])
    (fun s => [(0, .slice A b.length c), (2, .pointer (some ⟨g2, 0, none⟩)), (4, .pointer (some ⟨g4, 0, none⟩)), (5, .pointer (some ⟨g5, 0, none⟩)), (6, .int .i64 N), (7, .int .i64 (s.1.length : Nat))]) (fun s => min N.toNat 51 - s.1.length) ([], (hd3 b).2, [], none, 0) ⟨Nat.zero_le _, by rw [hSr]; rfl, by rw [hSr]; rfl, ?_⟩ (by repeat (first | exact trivial | refine ⟨rfl, ?_⟩)) ?_
  · have M2 := (M.nilR 58 2).addT (fr := true) (ds := []) (cs := []) RdL.nil_
    exact M2.fsub _ (by simp)
  clear M
  rintro ⟨acc, s, xs, A3, c3⟩ E W ⟨hk, e1, e2, M⟩
  dsimp only at hk e1 e2 M
  have hk51 : acc.length ≤ 51 := by have := Nat.min_le_right N.toNat 51; omega
  refine p_lt rfl rfl (fun h1 => ?_) (fun h1 => ?_)
  rotate_left
  · have h1 : ¬ (acc.length : Int) < N := h1
    have hz : resF b (min N.toNat 51 - acc.length) s = ([], s) := by rw [show min N.toNat 51 - acc.length = 0 by have := Nat.min_le_left N.toNat 51; omega]; rfl
    have hacc : acc = S.1 := by rw [← e1, hz, List.append_nil]
    have hs : s = S.2 := by rw [← e2, hz]
    have hpo : parseO b = ⟨(hd1 b).1, (hd2 b).1, acc⟩ := by unfold parseO; rw [← hS, ← hacc]
    subst hs
    have M2 := M.frzR (fr := true) (M.dt 0 rfl)
    have hro : RdL W (Ft w W (own [(g4, 113, rcs A b.length c S.2), (g5, 55, [.int .i64 (hd1 b).1, .int .i64 (hd2 b).1, .slice A3 acc.length c3]), (g2, 55, zOut)] [] gs) true) (dOut (parseO b)) (outcs (parseO b) A3 c3) := by
      rw [hpo]
      exact RdL.cons (RdD.ofv _) (RdL.cons (RdD.ofv _) (RdL.cons (M2.dt 0 rfl).hd RdL.nil_))
    replace M := M2.addT hro
    clear M2 hro
    have hoc : outcs (parseO b) A3 c3 = [.int .i64 (hd1 b).1, .int .i64 (hd2 b).1, .slice A3 acc.length c3] := by rw [hpo]; rfl
    rw [← hoc] at M
    refine v_loadN (outcs (parseO b) A3 c3) agg_out rfl rfl (M.run 1 rfl) ?_
    refine cc is_xEnc (xEnc_any (parseO b) _ _ _ (M.da 0 rfl) M.olt (parse_fits (by omega))) ?_
    rintro e W ⟨A8, n8, c8, rfl, o8, hb⟩
    replace M := M.callO hb o8
    clear o8 hb
    refine ⟨_, rfl, ?_⟩
    refine p_nil rfl ?_
    refine p_fld fX2 rfl ?_
    refine v_load agg_bl rfl ((M.B 0 rfl).at_ rfl) ?_
    have hdo : decO b = if S.2.bad = false ∧ encO (parseO b) = (b, 0) then (parseO b, 0) else (outZ, 11) := by unfold decO; rw [← hS]
    obtain ⟨bd, hbd⟩ : ∃ bd, S.2.bad = bd := ⟨_, rfl⟩
    obtain ⟨Y, hY⟩ : ∃ Y, Y = encO (parseO b) := ⟨_, rfl⟩
    rw [← hY] at hdo M
    rw [hbd] at hdo
    rw [hbd]
    rw [← hY]
    cases bd with
    | true =>
      rw [if_neg (fun h => by cases h.1)] at hdo
      refine p_build (vs := zOut) pl_out z_out rfl ?_
      refine s_storeA 2 zOut M rfl sz_out rfl rfl rfl (all1 rfl) rfl ?_
      clear M; rintro W M
      dsimp only [setL] at M
      refine c_loadN zOut agg_out rfl rfl (M.run 2 rfl) ?_
      rw [hdo]
      exact ⟨none, 0, rfl, RdL.cons (RdD.ofv _) (RdL.cons (RdD.ofv _) (RdL.cons (RdD.nil_ (s := 2) none 0) RdL.nil_)), M.below⟩
    | false =>
    refine p_ne rfl rfl (fun h2 => ?_) (fun h2 => ?_)
    rotate_left
    · have h2 : ¬ Y.2 = 0 := h2
      rw [if_neg (fun h => h2 (by rw [h.2]))] at hdo
      refine p_build (vs := zOut) pl_out z_out rfl ?_
      refine s_storeA 2 zOut M rfl sz_out rfl rfl rfl (all1 rfl) rfl ?_
      clear M; rintro W M
      dsimp only [setL] at M
      refine c_loadN zOut agg_out rfl rfl (M.run 2 rfl) ?_
      rw [hdo]
      exact ⟨none, 0, rfl, RdL.cons (RdD.ofv _) (RdL.cons (RdD.ofv _) (RdL.cons (RdD.nil_ (s := 2) none 0) RdL.nil_)), M.below⟩
    have h2 : Y.2 = 0 := h2
    refine v_str rfl (M.rdb 0 rfl).2.2 ?_
    refine v_str rfl (M.rdb 4 rfl).2.2 ?_
    refine p_sne rfl rfl (fun h3 => ?_) (fun h3 => ?_)
    rotate_left
    · rw [if_neg (fun h => h3 (by rw [h.2]))] at hdo
      refine p_build (vs := zOut) pl_out z_out rfl ?_
      refine s_storeA 2 zOut M rfl sz_out rfl rfl rfl (all1 rfl) rfl ?_
      clear M; rintro W M
      dsimp only [setL] at M
      refine c_loadN zOut agg_out rfl rfl (M.run 2 rfl) ?_
      rw [hdo]
      exact ⟨none, 0, rfl, RdL.cons (RdD.ofv _) (RdL.cons (RdD.ofv _) (RdL.cons (RdD.nil_ (s := 2) none 0) RdL.nil_)), M.below⟩
    have h3 : Y.1 = b := sb_inj.1 h3
    rw [if_pos ⟨rfl, Prod.ext h3 h2⟩] at hdo
    refine v_loadN (outcs (parseO b) A3 c3) agg_out rfl rfl (M.run 1 rfl) ?_
    refine s_storeA 2 (outcs (parseO b) A3 c3) M rfl sz_out rfl rfl rfl (all1 rfl) rfl ?_
    clear M; rintro W M
    dsimp only [setL] at M
    refine c_loadN (outcs (parseO b) A3 c3) agg_out rfl rfl (M.run 2 rfl) ?_
    rw [hdo]
    exact ⟨A3, c3, rfl, M.finF 1 rfl, M.below⟩
  have h1 : (acc.length : Int) < N := h1
  refine p_le rfl rfl (fun h2 => ?_) (fun h2 => ?_)
  rotate_left
  · have h2 : ¬ (acc.length : Int) ≤ 50 := h2
    have hz : resF b (min N.toNat 51 - acc.length) s = ([], s) := by rw [show min N.toNat 51 - acc.length = 0 by have := Nat.min_le_right N.toNat 51; omega]; rfl
    have hacc : acc = S.1 := by rw [← e1, hz, List.append_nil]
    have hs : s = S.2 := by rw [← e2, hz]
    have hpo : parseO b = ⟨(hd1 b).1, (hd2 b).1, acc⟩ := by unfold parseO; rw [← hS, ← hacc]
    subst hs
    have M2 := M.frzR (fr := true) (M.dt 0 rfl)
    have hro : RdL W (Ft w W (own [(g4, 113, rcs A b.length c S.2), (g5, 55, [.int .i64 (hd1 b).1, .int .i64 (hd2 b).1, .slice A3 acc.length c3]), (g2, 55, zOut)] [] gs) true) (dOut (parseO b)) (outcs (parseO b) A3 c3) := by
      rw [hpo]
      exact RdL.cons (RdD.ofv _) (RdL.cons (RdD.ofv _) (RdL.cons (M2.dt 0 rfl).hd RdL.nil_))
    replace M := M2.addT hro
    clear M2 hro
    have hoc : outcs (parseO b) A3 c3 = [.int .i64 (hd1 b).1, .int .i64 (hd2 b).1, .slice A3 acc.length c3] := by rw [hpo]; rfl
    rw [← hoc] at M
    refine v_loadN (outcs (parseO b) A3 c3) agg_out rfl rfl (M.run 1 rfl) ?_
    refine cc is_xEnc (xEnc_any (parseO b) _ _ _ (M.da 0 rfl) M.olt (parse_fits (by omega))) ?_
    rintro e W ⟨A8, n8, c8, rfl, o8, hb⟩
    replace M := M.callO hb o8
    clear o8 hb
    refine ⟨_, rfl, ?_⟩
    refine p_nil rfl ?_
    refine p_fld fX2 rfl ?_
    refine v_load agg_bl rfl ((M.B 0 rfl).at_ rfl) ?_
    have hdo : decO b = if S.2.bad = false ∧ encO (parseO b) = (b, 0) then (parseO b, 0) else (outZ, 11) := by unfold decO; rw [← hS]
    obtain ⟨bd, hbd⟩ : ∃ bd, S.2.bad = bd := ⟨_, rfl⟩
    obtain ⟨Y, hY⟩ : ∃ Y, Y = encO (parseO b) := ⟨_, rfl⟩
    rw [← hY] at hdo M
    rw [hbd] at hdo
    rw [hbd]
    rw [← hY]
    cases bd with
    | true =>
      rw [if_neg (fun h => by cases h.1)] at hdo
      refine p_build (vs := zOut) pl_out z_out rfl ?_
      refine s_storeA 2 zOut M rfl sz_out rfl rfl rfl (all1 rfl) rfl ?_
      clear M; rintro W M
      dsimp only [setL] at M
      refine c_loadN zOut agg_out rfl rfl (M.run 2 rfl) ?_
      rw [hdo]
      exact ⟨none, 0, rfl, RdL.cons (RdD.ofv _) (RdL.cons (RdD.ofv _) (RdL.cons (RdD.nil_ (s := 2) none 0) RdL.nil_)), M.below⟩
    | false =>
    refine p_ne rfl rfl (fun h2 => ?_) (fun h2 => ?_)
    rotate_left
    · have h2 : ¬ Y.2 = 0 := h2
      rw [if_neg (fun h => h2 (by rw [h.2]))] at hdo
      refine p_build (vs := zOut) pl_out z_out rfl ?_
      refine s_storeA 2 zOut M rfl sz_out rfl rfl rfl (all1 rfl) rfl ?_
      clear M; rintro W M
      dsimp only [setL] at M
      refine c_loadN zOut agg_out rfl rfl (M.run 2 rfl) ?_
      rw [hdo]
      exact ⟨none, 0, rfl, RdL.cons (RdD.ofv _) (RdL.cons (RdD.ofv _) (RdL.cons (RdD.nil_ (s := 2) none 0) RdL.nil_)), M.below⟩
    have h2 : Y.2 = 0 := h2
    refine v_str rfl (M.rdb 0 rfl).2.2 ?_
    refine v_str rfl (M.rdb 4 rfl).2.2 ?_
    refine p_sne rfl rfl (fun h3 => ?_) (fun h3 => ?_)
    rotate_left
    · rw [if_neg (fun h => h3 (by rw [h.2]))] at hdo
      refine p_build (vs := zOut) pl_out z_out rfl ?_
      refine s_storeA 2 zOut M rfl sz_out rfl rfl rfl (all1 rfl) rfl ?_
      clear M; rintro W M
      dsimp only [setL] at M
      refine c_loadN zOut agg_out rfl rfl (M.run 2 rfl) ?_
      rw [hdo]
      exact ⟨none, 0, rfl, RdL.cons (RdD.ofv _) (RdL.cons (RdD.ofv _) (RdL.cons (RdD.nil_ (s := 2) none 0) RdL.nil_)), M.below⟩
    have h3 : Y.1 = b := sb_inj.1 h3
    rw [if_pos ⟨rfl, Prod.ext h3 h2⟩] at hdo
    refine v_loadN (outcs (parseO b) A3 c3) agg_out rfl rfl (M.run 1 rfl) ?_
    refine s_storeA 2 (outcs (parseO b) A3 c3) M rfl sz_out rfl rfl rfl (all1 rfl) rfl ?_
    clear M; rintro W M
    dsimp only [setL] at M
    refine c_loadN (outcs (parseO b) A3 c3) agg_out rfl rfl (M.run 2 rfl) ?_
    rw [hdo]
    exact ⟨A3, c3, rfl, M.finF 1 rfl, M.below⟩
  have h2 : (acc.length : Int) ≤ 50 := h2
  obtain ⟨k, hkk⟩ : ∃ k, min N.toNat 51 - acc.length = k + 1 := ⟨min N.toNat 51 - acc.length - 1, by
    have : acc.length < min N.toNat 51 := Nat.lt_min.2 ⟨by omega, by omega⟩
    omega⟩
  refine p_nil rfl ?_
  refine p_fld fX2 rfl ?_
  refine v_load agg_bl rfl ((M.B 0 rfl).at_ rfl) ?_
  refine p_not rfl ?_
  obtain ⟨bd0, hbd0⟩ : ∃ bd, s.bad = bd := ⟨_, rfl⟩
  rw [hbd0]
  cases bd0 with
  | true =>
    have hz : resF b (min N.toNat 51 - acc.length) s = ([], s) := by rw [hkk, resF, if_pos hbd0]
    have hacc : acc = S.1 := by rw [← e1, hz, List.append_nil]
    have hs : s = S.2 := by rw [← e2, hz]
    have hpo : parseO b = ⟨(hd1 b).1, (hd2 b).1, acc⟩ := by unfold parseO; rw [← hS, ← hacc]
    subst hs
    have M2 := M.frzR (fr := true) (M.dt 0 rfl)
    have hro : RdL W (Ft w W (own [(g4, 113, rcs A b.length c S.2), (g5, 55, [.int .i64 (hd1 b).1, .int .i64 (hd2 b).1, .slice A3 acc.length c3]), (g2, 55, zOut)] [] gs) true) (dOut (parseO b)) (outcs (parseO b) A3 c3) := by
      rw [hpo]
      exact RdL.cons (RdD.ofv _) (RdL.cons (RdD.ofv _) (RdL.cons (M2.dt 0 rfl).hd RdL.nil_))
    replace M := M2.addT hro
    clear M2 hro
    have hoc : outcs (parseO b) A3 c3 = [.int .i64 (hd1 b).1, .int .i64 (hd2 b).1, .slice A3 acc.length c3] := by rw [hpo]; rfl
    rw [← hoc] at M
    refine v_loadN (outcs (parseO b) A3 c3) agg_out rfl rfl (M.run 1 rfl) ?_
    refine cc is_xEnc (xEnc_any (parseO b) _ _ _ (M.da 0 rfl) M.olt (parse_fits (by omega))) ?_
    rintro e W ⟨A8, n8, c8, rfl, o8, hb⟩
    replace M := M.callO hb o8
    clear o8 hb
    refine ⟨_, rfl, ?_⟩
    refine p_nil rfl ?_
    refine p_fld fX2 rfl ?_
    refine v_load agg_bl rfl ((M.B 0 rfl).at_ rfl) ?_
    have hdo : decO b = if S.2.bad = false ∧ encO (parseO b) = (b, 0) then (parseO b, 0) else (outZ, 11) := by unfold decO; rw [← hS]
    obtain ⟨bd, hbd⟩ : ∃ bd, S.2.bad = bd := ⟨_, rfl⟩
    obtain ⟨Y, hY⟩ : ∃ Y, Y = encO (parseO b) := ⟨_, rfl⟩
    rw [← hY] at hdo M
    rw [hbd] at hdo
    rw [hbd]
    rw [← hY]
    cases bd with
    | true =>
      rw [if_neg (fun h => by cases h.1)] at hdo
      refine p_build (vs := zOut) pl_out z_out rfl ?_
      refine s_storeA 2 zOut M rfl sz_out rfl rfl rfl (all1 rfl) rfl ?_
      clear M; rintro W M
      dsimp only [setL] at M
      refine c_loadN zOut agg_out rfl rfl (M.run 2 rfl) ?_
      rw [hdo]
      exact ⟨none, 0, rfl, RdL.cons (RdD.ofv _) (RdL.cons (RdD.ofv _) (RdL.cons (RdD.nil_ (s := 2) none 0) RdL.nil_)), M.below⟩
    | false =>
    refine p_ne rfl rfl (fun h2 => ?_) (fun h2 => ?_)
    rotate_left
    · have h2 : ¬ Y.2 = 0 := h2
      rw [if_neg (fun h => h2 (by rw [h.2]))] at hdo
      refine p_build (vs := zOut) pl_out z_out rfl ?_
      refine s_storeA 2 zOut M rfl sz_out rfl rfl rfl (all1 rfl) rfl ?_
      clear M; rintro W M
      dsimp only [setL] at M
      refine c_loadN zOut agg_out rfl rfl (M.run 2 rfl) ?_
      rw [hdo]
      exact ⟨none, 0, rfl, RdL.cons (RdD.ofv _) (RdL.cons (RdD.ofv _) (RdL.cons (RdD.nil_ (s := 2) none 0) RdL.nil_)), M.below⟩
    have h2 : Y.2 = 0 := h2
    refine v_str rfl (M.rdb 0 rfl).2.2 ?_
    refine v_str rfl (M.rdb 4 rfl).2.2 ?_
    refine p_sne rfl rfl (fun h3 => ?_) (fun h3 => ?_)
    rotate_left
    · rw [if_neg (fun h => h3 (by rw [h.2]))] at hdo
      refine p_build (vs := zOut) pl_out z_out rfl ?_
      refine s_storeA 2 zOut M rfl sz_out rfl rfl rfl (all1 rfl) rfl ?_
      clear M; rintro W M
      dsimp only [setL] at M
      refine c_loadN zOut agg_out rfl rfl (M.run 2 rfl) ?_
      rw [hdo]
      exact ⟨none, 0, rfl, RdL.cons (RdD.ofv _) (RdL.cons (RdD.ofv _) (RdL.cons (RdD.nil_ (s := 2) none 0) RdL.nil_)), M.below⟩
    have h3 : Y.1 = b := sb_inj.1 h3
    rw [if_pos ⟨rfl, Prod.ext h3 h2⟩] at hdo
    refine v_loadN (outcs (parseO b) A3 c3) agg_out rfl rfl (M.run 1 rfl) ?_
    refine s_storeA 2 (outcs (parseO b) A3 c3) M rfl sz_out rfl rfl rfl (all1 rfl) rfl ?_
    clear M; rintro W M
    dsimp only [setL] at M
    refine c_loadN (outcs (parseO b) A3 c3) agg_out rfl rfl (M.run 2 rfl) ?_
    rw [hdo]
    exact ⟨A3, c3, rfl, M.finF 1 rfl, M.below⟩
  | false =>
  have hst : resF b (k + 1) s = ((resP b s).1 :: (resF b k (resP b s).2).1, (resF b k (resP b s).2).2) := by rw [resF, if_neg (by rw [hbd0]; decide)]
  rw [hkk, hst] at e1 e2
  dsimp only at e1 e2
  have hk51' : acc.length < 51 := by have := Nat.min_le_right N.toNat 51; omega
  replace M := (M.fsub [.dat false [dB b] [.slice A b.length c], .dat true (acc.flatMap dRes) xs] (by simp)).drew
  refine drZ 7 (Kp w gs [(g5, 55, [.int .i64 (hd1 b).1, .int .i64 (hd2 b).1, .slice A3 acc.length c3])] []) [(0, true), (1, true), (2, true), (3, false), (4, false), (5, false), (6, true)] (by kernel_rfl) (M.kp (by simp) (by simp)) ?_
  refine p_fld fO2 rfl ?_
  refine t_load agg_rs rfl (fun W K => (K.B 0 rfl).at_ rfl) ?_
  refine cc is_xres (xres_any M (by omega)) ?_
  clear M
  rintro e W ⟨Ar, cr, rfl, M⟩
  refine ⟨_, rfl, (M.kp (by simp) (by simp)), ?_⟩
  obtain ⟨q, hq⟩ : ∃ q, q = resP b s := ⟨_, rfl⟩
  rw [← hq] at M e1 e2
  rw [← hq]
  refine s_bslice (fr := true) (ds := dRes q.1) (rescs q.1 Ar cr) M slrs z_res rfl (by decide) rfl (M.dt 0 rfl) rfl ?_
  clear M; rintro g9 W M
  refine ⟨(M.kp (by simp) (by simp)), ?_⟩
  obtain ⟨news, hrd, hnd⟩ := (M.dt 0 rfl).hd.reads (fun b h => h.1)
  replace M := M.addT hnd
  refine s_app (z := .agg zRes.toArray) (news := news) M Tryd.underlying53 inf_res rfl (by decide) rfl rfl hrd (hnd.ones (dRes_one _)) ⟨by omega, by decide⟩ ?_
  clear M hrd hnd
  rintro A7 c7 W M -
  refine ⟨(M.kp (by simp) (by simp)), ?_⟩
  refine p_fld fO2 rfl ?_
  refine s_set 1 (off := 2) (.slice A7 (acc.length + 1) c7) [.int .i64 (hd1 b).1, .int .i64 (hd2 b).1, .slice A7 (acc.length + 1) c7] M rfl sz_rs rfl rfl rfl (Nat.le_of_ble_eq_true rfl) rfl ?_
  clear M; rintro W M
  dsimp only [setL] at M
  refine p_addN (b := 1) rfl rfl (by omega) ?_
  have hx := (M.dt 4 rfl).app (M.dt 0 rfl)
  replace M := M.addT hx
  have el : (acc ++ [q.1]).length = acc.length + 1 := by simp
  have ef : (acc ++ [q.1]).flatMap dRes = acc.flatMap dRes ++ dRes q.1 := by rw [List.flatMap_append]; simp
  have ek : min N.toNat 51 - (acc.length + 1) = k := by omega
  refine ⟨(acc ++ [q.1], q.2, xs ++ news, A7, c7), ⟨by dsimp only; rw [el]; omega, ?_, ?_, ?_⟩, ?_, ?_⟩
  · dsimp only
    rw [el, ek, List.append_assoc]
    exact e1
  · dsimp only
    rw [el, ek]
    exact e2
  · dsimp only
    rw [el, ef]
    exact M.fsub _ (by simp)
  · dsimp only
    rw [el]
    exact (by repeat (first | exact trivial | refine ⟨rfl, ?_⟩))
  · dsimp only
    rw [el]
    omega
end Go.Proofs.YtejbljopighenaaDoor
