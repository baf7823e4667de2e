/- Lists of bytes as bytes: the reference's Join and Split. -/
import Derived.Test.YtjneoinacobbaaaVintP
namespace Go.Proofs.Ytjneoinacobbaaa
open Go.RowKit

set_option maxRecDepth 100000 in
set_option maxHeartbeats 800000 in
theorem refJoin_any (A : Option Addr) (n c : Nat) (ll : List (List UInt8)) (w : World) (hr : RdS w w.heap.size A n ll) (hn : n ≤ 10000000000) (hsz : (joinL ll).length ≤ 10000000000) :
    Calls Try.prog 35 #[.slice A n c] w fun e w' => ∃ A' n' c', e = .returned (.slice A' n' c') ∧ Own w' w.heap.size A' n' c' (joinL ll) ∧ Below w.heap.size w w' := by
  have hln := Lib.hid hr.len
  have hw : IntKind.u64.wrap (n : Int) = n := IntWalk.u64_in _ (by omega)
  have hlen := putN_len10 (n := n) (by omega)
  have Hsz := Lib.hid hsz
  clear hsz
  go_enter Try.func35, Try.ntmps35
  go_wp2_with fail
  refine (refPut_any _ _ (by omega)).mono ?_
  rintro e w1 ⟨A1, c1, rfl, o1, b1⟩
  go_wp2_with fail
  go_loopw [3, 4] (fun v i wr => ∃ (k m : Nat) (A' : Option Addr) (c' : Nat), k ≤ n ∧ i = .int .i64 k ∧ v = .slice A' m c' ∧ Own wr w.heap.size A' m c' (putN n ++ (ll.take k).flatMap putB) ∧ Below w.heap.size w wr) (fun _ i _ => n - (intOf i).toNat)
  case atStart => exact ⟨0, _, A1, c1, Nat.zero_le _, rfl, rfl, by simpa using o1, b1⟩
  case round =>
    obtain ⟨k, m, A', c', hk, rfl, rfl, hown, hb⟩ := hrel
    by_cases hlt : k < n
    · obtain ⟨bb, off, A2, m2, c2, rfl, _, hc, _, r2⟩ := (hr.below hb).at_ hlt
      have hfs := Lib.hid (flat_snoc ll k (by rw [hln.out]; exact hlt))
      have hm : Hid (m + ((putN m2).length + m2) ≤ 10000000000) := Lib.hid (by
        have e1 := hown.len
        have e2 := flat_le ll (k + 1)
        have e3 := Hsz.out
        have e4 := r2.len
        unfold joinL at e3
        rw [hln.out, List.length_append] at e3
        rw [List.length_append] at e1
        rw [hfs.out, List.length_append, putB_len, e4] at e2
        omega)
      have hm2 := hm.out
      go_wp2_with fail
      refine (refPutBytes_any _ _ _ _ _ (r2.more hb.size) (by omega)).mono ?_
      rintro e w2 ⟨A3, c3, rfl, o3, b3⟩
      have hb3 := hb.trans (b3.mono hb.size)
      have hown' := hown.below b3
      go_wp2_with (at_builtin; refine wpList_app rfl _ _ rfl rfl hown' rfl o3.rd (by omega) hb3.size ?_; intro A4 c4 w4 o4 g4)
      have hb4 := below_own hb3 hown' g4
      clear hown hown' o3
      go_roundw
      case rel => exact ⟨k + 1, _, A4, c4, by omega, by go_num, rfl, by rw [hfs.out, ← List.append_assoc]; exact o4, hb4⟩
      case measure => simp [intOf]; omega
    · go_wp2_with fail
      go_ret
      refine ⟨A', m, c', rfl, ?_, hb⟩
      unfold joinL
      rw [List.take_of_length_le (by rw [hln.out]; omega)] at hown
      rw [hln.out]; exact hown

set_option maxRecDepth 100000 in
set_option maxHeartbeats 1600000 in
theorem refSplit_any (A : Option Addr) (n c : Nat) (l : List UInt8) (w : World) (hr : Rd w w.heap.size A n l) (hn : n ≤ 100000000000) (hnc : n ≤ c) :
    Calls Try.prog 37 #[.slice A n c] w (GotSplit .i64 w l) := by
  have hln := Lib.hid hr.len
  by_cases h : gE l 0 = 0
  · have H := Lib.hid h
    obtain ⟨N, hN⟩ := Int.eq_ofNat_of_zero_le (gN_nonneg l 0)
    have hNlt := gN_lt l 0
    obtain ⟨T, hT, hle⟩ := g_to h
    rw [hln.out] at hle
    have HS := Lib.hid (show splitF l N (T : Int) = spR l by unfold spR; rw [hN, hT]; rfl)
    rw [hN] at hNlt
    have HT := Lib.hid hT
    have HN := Lib.hid hN
    clear h hT hN
    go_enter Try.func37, Try.ntmps37
    go_wp2_with fail
    refine (refGet_any _ _ _ _ _ _ _ hr hn).mono ?_
    rintro e w1 ⟨rfl, rfl⟩
    rw [H.out, HT.out, HN.out]
    go_wp2_with fail
    go_loopw [5, 7] (fun i v wr => ∃ (m a : Nat) (pre : List (List UInt8)) (A' : Option Addr) (c' : Nat), m + pre.length = N ∧ a ≤ n ∧ pre.length ≤ a ∧ i = .int .i64 a ∧ v = .slice A' pre.length c' ∧ OwnS wr w.heap.size A' pre.length c' pre ∧ Below w.heap.size w wr ∧ Hid (spR l = (pre ++ (splitF l m a).1, (splitF l m a).2))) (fun i _ _ => n - (intOf i).toNat)
    case atStart => exact ⟨N, T, [], none, 0, rfl, hle, Nat.zero_le _, rfl, rfl, OwnS.nil_ _ _, Below.refl _ _, Lib.hid (by rw [HS.out]; rfl)⟩
    case round =>
      obtain ⟨m, a, pre, A', c', hm, ha, hpre, rfl, rfl, hown, hb, hF⟩ := hrel
      cases m with
      | zero =>
        have hw : IntKind.u64.wrap (pre.length : Int) = pre.length := IntWalk.u64_in _ (by omega)
        have hlt1 : ¬ (pre.length : Int) < N := by omega
        by_cases hlt : a < n
        · have F := Lib.hid (sp_err3 H.out (by rw [hF.out]; rfl) (by rw [hF.out, splitF_zero, hln.out]; show (a : Int) < n; omega))
          have hbn : ((a : Int) != (n : Int)) = true := by rw [bne_iff_ne]; omega
          go_wp2_with fail
          go_ret2
          exact gotSplit_none F.out hb
        · have F := Lib.hid (sp_ok H.out (by rw [hF.out]; rfl) (by rw [hF.out, splitF_zero, hln.out]; show ¬ (a : Int) < n; omega))
          have hbn : ((a : Int) != (n : Int)) = false := by rw [bne_eq_false_iff_eq]; omega
          go_wp2_with fail
          go_ret2
          refine ⟨A', _, c', ret_si rfl F.out.1.symm, ?_, hb⟩
          rw [F.out.2, hF.out, splitF_zero, List.append_nil]
          exact hown
      | succ m =>
        have hw : IntKind.u64.wrap (pre.length : Int) = pre.length := IntWalk.u64_in _ (by omega)
        have hlt1 : (pre.length : Int) < N := by omega
        go_wp2_with fail
        refine (refGetBytes_any _ _ _ _ _ _ ((hr.below hb).more hb.size) hn hnc).mono ?_
        rintro e w2 ⟨A2, n2, c2, rfl, o2, b2⟩
        by_cases he : gbE l a = 0
        · have hF2 := Lib.hid (show spR l = (pre ++ gbL l a :: (splitF l m (gbTo l a)).1, (splitF l m (gbTo l a)).2) by rw [hF.out, splitF_step he])
          obtain ⟨g1, g2, g3⟩ := gb_to he
          obtain ⟨a2, ha2⟩ := Int.eq_ofNat_of_zero_le (show 0 ≤ gbTo l a by omega)
          rw [hln.out] at g2
          rw [ha2] at g1 g2
          have Ha2 := Lib.hid ha2
          have He := Lib.hid he
          clear he ha2
          rw [He.out, Ha2.out]
          have hb2 := hb.trans (b2.mono hb.size)
          obtain ⟨vs, hrow0, hels0⟩ := hown
          have hlt : ∀ v ∈ vs, ∀ g, v.ownBlock = some g → g < wr.heap.size := fun v hv g hg => (hels0.lt v hv g hg).2
          obtain ⟨hrow, hels⟩ := own_below hrow0 hels0 b2
          clear hrow0 hels0
          have hN := fun g hg => (World.ownsRow.lt o2 g hg).1
          have hrow2 := hrow.alloc (.cells #[.slice A2 n2 c2] 23)
          have hels2 := hels.below ((Below.refl _ _).alloc (Nat.le_refl _) (.cells #[.slice A2 n2 c2] 23))
          have o22 := (o2.less hb.size).alloc (.cells #[.slice A2 n2 c2] 23)
          go_wp2_with (at_builtin; refine wpList_appS rfl _ _ rfl rfl hrow2 hels2 o22 hlt hN rfl (Reads.lit1 _ _ rfl _ _) (by omega) (by have := hb2.size; simp; omega) ?_; intro A4 c4 w4 o4 g4)
          have hb4 := below_ownS (hb2.trans ((Below.refl _ _).alloc hb2.size _)) hrow2 g4
          go_roundw
          case rel => exact ⟨m, a2, pre ++ [gbL l a], A4, c4, by simp; omega, by omega, by simp; omega, rfl, by simp, by simpa using o4, hb4, Lib.hid (by rw [hF2.out, Ha2.out]; simp)⟩
          case measure => simp [intOf]; omega
        · have F := Lib.hid (sp_err2 H.out (by rw [hF.out, splitF_err he]; exact he))
          have F2 := Lib.hid (show (spR l).2.2 = gbE l a by rw [hF.out, splitF_err he])
          have hne : (gbE l a != 0) = true := by simp [he]
          clear he
          go_wp2_with fail
          go_ret2
          exact gotSplit_none (by rw [← F2.out]; exact F.out) (hb.trans (b2.mono hb.size))
  · have F := Lib.hid (sp_err1 h)
    have hne : (gE l 0 != 0) = true := by simp [h]
    clear h
    go_enter Try.func37, Try.ntmps37
    go_wp2_with fail
    refine (refGet_any _ _ _ _ _ _ _ hr hn).mono ?_
    rintro e w1 ⟨rfl, rfl⟩
    go_wp2_with fail
    go_ret2
    exact gotSplit_none F.out (Below.refl _ _)
end Go.Proofs.Ytjneoinacobbaaa
