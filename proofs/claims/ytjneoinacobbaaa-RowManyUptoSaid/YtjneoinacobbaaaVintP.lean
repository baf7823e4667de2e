/- Lists of bytes as bytes: the walk of vint.Split. -/
import Derived.Test.YtjneoinacobbaaaVintJ
namespace Go.Proofs.Ytjneoinacobbaaa
open Go.RowKit

theorem ret_si {A A' : Option Addr} {n n' c c' : Nat} {k : IntKind} {x x' : Int} (h : Value.slice A n c = Value.slice A' n' c') (h1 : x = x') :
    Ending.returned (.tuple #[.slice A n c, .int k x]) = Ending.returned (.tuple #[.slice A' n' c', .int k x']) := by rw [h, h1]
theorem below_ownS {W w w' : World} (hb : Below W.heap.size W w) {A : Option Addr} {n c : Nat} {vs : List Value} (hrow : w.ownsRow W.heap.size 23 1 (.slice A n c) n vs) (hg : w.grownBy w' (Value.slice A n c).ownBlock) : Below W.heap.size W w' :=
  hb.grown hg hb.size (fun k hk => (World.ownsRow.lt hrow k hk).1)
theorem own_below {w w' : World} {base n c : Nat} {A : Option Addr} {vs : List Value} {ll : List (List UInt8)} (h1 : w.ownsRow base 23 1 (.slice A n c) n vs) (h2 : ElsOwn w base vs ll) (hb : Below w.heap.size w w') : w'.ownsRow base 23 1 (.slice A n c) n vs ∧ ElsOwn w' base vs ll :=
  ⟨World.ownsRow.kept h1 (row := none) ⟨hb.os, hb.tape, hb.output, hb.size, fun k hk _ => hb.block k hk⟩ (by cases (Value.slice A n c).ownBlock <;> simp), h2.below hb⟩
theorem splitF_zero (l : List UInt8) (a : Int) : splitF l 0 a = ([], a, 0) := rfl
theorem splitF_err {l : List UInt8} {m : Nat} {a : Int} (h : gbE l a ≠ 0) : splitF l (m + 1) a = ([], 0, gbE l a) := by
  show (if gbE l a = 0 then _ else _) = _
  rw [if_neg h]
theorem splitF_step {l : List UInt8} {m : Nat} {a : Int} (h : gbE l a = 0) : splitF l (m + 1) a = (gbL l a :: (splitF l m (gbTo l a)).1, (splitF l m (gbTo l a)).2) := by
  show (if gbE l a = 0 then _ else _) = _
  rw [if_pos h]
/-- What Split comes to. -/
def GotSplit (k : IntKind) (w : World) (l : List UInt8) (e : Ending) (w' : World) : Prop :=
  ∃ A' n' c', e = .returned (.tuple #[.slice A' n' c', .int k (spE l)]) ∧ OwnS w' w.heap.size A' n' c' (spL l) ∧ Below w.heap.size w w'
theorem gotSplit_none {k : IntKind} {w w' : World} {l : List UInt8} {x : Int} (h : spE l = x ∧ spL l = []) (hb : Below w.heap.size w w') : GotSplit k w l (.returned (.tuple #[.slice none 0 0, .int k x])) w' :=
  ⟨none, 0, 0, by rw [h.1], by rw [h.2]; exact OwnS.nil_ _ _, hb⟩

set_option maxRecDepth 100000 in
set_option maxHeartbeats 1600000 in
theorem split_any (A : Option Addr) (n c : Nat) (l : List UInt8) (w : World) (hr : Rd w w.heap.size A n l) (hn : n ≤ 100000000000) (hnc : n ≤ c) :
    Calls Try.prog 36 #[.slice A n c] w (GotSplit .i64 w l) := by
  have hln := Lib.hid hr.len
  by_cases h : gE l 0 = 0
  · have H := Lib.hid h
    obtain ⟨N, hN⟩ := Int.eq_ofNat_of_zero_le (gN_nonneg l 0)
    have hNlt := gN_lt l 0
    obtain ⟨T, hT, hle⟩ := g_to h
    rw [hln.out] at hle
    have HS := Lib.hid (show splitF l N (T : Int) = spR l by unfold spR; rw [hN, hT]; rfl)
    rw [hN] at hNlt
    have HT := Lib.hid hT
    have HN := Lib.hid hN
    clear h hT hN
    go_enter Try.func36, Try.ntmps36
    go_wp2_with fail
    refine (get_any _ _ _ _ _ _ _ hr hn hnc).mono ?_
    rintro e w1 ⟨rfl, rfl⟩
    rw [H.out, HT.out, HN.out]
    go_wp2_with fail
    go_loopw [4, 5, 7] (fun mm i v wr => ∃ (m a : Nat) (pre : List (List UInt8)) (A' : Option Addr) (c' : Nat), m ≤ N ∧ a ≤ n ∧ pre.length ≤ a ∧ mm = .int .u64 m ∧ i = .int .i64 a ∧ v = .slice A' pre.length c' ∧ OwnS wr w.heap.size A' pre.length c' pre ∧ Below w.heap.size w wr ∧ Hid (spR l = (pre ++ (splitF l m a).1, (splitF l m a).2))) (fun mm _ _ _ => (intOf mm).toNat)
    case atStart => exact ⟨N, T, [], none, 0, Nat.le_refl _, hle, Nat.zero_le _, rfl, rfl, rfl, OwnS.nil_ _ _, Below.refl _ _, Lib.hid (by rw [HS.out]; rfl)⟩
    case round =>
      obtain ⟨m, a, pre, A', c', hm, ha, hpre, rfl, rfl, rfl, hown, hb, hF⟩ := hrel
      cases m with
      | zero =>
        by_cases hlt : a < n
        · have F := Lib.hid (sp_err3 H.out (by rw [hF.out]; rfl) (by rw [hF.out, splitF_zero, hln.out]; show (a : Int) < n; omega))
          go_wp2_with fail
          go_ret2
          exact gotSplit_none F.out hb
        · have F := Lib.hid (sp_ok H.out (by rw [hF.out]; rfl) (by rw [hF.out, splitF_zero, hln.out]; show ¬ (a : Int) < n; omega))
          go_wp2_with fail
          go_ret2
          refine ⟨A', _, c', ret_si rfl F.out.1.symm, ?_, hb⟩
          rw [F.out.2, hF.out, splitF_zero, List.append_nil]
          exact hown
      | succ m =>
        have hw : IntKind.u64.wrap (((m + 1 : Nat) : Int) - 1) = (m : Int) := by rw [IntWalk.u64_in _ (by omega)]; omega
        have hpos : (0 : Int) < ((m + 1 : Nat) : Int) := by omega
        obtain ⟨M, hM⟩ : ∃ M : Int, ((m + 1 : Nat) : Int) = M := ⟨_, rfl⟩
        rw [hM] at hw hpos
        rw [hM]
        have HM := Lib.hid hM
        clear hM
        go_wp2_with fail
        refine (getBytes_any _ _ _ _ _ _ ((hr.below hb).more hb.size) hn hnc).mono ?_
        rintro e w2 ⟨A2, n2, c2, rfl, o2, b2⟩
        by_cases he : gbE l a = 0
        · have hF2 := Lib.hid (show spR l = (pre ++ gbL l a :: (splitF l m (gbTo l a)).1, (splitF l m (gbTo l a)).2) by rw [hF.out, splitF_step he])
          obtain ⟨g1, g2, g3⟩ := gb_to he
          obtain ⟨a2, ha2⟩ := Int.eq_ofNat_of_zero_le (show 0 ≤ gbTo l a by omega)
          rw [hln.out] at g2
          rw [ha2] at g1 g2
          have Ha2 := Lib.hid ha2
          have He := Lib.hid he
          clear he ha2
          rw [He.out, Ha2.out]
          have hb2 := hb.trans (b2.mono hb.size)
          obtain ⟨vs, hrow0, hels0⟩ := hown
          have hlt : ∀ v ∈ vs, ∀ g, v.ownBlock = some g → g < wr.heap.size := fun v hv g hg => (hels0.lt v hv g hg).2
          obtain ⟨hrow, hels⟩ := own_below hrow0 hels0 b2
          clear hrow0 hels0
          have hN := fun g hg => (World.ownsRow.lt o2 g hg).1
          have hrow2 := hrow.alloc (.cells #[.slice A2 n2 c2] 23)
          have hels2 := hels.below ((Below.refl _ _).alloc (Nat.le_refl _) (.cells #[.slice A2 n2 c2] 23))
          have o22 := (o2.less hb.size).alloc (.cells #[.slice A2 n2 c2] 23)
          go_wp2_with (at_builtin; refine wpList_appS rfl _ _ rfl rfl hrow2 hels2 o22 hlt hN rfl (Reads.lit1 _ _ rfl _ _) (by omega) (by have := hb2.size; simp; omega) ?_; intro A4 c4 w4 o4 g4)
          have hb4 := below_ownS (hb2.trans ((Below.refl _ _).alloc hb2.size _)) hrow2 g4
          go_roundw
          case rel => exact ⟨m, a2, pre ++ [gbL l a], A4, c4, by omega, by omega, by simp; omega, rfl, rfl, by simp, by simpa using o4, hb4, Lib.hid (by rw [hF2.out, Ha2.out]; simp)⟩
          case measure => have := HM.out; simp [intOf]; omega
        · have F := Lib.hid (sp_err2 H.out (by rw [hF.out, splitF_err he]; exact he))
          have F2 := Lib.hid (show (spR l).2.2 = gbE l a by rw [hF.out, splitF_err he])
          have hne : (gbE l a != 0) = true := by simp [he]
          clear he
          go_wp2_with fail
          go_ret2
          exact gotSplit_none (by rw [← F2.out]; exact F.out) (hb.trans (b2.mono hb.size))
  · have F := Lib.hid (sp_err1 h)
    have hne : (gE l 0 != 0) = true := by simp [h]
    clear h
    go_enter Try.func36, Try.ntmps36
    go_wp2_with fail
    refine (get_any _ _ _ _ _ _ _ hr hn hnc).mono ?_
    rintro e w1 ⟨rfl, rfl⟩
    go_wp2_with fail
    go_ret2
    exact gotSplit_none F.out (Below.refl _ _)
end Go.Proofs.Ytjneoinacobbaaa
