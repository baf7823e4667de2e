/- Numbers and bytes in one way: the reference's Get, GetInt, GetBytes. The walks of the reference's begins, value and Decode. The walk of the reference's Decode. Are values, and rows of them, the same? The walks of the reference's Cmp and Rows. The walks of the reference's Rows and of the law's 'long'. -/
import Derived.Test.YtejbljopighenaaDoorG06
import Derived.Test.YtejbljopighenaaDoorG07
import Derived.Test.YtejbljopighenaaDoorG05
import Derived.Laws.StructEq
namespace Go.Proofs.YtejbljopighenaaDoor
open Go.RowKit

/-- The unit, as it is kept: at the end of all it has gone round. -/
def unit8 (k : Nat) : Nat := 128 ^ k % 18446744073709551616
theorem unit8_le {k : Nat} (h : k ≤ 9) : unit8 k = 128 ^ k := by
  unfold unit8
  have h2 : 128 ^ k ≤ 128 ^ 9 := Nat.pow_le_pow_right (by omega) h
  have hp9 : (128 : Nat) ^ 9 = 9223372036854775808 := by decide
  exact Nat.mod_eq_of_lt (by omega)
theorem unit8_step (k : Nat) : IntKind.u64.wrap ((unit8 k : Int) * 128) = (unit8 (k + 1) : Int) := by
  unfold unit8
  rw [IntKind.wrap_u64, Nat.pow_succ]
  omega

/-- The number gets seven bits more, as the reference reckons it. -/
theorem add_step (acc k : Nat) (x : Int) (h0 : 0 ≤ x) (h1 : x ≤ 255) (hacc : acc < 128 ^ k) (hk : k ≤ 9) (h9 : k = 9 → x ≤ 1) :
    IntKind.u64.wrap ((acc : Int) + IntKind.u64.wrap (x % 128 * ((unit8 k : Nat) : Int))) = ((acc + (x.toNat % 128) * 128 ^ k : Nat) : Int) := by
  rw [unit8_le hk]
  obtain ⟨y, rfl⟩ := Int.eq_ofNat_of_zero_le h0
  have hb : (y % 128) * 128 ^ k + acc < 18446744073709551616 := by
    by_cases e : k = 9
    · subst e
      have hp9 : (128 : Nat) ^ 9 = 9223372036854775808 := by decide
      rw [hp9] at hacc ⊢
      have : y % 128 ≤ 1 := by have := h9 rfl; omega
      have := Nat.mul_le_mul_right 9223372036854775808 this
      omega
    · have h2 : 128 ^ (k + 1) ≤ 128 ^ 9 := Nat.pow_le_pow_right (by omega) (by omega)
      have hp9 : (128 : Nat) ^ 9 = 9223372036854775808 := by decide
      have h3 : (y % 128) * 128 ^ k ≤ 127 * 128 ^ k := Nat.mul_le_mul_right _ (by omega)
      rw [hp9, Nat.pow_succ] at h2
      omega
  rw [show (y : Int) % 128 = ((y % 128 : Nat) : Int) by omega, ← Int.natCast_mul, Int.toNat_natCast]
  rw [IntKind.wrap_u64, IntKind.wrap_u64]
  omega
set_option maxRecDepth 100000 in
set_option maxHeartbeats 1600000 in
theorem refGet_in (A : Option Addr) (n c B a : Nat) (l : List UInt8) (w : World) (hr : Rd w B A n l) (hn : n ≤ 100000000000) (ha : a ≤ n) :
    Calls Tryd.prog 36 #[.slice A n c, .int .i64 a] w (Got w l a) := by
  have hln := Lib.hid hr.len
  go_enter Tryd.func36, Tryd.ntmps36
  go_wp2
  go_loop [7, 8, 9] (fun v u i => ∃ (k acc : Nat), a + k ≤ n ∧ k ≤ 9 ∧ acc < 128 ^ k ∧ i = .int .i64 ((a + k : Nat) : Int) ∧ v = .int .u64 acc ∧ u = .int .u64 (unit8 k) ∧ getF (l.drop (a + k)) k acc = getF (l.drop a) 0 0) (fun _ _ i => n - (intOf i).toNat)
  case atStart => exact ⟨0, 0, by omega, by omega, by simp, rfl, rfl, rfl, rfl⟩
  case round =>
    obtain ⟨k, acc, hkn, hk9, hacc, rfl, rfl, rfl, hg⟩ := hrel
    have Hg := Lib.hid hg
    have Hacc := Lib.hid hacc
    have hal : Hid (a ≤ l.length) := Lib.hid (by rw [hln.out]; omega)
    have hu := Lib.hid (unit8_le hk9)
    have hus := unit8_step k
    clear hg hacc
    by_cases hlt : a + k < n
    · obtain ⟨b, off, rfl, hc⟩ := hr.at_ hlt
      have h0 := at8_lo l (a + k)
      have h1 := at8_hi l (a + k)
      have hst := Lib.hid (getF_step l a k acc (by rw [hln.out]; exact hlt))
      by_cases h9 : k = 9
      · have hb9 : ((a : Int) + k - a == 9) = true := by simp; omega
        have hk0 : (a : Int) < (a : Int) + k := by omega
        by_cases hc1 : 1 < at8 l (a + k)
        · have F := Lib.hid (g_fail hal.out (by decide) (show getF (l.drop a) 0 0 = (0, 0, 11) by rw [← Hg.out, hst.out, if_pos (.inl ⟨h9, hc1⟩)]))
          have hb0 : (at8 l (a + k) != 0) = true := by rw [bne_iff_ne]; omega
          have hb1 : (at8 l (a + k) != 1) = true := by rw [bne_iff_ne]; omega
          clear h9
          go_wp2
          go_ret3
          exact ⟨ret3 F.out.2.1.symm F.out.2.2.symm F.out.1.symm, rfl⟩
        · by_cases hz : at8 l (a + k) = 0
          · have F := Lib.hid (g_fail hal.out (by decide) (show getF (l.drop a) 0 0 = (0, 0, 11) by rw [← Hg.out, hst.out, if_pos (.inr ⟨hz, by omega⟩)]))
            have hb0 : (at8 l (a + k) != 0) = false := by simp [hz]
            have hb1 : (at8 l (a + k) == 0) = true := by simp [hz]
            clear h9 hz
            go_wp2
            go_ret3
            exact ⟨ret3 F.out.2.1.symm F.out.2.2.symm F.out.1.symm, rfl⟩
          · have hb0 : (at8 l (a + k) != 0) = true := by rw [bne_iff_ne]; omega
            have hb1 : (at8 l (a + k) != 1) = false := by simp; omega
            have hb2 : (at8 l (a + k) == 0) = false := by simp [hz]
            have hv := add_step acc k (at8 l (a + k)) h0 h1 Hacc.out hk9 (by omega)
            have F := Lib.hid (g_done hal.out (show getF (l.drop a) 0 0 = (acc + (at8 l (a + k)).toNat * 128 ^ k, k + 1, 0) by rw [← Hg.out, hst.out, if_neg (by omega), if_pos (by omega)]))
            rw [show (at8 l (a + k)).toNat % 128 = (at8 l (a + k)).toNat by omega] at hv
            have Hv := Lib.hid hv
            have hlt8 : at8 l (a + k) < 128 := by omega
            clear hv hz h9
            go_wp2
            go_ret3
            exact ⟨ret3 (by rw [Hv.out]; exact F.out.2.1.symm) (by rw [F.out.2.2]; omega) F.out.1.symm, rfl⟩
      · have hb9 : ((a : Int) + k - a == 9) = false := by simp; omega
        by_cases hz : at8 l (a + k) = 0
        · have hb0 : (at8 l (a + k) == 0) = true := by simp [hz]
          by_cases hk0 : 0 < k
          · have hk1 : (a : Int) < (a : Int) + k := by omega
            have F := Lib.hid (g_fail hal.out (by decide) (show getF (l.drop a) 0 0 = (0, 0, 11) by rw [← Hg.out, hst.out, if_pos (.inr ⟨hz, by omega⟩)]))
            clear h9 hz
            go_wp2
            go_ret3
            exact ⟨ret3 F.out.2.1.symm F.out.2.2.symm F.out.1.symm, rfl⟩
          · have hk1 : decide ((a : Int) < (a : Int) + k) = false := by simp; omega
            have hv := add_step acc k (at8 l (a + k)) h0 h1 Hacc.out hk9 (by omega)
            have F := Lib.hid (g_done hal.out (show getF (l.drop a) 0 0 = (acc + (at8 l (a + k)).toNat * 128 ^ k, k + 1, 0) by rw [← Hg.out, hst.out, if_neg (by omega), if_pos (by omega)]))
            rw [show (at8 l (a + k)).toNat % 128 = (at8 l (a + k)).toNat by omega] at hv
            have Hv := Lib.hid hv
            have hlt8 : at8 l (a + k) < 128 := by omega
            clear hv hz h9
            go_wp2
            go_ret3
            exact ⟨ret3 (by rw [Hv.out]; exact F.out.2.1.symm) (by rw [F.out.2.2]; omega) F.out.1.symm, rfl⟩
        · have hb0 : (at8 l (a + k) == 0) = false := by simp [hz]
          have hbd : (decide ((a : Int) < (a : Int) + k) && (at8 l (a + k) == 0)) = false := by rw [hb0]; simp
          by_cases hk0 : 0 < k
          · have hk1 : (a : Int) < (a : Int) + k := by omega
            by_cases hs : at8 l (a + k) < 128
            · have hv := add_step acc k (at8 l (a + k)) h0 h1 Hacc.out hk9 (by omega)
              have F := Lib.hid (g_done hal.out (show getF (l.drop a) 0 0 = (acc + (at8 l (a + k)).toNat * 128 ^ k, k + 1, 0) by rw [← Hg.out, hst.out, if_neg (by omega), if_pos (by omega)]))
              rw [show (at8 l (a + k)).toNat % 128 = (at8 l (a + k)).toNat by omega] at hv
              have Hv := Lib.hid hv
              clear hv hz h9
              go_wp2
              go_ret3
              exact ⟨ret3 (by rw [Hv.out]; exact F.out.2.1.symm) (by rw [F.out.2.2]; omega) F.out.1.symm, rfl⟩
            · have hv := add_step acc k (at8 l (a + k)) h0 h1 Hacc.out hk9 (by omega)
              rw [show (at8 l (a + k)).toNat % 128 = (at8 l (a + k)).toNat - 128 by omega] at hv
              have Hv := Lib.hid hv
              have F := Lib.hid (show getF (l.drop (a + (k + 1))) (k + 1) (acc + ((at8 l (a + k)).toNat - 128) * 128 ^ k) = getF (l.drop a) 0 0 by rw [← Hg.out, hst.out, if_neg (by omega), if_neg (by omega)])
              have Hb := Lib.hid (acc_lt (x := (at8 l (a + k)).toNat - 128) Hacc.out (by omega))
              clear hv hz
              go_wp2
              go_round
              case rel => exact ⟨k + 1, _, by omega, by omega, Hb.out, by go_num, by rw [Hv.out], rfl, F.out⟩
              case measure => simp [intOf]; omega
          · have hk1 : decide ((a : Int) < (a : Int) + k) = false := by simp; omega
            by_cases hs : at8 l (a + k) < 128
            · have hv := add_step acc k (at8 l (a + k)) h0 h1 Hacc.out hk9 (by omega)
              have F := Lib.hid (g_done hal.out (show getF (l.drop a) 0 0 = (acc + (at8 l (a + k)).toNat * 128 ^ k, k + 1, 0) by rw [← Hg.out, hst.out, if_neg (by omega), if_pos (by omega)]))
              rw [show (at8 l (a + k)).toNat % 128 = (at8 l (a + k)).toNat by omega] at hv
              have Hv := Lib.hid hv
              clear hv hz h9
              go_wp2
              go_ret3
              exact ⟨ret3 (by rw [Hv.out]; exact F.out.2.1.symm) (by rw [F.out.2.2]; omega) F.out.1.symm, rfl⟩
            · have hv := add_step acc k (at8 l (a + k)) h0 h1 Hacc.out hk9 (by omega)
              rw [show (at8 l (a + k)).toNat % 128 = (at8 l (a + k)).toNat - 128 by omega] at hv
              have Hv := Lib.hid hv
              have F := Lib.hid (show getF (l.drop (a + (k + 1))) (k + 1) (acc + ((at8 l (a + k)).toNat - 128) * 128 ^ k) = getF (l.drop a) 0 0 by rw [← Hg.out, hst.out, if_neg (by omega), if_neg (by omega)])
              have Hb := Lib.hid (acc_lt (x := (at8 l (a + k)).toNat - 128) Hacc.out (by omega))
              clear hv hz
              go_wp2
              go_round
              case rel => exact ⟨k + 1, _, by omega, by omega, Hb.out, by go_num, by rw [Hv.out], rfl, F.out⟩
              case measure => simp [intOf]; omega
    · have F := Lib.hid (g_fail hal.out (by decide) (show getF (l.drop a) 0 0 = (0, 0, 10) by rw [← Hg.out, getF_end l a k acc (by rw [hln.out]; omega)]))
      go_wp2
      go_ret3
      exact ⟨ret3 F.out.2.1.symm F.out.2.2.symm F.out.1.symm, rfl⟩

set_option maxRecDepth 100000 in
set_option maxHeartbeats 1600000 in
theorem refGet_any (A : Option Addr) (n c B : Nat) (at_ : Int) (l : List UInt8) (w : World) (hr : Rd w B A n l) (hn : n ≤ 100000000000) :
    Calls Tryd.prog 36 #[.slice A n c, .int .i64 at_] w (Got w l at_) := by
  by_cases ho : at_ < 0
  · have F := Lib.hid (g_out (l := l) (.inl ho))
    go_enter Tryd.func36, Tryd.ntmps36
    go_wp2
    go_ret3
    exact ⟨ret3 F.out.2.1.symm F.out.2.2.symm F.out.1.symm, rfl⟩
  · by_cases hp : (n : Int) < at_
    · have F := Lib.hid (g_out (l := l) (a := at_) (.inr (by rw [hr.len]; exact hp)))
      go_enter Tryd.func36, Tryd.ntmps36
      go_wp2
      go_ret3
      exact ⟨ret3 F.out.2.1.symm F.out.2.2.symm F.out.1.symm, rfl⟩
    · obtain ⟨a, rfl⟩ := Int.eq_ofNat_of_zero_le (show 0 ≤ at_ by omega)
      exact refGet_in A n c B a l w hr hn (by omega)

set_option maxRecDepth 100000 in
set_option maxHeartbeats 1600000 in
theorem refGetInt_any (A : Option Addr) (n c B : Nat) (at_ : Int) (l : List UInt8) (w : World) (hr : Rd w B A n l) (hn : n ≤ 100000000000) :
    Calls Tryd.prog 82 #[.slice A n c, .int .i64 at_] w (GotInt w l at_) := by
  by_cases he : gE l at_ = 0
  · have He := Lib.hid he
    have h0 := gN_nonneg l at_
    have h1 := gN_lt l at_
    obtain ⟨x, hx⟩ : ∃ x, gN l at_ = x := ⟨_, rfl⟩
    rw [hx] at h0 h1
    have Hx := Lib.hid hx
    clear hx he
    have hw := IntWalk.i64_in (x / 2) (by omega)
    by_cases ho : x % 2 = 1
    · have hz := Lib.hid (show -(x / 2) - 1 = zag x by unfold zag; rw [if_pos ho])
      have hb : (x % 2 == 1) = true := by simp [ho]
      clear ho
      go_enter Tryd.func82, Tryd.ntmps82
      go_wp2_with fail
      refine (refGet_any _ _ _ _ _ _ _ hr hn).mono ?_
      rintro e w' ⟨rfl, rfl⟩
      rw [Hx.out, He.out]
      go_wp2_with fail
      go_ret3
      exact ⟨ret3 (by rw [Hx.out]; exact hz.out) rfl He.out.symm, rfl⟩
    · have hz := Lib.hid (show x / 2 = zag x by unfold zag; rw [if_neg ho])
      have hb : (x % 2 == 1) = false := by simp [ho]
      clear ho
      go_enter Tryd.func82, Tryd.ntmps82
      go_wp2_with fail
      refine (refGet_any _ _ _ _ _ _ _ hr hn).mono ?_
      rintro e w' ⟨rfl, rfl⟩
      rw [Hx.out, He.out]
      go_wp2_with fail
      go_ret3
      exact ⟨ret3 (by rw [Hx.out]; exact hz.out) rfl He.out.symm, rfl⟩
  · have F := Lib.hid (g_err he)
    have hne : (gE l at_ != 0) = true := by simp [he]
    clear he
    go_enter Tryd.func82, Tryd.ntmps82
    go_wp2_with fail
    refine (refGet_any _ _ _ _ _ _ _ hr hn).mono ?_
    rintro e w' ⟨rfl, rfl⟩
    go_wp2_with fail
    go_ret3
    exact ⟨ret3 (by rw [F.out.1]; rfl) F.out.2.symm rfl, rfl⟩

set_option maxRecDepth 100000 in
set_option maxHeartbeats 1600000 in
theorem refGetBytes_any (A : Option Addr) (n c : Nat) (at_ : Int) (l : List UInt8) (w : World) (hr : Rd w w.heap.size A n l) (hn : n ≤ 100000000000) (hnc : n ≤ c) :
    Calls Tryd.prog 51 #[.slice A n c, .int .i64 at_] w (GotBytes w l at_) := by
  have hln := Lib.hid hr.len
  rcases gb_cases l at_ with h | ⟨h, k⟩ | ⟨h, k, m⟩ | ⟨h, k, m⟩
  · have F := Lib.hid (gb_err1 h)
    have hne : (gE l at_ != 0) = true := by simp [h]
    clear h
    go_enter Tryd.func51, Tryd.ntmps51
    go_wp2_with fail
    refine (refGet_any _ _ _ _ _ _ _ hr hn).mono ?_
    rintro e w' ⟨rfl, rfl⟩
    go_wp2_with fail
    go_ret3
    exact gotBytes_none F.out (Below.refl _ _)
  · have F := Lib.hid (gb_err2 h k)
    have H := Lib.hid h
    clear h
    go_enter Tryd.func51, Tryd.ntmps51
    go_wp2_with fail
    refine (refGet_any _ _ _ _ _ _ _ hr hn).mono ?_
    rintro e w' ⟨rfl, rfl⟩
    rw [H.out]
    go_wp2_with fail
    go_ret3
    exact gotBytes_none F.out (Below.refl _ _)
  · have F := Lib.hid (gb_err3 h k m)
    have H := Lib.hid h
    obtain ⟨T, hT, hle⟩ := g_to h
    obtain ⟨N, hN⟩ := Int.eq_ofNat_of_zero_le (gN_nonneg l at_)
    rw [hln.out] at m hle
    rw [hT, hN] at m
    rw [hN] at k
    have HT := Lib.hid hT
    have HN := Lib.hid hN
    have hw : IntKind.i64.wrap (N : Int) = N := IntWalk.i64_in _ (by omega)
    have hgt : (n : Int) < (T : Int) + N := by omega
    clear h hT hN m
    go_enter Tryd.func51, Tryd.ntmps51
    go_wp2_with fail
    refine (refGet_any _ _ _ _ _ _ _ hr hn).mono ?_
    rintro e w' ⟨rfl, rfl⟩
    rw [H.out, HT.out, HN.out]
    go_wp2_with fail
    go_ret3
    exact gotBytes_none F.out (Below.refl _ _)
  · have F := Lib.hid (gb_ok h k m)
    have H := Lib.hid h
    obtain ⟨T, hT, hle⟩ := g_to h
    obtain ⟨N, hN⟩ := Int.eq_ofNat_of_zero_le (gN_nonneg l at_)
    rw [hln.out] at m hle
    rw [hT, hN] at m
    rw [hN] at k
    have HT := Lib.hid hT
    have HN := Lib.hid hN
    have hTn : T + N ≤ n := by omega
    have hNb : N ≤ 1048576 := by omega
    have hle2 : (T : Int) + N ≤ n := by omega
    have eN : T + N - T = N := by omega
    have hcut : Rd w w.heap.size (if c = T then A else A.map (·.add T)) (T + N - T) ((l.drop T).take N) := by rw [eN]; exact hr.mid (i := T) (j := N) (c := c) hTn hnc
    have EN := Lib.hid eN
    clear h hT hN k m eN
    go_enter Tryd.func51, Tryd.ntmps51
    go_wp2_with fail
    refine (refGet_any _ _ _ _ _ _ _ hr hn).mono ?_
    rintro e w' ⟨rfl, rfl⟩
    rw [H.out, HT.out, HN.out]
    go_wp2_with (at_builtin; refine wpList_app rfl _ _ rfl rfl (Own.nil_ w w.heap.size) rfl hcut (by omega) (Nat.le_refl _) ?_; intro A2 c2 w2 o2 g2)
    all_goals
      have b2 := below_nil rfl g2
      go_ret3
      refine ⟨A2, N, c2, ret_sie rfl (by rw [F.out.2.2, HT.out, HN.out]) F.out.1.symm, ?_, b2⟩
      rw [F.out.2.1, HT.out, HN.out, Int.toNat_natCast, Int.toNat_natCast]
      rw [Nat.zero_add, EN.out] at o2
      exact o2
end Go.Proofs.YtejbljopighenaaDoor
namespace Go.Proofs.YtejbljopighenaaDoor
open Go.RowKit
theorem is_rget : isFn Tryd.prog 36 = true := by kernel_rfl
theorem is_rgint : isFn Tryd.prog 82 = true := by kernel_rfl
theorem is_rgb : isFn Tryd.prog 51 = true := by kernel_rfl
theorem is_beg : isFn Tryd.prog 83 = true := by kernel_rfl
theorem is_rvalue : isFn Tryd.prog 75 = true := by kernel_rfl
def bgB (l : List UInt8) (k : Int) : Bool := if gE l 0 ≠ 0 then decide (gE l 0 = 10) else if k = 3 then true else if 1000 < gN l 0 then false else if k = 4 then (l.drop (gTo l 0).toNat).all vis else true
set_option maxRecDepth 100000 in
theorem begins_any (A : Option Addr) (n c B : Nat) (l : List UInt8) (k : Int) (w : World) (hr : Rd w B A n l) (hn : n ≤ 1000000000) :
    Calls Tryd.prog 83 #[.slice A n c, .int .i64 k] w fun en w' => ∃ b, en = .returned (.bool b) ∧ b = bgB l k ∧ w = w' := by
  refine calls_ev (args := [.slice A n c, .int .i64 k]) mixed Tryd.func83 rfl (by kernel_rfl) ?_
  have hln := hr.len
  refine cc is_rget (refGet_any _ _ _ _ 0 _ _ hr (by omega)) ?_
  rintro en w' ⟨rfl, rfl⟩
  refine ⟨_, rfl, ?_⟩
  refine p_ne rfl rfl (fun h0 => ?_) (fun h0 => ?_)
  rotate_left
  · refine p_eq rfl rfl (fun h1 => ?_) (fun h1 => ?_)
    · exact ⟨true, rfl, by unfold bgB; rw [if_pos h0, h1]; rfl, rfl⟩
    · exact ⟨false, rfl, by unfold bgB; rw [if_pos h0, decide_eq_false h1], rfl⟩
  have hb : bgB l k = if k = 3 then true else if 1000 < gN l 0 then false else if k = 4 then (l.drop (gTo l 0).toNat).all vis else true := by
    unfold bgB; rw [if_neg (by simpa using h0)]
  refine p_eq rfl rfl (fun h3 => ?_) (fun h3 => ?_)
  · refine p_eq rfl rfl (fun _ => ?_) (fun h => absurd h3 h)
    exact ⟨true, rfl, by rw [hb, if_pos h3], rfl⟩
  refine p_gt rfl rfl (fun h4 => ?_) (fun h4 => ?_)
  · refine p_eq rfl rfl (fun h => absurd h h3) (fun _ => ?_)
    exact ⟨false, rfl, by rw [hb, if_neg h3, if_pos h4], rfl⟩
  obtain ⟨x, t, hx, hxl, _, hT, _, hle, _⟩ := g_ok h0
  have hx0 : x = 0 := by omega
  subst hx0
  rw [Nat.zero_add] at hT hle
  rw [if_neg h3, if_neg h4, hT, Int.toNat_natCast] at hb
  have hls : (l.drop t).length = n - t := by rw [List.length_drop]; omega
  refine lp Nat (fun i W' => W' = w ∧ i ≤ n - t ∧ (k = 4 → ((l.drop t).take i).all vis = true)) (fun i => [(0, .slice A n c), (1, .int .i64 k), (8, .int .i64 ((t + i : Nat) : Int))]) (fun i => n - t - i) 0 ⟨rfl, by omega, by simp⟩ ⟨rfl, rfl, by rw [Nat.add_zero, ← hT]; rfl, trivial⟩ ?_
  rintro i E1 W1 ⟨rfl, hi, hv⟩
  refine p_len slb rfl ?_
  refine p_lt rfl rfl (fun h => ?_) (fun h => ?_)
  · refine p_eq rfl rfl (fun h5 => ?_) (fun h5 => ?_)
    · have hlt : i < (l.drop t).length := by omega
      obtain ⟨b, off, rfl, hcell⟩ := hr.at_ (k := t + i) (by omega)
      have h8 : at8 l (t + i) = ((l.drop t)[i].toNat : Int) := by rw [← at8_drop, at8_of _ _ hlt]
      have hst := all_take_step hlt (hv h5)
      rw [if_pos h5] at hb
      refine p_at (i := t + i) slb rfl rfl rfl (by omega) ?_
      refine v_load agg_u8 rfl (by rw [Nat.mul_one, Addr.add_lit]; exact hcell) ?_
      refine p_lt rfl rfl (fun h1 => ?_) (fun h1 => ?_)
      · exact ⟨false, rfl, by rw [hb, all_bad hlt (by unfold vis; rw [decide_eq_false (by omega)]; rfl)], rfl⟩
      · refine p_at (i := t + i) slb rfl rfl rfl (by omega) ?_
        refine v_load agg_u8 rfl (by rw [Nat.mul_one, Addr.add_lit]; exact hcell) ?_
        refine p_gt rfl rfl (fun h2 => ?_) (fun h2 => ?_)
        · exact ⟨false, rfl, by rw [hb, all_bad hlt (by unfold vis; rw [decide_eq_false (p := _ ≤ 126) (by omega)]; simp)], rfl⟩
        · refine p_add rfl rfl (w64 (by omega)) ?_
          refine ⟨i + 1, ⟨rfl, by omega, fun _ => ?_⟩, ⟨rfl, rfl, rfl, trivial⟩, by omega⟩
          rw [hst]; unfold vis; rw [decide_eq_true (by omega), decide_eq_true (by omega)]; rfl
    · exact ⟨true, rfl, by rw [hb, if_neg h5], rfl⟩
  · refine ⟨true, rfl, ?_, rfl⟩
    rw [hb]
    by_cases h5 : k = 4
    · have := hv h5
      rw [List.take_of_length_le (by omega)] at this
      rw [if_pos h5, this]
    · rw [if_neg h5]

/-- The same where there is something, and as wrong where there is nothing. -/
def Like (r f : Int × Val × Nat) : Prop := r.1 = f.1 ∧ (r.1 = 0 → r = f)
theorem like_eq {r f : Int × Val × Nat} (h : r = f) : Like r f := by subst h; exact ⟨rfl, fun _ => rfl⟩
/-- What the reference's value comes to. -/
def RGot (w : World) (l : List UInt8) (en : Ending) (w' : World) : Prop := ∃ (v : Val) (k : Int) (s : Bool), en = .returned (.tuple #[vv_ v, .int .i64 k, .bool s]) ∧ Below w.heap.size w w' ∧
  ((vR l 0).1 = 0 → v = (vR l 0).2.1 ∧ k = (vR l 0).2.2 ∧ s = false) ∧ ((vR l 0).1 ≠ 0 → k = 0 ∧ s = decide ((vR l 0).1 = 10))
set_option maxRecDepth 100000 in
set_option maxHeartbeats 1000000 in
theorem rvalue_any (A : Option Addr) (n c : Nat) (l : List UInt8) (w : World) (hr : Rd w w.heap.size A n l) (hn : n ≤ 1000000000) (hnc : n ≤ c) :
    Calls Tryd.prog 75 #[.slice A n c] w (RGot w l) := by
  refine calls_ev (args := [.slice A n c]) mixed Tryd.func75 rfl (by kernel_rfl) ?_
  have hln := hr.len
  have one1 : ∀ v : Val, ∀ u ∈ vc v, u.oneCell' = true := by intro v u hu; exact vcs_one [v] u (by simpa [vcs] using hu)
  have run0 : ∀ {W : World} {g : Nat} (v : Val), Blk W g 61 (vc v) → (loadVar 61 ⟨g, 0, none⟩).run Tryd.prog W = .ok (vv_ v) W := fun v h => run_loadN agg_val (vc v) rfl (h.run 0 _ (fun j v h => by rw [Nat.zero_add]; exact h))
  refine v_allocB _ al_val ?_
  rintro g2 W hg2 hB2 hb2 hsz2
  have hr2 : Rd W g2 A n l := by rw [hg2]; exact hr.below (by rw [← hg2]; exact hb2)
  have hBel : Below w.heap.size w W := by rw [← hg2]; exact hb2
  -- nothing: stored, told
  refine p_len slb rfl ?_
  refine p_eq rfl rfl (fun h0 => ?_) (fun h0 => ?_)
  · refine p_build (vs := vc ⟨0, 0, []⟩) pl_val zv rfl ?_
    refine v_storeA (vc ⟨0, 0, []⟩) sz_val rfl rfl rfl (one1 _) hB2 rfl ?_
    rintro W3 hB3 hg3 hs3
    have hv : (vR l 0).1 = 10 := by unfold vR; rw [if_pos (by omega)]; rfl
    refine ⟨⟨_, _, rfl, run0 _ hB3, ?_⟩⟩
    exact ⟨⟨0, 0, []⟩, 0, true, rfl, hBel.grown hg3 hBel.size (fun k hk => by injection hk with hk; omega), (fun h => by rw [hv] at h; cases h), (fun _ => ⟨rfl, by rw [hv]; rfl⟩)⟩
  have hn0 : 0 < n := by omega
  obtain ⟨b, off, rfl, hbb, hcells⟩ := hr2.cells hn0
  have hc0 := hcells 0 hn0
  rw [Nat.add_zero] at hc0
  have h80 := at8_lo l 0
  have h81 := at8_hi l 0
  obtain ⟨k, hk⟩ : ∃ k, k = at8 l 0 := ⟨_, rfl⟩
  rw [← hk] at h80 h81 hc0
  refine p_at (i := 0) slb rfl rfl rfl hn0 ?_
  refine v_load agg_u8 rfl hc0 ?_
  refine v_cvt (by kernel_rfl) (by kernel_rfl) rfl (w64 (by omega)) ?_
  refine p_build (vs := vc ⟨k, 0, []⟩) pl_val zv rfl ?_
  refine v_allocB _ al_val ?_
  rintro g3 W2 hg3 hB3 hb3 hsz3
  refine v_storeA (vc ⟨k, 0, []⟩) sz_val rfl rfl rfl (one1 _) hB3 rfl ?_
  rintro W3 hB33 hg33 hsz33
  have B3 : Below g3 W W3 := hb3.grown hg33 (by omega) (fun k hk => by injection hk with hk; omega)
  have hB2' := hB2.belowB B3 (by omega)
  have hr3 : Rd W3 g2 (some ⟨b, off, none⟩) n l := hr2.below (B3.mono (by omega))
  have hBel3 := hBel.trans (B3.mono (by omega))
  have hs3 := hBel3.size
  replace hB33 : Blk W3 g3 61 [.int .i64 k, .int .i64 0, .string (sb [])] := hB33
  have hc3 : W3.cell? ⟨b, off, none⟩ = some (.int .u8 k) := (B3.cell (p := ⟨b, off, none⟩) (by show b < g3; omega)).trans hc0
  have hG : gE (l.drop 1) ((0 : Nat) : Int) = gE l ((1 : Nat) : Int) ∧ gN (l.drop 1) ((0 : Nat) : Int) = gN l ((1 : Nat) : Int) := gE_drop (by omega) 0
  -- a way out with nothing
  have out : ∀ (W' : World) (s : Bool), Below w.heap.size w W' → Blk W' g2 61 (vc ⟨0, 0, []⟩) → (vR l 0).1 ≠ 0 → s = decide ((vR l 0).1 = 10) → RGot w l (.returned (.tuple #[vv_ ⟨0, 0, []⟩, .int .i64 0, .bool s])) W' :=
    fun W' s hb _ h0 hs => ⟨⟨0, 0, []⟩, 0, s, rfl, hb, fun h => absurd h h0, fun _ => ⟨rfl, hs⟩⟩
  refine evOps_nil ?_
  refine nx ?_
  refine cutS Unit (fun _ W => W = W3) (fun _ => [(0, .slice (some ⟨b, off, none⟩) n c), (2, .pointer (some ⟨g2, 0, none⟩)), (5, .pointer (some ⟨g3, 0, none⟩)), (6, .int .i64 1)]) ⟨(), rfl, rfl, rfl, rfl, rfl, trivial⟩ ?_
  rintro - E4 W4 rfl
  refine cutS (Val × Nat) (fun s W => Below w.heap.size w W ∧ Blk W g2 61 (vc ⟨0, 0, []⟩) ∧ Blk W g3 61 (vc s.1) ∧ Like (vR l 0) (fin s.1 s.2) ∧ s.1.s.length ≤ 1000000000) (fun s => [(2, .pointer (some ⟨g2, 0, none⟩)), (5, .pointer (some ⟨g3, 0, none⟩)), (6, .int .i64 s.2)]) ?_ ?_
  · refine p_at (i := 0) slb rfl rfl rfl hn0 ?_
    refine v_load agg_u8 rfl hc3 ?_
    refine p_eq rfl rfl (fun e1 => ?_) (fun e1 => ?_)
    · subst e1
      exact ⟨(⟨1, 0, []⟩, 1), ⟨hBel3, hB2', hB33, like_eq (by unfold vR; rw [if_neg (by omega), if_pos hk.symm]; rfl), by simp⟩, rfl, rfl, rfl, trivial⟩
    refine p_eq rfl rfl (fun e2 => ?_) (fun e2 => ?_)
    · subst e2
      refine p_len slb rfl ?_
      refine p_eq rfl rfl (fun h1 => ?_) (fun h1 => ?_)
      · have hv : vR l 0 = no 10 := by unfold vR; rw [if_neg (by omega), if_neg (by omega), if_pos hk.symm, if_pos (by omega)]
        refine p_build (vs := vc ⟨0, 0, []⟩) pl_val zv rfl ?_
        refine v_storeA (vc ⟨0, 0, []⟩) sz_val rfl rfl rfl (one1 _) hB2' rfl ?_
        rintro W5 hB5 hg5 hs5
        refine ⟨⟨_, _, rfl, run0 _ hB5, ?_⟩⟩
        exact out W5 true (hBel3.grown hg5 hs3 (fun k hk => by injection hk with hk; omega)) hB5 (by rw [hv]; decide) (by rw [hv]; rfl)
      · have h82 := at8_lo l 1
        have h83 := at8_hi l 1
        have hc31 : W4.cell? ⟨b, off + 1, none⟩ = some (.int .u8 (at8 l 1)) := (B3.cell (p := ⟨b, off + 1, none⟩) (by show b < g3; omega)).trans (hcells 1 (by omega))
        refine p_at (i := 1) slb rfl rfl rfl (by omega) ?_
        refine v_load agg_u8 rfl hc31 ?_
        refine v_cvt (by kernel_rfl) (by kernel_rfl) rfl (w64 (by omega)) ?_
        refine p_fld fv1 rfl ?_
        refine v_set (.int .i64 (at8 l 1)) sz_int hB33 rfl rfl rfl (by show 1 < 3; omega) ?_
        rintro W5 hB5 hg5 hs5
        refine ⟨(⟨2, at8 l 1, []⟩, 2), ⟨hBel3.grown hg5 hs3 (fun k hk => by injection hk with hk; omega), hB2'.grownN hg5 (by omega), hB5, ?_, by simp⟩, rfl, rfl, rfl, trivial⟩
        refine like_eq ?_
        unfold vR; rw [if_neg (by omega), if_neg (by omega), if_pos hk.symm, if_neg (by omega)]
    refine p_eq rfl rfl (fun e3 => ?_) (fun e3 => ?_)
    · subst e3
      refine cc is_rgint (refGetInt_any _ _ _ _ ((1 : Nat) : Int) _ _ hr3 (by omega)) ?_
      rintro en w' ⟨rfl, rfl⟩
      refine ⟨_, rfl, ?_⟩
      refine p_ne rfl rfl (fun h0 => ?_) (fun h0 => ?_)
      · obtain ⟨x, t, hx, hxl, _, hT, _⟩ := g_ok h0
        refine p_fld fv1 rfl ?_
        refine v_set (.int .i64 (zag (gN l ((1 : Nat) : Int)))) sz_int hB33 rfl rfl rfl (by show 1 < 3; omega) ?_
        rintro W5 hB5 hg5 hs5
        refine ⟨(⟨3, zag (gN l ((1 : Nat) : Int)), []⟩, (gTo l ((1 : Nat) : Int)).toNat), ⟨hBel3.grown hg5 hs3 (fun k hk => by injection hk with hk; omega), hB2'.grownN hg5 (by omega), hB5, ?_, by simp⟩, rfl, rfl, ?_, trivial⟩
        · refine like_eq ?_
          unfold vR; rw [if_neg (by omega), if_neg (by omega), if_neg (by omega), if_pos hk.symm, Nat.zero_add, if_neg (by simpa using h0)]; rfl
        · show Value.int .i64 (gTo l ((1 : Nat) : Int)) = .int .i64 (((gTo l ((1 : Nat) : Int)).toNat : Nat) : Int)
          rw [hT]; rfl
      · have hv : vR l 0 = no (gE l ((1 : Nat) : Int)) := by unfold vR; rw [if_neg (by omega), if_neg (by omega), if_neg (by omega), if_pos hk.symm, Nat.zero_add, if_pos h0]
        refine p_build (vs := vc ⟨0, 0, []⟩) pl_val zv rfl ?_
        refine p_slice (i := 1) slb rfl (bnd_i rfl) rfl rfl rfl (by omega) hnc (Nat.le_refl _) ?_
        refine cc is_beg (begins_any _ _ _ _ _ 3 _ (hr3.sle (i := 1) (m := c) (by omega) hnc) (by omega)) ?_
        rintro en w' ⟨s, rfl, hs, rfl⟩
        refine ⟨_, rfl, ?_⟩
        have hs' : s = decide ((vR l 0).1 = 10) := by
          rw [hs, hv]; unfold bgB
          have h00 : gE (l.drop 1) 0 = gE l ((1 : Nat) : Int) := hG.1
          rw [h00, if_pos h0]; rfl
        refine v_storeA (vc ⟨0, 0, []⟩) sz_val rfl rfl rfl (one1 _) hB2' rfl ?_
        rintro W5 hB5 hg5 hs5
        refine ⟨⟨_, _, rfl, run0 _ hB5, ?_⟩⟩
        exact out W5 s (hBel3.grown hg5 hs3 (fun k hk => by injection hk with hk; omega)) hB5 (by rw [hv]; exact h0) hs'
    refine p_eq rfl rfl (fun e4 => ?_) (fun e4 => ?_)
    rotate_left
    refine p_eq rfl rfl (fun e5 => ?_) (fun e5 => ?_)
    rotate_left
    · have hv : vR l 0 = no 11 := by unfold vR; rw [if_neg (by omega), if_neg (by omega), if_neg (by omega), if_neg (by omega), if_neg (by omega)]
      refine ⟨(⟨k, 0, []⟩, 1), ⟨hBel3, hB2', hB33, ?_, by simp⟩, rfl, rfl, rfl, trivial⟩
      have hrf : rightB ⟨k, 0, []⟩ = false := by unfold rightB; rw [if_neg e1, if_neg e2, if_neg e3, if_neg e4, if_neg e5]
      refine ⟨by rw [hv]; unfold fin; rw [hrf]; rfl, fun h => by rw [hv] at h; cases h⟩
    all_goals
      have h45 : at8 l 0 = 4 ∨ at8 l 0 = 5 := by omega
      have hv : vR l 0 = (if gE l ((1 : Nat) : Int) ≠ 0 then no (gE l ((1 : Nat) : Int)) else if 1000 < gN l ((1 : Nat) : Int) then no 11
        else if gbE l ((1 : Nat) : Int) ≠ 0 then no (if at8 l 0 = 4 ∧ (l.drop (gTo l ((1 : Nat) : Int)).toNat).all vis = false then 11 else 10)
        else fin ⟨at8 l 0, 0, gbL l ((1 : Nat) : Int)⟩ (gbTo l ((1 : Nat) : Int)).toNat) := by
        unfold vR; rw [if_neg (by omega), if_neg (by omega), if_neg (by omega), if_neg (by omega), if_pos h45]
      refine cc is_rgb (refGetBytes_any _ _ _ ((1 : Nat) : Int) _ _ (hr3.more (by omega)) (by omega) hnc) ?_
      rintro en W5 ⟨A5, n5, c5, rfl, o5, b5⟩
      refine ⟨_, rfl, ?_⟩
      have hB25 := hB2'.below b5
      have hB35 := hB33.below b5
      have hb5 := hBel3.trans (b5.mono hs3)
      have hs5 := b5.size
      have hr5 : Rd W5 g2 (some ⟨b, off, none⟩) n l := hr3.below (b5.mono (by omega))
      have hc5 : W5.cell? ⟨b, off, none⟩ = some (.int .u8 k) := (b5.cell (p := ⟨b, off, none⟩) (by show b < W4.heap.size; omega)).trans hc3
      refine p_ne rfl rfl (fun h0 => ?_) (fun h0 => ?_)
      · have h1 : gE l ((1 : Nat) : Int) = 0 := by
          by_cases h : gE l ((1 : Nat) : Int) = 0
          · exact h
          · rw [(gb_err1 h).1] at h0; exact absurd h0 h
        refine v_str rfl o5.rd ?_
        refine p_fld fv2 rfl ?_
        refine v_set (.string (sb (gbL l ((1 : Nat) : Int)))) sz_str hB35 rfl rfl rfl (by show 2 < 3; omega) ?_
        rintro W6 hB6 hg6 hs6
        have hgb := gbL_len l ((1 : Nat) : Int)
        refine ⟨(⟨k, 0, gbL l ((1 : Nat) : Int)⟩, (gbTo l ((1 : Nat) : Int)).toNat), ⟨hb5.grown hg6 (by omega) (fun k hk => by injection hk with hk; omega), hB25.grownN hg6 (by omega), hB6, ?_, by show (gbL l _).length ≤ _; omega⟩, rfl, rfl, ?_, trivial⟩
        · rw [hv, if_neg (by simpa using h1)]
          by_cases hN : 1000 < gN l ((1 : Nat) : Int)
          · rw [if_pos hN]
            have hlen : ((gbL l ((1 : Nat) : Int)).length : Int) = gN l ((1 : Nat) : Int) := by
              rcases gb_cases l ((1 : Nat) : Int) with h | ⟨h, q⟩ | ⟨h, q, m⟩ | ⟨h, q, m⟩
              · exact absurd h1 h
              · rw [(gb_err2 h q).1] at h0; cases h0
              · rw [(gb_err3 h q m).1] at h0; cases h0
              · rw [(gb_ok h q m).2.1, List.length_take, List.length_drop]
                obtain ⟨x, t, hx, hxl, _, hT, _⟩ := g_ok h
                rw [hT] at m ⊢
                omega
            have hrf : rightB ⟨k, 0, gbL l ((1 : Nat) : Int)⟩ = false := by
              rw [right_bad]
              have : badB ⟨k, 0, gbL l ((1 : Nat) : Int)⟩ = true := by
                unfold badB
                rw [decide_eq_true (p := 1000 < _) (by show (1000 : Int) < ((gbL l ((1 : Nat) : Int)).length : Int); omega)]
                simp
              rw [this]; rfl
            exact ⟨by unfold fin; rw [hrf]; rfl, fun h => by cases h⟩
          · rw [if_neg hN, if_neg (by simpa using h0), hk]
            exact like_eq rfl
        · show Value.int .i64 (gbTo l ((1 : Nat) : Int)) = .int .i64 (((gbTo l ((1 : Nat) : Int)).toNat : Nat) : Int)
          obtain ⟨x, t, hx, hxl, _, hT, _⟩ := g_ok h1
          have := gN_nonneg l ((1 : Nat) : Int)
          have e : gbTo l ((1 : Nat) : Int) = ((x + t : Nat) : Int) + gN l ((1 : Nat) : Int) := by unfold gbTo; rw [if_pos h0, hT]
          rw [Int.toNat_of_nonneg (by omega)]
      · refine dr (fun W => W.cell? ⟨b, off, none⟩ = some (.int .u8 k)) [(0, true), (1, true), (2, true), (3, true), (4, true), (5, true), (6, true), (7, false), (8, false), (9, true), (10, true)] (by kernel_rfl) hc5 ?_
        refine p_build (vs := vc ⟨0, 0, []⟩) pl_val zv rfl ?_
        refine p_slice (i := 1) slb rfl (bnd_i rfl) rfl rfl rfl (by omega) hnc (Nat.le_refl _) ?_
        refine p_at (i := 0) slb rfl rfl rfl hn0 ?_
        refine t_load agg_u8 rfl (fun W h => h) ?_
        refine t_cvt (by kernel_rfl) (by kernel_rfl) rfl (w64 (by omega)) ?_
        refine cc is_beg (begins_any _ _ _ _ _ k _ (hr5.drew.sle (i := 1) (m := c) (by omega) hnc) (by omega)) ?_
        rintro en w' ⟨s, rfl, hs, rfl⟩
        refine ⟨_, rfl, hc5, ?_⟩
        refine v_storeA (vc ⟨0, 0, []⟩) sz_val rfl rfl rfl (one1 _) hB25.drew rfl ?_
        rintro W6 hB6 hg6 hs6
        have hc6 : W6.cell? ⟨b, off, none⟩ = some (.int .u8 k) := (World.cell?_of_block (hg6.block b (by show b < W5.heap.size; omega) (fun e => by injection e with e; omega))).trans hc5
        refine ⟨hc6, ?_⟩
        refine ⟨⟨_, _, rfl, run0 _ hB6, ?_⟩⟩
        have h00 : gE (l.drop 1) 0 = gE l ((1 : Nat) : Int) := hG.1
        have h01 : gN (l.drop 1) 0 = gN l ((1 : Nat) : Int) := hG.2
        have key : (vR l 0).1 ≠ 0 ∧ s = decide ((vR l 0).1 = 10) := by
          rw [hs, hv]
          unfold bgB
          rw [h00, h01]
          by_cases c1 : gE l ((1 : Nat) : Int) ≠ 0
          · rw [if_pos c1, if_pos c1]; exact ⟨c1, rfl⟩
          rw [if_neg c1, if_neg c1, if_neg e3]
          by_cases c2 : 1000 < gN l ((1 : Nat) : Int)
          · rw [if_pos c2, if_pos c2]; exact ⟨by simp [no], rfl⟩
          rw [if_neg c2, if_neg c2, if_pos h0, ← hk]
          have ht := gTo_drop (l := l) (p := 1) (by omega) 0 (by simpa using c1)
          obtain ⟨x, t, hx, hxl, _, hT, _, hle, _⟩ := g_ok (l := l.drop 1) (a := 0) (by rw [h00]; simpa using c1)
          have e : (l.drop 1).drop (gTo (l.drop 1) 0).toNat = l.drop (gTo l ((1 : Nat) : Int)).toNat := by
            have ht' : gTo l ((1 : Nat) : Int) = 1 + gTo (l.drop 1) 0 := ht
            rw [List.drop_drop, ht', hT]; congr 1
          rw [e]
          by_cases c4 : k = 4
          · rw [if_pos c4]
            cases hvz : (l.drop (gTo l ((1 : Nat) : Int)).toNat).all vis
            · rw [if_pos ⟨c4, rfl⟩]; exact ⟨by simp [no], rfl⟩
            · rw [if_neg (by simp)]; exact ⟨by simp [no], rfl⟩
          · rw [if_neg c4, if_neg (fun h => c4 h.1)]; exact ⟨by simp [no], rfl⟩
        exact out W6 s (hb5.drew.grown hg6 (by have := hb5.size; exact this) (fun k hk => by injection hk with hk; omega)) hB6 key.1 key.2
  · rintro ⟨v, m⟩ E5 W5 ⟨hb5, hB52, hB53, hv, hvl⟩
    dsimp only at hB53 hv hvl
    have hs5 := hb5.size
    refine v_loadN (vc v) agg_val rfl rfl (hB53.run 0 _ (fun j v h => by rw [Nat.zero_add]; exact h)) ?_
    refine cc is_chk2 (chk2_any v W5 (by omega)) ?_
    rintro en W6 ⟨rfl, b6⟩
    refine ⟨_, rfl, ?_⟩
    have hb6 := hb5.trans (b6.mono hs5)
    have hB62 := hB52.below b6
    have hB63 := hB53.below b6
    refine p_ne rfl rfl (fun h0 => ?_) (fun h0 => ?_)
    · refine v_loadN (vc v) agg_val rfl rfl (hB63.run 0 _ (fun j v h => by rw [Nat.zero_add]; exact h)) ?_
      refine v_storeA (vc v) sz_val rfl rfl rfl (one1 _) hB62 rfl ?_
      rintro W7 hB7 hg7 hs7
      refine ⟨⟨_, _, rfl, run0 _ hB7, ?_⟩⟩
      have hff : fin v m = (0, v, m) := by unfold fin; rw [chkE_eq h0]; rfl
      have hf : vR l 0 = (0, v, m) := by rw [← hff]; exact hv.2 (hv.1.trans (by rw [hff]))
      exact ⟨v, m, false, rfl, hb6.grown hg7 hb6.size (fun k hk => by injection hk with hk; omega), fun _ => by rw [hf]; exact ⟨rfl, rfl, rfl⟩, fun h => absurd (by rw [hf]) h⟩
    · have hf : (vR l 0).1 = 11 := by rw [hv.1]; unfold fin; rw [(chkE_ne h0).1]; rfl
      refine p_build (vs := vc ⟨0, 0, []⟩) pl_val zv rfl ?_
      refine v_storeA (vc ⟨0, 0, []⟩) sz_val rfl rfl rfl (one1 _) hB62 rfl ?_
      rintro W7 hB7 hg7 hs7
      refine ⟨⟨_, _, rfl, run0 _ hB7, ?_⟩⟩
      exact out W7 false (hb6.grown hg7 hb6.size (fun k hk => by injection hk with hk; omega)) hB7 (by rw [hf]; decide) (by rw [hf]; rfl)
end Go.Proofs.YtejbljopighenaaDoor
namespace Go.Proofs.YtejbljopighenaaDoor
open Go.RowKit
set_option maxRecDepth 100000 in
set_option maxHeartbeats 1000000 in
theorem rdecode_any (A : Option Addr) (n c : Nat) (l : List UInt8) (w : World) (hr : Rd w w.heap.size A n l) (hn : n ≤ 1000000000) (hnc : n ≤ c) :
    Calls Tryd.prog 65 #[.slice A n c] w (DecG w l) := by
  refine calls_ev (args := [.slice A n c]) mixed Tryd.func65 rfl (by kernel_rfl) ?_
  have hln := hr.len
  refine cc is_rget (refGet_any _ _ _ _ 0 _ _ hr (by omega)) ?_
  rintro en w' ⟨rfl, rfl⟩
  refine ⟨_, rfl, ?_⟩
  refine p_ne rfl rfl (fun h0 => ?_) (fun h0 => ?_)
  rotate_left
  · have e1 : decE l = gE l 0 := by unfold decE; rw [if_pos h0]
    have e2 : decL l = [] := by unfold decL; rw [if_neg (by rw [e1]; exact h0)]
    exact ⟨none, 0, 0, by rw [e1]; rfl, by rw [e2]; exact OwnV.nil_ _ _, Below.refl _ _⟩
  refine p_gt rfl rfl (fun h1 => ?_) (fun h1 => ?_)
  · have e1 : decE l = 11 := by unfold decE; rw [if_neg (by simpa using h0), if_pos h1]
    have e2 : decL l = [] := by unfold decL; rw [if_neg (by rw [e1]; decide)]
    exact ⟨none, 0, 0, by rw [e1]; rfl, by rw [e2]; exact OwnV.nil_ _ _, Below.refl _ _⟩
  obtain ⟨x, t, hx, hxl, _, hT, _, hle, _⟩ := g_ok h0
  obtain ⟨N, hN⟩ := Int.eq_ofNat_of_zero_le (gN_nonneg l 0)
  have hx0 : x = 0 := by omega
  subst hx0
  rw [Nat.zero_add] at hT hle
  have h00 : Half l N 0 t [] := by
    refine ⟨rfl, by omega, hle, ?_⟩
    rw [hT, Nat.sub_zero, Int.toNat_natCast]; simp
  refine lp (Nat × Nat × List Val × Option Addr × Nat × Nat) (fun s W => Below w.heap.size w W ∧ OwnV W w.heap.size s.2.2.2.1 s.2.2.2.2.1 s.2.2.2.2.2 s.2.2.1 ∧ Half l N s.1 s.2.1 s.2.2.1)
    (fun s => [(0, .slice A n c), (4, .int .u64 (gN l 0)), (5, .int .i64 s.2.1), (7, .slice s.2.2.2.1 s.2.2.2.2.1 s.2.2.2.2.2)]) (fun s => N - s.1) (0, t, [], none, 0, 0)
    ⟨Below.refl _ _, OwnV.nil_ _ _, h00⟩ ⟨rfl, rfl, by show Value.int .i64 (gTo l 0) = .int .i64 t; rw [hT], rfl, trivial⟩ ?_
  rintro ⟨i, a, vs, A3, n3, c3⟩ E0 W1 ⟨hb1, o1, hH⟩
  dsimp only at o1 hH
  have hs1 := hb1.size
  have hr1 : Rd W1 w.heap.size A n l := hr.below hb1
  have hn3 : n3 = i := by have := o1.1; rw [vcs_len, hH.1] at this; omega
  have hal := hH.2.2.1
  have hiN := hH.2.1
  refine p_len slv rfl ?_
  refine v_cvt u_int u_u64 rfl (wu64 (by show 0 ≤ (n3 : Int) ∧ (n3 : Int) < _; omega)) ?_
  refine p_lt rfl rfl (fun h => ?_) (fun h => ?_)
  · replace h : (n3 : Int) < gN l 0 := h
    have hiN : i < N := by omega
    refine p_slice (i := a) slb rfl (bnd_i rfl) rfl rfl rfl (by omega) hnc (Nat.le_refl _) ?_
    refine cc is_rvalue (rvalue_any _ _ _ _ _ ((hr1.sle (i := a) (m := c) (by omega) hnc).more hs1) (by omega) (by omega)) ?_
    rintro en W2 ⟨v, k, s, rfl, b2, hok, hno⟩
    refine ⟨_, rfl, ?_⟩
    have hd := vR_drop hal
    have hb2 := hb1.trans (b2.mono hs1)
    refine v_allocB _ al_val ?_
    rintro g W3 hg hB hb3 hsz3
    refine v_storeA (vc v) sz_val rfl rfl rfl (by intro u hu; exact vcs_one [v] u (by simpa [vcs] using hu)) hB rfl ?_
    rintro W4 hB4 hg4 hs4
    have b4 : Below g W2 W4 := hb3.grown hg4 (by omega) (fun k hk => by injection hk with hk; omega)
    have hb4 := hb2.trans (b4.mono (by have := hb2.size; omega))
    by_cases hv : (vR (l.drop a) 0).1 = 0
    · obtain ⟨hv1, hv2, hv3⟩ := hok hv
      subst hv3
      obtain ⟨d1, d2⟩ := hd.2 (hd.1.symm.trans hv)
      have hvl := vR_ok (l := l.drop a) (by rw [List.length_drop]; omega) hv
      refine p_eq rfl rfl (fun hk => by rw [hv2] at hk; omega) (fun hk => ?_)
      refine p_eq rfl rfl (fun hk => by rw [hv2] at hk; omega) (fun hk => ?_)
      refine v_loadN (vc v) agg_val rfl rfl (hB4.run 0 _ (fun j v h => by rw [Nat.zero_add]; exact h)) ?_
      refine v_bslice (vs := vc v) slv zv rfl (by decide) rfl ?_
      rintro g5 W5 hg5 hB5 hb5 hsz5
      have b5 : Below W1.heap.size W1 W5 := (b2.trans (b4.mono (by have := b2.size; omega))).trans (hb5.mono (by have := b2.size; omega))
      have o5 : OwnV W5 w.heap.size A3 n3 c3 vs := ownsRow_below o1 b5
      have hs5 := b5.size
      refine v_appG u_sv inf_val rfl (by decide) rfl o5 rfl (Reads.blk (size := 3) (n := 1) hB5 rfl) (fun u hu => vcs_one [v] u (by simpa [vcs] using hu)) ⟨by show n3 + 1 ≤ _; omega, by decide⟩ (by omega) ?_
      rintro A6 c6 W6 o6 hg6
      have b6 : Below w.heap.size w W6 := (hb1.trans (b5.mono hs1)).grown hg6 (by omega) (fun k hk => o5.lo k hk)
      replace o6 : OwnV W6 w.heap.size A6 (n3 + 1) c6 (vs ++ [v]) := by unfold OwnV; rw [vcs_append]; simpa [vcs] using o6
      have hH2 := half_step hH hiN (by omega) (hd.1.symm.trans hv)
      rw [List.length_drop] at hvl
      refine p_add rfl rfl (w64 (by show _ ≤ (a : Int) + k ∧ (a : Int) + k ≤ _; omega)) ?_
      refine ⟨(i + 1, (vR l a).2.2, vs ++ [(vR l a).2.1], A6, n3 + 1, c6), ⟨b6, by rw [← d1, ← hv1]; exact o6, hH2⟩, ⟨rfl, rfl, ?_, rfl, trivial⟩, by show N - (i + 1) < N - i; omega⟩
      show Value.int .i64 ((a : Int) + k) = .int .i64 (((vR l a).2.2 : Nat) : Int)
      rw [d2, hv2]; rfl
    · obtain ⟨hv1, hv2⟩ := hno hv
      have hbad := half_bad hH hiN (by rw [← hd.1]; exact hv)
      have e1 : decE l = (vR l a).1 := by
        unfold decE decR
        rw [if_neg (by simpa using h0), if_neg h1, hN, Int.toNat_natCast, hbad, if_pos (by rw [← hd.1]; exact hv)]
      have e2 : decL l = [] := by unfold decL; rw [if_neg (by rw [e1, ← hd.1]; exact hv)]
      have e3 : (vR l a).1 = 10 ∨ (vR l a).1 = 11 := by
        have ne : (vR l a).1 ≠ 0 := by rw [← hd.1]; exact hv
        exact vR_err ne
      refine p_eq rfl rfl (fun hk => ?_) (fun hk => absurd hv1 hk)
      cases s
      · refine p_eq rfl rfl (fun hk => ?_) (fun hk => absurd hv1 hk)
        have e4 : (vR l a).1 = 11 := by
          rcases e3 with h | h
          · rw [hd.1, h] at hv2; cases hv2
          · exact h
        exact ⟨none, 0, 0, by rw [e1, e4]; rfl, by rw [e2]; exact OwnV.nil_ _ _, hb4⟩
      · have e4 : (vR l a).1 = 10 := by rw [← hd.1]; exact of_decide_eq_true hv2.symm
        exact ⟨none, 0, 0, by rw [e1, e4]; rfl, by rw [e2]; exact OwnV.nil_ _ _, hb4⟩
  · replace h : ¬ (n3 : Int) < gN l 0 := h
    have hiN : i = N := by omega
    subst hiN
    have hend := half_end hH
    have hR : decR l = (0, vs, a) := by unfold decR; rw [hN, Int.toNat_natCast, hend]
    refine p_len slb rfl ?_
    refine p_ne rfl rfl (fun h4 => ?_) (fun h4 => ?_)
    · replace h4 : (a : Int) = n := h4
      have e1 : decE l = 0 := by unfold decE; rw [if_neg (by simpa using h0), if_neg h1, hR, if_neg (by simp), if_neg (by show ¬ a < l.length; omega)]
      have e2 : decL l = vs := by unfold decL; rw [if_pos e1, hR]
      exact ⟨A3, n3, c3, by rw [e1]; rfl, by rw [e2]; exact o1, hb1⟩
    · replace h4 : ¬ (a : Int) = n := h4
      have e1 : decE l = 11 := by unfold decE; rw [if_neg (by simpa using h0), if_neg h1, hR, if_neg (by simp), if_pos (by show a < l.length; omega)]
      have e2 : decL l = [] := by unfold decL; rw [if_neg (by rw [e1]; decide)]
      exact ⟨none, 0, 0, by rw [e1]; rfl, by rw [e2]; exact OwnV.nil_ _ _, hb1⟩
end Go.Proofs.YtejbljopighenaaDoor
namespace Go.Proofs.YtejbljopighenaaDoor
open Go.RowKit

section
variable {P : Program} {E : Env} {d : Option Nat} {ty : TypeId} {p : String} {af : Array Edge} {g : Option (Nat × Bool)} {x y : Operand} {t u : TypeId} {k : Value → Prop}
theorem p_slt {s1 s2 : ByteArray} (hx : val E x = .string s1) (hy : val E y = .string s2) (h1 : Op.bytesLess s1.toList s2.toList = true → k (.bool true)) (h2 : Op.bytesLess s1.toList s2.toList = false → k (.bool false)) : VPure P E { dst := d, op := .binOp .lss t x y u, type := ty, pos := p, after := af, guard := g } k := by
  refine pp (v := .bool (Op.bytesLess s1.toList s2.toList)) (fun w => ?_) ?_
  · simp only [execOp, hx, hy]
    simp [eqGuard, binOp, Op.stringOp]
  · cases h : Op.bytesLess s1.toList s2.toList
    · exact h2 h
    · exact h1 h
end
theorem less_irrefl : ∀ l : List UInt8, Op.bytesLess l l = false
  | [] => rfl
  | a :: l => by unfold Op.bytesLess; rw [less_irrefl l]; simp
theorem f_val : (Tryd.prog.fieldsOf 61).toList.map (fun f => (f.name != "_", f.type, f.offset)) = [(true, 3, 0), (true, 3, 1), (true, 9, 2)] := by kernel_rfl
theorem sh_val : Tryd.prog.stoodInHeld 61 = false := by kernel_rfl
theorem st_val : Tryd.prog.underlying 61 = some (.struct (Tryd.prog.fieldsOf 61)) := by kernel_rfl
theorem eg_val : Tryd.prog.eqGuardType Tryd.prog.depth 61 = false := by kernel_rfl
theorem ui : Tryd.prog.underlying 3 = some (.int .i64) := by kernel_rfl
theorem Val.ext_iff' {a b : Val} : a = b ↔ a.k = b.k ∧ a.n = b.n ∧ a.s = b.s := by
  cases a; cases b; simp
theorem len3 {α : Type} : ∀ l : List α, l.length = 3 → ∃ a b c, l = [a, b, c]
  | [a, b, c], _ => ⟨a, b, c, rfl⟩
  | [], h => by simp at h
  | [_], h => by simp at h
  | [_, _], h => by simp at h
  | _ :: _ :: _ :: _ :: _, h => by simp at h
theorem run_veq (a b : Val) (w : World) : (Op.equalIn 10000 61 (vv_ a) (vv_ b)).run Tryd.prog w = .ok (decide (a.k = b.k) && (decide (a.n = b.n) && decide (a.s = b.s))) w := by
  unfold vv_
  rw [run_equalIn_struct (P := Tryd.prog) w 9999 _ _ _ st_val sh_val]
  have hf := f_val
  generalize (Tryd.prog.fieldsOf 61).toList = fs at hf
  have hl := congrArg List.length hf
  simp only [List.length_map, List.length_cons, List.length_nil] at hl
  obtain ⟨f0, f1, f2, rfl⟩ := len3 _ hl
  · simp only [List.map_cons, List.map_nil, List.cons.injEq, Prod.mk.injEq, and_true] at hf
    obtain ⟨⟨n0, t0, o0⟩, ⟨n1, t1, o1⟩, ⟨n2, t2, o2⟩⟩ := hf
    have ag : (isAgg 3).run Tryd.prog w = .ok false w := (aggOf_run agg_int w).1
    have ags : (isAgg 9).run Tryd.prog w = .ok false w := (aggOf_run agg_str w).1
    have pt : ∀ (c : Val) (w' : World), w' = w → (part 3 (vc c).toArray 0).run Tryd.prog w' = .ok (.int .i64 c.k) w' ∧ (part 3 (vc c).toArray 1).run Tryd.prog w' = .ok (.int .i64 c.n) w' ∧ (part 9 (vc c).toArray 2).run Tryd.prog w' = .ok (.string (sb c.s)) w' := by
      rintro c w' rfl
      refine ⟨?_, ?_, ?_⟩
      · simp only [part, Sem.run_bind, ag, Result.andThen_ok]; rfl
      · simp only [part, Sem.run_bind, ag, Result.andThen_ok]; rfl
      · simp only [part, Sem.run_bind, ags, Result.andThen_ok]; rfl
    have q0 : f0.name ≠ "_" := by simpa using n0
    have q1 : f1.name ≠ "_" := by simpa using n1
    have q2 : f2.name ≠ "_" := by simpa using n2
    have es : ((sb a.s).toList == (sb b.s).toList) = decide (a.s = b.s) := by
      rw [Bool.eq_iff_iff]; simp [sb_toList]
    have ei : ∀ x y : Int, (x == y) = decide (x = y) := fun x y => by rw [Bool.eq_iff_iff]; simp
    rw [Op.eqFields, if_pos q0, t0, o0]
    simp only [Sem.run_bind, (pt a w rfl).1, (pt b w rfl).1, Result.andThen_ok, run_equalIn_int w 9998 3 .i64 .i64 a.k b.k ui, ei]
    by_cases h0 : a.k = b.k
    · rw [decide_eq_true h0]
      simp only [Bool.not_true, Bool.false_eq_true, if_false]
      rw [Op.eqFields, if_pos q1, t1, o1]
      simp only [Sem.run_bind, (pt a w rfl).2.1, (pt b w rfl).2.1, Result.andThen_ok, run_equalIn_int w 9998 3 .i64 .i64 a.n b.n ui, ei]
      by_cases h1 : a.n = b.n
      · rw [decide_eq_true h1]
        simp only [Bool.not_true, Bool.false_eq_true, if_false]
        rw [Op.eqFields, if_pos q2, t2, o2]
        simp only [Sem.run_bind, (pt a w rfl).2.2, (pt b w rfl).2.2, Result.andThen_ok, run_equalIn_string w 9998 9 (sb a.s) (sb b.s) u_str, es]
        by_cases h2 : a.s = b.s
        · rw [decide_eq_true h2]; simp [Op.eqFields]
        · rw [decide_eq_false h2]; simp
      · rw [decide_eq_false h1]; simp
    · rw [decide_eq_false h0]; simp
instance : DecidableEq Val := fun _ _ => decidable_of_iff _ Val.ext_iff'.symm
section
variable {E : Env} {d : Option Nat} {ty : TypeId} {p : String} {af : Array Edge} {g : Option (Nat × Bool)} {x y : Operand} {u : TypeId} {k : Value → Prop}
set_option maxRecDepth 100000 in
theorem p_veq {a b : Val} (hx : val E x = vv_ a) (hy : val E y = vv_ b) (h1 : a = b → k (.bool true)) (h2 : ¬ a = b → k (.bool false)) : VPure Tryd.prog E { dst := d, op := .binOp .eql 61 x y u, type := ty, pos := p, after := af, guard := g } k := by
  refine pp (v := .bool (decide (a = b))) (fun w => ?_) ?_
  · have hv := run_veq a b w
    have hg := run_eqGuard_agg (P := Tryd.prog) w .eql 61 x y (vc a).toArray (vc b).toArray eg_val
    have hb := run_eql_struct (P := Tryd.prog) w 61 (vc a).toArray (vc b).toArray
    unfold vv_ at hx hy hv
    simp only [execOp, hx, hy, Sem.run_bind, hg, Result.andThen_ok, hb, hv, Sem.run_pure]
    congr 3
    rw [Bool.eq_iff_iff]; simp [Val.ext_iff']
  · by_cases h : a = b
    · rw [decide_eq_true h]; exact h1 h
    · rw [decide_eq_false h]; exact h2 h
end
set_option maxRecDepth 100000 in
set_option maxHeartbeats 1000000 in
theorem cmp_any (a b : Val) (w : World) :
    Calls Tryd.prog 88 #[vv_ a, vv_ b] w fun e w' => ∃ r : Int, e = .returned (.int .i64 r) ∧ (r = 0 ↔ a = b) ∧ Below w.heap.size w w' := by
  refine calls_ev (args := [vv_ a, vv_ b]) mixed Tryd.func88 rfl (by kernel_rfl) ?_
  refine v_boxB (vc a) rfl ?_
  rintro g1 W1 hg1 hB1 hb1 hsz1
  refine v_boxB (vc b) rfl ?_
  rintro g2 W2 hg2 hB2 hb2 hsz2
  have hB1' := hB1.belowB hb2 (by omega)
  have hb : Below w.heap.size w W2 := by rw [← hg1]; exact hb1.trans (hb2.mono (by omega))
  refine p_fld fv0 rfl ?_
  refine cutO Bool (fun q W' => (q = true → a ≠ b) ∧ W' = W2) (fun q => [(2, .pointer (some ⟨g1, 0, none⟩)), (3, .pointer (some ⟨g2, 0, none⟩)), (44, .bool q)]) ?_ ?_
  ·
    repeat' first
      | (refine p_eq rfl rfl (fun _ => ?_) (fun _ => ?_) <;> try (exfalso; omega))
      | (refine p_ne rfl rfl (fun _ => ?_) (fun _ => ?_) <;> try (exfalso; omega))
      | (refine p_lt rfl rfl (fun _ => ?_) (fun _ => ?_) <;> try (exfalso; omega))
      | (refine p_le rfl rfl (fun _ => ?_) (fun _ => ?_) <;> try (exfalso; omega))
      | (refine p_gt rfl rfl (fun _ => ?_) (fun _ => ?_) <;> try (exfalso; omega))
      | (refine p_ge rfl rfl (fun _ => ?_) (fun _ => ?_) <;> try (exfalso; omega))
      | (refine p_seq rfl rfl (fun _ => ?_) (fun _ => ?_))
      | (refine p_sne rfl rfl (fun _ => ?_) (fun _ => ?_))
      | (refine p_not rfl ?_)
      | (refine p_lenS u_str rfl ?_)
      | (refine p_fld fv0 rfl ?_)
      | (refine p_fld fv1 rfl ?_)
      | (refine p_fld fv2 rfl ?_)
      | (refine v_load agg_int rfl (hB1'.at_ rfl) ?_)
      | (refine v_load agg_str rfl (hB1'.at_ rfl) ?_)
      | (refine v_load agg_int rfl (hB2.at_ rfl) ?_)
      | (refine v_load agg_str rfl (hB2.at_ rfl) ?_)
      | (refine p_slt rfl rfl (fun _ => ?_) (fun _ => ?_))
    all_goals first
      | exact ⟨false, ⟨(fun h => by cases h), rfl⟩, rfl, rfl, rfl, trivial⟩
      | (refine ⟨true, ⟨(fun _ e => ?_), rfl⟩, rfl, rfl, rfl, trivial⟩; subst e; first | omega | (have q := less_irrefl (sb a.s).toList; simp_all; done))
  rintro q E1 W3 ⟨hq, rfl⟩
  cases q
  · refine v_loadN (vc a) agg_val rfl rfl (hB1'.run 0 _ (fun j v h => by rw [Nat.zero_add]; exact h)) ?_
    refine v_loadN (vc b) agg_val rfl rfl (hB2.run 0 _ (fun j v h => by rw [Nat.zero_add]; exact h)) ?_
    refine p_veq (a := a) (b := b) rfl rfl (fun h => ?_) (fun h => ?_)
    · exact ⟨0, rfl, ⟨(fun _ => h), (fun _ => rfl)⟩, hb⟩
    · exact ⟨1, rfl, ⟨(fun h' => by cases h'), (fun h' => absurd h' h)⟩, hb⟩
  · exact ⟨-1, rfl, ⟨(fun h => by cases h), (fun h => absurd h (hq rfl))⟩, hb⟩
end Go.Proofs.YtejbljopighenaaDoor
namespace Go.Proofs.YtejbljopighenaaDoor
open Go.RowKit
theorem is_cmp : isFn Tryd.prog 88 = true := by kernel_rfl
theorem is_rows : isFn Tryd.prog 85 = true := by kernel_rfl
theorem RdV.ptr {w : World} {B n : Nat} {ad : Addr} {l : List Val} (h : RdV w B (some ad) n l) {i : Nat} {v : Val} (hi : l[i]? = some v) : ∀ j u, (vc v)[j]? = some u → w.cell? ((ad.add (i * 3)).add j) = some u := by
  obtain ⟨ad', e, _, _, hc⟩ := h.at_ hi
  injection e with e
  subst e
  exact hc
theorem RdV.some_ {w : World} {B n : Nat} {A : Option Addr} {l : List Val} (h : RdV w B A n l) {i : Nat} (hi : i < n) : ∃ ad v, A = some ad ∧ l[i]? = some v := by
  have hil : i < l.length := by have := h.len; omega
  obtain ⟨ad, e, _⟩ := h.at_ (List.getElem?_eq_getElem hil)
  exact ⟨ad, _, e, List.getElem?_eq_getElem hil⟩
theorem take_step {α : Type} {x y : List α} {i : Nat} {v : α} (ht : x.take i = y.take i) (hx : x[i]? = some v) (hy : y[i]? = some v) : x.take (i + 1) = y.take (i + 1) := by
  rw [List.take_add_one, List.take_add_one, ht, hx, hy]
theorem take_all {α : Type} {x y : List α} {i : Nat} (ht : x.take i = y.take i) (hx : x.length ≤ i) (hy : y.length ≤ i) : x = y := by
  rwa [List.take_of_length_le hx, List.take_of_length_le hy] at ht
set_option maxRecDepth 100000 in
theorem rows_any (A B : Option Addr) (n c m d : Nat) (x y : List Val) (w : World) (hx : RdV w w.heap.size A n x) (hy : RdV w w.heap.size B m y) (hn : n ≤ 1000000000) (hm : m ≤ 1000000000) :
    Calls Tryd.prog 85 #[.slice A n c, .slice B m d] w fun e w' => ∃ r : Int, e = .returned (.int .i64 r) ∧ (r = 0 ↔ x = y) ∧ Below w.heap.size w w' := by
  refine calls_ev (args := [.slice A n c, .slice B m d]) mixed Tryd.func85 rfl (by kernel_rfl) ?_
  have hlx := hx.len
  have hly := hy.len
  refine lp Nat (fun i W => Below w.heap.size w W ∧ W.heap.size = w.heap.size ∧ i ≤ n ∧ i ≤ m ∧ x.take i = y.take i) (fun i => [(0, .slice A n c), (1, .slice B m d), (5, .int .i64 i)]) (fun i => n - i) 0
    ⟨Below.refl _ _, rfl, Nat.zero_le _, Nat.zero_le _, rfl⟩ ⟨rfl, rfl, rfl, trivial⟩ ?_
  rintro i E0 W1 ⟨hb1, hs1, hin, him, ht⟩
  have hx1 := hx.below hb1
  have hy1 := hy.below hb1
  refine dr (fun W => RdV W w.heap.size A n x ∧ RdV W w.heap.size B m y) [(0, true), (1, true), (2, true), (3, true), (4, true), (5, true), (6, true), (7, true), (8, true), (9, true), (10, true), (11, true), (12, true), (13, true), (14, true), (15, true), (16, true), (17, true), (18, true), (19, true), (20, true)] (by kernel_rfl) ⟨hx1.drew, hy1.drew⟩ ?_
  refine p_len slv rfl ?_
  refine p_lt rfl rfl (fun h1 => ?_) (fun h1 => ?_)
  · refine p_len slv rfl ?_
    refine p_lt rfl rfl (fun h2 => ?_) (fun h2 => ?_)
    · obtain ⟨a, u, rfl, hu⟩ := hx.some_ (i := i) (by omega)
      obtain ⟨b, v, rfl, hv⟩ := hy.some_ (i := i) (by omega)
      refine p_at (i := i) slv rfl rfl rfl (by omega) ?_
      refine t_loadN (vc u) agg_val rfl rfl (fun W h => h.1.ptr hu) ?_
      refine p_at (i := i) slv rfl rfl rfl (by omega) ?_
      refine t_loadN (vc v) agg_val rfl rfl (fun W h => h.2.ptr hv) ?_
      refine p_veq (a := u) (b := v) rfl rfl (fun h => ?_) (fun h => ?_)
      · subst h
        refine p_add rfl rfl (w64 (by omega)) ?_
        exact ⟨i + 1, ⟨hb1.drew, hs1, by omega, by omega, take_step ht hu hv⟩, ⟨rfl, rfl, rfl, trivial⟩, by omega⟩
      · have hne : x ≠ y := by
          rintro rfl
          rw [hu] at hv; injection hv with hv; exact h hv
        refine p_len slv rfl ?_
        refine p_lt rfl rfl (fun h3 => ?_) (fun h3 => absurd h1 h3)
        refine p_len slv rfl ?_
        refine p_lt rfl rfl (fun h4 => ?_) (fun h4 => absurd h2 h4)
        refine dr (fun W => RdV W w.heap.size (some a) n x ∧ RdV W w.heap.size (some b) m y ∧ Below w.heap.size w W) [(0, true), (1, true), (2, true), (3, true), (4, true), (5, true), (6, true), (7, true), (8, false), (9, true)] (by kernel_rfl) ⟨hx1.drew.drew, hy1.drew.drew, hb1.drew.drew⟩ ?_
        refine p_at (i := i) slv rfl rfl rfl (by omega) ?_
        refine t_loadN (vc u) agg_val rfl rfl (fun W h => h.1.ptr hu) ?_
        refine p_at (i := i) slv rfl rfl rfl (by omega) ?_
        refine t_loadN (vc v) agg_val rfl rfl (fun W h => h.2.1.ptr hv) ?_
        refine cc is_cmp (cmp_any u v _) ?_
        rintro e W2 ⟨r, rfl, hr, hb2⟩
        have hb := hb1.drew.drew.trans (hb2.mono (by show _ ≤ W1.heap.size; omega))
        refine ⟨_, rfl, ⟨hx.below hb, hy.below hb, hb⟩, ?_⟩
        exact ⟨r, rfl, ⟨fun h0 => absurd (hr.1 h0) h, fun h0 => absurd h0 hne⟩, hb⟩
    · have hne : x ≠ y := by rintro rfl; omega
      refine p_len slv rfl ?_
      refine p_lt rfl rfl (fun h3 => ?_) (fun h3 => absurd h1 h3)
      refine p_len slv rfl ?_
      refine p_lt rfl rfl (fun h4 => absurd h4 h2) (fun h4 => ?_)
      refine p_len slv rfl ?_
      refine p_lt rfl rfl (fun h4 => absurd h4 h2) (fun h4 => ?_)
      refine p_len slv rfl ?_
      refine p_lt rfl rfl (fun h3 => ?_) (fun h3 => absurd h1 h3)
      exact ⟨1, rfl, ⟨(fun h => by cases h), fun h => absurd h hne⟩, hb1.drew⟩
  · refine p_len slv rfl ?_
    refine p_lt rfl rfl (fun h3 => absurd h3 h1) (fun h3 => ?_)
    refine p_len slv rfl ?_
    refine p_lt rfl rfl (fun h2 => ?_) (fun h2 => ?_)
    · have hne : x ≠ y := by rintro rfl; omega
      exact ⟨-1, rfl, ⟨(fun h => by cases h), fun h => absurd h hne⟩, hb1.drew⟩
    · refine p_len slv rfl ?_
      refine p_lt rfl rfl (fun h3 => absurd h3 h1) (fun h3 => ?_)
      exact ⟨0, rfl, ⟨fun _ => take_all ht (by omega) (by omega), fun _ => rfl⟩, hb1.drew⟩

/-- The law's 'long'. -/
def slen (l : List Val) : Nat := (l.map fun v => v.s.length).sum
end Go.Proofs.YtejbljopighenaaDoor
