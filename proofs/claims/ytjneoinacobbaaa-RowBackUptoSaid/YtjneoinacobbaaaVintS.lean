/- Numbers and bytes in one way: the reference's Get, GetInt, GetBytes. -/
import Derived.Test.YtjneoinacobbaaaVintR
namespace Go.Proofs.Ytjneoinacobbaaa
open Go.RowKit

/-- The unit, as it is kept: at the end of all it has gone round. -/
def unit8 (k : Nat) : Nat := 128 ^ k % 18446744073709551616
theorem unit8_le {k : Nat} (h : k ≤ 9) : unit8 k = 128 ^ k := by
  unfold unit8
  have h2 : 128 ^ k ≤ 128 ^ 9 := Nat.pow_le_pow_right (by omega) h
  have hp9 : (128 : Nat) ^ 9 = 9223372036854775808 := by decide
  exact Nat.mod_eq_of_lt (by omega)
theorem unit8_step (k : Nat) : IntKind.u64.wrap ((unit8 k : Int) * 128) = (unit8 (k + 1) : Int) := by
  unfold unit8
  rw [IntKind.wrap_u64, Nat.pow_succ]
  omega

/-- The number gets seven bits more, as the reference reckons it. -/
theorem add_step (acc k : Nat) (x : Int) (h0 : 0 ≤ x) (h1 : x ≤ 255) (hacc : acc < 128 ^ k) (hk : k ≤ 9) (h9 : k = 9 → x ≤ 1) :
    IntKind.u64.wrap ((acc : Int) + IntKind.u64.wrap (x % 128 * ((unit8 k : Nat) : Int))) = ((acc + (x.toNat % 128) * 128 ^ k : Nat) : Int) := by
  rw [unit8_le hk]
  obtain ⟨y, rfl⟩ := Int.eq_ofNat_of_zero_le h0
  have hb : (y % 128) * 128 ^ k + acc < 18446744073709551616 := by
    by_cases e : k = 9
    · subst e
      have hp9 : (128 : Nat) ^ 9 = 9223372036854775808 := by decide
      rw [hp9] at hacc ⊢
      have : y % 128 ≤ 1 := by have := h9 rfl; omega
      have := Nat.mul_le_mul_right 9223372036854775808 this
      omega
    · have h2 : 128 ^ (k + 1) ≤ 128 ^ 9 := Nat.pow_le_pow_right (by omega) (by omega)
      have hp9 : (128 : Nat) ^ 9 = 9223372036854775808 := by decide
      have h3 : (y % 128) * 128 ^ k ≤ 127 * 128 ^ k := Nat.mul_le_mul_right _ (by omega)
      rw [hp9, Nat.pow_succ] at h2
      omega
  rw [show (y : Int) % 128 = ((y % 128 : Nat) : Int) by omega, ← Int.natCast_mul, Int.toNat_natCast]
  rw [IntKind.wrap_u64, IntKind.wrap_u64]
  omega
set_option maxRecDepth 100000 in
set_option maxHeartbeats 1600000 in
theorem refGet_in (A : Option Addr) (n c B a : Nat) (l : List UInt8) (w : World) (hr : Rd w B A n l) (hn : n ≤ 100000000000) (ha : a ≤ n) :
    Calls Try.prog 31 #[.slice A n c, .int .i64 a] w (Got w l a) := by
  have hln := Lib.hid hr.len
  go_enter Try.func31, Try.ntmps31
  go_wp2
  go_loop [7, 8, 9] (fun v u i => ∃ (k acc : Nat), a + k ≤ n ∧ k ≤ 9 ∧ acc < 128 ^ k ∧ i = .int .i64 ((a + k : Nat) : Int) ∧ v = .int .u64 acc ∧ u = .int .u64 (unit8 k) ∧ getF (l.drop (a + k)) k acc = getF (l.drop a) 0 0) (fun _ _ i => n - (intOf i).toNat)
  case atStart => exact ⟨0, 0, by omega, by omega, by simp, rfl, rfl, rfl, rfl⟩
  case round =>
    obtain ⟨k, acc, hkn, hk9, hacc, rfl, rfl, rfl, hg⟩ := hrel
    have Hg := Lib.hid hg
    have Hacc := Lib.hid hacc
    have hal : Hid (a ≤ l.length) := Lib.hid (by rw [hln.out]; omega)
    have hu := Lib.hid (unit8_le hk9)
    have hus := unit8_step k
    clear hg hacc
    by_cases hlt : a + k < n
    · obtain ⟨b, off, rfl, hc⟩ := hr.at_ hlt
      have h0 := at8_lo l (a + k)
      have h1 := at8_hi l (a + k)
      have hst := Lib.hid (getF_step l a k acc (by rw [hln.out]; exact hlt))
      by_cases h9 : k = 9
      · have hb9 : ((a : Int) + k - a == 9) = true := by simp; omega
        have hk0 : (a : Int) < (a : Int) + k := by omega
        by_cases hc1 : 1 < at8 l (a + k)
        · have F := Lib.hid (g_fail hal.out (by decide) (show getF (l.drop a) 0 0 = (0, 0, 11) by rw [← Hg.out, hst.out, if_pos (.inl ⟨h9, hc1⟩)]))
          have hb0 : (at8 l (a + k) != 0) = true := by rw [bne_iff_ne]; omega
          have hb1 : (at8 l (a + k) != 1) = true := by rw [bne_iff_ne]; omega
          clear h9
          go_wp2
          go_ret3
          exact ⟨ret3 F.out.2.1.symm F.out.2.2.symm F.out.1.symm, rfl⟩
        · by_cases hz : at8 l (a + k) = 0
          · have F := Lib.hid (g_fail hal.out (by decide) (show getF (l.drop a) 0 0 = (0, 0, 11) by rw [← Hg.out, hst.out, if_pos (.inr ⟨hz, by omega⟩)]))
            have hb0 : (at8 l (a + k) != 0) = false := by simp [hz]
            have hb1 : (at8 l (a + k) == 0) = true := by simp [hz]
            clear h9 hz
            go_wp2
            go_ret3
            exact ⟨ret3 F.out.2.1.symm F.out.2.2.symm F.out.1.symm, rfl⟩
          · have hb0 : (at8 l (a + k) != 0) = true := by rw [bne_iff_ne]; omega
            have hb1 : (at8 l (a + k) != 1) = false := by simp; omega
            have hb2 : (at8 l (a + k) == 0) = false := by simp [hz]
            have hv := add_step acc k (at8 l (a + k)) h0 h1 Hacc.out hk9 (by omega)
            have F := Lib.hid (g_done hal.out (show getF (l.drop a) 0 0 = (acc + (at8 l (a + k)).toNat * 128 ^ k, k + 1, 0) by rw [← Hg.out, hst.out, if_neg (by omega), if_pos (by omega)]))
            rw [show (at8 l (a + k)).toNat % 128 = (at8 l (a + k)).toNat by omega] at hv
            have Hv := Lib.hid hv
            have hlt8 : at8 l (a + k) < 128 := by omega
            clear hv hz h9
            go_wp2
            go_ret3
            exact ⟨ret3 (by rw [Hv.out]; exact F.out.2.1.symm) (by rw [F.out.2.2]; omega) F.out.1.symm, rfl⟩
      · have hb9 : ((a : Int) + k - a == 9) = false := by simp; omega
        by_cases hz : at8 l (a + k) = 0
        · have hb0 : (at8 l (a + k) == 0) = true := by simp [hz]
          by_cases hk0 : 0 < k
          · have hk1 : (a : Int) < (a : Int) + k := by omega
            have F := Lib.hid (g_fail hal.out (by decide) (show getF (l.drop a) 0 0 = (0, 0, 11) by rw [← Hg.out, hst.out, if_pos (.inr ⟨hz, by omega⟩)]))
            clear h9 hz
            go_wp2
            go_ret3
            exact ⟨ret3 F.out.2.1.symm F.out.2.2.symm F.out.1.symm, rfl⟩
          · have hk1 : decide ((a : Int) < (a : Int) + k) = false := by simp; omega
            have hv := add_step acc k (at8 l (a + k)) h0 h1 Hacc.out hk9 (by omega)
            have F := Lib.hid (g_done hal.out (show getF (l.drop a) 0 0 = (acc + (at8 l (a + k)).toNat * 128 ^ k, k + 1, 0) by rw [← Hg.out, hst.out, if_neg (by omega), if_pos (by omega)]))
            rw [show (at8 l (a + k)).toNat % 128 = (at8 l (a + k)).toNat by omega] at hv
            have Hv := Lib.hid hv
            have hlt8 : at8 l (a + k) < 128 := by omega
            clear hv hz h9
            go_wp2
            go_ret3
            exact ⟨ret3 (by rw [Hv.out]; exact F.out.2.1.symm) (by rw [F.out.2.2]; omega) F.out.1.symm, rfl⟩
        · have hb0 : (at8 l (a + k) == 0) = false := by simp [hz]
          have hbd : (decide ((a : Int) < (a : Int) + k) && (at8 l (a + k) == 0)) = false := by rw [hb0]; simp
          by_cases hk0 : 0 < k
          · have hk1 : (a : Int) < (a : Int) + k := by omega
            by_cases hs : at8 l (a + k) < 128
            · have hv := add_step acc k (at8 l (a + k)) h0 h1 Hacc.out hk9 (by omega)
              have F := Lib.hid (g_done hal.out (show getF (l.drop a) 0 0 = (acc + (at8 l (a + k)).toNat * 128 ^ k, k + 1, 0) by rw [← Hg.out, hst.out, if_neg (by omega), if_pos (by omega)]))
              rw [show (at8 l (a + k)).toNat % 128 = (at8 l (a + k)).toNat by omega] at hv
              have Hv := Lib.hid hv
              clear hv hz h9
              go_wp2
              go_ret3
              exact ⟨ret3 (by rw [Hv.out]; exact F.out.2.1.symm) (by rw [F.out.2.2]; omega) F.out.1.symm, rfl⟩
            · have hv := add_step acc k (at8 l (a + k)) h0 h1 Hacc.out hk9 (by omega)
              rw [show (at8 l (a + k)).toNat % 128 = (at8 l (a + k)).toNat - 128 by omega] at hv
              have Hv := Lib.hid hv
              have F := Lib.hid (show getF (l.drop (a + (k + 1))) (k + 1) (acc + ((at8 l (a + k)).toNat - 128) * 128 ^ k) = getF (l.drop a) 0 0 by rw [← Hg.out, hst.out, if_neg (by omega), if_neg (by omega)])
              have Hb := Lib.hid (acc_lt (x := (at8 l (a + k)).toNat - 128) Hacc.out (by omega))
              clear hv hz
              go_wp2
              go_round
              case rel => exact ⟨k + 1, _, by omega, by omega, Hb.out, by go_num, by rw [Hv.out], rfl, F.out⟩
              case measure => simp [intOf]; omega
          · have hk1 : decide ((a : Int) < (a : Int) + k) = false := by simp; omega
            by_cases hs : at8 l (a + k) < 128
            · have hv := add_step acc k (at8 l (a + k)) h0 h1 Hacc.out hk9 (by omega)
              have F := Lib.hid (g_done hal.out (show getF (l.drop a) 0 0 = (acc + (at8 l (a + k)).toNat * 128 ^ k, k + 1, 0) by rw [← Hg.out, hst.out, if_neg (by omega), if_pos (by omega)]))
              rw [show (at8 l (a + k)).toNat % 128 = (at8 l (a + k)).toNat by omega] at hv
              have Hv := Lib.hid hv
              clear hv hz h9
              go_wp2
              go_ret3
              exact ⟨ret3 (by rw [Hv.out]; exact F.out.2.1.symm) (by rw [F.out.2.2]; omega) F.out.1.symm, rfl⟩
            · have hv := add_step acc k (at8 l (a + k)) h0 h1 Hacc.out hk9 (by omega)
              rw [show (at8 l (a + k)).toNat % 128 = (at8 l (a + k)).toNat - 128 by omega] at hv
              have Hv := Lib.hid hv
              have F := Lib.hid (show getF (l.drop (a + (k + 1))) (k + 1) (acc + ((at8 l (a + k)).toNat - 128) * 128 ^ k) = getF (l.drop a) 0 0 by rw [← Hg.out, hst.out, if_neg (by omega), if_neg (by omega)])
              have Hb := Lib.hid (acc_lt (x := (at8 l (a + k)).toNat - 128) Hacc.out (by omega))
              clear hv hz
              go_wp2
              go_round
              case rel => exact ⟨k + 1, _, by omega, by omega, Hb.out, by go_num, by rw [Hv.out], rfl, F.out⟩
              case measure => simp [intOf]; omega
    · have F := Lib.hid (g_fail hal.out (by decide) (show getF (l.drop a) 0 0 = (0, 0, 10) by rw [← Hg.out, getF_end l a k acc (by rw [hln.out]; omega)]))
      go_wp2
      go_ret3
      exact ⟨ret3 F.out.2.1.symm F.out.2.2.symm F.out.1.symm, rfl⟩

set_option maxRecDepth 100000 in
set_option maxHeartbeats 1600000 in
theorem refGet_any (A : Option Addr) (n c B : Nat) (at_ : Int) (l : List UInt8) (w : World) (hr : Rd w B A n l) (hn : n ≤ 100000000000) :
    Calls Try.prog 31 #[.slice A n c, .int .i64 at_] w (Got w l at_) := by
  by_cases ho : at_ < 0
  · have F := Lib.hid (g_out (l := l) (.inl ho))
    go_enter Try.func31, Try.ntmps31
    go_wp2
    go_ret3
    exact ⟨ret3 F.out.2.1.symm F.out.2.2.symm F.out.1.symm, rfl⟩
  · by_cases hp : (n : Int) < at_
    · have F := Lib.hid (g_out (l := l) (a := at_) (.inr (by rw [hr.len]; exact hp)))
      go_enter Try.func31, Try.ntmps31
      go_wp2
      go_ret3
      exact ⟨ret3 F.out.2.1.symm F.out.2.2.symm F.out.1.symm, rfl⟩
    · obtain ⟨a, rfl⟩ := Int.eq_ofNat_of_zero_le (show 0 ≤ at_ by omega)
      exact refGet_in A n c B a l w hr hn (by omega)

set_option maxRecDepth 100000 in
set_option maxHeartbeats 1600000 in
theorem refGetInt_any (A : Option Addr) (n c B : Nat) (at_ : Int) (l : List UInt8) (w : World) (hr : Rd w B A n l) (hn : n ≤ 100000000000) :
    Calls Try.prog 45 #[.slice A n c, .int .i64 at_] w (GotInt w l at_) := by
  by_cases he : gE l at_ = 0
  · have He := Lib.hid he
    have h0 := gN_nonneg l at_
    have h1 := gN_lt l at_
    obtain ⟨x, hx⟩ : ∃ x, gN l at_ = x := ⟨_, rfl⟩
    rw [hx] at h0 h1
    have Hx := Lib.hid hx
    clear hx he
    have hw := IntWalk.i64_in (x / 2) (by omega)
    by_cases ho : x % 2 = 1
    · have hz := Lib.hid (show -(x / 2) - 1 = zag x by unfold zag; rw [if_pos ho])
      have hb : (x % 2 == 1) = true := by simp [ho]
      clear ho
      go_enter Try.func45, Try.ntmps45
      go_wp2_with fail
      refine (refGet_any _ _ _ _ _ _ _ hr hn).mono ?_
      rintro e w' ⟨rfl, rfl⟩
      rw [Hx.out, He.out]
      go_wp2_with fail
      go_ret3
      exact ⟨ret3 (by rw [Hx.out]; exact hz.out) rfl He.out.symm, rfl⟩
    · have hz := Lib.hid (show x / 2 = zag x by unfold zag; rw [if_neg ho])
      have hb : (x % 2 == 1) = false := by simp [ho]
      clear ho
      go_enter Try.func45, Try.ntmps45
      go_wp2_with fail
      refine (refGet_any _ _ _ _ _ _ _ hr hn).mono ?_
      rintro e w' ⟨rfl, rfl⟩
      rw [Hx.out, He.out]
      go_wp2_with fail
      go_ret3
      exact ⟨ret3 (by rw [Hx.out]; exact hz.out) rfl He.out.symm, rfl⟩
  · have F := Lib.hid (g_err he)
    have hne : (gE l at_ != 0) = true := by simp [he]
    clear he
    go_enter Try.func45, Try.ntmps45
    go_wp2_with fail
    refine (refGet_any _ _ _ _ _ _ _ hr hn).mono ?_
    rintro e w' ⟨rfl, rfl⟩
    go_wp2_with fail
    go_ret3
    exact ⟨ret3 (by rw [F.out.1]; rfl) F.out.2.symm rfl, rfl⟩

set_option maxRecDepth 100000 in
set_option maxHeartbeats 1600000 in
theorem refGetBytes_any (A : Option Addr) (n c : Nat) (at_ : Int) (l : List UInt8) (w : World) (hr : Rd w w.heap.size A n l) (hn : n ≤ 100000000000) (hnc : n ≤ c) :
    Calls Try.prog 47 #[.slice A n c, .int .i64 at_] w (GotBytes w l at_) := by
  have hln := Lib.hid hr.len
  rcases gb_cases l at_ with h | ⟨h, k⟩ | ⟨h, k, m⟩ | ⟨h, k, m⟩
  · have F := Lib.hid (gb_err1 h)
    have hne : (gE l at_ != 0) = true := by simp [h]
    clear h
    go_enter Try.func47, Try.ntmps47
    go_wp2_with fail
    refine (refGet_any _ _ _ _ _ _ _ hr hn).mono ?_
    rintro e w' ⟨rfl, rfl⟩
    go_wp2_with fail
    go_ret3
    exact gotBytes_none F.out (Below.refl _ _)
  · have F := Lib.hid (gb_err2 h k)
    have H := Lib.hid h
    clear h
    go_enter Try.func47, Try.ntmps47
    go_wp2_with fail
    refine (refGet_any _ _ _ _ _ _ _ hr hn).mono ?_
    rintro e w' ⟨rfl, rfl⟩
    rw [H.out]
    go_wp2_with fail
    go_ret3
    exact gotBytes_none F.out (Below.refl _ _)
  · have F := Lib.hid (gb_err3 h k m)
    have H := Lib.hid h
    obtain ⟨T, hT, hle⟩ := g_to h
    obtain ⟨N, hN⟩ := Int.eq_ofNat_of_zero_le (gN_nonneg l at_)
    rw [hln.out] at m hle
    rw [hT, hN] at m
    rw [hN] at k
    have HT := Lib.hid hT
    have HN := Lib.hid hN
    have hw : IntKind.i64.wrap (N : Int) = N := IntWalk.i64_in _ (by omega)
    have hgt : (n : Int) < (T : Int) + N := by omega
    clear h hT hN m
    go_enter Try.func47, Try.ntmps47
    go_wp2_with fail
    refine (refGet_any _ _ _ _ _ _ _ hr hn).mono ?_
    rintro e w' ⟨rfl, rfl⟩
    rw [H.out, HT.out, HN.out]
    go_wp2_with fail
    go_ret3
    exact gotBytes_none F.out (Below.refl _ _)
  · have F := Lib.hid (gb_ok h k m)
    have H := Lib.hid h
    obtain ⟨T, hT, hle⟩ := g_to h
    obtain ⟨N, hN⟩ := Int.eq_ofNat_of_zero_le (gN_nonneg l at_)
    rw [hln.out] at m hle
    rw [hT, hN] at m
    rw [hN] at k
    have HT := Lib.hid hT
    have HN := Lib.hid hN
    have hTn : T + N ≤ n := by omega
    have hNb : N ≤ 1048576 := by omega
    have hle2 : (T : Int) + N ≤ n := by omega
    have eN : T + N - T = N := by omega
    have hcut : Rd w w.heap.size (if c = T then A else A.map (·.add T)) (T + N - T) ((l.drop T).take N) := by rw [eN]; exact hr.mid (i := T) (j := N) (c := c) hTn hnc
    have EN := Lib.hid eN
    clear h hT hN k m eN
    go_enter Try.func47, Try.ntmps47
    go_wp2_with fail
    refine (refGet_any _ _ _ _ _ _ _ hr hn).mono ?_
    rintro e w' ⟨rfl, rfl⟩
    rw [H.out, HT.out, HN.out]
    go_wp2_with (at_builtin; refine wpList_app rfl _ _ rfl rfl (Own.nil_ w w.heap.size) rfl hcut (by omega) (Nat.le_refl _) ?_; intro A2 c2 w2 o2 g2)
    all_goals
      have b2 := below_nil rfl g2
      go_ret3
      refine ⟨A2, N, c2, ret_sie rfl (by rw [F.out.2.2, HT.out, HN.out]) F.out.1.symm, ?_, b2⟩
      rw [F.out.2.1, HT.out, HN.out, Int.toNat_natCast, Int.toNat_natCast]
      rw [Nat.zero_add, EN.out] at o2
      exact o2
end Go.Proofs.Ytjneoinacobbaaa
