/- Numbers and bytes in one way: the walk of vint.Get. Numbers and bytes in one way: the walks of vint.GetBytes, PutInt. Numbers and bytes in one way: the reference's walks. Numbers and bytes in one way: the reference's Get, GetInt, GetBytes. Lists of bytes as bytes: Join and Split, the program's and the reference's. Lists of bytes as bytes: the walk of vint.Split. -/
import Derived.Test.YtliccofjlheceaaG04
import Derived.Test.YtliccofjlheceaaG03
namespace Go.Proofs.Ytliccofjlheceaa
open Go.RowKit

theorem ret3 {k1 k2 k3 : IntKind} {a b c a' b' c' : Int} (h1 : a = a') (h2 : b = b') (h3 : c = c') : Ending.returned (.tuple #[.int k1 a, .int k2 b, .int k3 c]) = Ending.returned (.tuple #[.int k1 a', .int k2 b', .int k3 c']) := by rw [h1, h2, h3]
theorem and127 (x : Int) (h0 : 0 ≤ x) (h1 : x ≤ 255) : bits .and .u8 x 127 = x % 128 := by
  have h : ∀ y : Fin 256, bits .and .u8 (y.val : Int) 127 = (y.val : Int) % 128 := by decide +kernel
  have := h ⟨x.toNat, by omega⟩
  simp only [Int.toNat_of_nonneg h0] at this
  exact this
theorem acc_lt {acc k x : Nat} (h : acc < 128 ^ k) (hx : x ≤ 127) : acc + x * 128 ^ k < 128 ^ (k + 1) := by
  have h1 : x * 128 ^ k ≤ 127 * 128 ^ k := Nat.mul_le_mul_right _ hx
  rw [Nat.pow_succ]; omega
/-- The number gets seven bits more. -/
theorem or_step (acc k : Nat) (x : Int) (h0 : 0 ≤ x) (h1 : x ≤ 255) (hacc : acc < 128 ^ k) (hk : k ≤ 9) (h9 : k = 9 → x ≤ 1) :
    bits .or .u64 (acc : Int) (IntKind.u64.wrap (IntKind.u64.wrap (bits .and .u8 x 127) * 2 ^ (7 * k))) = ((acc + (x.toNat % 128) * 128 ^ k : Nat) : Int) := by
  rw [and127 x h0 h1]
  obtain ⟨y, rfl⟩ := Int.eq_ofNat_of_zero_le h0
  have e1 : IntKind.u64.wrap ((y : Int) % 128) = ((y % 128 : Nat) : Int) := by rw [IntKind.wrap_u64]; omega
  have hp : (2 : Nat) ^ (7 * k) = 128 ^ k := by rw [Nat.pow_mul]
  have hb : (y % 128) * 128 ^ k < 18446744073709551616 := by
    by_cases e : k = 9
    · subst e
      have hp9 : (128 : Nat) ^ 9 = 9223372036854775808 := by decide
      rw [hp9]
      have : y % 128 ≤ 1 := by have := h9 rfl; omega
      have := Nat.mul_le_mul_right 9223372036854775808 this
      omega
    · have h2 : 128 ^ (k + 1) ≤ 128 ^ 9 := Nat.pow_le_pow_right (by omega) (by omega)
      have hp9 : (128 : Nat) ^ 9 = 9223372036854775808 := by decide
      have h3 : (y % 128) * 128 ^ k ≤ 127 * 128 ^ k := Nat.mul_le_mul_right _ (by omega)
      rw [hp9, Nat.pow_succ] at h2
      omega
  have hpz : (2 : Int) ^ (7 * k) = ((128 ^ k : Nat) : Int) := by
    have : ((2 ^ (7 * k) : Nat) : Int) = ((128 ^ k : Nat) : Int) := by rw [hp]
    rw [← this, Int.natCast_pow]; rfl
  rw [e1, hpz, Int.toNat_natCast, ← Int.natCast_mul]
  have e2 : IntKind.u64.wrap (((y % 128 * 128 ^ k : Nat)) : Int) = ((y % 128 * 128 ^ k : Nat) : Int) := by rw [IntKind.wrap_u64]; omega
  rw [e2]
  have ha : acc < 18446744073709551616 := by
    have h2 : 128 ^ k ≤ 128 ^ 9 := Nat.pow_le_pow_right (by omega) hk
    have hp9 : (128 : Nat) ^ 9 = 9223372036854775808 := by decide
    omega
  have := bits_or_u64_nat acc (y % 128 * 128 ^ k) ha hb
  rw [this]
  congr 1
  rw [Nat.mul_comm, ← hp, Nat.or_comm, ← Nat.two_pow_add_eq_or_of_lt (by rw [hp]; exact hacc), Nat.add_comm]
/-- What Get comes to. -/
def Got (w : World) (l : List UInt8) (at_ : Int) (e : Ending) (w' : World) : Prop := e = .returned (.tuple #[.int .u64 (gN l at_), .int .i64 (gTo l at_), .int .i64 (gE l at_)]) ∧ w = w'

set_option maxRecDepth 100000 in
set_option maxHeartbeats 1600000 in
theorem get_in (A : Option Addr) (n c B a : Nat) (l : List UInt8) (w : World) (hr : Rd w B A n l) (hn : n ≤ 100000000000) (hnc : n ≤ c) (ha : a < n) :
    Calls Try.prog 33 #[.slice A n c, .int .i64 a] w (Got w l a) := by
  obtain ⟨b, off, rfl, hB, hcells⟩ := hr.cells (by omega)
  have hln := Lib.hid hr.len
  have Hcells := Lib.hid hcells
  have hca : ¬ c = a := by omega
  clear hcells
  go_enter Try.func33, Try.ntmps33
  go_wp2
  go_step3
  go_wp2
  go_step3
  go_wp2
  go_loop [7, 8, 23] (fun v e i => ∃ (k acc : Nat), a + k ≤ n ∧ k ≤ 9 ∧ acc < 128 ^ k ∧ i = .int .i64 k ∧ v = .int .u64 acc ∧ e = .int .i64 10 ∧ getF (l.drop (a + k)) k acc = getF (l.drop a) 0 0) (fun _ _ i => n - (intOf i).toNat)
  case atStart => exact ⟨0, 0, by omega, by omega, by simp, rfl, rfl, rfl, rfl⟩
  case round =>
    obtain ⟨k, acc, hkn, hk9, hacc, rfl, rfl, rfl, hg⟩ := hrel
    have Hg := Lib.hid hg
    have Hacc := Lib.hid hacc
    have hal : Hid (a ≤ l.length) := Lib.hid (by rw [hln.out]; omega)
    clear hg hacc
    by_cases hlt : a + k < n
    · have hc : w.cell? ⟨b, off + a + k, none⟩ = some (.int .u8 (at8 l (a + k))) := by rw [Nat.add_assoc]; exact Hcells.out (a + k) hlt
      have h0 := at8_lo l (a + k)
      have h1 := at8_hi l (a + k)
      have hst := Lib.hid (getF_step l a k acc (by rw [hln.out]; exact hlt))
      by_cases h9 : k = 9
      · have hb9 : ((k : Int) == 9) = true := by simp; omega
        have hk0 : (0 : Int) < k := by omega
        by_cases hc1 : 1 < at8 l (a + k)
        · have F := Lib.hid (g_fail hal.out (by decide) (show getF (l.drop a) 0 0 = (0, 0, 11) by rw [← Hg.out, hst.out, if_pos (.inl ⟨h9, hc1⟩)]))
          clear h9
          go_wp2
          go_ret3
          exact ⟨ret3 F.out.2.1.symm F.out.2.2.symm F.out.1.symm, rfl⟩
        · have hd1 : decide (1 < at8 l (a + k)) = false := by simp; omega
          by_cases hz : at8 l (a + k) = 0
          · have hbz : (at8 l (a + k) == 0) = true := by simp [hz]
            have F := Lib.hid (g_fail hal.out (by decide) (show getF (l.drop a) 0 0 = (0, 0, 11) by rw [← Hg.out, hst.out, if_pos (.inr ⟨hz, by omega⟩)]))
            clear h9 hz
            go_wp2
            go_ret3
            exact ⟨ret3 F.out.2.1.symm F.out.2.2.symm F.out.1.symm, rfl⟩
          · have hbz : (at8 l (a + k) == 0) = false := by simp [hz]
            have hv := or_step acc k (at8 l (a + k)) h0 h1 Hacc.out hk9 (by omega)
            have F := Lib.hid (g_done hal.out (show getF (l.drop a) 0 0 = (acc + (at8 l (a + k)).toNat * 128 ^ k, k + 1, 0) by rw [← Hg.out, hst.out, if_neg (by omega), if_pos (by omega)]))
            rw [show (at8 l (a + k)).toNat % 128 = (at8 l (a + k)).toNat by omega] at hv
            have Hv := Lib.hid hv
            have hlt8 : at8 l (a + k) < 128 := by omega
            clear hv hz h9
            go_wp2
            go_ret3
            exact ⟨ret3 (by rw [Hv.out]; exact F.out.2.1.symm) (by rw [F.out.2.2]; omega) F.out.1.symm, rfl⟩
      · have hb9 : ((k : Int) == 9) = false := by simp; omega
        by_cases hz : at8 l (a + k) = 0
        · have hbz : (at8 l (a + k) == 0) = true := by simp [hz]
          by_cases hk0 : 0 < k
          · have hk0' : (0 : Int) < k := by omega
            have F := Lib.hid (g_fail hal.out (by decide) (show getF (l.drop a) 0 0 = (0, 0, 11) by rw [← Hg.out, hst.out, if_pos (.inr ⟨hz, by omega⟩)]))
            clear h9 hz
            go_wp2
            go_ret3
            exact ⟨ret3 F.out.2.1.symm F.out.2.2.symm F.out.1.symm, rfl⟩
          · have hk0' : decide ((0 : Int) < k) = false := by simp; omega
            have hv := or_step acc k (at8 l (a + k)) h0 h1 Hacc.out hk9 (by omega)
            have F := Lib.hid (g_done hal.out (show getF (l.drop a) 0 0 = (acc + (at8 l (a + k)).toNat * 128 ^ k, k + 1, 0) by rw [← Hg.out, hst.out, if_neg (by omega), if_pos (by omega)]))
            rw [show (at8 l (a + k)).toNat % 128 = (at8 l (a + k)).toNat by omega] at hv
            have Hv := Lib.hid hv
            have hlt8 : at8 l (a + k) < 128 := by omega
            clear hv hz h9
            go_wp2
            go_ret3
            exact ⟨ret3 (by rw [Hv.out]; exact F.out.2.1.symm) (by rw [F.out.2.2]; omega) F.out.1.symm, rfl⟩
        · have hbz : (at8 l (a + k) == 0) = false := by simp [hz]
          by_cases hs : at8 l (a + k) < 128
          · have hv := or_step acc k (at8 l (a + k)) h0 h1 Hacc.out hk9 (by omega)
            have F := Lib.hid (g_done hal.out (show getF (l.drop a) 0 0 = (acc + (at8 l (a + k)).toNat * 128 ^ k, k + 1, 0) by rw [← Hg.out, hst.out, if_neg (by omega), if_pos (by omega)]))
            rw [show (at8 l (a + k)).toNat % 128 = (at8 l (a + k)).toNat by omega] at hv
            have Hv := Lib.hid hv
            clear hv hz h9
            go_wp2
            go_ret3
            exact ⟨ret3 (by rw [Hv.out]; exact F.out.2.1.symm) (by rw [F.out.2.2]; omega) F.out.1.symm, rfl⟩
          · have hv := or_step acc k (at8 l (a + k)) h0 h1 Hacc.out hk9 (by omega)
            rw [show (at8 l (a + k)).toNat % 128 = (at8 l (a + k)).toNat - 128 by omega] at hv
            have Hv := Lib.hid hv
            have F := Lib.hid (show getF (l.drop (a + (k + 1))) (k + 1) (acc + ((at8 l (a + k)).toNat - 128) * 128 ^ k) = getF (l.drop a) 0 0 by rw [← Hg.out, hst.out, if_neg (by omega), if_neg (by omega)])
            have Hb := Lib.hid (acc_lt (x := (at8 l (a + k)).toNat - 128) Hacc.out (by omega))
            clear hv hz
            go_wp2
            go_round
            case rel => exact ⟨k + 1, _, by omega, by omega, Hb.out, by go_num, by rw [Hv.out], rfl, F.out⟩
            case measure => simp [intOf]; omega
    · have F := Lib.hid (g_fail hal.out (by decide) (show getF (l.drop a) 0 0 = (0, 0, 10) by rw [← Hg.out, getF_end l a k acc (by rw [hln.out]; omega)]))
      go_wp2
      go_ret3
      exact ⟨ret3 F.out.2.1.symm F.out.2.2.symm F.out.1.symm, rfl⟩

set_option maxRecDepth 100000 in
set_option maxHeartbeats 1600000 in
theorem get_end (A : Option Addr) (n c B : Nat) (l : List UInt8) (w : World) (hr : Rd w B A n l) :
    Calls Try.prog 33 #[.slice A n c, .int .i64 n] w (Got w l n) := by
  have F := Lib.hid (g_fail (l := l) (a := n) (x := 10) (by rw [hr.len]; exact Nat.le_refl _) (by decide) (by rw [List.drop_eq_nil_of_le (by rw [hr.len]; exact Nat.le_refl _)]; rfl))
  go_enter Try.func33, Try.ntmps33
  go_wp2
  go_step3
  go_wp2
  go_step3
  go_wp2
  all_goals
    refine wp_loop_rounds 1 ?_
    rw [rounds_succ]
    go_wp2
    go_ret3
    exact ⟨ret3 F.out.2.1.symm F.out.2.2.symm F.out.1.symm, rfl⟩

set_option maxRecDepth 100000 in
set_option maxHeartbeats 1600000 in
theorem get_any (A : Option Addr) (n c B : Nat) (at_ : Int) (l : List UInt8) (w : World) (hr : Rd w B A n l) (hn : n ≤ 100000000000) (hnc : n ≤ c) :
    Calls Try.prog 33 #[.slice A n c, .int .i64 at_] w (Got w l at_) := by
  by_cases ho : at_ < 0
  · have F := Lib.hid (g_out (l := l) (.inl ho))
    go_enter Try.func33, Try.ntmps33
    go_wp2
    go_step3
    go_wp2
    try rw [Exit.noGoto_ret]
    go_ret3
    exact ⟨ret3 F.out.2.1.symm F.out.2.2.symm F.out.1.symm, rfl⟩
  · by_cases hp : (n : Int) < at_
    · have F := Lib.hid (g_out (l := l) (a := at_) (.inr (by rw [hr.len]; exact hp)))
      go_enter Try.func33, Try.ntmps33
      go_wp2
      go_step3
      go_wp2
      try rw [Exit.noGoto_ret]
      go_ret3
      exact ⟨ret3 F.out.2.1.symm F.out.2.2.symm F.out.1.symm, rfl⟩
    · obtain ⟨a, rfl⟩ := Int.eq_ofNat_of_zero_le (show 0 ≤ at_ by omega)
      by_cases he : a = n
      · subst he
        exact get_end A a c B l w hr
      · exact get_in A n c B a l w hr hn hnc (by omega)

end Go.Proofs.Ytliccofjlheceaa
namespace Go.Proofs.Ytliccofjlheceaa
open Go.RowKit

theorem g_to {l : List UInt8} {a : Int} (h : gE l a = 0) : ∃ T : Nat, gTo l a = (T : Int) ∧ T ≤ l.length := by
  obtain ⟨x, t, _, _, _, hT, _, hle, _, _⟩ := g_ok h
  exact ⟨x + t, hT, hle⟩
theorem ret_sie {A A' : Option Addr} {n n' c c' : Nat} {x y x' y' : Int} (h : Value.slice A n c = Value.slice A' n' c') (h1 : x = x') (h2 : y = y') :
    Ending.returned (.tuple #[.slice A n c, .int .i64 x, .int .i64 y]) = Ending.returned (.tuple #[.slice A' n' c', .int .i64 x', .int .i64 y']) := by rw [h, h1, h2]
/-- What GetBytes comes to. -/
def GotBytes (w : World) (l : List UInt8) (at_ : Int) (e : Ending) (w' : World) : Prop :=
  ∃ A' n' c', e = .returned (.tuple #[.slice A' n' c', .int .i64 (gbTo l at_), .int .i64 (gbE l at_)]) ∧ Own w' w.heap.size A' n' c' (gbL l at_) ∧ Below w.heap.size w w'
theorem gotBytes_none {w w' : World} {l : List UInt8} {a : Int} {x : Int} (h : gbE l a = x ∧ gbL l a = [] ∧ gbTo l a = 0) (hb : Below w.heap.size w w') : GotBytes w l a (.returned (.tuple #[.slice none 0 0, .int .i64 0, .int .i64 x])) w' :=
  ⟨none, 0, 0, by rw [h.1, h.2.2], by rw [h.2.1]; exact Own.nil_ _ _, hb⟩

set_option maxRecDepth 100000 in
set_option maxHeartbeats 1600000 in
theorem getBytes_any (A : Option Addr) (n c : Nat) (at_ : Int) (l : List UInt8) (w : World) (hr : Rd w w.heap.size A n l) (hn : n ≤ 100000000000) (hnc : n ≤ c) :
    Calls Try.prog 37 #[.slice A n c, .int .i64 at_] w (GotBytes w l at_) := by
  have hln := Lib.hid hr.len
  rcases gb_cases l at_ with h | ⟨h, k⟩ | ⟨h, k, m⟩ | ⟨h, k, m⟩
  · have F := Lib.hid (gb_err1 h)
    have hne : (gE l at_ != 0) = true := by simp [h]
    clear h
    go_enter Try.func37, Try.ntmps37
    go_wp2_with fail
    refine (get_any _ _ _ _ _ _ _ hr hn hnc).mono ?_
    rintro e w' ⟨rfl, rfl⟩
    go_wp2_with fail
    go_ret3
    exact gotBytes_none F.out (Below.refl _ _)
  · have F := Lib.hid (gb_err2 h k)
    have H := Lib.hid h
    clear h
    go_enter Try.func37, Try.ntmps37
    go_wp2_with fail
    refine (get_any _ _ _ _ _ _ _ hr hn hnc).mono ?_
    rintro e w' ⟨rfl, rfl⟩
    rw [H.out]
    go_wp2_with fail
    go_ret3
    exact gotBytes_none F.out (Below.refl _ _)
  · have F := Lib.hid (gb_err3 h k m)
    have H := Lib.hid h
    obtain ⟨T, hT, hle⟩ := g_to h
    have h0 := gN_nonneg l at_
    rw [hln.out] at m hle
    rw [hT] at m
    have HT := Lib.hid hT
    have hw : IntKind.u64.wrap ((n : Int) - (T : Int)) = (n : Int) - (T : Int) := IntWalk.u64_in _ (by omega)
    clear h hT
    go_enter Try.func37, Try.ntmps37
    go_wp2_with fail
    refine (get_any _ _ _ _ _ _ _ hr hn hnc).mono ?_
    rintro e w' ⟨rfl, rfl⟩
    rw [H.out, HT.out]
    go_wp2_with fail
    go_ret3
    exact gotBytes_none F.out (Below.refl _ _)
  · have F := Lib.hid (gb_ok h k m)
    have H := Lib.hid h
    obtain ⟨T, hT, hle⟩ := g_to h
    obtain ⟨N, hN⟩ := Int.eq_ofNat_of_zero_le (gN_nonneg l at_)
    rw [hln.out] at m hle
    rw [hT, hN] at m
    rw [hN] at k
    have HT := Lib.hid hT
    have HN := Lib.hid hN
    have hw : IntKind.u64.wrap ((n : Int) - (T : Int)) = (n : Int) - (T : Int) := IntWalk.u64_in _ (by omega)
    have hTn : T + N ≤ n := by omega
    have hNb : N ≤ 1048576 := by omega
    have eN : T + N - T = N := by omega
    have hcut : Rd w w.heap.size (if c = T then A else A.map (·.add T)) (T + N - T) ((l.drop T).take N) := by rw [eN]; exact hr.mid (i := T) (j := N) (c := c) hTn hnc
    have EN := Lib.hid eN
    clear eN
    clear h hT hN k m
    go_enter Try.func37, Try.ntmps37
    go_wp2_with fail
    refine (get_any _ _ _ _ _ _ _ hr hn hnc).mono ?_
    rintro e w' ⟨rfl, rfl⟩
    rw [H.out, HT.out, HN.out]
    go_wp2_with (at_builtin; refine wpList_app rfl _ _ rfl rfl (Own.nil_ w w.heap.size) rfl hcut (by omega) (Nat.le_refl _) ?_; intro A2 c2 w2 o2 g2)
    all_goals
      have b2 := below_nil rfl g2
      go_ret3
      refine ⟨A2, N, c2, ret_sie rfl (by rw [F.out.2.2, HT.out, HN.out]) F.out.1.symm, ?_, b2⟩
      rw [F.out.2.1, HT.out, HN.out, Int.toNat_natCast, Int.toNat_natCast]
      rw [Nat.zero_add, EN.out] at o2
      exact o2

theorem xor_none (x : Int) (h0 : 0 ≤ x) (h1 : x ≤ 18446744073709551615) : bits .xor .u64 x 0 = x := by
  obtain ⟨y, rfl⟩ := Int.eq_ofNat_of_zero_le h0
  show IntKind.u64.wrap (((BitVec.ofInt 64 (y : Int)) ^^^ (BitVec.ofInt 64 0)).toNat : Int) = _
  rw [show BitVec.ofInt 64 0 = 0#64 from rfl, BitVec.xor_zero, BitVec.ofInt_natCast, BitVec.toNat_ofNat, IntKind.wrap_u64]
  omega
theorem xor_all (x : Int) (h0 : 0 ≤ x) (h1 : x ≤ 18446744073709551615) : bits .xor .u64 x 18446744073709551615 = 18446744073709551615 - x := by
  obtain ⟨y, rfl⟩ := Int.eq_ofNat_of_zero_le h0
  show IntKind.u64.wrap (((BitVec.ofInt 64 (y : Int)) ^^^ (BitVec.ofInt 64 18446744073709551615)).toNat : Int) = _
  have e : BitVec.ofInt 64 18446744073709551615 = BitVec.allOnes 64 := by decide
  rw [e, BitVec.xor_allOnes, BitVec.toNat_not, BitVec.ofInt_natCast, BitVec.toNat_ofNat, IntKind.wrap_u64]
  omega

set_option maxRecDepth 100000 in
set_option maxHeartbeats 400000 in
theorem putInt_any (x : Int) (w : World) (h0 : -9223372036854775808 ≤ x) (h1 : x ≤ 9223372036854775807) :
    Calls Try.prog 35 #[.int .i64 x] w fun e w' => ∃ A' c', e = .returned (.slice A' (putN (zig x)).length c') ∧ Own w' w.heap.size A' (putN (zig x)).length c' (putN (zig x)) ∧ Below w.heap.size w w' := by
  have hlen := putN_len10 (zig_lt h0 h1)
  by_cases hx : x < 0
  · have e1 : IntKind.u64.wrap x = x + 18446744073709551616 := by rw [IntKind.wrap_u64]; omega
    have e2 : IntKind.u64.wrap ((x + 18446744073709551616) * 2) = 18446744073709551616 + 2 * x := by rw [IntKind.wrap_u64]; omega
    have e3 : IntKind.u64.wrap (x / 9223372036854775808) = 18446744073709551615 := by rw [IntKind.wrap_u64]; omega
    have e4 := Lib.hid (xor_all (18446744073709551616 + 2 * x) (by omega) (by omega))
    have e5 := Lib.hid (show 18446744073709551615 - (18446744073709551616 + 2 * x) = ((zig x : Nat) : Int) by unfold zig; rw [if_pos hx]; omega)
    go_enter Try.func35, Try.ntmps35
    go_wp2_with fail
    rw [e4.out, e5.out]
    refine (put_any _ _ hlen).mono ?_
    rintro e w1 ⟨A1, c1, rfl, o1, b1⟩
    clear e1 e2 e3
    go_wp2_with fail
    go_ret
    exact ⟨A1, c1, rfl, o1, b1⟩
  · have e4 := Lib.hid (xor_none (x * 2) (by omega) (by omega))
    have e3 := Lib.hid (show x / 9223372036854775808 = 0 by omega)
    have e5 := Lib.hid (show x * 2 = ((zig x : Nat) : Int) by unfold zig; rw [if_neg hx]; omega)
    go_enter Try.func35, Try.ntmps35
    go_wp2_with fail
    rw [e3.out, e4.out, e5.out]
    refine (put_any _ _ hlen).mono ?_
    rintro e w1 ⟨A1, c1, rfl, o1, b1⟩
    go_wp2_with fail
    go_ret
    exact ⟨A1, c1, rfl, o1, b1⟩
end Go.Proofs.Ytliccofjlheceaa
namespace Go.Proofs.Ytliccofjlheceaa
open Go.RowKit

/-- The digits to the base 128. -/
def digF : Nat → Nat → List UInt8
  | 0, _ => []
  | f + 1, n => if n < 128 then [b8 (n : Int)] else b8 ((n % 128 : Nat) : Int) :: digF f (n / 128)
def digN (n : Nat) : List UInt8 := digF (n + 1) n
theorem digF_any : ∀ (f g n : Nat), n < f → n < g → digF f n = digF g n
  | f + 1, g + 1, n, hf, hg => by
    unfold digF
    by_cases h : n < 128
    · rw [if_pos h, if_pos h]
    · rw [if_neg h, if_neg h, digF_any f g (n / 128) (by omega) (by omega)]
theorem digN_lt {n : Nat} (h : n < 128) : digN n = [b8 (n : Int)] := by unfold digN digF; rw [if_pos h]
theorem digN_ge {n : Nat} (h : ¬ n < 128) : digN n = b8 ((n % 128 : Nat) : Int) :: digN (n / 128) := by
  unfold digN; rw [digF, if_neg h, digF_any n (n / 128 + 1) (n / 128) (by omega) (by omega)]
/-- What digits are still to come. -/
def digT (n : Nat) : List UInt8 := if n = 0 then [] else digN n
theorem digN_T (n : Nat) : digN n = b8 ((n % 128 : Nat) : Int) :: digT (n / 128) := by
  by_cases h : n < 128
  · rw [digN_lt h, show n / 128 = 0 by omega, show n % 128 = n by omega]; rfl
  · rw [digN_ge h]; unfold digT; rw [if_neg (by omega)]
theorem at8_cons_succ (c : UInt8) (l : List UInt8) (k : Nat) : at8 (c :: l) (k + 1) = at8 l k := rfl
theorem at8_b8_0 (x : Nat) (l : List UInt8) (h : x < 256) : at8 (b8 (x : Int) :: l) 0 = x := by
  show (((b8 (x : Int)).toNat : Nat) : Int) = x
  unfold b8; rw [UInt8.toNat_ofNat']; omega
theorem dig_put : ∀ (f n : Nat), n < f → (digN n).length = (putN n).length ∧ ∀ k, (k + 1 < (putN n).length → at8 (putN n) k = at8 (digN n) k + 128 ∧ at8 (digN n) k < 128) ∧ (k + 1 = (putN n).length → at8 (putN n) k = at8 (digN n) k)
  | f + 1, n, hf => by
    by_cases h : n < 128
    · rw [digN_lt h, putN_lt h]
      exact ⟨rfl, fun k => ⟨fun hk => by simp at hk, fun _ => rfl⟩⟩
    · obtain ⟨h1, h2⟩ := dig_put f (n / 128) (by omega)
      rw [digN_ge h, putN_ge h]
      refine ⟨by simp [h1], fun k => ?_⟩
      rcases k with _ | k
      · refine ⟨fun _ => ?_, fun hk => ?_⟩
        · have e1 := at8_b8_0 (n % 128) (digN (n / 128)) (by omega)
          have e2 := at8_b8_0 (n % 128 + 128) (putN (n / 128)) (by omega)
          rw [e1, e2]
          refine ⟨by omega, by omega⟩
        · have := putN_pos (n / 128); rw [List.length_cons] at hk; omega
      · rw [at8_cons_succ, at8_cons_succ, List.length_cons]
        exact ⟨fun hk => (h2 k).1 (by omega), fun hk => (h2 k).2 (by omega)⟩
theorem ext8 {l m : List UInt8} (h : l.length = m.length) (k : ∀ j, j < l.length → at8 l j = at8 m j) : l = m := by
  apply List.ext_getElem h
  intro i h1 h2
  have := k i h1
  rw [at8_of l i h1, at8_of m i h2] at this
  exact UInt8.toNat_inj.1 (by omega)
theorem at8_set (l : List UInt8) (k j : Nat) (x : Int) (hk : k < l.length) (h0 : 0 ≤ x) (h1 : x ≤ 255) : at8 (l.set k (b8 x)) j = if j = k then x else at8 l j := by
  by_cases h : j = k
  · subst h
    rw [if_pos rfl, at8_of _ _ (by simpa using hk)]
    simp only [List.getElem_set_self]
    unfold b8; rw [UInt8.toNat_ofNat']; omega
  · rw [if_neg h]
    unfold at8
    rw [List.getD_eq_getElem?_getD, List.getD_eq_getElem?_getD, List.getElem?_set_ne (by omega)]
theorem own_some {w : World} {base n c : Nat} {A : Option Addr} {l : List UInt8} (h : Own w base A n c l) (hn : 0 < n) : ∃ g, A = some ⟨g, 0, none⟩ ∧ base ≤ g := by
  obtain ⟨g, cap, hv, hb, _⟩ := World.ownsRow.form h hn
  injection hv with hv
  exact ⟨g, hv, hb⟩

set_option maxRecDepth 100000 in
set_option maxHeartbeats 800000 in
theorem refPut_any (n : Nat) (w : World) (hn : n ≤ 18446744073709551615) :
    Calls Try.prog 40 #[.int .u64 n] w fun e w' => ∃ A' c', e = .returned (.slice A' (putN n).length c') ∧ Own w' w.heap.size A' (putN n).length c' (putN n) ∧ Below w.heap.size w w' := by
  have hlen := putN_len10 (n := n) (by omega)
  have hdl := (dig_put (n + 1) n (by omega)).1
  have D := Lib.hid (dig_put (n + 1) n (by omega)).2
  rw [← hdl] at hlen
  have Hdl := Lib.hid hdl
  clear hdl
  have hm : IntKind.u8.wrap ((n : Int) % 128) = (n : Int) % 128 := IntWalk.u8_in _ (by omega)
  go_enter Try.func40, Try.ntmps40
  go_wp2
  go_loopw [0, 3] (fun i v wr => ∃ (x : Nat) (o : List UInt8) (k : Nat) (A' : Option Addr) (c' : Nat), x ≤ 18446744073709551615 ∧ i = .int .u64 x ∧ v = .slice A' k c' ∧ Own wr w.heap.size A' k c' o ∧ o ++ digT x = digN n ∧ Below w.heap.size w wr) (fun i _ _ => (intOf i).toNat)
  case atStart =>
    refine ⟨n / 128, [b8 ((n : Int) % 128)], 1, _, 1, by omega, by go_num, rfl, Own.lit1 w w.heap.size (Nat.le_refl _) _ (by omega), ?_, (Below.refl _ _).alloc (Nat.le_refl _) _⟩
    rw [digN_T n]; rfl
  case round =>
    obtain ⟨x, o, k, A', c', hxb, rfl, rfl, hown, hx, hb⟩ := hrel
    have hk : k ≤ 10 := by
      have h1 := congrArg List.length hx
      rw [List.length_append, hown.len] at h1
      omega
    have Hx := Lib.hid hx
    clear hx
    by_cases h0 : x = 0
    · subst h0
      have ho : o = digN n := by have := Hx.out; simpa [digT] using this
      subst ho
      have hkk : k = (digN n).length := hown.len.symm
      subst hkk
      have hpos := putN_pos n
      rw [← Hdl.out] at hpos
      obtain ⟨g, rfl, hg⟩ := own_some hown (by omega)
      go_wp2
      go_loopw [4] (fun i wr' => ∃ (k : Nat) (L : List UInt8), k + 1 ≤ (digN n).length ∧ i = .int .i64 k ∧ Own wr' w.heap.size (some ⟨g, 0, none⟩) (digN n).length c' L ∧ (∀ j, at8 L j = if j < k then at8 (putN n) j else at8 (digN n) j) ∧ Below w.heap.size w wr') (fun i _ => (digN n).length - (intOf i).toNat)
      case atStart => exact ⟨0, digN n, by omega, rfl, hown, fun j => by rw [if_neg (by omega)], hb⟩
      case round =>
        clear hown hb
        obtain ⟨k, L, hkm, rfl, hown, hat, hb⟩ := hrel
        have Hat := Lib.hid hat
        clear hat
        by_cases hlt : k + 1 < (digN n).length
        · have hc := hown.cell (j := k) (by omega)
          have hf := hown.free k
          have hd := ((D.out k).1 (by rw [← Hdl.out]; exact hlt))
          have h0 := at8_lo L k
          have hv : at8 L k < 128 := by have := Hat.out k; rw [if_neg (Nat.lt_irrefl k)] at this; rw [this]; exact hd.2
          have Hs := Lib.hid (hown.set (j := k) (x := at8 L k + 128) (by omega) (by omega))
          have Hb := Lib.hid (hb.setCell (p := ⟨g, k, none⟩) hg (.int .u8 (at8 L k + 128)))
          have Hn := Lib.hid (show ∀ j, at8 (L.set k (b8 (at8 L k + 128))) j = if j < k + 1 then at8 (putN n) j else at8 (digN n) j from fun j => by
            rw [at8_set L k j _ (by rw [hown.len]; omega) (by omega) (by omega)]
            have hk := Hat.out k
            rw [if_neg (Nat.lt_irrefl k)] at hk
            by_cases hj : j = k
            · rw [if_pos hj, if_pos (by omega), hj, hd.1, hk]
            · rw [if_neg hj, Hat.out j]
              by_cases hjk : j < k
              · rw [if_pos hjk, if_pos (by omega)]
              · rw [if_neg hjk, if_neg (by omega)])
          clear hd hb
          go_wp2
          go_roundw
          case rel => exact ⟨k + 1, _, by omega, by go_num, Hs.out, Hn.out, Hb.out⟩
          case measure => simp [intOf]; omega
        · have hL : L = putN n := by
            refine ext8 (by rw [hown.len, Hdl.out]) fun j hj => ?_
            rw [hown.len] at hj
            rw [Hat.out j]
            by_cases hjk : j < k
            · rw [if_pos hjk]
            · rw [if_neg hjk]
              exact ((D.out j).2 (by rw [← Hdl.out]; omega)).symm
          subst hL
          go_wp2
          go_ret
          exact ⟨_, c', ret_slice Hdl.out, by rw [← Hdl.out]; exact hown, hb⟩
    · have hp := Lib.hid (digN_T x)
      have hT := Lib.hid (show digT x = digN x by unfold digT; rw [if_neg h0])
      have hm : IntKind.u8.wrap ((x : Int) % 128) = (x : Int) % 128 := IntWalk.u8_in _ (by omega)
      go_wp2_with (at_builtin; refine wpList_app rfl _ _ rfl rfl (hown.alloc _) rfl (Rd.lit1 _ _ (by omega)) (by omega) (by simp; have := hb.size; omega) ?_; intro A2 c2 w2 hown2 hg2)
      have hb2 := below_own (belowA hb _) (hown.alloc _) hg2
      clear hm
      go_roundw
      case rel => exact ⟨x / 128, o ++ [b8 ((x : Int) % 128)], k + 1, A2, c2, by omega, by go_num, rfl, hown2, by rw [List.append_assoc, List.singleton_append, show b8 ((x : Int) % 128) = b8 ((x % 128 : Nat) : Int) from rfl, ← hp.out, ← hT.out]; exact Hx.out, hb2⟩
      case measure => simp [intOf]; omega

set_option maxRecDepth 100000 in
set_option maxHeartbeats 400000 in
theorem refPutBytes_any (A : Option Addr) (n c : Nat) (l : List UInt8) (w : World) (hr : Rd w w.heap.size A n l) (hn : n ≤ 100000000000) :
    Calls Try.prog 41 #[.slice A n c] w fun e w' => ∃ A' c', e = .returned (.slice A' ((putN n).length + n) c') ∧ Own w' w.heap.size A' ((putN n).length + n) c' (putB l) ∧ Below w.heap.size w w' := by
  have hln := Lib.hid hr.len
  have hlen := putN_len10 (n := n) (by omega)
  have hw : IntKind.u64.wrap (n : Int) = n := IntWalk.u64_in _ (by omega)
  go_enter Try.func41, Try.ntmps41
  go_wp2_with fail
  refine (refPut_any n _ (by omega)).mono ?_
  rintro e w1 ⟨A1, c1, rfl, o1, b1⟩
  go_wp2_with (at_builtin; refine wpList_app rfl _ _ rfl rfl o1 rfl (hr.up b1) (by omega) b1.size ?_; intro A2 c2 w2 o2 g2)
  have b2 := below_own b1 o1 g2
  go_ret
  exact ⟨A2, c2, rfl, by unfold putB; rw [hln.out]; exact o2, b2⟩
end Go.Proofs.Ytliccofjlheceaa
namespace Go.Proofs.Ytliccofjlheceaa
open Go.RowKit

/-- The unit, as it is kept: at the end of all it has gone round. -/
def unit8 (k : Nat) : Nat := 128 ^ k % 18446744073709551616
theorem unit8_le {k : Nat} (h : k ≤ 9) : unit8 k = 128 ^ k := by
  unfold unit8
  have h2 : 128 ^ k ≤ 128 ^ 9 := Nat.pow_le_pow_right (by omega) h
  have hp9 : (128 : Nat) ^ 9 = 9223372036854775808 := by decide
  exact Nat.mod_eq_of_lt (by omega)
theorem unit8_step (k : Nat) : IntKind.u64.wrap ((unit8 k : Int) * 128) = (unit8 (k + 1) : Int) := by
  unfold unit8
  rw [IntKind.wrap_u64, Nat.pow_succ]
  omega

/-- The number gets seven bits more, as the reference reckons it. -/
theorem add_step (acc k : Nat) (x : Int) (h0 : 0 ≤ x) (h1 : x ≤ 255) (hacc : acc < 128 ^ k) (hk : k ≤ 9) (h9 : k = 9 → x ≤ 1) :
    IntKind.u64.wrap ((acc : Int) + IntKind.u64.wrap (x % 128 * ((unit8 k : Nat) : Int))) = ((acc + (x.toNat % 128) * 128 ^ k : Nat) : Int) := by
  rw [unit8_le hk]
  obtain ⟨y, rfl⟩ := Int.eq_ofNat_of_zero_le h0
  have hb : (y % 128) * 128 ^ k + acc < 18446744073709551616 := by
    by_cases e : k = 9
    · subst e
      have hp9 : (128 : Nat) ^ 9 = 9223372036854775808 := by decide
      rw [hp9] at hacc ⊢
      have : y % 128 ≤ 1 := by have := h9 rfl; omega
      have := Nat.mul_le_mul_right 9223372036854775808 this
      omega
    · have h2 : 128 ^ (k + 1) ≤ 128 ^ 9 := Nat.pow_le_pow_right (by omega) (by omega)
      have hp9 : (128 : Nat) ^ 9 = 9223372036854775808 := by decide
      have h3 : (y % 128) * 128 ^ k ≤ 127 * 128 ^ k := Nat.mul_le_mul_right _ (by omega)
      rw [hp9, Nat.pow_succ] at h2
      omega
  rw [show (y : Int) % 128 = ((y % 128 : Nat) : Int) by omega, ← Int.natCast_mul, Int.toNat_natCast]
  rw [IntKind.wrap_u64, IntKind.wrap_u64]
  omega
set_option maxRecDepth 100000 in
set_option maxHeartbeats 1600000 in
theorem refGet_in (A : Option Addr) (n c B a : Nat) (l : List UInt8) (w : World) (hr : Rd w B A n l) (hn : n ≤ 100000000000) (ha : a ≤ n) :
    Calls Try.prog 38 #[.slice A n c, .int .i64 a] w (Got w l a) := by
  have hln := Lib.hid hr.len
  go_enter Try.func38, Try.ntmps38
  go_wp2
  go_loop [7, 8, 9] (fun v u i => ∃ (k acc : Nat), a + k ≤ n ∧ k ≤ 9 ∧ acc < 128 ^ k ∧ i = .int .i64 ((a + k : Nat) : Int) ∧ v = .int .u64 acc ∧ u = .int .u64 (unit8 k) ∧ getF (l.drop (a + k)) k acc = getF (l.drop a) 0 0) (fun _ _ i => n - (intOf i).toNat)
  case atStart => exact ⟨0, 0, by omega, by omega, by simp, rfl, rfl, rfl, rfl⟩
  case round =>
    obtain ⟨k, acc, hkn, hk9, hacc, rfl, rfl, rfl, hg⟩ := hrel
    have Hg := Lib.hid hg
    have Hacc := Lib.hid hacc
    have hal : Hid (a ≤ l.length) := Lib.hid (by rw [hln.out]; omega)
    have hu := Lib.hid (unit8_le hk9)
    have hus := unit8_step k
    clear hg hacc
    by_cases hlt : a + k < n
    · obtain ⟨b, off, rfl, hc⟩ := hr.at_ hlt
      have h0 := at8_lo l (a + k)
      have h1 := at8_hi l (a + k)
      have hst := Lib.hid (getF_step l a k acc (by rw [hln.out]; exact hlt))
      by_cases h9 : k = 9
      · have hb9 : ((a : Int) + k - a == 9) = true := by simp; omega
        have hk0 : (a : Int) < (a : Int) + k := by omega
        by_cases hc1 : 1 < at8 l (a + k)
        · have F := Lib.hid (g_fail hal.out (by decide) (show getF (l.drop a) 0 0 = (0, 0, 11) by rw [← Hg.out, hst.out, if_pos (.inl ⟨h9, hc1⟩)]))
          have hb0 : (at8 l (a + k) != 0) = true := by rw [bne_iff_ne]; omega
          have hb1 : (at8 l (a + k) != 1) = true := by rw [bne_iff_ne]; omega
          clear h9
          go_wp2
          go_ret3
          exact ⟨ret3 F.out.2.1.symm F.out.2.2.symm F.out.1.symm, rfl⟩
        · by_cases hz : at8 l (a + k) = 0
          · have F := Lib.hid (g_fail hal.out (by decide) (show getF (l.drop a) 0 0 = (0, 0, 11) by rw [← Hg.out, hst.out, if_pos (.inr ⟨hz, by omega⟩)]))
            have hb0 : (at8 l (a + k) != 0) = false := by simp [hz]
            have hb1 : (at8 l (a + k) == 0) = true := by simp [hz]
            clear h9 hz
            go_wp2
            go_ret3
            exact ⟨ret3 F.out.2.1.symm F.out.2.2.symm F.out.1.symm, rfl⟩
          · have hb0 : (at8 l (a + k) != 0) = true := by rw [bne_iff_ne]; omega
            have hb1 : (at8 l (a + k) != 1) = false := by simp; omega
            have hb2 : (at8 l (a + k) == 0) = false := by simp [hz]
            have hv := add_step acc k (at8 l (a + k)) h0 h1 Hacc.out hk9 (by omega)
            have F := Lib.hid (g_done hal.out (show getF (l.drop a) 0 0 = (acc + (at8 l (a + k)).toNat * 128 ^ k, k + 1, 0) by rw [← Hg.out, hst.out, if_neg (by omega), if_pos (by omega)]))
            rw [show (at8 l (a + k)).toNat % 128 = (at8 l (a + k)).toNat by omega] at hv
            have Hv := Lib.hid hv
            have hlt8 : at8 l (a + k) < 128 := by omega
            clear hv hz h9
            go_wp2
            go_ret3
            exact ⟨ret3 (by rw [Hv.out]; exact F.out.2.1.symm) (by rw [F.out.2.2]; omega) F.out.1.symm, rfl⟩
      · have hb9 : ((a : Int) + k - a == 9) = false := by simp; omega
        by_cases hz : at8 l (a + k) = 0
        · have hb0 : (at8 l (a + k) == 0) = true := by simp [hz]
          by_cases hk0 : 0 < k
          · have hk1 : (a : Int) < (a : Int) + k := by omega
            have F := Lib.hid (g_fail hal.out (by decide) (show getF (l.drop a) 0 0 = (0, 0, 11) by rw [← Hg.out, hst.out, if_pos (.inr ⟨hz, by omega⟩)]))
            clear h9 hz
            go_wp2
            go_ret3
            exact ⟨ret3 F.out.2.1.symm F.out.2.2.symm F.out.1.symm, rfl⟩
          · have hk1 : decide ((a : Int) < (a : Int) + k) = false := by simp; omega
            have hv := add_step acc k (at8 l (a + k)) h0 h1 Hacc.out hk9 (by omega)
            have F := Lib.hid (g_done hal.out (show getF (l.drop a) 0 0 = (acc + (at8 l (a + k)).toNat * 128 ^ k, k + 1, 0) by rw [← Hg.out, hst.out, if_neg (by omega), if_pos (by omega)]))
            rw [show (at8 l (a + k)).toNat % 128 = (at8 l (a + k)).toNat by omega] at hv
            have Hv := Lib.hid hv
            have hlt8 : at8 l (a + k) < 128 := by omega
            clear hv hz h9
            go_wp2
            go_ret3
            exact ⟨ret3 (by rw [Hv.out]; exact F.out.2.1.symm) (by rw [F.out.2.2]; omega) F.out.1.symm, rfl⟩
        · have hb0 : (at8 l (a + k) == 0) = false := by simp [hz]
          have hbd : (decide ((a : Int) < (a : Int) + k) && (at8 l (a + k) == 0)) = false := by rw [hb0]; simp
          by_cases hk0 : 0 < k
          · have hk1 : (a : Int) < (a : Int) + k := by omega
            by_cases hs : at8 l (a + k) < 128
            · have hv := add_step acc k (at8 l (a + k)) h0 h1 Hacc.out hk9 (by omega)
              have F := Lib.hid (g_done hal.out (show getF (l.drop a) 0 0 = (acc + (at8 l (a + k)).toNat * 128 ^ k, k + 1, 0) by rw [← Hg.out, hst.out, if_neg (by omega), if_pos (by omega)]))
              rw [show (at8 l (a + k)).toNat % 128 = (at8 l (a + k)).toNat by omega] at hv
              have Hv := Lib.hid hv
              clear hv hz h9
              go_wp2
              go_ret3
              exact ⟨ret3 (by rw [Hv.out]; exact F.out.2.1.symm) (by rw [F.out.2.2]; omega) F.out.1.symm, rfl⟩
            · have hv := add_step acc k (at8 l (a + k)) h0 h1 Hacc.out hk9 (by omega)
              rw [show (at8 l (a + k)).toNat % 128 = (at8 l (a + k)).toNat - 128 by omega] at hv
              have Hv := Lib.hid hv
              have F := Lib.hid (show getF (l.drop (a + (k + 1))) (k + 1) (acc + ((at8 l (a + k)).toNat - 128) * 128 ^ k) = getF (l.drop a) 0 0 by rw [← Hg.out, hst.out, if_neg (by omega), if_neg (by omega)])
              have Hb := Lib.hid (acc_lt (x := (at8 l (a + k)).toNat - 128) Hacc.out (by omega))
              clear hv hz
              go_wp2
              go_round
              case rel => exact ⟨k + 1, _, by omega, by omega, Hb.out, by go_num, by rw [Hv.out], rfl, F.out⟩
              case measure => simp [intOf]; omega
          · have hk1 : decide ((a : Int) < (a : Int) + k) = false := by simp; omega
            by_cases hs : at8 l (a + k) < 128
            · have hv := add_step acc k (at8 l (a + k)) h0 h1 Hacc.out hk9 (by omega)
              have F := Lib.hid (g_done hal.out (show getF (l.drop a) 0 0 = (acc + (at8 l (a + k)).toNat * 128 ^ k, k + 1, 0) by rw [← Hg.out, hst.out, if_neg (by omega), if_pos (by omega)]))
              rw [show (at8 l (a + k)).toNat % 128 = (at8 l (a + k)).toNat by omega] at hv
              have Hv := Lib.hid hv
              clear hv hz h9
              go_wp2
              go_ret3
              exact ⟨ret3 (by rw [Hv.out]; exact F.out.2.1.symm) (by rw [F.out.2.2]; omega) F.out.1.symm, rfl⟩
            · have hv := add_step acc k (at8 l (a + k)) h0 h1 Hacc.out hk9 (by omega)
              rw [show (at8 l (a + k)).toNat % 128 = (at8 l (a + k)).toNat - 128 by omega] at hv
              have Hv := Lib.hid hv
              have F := Lib.hid (show getF (l.drop (a + (k + 1))) (k + 1) (acc + ((at8 l (a + k)).toNat - 128) * 128 ^ k) = getF (l.drop a) 0 0 by rw [← Hg.out, hst.out, if_neg (by omega), if_neg (by omega)])
              have Hb := Lib.hid (acc_lt (x := (at8 l (a + k)).toNat - 128) Hacc.out (by omega))
              clear hv hz
              go_wp2
              go_round
              case rel => exact ⟨k + 1, _, by omega, by omega, Hb.out, by go_num, by rw [Hv.out], rfl, F.out⟩
              case measure => simp [intOf]; omega
    · have F := Lib.hid (g_fail hal.out (by decide) (show getF (l.drop a) 0 0 = (0, 0, 10) by rw [← Hg.out, getF_end l a k acc (by rw [hln.out]; omega)]))
      go_wp2
      go_ret3
      exact ⟨ret3 F.out.2.1.symm F.out.2.2.symm F.out.1.symm, rfl⟩

set_option maxRecDepth 100000 in
set_option maxHeartbeats 1600000 in
theorem refGet_any (A : Option Addr) (n c B : Nat) (at_ : Int) (l : List UInt8) (w : World) (hr : Rd w B A n l) (hn : n ≤ 100000000000) :
    Calls Try.prog 38 #[.slice A n c, .int .i64 at_] w (Got w l at_) := by
  by_cases ho : at_ < 0
  · have F := Lib.hid (g_out (l := l) (.inl ho))
    go_enter Try.func38, Try.ntmps38
    go_wp2
    go_ret3
    exact ⟨ret3 F.out.2.1.symm F.out.2.2.symm F.out.1.symm, rfl⟩
  · by_cases hp : (n : Int) < at_
    · have F := Lib.hid (g_out (l := l) (a := at_) (.inr (by rw [hr.len]; exact hp)))
      go_enter Try.func38, Try.ntmps38
      go_wp2
      go_ret3
      exact ⟨ret3 F.out.2.1.symm F.out.2.2.symm F.out.1.symm, rfl⟩
    · obtain ⟨a, rfl⟩ := Int.eq_ofNat_of_zero_le (show 0 ≤ at_ by omega)
      exact refGet_in A n c B a l w hr hn (by omega)

set_option maxRecDepth 100000 in
set_option maxHeartbeats 1600000 in
theorem refGetBytes_any (A : Option Addr) (n c : Nat) (at_ : Int) (l : List UInt8) (w : World) (hr : Rd w w.heap.size A n l) (hn : n ≤ 100000000000) (hnc : n ≤ c) :
    Calls Try.prog 39 #[.slice A n c, .int .i64 at_] w (GotBytes w l at_) := by
  have hln := Lib.hid hr.len
  rcases gb_cases l at_ with h | ⟨h, k⟩ | ⟨h, k, m⟩ | ⟨h, k, m⟩
  · have F := Lib.hid (gb_err1 h)
    have hne : (gE l at_ != 0) = true := by simp [h]
    clear h
    go_enter Try.func39, Try.ntmps39
    go_wp2_with fail
    refine (refGet_any _ _ _ _ _ _ _ hr hn).mono ?_
    rintro e w' ⟨rfl, rfl⟩
    go_wp2_with fail
    go_ret3
    exact gotBytes_none F.out (Below.refl _ _)
  · have F := Lib.hid (gb_err2 h k)
    have H := Lib.hid h
    clear h
    go_enter Try.func39, Try.ntmps39
    go_wp2_with fail
    refine (refGet_any _ _ _ _ _ _ _ hr hn).mono ?_
    rintro e w' ⟨rfl, rfl⟩
    rw [H.out]
    go_wp2_with fail
    go_ret3
    exact gotBytes_none F.out (Below.refl _ _)
  · have F := Lib.hid (gb_err3 h k m)
    have H := Lib.hid h
    obtain ⟨T, hT, hle⟩ := g_to h
    obtain ⟨N, hN⟩ := Int.eq_ofNat_of_zero_le (gN_nonneg l at_)
    rw [hln.out] at m hle
    rw [hT, hN] at m
    rw [hN] at k
    have HT := Lib.hid hT
    have HN := Lib.hid hN
    have hw : IntKind.i64.wrap (N : Int) = N := IntWalk.i64_in _ (by omega)
    have hgt : (n : Int) < (T : Int) + N := by omega
    clear h hT hN m
    go_enter Try.func39, Try.ntmps39
    go_wp2_with fail
    refine (refGet_any _ _ _ _ _ _ _ hr hn).mono ?_
    rintro e w' ⟨rfl, rfl⟩
    rw [H.out, HT.out, HN.out]
    go_wp2_with fail
    go_ret3
    exact gotBytes_none F.out (Below.refl _ _)
  · have F := Lib.hid (gb_ok h k m)
    have H := Lib.hid h
    obtain ⟨T, hT, hle⟩ := g_to h
    obtain ⟨N, hN⟩ := Int.eq_ofNat_of_zero_le (gN_nonneg l at_)
    rw [hln.out] at m hle
    rw [hT, hN] at m
    rw [hN] at k
    have HT := Lib.hid hT
    have HN := Lib.hid hN
    have hTn : T + N ≤ n := by omega
    have hNb : N ≤ 1048576 := by omega
    have hle2 : (T : Int) + N ≤ n := by omega
    have eN : T + N - T = N := by omega
    have hcut : Rd w w.heap.size (if c = T then A else A.map (·.add T)) (T + N - T) ((l.drop T).take N) := by rw [eN]; exact hr.mid (i := T) (j := N) (c := c) hTn hnc
    have EN := Lib.hid eN
    clear h hT hN k m eN
    go_enter Try.func39, Try.ntmps39
    go_wp2_with fail
    refine (refGet_any _ _ _ _ _ _ _ hr hn).mono ?_
    rintro e w' ⟨rfl, rfl⟩
    rw [H.out, HT.out, HN.out]
    go_wp2_with (at_builtin; refine wpList_app rfl _ _ rfl rfl (Own.nil_ w w.heap.size) rfl hcut (by omega) (Nat.le_refl _) ?_; intro A2 c2 w2 o2 g2)
    all_goals
      have b2 := below_nil rfl g2
      go_ret3
      refine ⟨A2, N, c2, ret_sie rfl (by rw [F.out.2.2, HT.out, HN.out]) F.out.1.symm, ?_, b2⟩
      rw [F.out.2.1, HT.out, HN.out, Int.toNat_natCast, Int.toNat_natCast]
      rw [Nat.zero_add, EN.out] at o2
      exact o2
end Go.Proofs.Ytliccofjlheceaa
namespace Go.Proofs.Ytliccofjlheceaa
open Go.RowKit

def joinL (ll : List (List UInt8)) : List UInt8 := putN ll.length ++ ll.flatMap putB
theorem flat_snoc (ll : List (List UInt8)) (k : Nat) (h : k < ll.length) : (ll.take (k + 1)).flatMap putB = (ll.take k).flatMap putB ++ putB (ll.getD k []) := by
  rw [List.take_succ_eq_append_getElem h, List.flatMap_append, List.getD_eq_getElem?_getD, List.getElem?_eq_getElem h]
  simp
theorem flat_le (ll : List (List UInt8)) (k : Nat) : ((ll.take k).flatMap putB).length ≤ (ll.flatMap putB).length := by
  conv => rhs; rw [← List.take_append_drop k ll]
  rw [List.flatMap_append, List.length_append]; omega
theorem putB_len (l : List UInt8) : (putB l).length = (putN l.length).length + l.length := by unfold putB; rw [List.length_append]

set_option maxRecDepth 100000 in
set_option maxHeartbeats 800000 in
theorem join_any (A : Option Addr) (n c : Nat) (ll : List (List UInt8)) (w : World) (hr : RdS w w.heap.size A n ll) (hn : n ≤ 10000000000) (hsz : (joinL ll).length ≤ 10000000000) :
    Calls Try.prog 11 #[.slice A n c] w fun e w' => ∃ A' n' c', e = .returned (.slice A' n' c') ∧ Own w' w.heap.size A' n' c' (joinL ll) ∧ Below w.heap.size w w' := by
  have hln := Lib.hid hr.len
  have hw : IntKind.u64.wrap (n : Int) = n := IntWalk.u64_in _ (by omega)
  have hlen := putN_len10 (n := n) (by omega)
  have Hsz := Lib.hid hsz
  clear hsz
  go_enter Try.func11, Try.ntmps11
  go_wp2_with fail
  refine (put_any _ _ hlen).mono ?_
  rintro e w1 ⟨A1, c1, rfl, o1, b1⟩
  go_wp2_with fail
  go_loopw [3, 12] (fun v i wr => ∃ (k m : Nat) (A' : Option Addr) (c' : Nat), k ≤ n ∧ i = .int .i64 k ∧ v = .slice A' m c' ∧ Own wr w.heap.size A' m c' (putN n ++ (ll.take k).flatMap putB) ∧ Below w.heap.size w wr) (fun _ i _ => n - (intOf i).toNat)
  case atStart => exact ⟨0, _, A1, c1, Nat.zero_le _, rfl, rfl, by simpa using o1, b1⟩
  case round =>
    obtain ⟨k, m, A', c', hk, rfl, rfl, hown, hb⟩ := hrel
    by_cases hlt : k < n
    · obtain ⟨bb, off, A2, m2, c2, rfl, _, hc, _, r2⟩ := (hr.below hb).at_ hlt
      have hfs := Lib.hid (flat_snoc ll k (by rw [hln.out]; exact hlt))
      have hm : Hid (m + ((putN m2).length + m2) ≤ 10000000000) := Lib.hid (by
        have e1 := hown.len
        have e2 := flat_le ll (k + 1)
        have e3 := Hsz.out
        have e4 := r2.len
        unfold joinL at e3
        rw [hln.out, List.length_append] at e3
        rw [List.length_append] at e1
        rw [hfs.out, List.length_append, putB_len, e4] at e2
        omega)
      have hm2 := hm.out
      go_wp2_with fail
      refine (putBytes_any _ _ _ _ _ (r2.more hb.size) (by omega)).mono ?_
      rintro e w2 ⟨A3, c3, rfl, o3, b3⟩
      have hb3 := hb.trans (b3.mono hb.size)
      have hown' := hown.below b3
      go_wp2_with (at_builtin; refine wpList_app rfl _ _ rfl rfl hown' rfl o3.rd (by omega) hb3.size ?_; intro A4 c4 w4 o4 g4)
      have hb4 := below_own hb3 hown' g4
      clear hown hown' o3
      go_roundw
      case rel => exact ⟨k + 1, _, A4, c4, by omega, by go_num, rfl, by rw [hfs.out, ← List.append_assoc]; exact o4, hb4⟩
      case measure => simp [intOf]; omega
    · go_wp2_with fail
      go_ret
      refine ⟨A', m, c', rfl, ?_, hb⟩
      unfold joinL
      rw [List.take_of_length_le (by rw [hln.out]; omega)] at hown
      rw [hln.out]; exact hown

/-- Reading so many, one behind the other: they, the place behind, the error. -/
def splitF (l : List UInt8) : Nat → Int → List (List UInt8) × Int × Int
  | 0, a => ([], a, 0)
  | m + 1, a => if gbE l a = 0 then (gbL l a :: (splitF l m (gbTo l a)).1, (splitF l m (gbTo l a)).2) else ([], 0, gbE l a)
def spR (l : List UInt8) : List (List UInt8) × Int × Int := splitF l (gN l 0).toNat (gTo l 0)
def spE (l : List UInt8) : Int := if gE l 0 = 0 then (if (spR l).2.2 = 0 then (if (spR l).2.1 < (l.length : Int) then 11 else 0) else (spR l).2.2) else gE l 0
def spL (l : List UInt8) : List (List UInt8) := if spE l = 0 then (spR l).1 else []
theorem sp_err1 {l : List UInt8} (h : gE l 0 ≠ 0) : spE l = gE l 0 ∧ spL l = [] := by
  have e : spE l = gE l 0 := by unfold spE; rw [if_neg h]
  exact ⟨e, by unfold spL; rw [if_neg (by rw [e]; exact h)]⟩
theorem sp_err2 {l : List UInt8} (h : gE l 0 = 0) (k : (spR l).2.2 ≠ 0) : spE l = (spR l).2.2 ∧ spL l = [] := by
  have e : spE l = (spR l).2.2 := by unfold spE; rw [if_pos h, if_neg k]
  exact ⟨e, by unfold spL; rw [if_neg (by rw [e]; exact k)]⟩
theorem sp_err3 {l : List UInt8} (h : gE l 0 = 0) (k : (spR l).2.2 = 0) (m : (spR l).2.1 < (l.length : Int)) : spE l = 11 ∧ spL l = [] := by
  have e : spE l = 11 := by unfold spE; rw [if_pos h, if_pos k, if_pos m]
  exact ⟨e, by unfold spL; rw [if_neg (by rw [e]; decide)]⟩
theorem sp_ok {l : List UInt8} (h : gE l 0 = 0) (k : (spR l).2.2 = 0) (m : ¬ (spR l).2.1 < (l.length : Int)) : spE l = 0 ∧ spL l = (spR l).1 := by
  have e : spE l = 0 := by unfold spE; rw [if_pos h, if_pos k, if_neg m]
  exact ⟨e, by unfold spL; rw [if_pos e]⟩
/-- A place behind what has been read lies farther on, within the bytes. -/
theorem gb_to {l : List UInt8} {a : Int} (h : gbE l a = 0) : a < gbTo l a ∧ gbTo l a ≤ (l.length : Int) ∧ 0 ≤ a := by
  rcases gb_cases l a with e | ⟨e, k⟩ | ⟨e, k, m⟩ | ⟨e, k, m⟩
  · rw [(gb_err1 e).1] at h; exact absurd h e
  · rw [(gb_err2 e k).1] at h; cases h
  · rw [(gb_err3 e k m).1] at h; cases h
  · obtain ⟨x, t, hx, _, _, hT, ht, hle, _, _⟩ := g_ok e
    rw [(gb_ok e k m).2.2]
    have := gN_nonneg l a
    omega
end Go.Proofs.Ytliccofjlheceaa
namespace Go.Proofs.Ytliccofjlheceaa
open Go.RowKit

theorem ret_si {A A' : Option Addr} {n n' c c' : Nat} {k : IntKind} {x x' : Int} (h : Value.slice A n c = Value.slice A' n' c') (h1 : x = x') :
    Ending.returned (.tuple #[.slice A n c, .int k x]) = Ending.returned (.tuple #[.slice A' n' c', .int k x']) := by rw [h, h1]
theorem below_ownS {W w w' : World} (hb : Below W.heap.size W w) {A : Option Addr} {n c : Nat} {vs : List Value} (hrow : w.ownsRow W.heap.size 23 1 (.slice A n c) n vs) (hg : w.grownBy w' (Value.slice A n c).ownBlock) : Below W.heap.size W w' :=
  hb.grown hg hb.size (fun k hk => (World.ownsRow.lt hrow k hk).1)
theorem own_below {w w' : World} {base n c : Nat} {A : Option Addr} {vs : List Value} {ll : List (List UInt8)} (h1 : w.ownsRow base 23 1 (.slice A n c) n vs) (h2 : ElsOwn w base vs ll) (hb : Below w.heap.size w w') : w'.ownsRow base 23 1 (.slice A n c) n vs ∧ ElsOwn w' base vs ll :=
  ⟨World.ownsRow.kept h1 (row := none) ⟨hb.os, hb.tape, hb.output, hb.size, fun k hk _ => hb.block k hk⟩ (by cases (Value.slice A n c).ownBlock <;> simp), h2.below hb⟩
theorem splitF_zero (l : List UInt8) (a : Int) : splitF l 0 a = ([], a, 0) := rfl
theorem splitF_err {l : List UInt8} {m : Nat} {a : Int} (h : gbE l a ≠ 0) : splitF l (m + 1) a = ([], 0, gbE l a) := by
  show (if gbE l a = 0 then _ else _) = _
  rw [if_neg h]
theorem splitF_step {l : List UInt8} {m : Nat} {a : Int} (h : gbE l a = 0) : splitF l (m + 1) a = (gbL l a :: (splitF l m (gbTo l a)).1, (splitF l m (gbTo l a)).2) := by
  show (if gbE l a = 0 then _ else _) = _
  rw [if_pos h]
/-- What Split comes to. -/
def GotSplit (k : IntKind) (w : World) (l : List UInt8) (e : Ending) (w' : World) : Prop :=
  ∃ A' n' c', e = .returned (.tuple #[.slice A' n' c', .int k (spE l)]) ∧ OwnS w' w.heap.size A' n' c' (spL l) ∧ Below w.heap.size w w'
theorem gotSplit_none {k : IntKind} {w w' : World} {l : List UInt8} {x : Int} (h : spE l = x ∧ spL l = []) (hb : Below w.heap.size w w') : GotSplit k w l (.returned (.tuple #[.slice none 0 0, .int k x])) w' :=
  ⟨none, 0, 0, by rw [h.1], by rw [h.2]; exact OwnS.nil_ _ _, hb⟩

set_option maxRecDepth 100000 in
set_option maxHeartbeats 1600000 in
theorem split_any (A : Option Addr) (n c : Nat) (l : List UInt8) (w : World) (hr : Rd w w.heap.size A n l) (hn : n ≤ 100000000000) (hnc : n ≤ c) :
    Calls Try.prog 12 #[.slice A n c] w (GotSplit .i64 w l) := by
  have hln := Lib.hid hr.len
  by_cases h : gE l 0 = 0
  · have H := Lib.hid h
    obtain ⟨N, hN⟩ := Int.eq_ofNat_of_zero_le (gN_nonneg l 0)
    have hNlt := gN_lt l 0
    obtain ⟨T, hT, hle⟩ := g_to h
    rw [hln.out] at hle
    have HS := Lib.hid (show splitF l N (T : Int) = spR l by unfold spR; rw [hN, hT]; rfl)
    rw [hN] at hNlt
    have HT := Lib.hid hT
    have HN := Lib.hid hN
    clear h hT hN
    go_enter Try.func12, Try.ntmps12
    go_wp2_with fail
    refine (get_any _ _ _ _ _ _ _ hr hn hnc).mono ?_
    rintro e w1 ⟨rfl, rfl⟩
    rw [H.out, HT.out, HN.out]
    go_wp2_with fail
    go_loopw [4, 5, 7] (fun mm i v wr => ∃ (m a : Nat) (pre : List (List UInt8)) (A' : Option Addr) (c' : Nat), m ≤ N ∧ a ≤ n ∧ pre.length ≤ a ∧ mm = .int .u64 m ∧ i = .int .i64 a ∧ v = .slice A' pre.length c' ∧ OwnS wr w.heap.size A' pre.length c' pre ∧ Below w.heap.size w wr ∧ Hid (spR l = (pre ++ (splitF l m a).1, (splitF l m a).2))) (fun mm _ _ _ => (intOf mm).toNat)
    case atStart => exact ⟨N, T, [], none, 0, Nat.le_refl _, hle, Nat.zero_le _, rfl, rfl, rfl, OwnS.nil_ _ _, Below.refl _ _, Lib.hid (by rw [HS.out]; rfl)⟩
    case round =>
      obtain ⟨m, a, pre, A', c', hm, ha, hpre, rfl, rfl, rfl, hown, hb, hF⟩ := hrel
      cases m with
      | zero =>
        by_cases hlt : a < n
        · have F := Lib.hid (sp_err3 H.out (by rw [hF.out]; rfl) (by rw [hF.out, splitF_zero, hln.out]; show (a : Int) < n; omega))
          go_wp2_with fail
          go_ret2
          exact gotSplit_none F.out hb
        · have F := Lib.hid (sp_ok H.out (by rw [hF.out]; rfl) (by rw [hF.out, splitF_zero, hln.out]; show ¬ (a : Int) < n; omega))
          go_wp2_with fail
          go_ret2
          refine ⟨A', _, c', ret_si rfl F.out.1.symm, ?_, hb⟩
          rw [F.out.2, hF.out, splitF_zero, List.append_nil]
          exact hown
      | succ m =>
        have hw : IntKind.u64.wrap (((m + 1 : Nat) : Int) - 1) = (m : Int) := by rw [IntWalk.u64_in _ (by omega)]; omega
        have hpos : (0 : Int) < ((m + 1 : Nat) : Int) := by omega
        obtain ⟨M, hM⟩ : ∃ M : Int, ((m + 1 : Nat) : Int) = M := ⟨_, rfl⟩
        rw [hM] at hw hpos
        rw [hM]
        have HM := Lib.hid hM
        clear hM
        go_wp2_with fail
        refine (getBytes_any _ _ _ _ _ _ ((hr.below hb).more hb.size) hn hnc).mono ?_
        rintro e w2 ⟨A2, n2, c2, rfl, o2, b2⟩
        by_cases he : gbE l a = 0
        · have hF2 := Lib.hid (show spR l = (pre ++ gbL l a :: (splitF l m (gbTo l a)).1, (splitF l m (gbTo l a)).2) by rw [hF.out, splitF_step he])
          obtain ⟨g1, g2, g3⟩ := gb_to he
          obtain ⟨a2, ha2⟩ := Int.eq_ofNat_of_zero_le (show 0 ≤ gbTo l a by omega)
          rw [hln.out] at g2
          rw [ha2] at g1 g2
          have Ha2 := Lib.hid ha2
          have He := Lib.hid he
          clear he ha2
          rw [He.out, Ha2.out]
          have hb2 := hb.trans (b2.mono hb.size)
          obtain ⟨vs, hrow0, hels0⟩ := hown
          have hlt : ∀ v ∈ vs, ∀ g, v.ownBlock = some g → g < wr.heap.size := fun v hv g hg => (hels0.lt v hv g hg).2
          obtain ⟨hrow, hels⟩ := own_below hrow0 hels0 b2
          clear hrow0 hels0
          have hN := fun g hg => (World.ownsRow.lt o2 g hg).1
          have hrow2 := hrow.alloc (.cells #[.slice A2 n2 c2] 23)
          have hels2 := hels.below ((Below.refl _ _).alloc (Nat.le_refl _) (.cells #[.slice A2 n2 c2] 23))
          have o22 := (o2.less hb.size).alloc (.cells #[.slice A2 n2 c2] 23)
          go_wp2_with (at_builtin; refine wpList_appS rfl _ _ rfl rfl hrow2 hels2 o22 hlt hN rfl (Reads.lit1 _ _ rfl _ _) (by omega) (by have := hb2.size; simp; omega) ?_; intro A4 c4 w4 o4 g4)
          have hb4 := below_ownS (hb2.trans ((Below.refl _ _).alloc hb2.size _)) hrow2 g4
          go_roundw
          case rel => exact ⟨m, a2, pre ++ [gbL l a], A4, c4, by omega, by omega, by simp; omega, rfl, rfl, by simp, by simpa using o4, hb4, Lib.hid (by rw [hF2.out, Ha2.out]; simp)⟩
          case measure => have := HM.out; simp [intOf]; omega
        · have F := Lib.hid (sp_err2 H.out (by rw [hF.out, splitF_err he]; exact he))
          have F2 := Lib.hid (show (spR l).2.2 = gbE l a by rw [hF.out, splitF_err he])
          have hne : (gbE l a != 0) = true := by simp [he]
          clear he
          go_wp2_with fail
          go_ret2
          exact gotSplit_none (by rw [← F2.out]; exact F.out) (hb.trans (b2.mono hb.size))
  · have F := Lib.hid (sp_err1 h)
    have hne : (gE l 0 != 0) = true := by simp [h]
    clear h
    go_enter Try.func12, Try.ntmps12
    go_wp2_with fail
    refine (get_any _ _ _ _ _ _ _ hr hn hnc).mono ?_
    rintro e w1 ⟨rfl, rfl⟩
    go_wp2_with fail
    go_ret2
    exact gotSplit_none F.out (Below.refl _ _)
end Go.Proofs.Ytliccofjlheceaa
