/- Numbers and bytes in one way: the walk of vint.Get. Numbers and bytes in one way: the walks of vint.GetBytes, PutInt. Numbers and bytes in one way: the reference's walks. Halves of bytes: packed and unpacked: the program's own. Halves of bytes: unpacked; compared: the program's own. Halves of bytes: the reference's walks. Halves of bytes: the reference's walks of what is packed. -/
import Derived.Test.YtliccofjlheceaaG08
import Derived.Test.YtliccofjlheceaaG07
import Derived.Test.YtliccofjlheceaaG03
namespace Go.Proofs.Ytliccofjlheceaa
open Go.RowKit

theorem ret3 {k1 k2 k3 : IntKind} {a b c a' b' c' : Int} (h1 : a = a') (h2 : b = b') (h3 : c = c') : Ending.returned (.tuple #[.int k1 a, .int k2 b, .int k3 c]) = Ending.returned (.tuple #[.int k1 a', .int k2 b', .int k3 c']) := by rw [h1, h2, h3]
theorem and127 (x : Int) (h0 : 0 ≤ x) (h1 : x ≤ 255) : bits .and .u8 x 127 = x % 128 := by
  have h : ∀ y : Fin 256, bits .and .u8 (y.val : Int) 127 = (y.val : Int) % 128 := by decide +kernel
  have := h ⟨x.toNat, by omega⟩
  simp only [Int.toNat_of_nonneg h0] at this
  exact this
theorem acc_lt {acc k x : Nat} (h : acc < 128 ^ k) (hx : x ≤ 127) : acc + x * 128 ^ k < 128 ^ (k + 1) := by
  have h1 : x * 128 ^ k ≤ 127 * 128 ^ k := Nat.mul_le_mul_right _ hx
  rw [Nat.pow_succ]; omega
/-- The number gets seven bits more. -/
theorem or_step (acc k : Nat) (x : Int) (h0 : 0 ≤ x) (h1 : x ≤ 255) (hacc : acc < 128 ^ k) (hk : k ≤ 9) (h9 : k = 9 → x ≤ 1) :
    bits .or .u64 (acc : Int) (IntKind.u64.wrap (IntKind.u64.wrap (bits .and .u8 x 127) * 2 ^ (7 * k))) = ((acc + (x.toNat % 128) * 128 ^ k : Nat) : Int) := by
  rw [and127 x h0 h1]
  obtain ⟨y, rfl⟩ := Int.eq_ofNat_of_zero_le h0
  have e1 : IntKind.u64.wrap ((y : Int) % 128) = ((y % 128 : Nat) : Int) := by rw [IntKind.wrap_u64]; omega
  have hp : (2 : Nat) ^ (7 * k) = 128 ^ k := by rw [Nat.pow_mul]
  have hb : (y % 128) * 128 ^ k < 18446744073709551616 := by
    by_cases e : k = 9
    · subst e
      have hp9 : (128 : Nat) ^ 9 = 9223372036854775808 := by decide
      rw [hp9]
      have : y % 128 ≤ 1 := by have := h9 rfl; omega
      have := Nat.mul_le_mul_right 9223372036854775808 this
      omega
    · have h2 : 128 ^ (k + 1) ≤ 128 ^ 9 := Nat.pow_le_pow_right (by omega) (by omega)
      have hp9 : (128 : Nat) ^ 9 = 9223372036854775808 := by decide
      have h3 : (y % 128) * 128 ^ k ≤ 127 * 128 ^ k := Nat.mul_le_mul_right _ (by omega)
      rw [hp9, Nat.pow_succ] at h2
      omega
  have hpz : (2 : Int) ^ (7 * k) = ((128 ^ k : Nat) : Int) := by
    have : ((2 ^ (7 * k) : Nat) : Int) = ((128 ^ k : Nat) : Int) := by rw [hp]
    rw [← this, Int.natCast_pow]; rfl
  rw [e1, hpz, Int.toNat_natCast, ← Int.natCast_mul]
  have e2 : IntKind.u64.wrap (((y % 128 * 128 ^ k : Nat)) : Int) = ((y % 128 * 128 ^ k : Nat) : Int) := by rw [IntKind.wrap_u64]; omega
  rw [e2]
  have ha : acc < 18446744073709551616 := by
    have h2 : 128 ^ k ≤ 128 ^ 9 := Nat.pow_le_pow_right (by omega) hk
    have hp9 : (128 : Nat) ^ 9 = 9223372036854775808 := by decide
    omega
  have := bits_or_u64_nat acc (y % 128 * 128 ^ k) ha hb
  rw [this]
  congr 1
  rw [Nat.mul_comm, ← hp, Nat.or_comm, ← Nat.two_pow_add_eq_or_of_lt (by rw [hp]; exact hacc), Nat.add_comm]
/-- What Get comes to. -/
def Got (w : World) (l : List UInt8) (at_ : Int) (e : Ending) (w' : World) : Prop := e = .returned (.tuple #[.int .u64 (gN l at_), .int .i64 (gTo l at_), .int .i64 (gE l at_)]) ∧ w = w'

set_option maxRecDepth 100000 in
set_option maxHeartbeats 1600000 in
theorem get_in (A : Option Addr) (n c B a : Nat) (l : List UInt8) (w : World) (hr : Rd w B A n l) (hn : n ≤ 100000000000) (hnc : n ≤ c) (ha : a < n) :
    Calls Try.prog 33 #[.slice A n c, .int .i64 a] w (Got w l a) := by
  obtain ⟨b, off, rfl, hB, hcells⟩ := hr.cells (by omega)
  have hln := Lib.hid hr.len
  have Hcells := Lib.hid hcells
  have hca : ¬ c = a := by omega
  clear hcells
  go_enter Try.func33, Try.ntmps33
  go_wp2
  go_step3
  go_wp2
  go_step3
  go_wp2
  go_loop [7, 8, 23] (fun v e i => ∃ (k acc : Nat), a + k ≤ n ∧ k ≤ 9 ∧ acc < 128 ^ k ∧ i = .int .i64 k ∧ v = .int .u64 acc ∧ e = .int .i64 10 ∧ getF (l.drop (a + k)) k acc = getF (l.drop a) 0 0) (fun _ _ i => n - (intOf i).toNat)
  case atStart => exact ⟨0, 0, by omega, by omega, by simp, rfl, rfl, rfl, rfl⟩
  case round =>
    obtain ⟨k, acc, hkn, hk9, hacc, rfl, rfl, rfl, hg⟩ := hrel
    have Hg := Lib.hid hg
    have Hacc := Lib.hid hacc
    have hal : Hid (a ≤ l.length) := Lib.hid (by rw [hln.out]; omega)
    clear hg hacc
    by_cases hlt : a + k < n
    · have hc : w.cell? ⟨b, off + a + k, none⟩ = some (.int .u8 (at8 l (a + k))) := by rw [Nat.add_assoc]; exact Hcells.out (a + k) hlt
      have h0 := at8_lo l (a + k)
      have h1 := at8_hi l (a + k)
      have hst := Lib.hid (getF_step l a k acc (by rw [hln.out]; exact hlt))
      by_cases h9 : k = 9
      · have hb9 : ((k : Int) == 9) = true := by simp; omega
        have hk0 : (0 : Int) < k := by omega
        by_cases hc1 : 1 < at8 l (a + k)
        · have F := Lib.hid (g_fail hal.out (by decide) (show getF (l.drop a) 0 0 = (0, 0, 11) by rw [← Hg.out, hst.out, if_pos (.inl ⟨h9, hc1⟩)]))
          clear h9
          go_wp2
          go_ret3
          exact ⟨ret3 F.out.2.1.symm F.out.2.2.symm F.out.1.symm, rfl⟩
        · have hd1 : decide (1 < at8 l (a + k)) = false := by simp; omega
          by_cases hz : at8 l (a + k) = 0
          · have hbz : (at8 l (a + k) == 0) = true := by simp [hz]
            have F := Lib.hid (g_fail hal.out (by decide) (show getF (l.drop a) 0 0 = (0, 0, 11) by rw [← Hg.out, hst.out, if_pos (.inr ⟨hz, by omega⟩)]))
            clear h9 hz
            go_wp2
            go_ret3
            exact ⟨ret3 F.out.2.1.symm F.out.2.2.symm F.out.1.symm, rfl⟩
          · have hbz : (at8 l (a + k) == 0) = false := by simp [hz]
            have hv := or_step acc k (at8 l (a + k)) h0 h1 Hacc.out hk9 (by omega)
            have F := Lib.hid (g_done hal.out (show getF (l.drop a) 0 0 = (acc + (at8 l (a + k)).toNat * 128 ^ k, k + 1, 0) by rw [← Hg.out, hst.out, if_neg (by omega), if_pos (by omega)]))
            rw [show (at8 l (a + k)).toNat % 128 = (at8 l (a + k)).toNat by omega] at hv
            have Hv := Lib.hid hv
            have hlt8 : at8 l (a + k) < 128 := by omega
            clear hv hz h9
            go_wp2
            go_ret3
            exact ⟨ret3 (by rw [Hv.out]; exact F.out.2.1.symm) (by rw [F.out.2.2]; omega) F.out.1.symm, rfl⟩
      · have hb9 : ((k : Int) == 9) = false := by simp; omega
        by_cases hz : at8 l (a + k) = 0
        · have hbz : (at8 l (a + k) == 0) = true := by simp [hz]
          by_cases hk0 : 0 < k
          · have hk0' : (0 : Int) < k := by omega
            have F := Lib.hid (g_fail hal.out (by decide) (show getF (l.drop a) 0 0 = (0, 0, 11) by rw [← Hg.out, hst.out, if_pos (.inr ⟨hz, by omega⟩)]))
            clear h9 hz
            go_wp2
            go_ret3
            exact ⟨ret3 F.out.2.1.symm F.out.2.2.symm F.out.1.symm, rfl⟩
          · have hk0' : decide ((0 : Int) < k) = false := by simp; omega
            have hv := or_step acc k (at8 l (a + k)) h0 h1 Hacc.out hk9 (by omega)
            have F := Lib.hid (g_done hal.out (show getF (l.drop a) 0 0 = (acc + (at8 l (a + k)).toNat * 128 ^ k, k + 1, 0) by rw [← Hg.out, hst.out, if_neg (by omega), if_pos (by omega)]))
            rw [show (at8 l (a + k)).toNat % 128 = (at8 l (a + k)).toNat by omega] at hv
            have Hv := Lib.hid hv
            have hlt8 : at8 l (a + k) < 128 := by omega
            clear hv hz h9
            go_wp2
            go_ret3
            exact ⟨ret3 (by rw [Hv.out]; exact F.out.2.1.symm) (by rw [F.out.2.2]; omega) F.out.1.symm, rfl⟩
        · have hbz : (at8 l (a + k) == 0) = false := by simp [hz]
          by_cases hs : at8 l (a + k) < 128
          · have hv := or_step acc k (at8 l (a + k)) h0 h1 Hacc.out hk9 (by omega)
            have F := Lib.hid (g_done hal.out (show getF (l.drop a) 0 0 = (acc + (at8 l (a + k)).toNat * 128 ^ k, k + 1, 0) by rw [← Hg.out, hst.out, if_neg (by omega), if_pos (by omega)]))
            rw [show (at8 l (a + k)).toNat % 128 = (at8 l (a + k)).toNat by omega] at hv
            have Hv := Lib.hid hv
            clear hv hz h9
            go_wp2
            go_ret3
            exact ⟨ret3 (by rw [Hv.out]; exact F.out.2.1.symm) (by rw [F.out.2.2]; omega) F.out.1.symm, rfl⟩
          · have hv := or_step acc k (at8 l (a + k)) h0 h1 Hacc.out hk9 (by omega)
            rw [show (at8 l (a + k)).toNat % 128 = (at8 l (a + k)).toNat - 128 by omega] at hv
            have Hv := Lib.hid hv
            have F := Lib.hid (show getF (l.drop (a + (k + 1))) (k + 1) (acc + ((at8 l (a + k)).toNat - 128) * 128 ^ k) = getF (l.drop a) 0 0 by rw [← Hg.out, hst.out, if_neg (by omega), if_neg (by omega)])
            have Hb := Lib.hid (acc_lt (x := (at8 l (a + k)).toNat - 128) Hacc.out (by omega))
            clear hv hz
            go_wp2
            go_round
            case rel => exact ⟨k + 1, _, by omega, by omega, Hb.out, by go_num, by rw [Hv.out], rfl, F.out⟩
            case measure => simp [intOf]; omega
    · have F := Lib.hid (g_fail hal.out (by decide) (show getF (l.drop a) 0 0 = (0, 0, 10) by rw [← Hg.out, getF_end l a k acc (by rw [hln.out]; omega)]))
      go_wp2
      go_ret3
      exact ⟨ret3 F.out.2.1.symm F.out.2.2.symm F.out.1.symm, rfl⟩

set_option maxRecDepth 100000 in
set_option maxHeartbeats 1600000 in
theorem get_end (A : Option Addr) (n c B : Nat) (l : List UInt8) (w : World) (hr : Rd w B A n l) :
    Calls Try.prog 33 #[.slice A n c, .int .i64 n] w (Got w l n) := by
  have F := Lib.hid (g_fail (l := l) (a := n) (x := 10) (by rw [hr.len]; exact Nat.le_refl _) (by decide) (by rw [List.drop_eq_nil_of_le (by rw [hr.len]; exact Nat.le_refl _)]; rfl))
  go_enter Try.func33, Try.ntmps33
  go_wp2
  go_step3
  go_wp2
  go_step3
  go_wp2
  all_goals
    refine wp_loop_rounds 1 ?_
    rw [rounds_succ]
    go_wp2
    go_ret3
    exact ⟨ret3 F.out.2.1.symm F.out.2.2.symm F.out.1.symm, rfl⟩

set_option maxRecDepth 100000 in
set_option maxHeartbeats 1600000 in
theorem get_any (A : Option Addr) (n c B : Nat) (at_ : Int) (l : List UInt8) (w : World) (hr : Rd w B A n l) (hn : n ≤ 100000000000) (hnc : n ≤ c) :
    Calls Try.prog 33 #[.slice A n c, .int .i64 at_] w (Got w l at_) := by
  by_cases ho : at_ < 0
  · have F := Lib.hid (g_out (l := l) (.inl ho))
    go_enter Try.func33, Try.ntmps33
    go_wp2
    go_step3
    go_wp2
    try rw [Exit.noGoto_ret]
    go_ret3
    exact ⟨ret3 F.out.2.1.symm F.out.2.2.symm F.out.1.symm, rfl⟩
  · by_cases hp : (n : Int) < at_
    · have F := Lib.hid (g_out (l := l) (a := at_) (.inr (by rw [hr.len]; exact hp)))
      go_enter Try.func33, Try.ntmps33
      go_wp2
      go_step3
      go_wp2
      try rw [Exit.noGoto_ret]
      go_ret3
      exact ⟨ret3 F.out.2.1.symm F.out.2.2.symm F.out.1.symm, rfl⟩
    · obtain ⟨a, rfl⟩ := Int.eq_ofNat_of_zero_le (show 0 ≤ at_ by omega)
      by_cases he : a = n
      · subst he
        exact get_end A a c B l w hr
      · exact get_in A n c B a l w hr hn hnc (by omega)

end Go.Proofs.Ytliccofjlheceaa
namespace Go.Proofs.Ytliccofjlheceaa
open Go.RowKit

theorem g_to {l : List UInt8} {a : Int} (h : gE l a = 0) : ∃ T : Nat, gTo l a = (T : Int) ∧ T ≤ l.length := by
  obtain ⟨x, t, _, _, _, hT, _, hle, _, _⟩ := g_ok h
  exact ⟨x + t, hT, hle⟩
theorem ret_sie {A A' : Option Addr} {n n' c c' : Nat} {x y x' y' : Int} (h : Value.slice A n c = Value.slice A' n' c') (h1 : x = x') (h2 : y = y') :
    Ending.returned (.tuple #[.slice A n c, .int .i64 x, .int .i64 y]) = Ending.returned (.tuple #[.slice A' n' c', .int .i64 x', .int .i64 y']) := by rw [h, h1, h2]
/-- What GetBytes comes to. -/
def GotBytes (w : World) (l : List UInt8) (at_ : Int) (e : Ending) (w' : World) : Prop :=
  ∃ A' n' c', e = .returned (.tuple #[.slice A' n' c', .int .i64 (gbTo l at_), .int .i64 (gbE l at_)]) ∧ Own w' w.heap.size A' n' c' (gbL l at_) ∧ Below w.heap.size w w'
theorem gotBytes_none {w w' : World} {l : List UInt8} {a : Int} {x : Int} (h : gbE l a = x ∧ gbL l a = [] ∧ gbTo l a = 0) (hb : Below w.heap.size w w') : GotBytes w l a (.returned (.tuple #[.slice none 0 0, .int .i64 0, .int .i64 x])) w' :=
  ⟨none, 0, 0, by rw [h.1, h.2.2], by rw [h.2.1]; exact Own.nil_ _ _, hb⟩

set_option maxRecDepth 100000 in
set_option maxHeartbeats 1600000 in
theorem getBytes_any (A : Option Addr) (n c : Nat) (at_ : Int) (l : List UInt8) (w : World) (hr : Rd w w.heap.size A n l) (hn : n ≤ 100000000000) (hnc : n ≤ c) :
    Calls Try.prog 37 #[.slice A n c, .int .i64 at_] w (GotBytes w l at_) := by
  have hln := Lib.hid hr.len
  rcases gb_cases l at_ with h | ⟨h, k⟩ | ⟨h, k, m⟩ | ⟨h, k, m⟩
  · have F := Lib.hid (gb_err1 h)
    have hne : (gE l at_ != 0) = true := by simp [h]
    clear h
    go_enter Try.func37, Try.ntmps37
    go_wp2_with fail
    refine (get_any _ _ _ _ _ _ _ hr hn hnc).mono ?_
    rintro e w' ⟨rfl, rfl⟩
    go_wp2_with fail
    go_ret3
    exact gotBytes_none F.out (Below.refl _ _)
  · have F := Lib.hid (gb_err2 h k)
    have H := Lib.hid h
    clear h
    go_enter Try.func37, Try.ntmps37
    go_wp2_with fail
    refine (get_any _ _ _ _ _ _ _ hr hn hnc).mono ?_
    rintro e w' ⟨rfl, rfl⟩
    rw [H.out]
    go_wp2_with fail
    go_ret3
    exact gotBytes_none F.out (Below.refl _ _)
  · have F := Lib.hid (gb_err3 h k m)
    have H := Lib.hid h
    obtain ⟨T, hT, hle⟩ := g_to h
    have h0 := gN_nonneg l at_
    rw [hln.out] at m hle
    rw [hT] at m
    have HT := Lib.hid hT
    have hw : IntKind.u64.wrap ((n : Int) - (T : Int)) = (n : Int) - (T : Int) := IntWalk.u64_in _ (by omega)
    clear h hT
    go_enter Try.func37, Try.ntmps37
    go_wp2_with fail
    refine (get_any _ _ _ _ _ _ _ hr hn hnc).mono ?_
    rintro e w' ⟨rfl, rfl⟩
    rw [H.out, HT.out]
    go_wp2_with fail
    go_ret3
    exact gotBytes_none F.out (Below.refl _ _)
  · have F := Lib.hid (gb_ok h k m)
    have H := Lib.hid h
    obtain ⟨T, hT, hle⟩ := g_to h
    obtain ⟨N, hN⟩ := Int.eq_ofNat_of_zero_le (gN_nonneg l at_)
    rw [hln.out] at m hle
    rw [hT, hN] at m
    rw [hN] at k
    have HT := Lib.hid hT
    have HN := Lib.hid hN
    have hw : IntKind.u64.wrap ((n : Int) - (T : Int)) = (n : Int) - (T : Int) := IntWalk.u64_in _ (by omega)
    have hTn : T + N ≤ n := by omega
    have hNb : N ≤ 1048576 := by omega
    have eN : T + N - T = N := by omega
    have hcut : Rd w w.heap.size (if c = T then A else A.map (·.add T)) (T + N - T) ((l.drop T).take N) := by rw [eN]; exact hr.mid (i := T) (j := N) (c := c) hTn hnc
    have EN := Lib.hid eN
    clear eN
    clear h hT hN k m
    go_enter Try.func37, Try.ntmps37
    go_wp2_with fail
    refine (get_any _ _ _ _ _ _ _ hr hn hnc).mono ?_
    rintro e w' ⟨rfl, rfl⟩
    rw [H.out, HT.out, HN.out]
    go_wp2_with (at_builtin; refine wpList_app rfl _ _ rfl rfl (Own.nil_ w w.heap.size) rfl hcut (by omega) (Nat.le_refl _) ?_; intro A2 c2 w2 o2 g2)
    all_goals
      have b2 := below_nil rfl g2
      go_ret3
      refine ⟨A2, N, c2, ret_sie rfl (by rw [F.out.2.2, HT.out, HN.out]) F.out.1.symm, ?_, b2⟩
      rw [F.out.2.1, HT.out, HN.out, Int.toNat_natCast, Int.toNat_natCast]
      rw [Nat.zero_add, EN.out] at o2
      exact o2

end Go.Proofs.Ytliccofjlheceaa
namespace Go.Proofs.Ytliccofjlheceaa
open Go.RowKit

/-- The digits to the base 128. -/
def digF : Nat → Nat → List UInt8
  | 0, _ => []
  | f + 1, n => if n < 128 then [b8 (n : Int)] else b8 ((n % 128 : Nat) : Int) :: digF f (n / 128)
def digN (n : Nat) : List UInt8 := digF (n + 1) n
theorem digF_any : ∀ (f g n : Nat), n < f → n < g → digF f n = digF g n
  | f + 1, g + 1, n, hf, hg => by
    unfold digF
    by_cases h : n < 128
    · rw [if_pos h, if_pos h]
    · rw [if_neg h, if_neg h, digF_any f g (n / 128) (by omega) (by omega)]
theorem digN_lt {n : Nat} (h : n < 128) : digN n = [b8 (n : Int)] := by unfold digN digF; rw [if_pos h]
theorem digN_ge {n : Nat} (h : ¬ n < 128) : digN n = b8 ((n % 128 : Nat) : Int) :: digN (n / 128) := by
  unfold digN; rw [digF, if_neg h, digF_any n (n / 128 + 1) (n / 128) (by omega) (by omega)]
/-- What digits are still to come. -/
def digT (n : Nat) : List UInt8 := if n = 0 then [] else digN n
theorem digN_T (n : Nat) : digN n = b8 ((n % 128 : Nat) : Int) :: digT (n / 128) := by
  by_cases h : n < 128
  · rw [digN_lt h, show n / 128 = 0 by omega, show n % 128 = n by omega]; rfl
  · rw [digN_ge h]; unfold digT; rw [if_neg (by omega)]
theorem at8_cons_succ (c : UInt8) (l : List UInt8) (k : Nat) : at8 (c :: l) (k + 1) = at8 l k := rfl
theorem at8_b8_0 (x : Nat) (l : List UInt8) (h : x < 256) : at8 (b8 (x : Int) :: l) 0 = x := by
  show (((b8 (x : Int)).toNat : Nat) : Int) = x
  unfold b8; rw [UInt8.toNat_ofNat']; omega
theorem dig_put : ∀ (f n : Nat), n < f → (digN n).length = (putN n).length ∧ ∀ k, (k + 1 < (putN n).length → at8 (putN n) k = at8 (digN n) k + 128 ∧ at8 (digN n) k < 128) ∧ (k + 1 = (putN n).length → at8 (putN n) k = at8 (digN n) k)
  | f + 1, n, hf => by
    by_cases h : n < 128
    · rw [digN_lt h, putN_lt h]
      exact ⟨rfl, fun k => ⟨fun hk => by simp at hk, fun _ => rfl⟩⟩
    · obtain ⟨h1, h2⟩ := dig_put f (n / 128) (by omega)
      rw [digN_ge h, putN_ge h]
      refine ⟨by simp [h1], fun k => ?_⟩
      rcases k with _ | k
      · refine ⟨fun _ => ?_, fun hk => ?_⟩
        · have e1 := at8_b8_0 (n % 128) (digN (n / 128)) (by omega)
          have e2 := at8_b8_0 (n % 128 + 128) (putN (n / 128)) (by omega)
          rw [e1, e2]
          refine ⟨by omega, by omega⟩
        · have := putN_pos (n / 128); rw [List.length_cons] at hk; omega
      · rw [at8_cons_succ, at8_cons_succ, List.length_cons]
        exact ⟨fun hk => (h2 k).1 (by omega), fun hk => (h2 k).2 (by omega)⟩
theorem ext8 {l m : List UInt8} (h : l.length = m.length) (k : ∀ j, j < l.length → at8 l j = at8 m j) : l = m := by
  apply List.ext_getElem h
  intro i h1 h2
  have := k i h1
  rw [at8_of l i h1, at8_of m i h2] at this
  exact UInt8.toNat_inj.1 (by omega)
theorem at8_set (l : List UInt8) (k j : Nat) (x : Int) (hk : k < l.length) (h0 : 0 ≤ x) (h1 : x ≤ 255) : at8 (l.set k (b8 x)) j = if j = k then x else at8 l j := by
  by_cases h : j = k
  · subst h
    rw [if_pos rfl, at8_of _ _ (by simpa using hk)]
    simp only [List.getElem_set_self]
    unfold b8; rw [UInt8.toNat_ofNat']; omega
  · rw [if_neg h]
    unfold at8
    rw [List.getD_eq_getElem?_getD, List.getD_eq_getElem?_getD, List.getElem?_set_ne (by omega)]
theorem own_some {w : World} {base n c : Nat} {A : Option Addr} {l : List UInt8} (h : Own w base A n c l) (hn : 0 < n) : ∃ g, A = some ⟨g, 0, none⟩ ∧ base ≤ g := by
  obtain ⟨g, cap, hv, hb, _⟩ := World.ownsRow.form h hn
  injection hv with hv
  exact ⟨g, hv, hb⟩

set_option maxRecDepth 100000 in
set_option maxHeartbeats 800000 in
theorem refPut_any (n : Nat) (w : World) (hn : n ≤ 18446744073709551615) :
    Calls Try.prog 40 #[.int .u64 n] w fun e w' => ∃ A' c', e = .returned (.slice A' (putN n).length c') ∧ Own w' w.heap.size A' (putN n).length c' (putN n) ∧ Below w.heap.size w w' := by
  have hlen := putN_len10 (n := n) (by omega)
  have hdl := (dig_put (n + 1) n (by omega)).1
  have D := Lib.hid (dig_put (n + 1) n (by omega)).2
  rw [← hdl] at hlen
  have Hdl := Lib.hid hdl
  clear hdl
  have hm : IntKind.u8.wrap ((n : Int) % 128) = (n : Int) % 128 := IntWalk.u8_in _ (by omega)
  go_enter Try.func40, Try.ntmps40
  go_wp2
  go_loopw [0, 3] (fun i v wr => ∃ (x : Nat) (o : List UInt8) (k : Nat) (A' : Option Addr) (c' : Nat), x ≤ 18446744073709551615 ∧ i = .int .u64 x ∧ v = .slice A' k c' ∧ Own wr w.heap.size A' k c' o ∧ o ++ digT x = digN n ∧ Below w.heap.size w wr) (fun i _ _ => (intOf i).toNat)
  case atStart =>
    refine ⟨n / 128, [b8 ((n : Int) % 128)], 1, _, 1, by omega, by go_num, rfl, Own.lit1 w w.heap.size (Nat.le_refl _) _ (by omega), ?_, (Below.refl _ _).alloc (Nat.le_refl _) _⟩
    rw [digN_T n]; rfl
  case round =>
    obtain ⟨x, o, k, A', c', hxb, rfl, rfl, hown, hx, hb⟩ := hrel
    have hk : k ≤ 10 := by
      have h1 := congrArg List.length hx
      rw [List.length_append, hown.len] at h1
      omega
    have Hx := Lib.hid hx
    clear hx
    by_cases h0 : x = 0
    · subst h0
      have ho : o = digN n := by have := Hx.out; simpa [digT] using this
      subst ho
      have hkk : k = (digN n).length := hown.len.symm
      subst hkk
      have hpos := putN_pos n
      rw [← Hdl.out] at hpos
      obtain ⟨g, rfl, hg⟩ := own_some hown (by omega)
      go_wp2
      go_loopw [4] (fun i wr' => ∃ (k : Nat) (L : List UInt8), k + 1 ≤ (digN n).length ∧ i = .int .i64 k ∧ Own wr' w.heap.size (some ⟨g, 0, none⟩) (digN n).length c' L ∧ (∀ j, at8 L j = if j < k then at8 (putN n) j else at8 (digN n) j) ∧ Below w.heap.size w wr') (fun i _ => (digN n).length - (intOf i).toNat)
      case atStart => exact ⟨0, digN n, by omega, rfl, hown, fun j => by rw [if_neg (by omega)], hb⟩
      case round =>
        clear hown hb
        obtain ⟨k, L, hkm, rfl, hown, hat, hb⟩ := hrel
        have Hat := Lib.hid hat
        clear hat
        by_cases hlt : k + 1 < (digN n).length
        · have hc := hown.cell (j := k) (by omega)
          have hf := hown.free k
          have hd := ((D.out k).1 (by rw [← Hdl.out]; exact hlt))
          have h0 := at8_lo L k
          have hv : at8 L k < 128 := by have := Hat.out k; rw [if_neg (Nat.lt_irrefl k)] at this; rw [this]; exact hd.2
          have Hs := Lib.hid (hown.set (j := k) (x := at8 L k + 128) (by omega) (by omega))
          have Hb := Lib.hid (hb.setCell (p := ⟨g, k, none⟩) hg (.int .u8 (at8 L k + 128)))
          have Hn := Lib.hid (show ∀ j, at8 (L.set k (b8 (at8 L k + 128))) j = if j < k + 1 then at8 (putN n) j else at8 (digN n) j from fun j => by
            rw [at8_set L k j _ (by rw [hown.len]; omega) (by omega) (by omega)]
            have hk := Hat.out k
            rw [if_neg (Nat.lt_irrefl k)] at hk
            by_cases hj : j = k
            · rw [if_pos hj, if_pos (by omega), hj, hd.1, hk]
            · rw [if_neg hj, Hat.out j]
              by_cases hjk : j < k
              · rw [if_pos hjk, if_pos (by omega)]
              · rw [if_neg hjk, if_neg (by omega)])
          clear hd hb
          go_wp2
          go_roundw
          case rel => exact ⟨k + 1, _, by omega, by go_num, Hs.out, Hn.out, Hb.out⟩
          case measure => simp [intOf]; omega
        · have hL : L = putN n := by
            refine ext8 (by rw [hown.len, Hdl.out]) fun j hj => ?_
            rw [hown.len] at hj
            rw [Hat.out j]
            by_cases hjk : j < k
            · rw [if_pos hjk]
            · rw [if_neg hjk]
              exact ((D.out j).2 (by rw [← Hdl.out]; omega)).symm
          subst hL
          go_wp2
          go_ret
          exact ⟨_, c', ret_slice Hdl.out, by rw [← Hdl.out]; exact hown, hb⟩
    · have hp := Lib.hid (digN_T x)
      have hT := Lib.hid (show digT x = digN x by unfold digT; rw [if_neg h0])
      have hm : IntKind.u8.wrap ((x : Int) % 128) = (x : Int) % 128 := IntWalk.u8_in _ (by omega)
      go_wp2_with (at_builtin; refine wpList_app rfl _ _ rfl rfl (hown.alloc _) rfl (Rd.lit1 _ _ (by omega)) (by omega) (by simp; have := hb.size; omega) ?_; intro A2 c2 w2 hown2 hg2)
      have hb2 := below_own (belowA hb _) (hown.alloc _) hg2
      clear hm
      go_roundw
      case rel => exact ⟨x / 128, o ++ [b8 ((x : Int) % 128)], k + 1, A2, c2, by omega, by go_num, rfl, hown2, by rw [List.append_assoc, List.singleton_append, show b8 ((x : Int) % 128) = b8 ((x % 128 : Nat) : Int) from rfl, ← hp.out, ← hT.out]; exact Hx.out, hb2⟩
      case measure => simp [intOf]; omega

set_option maxRecDepth 100000 in
set_option maxHeartbeats 400000 in
theorem refPutBytes_any (A : Option Addr) (n c : Nat) (l : List UInt8) (w : World) (hr : Rd w w.heap.size A n l) (hn : n ≤ 100000000000) :
    Calls Try.prog 41 #[.slice A n c] w fun e w' => ∃ A' c', e = .returned (.slice A' ((putN n).length + n) c') ∧ Own w' w.heap.size A' ((putN n).length + n) c' (putB l) ∧ Below w.heap.size w w' := by
  have hln := Lib.hid hr.len
  have hlen := putN_len10 (n := n) (by omega)
  have hw : IntKind.u64.wrap (n : Int) = n := IntWalk.u64_in _ (by omega)
  go_enter Try.func41, Try.ntmps41
  go_wp2_with fail
  refine (refPut_any n _ (by omega)).mono ?_
  rintro e w1 ⟨A1, c1, rfl, o1, b1⟩
  go_wp2_with (at_builtin; refine wpList_app rfl _ _ rfl rfl o1 rfl (hr.up b1) (by omega) b1.size ?_; intro A2 c2 w2 o2 g2)
  have b2 := below_own b1 o1 g2
  go_ret
  exact ⟨A2, c2, rfl, by unfold putB; rw [hln.out]; exact o2, b2⟩
end Go.Proofs.Ytliccofjlheceaa
namespace Go.Proofs.Ytliccofjlheceaa
open Go.RowKit

theorem bytesE_no {l : List UInt8} (h : halvesB l = false) : bytesE l = 2 ∧ bytesL l = [] := by simp [bytesE, bytesL, h]
theorem bytesE_odd {l : List UInt8} (h : halvesB l = true) (k : l.length % 2 = 1) : bytesE l = 11 ∧ bytesL l = [] := by simp [bytesE, bytesL, h, k]
theorem bytesE_ok {l : List UInt8} (h : halvesB l = true) (k : l.length % 2 = 0) : bytesE l = 0 ∧ bytesL l = joinB l := by simp [bytesE, bytesL, h, k]
theorem ret_se {A A' : Option Addr} {n n' c c' : Nat} {x y : Int} (h : Value.slice A n c = Value.slice A' n' c') (k : x = y) : Ending.returned (.tuple #[.slice A n c, .int .i64 x]) = Ending.returned (.tuple #[.slice A' n' c', .int .i64 y]) := by rw [h, k]

theorem packE_no {l : List UInt8} (h : halvesB l = false) (leaf : Bool) : packE l = 2 ∧ packL l leaf = [] := by simp [packE, packL, h]
theorem packE_ok {l : List UInt8} (h : halvesB l = true) : packE l = 0 := by simp [packE, h]
theorem packL_even {l : List UInt8} (h : halvesB l = true) (k : l.length % 2 = 0) (leaf : Bool) (x : Int) (hx : x = if leaf = true then 32 else 0) : packL l leaf = [b8 x] ++ joinB l := by simp [packL, h, k, hx]
theorem packL_odd {l : List UInt8} (h : halvesB l = true) (k : l.length % 2 = 1) (leaf : Bool) (x : Int) (hx : x = (if leaf = true then 32 else 0) + 16 + at8 l 0) : packL l leaf = [b8 x] ++ joinB (l.drop 1) := by simp [packL, h, k, hx]
theorem halvesB_dropP {l : List UInt8} (h : halvesB l = true) (k : Nat) : halvesB (l.drop k) = true := by
  unfold halvesB at *
  rw [List.all_eq_true] at *
  exact fun x hx => h x (List.mem_of_mem_drop hx)
theorem or16 (x : Int) (h0 : 0 ≤ x) (h1 : x ≤ 15) : bits .or .u8 16 x = 16 + x := by
  have h : ∀ y : Fin 16, bits .or .u8 16 (y.val : Int) = 16 + (y.val : Int) := by decide +kernel
  have := h ⟨x.toNat, by omega⟩
  simp only [Int.toNat_of_nonneg h0] at this
  exact this
theorem or32 (x : Int) (h0 : 0 ≤ x) (h1 : x ≤ 15) : bits .or .u8 32 (16 + x) = 48 + x := by
  have h : ∀ y : Fin 16, bits .or .u8 32 (16 + (y.val : Int)) = 48 + (y.val : Int) := by decide +kernel
  have := h ⟨x.toNat, by omega⟩
  simp only [Int.toNat_of_nonneg h0] at this
  exact this
theorem or0 (x : Int) (h0 : 0 ≤ x) (h1 : x ≤ 15) : bits .or .u8 0 (16 + x) = 16 + x := by
  have h : ∀ y : Fin 16, bits .or .u8 0 (16 + (y.val : Int)) = 16 + (y.val : Int) := by decide +kernel
  have := h ⟨x.toNat, by omega⟩
  simp only [Int.toNat_of_nonneg h0] at this
  exact this

set_option maxHeartbeats 800000 in
theorem pack_any (A : Option Addr) (n c : Nat) (leaf : Bool) (l : List UInt8) (w : World) (hr : Rd w w.heap.size A n l) (hn : n ≤ 100000000000) (hnc : n ≤ c) :
    Calls Try.prog 65 #[.slice A n c, .bool leaf] w fun e w' => ∃ A' n' c', e = .returned (.tuple #[.slice A' n' c', .int .i64 (packE l)]) ∧ Own w' w.heap.size A' n' c' (packL l leaf) ∧ Below w.heap.size w w' := by
  have hln := Lib.hid hr.len
  by_cases hh : halvesB l = true
  · have he := Lib.hid (packE_ok hh)
    by_cases hodd : n % 2 = 1
    · have hl := Lib.hid (packL_odd hh (by rw [hln.out]; omega) leaf _ rfl)
      obtain ⟨b, off, rfl, hc0⟩ := hr.at0 (by omega)
      have h0 := at8_lo l 0
      have h1 := halvesB_at l hh 0
      have ho := or16 _ h0 h1
      have ho2 := or32 _ h0 h1
      have ho3 := or0 _ h0 h1
      have hcA := hr.shift (k := 1) (by omega)
      have hcB : c = 1 → Rd w w.heap.size (some ⟨b, off, none⟩) (n - 1) (l.drop 1) := fun e => hr.gone (by omega)
      have hj := halvesB_dropP hh 1
      cases leaf
      all_goals
        go_enter Try.func65, Try.ntmps65
        go_wp2_with (first
          | (at_builtin; refine wpList_app rfl _ _ rfl rfl ((Own.lit1 w w.heap.size (Nat.le_refl _) _ (by omega)).below hb2) rfl hown2.rd (by omega) (by have := hb2.size; simp at this; omega) ?_; intro A3 c3 w3 hown3 hg3)
          | (go_at_call 92; refine (halves_any _ _ _ _ _ _ hr hn).mono ?_; rintro e w' ⟨rfl, rfl⟩)
          | (go_at_call 93; ((with_reducible refine (joined_any _ _ _ _ _ (hcA.alloc (Nat.le_refl _) _ |>.more (by simp)) (by omega) hj).mono ?_); rintro e w2 ⟨A2, c2, rfl, hown2, hb2⟩))
          | (go_at_call 93; ((with_reducible refine (joined_any _ _ _ _ _ ((hcB (by assumption)).alloc (Nat.le_refl _) _ |>.more (by simp)) (by omega) hj).mono ?_); rintro e w2 ⟨A2, c2, rfl, hown2, hb2⟩)))
        all_goals go_ret2
        all_goals refine ⟨A3, _, c3, ret_se rfl he.out.symm, by rw [hl.out]; exact hown3, ?_⟩
        all_goals exact (((Below.refl _ _).alloc (Nat.le_refl _) _).trans (hb2.mono (by simp))).grown hg3 (by have := hb2.size; simp at this; omega) (by simp [Value.ownBlock])
    · have hl := Lib.hid (packL_even hh (by rw [hln.out]; omega) leaf _ rfl)
      cases leaf
      all_goals
        go_enter Try.func65, Try.ntmps65
        go_wp2_with (first
          | (at_builtin; refine wpList_app rfl _ _ rfl rfl ((Own.lit1 w w.heap.size (Nat.le_refl _) _ (by omega)).below hb2) rfl hown2.rd (by omega) (by have := hb2.size; simp at this; omega) ?_; intro A3 c3 w3 hown3 hg3)
          | (go_at_call 92; refine (halves_any _ _ _ _ _ _ hr hn).mono ?_; rintro e w' ⟨rfl, rfl⟩)
          | (go_at_call 93; refine (joined_any _ _ _ _ _ (hr.alloc (Nat.le_refl _) _ |>.more (by simp)) hn hh).mono ?_; rintro e w2 ⟨A2, c2, rfl, hown2, hb2⟩))
        go_ret2
        refine ⟨A3, _, c3, ret_se rfl he.out.symm, by rw [hl.out]; exact hown3, ?_⟩
        exact (((Below.refl _ _).alloc (Nat.le_refl _) _).trans (hb2.mono (by simp))).grown hg3 (by have := hb2.size; simp at this; omega) (by simp [Value.ownBlock])
  · have hh' : halvesB l = false := by simpa using hh
    obtain ⟨he, hl⟩ := packE_no hh' leaf
    have He := Lib.hid he
    have Hl := Lib.hid hl
    clear he hl hh
    go_enter Try.func65, Try.ntmps65
    go_wp2_with (go_at_call 92; refine (halves_any _ _ _ _ _ _ hr hn).mono ?_; rintro e w' ⟨rfl, rfl⟩)
    go_ret2
    exact ⟨none, 0, 0, ret_se rfl He.out.symm, by rw [Hl.out]; exact Own.nil_ _ _, Below.refl _ _⟩
end Go.Proofs.Ytliccofjlheceaa
namespace Go.Proofs.Ytliccofjlheceaa
open Go.RowKit

theorem and16_1 (x : Int) (h0 : 0 ≤ x) (h1 : x ≤ 255) (h : x / 16 % 2 = 1) : bits .and .u8 x 16 = 16 := by
  have key : ∀ y : Fin 256, (y.val : Int) / 16 % 2 = 1 → bits .and .u8 (y.val : Int) 16 = 16 := by decide +kernel
  have := key ⟨x.toNat, by omega⟩
  simp only [Int.toNat_of_nonneg h0] at this
  exact this h
theorem and16_0 (x : Int) (h0 : 0 ≤ x) (h1 : x ≤ 255) (h : ¬ x / 16 % 2 = 1) : bits .and .u8 x 16 = 0 := by
  have key : ∀ y : Fin 256, ¬ (y.val : Int) / 16 % 2 = 1 → bits .and .u8 (y.val : Int) 16 = 0 := by decide +kernel
  have := key ⟨x.toNat, by omega⟩
  simp only [Int.toNat_of_nonneg h0] at this
  exact this h
theorem and32_1 (x : Int) (h0 : 0 ≤ x) (h1 : x ≤ 255) (h : x / 32 % 2 = 1) : bits .and .u8 x 32 = 32 := by
  have key : ∀ y : Fin 256, (y.val : Int) / 32 % 2 = 1 → bits .and .u8 (y.val : Int) 32 = 32 := by decide +kernel
  have := key ⟨x.toNat, by omega⟩
  simp only [Int.toNat_of_nonneg h0] at this
  exact this h
theorem and32_0 (x : Int) (h0 : 0 ≤ x) (h1 : x ≤ 255) (h : ¬ x / 32 % 2 = 1) : bits .and .u8 x 32 = 0 := by
  have key : ∀ y : Fin 256, ¬ (y.val : Int) / 32 % 2 = 1 → bits .and .u8 (y.val : Int) 32 = 0 := by decide +kernel
  have := key ⟨x.toNat, by omega⟩
  simp only [Int.toNat_of_nonneg h0] at this
  exact this h
theorem unpack_nil {b : List UInt8} (h : b.length = 0) : unpackE b = 10 ∧ unpackB b = false ∧ unpackL b = [] := by simp [unpackE, unpackB, unpackL, h]
theorem unpack_no {b : List UInt8} (h : b.length ≠ 0) (k : unpackOk b = false) : unpackE b = 11 ∧ unpackB b = false ∧ unpackL b = [] := by simp [unpackE, unpackB, unpackL, h, k]
theorem unpack_ok {b : List UInt8} (h : b.length ≠ 0) (k : unpackOk b = true) : unpackE b = 0 ∧ unpackB b = decide (at8 b 0 / 32 % 2 = 1) ∧ unpackL b = (if at8 b 0 / 16 % 2 = 1 then [b8 (at8 b 0 % 16)] else []) ++ ofB (b.drop 1) := by simp [unpackE, unpackB, unpackL, h, k]
theorem ret_sbe {A A' : Option Addr} {n n' c c' : Nat} {p q : Bool} {x y : Int} (h : Value.slice A n c = Value.slice A' n' c') (hp : p = q) (k : x = y) :
    Ending.returned (.tuple #[.slice A n c, .bool p, .int .i64 x]) = Ending.returned (.tuple #[.slice A' n' c', .bool q, .int .i64 y]) := by rw [h, hp, k]

set_option maxHeartbeats 1600000 in
theorem unpack_any (A : Option Addr) (n c : Nat) (l : List UInt8) (w : World) (hr : Rd w w.heap.size A n l) (hn : n ≤ 100000000000) (hnc : n ≤ c) :
    Calls Try.prog 73 #[.slice A n c] w fun e w' => ∃ A' n' c', e = .returned (.tuple #[.slice A' n' c', .bool (unpackB l), .int .i64 (unpackE l)]) ∧ Own w' w.heap.size A' n' c' (unpackL l) ∧ Below w.heap.size w w' := by
  have hln := Lib.hid hr.len
  rcases Nat.eq_zero_or_pos n with h0 | h0
  · subst h0
    have hd := Lib.hid (unpack_nil hln.out)
    go_enter Try.func73, Try.ntmps73
    go_wp2
    go_ret3
    exact ⟨none, 0, 0, ret_sbe rfl hd.out.2.1.symm hd.out.1.symm, by rw [hd.out.2.2]; exact Own.nil_ _ _, Below.refl _ _⟩
  · obtain ⟨b, off, rfl, hc0⟩ := hr.at0 h0
    have x0 := at8_lo l 0
    have x1 := at8_hi l 0
    have hne : l.length ≠ 0 := by rw [hln.out]; omega
    by_cases hx : at8 l 0 < 64
    · by_cases hodd : at8 l 0 / 16 % 2 = 1
      · have hok : unpackOk l = true := by simp [unpackOk, hx, hodd]
        have hd := Lib.hid (unpack_ok hne hok)
        have hm := and16_1 _ x0 x1 hodd
        have hq := Lib.hid hodd
        have hcA := hr.shift (k := 1) (by omega)
        have hcB : c = 1 → Rd w w.heap.size (some ⟨b, off, none⟩) (n - 1) (l.drop 1) := fun e => hr.gone (by omega)
        clear hne hodd hok
        by_cases hlf : at8 l 0 / 32 % 2 = 1
        all_goals
          first
          | have hb32 := and32_1 _ x0 x1 hlf
          | have hb32 := and32_0 _ x0 x1 hlf
          have hlf' := Lib.hid hlf
          clear hlf
          go_enter Try.func73, Try.ntmps73
          go_wp2_with (at_builtin; refine wpList_app rfl _ _ rfl rfl ((Own.nil_ w w.heap.size).alloc _) rfl (Rd.lit1 _ _ (by omega)) (by omega) (by simp) ?_; intro A1 c1 w1 hown1 hg1)
          all_goals
            have hb1 := below_new _ (below_nil rfl hg1)
            (first
              | ((with_reducible refine (of_any _ _ _ _ _ (hcA.up hb1) (by omega)).mono ?_); rintro e w2 ⟨A2, c2, rfl, hown2, hb2⟩)
              | ((with_reducible refine (of_any _ _ _ _ _ ((hcB (by assumption)).up hb1) (by omega)).mono ?_); rintro e w2 ⟨A2, c2, rfl, hown2, hb2⟩))
            go_wp2_with (at_builtin; refine wpList_app rfl _ _ rfl rfl (hown1.below hb2) rfl hown2.rd (by omega) (by have := hb2.size; have := hb1.size; omega) ?_; intro A3 c3 w3 hown3 hg3)
            go_ret3
            refine ⟨A3, _, c3, ret_sbe rfl (by rw [hd.out.2.1]; simp [hlf'.out]) hd.out.1.symm, ?_, below_own (hb1.trans (hb2.mono hb1.size)) (hown1.below hb2) hg3⟩
            rw [hd.out.2.2, if_pos hq.out]
            exact hown3
      · have hm := and16_0 _ x0 x1 hodd
        by_cases hz : at8 l 0 % 16 = 0
        · have hok : unpackOk l = true := by simp [unpackOk, hx, hz]
          have hd := Lib.hid (unpack_ok hne hok)
          have hq := Lib.hid hodd
          have hz' : (at8 l 0 % 16 != 0) = false := by simp [hz]
          have hcA := hr.shift (k := 1) (by omega)
          have hcB : c = 1 → Rd w w.heap.size (some ⟨b, off, none⟩) (n - 1) (l.drop 1) := fun e => hr.gone (by omega)
          clear hne hodd hok hz
          by_cases hlf : at8 l 0 / 32 % 2 = 1
          all_goals
            first
            | have hb32 := and32_1 _ x0 x1 hlf
            | have hb32 := and32_0 _ x0 x1 hlf
            have hlf' := Lib.hid hlf
            clear hlf
            go_enter Try.func73, Try.ntmps73
            go_wp2_with fail
            all_goals
              (first
                | ((with_reducible refine (of_any _ _ _ _ _ hcA (by omega)).mono ?_); rintro e w2 ⟨A2, c2, rfl, hown2, hb2⟩)
                | ((with_reducible refine (of_any _ _ _ _ _ (hcB (by assumption)) (by omega)).mono ?_); rintro e w2 ⟨A2, c2, rfl, hown2, hb2⟩))
              go_wp2_with (at_builtin; refine wpList_app rfl _ _ rfl rfl (Own.nil_ w2 w.heap.size) rfl hown2.rd (by omega) (by have := hb2.size; omega) ?_; intro A3 c3 w3 hown3 hg3)
              go_ret3
              refine ⟨A3, _, c3, ret_sbe rfl (by rw [hd.out.2.1]; simp [hlf'.out]) hd.out.1.symm, ?_, below_own hb2 (Own.nil_ w2 w.heap.size) hg3⟩
              rw [hd.out.2.2, if_neg hq.out]
              rw [Nat.zero_add] at hown3
              exact hown3
        · have hok : unpackOk l = false := by simp [unpackOk, hodd, hz]
          have hd := Lib.hid (unpack_no hne hok)
          have hz' : (at8 l 0 % 16 != 0) = true := by simp [hz]
          clear hne hok hodd hz
          go_enter Try.func73, Try.ntmps73
          go_wp2
          go_ret3
          exact ⟨none, 0, 0, ret_sbe rfl hd.out.2.1.symm hd.out.1.symm, by rw [hd.out.2.2]; exact Own.nil_ _ _, Below.refl _ _⟩
    · have hok : unpackOk l = false := by simp [unpackOk, hx]
      have hd := Lib.hid (unpack_no hne hok)
      clear hne hok
      go_enter Try.func73, Try.ntmps73
      go_wp2
      go_ret3
      exact ⟨none, 0, 0, ret_sbe rfl hd.out.2.1.symm hd.out.1.symm, by rw [hd.out.2.2]; exact Own.nil_ _ _, Below.refl _ _⟩

end Go.Proofs.Ytliccofjlheceaa
namespace Go.Proofs.Ytliccofjlheceaa
open Go.RowKit

theorem take_set1 (L P : List UInt8) (k : Nat) (x : UInt8) (h : k < L.length) (hp : L.take k = P) : (L.set k x).take (k + 1) = P ++ [x] := by
  subst hp
  rw [take_snoc _ _ (by simpa using h), List.take_set, List.set_eq_of_length_le (by simp; omega)]
  simp [h]
theorem take_set2 (L P : List UInt8) (k : Nat) (x y : UInt8) (h : 2 * k + 1 < L.length) (hp : L.take (2 * k) = P) : ((L.set (2 * k) x).set (2 * k + 1) y).take (2 * (k + 1)) = P ++ [x, y] := by
  have e1 := take_set1 L P (2 * k) x (by omega) hp
  have e2 := take_set1 (L.set (2 * k) x) (P ++ [x]) (2 * k + 1) y (by simpa using h) e1
  rw [show 2 * (k + 1) = 2 * k + 1 + 1 by omega, e2]
  simp
theorem other_cell {wr : World} {H bb o o' : Nat} {v : Value} (hne : bb < H) (h : wr.cell? ⟨bb, o, none⟩ = some v) : ∀ u, (wr.setCell ⟨H, o', none⟩ u).cell? ⟨bb, o, none⟩ = some v := fun u => by
  rw [World.cell?_setCell_other _ _ _ _ (by intro e; injection e with e; omega)]; exact h

set_option maxHeartbeats 800000 in
theorem refOf_any (A : Option Addr) (n c : Nat) (l : List UInt8) (w : World) (hr : Rd w w.heap.size A n l) (hn : n ≤ 100000000000) :
    Calls Try.prog 57 #[.slice A n c] w fun e w' => e = .returned (.slice (some ⟨w.heap.size, 0, none⟩) (2 * n) (2 * n)) ∧ Own w' w.heap.size (some ⟨w.heap.size, 0, none⟩) (2 * n) (2 * n) (ofB l) ∧ Below w.heap.size w w' := by
  go_enter Try.func57, Try.ntmps57
  go_wp2_with (at_make; refine wpList_mk rfl _ _ rfl (n := 2 * n) rfl rfl (by omega) (by omega) (by omega) (Nat.le_refl _) ?_; intro w1 hown1 hg1)
  have hb1 : Below w.heap.size w w1 := (Below.refl _ _).grown hg1 (Nat.le_refl _) (by intro k h; cases h)
  go_loopw [4] (fun i wr => ∃ (k : Nat) (L : List UInt8), k ≤ n ∧ i = .int .i64 k ∧ Own wr w.heap.size (some ⟨w.heap.size, 0, none⟩) (2 * n) (2 * n) L ∧ L.take (2 * k) = ofB (l.take k) ∧ Below w.heap.size w wr) (fun i _ => n - (intOf i).toNat)
  case atStart => exact ⟨0, _, Nat.zero_le _, rfl, hown1, rfl, hb1⟩
  case round =>
    obtain ⟨k, L, hk, rfl, hown, ht, hb⟩ := hrel
    have Ht := Lib.hid ht
    clear ht
    have hln := Lib.hid hr.len
    have hLn := Lib.hid hown.len
    by_cases hlt : k < n
    · obtain ⟨bb, off, rfl, hbl, hc⟩ := (hr.below hb).atB hlt
      have h0 := at8_lo l k
      have h1 := at8_hi l k
      have hs1 := hown.cell (j := 2 * k) (by omega)
      have hf1 := hown.free (2 * k)
      have hown1 := hown.set (j := 2 * k) (x := at8 l k / 16) (by omega) (by omega)
      have hs2 := hown1.cell (j := 2 * k + 1) (by omega)
      have hf2 := hown1.free (2 * k + 1)
      have hown2 := hown1.set (j := 2 * k + 1) (x := at8 l k % 16) (by omega) (by omega)
      have hco := other_cell (o' := 2 * k) hbl hc
      have hb2 := (hb.setCell (p := ⟨w.heap.size, 2 * k, none⟩) (Nat.le_refl _) (.int .u8 (at8 l k / 16))).setCell (p := ⟨w.heap.size, 2 * k + 1, none⟩) (Nat.le_refl _) (.int .u8 (at8 l k % 16))
      have Hown2 := Lib.hid hown2
      have Hb2 := Lib.hid hb2
      clear hown2 hb2 hown1 hbl
      go_wp2
      go_roundw
      case rel => exact ⟨k + 1, _, by omega, by go_num, Hown2.out, by rw [ofB_take l k (by rw [hln.out]; exact hlt)]; exact take_set2 L _ k _ _ (by rw [hLn.out]; omega) Ht.out, Hb2.out⟩
      case measure => simp [intOf]; omega
    · have hkn : k = n := by omega
      subst hkn
      go_wp2
      go_ret
      refine ⟨rfl, ?_, hb⟩
      have e := Ht.out
      rw [List.take_of_length_le (by rw [hLn.out]; omega), List.take_of_length_le (by rw [hln.out]; omega)] at e
      rw [← e]; exact hown

end Go.Proofs.Ytliccofjlheceaa
namespace Go.Proofs.Ytliccofjlheceaa
open Go.RowKit

set_option maxHeartbeats 800000 in
theorem refBytes_any (A : Option Addr) (n c : Nat) (l : List UInt8) (w : World) (hr : Rd w w.heap.size A n l) (hn : n ≤ 100000000000) :
    Calls Try.prog 98 #[.slice A n c] w fun e w' => ∃ A' n' c', e = .returned (.tuple #[.slice A' n' c', .int .i64 (bytesE l)]) ∧ Own w' w.heap.size A' n' c' (bytesL l) ∧ Below w.heap.size w w' := by
  have hln := Lib.hid hr.len
  by_cases hh : halvesB l = true
  · by_cases hodd : n % 2 = 1
    · have He := Lib.hid (bytesE_odd hh (by rw [hln.out]; exact hodd))
      go_enter Try.func98, Try.ntmps98
      go_wp2_with (go_at_call 97; refine (right_any _ _ _ _ _ _ hr hn).mono ?_; rintro e w' ⟨rfl, rfl⟩)
      go_ret2
      exact ⟨none, 0, 0, ret_se rfl He.out.1.symm, by rw [He.out.2]; exact Own.nil_ _ _, Below.refl _ _⟩
    · have He := Lib.hid (bytesE_ok hh (by rw [hln.out]; omega))
      go_enter Try.func98, Try.ntmps98
      go_wp2_with (first
        | (at_make; refine wpList_mk rfl _ _ rfl (n := n / 2) rfl rfl (by omega) (by omega) (by omega) (Nat.le_refl _) ?_; intro w1 hown1 hg1)
        | (go_at_call 97; refine (right_any _ _ _ _ _ _ hr hn).mono ?_; rintro e w' ⟨rfl, rfl⟩))
      have hb1 : Below w.heap.size w w1 := (Below.refl _ _).grown hg1 (Nat.le_refl _) (by intro k h; cases h)
      have Hh := Lib.hid hh
      clear hh
      go_loopw [5] (fun i wr => ∃ (k : Nat) (L : List UInt8), k ≤ n / 2 ∧ i = .int .i64 k ∧ Own wr w.heap.size (some ⟨w.heap.size, 0, none⟩) (n / 2) (n / 2) L ∧ L.take k = joinB (l.take (2 * k)) ∧ Below w.heap.size w wr) (fun i _ => n - (intOf i).toNat)
      case atStart => exact ⟨0, _, Nat.zero_le _, rfl, hown1, rfl, hb1⟩
      case round =>
        obtain ⟨k, L, hk, rfl, hown, ht, hb⟩ := hrel
        have Ht := Lib.hid ht
        clear ht
        have hLn := Lib.hid hown.len
        by_cases hlt : k < n / 2
        · obtain ⟨bb, off, rfl, hbl, hc⟩ := (hr.below hb).atB (k := 2 * k) (by omega)
          obtain ⟨bb', off', e, hc'⟩ := (hr.below hb).at_ (k := 2 * k + 1) (by omega)
          injection e with e
          injection e with e1 e2
          subst e1 e2
          have h0 := at8_lo l (2 * k)
          have h1 := at8_lo l (2 * k + 1)
          have h2 := halvesB_at l Hh.out (2 * k)
          have h3 := halvesB_at l Hh.out (2 * k + 1)
          have hs1 := hown.cell (j := k) (by omega)
          have hf1 := hown.free k
          have Hown2 := Lib.hid (hown.set (j := k) (x := 16 * at8 l (2 * k) + at8 l (2 * k + 1)) (by omega) (by omega))
          have Hb2 := Lib.hid (hb.setCell (p := ⟨w.heap.size, k, none⟩) (Nat.le_refl _) (.int .u8 (16 * at8 l (2 * k) + at8 l (2 * k + 1))))
          have hj := Lib.hid (joinB_take8 l k (by rw [hln.out]; omega) Hh.out)
          have hw1 : IntKind.i64.wrap (2 * (k : Int)) = 2 * (k : Int) := IntWalk.i64_in _ (by omega)
          have hw9 : IntKind.i64.wrap (2 * (k : Int) + 1) = 2 * (k : Int) + 1 := IntWalk.i64_in _ (by omega)
          have hw2 : (2 * (k : Int)).toNat = 2 * k := by omega
          have hw4 : (2 * (k : Int) + 1).toNat = 2 * k + 1 := by omega
          have hw5 : (0 : Int) ≤ 2 * (k : Int) := by omega
          have hw6 : (2 * (k : Int)) < (n : Int) := by omega
          have hw7 : (0 : Int) ≤ 2 * (k : Int) + 1 := by omega
          have hw8 : (2 * (k : Int) + 1) < (n : Int) := by omega
          have hw3 : IntKind.u8.wrap (16 * at8 l (2 * k)) = 16 * at8 l (2 * k) := IntWalk.u8_in _ (by omega)
          have hw0 : IntKind.u8.wrap (16 * at8 l (2 * k) + at8 l (2 * k + 1)) = 16 * at8 l (2 * k) + at8 l (2 * k + 1) := IntWalk.u8_in _ (by omega)
          go_wp2
          go_region
          all_goals
            clear hw1 hw9 hw2 hw4 hw5 hw6 hw7 hw8 hw3 hw0 hc hc' hs1 hf1 hown hb
            go_wp2
            go_roundw
            case rel => exact ⟨k + 1, _, by omega, by go_num, Hown2.out.drew, by rw [hj.out, Int.mul_comm (at8 l (2 * k)) 16]; exact take_set1 L _ k _ (by rw [hLn.out]; omega) Ht.out, Hb2.out.drew⟩
            case measure => simp [intOf]; omega
        · have hkn : k = n / 2 := by omega
          have hend := Lib.hid (joinB_all l k (by rw [hln.out]; omega) (by rw [hln.out]; omega))
          subst hkn
          go_wp2
          go_ret2
          refine ⟨_, _, _, ret_se rfl He.out.1.symm, ?_, hb⟩
          rw [He.out.2, ← hend.out, ← Ht.out, List.take_of_length_le (by rw [hLn.out]; omega)]
          exact hown
  · have hh' : halvesB l = false := by simpa using hh
    have He := Lib.hid (bytesE_no hh')
    clear hh
    go_enter Try.func98, Try.ntmps98
    go_wp2_with (go_at_call 97; refine (right_any _ _ _ _ _ _ hr hn).mono ?_; rintro e w' ⟨rfl, rfl⟩)
    go_ret2
    exact ⟨none, 0, 0, ret_se rfl He.out.1.symm, by rw [He.out.2]; exact Own.nil_ _ _, Below.refl _ _⟩

theorem halvesB_cons (x : UInt8) (l : List UInt8) (hx : x ≤ 15) (h : halvesB l = true) : halvesB (x :: l) = true := by
  unfold halvesB at *; rw [List.all_cons, h]; simp [hx]
theorem b8_le (x : Int) (h0 : 0 ≤ x) (h1 : x ≤ 15) : b8 x ≤ 15 := by
  unfold b8; rw [UInt8.le_iff_toNat_le, UInt8.toNat_ofNat']; simp; omega
theorem refPack_odd {l : List UInt8} (h : halvesB l = true) (k : l.length % 2 = 1) (leaf : Bool) (x : Int) (hx : x = if leaf = true then 3 else 1) :
    bytesE ([b8 x] ++ l) = 0 ∧ bytesL ([b8 x] ++ l) = packL l leaf := by
  have hx' : 0 ≤ x ∧ x ≤ 15 := by subst hx; split <;> omega
  have hh : halvesB (b8 x :: l) = true := halvesB_cons _ _ (b8_le x hx'.1 hx'.2) h
  obtain ⟨h1, h2⟩ := bytesE_ok (l := [b8 x] ++ l) hh (by simp; omega)
  refine ⟨h1, ?_⟩
  rw [h2, packL_odd h k leaf _ rfl]
  rcases l with _ | ⟨y, l⟩
  · simp at k
  · simp only [List.cons_append, List.nil_append, joinB, List.drop_succ_cons, List.drop_zero]
    congr 1
    have hy : y ≤ 15 := halvesB_le _ h y (by simp)
    have e : at8 (y :: l) 0 = (y.toNat : Int) := rfl
    rw [e]
    have := b8_add (b8 x) y (b8_le x hx'.1 hx'.2) hy
    rw [← this]
    congr 1
    subst hx
    cases leaf <;> simp [b8] <;> omega
theorem refPack_even {l : List UInt8} (h : halvesB l = true) (k : l.length % 2 = 0) (leaf : Bool) (x : Int) (hx : x = if leaf = true then 2 else 0) :
    bytesE ([b8 x] ++ [b8 0] ++ l) = 0 ∧ bytesL ([b8 x] ++ [b8 0] ++ l) = packL l leaf := by
  have hx' : 0 ≤ x ∧ x ≤ 15 := by subst hx; split <;> omega
  have hh : halvesB (b8 x :: b8 0 :: l) = true := halvesB_cons _ _ (b8_le x hx'.1 hx'.2) (halvesB_cons _ _ (b8_le 0 (by omega) (by omega)) h)
  obtain ⟨h1, h2⟩ := bytesE_ok (l := [b8 x] ++ [b8 0] ++ l) hh (by simp; omega)
  refine ⟨h1, ?_⟩
  rw [h2, packL_even h k leaf _ rfl]
  simp only [List.cons_append, List.nil_append, joinB]
  congr 1
  have := b8_add (b8 x) (b8 0) (b8_le x hx'.1 hx'.2) (b8_le 0 (by omega) (by omega))
  rw [← this]
  congr 1
  subst hx
  cases leaf <;> simp [b8]

set_option maxHeartbeats 1600000 in
theorem refPack_any (A : Option Addr) (n c : Nat) (leaf : Bool) (l : List UInt8) (w : World) (hr : Rd w w.heap.size A n l) (hn : n ≤ 10000000000) :
    Calls Try.prog 81 #[.slice A n c, .bool leaf] w fun e w' => ∃ A' n' c', e = .returned (.tuple #[.slice A' n' c', .int .i64 (packE l)]) ∧ Own w' w.heap.size A' n' c' (packL l leaf) ∧ Below w.heap.size w w' := by
  have hln := Lib.hid hr.len
  by_cases hh : halvesB l = true
  · have he := Lib.hid (packE_ok hh)
    by_cases hodd : n % 2 = 1
    · have hl := Lib.hid (refPack_odd hh (by rw [hln.out]; omega) leaf _ rfl)
      have hm : (n : Int) % 2 = 1 := by omega
      cases leaf
      all_goals
        go_enter Try.func81, Try.ntmps81
        go_wp2_with (first
          | (at_builtin; refine wpList_app rfl _ _ rfl rfl (Own.lit1 w w.heap.size (Nat.le_refl _) _ (by omega)) rfl (hr.upA _) (by omega) (sz1 _ _) ?_; intro A1 c1 w1 hown1 hg1)
          | (go_at_call 97; refine (right_any _ _ _ _ _ _ hr (by omega)).mono ?_; rintro e w' ⟨rfl, rfl⟩))
        have hb1 := below_own ((Below.refl _ _).alloc (Nat.le_refl _) _) (Own.lit1 w w.heap.size (Nat.le_refl _) _ (by omega)) hg1
        refine (refBytes_any _ _ _ _ _ hown1.rd (by omega)).mono ?_
        rintro e w2 ⟨A2, n2, c2, rfl, hown2, hb2⟩
        have e1 := hl.out.1
        have e2 := hl.out.2
        simp only [if_true, if_false, Bool.false_eq_true] at e1 e2
        rw [e1]
        rw [e2] at hown2
        clear e1 e2
        go_wp2
        go_ret2
        exact ⟨A2, n2, c2, ret_se rfl he.out.symm, hown2.less hb1.size, hb1.trans (hb2.mono hb1.size)⟩
    · have hl := Lib.hid (refPack_even hh (by rw [hln.out]; omega) leaf _ rfl)
      have hm : (n : Int) % 2 = 0 := by omega
      cases leaf
      all_goals
        go_enter Try.func81, Try.ntmps81
        go_wp2_with (first
          | (go_at_call 97; refine (right_any _ _ _ _ _ _ hr (by omega)).mono ?_; rintro e w' ⟨rfl, rfl⟩)
          | (at_builtin; refine wpList_app rfl _ _ rfl rfl ((Own.lit1 w w.heap.size (Nat.le_refl _) _ (by omega)).alloc _) rfl (Rd.lit1H _ _ (World.size_alloc ..) _ (by omega)) (by omega) (sz2 _ _ _) ?_; intro A1 c1 w1 hown1 hg1; have hb1 := below_own (((Below.refl _ _).alloc (Nat.le_refl _) _).alloc (sz1 _ _) _) ((Own.lit1 w w.heap.size (Nat.le_refl _) _ (by omega)).alloc _) hg1)
          | (at_builtin; refine wpList_app rfl _ _ rfl rfl hown1 rfl (hr.up hb1) (by omega) hb1.size ?_; intro A2 c2 w2 hown2 hg2))
        have hb2 := below_own hb1 hown1 hg2
        refine (refBytes_any _ _ _ _ _ hown2.rd (by omega)).mono ?_
        rintro e w3 ⟨A3, n3, c3, rfl, hown3, hb3⟩
        have e1 := hl.out.1
        have e2 := hl.out.2
        simp only [if_true, if_false, Bool.false_eq_true] at e1 e2
        rw [e1]
        rw [e2] at hown3
        clear e1 e2
        go_wp2
        go_ret2
        exact ⟨A3, n3, c3, ret_se rfl he.out.symm, hown3.less hb2.size, hb2.trans (hb3.mono hb2.size)⟩
  · have hh' : halvesB l = false := by simpa using hh
    have He := Lib.hid (packE_no hh' leaf)
    clear hh
    go_enter Try.func81, Try.ntmps81
    go_wp2_with (go_at_call 97; refine (right_any _ _ _ _ _ _ hr (by omega)).mono ?_; rintro e w' ⟨rfl, rfl⟩)
    go_ret2
    exact ⟨none, 0, 0, ret_se rfl He.out.1.symm, by rw [He.out.2]; exact Own.nil_ _ _, Below.refl _ _⟩

theorem b8_mod (c : UInt8) : b8 ((c.toNat : Int) % 16) = c % 16 := by unfold b8; apply UInt8.toNat_inj.1; rw [UInt8.toNat_ofNat', UInt8.toNat_mod]; simp; have := c.toNat_lt; omega
theorem ofB_head (l : List UInt8) (h : 0 < l.length) : at8 (ofB l) 0 = at8 l 0 / 16 ∧ at8 (ofB l) 1 = at8 l 0 % 16 ∧ (ofB l).drop 1 = [b8 (at8 l 0 % 16)] ++ ofB (l.drop 1) ∧ (ofB l).drop 2 = ofB (l.drop 1) := by
  rcases l with _ | ⟨c, l⟩
  · simp at h
  · have e : at8 (c :: l) 0 = (c.toNat : Int) := rfl
    rw [e, b8_mod]
    refine ⟨?_, ?_, rfl, rfl⟩
    · show (((c / 16 : UInt8).toNat : Nat) : Int) = _
      rw [UInt8.toNat_div]; simp
    · show (((c % 16 : UInt8).toNat : Nat) : Int) = _
      rw [UInt8.toNat_mod]; simp

end Go.Proofs.Ytliccofjlheceaa
