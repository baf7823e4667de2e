/- Numbers and bytes in one way: the walk of vint.Get. Numbers and bytes in one way: the walks of vint.GetBytes, PutInt. Numbers and bytes in one way: the reference's walks. Halves of bytes: packed and unpacked: the program's own. Halves of bytes: unpacked; compared: the program's own. Halves of bytes: the reference's walks. Halves of bytes: the reference's walks of what is packed. Reference 07: the walks of Encode, Hash, Fold. The walk of digest's words. -/
import Derived.Test.YtojjfkbffjkojaaDoorG08
import Derived.Test.YtojjfkbffjkojaaDoorG07
import Derived.Test.YtojjfkbffjkojaaDoorG03
namespace Go.Proofs.YtojjfkbffjkojaaDoor
open Go.RowKit

theorem ret3 {k1 k2 k3 : IntKind} {a b c a' b' c' : Int} (h1 : a = a') (h2 : b = b') (h3 : c = c') : Ending.returned (.tuple #[.int k1 a, .int k2 b, .int k3 c]) = Ending.returned (.tuple #[.int k1 a', .int k2 b', .int k3 c']) := by rw [h1, h2, h3]
theorem and127 (x : Int) (h0 : 0 ≤ x) (h1 : x ≤ 255) : bits .and .u8 x 127 = x % 128 := by
  have h : ∀ y : Fin 256, bits .and .u8 (y.val : Int) 127 = (y.val : Int) % 128 := by decide +kernel
  have := h ⟨x.toNat, by omega⟩
  simp only [Int.toNat_of_nonneg h0] at this
  exact this
theorem acc_lt {acc k x : Nat} (h : acc < 128 ^ k) (hx : x ≤ 127) : acc + x * 128 ^ k < 128 ^ (k + 1) := by
  have h1 : x * 128 ^ k ≤ 127 * 128 ^ k := Nat.mul_le_mul_right _ hx
  rw [Nat.pow_succ]; omega
/-- The number gets seven bits more. -/
theorem or_step (acc k : Nat) (x : Int) (h0 : 0 ≤ x) (h1 : x ≤ 255) (hacc : acc < 128 ^ k) (hk : k ≤ 9) (h9 : k = 9 → x ≤ 1) :
    bits .or .u64 (acc : Int) (IntKind.u64.wrap (IntKind.u64.wrap (bits .and .u8 x 127) * 2 ^ (7 * k))) = ((acc + (x.toNat % 128) * 128 ^ k : Nat) : Int) := by
  rw [and127 x h0 h1]
  obtain ⟨y, rfl⟩ := Int.eq_ofNat_of_zero_le h0
  have e1 : IntKind.u64.wrap ((y : Int) % 128) = ((y % 128 : Nat) : Int) := by rw [IntKind.wrap_u64]; omega
  have hp : (2 : Nat) ^ (7 * k) = 128 ^ k := by rw [Nat.pow_mul]
  have hb : (y % 128) * 128 ^ k < 18446744073709551616 := by
    by_cases e : k = 9
    · subst e
      have hp9 : (128 : Nat) ^ 9 = 9223372036854775808 := by decide
      rw [hp9]
      have : y % 128 ≤ 1 := by have := h9 rfl; omega
      have := Nat.mul_le_mul_right 9223372036854775808 this
      omega
    · have h2 : 128 ^ (k + 1) ≤ 128 ^ 9 := Nat.pow_le_pow_right (by omega) (by omega)
      have hp9 : (128 : Nat) ^ 9 = 9223372036854775808 := by decide
      have h3 : (y % 128) * 128 ^ k ≤ 127 * 128 ^ k := Nat.mul_le_mul_right _ (by omega)
      rw [hp9, Nat.pow_succ] at h2
      omega
  have hpz : (2 : Int) ^ (7 * k) = ((128 ^ k : Nat) : Int) := by
    have : ((2 ^ (7 * k) : Nat) : Int) = ((128 ^ k : Nat) : Int) := by rw [hp]
    rw [← this, Int.natCast_pow]; rfl
  rw [e1, hpz, Int.toNat_natCast, ← Int.natCast_mul]
  have e2 : IntKind.u64.wrap (((y % 128 * 128 ^ k : Nat)) : Int) = ((y % 128 * 128 ^ k : Nat) : Int) := by rw [IntKind.wrap_u64]; omega
  rw [e2]
  have ha : acc < 18446744073709551616 := by
    have h2 : 128 ^ k ≤ 128 ^ 9 := Nat.pow_le_pow_right (by omega) hk
    have hp9 : (128 : Nat) ^ 9 = 9223372036854775808 := by decide
    omega
  have := bits_or_u64_nat acc (y % 128 * 128 ^ k) ha hb
  rw [this]
  congr 1
  rw [Nat.mul_comm, ← hp, Nat.or_comm, ← Nat.two_pow_add_eq_or_of_lt (by rw [hp]; exact hacc), Nat.add_comm]
/-- What Get comes to. -/
def Got (w : World) (l : List UInt8) (at_ : Int) (e : Ending) (w' : World) : Prop := e = .returned (.tuple #[.int .u64 (gN l at_), .int .i64 (gTo l at_), .int .i64 (gE l at_)]) ∧ w = w'

set_option maxRecDepth 100000 in
set_option maxHeartbeats 1600000 in
theorem get_in (A : Option Addr) (n c B a : Nat) (l : List UInt8) (w : World) (hr : Rd w B A n l) (hn : n ≤ 100000000000) (hnc : n ≤ c) (ha : a < n) :
    Calls Tryd.prog 116 #[.slice A n c, .int .i64 a] w (Got w l a) := by
  obtain ⟨b, off, rfl, hB, hcells⟩ := hr.cells (by omega)
  have hln := Lib.hid hr.len
  have Hcells := Lib.hid hcells
  have hca : ¬ c = a := by omega
  clear hcells
  go_enter Tryd.func116, Tryd.ntmps116
  go_wp2
  go_step3
  go_wp2
  go_step3
  go_wp2
  go_loop [7, 8, 23] (fun v e i => ∃ (k acc : Nat), a + k ≤ n ∧ k ≤ 9 ∧ acc < 128 ^ k ∧ i = .int .i64 k ∧ v = .int .u64 acc ∧ e = .int .i64 10 ∧ getF (l.drop (a + k)) k acc = getF (l.drop a) 0 0) (fun _ _ i => n - (intOf i).toNat)
  case atStart => exact ⟨0, 0, by omega, by omega, by simp, rfl, rfl, rfl, rfl⟩
  case round =>
    obtain ⟨k, acc, hkn, hk9, hacc, rfl, rfl, rfl, hg⟩ := hrel
    have Hg := Lib.hid hg
    have Hacc := Lib.hid hacc
    have hal : Hid (a ≤ l.length) := Lib.hid (by rw [hln.out]; omega)
    clear hg hacc
    by_cases hlt : a + k < n
    · have hc : w.cell? ⟨b, off + a + k, none⟩ = some (.int .u8 (at8 l (a + k))) := by rw [Nat.add_assoc]; exact Hcells.out (a + k) hlt
      have h0 := at8_lo l (a + k)
      have h1 := at8_hi l (a + k)
      have hst := Lib.hid (getF_step l a k acc (by rw [hln.out]; exact hlt))
      by_cases h9 : k = 9
      · have hb9 : ((k : Int) == 9) = true := by simp; omega
        have hk0 : (0 : Int) < k := by omega
        by_cases hc1 : 1 < at8 l (a + k)
        · have F := Lib.hid (g_fail hal.out (by decide) (show getF (l.drop a) 0 0 = (0, 0, 11) by rw [← Hg.out, hst.out, if_pos (.inl ⟨h9, hc1⟩)]))
          clear h9
          go_wp2
          go_ret3
          exact ⟨ret3 F.out.2.1.symm F.out.2.2.symm F.out.1.symm, rfl⟩
        · have hd1 : decide (1 < at8 l (a + k)) = false := by simp; omega
          by_cases hz : at8 l (a + k) = 0
          · have hbz : (at8 l (a + k) == 0) = true := by simp [hz]
            have F := Lib.hid (g_fail hal.out (by decide) (show getF (l.drop a) 0 0 = (0, 0, 11) by rw [← Hg.out, hst.out, if_pos (.inr ⟨hz, by omega⟩)]))
            clear h9 hz
            go_wp2
            go_ret3
            exact ⟨ret3 F.out.2.1.symm F.out.2.2.symm F.out.1.symm, rfl⟩
          · have hbz : (at8 l (a + k) == 0) = false := by simp [hz]
            have hv := or_step acc k (at8 l (a + k)) h0 h1 Hacc.out hk9 (by omega)
            have F := Lib.hid (g_done hal.out (show getF (l.drop a) 0 0 = (acc + (at8 l (a + k)).toNat * 128 ^ k, k + 1, 0) by rw [← Hg.out, hst.out, if_neg (by omega), if_pos (by omega)]))
            rw [show (at8 l (a + k)).toNat % 128 = (at8 l (a + k)).toNat by omega] at hv
            have Hv := Lib.hid hv
            have hlt8 : at8 l (a + k) < 128 := by omega
            clear hv hz h9
            go_wp2
            go_ret3
            exact ⟨ret3 (by rw [Hv.out]; exact F.out.2.1.symm) (by rw [F.out.2.2]; omega) F.out.1.symm, rfl⟩
      · have hb9 : ((k : Int) == 9) = false := by simp; omega
        by_cases hz : at8 l (a + k) = 0
        · have hbz : (at8 l (a + k) == 0) = true := by simp [hz]
          by_cases hk0 : 0 < k
          · have hk0' : (0 : Int) < k := by omega
            have F := Lib.hid (g_fail hal.out (by decide) (show getF (l.drop a) 0 0 = (0, 0, 11) by rw [← Hg.out, hst.out, if_pos (.inr ⟨hz, by omega⟩)]))
            clear h9 hz
            go_wp2
            go_ret3
            exact ⟨ret3 F.out.2.1.symm F.out.2.2.symm F.out.1.symm, rfl⟩
          · have hk0' : decide ((0 : Int) < k) = false := by simp; omega
            have hv := or_step acc k (at8 l (a + k)) h0 h1 Hacc.out hk9 (by omega)
            have F := Lib.hid (g_done hal.out (show getF (l.drop a) 0 0 = (acc + (at8 l (a + k)).toNat * 128 ^ k, k + 1, 0) by rw [← Hg.out, hst.out, if_neg (by omega), if_pos (by omega)]))
            rw [show (at8 l (a + k)).toNat % 128 = (at8 l (a + k)).toNat by omega] at hv
            have Hv := Lib.hid hv
            have hlt8 : at8 l (a + k) < 128 := by omega
            clear hv hz h9
            go_wp2
            go_ret3
            exact ⟨ret3 (by rw [Hv.out]; exact F.out.2.1.symm) (by rw [F.out.2.2]; omega) F.out.1.symm, rfl⟩
        · have hbz : (at8 l (a + k) == 0) = false := by simp [hz]
          by_cases hs : at8 l (a + k) < 128
          · have hv := or_step acc k (at8 l (a + k)) h0 h1 Hacc.out hk9 (by omega)
            have F := Lib.hid (g_done hal.out (show getF (l.drop a) 0 0 = (acc + (at8 l (a + k)).toNat * 128 ^ k, k + 1, 0) by rw [← Hg.out, hst.out, if_neg (by omega), if_pos (by omega)]))
            rw [show (at8 l (a + k)).toNat % 128 = (at8 l (a + k)).toNat by omega] at hv
            have Hv := Lib.hid hv
            clear hv hz h9
            go_wp2
            go_ret3
            exact ⟨ret3 (by rw [Hv.out]; exact F.out.2.1.symm) (by rw [F.out.2.2]; omega) F.out.1.symm, rfl⟩
          · have hv := or_step acc k (at8 l (a + k)) h0 h1 Hacc.out hk9 (by omega)
            rw [show (at8 l (a + k)).toNat % 128 = (at8 l (a + k)).toNat - 128 by omega] at hv
            have Hv := Lib.hid hv
            have F := Lib.hid (show getF (l.drop (a + (k + 1))) (k + 1) (acc + ((at8 l (a + k)).toNat - 128) * 128 ^ k) = getF (l.drop a) 0 0 by rw [← Hg.out, hst.out, if_neg (by omega), if_neg (by omega)])
            have Hb := Lib.hid (acc_lt (x := (at8 l (a + k)).toNat - 128) Hacc.out (by omega))
            clear hv hz
            go_wp2
            go_round
            case rel => exact ⟨k + 1, _, by omega, by omega, Hb.out, by go_num, by rw [Hv.out], rfl, F.out⟩
            case measure => simp [intOf]; omega
    · have F := Lib.hid (g_fail hal.out (by decide) (show getF (l.drop a) 0 0 = (0, 0, 10) by rw [← Hg.out, getF_end l a k acc (by rw [hln.out]; omega)]))
      go_wp2
      go_ret3
      exact ⟨ret3 F.out.2.1.symm F.out.2.2.symm F.out.1.symm, rfl⟩

set_option maxRecDepth 100000 in
set_option maxHeartbeats 1600000 in
theorem get_end (A : Option Addr) (n c B : Nat) (l : List UInt8) (w : World) (hr : Rd w B A n l) :
    Calls Tryd.prog 116 #[.slice A n c, .int .i64 n] w (Got w l n) := by
  have F := Lib.hid (g_fail (l := l) (a := n) (x := 10) (by rw [hr.len]; exact Nat.le_refl _) (by decide) (by rw [List.drop_eq_nil_of_le (by rw [hr.len]; exact Nat.le_refl _)]; rfl))
  go_enter Tryd.func116, Tryd.ntmps116
  go_wp2
  go_step3
  go_wp2
  go_step3
  go_wp2
  all_goals
    refine wp_loop_rounds 1 ?_
    rw [rounds_succ]
    go_wp2
    go_ret3
    exact ⟨ret3 F.out.2.1.symm F.out.2.2.symm F.out.1.symm, rfl⟩

set_option maxRecDepth 100000 in
set_option maxHeartbeats 1600000 in
theorem get_any (A : Option Addr) (n c B : Nat) (at_ : Int) (l : List UInt8) (w : World) (hr : Rd w B A n l) (hn : n ≤ 100000000000) (hnc : n ≤ c) :
    Calls Tryd.prog 116 #[.slice A n c, .int .i64 at_] w (Got w l at_) := by
  by_cases ho : at_ < 0
  · have F := Lib.hid (g_out (l := l) (.inl ho))
    go_enter Tryd.func116, Tryd.ntmps116
    go_wp2
    go_step3
    go_wp2
    try rw [Exit.noGoto_ret]
    go_ret3
    exact ⟨ret3 F.out.2.1.symm F.out.2.2.symm F.out.1.symm, rfl⟩
  · by_cases hp : (n : Int) < at_
    · have F := Lib.hid (g_out (l := l) (a := at_) (.inr (by rw [hr.len]; exact hp)))
      go_enter Tryd.func116, Tryd.ntmps116
      go_wp2
      go_step3
      go_wp2
      try rw [Exit.noGoto_ret]
      go_ret3
      exact ⟨ret3 F.out.2.1.symm F.out.2.2.symm F.out.1.symm, rfl⟩
    · obtain ⟨a, rfl⟩ := Int.eq_ofNat_of_zero_le (show 0 ≤ at_ by omega)
      by_cases he : a = n
      · subst he
        exact get_end A a c B l w hr
      · exact get_in A n c B a l w hr hn hnc (by omega)

end Go.Proofs.YtojjfkbffjkojaaDoor
namespace Go.Proofs.YtojjfkbffjkojaaDoor
open Go.RowKit

theorem g_to {l : List UInt8} {a : Int} (h : gE l a = 0) : ∃ T : Nat, gTo l a = (T : Int) ∧ T ≤ l.length := by
  obtain ⟨x, t, _, _, _, hT, _, hle, _, _⟩ := g_ok h
  exact ⟨x + t, hT, hle⟩
theorem ret_sie {A A' : Option Addr} {n n' c c' : Nat} {x y x' y' : Int} (h : Value.slice A n c = Value.slice A' n' c') (h1 : x = x') (h2 : y = y') :
    Ending.returned (.tuple #[.slice A n c, .int .i64 x, .int .i64 y]) = Ending.returned (.tuple #[.slice A' n' c', .int .i64 x', .int .i64 y']) := by rw [h, h1, h2]
/-- What GetBytes comes to. -/
def GotBytes (w : World) (l : List UInt8) (at_ : Int) (e : Ending) (w' : World) : Prop :=
  ∃ A' n' c', e = .returned (.tuple #[.slice A' n' c', .int .i64 (gbTo l at_), .int .i64 (gbE l at_)]) ∧ Own w' w.heap.size A' n' c' (gbL l at_) ∧ Below w.heap.size w w'
theorem gotBytes_none {w w' : World} {l : List UInt8} {a : Int} {x : Int} (h : gbE l a = x ∧ gbL l a = [] ∧ gbTo l a = 0) (hb : Below w.heap.size w w') : GotBytes w l a (.returned (.tuple #[.slice none 0 0, .int .i64 0, .int .i64 x])) w' :=
  ⟨none, 0, 0, by rw [h.1, h.2.2], by rw [h.2.1]; exact Own.nil_ _ _, hb⟩

set_option maxRecDepth 100000 in
set_option maxHeartbeats 1600000 in
theorem getBytes_any (A : Option Addr) (n c : Nat) (at_ : Int) (l : List UInt8) (w : World) (hr : Rd w w.heap.size A n l) (hn : n ≤ 100000000000) (hnc : n ≤ c) :
    Calls Tryd.prog 106 #[.slice A n c, .int .i64 at_] w (GotBytes w l at_) := by
  have hln := Lib.hid hr.len
  rcases gb_cases l at_ with h | ⟨h, k⟩ | ⟨h, k, m⟩ | ⟨h, k, m⟩
  · have F := Lib.hid (gb_err1 h)
    have hne : (gE l at_ != 0) = true := by simp [h]
    clear h
    go_enter Tryd.func106, Tryd.ntmps106
    go_wp2_with fail
    refine (get_any _ _ _ _ _ _ _ hr hn hnc).mono ?_
    rintro e w' ⟨rfl, rfl⟩
    go_wp2_with fail
    go_ret3
    exact gotBytes_none F.out (Below.refl _ _)
  · have F := Lib.hid (gb_err2 h k)
    have H := Lib.hid h
    clear h
    go_enter Tryd.func106, Tryd.ntmps106
    go_wp2_with fail
    refine (get_any _ _ _ _ _ _ _ hr hn hnc).mono ?_
    rintro e w' ⟨rfl, rfl⟩
    rw [H.out]
    go_wp2_with fail
    go_ret3
    exact gotBytes_none F.out (Below.refl _ _)
  · have F := Lib.hid (gb_err3 h k m)
    have H := Lib.hid h
    obtain ⟨T, hT, hle⟩ := g_to h
    have h0 := gN_nonneg l at_
    rw [hln.out] at m hle
    rw [hT] at m
    have HT := Lib.hid hT
    have hw : IntKind.u64.wrap ((n : Int) - (T : Int)) = (n : Int) - (T : Int) := IntWalk.u64_in _ (by omega)
    clear h hT
    go_enter Tryd.func106, Tryd.ntmps106
    go_wp2_with fail
    refine (get_any _ _ _ _ _ _ _ hr hn hnc).mono ?_
    rintro e w' ⟨rfl, rfl⟩
    rw [H.out, HT.out]
    go_wp2_with fail
    go_ret3
    exact gotBytes_none F.out (Below.refl _ _)
  · have F := Lib.hid (gb_ok h k m)
    have H := Lib.hid h
    obtain ⟨T, hT, hle⟩ := g_to h
    obtain ⟨N, hN⟩ := Int.eq_ofNat_of_zero_le (gN_nonneg l at_)
    rw [hln.out] at m hle
    rw [hT, hN] at m
    rw [hN] at k
    have HT := Lib.hid hT
    have HN := Lib.hid hN
    have hw : IntKind.u64.wrap ((n : Int) - (T : Int)) = (n : Int) - (T : Int) := IntWalk.u64_in _ (by omega)
    have hTn : T + N ≤ n := by omega
    have hNb : N ≤ 1048576 := by omega
    have eN : T + N - T = N := by omega
    have hcut : Rd w w.heap.size (if c = T then A else A.map (·.add T)) (T + N - T) ((l.drop T).take N) := by rw [eN]; exact hr.mid (i := T) (j := N) (c := c) hTn hnc
    have EN := Lib.hid eN
    clear eN
    clear h hT hN k m
    go_enter Tryd.func106, Tryd.ntmps106
    go_wp2_with fail
    refine (get_any _ _ _ _ _ _ _ hr hn hnc).mono ?_
    rintro e w' ⟨rfl, rfl⟩
    rw [H.out, HT.out, HN.out]
    go_wp2_with (at_builtin; refine wpList_app rfl _ _ rfl rfl (Own.nil_ w w.heap.size) rfl hcut (by omega) (Nat.le_refl _) ?_; intro A2 c2 w2 o2 g2)
    all_goals
      have b2 := below_nil rfl g2
      go_ret3
      refine ⟨A2, N, c2, ret_sie rfl (by rw [F.out.2.2, HT.out, HN.out]) F.out.1.symm, ?_, b2⟩
      rw [F.out.2.1, HT.out, HN.out, Int.toNat_natCast, Int.toNat_natCast]
      rw [Nat.zero_add, EN.out] at o2
      exact o2

end Go.Proofs.YtojjfkbffjkojaaDoor
namespace Go.Proofs.YtojjfkbffjkojaaDoor
open Go.RowKit

theorem ret_se {A A' : Option Addr} {n n' c c' : Nat} {x y : Int} (h : Value.slice A n c = Value.slice A' n' c') (k : x = y) : Ending.returned (.tuple #[.slice A n c, .int .i64 x]) = Ending.returned (.tuple #[.slice A' n' c', .int .i64 y]) := by rw [h, k]

theorem packE_no {l : List UInt8} (h : halvesB l = false) (leaf : Bool) : packE l = 2 ∧ packL l leaf = [] := by simp [packE, packL, h]
theorem packE_ok {l : List UInt8} (h : halvesB l = true) : packE l = 0 := by simp [packE, h]
theorem packL_even {l : List UInt8} (h : halvesB l = true) (k : l.length % 2 = 0) (leaf : Bool) (x : Int) (hx : x = if leaf = true then 32 else 0) : packL l leaf = [b8 x] ++ joinB l := by simp [packL, h, k, hx]
theorem packL_odd {l : List UInt8} (h : halvesB l = true) (k : l.length % 2 = 1) (leaf : Bool) (x : Int) (hx : x = (if leaf = true then 32 else 0) + 16 + at8 l 0) : packL l leaf = [b8 x] ++ joinB (l.drop 1) := by simp [packL, h, k, hx]
theorem halvesB_dropP {l : List UInt8} (h : halvesB l = true) (k : Nat) : halvesB (l.drop k) = true := by
  unfold halvesB at *
  rw [List.all_eq_true] at *
  exact fun x hx => h x (List.mem_of_mem_drop hx)
theorem or16 (x : Int) (h0 : 0 ≤ x) (h1 : x ≤ 15) : bits .or .u8 16 x = 16 + x := by
  have h : ∀ y : Fin 16, bits .or .u8 16 (y.val : Int) = 16 + (y.val : Int) := by decide +kernel
  have := h ⟨x.toNat, by omega⟩
  simp only [Int.toNat_of_nonneg h0] at this
  exact this
theorem or32 (x : Int) (h0 : 0 ≤ x) (h1 : x ≤ 15) : bits .or .u8 32 (16 + x) = 48 + x := by
  have h : ∀ y : Fin 16, bits .or .u8 32 (16 + (y.val : Int)) = 48 + (y.val : Int) := by decide +kernel
  have := h ⟨x.toNat, by omega⟩
  simp only [Int.toNat_of_nonneg h0] at this
  exact this
theorem or0 (x : Int) (h0 : 0 ≤ x) (h1 : x ≤ 15) : bits .or .u8 0 (16 + x) = 16 + x := by
  have h : ∀ y : Fin 16, bits .or .u8 0 (16 + (y.val : Int)) = 16 + (y.val : Int) := by decide +kernel
  have := h ⟨x.toNat, by omega⟩
  simp only [Int.toNat_of_nonneg h0] at this
  exact this

set_option maxHeartbeats 800000 in
theorem pack_any (A : Option Addr) (n c : Nat) (leaf : Bool) (l : List UInt8) (w : World) (hr : Rd w w.heap.size A n l) (hn : n ≤ 100000000000) (hnc : n ≤ c) :
    Calls Tryd.prog 96 #[.slice A n c, .bool leaf] w fun e w' => ∃ A' n' c', e = .returned (.tuple #[.slice A' n' c', .int .i64 (packE l)]) ∧ Own w' w.heap.size A' n' c' (packL l leaf) ∧ Below w.heap.size w w' := by
  have hln := Lib.hid hr.len
  by_cases hh : halvesB l = true
  · have he := Lib.hid (packE_ok hh)
    by_cases hodd : n % 2 = 1
    · have hl := Lib.hid (packL_odd hh (by rw [hln.out]; omega) leaf _ rfl)
      obtain ⟨b, off, rfl, hc0⟩ := hr.at0 (by omega)
      have h0 := at8_lo l 0
      have h1 := halvesB_at l hh 0
      have ho := or16 _ h0 h1
      have ho2 := or32 _ h0 h1
      have ho3 := or0 _ h0 h1
      have hcA := hr.shift (k := 1) (by omega)
      have hcB : c = 1 → Rd w w.heap.size (some ⟨b, off, none⟩) (n - 1) (l.drop 1) := fun e => hr.gone (by omega)
      have hj := halvesB_dropP hh 1
      cases leaf
      all_goals
        go_enter Tryd.func96, Tryd.ntmps96
        go_wp2_with (first
          | (at_builtin; refine wpList_app rfl _ _ rfl rfl ((Own.lit1 w w.heap.size (Nat.le_refl _) _ (by omega)).below hb2) rfl hown2.rd (by omega) (by have := hb2.size; simp at this; omega) ?_; intro A3 c3 w3 hown3 hg3)
          | (go_at_call 113; refine (halves_any _ _ _ _ _ _ hr hn).mono ?_; rintro e w' ⟨rfl, rfl⟩)
          | (go_at_call 114; ((with_reducible refine (joined_any _ _ _ _ _ (hcA.alloc (Nat.le_refl _) _ |>.more (by simp)) (by omega) hj).mono ?_); rintro e w2 ⟨A2, c2, rfl, hown2, hb2⟩))
          | (go_at_call 114; ((with_reducible refine (joined_any _ _ _ _ _ ((hcB (by assumption)).alloc (Nat.le_refl _) _ |>.more (by simp)) (by omega) hj).mono ?_); rintro e w2 ⟨A2, c2, rfl, hown2, hb2⟩)))
        all_goals go_ret2
        all_goals refine ⟨A3, _, c3, ret_se rfl he.out.symm, by rw [hl.out]; exact hown3, ?_⟩
        all_goals exact (((Below.refl _ _).alloc (Nat.le_refl _) _).trans (hb2.mono (by simp))).grown hg3 (by have := hb2.size; simp at this; omega) (by simp [Value.ownBlock])
    · have hl := Lib.hid (packL_even hh (by rw [hln.out]; omega) leaf _ rfl)
      cases leaf
      all_goals
        go_enter Tryd.func96, Tryd.ntmps96
        go_wp2_with (first
          | (at_builtin; refine wpList_app rfl _ _ rfl rfl ((Own.lit1 w w.heap.size (Nat.le_refl _) _ (by omega)).below hb2) rfl hown2.rd (by omega) (by have := hb2.size; simp at this; omega) ?_; intro A3 c3 w3 hown3 hg3)
          | (go_at_call 113; refine (halves_any _ _ _ _ _ _ hr hn).mono ?_; rintro e w' ⟨rfl, rfl⟩)
          | (go_at_call 114; refine (joined_any _ _ _ _ _ (hr.alloc (Nat.le_refl _) _ |>.more (by simp)) hn hh).mono ?_; rintro e w2 ⟨A2, c2, rfl, hown2, hb2⟩))
        go_ret2
        refine ⟨A3, _, c3, ret_se rfl he.out.symm, by rw [hl.out]; exact hown3, ?_⟩
        exact (((Below.refl _ _).alloc (Nat.le_refl _) _).trans (hb2.mono (by simp))).grown hg3 (by have := hb2.size; simp at this; omega) (by simp [Value.ownBlock])
  · have hh' : halvesB l = false := by simpa using hh
    obtain ⟨he, hl⟩ := packE_no hh' leaf
    have He := Lib.hid he
    have Hl := Lib.hid hl
    clear he hl hh
    go_enter Tryd.func96, Tryd.ntmps96
    go_wp2_with (go_at_call 113; refine (halves_any _ _ _ _ _ _ hr hn).mono ?_; rintro e w' ⟨rfl, rfl⟩)
    go_ret2
    exact ⟨none, 0, 0, ret_se rfl He.out.symm, by rw [Hl.out]; exact Own.nil_ _ _, Below.refl _ _⟩
end Go.Proofs.YtojjfkbffjkojaaDoor
namespace Go.Proofs.YtojjfkbffjkojaaDoor
open Go.RowKit

theorem and16_1 (x : Int) (h0 : 0 ≤ x) (h1 : x ≤ 255) (h : x / 16 % 2 = 1) : bits .and .u8 x 16 = 16 := by
  have key : ∀ y : Fin 256, (y.val : Int) / 16 % 2 = 1 → bits .and .u8 (y.val : Int) 16 = 16 := by decide +kernel
  have := key ⟨x.toNat, by omega⟩
  simp only [Int.toNat_of_nonneg h0] at this
  exact this h
theorem and16_0 (x : Int) (h0 : 0 ≤ x) (h1 : x ≤ 255) (h : ¬ x / 16 % 2 = 1) : bits .and .u8 x 16 = 0 := by
  have key : ∀ y : Fin 256, ¬ (y.val : Int) / 16 % 2 = 1 → bits .and .u8 (y.val : Int) 16 = 0 := by decide +kernel
  have := key ⟨x.toNat, by omega⟩
  simp only [Int.toNat_of_nonneg h0] at this
  exact this h
theorem and32_1 (x : Int) (h0 : 0 ≤ x) (h1 : x ≤ 255) (h : x / 32 % 2 = 1) : bits .and .u8 x 32 = 32 := by
  have key : ∀ y : Fin 256, (y.val : Int) / 32 % 2 = 1 → bits .and .u8 (y.val : Int) 32 = 32 := by decide +kernel
  have := key ⟨x.toNat, by omega⟩
  simp only [Int.toNat_of_nonneg h0] at this
  exact this h
theorem and32_0 (x : Int) (h0 : 0 ≤ x) (h1 : x ≤ 255) (h : ¬ x / 32 % 2 = 1) : bits .and .u8 x 32 = 0 := by
  have key : ∀ y : Fin 256, ¬ (y.val : Int) / 32 % 2 = 1 → bits .and .u8 (y.val : Int) 32 = 0 := by decide +kernel
  have := key ⟨x.toNat, by omega⟩
  simp only [Int.toNat_of_nonneg h0] at this
  exact this h
theorem unpack_nil {b : List UInt8} (h : b.length = 0) : unpackE b = 10 ∧ unpackB b = false ∧ unpackL b = [] := by simp [unpackE, unpackB, unpackL, h]
theorem unpack_no {b : List UInt8} (h : b.length ≠ 0) (k : unpackOk b = false) : unpackE b = 11 ∧ unpackB b = false ∧ unpackL b = [] := by simp [unpackE, unpackB, unpackL, h, k]
theorem unpack_ok {b : List UInt8} (h : b.length ≠ 0) (k : unpackOk b = true) : unpackE b = 0 ∧ unpackB b = decide (at8 b 0 / 32 % 2 = 1) ∧ unpackL b = (if at8 b 0 / 16 % 2 = 1 then [b8 (at8 b 0 % 16)] else []) ++ ofB (b.drop 1) := by simp [unpackE, unpackB, unpackL, h, k]
theorem ret_sbe {A A' : Option Addr} {n n' c c' : Nat} {p q : Bool} {x y : Int} (h : Value.slice A n c = Value.slice A' n' c') (hp : p = q) (k : x = y) :
    Ending.returned (.tuple #[.slice A n c, .bool p, .int .i64 x]) = Ending.returned (.tuple #[.slice A' n' c', .bool q, .int .i64 y]) := by rw [h, hp, k]

set_option maxHeartbeats 1600000 in
theorem unpack_any (A : Option Addr) (n c : Nat) (l : List UInt8) (w : World) (hr : Rd w w.heap.size A n l) (hn : n ≤ 100000000000) (hnc : n ≤ c) :
    Calls Tryd.prog 87 #[.slice A n c] w fun e w' => ∃ A' n' c', e = .returned (.tuple #[.slice A' n' c', .bool (unpackB l), .int .i64 (unpackE l)]) ∧ Own w' w.heap.size A' n' c' (unpackL l) ∧ Below w.heap.size w w' := by
  have hln := Lib.hid hr.len
  rcases Nat.eq_zero_or_pos n with h0 | h0
  · subst h0
    have hd := Lib.hid (unpack_nil hln.out)
    go_enter Tryd.func87, Tryd.ntmps87
    go_wp2
    go_ret3
    exact ⟨none, 0, 0, ret_sbe rfl hd.out.2.1.symm hd.out.1.symm, by rw [hd.out.2.2]; exact Own.nil_ _ _, Below.refl _ _⟩
  · obtain ⟨b, off, rfl, hc0⟩ := hr.at0 h0
    have x0 := at8_lo l 0
    have x1 := at8_hi l 0
    have hne : l.length ≠ 0 := by rw [hln.out]; omega
    by_cases hx : at8 l 0 < 64
    · by_cases hodd : at8 l 0 / 16 % 2 = 1
      · have hok : unpackOk l = true := by simp [unpackOk, hx, hodd]
        have hd := Lib.hid (unpack_ok hne hok)
        have hm := and16_1 _ x0 x1 hodd
        have hq := Lib.hid hodd
        have hcA := hr.shift (k := 1) (by omega)
        have hcB : c = 1 → Rd w w.heap.size (some ⟨b, off, none⟩) (n - 1) (l.drop 1) := fun e => hr.gone (by omega)
        clear hne hodd hok
        by_cases hlf : at8 l 0 / 32 % 2 = 1
        all_goals
          first
          | have hb32 := and32_1 _ x0 x1 hlf
          | have hb32 := and32_0 _ x0 x1 hlf
          have hlf' := Lib.hid hlf
          clear hlf
          go_enter Tryd.func87, Tryd.ntmps87
          go_wp2_with (at_builtin; refine wpList_app rfl _ _ rfl rfl ((Own.nil_ w w.heap.size).alloc _) rfl (Rd.lit1 _ _ (by omega)) (by omega) (by simp) ?_; intro A1 c1 w1 hown1 hg1)
          all_goals
            have hb1 := below_new _ (below_nil rfl hg1)
            (first
              | ((with_reducible refine (of_any _ _ _ _ _ (hcA.up hb1) (by omega)).mono ?_); rintro e w2 ⟨A2, c2, rfl, hown2, hb2⟩)
              | ((with_reducible refine (of_any _ _ _ _ _ ((hcB (by assumption)).up hb1) (by omega)).mono ?_); rintro e w2 ⟨A2, c2, rfl, hown2, hb2⟩))
            go_wp2_with (at_builtin; refine wpList_app rfl _ _ rfl rfl (hown1.below hb2) rfl hown2.rd (by omega) (by have := hb2.size; have := hb1.size; omega) ?_; intro A3 c3 w3 hown3 hg3)
            go_ret3
            refine ⟨A3, _, c3, ret_sbe rfl (by rw [hd.out.2.1]; simp [hlf'.out]) hd.out.1.symm, ?_, below_own (hb1.trans (hb2.mono hb1.size)) (hown1.below hb2) hg3⟩
            rw [hd.out.2.2, if_pos hq.out]
            exact hown3
      · have hm := and16_0 _ x0 x1 hodd
        by_cases hz : at8 l 0 % 16 = 0
        · have hok : unpackOk l = true := by simp [unpackOk, hx, hz]
          have hd := Lib.hid (unpack_ok hne hok)
          have hq := Lib.hid hodd
          have hz' : (at8 l 0 % 16 != 0) = false := by simp [hz]
          have hcA := hr.shift (k := 1) (by omega)
          have hcB : c = 1 → Rd w w.heap.size (some ⟨b, off, none⟩) (n - 1) (l.drop 1) := fun e => hr.gone (by omega)
          clear hne hodd hok hz
          by_cases hlf : at8 l 0 / 32 % 2 = 1
          all_goals
            first
            | have hb32 := and32_1 _ x0 x1 hlf
            | have hb32 := and32_0 _ x0 x1 hlf
            have hlf' := Lib.hid hlf
            clear hlf
            go_enter Tryd.func87, Tryd.ntmps87
            go_wp2_with fail
            all_goals
              (first
                | ((with_reducible refine (of_any _ _ _ _ _ hcA (by omega)).mono ?_); rintro e w2 ⟨A2, c2, rfl, hown2, hb2⟩)
                | ((with_reducible refine (of_any _ _ _ _ _ (hcB (by assumption)) (by omega)).mono ?_); rintro e w2 ⟨A2, c2, rfl, hown2, hb2⟩))
              go_wp2_with (at_builtin; refine wpList_app rfl _ _ rfl rfl (Own.nil_ w2 w.heap.size) rfl hown2.rd (by omega) (by have := hb2.size; omega) ?_; intro A3 c3 w3 hown3 hg3)
              go_ret3
              refine ⟨A3, _, c3, ret_sbe rfl (by rw [hd.out.2.1]; simp [hlf'.out]) hd.out.1.symm, ?_, below_own hb2 (Own.nil_ w2 w.heap.size) hg3⟩
              rw [hd.out.2.2, if_neg hq.out]
              rw [Nat.zero_add] at hown3
              exact hown3
        · have hok : unpackOk l = false := by simp [unpackOk, hodd, hz]
          have hd := Lib.hid (unpack_no hne hok)
          have hz' : (at8 l 0 % 16 != 0) = true := by simp [hz]
          clear hne hok hodd hz
          go_enter Tryd.func87, Tryd.ntmps87
          go_wp2
          go_ret3
          exact ⟨none, 0, 0, ret_sbe rfl hd.out.2.1.symm hd.out.1.symm, by rw [hd.out.2.2]; exact Own.nil_ _ _, Below.refl _ _⟩
    · have hok : unpackOk l = false := by simp [unpackOk, hx]
      have hd := Lib.hid (unpack_no hne hok)
      clear hne hok
      go_enter Tryd.func87, Tryd.ntmps87
      go_wp2
      go_ret3
      exact ⟨none, 0, 0, ret_sbe rfl hd.out.2.1.symm hd.out.1.symm, by rw [hd.out.2.2]; exact Own.nil_ _ _, Below.refl _ _⟩

end Go.Proofs.YtojjfkbffjkojaaDoor
namespace Go.Proofs.YtojjfkbffjkojaaDoor
open Go.RowKit

theorem take_set1 (L P : List UInt8) (k : Nat) (x : UInt8) (h : k < L.length) (hp : L.take k = P) : (L.set k x).take (k + 1) = P ++ [x] := by
  subst hp
  rw [take_snoc _ _ (by simpa using h), List.take_set, List.set_eq_of_length_le (by simp; omega)]
  simp [h]
theorem take_set2 (L P : List UInt8) (k : Nat) (x y : UInt8) (h : 2 * k + 1 < L.length) (hp : L.take (2 * k) = P) : ((L.set (2 * k) x).set (2 * k + 1) y).take (2 * (k + 1)) = P ++ [x, y] := by
  have e1 := take_set1 L P (2 * k) x (by omega) hp
  have e2 := take_set1 (L.set (2 * k) x) (P ++ [x]) (2 * k + 1) y (by simpa using h) e1
  rw [show 2 * (k + 1) = 2 * k + 1 + 1 by omega, e2]
  simp
theorem other_cell {wr : World} {H bb o o' : Nat} {v : Value} (hne : bb < H) (h : wr.cell? ⟨bb, o, none⟩ = some v) : ∀ u, (wr.setCell ⟨H, o', none⟩ u).cell? ⟨bb, o, none⟩ = some v := fun u => by
  rw [World.cell?_setCell_other _ _ _ _ (by intro e; injection e with e; omega)]; exact h

set_option maxHeartbeats 800000 in
theorem refOf_any (A : Option Addr) (n c : Nat) (l : List UInt8) (w : World) (hr : Rd w w.heap.size A n l) (hn : n ≤ 100000000000) :
    Calls Tryd.prog 17 #[.slice A n c] w fun e w' => e = .returned (.slice (some ⟨w.heap.size, 0, none⟩) (2 * n) (2 * n)) ∧ Own w' w.heap.size (some ⟨w.heap.size, 0, none⟩) (2 * n) (2 * n) (ofB l) ∧ Below w.heap.size w w' := by
  go_enter Tryd.func17, Tryd.ntmps17
  go_wp2_with (at_make; refine wpList_mk rfl _ _ rfl (n := 2 * n) rfl rfl (by omega) (by omega) (by omega) (Nat.le_refl _) ?_; intro w1 hown1 hg1)
  have hb1 : Below w.heap.size w w1 := (Below.refl _ _).grown hg1 (Nat.le_refl _) (by intro k h; cases h)
  go_loopw [4] (fun i wr => ∃ (k : Nat) (L : List UInt8), k ≤ n ∧ i = .int .i64 k ∧ Own wr w.heap.size (some ⟨w.heap.size, 0, none⟩) (2 * n) (2 * n) L ∧ L.take (2 * k) = ofB (l.take k) ∧ Below w.heap.size w wr) (fun i _ => n - (intOf i).toNat)
  case atStart => exact ⟨0, _, Nat.zero_le _, rfl, hown1, rfl, hb1⟩
  case round =>
    obtain ⟨k, L, hk, rfl, hown, ht, hb⟩ := hrel
    have Ht := Lib.hid ht
    clear ht
    have hln := Lib.hid hr.len
    have hLn := Lib.hid hown.len
    by_cases hlt : k < n
    · obtain ⟨bb, off, rfl, hbl, hc⟩ := (hr.below hb).atB hlt
      have h0 := at8_lo l k
      have h1 := at8_hi l k
      have hs1 := hown.cell (j := 2 * k) (by omega)
      have hf1 := hown.free (2 * k)
      have hown1 := hown.set (j := 2 * k) (x := at8 l k / 16) (by omega) (by omega)
      have hs2 := hown1.cell (j := 2 * k + 1) (by omega)
      have hf2 := hown1.free (2 * k + 1)
      have hown2 := hown1.set (j := 2 * k + 1) (x := at8 l k % 16) (by omega) (by omega)
      have hco := other_cell (o' := 2 * k) hbl hc
      have hb2 := (hb.setCell (p := ⟨w.heap.size, 2 * k, none⟩) (Nat.le_refl _) (.int .u8 (at8 l k / 16))).setCell (p := ⟨w.heap.size, 2 * k + 1, none⟩) (Nat.le_refl _) (.int .u8 (at8 l k % 16))
      have Hown2 := Lib.hid hown2
      have Hb2 := Lib.hid hb2
      clear hown2 hb2 hown1 hbl
      go_wp2
      go_roundw
      case rel => exact ⟨k + 1, _, by omega, by go_num, Hown2.out, by rw [ofB_take l k (by rw [hln.out]; exact hlt)]; exact take_set2 L _ k _ _ (by rw [hLn.out]; omega) Ht.out, Hb2.out⟩
      case measure => simp [intOf]; omega
    · have hkn : k = n := by omega
      subst hkn
      go_wp2
      go_ret
      refine ⟨rfl, ?_, hb⟩
      have e := Ht.out
      rw [List.take_of_length_le (by rw [hLn.out]; omega), List.take_of_length_le (by rw [hln.out]; omega)] at e
      rw [← e]; exact hown

end Go.Proofs.YtojjfkbffjkojaaDoor
namespace Go.Proofs.YtojjfkbffjkojaaDoor
open Go.RowKit

theorem halvesB_cons (x : UInt8) (l : List UInt8) (hx : x ≤ 15) (h : halvesB l = true) : halvesB (x :: l) = true := by
  unfold halvesB at *; rw [List.all_cons, h]; simp [hx]
theorem b8_le (x : Int) (h0 : 0 ≤ x) (h1 : x ≤ 15) : b8 x ≤ 15 := by
  unfold b8; rw [UInt8.le_iff_toNat_le, UInt8.toNat_ofNat']; simp; omega
theorem b8_mod (c : UInt8) : b8 ((c.toNat : Int) % 16) = c % 16 := by unfold b8; apply UInt8.toNat_inj.1; rw [UInt8.toNat_ofNat', UInt8.toNat_mod]; simp; have := c.toNat_lt; omega
theorem ofB_head (l : List UInt8) (h : 0 < l.length) : at8 (ofB l) 0 = at8 l 0 / 16 ∧ at8 (ofB l) 1 = at8 l 0 % 16 ∧ (ofB l).drop 1 = [b8 (at8 l 0 % 16)] ++ ofB (l.drop 1) ∧ (ofB l).drop 2 = ofB (l.drop 1) := by
  rcases l with _ | ⟨c, l⟩
  · simp at h
  · have e : at8 (c :: l) 0 = (c.toNat : Int) := rfl
    rw [e, b8_mod]
    refine ⟨?_, ?_, rfl, rfl⟩
    · show (((c / 16 : UInt8).toNat : Nat) : Int) = _
      rw [UInt8.toNat_div]; simp
    · show (((c % 16 : UInt8).toNat : Nat) : Int) = _
      rw [UInt8.toNat_mod]; simp

end Go.Proofs.YtojjfkbffjkojaaDoor
namespace Go.Proofs.YtojjfkbffjkojaaDoor
open Go.RowKit
theorem sha_len (b : List UInt8) : (sha b).length = 32 := by rw [sha_def]; unfold out8 put4; rfl
/-- Two bytes that tell which kids there are. -/
def kbit (ks : List Nd) (i : Nat) : Nat := if (ks.getD i noneN).kind ≠ 0 then 128 / 2 ^ (i % 8) else 0
def kbits (ks : List Nd) : Nat → Nat × Nat
  | 0 => (0, 0)
  | i + 1 => if i < 8 then ((kbits ks i).1 + kbit ks i, (kbits ks i).2) else ((kbits ks i).1, (kbits ks i).2 + kbit ks i)
def encF (k : Int) (p : List UInt8) (has : Bool) (v : List UInt8) (ks : List Nd) (hs : List UInt8) : List UInt8 :=
  b8 (k % 256) :: (if k = 1 then putB (packL p true) ++ putB v
    else if k = 2 then putB (packL p false) ++ hs
    else if k = 3 then (if has then (1 : UInt8) :: putB v else [0]) ++ (UInt8.ofNat (kbits ks 16).1 :: UInt8.ofNat (kbits ks 16).2 :: hs)
    else [])
mutual
def hashP : Nd → List UInt8
  | .mk k p has v ks h => if k = 4 then h else sha (encF k p has v ks (hashesP ks))
def hashesP : List Nd → List UInt8
  | [] => []
  | t :: ts => (if t.kind ≠ 0 then hashP t else []) ++ hashesP ts
end
def encP (t : Nd) : List UInt8 := encF t.kind t.path t.has t.val t.kids (hashesP t.kids)
theorem hashP_eq (t : Nd) : hashP t = if t.kind = 4 then t.hash else sha (encP t) := by cases t; rw [hashP]; rfl
theorem hashP_len {even : Bool} {t : Nd} {d : Nat} (h : Val even t d) : (hashP t).length = 32 := by
  rw [hashP_eq]
  by_cases h4 : t.kind = 4
  · rw [if_pos h4]
    cases h with
    | stub d h hd hh => exact hh
    | none => exact absurd (show (0 : Int) = 4 from h4) (by decide)
    | leaf => exact absurd (show (1 : Int) = 4 from h4) (by decide)
    | way => exact absurd (show (2 : Int) = 4 from h4) (by decide)
    | branch => exact absurd (show (3 : Int) = 4 from h4) (by decide)
  · rw [if_neg h4]; exact sha_len _
theorem Val.way_kid {even : Bool} {t : Nd} {d : Nat} (h : Val even t d) (h2 : t.kind = 2) : ∃ k, t.kids = [k] ∧ Val even k (d + t.path.length) ∧ k.kind ≠ 0 := by
  cases h with
  | way _ p k hd hp h0 hk hr => exact ⟨k, rfl, hr, fun e => by rcases hk with h | h <;> exact absurd (h.symm.trans e) (by decide)⟩
  | none => exact absurd (show (0 : Int) = 2 from h2) (by decide)
  | leaf => exact absurd (show (1 : Int) = 2 from h2) (by decide)
  | stub => exact absurd (show (4 : Int) = 2 from h2) (by decide)
  | branch => exact absurd (show (3 : Int) = 2 from h2) (by decide)
theorem Val.br_kids {even : Bool} {t : Nd} {d : Nat} (h : Val even t d) (h3 : t.kind = 3) : t.kids.length = 16 ∧ ∀ k ∈ t.kids, Val even k (d + 1) := by
  cases h with
  | branch d has v ks hd hv hv0 he h16 hr hm => exact ⟨h16, hr⟩
  | none => exact absurd (show (0 : Int) = 3 from h3) (by decide)
  | leaf => exact absurd (show (1 : Int) = 3 from h3) (by decide)
  | stub => exact absurd (show (4 : Int) = 3 from h3) (by decide)
  | way => exact absurd (show (2 : Int) = 3 from h3) (by decide)
theorem kbits_succ (ks : List Nd) (i : Nat) : kbits ks (i + 1) = if i < 8 then ((kbits ks i).1 + kbit ks i, (kbits ks i).2) else ((kbits ks i).1, (kbits ks i).2 + kbit ks i) := by rw [kbits]
theorem kb_pow : ∀ i, i < 8 → 128 / 2 ^ (i % 8) + 2 ^ (8 - (i + 1)) = 2 ^ (8 - i) := by decide
theorem kb_pow2 : ∀ i, i < 8 → 128 / 2 ^ ((i + 8) % 8) + 2 ^ (16 - (i + 8 + 1)) = 2 ^ (16 - (i + 8)) := by decide
theorem kbits_lo (ks : List Nd) : ∀ i, i ≤ 8 → (kbits ks i).1 + 2 ^ (8 - i) ≤ 256 ∧ (kbits ks i).2 = 0
  | 0, _ => ⟨Nat.le_refl 256, rfl⟩
  | i + 1, h => by
    obtain ⟨h1, h2⟩ := kbits_lo ks i (by omega)
    have h3 := kb_pow i (by omega)
    have h4 : kbit ks i ≤ 128 / 2 ^ (i % 8) := by unfold kbit; split; exact Nat.le_refl _; exact Nat.zero_le _
    unfold kbits
    rw [if_pos (by omega)]
    exact ⟨by dsimp only; omega, h2⟩
theorem kbits_hi (ks : List Nd) : ∀ i, i ≤ 8 → (kbits ks (i + 8)).1 ≤ 255 ∧ (kbits ks (i + 8)).2 + 2 ^ (16 - (i + 8)) ≤ 256
  | 0, _ => by
    obtain ⟨h1, h2⟩ := kbits_lo ks 8 (by omega)
    refine ⟨by simp at h1 ⊢; omega, ?_⟩
    rw [show (0 + 8 : Nat) = 8 from rfl, h2]; decide
  | i + 1, h => by
    obtain ⟨h1, h2⟩ := kbits_hi ks i (by omega)
    have h3 := kb_pow2 i (by omega)
    have h4 : kbit ks (i + 8) ≤ 128 / 2 ^ ((i + 8) % 8) := by unfold kbit; split; exact Nat.le_refl _; exact Nat.zero_le _
    rw [show i + 1 + 8 = (i + 8) + 1 by omega]
    unfold kbits
    rw [if_neg (by omega)]
    refine ⟨h1, ?_⟩
    dsimp only; omega
theorem kbits_le (ks : List Nd) (i : Nat) (h : i ≤ 16) : (kbits ks i).1 ≤ 255 ∧ (kbits ks i).2 ≤ 255 := by
  rcases Nat.lt_or_ge i 9 with h8 | h8
  · obtain ⟨h1, h2⟩ := kbits_lo ks i (by omega)
    have : 1 ≤ 2 ^ (8 - i) := Nat.one_le_two_pow
    omega
  · obtain ⟨h1, h2⟩ := kbits_hi ks (i - 8) (by omega)
    rw [show i - 8 + 8 = i by omega] at h1 h2
    have : 1 ≤ 2 ^ (16 - i) := Nat.one_le_two_pow
    omega
theorem hashesP_snoc (a : List Nd) (k : Nd) : hashesP (a ++ [k]) = hashesP a ++ (if k.kind ≠ 0 then hashP k else []) := by
  induction a with
  | nil => rw [List.nil_append, hashesP, hashesP, hashesP, List.append_nil]; rfl
  | cons x a ih => rw [List.cons_append, hashesP, hashesP, ih, List.append_assoc]
theorem hashesP_len {d : Nat} : ∀ {ks : List Nd}, (∀ k ∈ ks, Val false k d) → (hashesP ks).length ≤ 32 * ks.length
  | [], _ => by rw [hashesP]; simp
  | k :: ks, h => by
    have h1 := hashesP_len (fun k hk => h k (List.mem_cons_of_mem _ hk))
    have h2 := hashP_len (h k (by simp))
    rw [hashesP, List.length_append, List.length_cons]
    split
    · omega
    · simp; omega
theorem Val.mono {even : Bool} {t : Nd} {d : Nat} (h : Val even t d) : ∀ d', d' ≤ d → Val false t d' := by
  have he : ∀ {e d d' : Nat} {even : Bool}, endsP e even = true → d' + (e - d) ≤ 400 → endsP (d' + (e - d)) false = true := fun _ h => ends_yes h (.inl rfl)
  induction h with
  | none d hd => intro d' hd'; exact .none d' (by omega)
  | leaf d p v hd hp hv he' => intro d' hd'; have := endsP_le he'; exact .leaf d' p v (by omega) hp hv (ends_yes (by omega) (.inl rfl))
  | stub d h hd hh => intro d' hd'; exact .stub d' h (by omega) hh
  | way d p k hd hp h0 hk hr ih => intro d' hd'; exact .way d' p k (by omega) hp h0 hk (ih _ (by omega))
  | branch d has v ks hd hv hv0 he' h16 hr hm ih => intro d' hd'; exact .branch d' has v ks (by omega) hv hv0 (fun e => ends_yes (by omega) (.inl rfl)) h16 (fun k hk => ih k hk _ (by omega)) hm
def hashR (t : Nd) : List UInt8 := if rightP false t 0 then hashP t else []
def encR (t : Nd) : List UInt8 × Int := if t.kind ≠ 4 ∧ rightP false t 0 = true then (encP t, 0) else ([], 2)
theorem putB_lenE (s : List UInt8) : (putB s).length = (putN s.length).length + s.length := by unfold putB; rw [List.length_append]
theorem packL_len (p : List UInt8) (leaf : Bool) : (packL p leaf).length ≤ p.length + 1 := by
  unfold packL
  split
  · split
    · rw [List.length_cons, joinB_length, List.length_drop]; omega
    · rw [List.length_cons, joinB_length]; omega
  · simp
theorem encP_len {t : Nd} (hv : Val false t 0) (hz : sz t ≤ 100000000) : (encP t).length ≤ 600 + sz t := by
  have hsz := sz_eq t
  have hp1 := packL_len t.path true
  have hp2 := packL_len t.path false
  have q1 := putN_len10 (n := (packL t.path true).length) (by omega)
  have q2 := putN_len10 (n := (packL t.path false).length) (by omega)
  have q3 := putN_len10 (n := t.val.length) (by omega)
  unfold encP encF
  rw [List.length_cons]
  split
  · rw [List.length_append, putB_lenE, putB_lenE]; omega
  · split
    · rename_i h1 h2
      obtain ⟨k, hk, hvk, -⟩ := hv.way_kid h2
      have hh : (hashesP t.kids).length ≤ 32 * t.kids.length := hashesP_len (d := 0 + t.path.length) (by rw [hk]; intro x hx; rw [List.mem_singleton.1 hx]; exact hvk)
      rw [hk] at hh
      rw [List.length_append, putB_lenE, hk]
      simp only [List.length_singleton] at hh
      omega
    · split
      · rename_i h1 h2 h3
        obtain ⟨h16, hvk⟩ := hv.br_kids h3
        have hh : (hashesP t.kids).length ≤ 32 * t.kids.length := hashesP_len (d := 0 + 1) hvk
        rw [List.length_append, List.length_cons, List.length_cons]
        split
        · rw [List.length_cons, putB_lenE]; omega
        · simp only [List.length_singleton]; omega
      · simp only [List.length_nil]; omega
end Go.Proofs.YtojjfkbffjkojaaDoor
namespace Go.Proofs.YtojjfkbffjkojaaDoor
open Go.RowKit
theorem ar64 : arrOf Tryd.prog 133 = some (64, 94, 1) := by kernel_rfl
theorem agg_a64 : aggOf Tryd.prog 133 = some (true, 64) := by kernel_rfl
theorem sz_a64 : (Tryd.prog.info? 133).map (·.size) = some 64 := by kernel_rfl
theorem al_a64 : (Tryd.prog.info? 133).map (fun i => i.zero.map fun z => z.cells.toList) = some (some (List.replicate 64 (cu 0))) := by kernel_rfl
set_option maxRecDepth 100000 in
theorem words_any (A : Option Addr) (c B : Nat) (b : List UInt8) (w : World) (hr : Rd w B A 64 b) (hB : B ≤ w.heap.size) :
    Calls Tryd.prog 119 #[.slice A 64 c] w fun e w' => e = .returned (.agg ((words b).map cu).toArray) ∧ Below w.heap.size w w' := by
  refine calls_ev (args := [.slice A 64 c]) mixed Tryd.func119 rfl (by kernel_rfl) ?_
  refine v_allocB _ al_a64 ?_
  rintro g W hg hB0 hb0 hsz
  have hr0 : Rd W B A 64 b := hr.below (hb0.mono (by omega))
  have hBel : Below w.heap.size w W := by rw [← hg]; exact hb0
  refine lp Nat (fun i W => i ≤ 64 ∧ Below w.heap.size w W ∧ Blk W g 133 ((wsF b i).map cu ++ List.replicate (64 - i) (cu 0))) (fun i => [(0, .slice A 64 c), (2, .pointer (some ⟨g, 0, none⟩)), (8, .int .i64 i)]) (fun i => 64 - i) 0 ⟨by decide, hBel, hB0⟩ ⟨rfl, rfl, rfl, trivial⟩ ?_
  rintro i E0 W1 ⟨hi, hb1, hB1⟩
  have hs1 := hb1.size
  refine p_lt rfl rfl (fun h => ?_) (fun h => ?_)
  · have hi64 : i < 64 := by omega
    have hr1 : Rd W1 B A 64 b := hr.below (hb1.mono hB)
    refine p_lt rfl rfl (fun h16 => ?_) (fun h16 => ?_)
    · obtain ⟨bb, off, rfl, hbB, _⟩ := hr1.cells (by decide)
      refine dr (fun W => Rd W B (some ⟨bb, off, none⟩) 64 b) [(0, true), (1, true), (2, true), (3, true), (4, true), (5, true), (6, true), (7, true), (8, true), (9, true), (10, true), (11, true), (12, true), (13, true), (14, true), (15, true), (16, true), (17, true), (18, true), (19, true), (20, true), (21, true), (22, true), (23, true), (24, true), (25, true), (26, true), (27, true), (28, true), (29, true), (30, true), (31, true), (32, true), (33, true), (34, true), (35, false)] (by kernel_rfl) hr1.drew ?_
      refine p_mul rfl rfl (r := ((4 * i : Nat) : Int)) (w64 (by omega) |>.trans (by omega)) ?_
      refine p_at (i := 4 * i) sl_by rfl rfl rfl (by omega) ?_
      refine t_load agg_by rfl (fun W h => Rd.get h (by omega)) ?_
      refine t_cvt u_byt u_u32 rfl (wu32 (by have := byt_lt b (4 * i); omega)) ?_
      refine p_shl rfl rfl (by decide) (shl32 (n := 24) (byt_lt b (4 * i)) (by decide)) ?_
      refine p_mul rfl rfl (r := ((4 * i : Nat) : Int)) (w64 (by omega) |>.trans (by omega)) ?_
      refine p_add rfl rfl (r := ((4 * i + 1 : Nat) : Int)) (w64 (by omega) |>.trans (by omega)) ?_
      refine p_at (i := 4 * i + 1) sl_by rfl rfl rfl (by omega) ?_
      refine t_load agg_by rfl (fun W h => Rd.get h (by omega)) ?_
      refine t_cvt u_byt u_u32 rfl (wu32 (by have := byt_lt b (4 * i + 1); omega)) ?_
      refine p_shl rfl rfl (by decide) (shl32 (n := 16) (byt_lt b (4 * i + 1)) (by decide)) ?_
      refine p_or rfl rfl (u32_or_nat _ _ (shl_lt (byt_lt _ _) (by decide)) (shl_lt (byt_lt _ _) (by decide))) ?_
      refine p_mul rfl rfl (r := ((4 * i : Nat) : Int)) (w64 (by omega) |>.trans (by omega)) ?_
      refine p_add rfl rfl (r := ((4 * i + 2 : Nat) : Int)) (w64 (by omega) |>.trans (by omega)) ?_
      refine p_at (i := 4 * i + 2) sl_by rfl rfl rfl (by omega) ?_
      refine t_load agg_by rfl (fun W h => Rd.get h (by omega)) ?_
      refine t_cvt u_byt u_u32 rfl (wu32 (by have := byt_lt b (4 * i + 2); omega)) ?_
      refine p_shl rfl rfl (by decide) (shl32 (n := 8) (byt_lt b (4 * i + 2)) (by decide)) ?_
      refine p_or rfl rfl (u32_or_nat _ _ (or_lt (shl_lt (byt_lt _ _) (by decide)) (shl_lt (byt_lt _ _) (by decide))) (shl_lt (byt_lt _ _) (by decide))) ?_
      refine p_mul rfl rfl (r := ((4 * i : Nat) : Int)) (w64 (by omega) |>.trans (by omega)) ?_
      refine p_add rfl rfl (r := ((4 * i + 3 : Nat) : Int)) (w64 (by omega) |>.trans (by omega)) ?_
      refine p_at (i := 4 * i + 3) sl_by rfl rfl rfl (by omega) ?_
      refine t_load agg_by rfl (fun W h => Rd.get h (by omega)) ?_
      refine t_cvt u_byt u_u32 rfl (wu32 (by have := byt_lt b (4 * i + 3); omega)) ?_
      refine p_or rfl rfl (u32_or_nat _ _ (or_lt (or_lt (shl_lt (byt_lt _ _) (by decide)) (shl_lt (byt_lt _ _) (by decide))) (shl_lt (byt_lt _ _) (by decide))) (Nat.lt_trans (byt_lt _ _) (by decide))) ?_
      refine p_atB (i := i) (q := i) ar64 rfl rfl rfl hi64 (by omega) ?_
      refine v_set (cu (wordB b i)) sz_u32 hB1.drew rfl rfl rfl (by simp [wsF_len]; omega) ?_
      rintro W2 hB2 hg2 hs2
      rw [cu_set (wsF_len b i) hi64] at hB2
      have hr2 : Rd W2 B (some ⟨bb, off, none⟩) 64 b := hr1.drew.grown hg2 (by show B ≤ W1.heap.size; omega) (fun k hk => by injection hk with hk; omega)
      refine ⟨hr2, ?_⟩
      refine p_add rfl rfl (r := ((i + 1 : Nat) : Int)) (w64 (by omega) |>.trans (by omega)) ?_
      refine ⟨i + 1, ⟨by omega, hb1.drew.grown hg2 hs1 (fun k hk => by injection hk with hk; omega), ?_⟩, ⟨rfl, rfl, rfl, trivial⟩, by omega⟩
      have e : wsF b (i + 1) = wsF b i ++ [wordB b i] := by show wsF b i ++ [_] = _; rw [if_pos (by omega)]
      rw [e]; exact hB2
    · have hl := wsF_len b i
      have hlt := getD_lt (wsF_lt b i)
      have cell : ∀ {W : World}, Blk W g 133 ((wsF b i).map cu ++ List.replicate (64 - i) (cu 0)) → ∀ j, j < i → W.cell? ⟨g, j, none⟩ = some (cu ((wsF b i).getD j 0)) := fun h j hj => h.at_ (cu_get (by omega))
      refine dr (fun W => ∀ j, j < i → W.cell? ⟨g, j, none⟩ = some (cu ((wsF b i).getD j 0))) [(0, true), (1, true), (2, true), (3, true), (4, true), (5, true), (6, true), (7, true), (8, true), (9, true)] (by kernel_rfl) (cell hB1.drew) ?_
      refine p_sub rfl rfl (r := ((i - 15 : Nat) : Int)) (w64 (by omega) |>.trans (by omega)) ?_
      refine p_atB (i := i - 15) (q := i - 15) ar64 rfl rfl rfl (by omega) (by omega) ?_
      refine t_load agg_u32 rfl (fun W h => h (i - 15) (by omega)) ?_
      refine p_sub rfl rfl (r := ((i - 2 : Nat) : Int)) (w64 (by omega) |>.trans (by omega)) ?_
      refine p_atB (i := i - 2) (q := i - 2) ar64 rfl rfl rfl (by omega) (by omega) ?_
      refine t_load agg_u32 rfl (fun W h => h (i - 2) (by omega)) ?_
      obtain ⟨x, hx⟩ : ∃ x, x = (wsF b i).getD (i - 15) 0 := ⟨_, rfl⟩
      obtain ⟨y, hy⟩ : ∃ y, y = (wsF b i).getD (i - 2) 0 := ⟨_, rfl⟩
      have hxl := hlt (i - 15)
      have hyl := hlt (i - 2)
      refine cc is_turn (turn_any ((wsF b i).getD (i - 15) 0) 7 _ hxl (by decide) (by decide)) ?_
      rintro e w' ⟨rfl, rfl⟩
      refine ⟨_, rfl, ?_⟩
      refine cc is_turn (turn_any ((wsF b i).getD (i - 15) 0) 18 _ hxl (by decide) (by decide)) ?_
      rintro e w' ⟨rfl, rfl⟩
      refine ⟨_, rfl, ?_⟩
      refine p_xor rfl rfl (u32_xor_nat _ _ (rotr_lt _ hxl) (rotr_lt _ hxl)) ?_
      refine p_shr rfl rfl (by decide) (shr32 (n := 3) (x := (wsF b i).getD (i - 15) 0) (by decide)) ?_
      refine p_xor rfl rfl (u32_xor_nat _ _ (xor_lt (rotr_lt _ hxl) (rotr_lt _ hxl)) (shr_lt _ hxl)) ?_
      refine cc is_turn (turn_any ((wsF b i).getD (i - 2) 0) 17 _ hyl (by decide) (by decide)) ?_
      rintro e w' ⟨rfl, rfl⟩
      refine ⟨_, rfl, ?_⟩
      refine cc is_turn (turn_any ((wsF b i).getD (i - 2) 0) 19 _ hyl (by decide) (by decide)) ?_
      rintro e w' ⟨rfl, rfl⟩
      refine ⟨_, rfl, ?_⟩
      refine p_xor rfl rfl (u32_xor_nat _ _ (rotr_lt _ hyl) (rotr_lt _ hyl)) ?_
      refine p_shr rfl rfl (by decide) (shr32 (n := 10) (x := (wsF b i).getD (i - 2) 0) (by decide)) ?_
      refine p_xor rfl rfl (u32_xor_nat _ _ (xor_lt (rotr_lt _ hyl) (rotr_lt _ hyl)) (shr_lt _ hyl)) ?_
      have cellD := cell hB1.drew.drew
      refine dr (fun W => ∀ j, j < i → W.cell? ⟨g, j, none⟩ = some (cu ((wsF b i).getD j 0))) [(0, true), (1, true), (2, true), (3, true), (4, true), (5, true), (6, true), (7, true), (8, true), (9, true), (10, true), (11, true), (12, true), (13, true), (14, true), (15, false)] (by kernel_rfl) cellD ?_
      refine p_sub rfl rfl (r := ((i - 7 : Nat) : Int)) (w64 (by omega) |>.trans (by omega)) ?_
      refine p_atB (i := i - 7) (q := i - 7) ar64 rfl rfl rfl (by omega) (by omega) ?_
      refine t_load agg_u32 rfl (fun W h => h (i - 7) (by omega)) ?_
      refine p_add rfl rfl (add32 (sg1 ((wsF b i).getD (i - 2) 0)) ((wsF b i).getD (i - 7) 0)) ?_
      refine p_add rfl rfl (add32 _ (sg0 ((wsF b i).getD (i - 15) 0))) ?_
      refine p_sub rfl rfl (r := ((i - 16 : Nat) : Int)) (w64 (by omega) |>.trans (by omega)) ?_
      refine p_atB (i := i - 16) (q := i - 16) ar64 rfl rfl rfl (by omega) (by omega) ?_
      refine t_load agg_u32 rfl (fun W h => h (i - 16) (by omega)) ?_
      refine p_add rfl rfl (add32 _ ((wsF b i).getD (i - 16) 0)) ?_
      refine p_atB (i := i) (q := i) ar64 rfl rfl rfl hi64 (by omega) ?_
      refine v_set (cu (nextW (wsF b i) i)) sz_u32 hB1.drew.drew rfl rfl rfl (by simp [wsF_len]; omega) ?_
      rintro W2 hB2 hg2 hs2
      rw [cu_set (wsF_len b i) hi64] at hB2
      have cell2 : ∀ j, j < i → W2.cell? ⟨g, j, none⟩ = some (cu ((wsF b i).getD j 0)) := fun j hj => hB2.at_ (by
        rw [cu_get (by simp [wsF_len]; omega), List.getD_eq_getElem?_getD, List.getD_eq_getElem?_getD, List.getElem?_append_left (by omega)])
      refine ⟨cell2, ?_⟩
      refine p_add rfl rfl (r := ((i + 1 : Nat) : Int)) (w64 (by omega) |>.trans (by omega)) ?_
      refine ⟨i + 1, ⟨by omega, hb1.drew.drew.grown hg2 hs1 (fun k hk => by injection hk with hk; omega), ?_⟩, ⟨rfl, rfl, rfl, trivial⟩, by omega⟩
      have e : wsF b (i + 1) = wsF b i ++ [nextW (wsF b i) i] := by show wsF b i ++ [_] = _; rw [if_neg (by omega)]
      rw [e]; exact hB2
  · have hi : i = 64 := by omega
    subst hi
    have hl : ((words b).map cu).length = 64 := by rw [List.length_map]; exact wsF_len b 64
    have hB : Blk W1 g 133 ((words b).map cu) := by simpa [words] using hB1
    refine v_loadN ((words b).map cu) agg_a64 rfl hl (hB.run 0 _ (fun j v h => by rw [Nat.zero_add]; exact h)) ?_
    refine v_storeA ((words b).map cu) sz_a64 rfl rfl hl (fun u hu => by obtain ⟨x, _, rfl⟩ := List.mem_map.1 hu; rfl) hB hl ?_
    rintro W2 hB2 hg2 hs2
    exact ⟨⟨_, _, rfl, run_loadN agg_a64 ((words b).map cu) hl (hB2.run 0 _ (fun j v h => by rw [Nat.zero_add]; exact h)), ⟨rfl, hb1.grown hg2 hs1 (fun k hk => by injection hk with hk; omega)⟩⟩⟩
end Go.Proofs.YtojjfkbffjkojaaDoor
