/- Halves of bytes: unpacked; compared: the program's own. -/
import Derived.Test.YtlmnkepgljbdiaaNibsP
namespace Go.Proofs.Ytlmnkepgljbdiaa
open Go.RowKit

theorem and16_1 (x : Int) (h0 : 0 ≤ x) (h1 : x ≤ 255) (h : x / 16 % 2 = 1) : bits .and .u8 x 16 = 16 := by
  have key : ∀ y : Fin 256, (y.val : Int) / 16 % 2 = 1 → bits .and .u8 (y.val : Int) 16 = 16 := by decide +kernel
  have := key ⟨x.toNat, by omega⟩
  simp only [Int.toNat_of_nonneg h0] at this
  exact this h
theorem and16_0 (x : Int) (h0 : 0 ≤ x) (h1 : x ≤ 255) (h : ¬ x / 16 % 2 = 1) : bits .and .u8 x 16 = 0 := by
  have key : ∀ y : Fin 256, ¬ (y.val : Int) / 16 % 2 = 1 → bits .and .u8 (y.val : Int) 16 = 0 := by decide +kernel
  have := key ⟨x.toNat, by omega⟩
  simp only [Int.toNat_of_nonneg h0] at this
  exact this h
theorem and32_1 (x : Int) (h0 : 0 ≤ x) (h1 : x ≤ 255) (h : x / 32 % 2 = 1) : bits .and .u8 x 32 = 32 := by
  have key : ∀ y : Fin 256, (y.val : Int) / 32 % 2 = 1 → bits .and .u8 (y.val : Int) 32 = 32 := by decide +kernel
  have := key ⟨x.toNat, by omega⟩
  simp only [Int.toNat_of_nonneg h0] at this
  exact this h
theorem and32_0 (x : Int) (h0 : 0 ≤ x) (h1 : x ≤ 255) (h : ¬ x / 32 % 2 = 1) : bits .and .u8 x 32 = 0 := by
  have key : ∀ y : Fin 256, ¬ (y.val : Int) / 32 % 2 = 1 → bits .and .u8 (y.val : Int) 32 = 0 := by decide +kernel
  have := key ⟨x.toNat, by omega⟩
  simp only [Int.toNat_of_nonneg h0] at this
  exact this h
theorem unpack_nil {b : List UInt8} (h : b.length = 0) : unpackE b = 10 ∧ unpackB b = false ∧ unpackL b = [] := by simp [unpackE, unpackB, unpackL, h]
theorem unpack_no {b : List UInt8} (h : b.length ≠ 0) (k : unpackOk b = false) : unpackE b = 11 ∧ unpackB b = false ∧ unpackL b = [] := by simp [unpackE, unpackB, unpackL, h, k]
theorem unpack_ok {b : List UInt8} (h : b.length ≠ 0) (k : unpackOk b = true) : unpackE b = 0 ∧ unpackB b = decide (at8 b 0 / 32 % 2 = 1) ∧ unpackL b = (if at8 b 0 / 16 % 2 = 1 then [b8 (at8 b 0 % 16)] else []) ++ ofB (b.drop 1) := by simp [unpackE, unpackB, unpackL, h, k]
theorem ret_sbe {A A' : Option Addr} {n n' c c' : Nat} {p q : Bool} {x y : Int} (h : Value.slice A n c = Value.slice A' n' c') (hp : p = q) (k : x = y) :
    Ending.returned (.tuple #[.slice A n c, .bool p, .int .i64 x]) = Ending.returned (.tuple #[.slice A' n' c', .bool q, .int .i64 y]) := by rw [h, hp, k]

set_option maxHeartbeats 1600000 in
theorem unpack_any (A : Option Addr) (n c : Nat) (l : List UInt8) (w : World) (hr : Rd w w.heap.size A n l) (hn : n ≤ 100000000000) (hnc : n ≤ c) :
    Calls Try.prog 18 #[.slice A n c] w fun e w' => ∃ A' n' c', e = .returned (.tuple #[.slice A' n' c', .bool (unpackB l), .int .i64 (unpackE l)]) ∧ Own w' w.heap.size A' n' c' (unpackL l) ∧ Below w.heap.size w w' := by
  have hln := Lib.hid hr.len
  rcases Nat.eq_zero_or_pos n with h0 | h0
  · subst h0
    have hd := Lib.hid (unpack_nil hln.out)
    go_enter Try.func18, Try.ntmps18
    go_wp2
    go_ret3
    exact ⟨none, 0, 0, ret_sbe rfl hd.out.2.1.symm hd.out.1.symm, by rw [hd.out.2.2]; exact Own.nil_ _ _, Below.refl _ _⟩
  · obtain ⟨b, off, rfl, hc0⟩ := hr.at0 h0
    have x0 := at8_lo l 0
    have x1 := at8_hi l 0
    have hne : l.length ≠ 0 := by rw [hln.out]; omega
    by_cases hx : at8 l 0 < 64
    · by_cases hodd : at8 l 0 / 16 % 2 = 1
      · have hok : unpackOk l = true := by simp [unpackOk, hx, hodd]
        have hd := Lib.hid (unpack_ok hne hok)
        have hm := and16_1 _ x0 x1 hodd
        have hq := Lib.hid hodd
        have hcA := hr.shift (k := 1) (by omega)
        have hcB : c = 1 → Rd w w.heap.size (some ⟨b, off, none⟩) (n - 1) (l.drop 1) := fun e => hr.gone (by omega)
        clear hne hodd hok
        by_cases hlf : at8 l 0 / 32 % 2 = 1
        all_goals
          first
          | have hb32 := and32_1 _ x0 x1 hlf
          | have hb32 := and32_0 _ x0 x1 hlf
          have hlf' := Lib.hid hlf
          clear hlf
          go_enter Try.func18, Try.ntmps18
          go_wp2_with (at_builtin; refine wpList_app rfl _ _ rfl rfl ((Own.nil_ w w.heap.size).alloc _) rfl (Rd.lit1 _ _ (by omega)) (by omega) (by simp) ?_; intro A1 c1 w1 hown1 hg1)
          all_goals
            have hb1 := below_new _ (below_nil rfl hg1)
            (first
              | ((with_reducible refine (of_any _ _ _ _ _ (hcA.up hb1) (by omega)).mono ?_); rintro e w2 ⟨A2, c2, rfl, hown2, hb2⟩)
              | ((with_reducible refine (of_any _ _ _ _ _ ((hcB (by assumption)).up hb1) (by omega)).mono ?_); rintro e w2 ⟨A2, c2, rfl, hown2, hb2⟩))
            go_wp2_with (at_builtin; refine wpList_app rfl _ _ rfl rfl (hown1.below hb2) rfl hown2.rd (by omega) (by have := hb2.size; have := hb1.size; omega) ?_; intro A3 c3 w3 hown3 hg3)
            go_ret3
            refine ⟨A3, _, c3, ret_sbe rfl (by rw [hd.out.2.1]; simp [hlf'.out]) hd.out.1.symm, ?_, below_own (hb1.trans (hb2.mono hb1.size)) (hown1.below hb2) hg3⟩
            rw [hd.out.2.2, if_pos hq.out]
            exact hown3
      · have hm := and16_0 _ x0 x1 hodd
        by_cases hz : at8 l 0 % 16 = 0
        · have hok : unpackOk l = true := by simp [unpackOk, hx, hz]
          have hd := Lib.hid (unpack_ok hne hok)
          have hq := Lib.hid hodd
          have hz' : (at8 l 0 % 16 != 0) = false := by simp [hz]
          have hcA := hr.shift (k := 1) (by omega)
          have hcB : c = 1 → Rd w w.heap.size (some ⟨b, off, none⟩) (n - 1) (l.drop 1) := fun e => hr.gone (by omega)
          clear hne hodd hok hz
          by_cases hlf : at8 l 0 / 32 % 2 = 1
          all_goals
            first
            | have hb32 := and32_1 _ x0 x1 hlf
            | have hb32 := and32_0 _ x0 x1 hlf
            have hlf' := Lib.hid hlf
            clear hlf
            go_enter Try.func18, Try.ntmps18
            go_wp2_with fail
            all_goals
              (first
                | ((with_reducible refine (of_any _ _ _ _ _ hcA (by omega)).mono ?_); rintro e w2 ⟨A2, c2, rfl, hown2, hb2⟩)
                | ((with_reducible refine (of_any _ _ _ _ _ (hcB (by assumption)) (by omega)).mono ?_); rintro e w2 ⟨A2, c2, rfl, hown2, hb2⟩))
              go_wp2_with (at_builtin; refine wpList_app rfl _ _ rfl rfl (Own.nil_ w2 w.heap.size) rfl hown2.rd (by omega) (by have := hb2.size; omega) ?_; intro A3 c3 w3 hown3 hg3)
              go_ret3
              refine ⟨A3, _, c3, ret_sbe rfl (by rw [hd.out.2.1]; simp [hlf'.out]) hd.out.1.symm, ?_, below_own hb2 (Own.nil_ w2 w.heap.size) hg3⟩
              rw [hd.out.2.2, if_neg hq.out]
              rw [Nat.zero_add] at hown3
              exact hown3
        · have hok : unpackOk l = false := by simp [unpackOk, hodd, hz]
          have hd := Lib.hid (unpack_no hne hok)
          have hz' : (at8 l 0 % 16 != 0) = true := by simp [hz]
          clear hne hok hodd hz
          go_enter Try.func18, Try.ntmps18
          go_wp2
          go_ret3
          exact ⟨none, 0, 0, ret_sbe rfl hd.out.2.1.symm hd.out.1.symm, by rw [hd.out.2.2]; exact Own.nil_ _ _, Below.refl _ _⟩
    · have hok : unpackOk l = false := by simp [unpackOk, hx]
      have hd := Lib.hid (unpack_no hne hok)
      clear hne hok
      go_enter Try.func18, Try.ntmps18
      go_wp2
      go_ret3
      exact ⟨none, 0, 0, ret_sbe rfl hd.out.2.1.symm hd.out.1.symm, by rw [hd.out.2.2]; exact Own.nil_ _ _, Below.refl _ _⟩

theorem cmpB_eq {a b : List UInt8} {n : Nat} (h : commonB a b = n) (h1 : n = a.length) (h2 : n = b.length) : cmpB a b = 0 := by unfold cmpB; simp only [h]; rw [if_pos ⟨h1, h2⟩]
theorem cmpB_lt {a b : List UInt8} {n : Nat} (h : commonB a b = n) (h1 : n = a.length) (h2 : n ≠ b.length) : cmpB a b = -1 := by unfold cmpB; simp only [h]; rw [if_neg (fun e => h2 e.2), if_pos (.inl h1)]
theorem cmpB_gt {a b : List UInt8} {n : Nat} (h : commonB a b = n) (h1 : n ≠ a.length) (h2 : ¬ n < b.length) : cmpB a b = 1 := by unfold cmpB; simp only [h]; rw [if_neg (fun e => h1 e.1), if_neg (fun e => e.elim h1 (fun e => h2 e.1))]
theorem cmpB_at_lt {a b : List UInt8} {n : Nat} (h : commonB a b = n) (h1 : n < b.length) (h2 : at8 a n < at8 b n) (h3 : n ≠ a.length) : cmpB a b = -1 := by unfold cmpB; simp only [h]; rw [if_neg (fun e => h3 e.1), if_pos (.inr ⟨h1, h2⟩)]
theorem cmpB_at_ge {a b : List UInt8} {n : Nat} (h : commonB a b = n) (h1 : n ≠ a.length) (h2 : ¬ at8 a n < at8 b n) : cmpB a b = 1 := by unfold cmpB; simp only [h]; rw [if_neg (fun e => h1 e.1), if_neg (fun e => e.elim h1 (fun e => h2 e.2))]

set_option maxHeartbeats 1600000 in
theorem cmp_any (A1 A2 : Option Addr) (n m c1 c2 B : Nat) (a b : List UInt8) (w : World) (h1 : Rd w B A1 n a) (h2 : Rd w B A2 m b) (hn : n ≤ 100000000000) (hm : m ≤ 100000000000) :
    Calls Try.prog 24 #[.slice A1 n c1, .slice A2 m c2] w fun e w' => e = .returned (.int .i64 (cmpB a b)) ∧ ∃ d, w' = w.drewN d := by
  have hla := Lib.hid h1.len
  have hlb := Lib.hid h2.len
  obtain ⟨k, hk⟩ : ∃ k, commonB a b = k := ⟨_, rfl⟩
  have hle := commonB_le a b
  have hkn : k ≤ n := by rw [← hk, ← hla.out]; exact hle.1
  have hkm : k ≤ m := by rw [← hk, ← hlb.out]; exact hle.2
  have hcall : Hid (∀ W : World, Rd W B A1 n a → Rd W B A2 m b → Calls Try.prog 23 #[.slice A1 n c1, .slice A2 m c2] W fun e w' => e = .returned (.int .i64 k) ∧ ∃ d, w' = W.drewN d) :=
    Lib.hid (fun W g1 g2 => by rw [← hk]; exact common_any A1 A2 n m c1 c2 B a b W g1 g2 hn hm)
  have Hk := Lib.hid hk
  clear hk hle
  by_cases e1 : k = n
  · by_cases e2 : k = m
    · have hfin := Lib.hid (cmpB_eq Hk.out (by rw [hla.out]; exact e1) (by rw [hlb.out]; exact e2))
      subst e1
      subst e2
      go_enter Try.func24, Try.ntmps24
      go_wp2_with (go_at_call 23; refine (hcall.out _ h1 h2).mono ?_; rintro e w' ⟨rfl, d, rfl⟩)
      go_ret
      exact ⟨ret_int hfin.out.symm, _, rfl⟩
    · have hfin := Lib.hid (cmpB_lt Hk.out (by rw [hla.out]; exact e1) (by rw [hlb.out]; exact e2))
      have hb1 : ((k : Int) == (m : Int)) = false := by simp; omega
      subst e1
      go_enter Try.func24, Try.ntmps24
      go_wp2_with (go_at_call 23; refine (hcall.out _ h1 h2).mono ?_; rintro e w' ⟨rfl, d, rfl⟩)
      go_quiet (fail)
      go_wp2
      go_ret
      exact ⟨ret_int hfin.out.symm, _, World.drewN_drewN ..⟩
  · have hb1 : ((k : Int) == (n : Int)) = false := by simp; omega
    by_cases e2 : k < m
    · obtain ⟨bb1, off1, rfl, hc1⟩ := h1.at_ (k := k) (by omega)
      obtain ⟨bb2, off2, rfl, hc2⟩ := h2.at_ (k := k) (by omega)
      have hd : decide ((k : Int) < (m : Int)) = true := by simp; omega
      by_cases e3 : at8 a k < at8 b k
      · have hfin := Lib.hid (cmpB_at_lt Hk.out (by rw [hlb.out]; exact e2) e3 (by rw [hla.out]; exact e1))
        go_enter Try.func24, Try.ntmps24
        go_wp2_with (go_at_call 23; refine (hcall.out _ h1 h2).mono ?_; rintro e w' ⟨rfl, d, rfl⟩)
        go_quiet (fail)
        go_wp2
        go_ret
        exact ⟨ret_int hfin.out.symm, _, World.drewN_drewN ..⟩
      · have hfin := Lib.hid (cmpB_at_ge Hk.out (by rw [hla.out]; exact e1) e3)
        have hd2 : decide (at8 a k < at8 b k) = false := by simpa using e3
        go_enter Try.func24, Try.ntmps24
        go_wp2_with (go_at_call 23; refine (hcall.out _ h1 h2).mono ?_; rintro e w' ⟨rfl, d, rfl⟩)
        go_quiet (fail)
        go_wp2
        go_ret
        exact ⟨ret_int hfin.out.symm, _, World.drewN_drewN ..⟩
    · have hfin := Lib.hid (cmpB_gt Hk.out (by rw [hla.out]; exact e1) (by rw [hlb.out]; exact e2))
      have hd : decide ((k : Int) < (m : Int)) = false := by simp; omega
      go_enter Try.func24, Try.ntmps24
      go_wp2_with (go_at_call 23; refine (hcall.out _ h1 h2).mono ?_; rintro e w' ⟨rfl, d, rfl⟩)
      go_quiet (fail)
      go_wp2
      go_ret
      exact ⟨ret_int hfin.out.symm, _, World.drewN_drewN ..⟩
end Go.Proofs.Ytlmnkepgljbdiaa
