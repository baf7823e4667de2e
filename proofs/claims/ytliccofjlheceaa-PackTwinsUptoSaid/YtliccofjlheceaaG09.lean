/- Halves of bytes: unpacked; compared: the program's own. Halves of bytes: the reference's walks. Halves of bytes: the reference's walks of what is packed. Reference 07: the walks of Encode, Hash, Fold. The walk of digest's words. The walk of digest's take. append onto a slice that is full: a new row. No program in sight. The walks of digest.New, Write, Len, Sum. The walks of digest.New, Len, Sum of a Digest, Sum. The walk of digest.Sum. Package node: the walks of encode, hash, Encode, Hash, Fold. Reference 08: items as data; the walk of Items. -/
import Derived.Test.YtliccofjlheceaaG08
import Derived.Test.YtliccofjlheceaaG03
import Derived.Test.YtliccofjlheceaaG04
import Derived.Test.YtliccofjlheceaaG05
import Derived.Test.YtliccofjlheceaaG06
import Derived.Test.YtliccofjlheceaaG07
namespace Go.Proofs.Ytliccofjlheceaa
open Go.RowKit

theorem and16_1 (x : Int) (h0 : 0 ≤ x) (h1 : x ≤ 255) (h : x / 16 % 2 = 1) : bits .and .u8 x 16 = 16 := by
  have key : ∀ y : Fin 256, (y.val : Int) / 16 % 2 = 1 → bits .and .u8 (y.val : Int) 16 = 16 := by decide +kernel
  have := key ⟨x.toNat, by omega⟩
  simp only [Int.toNat_of_nonneg h0] at this
  exact this h
theorem and16_0 (x : Int) (h0 : 0 ≤ x) (h1 : x ≤ 255) (h : ¬ x / 16 % 2 = 1) : bits .and .u8 x 16 = 0 := by
  have key : ∀ y : Fin 256, ¬ (y.val : Int) / 16 % 2 = 1 → bits .and .u8 (y.val : Int) 16 = 0 := by decide +kernel
  have := key ⟨x.toNat, by omega⟩
  simp only [Int.toNat_of_nonneg h0] at this
  exact this h
theorem and32_1 (x : Int) (h0 : 0 ≤ x) (h1 : x ≤ 255) (h : x / 32 % 2 = 1) : bits .and .u8 x 32 = 32 := by
  have key : ∀ y : Fin 256, (y.val : Int) / 32 % 2 = 1 → bits .and .u8 (y.val : Int) 32 = 32 := by decide +kernel
  have := key ⟨x.toNat, by omega⟩
  simp only [Int.toNat_of_nonneg h0] at this
  exact this h
theorem and32_0 (x : Int) (h0 : 0 ≤ x) (h1 : x ≤ 255) (h : ¬ x / 32 % 2 = 1) : bits .and .u8 x 32 = 0 := by
  have key : ∀ y : Fin 256, ¬ (y.val : Int) / 32 % 2 = 1 → bits .and .u8 (y.val : Int) 32 = 0 := by decide +kernel
  have := key ⟨x.toNat, by omega⟩
  simp only [Int.toNat_of_nonneg h0] at this
  exact this h
theorem unpack_nil {b : List UInt8} (h : b.length = 0) : unpackE b = 10 ∧ unpackB b = false ∧ unpackL b = [] := by simp [unpackE, unpackB, unpackL, h]
theorem unpack_no {b : List UInt8} (h : b.length ≠ 0) (k : unpackOk b = false) : unpackE b = 11 ∧ unpackB b = false ∧ unpackL b = [] := by simp [unpackE, unpackB, unpackL, h, k]
theorem unpack_ok {b : List UInt8} (h : b.length ≠ 0) (k : unpackOk b = true) : unpackE b = 0 ∧ unpackB b = decide (at8 b 0 / 32 % 2 = 1) ∧ unpackL b = (if at8 b 0 / 16 % 2 = 1 then [b8 (at8 b 0 % 16)] else []) ++ ofB (b.drop 1) := by simp [unpackE, unpackB, unpackL, h, k]
theorem ret_sbe {A A' : Option Addr} {n n' c c' : Nat} {p q : Bool} {x y : Int} (h : Value.slice A n c = Value.slice A' n' c') (hp : p = q) (k : x = y) :
    Ending.returned (.tuple #[.slice A n c, .bool p, .int .i64 x]) = Ending.returned (.tuple #[.slice A' n' c', .bool q, .int .i64 y]) := by rw [h, hp, k]

set_option maxHeartbeats 1600000 in
theorem unpack_any (A : Option Addr) (n c : Nat) (l : List UInt8) (w : World) (hr : Rd w w.heap.size A n l) (hn : n ≤ 100000000000) (hnc : n ≤ c) :
    Calls Try.prog 73 #[.slice A n c] w fun e w' => ∃ A' n' c', e = .returned (.tuple #[.slice A' n' c', .bool (unpackB l), .int .i64 (unpackE l)]) ∧ Own w' w.heap.size A' n' c' (unpackL l) ∧ Below w.heap.size w w' := by
  have hln := Lib.hid hr.len
  rcases Nat.eq_zero_or_pos n with h0 | h0
  · subst h0
    have hd := Lib.hid (unpack_nil hln.out)
    go_enter Try.func73, Try.ntmps73
    go_wp2
    go_ret3
    exact ⟨none, 0, 0, ret_sbe rfl hd.out.2.1.symm hd.out.1.symm, by rw [hd.out.2.2]; exact Own.nil_ _ _, Below.refl _ _⟩
  · obtain ⟨b, off, rfl, hc0⟩ := hr.at0 h0
    have x0 := at8_lo l 0
    have x1 := at8_hi l 0
    have hne : l.length ≠ 0 := by rw [hln.out]; omega
    by_cases hx : at8 l 0 < 64
    · by_cases hodd : at8 l 0 / 16 % 2 = 1
      · have hok : unpackOk l = true := by simp [unpackOk, hx, hodd]
        have hd := Lib.hid (unpack_ok hne hok)
        have hm := and16_1 _ x0 x1 hodd
        have hq := Lib.hid hodd
        have hcA := hr.shift (k := 1) (by omega)
        have hcB : c = 1 → Rd w w.heap.size (some ⟨b, off, none⟩) (n - 1) (l.drop 1) := fun e => hr.gone (by omega)
        clear hne hodd hok
        by_cases hlf : at8 l 0 / 32 % 2 = 1
        all_goals
          first
          | have hb32 := and32_1 _ x0 x1 hlf
          | have hb32 := and32_0 _ x0 x1 hlf
          have hlf' := Lib.hid hlf
          clear hlf
          go_enter Try.func73, Try.ntmps73
          go_wp2_with (at_builtin; refine wpList_app rfl _ _ rfl rfl ((Own.nil_ w w.heap.size).alloc _) rfl (Rd.lit1 _ _ (by omega)) (by omega) (by simp) ?_; intro A1 c1 w1 hown1 hg1)
          all_goals
            have hb1 := below_new _ (below_nil rfl hg1)
            (first
              | ((with_reducible refine (of_any _ _ _ _ _ (hcA.up hb1) (by omega)).mono ?_); rintro e w2 ⟨A2, c2, rfl, hown2, hb2⟩)
              | ((with_reducible refine (of_any _ _ _ _ _ ((hcB (by assumption)).up hb1) (by omega)).mono ?_); rintro e w2 ⟨A2, c2, rfl, hown2, hb2⟩))
            go_wp2_with (at_builtin; refine wpList_app rfl _ _ rfl rfl (hown1.below hb2) rfl hown2.rd (by omega) (by have := hb2.size; have := hb1.size; omega) ?_; intro A3 c3 w3 hown3 hg3)
            go_ret3
            refine ⟨A3, _, c3, ret_sbe rfl (by rw [hd.out.2.1]; simp [hlf'.out]) hd.out.1.symm, ?_, below_own (hb1.trans (hb2.mono hb1.size)) (hown1.below hb2) hg3⟩
            rw [hd.out.2.2, if_pos hq.out]
            exact hown3
      · have hm := and16_0 _ x0 x1 hodd
        by_cases hz : at8 l 0 % 16 = 0
        · have hok : unpackOk l = true := by simp [unpackOk, hx, hz]
          have hd := Lib.hid (unpack_ok hne hok)
          have hq := Lib.hid hodd
          have hz' : (at8 l 0 % 16 != 0) = false := by simp [hz]
          have hcA := hr.shift (k := 1) (by omega)
          have hcB : c = 1 → Rd w w.heap.size (some ⟨b, off, none⟩) (n - 1) (l.drop 1) := fun e => hr.gone (by omega)
          clear hne hodd hok hz
          by_cases hlf : at8 l 0 / 32 % 2 = 1
          all_goals
            first
            | have hb32 := and32_1 _ x0 x1 hlf
            | have hb32 := and32_0 _ x0 x1 hlf
            have hlf' := Lib.hid hlf
            clear hlf
            go_enter Try.func73, Try.ntmps73
            go_wp2_with fail
            all_goals
              (first
                | ((with_reducible refine (of_any _ _ _ _ _ hcA (by omega)).mono ?_); rintro e w2 ⟨A2, c2, rfl, hown2, hb2⟩)
                | ((with_reducible refine (of_any _ _ _ _ _ (hcB (by assumption)) (by omega)).mono ?_); rintro e w2 ⟨A2, c2, rfl, hown2, hb2⟩))
              go_wp2_with (at_builtin; refine wpList_app rfl _ _ rfl rfl (Own.nil_ w2 w.heap.size) rfl hown2.rd (by omega) (by have := hb2.size; omega) ?_; intro A3 c3 w3 hown3 hg3)
              go_ret3
              refine ⟨A3, _, c3, ret_sbe rfl (by rw [hd.out.2.1]; simp [hlf'.out]) hd.out.1.symm, ?_, below_own hb2 (Own.nil_ w2 w.heap.size) hg3⟩
              rw [hd.out.2.2, if_neg hq.out]
              rw [Nat.zero_add] at hown3
              exact hown3
        · have hok : unpackOk l = false := by simp [unpackOk, hodd, hz]
          have hd := Lib.hid (unpack_no hne hok)
          have hz' : (at8 l 0 % 16 != 0) = true := by simp [hz]
          clear hne hok hodd hz
          go_enter Try.func73, Try.ntmps73
          go_wp2
          go_ret3
          exact ⟨none, 0, 0, ret_sbe rfl hd.out.2.1.symm hd.out.1.symm, by rw [hd.out.2.2]; exact Own.nil_ _ _, Below.refl _ _⟩
    · have hok : unpackOk l = false := by simp [unpackOk, hx]
      have hd := Lib.hid (unpack_no hne hok)
      clear hne hok
      go_enter Try.func73, Try.ntmps73
      go_wp2
      go_ret3
      exact ⟨none, 0, 0, ret_sbe rfl hd.out.2.1.symm hd.out.1.symm, by rw [hd.out.2.2]; exact Own.nil_ _ _, Below.refl _ _⟩

theorem cmpB_eq {a b : List UInt8} {n : Nat} (h : commonB a b = n) (h1 : n = a.length) (h2 : n = b.length) : cmpB a b = 0 := by unfold cmpB; simp only [h]; rw [if_pos ⟨h1, h2⟩]
theorem cmpB_lt {a b : List UInt8} {n : Nat} (h : commonB a b = n) (h1 : n = a.length) (h2 : n ≠ b.length) : cmpB a b = -1 := by unfold cmpB; simp only [h]; rw [if_neg (fun e => h2 e.2), if_pos (.inl h1)]
theorem cmpB_gt {a b : List UInt8} {n : Nat} (h : commonB a b = n) (h1 : n ≠ a.length) (h2 : ¬ n < b.length) : cmpB a b = 1 := by unfold cmpB; simp only [h]; rw [if_neg (fun e => h1 e.1), if_neg (fun e => e.elim h1 (fun e => h2 e.1))]
theorem cmpB_at_lt {a b : List UInt8} {n : Nat} (h : commonB a b = n) (h1 : n < b.length) (h2 : at8 a n < at8 b n) (h3 : n ≠ a.length) : cmpB a b = -1 := by unfold cmpB; simp only [h]; rw [if_neg (fun e => h3 e.1), if_pos (.inr ⟨h1, h2⟩)]
theorem cmpB_at_ge {a b : List UInt8} {n : Nat} (h : commonB a b = n) (h1 : n ≠ a.length) (h2 : ¬ at8 a n < at8 b n) : cmpB a b = 1 := by unfold cmpB; simp only [h]; rw [if_neg (fun e => h1 e.1), if_neg (fun e => e.elim h1 (fun e => h2 e.2))]

end Go.Proofs.Ytliccofjlheceaa
namespace Go.Proofs.Ytliccofjlheceaa
open Go.RowKit

theorem take_set1 (L P : List UInt8) (k : Nat) (x : UInt8) (h : k < L.length) (hp : L.take k = P) : (L.set k x).take (k + 1) = P ++ [x] := by
  subst hp
  rw [take_snoc _ _ (by simpa using h), List.take_set, List.set_eq_of_length_le (by simp; omega)]
  simp [h]
theorem take_set2 (L P : List UInt8) (k : Nat) (x y : UInt8) (h : 2 * k + 1 < L.length) (hp : L.take (2 * k) = P) : ((L.set (2 * k) x).set (2 * k + 1) y).take (2 * (k + 1)) = P ++ [x, y] := by
  have e1 := take_set1 L P (2 * k) x (by omega) hp
  have e2 := take_set1 (L.set (2 * k) x) (P ++ [x]) (2 * k + 1) y (by simpa using h) e1
  rw [show 2 * (k + 1) = 2 * k + 1 + 1 by omega, e2]
  simp
theorem other_cell {wr : World} {H bb o o' : Nat} {v : Value} (hne : bb < H) (h : wr.cell? ⟨bb, o, none⟩ = some v) : ∀ u, (wr.setCell ⟨H, o', none⟩ u).cell? ⟨bb, o, none⟩ = some v := fun u => by
  rw [World.cell?_setCell_other _ _ _ _ (by intro e; injection e with e; omega)]; exact h

set_option maxHeartbeats 800000 in
theorem refOf_any (A : Option Addr) (n c : Nat) (l : List UInt8) (w : World) (hr : Rd w w.heap.size A n l) (hn : n ≤ 100000000000) :
    Calls Try.prog 57 #[.slice A n c] w fun e w' => e = .returned (.slice (some ⟨w.heap.size, 0, none⟩) (2 * n) (2 * n)) ∧ Own w' w.heap.size (some ⟨w.heap.size, 0, none⟩) (2 * n) (2 * n) (ofB l) ∧ Below w.heap.size w w' := by
  go_enter Try.func57, Try.ntmps57
  go_wp2_with (at_make; refine wpList_mk rfl _ _ rfl (n := 2 * n) rfl rfl (by omega) (by omega) (by omega) (Nat.le_refl _) ?_; intro w1 hown1 hg1)
  have hb1 : Below w.heap.size w w1 := (Below.refl _ _).grown hg1 (Nat.le_refl _) (by intro k h; cases h)
  go_loopw [4] (fun i wr => ∃ (k : Nat) (L : List UInt8), k ≤ n ∧ i = .int .i64 k ∧ Own wr w.heap.size (some ⟨w.heap.size, 0, none⟩) (2 * n) (2 * n) L ∧ L.take (2 * k) = ofB (l.take k) ∧ Below w.heap.size w wr) (fun i _ => n - (intOf i).toNat)
  case atStart => exact ⟨0, _, Nat.zero_le _, rfl, hown1, rfl, hb1⟩
  case round =>
    obtain ⟨k, L, hk, rfl, hown, ht, hb⟩ := hrel
    have Ht := Lib.hid ht
    clear ht
    have hln := Lib.hid hr.len
    have hLn := Lib.hid hown.len
    by_cases hlt : k < n
    · obtain ⟨bb, off, rfl, hbl, hc⟩ := (hr.below hb).atB hlt
      have h0 := at8_lo l k
      have h1 := at8_hi l k
      have hs1 := hown.cell (j := 2 * k) (by omega)
      have hf1 := hown.free (2 * k)
      have hown1 := hown.set (j := 2 * k) (x := at8 l k / 16) (by omega) (by omega)
      have hs2 := hown1.cell (j := 2 * k + 1) (by omega)
      have hf2 := hown1.free (2 * k + 1)
      have hown2 := hown1.set (j := 2 * k + 1) (x := at8 l k % 16) (by omega) (by omega)
      have hco := other_cell (o' := 2 * k) hbl hc
      have hb2 := (hb.setCell (p := ⟨w.heap.size, 2 * k, none⟩) (Nat.le_refl _) (.int .u8 (at8 l k / 16))).setCell (p := ⟨w.heap.size, 2 * k + 1, none⟩) (Nat.le_refl _) (.int .u8 (at8 l k % 16))
      have Hown2 := Lib.hid hown2
      have Hb2 := Lib.hid hb2
      clear hown2 hb2 hown1 hbl
      go_wp2
      go_roundw
      case rel => exact ⟨k + 1, _, by omega, by go_num, Hown2.out, by rw [ofB_take l k (by rw [hln.out]; exact hlt)]; exact take_set2 L _ k _ _ (by rw [hLn.out]; omega) Ht.out, Hb2.out⟩
      case measure => simp [intOf]; omega
    · have hkn : k = n := by omega
      subst hkn
      go_wp2
      go_ret
      refine ⟨rfl, ?_, hb⟩
      have e := Ht.out
      rw [List.take_of_length_le (by rw [hLn.out]; omega), List.take_of_length_le (by rw [hln.out]; omega)] at e
      rw [← e]; exact hown

theorem common_step (a b : List UInt8) (k : Nat) (h1 : k < a.length) (h2 : k < b.length) (he : at8 a k = at8 b k) (ht : a.take k = b.take k) : a.take (k + 1) = b.take (k + 1) := take_both a b k ht h1 h2 ((at8_eq_iff a b k).1 he)

set_option maxHeartbeats 800000 in
theorem refCommon_any (A1 A2 : Option Addr) (n m c1 c2 B : Nat) (a b : List UInt8) (w : World) (h1 : Rd w B A1 n a) (h2 : Rd w B A2 m b) (hn : n ≤ 100000000000) (_hm : m ≤ 100000000000) :
    Calls Try.prog 101 #[.slice A1 n c1, .slice A2 m c2] w fun e w' => e = .returned (.int .i64 (commonB a b)) ∧ ∃ d, w' = w.drewN d := by
  go_enter Try.func101, Try.ntmps101
  go_wp2
  go_loopw [5] (fun i wr => ∃ (k d : Nat), k ≤ n ∧ k ≤ m ∧ i = .int .i64 k ∧ a.take k = b.take k ∧ wr = w.drewN d) (fun i _ => n - (intOf i).toNat)
  case atStart => exact ⟨0, 0, Nat.zero_le _, Nat.zero_le _, rfl, rfl, rfl⟩
  case round =>
    obtain ⟨k, d, hkn, hkm, rfl, ht, rfl⟩ := hrel
    have Ht := Lib.hid ht
    clear ht
    have hla := Lib.hid h1.len
    have hlb := Lib.hid h2.len
    by_cases hlt1 : k < n
    · by_cases hlt2 : k < m
      · obtain ⟨bb1, off1, rfl, hc1⟩ := h1.at_ hlt1
        obtain ⟨bb2, off2, rfl, hc2⟩ := h2.at_ hlt2
        have hg1 : (k : Int) < n := by omega
        have hg2 : (k : Int) < m := by omega
        by_cases heq : at8 a k = at8 b k
        · have hq : (at8 a k == at8 b k) = true := by simp [heq]
          have He := Lib.hid heq
          clear heq
          go_wp2
          go_quiet (fail)
          go_wp2
          go_roundw
          case rel => exact ⟨k + 1, _, by omega, by omega, by go_num, common_step a b k (by rw [hla.out]; exact hlt1) (by rw [hlb.out]; exact hlt2) He.out Ht.out, rfl⟩
          case measure => simp [intOf]; omega
        · have hq : (at8 a k == at8 b k) = false := by simp [heq]
          have He := Lib.hid heq
          clear heq
          go_wp2
          go_quiet (fail)
          go_wp2
          go_ret
          exact ⟨ret_int (by rw [commonB_at a b k Ht.out (by rw [hla.out]; exact hlt1) (by rw [hlb.out]; exact hlt2) (fun e => He.out ((at8_eq_iff a b k).2 e))]), _, World.drewN_drewN ..⟩
      · have hmi : Hid (k = min a.length b.length) := Lib.hid (by have := hla.out; have := hlb.out; omega)
        have hg1 : (k : Int) < n := by omega
        have hd : decide ((k : Int) < m) = false := by simp; omega
        go_wp2
        go_quiet (fail)
        go_wp2
        go_ret
        exact ⟨ret_int (by rw [commonB_end a b k Ht.out hmi.out]), _, World.drewN_drewN ..⟩
    · have hmi : Hid (k = min a.length b.length) := Lib.hid (by have := hla.out; have := hlb.out; omega)
      have hd : decide ((k : Int) < n) = false := by simp; omega
      go_wp2
      go_quiet (fail)
      go_wp2
      go_ret
      exact ⟨ret_int (by rw [commonB_end a b k Ht.out hmi.out]), _, World.drewN_drewN ..⟩

set_option maxHeartbeats 1600000 in
theorem cmp04_any (A1 A2 : Option Addr) (n m c1 c2 B : Nat) (a b : List UInt8) (w : World) (h1 : Rd w B A1 n a) (h2 : Rd w B A2 m b) (hn : n ≤ 100000000000) (hm : m ≤ 100000000000) :
    Calls Try.prog 84 #[.slice A1 n c1, .slice A2 m c2] w fun e w' => e = .returned (.int .i64 (cmpB a b)) ∧ ∃ d, w' = w.drewN d := by
  have hla := Lib.hid h1.len
  have hlb := Lib.hid h2.len
  go_enter Try.func84, Try.ntmps84
  go_wp2
  go_loopw [5] (fun i wr => ∃ (k d : Nat), k ≤ n ∧ k ≤ m ∧ i = .int .i64 k ∧ a.take k = b.take k ∧ wr = w.drewN d) (fun i _ => n - (intOf i).toNat)
  case atStart => exact ⟨0, 0, Nat.zero_le _, Nat.zero_le _, rfl, rfl, rfl⟩
  case round =>
    obtain ⟨k, d, hkn, hkm, rfl, ht, rfl⟩ := hrel
    have Ht := Lib.hid ht
    clear ht
    by_cases hlt : k < n ∧ k < m
    · obtain ⟨hlt1, hlt2⟩ := hlt
      obtain ⟨bb1, off1, rfl, hc1⟩ := h1.at_ hlt1
      obtain ⟨bb2, off2, rfl, hc2⟩ := h2.at_ hlt2
      have hg1 : (k : Int) < n := by omega
      have hg2 : (k : Int) < m := by omega
      have hka : k < a.length := by rw [hla.out]; exact hlt1
      have hkb : k < b.length := by rw [hlb.out]; exact hlt2
      rcases Int.lt_trichotomy (at8 a k) (at8 b k) with hx | hx | hx
      · have hk := commonB_at a b k Ht.out hka hkb (fun e => by have := (at8_eq_iff a b k).2 e; omega)
        have hfin := Lib.hid (cmpB_at_lt hk hkb hx (by omega))
        clear hk hka hkb
        go_wp2
        go_quiet (fail)
        go_wp2
        go_ret
        exact ⟨ret_int hfin.out.symm, _, World.drewN_drewN ..⟩
      · have hq : ¬ at8 a k < at8 b k := by omega
        have hq2 : ¬ at8 b k < at8 a k := by omega
        have hs := Lib.hid (common_step a b k hka hkb hx Ht.out)
        clear hx hka hkb
        go_wp2
        go_quiet (fail)
        go_wp2
        go_quiet (fail)
        go_wp2
        go_roundw
        case rel => exact ⟨k + 1, _, by omega, by omega, by go_num, hs.out, rfl⟩
        case measure => simp [intOf]; omega
      · have hk := commonB_at a b k Ht.out hka hkb (fun e => by have := (at8_eq_iff a b k).2 e; omega)
        have hfin := Lib.hid (cmpB_at_ge hk (by omega) (show ¬ at8 a k < at8 b k by omega))
        have hq : ¬ at8 a k < at8 b k := by omega
        clear hk hka hkb
        go_wp2
        go_quiet (fail)
        go_wp2
        go_quiet (fail)
        go_wp2
        go_ret
        exact ⟨ret_int hfin.out.symm, by simp only [World.drewN_drewN]; exact ⟨_, rfl⟩⟩
    · have hmi : k = min a.length b.length := by rw [hla.out, hlb.out]; omega
      have hk := commonB_end a b k Ht.out hmi
      rcases Nat.lt_trichotomy n m with hx | hx | hx
      · have hfin := Lib.hid (cmpB_lt hk (by rw [hla.out]; omega) (by rw [hlb.out]; omega))
        clear hk hmi
        go_wp2
        go_ret
        exact ⟨ret_int hfin.out.symm, _, rfl⟩
      · have hfin := Lib.hid (cmpB_eq hk (by rw [hla.out]; omega) (by rw [hlb.out]; omega))
        subst hx
        clear hk hmi
        go_wp2
        go_ret
        exact ⟨ret_int hfin.out.symm, _, rfl⟩
      · have hfin := Lib.hid (cmpB_gt hk (by rw [hla.out]; omega) (by rw [hlb.out]; omega))
        clear hk hmi
        go_wp2
        go_ret
        exact ⟨ret_int hfin.out.symm, _, rfl⟩
end Go.Proofs.Ytliccofjlheceaa
namespace Go.Proofs.Ytliccofjlheceaa
open Go.RowKit
theorem sha_len (b : List UInt8) : (sha b).length = 32 := by rw [sha_def]; unfold out8 put4; rfl
/-- Two bytes that tell which kids there are. -/
def kbit (ks : List Nd) (i : Nat) : Nat := if (ks.getD i noneN).kind ≠ 0 then 128 / 2 ^ (i % 8) else 0
def kbits (ks : List Nd) : Nat → Nat × Nat
  | 0 => (0, 0)
  | i + 1 => if i < 8 then ((kbits ks i).1 + kbit ks i, (kbits ks i).2) else ((kbits ks i).1, (kbits ks i).2 + kbit ks i)
def encF (k : Int) (p : List UInt8) (has : Bool) (v : List UInt8) (ks : List Nd) (hs : List UInt8) : List UInt8 :=
  b8 (k % 256) :: (if k = 1 then putB (packL p true) ++ putB v
    else if k = 2 then putB (packL p false) ++ hs
    else if k = 3 then (if has then (1 : UInt8) :: putB v else [0]) ++ (UInt8.ofNat (kbits ks 16).1 :: UInt8.ofNat (kbits ks 16).2 :: hs)
    else [])
mutual
def hashP : Nd → List UInt8
  | .mk k p has v ks h => if k = 4 then h else sha (encF k p has v ks (hashesP ks))
def hashesP : List Nd → List UInt8
  | [] => []
  | t :: ts => (if t.kind ≠ 0 then hashP t else []) ++ hashesP ts
end
def encP (t : Nd) : List UInt8 := encF t.kind t.path t.has t.val t.kids (hashesP t.kids)
theorem hashP_eq (t : Nd) : hashP t = if t.kind = 4 then t.hash else sha (encP t) := by cases t; rw [hashP]; rfl
theorem hashP_len {even : Bool} {t : Nd} {d : Nat} (h : Val even t d) : (hashP t).length = 32 := by
  rw [hashP_eq]
  by_cases h4 : t.kind = 4
  · rw [if_pos h4]
    cases h with
    | stub d h hd hh => exact hh
    | none => exact absurd (show (0 : Int) = 4 from h4) (by decide)
    | leaf => exact absurd (show (1 : Int) = 4 from h4) (by decide)
    | way => exact absurd (show (2 : Int) = 4 from h4) (by decide)
    | branch => exact absurd (show (3 : Int) = 4 from h4) (by decide)
  · rw [if_neg h4]; exact sha_len _
theorem Val.way_kid {even : Bool} {t : Nd} {d : Nat} (h : Val even t d) (h2 : t.kind = 2) : ∃ k, t.kids = [k] ∧ Val even k (d + t.path.length) ∧ k.kind ≠ 0 := by
  cases h with
  | way _ p k hd hp h0 hk hr => exact ⟨k, rfl, hr, fun e => by rcases hk with h | h <;> exact absurd (h.symm.trans e) (by decide)⟩
  | none => exact absurd (show (0 : Int) = 2 from h2) (by decide)
  | leaf => exact absurd (show (1 : Int) = 2 from h2) (by decide)
  | stub => exact absurd (show (4 : Int) = 2 from h2) (by decide)
  | branch => exact absurd (show (3 : Int) = 2 from h2) (by decide)
theorem Val.br_kids {even : Bool} {t : Nd} {d : Nat} (h : Val even t d) (h3 : t.kind = 3) : t.kids.length = 16 ∧ ∀ k ∈ t.kids, Val even k (d + 1) := by
  cases h with
  | branch d has v ks hd hv hv0 he h16 hr hm => exact ⟨h16, hr⟩
  | none => exact absurd (show (0 : Int) = 3 from h3) (by decide)
  | leaf => exact absurd (show (1 : Int) = 3 from h3) (by decide)
  | stub => exact absurd (show (4 : Int) = 3 from h3) (by decide)
  | way => exact absurd (show (2 : Int) = 3 from h3) (by decide)
theorem kbits_succ (ks : List Nd) (i : Nat) : kbits ks (i + 1) = if i < 8 then ((kbits ks i).1 + kbit ks i, (kbits ks i).2) else ((kbits ks i).1, (kbits ks i).2 + kbit ks i) := by rw [kbits]
theorem kb_pow : ∀ i, i < 8 → 128 / 2 ^ (i % 8) + 2 ^ (8 - (i + 1)) = 2 ^ (8 - i) := by decide
theorem kb_pow2 : ∀ i, i < 8 → 128 / 2 ^ ((i + 8) % 8) + 2 ^ (16 - (i + 8 + 1)) = 2 ^ (16 - (i + 8)) := by decide
theorem kbits_lo (ks : List Nd) : ∀ i, i ≤ 8 → (kbits ks i).1 + 2 ^ (8 - i) ≤ 256 ∧ (kbits ks i).2 = 0
  | 0, _ => ⟨Nat.le_refl 256, rfl⟩
  | i + 1, h => by
    obtain ⟨h1, h2⟩ := kbits_lo ks i (by omega)
    have h3 := kb_pow i (by omega)
    have h4 : kbit ks i ≤ 128 / 2 ^ (i % 8) := by unfold kbit; split; exact Nat.le_refl _; exact Nat.zero_le _
    unfold kbits
    rw [if_pos (by omega)]
    exact ⟨by dsimp only; omega, h2⟩
theorem kbits_hi (ks : List Nd) : ∀ i, i ≤ 8 → (kbits ks (i + 8)).1 ≤ 255 ∧ (kbits ks (i + 8)).2 + 2 ^ (16 - (i + 8)) ≤ 256
  | 0, _ => by
    obtain ⟨h1, h2⟩ := kbits_lo ks 8 (by omega)
    refine ⟨by simp at h1 ⊢; omega, ?_⟩
    rw [show (0 + 8 : Nat) = 8 from rfl, h2]; decide
  | i + 1, h => by
    obtain ⟨h1, h2⟩ := kbits_hi ks i (by omega)
    have h3 := kb_pow2 i (by omega)
    have h4 : kbit ks (i + 8) ≤ 128 / 2 ^ ((i + 8) % 8) := by unfold kbit; split; exact Nat.le_refl _; exact Nat.zero_le _
    rw [show i + 1 + 8 = (i + 8) + 1 by omega]
    unfold kbits
    rw [if_neg (by omega)]
    refine ⟨h1, ?_⟩
    dsimp only; omega
theorem kbits_le (ks : List Nd) (i : Nat) (h : i ≤ 16) : (kbits ks i).1 ≤ 255 ∧ (kbits ks i).2 ≤ 255 := by
  rcases Nat.lt_or_ge i 9 with h8 | h8
  · obtain ⟨h1, h2⟩ := kbits_lo ks i (by omega)
    have : 1 ≤ 2 ^ (8 - i) := Nat.one_le_two_pow
    omega
  · obtain ⟨h1, h2⟩ := kbits_hi ks (i - 8) (by omega)
    rw [show i - 8 + 8 = i by omega] at h1 h2
    have : 1 ≤ 2 ^ (16 - i) := Nat.one_le_two_pow
    omega
theorem Val.mono {even : Bool} {t : Nd} {d : Nat} (h : Val even t d) : ∀ d', d' ≤ d → Val false t d' := by
  have he : ∀ {e d d' : Nat} {even : Bool}, endsP e even = true → d' + (e - d) ≤ 400 → endsP (d' + (e - d)) false = true := fun _ h => ends_yes h (.inl rfl)
  induction h with
  | none d hd => intro d' hd'; exact .none d' (by omega)
  | leaf d p v hd hp hv he' => intro d' hd'; have := endsP_le he'; exact .leaf d' p v (by omega) hp hv (ends_yes (by omega) (.inl rfl))
  | stub d h hd hh => intro d' hd'; exact .stub d' h (by omega) hh
  | way d p k hd hp h0 hk hr ih => intro d' hd'; exact .way d' p k (by omega) hp h0 hk (ih _ (by omega))
  | branch d has v ks hd hv hv0 he' h16 hr hm ih => intro d' hd'; exact .branch d' has v ks (by omega) hv hv0 (fun e => ends_yes (by omega) (.inl rfl)) h16 (fun k hk => ih k hk _ (by omega)) hm
theorem putB_lenE (s : List UInt8) : (putB s).length = (putN s.length).length + s.length := by unfold putB; rw [List.length_append]
theorem packL_len (p : List UInt8) (leaf : Bool) : (packL p leaf).length ≤ p.length + 1 := by
  unfold packL
  split
  · split
    · rw [List.length_cons, joinB_length, List.length_drop]; omega
    · rw [List.length_cons, joinB_length]; omega
  · simp
end Go.Proofs.Ytliccofjlheceaa
namespace Go.Proofs.Ytliccofjlheceaa
open Go.RowKit
def rootsAt (w : World) : Prop := ∀ j, j < 64 → w.cell? ⟨1, j, none⟩ = some (cu (roots.getD j 0))
end Go.Proofs.Ytliccofjlheceaa
namespace Go.Proofs.Ytliccofjlheceaa
open Go.RowKit

/-- The package's tables. -/
structure GL (W : World) (gs : List (Option Nat)) : Prop where
  roots : rootsAt W
  begin : ∀ j v, (hc begin8)[j]? = some v → W.cell? ⟨0, j, none⟩ = some v
  size : 2 ≤ W.heap.size
  out0 : some 0 ∉ gs
  out1 : some 1 ∉ gs
theorem GL.up {W W' : World} {gs gs' : List (Option Nat)} (h : GL W gs) (s : Stp W gs W' gs') : GL W' gs' :=
  ⟨fun j hj => (World.cell?_of_block (w := W) (a := ⟨1, j, none⟩) (s.block 1 h.size h.out1)).trans (h.roots j hj),
   fun j v hv => (World.cell?_of_block (w := W) (a := ⟨0, j, none⟩) (s.block 0 (by have := h.size; omega) h.out0)).trans (h.begin j v hv),
   Nat.le_trans h.size s.size, fun e => h.out0 (s.own 0 (by have := h.size; omega) e), fun e => h.out1 (s.own 1 h.size e)⟩
section
variable {E : Env} {d : Option Nat} {ty : TypeId} {p : String} {af : Array Edge} {g : Option (Nat × Bool)} {x y z : Operand} {kw : Value → World → Prop} {w : World}
end
end Go.Proofs.Ytliccofjlheceaa
namespace Go.Proofs.Ytliccofjlheceaa
open Go.RowKit
theorem orN {a b : Nat} (ha : a < 2 ^ 62) (hb : b < 2 ^ 62) : bits .or .i64 (a : Int) (b : Int) = ((a ||| b : Nat) : Int) := by
  have h := Nat.or_lt_two_pow ha hb
  have e : (BitVec.ofInt IntKind.i64.bits (a : Int) ||| BitVec.ofInt IntKind.i64.bits (b : Int)).toNat = a ||| b := by
    rw [BitVec.toNat_or, BitVec.ofInt_natCast, BitVec.ofInt_natCast, BitVec.toNat_ofNat, BitVec.toNat_ofNat, Nat.mod_eq_of_lt (by show a < 2 ^ 64; omega), Nat.mod_eq_of_lt (by show b < 2 ^ 64; omega)]
  show IntKind.i64.wrap ((BitVec.ofInt IntKind.i64.bits (a : Int) ||| BitVec.ofInt IntKind.i64.bits (b : Int)).toNat : Int) = _
  rw [e]
  exact w64 (by omega)
def setN (ks : List Nd) (i : Nat) : Nat := 256 * (kbits ks i).1 + (kbits ks i).2
theorem setN_bit : ∀ i, i < 16 → (if i < 8 then 256 * (128 / 2 ^ (i % 8)) else 128 / 2 ^ (i % 8)) = 2 ^ (15 - i) := by decide
theorem setN_yes {ks : List Nd} {i : Nat} (h : i < 16) (hk : (ks.getD i noneN).kind ≠ 0) : setN ks (i + 1) = setN ks i + 2 ^ (15 - i) := by
  have h1 := setN_bit i h
  unfold setN
  rw [kbits_succ]
  unfold kbit
  rw [if_pos hk]
  by_cases h8 : i < 8
  · rw [if_pos h8] at h1 ⊢
    dsimp only; omega
  · rw [if_neg h8] at h1 ⊢
    dsimp only; omega
theorem setN_no {ks : List Nd} {i : Nat} (hk : (ks.getD i noneN).kind = 0) : setN ks (i + 1) = setN ks i := by
  have hb : kbit ks i = 0 := by unfold kbit; rw [if_neg (fun h => h hk)]
  unfold setN
  rw [kbits_succ, hb]
  split <;> rfl
theorem setN_dvd (ks : List Nd) : ∀ i, i ≤ 16 → 2 ^ (16 - i) ∣ setN ks i
  | 0, _ => ⟨0, rfl⟩
  | i + 1, h => by
    have ih := setN_dvd ks i (by omega)
    have h1 : 2 ^ (16 - i) = 2 ^ (16 - (i + 1)) * 2 := by rw [← Nat.pow_succ]; congr 1; omega
    have h2 : 2 ^ (16 - (i + 1)) ∣ setN ks i := Nat.dvd_trans ⟨2, h1⟩ ih
    by_cases hk : (ks.getD i noneN).kind = 0
    · rw [setN_no hk]; exact h2
    · rw [setN_yes (by omega) hk]
      exact Nat.dvd_add h2 (by rw [show 16 - (i + 1) = 15 - i by omega]; exact Nat.dvd_refl _)
theorem setN_lt (ks : List Nd) {i : Nat} (h : i ≤ 16) : setN ks i < 65536 := by
  have := kbits_le ks i h
  unfold setN; omega
theorem setN_or {ks : List Nd} {i : Nat} (h : i < 16) (hk : (ks.getD i noneN).kind ≠ 0) : bits .or .i64 (setN ks i : Int) ((2 ^ (15 - i) : Nat) : Int) = (setN ks (i + 1) : Int) := by
  have hp : 2 ^ (15 - i) < 2 ^ 62 := Nat.pow_lt_pow_right (by decide) (by omega)
  rw [orN (by have := setN_lt ks (Nat.le_of_lt h); omega) hp, setN_yes h hk]
  obtain ⟨a, ha⟩ := setN_dvd ks i (by omega)
  rw [ha, Nat.two_pow_add_eq_or_of_lt (Nat.pow_lt_pow_right (by decide) (by omega))]
theorem shl15 {i : Nat} (h : i < 16) : IntKind.i64.wrap (1 * 2 ^ (min (((15 - i : Nat) : Int)).toNat IntKind.i64.bits)) = ((2 ^ (15 - i) : Nat) : Int) := by
  have key : ∀ i, i < 16 → IntKind.i64.wrap (1 * 2 ^ (min (((15 - i : Nat) : Int)).toNat IntKind.i64.bits)) = ((2 ^ (15 - i) : Nat) : Int) := by decide
  exact key i h
theorem is_npack : isFn Try.prog 65 = true := by kernel_rfl
theorem is_npb : isFn Try.prog 36 = true := by kernel_rfl
end Go.Proofs.Ytliccofjlheceaa
namespace Go.Proofs.Ytliccofjlheceaa
open Go.RowKit
structure It where
  path : List UInt8
  val : List UInt8
  stub : Bool
  known : Bool
  hash : List UInt8
def dI (x : It) : List D := [dB x.path, dB x.val, .v (.bool x.stub), .v (.bool x.known), dB x.hash]
theorem dI_len (x : It) : (dI x).length = 5 := rfl
def dIs (l : List It) : List D := l.flatMap dI
abbrev dIl (l : List It) : D := .sl 5 l.length (dIs l)
theorem dIs_app (a b : List It) : dIs (a ++ b) = dIs a ++ dIs b := by unfold dIs; rw [List.flatMap_append]
theorem sli : slOf Try.prog 95 = some (98, 5) := by kernel_rfl
theorem agg_it : aggOf Try.prog 98 = some (true, 5) := by kernel_rfl
theorem fI0 : fieldOff Try.prog 98 0 = some 0 := by kernel_rfl
theorem fI1 : fieldOff Try.prog 98 1 = some 1 := by kernel_rfl
theorem fI2 : fieldOff Try.prog 98 2 = some 2 := by kernel_rfl
theorem fI3 : fieldOff Try.prog 98 3 = some 3 := by kernel_rfl
theorem fI4 : fieldOff Try.prog 98 4 = some 4 := by kernel_rfl
def zI : List Value := [.slice none 0 0, .slice none 0 0, .bool false, .bool false, .slice none 0 0]
theorem pl_it : placesOf Try.prog 98 = some [(0, 1), (1, 1), (2, 1), (3, 1), (4, 1)] := by kernel_rfl
theorem z_it : zeroOf Try.prog 98 = some zI := by kernel_rfl
theorem itinfo : (Try.prog.info? 98).map (fun i => (i.zero, i.size, i.bytes)) = some (some (.agg zI.toArray), 5, 80) := by kernel_rfl
def ics (x : It) (Ap : Option Addr) (cp : Nat) (Av : Option Addr) (cv : Nat) (Ah : Option Addr) (ch : Nat) : List Value := [.slice Ap x.path.length cp, .slice Av x.val.length cv, .bool x.stub, .bool x.known, .slice Ah x.hash.length ch]
theorem RdL.item {W : World} {F : Nat → Prop} {x : It} {cs : List Value} (h : RdL W F (dI x) cs) : ∃ Ap cp Av cv Ah ch, cs = ics x Ap cp Av cv Ah ch ∧ RdD W F (dB x.path) (.slice Ap x.path.length cp) ∧ RdD W F (dB x.val) (.slice Av x.val.length cv) ∧ RdD W F (dB x.hash) (.slice Ah x.hash.length ch) := by
  obtain ⟨u0, _, rfl, h0, h⟩ := (show RdL W F [dB x.path, dB x.val, .v (.bool x.stub), .v (.bool x.known), dB x.hash] cs from h).uncons
  obtain ⟨u1, _, rfl, h1, h⟩ := h.uncons
  obtain ⟨u2, _, rfl, h2, h⟩ := h.uncons
  obtain ⟨u3, _, rfl, h3, h⟩ := h.uncons
  obtain ⟨u4, _, rfl, h4, h⟩ := h.uncons
  rw [h.isnil]
  obtain ⟨A0, c0, e0, _⟩ := h0.open_
  obtain ⟨A1, c1, e1, _⟩ := h1.open_
  obtain ⟨A4, c4, e4, _⟩ := h4.open_
  have e2 := RdD.val.1 h2
  have e3 := RdD.val.1 h3
  subst e0; subst e1; subst e2; subst e3; subst e4
  exact ⟨A0, c0, A1, c1, A4, c4, rfl, h0, h1, h4⟩
/-- An item of a slice that stays. -/
theorem St.item {w W : World} {gs : List (Option Nat)} {L : Lc} {R : List Row} {fs : List Fact} (M : St w gs W L R fs) {l : List It} {A : Option Addr} {n c i : Nat} {x : It} (h : RdD W (Fd W (own L R gs)) (dIl l) (.slice A n c)) (hi : l[i]? = some x) :
    ∃ b off Ap cp Av cv Ah ch, A = some ⟨b, off, none⟩ ∧ St w gs W L R (.loc ((⟨b, off, none⟩ : Addr).add (i * 5)) (ics x Ap cp Av cv Ah ch) :: .dat false (dI x) (ics x Ap cp Av cv Ah ch) :: .dat false [dB x.path] [.slice Ap x.path.length cp] :: .dat false [dB x.val] [.slice Av x.val.length cv] :: .dat false [dB x.hash] [.slice Ah x.hash.length ch] :: fs) := by
  obtain ⟨b, off, es, e, hF, hes, hel, hc⟩ := RdD.elt dI 5 dI_len h hi
  have hes' := hes
  obtain ⟨Ap, cp, Av, cv, Ah, ch, rfl, h1, h2, h3⟩ := hes.item
  exact ⟨b, off, Ap, cp, Av, cv, Ah, ch, e, ((((M.addD h3).addD h2).addD h1).addL hes').addC (by rw [block_of_add]; exact hF) hc⟩
mutual
def itemsP : Nd → List UInt8 → Bool → List It
  | .mk k p has v ks h, way, known =>
    if k = 4 then [⟨way ++ p, [], true, known, h⟩]
    else (if k = 1 ∨ has = true then [⟨way ++ p, v, false, false, []⟩] else []) ++ itemsK ks (decide (k = 3)) (decide (k = 2)) 0 (way ++ p)
def itemsK : List Nd → Bool → Bool → Nat → List UInt8 → List It
  | [], _, _, _, _ => []
  | t :: ts, br, known, i, at_ => itemsP t (if br then at_ ++ [UInt8.ofNat i] else at_) known ++ itemsK ts br known (i + 1) at_
end
end Go.Proofs.Ytliccofjlheceaa
