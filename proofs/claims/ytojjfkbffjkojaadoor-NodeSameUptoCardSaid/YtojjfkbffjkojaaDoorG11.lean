/- Halves of bytes: packed and unpacked: the program's own. Halves of bytes: unpacked; compared: the program's own. Halves of bytes: the reference's walks. Halves of bytes: the reference's walks of what is packed. -/
import Derived.Test.YtojjfkbffjkojaaDoorG07
import Derived.Test.YtojjfkbffjkojaaDoorG03
namespace Go.Proofs.YtojjfkbffjkojaaDoor
open Go.RowKit

theorem bytesE_no {l : List UInt8} (h : halvesB l = false) : bytesE l = 2 ∧ bytesL l = [] := by simp [bytesE, bytesL, h]
theorem bytesE_odd {l : List UInt8} (h : halvesB l = true) (k : l.length % 2 = 1) : bytesE l = 11 ∧ bytesL l = [] := by simp [bytesE, bytesL, h, k]
theorem bytesE_ok {l : List UInt8} (h : halvesB l = true) (k : l.length % 2 = 0) : bytesE l = 0 ∧ bytesL l = joinB l := by simp [bytesE, bytesL, h, k]
theorem ret_se {A A' : Option Addr} {n n' c c' : Nat} {x y : Int} (h : Value.slice A n c = Value.slice A' n' c') (k : x = y) : Ending.returned (.tuple #[.slice A n c, .int .i64 x]) = Ending.returned (.tuple #[.slice A' n' c', .int .i64 y]) := by rw [h, k]

theorem packE_no {l : List UInt8} (h : halvesB l = false) (leaf : Bool) : packE l = 2 ∧ packL l leaf = [] := by simp [packE, packL, h]
theorem packE_ok {l : List UInt8} (h : halvesB l = true) : packE l = 0 := by simp [packE, h]
theorem packL_even {l : List UInt8} (h : halvesB l = true) (k : l.length % 2 = 0) (leaf : Bool) (x : Int) (hx : x = if leaf = true then 32 else 0) : packL l leaf = [b8 x] ++ joinB l := by simp [packL, h, k, hx]
theorem packL_odd {l : List UInt8} (h : halvesB l = true) (k : l.length % 2 = 1) (leaf : Bool) (x : Int) (hx : x = (if leaf = true then 32 else 0) + 16 + at8 l 0) : packL l leaf = [b8 x] ++ joinB (l.drop 1) := by simp [packL, h, k, hx]
theorem halvesB_dropP {l : List UInt8} (h : halvesB l = true) (k : Nat) : halvesB (l.drop k) = true := by
  unfold halvesB at *
  rw [List.all_eq_true] at *
  exact fun x hx => h x (List.mem_of_mem_drop hx)
theorem or16 (x : Int) (h0 : 0 ≤ x) (h1 : x ≤ 15) : bits .or .u8 16 x = 16 + x := by
  have h : ∀ y : Fin 16, bits .or .u8 16 (y.val : Int) = 16 + (y.val : Int) := by decide +kernel
  have := h ⟨x.toNat, by omega⟩
  simp only [Int.toNat_of_nonneg h0] at this
  exact this
theorem or32 (x : Int) (h0 : 0 ≤ x) (h1 : x ≤ 15) : bits .or .u8 32 (16 + x) = 48 + x := by
  have h : ∀ y : Fin 16, bits .or .u8 32 (16 + (y.val : Int)) = 48 + (y.val : Int) := by decide +kernel
  have := h ⟨x.toNat, by omega⟩
  simp only [Int.toNat_of_nonneg h0] at this
  exact this
theorem or0 (x : Int) (h0 : 0 ≤ x) (h1 : x ≤ 15) : bits .or .u8 0 (16 + x) = 16 + x := by
  have h : ∀ y : Fin 16, bits .or .u8 0 (16 + (y.val : Int)) = 16 + (y.val : Int) := by decide +kernel
  have := h ⟨x.toNat, by omega⟩
  simp only [Int.toNat_of_nonneg h0] at this
  exact this

set_option maxHeartbeats 800000 in
theorem pack_any (A : Option Addr) (n c : Nat) (leaf : Bool) (l : List UInt8) (w : World) (hr : Rd w w.heap.size A n l) (hn : n ≤ 100000000000) (hnc : n ≤ c) :
    Calls Tryd.prog 96 #[.slice A n c, .bool leaf] w fun e w' => ∃ A' n' c', e = .returned (.tuple #[.slice A' n' c', .int .i64 (packE l)]) ∧ Own w' w.heap.size A' n' c' (packL l leaf) ∧ Below w.heap.size w w' := by
  have hln := Lib.hid hr.len
  by_cases hh : halvesB l = true
  · have he := Lib.hid (packE_ok hh)
    by_cases hodd : n % 2 = 1
    · have hl := Lib.hid (packL_odd hh (by rw [hln.out]; omega) leaf _ rfl)
      obtain ⟨b, off, rfl, hc0⟩ := hr.at0 (by omega)
      have h0 := at8_lo l 0
      have h1 := halvesB_at l hh 0
      have ho := or16 _ h0 h1
      have ho2 := or32 _ h0 h1
      have ho3 := or0 _ h0 h1
      have hcA := hr.shift (k := 1) (by omega)
      have hcB : c = 1 → Rd w w.heap.size (some ⟨b, off, none⟩) (n - 1) (l.drop 1) := fun e => hr.gone (by omega)
      have hj := halvesB_dropP hh 1
      cases leaf
      all_goals
        go_enter Tryd.func96, Tryd.ntmps96
        go_wp2_with (first
          | (at_builtin; refine wpList_app rfl _ _ rfl rfl ((Own.lit1 w w.heap.size (Nat.le_refl _) _ (by omega)).below hb2) rfl hown2.rd (by omega) (by have := hb2.size; simp at this; omega) ?_; intro A3 c3 w3 hown3 hg3)
          | (go_at_call 113; refine (halves_any _ _ _ _ _ _ hr hn).mono ?_; rintro e w' ⟨rfl, rfl⟩)
          | (go_at_call 114; ((with_reducible refine (joined_any _ _ _ _ _ (hcA.alloc (Nat.le_refl _) _ |>.more (by simp)) (by omega) hj).mono ?_); rintro e w2 ⟨A2, c2, rfl, hown2, hb2⟩))
          | (go_at_call 114; ((with_reducible refine (joined_any _ _ _ _ _ ((hcB (by assumption)).alloc (Nat.le_refl _) _ |>.more (by simp)) (by omega) hj).mono ?_); rintro e w2 ⟨A2, c2, rfl, hown2, hb2⟩)))
        all_goals go_ret2
        all_goals refine ⟨A3, _, c3, ret_se rfl he.out.symm, by rw [hl.out]; exact hown3, ?_⟩
        all_goals exact (((Below.refl _ _).alloc (Nat.le_refl _) _).trans (hb2.mono (by simp))).grown hg3 (by have := hb2.size; simp at this; omega) (by simp [Value.ownBlock])
    · have hl := Lib.hid (packL_even hh (by rw [hln.out]; omega) leaf _ rfl)
      cases leaf
      all_goals
        go_enter Tryd.func96, Tryd.ntmps96
        go_wp2_with (first
          | (at_builtin; refine wpList_app rfl _ _ rfl rfl ((Own.lit1 w w.heap.size (Nat.le_refl _) _ (by omega)).below hb2) rfl hown2.rd (by omega) (by have := hb2.size; simp at this; omega) ?_; intro A3 c3 w3 hown3 hg3)
          | (go_at_call 113; refine (halves_any _ _ _ _ _ _ hr hn).mono ?_; rintro e w' ⟨rfl, rfl⟩)
          | (go_at_call 114; refine (joined_any _ _ _ _ _ (hr.alloc (Nat.le_refl _) _ |>.more (by simp)) hn hh).mono ?_; rintro e w2 ⟨A2, c2, rfl, hown2, hb2⟩))
        go_ret2
        refine ⟨A3, _, c3, ret_se rfl he.out.symm, by rw [hl.out]; exact hown3, ?_⟩
        exact (((Below.refl _ _).alloc (Nat.le_refl _) _).trans (hb2.mono (by simp))).grown hg3 (by have := hb2.size; simp at this; omega) (by simp [Value.ownBlock])
  · have hh' : halvesB l = false := by simpa using hh
    obtain ⟨he, hl⟩ := packE_no hh' leaf
    have He := Lib.hid he
    have Hl := Lib.hid hl
    clear he hl hh
    go_enter Tryd.func96, Tryd.ntmps96
    go_wp2_with (go_at_call 113; refine (halves_any _ _ _ _ _ _ hr hn).mono ?_; rintro e w' ⟨rfl, rfl⟩)
    go_ret2
    exact ⟨none, 0, 0, ret_se rfl He.out.symm, by rw [Hl.out]; exact Own.nil_ _ _, Below.refl _ _⟩
end Go.Proofs.YtojjfkbffjkojaaDoor
namespace Go.Proofs.YtojjfkbffjkojaaDoor
open Go.RowKit

theorem and16_1 (x : Int) (h0 : 0 ≤ x) (h1 : x ≤ 255) (h : x / 16 % 2 = 1) : bits .and .u8 x 16 = 16 := by
  have key : ∀ y : Fin 256, (y.val : Int) / 16 % 2 = 1 → bits .and .u8 (y.val : Int) 16 = 16 := by decide +kernel
  have := key ⟨x.toNat, by omega⟩
  simp only [Int.toNat_of_nonneg h0] at this
  exact this h
theorem and16_0 (x : Int) (h0 : 0 ≤ x) (h1 : x ≤ 255) (h : ¬ x / 16 % 2 = 1) : bits .and .u8 x 16 = 0 := by
  have key : ∀ y : Fin 256, ¬ (y.val : Int) / 16 % 2 = 1 → bits .and .u8 (y.val : Int) 16 = 0 := by decide +kernel
  have := key ⟨x.toNat, by omega⟩
  simp only [Int.toNat_of_nonneg h0] at this
  exact this h
theorem and32_1 (x : Int) (h0 : 0 ≤ x) (h1 : x ≤ 255) (h : x / 32 % 2 = 1) : bits .and .u8 x 32 = 32 := by
  have key : ∀ y : Fin 256, (y.val : Int) / 32 % 2 = 1 → bits .and .u8 (y.val : Int) 32 = 32 := by decide +kernel
  have := key ⟨x.toNat, by omega⟩
  simp only [Int.toNat_of_nonneg h0] at this
  exact this h
theorem and32_0 (x : Int) (h0 : 0 ≤ x) (h1 : x ≤ 255) (h : ¬ x / 32 % 2 = 1) : bits .and .u8 x 32 = 0 := by
  have key : ∀ y : Fin 256, ¬ (y.val : Int) / 32 % 2 = 1 → bits .and .u8 (y.val : Int) 32 = 0 := by decide +kernel
  have := key ⟨x.toNat, by omega⟩
  simp only [Int.toNat_of_nonneg h0] at this
  exact this h
theorem unpack_nil {b : List UInt8} (h : b.length = 0) : unpackE b = 10 ∧ unpackB b = false ∧ unpackL b = [] := by simp [unpackE, unpackB, unpackL, h]
theorem unpack_no {b : List UInt8} (h : b.length ≠ 0) (k : unpackOk b = false) : unpackE b = 11 ∧ unpackB b = false ∧ unpackL b = [] := by simp [unpackE, unpackB, unpackL, h, k]
theorem unpack_ok {b : List UInt8} (h : b.length ≠ 0) (k : unpackOk b = true) : unpackE b = 0 ∧ unpackB b = decide (at8 b 0 / 32 % 2 = 1) ∧ unpackL b = (if at8 b 0 / 16 % 2 = 1 then [b8 (at8 b 0 % 16)] else []) ++ ofB (b.drop 1) := by simp [unpackE, unpackB, unpackL, h, k]
theorem ret_sbe {A A' : Option Addr} {n n' c c' : Nat} {p q : Bool} {x y : Int} (h : Value.slice A n c = Value.slice A' n' c') (hp : p = q) (k : x = y) :
    Ending.returned (.tuple #[.slice A n c, .bool p, .int .i64 x]) = Ending.returned (.tuple #[.slice A' n' c', .bool q, .int .i64 y]) := by rw [h, hp, k]

set_option maxHeartbeats 1600000 in
theorem unpack_any (A : Option Addr) (n c : Nat) (l : List UInt8) (w : World) (hr : Rd w w.heap.size A n l) (hn : n ≤ 100000000000) (hnc : n ≤ c) :
    Calls Tryd.prog 87 #[.slice A n c] w fun e w' => ∃ A' n' c', e = .returned (.tuple #[.slice A' n' c', .bool (unpackB l), .int .i64 (unpackE l)]) ∧ Own w' w.heap.size A' n' c' (unpackL l) ∧ Below w.heap.size w w' := by
  have hln := Lib.hid hr.len
  rcases Nat.eq_zero_or_pos n with h0 | h0
  · subst h0
    have hd := Lib.hid (unpack_nil hln.out)
    go_enter Tryd.func87, Tryd.ntmps87
    go_wp2
    go_ret3
    exact ⟨none, 0, 0, ret_sbe rfl hd.out.2.1.symm hd.out.1.symm, by rw [hd.out.2.2]; exact Own.nil_ _ _, Below.refl _ _⟩
  · obtain ⟨b, off, rfl, hc0⟩ := hr.at0 h0
    have x0 := at8_lo l 0
    have x1 := at8_hi l 0
    have hne : l.length ≠ 0 := by rw [hln.out]; omega
    by_cases hx : at8 l 0 < 64
    · by_cases hodd : at8 l 0 / 16 % 2 = 1
      · have hok : unpackOk l = true := by simp [unpackOk, hx, hodd]
        have hd := Lib.hid (unpack_ok hne hok)
        have hm := and16_1 _ x0 x1 hodd
        have hq := Lib.hid hodd
        have hcA := hr.shift (k := 1) (by omega)
        have hcB : c = 1 → Rd w w.heap.size (some ⟨b, off, none⟩) (n - 1) (l.drop 1) := fun e => hr.gone (by omega)
        clear hne hodd hok
        by_cases hlf : at8 l 0 / 32 % 2 = 1
        all_goals
          first
          | have hb32 := and32_1 _ x0 x1 hlf
          | have hb32 := and32_0 _ x0 x1 hlf
          have hlf' := Lib.hid hlf
          clear hlf
          go_enter Tryd.func87, Tryd.ntmps87
          go_wp2_with (at_builtin; refine wpList_app rfl _ _ rfl rfl ((Own.nil_ w w.heap.size).alloc _) rfl (Rd.lit1 _ _ (by omega)) (by omega) (by simp) ?_; intro A1 c1 w1 hown1 hg1)
          all_goals
            have hb1 := below_new _ (below_nil rfl hg1)
            (first
              | ((with_reducible refine (of_any _ _ _ _ _ (hcA.up hb1) (by omega)).mono ?_); rintro e w2 ⟨A2, c2, rfl, hown2, hb2⟩)
              | ((with_reducible refine (of_any _ _ _ _ _ ((hcB (by assumption)).up hb1) (by omega)).mono ?_); rintro e w2 ⟨A2, c2, rfl, hown2, hb2⟩))
            go_wp2_with (at_builtin; refine wpList_app rfl _ _ rfl rfl (hown1.below hb2) rfl hown2.rd (by omega) (by have := hb2.size; have := hb1.size; omega) ?_; intro A3 c3 w3 hown3 hg3)
            go_ret3
            refine ⟨A3, _, c3, ret_sbe rfl (by rw [hd.out.2.1]; simp [hlf'.out]) hd.out.1.symm, ?_, below_own (hb1.trans (hb2.mono hb1.size)) (hown1.below hb2) hg3⟩
            rw [hd.out.2.2, if_pos hq.out]
            exact hown3
      · have hm := and16_0 _ x0 x1 hodd
        by_cases hz : at8 l 0 % 16 = 0
        · have hok : unpackOk l = true := by simp [unpackOk, hx, hz]
          have hd := Lib.hid (unpack_ok hne hok)
          have hq := Lib.hid hodd
          have hz' : (at8 l 0 % 16 != 0) = false := by simp [hz]
          have hcA := hr.shift (k := 1) (by omega)
          have hcB : c = 1 → Rd w w.heap.size (some ⟨b, off, none⟩) (n - 1) (l.drop 1) := fun e => hr.gone (by omega)
          clear hne hodd hok hz
          by_cases hlf : at8 l 0 / 32 % 2 = 1
          all_goals
            first
            | have hb32 := and32_1 _ x0 x1 hlf
            | have hb32 := and32_0 _ x0 x1 hlf
            have hlf' := Lib.hid hlf
            clear hlf
            go_enter Tryd.func87, Tryd.ntmps87
            go_wp2_with fail
            all_goals
              (first
                | ((with_reducible refine (of_any _ _ _ _ _ hcA (by omega)).mono ?_); rintro e w2 ⟨A2, c2, rfl, hown2, hb2⟩)
                | ((with_reducible refine (of_any _ _ _ _ _ (hcB (by assumption)) (by omega)).mono ?_); rintro e w2 ⟨A2, c2, rfl, hown2, hb2⟩))
              go_wp2_with (at_builtin; refine wpList_app rfl _ _ rfl rfl (Own.nil_ w2 w.heap.size) rfl hown2.rd (by omega) (by have := hb2.size; omega) ?_; intro A3 c3 w3 hown3 hg3)
              go_ret3
              refine ⟨A3, _, c3, ret_sbe rfl (by rw [hd.out.2.1]; simp [hlf'.out]) hd.out.1.symm, ?_, below_own hb2 (Own.nil_ w2 w.heap.size) hg3⟩
              rw [hd.out.2.2, if_neg hq.out]
              rw [Nat.zero_add] at hown3
              exact hown3
        · have hok : unpackOk l = false := by simp [unpackOk, hodd, hz]
          have hd := Lib.hid (unpack_no hne hok)
          have hz' : (at8 l 0 % 16 != 0) = true := by simp [hz]
          clear hne hok hodd hz
          go_enter Tryd.func87, Tryd.ntmps87
          go_wp2
          go_ret3
          exact ⟨none, 0, 0, ret_sbe rfl hd.out.2.1.symm hd.out.1.symm, by rw [hd.out.2.2]; exact Own.nil_ _ _, Below.refl _ _⟩
    · have hok : unpackOk l = false := by simp [unpackOk, hx]
      have hd := Lib.hid (unpack_no hne hok)
      clear hne hok
      go_enter Tryd.func87, Tryd.ntmps87
      go_wp2
      go_ret3
      exact ⟨none, 0, 0, ret_sbe rfl hd.out.2.1.symm hd.out.1.symm, by rw [hd.out.2.2]; exact Own.nil_ _ _, Below.refl _ _⟩

end Go.Proofs.YtojjfkbffjkojaaDoor
namespace Go.Proofs.YtojjfkbffjkojaaDoor
open Go.RowKit

theorem take_set1 (L P : List UInt8) (k : Nat) (x : UInt8) (h : k < L.length) (hp : L.take k = P) : (L.set k x).take (k + 1) = P ++ [x] := by
  subst hp
  rw [take_snoc _ _ (by simpa using h), List.take_set, List.set_eq_of_length_le (by simp; omega)]
  simp [h]
end Go.Proofs.YtojjfkbffjkojaaDoor
namespace Go.Proofs.YtojjfkbffjkojaaDoor
open Go.RowKit

set_option maxHeartbeats 800000 in
theorem refBytes_any (A : Option Addr) (n c : Nat) (l : List UInt8) (w : World) (hr : Rd w w.heap.size A n l) (hn : n ≤ 100000000000) :
    Calls Tryd.prog 103 #[.slice A n c] w fun e w' => ∃ A' n' c', e = .returned (.tuple #[.slice A' n' c', .int .i64 (bytesE l)]) ∧ Own w' w.heap.size A' n' c' (bytesL l) ∧ Below w.heap.size w w' := by
  have hln := Lib.hid hr.len
  by_cases hh : halvesB l = true
  · by_cases hodd : n % 2 = 1
    · have He := Lib.hid (bytesE_odd hh (by rw [hln.out]; exact hodd))
      go_enter Tryd.func103, Tryd.ntmps103
      go_wp2_with (go_at_call 102; refine (right_any _ _ _ _ _ _ hr hn).mono ?_; rintro e w' ⟨rfl, rfl⟩)
      go_ret2
      exact ⟨none, 0, 0, ret_se rfl He.out.1.symm, by rw [He.out.2]; exact Own.nil_ _ _, Below.refl _ _⟩
    · have He := Lib.hid (bytesE_ok hh (by rw [hln.out]; omega))
      go_enter Tryd.func103, Tryd.ntmps103
      go_wp2_with (first
        | (at_make; refine wpList_mk rfl _ _ rfl (n := n / 2) rfl rfl (by omega) (by omega) (by omega) (Nat.le_refl _) ?_; intro w1 hown1 hg1)
        | (go_at_call 102; refine (right_any _ _ _ _ _ _ hr hn).mono ?_; rintro e w' ⟨rfl, rfl⟩))
      have hb1 : Below w.heap.size w w1 := (Below.refl _ _).grown hg1 (Nat.le_refl _) (by intro k h; cases h)
      have Hh := Lib.hid hh
      clear hh
      go_loopw [5] (fun i wr => ∃ (k : Nat) (L : List UInt8), k ≤ n / 2 ∧ i = .int .i64 k ∧ Own wr w.heap.size (some ⟨w.heap.size, 0, none⟩) (n / 2) (n / 2) L ∧ L.take k = joinB (l.take (2 * k)) ∧ Below w.heap.size w wr) (fun i _ => n - (intOf i).toNat)
      case atStart => exact ⟨0, _, Nat.zero_le _, rfl, hown1, rfl, hb1⟩
      case round =>
        obtain ⟨k, L, hk, rfl, hown, ht, hb⟩ := hrel
        have Ht := Lib.hid ht
        clear ht
        have hLn := Lib.hid hown.len
        by_cases hlt : k < n / 2
        · obtain ⟨bb, off, rfl, hbl, hc⟩ := (hr.below hb).atB (k := 2 * k) (by omega)
          obtain ⟨bb', off', e, hc'⟩ := (hr.below hb).at_ (k := 2 * k + 1) (by omega)
          injection e with e
          injection e with e1 e2
          subst e1 e2
          have h0 := at8_lo l (2 * k)
          have h1 := at8_lo l (2 * k + 1)
          have h2 := halvesB_at l Hh.out (2 * k)
          have h3 := halvesB_at l Hh.out (2 * k + 1)
          have hs1 := hown.cell (j := k) (by omega)
          have hf1 := hown.free k
          have Hown2 := Lib.hid (hown.set (j := k) (x := 16 * at8 l (2 * k) + at8 l (2 * k + 1)) (by omega) (by omega))
          have Hb2 := Lib.hid (hb.setCell (p := ⟨w.heap.size, k, none⟩) (Nat.le_refl _) (.int .u8 (16 * at8 l (2 * k) + at8 l (2 * k + 1))))
          have hj := Lib.hid (joinB_take8 l k (by rw [hln.out]; omega) Hh.out)
          have hw1 : IntKind.i64.wrap (2 * (k : Int)) = 2 * (k : Int) := IntWalk.i64_in _ (by omega)
          have hw9 : IntKind.i64.wrap (2 * (k : Int) + 1) = 2 * (k : Int) + 1 := IntWalk.i64_in _ (by omega)
          have hw2 : (2 * (k : Int)).toNat = 2 * k := by omega
          have hw4 : (2 * (k : Int) + 1).toNat = 2 * k + 1 := by omega
          have hw5 : (0 : Int) ≤ 2 * (k : Int) := by omega
          have hw6 : (2 * (k : Int)) < (n : Int) := by omega
          have hw7 : (0 : Int) ≤ 2 * (k : Int) + 1 := by omega
          have hw8 : (2 * (k : Int) + 1) < (n : Int) := by omega
          have hw3 : IntKind.u8.wrap (16 * at8 l (2 * k)) = 16 * at8 l (2 * k) := IntWalk.u8_in _ (by omega)
          have hw0 : IntKind.u8.wrap (16 * at8 l (2 * k) + at8 l (2 * k + 1)) = 16 * at8 l (2 * k) + at8 l (2 * k + 1) := IntWalk.u8_in _ (by omega)
          go_wp2
          go_region
          all_goals
            clear hw1 hw9 hw2 hw4 hw5 hw6 hw7 hw8 hw3 hw0 hc hc' hs1 hf1 hown hb
            go_wp2
            go_roundw
            case rel => exact ⟨k + 1, _, by omega, by go_num, Hown2.out.drew, by rw [hj.out, Int.mul_comm (at8 l (2 * k)) 16]; exact take_set1 L _ k _ (by rw [hLn.out]; omega) Ht.out, Hb2.out.drew⟩
            case measure => simp [intOf]; omega
        · have hkn : k = n / 2 := by omega
          have hend := Lib.hid (joinB_all l k (by rw [hln.out]; omega) (by rw [hln.out]; omega))
          subst hkn
          go_wp2
          go_ret2
          refine ⟨_, _, _, ret_se rfl He.out.1.symm, ?_, hb⟩
          rw [He.out.2, ← hend.out, ← Ht.out, List.take_of_length_le (by rw [hLn.out]; omega)]
          exact hown
  · have hh' : halvesB l = false := by simpa using hh
    have He := Lib.hid (bytesE_no hh')
    clear hh
    go_enter Tryd.func103, Tryd.ntmps103
    go_wp2_with (go_at_call 102; refine (right_any _ _ _ _ _ _ hr hn).mono ?_; rintro e w' ⟨rfl, rfl⟩)
    go_ret2
    exact ⟨none, 0, 0, ret_se rfl He.out.1.symm, by rw [He.out.2]; exact Own.nil_ _ _, Below.refl _ _⟩

theorem halvesB_cons (x : UInt8) (l : List UInt8) (hx : x ≤ 15) (h : halvesB l = true) : halvesB (x :: l) = true := by
  unfold halvesB at *; rw [List.all_cons, h]; simp [hx]
theorem b8_le (x : Int) (h0 : 0 ≤ x) (h1 : x ≤ 15) : b8 x ≤ 15 := by
  unfold b8; rw [UInt8.le_iff_toNat_le, UInt8.toNat_ofNat']; simp; omega
theorem refPack_odd {l : List UInt8} (h : halvesB l = true) (k : l.length % 2 = 1) (leaf : Bool) (x : Int) (hx : x = if leaf = true then 3 else 1) :
    bytesE ([b8 x] ++ l) = 0 ∧ bytesL ([b8 x] ++ l) = packL l leaf := by
  have hx' : 0 ≤ x ∧ x ≤ 15 := by subst hx; split <;> omega
  have hh : halvesB (b8 x :: l) = true := halvesB_cons _ _ (b8_le x hx'.1 hx'.2) h
  obtain ⟨h1, h2⟩ := bytesE_ok (l := [b8 x] ++ l) hh (by simp; omega)
  refine ⟨h1, ?_⟩
  rw [h2, packL_odd h k leaf _ rfl]
  rcases l with _ | ⟨y, l⟩
  · simp at k
  · simp only [List.cons_append, List.nil_append, joinB, List.drop_succ_cons, List.drop_zero]
    congr 1
    have hy : y ≤ 15 := halvesB_le _ h y (by simp)
    have e : at8 (y :: l) 0 = (y.toNat : Int) := rfl
    rw [e]
    have := b8_add (b8 x) y (b8_le x hx'.1 hx'.2) hy
    rw [← this]
    congr 1
    subst hx
    cases leaf <;> simp [b8] <;> omega
theorem refPack_even {l : List UInt8} (h : halvesB l = true) (k : l.length % 2 = 0) (leaf : Bool) (x : Int) (hx : x = if leaf = true then 2 else 0) :
    bytesE ([b8 x] ++ [b8 0] ++ l) = 0 ∧ bytesL ([b8 x] ++ [b8 0] ++ l) = packL l leaf := by
  have hx' : 0 ≤ x ∧ x ≤ 15 := by subst hx; split <;> omega
  have hh : halvesB (b8 x :: b8 0 :: l) = true := halvesB_cons _ _ (b8_le x hx'.1 hx'.2) (halvesB_cons _ _ (b8_le 0 (by omega) (by omega)) h)
  obtain ⟨h1, h2⟩ := bytesE_ok (l := [b8 x] ++ [b8 0] ++ l) hh (by simp; omega)
  refine ⟨h1, ?_⟩
  rw [h2, packL_even h k leaf _ rfl]
  simp only [List.cons_append, List.nil_append, joinB]
  congr 1
  have := b8_add (b8 x) (b8 0) (b8_le x hx'.1 hx'.2) (b8_le 0 (by omega) (by omega))
  rw [← this]
  congr 1
  subst hx
  cases leaf <;> simp [b8]

set_option maxHeartbeats 1600000 in
theorem refPack_any (A : Option Addr) (n c : Nat) (leaf : Bool) (l : List UInt8) (w : World) (hr : Rd w w.heap.size A n l) (hn : n ≤ 10000000000) :
    Calls Tryd.prog 83 #[.slice A n c, .bool leaf] w fun e w' => ∃ A' n' c', e = .returned (.tuple #[.slice A' n' c', .int .i64 (packE l)]) ∧ Own w' w.heap.size A' n' c' (packL l leaf) ∧ Below w.heap.size w w' := by
  have hln := Lib.hid hr.len
  by_cases hh : halvesB l = true
  · have he := Lib.hid (packE_ok hh)
    by_cases hodd : n % 2 = 1
    · have hl := Lib.hid (refPack_odd hh (by rw [hln.out]; omega) leaf _ rfl)
      have hm : (n : Int) % 2 = 1 := by omega
      cases leaf
      all_goals
        go_enter Tryd.func83, Tryd.ntmps83
        go_wp2_with (first
          | (at_builtin; refine wpList_app rfl _ _ rfl rfl (Own.lit1 w w.heap.size (Nat.le_refl _) _ (by omega)) rfl (hr.upA _) (by omega) (sz1 _ _) ?_; intro A1 c1 w1 hown1 hg1)
          | (go_at_call 102; refine (right_any _ _ _ _ _ _ hr (by omega)).mono ?_; rintro e w' ⟨rfl, rfl⟩))
        have hb1 := below_own ((Below.refl _ _).alloc (Nat.le_refl _) _) (Own.lit1 w w.heap.size (Nat.le_refl _) _ (by omega)) hg1
        refine (refBytes_any _ _ _ _ _ hown1.rd (by omega)).mono ?_
        rintro e w2 ⟨A2, n2, c2, rfl, hown2, hb2⟩
        have e1 := hl.out.1
        have e2 := hl.out.2
        simp only [if_true, if_false, Bool.false_eq_true] at e1 e2
        rw [e1]
        rw [e2] at hown2
        clear e1 e2
        go_wp2
        go_ret2
        exact ⟨A2, n2, c2, ret_se rfl he.out.symm, hown2.less hb1.size, hb1.trans (hb2.mono hb1.size)⟩
    · have hl := Lib.hid (refPack_even hh (by rw [hln.out]; omega) leaf _ rfl)
      have hm : (n : Int) % 2 = 0 := by omega
      cases leaf
      all_goals
        go_enter Tryd.func83, Tryd.ntmps83
        go_wp2_with (first
          | (go_at_call 102; refine (right_any _ _ _ _ _ _ hr (by omega)).mono ?_; rintro e w' ⟨rfl, rfl⟩)
          | (at_builtin; refine wpList_app rfl _ _ rfl rfl ((Own.lit1 w w.heap.size (Nat.le_refl _) _ (by omega)).alloc _) rfl (Rd.lit1H _ _ (World.size_alloc ..) _ (by omega)) (by omega) (sz2 _ _ _) ?_; intro A1 c1 w1 hown1 hg1; have hb1 := below_own (((Below.refl _ _).alloc (Nat.le_refl _) _).alloc (sz1 _ _) _) ((Own.lit1 w w.heap.size (Nat.le_refl _) _ (by omega)).alloc _) hg1)
          | (at_builtin; refine wpList_app rfl _ _ rfl rfl hown1 rfl (hr.up hb1) (by omega) hb1.size ?_; intro A2 c2 w2 hown2 hg2))
        have hb2 := below_own hb1 hown1 hg2
        refine (refBytes_any _ _ _ _ _ hown2.rd (by omega)).mono ?_
        rintro e w3 ⟨A3, n3, c3, rfl, hown3, hb3⟩
        have e1 := hl.out.1
        have e2 := hl.out.2
        simp only [if_true, if_false, Bool.false_eq_true] at e1 e2
        rw [e1]
        rw [e2] at hown3
        clear e1 e2
        go_wp2
        go_ret2
        exact ⟨A3, n3, c3, ret_se rfl he.out.symm, hown3.less hb2.size, hb2.trans (hb3.mono hb2.size)⟩
  · have hh' : halvesB l = false := by simpa using hh
    have He := Lib.hid (packE_no hh' leaf)
    clear hh
    go_enter Tryd.func83, Tryd.ntmps83
    go_wp2_with (go_at_call 102; refine (right_any _ _ _ _ _ _ hr (by omega)).mono ?_; rintro e w' ⟨rfl, rfl⟩)
    go_ret2
    exact ⟨none, 0, 0, ret_se rfl He.out.1.symm, by rw [He.out.2]; exact Own.nil_ _ _, Below.refl _ _⟩

end Go.Proofs.YtojjfkbffjkojaaDoor
