/- Halves of bytes: packed and unpacked: the program's own. -/
import Derived.Test.YtlmnkepgljbdiaaNibsW
import Derived.Test.YtlmnkepgljbdiaaStr
namespace Go.Proofs.Ytlmnkepgljbdiaa
open Go.RowKit

theorem bytesE_no {l : List UInt8} (h : halvesB l = false) : bytesE l = 2 ∧ bytesL l = [] := by simp [bytesE, bytesL, h]
theorem bytesE_odd {l : List UInt8} (h : halvesB l = true) (k : l.length % 2 = 1) : bytesE l = 11 ∧ bytesL l = [] := by simp [bytesE, bytesL, h, k]
theorem bytesE_ok {l : List UInt8} (h : halvesB l = true) (k : l.length % 2 = 0) : bytesE l = 0 ∧ bytesL l = joinB l := by simp [bytesE, bytesL, h, k]
theorem ret_se {A A' : Option Addr} {n n' c c' : Nat} {x y : Int} (h : Value.slice A n c = Value.slice A' n' c') (k : x = y) : Ending.returned (.tuple #[.slice A n c, .int .i64 x]) = Ending.returned (.tuple #[.slice A' n' c', .int .i64 y]) := by rw [h, k]

set_option maxHeartbeats 800000 in
theorem bytes_any (A : Option Addr) (n c : Nat) (l : List UInt8) (w : World) (hr : Rd w w.heap.size A n l) (hn : n ≤ 100000000000) :
    Calls Try.prog 21 #[.slice A n c] w fun e w' => ∃ A' n' c', e = .returned (.tuple #[.slice A' n' c', .int .i64 (bytesE l)]) ∧ Own w' w.heap.size A' n' c' (bytesL l) ∧ Below w.heap.size w w' := by
  have hln := Lib.hid hr.len
  by_cases hh : halvesB l = true
  · by_cases hodd : n % 2 = 1
    · obtain ⟨he, hl⟩ := bytesE_odd hh (by rw [hln.out]; exact hodd)
      have He := Lib.hid he
      have Hl := Lib.hid hl
      clear he hl
      go_enter Try.func21, Try.ntmps21
      go_wp2_with (go_at_call 49; refine (halves_any _ _ _ _ _ _ hr hn).mono ?_; rintro e w' ⟨rfl, rfl⟩)
      go_ret2
      exact ⟨none, 0, 0, ret_se rfl He.out.symm, by rw [Hl.out]; exact Own.nil_ _ _, Below.refl _ _⟩
    · obtain ⟨he, hl⟩ := bytesE_ok hh (by rw [hln.out]; omega)
      have He := Lib.hid he
      have Hl := Lib.hid hl
      clear he hl
      go_enter Try.func21, Try.ntmps21
      go_wp2_with (first
        | (go_at_call 49; refine (halves_any _ _ _ _ _ _ hr hn).mono ?_; rintro e w' ⟨rfl, rfl⟩)
        | (go_at_call 50; refine (joined_any _ _ _ _ _ hr hn hh).mono ?_; rintro e w' ⟨A2, c2, rfl, hown2, hb2⟩))
      go_ret2
      exact ⟨A2, n / 2, c2, ret_se rfl He.out.symm, by rw [Hl.out]; exact hown2, hb2⟩
  · have hh' : halvesB l = false := by simpa using hh
    obtain ⟨he, hl⟩ := bytesE_no hh'
    have He := Lib.hid he
    have Hl := Lib.hid hl
    clear he hl hh
    go_enter Try.func21, Try.ntmps21
    go_wp2_with (go_at_call 49; refine (halves_any _ _ _ _ _ _ hr hn).mono ?_; rintro e w' ⟨rfl, rfl⟩)
    go_ret2
    exact ⟨none, 0, 0, ret_se rfl He.out.symm, by rw [Hl.out]; exact Own.nil_ _ _, Below.refl _ _⟩

theorem packE_no {l : List UInt8} (h : halvesB l = false) (leaf : Bool) : packE l = 2 ∧ packL l leaf = [] := by simp [packE, packL, h]
theorem packE_ok {l : List UInt8} (h : halvesB l = true) : packE l = 0 := by simp [packE, h]
theorem packL_even {l : List UInt8} (h : halvesB l = true) (k : l.length % 2 = 0) (leaf : Bool) (x : Int) (hx : x = if leaf = true then 32 else 0) : packL l leaf = [b8 x] ++ joinB l := by simp [packL, h, k, hx]
theorem packL_odd {l : List UInt8} (h : halvesB l = true) (k : l.length % 2 = 1) (leaf : Bool) (x : Int) (hx : x = (if leaf = true then 32 else 0) + 16 + at8 l 0) : packL l leaf = [b8 x] ++ joinB (l.drop 1) := by simp [packL, h, k, hx]
theorem halvesB_drop {l : List UInt8} (h : halvesB l = true) (k : Nat) : halvesB (l.drop k) = true := by
  unfold halvesB at *
  rw [List.all_eq_true] at *
  exact fun x hx => h x (List.mem_of_mem_drop hx)
theorem or16 (x : Int) (h0 : 0 ≤ x) (h1 : x ≤ 15) : bits .or .u8 16 x = 16 + x := by
  have h : ∀ y : Fin 16, bits .or .u8 16 (y.val : Int) = 16 + (y.val : Int) := by decide +kernel
  have := h ⟨x.toNat, by omega⟩
  simp only [Int.toNat_of_nonneg h0] at this
  exact this
theorem or32 (x : Int) (h0 : 0 ≤ x) (h1 : x ≤ 15) : bits .or .u8 32 (16 + x) = 48 + x := by
  have h : ∀ y : Fin 16, bits .or .u8 32 (16 + (y.val : Int)) = 48 + (y.val : Int) := by decide +kernel
  have := h ⟨x.toNat, by omega⟩
  simp only [Int.toNat_of_nonneg h0] at this
  exact this
theorem or0 (x : Int) (h0 : 0 ≤ x) (h1 : x ≤ 15) : bits .or .u8 0 (16 + x) = 16 + x := by
  have h : ∀ y : Fin 16, bits .or .u8 0 (16 + (y.val : Int)) = 16 + (y.val : Int) := by decide +kernel
  have := h ⟨x.toNat, by omega⟩
  simp only [Int.toNat_of_nonneg h0] at this
  exact this

set_option maxHeartbeats 800000 in
theorem pack_any (A : Option Addr) (n c : Nat) (leaf : Bool) (l : List UInt8) (w : World) (hr : Rd w w.heap.size A n l) (hn : n ≤ 100000000000) (hnc : n ≤ c) :
    Calls Try.prog 16 #[.slice A n c, .bool leaf] w fun e w' => ∃ A' n' c', e = .returned (.tuple #[.slice A' n' c', .int .i64 (packE l)]) ∧ Own w' w.heap.size A' n' c' (packL l leaf) ∧ Below w.heap.size w w' := by
  have hln := Lib.hid hr.len
  by_cases hh : halvesB l = true
  · have he := Lib.hid (packE_ok hh)
    by_cases hodd : n % 2 = 1
    · have hl := Lib.hid (packL_odd hh (by rw [hln.out]; omega) leaf _ rfl)
      obtain ⟨b, off, rfl, hc0⟩ := hr.at0 (by omega)
      have h0 := at8_lo l 0
      have h1 := halvesB_at l hh 0
      have ho := or16 _ h0 h1
      have ho2 := or32 _ h0 h1
      have ho3 := or0 _ h0 h1
      have hcA := hr.shift (k := 1) (by omega)
      have hcB : c = 1 → Rd w w.heap.size (some ⟨b, off, none⟩) (n - 1) (l.drop 1) := fun e => hr.gone (by omega)
      have hj := halvesB_drop hh 1
      cases leaf
      all_goals
        go_enter Try.func16, Try.ntmps16
        go_wp2_with (first
          | (at_builtin; refine wpList_app rfl _ _ rfl rfl ((Own.lit1 w w.heap.size (Nat.le_refl _) _ (by omega)).below hb2) rfl hown2.rd (by omega) (by have := hb2.size; simp at this; omega) ?_; intro A3 c3 w3 hown3 hg3)
          | (go_at_call 49; refine (halves_any _ _ _ _ _ _ hr hn).mono ?_; rintro e w' ⟨rfl, rfl⟩)
          | (go_at_call 50; ((with_reducible refine (joined_any _ _ _ _ _ (hcA.alloc (Nat.le_refl _) _ |>.more (by simp)) (by omega) hj).mono ?_); rintro e w2 ⟨A2, c2, rfl, hown2, hb2⟩))
          | (go_at_call 50; ((with_reducible refine (joined_any _ _ _ _ _ ((hcB (by assumption)).alloc (Nat.le_refl _) _ |>.more (by simp)) (by omega) hj).mono ?_); rintro e w2 ⟨A2, c2, rfl, hown2, hb2⟩)))
        all_goals go_ret2
        all_goals refine ⟨A3, _, c3, ret_se rfl he.out.symm, by rw [hl.out]; exact hown3, ?_⟩
        all_goals exact (((Below.refl _ _).alloc (Nat.le_refl _) _).trans (hb2.mono (by simp))).grown hg3 (by have := hb2.size; simp at this; omega) (by simp [Value.ownBlock])
    · have hl := Lib.hid (packL_even hh (by rw [hln.out]; omega) leaf _ rfl)
      cases leaf
      all_goals
        go_enter Try.func16, Try.ntmps16
        go_wp2_with (first
          | (at_builtin; refine wpList_app rfl _ _ rfl rfl ((Own.lit1 w w.heap.size (Nat.le_refl _) _ (by omega)).below hb2) rfl hown2.rd (by omega) (by have := hb2.size; simp at this; omega) ?_; intro A3 c3 w3 hown3 hg3)
          | (go_at_call 49; refine (halves_any _ _ _ _ _ _ hr hn).mono ?_; rintro e w' ⟨rfl, rfl⟩)
          | (go_at_call 50; refine (joined_any _ _ _ _ _ (hr.alloc (Nat.le_refl _) _ |>.more (by simp)) hn hh).mono ?_; rintro e w2 ⟨A2, c2, rfl, hown2, hb2⟩))
        go_ret2
        refine ⟨A3, _, c3, ret_se rfl he.out.symm, by rw [hl.out]; exact hown3, ?_⟩
        exact (((Below.refl _ _).alloc (Nat.le_refl _) _).trans (hb2.mono (by simp))).grown hg3 (by have := hb2.size; simp at this; omega) (by simp [Value.ownBlock])
  · have hh' : halvesB l = false := by simpa using hh
    obtain ⟨he, hl⟩ := packE_no hh' leaf
    have He := Lib.hid he
    have Hl := Lib.hid hl
    clear he hl hh
    go_enter Try.func16, Try.ntmps16
    go_wp2_with (go_at_call 49; refine (halves_any _ _ _ _ _ _ hr hn).mono ?_; rintro e w' ⟨rfl, rfl⟩)
    go_ret2
    exact ⟨none, 0, 0, ret_se rfl He.out.symm, by rw [Hl.out]; exact Own.nil_ _ _, Below.refl _ _⟩
end Go.Proofs.Ytlmnkepgljbdiaa
