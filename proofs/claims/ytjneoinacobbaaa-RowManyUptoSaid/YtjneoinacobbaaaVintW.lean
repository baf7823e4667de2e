/- Numbers and bytes in one way: the walks of package vint. -/
import Derived.Test.YtjneoinacobbaaaVintL
import Derived.Test.YtjneoinacobbaaaStr
namespace Go.Proofs.Ytjneoinacobbaaa
open Go.RowKit

theorem or128 (x : Int) (h0 : 0 ≤ x) (h1 : x ≤ 255) : bits .or .u8 x 128 = x % 128 + 128 := by
  have h : ∀ y : Fin 256, bits .or .u8 (y.val : Int) 128 = (y.val : Int) % 128 + 128 := by decide +kernel
  have := h ⟨x.toNat, by omega⟩
  simp only [Int.toNat_of_nonneg h0] at this
  exact this

set_option maxRecDepth 100000 in
set_option maxHeartbeats 400000 in
theorem put_any (n : Nat) (w : World) (hlen : (putN n).length ≤ 10) :
    Calls Try.prog 22 #[.int .u64 n] w fun e w' => ∃ A' c', e = .returned (.slice A' (putN n).length c') ∧ Own w' w.heap.size A' (putN n).length c' (putN n) ∧ Below w.heap.size w w' := by
  go_enter Try.func22, Try.ntmps22
  go_wp2
  go_loopw [0, 3] (fun i v wr => ∃ (x : Nat) (o : List UInt8) (k : Nat) (A' : Option Addr) (c' : Nat), i = .int .u64 x ∧ v = .slice A' k c' ∧ Own wr w.heap.size A' k c' o ∧ o ++ putN x = putN n ∧ Below w.heap.size w wr) (fun i _ _ => (intOf i).toNat)
  case atStart => exact ⟨n, [], 0, none, 0, rfl, rfl, Own.nil_ _ _, rfl, Below.refl _ _⟩
  case round =>
    obtain ⟨x, o, k, A', c', rfl, rfl, hown, hx, hb⟩ := hrel
    have hk : k ≤ 10 := by
      have h1 := congrArg List.length hx
      rw [List.length_append, hown.len] at h1
      omega
    have Hx := Lib.hid hx
    clear hx
    by_cases hlt : x < 128
    · have hp := Lib.hid (putN_lt hlt)
      have hw : IntKind.u8.wrap (x : Int) = x := IntWalk.u8_in _ (by omega)
      have hm : (x : Int) % 256 = x := by omega
      go_wp2_with (at_builtin; refine wpList_app rfl _ _ rfl rfl (hown.alloc _) rfl (Rd.lit1 _ _ (by omega)) (by omega) (by simp; have := hb.size; omega) ?_; intro A2 c2 w2 hown2 hg2)
      have hb2 := below_own (belowA hb _) (hown.alloc _) hg2
      go_ret
      have e1 : o ++ [b8 (x : Int)] = putN n := by rw [← hp.out]; exact Hx.out
      rw [e1] at hown2
      have e2 := hown2.len
      exact ⟨A2, c2, ret_slice e2.symm, by rw [e2]; exact hown2, hb2⟩
    · have hp := Lib.hid (putN_ge hlt)
      have hm : IntKind.u8.wrap (x : Int) = (x : Int) % 256 := IntKind.wrap_u8 _
      have ho := or128 ((x : Int) % 256) (by omega) (by omega)
      have he : (x : Int) % 128 + 128 = ((x % 128 + 128 : Nat) : Int) := by omega
      have He := Lib.hid he
      clear he
      go_wp2_with (at_builtin; refine wpList_app rfl _ _ rfl rfl (hown.alloc _) rfl (Rd.lit1 _ _ (by omega)) (by omega) (by simp; have := hb.size; omega) ?_; intro A2 c2 w2 hown2 hg2)
      have hb2 := below_own (belowA hb _) (hown.alloc _) hg2
      clear hm ho
      go_roundw
      case rel => exact ⟨x / 128, o ++ [b8 ((x : Int) % 128 + 128)], k + 1, A2, c2, by go_num, rfl, hown2, by rw [He.out, List.append_assoc, List.singleton_append, ← hp.out]; exact Hx.out, hb2⟩
      case measure => simp [intOf]; omega

set_option maxRecDepth 100000 in
set_option maxHeartbeats 400000 in
theorem putBytes_any (A : Option Addr) (n c : Nat) (l : List UInt8) (w : World) (hr : Rd w w.heap.size A n l) (hn : n ≤ 100000000000) :
    Calls Try.prog 25 #[.slice A n c] w fun e w' => ∃ A' c', e = .returned (.slice A' ((putN n).length + n) c') ∧ Own w' w.heap.size A' ((putN n).length + n) c' (putB l) ∧ Below w.heap.size w w' := by
  have hln := Lib.hid hr.len
  have hlen := putN_len10 (n := n) (by omega)
  have hw : IntKind.u64.wrap (n : Int) = n := IntWalk.u64_in _ (by omega)
  go_enter Try.func25, Try.ntmps25
  go_wp2_with fail
  refine (put_any n _ hlen).mono ?_
  rintro e w1 ⟨A1, c1, rfl, o1, b1⟩
  go_wp2_with (at_builtin; refine wpList_app rfl _ _ rfl rfl o1 rfl (hr.up b1) (by omega) b1.size ?_; intro A2 c2 w2 o2 g2)
  have b2 := below_own b1 o1 g2
  go_ret
  exact ⟨A2, c2, rfl, by unfold putB; rw [hln.out]; exact o2, b2⟩
end Go.Proofs.Ytjneoinacobbaaa
