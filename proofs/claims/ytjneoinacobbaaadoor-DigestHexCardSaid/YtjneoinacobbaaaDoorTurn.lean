/- Words turned to the right: the walks of bits.RotateLeft32 and of digest's turn. -/
import Derived.Test.YtjneoinacobbaaaDoorArr
namespace Go.Proofs.YtjneoinacobbaaaDoor
open Go.RowKit
/-- Turned to the right. -/
def rotr (x n : Nat) : Nat := ((x <<< (32 - n)) % 4294967296) ||| (x >>> n)
theorem rotr_lt {x : Nat} (n : Nat) (h : x < 4294967296) : rotr x n < 4294967296 := by
  unfold rotr
  have h1 : x >>> n < 2 ^ 32 := by
    rw [Nat.shiftRight_eq_div_pow]
    exact Nat.lt_of_le_of_lt (Nat.div_le_self _ _) h
  exact Nat.or_lt_two_pow (n := 32) (Nat.mod_lt _ (by decide)) h1
theorem d_int : (Tryd.prog.underlying 3).isSome = true := by kernel_rfl
theorem d_uint : Tryd.prog.underlying 34 = some (.int .u64) := by kernel_rfl
theorem is_rot : isFn Tryd.prog 21 = true := by kernel_rfl
theorem is_turn : isFn Tryd.prog 20 = true := by kernel_rfl
set_option maxRecDepth 100000 in
theorem rot_any (x n : Nat) (w : World) (hx : x < 4294967296) (h1 : 1 ≤ n) (h2 : n ≤ 31) :
    Calls Tryd.prog 21 #[.int .u32 x, .int .i64 (-(n : Int))] w fun e w' => e = .returned (.int .u32 (rotr x n : Nat)) ∧ w = w' := by
  refine calls_ev (args := [.int .u32 x, .int .i64 (-(n : Int))]) mixed Tryd.func21 rfl (by kernel_rfl) ?_
  have hb : bits .and .u64 ((18446744073709551616 - n : Nat) : Int) ((31 : Nat) : Int) = ((32 - n : Nat) : Int) := by
    rw [u64_and_nat _ _ (by omega) (by omega), show (31 : Nat) = 2 ^ 5 - 1 by rfl, Nat.and_two_pow_sub_one_eq_mod]
    congr 1
    omega
  have hs : IntKind.u32.wrap ((x : Int) * 2 ^ (min (((32 - n : Nat) : Int)).toNat 32)) = ((x <<< (32 - n)) % 4294967296 : Nat) := by
    rw [Int.toNat_natCast, Nat.min_eq_left (by omega), IntKind.wrap_u32', Nat.shiftLeft_eq, Int.natCast_emod, Int.natCast_mul, Int.natCast_pow]
    rfl
  have hr : (x : Int).fdiv (2 ^ (min ((n : Nat) : Int).toNat 32)) = ((x >>> n : Nat) : Int) := by
    rw [Int.toNat_natCast, Nat.min_eq_left (by omega), Nat.shiftRight_eq_div_pow, Int.fdiv_eq_ediv_of_nonneg _ (Int.le_of_lt (Int.pow_pos (by decide))), Int.natCast_ediv, Int.natCast_pow]
    rfl
  have ho : bits .or .u32 (((x <<< (32 - n)) % 4294967296 : Nat) : Int) ((x >>> n : Nat) : Int) = ((rotr x n : Nat) : Int) := by
    refine u32_or_nat _ _ (Nat.mod_lt _ (by decide)) ?_
    rw [Nat.shiftRight_eq_div_pow]
    exact Nat.lt_of_le_of_lt (Nat.div_le_self _ _) hx
  refine v_cvt d_int d_uint rfl (r := ((18446744073709551616 - n : Nat) : Int)) (by rw [IntKind.wrap_u64]; omega) ?_
  refine p_and rfl rfl hb ?_
  refine p_shl rfl rfl (by omega) hs ?_
  refine p_sub rfl rfl (r := ((n : Nat) : Int)) (by rw [IntKind.wrap_u64]; omega) ?_
  refine p_shr rfl rfl (by omega) hr ?_
  refine p_or rfl rfl ho ?_
  exact ⟨rfl, rfl⟩
set_option maxRecDepth 100000 in
theorem turn_any (x n : Nat) (w : World) (hx : x < 4294967296) (h1 : 1 ≤ n) (h2 : n ≤ 31) :
    Calls Tryd.prog 20 #[.int .u32 x, .int .i64 n] w fun e w' => e = .returned (.int .u32 (rotr x n : Nat)) ∧ w = w' := by
  refine calls_ev (args := [.int .u32 x, .int .i64 n]) mixed Tryd.func20 rfl (by kernel_rfl) ?_
  refine p_neg rfl (r := -(n : Int)) (w64 (by omega) |>.trans (by omega)) ?_
  refine cc is_rot (rot_any x n _ hx h1 h2) ?_
  rintro e w' ⟨rfl, rfl⟩
  exact ⟨_, rfl, rfl, rfl⟩
end Go.Proofs.YtjneoinacobbaaaDoor
