/- The walks of digest.Hex, digit, Unhex. -/
import Derived.Test.YtjneoinacobbaaaDoorDSums
namespace Go.Proofs.YtjneoinacobbaaaDoor
open Go.RowKit
def hexT : List UInt8 := [48, 49, 50, 51, 52, 53, 54, 55, 56, 57, 97, 98, 99, 100, 101, 102]
def hexd (i : Nat) : UInt8 := hexT.getD i 0
def hex2 (c : UInt8) : List UInt8 := [hexd (c.toNat / 16), hexd (c.toNat % 16)]
def hexL (b : List UInt8) : List UInt8 := b.flatMap hex2
theorem hexL_len (b : List UInt8) : (hexL b).length = 2 * b.length := by
  induction b with
  | nil => rfl
  | cons c b ih => unfold hexL at *; rw [List.flatMap_cons, List.length_append, ih, List.length_cons]; show 2 + _ = _; omega
theorem hexL_take (b : List UInt8) (k : Nat) (h : k < b.length) : hexL (b.take (k + 1)) = hexL (b.take k) ++ hex2 (b.getD k 0) := by
  rw [take_snoc b k h]; unfold hexL; rw [List.flatMap_append]; simp
theorem hex_at {i : Nat} (h : i < 16) : ({ data := #[48, 49, 50, 51, 52, 53, 54, 55, 56, 57, 97, 98, 99, 100, 101, 102] } : ByteArray)[i]? = some (hexd i) := by
  have : ∀ i : Fin 16, ({ data := #[48, 49, 50, 51, 52, 53, 54, 55, 56, 57, 97, 98, 99, 100, 101, 102] } : ByteArray)[i.val]? = some (hexd i.val) := by decide +kernel
  exact this ⟨i, h⟩
theorem shr4 {x : Nat} (h : x < 256) : ((x : Nat) : Int).fdiv (2 ^ (min ((4 : Int)).toNat 8)) = ((x / 16 : Nat) : Int) := by
  rw [Int.fdiv_eq_ediv_of_nonneg _ (by decide)]
  show (x : Int) / 16 = _
  omega
theorem and15N {x : Nat} (h : x < 256) : bits .and .u8 (x : Int) 15 = ((x % 16 : Nat) : Int) := by
  have key : ∀ y : Fin 256, bits .and .u8 ((y.val : Nat) : Int) 15 = ((y.val % 16 : Nat) : Int) := by decide +kernel
  exact key ⟨x, h⟩
theorem u_str' : Tryd.prog.underlying 9 = some .string := by kernel_rfl
set_option maxRecDepth 100000 in
theorem hex_any (A : Option Addr) (n c : Nat) (b : List UInt8) (w : World) (hr : Rd w w.heap.size A n b) (hs : n ≤ 100000000) :
    Calls Tryd.prog 15 #[.slice A n c] w fun e w' => e = .returned (.string (sb (hexL b))) ∧ Below w.heap.size w w' := by
  refine calls_ev (args := [.slice A n c]) mixed Tryd.func15 rfl (by kernel_rfl) ?_
  have hl := hr.len
  refine p_len slb rfl ?_
  have A0 : At w w [none] := (At.start (gs := []) (by simp)).new (Below.refl _ _) (fun b e => by cases e)
  refine lp (Nat × Option Addr × Nat) (fun s W => s.1 ≤ n ∧ Own W w.heap.size s.2.1 (2 * s.1) s.2.2 (hexL (b.take s.1)) ∧ At w W [bk s.2.1]) (fun s => [(3, .slice s.2.1 (2 * s.1) s.2.2), (6, .slice A n c), (7, .int .i64 n), (8, .int .i64 s.1)]) (fun s => n - s.1) (0, none, 0) ⟨Nat.zero_le _, Own.nil_ _ _, A0⟩ ⟨rfl, rfl, rfl, rfl, trivial⟩ ?_
  rintro ⟨i, A1, c1⟩ E W ⟨hi, o1, A1'⟩
  dsimp only at hi o1 A1'
  refine p_lt rfl rfl (fun hlt => ?_) (fun hge => ?_)
  · obtain ⟨bb, off, rfl, hc⟩ := (hr.below A1'.below).at_ (k := i) (by omega)
    refine p_at slb rfl rfl rfl (by omega) ?_
    refine v_load agg_by rfl (by rw [Addr.add_lit, Nat.mul_one]; exact hc) ?_
    have hx : (b.getD i 0).toNat < 256 := (b.getD i 0).toNat_lt
    refine dr0 [(0, true), (1, true), (2, true), (3, true), (4, true), (5, true), (6, true), (7, false), (8, false), (9, true)] (by kernel_rfl) ?_
    refine p_shr rfl rfl (by decide) (shr4 hx) ?_
    refine p_atS u_str' rfl rfl rfl (hex_at (by omega)) ?_
    refine p_and rfl rfl (and15N hx) ?_
    refine p_atS u_str' rfl rfl rfl (hex_at (by omega)) ?_
    refine v_litB _ (hex2 (b.getD i 0)) (by decide) rfl rfl rfl A1'.drew ?_
    rintro g2 W2 hg2 o2 s2 A2 b2 hs2
    refine ⟨trivial, ?_⟩
    refine v_appS rfl ((o1.drew).below b2) rfl o2.rd (by omega) A2 ?_
    rintro A3 c3 W3 o3 s3 A3' - h3
    refine ⟨trivial, ?_⟩
    refine p_add rfl rfl (r := ((i + 1 : Nat) : Int)) ((w64 (by omega)).trans (by omega)) ?_
    exact ⟨(i + 1, A3, c3), ⟨by dsimp only; omega, by dsimp only; rw [hexL_take b i (by omega)]; exact o3, A3'⟩, ⟨rfl, rfl, rfl, rfl, trivial⟩, by dsimp only; omega⟩
  · have hin : i = n := by omega
    subst hin
    rw [List.take_of_length_le (by omega)] at o1
    refine v_str rfl o1.rd ?_
    exact ⟨rfl, A1'.below⟩
end Go.Proofs.YtjneoinacobbaaaDoor
