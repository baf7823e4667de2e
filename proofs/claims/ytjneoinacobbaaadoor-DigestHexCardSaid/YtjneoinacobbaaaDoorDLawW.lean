/- The walks of law 05's known and joined. -/
import Derived.Test.YtjneoinacobbaaaDoorDHex
namespace Go.Proofs.YtjneoinacobbaaaDoor
open Go.RowKit
theorem zls' : zeroOf Tryd.prog 23 = some [.slice none 0 0] := by kernel_rfl
theorem is_hex : isFn Tryd.prog 15 = true := by kernel_rfl
theorem hex_abc : hexL (sha [97, 98, 99]) = [98, 97, 55, 56, 49, 54, 98, 102, 56, 102, 48, 49, 99, 102, 101, 97, 52, 49, 52, 49, 52, 48, 100, 101, 53, 100, 97, 101, 50, 50, 50, 51, 98, 48, 48, 51, 54, 49, 97, 51, 57, 54, 49, 55, 55, 97, 57, 99, 98, 52, 49, 48, 102, 102, 54, 49, 102, 50, 48, 48, 49, 53, 97, 100] := by decide +kernel
theorem hex_nil : hexL (sha []) = [101, 51, 98, 48, 99, 52, 52, 50, 57, 56, 102, 99, 49, 99, 49, 52, 57, 97, 102, 98, 102, 52, 99, 56, 57, 57, 54, 102, 98, 57, 50, 52, 50, 55, 97, 101, 52, 49, 101, 52, 54, 52, 57, 98, 57, 51, 52, 99, 97, 52, 57, 53, 57, 57, 49, 98, 55, 56, 53, 50, 98, 56, 53, 53] := by decide +kernel
set_option maxRecDepth 100000 in
theorem known05_any (w : World) (hG : GL w []) :
    Calls Tryd.prog 6 #[] w fun e w' => e = .returned (.bool true) ∧ Below w.heap.size w w' := by
  refine calls_ev (args := []) mixed Tryd.func6 rfl (by kernel_rfl) ?_
  refine v_bslice (vs := [.int .u8 97]) slb zb rfl (by decide) rfl ?_
  rintro g1 W1 hg1 hB1 hb1 hs1
  refine v_cvtB (l := [97]) rfl hB1 rfl ?_
  rintro W2 hr2 hg2 hs2
  refine v_bslice (vs := [.int .u8 98, .int .u8 99]) slb zb rfl (by decide) rfl ?_
  rintro g3 W3 hg3 hB3 hb3 hs3
  refine v_cvtB (l := [98, 99]) rfl hB3 rfl ?_
  rintro W4 hr4 hg4 hs4
  refine v_bslice (vs := [.slice (some ⟨g1, 0, none⟩) 1 1, .slice (some ⟨g3, 0, none⟩) 2 2]) sl_ls zls' rfl (by decide) rfl ?_
  rintro g5 W5 hg5 hB5 hb5 hs5
  have C2 : Below w.heap.size w W2 := by rw [hg1] at hb1; exact hb1.grown hg2 (by omega) (fun k hk => by injection hk with hk; omega)
  have C4 : Below W2.heap.size W2 W4 := by rw [hg3] at hb3; exact hb3.grown hg4 (by omega) (fun k hk => by injection hk with hk; omega)
  have C5 : Below W4.heap.size W4 W5 := by rw [hg5] at hb5; exact hb5
  have D2 := ((RdD.ofbytes (F := Fd W2 []) hr2 (c := 1) (by decide) (fun b off _ h => ⟨h, by simp⟩)).up (Stp.below C4)).up (Stp.below C5)
  have D4 := (RdD.ofbytes (F := Fd W4 []) hr4 (c := 2) (by decide) (fun b off _ h => ⟨h, by simp⟩)).up (Stp.below C5)
  have hD : RdD W5 (Fd W5 []) (dLs [[97], [98, 99]]) (.slice (some ⟨g5, 0, none⟩) 2 2) := by
    refine RdD.sl_iff.2 ⟨_, 2, _, rfl, Nat.le_refl _, rfl, RdL.cons D2 (RdL.cons D4 RdL.nil_), fun _ => ⟨g5, 0, rfl, ⟨hB5.lt, by simp⟩, fun j x hx => ?_⟩⟩
    rw [Nat.zero_add]; exact hB5.at_ hx
  have C : Below w.heap.size w W5 := C2.trans ((C4.trans (C5.mono C4.size)).mono C2.size)
  refine cc is_sum (sum_any [] _ 2 2 _ W5 (by simp) (hG.up (Stp.below C)) hD (by decide) (by decide)) ?_
  rintro e W6 ⟨A6, c6, rfl, o6, b6⟩
  refine ⟨_, rfl, ?_⟩
  refine cc is_hex (hex_any A6 32 c6 _ W6 o6.rd (by decide)) ?_
  rintro e W7 ⟨rfl, b7⟩
  refine ⟨_, rfl, ?_⟩
  have e1 : hexL (sha [[97], [98, 99]].flatten) = hexL (sha [97, 98, 99]) := rfl
  rw [e1, hex_abc]
  have C7 : Below w.heap.size w W7 := (C.trans (b6.mono C.size)).trans (b7.mono (by have := b6.size; have := C.size; omega))
  refine p_seq rfl rfl (fun _ => ?_) (fun h => absurd rfl h)
  refine cc is_sum (sum_any [] none 0 0 [] W7 (by simp) (hG.up (Stp.below C7)) (RdD.nil_ _ _) (by decide) (by decide)) ?_
  rintro e W8 ⟨A8, c8, rfl, o8, b8⟩
  refine ⟨_, rfl, ?_⟩
  refine cc is_hex (hex_any A8 32 c8 _ W8 o8.rd (by decide)) ?_
  rintro e W9 ⟨rfl, b9⟩
  refine ⟨_, rfl, ?_⟩
  rw [show hexL (sha [].flatten) = hexL (sha []) from rfl, hex_nil]
  refine p_seq rfl rfl (fun _ => ?_) (fun h => absurd rfl h)
  exact ⟨rfl, (C7.trans (b8.mono C7.size)).trans (b9.mono (by have := b8.size; have := C7.size; omega))⟩
end Go.Proofs.YtjneoinacobbaaaDoor
