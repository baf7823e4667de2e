/- The walk of the law's known. -/
import Derived.Test.YtjneoinacobbaaaRowX
import Derived.Test.YtjneoinacobbaaaRowY
import Derived.Test.YtjneoinacobbaaaRowM
import Derived.Test.YtjneoinacobbaaaRowB
import Derived.Test.YtjneoinacobbaaaLawV
namespace Go.Proofs.Ytjneoinacobbaaa
open Go.RowKit
theorem is_same : isFn Try.prog 14 = true := by kernel_rfl
theorem is_long : isFn Try.prog 8 = true := by kernel_rfl
theorem is_known : isFn Try.prog 9 = true := by kernel_rfl
def lK : List Val := [⟨1, 0, []⟩, ⟨3, 7, []⟩, ⟨4, 0, [97]⟩]
def bK : List UInt8 := [3, 1, 3, 14, 4, 1, 97]
theorem lK_b : encE lK = 0 ∧ encB lK = bK := by decide +kernel
theorem lK_ok : ∀ v ∈ lK, VOk v := by
  intro v hv
  simp only [lK, List.mem_cons, List.not_mem_nil, or_false] at hv
  rcases hv with rfl | rfl | rfl <;> exact ⟨by decide, by decide, by decide⟩
theorem dK1 : decE [1, 2] = 10 := by decide +kernel
theorem dK2 : decE [1, 2, 7] = 11 := by decide +kernel
/-- Not long: not great. -/
theorem long_tot {l : List Val} (h : ¬ 4000 < l.length + slen l) : tot l ≤ 1000000 := by
  have : ∀ l : List Val, tot l = 40 * l.length + slen l := by
    intro l
    induction l with
    | nil => rfl
    | cons v l ih => rw [tot_cons, ih]; unfold slen; rw [List.map_cons, List.sum_cons, List.length_cons]; omega
  have := this l
  omega
theorem vbulk_long (l : List Val) : l.length + slen l ≤ vbulk l := by
  induction l with
  | nil => exact Nat.le_refl _
  | cons v l ih => unfold slen vbulk at *; rw [List.map_cons, List.sum_cons, List.map_cons, List.sum_cons, List.length_cons]; omega
set_option maxRecDepth 100000 in
theorem known03_any (w : World) : Calls Try.prog 9 #[] w fun e w' => e = .returned (.bool true) ∧ Below w.heap.size w w' := by
  refine calls_ev (args := []) mixed Try.func9 rfl (by kernel_rfl) ?_
  refine p_build (vs := vc ⟨1, 0, []⟩) pl_val zv rfl ?_
  refine p_build (vs := vc ⟨3, 7, []⟩) pl_val zv rfl ?_
  refine p_build (vs := vc ⟨4, 0, [97]⟩) pl_val zv rfl ?_
  refine v_bslice (vs := vcs lK) slv zv rfl (by decide) rfl ?_
  rintro g1 W1 hg1 hB1 hb1 hs1
  have r1 : RdV W1 W1.heap.size (some ⟨g1, 0, none⟩) 3 lK := Reads.blk hB1 rfl
  have b1 : Below w.heap.size w W1 := by rw [← hg1]; exact hb1
  refine cc is_encode (encode_any _ _ _ _ _ r1 lK_ok (by decide)) ?_
  rintro e W2 ⟨A2, n2, c2, rfl, o2, b2⟩
  refine ⟨_, rfl, ?_⟩
  have r2 := r1.up b2
  replace b2 := b1.trans (b2.mono b1.size)
  rw [lK_b.2] at o2
  have hn2 : n2 = 7 := by have := o2.len; simp [bK] at this; omega
  refine cc is_decode (decode_any _ _ _ _ _ o2.rd (by omega) o2.cap_) ?_
  rintro e W3 ⟨A3, n3, c3, rfl, o3, b3⟩
  refine ⟨_, rfl, ?_⟩
  have d3 := dec_enc lK_b.1 lK_ok
  rw [lK_b.2] at d3
  rw [d3.2] at o3
  have hn3 : n3 = 3 := by have := o3.rd.len; simp [lK] at this; omega
  have r3 := r2.up b3
  have q3 := o2.rd.up b3
  replace b3 := b2.trans (b3.mono b2.size)
  refine v_bslice (vs := bvs [1, 2]) slb zb rfl (by decide) rfl ?_
  rintro g4 W4 hg4 hB4 hb4 hs4
  rw [hg4] at hb4
  have r4 := r3.up hb4
  have q4 := q3.up hb4
  have m4 := o3.rd.up hb4
  have b4 := b3.trans (hb4.mono b3.size)
  refine cc is_decode (decode_any _ _ _ [1, 2] _ (Rd.blk hB4) (by decide) (by decide)) ?_
  rintro e W5 ⟨A5, n5, c5, rfl, o5, b5⟩
  refine ⟨_, rfl, ?_⟩
  replace r4 := r4.up b5
  replace q4 := q4.up b5
  replace m4 := m4.up b5
  replace b4 := b4.trans (b5.mono b4.size)
  refine v_bslice (vs := bvs [1, 2, 7]) slb zb rfl (by decide) rfl ?_
  rintro g6 W6 hg6 hB6 hb6 hs6
  rw [hg6] at hb6
  replace r4 := r4.up hb6
  replace q4 := q4.up hb6
  replace m4 := m4.up hb6
  replace b4 := b4.trans (hb6.mono b4.size)
  refine cc is_decode (decode_any _ _ _ [1, 2, 7] _ (Rd.blk hB6) (by decide) (by decide)) ?_
  rintro e W7 ⟨A7, n7, c7, rfl, o7, b7⟩
  refine ⟨_, rfl, ?_⟩
  replace r4 := r4.up b7
  replace q4 := q4.up b7
  replace m4 := m4.up b7
  replace b4 := b4.trans (b7.mono b4.size)
  refine v_bslice (vs := bvs bK) slb zb rfl (by decide) rfl ?_
  rintro g8 W8 hg8 hB8 hb8 hs8
  rw [hg8] at hb8
  replace r4 := r4.up hb8
  replace q4 := q4.up hb8
  replace m4 := m4.up hb8
  replace b4 := b4.trans (hb8.mono b4.size)
  refine cc is_same (same_yes _ _ _ _ _ _ _ _ _ _ _ q4 (Rd.blk hB8) rfl) ?_
  rintro e W9 ⟨rfl, rfl⟩
  refine ⟨_, rfl, ?_⟩
  refine p_eq rfl rfl (fun _ => ?_) (fun h => absurd lK_b.1 h)
  refine p_eq rfl rfl (fun _ => ?_) (fun h => absurd d3.1 h)
  refine cc is_rows (rows_any _ _ _ _ _ _ _ _ _ r4 m4 (by decide) (by omega)) ?_
  rintro e W10 ⟨r, rfl, hr, b10⟩
  refine ⟨_, rfl, ?_⟩
  replace b4 := b4.trans (b10.mono b4.size)
  refine p_eq rfl rfl (fun _ => ?_) (fun h => absurd (hr.2 rfl) h)
  refine p_eq rfl rfl (fun _ => ?_) (fun h => absurd dK1 h)
  refine p_eq rfl rfl (fun _ => ?_) (fun h => absurd dK2 h)
  exact ⟨rfl, b4⟩
end Go.Proofs.Ytjneoinacobbaaa
