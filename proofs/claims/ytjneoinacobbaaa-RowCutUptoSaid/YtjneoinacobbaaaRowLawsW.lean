/- The walks of the laws RowWrites, RowCut, RowApart. -/
import Derived.Test.YtjneoinacobbaaaRowK
namespace Go.Proofs.Ytjneoinacobbaaa
open Go.RowKit
section
variable {P : Program} {E : Env} {d : Option Nat} {ty : TypeId} {p : String} {af : Array Edge} {g : Option (Nat × Bool)} {x y : Operand} {t u : TypeId} {k : Value → Prop}
theorem p_beq {a b : Bool} (ht : P.underlying t = some .bool) (hx : val E x = .bool a) (hy : val E y = .bool b) (h : k (.bool (a == b))) : VPure P E { dst := d, op := .binOp .eql t x y u, type := ty, pos := p, after := af, guard := g } k :=
  pp (v := .bool (a == b)) (fun w => by simp only [execOp, hx, hy]; simp [eqGuard, binOp, run_equal_bool w t a b ht]) h
end
theorem is_rencode : isFn Try.prog 11 = true := by kernel_rfl
theorem is_rdecode : isFn Try.prog 13 = true := by kernel_rfl
theorem is_copy : isFn Try.prog 16 = true := by kernel_rfl
theorem encE_ne {l : List Val} (h : ¬ encE l = 0) : encB l = [] := by unfold encB; rw [if_neg h]
theorem encB_pos {l : List Val} (h : encE l = 0) : 0 < (encB l).length := by
  have := putN_pos l.length
  rw [(enc_ok h).2.2, List.length_append]; omega
theorem encB_len {l : List Val} (ho : ∀ v ∈ l, VOk v) (ht : tot l ≤ 1000000) : (encB l).length ≤ 1000010 := by
  unfold encB
  split
  · have := flat_len l ho
    have h1 := tot_len l
    have := putN_len10 (n := l.length) (by omega)
    rw [List.length_append]; omega
  · simp
set_option maxRecDepth 100000 in
theorem rowWrites_walk (w : World) {A0 : Option Addr} {n0 c0 : Nat} {l0 : List Val} (g0 : RdV w w.heap.size A0 n0 l0) (_k0 : n0 ≤ c0) (o0 : ∀ v ∈ l0, VOk v) (b0 : vbulk l0 ≤ 1048576)
    {A1 : Option Addr} {n1 c1 : Nat} {l1 : List UInt8} (g1 : Rd w w.heap.size A1 n1 l1) (k1 : n1 ≤ c1) :
    Calls Try.prog 3 #[.slice A0 n0 c0, .slice A1 n1 c1] w (RetTrue w) := by
  refine calls_ev (args := [.slice A0 n0 c0, .slice A1 n1 c1]) mixed Try.func3 rfl (by kernel_rfl) ?_
  have hl0 := g0.len
  have hv := vbulk_long l0
  refine cc is_long (long_any _ _ _ _ _ _ g0 (by omega)) ?_
  rintro e W ⟨b, rfl, hb, rfl⟩
  refine ⟨_, rfl, ?_⟩
  cases b
  rotate_left
  · refine cc is_known (known03_any _) ?_
    rintro e W ⟨rfl, b1⟩
    exact ⟨_, rfl, rfl, b1⟩
  have ht := long_tot (l := l0) (by simpa [hl0] using hb)
  refine p_len slb rfl ?_
  refine p_gt rfl rfl (fun h1 => ?_) (fun h1 => ?_)
  · refine cc is_known (known03_any _) ?_
    rintro e W ⟨rfl, b1⟩
    exact ⟨_, rfl, rfl, b1⟩
  refine cc is_encode (encode_any _ _ _ _ _ g0 o0 ht) ?_
  rintro e W1 ⟨A2, n2, c2, rfl, o2, b1⟩
  refine ⟨_, rfl, ?_⟩
  have q2 := o2.rd
  replace g0 := g0.up b1
  replace g1 := g1.up b1
  refine cc is_rencode (rencode_any _ _ _ _ _ g0 o0 ht) ?_
  rintro e W2 ⟨A3, n3, c3, rfl, o3, b2⟩
  refine ⟨_, rfl, ?_⟩
  have q3 := o3.rd
  replace q2 := q2.up b2
  replace g1 := g1.up b2
  replace b1 := b1.trans (b2.mono b1.size)
  refine cc is_decode (decode_any _ _ _ _ _ g1 (by omega) k1) ?_
  rintro e W3 ⟨A4, n4, c4, rfl, o4, b3⟩
  refine ⟨_, rfl, ?_⟩
  have q4 := o4.rd
  replace q2 := q2.up b3
  replace q3 := q3.up b3
  replace g1 := g1.up b3
  replace b1 := b1.trans (b3.mono b1.size)
  refine cc is_rdecode (rdecode_any _ _ _ _ _ g1 (by omega) k1) ?_
  rintro e W4 ⟨A5, n5, c5, rfl, o5, b4⟩
  refine ⟨_, rfl, ?_⟩
  have q5 := o5.rd
  replace q2 := q2.up b4
  replace q3 := q3.up b4
  replace q4 := q4.up b4
  replace b1 := b1.trans (b4.mono b1.size)
  refine cc is_same (same_yes _ _ _ _ _ _ _ _ _ _ _ q2 q3 rfl) ?_
  rintro e W5 ⟨rfl, rfl⟩
  refine ⟨_, rfl, ?_⟩
  refine p_eq rfl rfl (fun _ => ?_) (fun h => absurd rfl h)
  have hl1 := g1.len
  have hL : (decL l1).length ≤ 100 := by
    by_cases h0 : decE l1 = 0
    · exact (enc_ok (enc_dec (by omega) h0).1).2.1
    · unfold decL; rw [if_neg h0]; simp
  have hn4 := q4.len
  have hn5 := q5.len
  refine cc is_rows (rows_any _ _ _ _ _ _ _ _ _ q4 q5 (by omega) (by omega)) ?_
  rintro e W6 ⟨r, rfl, hr, b6⟩
  refine ⟨_, rfl, ?_⟩
  replace b1 := b1.trans (b6.mono b1.size)
  refine p_eq rfl rfl (fun _ => ?_) (fun h => absurd (hr.2 rfl) h)
  refine p_eq rfl rfl (fun _ => ?_) (fun h => absurd rfl h)
  refine cc is_known (known03_any _) ?_
  rintro e W7 ⟨rfl, b7⟩
  exact ⟨_, rfl, rfl, b1.trans (b7.mono b1.size)⟩
set_option maxRecDepth 100000 in
theorem rowCut_walk (w : World) {A0 : Option Addr} {n0 c0 : Nat} {l0 : List Val} (g0 : RdV w w.heap.size A0 n0 l0) (_k0 : n0 ≤ c0) (o0 : ∀ v ∈ l0, VOk v) (b0 : vbulk l0 ≤ 1048576)
    (x1 : Int) (_h1 : -9223372036854775808 ≤ x1 ∧ x1 ≤ 9223372036854775807) (x2 : Int) (h2 : 0 ≤ x2 ∧ x2 ≤ 255) :
    Calls Try.prog 4 #[.slice A0 n0 c0, .int .i64 x1, .int .u8 x2] w (RetTrue w) := by
  refine calls_ev (args := [.slice A0 n0 c0, .int .i64 x1, .int .u8 x2]) mixed Try.func4 rfl (by kernel_rfl) ?_
  have hl0 := g0.len
  have hv := vbulk_long l0
  refine cc is_long (long_any _ _ _ _ _ _ g0 (by omega)) ?_
  rintro e W ⟨b, rfl, hb, rfl⟩
  refine ⟨_, rfl, ?_⟩
  cases b
  rotate_left
  · refine cc is_known (known03_any _) ?_
    rintro e W ⟨rfl, b1⟩
    exact ⟨_, rfl, rfl, b1⟩
  have ht := long_tot (l := l0) (by simpa [hl0] using hb)
  refine cc is_encode (encode_any _ _ _ _ _ g0 o0 ht) ?_
  rintro e W1 ⟨A2, n2, c2, rfl, o2, b1⟩
  refine ⟨_, rfl, ?_⟩
  have q2 := o2.rd
  have k2 := o2.cap_
  have hn2 := q2.len
  have hlen := encB_len o0 ht
  refine p_ne rfl rfl (fun h0 => ?_) (fun h0 => ?_)
  rotate_left
  · rw [encE_ne h0] at hn2
    refine p_len slb rfl ?_
    refine p_eq rfl rfl (fun _ => ?_) (fun h => absurd (by simp at hn2; omega) h)
    refine cc is_known (known03_any _) ?_
    rintro e W ⟨rfl, b2⟩
    exact ⟨_, rfl, rfl, b1.trans (b2.mono b1.size)⟩
  have hpos := encB_pos h0
  refine p_len slb rfl ?_
  refine p_eq rfl rfl (fun h => by omega) (fun _ => ?_)
  refine v_cvt u_int u_u64 rfl rfl ?_
  refine p_len slb rfl ?_
  refine v_cvt u_int u_u64 rfl (wu64 (by omega)) ?_
  obtain ⟨c, hc⟩ : ∃ c, c = IntKind.u64.wrap x1 := ⟨_, rfl⟩
  rw [IntKind.wrap_u64] at hc
  have hc0 : 0 ≤ c := by omega
  obtain ⟨C, rfl⟩ := Int.eq_ofNat_of_zero_le hc0
  have hm : (IntKind.u64.wrap x1).tmod (n2 : Int) = ((C % n2 : Nat) : Int) := by
    rw [IntKind.wrap_u64, ← hc]; exact (Int.ofNat_tmod C n2).symm
  have hk : C % n2 < n2 := Nat.mod_lt _ (by omega)
  generalize C % n2 = k at hm hk
  refine p_rem rfl rfl (by omega) hm ?_
  refine v_cvt (by kernel_rfl) (by kernel_rfl) rfl (w64 (by omega)) ?_
  refine p_slice (j := k) slb rfl rfl (bnd_i rfl) rfl rfl (by omega) (by omega) (Nat.le_refl _) ?_
  refine cc is_decode (decode_any _ _ _ _ _ (q2.slh (j := k) (m := c2) (by omega) (by omega)) (by omega) (by omega)) ?_
  rintro e W3 ⟨A4, n4, c4, rfl, o4, b3⟩
  refine ⟨_, rfl, ?_⟩
  have hcut := dec_cut h0 o0 (k := k) (by omega)
  replace q2 := q2.up b3
  replace b1 := b1.trans (b3.mono b1.size)
  have hs3 := b1.size
  refine cc is_copy (copy_any _ _ _ _ _ q2 (by omega)) ?_
  rintro e W4 ⟨A5, c5, rfl, o5, b4⟩
  refine ⟨_, rfl, ?_⟩
  replace b1 := b1.trans (b4.mono b1.size)
  refine v_bslice (vs := bvs [b8 x2]) slb zb rfl (by decide) (by rw [← one_blk h2]; rfl) ?_
  rintro g6 W6 hg6 hB6 hb6 hs6
  rw [hg6] at hb6
  replace o5 := o5.below hb6
  replace b1 := b1.trans (hb6.mono b1.size)
  refine v_app rfl o5 rfl (Rd.blk hB6) (by show n2 + 1 ≤ _; omega) (by have := b4.size; have := hb6.size; omega) ?_
  rintro A7 c7 W7 o7 hg7 -
  have lo5 := o5.lo
  replace b1 := b1.grown hg7 b1.size (fun k hk => by have := lo5 k hk; omega)
  refine cc is_decode (decode_any _ _ _ _ _ o7.rd (by show n2 + 1 ≤ _; omega) o7.cap_) ?_
  rintro e W8 ⟨A9, n9, c9, rfl, o9, hb8⟩
  refine ⟨_, rfl, ?_⟩
  replace b1 := b1.trans (hb8.mono b1.size)
  have hmore := (dec_more h0 o0 [b8 x2]).1
  rw [if_neg (by simp)] at hmore
  refine p_eq rfl rfl (fun _ => ?_) (fun h => absurd hcut h)
  refine p_eq rfl rfl (fun _ => ?_) (fun h => absurd hmore h)
  refine cc is_known (known03_any _) ?_
  rintro e W9 ⟨rfl, b9⟩
  exact ⟨_, rfl, rfl, b1.trans (b9.mono b1.size)⟩
set_option maxRecDepth 100000 in
theorem rowApart_walk (w : World) {A0 : Option Addr} {n0 c0 : Nat} {l0 : List Val} (g0 : RdV w w.heap.size A0 n0 l0) (_k0 : n0 ≤ c0) (o0 : ∀ v ∈ l0, VOk v) (b0 : vbulk l0 ≤ 1048576)
    {A1 : Option Addr} {n1 c1 : Nat} {l1 : List Val} (g1 : RdV w w.heap.size A1 n1 l1) (_k1 : n1 ≤ c1) (o1 : ∀ v ∈ l1, VOk v) (b1 : vbulk l1 ≤ 1048576) :
    Calls Try.prog 5 #[.slice A0 n0 c0, .slice A1 n1 c1] w (RetTrue w) := by
  refine calls_ev (args := [.slice A0 n0 c0, .slice A1 n1 c1]) mixed Try.func5 rfl (by kernel_rfl) ?_
  have hl0 := g0.len
  have hv0 := vbulk_long l0
  have hl1 := g1.len
  have hv1 := vbulk_long l1
  refine cc is_long (long_any _ _ _ _ _ _ g0 (by omega)) ?_
  rintro e W ⟨b, rfl, hb, rfl⟩
  refine ⟨_, rfl, ?_⟩
  cases b
  rotate_left
  · refine cc is_known (known03_any _) ?_
    rintro e W ⟨rfl, b1⟩
    exact ⟨_, rfl, rfl, b1⟩
  have ht0 := long_tot (l := l0) (by simpa [hl0] using hb)
  refine cc is_long (long_any _ _ _ _ _ _ g1 (by omega)) ?_
  rintro e W ⟨b, rfl, hb, rfl⟩
  refine ⟨_, rfl, ?_⟩
  cases b
  rotate_left
  · refine cc is_known (known03_any _) ?_
    rintro e W ⟨rfl, b1⟩
    exact ⟨_, rfl, rfl, b1⟩
  have ht1 := long_tot (l := l1) (by simpa [hl1] using hb)
  refine cc is_encode (encode_any _ _ _ _ _ g0 o0 ht0) ?_
  rintro e W1 ⟨A2, n2, c2, rfl, o2, b1⟩
  refine ⟨_, rfl, ?_⟩
  have q2 := o2.rd
  have k2 := o2.cap_
  replace g0 := g0.up b1
  replace g1 := g1.up b1
  refine cc is_encode (encode_any _ _ _ _ _ g1 o1 ht1) ?_
  rintro e W2 ⟨A3, n3, c3, rfl, o3, b2⟩
  refine ⟨_, rfl, ?_⟩
  have q3 := o3.rd
  have k3 := o3.cap_
  replace q2 := q2.up b2
  replace g0 := g0.up b2
  replace g1 := g1.up b2
  replace b1 := b1.trans (b2.mono b1.size)
  refine p_ne rfl rfl (fun h0 => ?_) (fun _ => ?_)
  rotate_left
  · refine cc is_known (known03_any _) ?_
    rintro e W ⟨rfl, b2⟩
    exact ⟨_, rfl, rfl, b1.trans (b2.mono b1.size)⟩
  refine p_ne rfl rfl (fun h1 => ?_) (fun _ => ?_)
  rotate_left
  · refine cc is_known (known03_any _) ?_
    rintro e W ⟨rfl, b2⟩
    exact ⟨_, rfl, rfl, b1.trans (b2.mono b1.size)⟩
  have hn2 := q2.len
  have hn3 := q3.len
  obtain ⟨m, hm⟩ : ∃ m, m = min n2 n3 := ⟨_, rfl⟩
  refine p_len slb rfl ?_
  refine p_len slb rfl ?_
  refine p_min (r := (m : Int)) rfl rfl (by split <;> omega) ?_
  have key : decide ((encB l0).take m = (encB l1).take m) = decide (l0 = l1) := by
    rw [Bool.eq_iff_iff, decide_eq_true_eq, decide_eq_true_eq]
    constructor
    · intro h
      rcases Nat.le_total n2 n3 with hle | hle
      · rw [show m = n2 by omega, List.take_of_length_le (l := encB l0) (by omega)] at h
        exact enc_pre h0 h1 o0 o1 (t := (encB l1).drop n2) (by rw [h, List.take_append_drop])
      · rw [show m = n3 by omega, List.take_of_length_le (l := encB l1) (by omega)] at h
        exact (enc_pre h1 h0 o1 o0 (t := (encB l0).drop n3) (by rw [← h, List.take_append_drop])).symm
    · rintro rfl; rfl
  refine dr0 [(0, true), (1, true), (2, true), (3, true), (4, true), (5, true), (6, false), (7, true)] (by kernel_rfl) ?_
  refine p_slice (j := m) slb rfl rfl (bnd_i rfl) rfl rfl (by omega) (by omega) (Nat.le_refl _) ?_
  refine p_slice (j := m) slb rfl rfl (bnd_i rfl) rfl rfl (by omega) (by omega) (Nat.le_refl _) ?_
  obtain ⟨q, hq⟩ : ∃ q, q = decide (l0 = l1) := ⟨_, rfl⟩
  refine cc is_same ((same_any _ _ _ _ _ _ _ _ _ _ _ (q2.drew.slh (j := m) (m := c2) (by omega) (by omega)) (q3.drew.slh (j := m) (m := c3) (by omega) (by omega))).mono (R' := fun e w' => e = .returned (.bool q) ∧ W2.drew = w') (fun _ _ ⟨he, hw⟩ => ⟨by rw [he, key, hq], hw⟩)) ?_
  rintro e W5 ⟨rfl, rfl⟩
  refine ⟨_, rfl, trivial, ?_⟩
  refine cc is_rows (rows_any _ _ _ _ _ _ _ _ _ g0.drew g1.drew (by omega) (by omega)) ?_
  rintro e W6 ⟨r, rfl, hr, b6⟩
  refine ⟨_, rfl, ?_⟩
  replace b1 := b1.drew.trans (b6.mono b1.size)
  refine p_eq rfl rfl (fun h => ?_) (fun h => ?_)
  · obtain rfl : q = true := by rw [hq, decide_eq_true (hr.1 h)]
    refine p_beq Try.underlying4 rfl rfl ?_
    refine cc is_known (known03_any _) ?_
    rintro e W9 ⟨rfl, b9⟩
    exact ⟨_, rfl, rfl, b1.trans (b9.mono b1.size)⟩
  · obtain rfl : q = false := by rw [hq, decide_eq_false (fun e => h (hr.2 e))]
    refine p_beq Try.underlying4 rfl rfl ?_
    refine cc is_known (known03_any _) ?_
    rintro e W9 ⟨rfl, b9⟩
    exact ⟨_, rfl, rfl, b1.trans (b9.mono b1.size)⟩
end Go.Proofs.Ytjneoinacobbaaa
