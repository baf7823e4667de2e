/- The walks of row.Encode, and of the reference's one and Encode. -/
import Derived.Test.YtjneoinacobbaaaRowL
import Derived.Test.YtjneoinacobbaaaValW
import Derived.Test.YtjneoinacobbaaaBuild
import Derived.Test.YtjneoinacobbaaaVintR
import Derived.Test.YtjneoinacobbaaaVintB
namespace Go.Proofs.Ytjneoinacobbaaa
open Go.RowKit
theorem zb : zeroOf Try.prog 5 = some [.int .u8 0] := by kernel_rfl
theorem zv : zeroOf Try.prog 52 = some [.int .i64 0, .int .i64 0, .string (sb [])] := by kernel_rfl
theorem sz_val : (Try.prog.info? 52).map (·.size) = some 3 := by kernel_rfl
theorem u_u8 : Try.prog.underlying 5 = some (.int .u8) := by kernel_rfl
theorem u_u64 : Try.prog.underlying 54 = some (.int .u64) := by kernel_rfl
theorem u_int : (Try.prog.underlying 3).isSome = true := by kernel_rfl
theorem al_val : (Try.prog.info? 52).map (fun i => i.zero.map fun z => z.cells.toList) = some (some [.int .i64 0, .int .i64 0, .string (sb [])]) := by kernel_rfl
theorem is_one : isFn Try.prog 28 = true := by kernel_rfl
theorem is_put : isFn Try.prog 22 = true := by kernel_rfl
theorem is_puti : isFn Try.prog 24 = true := by kernel_rfl
theorem is_putb : isFn Try.prog 25 = true := by kernel_rfl
theorem is_rput : isFn Try.prog 27 = true := by kernel_rfl
theorem is_rputi : isFn Try.prog 39 = true := by kernel_rfl
theorem is_rputb : isFn Try.prog 40 = true := by kernel_rfl

section
variable {w w' : World} {base n c : Nat} {A : Option Addr} {l : List UInt8}
/-- A block of bytes reads as these. -/
theorem Rd.blk {g : Nat} {l : List UInt8} (h : Blk w g 5 (bvs l)) : Rd w w.heap.size (some ⟨g, 0, none⟩) l.length l :=
  ⟨by rw [bvs_length]; simp, fun _ => ⟨g, 0, rfl, h.lt, fun j u hu => by rw [Nat.zero_add]; exact h.at_ hu⟩⟩
theorem Own.blk {g : Nat} {l : List UInt8} (h : Blk w g 5 (bvs l)) (hb : base ≤ g) (hl : l.length ≤ 1000000000000) : Own w base (some ⟨g, 0, none⟩) l.length l.length l := by
  refine ⟨by rw [bvs_length]; simp, .inr ⟨g, _, _, rfl, hb, h, Nat.le_refl _, by unfold maxLen; omega, by simp [bvs], ?_⟩⟩
  show (bvs l).take (l.length * 1) = bvs l
  rw [List.take_of_length_le (by rw [bvs_length]; omega)]
theorem one_blk {x : Int} (h : 0 ≤ x ∧ x ≤ 255) : [Value.int .u8 x] = bvs [b8 x] := by
  unfold bvs; rw [List.map_cons, List.map_nil, u8v_b8 x h.1 h.2]
theorem Own.upB {B : Nat} (h : Own w base A n c l) (hb : Below B w w') (hB : w.heap.size ≤ B) : Own w' base A n c l := h.below (hb.mono hB)
end
theorem b8_256 (x : Int) : b8 (x % 256) = b8 x ∨ x < 0 := by
  by_cases h : x < 0
  · exact .inr h
  · left
    obtain ⟨y, rfl⟩ := Int.eq_ofNat_of_zero_le (show 0 ≤ x by omega)
    unfold b8
    apply UInt8.toNat_inj.1
    simp only [UInt8.toNat_ofNat']
    omega

set_option maxRecDepth 100000 in
set_option maxHeartbeats 1000000 in
theorem one_any (v : Val) (w : World) (hk : 1 ≤ v.k ∧ v.k ≤ 5) (hn : v.k = 2 → 0 ≤ v.n ∧ v.n ≤ 1) (ho : VOk v) (hs : v.s.length ≤ 100000000) :
    Calls Try.prog 28 #[vv_ v] w fun e w' => ∃ A' m c', e = .returned (.slice A' m c') ∧ Own w' w.heap.size A' m c' (oneL v) ∧ Below w.heap.size w w' := by
  refine calls_ev (args := [vv_ v]) mixed Try.func28 rfl (by kernel_rfl) ?_
  refine v_boxB (vc v) rfl ?_
  rintro g W hg hB hb hsz
  rw [← hg]
  refine p_fld fv0 rfl ?_
  refine v_load agg_int rfl (hB.at_ rfl) ?_
  refine v_cvt u_int u_u8 rfl (wu8 (by omega)) ?_
  refine v_bslice (vs := [.int .u8 v.k]) slb zb rfl (by decide) rfl ?_
  rintro g1 W1 hg1 hB1 hb1 hsz1
  rw [show [Value.int .u8 v.k] = bvs [b8 v.k] from one_blk (by omega)] at hB1
  have o1 : Own W1 g (some ⟨g1, 0, none⟩) 1 1 [b8 v.k] := Own.blk hB1 (by omega) (by simp)
  have C1 : Below g w W1 := hb.trans (hb1.mono (by omega))
  have hB' := hB.belowB hb1 (by omega)
  refine p_fld fv0 rfl ?_
  refine v_load agg_int rfl (hB'.at_ rfl) ?_
  refine p_eq rfl rfl (fun h2 => ?_) (fun h2 => ?_)
  · refine p_fld fv1 rfl ?_
    refine v_load agg_int rfl (hB'.at_ rfl) ?_
    refine v_cvt u_int u_u8 rfl (wu8 (by have := hn h2; omega)) ?_
    refine v_bslice (vs := [.int .u8 v.n]) slb zb rfl (by decide) rfl ?_
    rintro g2 W2 hg2 hB2 hb2 hsz2
    rw [show [Value.int .u8 v.n] = bvs [b8 v.n] from one_blk (by have := hn h2; omega)] at hB2
    refine v_app rfl (o1.upB hb2 (by omega)) rfl (Rd.blk hB2) (by simp) (by omega) ?_
    rintro A3 c3 W3 o3 g3 -
    refine ⟨A3, _, c3, rfl, ?_, ?_⟩
    · have : oneL v = [b8 v.k] ++ [b8 v.n] := by unfold oneL; rw [if_pos h2]; rfl
      rw [this]; exact o3
    · exact (C1.trans (hb2.mono (by omega))).grown g3 (by omega) (fun k hk => (o1.lo k hk))
  refine p_eq rfl rfl (fun h3 => ?_) (fun h3 => ?_)
  · refine p_fld fv1 rfl ?_
    refine v_load agg_int rfl (hB'.at_ rfl) ?_
    refine cc is_rputi (refPutInt_any v.n W1 ho.n0.1 ho.n0.2) ?_
    rintro e W2 ⟨A2, c2, rfl, o2, b2⟩
    refine ⟨_, rfl, ?_⟩
    have hlen := putN_len10 (zig_lt ho.n0.1 ho.n0.2)
    refine v_app rfl (o1.below b2) rfl o2.rd (by omega) (by have := b2.size; omega) ?_
    rintro A3 c3 W3 o3 g3 -
    refine ⟨A3, _, c3, rfl, ?_, ?_⟩
    · have : oneL v = [b8 v.k] ++ putN (zig v.n) := by unfold oneL; rw [if_neg h2, if_pos h3]; rfl
      rw [this]; exact o3
    · exact (C1.trans (b2.mono (by omega))).grown g3 (by have := b2.size; omega) (fun k hk => (o1.lo k hk))
  refine p_eq rfl rfl (fun h4 => ?_) (fun h4 => ?_)
  rotate_left
  refine p_eq rfl rfl (fun h5 => ?_) (fun h5 => ?_)
  rotate_left
  · refine ⟨_, 1, _, rfl, ?_, C1⟩
    have : oneL v = [b8 v.k] := by unfold oneL; rw [if_neg h2, if_neg h3, if_neg (by omega)]
    rw [this]; exact o1
  all_goals
    have h45 : v.k = 4 ∨ v.k = 5 := by omega
    refine p_fld fv2 rfl ?_
    refine v_load agg_str rfl (hB'.at_ rfl) ?_
    refine v_s2b rfl ?_
    rintro g2 c2 W2 hg2 hr2 hc2 hb2 hsz2
    refine cc is_rputb (refPutBytes_any _ _ _ _ _ hr2 (by omega)) ?_
    rintro e W3 ⟨A3, c3, rfl, o3, b3⟩
    refine ⟨_, rfl, ?_⟩
    have hlen := putN_len10 (n := v.s.length) (by omega)
    have o1' := (o1.upB hb2 (by omega)).below b3
    refine v_app rfl o1' rfl o3.rd (by omega) (by have := b3.size; omega) ?_
    rintro A4 c4 W4 o4 g4 -
    refine ⟨A4, _, c4, rfl, ?_, ?_⟩
    · have : oneL v = [b8 v.k] ++ putB v.s := by unfold oneL; rw [if_neg h2, if_neg h3, if_pos h45]; rfl
      rw [this]; exact o4
    · exact ((C1.trans (hb2.mono (by omega))).trans (b3.mono (by omega))).grown g4 (by have := b3.size; omega) (fun k hk => (o1'.lo k hk))

theorem right_n {v : Val} (h : rightB v = true) : v.k = 2 → 0 ≤ v.n ∧ v.n ≤ 1 := by
  intro h2
  unfold rightB at h
  rw [if_neg (by omega), if_pos h2] at h
  simp at h
  omega


set_option maxRecDepth 100000 in
set_option maxHeartbeats 2000000 in
theorem encode_any (A : Option Addr) (n c : Nat) (l : List Val) (w : World) (hr : RdV w w.heap.size A n l) (ho : ∀ v ∈ l, VOk v) (hs : tot l ≤ 1000000) :
    Calls Try.prog 10 #[.slice A n c] w fun e w' => ∃ A' m c', e = .returned (.tuple #[.slice A' m c', .int .i64 (encE l)]) ∧ Own w' w.heap.size A' m c' (encB l) ∧ Below w.heap.size w w' := by
  refine calls_ev (args := [.slice A n c]) mixed Try.func10 rfl (by kernel_rfl) ?_
  have hln := hr.len
  have htl := tot_len l
  have hl10 := putN_len10 (n := n) (by omega)
  refine p_len slv rfl ?_
  refine v_cvt u_int u_u64 rfl (wu64 (by omega)) ?_
  refine cc is_put (put_any n w hl10) ?_
  rintro e W0 ⟨A0, c0, rfl, o0, b0⟩
  refine ⟨_, rfl, ?_⟩
  refine p_len slv rfl ?_
  refine lp (Nat × Option Addr × Nat × Nat) (fun s W => Own W w.heap.size s.2.1 s.2.2.1 s.2.2.2 (putN n ++ (l.take s.1).flatMap oneL) ∧ Below w.heap.size w W ∧ s.1 ≤ n ∧ allR (l.take s.1) = true) (fun s => [(0, .slice A n c), (4, .slice s.2.1 s.2.2.1 s.2.2.2), (12, .slice A n c), (13, .int .i64 n), (14, .int .i64 s.1)]) (fun s => n - s.1) (0, A0, (putN n).length, c0) ⟨by simpa using o0, b0, by omega, by simp [allR]⟩ ⟨rfl, rfl, rfl, rfl, rfl, trivial⟩ ?_
  rintro ⟨j, A4, m4, c4⟩ B1 W ⟨o4, hb, hj, hall⟩
  dsimp only at o4 hj hall
  have hm4 := o4.len
  have hf := flat_take_len l j ho
  rw [List.length_append] at hm4
  refine p_lt rfl rfl (fun h => ?_) (fun h => ?_)
  · have hlt : j < l.length := by omega
    obtain ⟨ad, rfl, hadb, hads, hcell⟩ := (hr.below hb).at_ (List.getElem?_eq_getElem hlt)
    obtain ⟨v, hv⟩ : ∃ v, v = l[j] := ⟨_, rfl⟩
    rw [← hv] at hcell
    have hiv : l[j]? = some v := by rw [hv, List.getElem?_eq_getElem hlt]
    have hvm := List.mem_of_getElem? hiv
    have htm := tot_mem hvm
    have hov := ho v hvm
    refine p_at slv rfl rfl rfl (by omega) ?_
    refine v_loadN (vc v) agg_val rfl rfl hcell ?_
    refine v_allocB _ al_val ?_
    rintro g W1 hg hB0 hb1 hsz1
    refine v_storeA (vc v) sz_val rfl rfl rfl (by intro u hu; exact vcs_one [v] u (by simpa [vcs] using hu)) hB0 rfl ?_
    rintro W2 hB hg2 hsz2
    have hb2 : Below g W W2 := hb1.grown hg2 (by omega) (fun k hk => by injection hk with hk; omega)
    have C2 := hb.trans (hb2.mono (by have := hb.size; omega))
    have o5 := o4.upB hb2 (by omega)
    refine v_loadN (vc v) agg_val rfl rfl (hB.run 0 (vc v) (fun j v h => by rw [Nat.zero_add]; exact h)) ?_
    refine cc is_chk (chk_any v W2 hov.s0) ?_
    rintro e W3 ⟨rfl, hb3⟩
    refine ⟨_, rfl, ?_⟩
    have C3 := C2.trans (hb3.mono C2.size)
    have o6 := o5.below hb3
    have hB3 := hB.below hb3
    clear o4 o5 hB hB0 hcell
    refine p_ne rfl rfl (fun e => ?_) (fun e => ?_)
    rotate_left
    · have hbad := chkE_ne e
      have h1 : encE l = 2 := by unfold encE; rw [allR_bad hiv hbad.1]; rfl
      have h2 : encB l = [] := by unfold encB; rw [if_neg (by omega)]
      refine ⟨none, 0, 0, ?_, by rw [h2]; exact Own.nil_ _ _, C3⟩
      rw [h1, ← hbad.2]; rfl
    have hvr := chkE_eq e
    have hk := right_k hvr
    have hn2 := right_n hvr
    have hs3 : w.heap.size ≤ W3.heap.size := C3.size
    have h1v := oneL_len v hov
    -- what is left of a round
    have hall2 : allR (l.take (j + 1)) = true := by rw [allR_take hiv hall]; exact hvr
    refine p_fld fv0 rfl ?_
    refine v_load agg_int rfl (hB3.at_ rfl) ?_
    refine v_cvt u_int u_u8 rfl (wu8 (by omega)) ?_
    refine v_bslice (vs := [.int .u8 v.k]) slb zb rfl (by decide) rfl ?_
    rintro g4 W4 hg4 hB4 hb4 hsz4
    rw [show [Value.int .u8 v.k] = bvs [b8 v.k] from one_blk (by omega)] at hB4
    refine v_app rfl (o6.upB hb4 (by omega)) rfl (Rd.blk hB4) (by show m4 + 1 ≤ _; omega) (by omega) ?_
    rintro A5 c5 W5 o7 g5 -
    have hb5 : Below w.heap.size W3 W5 := (hb4.mono (by omega)).grown g5 (by omega) (fun k hk => o6.lo k hk)
    have C5 := C3.trans hb5
    have hgB : g < W3.heap.size := hB3.lt
    have hne : (Value.slice A4 m4 c4).ownBlock ≠ some g := by
      intro e
      rcases o6.2 with ⟨hv, _⟩ | ⟨g', cap, cur, hv, _, hh, _⟩
      · rw [hv] at e; cases e
      · rw [hv] at e
        have e : g' = g := by simpa [Value.ownBlock] using e
        subst e
        have := hh.symm.trans hB3
        injection this with this
        injection this with _ this
        exact absurd this (by decide)
    have hB5 : Blk W5 g 52 (vc v) := (hB3.belowB hb4 (by omega)).grown g5 hne
    have last : ∀ (A' : Option Addr) (m' c' : Nat) (W' : World) (x : List UInt8), Own W' w.heap.size A' (m4 + 1 + m') c' ((putN n ++ (l.take j).flatMap oneL ++ [b8 v.k]) ++ x) → Below w.heap.size w W' → oneL v = [b8 v.k] ++ x → Own W' w.heap.size A' (m4 + 1 + m') c' (putN n ++ (l.take (j + 1)).flatMap oneL) := by
      intro A' m' c' W' x ho' _ hx
      rw [flat_step hiv, hx, ← List.append_assoc, ← List.append_assoc]; exact ho'
    refine p_fld fv0 rfl ?_
    refine v_load agg_int rfl (hB5.at_ rfl) ?_
    refine p_eq rfl rfl (fun e2 => ?_) (fun e2 => ?_)
    · refine p_fld fv1 rfl ?_
      refine v_load agg_int rfl (hB5.at_ rfl) ?_
      refine v_cvt u_int u_u8 rfl (wu8 (by have := hn2 e2; omega)) ?_
      refine v_bslice (vs := [.int .u8 v.n]) slb zb rfl (by decide) rfl ?_
      rintro g6 W6 hg6 hB6 hb6 hsz6
      rw [show [Value.int .u8 v.n] = bvs [b8 v.n] from one_blk (by have := hn2 e2; omega)] at hB6
      refine v_app rfl (o7.upB hb6 (by omega)) rfl (Rd.blk hB6) (by show m4 + 1 + 1 ≤ _; omega) (by have := hb5.size; omega) ?_
      rintro A7 c7 W7 o8 g7 -
      refine p_add rfl rfl (w64 (by omega)) ?_
      have C7 := (C5.trans (hb6.mono (by have := hb5.size; omega))).grown g7 (by have := C5.size; omega) (fun k hk => o7.lo k hk)
      exact ⟨(j + 1, A7, m4 + 1 + 1, c7), ⟨last _ _ _ _ _ o8 C7 (by unfold oneL; rw [if_pos e2]; rfl), C7, by show j + 1 ≤ n; omega, hall2⟩, ⟨rfl, rfl, rfl, rfl, rfl, trivial⟩, by show n - (j + 1) < n - j; omega⟩
    refine p_eq rfl rfl (fun e3 => ?_) (fun e3 => ?_)
    · refine p_fld fv1 rfl ?_
      refine v_load agg_int rfl (hB5.at_ rfl) ?_
      refine cc is_puti (putInt_any v.n W5 hov.n0.1 hov.n0.2) ?_
      rintro e W6 ⟨A6, c6, rfl, o6', b6⟩
      refine ⟨_, rfl, ?_⟩
      have hz10 := putN_len10 (zig_lt hov.n0.1 hov.n0.2)
      refine v_app rfl (o7.below b6) rfl o6'.rd (by show m4 + 1 + _ ≤ _; omega) (by have := C5.size; have := b6.size; omega) ?_
      rintro A7 c7 W7 o8 g7 -
      refine p_add rfl rfl (w64 (by omega)) ?_
      have C7 := (C5.trans (b6.mono C5.size)).grown g7 (by have := C5.size; have := b6.size; omega) (fun k hk => o7.lo k hk)
      exact ⟨(j + 1, A7, m4 + 1 + (putN (zig v.n)).length, c7), ⟨last _ _ _ _ _ o8 C7 (by unfold oneL; rw [if_neg e2, if_pos e3]; rfl), C7, by show j + 1 ≤ n; omega, hall2⟩, ⟨rfl, rfl, rfl, rfl, rfl, trivial⟩, by show n - (j + 1) < n - j; omega⟩
    refine p_eq rfl rfl (fun e4 => ?_) (fun e4 => ?_)
    rotate_left
    refine p_eq rfl rfl (fun e5 => ?_) (fun e5 => ?_)
    rotate_left
    · refine p_add rfl rfl (w64 (by omega)) ?_
      refine ⟨(j + 1, A5, m4 + 1, c5), ⟨?_, C5, by show j + 1 ≤ n; omega, hall2⟩, ⟨rfl, rfl, rfl, rfl, rfl, trivial⟩, by show n - (j + 1) < n - j; omega⟩
      show Own W5 w.heap.size A5 (m4 + 1) c5 (putN n ++ (l.take (j + 1)).flatMap oneL)
      have : oneL v = [b8 v.k] := by unfold oneL; rw [if_neg e2, if_neg e3, if_neg (by omega)]
      rw [flat_step hiv, this, ← List.append_assoc]
      exact o7
    all_goals
      have h45 : v.k = 4 ∨ v.k = 5 := by omega
      refine p_fld fv2 rfl ?_
      refine v_load agg_str rfl (hB5.at_ rfl) ?_
      refine v_s2b rfl ?_
      rintro g6 c6 W6 hg6 hr6 hc6 hb6 hsz6
      refine cc is_putb (putBytes_any _ _ _ _ _ hr6 (by omega)) ?_
      rintro e W7 ⟨A7, c7, rfl, o7', b7⟩
      refine ⟨_, rfl, ?_⟩
      have hl10' := putN_len10 (n := v.s.length) (by omega)
      have o7'' := (o7.upB hb6 (by omega)).below b7
      have hs5 := C5.size
      have hs7 := b7.size
      refine v_app rfl o7'' rfl o7'.rd (by show m4 + 1 + _ ≤ _; omega) (by omega) ?_
      rintro A8 c8 W8 o8 g8 -
      refine p_add rfl rfl (w64 (by omega)) ?_
      have C8 := ((C5.trans (hb6.mono (by omega))).trans (b7.mono (by omega))).grown g8 (by omega) (fun k hk => o7''.lo k hk)
      exact ⟨(j + 1, A8, m4 + 1 + ((putN v.s.length).length + v.s.length), c8), ⟨last _ _ _ _ _ o8 C8 (by unfold oneL; rw [if_neg e2, if_neg e3, if_pos h45]; rfl), C8, by show j + 1 ≤ n; omega, hall2⟩, ⟨rfl, rfl, rfl, rfl, rfl, trivial⟩, by show n - (j + 1) < n - j; omega⟩
  · have e : l.take j = l := List.take_of_length_le (by omega)
    rw [e] at o4 hall
    refine p_len slv rfl ?_
    refine p_gt rfl rfl (fun h => ?_) (fun h => ?_)
    · have h1 : encE l = 3 := by unfold encE; rw [hall, if_pos rfl, if_pos (by omega)]
      have h2 : encB l = [] := by unfold encB; rw [if_neg (by omega)]
      exact ⟨none, 0, 0, by rw [h1]; rfl, by rw [h2]; exact Own.nil_ _ _, hb⟩
    · have h1 : encE l = 0 := by unfold encE; rw [hall, if_pos rfl, if_neg (by omega)]
      have h2 : encB l = putN n ++ l.flatMap oneL := by unfold encB; rw [if_pos h1, hln]
      rw [h1, h2]
      exact ⟨A4, m4, c4, rfl, o4, hb⟩
set_option maxRecDepth 100000 in
set_option maxHeartbeats 1000000 in
theorem rencode_any (A : Option Addr) (n c : Nat) (l : List Val) (w : World) (hr : RdV w w.heap.size A n l) (ho : ∀ v ∈ l, VOk v) (hs : tot l ≤ 1000000) :
    Calls Try.prog 11 #[.slice A n c] w fun e w' => ∃ A' m c', e = .returned (.tuple #[.slice A' m c', .int .i64 (encE l)]) ∧ Own w' w.heap.size A' m c' (encB l) ∧ Below w.heap.size w w' := by
  refine calls_ev (args := [.slice A n c]) mixed Try.func11 rfl (by kernel_rfl) ?_
  have hln := hr.len
  have htl := tot_len l
  refine lp Nat (fun i W => Below w.heap.size w W ∧ i ≤ n ∧ allR (l.take i) = true) (fun i => [(0, .slice A n c), (4, .int .i64 i)]) (fun i => n - i) 0 ⟨Below.refl _ _, by omega, by simp [allR]⟩ ⟨rfl, rfl, trivial⟩ ?_
  rintro i B0 W ⟨hb, hi, hall⟩
  refine p_len slv rfl ?_
  refine p_lt rfl rfl (fun h => ?_) (fun h => ?_)
  · have hlt : i < l.length := by omega
    obtain ⟨ad, rfl, hadb, hads, hcell⟩ := (hr.below hb).at_ (List.getElem?_eq_getElem hlt)
    obtain ⟨v, hv⟩ : ∃ v, v = l[i] := ⟨_, rfl⟩
    rw [← hv] at hcell
    have hiv : l[i]? = some v := by rw [hv, List.getElem?_eq_getElem hlt]
    have hvm := List.mem_of_getElem? hiv
    refine p_at slv rfl rfl rfl (by omega) ?_
    refine v_loadN (vc v) agg_val rfl rfl hcell ?_
    refine cc is_chk2 (chk2_any v W (ho v hvm).s0) ?_
    rintro e W2 ⟨rfl, hb2⟩
    refine ⟨_, rfl, ?_⟩
    have B2 := hb.trans (hb2.mono hb.size)
    refine p_ne rfl rfl (fun e => ?_) (fun e => ?_)
    · refine p_add rfl rfl (w64 (by omega)) ?_
      exact ⟨i + 1, ⟨B2, by omega, by rw [allR_take hiv hall]; exact chkE_eq e⟩, ⟨rfl, rfl, trivial⟩, by omega⟩
    · have hbad := chkE_ne e
      have h1 : encE l = 2 := by unfold encE; rw [allR_bad hiv hbad.1]; rfl
      have h2 : encB l = [] := by unfold encB; rw [if_neg (by omega)]
      refine ⟨none, 0, 0, ?_, by rw [h2]; exact Own.nil_ _ _, B2⟩
      rw [h1, ← hbad.2]; rfl
  have hall' : allR l = true := by rwa [List.take_of_length_le (by omega)] at hall
  refine p_len slv rfl ?_
  refine p_gt rfl rfl (fun h => ?_) (fun h => ?_)
  · have h1 : encE l = 3 := by unfold encE; rw [hall', if_pos rfl, if_pos (by omega)]
    have h2 : encB l = [] := by unfold encB; rw [if_neg (by omega)]
    exact ⟨none, 0, 0, by rw [h1]; rfl, by rw [h2]; exact Own.nil_ _ _, hb⟩
  have h1 : encE l = 0 := by unfold encE; rw [hall', if_pos rfl, if_neg (by omega)]
  have h2 : encB l = putN n ++ l.flatMap oneL := by unfold encB; rw [if_pos h1, hln]
  refine p_len slv rfl ?_
  refine v_cvt u_int u_u64 rfl (wu64 (by omega)) ?_
  refine cc is_rput (refPut_any n W (by omega)) ?_
  rintro e W3 ⟨A3, c3, rfl, o3, b3⟩
  refine ⟨_, rfl, ?_⟩
  have B3 := hb.trans (b3.mono hb.size)
  have hl10 := putN_len10 (n := n) (by omega)
  refine lp (Nat × Option Addr × Nat × Nat) (fun s W => Own W w.heap.size s.2.1 s.2.2.1 s.2.2.2 (putN n ++ (l.take s.1).flatMap oneL) ∧ Below w.heap.size w W ∧ s.1 ≤ n) (fun s => [(0, .slice A n c), (6, .slice s.2.1 s.2.2.1 s.2.2.2), (7, .int .i64 s.1)]) (fun s => n - s.1) (0, A3, (putN n).length, c3) ⟨by simpa using o3.less hb.size, B3, by omega⟩ ⟨rfl, rfl, rfl, trivial⟩ ?_
  rintro ⟨j, A4, m4, c4⟩ B1 W4 ⟨o4, B4, hj⟩
  dsimp only at o4 hj
  refine p_len slv rfl ?_
  refine p_lt rfl rfl (fun h => ?_) (fun h => ?_)
  · have hlt : j < l.length := by omega
    obtain ⟨ad, rfl, hadb, hads, hcell⟩ := (hr.below B4).at_ (List.getElem?_eq_getElem hlt)
    obtain ⟨v, hv⟩ : ∃ v, v = l[j] := ⟨_, rfl⟩
    rw [← hv] at hcell
    have hiv : l[j]? = some v := by rw [hv, List.getElem?_eq_getElem hlt]
    have hvm := List.mem_of_getElem? hiv
    have hvr : rightB v = true := by unfold allR at hall'; exact List.all_eq_true.1 hall' v hvm
    have htm := tot_mem hvm
    refine p_at slv rfl rfl rfl (by omega) ?_
    refine v_loadN (vc v) agg_val rfl rfl hcell ?_
    refine cc is_one (one_any v W4 (right_k hvr) (right_n hvr) (ho v hvm) (by omega)) ?_
    rintro e W5 ⟨A5, m5, c5, rfl, o5, b5⟩
    refine ⟨_, rfl, ?_⟩
    have hm5 := o5.len
    have h5 := oneL_len v (ho v hvm)
    have hm4 := o4.len
    have hf := flat_take_len l j ho
    rw [List.length_append] at hm4
    refine v_app rfl (o4.below b5) rfl o5.rd (by show m4 + m5 ≤ _; omega) (by have := b5.size; have := B4.size; omega) ?_
    rintro A6 c6 W6 o6 g6 -
    refine p_add rfl rfl (w64 (by omega)) ?_
    refine ⟨(j + 1, A6, m4 + m5, c6), ⟨?_, ?_, by show j + 1 ≤ n; omega⟩, ⟨rfl, rfl, rfl, trivial⟩, by show n - (j + 1) < n - j; omega⟩
    · show Own W6 w.heap.size A6 (m4 + m5) c6 (putN n ++ (l.take (j + 1)).flatMap oneL)
      rw [flat_step hiv, ← List.append_assoc]; exact o6
    · exact (B4.trans (b5.mono B4.size)).grown g6 (by have := b5.size; have := B4.size; omega) (fun k hk => (o4.lo k hk))
  · rw [h2, h1]
    have e : l.take j = l := List.take_of_length_le (by omega)
    rw [e] at o4
    exact ⟨A4, m4, c4, rfl, o4, B4⟩
end Go.Proofs.Ytjneoinacobbaaa
