/- The walks of digest.New, Len, Sum of a Digest, Sum. -/
import Derived.Test.YtjneoinacobbaaaDoorWrite
import Derived.Test.YtjneoinacobbaaaDoorCom
namespace Go.Proofs.YtjneoinacobbaaaDoor
open Go.RowKit
theorem pl_dig : placesOf Tryd.prog 46 = some [(0, 8), (8, 1), (9, 1)] := by kernel_rfl
theorem z_dig : zeroOf Tryd.prog 46 = some (hc ⟨0, 0, 0, 0, 0, 0, 0, 0⟩ ++ [.slice none 0 0, .int .i64 0]) := by kernel_rfl
theorem al_dig : (Tryd.prog.info? 46).map (fun i => i.zero.map fun z => z.cells.toList) = some (some (hc ⟨0, 0, 0, 0, 0, 0, 0, 0⟩ ++ [.slice none 0 0, .int .i64 0])) := by kernel_rfl
theorem sz_dig : (Tryd.prog.info? 46).map (·.size) = some 10 := by kernel_rfl
theorem agg_dig : aggOf Tryd.prog 46 = some (true, 10) := by kernel_rfl
theorem is_new : isFn Tryd.prog 7 = true := by kernel_rfl
theorem is_write : isFn Tryd.prog 8 = true := by kernel_rfl
theorem is_dsum : isFn Tryd.prog 11 = true := by kernel_rfl
set_option maxRecDepth 100000 in
theorem new_any (gs : List (Option Nat)) (w : World) (hG : GL w gs) :
    Calls Tryd.prog 7 #[] w fun e w' => ∃ g, e = .returned (.pointer (some ⟨g, 0, none⟩)) ∧ g = w.heap.size ∧ Below w.heap.size w w' ∧ w'.heap.size = g + 1 ∧ Dg w' (some g :: gs) g [] := by
  refine calls_ev (args := []) mixed Tryd.func7 rfl (by kernel_rfl) ?_
  refine v_loadN (hc begin8) agg_a8 rfl rfl (fun j v hj => by rw [Addr.add_lit, Nat.zero_add]; exact hG.begin j v hj) ?_
  refine p_build (vs := hc begin8 ++ [.slice none 0 0, .int .i64 0]) pl_dig z_dig rfl ?_
  refine v_boxB (hc begin8 ++ [.slice none 0 0, .int .i64 0]) rfl ?_
  rintro g w' hg hB hb hs
  refine ⟨g, rfl, hg, hg ▸ hb, hs, none, 0, hB, ?_, by simp⟩
  exact RdD.nil_ _ _
set_option maxRecDepth 100000 in
theorem len_any (gs : List (Option Nat)) (g : Nat) (all : List UInt8) (w : World) (hD : Dg w gs g all) :
    Calls Tryd.prog 9 #[.pointer (some ⟨g, 0, none⟩)] w fun e w' => e = .returned (.int .i64 all.length) ∧ w = w' := by
  refine calls_ev (args := [.pointer (some ⟨g, 0, none⟩)]) mixed Tryd.func9 rfl (by kernel_rfl) ?_
  obtain ⟨A, c, hB, _⟩ := hD
  refine p_peq ptrD rfl rfl ?_
  refine p_nil rfl ?_
  refine p_fld fd2 rfl ?_
  refine v_load agg_int rfl (hB.at_ rfl) ?_
  exact ⟨rfl, rfl⟩
set_option maxRecDepth 100000 in
theorem len_nil (w : World) :
    Calls Tryd.prog 9 #[.pointer none] w fun e w' => e = .returned (.int .i64 0) ∧ w = w' := by
  refine calls_ev (args := [.pointer none]) mixed Tryd.func9 rfl (by kernel_rfl) ?_
  refine p_peq0 ptrD rfl rfl ?_
  exact ⟨rfl, rfl⟩
set_option maxRecDepth 100000 in
theorem write_nil (A : Option Addr) (n c : Nat) (w : World) :
    Calls Tryd.prog 8 #[.pointer none, .slice A n c] w fun e w' => (∃ v, e = .returned v) ∧ w = w' := by
  refine calls_ev (args := [.pointer none, .slice A n c]) mixed Tryd.func8 rfl (by kernel_rfl) ?_
  refine p_peq0 ptrD rfl rfl ?_
  exact ⟨⟨_, rfl⟩, rfl⟩
/-- Eight bytes of a number, the first j of them. -/
def tailF (x j : Nat) : List UInt8 := (List.range j).map fun q => UInt8.ofNat (x >>> (56 - 8 * q))
theorem tailF_snoc (x j : Nat) : tailF x (j + 1) = tailF x j ++ [UInt8.ofNat (x >>> (56 - 8 * j))] := by unfold tailF; rw [List.range_succ, List.map_append]; rfl
theorem wrap8 (x : Nat) : IntKind.u8.wrap ((x : Nat) : Int) = ((x % 256 : Nat) : Int) := by rw [IntKind.wrap_u8']; omega
theorem b8_mod (x : Nat) : b8 ((x % 256 : Nat) : Int) = UInt8.ofNat x := by
  unfold b8
  apply UInt8.toNat_inj.1
  simp only [UInt8.toNat_ofNat']
  omega
theorem shr64 {x n : Nat} (hn : n ≤ 64) : (x : Int).fdiv (2 ^ (min ((n : Nat) : Int).toNat 64)) = ((x >>> n : Nat) : Int) := by
  rw [Int.toNat_natCast, Nat.min_eq_left (by omega), Nat.shiftRight_eq_div_pow, Int.fdiv_eq_ediv_of_nonneg _ (Int.le_of_lt (Int.pow_pos (by decide))), Int.natCast_ediv, Int.natCast_pow]
  rfl
theorem tmod64 (a : Nat) : ((a : Nat) : Int).tmod 64 = ((a % 64 : Nat) : Int) := by rw [Int.tmod_eq_emod_of_nonneg (by omega)]; omega
theorem u_u32' : (Tryd.prog.underlying 43).isSome = true := by kernel_rfl
theorem u_u64' : (Tryd.prog.underlying 47).isSome = true := by kernel_rfl
set_option maxRecDepth 100000 in
theorem dsum_any (gs : List (Option Nat)) (g : Nat) (all : List UInt8) (w : World) (hgs : ∀ b, some b ∈ gs → b < w.heap.size) (hG : GL w gs) (hD : Dg w gs g all) (hs : all.length ≤ 10000000000) :
    Calls Tryd.prog 11 #[.pointer (some ⟨g, 0, none⟩)] w fun e w' => ∃ A c, e = .returned (.slice A 32 c) ∧ Own w' w.heap.size A 32 c (sha all) ∧ Below w.heap.size w w' := by
  refine calls_ev (args := [.pointer (some ⟨g, 0, none⟩)]) mixed Tryd.func11 rfl (by kernel_rfl) ?_
  obtain ⟨A, c, hB, hR, hg⟩ := hD
  refine p_peq ptrD rfl rfl ?_
  refine p_nil rfl ?_
  refine v_loadN (hc (blocksF begin8 (all.length / 64) all) ++ [.slice A (all.length % 64) c, .int .i64 all.length]) agg_dig rfl rfl (hB.run 0 _ (fun j v hj => by rw [Nat.zero_add]; exact hj)) ?_
  refine v_allocB _ al_dig ?_
  rintro x W1 hx hB1 hb1 hs1
  refine v_storeA (hc (blocksF begin8 (all.length / 64) all) ++ [.slice A (all.length % 64) c, .int .i64 all.length]) sz_dig rfl rfl rfl (by intro u hu; simp [hc] at hu; rcases hu with rfl | rfl | rfl | rfl | rfl | rfl | rfl | rfl | rfl | rfl <;> rfl) hB1 rfl ?_
  rintro W2 hB2 hg2 hs2
  have C2 : Below w.heap.size w W2 := by rw [← hx] at *; exact hb1.grown hg2 (by omega) (fun k hk => by injection hk with hk; omega)
  have s2 : Stp w gs W2 (some x :: gs) := Stp.new C2 (fun b e => by injection e with e; omega)
  have hD2 : Dg W2 (some x :: gs) x all := ⟨A, c, hB2, hR.up s2, by simp⟩
  have hG2 := hG.up s2
  clear hB hR hB1 hB2 hb1 hg2
  have A2 : At w W2 (some x :: gs) := (At.start hgs).new C2 (fun b e => by injection e with e; omega)
  have s2' : Stp W2 (some x :: gs) W2 (none :: some x :: gs) := Stp.new (Below.refl _ _) (fun b e => by cases e)
  have A2' : At w W2 (none :: some x :: gs) := A2.new (Below.refl _ _) (fun b e => by cases e)
  have hxl : x < W2.heap.size := by omega
  replace hD2 : Dg W2 (none :: some x :: gs) x all := hD2.up s2' rfl (by simp)
  replace hG2 := hG2.up s2'
  refine v_litB [.int .u8 128] [128] (by decide) rfl rfl rfl A2' ?_
  rintro g3 W3 hg3 o3 s3 A3 b3 hs3
  refine v_appS (A := none) rfl (Own.nil_ W3 w.heap.size) rfl o3.rd (by decide) A3 ?_
  rintro A4 c4 W4 o4 s4 A4' - h4
  have hD4 : Dg W4 (bk A4 :: some x :: gs) x all := ((hD2.below b3).up s4 (h4.block x (by omega) (by simp [bk])) (by simp))
  have hG4 := (hG2.up s3).up s4
  clear hD2 hG2 s3 s4 o3
  refine lp (Nat × Option Addr × Nat) (fun s W => s.1 ≤ (119 - all.length % 64) % 64 ∧ Own W w.heap.size s.2.1 (1 + s.1) s.2.2 (128 :: List.replicate s.1 0) ∧ At w W (bk s.2.1 :: some x :: gs) ∧ Dg W (bk s.2.1 :: some x :: gs) x all ∧ GL W (bk s.2.1 :: some x :: gs) ∧ x < W.heap.size)
    (fun s => [(3, .pointer (some ⟨x, 0, none⟩)), (4, .slice s.2.1 (1 + s.1) s.2.2)]) (fun s => 64 - s.1) (0, A4, c4) ⟨Nat.zero_le _, o4, A4', hD4, hG4, by have := h4.size; omega⟩ ⟨rfl, rfl, trivial⟩ ?_
  clear hD4 hG4 A4' o4 h4
  rintro ⟨k, A5, c5⟩ E0 W5 ⟨hk, o5, A5', hD5, hG5, hx5⟩
  dsimp only at hk o5 A5' hD5 hG5
  have hD5' := hD5
  obtain ⟨A6, c6, hB5, hR5, _⟩ := hD5'
  refine p_fld fd2 rfl ?_
  refine v_load agg_int rfl (hB5.at_ rfl) ?_
  refine p_len slb rfl ?_
  refine p_add rfl rfl (r := ((all.length + (1 + k) : Nat) : Int)) (w64 (by omega) |>.trans (by omega)) ?_
  refine p_add rfl rfl (r := ((all.length + (1 + k) + 8 : Nat) : Int)) (w64 (by omega) |>.trans (by omega)) ?_
  refine p_rem rfl rfl (by decide) (r := (((all.length + (1 + k) + 8) % 64 : Nat) : Int)) (tmod64 _) ?_
  refine p_ne rfl rfl (fun h0 => ?_) (fun h0 => ?_)
  rotate_left
  · refine v_litB [.int .u8 0] [0] (by decide) rfl rfl rfl A5' ?_
    rintro g6 W6 hg6 o6 s6 A6' b6 hs6
    refine v_appS rfl (o5.below b6) rfl o6.rd (by omega) A6' ?_
    rintro A7 c7 W7 o7 s7 A7' - h7
    refine ⟨(k + 1, A7, c7), ⟨by dsimp only; omega, by rw [← Nat.add_assoc, List.replicate_succ', ← List.cons_append]; exact o7, A7', ((hD5.below b6).up s7 (h7.block x (by omega) ?_) (by simp)), (hG5.up s6).up s7, by have := h7.size; omega⟩, ⟨rfl, rfl, trivial⟩, by dsimp only; omega⟩
    exact fun e => (o5.below b6).ne_blk (hB5.below b6) (by decide) e.symm
  have hkK : k = (119 - all.length % 64) % 64 := by omega
  have l5 := o5.len
  refine p_fld fd2 rfl ?_
  refine v_load agg_int rfl (hB5.at_ rfl) ?_
  refine v_cvt u_int u_u64 rfl (wu64 (by omega)) ?_
  refine p_mul rfl rfl (r := ((8 * all.length : Nat) : Int)) ((wu64 (by omega)).trans (by omega)) ?_
  refine lp (Nat × Option Addr × Nat) (fun s W => s.1 ≤ 8 ∧ Own W w.heap.size s.2.1 (1 + k + s.1) s.2.2 ((128 :: List.replicate k 0) ++ tailF (8 * all.length) s.1) ∧ At w W (bk s.2.1 :: some x :: gs) ∧ Dg W (bk s.2.1 :: some x :: gs) x all ∧ GL W (bk s.2.1 :: some x :: gs) ∧ x < W.heap.size)
    (fun s => [(3, .pointer (some ⟨x, 0, none⟩)), (4, .slice s.2.1 (1 + k + s.1) s.2.2), (5, .int .u64 ((8 * all.length : Nat) : Int)), (6, .int .i64 (56 - 8 * s.1))]) (fun s => 9 - s.1) (0, A5, c5) ⟨Nat.zero_le _, by simpa [tailF] using o5, A5', hD5, hG5, hx5⟩ ⟨rfl, rfl, rfl, rfl, trivial⟩ ?_
  clear hB5 hR5 o5 A5' hD5 hG5 hx5
  rintro ⟨j, A8, c8⟩ E1 W8 ⟨hj, o8, A8', hD8, hG8, hx8⟩
  dsimp only at hj o8 A8' hD8 hG8
  refine p_ge rfl rfl (fun hge => ?_) (fun hlt => ?_)
  · refine p_shr rfl rfl (by omega) (r := (((8 * all.length) >>> (56 - 8 * j) : Nat) : Int)) ?_ ?_
    · rw [show (56 : Int) - 8 * j = ((56 - 8 * j : Nat) : Int) by omega]
      exact shr64 (by omega)
    refine v_cvt u_u64' u_u8 rfl (wrap8 _) ?_
    refine v_litB _ [UInt8.ofNat ((8 * all.length) >>> (56 - 8 * j))] (by decide) rfl (bvs1 _) rfl A8' ?_
    rintro g9 W9 hg9 o9 s9 A9' b9 hs9
    refine v_appS rfl (o8.below b9) rfl o9.rd (by omega) A9' ?_
    rintro A10 c10 W10 o10 s10 A10' - h10
    obtain ⟨_, _, hB8, _, _⟩ := hD8.below b9
    refine p_sub rfl rfl (r := 56 - 8 * ((j + 1 : Nat) : Int)) ((w64 (by omega)).trans (by omega)) ?_
    refine ⟨(j + 1, A10, c10), ⟨by dsimp only; omega, by dsimp only; rw [tailF_snoc, ← List.append_assoc, ← Nat.add_assoc]; exact o10, A10', (hD8.below b9).up s10 (h10.block x (by omega) (fun e => (o8.below b9).ne_blk hB8 (by decide) e.symm)) (by simp), (hG8.up s9).up s10, by have := h10.size; omega⟩, ⟨rfl, rfl, rfl, rfl, trivial⟩, by dsimp only; omega⟩
  have hj8 : j = 8 := by omega
  subst hj8
  have hpad : (128 :: List.replicate k 0) ++ tailF (8 * all.length) 8 = padL all.length := by
    unfold padL
    rw [hkK, List.cons_append]
    rfl
  rw [hpad] at o8
  have hD9 : Dg W8 (some x :: gs) x all := hD8.up Stp.drop rfl (by simp)
  have hG9 := hG8.up (Stp.drop (g := bk A8) (gs := some x :: gs))
  have A9 := A8'.drop
  have hD9' := hD9
  obtain ⟨_, _, hB9, _, _⟩ := hD9'
  have hpl : (padL all.length).length ≤ 200 := by rw [o8.len]; omega
  refine cc is_write (write_any (some x :: gs) x c8 A8 _ (padL all.length) all W8 A9.lt hG9 hD9 (o8.frB fun b h1 h2 h3 => ⟨h2, fun e => ?_⟩) (by omega) (by have := hG.size; omega)) ?_
  · rcases List.mem_cons.1 e with e | e
    · exact o8.ne_blk hB9 (by decide) (h3.trans e)
    · have := hgs b e; omega
  rintro e W9 ⟨⟨v, rfl⟩, g9, hD10⟩
  refine ⟨_, rfl, ?_⟩
  obtain ⟨A11, c11, hB10, _, _⟩ := hD10
  have A10 : At w W9 (some x :: gs) := A9.wrote g9 (fun b e => by injection e with e; omega)
  obtain ⟨h8, hh8⟩ : ∃ h8, h8 = blocksF begin8 ((all ++ padL all.length).length / 64) (all ++ padL all.length) := ⟨_, rfl⟩
  rw [← hh8] at hB10
  have hsha : sha all = out8 h8 := by unfold sha; rw [hh8]
  refine p_fld fd0 rfl ?_
  refine v_loadN (hc h8) agg_a8 rfl rfl (hB10.run 0 _ (fun j v hj => by rw [Nat.zero_add, List.getElem?_append_left (List.getElem?_eq_some_iff.1 hj).1]; exact hj)) ?_
  have A10' : At w W9 (none :: gs) := (A10.drop).new (Below.refl _ _) (fun b e => by cases e)
  refine lp (Nat × Option Addr × Nat) (fun s W => s.1 ≤ 8 ∧ Own W w.heap.size s.2.1 (4 * s.1) s.2.2 ((out8 h8).take (4 * s.1)) ∧ At w W (bk s.2.1 :: gs))
    (fun s => [(7, .slice s.2.1 (4 * s.1) s.2.2), (48, .agg (hc h8).toArray), (49, .int .i64 s.1)]) (fun s => 9 - s.1) (0, none, 0) ⟨Nat.zero_le _, Own.nil_ _ _, A10'⟩ ⟨rfl, rfl, rfl, trivial⟩ ?_
  clear hB10 A10 A10' hD9 hB9 g9 A9 o8 hG9 hG8 hD8 A8'
  rintro ⟨j, A12, c12⟩ E2 W12 ⟨hj, o12, A13⟩
  dsimp only at hj o12 A13
  refine p_lt rfl rfl (fun hlt => ?_) (fun hge => ?_)
  · obtain ⟨q, hq1, hq2⟩ : ∃ q : Nat, (hc h8)[j]? = some (cu q) ∧ (out8 h8).take (4 * (j + 1)) = (out8 h8).take (4 * j) ++ put4 q := by
      have h8' : j = 0 ∨ j = 1 ∨ j = 2 ∨ j = 3 ∨ j = 4 ∨ j = 5 ∨ j = 6 ∨ j = 7 := by omega
      rcases h8' with rfl | rfl | rfl | rfl | rfl | rfl | rfl | rfl <;> exact ⟨_, rfl, rfl⟩
    refine p_idxA (i := j) ar8 agg_u32 rfl rfl rfl (by omega) hq1 ?_
    refine p_shr rfl rfl (by decide) (shr32 (n := 24) (x := q) (by decide)) ?_
    refine v_cvt u_u32' u_u8 rfl (wrap8 _) ?_
    refine p_shr rfl rfl (by decide) (shr32 (n := 16) (x := q) (by decide)) ?_
    refine v_cvt u_u32' u_u8 rfl (wrap8 _) ?_
    refine p_shr rfl rfl (by decide) (shr32 (n := 8) (x := q) (by decide)) ?_
    refine v_cvt u_u32' u_u8 rfl (wrap8 _) ?_
    refine v_cvt u_u32' u_u8 rfl (wrap8 _) ?_
    refine v_litB [.int .u8 (((q >>> 24) % 256 : Nat) : Int), .int .u8 (((q >>> 16) % 256 : Nat) : Int), .int .u8 (((q >>> 8) % 256 : Nat) : Int), .int .u8 ((q % 256 : Nat) : Int)] (put4 q) (by decide) rfl ?_ rfl A13 ?_
    · rw [u8v_nat, u8v_nat, u8v_nat, u8v_nat]; rfl
    rintro g14 W14 hg14 o14 s14 A14 b14 hs14
    refine v_appS rfl (o12.below b14) rfl o14.rd (by omega) A14 ?_
    rintro A15 c15 W15 o15 s15 A15' - h15
    refine p_add rfl rfl (r := ((j + 1 : Nat) : Int)) ((w64 (by omega)).trans (by omega)) ?_
    refine ⟨(j + 1, A15, c15), ⟨by dsimp only; omega, by dsimp only; rw [hq2, Nat.mul_add]; exact o15, A15'⟩, ⟨rfl, rfl, rfl, trivial⟩, by dsimp only; omega⟩
  · have hj8 : j = 8 := by omega
    subst hj8
    refine ⟨A12, c12, rfl, ?_, A13.below⟩
    rw [hsha]; exact o12
set_option maxRecDepth 100000 in
theorem dsum_nil (gs : List (Option Nat)) (w : World) (hgs : ∀ b, some b ∈ gs → b < w.heap.size) (hG : GL w gs) :
    Calls Tryd.prog 11 #[.pointer none] w fun e w' => ∃ A c, e = .returned (.slice A 32 c) ∧ Own w' w.heap.size A 32 c (sha []) ∧ Below w.heap.size w w' := by
  refine calls_ev (args := [.pointer none]) mixed Tryd.func11 rfl (by kernel_rfl) ?_
  refine p_peq0 ptrD rfl rfl ?_
  refine cc is_new (new_any gs w hG) ?_
  rintro e W1 ⟨g, rfl, hg, hb, hs, hD⟩
  refine ⟨_, rfl, ?_⟩
  have hgs' : ∀ b, some b ∈ some g :: gs → b < W1.heap.size := fun b e => by
    rcases List.mem_cons.1 e with e | e
    · injection e with e; omega
    · have := hgs b e; omega
  refine cc is_dsum (dsum_any (some g :: gs) g [] W1 hgs' (hG.up (Stp.new hb (fun b e => by injection e with e; omega))) hD (by simp)) ?_
  rintro e W2 ⟨A, c, rfl, o2, b2⟩
  refine ⟨_, rfl, ?_⟩
  exact ⟨A, c, rfl, o2.less (by omega), hb.trans (b2.mono (by omega))⟩
end Go.Proofs.YtjneoinacobbaaaDoor
