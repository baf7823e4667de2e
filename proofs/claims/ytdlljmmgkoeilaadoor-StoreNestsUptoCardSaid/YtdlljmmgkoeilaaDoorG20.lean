/- The walks of digest.New, Write, Len, Sum. The walks of digest.New, Len, Sum of a Digest, Sum. The walk of digest.Sum. -/
import Derived.Test.YtdlljmmgkoeilaaDoorG19
import Derived.Test.YtdlljmmgkoeilaaDoorG03
import Derived.Test.YtdlljmmgkoeilaaDoorG04
import Derived.Test.YtdlljmmgkoeilaaDoorG05
namespace Go.Proofs.YtdlljmmgkoeilaaDoor
open Go.RowKit

theorem blocksF_snoc : ∀ (n : Nat) (h : H8) (b : List UInt8), blocksF h (n + 1) b = take8 (blocksF h n b) ((b.drop (64 * n)).take 64)
  | 0, h, b => by simp [blocksF]
  | n + 1, h, b => by
    have := blocksF_snoc n (take8 h (b.take 64)) (b.drop 64)
    rw [blocksF, this, blocksF, List.drop_drop, show 64 + 64 * n = 64 * (n + 1) by omega]
theorem blocksF_app : ∀ (n : Nat) (h : H8) (b c : List UInt8), 64 * n ≤ b.length → blocksF h n (b ++ c) = blocksF h n b
  | 0, h, b, c, _ => rfl
  | n + 1, h, b, c, hl => by
    rw [blocksF, blocksF, List.take_append_of_le_length (by omega), List.drop_append_of_le_length (by omega), blocksF_app n _ _ _ (by rw [List.length_drop]; omega)]
theorem blocksF_ok : ∀ (n : Nat) (h : H8) (b : List UInt8), h.Ok → (blocksF h n b).Ok
  | 0, h, b, ho => ho
  | n + 1, h, b, ho => blocksF_ok n _ _ (add8_ok _ _)
theorem begin8_ok : begin8.Ok := by constructor <;> decide

/-- The package's tables. -/
structure GL (W : World) (gs : List (Option Nat)) : Prop where
  roots : rootsAt W
  begin : ∀ j v, (hc begin8)[j]? = some v → W.cell? ⟨0, j, none⟩ = some v
  size : 2 ≤ W.heap.size
  out0 : some 0 ∉ gs
  out1 : some 1 ∉ gs
theorem GL.up {W W' : World} {gs gs' : List (Option Nat)} (h : GL W gs) (s : Stp W gs W' gs') : GL W' gs' :=
  ⟨fun j hj => (World.cell?_of_block (w := W) (a := ⟨1, j, none⟩) (s.block 1 h.size h.out1)).trans (h.roots j hj),
   fun j v hv => (World.cell?_of_block (w := W) (a := ⟨0, j, none⟩) (s.block 0 (by have := h.size; omega) h.out0)).trans (h.begin j v hv),
   Nat.le_trans h.size s.size, fun e => h.out0 (s.own 0 (by have := h.size; omega) e), fun e => h.out1 (s.own 1 h.size e)⟩
/-- A Digest to which all this was written. -/
def Dg (W : World) (gs : List (Option Nat)) (g : Nat) (all : List UInt8) : Prop :=
  ∃ A c, Blk W g 133 (hc (blocksF begin8 (all.length / 64) all) ++ [.slice A (all.length % 64) c, .int .i64 all.length]) ∧
    RdD W (Fd W gs) (dB (all.drop (64 * (all.length / 64)))) (.slice A (all.length % 64) c) ∧ some g ∈ gs
theorem Dg.up {W W' : World} {gs gs' : List (Option Nat)} {g : Nat} {all : List UInt8} (h : Dg W gs g all) (s : Stp W gs W' gs') (hg : W'.heap[g]? = W.heap[g]?) (hm : some g ∈ gs') : Dg W' gs' g all := by
  obtain ⟨A, c, h1, h2, h4⟩ := h
  exact ⟨A, c, hg.trans h1, h2.up s, hm⟩
theorem Dg.below {W W' : World} {gs : List (Option Nat)} {g : Nat} {all : List UInt8} (h : Dg W gs g all) (hb : Below W.heap.size W W') : Dg W' gs g all := by
  obtain ⟨A, c, h1, h2, h4⟩ := h
  exact ⟨A, c, h1.below hb, h2.up (Stp.below hb), h4⟩

section
variable {E : Env} {d : Option Nat} {ty : TypeId} {p : String} {af : Array Edge} {g : Option (Nat × Bool)} {x y z : Operand} {kw : Value → World → Prop} {w : World}
/-- append of bytes onto bytes that are full. -/
theorem v_appFull {n m c2 B B2 : Nat} {A A2 : Option Addr} {l l2 : List UInt8} (hx : val E x = .slice A n n) (ho : Rd w B A n l) (hA : A = none → n = 0) (hy : val E y = .slice A2 m c2) (hr : Rd w B2 A2 m l2) (hsz : n + m ≤ 1000000000000)
    (h : ∀ A' c' w', Below w.heap.size w w' → (A' = none → n + m = 0) → n + m ≤ c' → (A' = A ∧ m = 0 ∧ w' = w ∨ Own w' w.heap.size A' (n + m) c' (l ++ l2)) → kw (.slice A' (n + m) c') w') :
    VVal Tryd.prog E { dst := d, op := .call { callee := .builtin .append, args := #[x, y], argTypes := #[23, 23] }, type := ty, pos := p, after := af, guard := g } w kw := by
  obtain ⟨i, hi, hz, hs1, hs2⟩ := info_parts' u8info
  rcases Nat.eq_zero_or_pos m with hm | hm
  · subst hm
    refine vv (v := .slice A n n) (w' := w) ?_ (h A n w (Below.refl _ _) hA (Nat.le_refl _) (.inl ⟨rfl, rfl, rfl⟩))
    simp [execOp, resolve, invoke, builtin, hx, hy, run_append_zero (P := Tryd.prog) (w := w) Tryd.underlying23 hi A A2 n n c2 (Nat.le_refl _)]
  · obtain ⟨c', w', hrun, h1, h2, h3⟩ := run_append_full (P := Tryd.prog) (w := w) (c2 := c2) (ty := ty) Tryd.underlying23 hi hz hs1 hs2 rfl ho hr hA hm (by unfold maxLen; omega) (by omega)
    refine vv (v := .slice (some ⟨w.heap.size, 0, none⟩) (n + m) c') (w' := w') ?_ (h _ c' w' h2 (fun e => by cases e) ?_ (.inr ?_))
    · simp [execOp, resolve, invoke, builtin, hx, hy, hrun]
    · rcases h1.2 with ⟨hv, _⟩ | ⟨g, cap, cur, hv, _, _, hc, _⟩
      · cases hv
      · injection hv with _ _ e; omega
    · unfold Own; rw [bvs_append]; exact h1
end
theorem ptrD : isPtr Tryd.prog 120 = true := by kernel_rfl
theorem sz_i : (Tryd.prog.info? 3).map (·.size) = some 1 := by kernel_rfl
theorem sz_sl : (Tryd.prog.info? 23).map (·.size) = some 1 := by kernel_rfl
set_option maxRecDepth 100000 in
theorem write_any (gs : List (Option Nat)) (g c : Nat) (A : Option Addr) (n : Nat) (l all : List UInt8) (w : World) (hgs : ∀ b, some b ∈ gs → b < w.heap.size) (hG : GL w gs) (hD : Dg w gs g all) (hr : RdD w (Fd w gs) (dB l) (.slice A n c)) (hs : all.length + l.length ≤ 100000000000) (hg2' : 2 ≤ g) :
    Calls Tryd.prog 72 #[.pointer (some ⟨g, 0, none⟩), .slice A n c] w fun e w' => (∃ v, e = .returned v) ∧ w.grownBy w' (some g) ∧ Dg w' gs g (all ++ l) := by
  refine calls_ev (args := [.pointer (some ⟨g, 0, none⟩), .slice A n c]) mixed Tryd.func72 rfl (by kernel_rfl) ?_
  obtain ⟨A0, c0, hB, hR, hg⟩ := hD
  have hN := fun h => hR.none0 (A := A0) h
  have hok := blocksF_ok (all.length / 64) begin8 all begin8_ok
  have h3 : (hc (blocksF begin8 (all.length / 64) all)).length = 8 := rfl
  generalize hH : blocksF begin8 (all.length / 64) all = h at *
  refine p_peq ptrD rfl rfl ?_
  refine p_nil rfl ?_
  refine p_fld fd2 rfl ?_
  refine v_load agg_int rfl (hB.at_ rfl) ?_
  obtain ⟨A1, c1, e1, hc1, hrl⟩ := hr.rdB
  injection e1 with e1 e2 e3
  subst e1; subst e2; subst e3
  refine p_len slb rfl ?_
  refine p_add rfl rfl (r := ((all.length + l.length : Nat) : Int)) (w64 (by omega) |>.trans (by omega)) ?_
  refine p_nil rfl ?_
  refine p_fld fd2 rfl ?_
  refine v_set (.int .i64 ((all.length + l.length : Nat) : Int)) sz_i hB rfl rfl rfl (by show 9 < 10; decide) ?_
  rintro W1 hB1 hg1 hs1
  replace hB1 : Blk W1 g 133 (hc h ++ [.slice A0 (all.length % 64) c0, .int .i64 ((all.length + l.length : Nat) : Int)]) := hB1
  have s1 : Stp w gs W1 gs := Stp.wrote hg1 hg
  have hR1 := hR.up s1
  have hr1 := hr.up s1
  refine drZ 20 (fun W => Blk W g 133 (hc h ++ [.slice A0 (all.length % 64) c0, .int .i64 ((all.length + l.length : Nat) : Int)])) [(0, true), (1, true), (2, true), (3, true), (4, true), (5, true), (6, true), (7, true), (8, true), (9, true), (10, true), (11, true), (12, true), (13, true), (14, true), (15, true), (16, true), (17, false), (18, true), (19, true)] (by kernel_rfl) hB1.drew ?_
  refine p_nil rfl ?_
  refine p_fld fd1 rfl ?_
  refine t_load agg_b rfl (fun W h => Blk.at_ h rfl) ?_
  refine p_nil rfl ?_
  refine p_fld fd1 rfl ?_
  refine t_load agg_b rfl (fun W h => Blk.at_ h rfl) ?_
  refine p_len slb rfl ?_
  refine p_nil rfl ?_
  refine p_fld fd1 rfl ?_
  refine t_load agg_b rfl (fun W h => Blk.at_ h rfl) ?_
  refine p_len slb rfl ?_
  refine p_slice (i := 0) (j := all.length % 64) (m := all.length % 64) slb rfl rfl (bnd_i rfl) (bnd_i rfl) rfl (by omega) (Nat.le_refl _) ?_ ?_
  · obtain ⟨A', c', e1, e2, _⟩ := hR.open_
    injection e1 with _ _ e1
    omega
  rw [slA0, Nat.sub_zero]
  obtain ⟨A', c', e1, e2, hrd⟩ := hR1.rdB
  injection e1 with e1 e3 _
  rw [← e3] at hrd
  subst e1
  obtain ⟨_, _, e4, _, hrl1⟩ := hr1.rdB
  injection e4 with e4 _ _
  subst e4
  clear e2 e3 hrl
  refine v_appFull rfl hrd.drew hN rfl hrl1.drew (by omega) ?_
  rintro A2 c2 W2 b2 hn2 hc2 hcase
  have hB2 := hB1.drew.below b2
  refine ⟨hB2, ?_⟩
  refine p_nil rfl ?_
  refine p_fld fd1 rfl ?_
  refine v_set (.slice A2 (all.length % 64 + l.length) c2) sz_sl hB2 rfl rfl rfl (by show 8 < 10; decide) ?_
  rintro W3 hB3 hg3 hs3
  replace hB3 : Blk W3 g 133 (hc h ++ [.slice A2 (all.length % 64 + l.length) c2, .int .i64 ((all.length + l.length : Nat) : Int)]) := hB3
  have s2 : Stp W1 gs W2 gs := Stp.drew.trans (Stp.below b2)
  have s3 : Stp W2 gs W3 gs := Stp.wrote hg3 hg
  have hR3 : RdD W3 (Fd W3 gs) (dB (all.drop (64 * (all.length / 64)) ++ l)) (.slice A2 (all.length % 64 + l.length) c2) := by
    refine RdD.up ?_ s3
    rcases hcase with ⟨rfl, hm, rfl⟩ | ho
    · have : l = [] := List.eq_nil_of_length_eq_zero hm
      subst this
      rw [List.append_nil, List.length_nil, Nat.add_zero]
      rw [List.length_nil, Nat.add_zero] at hc2
      exact (hR1.cap hc2).up Stp.drew
    · exact ho.frB fun b h1 h2 _ => ⟨h2, fun e => by have := hgs b e; have := s1.size; have e5 : W1.drew.heap.size = W1.heap.size := rfl; omega⟩
  have hgl := hB.lt
  have hdm : 64 * (all.length / 64) + all.length % 64 = all.length := Nat.div_add_mod _ _
  clear hB hR hN hB1 hR1 hr1 hr hrd hrl1 hcase hB2 hn2
  obtain ⟨N, hN⟩ : ∃ N, N = (all ++ l).length := ⟨_, rfl⟩
  have hN' : N = all.length + l.length := by rw [hN, List.length_append]
  have g3 : w.grownBy W3 (some g) := gtrans hg1 (gtrans gdrew (gtrans (gbelow b2) hg3))
  have e0 : 64 * (all.length / 64) + (all.length % 64 + l.length) = N := by omega
  refine lp (Nat × Option Addr × Nat) (fun s W => 64 * s.1 ≤ N ∧ w.grownBy W (some g) ∧ Blk W g 133 (hc (blocksF begin8 s.1 (all ++ l)) ++ [.slice s.2.1 (N - 64 * s.1) s.2.2, .int .i64 (N : Int)]) ∧ RdD W (Fd W gs) (dB ((all ++ l).drop (64 * s.1))) (.slice s.2.1 (N - 64 * s.1) s.2.2))
    (fun s => [(0, .pointer (some ⟨g, 0, none⟩))]) (fun s => N - 64 * s.1) (all.length / 64, A2, c2) ⟨by dsimp only; omega, g3, ?_, ?_⟩ ⟨rfl, trivial⟩ ?_
  · dsimp only
    rw [blocksF_app _ _ _ _ (by omega), hH, show N - 64 * (all.length / 64) = all.length % 64 + l.length by omega, hN']
    exact hB3
  · dsimp only
    rw [List.drop_append_of_le_length (by omega), show N - 64 * (all.length / 64) = all.length % 64 + l.length by omega]
    exact hR3
  clear hB3 hR3 g3
  rintro ⟨i, A4, c4⟩ E0 W4 ⟨hi, g4, hB4, hR4⟩
  dsimp only at hi hB4 hR4
  have hoki := blocksF_ok i begin8 (all ++ l) begin8_ok
  generalize hHi : blocksF begin8 i (all ++ l) = hi' at *
  have hgs4 : ∀ b, some b ∈ gs → b < W4.heap.size := fun b e => by have := hgs b e; have := g4.size; omega
  have s4 : Stp w gs W4 gs := Stp.wrote g4 hg
  refine p_nil rfl ?_
  refine p_fld fd1 rfl ?_
  refine v_load agg_b rfl (hB4.at_ rfl) ?_
  refine p_len slb rfl ?_
  refine p_ge rfl rfl (fun hge => ?_) (fun hlt => ?_)
  · have hcap := hR4.scap
    refine p_nil rfl ?_
    refine p_fld fd1 rfl ?_
    refine v_load agg_b rfl (hB4.at_ rfl) ?_
    refine p_slice (i := 0) (j := 64) (m := c4) slb rfl rfl (bnd_i (kd := .i64) rfl) rfl rfl (by omega) (by omega) (Nat.le_refl _) ?_
    rw [slA0, Nat.sub_zero, Nat.sub_zero]
    obtain ⟨q1, q2, hrd⟩ := hR4.rd Fd.lt
    have hrt : Rd W4 W4.heap.size A4 64 (((all ++ l).drop (64 * i)).take 64) := hrd.take (by omega)
    have hR4' : GL W4 gs := hG.up s4
    refine cc is_take (take_any g c4 A4 _ _ _ _ hoki hrt hB4 hR4'.roots hg2') ?_
    rintro e W5 ⟨⟨v, rfl⟩, hB5, g5⟩
    refine ⟨_, rfl, ?_⟩
    have s5 : Stp W4 gs W5 gs := Stp.wrote g5 hg
    have hR5 := hR4.up s5
    refine p_nil rfl ?_
    refine p_fld fd1 rfl ?_
    refine v_load agg_b rfl (hB5.at_ rfl) ?_
    refine p_slice (i := 64) (j := N - 64 * i) (m := c4) slb rfl (bnd_i (kd := .i64) rfl) rfl rfl rfl (by omega) (by omega) (Nat.le_refl _) ?_
    have hR6 := hR5.cut (i := 64) (j := N - 64 * i) (m := c4) (by omega) (by omega) (by omega)
    refine p_nil rfl ?_
    refine p_fld fd1 rfl ?_
    refine v_set (.slice (slA A4 c4 64 1) (N - 64 * i - 64) (c4 - 64)) sz_sl hB5 rfl rfl rfl (by show 8 < 10; decide) ?_
    rintro W6 hB6 g6 hs6
    refine ⟨(i + 1, slA A4 c4 64 1, c4 - 64), ⟨by dsimp only; omega, gtrans g4 (gtrans g5 g6), ?_, ?_⟩, ⟨rfl, trivial⟩, by dsimp only; omega⟩
    · dsimp only
      rw [blocksF_snoc, hHi, show N - 64 * (i + 1) = N - 64 * i - 64 by omega]
      exact hB6
    · dsimp only
      have e : dB ((all ++ l).drop (64 * (i + 1))) = D.sl 1 (N - 64 * i - 64) (((((bvs ((all ++ l).drop (64 * i))).map D.v).drop (64 * 1)).take ((N - 64 * i - 64) * 1))) := by
        unfold dB
        rw [List.length_drop, ← hN, show N - 64 * (i + 1) = N - 64 * i - 64 by omega, Nat.mul_one, Nat.mul_one, ← List.map_drop, ← bvs_drop, List.drop_drop, show 64 * i + 64 = 64 * (i + 1) by omega, List.take_of_length_le]
        rw [List.length_map, bvs_length, List.length_drop, ← hN]; omega
      rw [show N - 64 * (i + 1) = N - 64 * i - 64 by omega, e]
      exact hR6.up (Stp.wrote g6 hg)
  · have e : (all ++ l).length / 64 = i := by rw [← hN]; omega
    have e2 : (all ++ l).length % 64 = N - 64 * i := by rw [← hN]; omega
    refine ⟨⟨_, rfl⟩, g4, A4, c4, ?_, ?_, hg⟩
    · rw [e, e2, hHi, ← hN]; exact hB4
    · rw [e, e2]; exact hR4
end Go.Proofs.YtdlljmmgkoeilaaDoor
namespace Go.Proofs.YtdlljmmgkoeilaaDoor
open Go.RowKit
theorem pl_dig : placesOf Tryd.prog 133 = some [(0, 8), (8, 1), (9, 1)] := by kernel_rfl
theorem z_dig : zeroOf Tryd.prog 133 = some (hc ⟨0, 0, 0, 0, 0, 0, 0, 0⟩ ++ [.slice none 0 0, .int .i64 0]) := by kernel_rfl
theorem al_dig : (Tryd.prog.info? 133).map (fun i => i.zero.map fun z => z.cells.toList) = some (some (hc ⟨0, 0, 0, 0, 0, 0, 0, 0⟩ ++ [.slice none 0 0, .int .i64 0])) := by kernel_rfl
theorem sz_dig : (Tryd.prog.info? 133).map (·.size) = some 10 := by kernel_rfl
theorem agg_dig : aggOf Tryd.prog 133 = some (true, 10) := by kernel_rfl
theorem is_new : isFn Tryd.prog 71 = true := by kernel_rfl
theorem is_write : isFn Tryd.prog 72 = true := by kernel_rfl
theorem is_dsum : isFn Tryd.prog 73 = true := by kernel_rfl
set_option maxRecDepth 100000 in
theorem new_any (gs : List (Option Nat)) (w : World) (hG : GL w gs) :
    Calls Tryd.prog 71 #[] w fun e w' => ∃ g, e = .returned (.pointer (some ⟨g, 0, none⟩)) ∧ g = w.heap.size ∧ Below w.heap.size w w' ∧ w'.heap.size = g + 1 ∧ Dg w' (some g :: gs) g [] := by
  refine calls_ev (args := []) mixed Tryd.func71 rfl (by kernel_rfl) ?_
  refine v_loadN (hc begin8) agg_a8 rfl rfl (fun j v hj => by rw [Addr.add_lit, Nat.zero_add]; exact hG.begin j v hj) ?_
  refine p_build (vs := hc begin8 ++ [.slice none 0 0, .int .i64 0]) pl_dig z_dig rfl ?_
  refine v_boxB (hc begin8 ++ [.slice none 0 0, .int .i64 0]) rfl ?_
  rintro g w' hg hB hb hs
  refine ⟨g, rfl, hg, hg ▸ hb, hs, none, 0, hB, ?_, by simp⟩
  exact RdD.nil_ _ _
/-- Eight bytes of a number, the first j of them. -/
def tailF (x j : Nat) : List UInt8 := (List.range j).map fun q => UInt8.ofNat (x >>> (56 - 8 * q))
theorem tailF_snoc (x j : Nat) : tailF x (j + 1) = tailF x j ++ [UInt8.ofNat (x >>> (56 - 8 * j))] := by unfold tailF; rw [List.range_succ, List.map_append]; rfl
theorem wrap8 (x : Nat) : IntKind.u8.wrap ((x : Nat) : Int) = ((x % 256 : Nat) : Int) := by rw [IntKind.wrap_u8']; omega
theorem shr64 {x n : Nat} (hn : n ≤ 64) : (x : Int).fdiv (2 ^ (min ((n : Nat) : Int).toNat 64)) = ((x >>> n : Nat) : Int) := by
  rw [Int.toNat_natCast, Nat.min_eq_left (by omega), Nat.shiftRight_eq_div_pow, Int.fdiv_eq_ediv_of_nonneg _ (Int.le_of_lt (Int.pow_pos (by decide))), Int.natCast_ediv, Int.natCast_pow]
  rfl
theorem tmod64 (a : Nat) : ((a : Nat) : Int).tmod 64 = ((a % 64 : Nat) : Int) := by rw [Int.tmod_eq_emod_of_nonneg (by omega)]; omega
theorem u_u32' : (Tryd.prog.underlying 130).isSome = true := by kernel_rfl
theorem u_u64' : (Tryd.prog.underlying 134).isSome = true := by kernel_rfl
set_option maxRecDepth 100000 in
theorem dsum_any (gs : List (Option Nat)) (g : Nat) (all : List UInt8) (w : World) (hgs : ∀ b, some b ∈ gs → b < w.heap.size) (hG : GL w gs) (hD : Dg w gs g all) (hs : all.length ≤ 10000000000) :
    Calls Tryd.prog 73 #[.pointer (some ⟨g, 0, none⟩)] w fun e w' => ∃ A c, e = .returned (.slice A 32 c) ∧ Own w' w.heap.size A 32 c (sha all) ∧ Below w.heap.size w w' := by
  refine calls_ev (args := [.pointer (some ⟨g, 0, none⟩)]) mixed Tryd.func73 rfl (by kernel_rfl) ?_
  obtain ⟨A, c, hB, hR, hg⟩ := hD
  refine p_peq ptrD rfl rfl ?_
  refine p_nil rfl ?_
  refine v_loadN (hc (blocksF begin8 (all.length / 64) all) ++ [.slice A (all.length % 64) c, .int .i64 all.length]) agg_dig rfl rfl (hB.run 0 _ (fun j v hj => by rw [Nat.zero_add]; exact hj)) ?_
  refine v_allocB _ al_dig ?_
  rintro x W1 hx hB1 hb1 hs1
  refine v_storeA (hc (blocksF begin8 (all.length / 64) all) ++ [.slice A (all.length % 64) c, .int .i64 all.length]) sz_dig rfl rfl rfl (by intro u hu; simp [hc] at hu; rcases hu with rfl | rfl | rfl | rfl | rfl | rfl | rfl | rfl | rfl | rfl <;> rfl) hB1 rfl ?_
  rintro W2 hB2 hg2 hs2
  have C2 : Below w.heap.size w W2 := by rw [← hx] at *; exact hb1.grown hg2 (by omega) (fun k hk => by injection hk with hk; omega)
  have s2 : Stp w gs W2 (some x :: gs) := Stp.new C2 (fun b e => by injection e with e; omega)
  have hD2 : Dg W2 (some x :: gs) x all := ⟨A, c, hB2, hR.up s2, by simp⟩
  have hG2 := hG.up s2
  clear hB hR hB1 hB2 hb1 hg2
  have A2 : At w W2 (some x :: gs) := (At.start hgs).new C2 (fun b e => by injection e with e; omega)
  have s2' : Stp W2 (some x :: gs) W2 (none :: some x :: gs) := Stp.new (Below.refl _ _) (fun b e => by cases e)
  have A2' : At w W2 (none :: some x :: gs) := A2.new (Below.refl _ _) (fun b e => by cases e)
  have hxl : x < W2.heap.size := by omega
  replace hD2 : Dg W2 (none :: some x :: gs) x all := hD2.up s2' rfl (by simp)
  replace hG2 := hG2.up s2'
  refine v_litB [.int .u8 128] [128] (by decide) rfl rfl rfl A2' ?_
  rintro g3 W3 hg3 o3 s3 A3 b3 hs3
  refine v_appS (A := none) rfl (Own.nil_ W3 w.heap.size) rfl o3.rd (by decide) A3 ?_
  rintro A4 c4 W4 o4 s4 A4' - h4
  have hD4 : Dg W4 (bk A4 :: some x :: gs) x all := ((hD2.below b3).up s4 (h4.block x (by omega) (by simp [bk])) (by simp))
  have hG4 := (hG2.up s3).up s4
  clear hD2 hG2 s3 s4 o3
  refine lp (Nat × Option Addr × Nat) (fun s W => s.1 ≤ (119 - all.length % 64) % 64 ∧ Own W w.heap.size s.2.1 (1 + s.1) s.2.2 (128 :: List.replicate s.1 0) ∧ At w W (bk s.2.1 :: some x :: gs) ∧ Dg W (bk s.2.1 :: some x :: gs) x all ∧ GL W (bk s.2.1 :: some x :: gs) ∧ x < W.heap.size)
    (fun s => [(3, .pointer (some ⟨x, 0, none⟩)), (4, .slice s.2.1 (1 + s.1) s.2.2)]) (fun s => 64 - s.1) (0, A4, c4) ⟨Nat.zero_le _, o4, A4', hD4, hG4, by have := h4.size; omega⟩ ⟨rfl, rfl, trivial⟩ ?_
  clear hD4 hG4 A4' o4 h4
  rintro ⟨k, A5, c5⟩ E0 W5 ⟨hk, o5, A5', hD5, hG5, hx5⟩
  dsimp only at hk o5 A5' hD5 hG5
  have hD5' := hD5
  obtain ⟨A6, c6, hB5, hR5, _⟩ := hD5'
  refine p_fld fd2 rfl ?_
  refine v_load agg_int rfl (hB5.at_ rfl) ?_
  refine p_len slb rfl ?_
  refine p_add rfl rfl (r := ((all.length + (1 + k) : Nat) : Int)) (w64 (by omega) |>.trans (by omega)) ?_
  refine p_add rfl rfl (r := ((all.length + (1 + k) + 8 : Nat) : Int)) (w64 (by omega) |>.trans (by omega)) ?_
  refine p_rem rfl rfl (by decide) (r := (((all.length + (1 + k) + 8) % 64 : Nat) : Int)) (tmod64 _) ?_
  refine p_ne rfl rfl (fun h0 => ?_) (fun h0 => ?_)
  rotate_left
  · refine v_litB [.int .u8 0] [0] (by decide) rfl rfl rfl A5' ?_
    rintro g6 W6 hg6 o6 s6 A6' b6 hs6
    refine v_appS rfl (o5.below b6) rfl o6.rd (by omega) A6' ?_
    rintro A7 c7 W7 o7 s7 A7' - h7
    refine ⟨(k + 1, A7, c7), ⟨by dsimp only; omega, by rw [← Nat.add_assoc, List.replicate_succ', ← List.cons_append]; exact o7, A7', ((hD5.below b6).up s7 (h7.block x (by omega) ?_) (by simp)), (hG5.up s6).up s7, by have := h7.size; omega⟩, ⟨rfl, rfl, trivial⟩, by dsimp only; omega⟩
    exact fun e => (o5.below b6).ne_blk (hB5.below b6) (by decide) e.symm
  have hkK : k = (119 - all.length % 64) % 64 := by omega
  have l5 := o5.len
  refine p_fld fd2 rfl ?_
  refine v_load agg_int rfl (hB5.at_ rfl) ?_
  refine v_cvt u_int u_u64 rfl (wu64 (by omega)) ?_
  refine p_mul rfl rfl (r := ((8 * all.length : Nat) : Int)) ((wu64 (by omega)).trans (by omega)) ?_
  refine lp (Nat × Option Addr × Nat) (fun s W => s.1 ≤ 8 ∧ Own W w.heap.size s.2.1 (1 + k + s.1) s.2.2 ((128 :: List.replicate k 0) ++ tailF (8 * all.length) s.1) ∧ At w W (bk s.2.1 :: some x :: gs) ∧ Dg W (bk s.2.1 :: some x :: gs) x all ∧ GL W (bk s.2.1 :: some x :: gs) ∧ x < W.heap.size)
    (fun s => [(3, .pointer (some ⟨x, 0, none⟩)), (4, .slice s.2.1 (1 + k + s.1) s.2.2), (5, .int .u64 ((8 * all.length : Nat) : Int)), (6, .int .i64 (56 - 8 * s.1))]) (fun s => 9 - s.1) (0, A5, c5) ⟨Nat.zero_le _, by simpa [tailF] using o5, A5', hD5, hG5, hx5⟩ ⟨rfl, rfl, rfl, rfl, trivial⟩ ?_
  clear hB5 hR5 o5 A5' hD5 hG5 hx5
  rintro ⟨j, A8, c8⟩ E1 W8 ⟨hj, o8, A8', hD8, hG8, hx8⟩
  dsimp only at hj o8 A8' hD8 hG8
  refine p_ge rfl rfl (fun hge => ?_) (fun hlt => ?_)
  · refine p_shr rfl rfl (by omega) (r := (((8 * all.length) >>> (56 - 8 * j) : Nat) : Int)) ?_ ?_
    · rw [show (56 : Int) - 8 * j = ((56 - 8 * j : Nat) : Int) by omega]
      exact shr64 (by omega)
    refine v_cvt u_u64' u_u8 rfl (wrap8 _) ?_
    refine v_litB _ [UInt8.ofNat ((8 * all.length) >>> (56 - 8 * j))] (by decide) rfl (bvs1 _) rfl A8' ?_
    rintro g9 W9 hg9 o9 s9 A9' b9 hs9
    refine v_appS rfl (o8.below b9) rfl o9.rd (by omega) A9' ?_
    rintro A10 c10 W10 o10 s10 A10' - h10
    obtain ⟨_, _, hB8, _, _⟩ := hD8.below b9
    refine p_sub rfl rfl (r := 56 - 8 * ((j + 1 : Nat) : Int)) ((w64 (by omega)).trans (by omega)) ?_
    refine ⟨(j + 1, A10, c10), ⟨by dsimp only; omega, by dsimp only; rw [tailF_snoc, ← List.append_assoc, ← Nat.add_assoc]; exact o10, A10', (hD8.below b9).up s10 (h10.block x (by omega) (fun e => (o8.below b9).ne_blk hB8 (by decide) e.symm)) (by simp), (hG8.up s9).up s10, by have := h10.size; omega⟩, ⟨rfl, rfl, rfl, rfl, trivial⟩, by dsimp only; omega⟩
  have hj8 : j = 8 := by omega
  subst hj8
  have hpad : (128 :: List.replicate k 0) ++ tailF (8 * all.length) 8 = padL all.length := by
    unfold padL
    rw [hkK, List.cons_append]
    rfl
  rw [hpad] at o8
  have hD9 : Dg W8 (some x :: gs) x all := hD8.up Stp.drop rfl (by simp)
  have hG9 := hG8.up (Stp.drop (g := bk A8) (gs := some x :: gs))
  have A9 := A8'.drop
  have hD9' := hD9
  obtain ⟨_, _, hB9, _, _⟩ := hD9'
  have hpl : (padL all.length).length ≤ 200 := by rw [o8.len]; omega
  refine cc is_write (write_any (some x :: gs) x c8 A8 _ (padL all.length) all W8 A9.lt hG9 hD9 (o8.frB fun b h1 h2 h3 => ⟨h2, fun e => ?_⟩) (by omega) (by have := hG.size; omega)) ?_
  · rcases List.mem_cons.1 e with e | e
    · exact o8.ne_blk hB9 (by decide) (h3.trans e)
    · have := hgs b e; omega
  rintro e W9 ⟨⟨v, rfl⟩, g9, hD10⟩
  refine ⟨_, rfl, ?_⟩
  obtain ⟨A11, c11, hB10, _, _⟩ := hD10
  have A10 : At w W9 (some x :: gs) := A9.wrote g9 (fun b e => by injection e with e; omega)
  obtain ⟨h8, hh8⟩ : ∃ h8, h8 = blocksF begin8 ((all ++ padL all.length).length / 64) (all ++ padL all.length) := ⟨_, rfl⟩
  rw [← hh8] at hB10
  have hsha : sha all = out8 h8 := by unfold sha; rw [hh8]
  refine p_fld fd0 rfl ?_
  refine v_loadN (hc h8) agg_a8 rfl rfl (hB10.run 0 _ (fun j v hj => by rw [Nat.zero_add, List.getElem?_append_left (List.getElem?_eq_some_iff.1 hj).1]; exact hj)) ?_
  have A10' : At w W9 (none :: gs) := (A10.drop).new (Below.refl _ _) (fun b e => by cases e)
  refine lp (Nat × Option Addr × Nat) (fun s W => s.1 ≤ 8 ∧ Own W w.heap.size s.2.1 (4 * s.1) s.2.2 ((out8 h8).take (4 * s.1)) ∧ At w W (bk s.2.1 :: gs))
    (fun s => [(7, .slice s.2.1 (4 * s.1) s.2.2), (48, .agg (hc h8).toArray), (49, .int .i64 s.1)]) (fun s => 9 - s.1) (0, none, 0) ⟨Nat.zero_le _, Own.nil_ _ _, A10'⟩ ⟨rfl, rfl, rfl, trivial⟩ ?_
  clear hB10 A10 A10' hD9 hB9 g9 A9 o8 hG9 hG8 hD8 A8'
  rintro ⟨j, A12, c12⟩ E2 W12 ⟨hj, o12, A13⟩
  dsimp only at hj o12 A13
  refine p_lt rfl rfl (fun hlt => ?_) (fun hge => ?_)
  · obtain ⟨q, hq1, hq2⟩ : ∃ q : Nat, (hc h8)[j]? = some (cu q) ∧ (out8 h8).take (4 * (j + 1)) = (out8 h8).take (4 * j) ++ put4 q := by
      have h8' : j = 0 ∨ j = 1 ∨ j = 2 ∨ j = 3 ∨ j = 4 ∨ j = 5 ∨ j = 6 ∨ j = 7 := by omega
      rcases h8' with rfl | rfl | rfl | rfl | rfl | rfl | rfl | rfl <;> exact ⟨_, rfl, rfl⟩
    refine p_idxA (i := j) ar8 agg_u32 rfl rfl rfl (by omega) hq1 ?_
    refine p_shr rfl rfl (by decide) (shr32 (n := 24) (x := q) (by decide)) ?_
    refine v_cvt u_u32' u_u8 rfl (wrap8 _) ?_
    refine p_shr rfl rfl (by decide) (shr32 (n := 16) (x := q) (by decide)) ?_
    refine v_cvt u_u32' u_u8 rfl (wrap8 _) ?_
    refine p_shr rfl rfl (by decide) (shr32 (n := 8) (x := q) (by decide)) ?_
    refine v_cvt u_u32' u_u8 rfl (wrap8 _) ?_
    refine v_cvt u_u32' u_u8 rfl (wrap8 _) ?_
    refine v_litB [.int .u8 (((q >>> 24) % 256 : Nat) : Int), .int .u8 (((q >>> 16) % 256 : Nat) : Int), .int .u8 (((q >>> 8) % 256 : Nat) : Int), .int .u8 ((q % 256 : Nat) : Int)] (put4 q) (by decide) rfl ?_ rfl A13 ?_
    · rw [u8v_nat, u8v_nat, u8v_nat, u8v_nat]; rfl
    rintro g14 W14 hg14 o14 s14 A14 b14 hs14
    refine v_appS rfl (o12.below b14) rfl o14.rd (by omega) A14 ?_
    rintro A15 c15 W15 o15 s15 A15' - h15
    refine p_add rfl rfl (r := ((j + 1 : Nat) : Int)) ((w64 (by omega)).trans (by omega)) ?_
    refine ⟨(j + 1, A15, c15), ⟨by dsimp only; omega, by dsimp only; rw [hq2, Nat.mul_add]; exact o15, A15'⟩, ⟨rfl, rfl, rfl, trivial⟩, by dsimp only; omega⟩
  · have hj8 : j = 8 := by omega
    subst hj8
    refine ⟨A12, c12, rfl, ?_, A13.below⟩
    rw [hsha]; exact o12
end Go.Proofs.YtdlljmmgkoeilaaDoor
namespace Go.Proofs.YtdlljmmgkoeilaaDoor
open Go.RowKit
theorem sl_ls : slOf Tryd.prog 119 = some (23, 1) := by kernel_rfl
theorem take_flat {α : Type} {ll : List (List α)} {i : Nat} {l : List α} (h : ll[i]? = some l) : (ll.take (i + 1)).flatten = (ll.take i).flatten ++ l := by
  have hi := (List.getElem?_eq_some_iff.1 h).1
  rw [List.take_succ_eq_append_getElem hi, List.flatten_append, List.flatten_cons, List.flatten_nil, List.append_nil]
  have := (List.getElem?_eq_some_iff.1 h).2
  rw [this]
theorem flat_take_le {α : Type} (ll : List (List α)) (i : Nat) : (ll.take i).flatten.length ≤ ll.flatten.length := by
  have : ll.flatten = (ll.take i).flatten ++ (ll.drop i).flatten := by rw [← List.flatten_append, List.take_append_drop]
  rw [this, List.length_append]; omega
set_option maxRecDepth 100000 in
theorem sum_any (gs : List (Option Nat)) (A : Option Addr) (n c : Nat) (ll : List (List UInt8)) (w : World) (hgs : ∀ b, some b ∈ gs → b < w.heap.size) (hG : GL w gs) (hr : RdD w (Fd w gs) (dLs ll) (.slice A n c)) (hs : ll.flatten.length ≤ 1000000000) (hs2 : n ≤ 1000000000) :
    Calls Tryd.prog 57 #[.slice A n c] w fun e w' => ∃ A' c', e = .returned (.slice A' 32 c') ∧ Own w' w.heap.size A' 32 c' (sha ll.flatten) ∧ Below w.heap.size w w' := by
  refine calls_ev (args := [.slice A n c]) mixed Tryd.func57 rfl (by kernel_rfl) ?_
  have hn := hr.slen
  refine cc is_new (new_any gs w hG) ?_
  rintro e W1 ⟨g, rfl, hg, hb, hs1, hD⟩
  refine ⟨_, rfl, ?_⟩
  have A1 : At w W1 (some g :: gs) := (At.start hgs).new hb (fun b e => by injection e with e; omega)
  have s1 : Stp w gs W1 (some g :: gs) := Stp.new hb (fun b e => by injection e with e; omega)
  refine p_len sl_ls rfl ?_
  refine lp Nat (fun i W => i ≤ n ∧ At w W (some g :: gs) ∧ Stp w gs W (some g :: gs) ∧ Dg W (some g :: gs) g (ll.take i).flatten)
    (fun i => [(3, .pointer (some ⟨g, 0, none⟩)), (7, .slice A n c), (8, .int .i64 n), (9, .int .i64 i)]) (fun i => n - i) 0 ⟨Nat.zero_le _, A1, s1, hD⟩ ⟨rfl, rfl, rfl, rfl, trivial⟩ ?_
  clear hD s1 A1
  rintro i E W ⟨hi, A2, s2, hD⟩
  have hG2 := hG.up s2
  have hfl := flat_take_le ll i
  refine p_lt rfl rfl (fun hlt => ?_) (fun hge => ?_)
  · obtain ⟨b, off, A', m, c', l, rfl, hl, hcell, hrl⟩ := (hr.up s2).lsat (i := i) (by omega)
    have hfl2 := flat_take_le ll (i + 1)
    rw [take_flat hl, List.length_append] at hfl2
    refine p_at sl_ls rfl rfl rfl (by omega) ?_
    refine v_load agg_b rfl (by rw [Addr.add_lit, Nat.mul_one]; exact hcell) ?_
    refine cc is_write (write_any (some g :: gs) g c' A' m l _ W A2.lt hG2 hD hrl (by omega) (by have := hG.size; omega)) ?_
    rintro e W3 ⟨⟨v, rfl⟩, g3, hD3⟩
    refine ⟨_, rfl, ?_⟩
    refine p_add rfl rfl (r := ((i + 1 : Nat) : Int)) ((w64 (by omega)).trans (by omega)) ?_
    exact ⟨i + 1, ⟨by omega, A2.wrote g3 (fun b e => by injection e with e; omega), s2.trans (Stp.wrote g3 (by simp)), by rw [take_flat hl]; exact hD3⟩, ⟨rfl, rfl, rfl, rfl, trivial⟩, by omega⟩
  · have hin : i = n := by omega
    subst hin
    rw [List.take_of_length_le (by omega)] at hD
    refine cc is_dsum (dsum_any (some g :: gs) g _ W A2.lt hG2 hD (by omega)) ?_
    rintro e W4 ⟨A4, c4, rfl, o4, b4⟩
    refine ⟨_, rfl, ?_⟩
    exact ⟨A4, c4, rfl, o4.less A2.size, A2.below.trans (b4.mono A2.size)⟩
end Go.Proofs.YtdlljmmgkoeilaaDoor
