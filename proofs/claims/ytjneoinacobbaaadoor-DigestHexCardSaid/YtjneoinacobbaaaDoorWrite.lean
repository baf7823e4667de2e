/- The walks of digest.New, Write, Len, Sum. -/
import Derived.Test.YtjneoinacobbaaaDoorTake
import Derived.Test.YtjneoinacobbaaaDoorAppF
import Derived.Test.YtjneoinacobbaaaDoorOp2
namespace Go.Proofs.YtjneoinacobbaaaDoor
open Go.RowKit

theorem blocksF_snoc : ∀ (n : Nat) (h : H8) (b : List UInt8), blocksF h (n + 1) b = take8 (blocksF h n b) ((b.drop (64 * n)).take 64)
  | 0, h, b => by simp [blocksF]
  | n + 1, h, b => by
    have := blocksF_snoc n (take8 h (b.take 64)) (b.drop 64)
    rw [blocksF, this, blocksF, List.drop_drop, show 64 + 64 * n = 64 * (n + 1) by omega]
theorem blocksF_app : ∀ (n : Nat) (h : H8) (b c : List UInt8), 64 * n ≤ b.length → blocksF h n (b ++ c) = blocksF h n b
  | 0, h, b, c, _ => rfl
  | n + 1, h, b, c, hl => by
    rw [blocksF, blocksF, List.take_append_of_le_length (by omega), List.drop_append_of_le_length (by omega), blocksF_app n _ _ _ (by rw [List.length_drop]; omega)]
theorem blocksF_ok : ∀ (n : Nat) (h : H8) (b : List UInt8), h.Ok → (blocksF h n b).Ok
  | 0, h, b, ho => ho
  | n + 1, h, b, ho => blocksF_ok n _ _ (add8_ok _ _)
theorem begin8_ok : begin8.Ok := by constructor <;> decide

/-- The package's tables. -/
structure GL (W : World) (gs : List (Option Nat)) : Prop where
  roots : rootsAt W
  begin : ∀ j v, (hc begin8)[j]? = some v → W.cell? ⟨0, j, none⟩ = some v
  size : 2 ≤ W.heap.size
  out0 : some 0 ∉ gs
  out1 : some 1 ∉ gs
theorem GL.up {W W' : World} {gs gs' : List (Option Nat)} (h : GL W gs) (s : Stp W gs W' gs') : GL W' gs' :=
  ⟨fun j hj => (World.cell?_of_block (w := W) (a := ⟨1, j, none⟩) (s.block 1 h.size h.out1)).trans (h.roots j hj),
   fun j v hv => (World.cell?_of_block (w := W) (a := ⟨0, j, none⟩) (s.block 0 (by have := h.size; omega) h.out0)).trans (h.begin j v hv),
   Nat.le_trans h.size s.size, fun e => h.out0 (s.own 0 (by have := h.size; omega) e), fun e => h.out1 (s.own 1 h.size e)⟩
/-- A Digest to which all this was written. -/
def Dg (W : World) (gs : List (Option Nat)) (g : Nat) (all : List UInt8) : Prop :=
  ∃ A c, Blk W g 46 (hc (blocksF begin8 (all.length / 64) all) ++ [.slice A (all.length % 64) c, .int .i64 all.length]) ∧
    RdD W (Fd W gs) (dB (all.drop (64 * (all.length / 64)))) (.slice A (all.length % 64) c) ∧ some g ∈ gs
theorem Dg.up {W W' : World} {gs gs' : List (Option Nat)} {g : Nat} {all : List UInt8} (h : Dg W gs g all) (s : Stp W gs W' gs') (hg : W'.heap[g]? = W.heap[g]?) (hm : some g ∈ gs') : Dg W' gs' g all := by
  obtain ⟨A, c, h1, h2, h4⟩ := h
  exact ⟨A, c, hg.trans h1, h2.up s, hm⟩
theorem Dg.below {W W' : World} {gs : List (Option Nat)} {g : Nat} {all : List UInt8} (h : Dg W gs g all) (hb : Below W.heap.size W W') : Dg W' gs g all := by
  obtain ⟨A, c, h1, h2, h4⟩ := h
  exact ⟨A, c, h1.below hb, h2.up (Stp.below hb), h4⟩

section
variable {E : Env} {d : Option Nat} {ty : TypeId} {p : String} {af : Array Edge} {g : Option (Nat × Bool)} {x y z : Operand} {kw : Value → World → Prop} {w : World}
/-- append of bytes onto bytes that are full. -/
theorem v_appFull {n m c2 B B2 : Nat} {A A2 : Option Addr} {l l2 : List UInt8} (hx : val E x = .slice A n n) (ho : Rd w B A n l) (hA : A = none → n = 0) (hy : val E y = .slice A2 m c2) (hr : Rd w B2 A2 m l2) (hsz : n + m ≤ 1000000000000)
    (h : ∀ A' c' w', Below w.heap.size w w' → (A' = none → n + m = 0) → n + m ≤ c' → (A' = A ∧ m = 0 ∧ w' = w ∨ Own w' w.heap.size A' (n + m) c' (l ++ l2)) → kw (.slice A' (n + m) c') w') :
    VVal Tryd.prog E { dst := d, op := .call { callee := .builtin .append, args := #[x, y], argTypes := #[23, 23] }, type := ty, pos := p, after := af, guard := g } w kw := by
  obtain ⟨i, hi, hz, hs1, hs2⟩ := info_parts' u8info
  rcases Nat.eq_zero_or_pos m with hm | hm
  · subst hm
    refine vv (v := .slice A n n) (w' := w) ?_ (h A n w (Below.refl _ _) hA (Nat.le_refl _) (.inl ⟨rfl, rfl, rfl⟩))
    simp [execOp, resolve, invoke, builtin, hx, hy, run_append_zero (P := Tryd.prog) (w := w) Tryd.underlying23 hi A A2 n n c2 (Nat.le_refl _)]
  · obtain ⟨c', w', hrun, h1, h2, h3⟩ := run_append_full (P := Tryd.prog) (w := w) (c2 := c2) (ty := ty) Tryd.underlying23 hi hz hs1 hs2 rfl ho hr hA hm (by unfold maxLen; omega) (by omega)
    refine vv (v := .slice (some ⟨w.heap.size, 0, none⟩) (n + m) c') (w' := w') ?_ (h _ c' w' h2 (fun e => by cases e) ?_ (.inr ?_))
    · simp [execOp, resolve, invoke, builtin, hx, hy, hrun]
    · rcases h1.2 with ⟨hv, _⟩ | ⟨g, cap, cur, hv, _, _, hc, _⟩
      · cases hv
      · injection hv with _ _ e; omega
    · unfold Own; rw [bvs_append]; exact h1
end
theorem slA0 (A : Option Addr) (m s : Nat) : slA A m 0 s = A := by
  unfold slA
  split
  · rfl
  · cases A <;> simp [Addr.add]
theorem ptrD : isPtr Tryd.prog 27 = true := by kernel_rfl
theorem sz_i : (Tryd.prog.info? 3).map (·.size) = some 1 := by kernel_rfl
theorem sz_sl : (Tryd.prog.info? 23).map (·.size) = some 1 := by kernel_rfl
set_option maxRecDepth 100000 in
theorem write_any (gs : List (Option Nat)) (g c : Nat) (A : Option Addr) (n : Nat) (l all : List UInt8) (w : World) (hgs : ∀ b, some b ∈ gs → b < w.heap.size) (hG : GL w gs) (hD : Dg w gs g all) (hr : RdD w (Fd w gs) (dB l) (.slice A n c)) (hs : all.length + l.length ≤ 100000000000) (hg2' : 2 ≤ g) :
    Calls Tryd.prog 8 #[.pointer (some ⟨g, 0, none⟩), .slice A n c] w fun e w' => (∃ v, e = .returned v) ∧ w.grownBy w' (some g) ∧ Dg w' gs g (all ++ l) := by
  refine calls_ev (args := [.pointer (some ⟨g, 0, none⟩), .slice A n c]) mixed Tryd.func8 rfl (by kernel_rfl) ?_
  obtain ⟨A0, c0, hB, hR, hg⟩ := hD
  have hN := fun h => hR.none0 (A := A0) h
  have hok := blocksF_ok (all.length / 64) begin8 all begin8_ok
  have h3 : (hc (blocksF begin8 (all.length / 64) all)).length = 8 := rfl
  generalize hH : blocksF begin8 (all.length / 64) all = h at *
  refine p_peq ptrD rfl rfl ?_
  refine p_nil rfl ?_
  refine p_fld fd2 rfl ?_
  refine v_load agg_int rfl (hB.at_ rfl) ?_
  obtain ⟨A1, c1, e1, hc1, hrl⟩ := hr.rdB
  injection e1 with e1 e2 e3
  subst e1; subst e2; subst e3
  refine p_len slb rfl ?_
  refine p_add rfl rfl (r := ((all.length + l.length : Nat) : Int)) (w64 (by omega) |>.trans (by omega)) ?_
  refine p_nil rfl ?_
  refine p_fld fd2 rfl ?_
  refine v_set (.int .i64 ((all.length + l.length : Nat) : Int)) sz_i hB rfl rfl rfl (by show 9 < 10; decide) ?_
  rintro W1 hB1 hg1 hs1
  replace hB1 : Blk W1 g 46 (hc h ++ [.slice A0 (all.length % 64) c0, .int .i64 ((all.length + l.length : Nat) : Int)]) := hB1
  have s1 : Stp w gs W1 gs := Stp.wrote hg1 hg
  have hR1 := hR.up s1
  have hr1 := hr.up s1
  refine drZ 20 (fun W => Blk W g 46 (hc h ++ [.slice A0 (all.length % 64) c0, .int .i64 ((all.length + l.length : Nat) : Int)])) [(0, true), (1, true), (2, true), (3, true), (4, true), (5, true), (6, true), (7, true), (8, true), (9, true), (10, true), (11, true), (12, true), (13, true), (14, true), (15, true), (16, true), (17, false), (18, true), (19, true)] (by kernel_rfl) hB1.drew ?_
  refine p_nil rfl ?_
  refine p_fld fd1 rfl ?_
  refine t_load agg_b rfl (fun W h => Blk.at_ h rfl) ?_
  refine p_nil rfl ?_
  refine p_fld fd1 rfl ?_
  refine t_load agg_b rfl (fun W h => Blk.at_ h rfl) ?_
  refine p_len slb rfl ?_
  refine p_nil rfl ?_
  refine p_fld fd1 rfl ?_
  refine t_load agg_b rfl (fun W h => Blk.at_ h rfl) ?_
  refine p_len slb rfl ?_
  refine p_slice (i := 0) (j := all.length % 64) (m := all.length % 64) slb rfl rfl (bnd_i rfl) (bnd_i rfl) rfl (by omega) (Nat.le_refl _) ?_ ?_
  · obtain ⟨A', c', e1, e2, _⟩ := hR.open_
    injection e1 with _ _ e1
    omega
  rw [slA0, Nat.sub_zero]
  obtain ⟨A', c', e1, e2, hrd⟩ := hR1.rdB
  injection e1 with e1 e3 _
  rw [← e3] at hrd
  subst e1
  obtain ⟨_, _, e4, _, hrl1⟩ := hr1.rdB
  injection e4 with e4 _ _
  subst e4
  clear e2 e3 hrl
  refine v_appFull rfl hrd.drew hN rfl hrl1.drew (by omega) ?_
  rintro A2 c2 W2 b2 hn2 hc2 hcase
  have hB2 := hB1.drew.below b2
  refine ⟨hB2, ?_⟩
  refine p_nil rfl ?_
  refine p_fld fd1 rfl ?_
  refine v_set (.slice A2 (all.length % 64 + l.length) c2) sz_sl hB2 rfl rfl rfl (by show 8 < 10; decide) ?_
  rintro W3 hB3 hg3 hs3
  replace hB3 : Blk W3 g 46 (hc h ++ [.slice A2 (all.length % 64 + l.length) c2, .int .i64 ((all.length + l.length : Nat) : Int)]) := hB3
  have s2 : Stp W1 gs W2 gs := Stp.drew.trans (Stp.below b2)
  have s3 : Stp W2 gs W3 gs := Stp.wrote hg3 hg
  have hR3 : RdD W3 (Fd W3 gs) (dB (all.drop (64 * (all.length / 64)) ++ l)) (.slice A2 (all.length % 64 + l.length) c2) := by
    refine RdD.up ?_ s3
    rcases hcase with ⟨rfl, hm, rfl⟩ | ho
    · have : l = [] := List.eq_nil_of_length_eq_zero hm
      subst this
      rw [List.append_nil, List.length_nil, Nat.add_zero]
      rw [List.length_nil, Nat.add_zero] at hc2
      exact (hR1.cap hc2).up Stp.drew
    · exact ho.frB fun b h1 h2 _ => ⟨h2, fun e => by have := hgs b e; have := s1.size; have e5 : W1.drew.heap.size = W1.heap.size := rfl; omega⟩
  have hgl := hB.lt
  have hdm : 64 * (all.length / 64) + all.length % 64 = all.length := Nat.div_add_mod _ _
  clear hB hR hN hB1 hR1 hr1 hr hrd hrl1 hcase hB2 hn2
  obtain ⟨N, hN⟩ : ∃ N, N = (all ++ l).length := ⟨_, rfl⟩
  have hN' : N = all.length + l.length := by rw [hN, List.length_append]
  have g3 : w.grownBy W3 (some g) := gtrans hg1 (gtrans gdrew (gtrans (gbelow b2) hg3))
  have e0 : 64 * (all.length / 64) + (all.length % 64 + l.length) = N := by omega
  refine lp (Nat × Option Addr × Nat) (fun s W => 64 * s.1 ≤ N ∧ w.grownBy W (some g) ∧ Blk W g 46 (hc (blocksF begin8 s.1 (all ++ l)) ++ [.slice s.2.1 (N - 64 * s.1) s.2.2, .int .i64 (N : Int)]) ∧ RdD W (Fd W gs) (dB ((all ++ l).drop (64 * s.1))) (.slice s.2.1 (N - 64 * s.1) s.2.2))
    (fun s => [(0, .pointer (some ⟨g, 0, none⟩))]) (fun s => N - 64 * s.1) (all.length / 64, A2, c2) ⟨by dsimp only; omega, g3, ?_, ?_⟩ ⟨rfl, trivial⟩ ?_
  · dsimp only
    rw [blocksF_app _ _ _ _ (by omega), hH, show N - 64 * (all.length / 64) = all.length % 64 + l.length by omega, hN']
    exact hB3
  · dsimp only
    rw [List.drop_append_of_le_length (by omega), show N - 64 * (all.length / 64) = all.length % 64 + l.length by omega]
    exact hR3
  clear hB3 hR3 g3
  rintro ⟨i, A4, c4⟩ E0 W4 ⟨hi, g4, hB4, hR4⟩
  dsimp only at hi hB4 hR4
  have hoki := blocksF_ok i begin8 (all ++ l) begin8_ok
  generalize hHi : blocksF begin8 i (all ++ l) = hi' at *
  have hgs4 : ∀ b, some b ∈ gs → b < W4.heap.size := fun b e => by have := hgs b e; have := g4.size; omega
  have s4 : Stp w gs W4 gs := Stp.wrote g4 hg
  refine p_nil rfl ?_
  refine p_fld fd1 rfl ?_
  refine v_load agg_b rfl (hB4.at_ rfl) ?_
  refine p_len slb rfl ?_
  refine p_ge rfl rfl (fun hge => ?_) (fun hlt => ?_)
  · have hcap := hR4.scap
    refine p_nil rfl ?_
    refine p_fld fd1 rfl ?_
    refine v_load agg_b rfl (hB4.at_ rfl) ?_
    refine p_slice (i := 0) (j := 64) (m := c4) slb rfl rfl (bnd_i (kd := .i64) rfl) rfl rfl (by omega) (by omega) (Nat.le_refl _) ?_
    rw [slA0, Nat.sub_zero, Nat.sub_zero]
    obtain ⟨q1, q2, hrd⟩ := hR4.rd Fd.lt
    have hrt : Rd W4 W4.heap.size A4 64 (((all ++ l).drop (64 * i)).take 64) := hrd.take (by omega)
    have hR4' : GL W4 gs := hG.up s4
    refine cc is_take (take_any g c4 A4 _ _ _ _ hoki hrt hB4 hR4'.roots hg2') ?_
    rintro e W5 ⟨⟨v, rfl⟩, hB5, g5⟩
    refine ⟨_, rfl, ?_⟩
    have s5 : Stp W4 gs W5 gs := Stp.wrote g5 hg
    have hR5 := hR4.up s5
    refine p_nil rfl ?_
    refine p_fld fd1 rfl ?_
    refine v_load agg_b rfl (hB5.at_ rfl) ?_
    refine p_slice (i := 64) (j := N - 64 * i) (m := c4) slb rfl (bnd_i (kd := .i64) rfl) rfl rfl rfl (by omega) (by omega) (Nat.le_refl _) ?_
    have hR6 := hR5.cut (i := 64) (j := N - 64 * i) (m := c4) (by omega) (by omega) (by omega)
    refine p_nil rfl ?_
    refine p_fld fd1 rfl ?_
    refine v_set (.slice (slA A4 c4 64 1) (N - 64 * i - 64) (c4 - 64)) sz_sl hB5 rfl rfl rfl (by show 8 < 10; decide) ?_
    rintro W6 hB6 g6 hs6
    refine ⟨(i + 1, slA A4 c4 64 1, c4 - 64), ⟨by dsimp only; omega, gtrans g4 (gtrans g5 g6), ?_, ?_⟩, ⟨rfl, trivial⟩, by dsimp only; omega⟩
    · dsimp only
      rw [blocksF_snoc, hHi, show N - 64 * (i + 1) = N - 64 * i - 64 by omega]
      exact hB6
    · dsimp only
      have e : dB ((all ++ l).drop (64 * (i + 1))) = D.sl 1 (N - 64 * i - 64) (((((bvs ((all ++ l).drop (64 * i))).map D.v).drop (64 * 1)).take ((N - 64 * i - 64) * 1))) := by
        unfold dB
        rw [List.length_drop, ← hN, show N - 64 * (i + 1) = N - 64 * i - 64 by omega, Nat.mul_one, Nat.mul_one, ← List.map_drop, ← bvs_drop, List.drop_drop, show 64 * i + 64 = 64 * (i + 1) by omega, List.take_of_length_le]
        rw [List.length_map, bvs_length, List.length_drop, ← hN]; omega
      rw [show N - 64 * (i + 1) = N - 64 * i - 64 by omega, e]
      exact hR6.up (Stp.wrote g6 hg)
  · have e : (all ++ l).length / 64 = i := by rw [← hN]; omega
    have e2 : (all ++ l).length % 64 = N - 64 * i := by rw [← hN]; omega
    refine ⟨⟨_, rfl⟩, g4, A4, c4, ?_, ?_, hg⟩
    · rw [e, e2, hHi, ← hN]; exact hB4
    · rw [e, e2]; exact hR4
end Go.Proofs.YtjneoinacobbaaaDoor
