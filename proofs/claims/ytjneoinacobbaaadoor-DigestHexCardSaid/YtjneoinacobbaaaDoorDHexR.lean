/- The walks of the reference's Hex and Unhex. -/
import Derived.Test.YtjneoinacobbaaaDoorDUnhex
namespace Go.Proofs.YtjneoinacobbaaaDoor
open Go.RowKit
theorem u_i : Tryd.prog.underlying 3 = some (.int .i64) := by kernel_rfl
section
variable {P : Program} {E : Env} {d : Option Nat} {ty : TypeId} {p : String} {af : Array Edge} {g : Option (Nat × Bool)} {x y : Operand} {t u : TypeId} {k : Value → Prop}
theorem p_addS {l m : List UInt8} (hx : val E x = .string (sb l)) (hy : val E y = .string (sb m)) (hs : l.length + m.length ≤ 9223372036854775807) (h : k (.string (sb (l ++ m)))) : VPure P E { dst := d, op := .binOp .add t x y u, type := ty, pos := p, after := af, guard := g } k := by
  refine pp (fun w => ?_) h
  have e : sb l ++ sb m = sb (l ++ m) := ByteArray.mk_append_mk l m
  simp [execOp, hx, hy, eqGuard, binOp, run_string_add_sum (P := P) w (sb l) (sb m) (by rw [sb_size, sb_size]; exact hs), e]
end
theorem hex_ext {i : Nat} (h : i < 16) : ({ data := #[48, 49, 50, 51, 52, 53, 54, 55, 56, 57, 97, 98, 99, 100, 101, 102] } : ByteArray).extract i (i + 1) = sb [hexd i] := by
  have : ∀ i : Fin 16, ({ data := #[48, 49, 50, 51, 52, 53, 54, 55, 56, 57, 97, 98, 99, 100, 101, 102] } : ByteArray).extract i.val (i.val + 1) = sb [hexd i.val] := by decide +kernel
  exact this ⟨i, h⟩
theorem tdiv16 (a : Nat) : ((a : Nat) : Int).tdiv 16 = ((a / 16 : Nat) : Int) := by rw [Int.tdiv_eq_ediv_of_nonneg (by omega)]; omega
theorem tmod16 (a : Nat) : ((a : Nat) : Int).tmod 16 = ((a % 16 : Nat) : Int) := by rw [Int.tmod_eq_emod_of_nonneg (by omega)]; omega
set_option maxRecDepth 100000 in
theorem rhex_any (A : Option Addr) (n c : Nat) (b : List UInt8) (w : World) (hr : Rd w w.heap.size A n b) (hs : n ≤ 100000000) :
    Calls Tryd.prog 16 #[.slice A n c] w fun e w' => e = .returned (.string (sb (hexL b))) ∧ Below w.heap.size w w' := by
  refine calls_ev (args := [.slice A n c]) mixed Tryd.func16 rfl (by kernel_rfl) ?_
  have hl := hr.len
  refine lp Nat (fun i W => i ≤ n ∧ Below w.heap.size w W) (fun i => [(0, .slice A n c), (3, .string { data := #[48, 49, 50, 51, 52, 53, 54, 55, 56, 57, 97, 98, 99, 100, 101, 102] }), (4, .string (sb (hexL (b.take i)))), (5, .int .i64 i)]) (fun i => n - i) 0 ⟨Nat.zero_le _, Below.refl _ _⟩ ⟨rfl, rfl, rfl, rfl, trivial⟩ ?_
  rintro i E W ⟨hi, hb⟩
  refine p_len slb rfl ?_
  refine p_lt rfl rfl (fun hlt => ?_) (fun hge => ?_)
  · obtain ⟨ad, rfl⟩ : ∃ ad, A = some ad := by
      obtain ⟨bb, off, e, _⟩ := hr.at_ (k := i) (by omega)
      exact ⟨_, e⟩
    have hrW := (hr.below hb).drew
    have cell : ∀ W', Rd W' w.heap.size (some ad) n b → W'.cell? (ad.add (i * 1)) = some (.int .u8 ((b.getD i 0).toNat : Nat)) := fun W' h => h.get (by omega)
    have hx : (b.getD i 0).toNat < 256 := (b.getD i 0).toNat_lt
    refine dr (fun W' => Rd W' w.heap.size (some ad) n b) [(0, true), (1, true), (2, true), (3, true), (4, true), (5, true), (6, true), (7, true), (8, true), (9, true), (10, true), (11, true), (12, true), (13, true), (14, true), (15, true), (16, true), (17, true), (18, true), (19, true), (20, true), (21, true), (22, true), (23, true), (24, true), (25, true), (26, true), (27, true), (28, true), (29, true)] (by kernel_rfl) hrW ?_
    refine p_at slb rfl rfl rfl (by omega) ?_
    refine t_load agg_by rfl cell ?_
    refine p_quo rfl rfl (by decide) (r := (((b.getD i 0).toNat / 16 : Nat) : Int)) (by rw [tdiv16]; exact wu8 (by omega)) ?_
    refine p_at slb rfl rfl rfl (by omega) ?_
    refine t_load agg_by rfl cell ?_
    refine p_quo rfl rfl (by decide) (r := (((b.getD i 0).toNat / 16 : Nat) : Int)) (by rw [tdiv16]; exact wu8 (by omega)) ?_
    refine p_add rfl rfl (r := (((b.getD i 0).toNat / 16 + 1 : Nat) : Int)) ((wu8 (by omega)).trans (by omega)) ?_
    refine p_subS (i := (b.getD i 0).toNat / 16) (j := (b.getD i 0).toNat / 16 + 1) u_str' rfl (bnd_i rfl) (bnd_i rfl) (by omega) (by show _ ≤ 16; omega) ?_
    rw [hex_ext (by omega)]
    have hlen : (hexL (b.take i)).length ≤ 2 * n := by rw [hexL_len, List.length_take]; omega
    refine p_addS rfl rfl (by simp only [List.length_cons, List.length_nil]; omega) ?_
    refine p_at slb rfl rfl rfl (by omega) ?_
    refine t_load agg_by rfl cell ?_
    refine p_rem rfl rfl (by decide) (tmod16 _) ?_
    refine p_at slb rfl rfl rfl (by omega) ?_
    refine t_load agg_by rfl cell ?_
    refine p_rem rfl rfl (by decide) (tmod16 _) ?_
    refine p_add rfl rfl (r := (((b.getD i 0).toNat % 16 + 1 : Nat) : Int)) ((wu8 (by omega)).trans (by omega)) ?_
    refine p_subS (i := (b.getD i 0).toNat % 16) (j := (b.getD i 0).toNat % 16 + 1) u_str' rfl (bnd_i rfl) (bnd_i rfl) (by omega) (by show _ ≤ 16; omega) ?_
    rw [hex_ext (by omega)]
    refine p_addS rfl rfl (by simp only [List.length_cons, List.length_nil, List.length_append]; omega) ?_
    refine p_add rfl rfl (r := ((i + 1 : Nat) : Int)) ((w64 (by omega)).trans (by omega)) ?_
    refine ⟨i + 1, ⟨by omega, hb.drew⟩, ⟨rfl, rfl, ?_, rfl, trivial⟩, by omega⟩
    rw [hexL_take b i (by omega)]
    simp only [List.append_assoc]
    rfl
  · have hin : i = n := by omega
    subst hin
    have e : b.take i = b := List.take_of_length_le (by omega)
    refine ⟨?_, hb⟩
    show Ending.returned (.string (sb (hexL (b.take i)))) = _
    rw [e]
set_option maxRecDepth 100000 in
theorem runhex_any (s : List UInt8) (w : World) (hs : s.length ≤ 1000000000) :
    Calls Tryd.prog 14 #[.string (sb s)] w fun e w' => ∃ A m c, e = .returned (.tuple #[.slice A m c, .int .i64 (uhE s)]) ∧ Own w' w.heap.size A m c (uhL s) ∧ Below w.heap.size w w' := by
  refine calls_ev (args := [.string (sb s)]) mixed Tryd.func14 rfl (by kernel_rfl) ?_
  have bad : ∀ W, unhexF s = none → Below w.heap.size w W → ∃ A m c, Ending.returned (.tuple #[.slice none 0 0, .int .i64 11]) = .returned (.tuple #[.slice A m c, .int .i64 (uhE s)]) ∧ Own W w.heap.size A m c (uhL s) ∧ Below w.heap.size w W := fun W h hb =>
    ⟨none, 0, 0, by unfold uhE; rw [h]; rfl, by unfold uhL; rw [h]; exact Own.nil_ _ _, hb⟩
  have A0 : At w w [none] := (At.start (gs := []) (by simp)).new (Below.refl _ _) (fun b e => by cases e)
  refine lp (Nat × Option Addr × Nat × List UInt8) (fun t W => 2 * t.1 ≤ s.length ∧ Own W w.heap.size t.2.1 t.1 t.2.2.1 t.2.2.2 ∧ At w W [bk t.2.1] ∧ unhexF (s.take (2 * t.1)) = some t.2.2.2) (fun t => [(0, .string (sb s)), (4, .slice t.2.1 t.1 t.2.2.1), (5, .int .i64 (2 * t.1 : Nat))]) (fun t => s.length - t.1) (0, none, 0, []) ⟨Nat.zero_le _, Own.nil_ _ _, A0, by simp [unhexF]⟩ ⟨rfl, rfl, rfl, trivial⟩ ?_
  rintro ⟨j, A1, c1, l⟩ E W ⟨hj, o1, A1', hl⟩
  dsimp only at hj o1 A1' hl
  refine p_add rfl rfl (r := ((2 * j + 1 : Nat) : Int)) ((w64 (by dsimp only; omega)).trans (by dsimp only; omega)) ?_
  refine p_lenS u_str' rfl ?_
  rw [sb_size]
  refine p_lt rfl rfl (fun hlt => ?_) (fun hge => ?_)
  · have hlt' : 2 * j + 1 < s.length := by exact Int.ofNat_lt.1 hlt
    refine lp (Nat × Nat) (fun t W' => W' = W ∧ ((t.1 = 0 ∧ t.2 = 0) ∨ (t.1 = 1 ∧ digV (s.getD (2 * j) 0) = some t.2) ∨ (t.1 = 2 ∧ ∃ a b, digV (s.getD (2 * j) 0) = some a ∧ digV (s.getD (2 * j + 1) 0) = some b ∧ t.2 = 16 * a + b))) (fun t => [(0, .string (sb s)), (4, .slice A1 j c1), (5, .int .i64 (2 * j : Nat)), (6, .int .i64 t.2), (7, .int .i64 (2 * j + t.1 : Nat))]) (fun t => 2 - t.1) (0, 0) ⟨rfl, .inl ⟨rfl, rfl⟩⟩ ⟨rfl, rfl, rfl, rfl, rfl, trivial⟩ ?_
    rintro ⟨t, x⟩ E2 W' ⟨rfl, ht⟩
    dsimp only at ht
    refine p_add rfl rfl (r := ((2 * j + 2 : Nat) : Int)) ((w64 (by omega)).trans (by omega)) ?_
    refine p_lt rfl rfl (fun h2 => ?_) (fun h2 => ?_)
    · have ht2 : t < 2 := by dsimp only at h2; omega
      have hxb : x < 16 := by
        rcases ht with ⟨h3, h4⟩ | ⟨h3, h4⟩ | ⟨h3, _⟩
        · omega
        · exact digV_lt h4
        · omega
      have hk : 2 * j + t < s.length := by omega
      have hgood : ∀ q, digV (s.getD (2 * j + t) 0) = some q → ((t + 1 = 0 ∧ 16 * x + q = 0) ∨ (t + 1 = 1 ∧ digV (s.getD (2 * j) 0) = some (16 * x + q)) ∨ (t + 1 = 2 ∧ ∃ a b, digV (s.getD (2 * j) 0) = some a ∧ digV (s.getD (2 * j + 1) 0) = some b ∧ 16 * x + q = 16 * a + b)) := by
        intro q hq
        rcases ht with ⟨rfl, rfl⟩ | ⟨rfl, h4⟩ | ⟨h3, _⟩
        · exact .inr (.inl ⟨rfl, by simpa using hq⟩)
        · exact .inr (.inr ⟨rfl, x, q, h4, hq, rfl⟩)
        · omega
      have hbad : digV (s.getD (2 * j + t) 0) = none → unhexF s = none := by
        intro hq
        refine unhexF_bad j s hlt' ?_
        rcases (show t = 0 ∨ t = 1 by omega) with rfl | rfl
        · exact .inl (by simpa using hq)
        · exact .inr hq
      have hc := (s.getD (2 * j + t) 0).toNat_lt
      obtain ⟨ch, hch⟩ : ∃ ch, ch = s.getD (2 * j + t) 0 := ⟨_, rfl⟩
      rw [← hch] at hgood hbad hc
      have hat : (sb s)[2 * j + t]? = some ch := by rw [hch]; exact sb_get s _ hk
      refine p_atS u_str' rfl rfl rfl hat ?_
      refine p_ge rfl rfl (fun g1 => ?_) (fun g1 => ?_)
      · refine p_atS u_str' rfl rfl rfl hat ?_
        refine p_le rfl rfl (fun g2 => ?_) (fun g2 => ?_)
        · obtain ⟨q, hq', hq⟩ : ∃ q : Nat, q = ch.toNat - 48 ∧ digV ch = some q := ⟨_, rfl, by unfold digV; rw [if_pos (by omega)]⟩
          refine p_atS u_str' rfl rfl rfl hat ?_
          refine v_cvt u_byt u_i rfl (r := (ch.toNat : Int)) (w64 (by omega)) ?_
          refine p_sub rfl rfl (r := (q : Int)) ((w64 (by omega)).trans (by omega)) ?_
          refine p_atS u_str' rfl rfl rfl hat ?_
          refine p_ge rfl rfl (fun g3 => by omega) (fun g3 => ?_)
          refine p_lt rfl rfl (fun h => by omega) (fun _ => ?_)
          refine p_mul rfl rfl (r := ((16 * x : Nat) : Int)) ((w64 (by dsimp only; omega)).trans (by dsimp only; omega)) ?_
          refine p_add rfl rfl (r := ((16 * x + q : Nat) : Int)) ((w64 (by omega)).trans (by omega)) ?_
          refine p_add rfl rfl (r := ((2 * j + (t + 1) : Nat) : Int)) ((w64 (by dsimp only; omega)).trans (by dsimp only; omega)) ?_
          exact ⟨(t + 1, 16 * x + q), ⟨rfl, hgood q hq⟩, ⟨rfl, rfl, rfl, rfl, rfl, trivial⟩, by dsimp only; omega⟩
        ·
          refine p_atS u_str' rfl rfl rfl hat ?_
          refine p_ge rfl rfl (fun g3 => ?_) (fun g3 => ?_)
          rotate_left
          · refine p_lt rfl rfl (fun _ => ?_) (fun h => absurd (by decide) h)
            exact bad W' (hbad (by unfold digV; rw [if_neg (by omega), if_neg (by omega)])) A1'.below
          refine p_atS u_str' rfl rfl rfl hat ?_
          refine p_le rfl rfl (fun g4 => ?_) (fun g4 => ?_)
          rotate_left
          · refine p_lt rfl rfl (fun _ => ?_) (fun h => absurd (by decide) h)
            exact bad W' (hbad (by unfold digV; rw [if_neg (by omega), if_neg (by omega)])) A1'.below
          obtain ⟨q, hq', hq⟩ : ∃ q : Nat, q = ch.toNat - 87 ∧ digV ch = some q := ⟨_, rfl, by unfold digV; rw [if_neg (by omega), if_pos (by omega)]⟩
          refine p_atS u_str' rfl rfl rfl hat ?_
          refine v_cvt u_byt u_i rfl (r := (ch.toNat : Int)) (w64 (by omega)) ?_
          refine p_sub rfl rfl (r := (q : Int)) ((w64 (by omega)).trans (by omega)) ?_
          refine p_lt rfl rfl (fun h => by omega) (fun _ => ?_)
          refine p_mul rfl rfl (r := ((16 * x : Nat) : Int)) ((w64 (by dsimp only; omega)).trans (by dsimp only; omega)) ?_
          refine p_add rfl rfl (r := ((16 * x + q : Nat) : Int)) ((w64 (by omega)).trans (by omega)) ?_
          refine p_add rfl rfl (r := ((2 * j + (t + 1) : Nat) : Int)) ((w64 (by dsimp only; omega)).trans (by dsimp only; omega)) ?_
          exact ⟨(t + 1, 16 * x + q), ⟨rfl, hgood q hq⟩, ⟨rfl, rfl, rfl, rfl, rfl, trivial⟩, by dsimp only; omega⟩
      ·
        refine p_atS u_str' rfl rfl rfl hat ?_
        refine p_ge rfl rfl (fun g3 => ?_) (fun g3 => ?_)
        rotate_left
        · refine p_lt rfl rfl (fun _ => ?_) (fun h => absurd (by decide) h)
          exact bad W' (hbad (by unfold digV; rw [if_neg (by omega), if_neg (by omega)])) A1'.below
        refine p_atS u_str' rfl rfl rfl hat ?_
        refine p_le rfl rfl (fun g4 => ?_) (fun g4 => ?_)
        rotate_left
        · refine p_lt rfl rfl (fun _ => ?_) (fun h => absurd (by decide) h)
          exact bad W' (hbad (by unfold digV; rw [if_neg (by omega), if_neg (by omega)])) A1'.below
        obtain ⟨q, hq', hq⟩ : ∃ q : Nat, q = ch.toNat - 87 ∧ digV ch = some q := ⟨_, rfl, by unfold digV; rw [if_neg (by omega), if_pos (by omega)]⟩
        refine p_atS u_str' rfl rfl rfl hat ?_
        refine v_cvt u_byt u_i rfl (r := (ch.toNat : Int)) (w64 (by omega)) ?_
        refine p_sub rfl rfl (r := (q : Int)) ((w64 (by omega)).trans (by omega)) ?_
        refine p_lt rfl rfl (fun h => by omega) (fun _ => ?_)
        refine p_mul rfl rfl (r := ((16 * x : Nat) : Int)) ((w64 (by dsimp only; omega)).trans (by dsimp only; omega)) ?_
        refine p_add rfl rfl (r := ((16 * x + q : Nat) : Int)) ((w64 (by omega)).trans (by omega)) ?_
        refine p_add rfl rfl (r := ((2 * j + (t + 1) : Nat) : Int)) ((w64 (by dsimp only; omega)).trans (by dsimp only; omega)) ?_
        exact ⟨(t + 1, 16 * x + q), ⟨rfl, hgood q hq⟩, ⟨rfl, rfl, rfl, rfl, rfl, trivial⟩, by dsimp only; omega⟩
    · rcases ht with ⟨h3, h4⟩ | ⟨h3, h4⟩ | ⟨h3, a, b, ha, hb, hx⟩
      · dsimp only at h2; omega
      · dsimp only at h2; omega
      have h1 := digV_lt ha
      have h1' := digV_lt hb
      refine v_cvt u_int u_u8 rfl (wu8 (by dsimp only; omega)) ?_
      refine v_litB _ [UInt8.ofNat x] (by decide) rfl (nb_of _ (by omega)) rfl A1' ?_
      rintro g9 W9 hg9 o9 s9 A9' b9 hs9
      refine v_appS rfl (o1.below b9) rfl o9.rd (by omega) A9' ?_
      rintro A10 c10 W10 o10 s10 A10' - h10
      refine p_add rfl rfl (r := ((2 * (j + 1) : Nat) : Int)) ((w64 (by omega)).trans (by omega)) ?_
      exact ⟨(j + 1, A10, c10, l ++ [UInt8.ofNat x]), ⟨by dsimp only; omega, o10, A10', by dsimp only; rw [hx]; exact unhexF_snoc j s l a b hlt' hl ha hb⟩, ⟨rfl, rfl, rfl, trivial⟩, by dsimp only; omega⟩
  · have hge' : s.length ≤ 2 * j + 1 := by have := Int.not_lt.1 hge; omega
    refine p_lenS u_str' rfl ?_
    rw [sb_size]
    refine p_rem rfl rfl (by decide) (tmod2 _) ?_
    refine p_eq rfl rfl (fun h0 => ?_) (fun h0 => ?_)
    · exact bad W (unhexF_odd s (by omega)) A1'.below
    · have e2 : s.take (2 * j) = s := List.take_of_length_le (by omega)
      rw [e2] at hl
      exact ⟨A1, j, c1, by unfold uhE; rw [hl]; rfl, by unfold uhL; rw [hl]; exact o1, A1'.below⟩
end Go.Proofs.YtjneoinacobbaaaDoor
