/- The walk of digest's words. -/
import Derived.Test.YtjneoinacobbaaaDoorSha
namespace Go.Proofs.YtjneoinacobbaaaDoor
open Go.RowKit
section
variable {P : Program} {E : Env} {d : Option Nat} {ty : TypeId} {p : String} {af : Array Edge} {g : Option (Nat × Bool)} {x y : Operand} {t : TypeId} {k : Value → Prop} {kd : IntKind}
/-- The place of an element in a block. -/
theorem p_atB {b o q : Nat} {n i : Nat} {e : TypeId} {s : Nat} {j : Int} (hT : arrOf P t = some (n, e, s)) (hx : val E x = .pointer (some ⟨b, o, none⟩)) (hy : val E y = .int kd j) (hj : j = (i : Int)) (hi : i < n) (hq : o + i * s = q)
    (h : k (.pointer (some ⟨b, q, none⟩))) : VPure P E { dst := d, op := .indexAddr t x y, type := ty, pos := p, after := af, guard := g } k :=
  p_atA hT hx hy hj hi (by rw [Addr.add_lit, hq]; exact h)
end
theorem Rd.get {w : World} {B n : Nat} {ad : Addr} {l : List UInt8} (h : Rd w B (some ad) n l) {j : Nat} (hj : j < n) : w.cell? (ad.add (j * 1)) = some (.int .u8 (byt l j : Nat)) := by
  obtain ⟨b, off, e, hc⟩ := h.at_ hj
  injection e with e
  subst e
  rw [Nat.mul_one, Addr.add_lit]; exact hc
theorem ar64 : arrOf Tryd.prog 50 = some (64, 43, 1) := by kernel_rfl
theorem agg_u32 : aggOf Tryd.prog 43 = some (false, 1) := by kernel_rfl
theorem agg_by : aggOf Tryd.prog 5 = some (false, 1) := by kernel_rfl
theorem sz_u32 : (Tryd.prog.info? 43).map (·.size) = some 1 := by kernel_rfl
theorem u_byt : (Tryd.prog.underlying 5).isSome = true := by kernel_rfl
theorem u_u32 : Tryd.prog.underlying 43 = some (.int .u32) := by kernel_rfl
theorem agg_a64 : aggOf Tryd.prog 50 = some (true, 64) := by kernel_rfl
theorem sz_a64 : (Tryd.prog.info? 50).map (·.size) = some 64 := by kernel_rfl
theorem al_a64 : (Tryd.prog.info? 50).map (fun i => i.zero.map fun z => z.cells.toList) = some (some (List.replicate 64 (cu 0))) := by kernel_rfl
theorem sl_by : slOf Tryd.prog 23 = some (5, 1) := by kernel_rfl
theorem shl32 {x n : Nat} (h : x < 256) (hn : n ≤ 24) : IntKind.u32.wrap ((x : Int) * 2 ^ (min ((n : Nat) : Int).toNat 32)) = ((x <<< n : Nat) : Int) := by
  have := shl_lt h hn
  rw [Nat.shiftLeft_eq] at this ⊢
  rw [Int.toNat_natCast, Nat.min_eq_left (by omega), IntKind.wrap_u32']
  have e : ((x * 2 ^ n : Nat) : Int) = (x : Int) * 2 ^ n := by rw [Int.natCast_mul, Int.natCast_pow]; rfl
  rw [← e]; omega
theorem add32 (x y : Nat) : IntKind.u32.wrap ((x : Int) + (y : Int)) = (((x + y) % 4294967296 : Nat) : Int) := by
  rw [IntKind.wrap_u32']; omega
theorem shr32 {x n : Nat} (hn : n ≤ 32) : (x : Int).fdiv (2 ^ (min ((n : Nat) : Int).toNat 32)) = ((x >>> n : Nat) : Int) := by
  rw [Int.toNat_natCast, Nat.min_eq_left (by omega), Nat.shiftRight_eq_div_pow, Int.fdiv_eq_ediv_of_nonneg _ (Int.le_of_lt (Int.pow_pos (by decide))), Int.natCast_ediv, Int.natCast_pow]
  rfl
set_option maxRecDepth 100000 in
theorem words_any (A : Option Addr) (c B : Nat) (b : List UInt8) (w : World) (hr : Rd w B A 64 b) (hB : B ≤ w.heap.size) :
    Calls Tryd.prog 19 #[.slice A 64 c] w fun e w' => e = .returned (.agg ((words b).map cu).toArray) ∧ Below w.heap.size w w' := by
  refine calls_ev (args := [.slice A 64 c]) mixed Tryd.func19 rfl (by kernel_rfl) ?_
  refine v_allocB _ al_a64 ?_
  rintro g W hg hB0 hb0 hsz
  have hr0 : Rd W B A 64 b := hr.below (hb0.mono (by omega))
  have hBel : Below w.heap.size w W := by rw [← hg]; exact hb0
  refine lp Nat (fun i W => i ≤ 64 ∧ Below w.heap.size w W ∧ Blk W g 50 ((wsF b i).map cu ++ List.replicate (64 - i) (cu 0))) (fun i => [(0, .slice A 64 c), (2, .pointer (some ⟨g, 0, none⟩)), (8, .int .i64 i)]) (fun i => 64 - i) 0 ⟨by decide, hBel, hB0⟩ ⟨rfl, rfl, rfl, trivial⟩ ?_
  rintro i E0 W1 ⟨hi, hb1, hB1⟩
  have hs1 := hb1.size
  refine p_lt rfl rfl (fun h => ?_) (fun h => ?_)
  · have hi64 : i < 64 := by omega
    have hr1 : Rd W1 B A 64 b := hr.below (hb1.mono hB)
    refine p_lt rfl rfl (fun h16 => ?_) (fun h16 => ?_)
    · obtain ⟨bb, off, rfl, hbB, _⟩ := hr1.cells (by decide)
      refine dr (fun W => Rd W B (some ⟨bb, off, none⟩) 64 b) [(0, true), (1, true), (2, true), (3, true), (4, true), (5, true), (6, true), (7, true), (8, true), (9, true), (10, true), (11, true), (12, true), (13, true), (14, true), (15, true), (16, true), (17, true), (18, true), (19, true), (20, true), (21, true), (22, true), (23, true), (24, true), (25, true), (26, true), (27, true), (28, true), (29, true), (30, true), (31, true), (32, true), (33, true), (34, true), (35, false)] (by kernel_rfl) hr1.drew ?_
      refine p_mul rfl rfl (r := ((4 * i : Nat) : Int)) (w64 (by omega) |>.trans (by omega)) ?_
      refine p_at (i := 4 * i) sl_by rfl rfl rfl (by omega) ?_
      refine t_load agg_by rfl (fun W h => Rd.get h (by omega)) ?_
      refine t_cvt u_byt u_u32 rfl (wu32 (by have := byt_lt b (4 * i); omega)) ?_
      refine p_shl rfl rfl (by decide) (shl32 (n := 24) (byt_lt b (4 * i)) (by decide)) ?_
      refine p_mul rfl rfl (r := ((4 * i : Nat) : Int)) (w64 (by omega) |>.trans (by omega)) ?_
      refine p_add rfl rfl (r := ((4 * i + 1 : Nat) : Int)) (w64 (by omega) |>.trans (by omega)) ?_
      refine p_at (i := 4 * i + 1) sl_by rfl rfl rfl (by omega) ?_
      refine t_load agg_by rfl (fun W h => Rd.get h (by omega)) ?_
      refine t_cvt u_byt u_u32 rfl (wu32 (by have := byt_lt b (4 * i + 1); omega)) ?_
      refine p_shl rfl rfl (by decide) (shl32 (n := 16) (byt_lt b (4 * i + 1)) (by decide)) ?_
      refine p_or rfl rfl (u32_or_nat _ _ (shl_lt (byt_lt _ _) (by decide)) (shl_lt (byt_lt _ _) (by decide))) ?_
      refine p_mul rfl rfl (r := ((4 * i : Nat) : Int)) (w64 (by omega) |>.trans (by omega)) ?_
      refine p_add rfl rfl (r := ((4 * i + 2 : Nat) : Int)) (w64 (by omega) |>.trans (by omega)) ?_
      refine p_at (i := 4 * i + 2) sl_by rfl rfl rfl (by omega) ?_
      refine t_load agg_by rfl (fun W h => Rd.get h (by omega)) ?_
      refine t_cvt u_byt u_u32 rfl (wu32 (by have := byt_lt b (4 * i + 2); omega)) ?_
      refine p_shl rfl rfl (by decide) (shl32 (n := 8) (byt_lt b (4 * i + 2)) (by decide)) ?_
      refine p_or rfl rfl (u32_or_nat _ _ (or_lt (shl_lt (byt_lt _ _) (by decide)) (shl_lt (byt_lt _ _) (by decide))) (shl_lt (byt_lt _ _) (by decide))) ?_
      refine p_mul rfl rfl (r := ((4 * i : Nat) : Int)) (w64 (by omega) |>.trans (by omega)) ?_
      refine p_add rfl rfl (r := ((4 * i + 3 : Nat) : Int)) (w64 (by omega) |>.trans (by omega)) ?_
      refine p_at (i := 4 * i + 3) sl_by rfl rfl rfl (by omega) ?_
      refine t_load agg_by rfl (fun W h => Rd.get h (by omega)) ?_
      refine t_cvt u_byt u_u32 rfl (wu32 (by have := byt_lt b (4 * i + 3); omega)) ?_
      refine p_or rfl rfl (u32_or_nat _ _ (or_lt (or_lt (shl_lt (byt_lt _ _) (by decide)) (shl_lt (byt_lt _ _) (by decide))) (shl_lt (byt_lt _ _) (by decide))) (Nat.lt_trans (byt_lt _ _) (by decide))) ?_
      refine p_atB (i := i) (q := i) ar64 rfl rfl rfl hi64 (by omega) ?_
      refine v_set (cu (wordB b i)) sz_u32 hB1.drew rfl rfl rfl (by simp [wsF_len]; omega) ?_
      rintro W2 hB2 hg2 hs2
      rw [cu_set (wsF_len b i) hi64] at hB2
      have hr2 : Rd W2 B (some ⟨bb, off, none⟩) 64 b := hr1.drew.grown hg2 (by show B ≤ W1.heap.size; omega) (fun k hk => by injection hk with hk; omega)
      refine ⟨hr2, ?_⟩
      refine p_add rfl rfl (r := ((i + 1 : Nat) : Int)) (w64 (by omega) |>.trans (by omega)) ?_
      refine ⟨i + 1, ⟨by omega, hb1.drew.grown hg2 hs1 (fun k hk => by injection hk with hk; omega), ?_⟩, ⟨rfl, rfl, rfl, trivial⟩, by omega⟩
      have e : wsF b (i + 1) = wsF b i ++ [wordB b i] := by show wsF b i ++ [_] = _; rw [if_pos (by omega)]
      rw [e]; exact hB2
    · have hl := wsF_len b i
      have hlt := getD_lt (wsF_lt b i)
      have cell : ∀ {W : World}, Blk W g 50 ((wsF b i).map cu ++ List.replicate (64 - i) (cu 0)) → ∀ j, j < i → W.cell? ⟨g, j, none⟩ = some (cu ((wsF b i).getD j 0)) := fun h j hj => h.at_ (cu_get (by omega))
      refine dr (fun W => ∀ j, j < i → W.cell? ⟨g, j, none⟩ = some (cu ((wsF b i).getD j 0))) [(0, true), (1, true), (2, true), (3, true), (4, true), (5, true), (6, true), (7, true), (8, true), (9, true)] (by kernel_rfl) (cell hB1.drew) ?_
      refine p_sub rfl rfl (r := ((i - 15 : Nat) : Int)) (w64 (by omega) |>.trans (by omega)) ?_
      refine p_atB (i := i - 15) (q := i - 15) ar64 rfl rfl rfl (by omega) (by omega) ?_
      refine t_load agg_u32 rfl (fun W h => h (i - 15) (by omega)) ?_
      refine p_sub rfl rfl (r := ((i - 2 : Nat) : Int)) (w64 (by omega) |>.trans (by omega)) ?_
      refine p_atB (i := i - 2) (q := i - 2) ar64 rfl rfl rfl (by omega) (by omega) ?_
      refine t_load agg_u32 rfl (fun W h => h (i - 2) (by omega)) ?_
      obtain ⟨x, hx⟩ : ∃ x, x = (wsF b i).getD (i - 15) 0 := ⟨_, rfl⟩
      obtain ⟨y, hy⟩ : ∃ y, y = (wsF b i).getD (i - 2) 0 := ⟨_, rfl⟩
      have hxl := hlt (i - 15)
      have hyl := hlt (i - 2)
      refine cc is_turn (turn_any ((wsF b i).getD (i - 15) 0) 7 _ hxl (by decide) (by decide)) ?_
      rintro e w' ⟨rfl, rfl⟩
      refine ⟨_, rfl, ?_⟩
      refine cc is_turn (turn_any ((wsF b i).getD (i - 15) 0) 18 _ hxl (by decide) (by decide)) ?_
      rintro e w' ⟨rfl, rfl⟩
      refine ⟨_, rfl, ?_⟩
      refine p_xor rfl rfl (u32_xor_nat _ _ (rotr_lt _ hxl) (rotr_lt _ hxl)) ?_
      refine p_shr rfl rfl (by decide) (shr32 (n := 3) (x := (wsF b i).getD (i - 15) 0) (by decide)) ?_
      refine p_xor rfl rfl (u32_xor_nat _ _ (xor_lt (rotr_lt _ hxl) (rotr_lt _ hxl)) (shr_lt _ hxl)) ?_
      refine cc is_turn (turn_any ((wsF b i).getD (i - 2) 0) 17 _ hyl (by decide) (by decide)) ?_
      rintro e w' ⟨rfl, rfl⟩
      refine ⟨_, rfl, ?_⟩
      refine cc is_turn (turn_any ((wsF b i).getD (i - 2) 0) 19 _ hyl (by decide) (by decide)) ?_
      rintro e w' ⟨rfl, rfl⟩
      refine ⟨_, rfl, ?_⟩
      refine p_xor rfl rfl (u32_xor_nat _ _ (rotr_lt _ hyl) (rotr_lt _ hyl)) ?_
      refine p_shr rfl rfl (by decide) (shr32 (n := 10) (x := (wsF b i).getD (i - 2) 0) (by decide)) ?_
      refine p_xor rfl rfl (u32_xor_nat _ _ (xor_lt (rotr_lt _ hyl) (rotr_lt _ hyl)) (shr_lt _ hyl)) ?_
      have cellD := cell hB1.drew.drew
      refine dr (fun W => ∀ j, j < i → W.cell? ⟨g, j, none⟩ = some (cu ((wsF b i).getD j 0))) [(0, true), (1, true), (2, true), (3, true), (4, true), (5, true), (6, true), (7, true), (8, true), (9, true), (10, true), (11, true), (12, true), (13, true), (14, true), (15, false)] (by kernel_rfl) cellD ?_
      refine p_sub rfl rfl (r := ((i - 7 : Nat) : Int)) (w64 (by omega) |>.trans (by omega)) ?_
      refine p_atB (i := i - 7) (q := i - 7) ar64 rfl rfl rfl (by omega) (by omega) ?_
      refine t_load agg_u32 rfl (fun W h => h (i - 7) (by omega)) ?_
      refine p_add rfl rfl (add32 (sg1 ((wsF b i).getD (i - 2) 0)) ((wsF b i).getD (i - 7) 0)) ?_
      refine p_add rfl rfl (add32 _ (sg0 ((wsF b i).getD (i - 15) 0))) ?_
      refine p_sub rfl rfl (r := ((i - 16 : Nat) : Int)) (w64 (by omega) |>.trans (by omega)) ?_
      refine p_atB (i := i - 16) (q := i - 16) ar64 rfl rfl rfl (by omega) (by omega) ?_
      refine t_load agg_u32 rfl (fun W h => h (i - 16) (by omega)) ?_
      refine p_add rfl rfl (add32 _ ((wsF b i).getD (i - 16) 0)) ?_
      refine p_atB (i := i) (q := i) ar64 rfl rfl rfl hi64 (by omega) ?_
      refine v_set (cu (nextW (wsF b i) i)) sz_u32 hB1.drew.drew rfl rfl rfl (by simp [wsF_len]; omega) ?_
      rintro W2 hB2 hg2 hs2
      rw [cu_set (wsF_len b i) hi64] at hB2
      have cell2 : ∀ j, j < i → W2.cell? ⟨g, j, none⟩ = some (cu ((wsF b i).getD j 0)) := fun j hj => hB2.at_ (by
        rw [cu_get (by simp [wsF_len]; omega), List.getD_eq_getElem?_getD, List.getD_eq_getElem?_getD, List.getElem?_append_left (by omega)])
      refine ⟨cell2, ?_⟩
      refine p_add rfl rfl (r := ((i + 1 : Nat) : Int)) (w64 (by omega) |>.trans (by omega)) ?_
      refine ⟨i + 1, ⟨by omega, hb1.drew.drew.grown hg2 hs1 (fun k hk => by injection hk with hk; omega), ?_⟩, ⟨rfl, rfl, rfl, trivial⟩, by omega⟩
      have e : wsF b (i + 1) = wsF b i ++ [nextW (wsF b i) i] := by show wsF b i ++ [_] = _; rw [if_neg (by omega)]
      rw [e]; exact hB2
  · have hi : i = 64 := by omega
    subst hi
    have hl : ((words b).map cu).length = 64 := by rw [List.length_map]; exact wsF_len b 64
    have hB : Blk W1 g 50 ((words b).map cu) := by simpa [words] using hB1
    refine v_loadN ((words b).map cu) agg_a64 rfl hl (hB.run 0 _ (fun j v h => by rw [Nat.zero_add]; exact h)) ?_
    refine v_storeA ((words b).map cu) sz_a64 rfl rfl hl (fun u hu => by obtain ⟨x, _, rfl⟩ := List.mem_map.1 hu; rfl) hB hl ?_
    rintro W2 hB2 hg2 hs2
    exact ⟨⟨_, _, rfl, run_loadN agg_a64 ((words b).map cu) hl (hB2.run 0 _ (fun j v h => by rw [Nat.zero_add]; exact h)), ⟨rfl, hb1.grown hg2 hs1 (fun k hk => by injection hk with hk; omega)⟩⟩⟩
end Go.Proofs.YtjneoinacobbaaaDoor
