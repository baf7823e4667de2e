/- The walk of digest's words. SHA-256, plainly: rounds. The walk of digest's take. append onto a slice that is full: a new row. No program in sight. The walks of digest.New, Write, Len, Sum. The walks of digest.New, Len, Sum of a Digest, Sum. -/
import Derived.Test.YtejbljopighenaaDoorG12
import Derived.Test.YtejbljopighenaaDoorG04
import Derived.Test.YtejbljopighenaaDoorG05
namespace Go.Proofs.YtejbljopighenaaDoor
open Go.RowKit
theorem ar64 : arrOf Tryd.prog 132 = some (64, 104, 1) := by kernel_rfl
theorem agg_a64 : aggOf Tryd.prog 132 = some (true, 64) := by kernel_rfl
theorem sz_a64 : (Tryd.prog.info? 132).map (·.size) = some 64 := by kernel_rfl
theorem al_a64 : (Tryd.prog.info? 132).map (fun i => i.zero.map fun z => z.cells.toList) = some (some (List.replicate 64 (cu 0))) := by kernel_rfl
set_option maxRecDepth 100000 in
theorem words_any (A : Option Addr) (c B : Nat) (b : List UInt8) (w : World) (hr : Rd w B A 64 b) (hB : B ≤ w.heap.size) :
    Calls Tryd.prog 76 #[.slice A 64 c] w fun e w' => e = .returned (.agg ((words b).map cu).toArray) ∧ Below w.heap.size w w' := by
  refine calls_ev (args := [.slice A 64 c]) mixed Tryd.func76 rfl (by kernel_rfl) ?_
  refine v_allocB _ al_a64 ?_
  rintro g W hg hB0 hb0 hsz
  have hr0 : Rd W B A 64 b := hr.below (hb0.mono (by omega))
  have hBel : Below w.heap.size w W := by rw [← hg]; exact hb0
  refine lp Nat (fun i W => i ≤ 64 ∧ Below w.heap.size w W ∧ Blk W g 132 ((wsF b i).map cu ++ List.replicate (64 - i) (cu 0))) (fun i => [(0, .slice A 64 c), (2, .pointer (some ⟨g, 0, none⟩)), (8, .int .i64 i)]) (fun i => 64 - i) 0 ⟨by decide, hBel, hB0⟩ ⟨rfl, rfl, rfl, trivial⟩ ?_
  rintro i E0 W1 ⟨hi, hb1, hB1⟩
  have hs1 := hb1.size
  refine p_lt rfl rfl (fun h => ?_) (fun h => ?_)
  · have hi64 : i < 64 := by omega
    have hr1 : Rd W1 B A 64 b := hr.below (hb1.mono hB)
    refine p_lt rfl rfl (fun h16 => ?_) (fun h16 => ?_)
    · obtain ⟨bb, off, rfl, hbB, _⟩ := hr1.cells (by decide)
      refine dr (fun W => Rd W B (some ⟨bb, off, none⟩) 64 b) [(0, true), (1, true), (2, true), (3, true), (4, true), (5, true), (6, true), (7, true), (8, true), (9, true), (10, true), (11, true), (12, true), (13, true), (14, true), (15, true), (16, true), (17, true), (18, true), (19, true), (20, true), (21, true), (22, true), (23, true), (24, true), (25, true), (26, true), (27, true), (28, true), (29, true), (30, true), (31, true), (32, true), (33, true), (34, true), (35, false)] (by kernel_rfl) hr1.drew ?_
      refine p_mul rfl rfl (r := ((4 * i : Nat) : Int)) (w64 (by omega) |>.trans (by omega)) ?_
      refine p_at (i := 4 * i) sl_by rfl rfl rfl (by omega) ?_
      refine t_load agg_by rfl (fun W h => Rd.get h (by omega)) ?_
      refine t_cvt u_byt u_u32 rfl (wu32 (by have := byt_lt b (4 * i); omega)) ?_
      refine p_shl rfl rfl (by decide) (shl32 (n := 24) (byt_lt b (4 * i)) (by decide)) ?_
      refine p_mul rfl rfl (r := ((4 * i : Nat) : Int)) (w64 (by omega) |>.trans (by omega)) ?_
      refine p_add rfl rfl (r := ((4 * i + 1 : Nat) : Int)) (w64 (by omega) |>.trans (by omega)) ?_
      refine p_at (i := 4 * i + 1) sl_by rfl rfl rfl (by omega) ?_
      refine t_load agg_by rfl (fun W h => Rd.get h (by omega)) ?_
      refine t_cvt u_byt u_u32 rfl (wu32 (by have := byt_lt b (4 * i + 1); omega)) ?_
      refine p_shl rfl rfl (by decide) (shl32 (n := 16) (byt_lt b (4 * i + 1)) (by decide)) ?_
      refine p_or rfl rfl (u32_or_nat _ _ (shl_lt (byt_lt _ _) (by decide)) (shl_lt (byt_lt _ _) (by decide))) ?_
      refine p_mul rfl rfl (r := ((4 * i : Nat) : Int)) (w64 (by omega) |>.trans (by omega)) ?_
      refine p_add rfl rfl (r := ((4 * i + 2 : Nat) : Int)) (w64 (by omega) |>.trans (by omega)) ?_
      refine p_at (i := 4 * i + 2) sl_by rfl rfl rfl (by omega) ?_
      refine t_load agg_by rfl (fun W h => Rd.get h (by omega)) ?_
      refine t_cvt u_byt u_u32 rfl (wu32 (by have := byt_lt b (4 * i + 2); omega)) ?_
      refine p_shl rfl rfl (by decide) (shl32 (n := 8) (byt_lt b (4 * i + 2)) (by decide)) ?_
      refine p_or rfl rfl (u32_or_nat _ _ (or_lt (shl_lt (byt_lt _ _) (by decide)) (shl_lt (byt_lt _ _) (by decide))) (shl_lt (byt_lt _ _) (by decide))) ?_
      refine p_mul rfl rfl (r := ((4 * i : Nat) : Int)) (w64 (by omega) |>.trans (by omega)) ?_
      refine p_add rfl rfl (r := ((4 * i + 3 : Nat) : Int)) (w64 (by omega) |>.trans (by omega)) ?_
      refine p_at (i := 4 * i + 3) sl_by rfl rfl rfl (by omega) ?_
      refine t_load agg_by rfl (fun W h => Rd.get h (by omega)) ?_
      refine t_cvt u_byt u_u32 rfl (wu32 (by have := byt_lt b (4 * i + 3); omega)) ?_
      refine p_or rfl rfl (u32_or_nat _ _ (or_lt (or_lt (shl_lt (byt_lt _ _) (by decide)) (shl_lt (byt_lt _ _) (by decide))) (shl_lt (byt_lt _ _) (by decide))) (Nat.lt_trans (byt_lt _ _) (by decide))) ?_
      refine p_atB (i := i) (q := i) ar64 rfl rfl rfl hi64 (by omega) ?_
      refine v_set (cu (wordB b i)) sz_u32 hB1.drew rfl rfl rfl (by simp [wsF_len]; omega) ?_
      rintro W2 hB2 hg2 hs2
      rw [cu_set (wsF_len b i) hi64] at hB2
      have hr2 : Rd W2 B (some ⟨bb, off, none⟩) 64 b := hr1.drew.grown hg2 (by show B ≤ W1.heap.size; omega) (fun k hk => by injection hk with hk; omega)
      refine ⟨hr2, ?_⟩
      refine p_add rfl rfl (r := ((i + 1 : Nat) : Int)) (w64 (by omega) |>.trans (by omega)) ?_
      refine ⟨i + 1, ⟨by omega, hb1.drew.grown hg2 hs1 (fun k hk => by injection hk with hk; omega), ?_⟩, ⟨rfl, rfl, rfl, trivial⟩, by omega⟩
      have e : wsF b (i + 1) = wsF b i ++ [wordB b i] := by show wsF b i ++ [_] = _; rw [if_pos (by omega)]
      rw [e]; exact hB2
    · have hl := wsF_len b i
      have hlt := getD_lt (wsF_lt b i)
      have cell : ∀ {W : World}, Blk W g 132 ((wsF b i).map cu ++ List.replicate (64 - i) (cu 0)) → ∀ j, j < i → W.cell? ⟨g, j, none⟩ = some (cu ((wsF b i).getD j 0)) := fun h j hj => h.at_ (cu_get (by omega))
      refine dr (fun W => ∀ j, j < i → W.cell? ⟨g, j, none⟩ = some (cu ((wsF b i).getD j 0))) [(0, true), (1, true), (2, true), (3, true), (4, true), (5, true), (6, true), (7, true), (8, true), (9, true)] (by kernel_rfl) (cell hB1.drew) ?_
      refine p_sub rfl rfl (r := ((i - 15 : Nat) : Int)) (w64 (by omega) |>.trans (by omega)) ?_
      refine p_atB (i := i - 15) (q := i - 15) ar64 rfl rfl rfl (by omega) (by omega) ?_
      refine t_load agg_u32 rfl (fun W h => h (i - 15) (by omega)) ?_
      refine p_sub rfl rfl (r := ((i - 2 : Nat) : Int)) (w64 (by omega) |>.trans (by omega)) ?_
      refine p_atB (i := i - 2) (q := i - 2) ar64 rfl rfl rfl (by omega) (by omega) ?_
      refine t_load agg_u32 rfl (fun W h => h (i - 2) (by omega)) ?_
      obtain ⟨x, hx⟩ : ∃ x, x = (wsF b i).getD (i - 15) 0 := ⟨_, rfl⟩
      obtain ⟨y, hy⟩ : ∃ y, y = (wsF b i).getD (i - 2) 0 := ⟨_, rfl⟩
      have hxl := hlt (i - 15)
      have hyl := hlt (i - 2)
      refine cc is_turn (turn_any ((wsF b i).getD (i - 15) 0) 7 _ hxl (by decide) (by decide)) ?_
      rintro e w' ⟨rfl, rfl⟩
      refine ⟨_, rfl, ?_⟩
      refine cc is_turn (turn_any ((wsF b i).getD (i - 15) 0) 18 _ hxl (by decide) (by decide)) ?_
      rintro e w' ⟨rfl, rfl⟩
      refine ⟨_, rfl, ?_⟩
      refine p_xor rfl rfl (u32_xor_nat _ _ (rotr_lt _ hxl) (rotr_lt _ hxl)) ?_
      refine p_shr rfl rfl (by decide) (shr32 (n := 3) (x := (wsF b i).getD (i - 15) 0) (by decide)) ?_
      refine p_xor rfl rfl (u32_xor_nat _ _ (xor_lt (rotr_lt _ hxl) (rotr_lt _ hxl)) (shr_lt _ hxl)) ?_
      refine cc is_turn (turn_any ((wsF b i).getD (i - 2) 0) 17 _ hyl (by decide) (by decide)) ?_
      rintro e w' ⟨rfl, rfl⟩
      refine ⟨_, rfl, ?_⟩
      refine cc is_turn (turn_any ((wsF b i).getD (i - 2) 0) 19 _ hyl (by decide) (by decide)) ?_
      rintro e w' ⟨rfl, rfl⟩
      refine ⟨_, rfl, ?_⟩
      refine p_xor rfl rfl (u32_xor_nat _ _ (rotr_lt _ hyl) (rotr_lt _ hyl)) ?_
      refine p_shr rfl rfl (by decide) (shr32 (n := 10) (x := (wsF b i).getD (i - 2) 0) (by decide)) ?_
      refine p_xor rfl rfl (u32_xor_nat _ _ (xor_lt (rotr_lt _ hyl) (rotr_lt _ hyl)) (shr_lt _ hyl)) ?_
      have cellD := cell hB1.drew.drew
      refine dr (fun W => ∀ j, j < i → W.cell? ⟨g, j, none⟩ = some (cu ((wsF b i).getD j 0))) [(0, true), (1, true), (2, true), (3, true), (4, true), (5, true), (6, true), (7, true), (8, true), (9, true), (10, true), (11, true), (12, true), (13, true), (14, true), (15, false)] (by kernel_rfl) cellD ?_
      refine p_sub rfl rfl (r := ((i - 7 : Nat) : Int)) (w64 (by omega) |>.trans (by omega)) ?_
      refine p_atB (i := i - 7) (q := i - 7) ar64 rfl rfl rfl (by omega) (by omega) ?_
      refine t_load agg_u32 rfl (fun W h => h (i - 7) (by omega)) ?_
      refine p_add rfl rfl (add32 (sg1 ((wsF b i).getD (i - 2) 0)) ((wsF b i).getD (i - 7) 0)) ?_
      refine p_add rfl rfl (add32 _ (sg0 ((wsF b i).getD (i - 15) 0))) ?_
      refine p_sub rfl rfl (r := ((i - 16 : Nat) : Int)) (w64 (by omega) |>.trans (by omega)) ?_
      refine p_atB (i := i - 16) (q := i - 16) ar64 rfl rfl rfl (by omega) (by omega) ?_
      refine t_load agg_u32 rfl (fun W h => h (i - 16) (by omega)) ?_
      refine p_add rfl rfl (add32 _ ((wsF b i).getD (i - 16) 0)) ?_
      refine p_atB (i := i) (q := i) ar64 rfl rfl rfl hi64 (by omega) ?_
      refine v_set (cu (nextW (wsF b i) i)) sz_u32 hB1.drew.drew rfl rfl rfl (by simp [wsF_len]; omega) ?_
      rintro W2 hB2 hg2 hs2
      rw [cu_set (wsF_len b i) hi64] at hB2
      have cell2 : ∀ j, j < i → W2.cell? ⟨g, j, none⟩ = some (cu ((wsF b i).getD j 0)) := fun j hj => hB2.at_ (by
        rw [cu_get (by simp [wsF_len]; omega), List.getD_eq_getElem?_getD, List.getD_eq_getElem?_getD, List.getElem?_append_left (by omega)])
      refine ⟨cell2, ?_⟩
      refine p_add rfl rfl (r := ((i + 1 : Nat) : Int)) (w64 (by omega) |>.trans (by omega)) ?_
      refine ⟨i + 1, ⟨by omega, hb1.drew.drew.grown hg2 hs1 (fun k hk => by injection hk with hk; omega), ?_⟩, ⟨rfl, rfl, rfl, trivial⟩, by omega⟩
      have e : wsF b (i + 1) = wsF b i ++ [nextW (wsF b i) i] := by show wsF b i ++ [_] = _; rw [if_neg (by omega)]
      rw [e]; exact hB2
  · have hi : i = 64 := by omega
    subst hi
    have hl : ((words b).map cu).length = 64 := by rw [List.length_map]; exact wsF_len b 64
    have hB : Blk W1 g 132 ((words b).map cu) := by simpa [words] using hB1
    refine v_loadN ((words b).map cu) agg_a64 rfl hl (hB.run 0 _ (fun j v h => by rw [Nat.zero_add]; exact h)) ?_
    refine v_storeA ((words b).map cu) sz_a64 rfl rfl hl (fun u hu => by obtain ⟨x, _, rfl⟩ := List.mem_map.1 hu; rfl) hB hl ?_
    rintro W2 hB2 hg2 hs2
    exact ⟨⟨_, _, rfl, run_loadN agg_a64 ((words b).map cu) hl (hB2.run 0 _ (fun j v h => by rw [Nat.zero_add]; exact h)), ⟨rfl, hb1.grown hg2 hs1 (fun k hk => by injection hk with hk; omega)⟩⟩⟩
end Go.Proofs.YtejbljopighenaaDoor
namespace Go.Proofs.YtejbljopighenaaDoor
/-- Eight words. -/
structure H8 where
  a : Nat
  b : Nat
  c : Nat
  d : Nat
  e : Nat
  f : Nat
  g : Nat
  h : Nat
def hc (v : H8) : List Value := [cu v.a, cu v.b, cu v.c, cu v.d, cu v.e, cu v.f, cu v.g, cu v.h]
structure H8.Ok (v : H8) : Prop where
  a : v.a < 4294967296
  b : v.b < 4294967296
  c : v.c < 4294967296
  d : v.d < 4294967296
  e : v.e < 4294967296
  f : v.f < 4294967296
  g : v.g < 4294967296
  h : v.h < 4294967296
def bs1 (e : Nat) : Nat := (rotr e 6 ^^^ rotr e 11) ^^^ rotr e 25
def bs0 (a : Nat) : Nat := (rotr a 2 ^^^ rotr a 13) ^^^ rotr a 22
def chs (e f g : Nat) : Nat := (e &&& f) ^^^ ((4294967295 ^^^ e) &&& g)
def maj (a b c : Nat) : Nat := ((a &&& b) ^^^ (a &&& c)) ^^^ (b &&& c)
def tt1 (v : H8) (k w : Nat) : Nat := ((((v.h + bs1 v.e) % 4294967296 + chs v.e v.f v.g) % 4294967296 + k) % 4294967296 + w) % 4294967296
def tt2 (v : H8) : Nat := (bs0 v.a + maj v.a v.b v.c) % 4294967296
def rnd (v : H8) (k w : Nat) : H8 := ⟨(tt1 v k w + tt2 v) % 4294967296, v.a, v.b, v.c, (v.d + tt1 v k w) % 4294967296, v.e, v.f, v.g⟩
theorem rnd_ok {v : H8} (h : v.Ok) (k w : Nat) : (rnd v k w).Ok := ⟨Nat.mod_lt _ (by decide), h.a, h.b, h.c, Nat.mod_lt _ (by decide), h.e, h.f, h.g⟩
/-- i rounds. -/
def rndF (ks ws : List Nat) (v : H8) : Nat → H8
  | 0 => v
  | i + 1 => rnd (rndF ks ws v i) (ks.getD i 0) (ws.getD i 0)
theorem rndF_ok (ks ws : List Nat) {v : H8} (h : v.Ok) : ∀ i, (rndF ks ws v i).Ok
  | 0 => h
  | i + 1 => rnd_ok (rndF_ok ks ws h i) _ _
def add8 (x y : H8) : H8 := ⟨(x.a + y.a) % 4294967296, (x.b + y.b) % 4294967296, (x.c + y.c) % 4294967296, (x.d + y.d) % 4294967296, (x.e + y.e) % 4294967296, (x.f + y.f) % 4294967296, (x.g + y.g) % 4294967296, (x.h + y.h) % 4294967296⟩
theorem add8_ok (x y : H8) : (add8 x y).Ok := ⟨Nat.mod_lt _ (by decide), Nat.mod_lt _ (by decide), Nat.mod_lt _ (by decide), Nat.mod_lt _ (by decide), Nat.mod_lt _ (by decide), Nat.mod_lt _ (by decide), Nat.mod_lt _ (by decide), Nat.mod_lt _ (by decide)⟩
def begin8 : H8 := ⟨1779033703, 3144134277, 1013904242, 2773480762, 1359893119, 2600822924, 528734635, 1541459225⟩
def roots : List Nat := [0x428a2f98, 0x71374491, 0xb5c0fbcf, 0xe9b5dba5, 0x3956c25b, 0x59f111f1, 0x923f82a4, 0xab1c5ed5,
  0xd807aa98, 0x12835b01, 0x243185be, 0x550c7dc3, 0x72be5d74, 0x80deb1fe, 0x9bdc06a7, 0xc19bf174,
  0xe49b69c1, 0xefbe4786, 0x0fc19dc6, 0x240ca1cc, 0x2de92c6f, 0x4a7484aa, 0x5cb0a9dc, 0x76f988da,
  0x983e5152, 0xa831c66d, 0xb00327c8, 0xbf597fc7, 0xc6e00bf3, 0xd5a79147, 0x06ca6351, 0x14292967,
  0x27b70a85, 0x2e1b2138, 0x4d2c6dfc, 0x53380d13, 0x650a7354, 0x766a0abb, 0x81c2c92e, 0x92722c85,
  0xa2bfe8a1, 0xa81a664b, 0xc24b8b70, 0xc76c51a3, 0xd192e819, 0xd6990624, 0xf40e3585, 0x106aa070,
  0x19a4c116, 0x1e376c08, 0x2748774c, 0x34b0bcb5, 0x391c0cb3, 0x4ed8aa4a, 0x5b9cca4f, 0x682e6ff3,
  0x748f82ee, 0x78a5636f, 0x84c87814, 0x8cc70208, 0x90befffa, 0xa4506ceb, 0xbef9a3f7, 0xc67178f2]
/-- What 64 bytes make of eight words. -/
def take8 (h : H8) (b : List UInt8) : H8 := add8 h (rndF roots (words b) h 64)
/-- What all whole blocks make; n blocks. -/
def blocksF (h : H8) : Nat → List UInt8 → H8
  | 0, _ => h
  | n + 1, b => blocksF (take8 h (b.take 64)) n (b.drop 64)
def put4 (x : Nat) : List UInt8 := [UInt8.ofNat (x >>> 24), UInt8.ofNat (x >>> 16), UInt8.ofNat (x >>> 8), UInt8.ofNat x]
def out8 (h : H8) : List UInt8 := put4 h.a ++ (put4 h.b ++ (put4 h.c ++ (put4 h.d ++ (put4 h.e ++ (put4 h.f ++ (put4 h.g ++ put4 h.h))))))
/-- What is put behind so many bytes. -/
def padL (n : Nat) : List UInt8 := (128 : UInt8) :: (List.replicate ((119 - n % 64) % 64) (0 : UInt8) ++ [UInt8.ofNat ((8 * n) >>> 56), UInt8.ofNat ((8 * n) >>> 48), UInt8.ofNat ((8 * n) >>> 40), UInt8.ofNat ((8 * n) >>> 32), UInt8.ofNat ((8 * n) >>> 24), UInt8.ofNat ((8 * n) >>> 16), UInt8.ofNat ((8 * n) >>> 8), UInt8.ofNat (8 * n)])
def sha (b : List UInt8) : List UInt8 := out8 (blocksF begin8 ((b ++ padL b.length).length / 64) (b ++ padL b.length))
end Go.Proofs.YtejbljopighenaaDoor
namespace Go.Proofs.YtejbljopighenaaDoor
open Go.RowKit
theorem ar8 : arrOf Tryd.prog 118 = some (8, 104, 1) := by kernel_rfl
theorem agg_a8 : aggOf Tryd.prog 118 = some (true, 8) := by kernel_rfl
theorem sz_a8 : (Tryd.prog.info? 118).map (·.size) = some 8 := by kernel_rfl
theorem al_a8 : (Tryd.prog.info? 118).map (fun i => i.zero.map fun z => z.cells.toList) = some (some (List.replicate 8 (cu 0))) := by kernel_rfl
theorem zero_a8 : zeroOf Tryd.prog 118 = some (List.replicate 8 (cu 0)) := by kernel_rfl
theorem fd0 : fieldOff Tryd.prog 120 0 = some 0 := by kernel_rfl
theorem fd1 : fieldOff Tryd.prog 120 1 = some 8 := by kernel_rfl
theorem fd2 : fieldOff Tryd.prog 120 2 = some 9 := by kernel_rfl
theorem is_words : isFn Tryd.prog 76 = true := by kernel_rfl
theorem is_take : isFn Tryd.prog 66 = true := by kernel_rfl
def rootsAt (w : World) : Prop := ∀ j, j < 64 → w.cell? ⟨1, j, none⟩ = some (cu (roots.getD j 0))
/-- The first i words are added. -/
def addF (x y : H8) (i : Nat) : H8 := ⟨if 0 < i then (x.a + y.a) % 4294967296 else x.a, if 1 < i then (x.b + y.b) % 4294967296 else x.b, if 2 < i then (x.c + y.c) % 4294967296 else x.c, if 3 < i then (x.d + y.d) % 4294967296 else x.d, if 4 < i then (x.e + y.e) % 4294967296 else x.e, if 5 < i then (x.f + y.f) % 4294967296 else x.f, if 6 < i then (x.g + y.g) % 4294967296 else x.g, if 7 < i then (x.h + y.h) % 4294967296 else x.h⟩
theorem add8_eq (x y : H8) : add8 x y = addF x y 8 := rfl
set_option maxRecDepth 100000 in
theorem take_any (g c : Nat) (A : Option Addr) (b : List UInt8) (h : H8) (R : List Value) (w : World) (ho : h.Ok) (hr : Rd w w.heap.size A 64 b) (hB : Blk w g 120 (hc h ++ R)) (hR : rootsAt w) (hg : 2 ≤ g) :
    Calls Tryd.prog 66 #[.pointer (some ⟨g, 0, none⟩), .slice A 64 c] w fun e w' => (∃ v, e = .returned v) ∧ Blk w' g 120 (hc (take8 h b) ++ R) ∧ w.grownBy w' (some g) := by
  refine calls_ev (args := [.pointer (some ⟨g, 0, none⟩), .slice A 64 c]) mixed Tryd.func66 rfl (by kernel_rfl) ?_
  have hgl := hB.lt
  refine p_nil rfl ?_
  refine p_fld fd0 rfl ?_
  refine v_loadN (hc h) agg_a8 rfl rfl (hB.run 0 _ (fun j v hj => by rw [Nat.zero_add, List.getElem?_append_left (List.getElem?_eq_some_iff.1 hj).1]; exact hj)) ?_
  refine v_allocB _ al_a8 ?_
  rintro g1 W1 hg1 hB1 hb1 hs1
  refine v_storeA (hc h) sz_a8 rfl rfl rfl (by intro u hu; simp [hc] at hu; rcases hu with rfl | rfl | rfl | rfl | rfl | rfl | rfl | rfl <;> rfl) hB1 rfl ?_
  rintro W2 hB2 hg2 hs2
  have b2 : Below w.heap.size w W2 := by rw [← hg1] at *; exact hb1.grown hg2 (by omega) (fun k hk => by injection hk with hk; omega)
  refine cc is_words (words_any A c w.heap.size b _ (hr.below b2) b2.size) ?_
  rintro e W3 ⟨rfl, b3⟩
  refine ⟨_, rfl, ?_⟩
  have hs3 := b3.size
  have hB3 := hB2.below b3
  replace b2 := b2.trans (b3.mono b2.size)
  have wl : (words b).length = 64 := wsF_len b 64
  have wlt := getD_lt (wsF_lt b 64)
  replace wlt : ∀ j, (words b).getD j 0 < 4294967296 := wlt
  refine lp Nat (fun i W => i ≤ 64 ∧ Below w.heap.size w W ∧ Blk W g1 118 (hc (rndF roots (words b) h i))) (fun i => [(0, .pointer (some ⟨g, 0, none⟩)), (4, .pointer (some ⟨g1, 0, none⟩)), (17, .agg ((words b).map cu).toArray), (18, .int .i64 i)]) (fun i => 64 - i) 0 ⟨by decide, b2, hB3⟩ ⟨rfl, rfl, rfl, rfl, trivial⟩ ?_
  rintro i E0 W4 ⟨hi, b4, hB4⟩
  have hs4 := b4.size
  have hok := rndF_ok roots (words b) ho i
  refine p_lt rfl rfl (fun hlt => ?_) (fun hge => ?_)
  · have hi64 : i < 64 := by omega
    obtain ⟨v, hv⟩ : ∃ v, v = rndF roots (words b) h i := ⟨_, rfl⟩
    rw [← hv] at hB4 hok
    have hR4 : rootsAt W4 := fun j hj => (b4.cell (p := ⟨1, j, none⟩) (by show 1 < _; omega)).trans (hR j hj)
    have hwv : ((words b).map cu)[i]? = some (cu ((words b).getD i 0)) := by
      have := cu_get (L := words b) (R := []) (j := i) (by omega)
      rwa [List.append_nil] at this
    refine p_idxA (i := i) ar64 agg_u32 rfl rfl rfl hi64 hwv ?_
    refine dr (fun W => Blk W g1 118 (hc v)) [(0, true), (1, true), (2, true), (3, true), (4, true), (5, true)] (by kernel_rfl) hB4.drew ?_
    refine p_atB (i := 0) (q := 0) ar8 rfl rfl rfl (by decide) rfl ?_
    refine t_load agg_u32 rfl (fun W h => Blk.at_ h rfl) ?_
    refine p_atB (i := 4) (q := 4) ar8 rfl rfl rfl (by decide) rfl ?_
    refine t_load agg_u32 rfl (fun W h => Blk.at_ h rfl) ?_
    refine dr (fun W => Blk W g1 118 (hc v) ∧ rootsAt W) [(0, true), (1, true), (2, true), (4, true), (7, true), (11, true), (12, true), (13, true), (14, true), (15, true), (16, true), (17, true), (18, true), (19, true), (20, true), (22, true), (23, true), (24, true), (26, true), (3, false), (5, false), (6, true), (8, false), (9, true), (10, true), (21, true), (25, true), (27, true), (28, true)] (by kernel_rfl) ⟨hB4.drew.drew, hR4⟩ ?_
    refine p_atB (i := 7) (q := 7) ar8 rfl rfl rfl (by decide) rfl ?_
    refine t_load agg_u32 rfl (fun W h => Blk.at_ h.1 rfl) ?_
    refine p_atB (i := 5) (q := 5) ar8 rfl rfl rfl (by decide) rfl ?_
    refine t_load agg_u32 rfl (fun W h => Blk.at_ h.1 rfl) ?_
    refine p_and rfl rfl (u32_and_nat v.e v.f hok.e hok.f) ?_
    refine p_cpl rfl (u32_xor_nat 4294967295 v.e (by decide) hok.e) ?_
    refine p_atB (i := 6) (q := 6) ar8 rfl rfl rfl (by decide) rfl ?_
    refine t_load agg_u32 rfl (fun W h => Blk.at_ h.1 rfl) ?_
    refine p_and rfl rfl (u32_and_nat (4294967295 ^^^ v.e) v.g (xor_lt (by decide) hok.e) hok.g) ?_
    refine p_xor rfl rfl (u32_xor_nat _ _ (and_lt hok.e) (and_lt (xor_lt (by decide) hok.e))) ?_
    refine p_atB (i := i) (q := i) ar64 rfl rfl rfl hi64 (by omega) ?_
    refine t_load agg_u32 rfl (fun W h => h.2 i hi64) ?_
    refine cc is_turn (turn_any v.e 6 _ hok.e (by decide) (by decide)) ?_
    rintro e w' ⟨rfl, rfl⟩
    refine ⟨_, rfl, ⟨hB4.drew.drew, hR4⟩, ?_⟩
    refine cc is_turn (turn_any v.e 11 _ hok.e (by decide) (by decide)) ?_
    rintro e w' ⟨rfl, rfl⟩
    refine ⟨_, rfl, ⟨hB4.drew.drew, hR4⟩, ?_⟩
    refine p_xor rfl rfl (u32_xor_nat _ _ (rotr_lt _ hok.e) (rotr_lt _ hok.e)) ?_
    refine cc is_turn (turn_any v.e 25 _ hok.e (by decide) (by decide)) ?_
    rintro e w' ⟨rfl, rfl⟩
    refine ⟨_, rfl, ⟨hB4.drew.drew, hR4⟩, ?_⟩
    refine p_xor rfl rfl (u32_xor_nat _ _ (xor_lt (rotr_lt _ hok.e) (rotr_lt _ hok.e)) (rotr_lt _ hok.e)) ?_
    refine p_add rfl rfl (add32 v.h (bs1 v.e)) ?_
    refine p_add rfl rfl (add32 _ (chs v.e v.f v.g)) ?_
    refine p_add rfl rfl (add32 _ (roots.getD i 0)) ?_
    refine p_add rfl rfl (add32 _ ((words b).getD i 0)) ?_
    refine dr (fun W => Blk W g1 118 (hc v)) [(0, true), (2, true), (5, true), (8, true), (9, true), (10, true), (11, true), (12, true), (13, true), (14, true), (15, true), (16, true), (17, true), (18, true), (19, true), (20, true), (21, true), (22, true), (1, false), (3, false), (4, true), (6, false), (7, true), (23, true), (24, true)] (by kernel_rfl) hB4.drew.drew.drew ?_
    refine p_atB (i := 1) (q := 1) ar8 rfl rfl rfl (by decide) rfl ?_
    refine t_load agg_u32 rfl (fun W h => Blk.at_ h rfl) ?_
    refine p_and rfl rfl (u32_and_nat v.a v.b hok.a hok.b) ?_
    refine p_atB (i := 2) (q := 2) ar8 rfl rfl rfl (by decide) rfl ?_
    refine t_load agg_u32 rfl (fun W h => Blk.at_ h rfl) ?_
    refine p_and rfl rfl (u32_and_nat v.a v.c hok.a hok.c) ?_
    refine p_xor rfl rfl (u32_xor_nat _ _ (and_lt hok.a) (and_lt hok.a)) ?_
    refine p_atB (i := 1) (q := 1) ar8 rfl rfl rfl (by decide) rfl ?_
    refine t_load agg_u32 rfl (fun W h => Blk.at_ h rfl) ?_
    refine p_atB (i := 2) (q := 2) ar8 rfl rfl rfl (by decide) rfl ?_
    refine t_load agg_u32 rfl (fun W h => Blk.at_ h rfl) ?_
    refine p_and rfl rfl (u32_and_nat v.b v.c hok.b hok.c) ?_
    refine p_xor rfl rfl (u32_xor_nat _ _ (xor_lt (and_lt hok.a) (and_lt hok.a)) (and_lt hok.b)) ?_
    refine cc is_turn (turn_any v.a 2 _ hok.a (by decide) (by decide)) ?_
    rintro e w' ⟨rfl, rfl⟩
    refine ⟨_, rfl, hB4.drew.drew.drew, ?_⟩
    refine cc is_turn (turn_any v.a 13 _ hok.a (by decide) (by decide)) ?_
    rintro e w' ⟨rfl, rfl⟩
    refine ⟨_, rfl, hB4.drew.drew.drew, ?_⟩
    refine p_xor rfl rfl (u32_xor_nat _ _ (rotr_lt _ hok.a) (rotr_lt _ hok.a)) ?_
    refine cc is_turn (turn_any v.a 22 _ hok.a (by decide) (by decide)) ?_
    rintro e w' ⟨rfl, rfl⟩
    refine ⟨_, rfl, hB4.drew.drew.drew, ?_⟩
    refine p_xor rfl rfl (u32_xor_nat _ _ (xor_lt (rotr_lt _ hok.a) (rotr_lt _ hok.a)) (rotr_lt _ hok.a)) ?_
    refine p_add rfl rfl (add32 (bs0 v.a) (maj v.a v.b v.c)) ?_
    have hB7 := hB4.drew.drew.drew
    refine p_add rfl rfl (add32 (tt1 v (roots.getD i 0) ((words b).getD i 0)) (tt2 v)) ?_
    refine p_atB (i := 0) (q := 0) ar8 rfl rfl rfl (by decide) rfl ?_
    refine v_load agg_u32 rfl (hB7.at_ rfl) ?_
    refine p_atB (i := 1) (q := 1) ar8 rfl rfl rfl (by decide) rfl ?_
    refine v_load agg_u32 rfl (hB7.at_ rfl) ?_
    refine p_atB (i := 2) (q := 2) ar8 rfl rfl rfl (by decide) rfl ?_
    refine v_load agg_u32 rfl (hB7.at_ rfl) ?_
    refine p_atB (i := 3) (q := 3) ar8 rfl rfl rfl (by decide) rfl ?_
    refine v_load agg_u32 rfl (hB7.at_ rfl) ?_
    refine p_add rfl rfl (add32 v.d (tt1 v (roots.getD i 0) ((words b).getD i 0))) ?_
    refine p_atB (i := 4) (q := 4) ar8 rfl rfl rfl (by decide) rfl ?_
    refine v_load agg_u32 rfl (hB7.at_ rfl) ?_
    refine p_atB (i := 5) (q := 5) ar8 rfl rfl rfl (by decide) rfl ?_
    refine v_load agg_u32 rfl (hB7.at_ rfl) ?_
    refine p_atB (i := 6) (q := 6) ar8 rfl rfl rfl (by decide) rfl ?_
    refine v_load agg_u32 rfl (hB7.at_ rfl) ?_
    refine p_buildA (vs := hc (rnd v (roots.getD i 0) ((words b).getD i 0))) ar8 zero_a8 rfl ?_
    refine v_storeA (hc (rnd v (roots.getD i 0) ((words b).getD i 0))) sz_a8 rfl rfl rfl (by intro u hu; simp [hc] at hu; rcases hu with rfl | rfl | rfl | rfl | rfl | rfl | rfl | rfl <;> rfl) hB7 rfl ?_
    rintro W5 hB5 hg5 hs5
    refine p_add rfl rfl (r := ((i + 1 : Nat) : Int)) (w64 (by omega) |>.trans (by omega)) ?_
    refine ⟨i + 1, ⟨by omega, b4.drew.drew.drew.grown hg5 hs4 (fun k hk => by injection hk with hk; omega), ?_⟩, ⟨rfl, rfl, rfl, rfl, trivial⟩, by omega⟩
    show Blk W5 g1 118 (hc (rnd (rndF roots (words b) h i) (roots.getD i 0) ((words b).getD i 0)))
    rw [← hv]; exact hB5
  · have hi : i = 64 := by omega
    subst hi
    obtain ⟨v, hv⟩ : ∃ v, v = rndF roots (words b) h 64 := ⟨_, rfl⟩
    rw [← hv] at hB4 hok
    have hBg := hB.below b4
    have gr0 : w.grownBy W4 (some g) := ⟨b4.os, b4.tape, b4.output, b4.size, fun k hk _ => b4.block k hk⟩
    have hgg : g1 ≠ g := by omega
    refine lp Nat (fun i W => i ≤ 8 ∧ Blk W g 120 (hc (addF h v i) ++ R) ∧ Blk W g1 118 (hc v) ∧ w.grownBy W (some g)) (fun i => [(0, .pointer (some ⟨g, 0, none⟩)), (4, .pointer (some ⟨g1, 0, none⟩)), (99, .int .i64 i)]) (fun i => 8 - i) 0 ⟨by decide, hBg, hB4, gr0⟩ ⟨rfl, rfl, rfl, trivial⟩ ?_
    rintro i E1 W5 ⟨hi, hB5, hB6, gr5⟩
    refine p_lt rfl rfl (fun hlt => ?_) (fun hge => ?_)
    · have h8 : i = 0 ∨ i = 1 ∨ i = 2 ∨ i = 3 ∨ i = 4 ∨ i = 5 ∨ i = 6 ∨ i = 7 := by omega
      have hR5 := hB5.lt
      obtain ⟨o, n, hx, hy, hset⟩ : ∃ o n : Nat, (hc (addF h v i) ++ R)[i]? = some (cu o) ∧ (hc v)[i]? = some (cu n) ∧ (hc (addF h v i) ++ R).set i (cu ((o + n) % 4294967296)) = hc (addF h v (i + 1)) ++ R := by
        rcases h8 with rfl | rfl | rfl | rfl | rfl | rfl | rfl | rfl <;> exact ⟨_, _, rfl, rfl, rfl⟩
      refine dr (fun W => Blk W g1 118 (hc v)) [(0, true), (1, true), (2, true), (3, true), (4, true), (6, true), (7, true), (8, true), (10, true), (11, true), (5, false), (9, true), (12, true), (13, false)] (by kernel_rfl) hB6.drew ?_
      refine p_nil rfl ?_
      refine p_fld fd0 rfl ?_
      refine p_atB (o := 0) (i := i) (q := i) ar8 rfl rfl rfl (by omega) (by omega) ?_
      refine p_atB (i := i) (q := i) ar8 rfl rfl rfl (by omega) (by omega) ?_
      refine t_load agg_u32 rfl (fun W h => Blk.at_ h hy) ?_
      refine p_nil rfl ?_
      refine p_fld fd0 rfl ?_
      refine v_load agg_u32 rfl (hB5.drew.at_ hx) ?_
      refine ⟨hB6.drew, ?_⟩
      refine p_add rfl rfl (add32 o n) ?_
      refine p_atB (o := 0) (i := i) (q := i) ar8 rfl rfl rfl (by omega) (by omega) ?_
      refine v_set (cu ((o + n) % 4294967296)) sz_u32 hB5.drew rfl rfl rfl (by simp [hc]; omega) ?_
      rintro W6 hB7 hg7 hs7
      rw [hset] at hB7
      have hB8 := hB6.drew.grownN hg7 (fun e => hgg e.symm)
      refine ⟨hB8, ?_⟩
      refine p_add rfl rfl (r := ((i + 1 : Nat) : Int)) (w64 (by omega) |>.trans (by omega)) ?_
      exact ⟨i + 1, ⟨by omega, hB7, hB8, gtrans gr5 (gtrans gdrew hg7)⟩, ⟨rfl, rfl, rfl, trivial⟩, by omega⟩
    · have hi : i = 8 := by omega
      subst hi
      have e : take8 h b = addF h v 8 := by unfold take8; rw [← hv, add8_eq]
      rw [← e] at hB5
      exact ⟨⟨_, rfl⟩, hB5, gr5⟩
end Go.Proofs.YtejbljopighenaaDoor
namespace Go.Proofs.YtejbljopighenaaDoor
open Go.RowKit
section
variable {P : Program} {w : World}
theorem info_parts' {P : Program} {e : TypeId} {z : Value} {s b : Nat} (hi : (P.info? e).map (fun i => (i.zero, i.size, i.bytes)) = some (some z, s, b)) : ∃ i, P.info? e = some i ∧ i.zero = some z ∧ i.size = s ∧ i.bytes = b := by
  obtain ⟨i, h1, h2⟩ := Option.map_eq_some_iff.1 hi
  simp only [Prod.mk.injEq] at h2
  exact ⟨i, h1, h2.1, h2.2.1, h2.2.2⟩
theorem run_append_zero {t ty e : TypeId} {i : TypeInfo} (ht : P.underlying t = some (.slice e)) (hi : P.info? e = some i) (A A2 : Option Addr) (n c c2 : Nat) (hnc : n ≤ c) :
    (Builtin.append_ #[t, t] ty #[.slice A n c, .slice A2 0 c2]).run P w = .ok (.slice A n c) w := by
  have hz : ∀ (A3 : Option Addr) (w : World), (Builtin.firstCells i.size 0 (.slice A3 0 c2)).run P w = .ok #[] w := by
    intro A3 w
    cases A3 with
    | none => simp [Builtin.firstCells]
    | some ad => exact run_firstCells_some (P := P) w i.size 0 ad 0 c2 [] (by simp) (by simp)
  cases A with
  | none => 
    cases A2 with
    | none => simp [Builtin.append_, run_underlying ht, sizeOf, typeInfo, hi, Builtin.lenOf, Builtin.firstCells, hnc]
    | some ad => simp [Builtin.append_, run_underlying ht, sizeOf, typeInfo, hi, Builtin.lenOf, hz, hnc]
  | some b =>
    cases A2 with
    | none => simp [Builtin.append_, run_underlying ht, sizeOf, typeInfo, hi, Builtin.lenOf, Builtin.firstCells, hnc, storeCells]
    | some ad => simp [Builtin.append_, run_underlying ht, sizeOf, typeInfo, hi, Builtin.lenOf, hz, hnc, storeCells]
theorem run_append_full {t ty e : TypeId} {i : TypeInfo} {z : Value} {size bytes : Nat} (ht : P.underlying t = some (.slice e)) (hi : P.info? e = some i) (hz : i.zero = some z) (hsize : i.size = size) (hby : i.bytes = bytes) (hzs : z.cells.size = size)
    {A A2 : Option Addr} {n m c2 B B2 : Nat} {olds news : List Value} (ho : Reads w B size A n olds) (hr : Reads w B2 size A2 m news) (hA : A = none → n = 0) (hm : 0 < m) (h63 : n + m ≤ maxLen) (hbytes : (n + m) * bytes ≤ 140737488355328) :
    ∃ c' w', (Builtin.append_ #[t, t] ty #[.slice A n n, .slice A2 m c2]).run P w = .ok (.slice (some ⟨w.heap.size, 0, none⟩) (n + m) c') w' ∧
      w'.ownsRow w.heap.size e size (.slice (some ⟨w.heap.size, 0, none⟩) (n + m) c') (n + m) (olds ++ news) ∧ Below w.heap.size w w' ∧ w'.heap.size = w.heap.size + 1 := by
  subst hsize
  subst hby
  obtain ⟨b2, off2, rfl, _, hn⟩ := hr.2 hm
  have hnews : ∀ j u, news[j]? = some u → w.cell? ((⟨b2, off2, none⟩ : Addr).add j) = some u := fun j u hu => by rw [Addr.add_lit]; exact hn j u hu
  have hsmall : n + m ≤ 9223372036854775807 := by simp only [maxLen] at h63; omega
  have hlen : (olds ++ news).length = (n + m) * i.size := by rw [List.length_append, ho.1, hr.1, Nat.add_mul]
  have own : ∀ old : Nat, old < n + m → (w.drew.alloc (.cells (olds.toArray ++ news.toArray ++ Builtin.zeroCells z.cells (grownCap w (n + m) old e - (n + m))) e)).ownsRow w.heap.size e i.size
        (.slice (some ⟨w.heap.size, 0, none⟩) (n + m) (grownCap w (n + m) old e)) (n + m) (olds ++ news) := by
    intro old hold
    have hge := grownCap_ge w (n + m) old e
    have hcm : grownCap w (n + m) old e ≤ maxLen := grownCap_le_maxLen w (n + m) old e h63
    refine ⟨hlen, .inr ⟨w.heap.size, _, _, rfl, Nat.le_refl _, heap_alloc_new w.drew _, hge, hcm, ?_, ?_⟩⟩
    · simp only [Array.size_append, List.size_toArray, size_zeroCells, hzs, ho.1, hr.1, ← Nat.add_mul]
      congr 1
      omega
    · simp only [Array.toList_append, List.append_assoc]
      rw [← List.append_assoc, ← hlen]
      exact List.take_left
  cases A with
  | none =>
    have hn0 := hA rfl
    subst hn0
    have he : olds = [] := List.eq_nil_of_length_eq_zero (by simpa using ho.1)
    subst he
    have hr := run_append_nil (P := P) w t ty e i z ht hi hz ⟨b2, off2, none⟩ m c2 news hr.1 hnews hm (by omega) (by have hb := hbytes; simp only [Nat.zero_add] at hb; omega)
    have hgr := own 0 (by omega)
    simp only [Nat.zero_add, List.nil_append, Array.empty_append] at hgr ⊢
    exact ⟨_, _, hr, hgr, (Below.refl _ _).drew.alloc (Nat.le_refl _) _, by simp⟩
  | some b =>
    have holds : ∀ j u, olds[j]? = some u → w.cell? (b.add j) = some u := by
      intro j u hu
      rcases Nat.eq_zero_or_pos n with h0 | h0
      · subst h0
        have he : olds = [] := List.eq_nil_of_length_eq_zero (by simpa using ho.1)
        subst he; simp at hu
      · obtain ⟨b1, off1, e1, _, h1⟩ := ho.2 h0
        injection e1 with e1; subst e1
        rw [Addr.add_lit]; exact h1 j u hu
    have hr := run_append_grow (P := P) w t ty e i z ht hi hz b n n olds ho.1 holds ⟨b2, off2, none⟩ m c2 news hr.1 hnews (by omega) (by omega) (growslice_fits (by omega) hbytes)
    exact ⟨_, _, hr, own n (by omega), (Below.refl _ _).drew.alloc (Nat.le_refl _) _, by simp⟩
end
end Go.Proofs.YtejbljopighenaaDoor
namespace Go.Proofs.YtejbljopighenaaDoor
open Go.RowKit

theorem blocksF_snoc : ∀ (n : Nat) (h : H8) (b : List UInt8), blocksF h (n + 1) b = take8 (blocksF h n b) ((b.drop (64 * n)).take 64)
  | 0, h, b => by simp [blocksF]
  | n + 1, h, b => by
    have := blocksF_snoc n (take8 h (b.take 64)) (b.drop 64)
    rw [blocksF, this, blocksF, List.drop_drop, show 64 + 64 * n = 64 * (n + 1) by omega]
theorem blocksF_app : ∀ (n : Nat) (h : H8) (b c : List UInt8), 64 * n ≤ b.length → blocksF h n (b ++ c) = blocksF h n b
  | 0, h, b, c, _ => rfl
  | n + 1, h, b, c, hl => by
    rw [blocksF, blocksF, List.take_append_of_le_length (by omega), List.drop_append_of_le_length (by omega), blocksF_app n _ _ _ (by rw [List.length_drop]; omega)]
theorem blocksF_ok : ∀ (n : Nat) (h : H8) (b : List UInt8), h.Ok → (blocksF h n b).Ok
  | 0, h, b, ho => ho
  | n + 1, h, b, ho => blocksF_ok n _ _ (add8_ok _ _)
theorem begin8_ok : begin8.Ok := by constructor <;> decide

/-- The package's tables. -/
structure GL (W : World) (gs : List (Option Nat)) : Prop where
  roots : rootsAt W
  begin : ∀ j v, (hc begin8)[j]? = some v → W.cell? ⟨0, j, none⟩ = some v
  size : 2 ≤ W.heap.size
  out0 : some 0 ∉ gs
  out1 : some 1 ∉ gs
theorem GL.up {W W' : World} {gs gs' : List (Option Nat)} (h : GL W gs) (s : Stp W gs W' gs') : GL W' gs' :=
  ⟨fun j hj => (World.cell?_of_block (w := W) (a := ⟨1, j, none⟩) (s.block 1 h.size h.out1)).trans (h.roots j hj),
   fun j v hv => (World.cell?_of_block (w := W) (a := ⟨0, j, none⟩) (s.block 0 (by have := h.size; omega) h.out0)).trans (h.begin j v hv),
   Nat.le_trans h.size s.size, fun e => h.out0 (s.own 0 (by have := h.size; omega) e), fun e => h.out1 (s.own 1 h.size e)⟩
/-- A Digest to which all this was written. -/
def Dg (W : World) (gs : List (Option Nat)) (g : Nat) (all : List UInt8) : Prop :=
  ∃ A c, Blk W g 120 (hc (blocksF begin8 (all.length / 64) all) ++ [.slice A (all.length % 64) c, .int .i64 all.length]) ∧
    RdD W (Fd W gs) (dB (all.drop (64 * (all.length / 64)))) (.slice A (all.length % 64) c) ∧ some g ∈ gs
theorem Dg.up {W W' : World} {gs gs' : List (Option Nat)} {g : Nat} {all : List UInt8} (h : Dg W gs g all) (s : Stp W gs W' gs') (hg : W'.heap[g]? = W.heap[g]?) (hm : some g ∈ gs') : Dg W' gs' g all := by
  obtain ⟨A, c, h1, h2, h4⟩ := h
  exact ⟨A, c, hg.trans h1, h2.up s, hm⟩
theorem Dg.below {W W' : World} {gs : List (Option Nat)} {g : Nat} {all : List UInt8} (h : Dg W gs g all) (hb : Below W.heap.size W W') : Dg W' gs g all := by
  obtain ⟨A, c, h1, h2, h4⟩ := h
  exact ⟨A, c, h1.below hb, h2.up (Stp.below hb), h4⟩

section
variable {E : Env} {d : Option Nat} {ty : TypeId} {p : String} {af : Array Edge} {g : Option (Nat × Bool)} {x y z : Operand} {kw : Value → World → Prop} {w : World}
/-- append of bytes onto bytes that are full. -/
theorem v_appFull {n m c2 B B2 : Nat} {A A2 : Option Addr} {l l2 : List UInt8} (hx : val E x = .slice A n n) (ho : Rd w B A n l) (hA : A = none → n = 0) (hy : val E y = .slice A2 m c2) (hr : Rd w B2 A2 m l2) (hsz : n + m ≤ 1000000000000)
    (h : ∀ A' c' w', Below w.heap.size w w' → (A' = none → n + m = 0) → n + m ≤ c' → (A' = A ∧ m = 0 ∧ w' = w ∨ Own w' w.heap.size A' (n + m) c' (l ++ l2)) → kw (.slice A' (n + m) c') w') :
    VVal Tryd.prog E { dst := d, op := .call { callee := .builtin .append, args := #[x, y], argTypes := #[22, 22] }, type := ty, pos := p, after := af, guard := g } w kw := by
  obtain ⟨i, hi, hz, hs1, hs2⟩ := info_parts' u8info
  rcases Nat.eq_zero_or_pos m with hm | hm
  · subst hm
    refine vv (v := .slice A n n) (w' := w) ?_ (h A n w (Below.refl _ _) hA (Nat.le_refl _) (.inl ⟨rfl, rfl, rfl⟩))
    simp [execOp, resolve, invoke, builtin, hx, hy, run_append_zero (P := Tryd.prog) (w := w) Tryd.underlying22 hi A A2 n n c2 (Nat.le_refl _)]
  · obtain ⟨c', w', hrun, h1, h2, h3⟩ := run_append_full (P := Tryd.prog) (w := w) (c2 := c2) (ty := ty) Tryd.underlying22 hi hz hs1 hs2 rfl ho hr hA hm (by unfold maxLen; omega) (by omega)
    refine vv (v := .slice (some ⟨w.heap.size, 0, none⟩) (n + m) c') (w' := w') ?_ (h _ c' w' h2 (fun e => by cases e) ?_ (.inr ?_))
    · simp [execOp, resolve, invoke, builtin, hx, hy, hrun]
    · rcases h1.2 with ⟨hv, _⟩ | ⟨g, cap, cur, hv, _, _, hc, _⟩
      · cases hv
      · injection hv with _ _ e; omega
    · unfold Own; rw [bvs_append]; exact h1
end
theorem ptrD : isPtr Tryd.prog 100 = true := by kernel_rfl
theorem sz_i : (Tryd.prog.info? 3).map (·.size) = some 1 := by kernel_rfl
theorem sz_sl : (Tryd.prog.info? 22).map (·.size) = some 1 := by kernel_rfl
set_option maxRecDepth 100000 in
theorem write_any (gs : List (Option Nat)) (g c : Nat) (A : Option Addr) (n : Nat) (l all : List UInt8) (w : World) (hgs : ∀ b, some b ∈ gs → b < w.heap.size) (hG : GL w gs) (hD : Dg w gs g all) (hr : RdD w (Fd w gs) (dB l) (.slice A n c)) (hs : all.length + l.length ≤ 100000000000) (hg2' : 2 ≤ g) :
    Calls Tryd.prog 55 #[.pointer (some ⟨g, 0, none⟩), .slice A n c] w fun e w' => (∃ v, e = .returned v) ∧ w.grownBy w' (some g) ∧ Dg w' gs g (all ++ l) := by
  refine calls_ev (args := [.pointer (some ⟨g, 0, none⟩), .slice A n c]) mixed Tryd.func55 rfl (by kernel_rfl) ?_
  obtain ⟨A0, c0, hB, hR, hg⟩ := hD
  have hN := fun h => hR.none0 (A := A0) h
  have hok := blocksF_ok (all.length / 64) begin8 all begin8_ok
  have h3 : (hc (blocksF begin8 (all.length / 64) all)).length = 8 := rfl
  generalize hH : blocksF begin8 (all.length / 64) all = h at *
  refine p_peq ptrD rfl rfl ?_
  refine p_nil rfl ?_
  refine p_fld fd2 rfl ?_
  refine v_load agg_int rfl (hB.at_ rfl) ?_
  obtain ⟨A1, c1, e1, hc1, hrl⟩ := hr.rdB
  injection e1 with e1 e2 e3
  subst e1; subst e2; subst e3
  refine p_len slb rfl ?_
  refine p_add rfl rfl (r := ((all.length + l.length : Nat) : Int)) (w64 (by omega) |>.trans (by omega)) ?_
  refine p_nil rfl ?_
  refine p_fld fd2 rfl ?_
  refine v_set (.int .i64 ((all.length + l.length : Nat) : Int)) sz_i hB rfl rfl rfl (by show 9 < 10; decide) ?_
  rintro W1 hB1 hg1 hs1
  replace hB1 : Blk W1 g 120 (hc h ++ [.slice A0 (all.length % 64) c0, .int .i64 ((all.length + l.length : Nat) : Int)]) := hB1
  have s1 : Stp w gs W1 gs := Stp.wrote hg1 hg
  have hR1 := hR.up s1
  have hr1 := hr.up s1
  refine drZ 20 (fun W => Blk W g 120 (hc h ++ [.slice A0 (all.length % 64) c0, .int .i64 ((all.length + l.length : Nat) : Int)])) [(0, true), (1, true), (2, true), (3, true), (4, true), (5, true), (6, true), (7, true), (8, true), (9, true), (10, true), (11, true), (12, true), (13, true), (14, true), (15, true), (16, true), (17, false), (18, true), (19, true)] (by kernel_rfl) hB1.drew ?_
  refine p_nil rfl ?_
  refine p_fld fd1 rfl ?_
  refine t_load agg_b rfl (fun W h => Blk.at_ h rfl) ?_
  refine p_nil rfl ?_
  refine p_fld fd1 rfl ?_
  refine t_load agg_b rfl (fun W h => Blk.at_ h rfl) ?_
  refine p_len slb rfl ?_
  refine p_nil rfl ?_
  refine p_fld fd1 rfl ?_
  refine t_load agg_b rfl (fun W h => Blk.at_ h rfl) ?_
  refine p_len slb rfl ?_
  refine p_slice (i := 0) (j := all.length % 64) (m := all.length % 64) slb rfl rfl (bnd_i rfl) (bnd_i rfl) rfl (by omega) (Nat.le_refl _) ?_ ?_
  · obtain ⟨A', c', e1, e2, _⟩ := hR.open_
    injection e1 with _ _ e1
    omega
  rw [slA0, Nat.sub_zero]
  obtain ⟨A', c', e1, e2, hrd⟩ := hR1.rdB
  injection e1 with e1 e3 _
  rw [← e3] at hrd
  subst e1
  obtain ⟨_, _, e4, _, hrl1⟩ := hr1.rdB
  injection e4 with e4 _ _
  subst e4
  clear e2 e3 hrl
  refine v_appFull rfl hrd.drew hN rfl hrl1.drew (by omega) ?_
  rintro A2 c2 W2 b2 hn2 hc2 hcase
  have hB2 := hB1.drew.below b2
  refine ⟨hB2, ?_⟩
  refine p_nil rfl ?_
  refine p_fld fd1 rfl ?_
  refine v_set (.slice A2 (all.length % 64 + l.length) c2) sz_sl hB2 rfl rfl rfl (by show 8 < 10; decide) ?_
  rintro W3 hB3 hg3 hs3
  replace hB3 : Blk W3 g 120 (hc h ++ [.slice A2 (all.length % 64 + l.length) c2, .int .i64 ((all.length + l.length : Nat) : Int)]) := hB3
  have s2 : Stp W1 gs W2 gs := Stp.drew.trans (Stp.below b2)
  have s3 : Stp W2 gs W3 gs := Stp.wrote hg3 hg
  have hR3 : RdD W3 (Fd W3 gs) (dB (all.drop (64 * (all.length / 64)) ++ l)) (.slice A2 (all.length % 64 + l.length) c2) := by
    refine RdD.up ?_ s3
    rcases hcase with ⟨rfl, hm, rfl⟩ | ho
    · have : l = [] := List.eq_nil_of_length_eq_zero hm
      subst this
      rw [List.append_nil, List.length_nil, Nat.add_zero]
      rw [List.length_nil, Nat.add_zero] at hc2
      exact (hR1.cap hc2).up Stp.drew
    · exact ho.frB fun b h1 h2 _ => ⟨h2, fun e => by have := hgs b e; have := s1.size; have e5 : W1.drew.heap.size = W1.heap.size := rfl; omega⟩
  have hgl := hB.lt
  have hdm : 64 * (all.length / 64) + all.length % 64 = all.length := Nat.div_add_mod _ _
  clear hB hR hN hB1 hR1 hr1 hr hrd hrl1 hcase hB2 hn2
  obtain ⟨N, hN⟩ : ∃ N, N = (all ++ l).length := ⟨_, rfl⟩
  have hN' : N = all.length + l.length := by rw [hN, List.length_append]
  have g3 : w.grownBy W3 (some g) := gtrans hg1 (gtrans gdrew (gtrans (gbelow b2) hg3))
  have e0 : 64 * (all.length / 64) + (all.length % 64 + l.length) = N := by omega
  refine lp (Nat × Option Addr × Nat) (fun s W => 64 * s.1 ≤ N ∧ w.grownBy W (some g) ∧ Blk W g 120 (hc (blocksF begin8 s.1 (all ++ l)) ++ [.slice s.2.1 (N - 64 * s.1) s.2.2, .int .i64 (N : Int)]) ∧ RdD W (Fd W gs) (dB ((all ++ l).drop (64 * s.1))) (.slice s.2.1 (N - 64 * s.1) s.2.2))
    (fun s => [(0, .pointer (some ⟨g, 0, none⟩))]) (fun s => N - 64 * s.1) (all.length / 64, A2, c2) ⟨by dsimp only; omega, g3, ?_, ?_⟩ ⟨rfl, trivial⟩ ?_
  · dsimp only
    rw [blocksF_app _ _ _ _ (by omega), hH, show N - 64 * (all.length / 64) = all.length % 64 + l.length by omega, hN']
    exact hB3
  · dsimp only
    rw [List.drop_append_of_le_length (by omega), show N - 64 * (all.length / 64) = all.length % 64 + l.length by omega]
    exact hR3
  clear hB3 hR3 g3
  rintro ⟨i, A4, c4⟩ E0 W4 ⟨hi, g4, hB4, hR4⟩
  dsimp only at hi hB4 hR4
  have hoki := blocksF_ok i begin8 (all ++ l) begin8_ok
  generalize hHi : blocksF begin8 i (all ++ l) = hi' at *
  have hgs4 : ∀ b, some b ∈ gs → b < W4.heap.size := fun b e => by have := hgs b e; have := g4.size; omega
  have s4 : Stp w gs W4 gs := Stp.wrote g4 hg
  refine p_nil rfl ?_
  refine p_fld fd1 rfl ?_
  refine v_load agg_b rfl (hB4.at_ rfl) ?_
  refine p_len slb rfl ?_
  refine p_ge rfl rfl (fun hge => ?_) (fun hlt => ?_)
  · have hcap := hR4.scap
    refine p_nil rfl ?_
    refine p_fld fd1 rfl ?_
    refine v_load agg_b rfl (hB4.at_ rfl) ?_
    refine p_slice (i := 0) (j := 64) (m := c4) slb rfl rfl (bnd_i (kd := .i64) rfl) rfl rfl (by omega) (by omega) (Nat.le_refl _) ?_
    rw [slA0, Nat.sub_zero, Nat.sub_zero]
    obtain ⟨q1, q2, hrd⟩ := hR4.rd Fd.lt
    have hrt : Rd W4 W4.heap.size A4 64 (((all ++ l).drop (64 * i)).take 64) := hrd.take (by omega)
    have hR4' : GL W4 gs := hG.up s4
    refine cc is_take (take_any g c4 A4 _ _ _ _ hoki hrt hB4 hR4'.roots hg2') ?_
    rintro e W5 ⟨⟨v, rfl⟩, hB5, g5⟩
    refine ⟨_, rfl, ?_⟩
    have s5 : Stp W4 gs W5 gs := Stp.wrote g5 hg
    have hR5 := hR4.up s5
    refine p_nil rfl ?_
    refine p_fld fd1 rfl ?_
    refine v_load agg_b rfl (hB5.at_ rfl) ?_
    refine p_slice (i := 64) (j := N - 64 * i) (m := c4) slb rfl (bnd_i (kd := .i64) rfl) rfl rfl rfl (by omega) (by omega) (Nat.le_refl _) ?_
    have hR6 := hR5.cut (i := 64) (j := N - 64 * i) (m := c4) (by omega) (by omega) (by omega)
    refine p_nil rfl ?_
    refine p_fld fd1 rfl ?_
    refine v_set (.slice (slA A4 c4 64 1) (N - 64 * i - 64) (c4 - 64)) sz_sl hB5 rfl rfl rfl (by show 8 < 10; decide) ?_
    rintro W6 hB6 g6 hs6
    refine ⟨(i + 1, slA A4 c4 64 1, c4 - 64), ⟨by dsimp only; omega, gtrans g4 (gtrans g5 g6), ?_, ?_⟩, ⟨rfl, trivial⟩, by dsimp only; omega⟩
    · dsimp only
      rw [blocksF_snoc, hHi, show N - 64 * (i + 1) = N - 64 * i - 64 by omega]
      exact hB6
    · dsimp only
      have e : dB ((all ++ l).drop (64 * (i + 1))) = D.sl 1 (N - 64 * i - 64) (((((bvs ((all ++ l).drop (64 * i))).map D.v).drop (64 * 1)).take ((N - 64 * i - 64) * 1))) := by
        unfold dB
        rw [List.length_drop, ← hN, show N - 64 * (i + 1) = N - 64 * i - 64 by omega, Nat.mul_one, Nat.mul_one, ← List.map_drop, ← bvs_drop, List.drop_drop, show 64 * i + 64 = 64 * (i + 1) by omega, List.take_of_length_le]
        rw [List.length_map, bvs_length, List.length_drop, ← hN]; omega
      rw [show N - 64 * (i + 1) = N - 64 * i - 64 by omega, e]
      exact hR6.up (Stp.wrote g6 hg)
  · have e : (all ++ l).length / 64 = i := by rw [← hN]; omega
    have e2 : (all ++ l).length % 64 = N - 64 * i := by rw [← hN]; omega
    refine ⟨⟨_, rfl⟩, g4, A4, c4, ?_, ?_, hg⟩
    · rw [e, e2, hHi, ← hN]; exact hB4
    · rw [e, e2]; exact hR4
end Go.Proofs.YtejbljopighenaaDoor
namespace Go.Proofs.YtejbljopighenaaDoor
open Go.RowKit
theorem pl_dig : placesOf Tryd.prog 120 = some [(0, 8), (8, 1), (9, 1)] := by kernel_rfl
theorem z_dig : zeroOf Tryd.prog 120 = some (hc ⟨0, 0, 0, 0, 0, 0, 0, 0⟩ ++ [.slice none 0 0, .int .i64 0]) := by kernel_rfl
theorem al_dig : (Tryd.prog.info? 120).map (fun i => i.zero.map fun z => z.cells.toList) = some (some (hc ⟨0, 0, 0, 0, 0, 0, 0, 0⟩ ++ [.slice none 0 0, .int .i64 0])) := by kernel_rfl
theorem sz_dig : (Tryd.prog.info? 120).map (·.size) = some 10 := by kernel_rfl
theorem agg_dig : aggOf Tryd.prog 120 = some (true, 10) := by kernel_rfl
theorem is_new : isFn Tryd.prog 54 = true := by kernel_rfl
theorem is_write : isFn Tryd.prog 55 = true := by kernel_rfl
theorem is_dsum : isFn Tryd.prog 56 = true := by kernel_rfl
set_option maxRecDepth 100000 in
theorem new_any (gs : List (Option Nat)) (w : World) (hG : GL w gs) :
    Calls Tryd.prog 54 #[] w fun e w' => ∃ g, e = .returned (.pointer (some ⟨g, 0, none⟩)) ∧ g = w.heap.size ∧ Below w.heap.size w w' ∧ w'.heap.size = g + 1 ∧ Dg w' (some g :: gs) g [] := by
  refine calls_ev (args := []) mixed Tryd.func54 rfl (by kernel_rfl) ?_
  refine v_loadN (hc begin8) agg_a8 rfl rfl (fun j v hj => by rw [Addr.add_lit, Nat.zero_add]; exact hG.begin j v hj) ?_
  refine p_build (vs := hc begin8 ++ [.slice none 0 0, .int .i64 0]) pl_dig z_dig rfl ?_
  refine v_boxB (hc begin8 ++ [.slice none 0 0, .int .i64 0]) rfl ?_
  rintro g w' hg hB hb hs
  refine ⟨g, rfl, hg, hg ▸ hb, hs, none, 0, hB, ?_, by simp⟩
  exact RdD.nil_ _ _
/-- Eight bytes of a number, the first j of them. -/
def tailF (x j : Nat) : List UInt8 := (List.range j).map fun q => UInt8.ofNat (x >>> (56 - 8 * q))
theorem tailF_snoc (x j : Nat) : tailF x (j + 1) = tailF x j ++ [UInt8.ofNat (x >>> (56 - 8 * j))] := by unfold tailF; rw [List.range_succ, List.map_append]; rfl
theorem wrap8 (x : Nat) : IntKind.u8.wrap ((x : Nat) : Int) = ((x % 256 : Nat) : Int) := by rw [IntKind.wrap_u8']; omega
theorem shr64 {x n : Nat} (hn : n ≤ 64) : (x : Int).fdiv (2 ^ (min ((n : Nat) : Int).toNat 64)) = ((x >>> n : Nat) : Int) := by
  rw [Int.toNat_natCast, Nat.min_eq_left (by omega), Nat.shiftRight_eq_div_pow, Int.fdiv_eq_ediv_of_nonneg _ (Int.le_of_lt (Int.pow_pos (by decide))), Int.natCast_ediv, Int.natCast_pow]
  rfl
theorem tmod64 (a : Nat) : ((a : Nat) : Int).tmod 64 = ((a % 64 : Nat) : Int) := by rw [Int.tmod_eq_emod_of_nonneg (by omega)]; omega
theorem u_u32' : (Tryd.prog.underlying 104).isSome = true := by kernel_rfl
theorem u_u64' : (Tryd.prog.underlying 66).isSome = true := by kernel_rfl
set_option maxRecDepth 100000 in
theorem dsum_any (gs : List (Option Nat)) (g : Nat) (all : List UInt8) (w : World) (hgs : ∀ b, some b ∈ gs → b < w.heap.size) (hG : GL w gs) (hD : Dg w gs g all) (hs : all.length ≤ 10000000000) :
    Calls Tryd.prog 56 #[.pointer (some ⟨g, 0, none⟩)] w fun e w' => ∃ A c, e = .returned (.slice A 32 c) ∧ Own w' w.heap.size A 32 c (sha all) ∧ Below w.heap.size w w' := by
  refine calls_ev (args := [.pointer (some ⟨g, 0, none⟩)]) mixed Tryd.func56 rfl (by kernel_rfl) ?_
  obtain ⟨A, c, hB, hR, hg⟩ := hD
  refine p_peq ptrD rfl rfl ?_
  refine p_nil rfl ?_
  refine v_loadN (hc (blocksF begin8 (all.length / 64) all) ++ [.slice A (all.length % 64) c, .int .i64 all.length]) agg_dig rfl rfl (hB.run 0 _ (fun j v hj => by rw [Nat.zero_add]; exact hj)) ?_
  refine v_allocB _ al_dig ?_
  rintro x W1 hx hB1 hb1 hs1
  refine v_storeA (hc (blocksF begin8 (all.length / 64) all) ++ [.slice A (all.length % 64) c, .int .i64 all.length]) sz_dig rfl rfl rfl (by intro u hu; simp [hc] at hu; rcases hu with rfl | rfl | rfl | rfl | rfl | rfl | rfl | rfl | rfl | rfl <;> rfl) hB1 rfl ?_
  rintro W2 hB2 hg2 hs2
  have C2 : Below w.heap.size w W2 := by rw [← hx] at *; exact hb1.grown hg2 (by omega) (fun k hk => by injection hk with hk; omega)
  have s2 : Stp w gs W2 (some x :: gs) := Stp.new C2 (fun b e => by injection e with e; omega)
  have hD2 : Dg W2 (some x :: gs) x all := ⟨A, c, hB2, hR.up s2, by simp⟩
  have hG2 := hG.up s2
  clear hB hR hB1 hB2 hb1 hg2
  have A2 : At w W2 (some x :: gs) := (At.start hgs).new C2 (fun b e => by injection e with e; omega)
  have s2' : Stp W2 (some x :: gs) W2 (none :: some x :: gs) := Stp.new (Below.refl _ _) (fun b e => by cases e)
  have A2' : At w W2 (none :: some x :: gs) := A2.new (Below.refl _ _) (fun b e => by cases e)
  have hxl : x < W2.heap.size := by omega
  replace hD2 : Dg W2 (none :: some x :: gs) x all := hD2.up s2' rfl (by simp)
  replace hG2 := hG2.up s2'
  refine v_litB [.int .u8 128] [128] (by decide) rfl rfl rfl A2' ?_
  rintro g3 W3 hg3 o3 s3 A3 b3 hs3
  refine v_appS (A := none) rfl (Own.nil_ W3 w.heap.size) rfl o3.rd (by decide) A3 ?_
  rintro A4 c4 W4 o4 s4 A4' - h4
  have hD4 : Dg W4 (bk A4 :: some x :: gs) x all := ((hD2.below b3).up s4 (h4.block x (by omega) (by simp [bk])) (by simp))
  have hG4 := (hG2.up s3).up s4
  clear hD2 hG2 s3 s4 o3
  refine lp (Nat × Option Addr × Nat) (fun s W => s.1 ≤ (119 - all.length % 64) % 64 ∧ Own W w.heap.size s.2.1 (1 + s.1) s.2.2 (128 :: List.replicate s.1 0) ∧ At w W (bk s.2.1 :: some x :: gs) ∧ Dg W (bk s.2.1 :: some x :: gs) x all ∧ GL W (bk s.2.1 :: some x :: gs) ∧ x < W.heap.size)
    (fun s => [(3, .pointer (some ⟨x, 0, none⟩)), (4, .slice s.2.1 (1 + s.1) s.2.2)]) (fun s => 64 - s.1) (0, A4, c4) ⟨Nat.zero_le _, o4, A4', hD4, hG4, by have := h4.size; omega⟩ ⟨rfl, rfl, trivial⟩ ?_
  clear hD4 hG4 A4' o4 h4
  rintro ⟨k, A5, c5⟩ E0 W5 ⟨hk, o5, A5', hD5, hG5, hx5⟩
  dsimp only at hk o5 A5' hD5 hG5
  have hD5' := hD5
  obtain ⟨A6, c6, hB5, hR5, _⟩ := hD5'
  refine p_fld fd2 rfl ?_
  refine v_load agg_int rfl (hB5.at_ rfl) ?_
  refine p_len slb rfl ?_
  refine p_add rfl rfl (r := ((all.length + (1 + k) : Nat) : Int)) (w64 (by omega) |>.trans (by omega)) ?_
  refine p_add rfl rfl (r := ((all.length + (1 + k) + 8 : Nat) : Int)) (w64 (by omega) |>.trans (by omega)) ?_
  refine p_rem rfl rfl (by decide) (r := (((all.length + (1 + k) + 8) % 64 : Nat) : Int)) (tmod64 _) ?_
  refine p_ne rfl rfl (fun h0 => ?_) (fun h0 => ?_)
  rotate_left
  · refine v_litB [.int .u8 0] [0] (by decide) rfl rfl rfl A5' ?_
    rintro g6 W6 hg6 o6 s6 A6' b6 hs6
    refine v_appS rfl (o5.below b6) rfl o6.rd (by omega) A6' ?_
    rintro A7 c7 W7 o7 s7 A7' - h7
    refine ⟨(k + 1, A7, c7), ⟨by dsimp only; omega, by rw [← Nat.add_assoc, List.replicate_succ', ← List.cons_append]; exact o7, A7', ((hD5.below b6).up s7 (h7.block x (by omega) ?_) (by simp)), (hG5.up s6).up s7, by have := h7.size; omega⟩, ⟨rfl, rfl, trivial⟩, by dsimp only; omega⟩
    exact fun e => (o5.below b6).ne_blk (hB5.below b6) (by decide) e.symm
  have hkK : k = (119 - all.length % 64) % 64 := by omega
  have l5 := o5.len
  refine p_fld fd2 rfl ?_
  refine v_load agg_int rfl (hB5.at_ rfl) ?_
  refine v_cvt u_int u_u64 rfl (wu64 (by omega)) ?_
  refine p_mul rfl rfl (r := ((8 * all.length : Nat) : Int)) ((wu64 (by omega)).trans (by omega)) ?_
  refine lp (Nat × Option Addr × Nat) (fun s W => s.1 ≤ 8 ∧ Own W w.heap.size s.2.1 (1 + k + s.1) s.2.2 ((128 :: List.replicate k 0) ++ tailF (8 * all.length) s.1) ∧ At w W (bk s.2.1 :: some x :: gs) ∧ Dg W (bk s.2.1 :: some x :: gs) x all ∧ GL W (bk s.2.1 :: some x :: gs) ∧ x < W.heap.size)
    (fun s => [(3, .pointer (some ⟨x, 0, none⟩)), (4, .slice s.2.1 (1 + k + s.1) s.2.2), (5, .int .u64 ((8 * all.length : Nat) : Int)), (6, .int .i64 (56 - 8 * s.1))]) (fun s => 9 - s.1) (0, A5, c5) ⟨Nat.zero_le _, by simpa [tailF] using o5, A5', hD5, hG5, hx5⟩ ⟨rfl, rfl, rfl, rfl, trivial⟩ ?_
  clear hB5 hR5 o5 A5' hD5 hG5 hx5
  rintro ⟨j, A8, c8⟩ E1 W8 ⟨hj, o8, A8', hD8, hG8, hx8⟩
  dsimp only at hj o8 A8' hD8 hG8
  refine p_ge rfl rfl (fun hge => ?_) (fun hlt => ?_)
  · refine p_shr rfl rfl (by omega) (r := (((8 * all.length) >>> (56 - 8 * j) : Nat) : Int)) ?_ ?_
    · rw [show (56 : Int) - 8 * j = ((56 - 8 * j : Nat) : Int) by omega]
      exact shr64 (by omega)
    refine v_cvt u_u64' u_u8 rfl (wrap8 _) ?_
    refine v_litB _ [UInt8.ofNat ((8 * all.length) >>> (56 - 8 * j))] (by decide) rfl (bvs1 _) rfl A8' ?_
    rintro g9 W9 hg9 o9 s9 A9' b9 hs9
    refine v_appS rfl (o8.below b9) rfl o9.rd (by omega) A9' ?_
    rintro A10 c10 W10 o10 s10 A10' - h10
    obtain ⟨_, _, hB8, _, _⟩ := hD8.below b9
    refine p_sub rfl rfl (r := 56 - 8 * ((j + 1 : Nat) : Int)) ((w64 (by omega)).trans (by omega)) ?_
    refine ⟨(j + 1, A10, c10), ⟨by dsimp only; omega, by dsimp only; rw [tailF_snoc, ← List.append_assoc, ← Nat.add_assoc]; exact o10, A10', (hD8.below b9).up s10 (h10.block x (by omega) (fun e => (o8.below b9).ne_blk hB8 (by decide) e.symm)) (by simp), (hG8.up s9).up s10, by have := h10.size; omega⟩, ⟨rfl, rfl, rfl, rfl, trivial⟩, by dsimp only; omega⟩
  have hj8 : j = 8 := by omega
  subst hj8
  have hpad : (128 :: List.replicate k 0) ++ tailF (8 * all.length) 8 = padL all.length := by
    unfold padL
    rw [hkK, List.cons_append]
    rfl
  rw [hpad] at o8
  have hD9 : Dg W8 (some x :: gs) x all := hD8.up Stp.drop rfl (by simp)
  have hG9 := hG8.up (Stp.drop (g := bk A8) (gs := some x :: gs))
  have A9 := A8'.drop
  have hD9' := hD9
  obtain ⟨_, _, hB9, _, _⟩ := hD9'
  have hpl : (padL all.length).length ≤ 200 := by rw [o8.len]; omega
  refine cc is_write (write_any (some x :: gs) x c8 A8 _ (padL all.length) all W8 A9.lt hG9 hD9 (o8.frB fun b h1 h2 h3 => ⟨h2, fun e => ?_⟩) (by omega) (by have := hG.size; omega)) ?_
  · rcases List.mem_cons.1 e with e | e
    · exact o8.ne_blk hB9 (by decide) (h3.trans e)
    · have := hgs b e; omega
  rintro e W9 ⟨⟨v, rfl⟩, g9, hD10⟩
  refine ⟨_, rfl, ?_⟩
  obtain ⟨A11, c11, hB10, _, _⟩ := hD10
  have A10 : At w W9 (some x :: gs) := A9.wrote g9 (fun b e => by injection e with e; omega)
  obtain ⟨h8, hh8⟩ : ∃ h8, h8 = blocksF begin8 ((all ++ padL all.length).length / 64) (all ++ padL all.length) := ⟨_, rfl⟩
  rw [← hh8] at hB10
  have hsha : sha all = out8 h8 := by unfold sha; rw [hh8]
  refine p_fld fd0 rfl ?_
  refine v_loadN (hc h8) agg_a8 rfl rfl (hB10.run 0 _ (fun j v hj => by rw [Nat.zero_add, List.getElem?_append_left (List.getElem?_eq_some_iff.1 hj).1]; exact hj)) ?_
  have A10' : At w W9 (none :: gs) := (A10.drop).new (Below.refl _ _) (fun b e => by cases e)
  refine lp (Nat × Option Addr × Nat) (fun s W => s.1 ≤ 8 ∧ Own W w.heap.size s.2.1 (4 * s.1) s.2.2 ((out8 h8).take (4 * s.1)) ∧ At w W (bk s.2.1 :: gs))
    (fun s => [(7, .slice s.2.1 (4 * s.1) s.2.2), (48, .agg (hc h8).toArray), (49, .int .i64 s.1)]) (fun s => 9 - s.1) (0, none, 0) ⟨Nat.zero_le _, Own.nil_ _ _, A10'⟩ ⟨rfl, rfl, rfl, trivial⟩ ?_
  clear hB10 A10 A10' hD9 hB9 g9 A9 o8 hG9 hG8 hD8 A8'
  rintro ⟨j, A12, c12⟩ E2 W12 ⟨hj, o12, A13⟩
  dsimp only at hj o12 A13
  refine p_lt rfl rfl (fun hlt => ?_) (fun hge => ?_)
  · obtain ⟨q, hq1, hq2⟩ : ∃ q : Nat, (hc h8)[j]? = some (cu q) ∧ (out8 h8).take (4 * (j + 1)) = (out8 h8).take (4 * j) ++ put4 q := by
      have h8' : j = 0 ∨ j = 1 ∨ j = 2 ∨ j = 3 ∨ j = 4 ∨ j = 5 ∨ j = 6 ∨ j = 7 := by omega
      rcases h8' with rfl | rfl | rfl | rfl | rfl | rfl | rfl | rfl <;> exact ⟨_, rfl, rfl⟩
    refine p_idxA (i := j) ar8 agg_u32 rfl rfl rfl (by omega) hq1 ?_
    refine p_shr rfl rfl (by decide) (shr32 (n := 24) (x := q) (by decide)) ?_
    refine v_cvt u_u32' u_u8 rfl (wrap8 _) ?_
    refine p_shr rfl rfl (by decide) (shr32 (n := 16) (x := q) (by decide)) ?_
    refine v_cvt u_u32' u_u8 rfl (wrap8 _) ?_
    refine p_shr rfl rfl (by decide) (shr32 (n := 8) (x := q) (by decide)) ?_
    refine v_cvt u_u32' u_u8 rfl (wrap8 _) ?_
    refine v_cvt u_u32' u_u8 rfl (wrap8 _) ?_
    refine v_litB [.int .u8 (((q >>> 24) % 256 : Nat) : Int), .int .u8 (((q >>> 16) % 256 : Nat) : Int), .int .u8 (((q >>> 8) % 256 : Nat) : Int), .int .u8 ((q % 256 : Nat) : Int)] (put4 q) (by decide) rfl ?_ rfl A13 ?_
    · rw [u8v_nat, u8v_nat, u8v_nat, u8v_nat]; rfl
    rintro g14 W14 hg14 o14 s14 A14 b14 hs14
    refine v_appS rfl (o12.below b14) rfl o14.rd (by omega) A14 ?_
    rintro A15 c15 W15 o15 s15 A15' - h15
    refine p_add rfl rfl (r := ((j + 1 : Nat) : Int)) ((w64 (by omega)).trans (by omega)) ?_
    refine ⟨(j + 1, A15, c15), ⟨by dsimp only; omega, by dsimp only; rw [hq2, Nat.mul_add]; exact o15, A15'⟩, ⟨rfl, rfl, rfl, trivial⟩, by dsimp only; omega⟩
  · have hj8 : j = 8 := by omega
    subst hj8
    refine ⟨A12, c12, rfl, ?_, A13.below⟩
    rw [hsha]; exact o12
end Go.Proofs.YtejbljopighenaaDoor
