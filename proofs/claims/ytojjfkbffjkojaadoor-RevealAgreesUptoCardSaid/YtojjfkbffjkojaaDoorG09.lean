/- Operations on arrays. No program in sight. Words turned to the right: the walks of bits.RotateLeft32 and of digest's turn. SHA-256, plainly. SHA-256, plainly: rounds. Words of 32 bits: single operations. Reference 05: the walks of right, word, round, constants, Sum: they come to SHA-256 as it stands in ShaH. -/
import Derived.Test.YtojjfkbffjkojaaDoorG03
import Derived.Laws.BitsAllLaws
import Derived.Test.YtojjfkbffjkojaaDoorG08
namespace Go.Proofs.YtojjfkbffjkojaaDoor
open Go.RowKit
/-- An array's length, its elements' type, their cells. -/
def arrOf (P : Program) (t : TypeId) : Option (Nat × TypeId × Nat) :=
  match P.underlying t with
  | some (.array n e) => (P.info? e).map fun i => (n, e, i.size)
  | _ => none
section
variable {P : Program} {E : Env} {d : Option Nat} {ty : TypeId} {p : String} {af : Array Edge} {g : Option (Nat × Bool)} {x y : Operand} {t : TypeId} {k : Value → Prop} {kd : IntKind}
theorem arrOf_spec {n : Nat} {e : TypeId} {s : Nat} (h : arrOf P t = some (n, e, s)) : P.underlying t = some (.array n e) ∧ ∃ i, P.info? e = some i ∧ i.size = s := by
  unfold arrOf at h
  split at h
  · rename_i n' e' hu
    obtain ⟨i, hi, he⟩ := Option.map_eq_some_iff.1 h
    simp only [Prod.mk.injEq] at he
    obtain ⟨rfl, rfl, he⟩ := he
    exact ⟨hu, i, hi, he⟩
  · cases h
theorem p_atA {ad : Addr} {n i : Nat} {e : TypeId} {s : Nat} {j : Int} (hT : arrOf P t = some (n, e, s)) (hx : val E x = .pointer (some ad)) (hy : val E y = .int kd j) (hj : j = (i : Int)) (hi : i < n)
    (h : k (.pointer (some (ad.add (i * s))))) : VPure P E { dst := d, op := .indexAddr t x y, type := ty, pos := p, after := af, guard := g } k :=
  pp (fun w => by
    obtain ⟨hu, info, hi1, hi2⟩ := arrOf_spec hT
    subst hj
    have h0 : 0 ≤ (i : Int) ∧ (i : Int) < (n : Int) := by omega
    simp [execOp, hx, hy, Instr.indexAt, Instr.sureAddr, run_underlying hu, asIntOf, hi, sizeOf, typeInfo, hi1, hi2]) h
/-- An element of one cell of an array's value. -/
theorem p_idxA {cs : List Value} {n i : Nat} {e : TypeId} {j : Int} {v : Value} (hT : arrOf P t = some (n, e, 1)) (ha : aggOf P e = some (false, 1)) (hx : val E x = .agg cs.toArray) (hy : val E y = .int kd j) (hj : j = (i : Int)) (hi : i < n) (hv : cs[i]? = some v)
    (h : k v) : VPure P E { dst := d, op := .index t x y, type := ty, pos := p, after := af, guard := g } k :=
  pp (fun w => by
    obtain ⟨hu, info, hi1, hi2⟩ := arrOf_spec hT
    subst hj
    have ag := (aggOf_run ha w).1
    simp [execOp, hx, hy, Instr.index, run_underlying hu, asIntOf, hi, sizeOf, typeInfo, hi1, hi2, part, ag, hv]) h
theorem p_buildA {parts : Array (Nat × Operand)} {n s : Nat} {e : TypeId} {zs vs : List Value} (hT : arrOf P t = some (n, e, s)) (hz : zeroOf P t = some zs) (hv : fillL (fun i => some (i * s, s)) zs (parts.toList.map fun x => (x.1, val E x.2)) = some vs) (h : k (.agg vs.toArray)) :
    VPure P E { dst := d, op := .build t parts, type := ty, pos := p, after := af, guard := g } k := by
  refine pp (fun w => ?_) h
  obtain ⟨hu, info, hi1, hi2⟩ := arrOf_spec hT
  obtain ⟨z, hzr, hzc⟩ := zero_run hz w
  have hf := fill_eq _ _ _ _ hv
  have e1 : (parts.map fun x => (x.1, val E x.2)).toList = parts.toList.map fun x => (x.1, val E x.2) := by simp
  rw [← hzc] at hf
  have e3 : z.cells = z.cells.toList.toArray := by simp
  have hs : (sizeOf e).run P w = .ok s w := by simp [sizeOf, typeInfo, hi1, hi2]
  simp only [execOp, Instr.build, Sem.run_bind, hzr, Result.andThen_ok, run_underlying hu, hs, e1]
  rw [e3, hf]
  simp
end
end Go.Proofs.YtojjfkbffjkojaaDoor
namespace Go.Proofs.YtojjfkbffjkojaaDoor
open Go.RowKit
/-- Turned to the right. -/
def rotr (x n : Nat) : Nat := ((x <<< (32 - n)) % 4294967296) ||| (x >>> n)
theorem rotr_lt {x : Nat} (n : Nat) (h : x < 4294967296) : rotr x n < 4294967296 := by
  unfold rotr
  have h1 : x >>> n < 2 ^ 32 := by
    rw [Nat.shiftRight_eq_div_pow]
    exact Nat.lt_of_le_of_lt (Nat.div_le_self _ _) h
  exact Nat.or_lt_two_pow (n := 32) (Nat.mod_lt _ (by decide)) h1
theorem d_int : (Tryd.prog.underlying 3).isSome = true := by kernel_rfl
theorem d_uint : Tryd.prog.underlying 108 = some (.int .u64) := by kernel_rfl
theorem is_rot : isFn Tryd.prog 121 = true := by kernel_rfl
theorem is_turn : isFn Tryd.prog 120 = true := by kernel_rfl
set_option maxRecDepth 100000 in
theorem rot_any (x n : Nat) (w : World) (hx : x < 4294967296) (h1 : 1 ≤ n) (h2 : n ≤ 31) :
    Calls Tryd.prog 121 #[.int .u32 x, .int .i64 (-(n : Int))] w fun e w' => e = .returned (.int .u32 (rotr x n : Nat)) ∧ w = w' := by
  refine calls_ev (args := [.int .u32 x, .int .i64 (-(n : Int))]) mixed Tryd.func121 rfl (by kernel_rfl) ?_
  have hb : bits .and .u64 ((18446744073709551616 - n : Nat) : Int) ((31 : Nat) : Int) = ((32 - n : Nat) : Int) := by
    rw [u64_and_nat _ _ (by omega) (by omega), show (31 : Nat) = 2 ^ 5 - 1 by rfl, Nat.and_two_pow_sub_one_eq_mod]
    congr 1
    omega
  have hs : IntKind.u32.wrap ((x : Int) * 2 ^ (min (((32 - n : Nat) : Int)).toNat 32)) = ((x <<< (32 - n)) % 4294967296 : Nat) := by
    rw [Int.toNat_natCast, Nat.min_eq_left (by omega), IntKind.wrap_u32', Nat.shiftLeft_eq, Int.natCast_emod, Int.natCast_mul, Int.natCast_pow]
    rfl
  have hr : (x : Int).fdiv (2 ^ (min ((n : Nat) : Int).toNat 32)) = ((x >>> n : Nat) : Int) := by
    rw [Int.toNat_natCast, Nat.min_eq_left (by omega), Nat.shiftRight_eq_div_pow, Int.fdiv_eq_ediv_of_nonneg _ (Int.le_of_lt (Int.pow_pos (by decide))), Int.natCast_ediv, Int.natCast_pow]
    rfl
  have ho : bits .or .u32 (((x <<< (32 - n)) % 4294967296 : Nat) : Int) ((x >>> n : Nat) : Int) = ((rotr x n : Nat) : Int) := by
    refine u32_or_nat _ _ (Nat.mod_lt _ (by decide)) ?_
    rw [Nat.shiftRight_eq_div_pow]
    exact Nat.lt_of_le_of_lt (Nat.div_le_self _ _) hx
  refine v_cvt d_int d_uint rfl (r := ((18446744073709551616 - n : Nat) : Int)) (by rw [IntKind.wrap_u64]; omega) ?_
  refine p_and rfl rfl hb ?_
  refine p_shl rfl rfl (by omega) hs ?_
  refine p_sub rfl rfl (r := ((n : Nat) : Int)) (by rw [IntKind.wrap_u64]; omega) ?_
  refine p_shr rfl rfl (by omega) hr ?_
  refine p_or rfl rfl ho ?_
  exact ⟨rfl, rfl⟩
set_option maxRecDepth 100000 in
theorem turn_any (x n : Nat) (w : World) (hx : x < 4294967296) (h1 : 1 ≤ n) (h2 : n ≤ 31) :
    Calls Tryd.prog 120 #[.int .u32 x, .int .i64 n] w fun e w' => e = .returned (.int .u32 (rotr x n : Nat)) ∧ w = w' := by
  refine calls_ev (args := [.int .u32 x, .int .i64 n]) mixed Tryd.func120 rfl (by kernel_rfl) ?_
  refine p_neg rfl (r := -(n : Int)) (w64 (by omega) |>.trans (by omega)) ?_
  refine cc is_rot (rot_any x n _ hx h1 h2) ?_
  rintro e w' ⟨rfl, rfl⟩
  exact ⟨_, rfl, rfl, rfl⟩
end Go.Proofs.YtojjfkbffjkojaaDoor
namespace Go.Proofs.YtojjfkbffjkojaaDoor
def byt (b : List UInt8) (k : Nat) : Nat := (b.getD k 0).toNat
theorem byt_lt (b : List UInt8) (k : Nat) : byt b k < 256 := (b.getD k 0).toNat_lt
/-- Four bytes, the highest first. -/
def wordB (b : List UInt8) (i : Nat) : Nat := (((byt b (4 * i) <<< 24) ||| (byt b (4 * i + 1) <<< 16)) ||| (byt b (4 * i + 2) <<< 8)) ||| byt b (4 * i + 3)
def sg0 (x : Nat) : Nat := (rotr x 7 ^^^ rotr x 18) ^^^ (x >>> 3)
def sg1 (x : Nat) : Nat := (rotr x 17 ^^^ rotr x 19) ^^^ (x >>> 10)
def nextW (w : List Nat) (i : Nat) : Nat := (((sg1 (w.getD (i - 2) 0) + w.getD (i - 7) 0) % 4294967296 + sg0 (w.getD (i - 15) 0)) % 4294967296 + w.getD (i - 16) 0) % 4294967296
/-- The first i of the words of 64 bytes. -/
def wsF (b : List UInt8) : Nat → List Nat
  | 0 => []
  | i + 1 => wsF b i ++ [if i < 16 then wordB b i else nextW (wsF b i) i]
theorem wsF_len (b : List UInt8) : ∀ i, (wsF b i).length = i
  | 0 => rfl
  | i + 1 => by unfold wsF; rw [List.length_append, wsF_len b i]; rfl
theorem shl_lt {x n : Nat} (h : x < 256) (hn : n ≤ 24) : x <<< n < 4294967296 := by
  rw [Nat.shiftLeft_eq]
  have : 2 ^ n ≤ 2 ^ 24 := Nat.pow_le_pow_right (by decide) hn
  have h2 : x * 2 ^ n ≤ 255 * 2 ^ 24 := Nat.mul_le_mul (by omega) this
  exact Nat.lt_of_le_of_lt h2 (by decide)
theorem or_lt {x y : Nat} (hx : x < 4294967296) (hy : y < 4294967296) : x ||| y < 4294967296 := Nat.or_lt_two_pow (n := 32) hx hy
theorem xor_lt {x y : Nat} (hx : x < 4294967296) (hy : y < 4294967296) : x ^^^ y < 4294967296 := Nat.xor_lt_two_pow (n := 32) hx hy
theorem and_lt {x y : Nat} (hx : x < 4294967296) : x &&& y < 4294967296 := Nat.lt_of_le_of_lt Nat.and_le_left hx
theorem shr_lt {x : Nat} (n : Nat) (hx : x < 4294967296) : x >>> n < 4294967296 := by
  rw [Nat.shiftRight_eq_div_pow]; exact Nat.lt_of_le_of_lt (Nat.div_le_self _ _) hx
theorem wordB_lt (b : List UInt8) (i : Nat) : wordB b i < 4294967296 :=
  or_lt (or_lt (or_lt (shl_lt (byt_lt _ _) (by decide)) (shl_lt (byt_lt _ _) (by decide))) (shl_lt (byt_lt _ _) (by decide))) (Nat.lt_trans (byt_lt _ _) (by decide))
theorem wsF_lt (b : List UInt8) : ∀ (i : Nat), ∀ x ∈ wsF b i, x < 4294967296
  | 0, x, h => by cases h
  | i + 1, x, h => by
    unfold wsF at h
    rcases List.mem_append.1 h with h | h
    · exact wsF_lt b i x h
    · simp only [List.mem_singleton] at h
      subst h
      split
      · exact wordB_lt b i
      · exact Nat.mod_lt _ (by decide)
theorem getD_lt {l : List Nat} (h : ∀ x ∈ l, x < 4294967296) (j : Nat) : l.getD j 0 < 4294967296 := by
  rw [List.getD_eq_getElem?_getD]
  cases hx : l[j]? with
  | none => decide
  | some x => exact h x (List.mem_of_getElem? hx)
def words (b : List UInt8) : List Nat := wsF b 64
/-- A cell of a word. -/
def cu (n : Nat) : Value := .int .u32 (n : Int)
theorem cu_set {L : List Nat} {i : Nat} (hL : L.length = i) (hi : i < 64) (v : Nat) : (L.map cu ++ List.replicate (64 - i) (cu 0)).set i (cu v) = (L ++ [v]).map cu ++ List.replicate (64 - (i + 1)) (cu 0) := by
  rw [List.set_append_right _ _ (by simp [hL]), List.length_map, hL, Nat.sub_self, show 64 - i = (64 - (i + 1)) + 1 by omega, List.replicate_succ, List.set_cons_zero, List.map_append, List.append_assoc]
  rfl
theorem cu_get {L : List Nat} {R : List Value} {j : Nat} (hj : j < L.length) : (L.map cu ++ R)[j]? = some (cu (L.getD j 0)) := by
  rw [List.getElem?_append_left (by simpa using hj), List.getElem?_map, List.getD_eq_getElem?_getD, List.getElem?_eq_getElem hj]; rfl
end Go.Proofs.YtojjfkbffjkojaaDoor
namespace Go.Proofs.YtojjfkbffjkojaaDoor
/-- Eight words. -/
structure H8 where
  a : Nat
  b : Nat
  c : Nat
  d : Nat
  e : Nat
  f : Nat
  g : Nat
  h : Nat
def hc (v : H8) : List Value := [cu v.a, cu v.b, cu v.c, cu v.d, cu v.e, cu v.f, cu v.g, cu v.h]
structure H8.Ok (v : H8) : Prop where
  a : v.a < 4294967296
  b : v.b < 4294967296
  c : v.c < 4294967296
  d : v.d < 4294967296
  e : v.e < 4294967296
  f : v.f < 4294967296
  g : v.g < 4294967296
  h : v.h < 4294967296
def bs1 (e : Nat) : Nat := (rotr e 6 ^^^ rotr e 11) ^^^ rotr e 25
def bs0 (a : Nat) : Nat := (rotr a 2 ^^^ rotr a 13) ^^^ rotr a 22
def chs (e f g : Nat) : Nat := (e &&& f) ^^^ ((4294967295 ^^^ e) &&& g)
def maj (a b c : Nat) : Nat := ((a &&& b) ^^^ (a &&& c)) ^^^ (b &&& c)
def tt1 (v : H8) (k w : Nat) : Nat := ((((v.h + bs1 v.e) % 4294967296 + chs v.e v.f v.g) % 4294967296 + k) % 4294967296 + w) % 4294967296
def tt2 (v : H8) : Nat := (bs0 v.a + maj v.a v.b v.c) % 4294967296
def rnd (v : H8) (k w : Nat) : H8 := ⟨(tt1 v k w + tt2 v) % 4294967296, v.a, v.b, v.c, (v.d + tt1 v k w) % 4294967296, v.e, v.f, v.g⟩
theorem rnd_ok {v : H8} (h : v.Ok) (k w : Nat) : (rnd v k w).Ok := ⟨Nat.mod_lt _ (by decide), h.a, h.b, h.c, Nat.mod_lt _ (by decide), h.e, h.f, h.g⟩
/-- i rounds. -/
def rndF (ks ws : List Nat) (v : H8) : Nat → H8
  | 0 => v
  | i + 1 => rnd (rndF ks ws v i) (ks.getD i 0) (ws.getD i 0)
theorem rndF_ok (ks ws : List Nat) {v : H8} (h : v.Ok) : ∀ i, (rndF ks ws v i).Ok
  | 0 => h
  | i + 1 => rnd_ok (rndF_ok ks ws h i) _ _
def add8 (x y : H8) : H8 := ⟨(x.a + y.a) % 4294967296, (x.b + y.b) % 4294967296, (x.c + y.c) % 4294967296, (x.d + y.d) % 4294967296, (x.e + y.e) % 4294967296, (x.f + y.f) % 4294967296, (x.g + y.g) % 4294967296, (x.h + y.h) % 4294967296⟩
theorem add8_ok (x y : H8) : (add8 x y).Ok := ⟨Nat.mod_lt _ (by decide), Nat.mod_lt _ (by decide), Nat.mod_lt _ (by decide), Nat.mod_lt _ (by decide), Nat.mod_lt _ (by decide), Nat.mod_lt _ (by decide), Nat.mod_lt _ (by decide), Nat.mod_lt _ (by decide)⟩
def begin8 : H8 := ⟨1779033703, 3144134277, 1013904242, 2773480762, 1359893119, 2600822924, 528734635, 1541459225⟩
def roots : List Nat := [0x428a2f98, 0x71374491, 0xb5c0fbcf, 0xe9b5dba5, 0x3956c25b, 0x59f111f1, 0x923f82a4, 0xab1c5ed5,
  0xd807aa98, 0x12835b01, 0x243185be, 0x550c7dc3, 0x72be5d74, 0x80deb1fe, 0x9bdc06a7, 0xc19bf174,
  0xe49b69c1, 0xefbe4786, 0x0fc19dc6, 0x240ca1cc, 0x2de92c6f, 0x4a7484aa, 0x5cb0a9dc, 0x76f988da,
  0x983e5152, 0xa831c66d, 0xb00327c8, 0xbf597fc7, 0xc6e00bf3, 0xd5a79147, 0x06ca6351, 0x14292967,
  0x27b70a85, 0x2e1b2138, 0x4d2c6dfc, 0x53380d13, 0x650a7354, 0x766a0abb, 0x81c2c92e, 0x92722c85,
  0xa2bfe8a1, 0xa81a664b, 0xc24b8b70, 0xc76c51a3, 0xd192e819, 0xd6990624, 0xf40e3585, 0x106aa070,
  0x19a4c116, 0x1e376c08, 0x2748774c, 0x34b0bcb5, 0x391c0cb3, 0x4ed8aa4a, 0x5b9cca4f, 0x682e6ff3,
  0x748f82ee, 0x78a5636f, 0x84c87814, 0x8cc70208, 0x90befffa, 0xa4506ceb, 0xbef9a3f7, 0xc67178f2]
/-- What 64 bytes make of eight words. -/
def take8 (h : H8) (b : List UInt8) : H8 := add8 h (rndF roots (words b) h 64)
/-- What all whole blocks make; n blocks. -/
def blocksF (h : H8) : Nat → List UInt8 → H8
  | 0, _ => h
  | n + 1, b => blocksF (take8 h (b.take 64)) n (b.drop 64)
def put4 (x : Nat) : List UInt8 := [UInt8.ofNat (x >>> 24), UInt8.ofNat (x >>> 16), UInt8.ofNat (x >>> 8), UInt8.ofNat x]
def out8 (h : H8) : List UInt8 := put4 h.a ++ (put4 h.b ++ (put4 h.c ++ (put4 h.d ++ (put4 h.e ++ (put4 h.f ++ (put4 h.g ++ put4 h.h))))))
/-- What is put behind so many bytes. -/
def padL (n : Nat) : List UInt8 := (128 : UInt8) :: (List.replicate ((119 - n % 64) % 64) (0 : UInt8) ++ [UInt8.ofNat ((8 * n) >>> 56), UInt8.ofNat ((8 * n) >>> 48), UInt8.ofNat ((8 * n) >>> 40), UInt8.ofNat ((8 * n) >>> 32), UInt8.ofNat ((8 * n) >>> 24), UInt8.ofNat ((8 * n) >>> 16), UInt8.ofNat ((8 * n) >>> 8), UInt8.ofNat (8 * n)])
def sha (b : List UInt8) : List UInt8 := out8 (blocksF begin8 ((b ++ padL b.length).length / 64) (b ++ padL b.length))
end Go.Proofs.YtojjfkbffjkojaaDoor
namespace Go.Proofs.YtojjfkbffjkojaaDoor
open Go.RowKit
section
variable {P : Program} {E : Env} {d : Option Nat} {ty : TypeId} {p : String} {af : Array Edge} {g : Option (Nat × Bool)} {x y : Operand} {t : TypeId} {k : Value → Prop} {kd : IntKind}
/-- The place of an element in a block. -/
theorem p_atB {b o q : Nat} {n i : Nat} {e : TypeId} {s : Nat} {j : Int} (hT : arrOf P t = some (n, e, s)) (hx : val E x = .pointer (some ⟨b, o, none⟩)) (hy : val E y = .int kd j) (hj : j = (i : Int)) (hi : i < n) (hq : o + i * s = q)
    (h : k (.pointer (some ⟨b, q, none⟩))) : VPure P E { dst := d, op := .indexAddr t x y, type := ty, pos := p, after := af, guard := g } k :=
  p_atA hT hx hy hj hi (by rw [Addr.add_lit, hq]; exact h)
end
theorem Rd.get {w : World} {B n : Nat} {ad : Addr} {l : List UInt8} (h : Rd w B (some ad) n l) {j : Nat} (hj : j < n) : w.cell? (ad.add (j * 1)) = some (.int .u8 (byt l j : Nat)) := by
  obtain ⟨b, off, e, hc⟩ := h.at_ hj
  injection e with e
  subst e
  rw [Nat.mul_one, Addr.add_lit]; exact hc
theorem agg_u32 : aggOf Tryd.prog 94 = some (false, 1) := by kernel_rfl
theorem agg_by : aggOf Tryd.prog 5 = some (false, 1) := by kernel_rfl
theorem sz_u32 : (Tryd.prog.info? 94).map (·.size) = some 1 := by kernel_rfl
theorem u_byt : (Tryd.prog.underlying 5).isSome = true := by kernel_rfl
theorem u_u32 : Tryd.prog.underlying 94 = some (.int .u32) := by kernel_rfl
theorem sl_by : slOf Tryd.prog 23 = some (5, 1) := by kernel_rfl
theorem shl32 {x n : Nat} (h : x < 256) (hn : n ≤ 24) : IntKind.u32.wrap ((x : Int) * 2 ^ (min ((n : Nat) : Int).toNat 32)) = ((x <<< n : Nat) : Int) := by
  have := shl_lt h hn
  rw [Nat.shiftLeft_eq] at this ⊢
  rw [Int.toNat_natCast, Nat.min_eq_left (by omega), IntKind.wrap_u32']
  have e : ((x * 2 ^ n : Nat) : Int) = (x : Int) * 2 ^ n := by rw [Int.natCast_mul, Int.natCast_pow]; rfl
  rw [← e]; omega
theorem add32 (x y : Nat) : IntKind.u32.wrap ((x : Int) + (y : Int)) = (((x + y) % 4294967296 : Nat) : Int) := by
  rw [IntKind.wrap_u32']; omega
theorem shr32 {x n : Nat} (hn : n ≤ 32) : (x : Int).fdiv (2 ^ (min ((n : Nat) : Int).toNat 32)) = ((x >>> n : Nat) : Int) := by
  rw [Int.toNat_natCast, Nat.min_eq_left (by omega), Nat.shiftRight_eq_div_pow, Int.fdiv_eq_ediv_of_nonneg _ (Int.le_of_lt (Int.pow_pos (by decide))), Int.natCast_ediv, Int.natCast_pow]
  rfl
end Go.Proofs.YtojjfkbffjkojaaDoor
namespace Go.Proofs.YtojjfkbffjkojaaDoor
open Go.RowKit
theorem is_r5right : isFn Tryd.prog 99 = true := by kernel_rfl
theorem is_r5word : isFn Tryd.prog 98 = true := by kernel_rfl
theorem is_r5round : isFn Tryd.prog 75 = true := by kernel_rfl
theorem is_r5con : isFn Tryd.prog 74 = true := by kernel_rfl
theorem is_r5sum : isFn Tryd.prog 38 = true := by kernel_rfl
theorem slw : slOf Tryd.prog 95 = some (94, 1) := by kernel_rfl
theorem zw : zeroOf Tryd.prog 94 = some [cu 0] := by kernel_rfl
theorem winfo : (Tryd.prog.info? 94).map (fun i => (i.zero, i.size, i.bytes)) = some (some (.int .u32 0), 1, 4) := by kernel_rfl
theorem dd_int : (Tryd.prog.underlying 3).isSome = true := by kernel_rfl
theorem dd_uint : Tryd.prog.underlying 108 = some (.int .u64) := by kernel_rfl
set_option maxRecDepth 100000 in
theorem r5right_any (x n : Nat) (w : World) (hx : x < 4294967296) (h1 : 1 ≤ n) (h2 : n ≤ 31) :
    Calls Tryd.prog 99 #[.int .u32 x, .int .i64 n] w fun e w' => e = .returned (.int .u32 (rotr x n : Nat)) ∧ w = w' := by
  refine calls_ev (args := [.int .u32 x, .int .i64 n]) mixed Tryd.func99 rfl (by kernel_rfl) ?_
  have hs : IntKind.u32.wrap ((x : Int) * 2 ^ (min (((32 - n : Nat) : Int)).toNat 32)) = ((x <<< (32 - n)) % 4294967296 : Nat) := by
    rw [Int.toNat_natCast, Nat.min_eq_left (by omega), IntKind.wrap_u32', Nat.shiftLeft_eq, Int.natCast_emod, Int.natCast_mul, Int.natCast_pow]
    rfl
  have hr := shr32 (x := x) (n := n) (by omega)
  have ho : bits .or .u32 ((x >>> n : Nat) : Int) (((x <<< (32 - n)) % 4294967296 : Nat) : Int) = ((rotr x n : Nat) : Int) := by
    rw [u32_or_nat _ _ (shr_lt n hx) (Nat.mod_lt _ (by decide)), Nat.or_comm]; rfl
  refine v_cvt dd_int dd_uint rfl (r := ((n : Nat) : Int)) (by rw [IntKind.wrap_u64]; omega) ?_
  refine p_shr rfl rfl (by omega) hr ?_
  refine p_sub rfl rfl (r := ((32 - n : Nat) : Int)) ((w64 (by omega)).trans (by omega)) ?_
  refine v_cvt dd_int dd_uint rfl (r := ((32 - n : Nat) : Int)) (by rw [IntKind.wrap_u64]; omega) ?_
  refine p_shl rfl rfl (by omega) hs ?_
  refine p_or rfl rfl ho ?_
  exact ⟨rfl, rfl⟩
theorem wordB_add (b : List UInt8) (i : Nat) : wordB b i = byt b (4 * i) * 16777216 + byt b (4 * i + 1) * 65536 + byt b (4 * i + 2) * 256 + byt b (4 * i + 3) := by
  have h0 := byt_lt b (4 * i)
  have h1 := byt_lt b (4 * i + 1)
  have h2 := byt_lt b (4 * i + 2)
  have h3 := byt_lt b (4 * i + 3)
  unfold wordB
  rw [Nat.or_assoc, Nat.or_assoc]
  rw [← Nat.shiftLeft_add_eq_or_of_lt (i := 8) (by omega) (byt b (4 * i + 2))]
  have e2 : byt b (4 * i + 2) <<< 8 + byt b (4 * i + 3) = byt b (4 * i + 2) * 256 + byt b (4 * i + 3) := by rw [Nat.shiftLeft_eq]
  rw [e2, ← Nat.shiftLeft_add_eq_or_of_lt (i := 16) (by omega) (byt b (4 * i + 1))]
  have e1 : byt b (4 * i + 1) <<< 16 = byt b (4 * i + 1) * 65536 := by rw [Nat.shiftLeft_eq]
  rw [e1, ← Nat.shiftLeft_add_eq_or_of_lt (i := 24) (by omega) (byt b (4 * i))]
  rw [Nat.shiftLeft_eq]; omega
set_option maxRecDepth 100000 in
theorem r5word_any (A : Option Addr) (c B : Nat) (b : List UInt8) (w : World) (hr : Rd w B A 4 b) :
    Calls Tryd.prog 98 #[.slice A 4 c] w fun e w' => e = .returned (.int .u32 (wordB b 0 : Nat)) ∧ Below w.heap.size w w' := by
  refine calls_ev (args := [.slice A 4 c]) mixed Tryd.func98 rfl (by kernel_rfl) ?_
  obtain ⟨b0, o0, rfl, _⟩ := hr.at_ (k := 0) (by omega)
  have h0 := byt_lt b 0
  have h1 := byt_lt b 1
  have h2 := byt_lt b 2
  have h3 := byt_lt b 3
  have hw : wordB b 0 = byt b 0 * 16777216 + byt b 1 * 65536 + byt b 2 * 256 + byt b 3 := wordB_add b 0
  refine drT (fun W => Rd W B (some ⟨b0, o0, none⟩) 4 b) (.take 0 (.take 1 (.take 2 (.take 3 (.take 4 (.take 5 (.take 6 (.take 7 (.take 8 (.take 9 (.take 10 (.take 11 (.take 12 (.take 13 (.take 14 (.take 15 (.take 16 (.take 17 (.take 18 (.take 19 (.take 20 (.take 21 (.take 22 (.nil)))))))))))))))))))))))) (by kernel_rfl) hr.drew ?_
  refine p_at (i := 0) sl_by rfl rfl rfl (by decide) ?_
  refine t_load agg_by rfl (fun W h => Rd.get h (j := 0) (by decide)) ?_
  refine t_cvt u_byt u_u32 rfl (wu32 (by omega)) ?_
  refine p_mul rfl rfl (r := ((byt b 0 * 16777216 : Nat) : Int)) ((wu32 (by omega)).trans (by omega)) ?_
  refine p_at (i := 1) sl_by rfl rfl rfl (by decide) ?_
  refine t_load agg_by rfl (fun W h => Rd.get h (j := 1) (by decide)) ?_
  refine t_cvt u_byt u_u32 rfl (wu32 (by omega)) ?_
  refine p_mul rfl rfl (r := ((byt b 1 * 65536 : Nat) : Int)) ((wu32 (by omega)).trans (by omega)) ?_
  refine p_add rfl rfl (r := ((byt b 0 * 16777216 + byt b 1 * 65536 : Nat) : Int)) ((wu32 (by omega)).trans (by omega)) ?_
  refine p_at (i := 2) sl_by rfl rfl rfl (by decide) ?_
  refine t_load agg_by rfl (fun W h => Rd.get h (j := 2) (by decide)) ?_
  refine t_cvt u_byt u_u32 rfl (wu32 (by omega)) ?_
  refine p_mul rfl rfl (r := ((byt b 2 * 256 : Nat) : Int)) ((wu32 (by omega)).trans (by omega)) ?_
  refine p_add rfl rfl (r := ((byt b 0 * 16777216 + byt b 1 * 65536 + byt b 2 * 256 : Nat) : Int)) ((wu32 (by omega)).trans (by omega)) ?_
  refine p_at (i := 3) sl_by rfl rfl rfl (by decide) ?_
  refine t_load agg_by rfl (fun W h => Rd.get h (j := 3) (by decide)) ?_
  refine t_cvt u_byt u_u32 rfl (wu32 (by omega)) ?_
  refine p_add rfl rfl (r := ((wordB b 0 : Nat) : Int)) ((wu32 (by omega)).trans (by omega)) ?_
  exact ⟨rfl, (Below.refl _ _).drew⟩
def dW (l : List Nat) : D := .sl 1 l.length ((l.map cu).map D.v)
theorem dW_open {W : World} {F : Nat → Prop} {l : List Nat} {A : Option Addr} {n c : Nat} (h : RdD W F (dW l) (.slice A n c)) (hn : 0 < n) : ∃ b off, A = some ⟨b, off, none⟩ ∧ F b ∧ ∀ j x, (l.map cu)[j]? = some x → W.cell? ((⟨b, off, none⟩ : Addr).add j) = some x := by
  have hs := h.slen
  obtain ⟨A', c2, cs, h1, h2, h3, h4, h5⟩ := RdD.sl_iff.1 h
  rw [h4.vals] at h5
  injection h1 with e1 _ _
  subst e1; subst hs
  obtain ⟨b, off, h6, h7, h8⟩ := h5 hn
  exact ⟨b, off, h6, h7, fun j x hx => by rw [Addr.add_lit]; exact h8 j x hx⟩
theorem cu_at {l : List Nat} {j : Nat} (hj : j < l.length) : (l.map cu)[j * 1]? = some (.int .u32 (l.getD j 0 : Nat)) := by
  rw [Nat.mul_one, List.getElem?_map, List.getD_eq_getElem?_getD, List.getElem?_eq_getElem hj]; rfl
def h8l (v : H8) : List Nat := [v.a, v.b, v.c, v.d, v.e, v.f, v.g, v.h]
theorem maj_or (a b c : Nat) : ((a &&& b) ||| (a &&& c)) ||| (b &&& c) = maj a b c := by
  unfold maj
  apply Nat.eq_of_testBit_eq
  intro i
  simp only [Nat.testBit_or, Nat.testBit_xor, Nat.testBit_and]
  cases a.testBit i <;> cases b.testBit i <;> cases c.testBit i <;> rfl
theorem nextW_sum (w : List Nat) (i : Nat) : (((w.getD (i - 16) 0 + sg0 (w.getD (i - 15) 0)) % 4294967296 + w.getD (i - 7) 0) % 4294967296 + sg1 (w.getD (i - 2) 0)) % 4294967296 = nextW w i := by
  unfold nextW; omega
theorem quo32 {x c : Nat} (hx : x < 4294967296) (hc : 0 < c) : IntKind.u32.wrap ((x : Int).tdiv (c : Int)) = ((x / c : Nat) : Int) := by
  have h1 : x / c ≤ x := Nat.div_le_self _ _
  have e : (x : Int).tdiv (c : Int) = ((x / c : Nat) : Int) := by rw [Int.tdiv_eq_ediv_of_nonneg (by omega)]; exact (Int.natCast_ediv x c).symm
  rw [e]
  obtain ⟨q, hq⟩ : ∃ q, q = x / c := ⟨_, rfl⟩
  rw [← hq] at h1 ⊢
  rw [IntKind.wrap_u32']; omega
theorem rem32 {x c : Nat} : (x : Int).tmod (c : Int) = ((x % c : Nat) : Int) := by rw [Int.tmod_eq_emod_of_nonneg (by omega)]; omega
set_option maxRecDepth 100000 in
theorem made8 : (madeCells (Value.int .u32 0).cells (8 * 1)).toList = List.replicate 8 (cu 0) := by kernel_rfl
set_option maxRecDepth 100000 in
theorem s_mk8 {E : Env} {d : Option Nat} {ty : TypeId} {p : String} {af : Array Edge} {gd : Option (Nat × Bool)} {l c : Operand} {kw : Value → World → Prop} {w W : World} {gs : List (Option Nat)} {L : Lc} {R : List Row} {fs : List Fact} (M : St w gs W L R fs) (hl : val E l = .int .i64 ((8 : Nat) : Int)) (hc : val E c = .int .i64 ((8 : Nat) : Int))
    (h : ∀ g W', St w gs W' ((g, 94, List.replicate 8 (cu 0)) :: L) R fs → kw (.slice (some ⟨g, 0, none⟩) 8 8) W') :
    VVal Tryd.prog E { dst := d, op := .makeSlice 95 l c, type := ty, pos := p, after := af, guard := gd } W kw := by
  obtain ⟨i, hi0, hz0, hz1, hz2⟩ := info_parts winfo
  obtain ⟨w', hrun, hrow, hg⟩ := run_make_full (P := Tryd.prog) (w := W) W.heap.size 95 94 i _ 1 Tryd.underlying95 hi0 hz0 hz1 .i64 .i64 8 (by rw [hz2]; decide) (by unfold maxLen; decide) (Nat.le_refl _)
  have hB : Blk w' W.heap.size 94 (List.replicate 8 (cu 0)) := by
    rcases hrow.2 with ⟨_, h0⟩ | ⟨g', cap, cur, hv, hbg, hh, hnc, _, hcs, htk⟩
    · exact absurd h0 (by decide)
    · injection hv with hA _ hc'
      injection hA with hA
      injection hA with hA
      subst hA; subst hc'
      have e : cur.toList = List.replicate 8 (cu 0) := by
        rw [← made8, ← htk]
        refine (List.take_of_length_le ?_).symm
        simp at hcs ⊢
        omega
      rw [← e]
      unfold Blk
      rw [hh]
  refine vv (v := .slice (some ⟨W.heap.size, 0, none⟩) 8 8) (w' := w') ?_ (h _ _ (M.newB rfl hB ⟨hg.os, hg.tape, hg.output, hg.size, fun b hb => hg.block b hb (by simp)⟩))
  have hrun' : (Instr.makeSlice 95 (.int .i64 (8 : Int)) (.int .i64 (8 : Int))).run Tryd.prog W = _ := hrun
  simp [execOp, hl, hc, hrun']
theorem words_len (b : List UInt8) : (words b).length = 64 := by unfold words; exact wsF_len b 64
theorem words_lt (b : List UInt8) : ∀ x ∈ words b, x < 4294967296 := by unfold words; exact wsF_lt b 64
theorem part8_set {xs : List Value} {z : Value} {i : Nat} {x : Value} (hx : xs[i]? = some x) (hl : xs.length = 8) (hi : i < 8) : (xs.take i ++ List.replicate (8 - i) z).set i x = xs.take (i + 1) ++ List.replicate (8 - (i + 1)) z := by
  have h1 := List.getElem?_eq_some_iff.1 hx
  rw [List.set_append_right _ _ (by rw [List.length_take]; omega), List.length_take, Nat.min_eq_left (by omega), Nat.sub_self, show 8 - i = (8 - (i + 1)) + 1 by omega, List.replicate_succ, List.set_cons_zero, List.take_succ_eq_append_getElem h1.1, h1.2, List.append_assoc]
  rfl
def shl8 (l : List Value) (j : Nat) : List Value := l.take (j + 1) ++ (l.drop j).take (7 - j)
theorem shl8_set (x0 x1 x2 x3 x4 x5 x6 x7 : Value) : ∀ j, 1 ≤ j → j ≤ 7 → ∃ y, (shl8 [x0, x1, x2, x3, x4, x5, x6, x7] j)[j - 1]? = some y ∧ (shl8 [x0, x1, x2, x3, x4, x5, x6, x7] j).set j y = shl8 [x0, x1, x2, x3, x4, x5, x6, x7] (j - 1) ∧ (y = x0 ∨ y = x1 ∨ y = x2 ∨ y = x3 ∨ y = x4 ∨ y = x5 ∨ y = x6)
  | 1, _, _ => ⟨_, rfl, rfl, by simp⟩
  | 2, _, _ => ⟨_, rfl, rfl, by simp⟩
  | 3, _, _ => ⟨_, rfl, rfl, by simp⟩
  | 4, _, _ => ⟨_, rfl, rfl, by simp⟩
  | 5, _, _ => ⟨_, rfl, rfl, by simp⟩
  | 6, _, _ => ⟨_, rfl, rfl, by simp⟩
  | 7, _, _ => ⟨_, rfl, rfl, by simp⟩
  | 0, h, _ => by omega
  | j + 8, _, h => by omega
theorem shl8_len {l : List Value} (h : l.length = 8) {j : Nat} (hj : j ≤ 7) : (shl8 l j).length = 8 := by unfold shl8; rw [List.length_append, List.length_take, List.length_take, List.length_drop]; omega
theorem mix8_set {xs ys : List Value} {i : Nat} {x : Value} (hx : xs[i]? = some x) (hl : xs.length = 8) (hy : ys.length = 8) (hi : i < 8) : (xs.take i ++ ys.drop i).set i x = xs.take (i + 1) ++ ys.drop (i + 1) := by
  have h1 := List.getElem?_eq_some_iff.1 hx
  rw [List.set_append_right _ _ (by rw [List.length_take]; omega), List.length_take, Nat.min_eq_left (by omega), Nat.sub_self, List.drop_eq_getElem_cons (show i < ys.length by omega), List.set_cons_zero, List.take_succ_eq_append_getElem h1.1, h1.2, List.append_assoc]
  rfl
theorem tt1_ref (v : H8) (k w : Nat) : ((((v.h + ((rotr v.e 6 ^^^ rotr v.e 11) ^^^ rotr v.e 25)) % 4294967296 + ((v.e &&& v.f) ^^^ ((v.e ^^^ 4294967295) &&& v.g))) % 4294967296 + k) % 4294967296 + w) % 4294967296 = tt1 v k w := by
  unfold tt1 bs1 chs; rw [Nat.xor_comm 4294967295 v.e]
theorem tt2_ref (v : H8) : (((rotr v.a 2 ^^^ rotr v.a 13) ^^^ rotr v.a 22) + maj v.a v.b v.c) % 4294967296 = tt2 v := rfl
theorem byt_mid {b : List UInt8} {i : Nat} (hb : 4 * i + 4 ≤ b.length) : wordB ((b.drop (4 * i)).take 4) 0 = wordB b i := by
  rw [wordB_add, wordB_add]
  have e : ∀ k, k < 4 → byt ((b.drop (4 * i)).take 4) k = byt b (4 * i + k) := fun k hk => by
    unfold byt
    rw [List.getD_eq_getElem?_getD, List.getD_eq_getElem?_getD, List.getElem?_take, if_pos hk, List.getElem?_drop]
  rw [Nat.mul_zero, e 0 (by omega), e 1 (by omega), e 2 (by omega), e 3 (by omega)]; rfl
set_option maxRecDepth 100000 in
set_option maxHeartbeats 2000000 in
theorem r5round_any (h : H8) (hok : h.Ok) (b : List UInt8) (gs : List (Option Nat)) (w : World) (A0 A1 A2 : Option Addr) (c0 c1 c2 : Nat) (h0 : RdD w (Fd w gs) (dW (h8l h)) (.slice A0 8 c0)) (h1 : RdD w (Fd w gs) (dB b) (.slice A1 64 c1)) (h2 : RdD w (Fd w gs) (dW roots) (.slice A2 64 c2)) (hgs : ∀ b, some b ∈ gs → b < w.heap.size) :
    Calls Tryd.prog 75 #[.slice A0 8 c0, .slice A1 64 c1, .slice A2 64 c2] w fun e w' => ∃ A' c', e = .returned (.slice A' 8 c') ∧ RdD w' (Fr w w') (dW (h8l (take8 h b))) (.slice A' 8 c') ∧ Below w.heap.size w w' := by
  refine calls_ev (args := [.slice A0 8 c0, .slice A1 64 c1, .slice A2 64 c2]) mixed Tryd.func75 rfl (by kernel_rfl) ?_
  have hbl := h1.slen
  obtain ⟨b0, o0, rfl, F0, hc0⟩ := dW_open h0 (by decide)
  obtain ⟨b2, o2, rfl, F2, hc2⟩ := dW_open h2 (by decide)
  have hcb := h1.scap
  have M := (((St.start hgs).addD h1).addC (a := ⟨b2, o2, none⟩) F2 hc2).addC (a := ⟨b0, o0, none⟩) F0 hc0
  clear h0 h1 h2 F0 F2 hc0 hc2
  -- the words
  refine ev_assoc (ev_assoc (ev_assoc ?_))
  refine cutS (Option Addr × Nat × List Value) (fun s W => St w gs W [] [⟨94, 1, s.1, 64, s.2.1, (words b).map cu⟩] [.loc ⟨b0, o0, none⟩ ((h8l h).map cu), .loc ⟨b2, o2, none⟩ (roots.map cu)]) (fun s => [(0, .slice (some ⟨b0, o0, none⟩) 8 c0), (2, .slice (some ⟨b2, o2, none⟩) 64 c2), (7, .slice s.1 64 s.2.1)]) ?_ ?_
  · replace M := M.nilR 94 1
    refine cutS (Option Addr × Nat × List Value) (fun s W => St w gs W [] [⟨94, 1, s.1, 16, s.2.1, (wsF b 16).map cu⟩] [.loc ⟨b0, o0, none⟩ ((h8l h).map cu), .loc ⟨b2, o2, none⟩ (roots.map cu)]) (fun s => [(0, .slice (some ⟨b0, o0, none⟩) 8 c0), (2, .slice (some ⟨b2, o2, none⟩) 64 c2), (7, .slice s.1 16 s.2.1)]) ?_ ?_
    · refine lp (Nat × Option Addr × Nat) (fun s W => s.1 ≤ 16 ∧ St w gs W [] [⟨94, 1, s.2.1, s.1, s.2.2, (wsF b s.1).map cu⟩] [.loc ⟨b0, o0, none⟩ ((h8l h).map cu), .loc ⟨b2, o2, none⟩ (roots.map cu), .dat false [dB b] [.slice A1 64 c1]]) (fun s => [(0, .slice (some ⟨b0, o0, none⟩) 8 c0), (1, .slice A1 64 c1), (2, .slice (some ⟨b2, o2, none⟩) 64 c2), (7, .slice s.2.1 s.1 s.2.2), (8, .int .i64 s.1)]) (fun s => 16 - s.1) (0, none, 0) ⟨Nat.zero_le _, M.fsub _ (by simp)⟩ (by repeat (first | exact trivial | refine ⟨rfl, ?_⟩)) ?_
      clear M
      rintro ⟨i, A, c⟩ E5 W5 ⟨hi, M⟩
      dsimp only at hi M
      refine p_lt rfl rfl (fun hlt => ?_) (fun hge => ?_)
      · dsimp only at hlt
        refine p_mul rfl rfl (r := ((4 * i : Nat) : Int)) ((w64 (by omega)).trans (by omega)) ?_
        refine p_mul rfl rfl (r := ((4 * i : Nat) : Int)) ((w64 (by omega)).trans (by omega)) ?_
        refine p_addN (b := 4) rfl rfl (by omega) ?_
        refine p_slice (i := 4 * i) (j := 4 * i + 4) (m := c1) slb rfl (bnd_i rfl) (bnd_i rfl) rfl rfl (by omega) (by omega) (Nat.le_refl _) ?_
        have hrd := (M.rdb 2 rfl).2.2.sl (i := 4 * i) (j := 4) (m := c1) (by omega) (by omega)
        rw [show 4 * i + 4 - 4 * i = 4 by omega]
        refine cc is_r5word (r5word_any _ _ _ _ _ hrd) ?_
        rintro e W ⟨rfl, hbel⟩
        replace M := M.call hbel
        refine ⟨_, rfl, ?_⟩
        rw [byt_mid (by omega)]
        refine s_bsliceB [cu (wordB b i)] M slw zw rfl (by decide) rfl ?_
        clear M; rintro g9 W M
        refine s_app M Tryd.underlying95 winfo rfl (by decide) rfl rfl (Reads.blk (M.B 0 rfl) rfl) (all1 rfl) ⟨by omega, by decide⟩ ?_
        clear M; rintro A5 c5 W M -
        have e : (wsF b i).map cu ++ [cu (wordB b i)] = (wsF b (i + 1)).map cu := by
          conv => rhs; unfold wsF
          rw [if_pos (by omega), List.map_append]; rfl
        rw [e] at M
        refine p_addN (b := 1) rfl rfl (by omega) ?_
        exact ⟨(i + 1, A5, c5), ⟨by dsimp only; omega, M.dropL⟩, (by repeat (first | exact trivial | refine ⟨rfl, ?_⟩)), by dsimp only; omega⟩
      · dsimp only at hge
        have : i = 16 := by omega
        subst this
        exact ⟨(A, c, []), M.fsub _ (by simp), (by repeat (first | exact trivial | refine ⟨rfl, ?_⟩))⟩
    · clear M
      rintro ⟨A, c, x0⟩ B5 W5 M
      dsimp only at M
      refine lp (Nat × Option Addr × Nat) (fun s W => 16 ≤ s.1 ∧ s.1 ≤ 64 ∧ St w gs W [] [⟨94, 1, s.2.1, s.1, s.2.2, (wsF b s.1).map cu⟩] [.loc ⟨b0, o0, none⟩ ((h8l h).map cu), .loc ⟨b2, o2, none⟩ (roots.map cu)]) (fun s => [(0, .slice (some ⟨b0, o0, none⟩) 8 c0), (2, .slice (some ⟨b2, o2, none⟩) 64 c2), (7, .slice s.2.1 s.1 s.2.2), (9, .int .i64 s.1)]) (fun s => 64 - s.1) (16, A, c) ⟨Nat.le_refl _, (show 16 ≤ 64 by decide), M⟩ (by repeat (first | exact trivial | refine ⟨rfl, ?_⟩)) ?_
      clear M
      rintro ⟨i, A, c⟩ E6 W6 ⟨hi1, hi, M⟩
      dsimp only at hi1 hi M
      refine p_lt rfl rfl (fun hlt => ?_) (fun hge => ?_)
      · dsimp only at hlt
        have hwl := wsF_len b i
        have hrow := M.row _ (List.mem_cons_self ..)
        obtain ⟨bw, ow, rfl, -, -⟩ := (Reads.of_own hrow).2 (show 0 < i by omega)
        have hcw := row_cells hrow _ rfl
        clear hrow
        have hx := getD_lt (wsF_lt b i) (i - 15)
        have hy := getD_lt (wsF_lt b i) (i - 2)
        have hu := getD_lt (wsF_lt b i) (i - 16)
        have hv := getD_lt (wsF_lt b i) (i - 7)
        refine p_subN (b := 15) rfl rfl (by omega) (by omega) ?_
        refine p_at slw rfl rfl rfl (by omega) ?_
        refine v_load agg_u32 rfl (hcw _ _ (cu_at (j := i - 15) (by omega))) ?_
        refine p_subN (b := 2) rfl rfl (by omega) (by omega) ?_
        refine p_at slw rfl rfl rfl (by omega) ?_
        refine v_load agg_u32 rfl (hcw _ _ (cu_at (j := i - 2) (by omega))) ?_
        refine cc is_r5right (r5right_any _ 7 _ hx (by decide) (by decide)) ?_
        rintro e W' ⟨rfl, rfl⟩
        refine ⟨_, rfl, ?_⟩
        refine cc is_r5right (r5right_any _ 18 _ hx (by decide) (by decide)) ?_
        rintro e W' ⟨rfl, rfl⟩
        refine ⟨_, rfl, ?_⟩
        refine p_xor rfl rfl (u32_xor_nat _ _ (rotr_lt _ hx) (rotr_lt _ hx)) ?_
        refine p_quo rfl rfl (by decide) (quo32 (c := 8) hx (by decide)) ?_
        refine p_xor rfl rfl (u32_xor_nat _ _ (xor_lt (rotr_lt _ hx) (rotr_lt _ hx)) (Nat.lt_of_le_of_lt (Nat.div_le_self _ _) hx)) ?_
        refine cc is_r5right (r5right_any _ 17 _ hy (by decide) (by decide)) ?_
        rintro e W' ⟨rfl, rfl⟩
        refine ⟨_, rfl, ?_⟩
        refine cc is_r5right (r5right_any _ 19 _ hy (by decide) (by decide)) ?_
        rintro e W' ⟨rfl, rfl⟩
        refine ⟨_, rfl, ?_⟩
        refine p_xor rfl rfl (u32_xor_nat _ _ (rotr_lt _ hy) (rotr_lt _ hy)) ?_
        refine p_quo rfl rfl (by decide) (quo32 (c := 1024) hy (by decide)) ?_
        refine p_xor rfl rfl (u32_xor_nat _ _ (xor_lt (rotr_lt _ hy) (rotr_lt _ hy)) (Nat.lt_of_le_of_lt (Nat.div_le_self _ _) hy)) ?_
        have es0 : sg0 ((wsF b i).getD (i - 15) 0) = (rotr ((wsF b i).getD (i - 15) 0) 7 ^^^ rotr ((wsF b i).getD (i - 15) 0) 18) ^^^ ((wsF b i).getD (i - 15) 0) / 8 := by unfold sg0; rw [Nat.shiftRight_eq_div_pow]
        have es1 : sg1 ((wsF b i).getD (i - 2) 0) = (rotr ((wsF b i).getD (i - 2) 0) 17 ^^^ rotr ((wsF b i).getD (i - 2) 0) 19) ^^^ ((wsF b i).getD (i - 2) 0) / 1024 := by unfold sg1; rw [Nat.shiftRight_eq_div_pow]
        have hnx := nextW_sum (wsF b i) i
        rw [← es0, ← es1]
        obtain ⟨s0, hs0⟩ : ∃ s0, s0 = sg0 ((wsF b i).getD (i - 15) 0) := ⟨_, rfl⟩
        obtain ⟨s1, hs1⟩ : ∃ s1, s1 = sg1 ((wsF b i).getD (i - 2) 0) := ⟨_, rfl⟩
        rw [← hs0, ← hs1] at hnx ⊢
        clear es0 es1
        replace M := M.drew
        refine drT (fun W => ∀ j u, ((wsF b i).map cu)[j]? = some u → W.cell? ((⟨bw, ow, none⟩ : Addr).add j) = some u) (.take 0 (.take 1 (.take 2 (.take 3 (.take 4 (.take 5 (.take 6 (.take 7 (.take 8 (.take 9 (.take 10 (.take 11 (.take 12 (.take 13 (.take 14 (.take 15 (.one 16 (.one 17 (.take 18 (.nil)))))))))))))))))))) (by kernel_rfl) hcw ?_
        refine p_subN (b := 16) rfl rfl (by omega) (by omega) ?_
        refine p_at slw rfl rfl rfl (by omega) ?_
        refine t_load agg_u32 rfl (fun W h => h _ _ (cu_at (j := i - 16) (by omega))) ?_
        refine p_add rfl rfl (add32 _ s0) ?_
        refine p_subN (b := 7) rfl rfl (by omega) (by omega) ?_
        refine p_at slw rfl rfl rfl (by omega) ?_
        refine t_load agg_u32 rfl (fun W h => h _ _ (cu_at (j := i - 7) (by omega))) ?_
        refine p_add rfl rfl (add32 _ _) ?_
        refine p_add rfl rfl (add32 _ s1) ?_
        rw [hnx]
        refine s_bsliceB [cu (nextW (wsF b i) i)] M slw zw rfl (by decide) rfl ?_
        clear M; rintro g9 W M
        have hcw2 := row_cells (M.row _ (List.mem_cons_self ..)) _ rfl
        refine ⟨hcw2, ?_⟩
        refine s_appK M Tryd.underlying95 winfo rfl (by decide) rfl rfl (Reads.blk (M.B 0 rfl) rfl) (by decide) (all1 rfl) ⟨by omega, by decide⟩ ?_
        clear M; rintro A5 c5 W M hkeep
        refine ⟨hkeep _ rfl, ?_⟩
        have e : (wsF b i).map cu ++ [cu (nextW (wsF b i) i)] = (wsF b (i + 1)).map cu := by
          conv => rhs; unfold wsF
          rw [if_neg (by omega), List.map_append]; rfl
        rw [e] at M
        refine p_addN (b := 1) rfl rfl (by omega) ?_
        exact ⟨(i + 1, A5, c5), ⟨by dsimp only; omega, by dsimp only; omega, M.dropL⟩, (by repeat (first | exact trivial | refine ⟨rfl, ?_⟩)), by dsimp only; omega⟩
      · dsimp only at hge
        have : i = 64 := by omega
        subst this
        exact ⟨(A, c, []), M, (by repeat (first | exact trivial | refine ⟨rfl, ?_⟩))⟩
  · clear M
    rintro ⟨A, c, x0⟩ B5 W5 M
    dsimp only at M
    have hwl := words_len b
    have hwlt := words_lt b
    have htk : take8 h b = add8 h (rndF roots (words b) h 64) := rfl
    rw [htk]
    obtain ⟨ws, hws⟩ : ∃ ws, ws = words b := ⟨_, rfl⟩
    rw [← hws] at M hwl hwlt ⊢
    clear hws htk
    have hW := RdL.ofvals (W := W5) (F := Ft w W5 (own [] [⟨94, 1, A, 64, c, ws.map cu⟩] gs) true) (ws.map cu)
    replace M := M.frzR (fr := true) hW
    clear hW
    have hdw : dW ws = D.sl 1 64 ((ws.map cu).map D.v) := by unfold dW; rw [hwl]
    dsimp only at M
    rw [← hdw] at M
    have hW := M.d1 0 rfl
    obtain ⟨bw, ow, rfl, Fw, hcw⟩ := dW_open hW (by decide)
    replace M := (M.addC (a := ⟨bw, ow, none⟩) Fw hcw).fsub [.loc ⟨bw, ow, none⟩ (ws.map cu), .loc ⟨b0, o0, none⟩ ((h8l h).map cu), .loc ⟨b2, o2, none⟩ (roots.map cu)] (by intro f hf; simp only [List.mem_cons, List.not_mem_nil, or_false] at hf ⊢; rcases hf with h | h | h <;> simp only [h, true_or, or_true])
    clear hW Fw hcw
    refine ev_assoc ?_
    refine cutS Nat (fun gv W => St w gs W [(gv, 94, hc h)] [] [.loc ⟨bw, ow, none⟩ (ws.map cu), .loc ⟨b0, o0, none⟩ ((h8l h).map cu), .loc ⟨b2, o2, none⟩ (roots.map cu)]) (fun gv => [(0, .slice (some ⟨b0, o0, none⟩) 8 c0), (2, .slice (some ⟨b2, o2, none⟩) 64 c2), (7, .slice (some ⟨bw, ow, none⟩) 64 c), (14, .slice (some ⟨gv, 0, none⟩) 8 8)]) ?_ ?_
    · refine s_mk8 M rfl rfl ?_
      clear M; rintro gv W M
      refine lp Nat (fun i W => i ≤ 8 ∧ St w gs W [(gv, 94, (hc h).take i ++ List.replicate (8 - i) (cu 0))] [] [.loc ⟨bw, ow, none⟩ (ws.map cu), .loc ⟨b0, o0, none⟩ ((h8l h).map cu), .loc ⟨b2, o2, none⟩ (roots.map cu)]) (fun i => [(0, .slice (some ⟨b0, o0, none⟩) 8 c0), (2, .slice (some ⟨b2, o2, none⟩) 64 c2), (7, .slice (some ⟨bw, ow, none⟩) 64 c), (14, .slice (some ⟨gv, 0, none⟩) 8 8), (15, .int .i64 i)]) (fun i => 8 - i) 0 ⟨Nat.zero_le _, M⟩ (by repeat (first | exact trivial | refine ⟨rfl, ?_⟩)) ?_
      clear M
      rintro i E6 W6 ⟨hi, M⟩
      refine p_lt rfl rfl (fun hlt => ?_) (fun hge => ?_)
      · have hi8 : i < 8 := by omega
        obtain ⟨y, hy⟩ : ∃ y, (hc h)[i]? = some y := ⟨_, List.getElem?_eq_getElem (by exact hi8)⟩
        have hy1 : y.oneCell' = true := by
          have := List.mem_of_getElem? hy
          simp only [hc, List.mem_cons, List.not_mem_nil, or_false] at this
          rcases this with h | h | h | h | h | h | h | h <;> rw [h] <;> rfl
        refine p_at slw rfl rfl rfl hi8 ?_
        refine v_load agg_u32 rfl (M.lc 1 rfl (i * 1) y (by rw [Nat.mul_one]; exact hy)) ?_
        refine p_atM (i := i) (q := i) slw rfl rfl rfl hi8 (by omega) ?_
        refine s_set 0 (off := i) y _ M rfl sz_u32 rfl rfl hy1 (by rw [List.length_append, List.length_take, List.length_replicate]; show i < min i 8 + (8 - i); omega) (part8_set hy rfl hi8) ?_
        clear M; rintro W M
        dsimp only [setL] at M
        refine p_addN (b := 1) rfl rfl (by omega) ?_
        exact ⟨i + 1, ⟨by omega, M⟩, (by repeat (first | exact trivial | refine ⟨rfl, ?_⟩)), by omega⟩
      · have : i = 8 := by omega
        subst this
        exact ⟨gv, M, (by repeat (first | exact trivial | refine ⟨rfl, ?_⟩))⟩
    · clear M
      rintro gv B6 W6 M
      refine cutS Unit (fun _ W => St w gs W [(gv, 94, hc (rndF roots ws h 64))] [] [.loc ⟨bw, ow, none⟩ (ws.map cu), .loc ⟨b0, o0, none⟩ ((h8l h).map cu), .loc ⟨b2, o2, none⟩ (roots.map cu)]) (fun _ => [(0, .slice (some ⟨b0, o0, none⟩) 8 c0), (14, .slice (some ⟨gv, 0, none⟩) 8 8)]) ?_ ?_
      · refine lp Nat (fun i W => i ≤ 64 ∧ St w gs W [(gv, 94, hc (rndF roots ws h i))] [] [.loc ⟨bw, ow, none⟩ (ws.map cu), .loc ⟨b0, o0, none⟩ ((h8l h).map cu), .loc ⟨b2, o2, none⟩ (roots.map cu)]) (fun i => [(0, .slice (some ⟨b0, o0, none⟩) 8 c0), (2, .slice (some ⟨b2, o2, none⟩) 64 c2), (7, .slice (some ⟨bw, ow, none⟩) 64 c), (14, .slice (some ⟨gv, 0, none⟩) 8 8), (16, .int .i64 i)]) (fun i => 64 - i) 0 ⟨Nat.zero_le _, M⟩ (by repeat (first | exact trivial | refine ⟨rfl, ?_⟩)) ?_
        clear M
        rintro i E7 W7 ⟨hi, M⟩
        refine p_lt rfl rfl (fun hlt => ?_) (fun hge => ?_)
        · have hi64 : i < 64 := by omega
          have hrn : rndF roots ws h (i + 1) = rnd (rndF roots ws h i) (roots.getD i 0) (ws.getD i 0) := rfl
          have hv := rndF_ok roots ws hok i
          obtain ⟨v, hvv⟩ : ∃ v, v = rndF roots ws h i := ⟨_, rfl⟩
          rw [← hvv] at M hv hrn
          clear hvv
          obtain ⟨kk, hkk⟩ : ∃ kk, kk = roots.getD i 0 := ⟨_, rfl⟩
          obtain ⟨wk, hwk⟩ : ∃ wk, wk = ws.getD i 0 := ⟨_, rfl⟩
          have hck : (roots.map cu)[i * 1]? = some (.int .u32 (kk : Nat)) := by rw [hkk]; exact cu_at (show i < 64 from hi64)
          have hcw : (ws.map cu)[i * 1]? = some (.int .u32 (wk : Nat)) := by rw [hwk]; exact cu_at (by omega)
          rw [← hkk, ← hwk] at hrn
          clear hkk hwk
          replace M := M.drew
          refine drT (Kp w gs [(gv, 94, hc v)] []) (.take 0 (.take 1 (.take 2 (.take 3 (.take 4 (.take 5 (.take 6 (.take 7 (.take 8 (.take 9 (.take 10 (.take 11 (.take 12 (.take 13 (.take 14 (.take 15 (.take 16 (.nil)))))))))))))))))) (by kernel_rfl) (M.kp (by simp) (by simp)) ?_
          refine p_at (i := 4) slw rfl rfl rfl (by decide) ?_
          refine t_load agg_u32 rfl (fun W K => (K.B 0 rfl).at_ rfl) ?_
          refine p_at (i := 5) slw rfl rfl rfl (by decide) ?_
          refine t_load agg_u32 rfl (fun W K => (K.B 0 rfl).at_ rfl) ?_
          refine p_and rfl rfl (u32_and_nat _ _ hv.e hv.f) ?_
          refine p_at (i := 4) slw rfl rfl rfl (by decide) ?_
          refine t_load agg_u32 rfl (fun W K => (K.B 0 rfl).at_ rfl) ?_
          refine p_xor rfl rfl (u32_xor_nat _ 4294967295 hv.e (by decide)) ?_
          refine p_at (i := 6) slw rfl rfl rfl (by decide) ?_
          refine t_load agg_u32 rfl (fun W K => (K.B 0 rfl).at_ rfl) ?_
          refine p_and rfl rfl (u32_and_nat _ _ (xor_lt hv.e (by decide)) hv.g) ?_
          refine p_xor rfl rfl (u32_xor_nat _ _ (and_lt hv.e) (and_lt (xor_lt hv.e (by decide)))) ?_
          replace M := M.drew
          refine drT (Kp w gs [(gv, 94, hc v)] []) (.take 0 (.take 1 (.take 2 (.take 3 (.take 4 (.take 5 (.take 6 (.take 7 (.take 8 (.take 9 (.take 10 (.take 11 (.take 12 (.take 13 (.take 14 (.take 15 (.take 16 (.take 17 (.take 18 (.take 19 (.take 20 (.take 21 (.take 22 (.take 23 (.nil))))))))))))))))))))))))) (by kernel_rfl) (M.kp (by simp) (by simp)) ?_
          refine p_at (i := 0) slw rfl rfl rfl (by decide) ?_
          refine t_load agg_u32 rfl (fun W K => (K.B 0 rfl).at_ rfl) ?_
          refine p_at (i := 1) slw rfl rfl rfl (by decide) ?_
          refine t_load agg_u32 rfl (fun W K => (K.B 0 rfl).at_ rfl) ?_
          refine p_and rfl rfl (u32_and_nat _ _ hv.a hv.b) ?_
          refine p_at (i := 0) slw rfl rfl rfl (by decide) ?_
          refine t_load agg_u32 rfl (fun W K => (K.B 0 rfl).at_ rfl) ?_
          refine p_at (i := 2) slw rfl rfl rfl (by decide) ?_
          refine t_load agg_u32 rfl (fun W K => (K.B 0 rfl).at_ rfl) ?_
          refine p_and rfl rfl (u32_and_nat _ _ hv.a hv.c) ?_
          refine p_or rfl rfl (u32_or_nat _ _ (and_lt hv.a) (and_lt hv.a)) ?_
          refine p_at (i := 1) slw rfl rfl rfl (by decide) ?_
          refine t_load agg_u32 rfl (fun W K => (K.B 0 rfl).at_ rfl) ?_
          refine p_at (i := 2) slw rfl rfl rfl (by decide) ?_
          refine t_load agg_u32 rfl (fun W K => (K.B 0 rfl).at_ rfl) ?_
          refine p_and rfl rfl (u32_and_nat _ _ hv.b hv.c) ?_
          refine p_or rfl rfl (u32_or_nat _ _ (or_lt (and_lt hv.a) (and_lt hv.a)) (and_lt hv.b)) ?_
          rw [maj_or]
          replace M := M.drew
          refine drT (Kp w gs [(gv, 94, hc v)] [.loc ⟨b2, o2, none⟩ (roots.map cu), .loc ⟨bw, ow, none⟩ (ws.map cu)]) (.take 0 (.take 1 (.take 2 (.take 3 (.take 4 (.take 5 (.take 7 (.take 8 (.take 9 (.take 12 (.take 13 (.take 14 (.take 18 (.take 20 (.take 21 (.take 22 (.take 23 (.take 25 (.take 26 (.take 27 (.take 28 (.one 6 (.one 10 (.take 11 (.one 15 (.take 16 (.take 17 (.take 19 (.take 24 (.take 29 (.take 30 (.nil)))))))))))))))))))))))))))))))) (by kernel_rfl) (M.kp (by simp) (by simp)) ?_
          refine p_at (i := 7) slw rfl rfl rfl (by decide) ?_
          refine t_load agg_u32 rfl (fun W K => (K.B 0 rfl).at_ rfl) ?_
          refine p_at (i := 4) slw rfl rfl rfl (by decide) ?_
          refine t_load agg_u32 rfl (fun W K => (K.B 0 rfl).at_ rfl) ?_
          refine p_at (i := 4) slw rfl rfl rfl (by decide) ?_
          refine t_load agg_u32 rfl (fun W K => (K.B 0 rfl).at_ rfl) ?_
          refine p_at (i := 4) slw rfl rfl rfl (by decide) ?_
          refine t_load agg_u32 rfl (fun W K => (K.B 0 rfl).at_ rfl) ?_
          refine p_at slw rfl rfl rfl hi64 ?_
          refine t_load agg_u32 rfl (fun W K => K.lc 0 rfl (i * 1) _ hck) ?_
          refine p_at slw rfl rfl rfl hi64 ?_
          refine t_load agg_u32 rfl (fun W K => K.lc 1 rfl (i * 1) _ hcw) ?_
          refine cc is_r5right (r5right_any _ 6 _ hv.e (by decide) (by decide)) ?_
          rintro e W' ⟨rfl, rfl⟩
          refine ⟨_, rfl, (M.kp (by simp) (by simp)), ?_⟩
          refine cc is_r5right (r5right_any _ 11 _ hv.e (by decide) (by decide)) ?_
          rintro e W' ⟨rfl, rfl⟩
          refine ⟨_, rfl, (M.kp (by simp) (by simp)), ?_⟩
          refine p_xor rfl rfl (u32_xor_nat _ _ (rotr_lt _ hv.e) (rotr_lt _ hv.e)) ?_
          refine cc is_r5right (r5right_any _ 25 _ hv.e (by decide) (by decide)) ?_
          rintro e W' ⟨rfl, rfl⟩
          refine ⟨_, rfl, (M.kp (by simp) (by simp)), ?_⟩
          refine p_xor rfl rfl (u32_xor_nat _ _ (xor_lt (rotr_lt _ hv.e) (rotr_lt _ hv.e)) (rotr_lt _ hv.e)) ?_
          refine p_add rfl rfl (add32 _ _) ?_
          refine p_add rfl rfl (add32 _ _) ?_
          refine p_add rfl rfl (add32 _ kk) ?_
          refine p_add rfl rfl (add32 _ wk) ?_
          rw [tt1_ref]
          obtain ⟨one, hone⟩ : ∃ one, one = tt1 v kk wk := ⟨_, rfl⟩
          rw [← hone]
          replace M := M.drew
          refine drT (Kp w gs [(gv, 94, hc v)] []) (.take 0 (.take 1 (.take 2 (.take 4 (.take 5 (.take 6 (.take 9 (.take 10 (.take 11 (.take 14 (.one 3 (.one 7 (.take 8 (.one 12 (.take 13 (.take 15 (.take 16 (.nil)))))))))))))))))) (by kernel_rfl) (M.kp (by simp) (by simp)) ?_
          refine p_at (i := 0) slw rfl rfl rfl (by decide) ?_
          refine t_load agg_u32 rfl (fun W K => (K.B 0 rfl).at_ rfl) ?_
          refine p_at (i := 0) slw rfl rfl rfl (by decide) ?_
          refine t_load agg_u32 rfl (fun W K => (K.B 0 rfl).at_ rfl) ?_
          refine p_at (i := 0) slw rfl rfl rfl (by decide) ?_
          refine t_load agg_u32 rfl (fun W K => (K.B 0 rfl).at_ rfl) ?_
          refine cc is_r5right (r5right_any _ 2 _ hv.a (by decide) (by decide)) ?_
          rintro e W' ⟨rfl, rfl⟩
          refine ⟨_, rfl, (M.kp (by simp) (by simp)), ?_⟩
          refine cc is_r5right (r5right_any _ 13 _ hv.a (by decide) (by decide)) ?_
          rintro e W' ⟨rfl, rfl⟩
          refine ⟨_, rfl, (M.kp (by simp) (by simp)), ?_⟩
          refine p_xor rfl rfl (u32_xor_nat _ _ (rotr_lt _ hv.a) (rotr_lt _ hv.a)) ?_
          refine cc is_r5right (r5right_any _ 22 _ hv.a (by decide) (by decide)) ?_
          rintro e W' ⟨rfl, rfl⟩
          refine ⟨_, rfl, (M.kp (by simp) (by simp)), ?_⟩
          refine p_xor rfl rfl (u32_xor_nat _ _ (xor_lt (rotr_lt _ hv.a) (rotr_lt _ hv.a)) (rotr_lt _ hv.a)) ?_
          refine p_add rfl rfl (add32 _ _) ?_
          rw [tt2_ref]
          obtain ⟨two, htwo⟩ : ∃ two, two = tt2 v := ⟨_, rfl⟩
          rw [← htwo]
          refine cutS Unit (fun _ W => St w gs W [(gv, 94, shl8 (hc v) 0)] [] [.loc ⟨bw, ow, none⟩ (ws.map cu), .loc ⟨b0, o0, none⟩ ((h8l h).map cu), .loc ⟨b2, o2, none⟩ (roots.map cu)]) (fun _ => [(0, .slice (some ⟨b0, o0, none⟩) 8 c0), (2, .slice (some ⟨b2, o2, none⟩) 64 c2), (7, .slice (some ⟨bw, ow, none⟩) 64 c), (14, .slice (some ⟨gv, 0, none⟩) 8 8), (16, .int .i64 i), (19, .int .u32 one), (20, .int .u32 two)]) ?_ ?_
          · refine lp Nat (fun j W => j ≤ 7 ∧ St w gs W [(gv, 94, shl8 (hc v) j)] [] [.loc ⟨bw, ow, none⟩ (ws.map cu), .loc ⟨b0, o0, none⟩ ((h8l h).map cu), .loc ⟨b2, o2, none⟩ (roots.map cu)]) (fun j => [(0, .slice (some ⟨b0, o0, none⟩) 8 c0), (2, .slice (some ⟨b2, o2, none⟩) 64 c2), (7, .slice (some ⟨bw, ow, none⟩) 64 c), (14, .slice (some ⟨gv, 0, none⟩) 8 8), (16, .int .i64 i), (19, .int .u32 one), (20, .int .u32 two), (21, .int .i64 j)]) (fun j => j) 7 ⟨Nat.le_refl _, M⟩ (by repeat (first | exact trivial | refine ⟨rfl, ?_⟩)) ?_
            clear M
            rintro j E8 W8 ⟨hj, M⟩
            refine p_gt rfl rfl (fun hj0 => ?_) (fun hj0 => ?_)
            · obtain ⟨y, hy1, hy2, hy3⟩ := shl8_set (cu v.a) (cu v.b) (cu v.c) (cu v.d) (cu v.e) (cu v.f) (cu v.g) (cu v.h) j (by omega) hj
              have hyo : y.oneCell' = true := by rcases hy3 with h | h | h | h | h | h | h <;> rw [h] <;> rfl
              refine p_subN (b := 1) rfl rfl (by omega) (by omega) ?_
              refine p_atM (i := j - 1) (q := j - 1) slw rfl rfl rfl (by omega) (by omega) ?_
              refine v_load agg_u32 rfl ((M.B 0 rfl).at_ hy1) ?_
              refine p_atM (i := j) (q := j) slw rfl rfl rfl (by omega) (by omega) ?_
              refine s_set 0 (off := j) y _ M rfl sz_u32 rfl rfl hyo (by rw [shl8_len rfl hj]; omega) hy2 ?_
              clear M; rintro W M
              dsimp only [setL] at M
              refine p_subN (b := 1) rfl rfl (by omega) (by omega) ?_
              exact ⟨j - 1, ⟨by omega, M⟩, (by repeat (first | exact trivial | refine ⟨rfl, ?_⟩)), by omega⟩
            · have : j = 0 := by omega
              subst this
              exact ⟨(), M, (by repeat (first | exact trivial | refine ⟨rfl, ?_⟩))⟩
          · clear M
            rintro - B8 W8 M
            replace M : St w gs W8 [(gv, 94, [cu v.a, cu v.a, cu v.b, cu v.c, cu v.d, cu v.e, cu v.f, cu v.g])] [] [.loc ⟨bw, ow, none⟩ (ws.map cu), .loc ⟨b0, o0, none⟩ ((h8l h).map cu), .loc ⟨b2, o2, none⟩ (roots.map cu)] := M
            refine p_at (i := 4) slw rfl rfl rfl (by decide) ?_
            refine v_load agg_u32 rfl ((M.B 0 rfl).at_ rfl) ?_
            refine p_add rfl rfl (add32 v.d one) ?_
            refine p_atM (i := 4) (q := 4) slw rfl rfl rfl (by decide) (by decide) ?_
            refine s_set 0 (off := 4) (cu ((v.d + one) % 4294967296)) _ M rfl sz_u32 rfl rfl rfl (Nat.le_of_ble_eq_true rfl) rfl ?_
            clear M; rintro W M
            dsimp only [setL, List.set] at M
            refine p_add rfl rfl (add32 one two) ?_
            refine p_atM (i := 0) (q := 0) slw rfl rfl rfl (by decide) (by decide) ?_
            refine s_set 0 (off := 0) (cu ((one + two) % 4294967296)) _ M rfl sz_u32 rfl rfl rfl (Nat.le_of_ble_eq_true rfl) rfl ?_
            clear M; rintro W M
            dsimp only [setL, List.set] at M
            refine p_addN (b := 1) rfl rfl (by omega) ?_
            refine ⟨i + 1, ⟨by omega, ?_⟩, (by repeat (first | exact trivial | refine ⟨rfl, ?_⟩)), by omega⟩
            rw [hrn]
            unfold rnd hc
            rw [← hone, ← htwo]
            exact M
        · have : i = 64 := by omega
          subst this
          exact ⟨(), M, (by repeat (first | exact trivial | refine ⟨rfl, ?_⟩))⟩
      · clear M
        rintro - B7 W7 M
        obtain ⟨v, hvv⟩ : ∃ v, v = rndF roots ws h 64 := ⟨_, rfl⟩
        rw [← hvv] at M ⊢
        clear hvv
        refine lp Nat (fun i W => i ≤ 8 ∧ St w gs W [(gv, 94, (hc (add8 h v)).take i ++ (hc v).drop i)] [] [.loc ⟨b0, o0, none⟩ ((h8l h).map cu)]) (fun i => [(0, .slice (some ⟨b0, o0, none⟩) 8 c0), (14, .slice (some ⟨gv, 0, none⟩) 8 8), (22, .int .i64 i)]) (fun i => 8 - i) 0 ⟨Nat.zero_le _, M.fsub _ (by intro f hf; simp only [List.mem_cons, List.not_mem_nil, or_false] at hf ⊢; simp only [hf, true_or, or_true])⟩ (by repeat (first | exact trivial | refine ⟨rfl, ?_⟩)) ?_
        clear M
        rintro i E8 W8 ⟨hi, M⟩
        refine p_lt rfl rfl (fun hlt => ?_) (fun hge => ?_)
        · have hi8 : i < 8 := by omega
          have hx : ((hc (add8 h v)).take i ++ (hc v).drop i)[i]? = some (cu ((h8l v).getD i 0)) := by
            rw [List.getElem?_append_right (by rw [List.length_take]; omega), List.length_take, Nat.min_eq_left (by exact Nat.le_of_lt hi8), Nat.sub_self, List.getElem?_drop, Nat.add_zero]
            have : hc v = (h8l v).map cu := rfl
            rw [this, List.getElem?_map, List.getD_eq_getElem?_getD, List.getElem?_eq_getElem (by exact hi8)]; rfl
          have hs : (hc (add8 h v))[i]? = some (cu (((h8l v).getD i 0 + (h8l h).getD i 0) % 4294967296)) := by
            have : ∀ i, i < 8 → (hc (add8 h v))[i]? = some (cu (((h8l v).getD i 0 + (h8l h).getD i 0) % 4294967296)) := by
              intro i hi
              match i, hi with
              | 0, _ => simp [hc, add8, h8l, Nat.add_comm]
              | 1, _ => simp [hc, add8, h8l, Nat.add_comm]
              | 2, _ => simp [hc, add8, h8l, Nat.add_comm]
              | 3, _ => simp [hc, add8, h8l, Nat.add_comm]
              | 4, _ => simp [hc, add8, h8l, Nat.add_comm]
              | 5, _ => simp [hc, add8, h8l, Nat.add_comm]
              | 6, _ => simp [hc, add8, h8l, Nat.add_comm]
              | 7, _ => simp [hc, add8, h8l, Nat.add_comm]
            exact this i hi8
          replace M := M.drew
          refine drZ 12 (Kp w gs [(gv, 94, (hc (add8 h v)).take i ++ (hc v).drop i)] [.loc ⟨b0, o0, none⟩ ((h8l h).map cu)]) [(0, true), (1, true), (2, true), (3, true), (4, true), (5, true), (6, true), (7, true), (8, true), (9, true), (10, true), (11, true)] (by kernel_rfl) (M.kp (by simp) (by simp)) ?_
          refine p_atM (i := i) (q := i) slw rfl rfl rfl hi8 (by omega) ?_
          refine t_load agg_u32 rfl (fun W K => (K.B 0 rfl).at_ hx) ?_
          refine p_at (i := i) slw rfl rfl rfl hi8 ?_
          refine t_load agg_u32 rfl (fun W K => K.lc 0 rfl (i * 1) _ (cu_at (l := h8l h) (j := i) (by exact hi8))) ?_
          refine p_add rfl rfl (add32 _ _) ?_
          refine p_atM (i := i) (q := i) slw rfl rfl rfl hi8 (by omega) ?_
          refine s_set 0 (off := i) (cu (((h8l v).getD i 0 + (h8l h).getD i 0) % 4294967296)) _ M rfl sz_u32 rfl rfl rfl (by rw [List.length_append, List.length_take, List.length_drop]; show i < min i 8 + (8 - i); omega) (mix8_set hs rfl rfl hi8) ?_
          clear M; rintro W M
          dsimp only [setL] at M
          refine p_addN (b := 1) rfl rfl (by omega) ?_
          exact ⟨i + 1, ⟨by omega, M⟩, (by repeat (first | exact trivial | refine ⟨rfl, ?_⟩)), by omega⟩
        · have : i = 8 := by omega
          subst this
          replace M := M.frzB (fr := true) (s := 1) (n := 8) (c := 8) (ds := (hc (add8 h v)).map D.v) (RdL.ofvals (hc (add8 h v))) rfl (Nat.le_refl _)
          exact ⟨some ⟨gv, 0, none⟩, 8, rfl, M.finF1 0 rfl, M.below⟩
end Go.Proofs.YtojjfkbffjkojaaDoor
