/- SHA-256, plainly. SHA-256, plainly: rounds. Words of 32 bits: single operations. Reference 05: the walks of right, word, round, constants, Sum: they come to SHA-256 as it stands in ShaH. Reference 05: the walks of constants and Sum: SHA-256. Numbers and bytes in one way: the plain functions and their laws. Numbers and bytes in one way: the walks of package vint. Numbers and bytes in one way: the walk of vint.Get. Numbers and bytes in one way: the walks of vint.GetBytes, PutInt. Numbers and bytes in one way: the reference's walks. Reference 07: the walks of Encode, Hash, Fold. The walk of digest's words. The walk of digest's take. append onto a slice that is full: a new row. No program in sight. -/
import Derived.Test.YtdlljmmgkoeilaaDoorG18
import Derived.Test.YtdlljmmgkoeilaaDoorG03
import Derived.Test.YtdlljmmgkoeilaaDoorG04
import Derived.WalkSmall
import Derived.Test.YtdlljmmgkoeilaaDoorG12
import Derived.Test.YtdlljmmgkoeilaaDoorG13
namespace Go.Proofs.YtdlljmmgkoeilaaDoor
def byt (b : List UInt8) (k : Nat) : Nat := (b.getD k 0).toNat
theorem byt_lt (b : List UInt8) (k : Nat) : byt b k < 256 := (b.getD k 0).toNat_lt
/-- Four bytes, the highest first. -/
def wordB (b : List UInt8) (i : Nat) : Nat := (((byt b (4 * i) <<< 24) ||| (byt b (4 * i + 1) <<< 16)) ||| (byt b (4 * i + 2) <<< 8)) ||| byt b (4 * i + 3)
def sg0 (x : Nat) : Nat := (rotr x 7 ^^^ rotr x 18) ^^^ (x >>> 3)
def sg1 (x : Nat) : Nat := (rotr x 17 ^^^ rotr x 19) ^^^ (x >>> 10)
def nextW (w : List Nat) (i : Nat) : Nat := (((sg1 (w.getD (i - 2) 0) + w.getD (i - 7) 0) % 4294967296 + sg0 (w.getD (i - 15) 0)) % 4294967296 + w.getD (i - 16) 0) % 4294967296
/-- The first i of the words of 64 bytes. -/
def wsF (b : List UInt8) : Nat → List Nat
  | 0 => []
  | i + 1 => wsF b i ++ [if i < 16 then wordB b i else nextW (wsF b i) i]
theorem wsF_len (b : List UInt8) : ∀ i, (wsF b i).length = i
  | 0 => rfl
  | i + 1 => by unfold wsF; rw [List.length_append, wsF_len b i]; rfl
theorem shl_lt {x n : Nat} (h : x < 256) (hn : n ≤ 24) : x <<< n < 4294967296 := by
  rw [Nat.shiftLeft_eq]
  have : 2 ^ n ≤ 2 ^ 24 := Nat.pow_le_pow_right (by decide) hn
  have h2 : x * 2 ^ n ≤ 255 * 2 ^ 24 := Nat.mul_le_mul (by omega) this
  exact Nat.lt_of_le_of_lt h2 (by decide)
theorem or_lt {x y : Nat} (hx : x < 4294967296) (hy : y < 4294967296) : x ||| y < 4294967296 := Nat.or_lt_two_pow (n := 32) hx hy
theorem xor_lt {x y : Nat} (hx : x < 4294967296) (hy : y < 4294967296) : x ^^^ y < 4294967296 := Nat.xor_lt_two_pow (n := 32) hx hy
theorem and_lt {x y : Nat} (hx : x < 4294967296) : x &&& y < 4294967296 := Nat.lt_of_le_of_lt Nat.and_le_left hx
theorem shr_lt {x : Nat} (n : Nat) (hx : x < 4294967296) : x >>> n < 4294967296 := by
  rw [Nat.shiftRight_eq_div_pow]; exact Nat.lt_of_le_of_lt (Nat.div_le_self _ _) hx
theorem wordB_lt (b : List UInt8) (i : Nat) : wordB b i < 4294967296 :=
  or_lt (or_lt (or_lt (shl_lt (byt_lt _ _) (by decide)) (shl_lt (byt_lt _ _) (by decide))) (shl_lt (byt_lt _ _) (by decide))) (Nat.lt_trans (byt_lt _ _) (by decide))
theorem wsF_lt (b : List UInt8) : ∀ (i : Nat), ∀ x ∈ wsF b i, x < 4294967296
  | 0, x, h => by cases h
  | i + 1, x, h => by
    unfold wsF at h
    rcases List.mem_append.1 h with h | h
    · exact wsF_lt b i x h
    · simp only [List.mem_singleton] at h
      subst h
      split
      · exact wordB_lt b i
      · exact Nat.mod_lt _ (by decide)
theorem getD_lt {l : List Nat} (h : ∀ x ∈ l, x < 4294967296) (j : Nat) : l.getD j 0 < 4294967296 := by
  rw [List.getD_eq_getElem?_getD]
  cases hx : l[j]? with
  | none => decide
  | some x => exact h x (List.mem_of_getElem? hx)
def words (b : List UInt8) : List Nat := wsF b 64
/-- A cell of a word. -/
def cu (n : Nat) : Value := .int .u32 (n : Int)
theorem cu_set {L : List Nat} {i : Nat} (hL : L.length = i) (hi : i < 64) (v : Nat) : (L.map cu ++ List.replicate (64 - i) (cu 0)).set i (cu v) = (L ++ [v]).map cu ++ List.replicate (64 - (i + 1)) (cu 0) := by
  rw [List.set_append_right _ _ (by simp [hL]), List.length_map, hL, Nat.sub_self, show 64 - i = (64 - (i + 1)) + 1 by omega, List.replicate_succ, List.set_cons_zero, List.map_append, List.append_assoc]
  rfl
theorem cu_get {L : List Nat} {R : List Value} {j : Nat} (hj : j < L.length) : (L.map cu ++ R)[j]? = some (cu (L.getD j 0)) := by
  rw [List.getElem?_append_left (by simpa using hj), List.getElem?_map, List.getD_eq_getElem?_getD, List.getElem?_eq_getElem hj]; rfl
end Go.Proofs.YtdlljmmgkoeilaaDoor
namespace Go.Proofs.YtdlljmmgkoeilaaDoor
/-- Eight words. -/
structure H8 where
  a : Nat
  b : Nat
  c : Nat
  d : Nat
  e : Nat
  f : Nat
  g : Nat
  h : Nat
def hc (v : H8) : List Value := [cu v.a, cu v.b, cu v.c, cu v.d, cu v.e, cu v.f, cu v.g, cu v.h]
structure H8.Ok (v : H8) : Prop where
  a : v.a < 4294967296
  b : v.b < 4294967296
  c : v.c < 4294967296
  d : v.d < 4294967296
  e : v.e < 4294967296
  f : v.f < 4294967296
  g : v.g < 4294967296
  h : v.h < 4294967296
def bs1 (e : Nat) : Nat := (rotr e 6 ^^^ rotr e 11) ^^^ rotr e 25
def bs0 (a : Nat) : Nat := (rotr a 2 ^^^ rotr a 13) ^^^ rotr a 22
def chs (e f g : Nat) : Nat := (e &&& f) ^^^ ((4294967295 ^^^ e) &&& g)
def maj (a b c : Nat) : Nat := ((a &&& b) ^^^ (a &&& c)) ^^^ (b &&& c)
def tt1 (v : H8) (k w : Nat) : Nat := ((((v.h + bs1 v.e) % 4294967296 + chs v.e v.f v.g) % 4294967296 + k) % 4294967296 + w) % 4294967296
def tt2 (v : H8) : Nat := (bs0 v.a + maj v.a v.b v.c) % 4294967296
def rnd (v : H8) (k w : Nat) : H8 := ⟨(tt1 v k w + tt2 v) % 4294967296, v.a, v.b, v.c, (v.d + tt1 v k w) % 4294967296, v.e, v.f, v.g⟩
theorem rnd_ok {v : H8} (h : v.Ok) (k w : Nat) : (rnd v k w).Ok := ⟨Nat.mod_lt _ (by decide), h.a, h.b, h.c, Nat.mod_lt _ (by decide), h.e, h.f, h.g⟩
/-- i rounds. -/
def rndF (ks ws : List Nat) (v : H8) : Nat → H8
  | 0 => v
  | i + 1 => rnd (rndF ks ws v i) (ks.getD i 0) (ws.getD i 0)
theorem rndF_ok (ks ws : List Nat) {v : H8} (h : v.Ok) : ∀ i, (rndF ks ws v i).Ok
  | 0 => h
  | i + 1 => rnd_ok (rndF_ok ks ws h i) _ _
def add8 (x y : H8) : H8 := ⟨(x.a + y.a) % 4294967296, (x.b + y.b) % 4294967296, (x.c + y.c) % 4294967296, (x.d + y.d) % 4294967296, (x.e + y.e) % 4294967296, (x.f + y.f) % 4294967296, (x.g + y.g) % 4294967296, (x.h + y.h) % 4294967296⟩
theorem add8_ok (x y : H8) : (add8 x y).Ok := ⟨Nat.mod_lt _ (by decide), Nat.mod_lt _ (by decide), Nat.mod_lt _ (by decide), Nat.mod_lt _ (by decide), Nat.mod_lt _ (by decide), Nat.mod_lt _ (by decide), Nat.mod_lt _ (by decide), Nat.mod_lt _ (by decide)⟩
def begin8 : H8 := ⟨1779033703, 3144134277, 1013904242, 2773480762, 1359893119, 2600822924, 528734635, 1541459225⟩
def roots : List Nat := [0x428a2f98, 0x71374491, 0xb5c0fbcf, 0xe9b5dba5, 0x3956c25b, 0x59f111f1, 0x923f82a4, 0xab1c5ed5,
  0xd807aa98, 0x12835b01, 0x243185be, 0x550c7dc3, 0x72be5d74, 0x80deb1fe, 0x9bdc06a7, 0xc19bf174,
  0xe49b69c1, 0xefbe4786, 0x0fc19dc6, 0x240ca1cc, 0x2de92c6f, 0x4a7484aa, 0x5cb0a9dc, 0x76f988da,
  0x983e5152, 0xa831c66d, 0xb00327c8, 0xbf597fc7, 0xc6e00bf3, 0xd5a79147, 0x06ca6351, 0x14292967,
  0x27b70a85, 0x2e1b2138, 0x4d2c6dfc, 0x53380d13, 0x650a7354, 0x766a0abb, 0x81c2c92e, 0x92722c85,
  0xa2bfe8a1, 0xa81a664b, 0xc24b8b70, 0xc76c51a3, 0xd192e819, 0xd6990624, 0xf40e3585, 0x106aa070,
  0x19a4c116, 0x1e376c08, 0x2748774c, 0x34b0bcb5, 0x391c0cb3, 0x4ed8aa4a, 0x5b9cca4f, 0x682e6ff3,
  0x748f82ee, 0x78a5636f, 0x84c87814, 0x8cc70208, 0x90befffa, 0xa4506ceb, 0xbef9a3f7, 0xc67178f2]
/-- What 64 bytes make of eight words. -/
def take8 (h : H8) (b : List UInt8) : H8 := add8 h (rndF roots (words b) h 64)
/-- What all whole blocks make; n blocks. -/
def blocksF (h : H8) : Nat → List UInt8 → H8
  | 0, _ => h
  | n + 1, b => blocksF (take8 h (b.take 64)) n (b.drop 64)
def put4 (x : Nat) : List UInt8 := [UInt8.ofNat (x >>> 24), UInt8.ofNat (x >>> 16), UInt8.ofNat (x >>> 8), UInt8.ofNat x]
def out8 (h : H8) : List UInt8 := put4 h.a ++ (put4 h.b ++ (put4 h.c ++ (put4 h.d ++ (put4 h.e ++ (put4 h.f ++ (put4 h.g ++ put4 h.h))))))
/-- What is put behind so many bytes. -/
def padL (n : Nat) : List UInt8 := (128 : UInt8) :: (List.replicate ((119 - n % 64) % 64) (0 : UInt8) ++ [UInt8.ofNat ((8 * n) >>> 56), UInt8.ofNat ((8 * n) >>> 48), UInt8.ofNat ((8 * n) >>> 40), UInt8.ofNat ((8 * n) >>> 32), UInt8.ofNat ((8 * n) >>> 24), UInt8.ofNat ((8 * n) >>> 16), UInt8.ofNat ((8 * n) >>> 8), UInt8.ofNat (8 * n)])
def sha (b : List UInt8) : List UInt8 := out8 (blocksF begin8 ((b ++ padL b.length).length / 64) (b ++ padL b.length))
end Go.Proofs.YtdlljmmgkoeilaaDoor
namespace Go.Proofs.YtdlljmmgkoeilaaDoor
open Go.RowKit
section
variable {P : Program} {E : Env} {d : Option Nat} {ty : TypeId} {p : String} {af : Array Edge} {g : Option (Nat × Bool)} {x y : Operand} {t : TypeId} {k : Value → Prop} {kd : IntKind}
/-- The place of an element in a block. -/
theorem p_atB {b o q : Nat} {n i : Nat} {e : TypeId} {s : Nat} {j : Int} (hT : arrOf P t = some (n, e, s)) (hx : val E x = .pointer (some ⟨b, o, none⟩)) (hy : val E y = .int kd j) (hj : j = (i : Int)) (hi : i < n) (hq : o + i * s = q)
    (h : k (.pointer (some ⟨b, q, none⟩))) : VPure P E { dst := d, op := .indexAddr t x y, type := ty, pos := p, after := af, guard := g } k :=
  p_atA hT hx hy hj hi (by rw [Addr.add_lit, hq]; exact h)
end
theorem Rd.get {w : World} {B n : Nat} {ad : Addr} {l : List UInt8} (h : Rd w B (some ad) n l) {j : Nat} (hj : j < n) : w.cell? (ad.add (j * 1)) = some (.int .u8 (byt l j : Nat)) := by
  obtain ⟨b, off, e, hc⟩ := h.at_ hj
  injection e with e
  subst e
  rw [Nat.mul_one, Addr.add_lit]; exact hc
theorem agg_u32 : aggOf Tryd.prog 130 = some (false, 1) := by kernel_rfl
theorem agg_by : aggOf Tryd.prog 5 = some (false, 1) := by kernel_rfl
theorem sz_u32 : (Tryd.prog.info? 130).map (·.size) = some 1 := by kernel_rfl
theorem u_byt : (Tryd.prog.underlying 5).isSome = true := by kernel_rfl
theorem u_u32 : Tryd.prog.underlying 130 = some (.int .u32) := by kernel_rfl
theorem sl_by : slOf Tryd.prog 23 = some (5, 1) := by kernel_rfl
theorem shl32 {x n : Nat} (h : x < 256) (hn : n ≤ 24) : IntKind.u32.wrap ((x : Int) * 2 ^ (min ((n : Nat) : Int).toNat 32)) = ((x <<< n : Nat) : Int) := by
  have := shl_lt h hn
  rw [Nat.shiftLeft_eq] at this ⊢
  rw [Int.toNat_natCast, Nat.min_eq_left (by omega), IntKind.wrap_u32']
  have e : ((x * 2 ^ n : Nat) : Int) = (x : Int) * 2 ^ n := by rw [Int.natCast_mul, Int.natCast_pow]; rfl
  rw [← e]; omega
theorem add32 (x y : Nat) : IntKind.u32.wrap ((x : Int) + (y : Int)) = (((x + y) % 4294967296 : Nat) : Int) := by
  rw [IntKind.wrap_u32']; omega
theorem shr32 {x n : Nat} (hn : n ≤ 32) : (x : Int).fdiv (2 ^ (min ((n : Nat) : Int).toNat 32)) = ((x >>> n : Nat) : Int) := by
  rw [Int.toNat_natCast, Nat.min_eq_left (by omega), Nat.shiftRight_eq_div_pow, Int.fdiv_eq_ediv_of_nonneg _ (Int.le_of_lt (Int.pow_pos (by decide))), Int.natCast_ediv, Int.natCast_pow]
  rfl
end Go.Proofs.YtdlljmmgkoeilaaDoor
namespace Go.Proofs.YtdlljmmgkoeilaaDoor
open Go.RowKit
def h8l (v : H8) : List Nat := [v.a, v.b, v.c, v.d, v.e, v.f, v.g, v.h]
end Go.Proofs.YtdlljmmgkoeilaaDoor
namespace Go.Proofs.YtdlljmmgkoeilaaDoor
open Go.RowKit
theorem sha_def (b : List UInt8) : sha b = out8 (blocksF begin8 ((b ++ padL b.length).length / 64) (b ++ padL b.length)) := rfl
end Go.Proofs.YtdlljmmgkoeilaaDoor
namespace Go.Proofs.YtdlljmmgkoeilaaDoor

/-- A number's bytes: seven bits each, the lowest first (so many at most as the first argument says). -/
def putF : Nat → Nat → List UInt8
  | 0, _ => []
  | f + 1, n => if n < 128 then [b8 (n : Int)] else b8 ((n % 128 + 128 : Nat) : Int) :: putF f (n / 128)
def putN (n : Nat) : List UInt8 := putF (n + 1) n
theorem putF_any : ∀ (f g n : Nat), n < f → n < g → putF f n = putF g n
  | f + 1, g + 1, n, hf, hg => by
    unfold putF
    by_cases h : n < 128
    · rw [if_pos h, if_pos h]
    · rw [if_neg h, if_neg h, putF_any f g (n / 128) (by omega) (by omega)]
theorem putN_lt {n : Nat} (h : n < 128) : putN n = [b8 (n : Int)] := by unfold putN putF; rw [if_pos h]
theorem putN_ge {n : Nat} (h : ¬ n < 128) : putN n = b8 ((n % 128 + 128 : Nat) : Int) :: putN (n / 128) := by
  unfold putN; rw [putF, if_neg h, putF_any n (n / 128 + 1) (n / 128) (by omega) (by omega)]
theorem putN_len : ∀ (k n : Nat), n < 128 ^ (k + 1) → (putN n).length ≤ k + 1
  | 0, n, h => by rw [putN_lt (by simpa using h)]; simp
  | k + 1, n, h => by
    by_cases h1 : n < 128
    · rw [putN_lt h1]; simp
    · rw [putN_ge h1, List.length_cons]
      have := putN_len k (n / 128) (by rw [Nat.div_lt_iff_lt_mul (by omega)]; rw [Nat.pow_succ] at h; exact h)
      omega
theorem putN_len10 {n : Nat} (h : n < 18446744073709551616) : (putN n).length ≤ 10 := putN_len 9 n (Nat.lt_of_lt_of_le h (by decide))
/-- PutBytes. -/
def putB (s : List UInt8) : List UInt8 := putN s.length ++ s
end Go.Proofs.YtdlljmmgkoeilaaDoor
namespace Go.Proofs.YtdlljmmgkoeilaaDoor
open Go.RowKit

theorem or128 (x : Int) (h0 : 0 ≤ x) (h1 : x ≤ 255) : bits .or .u8 x 128 = x % 128 + 128 := by
  have h : ∀ y : Fin 256, bits .or .u8 (y.val : Int) 128 = (y.val : Int) % 128 + 128 := by decide +kernel
  have := h ⟨x.toNat, by omega⟩
  simp only [Int.toNat_of_nonneg h0] at this
  exact this

set_option maxRecDepth 100000 in
set_option maxHeartbeats 400000 in
theorem put_any (n : Nat) (w : World) (hlen : (putN n).length ≤ 10) :
    Calls Tryd.prog 86 #[.int .u64 n] w fun e w' => ∃ A' c', e = .returned (.slice A' (putN n).length c') ∧ Own w' w.heap.size A' (putN n).length c' (putN n) ∧ Below w.heap.size w w' := by
  go_enter Tryd.func86, Tryd.ntmps86
  go_wp2
  go_loopw [0, 3] (fun i v wr => ∃ (x : Nat) (o : List UInt8) (k : Nat) (A' : Option Addr) (c' : Nat), i = .int .u64 x ∧ v = .slice A' k c' ∧ Own wr w.heap.size A' k c' o ∧ o ++ putN x = putN n ∧ Below w.heap.size w wr) (fun i _ _ => (intOf i).toNat)
  case atStart => exact ⟨n, [], 0, none, 0, rfl, rfl, Own.nil_ _ _, rfl, Below.refl _ _⟩
  case round =>
    obtain ⟨x, o, k, A', c', rfl, rfl, hown, hx, hb⟩ := hrel
    have hk : k ≤ 10 := by
      have h1 := congrArg List.length hx
      rw [List.length_append, hown.len] at h1
      omega
    have Hx := Lib.hid hx
    clear hx
    by_cases hlt : x < 128
    · have hp := Lib.hid (putN_lt hlt)
      have hw : IntKind.u8.wrap (x : Int) = x := IntWalk.u8_in _ (by omega)
      have hm : (x : Int) % 256 = x := by omega
      go_wp2_with (at_builtin; refine wpList_app rfl _ _ rfl rfl (hown.alloc _) rfl (Rd.lit1 _ _ (by omega)) (by omega) (by simp; have := hb.size; omega) ?_; intro A2 c2 w2 hown2 hg2)
      have hb2 := below_own (belowA hb _) (hown.alloc _) hg2
      go_ret
      have e1 : o ++ [b8 (x : Int)] = putN n := by rw [← hp.out]; exact Hx.out
      rw [e1] at hown2
      have e2 := hown2.len
      exact ⟨A2, c2, ret_slice e2.symm, by rw [e2]; exact hown2, hb2⟩
    · have hp := Lib.hid (putN_ge hlt)
      have hm : IntKind.u8.wrap (x : Int) = (x : Int) % 256 := IntKind.wrap_u8 _
      have ho := or128 ((x : Int) % 256) (by omega) (by omega)
      have he : (x : Int) % 128 + 128 = ((x % 128 + 128 : Nat) : Int) := by omega
      have He := Lib.hid he
      clear he
      go_wp2_with (at_builtin; refine wpList_app rfl _ _ rfl rfl (hown.alloc _) rfl (Rd.lit1 _ _ (by omega)) (by omega) (by simp; have := hb.size; omega) ?_; intro A2 c2 w2 hown2 hg2)
      have hb2 := below_own (belowA hb _) (hown.alloc _) hg2
      clear hm ho
      go_roundw
      case rel => exact ⟨x / 128, o ++ [b8 ((x : Int) % 128 + 128)], k + 1, A2, c2, by go_num, rfl, hown2, by rw [He.out, List.append_assoc, List.singleton_append, ← hp.out]; exact Hx.out, hb2⟩
      case measure => simp [intOf]; omega

set_option maxRecDepth 100000 in
set_option maxHeartbeats 400000 in
theorem putBytes_any (A : Option Addr) (n c : Nat) (l : List UInt8) (w : World) (hr : Rd w w.heap.size A n l) (hn : n ≤ 100000000000) :
    Calls Tryd.prog 75 #[.slice A n c] w fun e w' => ∃ A' c', e = .returned (.slice A' ((putN n).length + n) c') ∧ Own w' w.heap.size A' ((putN n).length + n) c' (putB l) ∧ Below w.heap.size w w' := by
  have hln := Lib.hid hr.len
  have hlen := putN_len10 (n := n) (by omega)
  have hw : IntKind.u64.wrap (n : Int) = n := IntWalk.u64_in _ (by omega)
  go_enter Tryd.func75, Tryd.ntmps75
  go_wp2_with fail
  refine (put_any n _ hlen).mono ?_
  rintro e w1 ⟨A1, c1, rfl, o1, b1⟩
  go_wp2_with (at_builtin; refine wpList_app rfl _ _ rfl rfl o1 rfl (hr.up b1) (by omega) b1.size ?_; intro A2 c2 w2 o2 g2)
  have b2 := below_own b1 o1 g2
  go_ret
  exact ⟨A2, c2, rfl, by unfold putB; rw [hln.out]; exact o2, b2⟩
end Go.Proofs.YtdlljmmgkoeilaaDoor
namespace Go.Proofs.YtdlljmmgkoeilaaDoor
open Go.RowKit
theorem sha_len (b : List UInt8) : (sha b).length = 32 := by rw [sha_def]; unfold out8 put4; rfl
/-- Two bytes that tell which kids there are. -/
def kbit (ks : List Nd) (i : Nat) : Nat := if (ks.getD i noneN).kind ≠ 0 then 128 / 2 ^ (i % 8) else 0
def kbits (ks : List Nd) : Nat → Nat × Nat
  | 0 => (0, 0)
  | i + 1 => if i < 8 then ((kbits ks i).1 + kbit ks i, (kbits ks i).2) else ((kbits ks i).1, (kbits ks i).2 + kbit ks i)
def encF (k : Int) (p : List UInt8) (has : Bool) (v : List UInt8) (ks : List Nd) (hs : List UInt8) : List UInt8 :=
  b8 (k % 256) :: (if k = 1 then putB (packL p true) ++ putB v
    else if k = 2 then putB (packL p false) ++ hs
    else if k = 3 then (if has then (1 : UInt8) :: putB v else [0]) ++ (UInt8.ofNat (kbits ks 16).1 :: UInt8.ofNat (kbits ks 16).2 :: hs)
    else [])
mutual
def hashP : Nd → List UInt8
  | .mk k p has v ks h => if k = 4 then h else sha (encF k p has v ks (hashesP ks))
def hashesP : List Nd → List UInt8
  | [] => []
  | t :: ts => (if t.kind ≠ 0 then hashP t else []) ++ hashesP ts
end
def encP (t : Nd) : List UInt8 := encF t.kind t.path t.has t.val t.kids (hashesP t.kids)
theorem hashP_eq (t : Nd) : hashP t = if t.kind = 4 then t.hash else sha (encP t) := by cases t; rw [hashP]; rfl
theorem hashP_len {even : Bool} {t : Nd} {d : Nat} (h : Val even t d) : (hashP t).length = 32 := by
  rw [hashP_eq]
  by_cases h4 : t.kind = 4
  · rw [if_pos h4]
    cases h with
    | stub d h hd hh => exact hh
    | none => exact absurd (show (0 : Int) = 4 from h4) (by decide)
    | leaf => exact absurd (show (1 : Int) = 4 from h4) (by decide)
    | way => exact absurd (show (2 : Int) = 4 from h4) (by decide)
    | branch => exact absurd (show (3 : Int) = 4 from h4) (by decide)
  · rw [if_neg h4]; exact sha_len _
theorem Val.way_kid {even : Bool} {t : Nd} {d : Nat} (h : Val even t d) (h2 : t.kind = 2) : ∃ k, t.kids = [k] ∧ Val even k (d + t.path.length) ∧ k.kind ≠ 0 := by
  cases h with
  | way _ p k hd hp h0 hk hr => exact ⟨k, rfl, hr, fun e => by rcases hk with h | h <;> exact absurd (h.symm.trans e) (by decide)⟩
  | none => exact absurd (show (0 : Int) = 2 from h2) (by decide)
  | leaf => exact absurd (show (1 : Int) = 2 from h2) (by decide)
  | stub => exact absurd (show (4 : Int) = 2 from h2) (by decide)
  | branch => exact absurd (show (3 : Int) = 2 from h2) (by decide)
theorem Val.br_kids {even : Bool} {t : Nd} {d : Nat} (h : Val even t d) (h3 : t.kind = 3) : t.kids.length = 16 ∧ ∀ k ∈ t.kids, Val even k (d + 1) := by
  cases h with
  | branch d has v ks hd hv hv0 he h16 hr hm => exact ⟨h16, hr⟩
  | none => exact absurd (show (0 : Int) = 3 from h3) (by decide)
  | leaf => exact absurd (show (1 : Int) = 3 from h3) (by decide)
  | stub => exact absurd (show (4 : Int) = 3 from h3) (by decide)
  | way => exact absurd (show (2 : Int) = 3 from h3) (by decide)
theorem kbits_succ (ks : List Nd) (i : Nat) : kbits ks (i + 1) = if i < 8 then ((kbits ks i).1 + kbit ks i, (kbits ks i).2) else ((kbits ks i).1, (kbits ks i).2 + kbit ks i) := by rw [kbits]
theorem kb_pow : ∀ i, i < 8 → 128 / 2 ^ (i % 8) + 2 ^ (8 - (i + 1)) = 2 ^ (8 - i) := by decide
theorem kb_pow2 : ∀ i, i < 8 → 128 / 2 ^ ((i + 8) % 8) + 2 ^ (16 - (i + 8 + 1)) = 2 ^ (16 - (i + 8)) := by decide
theorem kbits_lo (ks : List Nd) : ∀ i, i ≤ 8 → (kbits ks i).1 + 2 ^ (8 - i) ≤ 256 ∧ (kbits ks i).2 = 0
  | 0, _ => ⟨Nat.le_refl 256, rfl⟩
  | i + 1, h => by
    obtain ⟨h1, h2⟩ := kbits_lo ks i (by omega)
    have h3 := kb_pow i (by omega)
    have h4 : kbit ks i ≤ 128 / 2 ^ (i % 8) := by unfold kbit; split; exact Nat.le_refl _; exact Nat.zero_le _
    unfold kbits
    rw [if_pos (by omega)]
    exact ⟨by dsimp only; omega, h2⟩
theorem kbits_hi (ks : List Nd) : ∀ i, i ≤ 8 → (kbits ks (i + 8)).1 ≤ 255 ∧ (kbits ks (i + 8)).2 + 2 ^ (16 - (i + 8)) ≤ 256
  | 0, _ => by
    obtain ⟨h1, h2⟩ := kbits_lo ks 8 (by omega)
    refine ⟨by simp at h1 ⊢; omega, ?_⟩
    rw [show (0 + 8 : Nat) = 8 from rfl, h2]; decide
  | i + 1, h => by
    obtain ⟨h1, h2⟩ := kbits_hi ks i (by omega)
    have h3 := kb_pow2 i (by omega)
    have h4 : kbit ks (i + 8) ≤ 128 / 2 ^ ((i + 8) % 8) := by unfold kbit; split; exact Nat.le_refl _; exact Nat.zero_le _
    rw [show i + 1 + 8 = (i + 8) + 1 by omega]
    unfold kbits
    rw [if_neg (by omega)]
    refine ⟨h1, ?_⟩
    dsimp only; omega
theorem kbits_le (ks : List Nd) (i : Nat) (h : i ≤ 16) : (kbits ks i).1 ≤ 255 ∧ (kbits ks i).2 ≤ 255 := by
  rcases Nat.lt_or_ge i 9 with h8 | h8
  · obtain ⟨h1, h2⟩ := kbits_lo ks i (by omega)
    have : 1 ≤ 2 ^ (8 - i) := Nat.one_le_two_pow
    omega
  · obtain ⟨h1, h2⟩ := kbits_hi ks (i - 8) (by omega)
    rw [show i - 8 + 8 = i by omega] at h1 h2
    have : 1 ≤ 2 ^ (16 - i) := Nat.one_le_two_pow
    omega
theorem hashesP_snoc (a : List Nd) (k : Nd) : hashesP (a ++ [k]) = hashesP a ++ (if k.kind ≠ 0 then hashP k else []) := by
  induction a with
  | nil => rw [List.nil_append, hashesP, hashesP, hashesP, List.append_nil]; rfl
  | cons x a ih => rw [List.cons_append, hashesP, hashesP, ih, List.append_assoc]
theorem hashesP_len {d : Nat} : ∀ {ks : List Nd}, (∀ k ∈ ks, Val false k d) → (hashesP ks).length ≤ 32 * ks.length
  | [], _ => by rw [hashesP]; simp
  | k :: ks, h => by
    have h1 := hashesP_len (fun k hk => h k (List.mem_cons_of_mem _ hk))
    have h2 := hashP_len (h k (by simp))
    rw [hashesP, List.length_append, List.length_cons]
    split
    · omega
    · simp; omega
theorem Val.mono {even : Bool} {t : Nd} {d : Nat} (h : Val even t d) : ∀ d', d' ≤ d → Val false t d' := by
  have he : ∀ {e d d' : Nat} {even : Bool}, endsP e even = true → d' + (e - d) ≤ 400 → endsP (d' + (e - d)) false = true := fun _ h => ends_yes h (.inl rfl)
  induction h with
  | none d hd => intro d' hd'; exact .none d' (by omega)
  | leaf d p v hd hp hv he' => intro d' hd'; have := endsP_le he'; exact .leaf d' p v (by omega) hp hv (ends_yes (by omega) (.inl rfl))
  | stub d h hd hh => intro d' hd'; exact .stub d' h (by omega) hh
  | way d p k hd hp h0 hk hr ih => intro d' hd'; exact .way d' p k (by omega) hp h0 hk (ih _ (by omega))
  | branch d has v ks hd hv hv0 he' h16 hr hm ih => intro d' hd'; exact .branch d' has v ks (by omega) hv hv0 (fun e => ends_yes (by omega) (.inl rfl)) h16 (fun k hk => ih k hk _ (by omega)) hm
def hashR (t : Nd) : List UInt8 := if rightP false t 0 then hashP t else []
theorem putB_lenE (s : List UInt8) : (putB s).length = (putN s.length).length + s.length := by unfold putB; rw [List.length_append]
theorem packL_len (p : List UInt8) (leaf : Bool) : (packL p leaf).length ≤ p.length + 1 := by
  unfold packL
  split
  · split
    · rw [List.length_cons, joinB_length, List.length_drop]; omega
    · rw [List.length_cons, joinB_length]; omega
  · simp
theorem encP_len {t : Nd} (hv : Val false t 0) (hz : sz t ≤ 100000000) : (encP t).length ≤ 600 + sz t := by
  have hsz := sz_eq t
  have hp1 := packL_len t.path true
  have hp2 := packL_len t.path false
  have q1 := putN_len10 (n := (packL t.path true).length) (by omega)
  have q2 := putN_len10 (n := (packL t.path false).length) (by omega)
  have q3 := putN_len10 (n := t.val.length) (by omega)
  unfold encP encF
  rw [List.length_cons]
  split
  · rw [List.length_append, putB_lenE, putB_lenE]; omega
  · split
    · rename_i h1 h2
      obtain ⟨k, hk, hvk, -⟩ := hv.way_kid h2
      have hh : (hashesP t.kids).length ≤ 32 * t.kids.length := hashesP_len (d := 0 + t.path.length) (by rw [hk]; intro x hx; rw [List.mem_singleton.1 hx]; exact hvk)
      rw [hk] at hh
      rw [List.length_append, putB_lenE, hk]
      simp only [List.length_singleton] at hh
      omega
    · split
      · rename_i h1 h2 h3
        obtain ⟨h16, hvk⟩ := hv.br_kids h3
        have hh : (hashesP t.kids).length ≤ 32 * t.kids.length := hashesP_len (d := 0 + 1) hvk
        rw [List.length_append, List.length_cons, List.length_cons]
        split
        · rw [List.length_cons, putB_lenE]; omega
        · simp only [List.length_singleton]; omega
      · simp only [List.length_nil]; omega
end Go.Proofs.YtdlljmmgkoeilaaDoor
namespace Go.Proofs.YtdlljmmgkoeilaaDoor
open Go.RowKit
theorem ar64 : arrOf Tryd.prog 137 = some (64, 130, 1) := by kernel_rfl
theorem agg_a64 : aggOf Tryd.prog 137 = some (true, 64) := by kernel_rfl
theorem sz_a64 : (Tryd.prog.info? 137).map (·.size) = some 64 := by kernel_rfl
theorem al_a64 : (Tryd.prog.info? 137).map (fun i => i.zero.map fun z => z.cells.toList) = some (some (List.replicate 64 (cu 0))) := by kernel_rfl
set_option maxRecDepth 100000 in
theorem words_any (A : Option Addr) (c B : Nat) (b : List UInt8) (w : World) (hr : Rd w B A 64 b) (hB : B ≤ w.heap.size) :
    Calls Tryd.prog 91 #[.slice A 64 c] w fun e w' => e = .returned (.agg ((words b).map cu).toArray) ∧ Below w.heap.size w w' := by
  refine calls_ev (args := [.slice A 64 c]) mixed Tryd.func91 rfl (by kernel_rfl) ?_
  refine v_allocB _ al_a64 ?_
  rintro g W hg hB0 hb0 hsz
  have hr0 : Rd W B A 64 b := hr.below (hb0.mono (by omega))
  have hBel : Below w.heap.size w W := by rw [← hg]; exact hb0
  refine lp Nat (fun i W => i ≤ 64 ∧ Below w.heap.size w W ∧ Blk W g 137 ((wsF b i).map cu ++ List.replicate (64 - i) (cu 0))) (fun i => [(0, .slice A 64 c), (2, .pointer (some ⟨g, 0, none⟩)), (8, .int .i64 i)]) (fun i => 64 - i) 0 ⟨by decide, hBel, hB0⟩ ⟨rfl, rfl, rfl, trivial⟩ ?_
  rintro i E0 W1 ⟨hi, hb1, hB1⟩
  have hs1 := hb1.size
  refine p_lt rfl rfl (fun h => ?_) (fun h => ?_)
  · have hi64 : i < 64 := by omega
    have hr1 : Rd W1 B A 64 b := hr.below (hb1.mono hB)
    refine p_lt rfl rfl (fun h16 => ?_) (fun h16 => ?_)
    · obtain ⟨bb, off, rfl, hbB, _⟩ := hr1.cells (by decide)
      refine dr (fun W => Rd W B (some ⟨bb, off, none⟩) 64 b) [(0, true), (1, true), (2, true), (3, true), (4, true), (5, true), (6, true), (7, true), (8, true), (9, true), (10, true), (11, true), (12, true), (13, true), (14, true), (15, true), (16, true), (17, true), (18, true), (19, true), (20, true), (21, true), (22, true), (23, true), (24, true), (25, true), (26, true), (27, true), (28, true), (29, true), (30, true), (31, true), (32, true), (33, true), (34, true), (35, false)] (by kernel_rfl) hr1.drew ?_
      refine p_mul rfl rfl (r := ((4 * i : Nat) : Int)) (w64 (by omega) |>.trans (by omega)) ?_
      refine p_at (i := 4 * i) sl_by rfl rfl rfl (by omega) ?_
      refine t_load agg_by rfl (fun W h => Rd.get h (by omega)) ?_
      refine t_cvt u_byt u_u32 rfl (wu32 (by have := byt_lt b (4 * i); omega)) ?_
      refine p_shl rfl rfl (by decide) (shl32 (n := 24) (byt_lt b (4 * i)) (by decide)) ?_
      refine p_mul rfl rfl (r := ((4 * i : Nat) : Int)) (w64 (by omega) |>.trans (by omega)) ?_
      refine p_add rfl rfl (r := ((4 * i + 1 : Nat) : Int)) (w64 (by omega) |>.trans (by omega)) ?_
      refine p_at (i := 4 * i + 1) sl_by rfl rfl rfl (by omega) ?_
      refine t_load agg_by rfl (fun W h => Rd.get h (by omega)) ?_
      refine t_cvt u_byt u_u32 rfl (wu32 (by have := byt_lt b (4 * i + 1); omega)) ?_
      refine p_shl rfl rfl (by decide) (shl32 (n := 16) (byt_lt b (4 * i + 1)) (by decide)) ?_
      refine p_or rfl rfl (u32_or_nat _ _ (shl_lt (byt_lt _ _) (by decide)) (shl_lt (byt_lt _ _) (by decide))) ?_
      refine p_mul rfl rfl (r := ((4 * i : Nat) : Int)) (w64 (by omega) |>.trans (by omega)) ?_
      refine p_add rfl rfl (r := ((4 * i + 2 : Nat) : Int)) (w64 (by omega) |>.trans (by omega)) ?_
      refine p_at (i := 4 * i + 2) sl_by rfl rfl rfl (by omega) ?_
      refine t_load agg_by rfl (fun W h => Rd.get h (by omega)) ?_
      refine t_cvt u_byt u_u32 rfl (wu32 (by have := byt_lt b (4 * i + 2); omega)) ?_
      refine p_shl rfl rfl (by decide) (shl32 (n := 8) (byt_lt b (4 * i + 2)) (by decide)) ?_
      refine p_or rfl rfl (u32_or_nat _ _ (or_lt (shl_lt (byt_lt _ _) (by decide)) (shl_lt (byt_lt _ _) (by decide))) (shl_lt (byt_lt _ _) (by decide))) ?_
      refine p_mul rfl rfl (r := ((4 * i : Nat) : Int)) (w64 (by omega) |>.trans (by omega)) ?_
      refine p_add rfl rfl (r := ((4 * i + 3 : Nat) : Int)) (w64 (by omega) |>.trans (by omega)) ?_
      refine p_at (i := 4 * i + 3) sl_by rfl rfl rfl (by omega) ?_
      refine t_load agg_by rfl (fun W h => Rd.get h (by omega)) ?_
      refine t_cvt u_byt u_u32 rfl (wu32 (by have := byt_lt b (4 * i + 3); omega)) ?_
      refine p_or rfl rfl (u32_or_nat _ _ (or_lt (or_lt (shl_lt (byt_lt _ _) (by decide)) (shl_lt (byt_lt _ _) (by decide))) (shl_lt (byt_lt _ _) (by decide))) (Nat.lt_trans (byt_lt _ _) (by decide))) ?_
      refine p_atB (i := i) (q := i) ar64 rfl rfl rfl hi64 (by omega) ?_
      refine v_set (cu (wordB b i)) sz_u32 hB1.drew rfl rfl rfl (by simp [wsF_len]; omega) ?_
      rintro W2 hB2 hg2 hs2
      rw [cu_set (wsF_len b i) hi64] at hB2
      have hr2 : Rd W2 B (some ⟨bb, off, none⟩) 64 b := hr1.drew.grown hg2 (by show B ≤ W1.heap.size; omega) (fun k hk => by injection hk with hk; omega)
      refine ⟨hr2, ?_⟩
      refine p_add rfl rfl (r := ((i + 1 : Nat) : Int)) (w64 (by omega) |>.trans (by omega)) ?_
      refine ⟨i + 1, ⟨by omega, hb1.drew.grown hg2 hs1 (fun k hk => by injection hk with hk; omega), ?_⟩, ⟨rfl, rfl, rfl, trivial⟩, by omega⟩
      have e : wsF b (i + 1) = wsF b i ++ [wordB b i] := by show wsF b i ++ [_] = _; rw [if_pos (by omega)]
      rw [e]; exact hB2
    · have hl := wsF_len b i
      have hlt := getD_lt (wsF_lt b i)
      have cell : ∀ {W : World}, Blk W g 137 ((wsF b i).map cu ++ List.replicate (64 - i) (cu 0)) → ∀ j, j < i → W.cell? ⟨g, j, none⟩ = some (cu ((wsF b i).getD j 0)) := fun h j hj => h.at_ (cu_get (by omega))
      refine dr (fun W => ∀ j, j < i → W.cell? ⟨g, j, none⟩ = some (cu ((wsF b i).getD j 0))) [(0, true), (1, true), (2, true), (3, true), (4, true), (5, true), (6, true), (7, true), (8, true), (9, true)] (by kernel_rfl) (cell hB1.drew) ?_
      refine p_sub rfl rfl (r := ((i - 15 : Nat) : Int)) (w64 (by omega) |>.trans (by omega)) ?_
      refine p_atB (i := i - 15) (q := i - 15) ar64 rfl rfl rfl (by omega) (by omega) ?_
      refine t_load agg_u32 rfl (fun W h => h (i - 15) (by omega)) ?_
      refine p_sub rfl rfl (r := ((i - 2 : Nat) : Int)) (w64 (by omega) |>.trans (by omega)) ?_
      refine p_atB (i := i - 2) (q := i - 2) ar64 rfl rfl rfl (by omega) (by omega) ?_
      refine t_load agg_u32 rfl (fun W h => h (i - 2) (by omega)) ?_
      obtain ⟨x, hx⟩ : ∃ x, x = (wsF b i).getD (i - 15) 0 := ⟨_, rfl⟩
      obtain ⟨y, hy⟩ : ∃ y, y = (wsF b i).getD (i - 2) 0 := ⟨_, rfl⟩
      have hxl := hlt (i - 15)
      have hyl := hlt (i - 2)
      refine cc is_turn (turn_any ((wsF b i).getD (i - 15) 0) 7 _ hxl (by decide) (by decide)) ?_
      rintro e w' ⟨rfl, rfl⟩
      refine ⟨_, rfl, ?_⟩
      refine cc is_turn (turn_any ((wsF b i).getD (i - 15) 0) 18 _ hxl (by decide) (by decide)) ?_
      rintro e w' ⟨rfl, rfl⟩
      refine ⟨_, rfl, ?_⟩
      refine p_xor rfl rfl (u32_xor_nat _ _ (rotr_lt _ hxl) (rotr_lt _ hxl)) ?_
      refine p_shr rfl rfl (by decide) (shr32 (n := 3) (x := (wsF b i).getD (i - 15) 0) (by decide)) ?_
      refine p_xor rfl rfl (u32_xor_nat _ _ (xor_lt (rotr_lt _ hxl) (rotr_lt _ hxl)) (shr_lt _ hxl)) ?_
      refine cc is_turn (turn_any ((wsF b i).getD (i - 2) 0) 17 _ hyl (by decide) (by decide)) ?_
      rintro e w' ⟨rfl, rfl⟩
      refine ⟨_, rfl, ?_⟩
      refine cc is_turn (turn_any ((wsF b i).getD (i - 2) 0) 19 _ hyl (by decide) (by decide)) ?_
      rintro e w' ⟨rfl, rfl⟩
      refine ⟨_, rfl, ?_⟩
      refine p_xor rfl rfl (u32_xor_nat _ _ (rotr_lt _ hyl) (rotr_lt _ hyl)) ?_
      refine p_shr rfl rfl (by decide) (shr32 (n := 10) (x := (wsF b i).getD (i - 2) 0) (by decide)) ?_
      refine p_xor rfl rfl (u32_xor_nat _ _ (xor_lt (rotr_lt _ hyl) (rotr_lt _ hyl)) (shr_lt _ hyl)) ?_
      have cellD := cell hB1.drew.drew
      refine dr (fun W => ∀ j, j < i → W.cell? ⟨g, j, none⟩ = some (cu ((wsF b i).getD j 0))) [(0, true), (1, true), (2, true), (3, true), (4, true), (5, true), (6, true), (7, true), (8, true), (9, true), (10, true), (11, true), (12, true), (13, true), (14, true), (15, false)] (by kernel_rfl) cellD ?_
      refine p_sub rfl rfl (r := ((i - 7 : Nat) : Int)) (w64 (by omega) |>.trans (by omega)) ?_
      refine p_atB (i := i - 7) (q := i - 7) ar64 rfl rfl rfl (by omega) (by omega) ?_
      refine t_load agg_u32 rfl (fun W h => h (i - 7) (by omega)) ?_
      refine p_add rfl rfl (add32 (sg1 ((wsF b i).getD (i - 2) 0)) ((wsF b i).getD (i - 7) 0)) ?_
      refine p_add rfl rfl (add32 _ (sg0 ((wsF b i).getD (i - 15) 0))) ?_
      refine p_sub rfl rfl (r := ((i - 16 : Nat) : Int)) (w64 (by omega) |>.trans (by omega)) ?_
      refine p_atB (i := i - 16) (q := i - 16) ar64 rfl rfl rfl (by omega) (by omega) ?_
      refine t_load agg_u32 rfl (fun W h => h (i - 16) (by omega)) ?_
      refine p_add rfl rfl (add32 _ ((wsF b i).getD (i - 16) 0)) ?_
      refine p_atB (i := i) (q := i) ar64 rfl rfl rfl hi64 (by omega) ?_
      refine v_set (cu (nextW (wsF b i) i)) sz_u32 hB1.drew.drew rfl rfl rfl (by simp [wsF_len]; omega) ?_
      rintro W2 hB2 hg2 hs2
      rw [cu_set (wsF_len b i) hi64] at hB2
      have cell2 : ∀ j, j < i → W2.cell? ⟨g, j, none⟩ = some (cu ((wsF b i).getD j 0)) := fun j hj => hB2.at_ (by
        rw [cu_get (by simp [wsF_len]; omega), List.getD_eq_getElem?_getD, List.getD_eq_getElem?_getD, List.getElem?_append_left (by omega)])
      refine ⟨cell2, ?_⟩
      refine p_add rfl rfl (r := ((i + 1 : Nat) : Int)) (w64 (by omega) |>.trans (by omega)) ?_
      refine ⟨i + 1, ⟨by omega, hb1.drew.drew.grown hg2 hs1 (fun k hk => by injection hk with hk; omega), ?_⟩, ⟨rfl, rfl, rfl, trivial⟩, by omega⟩
      have e : wsF b (i + 1) = wsF b i ++ [nextW (wsF b i) i] := by show wsF b i ++ [_] = _; rw [if_neg (by omega)]
      rw [e]; exact hB2
  · have hi : i = 64 := by omega
    subst hi
    have hl : ((words b).map cu).length = 64 := by rw [List.length_map]; exact wsF_len b 64
    have hB : Blk W1 g 137 ((words b).map cu) := by simpa [words] using hB1
    refine v_loadN ((words b).map cu) agg_a64 rfl hl (hB.run 0 _ (fun j v h => by rw [Nat.zero_add]; exact h)) ?_
    refine v_storeA ((words b).map cu) sz_a64 rfl rfl hl (fun u hu => by obtain ⟨x, _, rfl⟩ := List.mem_map.1 hu; rfl) hB hl ?_
    rintro W2 hB2 hg2 hs2
    exact ⟨⟨_, _, rfl, run_loadN agg_a64 ((words b).map cu) hl (hB2.run 0 _ (fun j v h => by rw [Nat.zero_add]; exact h)), ⟨rfl, hb1.grown hg2 hs1 (fun k hk => by injection hk with hk; omega)⟩⟩⟩
end Go.Proofs.YtdlljmmgkoeilaaDoor
namespace Go.Proofs.YtdlljmmgkoeilaaDoor
open Go.RowKit
theorem ar8 : arrOf Tryd.prog 131 = some (8, 130, 1) := by kernel_rfl
theorem agg_a8 : aggOf Tryd.prog 131 = some (true, 8) := by kernel_rfl
theorem sz_a8 : (Tryd.prog.info? 131).map (·.size) = some 8 := by kernel_rfl
theorem al_a8 : (Tryd.prog.info? 131).map (fun i => i.zero.map fun z => z.cells.toList) = some (some (List.replicate 8 (cu 0))) := by kernel_rfl
theorem zero_a8 : zeroOf Tryd.prog 131 = some (List.replicate 8 (cu 0)) := by kernel_rfl
theorem fd0 : fieldOff Tryd.prog 133 0 = some 0 := by kernel_rfl
theorem fd1 : fieldOff Tryd.prog 133 1 = some 8 := by kernel_rfl
theorem fd2 : fieldOff Tryd.prog 133 2 = some 9 := by kernel_rfl
theorem is_words : isFn Tryd.prog 91 = true := by kernel_rfl
theorem is_take : isFn Tryd.prog 83 = true := by kernel_rfl
def rootsAt (w : World) : Prop := ∀ j, j < 64 → w.cell? ⟨1, j, none⟩ = some (cu (roots.getD j 0))
/-- The first i words are added. -/
def addF (x y : H8) (i : Nat) : H8 := ⟨if 0 < i then (x.a + y.a) % 4294967296 else x.a, if 1 < i then (x.b + y.b) % 4294967296 else x.b, if 2 < i then (x.c + y.c) % 4294967296 else x.c, if 3 < i then (x.d + y.d) % 4294967296 else x.d, if 4 < i then (x.e + y.e) % 4294967296 else x.e, if 5 < i then (x.f + y.f) % 4294967296 else x.f, if 6 < i then (x.g + y.g) % 4294967296 else x.g, if 7 < i then (x.h + y.h) % 4294967296 else x.h⟩
theorem add8_eq (x y : H8) : add8 x y = addF x y 8 := rfl
set_option maxRecDepth 100000 in
theorem take_any (g c : Nat) (A : Option Addr) (b : List UInt8) (h : H8) (R : List Value) (w : World) (ho : h.Ok) (hr : Rd w w.heap.size A 64 b) (hB : Blk w g 133 (hc h ++ R)) (hR : rootsAt w) (hg : 2 ≤ g) :
    Calls Tryd.prog 83 #[.pointer (some ⟨g, 0, none⟩), .slice A 64 c] w fun e w' => (∃ v, e = .returned v) ∧ Blk w' g 133 (hc (take8 h b) ++ R) ∧ w.grownBy w' (some g) := by
  refine calls_ev (args := [.pointer (some ⟨g, 0, none⟩), .slice A 64 c]) mixed Tryd.func83 rfl (by kernel_rfl) ?_
  have hgl := hB.lt
  refine p_nil rfl ?_
  refine p_fld fd0 rfl ?_
  refine v_loadN (hc h) agg_a8 rfl rfl (hB.run 0 _ (fun j v hj => by rw [Nat.zero_add, List.getElem?_append_left (List.getElem?_eq_some_iff.1 hj).1]; exact hj)) ?_
  refine v_allocB _ al_a8 ?_
  rintro g1 W1 hg1 hB1 hb1 hs1
  refine v_storeA (hc h) sz_a8 rfl rfl rfl (by intro u hu; simp [hc] at hu; rcases hu with rfl | rfl | rfl | rfl | rfl | rfl | rfl | rfl <;> rfl) hB1 rfl ?_
  rintro W2 hB2 hg2 hs2
  have b2 : Below w.heap.size w W2 := by rw [← hg1] at *; exact hb1.grown hg2 (by omega) (fun k hk => by injection hk with hk; omega)
  refine cc is_words (words_any A c w.heap.size b _ (hr.below b2) b2.size) ?_
  rintro e W3 ⟨rfl, b3⟩
  refine ⟨_, rfl, ?_⟩
  have hs3 := b3.size
  have hB3 := hB2.below b3
  replace b2 := b2.trans (b3.mono b2.size)
  have wl : (words b).length = 64 := wsF_len b 64
  have wlt := getD_lt (wsF_lt b 64)
  replace wlt : ∀ j, (words b).getD j 0 < 4294967296 := wlt
  refine lp Nat (fun i W => i ≤ 64 ∧ Below w.heap.size w W ∧ Blk W g1 131 (hc (rndF roots (words b) h i))) (fun i => [(0, .pointer (some ⟨g, 0, none⟩)), (4, .pointer (some ⟨g1, 0, none⟩)), (17, .agg ((words b).map cu).toArray), (18, .int .i64 i)]) (fun i => 64 - i) 0 ⟨by decide, b2, hB3⟩ ⟨rfl, rfl, rfl, rfl, trivial⟩ ?_
  rintro i E0 W4 ⟨hi, b4, hB4⟩
  have hs4 := b4.size
  have hok := rndF_ok roots (words b) ho i
  refine p_lt rfl rfl (fun hlt => ?_) (fun hge => ?_)
  · have hi64 : i < 64 := by omega
    obtain ⟨v, hv⟩ : ∃ v, v = rndF roots (words b) h i := ⟨_, rfl⟩
    rw [← hv] at hB4 hok
    have hR4 : rootsAt W4 := fun j hj => (b4.cell (p := ⟨1, j, none⟩) (by show 1 < _; omega)).trans (hR j hj)
    have hwv : ((words b).map cu)[i]? = some (cu ((words b).getD i 0)) := by
      have := cu_get (L := words b) (R := []) (j := i) (by omega)
      rwa [List.append_nil] at this
    refine p_idxA (i := i) ar64 agg_u32 rfl rfl rfl hi64 hwv ?_
    refine dr (fun W => Blk W g1 131 (hc v)) [(0, true), (1, true), (2, true), (3, true), (4, true), (5, true)] (by kernel_rfl) hB4.drew ?_
    refine p_atB (i := 0) (q := 0) ar8 rfl rfl rfl (by decide) rfl ?_
    refine t_load agg_u32 rfl (fun W h => Blk.at_ h rfl) ?_
    refine p_atB (i := 4) (q := 4) ar8 rfl rfl rfl (by decide) rfl ?_
    refine t_load agg_u32 rfl (fun W h => Blk.at_ h rfl) ?_
    refine dr (fun W => Blk W g1 131 (hc v) ∧ rootsAt W) [(0, true), (1, true), (2, true), (4, true), (7, true), (11, true), (12, true), (13, true), (14, true), (15, true), (16, true), (17, true), (18, true), (19, true), (20, true), (22, true), (23, true), (24, true), (26, true), (3, false), (5, false), (6, true), (8, false), (9, true), (10, true), (21, true), (25, true), (27, true), (28, true)] (by kernel_rfl) ⟨hB4.drew.drew, hR4⟩ ?_
    refine p_atB (i := 7) (q := 7) ar8 rfl rfl rfl (by decide) rfl ?_
    refine t_load agg_u32 rfl (fun W h => Blk.at_ h.1 rfl) ?_
    refine p_atB (i := 5) (q := 5) ar8 rfl rfl rfl (by decide) rfl ?_
    refine t_load agg_u32 rfl (fun W h => Blk.at_ h.1 rfl) ?_
    refine p_and rfl rfl (u32_and_nat v.e v.f hok.e hok.f) ?_
    refine p_cpl rfl (u32_xor_nat 4294967295 v.e (by decide) hok.e) ?_
    refine p_atB (i := 6) (q := 6) ar8 rfl rfl rfl (by decide) rfl ?_
    refine t_load agg_u32 rfl (fun W h => Blk.at_ h.1 rfl) ?_
    refine p_and rfl rfl (u32_and_nat (4294967295 ^^^ v.e) v.g (xor_lt (by decide) hok.e) hok.g) ?_
    refine p_xor rfl rfl (u32_xor_nat _ _ (and_lt hok.e) (and_lt (xor_lt (by decide) hok.e))) ?_
    refine p_atB (i := i) (q := i) ar64 rfl rfl rfl hi64 (by omega) ?_
    refine t_load agg_u32 rfl (fun W h => h.2 i hi64) ?_
    refine cc is_turn (turn_any v.e 6 _ hok.e (by decide) (by decide)) ?_
    rintro e w' ⟨rfl, rfl⟩
    refine ⟨_, rfl, ⟨hB4.drew.drew, hR4⟩, ?_⟩
    refine cc is_turn (turn_any v.e 11 _ hok.e (by decide) (by decide)) ?_
    rintro e w' ⟨rfl, rfl⟩
    refine ⟨_, rfl, ⟨hB4.drew.drew, hR4⟩, ?_⟩
    refine p_xor rfl rfl (u32_xor_nat _ _ (rotr_lt _ hok.e) (rotr_lt _ hok.e)) ?_
    refine cc is_turn (turn_any v.e 25 _ hok.e (by decide) (by decide)) ?_
    rintro e w' ⟨rfl, rfl⟩
    refine ⟨_, rfl, ⟨hB4.drew.drew, hR4⟩, ?_⟩
    refine p_xor rfl rfl (u32_xor_nat _ _ (xor_lt (rotr_lt _ hok.e) (rotr_lt _ hok.e)) (rotr_lt _ hok.e)) ?_
    refine p_add rfl rfl (add32 v.h (bs1 v.e)) ?_
    refine p_add rfl rfl (add32 _ (chs v.e v.f v.g)) ?_
    refine p_add rfl rfl (add32 _ (roots.getD i 0)) ?_
    refine p_add rfl rfl (add32 _ ((words b).getD i 0)) ?_
    refine dr (fun W => Blk W g1 131 (hc v)) [(0, true), (2, true), (5, true), (8, true), (9, true), (10, true), (11, true), (12, true), (13, true), (14, true), (15, true), (16, true), (17, true), (18, true), (19, true), (20, true), (21, true), (22, true), (1, false), (3, false), (4, true), (6, false), (7, true), (23, true), (24, true)] (by kernel_rfl) hB4.drew.drew.drew ?_
    refine p_atB (i := 1) (q := 1) ar8 rfl rfl rfl (by decide) rfl ?_
    refine t_load agg_u32 rfl (fun W h => Blk.at_ h rfl) ?_
    refine p_and rfl rfl (u32_and_nat v.a v.b hok.a hok.b) ?_
    refine p_atB (i := 2) (q := 2) ar8 rfl rfl rfl (by decide) rfl ?_
    refine t_load agg_u32 rfl (fun W h => Blk.at_ h rfl) ?_
    refine p_and rfl rfl (u32_and_nat v.a v.c hok.a hok.c) ?_
    refine p_xor rfl rfl (u32_xor_nat _ _ (and_lt hok.a) (and_lt hok.a)) ?_
    refine p_atB (i := 1) (q := 1) ar8 rfl rfl rfl (by decide) rfl ?_
    refine t_load agg_u32 rfl (fun W h => Blk.at_ h rfl) ?_
    refine p_atB (i := 2) (q := 2) ar8 rfl rfl rfl (by decide) rfl ?_
    refine t_load agg_u32 rfl (fun W h => Blk.at_ h rfl) ?_
    refine p_and rfl rfl (u32_and_nat v.b v.c hok.b hok.c) ?_
    refine p_xor rfl rfl (u32_xor_nat _ _ (xor_lt (and_lt hok.a) (and_lt hok.a)) (and_lt hok.b)) ?_
    refine cc is_turn (turn_any v.a 2 _ hok.a (by decide) (by decide)) ?_
    rintro e w' ⟨rfl, rfl⟩
    refine ⟨_, rfl, hB4.drew.drew.drew, ?_⟩
    refine cc is_turn (turn_any v.a 13 _ hok.a (by decide) (by decide)) ?_
    rintro e w' ⟨rfl, rfl⟩
    refine ⟨_, rfl, hB4.drew.drew.drew, ?_⟩
    refine p_xor rfl rfl (u32_xor_nat _ _ (rotr_lt _ hok.a) (rotr_lt _ hok.a)) ?_
    refine cc is_turn (turn_any v.a 22 _ hok.a (by decide) (by decide)) ?_
    rintro e w' ⟨rfl, rfl⟩
    refine ⟨_, rfl, hB4.drew.drew.drew, ?_⟩
    refine p_xor rfl rfl (u32_xor_nat _ _ (xor_lt (rotr_lt _ hok.a) (rotr_lt _ hok.a)) (rotr_lt _ hok.a)) ?_
    refine p_add rfl rfl (add32 (bs0 v.a) (maj v.a v.b v.c)) ?_
    have hB7 := hB4.drew.drew.drew
    refine p_add rfl rfl (add32 (tt1 v (roots.getD i 0) ((words b).getD i 0)) (tt2 v)) ?_
    refine p_atB (i := 0) (q := 0) ar8 rfl rfl rfl (by decide) rfl ?_
    refine v_load agg_u32 rfl (hB7.at_ rfl) ?_
    refine p_atB (i := 1) (q := 1) ar8 rfl rfl rfl (by decide) rfl ?_
    refine v_load agg_u32 rfl (hB7.at_ rfl) ?_
    refine p_atB (i := 2) (q := 2) ar8 rfl rfl rfl (by decide) rfl ?_
    refine v_load agg_u32 rfl (hB7.at_ rfl) ?_
    refine p_atB (i := 3) (q := 3) ar8 rfl rfl rfl (by decide) rfl ?_
    refine v_load agg_u32 rfl (hB7.at_ rfl) ?_
    refine p_add rfl rfl (add32 v.d (tt1 v (roots.getD i 0) ((words b).getD i 0))) ?_
    refine p_atB (i := 4) (q := 4) ar8 rfl rfl rfl (by decide) rfl ?_
    refine v_load agg_u32 rfl (hB7.at_ rfl) ?_
    refine p_atB (i := 5) (q := 5) ar8 rfl rfl rfl (by decide) rfl ?_
    refine v_load agg_u32 rfl (hB7.at_ rfl) ?_
    refine p_atB (i := 6) (q := 6) ar8 rfl rfl rfl (by decide) rfl ?_
    refine v_load agg_u32 rfl (hB7.at_ rfl) ?_
    refine p_buildA (vs := hc (rnd v (roots.getD i 0) ((words b).getD i 0))) ar8 zero_a8 rfl ?_
    refine v_storeA (hc (rnd v (roots.getD i 0) ((words b).getD i 0))) sz_a8 rfl rfl rfl (by intro u hu; simp [hc] at hu; rcases hu with rfl | rfl | rfl | rfl | rfl | rfl | rfl | rfl <;> rfl) hB7 rfl ?_
    rintro W5 hB5 hg5 hs5
    refine p_add rfl rfl (r := ((i + 1 : Nat) : Int)) (w64 (by omega) |>.trans (by omega)) ?_
    refine ⟨i + 1, ⟨by omega, b4.drew.drew.drew.grown hg5 hs4 (fun k hk => by injection hk with hk; omega), ?_⟩, ⟨rfl, rfl, rfl, rfl, trivial⟩, by omega⟩
    show Blk W5 g1 131 (hc (rnd (rndF roots (words b) h i) (roots.getD i 0) ((words b).getD i 0)))
    rw [← hv]; exact hB5
  · have hi : i = 64 := by omega
    subst hi
    obtain ⟨v, hv⟩ : ∃ v, v = rndF roots (words b) h 64 := ⟨_, rfl⟩
    rw [← hv] at hB4 hok
    have hBg := hB.below b4
    have gr0 : w.grownBy W4 (some g) := ⟨b4.os, b4.tape, b4.output, b4.size, fun k hk _ => b4.block k hk⟩
    have hgg : g1 ≠ g := by omega
    refine lp Nat (fun i W => i ≤ 8 ∧ Blk W g 133 (hc (addF h v i) ++ R) ∧ Blk W g1 131 (hc v) ∧ w.grownBy W (some g)) (fun i => [(0, .pointer (some ⟨g, 0, none⟩)), (4, .pointer (some ⟨g1, 0, none⟩)), (99, .int .i64 i)]) (fun i => 8 - i) 0 ⟨by decide, hBg, hB4, gr0⟩ ⟨rfl, rfl, rfl, trivial⟩ ?_
    rintro i E1 W5 ⟨hi, hB5, hB6, gr5⟩
    refine p_lt rfl rfl (fun hlt => ?_) (fun hge => ?_)
    · have h8 : i = 0 ∨ i = 1 ∨ i = 2 ∨ i = 3 ∨ i = 4 ∨ i = 5 ∨ i = 6 ∨ i = 7 := by omega
      have hR5 := hB5.lt
      obtain ⟨o, n, hx, hy, hset⟩ : ∃ o n : Nat, (hc (addF h v i) ++ R)[i]? = some (cu o) ∧ (hc v)[i]? = some (cu n) ∧ (hc (addF h v i) ++ R).set i (cu ((o + n) % 4294967296)) = hc (addF h v (i + 1)) ++ R := by
        rcases h8 with rfl | rfl | rfl | rfl | rfl | rfl | rfl | rfl <;> exact ⟨_, _, rfl, rfl, rfl⟩
      refine dr (fun W => Blk W g1 131 (hc v)) [(0, true), (1, true), (2, true), (3, true), (4, true), (6, true), (7, true), (8, true), (10, true), (11, true), (5, false), (9, true), (12, true), (13, false)] (by kernel_rfl) hB6.drew ?_
      refine p_nil rfl ?_
      refine p_fld fd0 rfl ?_
      refine p_atB (o := 0) (i := i) (q := i) ar8 rfl rfl rfl (by omega) (by omega) ?_
      refine p_atB (i := i) (q := i) ar8 rfl rfl rfl (by omega) (by omega) ?_
      refine t_load agg_u32 rfl (fun W h => Blk.at_ h hy) ?_
      refine p_nil rfl ?_
      refine p_fld fd0 rfl ?_
      refine v_load agg_u32 rfl (hB5.drew.at_ hx) ?_
      refine ⟨hB6.drew, ?_⟩
      refine p_add rfl rfl (add32 o n) ?_
      refine p_atB (o := 0) (i := i) (q := i) ar8 rfl rfl rfl (by omega) (by omega) ?_
      refine v_set (cu ((o + n) % 4294967296)) sz_u32 hB5.drew rfl rfl rfl (by simp [hc]; omega) ?_
      rintro W6 hB7 hg7 hs7
      rw [hset] at hB7
      have hB8 := hB6.drew.grownN hg7 (fun e => hgg e.symm)
      refine ⟨hB8, ?_⟩
      refine p_add rfl rfl (r := ((i + 1 : Nat) : Int)) (w64 (by omega) |>.trans (by omega)) ?_
      exact ⟨i + 1, ⟨by omega, hB7, hB8, gtrans gr5 (gtrans gdrew hg7)⟩, ⟨rfl, rfl, rfl, trivial⟩, by omega⟩
    · have hi : i = 8 := by omega
      subst hi
      have e : take8 h b = addF h v 8 := by unfold take8; rw [← hv, add8_eq]
      rw [← e] at hB5
      exact ⟨⟨_, rfl⟩, hB5, gr5⟩
end Go.Proofs.YtdlljmmgkoeilaaDoor
namespace Go.Proofs.YtdlljmmgkoeilaaDoor
open Go.RowKit
section
variable {P : Program} {w : World}
theorem info_parts' {P : Program} {e : TypeId} {z : Value} {s b : Nat} (hi : (P.info? e).map (fun i => (i.zero, i.size, i.bytes)) = some (some z, s, b)) : ∃ i, P.info? e = some i ∧ i.zero = some z ∧ i.size = s ∧ i.bytes = b := by
  obtain ⟨i, h1, h2⟩ := Option.map_eq_some_iff.1 hi
  simp only [Prod.mk.injEq] at h2
  exact ⟨i, h1, h2.1, h2.2.1, h2.2.2⟩
theorem run_append_zero {t ty e : TypeId} {i : TypeInfo} (ht : P.underlying t = some (.slice e)) (hi : P.info? e = some i) (A A2 : Option Addr) (n c c2 : Nat) (hnc : n ≤ c) :
    (Builtin.append_ #[t, t] ty #[.slice A n c, .slice A2 0 c2]).run P w = .ok (.slice A n c) w := by
  have hz : ∀ (A3 : Option Addr) (w : World), (Builtin.firstCells i.size 0 (.slice A3 0 c2)).run P w = .ok #[] w := by
    intro A3 w
    cases A3 with
    | none => simp [Builtin.firstCells]
    | some ad => exact run_firstCells_some (P := P) w i.size 0 ad 0 c2 [] (by simp) (by simp)
  cases A with
  | none => 
    cases A2 with
    | none => simp [Builtin.append_, run_underlying ht, sizeOf, typeInfo, hi, Builtin.lenOf, Builtin.firstCells, hnc]
    | some ad => simp [Builtin.append_, run_underlying ht, sizeOf, typeInfo, hi, Builtin.lenOf, hz, hnc]
  | some b =>
    cases A2 with
    | none => simp [Builtin.append_, run_underlying ht, sizeOf, typeInfo, hi, Builtin.lenOf, Builtin.firstCells, hnc, storeCells]
    | some ad => simp [Builtin.append_, run_underlying ht, sizeOf, typeInfo, hi, Builtin.lenOf, hz, hnc, storeCells]
theorem run_append_full {t ty e : TypeId} {i : TypeInfo} {z : Value} {size bytes : Nat} (ht : P.underlying t = some (.slice e)) (hi : P.info? e = some i) (hz : i.zero = some z) (hsize : i.size = size) (hby : i.bytes = bytes) (hzs : z.cells.size = size)
    {A A2 : Option Addr} {n m c2 B B2 : Nat} {olds news : List Value} (ho : Reads w B size A n olds) (hr : Reads w B2 size A2 m news) (hA : A = none → n = 0) (hm : 0 < m) (h63 : n + m ≤ maxLen) (hbytes : (n + m) * bytes ≤ 140737488355328) :
    ∃ c' w', (Builtin.append_ #[t, t] ty #[.slice A n n, .slice A2 m c2]).run P w = .ok (.slice (some ⟨w.heap.size, 0, none⟩) (n + m) c') w' ∧
      w'.ownsRow w.heap.size e size (.slice (some ⟨w.heap.size, 0, none⟩) (n + m) c') (n + m) (olds ++ news) ∧ Below w.heap.size w w' ∧ w'.heap.size = w.heap.size + 1 := by
  subst hsize
  subst hby
  obtain ⟨b2, off2, rfl, _, hn⟩ := hr.2 hm
  have hnews : ∀ j u, news[j]? = some u → w.cell? ((⟨b2, off2, none⟩ : Addr).add j) = some u := fun j u hu => by rw [Addr.add_lit]; exact hn j u hu
  have hsmall : n + m ≤ 9223372036854775807 := by simp only [maxLen] at h63; omega
  have hlen : (olds ++ news).length = (n + m) * i.size := by rw [List.length_append, ho.1, hr.1, Nat.add_mul]
  have own : ∀ old : Nat, old < n + m → (w.drew.alloc (.cells (olds.toArray ++ news.toArray ++ Builtin.zeroCells z.cells (grownCap w (n + m) old e - (n + m))) e)).ownsRow w.heap.size e i.size
        (.slice (some ⟨w.heap.size, 0, none⟩) (n + m) (grownCap w (n + m) old e)) (n + m) (olds ++ news) := by
    intro old hold
    have hge := grownCap_ge w (n + m) old e
    have hcm : grownCap w (n + m) old e ≤ maxLen := grownCap_le_maxLen w (n + m) old e h63
    refine ⟨hlen, .inr ⟨w.heap.size, _, _, rfl, Nat.le_refl _, heap_alloc_new w.drew _, hge, hcm, ?_, ?_⟩⟩
    · simp only [Array.size_append, List.size_toArray, size_zeroCells, hzs, ho.1, hr.1, ← Nat.add_mul]
      congr 1
      omega
    · simp only [Array.toList_append, List.append_assoc]
      rw [← List.append_assoc, ← hlen]
      exact List.take_left
  cases A with
  | none =>
    have hn0 := hA rfl
    subst hn0
    have he : olds = [] := List.eq_nil_of_length_eq_zero (by simpa using ho.1)
    subst he
    have hr := run_append_nil (P := P) w t ty e i z ht hi hz ⟨b2, off2, none⟩ m c2 news hr.1 hnews hm (by omega) (by have hb := hbytes; simp only [Nat.zero_add] at hb; omega)
    have hgr := own 0 (by omega)
    simp only [Nat.zero_add, List.nil_append, Array.empty_append] at hgr ⊢
    exact ⟨_, _, hr, hgr, (Below.refl _ _).drew.alloc (Nat.le_refl _) _, by simp⟩
  | some b =>
    have holds : ∀ j u, olds[j]? = some u → w.cell? (b.add j) = some u := by
      intro j u hu
      rcases Nat.eq_zero_or_pos n with h0 | h0
      · subst h0
        have he : olds = [] := List.eq_nil_of_length_eq_zero (by simpa using ho.1)
        subst he; simp at hu
      · obtain ⟨b1, off1, e1, _, h1⟩ := ho.2 h0
        injection e1 with e1; subst e1
        rw [Addr.add_lit]; exact h1 j u hu
    have hr := run_append_grow (P := P) w t ty e i z ht hi hz b n n olds ho.1 holds ⟨b2, off2, none⟩ m c2 news hr.1 hnews (by omega) (by omega) (growslice_fits (by omega) hbytes)
    exact ⟨_, _, hr, own n (by omega), (Below.refl _ _).drew.alloc (Nat.le_refl _) _, by simp⟩
end
end Go.Proofs.YtdlljmmgkoeilaaDoor
