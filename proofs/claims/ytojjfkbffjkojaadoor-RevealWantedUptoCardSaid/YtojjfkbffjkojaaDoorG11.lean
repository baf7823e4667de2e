/- Numbers and bytes in one way: the plain functions and their laws. Numbers and bytes in one way: the walks of package vint. Numbers and bytes in one way: the walk of vint.Get. Numbers and bytes in one way: the walks of vint.GetBytes, PutInt. Numbers and bytes in one way: the reference's walks. Halves of bytes: packed and unpacked: the program's own. Halves of bytes: unpacked; compared: the program's own. Halves of bytes: the reference's walks. Halves of bytes: the reference's walks of what is packed. -/
import Derived.Test.YtojjfkbffjkojaaDoorG03
import Derived.Test.YtojjfkbffjkojaaDoorG04
import Derived.WalkSmall
import Derived.Test.YtojjfkbffjkojaaDoorG07
namespace Go.Proofs.YtojjfkbffjkojaaDoor

/-- A number's bytes: seven bits each, the lowest first (so many at most as the first argument says). -/
def putF : Nat → Nat → List UInt8
  | 0, _ => []
  | f + 1, n => if n < 128 then [b8 (n : Int)] else b8 ((n % 128 + 128 : Nat) : Int) :: putF f (n / 128)
def putN (n : Nat) : List UInt8 := putF (n + 1) n
theorem putF_any : ∀ (f g n : Nat), n < f → n < g → putF f n = putF g n
  | f + 1, g + 1, n, hf, hg => by
    unfold putF
    by_cases h : n < 128
    · rw [if_pos h, if_pos h]
    · rw [if_neg h, if_neg h, putF_any f g (n / 128) (by omega) (by omega)]
theorem putN_lt {n : Nat} (h : n < 128) : putN n = [b8 (n : Int)] := by unfold putN putF; rw [if_pos h]
theorem putN_ge {n : Nat} (h : ¬ n < 128) : putN n = b8 ((n % 128 + 128 : Nat) : Int) :: putN (n / 128) := by
  unfold putN; rw [putF, if_neg h, putF_any n (n / 128 + 1) (n / 128) (by omega) (by omega)]
theorem putN_pos (n : Nat) : 1 ≤ (putN n).length := by
  by_cases h : n < 128
  · rw [putN_lt h]; simp
  · rw [putN_ge h]; simp
theorem putN_len : ∀ (k n : Nat), n < 128 ^ (k + 1) → (putN n).length ≤ k + 1
  | 0, n, h => by rw [putN_lt (by simpa using h)]; simp
  | k + 1, n, h => by
    by_cases h1 : n < 128
    · rw [putN_lt h1]; simp
    · rw [putN_ge h1, List.length_cons]
      have := putN_len k (n / 128) (by rw [Nat.div_lt_iff_lt_mul (by omega)]; rw [Nat.pow_succ] at h; exact h)
      omega
theorem putN_len10 {n : Nat} (h : n < 18446744073709551616) : (putN n).length ≤ 10 := putN_len 9 n (Nat.lt_of_lt_of_le h (by decide))
/-- PutBytes. -/
def putB (s : List UInt8) : List UInt8 := putN s.length ++ s
end Go.Proofs.YtojjfkbffjkojaaDoor
namespace Go.Proofs.YtojjfkbffjkojaaDoor
open Go.RowKit

theorem or128 (x : Int) (h0 : 0 ≤ x) (h1 : x ≤ 255) : bits .or .u8 x 128 = x % 128 + 128 := by
  have h : ∀ y : Fin 256, bits .or .u8 (y.val : Int) 128 = (y.val : Int) % 128 + 128 := by decide +kernel
  have := h ⟨x.toNat, by omega⟩
  simp only [Int.toNat_of_nonneg h0] at this
  exact this

set_option maxRecDepth 100000 in
set_option maxHeartbeats 400000 in
theorem put_any (n : Nat) (w : World) (hlen : (putN n).length ≤ 10) :
    Calls Tryd.prog 115 #[.int .u64 n] w fun e w' => ∃ A' c', e = .returned (.slice A' (putN n).length c') ∧ Own w' w.heap.size A' (putN n).length c' (putN n) ∧ Below w.heap.size w w' := by
  go_enter Tryd.func115, Tryd.ntmps115
  go_wp2
  go_loopw [0, 3] (fun i v wr => ∃ (x : Nat) (o : List UInt8) (k : Nat) (A' : Option Addr) (c' : Nat), i = .int .u64 x ∧ v = .slice A' k c' ∧ Own wr w.heap.size A' k c' o ∧ o ++ putN x = putN n ∧ Below w.heap.size w wr) (fun i _ _ => (intOf i).toNat)
  case atStart => exact ⟨n, [], 0, none, 0, rfl, rfl, Own.nil_ _ _, rfl, Below.refl _ _⟩
  case round =>
    obtain ⟨x, o, k, A', c', rfl, rfl, hown, hx, hb⟩ := hrel
    have hk : k ≤ 10 := by
      have h1 := congrArg List.length hx
      rw [List.length_append, hown.len] at h1
      omega
    have Hx := Lib.hid hx
    clear hx
    by_cases hlt : x < 128
    · have hp := Lib.hid (putN_lt hlt)
      have hw : IntKind.u8.wrap (x : Int) = x := IntWalk.u8_in _ (by omega)
      have hm : (x : Int) % 256 = x := by omega
      go_wp2_with (at_builtin; refine wpList_app rfl _ _ rfl rfl (hown.alloc _) rfl (Rd.lit1 _ _ (by omega)) (by omega) (by simp; have := hb.size; omega) ?_; intro A2 c2 w2 hown2 hg2)
      have hb2 := below_own (belowA hb _) (hown.alloc _) hg2
      go_ret
      have e1 : o ++ [b8 (x : Int)] = putN n := by rw [← hp.out]; exact Hx.out
      rw [e1] at hown2
      have e2 := hown2.len
      exact ⟨A2, c2, ret_slice e2.symm, by rw [e2]; exact hown2, hb2⟩
    · have hp := Lib.hid (putN_ge hlt)
      have hm : IntKind.u8.wrap (x : Int) = (x : Int) % 256 := IntKind.wrap_u8 _
      have ho := or128 ((x : Int) % 256) (by omega) (by omega)
      have he : (x : Int) % 128 + 128 = ((x % 128 + 128 : Nat) : Int) := by omega
      have He := Lib.hid he
      clear he
      go_wp2_with (at_builtin; refine wpList_app rfl _ _ rfl rfl (hown.alloc _) rfl (Rd.lit1 _ _ (by omega)) (by omega) (by simp; have := hb.size; omega) ?_; intro A2 c2 w2 hown2 hg2)
      have hb2 := below_own (belowA hb _) (hown.alloc _) hg2
      clear hm ho
      go_roundw
      case rel => exact ⟨x / 128, o ++ [b8 ((x : Int) % 128 + 128)], k + 1, A2, c2, by go_num, rfl, hown2, by rw [He.out, List.append_assoc, List.singleton_append, ← hp.out]; exact Hx.out, hb2⟩
      case measure => simp [intOf]; omega

set_option maxRecDepth 100000 in
set_option maxHeartbeats 400000 in
theorem putBytes_any (A : Option Addr) (n c : Nat) (l : List UInt8) (w : World) (hr : Rd w w.heap.size A n l) (hn : n ≤ 100000000000) :
    Calls Tryd.prog 97 #[.slice A n c] w fun e w' => ∃ A' c', e = .returned (.slice A' ((putN n).length + n) c') ∧ Own w' w.heap.size A' ((putN n).length + n) c' (putB l) ∧ Below w.heap.size w w' := by
  have hln := Lib.hid hr.len
  have hlen := putN_len10 (n := n) (by omega)
  have hw : IntKind.u64.wrap (n : Int) = n := IntWalk.u64_in _ (by omega)
  go_enter Tryd.func97, Tryd.ntmps97
  go_wp2_with fail
  refine (put_any n _ hlen).mono ?_
  rintro e w1 ⟨A1, c1, rfl, o1, b1⟩
  go_wp2_with (at_builtin; refine wpList_app rfl _ _ rfl rfl o1 rfl (hr.up b1) (by omega) b1.size ?_; intro A2 c2 w2 o2 g2)
  have b2 := below_own b1 o1 g2
  go_ret
  exact ⟨A2, c2, rfl, by unfold putB; rw [hln.out]; exact o2, b2⟩
end Go.Proofs.YtojjfkbffjkojaaDoor
namespace Go.Proofs.YtojjfkbffjkojaaDoor
open Go.RowKit

/-- The digits to the base 128. -/
def digF : Nat → Nat → List UInt8
  | 0, _ => []
  | f + 1, n => if n < 128 then [b8 (n : Int)] else b8 ((n % 128 : Nat) : Int) :: digF f (n / 128)
def digN (n : Nat) : List UInt8 := digF (n + 1) n
theorem digF_any : ∀ (f g n : Nat), n < f → n < g → digF f n = digF g n
  | f + 1, g + 1, n, hf, hg => by
    unfold digF
    by_cases h : n < 128
    · rw [if_pos h, if_pos h]
    · rw [if_neg h, if_neg h, digF_any f g (n / 128) (by omega) (by omega)]
theorem digN_lt {n : Nat} (h : n < 128) : digN n = [b8 (n : Int)] := by unfold digN digF; rw [if_pos h]
theorem digN_ge {n : Nat} (h : ¬ n < 128) : digN n = b8 ((n % 128 : Nat) : Int) :: digN (n / 128) := by
  unfold digN; rw [digF, if_neg h, digF_any n (n / 128 + 1) (n / 128) (by omega) (by omega)]
/-- What digits are still to come. -/
def digT (n : Nat) : List UInt8 := if n = 0 then [] else digN n
theorem digN_T (n : Nat) : digN n = b8 ((n % 128 : Nat) : Int) :: digT (n / 128) := by
  by_cases h : n < 128
  · rw [digN_lt h, show n / 128 = 0 by omega, show n % 128 = n by omega]; rfl
  · rw [digN_ge h]; unfold digT; rw [if_neg (by omega)]
theorem at8_cons_succ (c : UInt8) (l : List UInt8) (k : Nat) : at8 (c :: l) (k + 1) = at8 l k := rfl
theorem at8_b8_0 (x : Nat) (l : List UInt8) (h : x < 256) : at8 (b8 (x : Int) :: l) 0 = x := by
  show (((b8 (x : Int)).toNat : Nat) : Int) = x
  unfold b8; rw [UInt8.toNat_ofNat']; omega
theorem dig_put : ∀ (f n : Nat), n < f → (digN n).length = (putN n).length ∧ ∀ k, (k + 1 < (putN n).length → at8 (putN n) k = at8 (digN n) k + 128 ∧ at8 (digN n) k < 128) ∧ (k + 1 = (putN n).length → at8 (putN n) k = at8 (digN n) k)
  | f + 1, n, hf => by
    by_cases h : n < 128
    · rw [digN_lt h, putN_lt h]
      exact ⟨rfl, fun k => ⟨fun hk => by simp at hk, fun _ => rfl⟩⟩
    · obtain ⟨h1, h2⟩ := dig_put f (n / 128) (by omega)
      rw [digN_ge h, putN_ge h]
      refine ⟨by simp [h1], fun k => ?_⟩
      rcases k with _ | k
      · refine ⟨fun _ => ?_, fun hk => ?_⟩
        · have e1 := at8_b8_0 (n % 128) (digN (n / 128)) (by omega)
          have e2 := at8_b8_0 (n % 128 + 128) (putN (n / 128)) (by omega)
          rw [e1, e2]
          refine ⟨by omega, by omega⟩
        · have := putN_pos (n / 128); rw [List.length_cons] at hk; omega
      · rw [at8_cons_succ, at8_cons_succ, List.length_cons]
        exact ⟨fun hk => (h2 k).1 (by omega), fun hk => (h2 k).2 (by omega)⟩
theorem ext8 {l m : List UInt8} (h : l.length = m.length) (k : ∀ j, j < l.length → at8 l j = at8 m j) : l = m := by
  apply List.ext_getElem h
  intro i h1 h2
  have := k i h1
  rw [at8_of l i h1, at8_of m i h2] at this
  exact UInt8.toNat_inj.1 (by omega)
theorem at8_set (l : List UInt8) (k j : Nat) (x : Int) (hk : k < l.length) (h0 : 0 ≤ x) (h1 : x ≤ 255) : at8 (l.set k (b8 x)) j = if j = k then x else at8 l j := by
  by_cases h : j = k
  · subst h
    rw [if_pos rfl, at8_of _ _ (by simpa using hk)]
    simp only [List.getElem_set_self]
    unfold b8; rw [UInt8.toNat_ofNat']; omega
  · rw [if_neg h]
    unfold at8
    rw [List.getD_eq_getElem?_getD, List.getD_eq_getElem?_getD, List.getElem?_set_ne (by omega)]
theorem own_some {w : World} {base n c : Nat} {A : Option Addr} {l : List UInt8} (h : Own w base A n c l) (hn : 0 < n) : ∃ g, A = some ⟨g, 0, none⟩ ∧ base ≤ g := by
  obtain ⟨g, cap, hv, hb, _⟩ := World.ownsRow.form h hn
  injection hv with hv
  exact ⟨g, hv, hb⟩

set_option maxRecDepth 100000 in
set_option maxHeartbeats 800000 in
theorem refPut_any (n : Nat) (w : World) (hn : n ≤ 18446744073709551615) :
    Calls Tryd.prog 104 #[.int .u64 n] w fun e w' => ∃ A' c', e = .returned (.slice A' (putN n).length c') ∧ Own w' w.heap.size A' (putN n).length c' (putN n) ∧ Below w.heap.size w w' := by
  have hlen := putN_len10 (n := n) (by omega)
  have hdl := (dig_put (n + 1) n (by omega)).1
  have D := Lib.hid (dig_put (n + 1) n (by omega)).2
  rw [← hdl] at hlen
  have Hdl := Lib.hid hdl
  clear hdl
  have hm : IntKind.u8.wrap ((n : Int) % 128) = (n : Int) % 128 := IntWalk.u8_in _ (by omega)
  go_enter Tryd.func104, Tryd.ntmps104
  go_wp2
  go_loopw [0, 3] (fun i v wr => ∃ (x : Nat) (o : List UInt8) (k : Nat) (A' : Option Addr) (c' : Nat), x ≤ 18446744073709551615 ∧ i = .int .u64 x ∧ v = .slice A' k c' ∧ Own wr w.heap.size A' k c' o ∧ o ++ digT x = digN n ∧ Below w.heap.size w wr) (fun i _ _ => (intOf i).toNat)
  case atStart =>
    refine ⟨n / 128, [b8 ((n : Int) % 128)], 1, _, 1, by omega, by go_num, rfl, Own.lit1 w w.heap.size (Nat.le_refl _) _ (by omega), ?_, (Below.refl _ _).alloc (Nat.le_refl _) _⟩
    rw [digN_T n]; rfl
  case round =>
    obtain ⟨x, o, k, A', c', hxb, rfl, rfl, hown, hx, hb⟩ := hrel
    have hk : k ≤ 10 := by
      have h1 := congrArg List.length hx
      rw [List.length_append, hown.len] at h1
      omega
    have Hx := Lib.hid hx
    clear hx
    by_cases h0 : x = 0
    · subst h0
      have ho : o = digN n := by have := Hx.out; simpa [digT] using this
      subst ho
      have hkk : k = (digN n).length := hown.len.symm
      subst hkk
      have hpos := putN_pos n
      rw [← Hdl.out] at hpos
      obtain ⟨g, rfl, hg⟩ := own_some hown (by omega)
      go_wp2
      go_loopw [4] (fun i wr' => ∃ (k : Nat) (L : List UInt8), k + 1 ≤ (digN n).length ∧ i = .int .i64 k ∧ Own wr' w.heap.size (some ⟨g, 0, none⟩) (digN n).length c' L ∧ (∀ j, at8 L j = if j < k then at8 (putN n) j else at8 (digN n) j) ∧ Below w.heap.size w wr') (fun i _ => (digN n).length - (intOf i).toNat)
      case atStart => exact ⟨0, digN n, by omega, rfl, hown, fun j => by rw [if_neg (by omega)], hb⟩
      case round =>
        clear hown hb
        obtain ⟨k, L, hkm, rfl, hown, hat, hb⟩ := hrel
        have Hat := Lib.hid hat
        clear hat
        by_cases hlt : k + 1 < (digN n).length
        · have hc := hown.cell (j := k) (by omega)
          have hf := hown.free k
          have hd := ((D.out k).1 (by rw [← Hdl.out]; exact hlt))
          have h0 := at8_lo L k
          have hv : at8 L k < 128 := by have := Hat.out k; rw [if_neg (Nat.lt_irrefl k)] at this; rw [this]; exact hd.2
          have Hs := Lib.hid (hown.set (j := k) (x := at8 L k + 128) (by omega) (by omega))
          have Hb := Lib.hid (hb.setCell (p := ⟨g, k, none⟩) hg (.int .u8 (at8 L k + 128)))
          have Hn := Lib.hid (show ∀ j, at8 (L.set k (b8 (at8 L k + 128))) j = if j < k + 1 then at8 (putN n) j else at8 (digN n) j from fun j => by
            rw [at8_set L k j _ (by rw [hown.len]; omega) (by omega) (by omega)]
            have hk := Hat.out k
            rw [if_neg (Nat.lt_irrefl k)] at hk
            by_cases hj : j = k
            · rw [if_pos hj, if_pos (by omega), hj, hd.1, hk]
            · rw [if_neg hj, Hat.out j]
              by_cases hjk : j < k
              · rw [if_pos hjk, if_pos (by omega)]
              · rw [if_neg hjk, if_neg (by omega)])
          clear hd hb
          go_wp2
          go_roundw
          case rel => exact ⟨k + 1, _, by omega, by go_num, Hs.out, Hn.out, Hb.out⟩
          case measure => simp [intOf]; omega
        · have hL : L = putN n := by
            refine ext8 (by rw [hown.len, Hdl.out]) fun j hj => ?_
            rw [hown.len] at hj
            rw [Hat.out j]
            by_cases hjk : j < k
            · rw [if_pos hjk]
            · rw [if_neg hjk]
              exact ((D.out j).2 (by rw [← Hdl.out]; omega)).symm
          subst hL
          go_wp2
          go_ret
          exact ⟨_, c', ret_slice Hdl.out, by rw [← Hdl.out]; exact hown, hb⟩
    · have hp := Lib.hid (digN_T x)
      have hT := Lib.hid (show digT x = digN x by unfold digT; rw [if_neg h0])
      have hm : IntKind.u8.wrap ((x : Int) % 128) = (x : Int) % 128 := IntWalk.u8_in _ (by omega)
      go_wp2_with (at_builtin; refine wpList_app rfl _ _ rfl rfl (hown.alloc _) rfl (Rd.lit1 _ _ (by omega)) (by omega) (by simp; have := hb.size; omega) ?_; intro A2 c2 w2 hown2 hg2)
      have hb2 := below_own (belowA hb _) (hown.alloc _) hg2
      clear hm
      go_roundw
      case rel => exact ⟨x / 128, o ++ [b8 ((x : Int) % 128)], k + 1, A2, c2, by omega, by go_num, rfl, hown2, by rw [List.append_assoc, List.singleton_append, show b8 ((x : Int) % 128) = b8 ((x % 128 : Nat) : Int) from rfl, ← hp.out, ← hT.out]; exact Hx.out, hb2⟩
      case measure => simp [intOf]; omega

set_option maxRecDepth 100000 in
set_option maxHeartbeats 400000 in
theorem refPutBytes_any (A : Option Addr) (n c : Nat) (l : List UInt8) (w : World) (hr : Rd w w.heap.size A n l) (hn : n ≤ 100000000000) :
    Calls Tryd.prog 84 #[.slice A n c] w fun e w' => ∃ A' c', e = .returned (.slice A' ((putN n).length + n) c') ∧ Own w' w.heap.size A' ((putN n).length + n) c' (putB l) ∧ Below w.heap.size w w' := by
  have hln := Lib.hid hr.len
  have hlen := putN_len10 (n := n) (by omega)
  have hw : IntKind.u64.wrap (n : Int) = n := IntWalk.u64_in _ (by omega)
  go_enter Tryd.func84, Tryd.ntmps84
  go_wp2_with fail
  refine (refPut_any n _ (by omega)).mono ?_
  rintro e w1 ⟨A1, c1, rfl, o1, b1⟩
  go_wp2_with (at_builtin; refine wpList_app rfl _ _ rfl rfl o1 rfl (hr.up b1) (by omega) b1.size ?_; intro A2 c2 w2 o2 g2)
  have b2 := below_own b1 o1 g2
  go_ret
  exact ⟨A2, c2, rfl, by unfold putB; rw [hln.out]; exact o2, b2⟩
end Go.Proofs.YtojjfkbffjkojaaDoor
namespace Go.Proofs.YtojjfkbffjkojaaDoor
open Go.RowKit

theorem bytesE_no {l : List UInt8} (h : halvesB l = false) : bytesE l = 2 ∧ bytesL l = [] := by simp [bytesE, bytesL, h]
theorem bytesE_odd {l : List UInt8} (h : halvesB l = true) (k : l.length % 2 = 1) : bytesE l = 11 ∧ bytesL l = [] := by simp [bytesE, bytesL, h, k]
theorem bytesE_ok {l : List UInt8} (h : halvesB l = true) (k : l.length % 2 = 0) : bytesE l = 0 ∧ bytesL l = joinB l := by simp [bytesE, bytesL, h, k]
theorem ret_se {A A' : Option Addr} {n n' c c' : Nat} {x y : Int} (h : Value.slice A n c = Value.slice A' n' c') (k : x = y) : Ending.returned (.tuple #[.slice A n c, .int .i64 x]) = Ending.returned (.tuple #[.slice A' n' c', .int .i64 y]) := by rw [h, k]

theorem packE_no {l : List UInt8} (h : halvesB l = false) (leaf : Bool) : packE l = 2 ∧ packL l leaf = [] := by simp [packE, packL, h]
theorem packE_ok {l : List UInt8} (h : halvesB l = true) : packE l = 0 := by simp [packE, h]
theorem packL_even {l : List UInt8} (h : halvesB l = true) (k : l.length % 2 = 0) (leaf : Bool) (x : Int) (hx : x = if leaf = true then 32 else 0) : packL l leaf = [b8 x] ++ joinB l := by simp [packL, h, k, hx]
theorem packL_odd {l : List UInt8} (h : halvesB l = true) (k : l.length % 2 = 1) (leaf : Bool) (x : Int) (hx : x = (if leaf = true then 32 else 0) + 16 + at8 l 0) : packL l leaf = [b8 x] ++ joinB (l.drop 1) := by simp [packL, h, k, hx]
theorem halvesB_dropP {l : List UInt8} (h : halvesB l = true) (k : Nat) : halvesB (l.drop k) = true := by
  unfold halvesB at *
  rw [List.all_eq_true] at *
  exact fun x hx => h x (List.mem_of_mem_drop hx)
theorem or16 (x : Int) (h0 : 0 ≤ x) (h1 : x ≤ 15) : bits .or .u8 16 x = 16 + x := by
  have h : ∀ y : Fin 16, bits .or .u8 16 (y.val : Int) = 16 + (y.val : Int) := by decide +kernel
  have := h ⟨x.toNat, by omega⟩
  simp only [Int.toNat_of_nonneg h0] at this
  exact this
theorem or32 (x : Int) (h0 : 0 ≤ x) (h1 : x ≤ 15) : bits .or .u8 32 (16 + x) = 48 + x := by
  have h : ∀ y : Fin 16, bits .or .u8 32 (16 + (y.val : Int)) = 48 + (y.val : Int) := by decide +kernel
  have := h ⟨x.toNat, by omega⟩
  simp only [Int.toNat_of_nonneg h0] at this
  exact this
theorem or0 (x : Int) (h0 : 0 ≤ x) (h1 : x ≤ 15) : bits .or .u8 0 (16 + x) = 16 + x := by
  have h : ∀ y : Fin 16, bits .or .u8 0 (16 + (y.val : Int)) = 16 + (y.val : Int) := by decide +kernel
  have := h ⟨x.toNat, by omega⟩
  simp only [Int.toNat_of_nonneg h0] at this
  exact this

set_option maxHeartbeats 800000 in
theorem pack_any (A : Option Addr) (n c : Nat) (leaf : Bool) (l : List UInt8) (w : World) (hr : Rd w w.heap.size A n l) (hn : n ≤ 100000000000) (hnc : n ≤ c) :
    Calls Tryd.prog 96 #[.slice A n c, .bool leaf] w fun e w' => ∃ A' n' c', e = .returned (.tuple #[.slice A' n' c', .int .i64 (packE l)]) ∧ Own w' w.heap.size A' n' c' (packL l leaf) ∧ Below w.heap.size w w' := by
  have hln := Lib.hid hr.len
  by_cases hh : halvesB l = true
  · have he := Lib.hid (packE_ok hh)
    by_cases hodd : n % 2 = 1
    · have hl := Lib.hid (packL_odd hh (by rw [hln.out]; omega) leaf _ rfl)
      obtain ⟨b, off, rfl, hc0⟩ := hr.at0 (by omega)
      have h0 := at8_lo l 0
      have h1 := halvesB_at l hh 0
      have ho := or16 _ h0 h1
      have ho2 := or32 _ h0 h1
      have ho3 := or0 _ h0 h1
      have hcA := hr.shift (k := 1) (by omega)
      have hcB : c = 1 → Rd w w.heap.size (some ⟨b, off, none⟩) (n - 1) (l.drop 1) := fun e => hr.gone (by omega)
      have hj := halvesB_dropP hh 1
      cases leaf
      all_goals
        go_enter Tryd.func96, Tryd.ntmps96
        go_wp2_with (first
          | (at_builtin; refine wpList_app rfl _ _ rfl rfl ((Own.lit1 w w.heap.size (Nat.le_refl _) _ (by omega)).below hb2) rfl hown2.rd (by omega) (by have := hb2.size; simp at this; omega) ?_; intro A3 c3 w3 hown3 hg3)
          | (go_at_call 113; refine (halves_any _ _ _ _ _ _ hr hn).mono ?_; rintro e w' ⟨rfl, rfl⟩)
          | (go_at_call 114; ((with_reducible refine (joined_any _ _ _ _ _ (hcA.alloc (Nat.le_refl _) _ |>.more (by simp)) (by omega) hj).mono ?_); rintro e w2 ⟨A2, c2, rfl, hown2, hb2⟩))
          | (go_at_call 114; ((with_reducible refine (joined_any _ _ _ _ _ ((hcB (by assumption)).alloc (Nat.le_refl _) _ |>.more (by simp)) (by omega) hj).mono ?_); rintro e w2 ⟨A2, c2, rfl, hown2, hb2⟩)))
        all_goals go_ret2
        all_goals refine ⟨A3, _, c3, ret_se rfl he.out.symm, by rw [hl.out]; exact hown3, ?_⟩
        all_goals exact (((Below.refl _ _).alloc (Nat.le_refl _) _).trans (hb2.mono (by simp))).grown hg3 (by have := hb2.size; simp at this; omega) (by simp [Value.ownBlock])
    · have hl := Lib.hid (packL_even hh (by rw [hln.out]; omega) leaf _ rfl)
      cases leaf
      all_goals
        go_enter Tryd.func96, Tryd.ntmps96
        go_wp2_with (first
          | (at_builtin; refine wpList_app rfl _ _ rfl rfl ((Own.lit1 w w.heap.size (Nat.le_refl _) _ (by omega)).below hb2) rfl hown2.rd (by omega) (by have := hb2.size; simp at this; omega) ?_; intro A3 c3 w3 hown3 hg3)
          | (go_at_call 113; refine (halves_any _ _ _ _ _ _ hr hn).mono ?_; rintro e w' ⟨rfl, rfl⟩)
          | (go_at_call 114; refine (joined_any _ _ _ _ _ (hr.alloc (Nat.le_refl _) _ |>.more (by simp)) hn hh).mono ?_; rintro e w2 ⟨A2, c2, rfl, hown2, hb2⟩))
        go_ret2
        refine ⟨A3, _, c3, ret_se rfl he.out.symm, by rw [hl.out]; exact hown3, ?_⟩
        exact (((Below.refl _ _).alloc (Nat.le_refl _) _).trans (hb2.mono (by simp))).grown hg3 (by have := hb2.size; simp at this; omega) (by simp [Value.ownBlock])
  · have hh' : halvesB l = false := by simpa using hh
    obtain ⟨he, hl⟩ := packE_no hh' leaf
    have He := Lib.hid he
    have Hl := Lib.hid hl
    clear he hl hh
    go_enter Tryd.func96, Tryd.ntmps96
    go_wp2_with (go_at_call 113; refine (halves_any _ _ _ _ _ _ hr hn).mono ?_; rintro e w' ⟨rfl, rfl⟩)
    go_ret2
    exact ⟨none, 0, 0, ret_se rfl He.out.symm, by rw [Hl.out]; exact Own.nil_ _ _, Below.refl _ _⟩
end Go.Proofs.YtojjfkbffjkojaaDoor
namespace Go.Proofs.YtojjfkbffjkojaaDoor
open Go.RowKit

theorem cmpB_eq {a b : List UInt8} {n : Nat} (h : commonB a b = n) (h1 : n = a.length) (h2 : n = b.length) : cmpB a b = 0 := by unfold cmpB; simp only [h]; rw [if_pos ⟨h1, h2⟩]
theorem cmpB_lt {a b : List UInt8} {n : Nat} (h : commonB a b = n) (h1 : n = a.length) (h2 : n ≠ b.length) : cmpB a b = -1 := by unfold cmpB; simp only [h]; rw [if_neg (fun e => h2 e.2), if_pos (.inl h1)]
theorem cmpB_gt {a b : List UInt8} {n : Nat} (h : commonB a b = n) (h1 : n ≠ a.length) (h2 : ¬ n < b.length) : cmpB a b = 1 := by unfold cmpB; simp only [h]; rw [if_neg (fun e => h1 e.1), if_neg (fun e => e.elim h1 (fun e => h2 e.1))]
theorem cmpB_at_lt {a b : List UInt8} {n : Nat} (h : commonB a b = n) (h1 : n < b.length) (h2 : at8 a n < at8 b n) (h3 : n ≠ a.length) : cmpB a b = -1 := by unfold cmpB; simp only [h]; rw [if_neg (fun e => h3 e.1), if_pos (.inr ⟨h1, h2⟩)]
theorem cmpB_at_ge {a b : List UInt8} {n : Nat} (h : commonB a b = n) (h1 : n ≠ a.length) (h2 : ¬ at8 a n < at8 b n) : cmpB a b = 1 := by unfold cmpB; simp only [h]; rw [if_neg (fun e => h1 e.1), if_neg (fun e => e.elim h1 (fun e => h2 e.2))]

end Go.Proofs.YtojjfkbffjkojaaDoor
namespace Go.Proofs.YtojjfkbffjkojaaDoor
open Go.RowKit

theorem take_set1 (L P : List UInt8) (k : Nat) (x : UInt8) (h : k < L.length) (hp : L.take k = P) : (L.set k x).take (k + 1) = P ++ [x] := by
  subst hp
  rw [take_snoc _ _ (by simpa using h), List.take_set, List.set_eq_of_length_le (by simp; omega)]
  simp [h]
theorem take_set2 (L P : List UInt8) (k : Nat) (x y : UInt8) (h : 2 * k + 1 < L.length) (hp : L.take (2 * k) = P) : ((L.set (2 * k) x).set (2 * k + 1) y).take (2 * (k + 1)) = P ++ [x, y] := by
  have e1 := take_set1 L P (2 * k) x (by omega) hp
  have e2 := take_set1 (L.set (2 * k) x) (P ++ [x]) (2 * k + 1) y (by simpa using h) e1
  rw [show 2 * (k + 1) = 2 * k + 1 + 1 by omega, e2]
  simp
theorem other_cell {wr : World} {H bb o o' : Nat} {v : Value} (hne : bb < H) (h : wr.cell? ⟨bb, o, none⟩ = some v) : ∀ u, (wr.setCell ⟨H, o', none⟩ u).cell? ⟨bb, o, none⟩ = some v := fun u => by
  rw [World.cell?_setCell_other _ _ _ _ (by intro e; injection e with e; omega)]; exact h

set_option maxHeartbeats 800000 in
theorem refOf_any (A : Option Addr) (n c : Nat) (l : List UInt8) (w : World) (hr : Rd w w.heap.size A n l) (hn : n ≤ 100000000000) :
    Calls Tryd.prog 17 #[.slice A n c] w fun e w' => e = .returned (.slice (some ⟨w.heap.size, 0, none⟩) (2 * n) (2 * n)) ∧ Own w' w.heap.size (some ⟨w.heap.size, 0, none⟩) (2 * n) (2 * n) (ofB l) ∧ Below w.heap.size w w' := by
  go_enter Tryd.func17, Tryd.ntmps17
  go_wp2_with (at_make; refine wpList_mk rfl _ _ rfl (n := 2 * n) rfl rfl (by omega) (by omega) (by omega) (Nat.le_refl _) ?_; intro w1 hown1 hg1)
  have hb1 : Below w.heap.size w w1 := (Below.refl _ _).grown hg1 (Nat.le_refl _) (by intro k h; cases h)
  go_loopw [4] (fun i wr => ∃ (k : Nat) (L : List UInt8), k ≤ n ∧ i = .int .i64 k ∧ Own wr w.heap.size (some ⟨w.heap.size, 0, none⟩) (2 * n) (2 * n) L ∧ L.take (2 * k) = ofB (l.take k) ∧ Below w.heap.size w wr) (fun i _ => n - (intOf i).toNat)
  case atStart => exact ⟨0, _, Nat.zero_le _, rfl, hown1, rfl, hb1⟩
  case round =>
    obtain ⟨k, L, hk, rfl, hown, ht, hb⟩ := hrel
    have Ht := Lib.hid ht
    clear ht
    have hln := Lib.hid hr.len
    have hLn := Lib.hid hown.len
    by_cases hlt : k < n
    · obtain ⟨bb, off, rfl, hbl, hc⟩ := (hr.below hb).atB hlt
      have h0 := at8_lo l k
      have h1 := at8_hi l k
      have hs1 := hown.cell (j := 2 * k) (by omega)
      have hf1 := hown.free (2 * k)
      have hown1 := hown.set (j := 2 * k) (x := at8 l k / 16) (by omega) (by omega)
      have hs2 := hown1.cell (j := 2 * k + 1) (by omega)
      have hf2 := hown1.free (2 * k + 1)
      have hown2 := hown1.set (j := 2 * k + 1) (x := at8 l k % 16) (by omega) (by omega)
      have hco := other_cell (o' := 2 * k) hbl hc
      have hb2 := (hb.setCell (p := ⟨w.heap.size, 2 * k, none⟩) (Nat.le_refl _) (.int .u8 (at8 l k / 16))).setCell (p := ⟨w.heap.size, 2 * k + 1, none⟩) (Nat.le_refl _) (.int .u8 (at8 l k % 16))
      have Hown2 := Lib.hid hown2
      have Hb2 := Lib.hid hb2
      clear hown2 hb2 hown1 hbl
      go_wp2
      go_roundw
      case rel => exact ⟨k + 1, _, by omega, by go_num, Hown2.out, by rw [ofB_take l k (by rw [hln.out]; exact hlt)]; exact take_set2 L _ k _ _ (by rw [hLn.out]; omega) Ht.out, Hb2.out⟩
      case measure => simp [intOf]; omega
    · have hkn : k = n := by omega
      subst hkn
      go_wp2
      go_ret
      refine ⟨rfl, ?_, hb⟩
      have e := Ht.out
      rw [List.take_of_length_le (by rw [hLn.out]; omega), List.take_of_length_le (by rw [hln.out]; omega)] at e
      rw [← e]; exact hown

theorem common_step (a b : List UInt8) (k : Nat) (h1 : k < a.length) (h2 : k < b.length) (he : at8 a k = at8 b k) (ht : a.take k = b.take k) : a.take (k + 1) = b.take (k + 1) := take_both a b k ht h1 h2 ((at8_eq_iff a b k).1 he)

set_option maxHeartbeats 800000 in
theorem refCommon_any (A1 A2 : Option Addr) (n m c1 c2 B : Nat) (a b : List UInt8) (w : World) (h1 : Rd w B A1 n a) (h2 : Rd w B A2 m b) (hn : n ≤ 100000000000) (_hm : m ≤ 100000000000) :
    Calls Tryd.prog 100 #[.slice A1 n c1, .slice A2 m c2] w fun e w' => e = .returned (.int .i64 (commonB a b)) ∧ ∃ d, w' = w.drewN d := by
  go_enter Tryd.func100, Tryd.ntmps100
  go_wp2
  go_loopw [5] (fun i wr => ∃ (k d : Nat), k ≤ n ∧ k ≤ m ∧ i = .int .i64 k ∧ a.take k = b.take k ∧ wr = w.drewN d) (fun i _ => n - (intOf i).toNat)
  case atStart => exact ⟨0, 0, Nat.zero_le _, Nat.zero_le _, rfl, rfl, rfl⟩
  case round =>
    obtain ⟨k, d, hkn, hkm, rfl, ht, rfl⟩ := hrel
    have Ht := Lib.hid ht
    clear ht
    have hla := Lib.hid h1.len
    have hlb := Lib.hid h2.len
    by_cases hlt1 : k < n
    · by_cases hlt2 : k < m
      · obtain ⟨bb1, off1, rfl, hc1⟩ := h1.at_ hlt1
        obtain ⟨bb2, off2, rfl, hc2⟩ := h2.at_ hlt2
        have hg1 : (k : Int) < n := by omega
        have hg2 : (k : Int) < m := by omega
        by_cases heq : at8 a k = at8 b k
        · have hq : (at8 a k == at8 b k) = true := by simp [heq]
          have He := Lib.hid heq
          clear heq
          go_wp2
          go_quiet (fail)
          go_wp2
          go_roundw
          case rel => exact ⟨k + 1, _, by omega, by omega, by go_num, common_step a b k (by rw [hla.out]; exact hlt1) (by rw [hlb.out]; exact hlt2) He.out Ht.out, rfl⟩
          case measure => simp [intOf]; omega
        · have hq : (at8 a k == at8 b k) = false := by simp [heq]
          have He := Lib.hid heq
          clear heq
          go_wp2
          go_quiet (fail)
          go_wp2
          go_ret
          exact ⟨ret_int (by rw [commonB_at a b k Ht.out (by rw [hla.out]; exact hlt1) (by rw [hlb.out]; exact hlt2) (fun e => He.out ((at8_eq_iff a b k).2 e))]), _, World.drewN_drewN ..⟩
      · have hmi : Hid (k = min a.length b.length) := Lib.hid (by have := hla.out; have := hlb.out; omega)
        have hg1 : (k : Int) < n := by omega
        have hd : decide ((k : Int) < m) = false := by simp; omega
        go_wp2
        go_quiet (fail)
        go_wp2
        go_ret
        exact ⟨ret_int (by rw [commonB_end a b k Ht.out hmi.out]), _, World.drewN_drewN ..⟩
    · have hmi : Hid (k = min a.length b.length) := Lib.hid (by have := hla.out; have := hlb.out; omega)
      have hd : decide ((k : Int) < n) = false := by simp; omega
      go_wp2
      go_quiet (fail)
      go_wp2
      go_ret
      exact ⟨ret_int (by rw [commonB_end a b k Ht.out hmi.out]), _, World.drewN_drewN ..⟩

set_option maxHeartbeats 1600000 in
theorem cmp04_any (A1 A2 : Option Addr) (n m c1 c2 B : Nat) (a b : List UInt8) (w : World) (h1 : Rd w B A1 n a) (h2 : Rd w B A2 m b) (hn : n ≤ 100000000000) (hm : m ≤ 100000000000) :
    Calls Tryd.prog 56 #[.slice A1 n c1, .slice A2 m c2] w fun e w' => e = .returned (.int .i64 (cmpB a b)) ∧ ∃ d, w' = w.drewN d := by
  have hla := Lib.hid h1.len
  have hlb := Lib.hid h2.len
  go_enter Tryd.func56, Tryd.ntmps56
  go_wp2
  go_loopw [5] (fun i wr => ∃ (k d : Nat), k ≤ n ∧ k ≤ m ∧ i = .int .i64 k ∧ a.take k = b.take k ∧ wr = w.drewN d) (fun i _ => n - (intOf i).toNat)
  case atStart => exact ⟨0, 0, Nat.zero_le _, Nat.zero_le _, rfl, rfl, rfl⟩
  case round =>
    obtain ⟨k, d, hkn, hkm, rfl, ht, rfl⟩ := hrel
    have Ht := Lib.hid ht
    clear ht
    by_cases hlt : k < n ∧ k < m
    · obtain ⟨hlt1, hlt2⟩ := hlt
      obtain ⟨bb1, off1, rfl, hc1⟩ := h1.at_ hlt1
      obtain ⟨bb2, off2, rfl, hc2⟩ := h2.at_ hlt2
      have hg1 : (k : Int) < n := by omega
      have hg2 : (k : Int) < m := by omega
      have hka : k < a.length := by rw [hla.out]; exact hlt1
      have hkb : k < b.length := by rw [hlb.out]; exact hlt2
      rcases Int.lt_trichotomy (at8 a k) (at8 b k) with hx | hx | hx
      · have hk := commonB_at a b k Ht.out hka hkb (fun e => by have := (at8_eq_iff a b k).2 e; omega)
        have hfin := Lib.hid (cmpB_at_lt hk hkb hx (by omega))
        clear hk hka hkb
        go_wp2
        go_quiet (fail)
        go_wp2
        go_ret
        exact ⟨ret_int hfin.out.symm, _, World.drewN_drewN ..⟩
      · have hq : ¬ at8 a k < at8 b k := by omega
        have hq2 : ¬ at8 b k < at8 a k := by omega
        have hs := Lib.hid (common_step a b k hka hkb hx Ht.out)
        clear hx hka hkb
        go_wp2
        go_quiet (fail)
        go_wp2
        go_quiet (fail)
        go_wp2
        go_roundw
        case rel => exact ⟨k + 1, _, by omega, by omega, by go_num, hs.out, rfl⟩
        case measure => simp [intOf]; omega
      · have hk := commonB_at a b k Ht.out hka hkb (fun e => by have := (at8_eq_iff a b k).2 e; omega)
        have hfin := Lib.hid (cmpB_at_ge hk (by omega) (show ¬ at8 a k < at8 b k by omega))
        have hq : ¬ at8 a k < at8 b k := by omega
        clear hk hka hkb
        go_wp2
        go_quiet (fail)
        go_wp2
        go_quiet (fail)
        go_wp2
        go_ret
        exact ⟨ret_int hfin.out.symm, by simp only [World.drewN_drewN]; exact ⟨_, rfl⟩⟩
    · have hmi : k = min a.length b.length := by rw [hla.out, hlb.out]; omega
      have hk := commonB_end a b k Ht.out hmi
      rcases Nat.lt_trichotomy n m with hx | hx | hx
      · have hfin := Lib.hid (cmpB_lt hk (by rw [hla.out]; omega) (by rw [hlb.out]; omega))
        clear hk hmi
        go_wp2
        go_ret
        exact ⟨ret_int hfin.out.symm, _, rfl⟩
      · have hfin := Lib.hid (cmpB_eq hk (by rw [hla.out]; omega) (by rw [hlb.out]; omega))
        subst hx
        clear hk hmi
        go_wp2
        go_ret
        exact ⟨ret_int hfin.out.symm, _, rfl⟩
      · have hfin := Lib.hid (cmpB_gt hk (by rw [hla.out]; omega) (by rw [hlb.out]; omega))
        clear hk hmi
        go_wp2
        go_ret
        exact ⟨ret_int hfin.out.symm, _, rfl⟩
end Go.Proofs.YtojjfkbffjkojaaDoor
namespace Go.Proofs.YtojjfkbffjkojaaDoor
open Go.RowKit

set_option maxHeartbeats 800000 in
theorem refBytes_any (A : Option Addr) (n c : Nat) (l : List UInt8) (w : World) (hr : Rd w w.heap.size A n l) (hn : n ≤ 100000000000) :
    Calls Tryd.prog 103 #[.slice A n c] w fun e w' => ∃ A' n' c', e = .returned (.tuple #[.slice A' n' c', .int .i64 (bytesE l)]) ∧ Own w' w.heap.size A' n' c' (bytesL l) ∧ Below w.heap.size w w' := by
  have hln := Lib.hid hr.len
  by_cases hh : halvesB l = true
  · by_cases hodd : n % 2 = 1
    · have He := Lib.hid (bytesE_odd hh (by rw [hln.out]; exact hodd))
      go_enter Tryd.func103, Tryd.ntmps103
      go_wp2_with (go_at_call 102; refine (right_any _ _ _ _ _ _ hr hn).mono ?_; rintro e w' ⟨rfl, rfl⟩)
      go_ret2
      exact ⟨none, 0, 0, ret_se rfl He.out.1.symm, by rw [He.out.2]; exact Own.nil_ _ _, Below.refl _ _⟩
    · have He := Lib.hid (bytesE_ok hh (by rw [hln.out]; omega))
      go_enter Tryd.func103, Tryd.ntmps103
      go_wp2_with (first
        | (at_make; refine wpList_mk rfl _ _ rfl (n := n / 2) rfl rfl (by omega) (by omega) (by omega) (Nat.le_refl _) ?_; intro w1 hown1 hg1)
        | (go_at_call 102; refine (right_any _ _ _ _ _ _ hr hn).mono ?_; rintro e w' ⟨rfl, rfl⟩))
      have hb1 : Below w.heap.size w w1 := (Below.refl _ _).grown hg1 (Nat.le_refl _) (by intro k h; cases h)
      have Hh := Lib.hid hh
      clear hh
      go_loopw [5] (fun i wr => ∃ (k : Nat) (L : List UInt8), k ≤ n / 2 ∧ i = .int .i64 k ∧ Own wr w.heap.size (some ⟨w.heap.size, 0, none⟩) (n / 2) (n / 2) L ∧ L.take k = joinB (l.take (2 * k)) ∧ Below w.heap.size w wr) (fun i _ => n - (intOf i).toNat)
      case atStart => exact ⟨0, _, Nat.zero_le _, rfl, hown1, rfl, hb1⟩
      case round =>
        obtain ⟨k, L, hk, rfl, hown, ht, hb⟩ := hrel
        have Ht := Lib.hid ht
        clear ht
        have hLn := Lib.hid hown.len
        by_cases hlt : k < n / 2
        · obtain ⟨bb, off, rfl, hbl, hc⟩ := (hr.below hb).atB (k := 2 * k) (by omega)
          obtain ⟨bb', off', e, hc'⟩ := (hr.below hb).at_ (k := 2 * k + 1) (by omega)
          injection e with e
          injection e with e1 e2
          subst e1 e2
          have h0 := at8_lo l (2 * k)
          have h1 := at8_lo l (2 * k + 1)
          have h2 := halvesB_at l Hh.out (2 * k)
          have h3 := halvesB_at l Hh.out (2 * k + 1)
          have hs1 := hown.cell (j := k) (by omega)
          have hf1 := hown.free k
          have Hown2 := Lib.hid (hown.set (j := k) (x := 16 * at8 l (2 * k) + at8 l (2 * k + 1)) (by omega) (by omega))
          have Hb2 := Lib.hid (hb.setCell (p := ⟨w.heap.size, k, none⟩) (Nat.le_refl _) (.int .u8 (16 * at8 l (2 * k) + at8 l (2 * k + 1))))
          have hj := Lib.hid (joinB_take8 l k (by rw [hln.out]; omega) Hh.out)
          have hw1 : IntKind.i64.wrap (2 * (k : Int)) = 2 * (k : Int) := IntWalk.i64_in _ (by omega)
          have hw9 : IntKind.i64.wrap (2 * (k : Int) + 1) = 2 * (k : Int) + 1 := IntWalk.i64_in _ (by omega)
          have hw2 : (2 * (k : Int)).toNat = 2 * k := by omega
          have hw4 : (2 * (k : Int) + 1).toNat = 2 * k + 1 := by omega
          have hw5 : (0 : Int) ≤ 2 * (k : Int) := by omega
          have hw6 : (2 * (k : Int)) < (n : Int) := by omega
          have hw7 : (0 : Int) ≤ 2 * (k : Int) + 1 := by omega
          have hw8 : (2 * (k : Int) + 1) < (n : Int) := by omega
          have hw3 : IntKind.u8.wrap (16 * at8 l (2 * k)) = 16 * at8 l (2 * k) := IntWalk.u8_in _ (by omega)
          have hw0 : IntKind.u8.wrap (16 * at8 l (2 * k) + at8 l (2 * k + 1)) = 16 * at8 l (2 * k) + at8 l (2 * k + 1) := IntWalk.u8_in _ (by omega)
          go_wp2
          go_region
          all_goals
            clear hw1 hw9 hw2 hw4 hw5 hw6 hw7 hw8 hw3 hw0 hc hc' hs1 hf1 hown hb
            go_wp2
            go_roundw
            case rel => exact ⟨k + 1, _, by omega, by go_num, Hown2.out.drew, by rw [hj.out, Int.mul_comm (at8 l (2 * k)) 16]; exact take_set1 L _ k _ (by rw [hLn.out]; omega) Ht.out, Hb2.out.drew⟩
            case measure => simp [intOf]; omega
        · have hkn : k = n / 2 := by omega
          have hend := Lib.hid (joinB_all l k (by rw [hln.out]; omega) (by rw [hln.out]; omega))
          subst hkn
          go_wp2
          go_ret2
          refine ⟨_, _, _, ret_se rfl He.out.1.symm, ?_, hb⟩
          rw [He.out.2, ← hend.out, ← Ht.out, List.take_of_length_le (by rw [hLn.out]; omega)]
          exact hown
  · have hh' : halvesB l = false := by simpa using hh
    have He := Lib.hid (bytesE_no hh')
    clear hh
    go_enter Tryd.func103, Tryd.ntmps103
    go_wp2_with (go_at_call 102; refine (right_any _ _ _ _ _ _ hr hn).mono ?_; rintro e w' ⟨rfl, rfl⟩)
    go_ret2
    exact ⟨none, 0, 0, ret_se rfl He.out.1.symm, by rw [He.out.2]; exact Own.nil_ _ _, Below.refl _ _⟩

theorem halvesB_cons (x : UInt8) (l : List UInt8) (hx : x ≤ 15) (h : halvesB l = true) : halvesB (x :: l) = true := by
  unfold halvesB at *; rw [List.all_cons, h]; simp [hx]
theorem b8_le (x : Int) (h0 : 0 ≤ x) (h1 : x ≤ 15) : b8 x ≤ 15 := by
  unfold b8; rw [UInt8.le_iff_toNat_le, UInt8.toNat_ofNat']; simp; omega
theorem refPack_odd {l : List UInt8} (h : halvesB l = true) (k : l.length % 2 = 1) (leaf : Bool) (x : Int) (hx : x = if leaf = true then 3 else 1) :
    bytesE ([b8 x] ++ l) = 0 ∧ bytesL ([b8 x] ++ l) = packL l leaf := by
  have hx' : 0 ≤ x ∧ x ≤ 15 := by subst hx; split <;> omega
  have hh : halvesB (b8 x :: l) = true := halvesB_cons _ _ (b8_le x hx'.1 hx'.2) h
  obtain ⟨h1, h2⟩ := bytesE_ok (l := [b8 x] ++ l) hh (by simp; omega)
  refine ⟨h1, ?_⟩
  rw [h2, packL_odd h k leaf _ rfl]
  rcases l with _ | ⟨y, l⟩
  · simp at k
  · simp only [List.cons_append, List.nil_append, joinB, List.drop_succ_cons, List.drop_zero]
    congr 1
    have hy : y ≤ 15 := halvesB_le _ h y (by simp)
    have e : at8 (y :: l) 0 = (y.toNat : Int) := rfl
    rw [e]
    have := b8_add (b8 x) y (b8_le x hx'.1 hx'.2) hy
    rw [← this]
    congr 1
    subst hx
    cases leaf <;> simp [b8] <;> omega
theorem refPack_even {l : List UInt8} (h : halvesB l = true) (k : l.length % 2 = 0) (leaf : Bool) (x : Int) (hx : x = if leaf = true then 2 else 0) :
    bytesE ([b8 x] ++ [b8 0] ++ l) = 0 ∧ bytesL ([b8 x] ++ [b8 0] ++ l) = packL l leaf := by
  have hx' : 0 ≤ x ∧ x ≤ 15 := by subst hx; split <;> omega
  have hh : halvesB (b8 x :: b8 0 :: l) = true := halvesB_cons _ _ (b8_le x hx'.1 hx'.2) (halvesB_cons _ _ (b8_le 0 (by omega) (by omega)) h)
  obtain ⟨h1, h2⟩ := bytesE_ok (l := [b8 x] ++ [b8 0] ++ l) hh (by simp; omega)
  refine ⟨h1, ?_⟩
  rw [h2, packL_even h k leaf _ rfl]
  simp only [List.cons_append, List.nil_append, joinB]
  congr 1
  have := b8_add (b8 x) (b8 0) (b8_le x hx'.1 hx'.2) (b8_le 0 (by omega) (by omega))
  rw [← this]
  congr 1
  subst hx
  cases leaf <;> simp [b8]

set_option maxHeartbeats 1600000 in
theorem refPack_any (A : Option Addr) (n c : Nat) (leaf : Bool) (l : List UInt8) (w : World) (hr : Rd w w.heap.size A n l) (hn : n ≤ 10000000000) :
    Calls Tryd.prog 83 #[.slice A n c, .bool leaf] w fun e w' => ∃ A' n' c', e = .returned (.tuple #[.slice A' n' c', .int .i64 (packE l)]) ∧ Own w' w.heap.size A' n' c' (packL l leaf) ∧ Below w.heap.size w w' := by
  have hln := Lib.hid hr.len
  by_cases hh : halvesB l = true
  · have he := Lib.hid (packE_ok hh)
    by_cases hodd : n % 2 = 1
    · have hl := Lib.hid (refPack_odd hh (by rw [hln.out]; omega) leaf _ rfl)
      have hm : (n : Int) % 2 = 1 := by omega
      cases leaf
      all_goals
        go_enter Tryd.func83, Tryd.ntmps83
        go_wp2_with (first
          | (at_builtin; refine wpList_app rfl _ _ rfl rfl (Own.lit1 w w.heap.size (Nat.le_refl _) _ (by omega)) rfl (hr.upA _) (by omega) (sz1 _ _) ?_; intro A1 c1 w1 hown1 hg1)
          | (go_at_call 102; refine (right_any _ _ _ _ _ _ hr (by omega)).mono ?_; rintro e w' ⟨rfl, rfl⟩))
        have hb1 := below_own ((Below.refl _ _).alloc (Nat.le_refl _) _) (Own.lit1 w w.heap.size (Nat.le_refl _) _ (by omega)) hg1
        refine (refBytes_any _ _ _ _ _ hown1.rd (by omega)).mono ?_
        rintro e w2 ⟨A2, n2, c2, rfl, hown2, hb2⟩
        have e1 := hl.out.1
        have e2 := hl.out.2
        simp only [if_true, if_false, Bool.false_eq_true] at e1 e2
        rw [e1]
        rw [e2] at hown2
        clear e1 e2
        go_wp2
        go_ret2
        exact ⟨A2, n2, c2, ret_se rfl he.out.symm, hown2.less hb1.size, hb1.trans (hb2.mono hb1.size)⟩
    · have hl := Lib.hid (refPack_even hh (by rw [hln.out]; omega) leaf _ rfl)
      have hm : (n : Int) % 2 = 0 := by omega
      cases leaf
      all_goals
        go_enter Tryd.func83, Tryd.ntmps83
        go_wp2_with (first
          | (go_at_call 102; refine (right_any _ _ _ _ _ _ hr (by omega)).mono ?_; rintro e w' ⟨rfl, rfl⟩)
          | (at_builtin; refine wpList_app rfl _ _ rfl rfl ((Own.lit1 w w.heap.size (Nat.le_refl _) _ (by omega)).alloc _) rfl (Rd.lit1H _ _ (World.size_alloc ..) _ (by omega)) (by omega) (sz2 _ _ _) ?_; intro A1 c1 w1 hown1 hg1; have hb1 := below_own (((Below.refl _ _).alloc (Nat.le_refl _) _).alloc (sz1 _ _) _) ((Own.lit1 w w.heap.size (Nat.le_refl _) _ (by omega)).alloc _) hg1)
          | (at_builtin; refine wpList_app rfl _ _ rfl rfl hown1 rfl (hr.up hb1) (by omega) hb1.size ?_; intro A2 c2 w2 hown2 hg2))
        have hb2 := below_own hb1 hown1 hg2
        refine (refBytes_any _ _ _ _ _ hown2.rd (by omega)).mono ?_
        rintro e w3 ⟨A3, n3, c3, rfl, hown3, hb3⟩
        have e1 := hl.out.1
        have e2 := hl.out.2
        simp only [if_true, if_false, Bool.false_eq_true] at e1 e2
        rw [e1]
        rw [e2] at hown3
        clear e1 e2
        go_wp2
        go_ret2
        exact ⟨A3, n3, c3, ret_se rfl he.out.symm, hown3.less hb2.size, hb2.trans (hb3.mono hb2.size)⟩
  · have hh' : halvesB l = false := by simpa using hh
    have He := Lib.hid (packE_no hh' leaf)
    clear hh
    go_enter Tryd.func83, Tryd.ntmps83
    go_wp2_with (go_at_call 102; refine (right_any _ _ _ _ _ _ hr (by omega)).mono ?_; rintro e w' ⟨rfl, rfl⟩)
    go_ret2
    exact ⟨none, 0, 0, ret_se rfl He.out.1.symm, by rw [He.out.2]; exact Own.nil_ _ _, Below.refl _ _⟩

end Go.Proofs.YtojjfkbffjkojaaDoor
