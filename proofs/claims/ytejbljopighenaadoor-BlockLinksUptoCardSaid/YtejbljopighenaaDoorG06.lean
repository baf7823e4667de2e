/- Numbers and bytes in one way: the walks of vint.GetBytes, PutInt. Numbers and bytes in one way: the reference's walks. The walks of row.Encode, and of the reference's one and Encode. The walks of row's reader. The walks of row's reader: prefix and value. -/
import Derived.Test.YtejbljopighenaaDoorG05
import Derived.Test.YtejbljopighenaaDoorG04
namespace Go.Proofs.YtejbljopighenaaDoor
open Go.RowKit

theorem g_to {l : List UInt8} {a : Int} (h : gE l a = 0) : ∃ T : Nat, gTo l a = (T : Int) ∧ T ≤ l.length := by
  obtain ⟨x, t, _, _, _, hT, _, hle, _, _⟩ := g_ok h
  exact ⟨x + t, hT, hle⟩
theorem ret_sie {A A' : Option Addr} {n n' c c' : Nat} {x y x' y' : Int} (h : Value.slice A n c = Value.slice A' n' c') (h1 : x = x') (h2 : y = y') :
    Ending.returned (.tuple #[.slice A n c, .int .i64 x, .int .i64 y]) = Ending.returned (.tuple #[.slice A' n' c', .int .i64 x', .int .i64 y']) := by rw [h, h1, h2]
/-- What GetBytes comes to. -/
def GotBytes (w : World) (l : List UInt8) (at_ : Int) (e : Ending) (w' : World) : Prop :=
  ∃ A' n' c', e = .returned (.tuple #[.slice A' n' c', .int .i64 (gbTo l at_), .int .i64 (gbE l at_)]) ∧ Own w' w.heap.size A' n' c' (gbL l at_) ∧ Below w.heap.size w w'
theorem gotBytes_none {w w' : World} {l : List UInt8} {a : Int} {x : Int} (h : gbE l a = x ∧ gbL l a = [] ∧ gbTo l a = 0) (hb : Below w.heap.size w w') : GotBytes w l a (.returned (.tuple #[.slice none 0 0, .int .i64 0, .int .i64 x])) w' :=
  ⟨none, 0, 0, by rw [h.1, h.2.2], by rw [h.2.1]; exact Own.nil_ _ _, hb⟩

set_option maxRecDepth 100000 in
set_option maxHeartbeats 1600000 in
theorem getBytes_any (A : Option Addr) (n c : Nat) (at_ : Int) (l : List UInt8) (w : World) (hr : Rd w w.heap.size A n l) (hn : n ≤ 100000000000) (hnc : n ≤ c) :
    Calls Tryd.prog 49 #[.slice A n c, .int .i64 at_] w (GotBytes w l at_) := by
  have hln := Lib.hid hr.len
  rcases gb_cases l at_ with h | ⟨h, k⟩ | ⟨h, k, m⟩ | ⟨h, k, m⟩
  · have F := Lib.hid (gb_err1 h)
    have hne : (gE l at_ != 0) = true := by simp [h]
    clear h
    go_enter Tryd.func49, Tryd.ntmps49
    go_wp2_with fail
    refine (get_any _ _ _ _ _ _ _ hr hn hnc).mono ?_
    rintro e w' ⟨rfl, rfl⟩
    go_wp2_with fail
    go_ret3
    exact gotBytes_none F.out (Below.refl _ _)
  · have F := Lib.hid (gb_err2 h k)
    have H := Lib.hid h
    clear h
    go_enter Tryd.func49, Tryd.ntmps49
    go_wp2_with fail
    refine (get_any _ _ _ _ _ _ _ hr hn hnc).mono ?_
    rintro e w' ⟨rfl, rfl⟩
    rw [H.out]
    go_wp2_with fail
    go_ret3
    exact gotBytes_none F.out (Below.refl _ _)
  · have F := Lib.hid (gb_err3 h k m)
    have H := Lib.hid h
    obtain ⟨T, hT, hle⟩ := g_to h
    have h0 := gN_nonneg l at_
    rw [hln.out] at m hle
    rw [hT] at m
    have HT := Lib.hid hT
    have hw : IntKind.u64.wrap ((n : Int) - (T : Int)) = (n : Int) - (T : Int) := IntWalk.u64_in _ (by omega)
    clear h hT
    go_enter Tryd.func49, Tryd.ntmps49
    go_wp2_with fail
    refine (get_any _ _ _ _ _ _ _ hr hn hnc).mono ?_
    rintro e w' ⟨rfl, rfl⟩
    rw [H.out, HT.out]
    go_wp2_with fail
    go_ret3
    exact gotBytes_none F.out (Below.refl _ _)
  · have F := Lib.hid (gb_ok h k m)
    have H := Lib.hid h
    obtain ⟨T, hT, hle⟩ := g_to h
    obtain ⟨N, hN⟩ := Int.eq_ofNat_of_zero_le (gN_nonneg l at_)
    rw [hln.out] at m hle
    rw [hT, hN] at m
    rw [hN] at k
    have HT := Lib.hid hT
    have HN := Lib.hid hN
    have hw : IntKind.u64.wrap ((n : Int) - (T : Int)) = (n : Int) - (T : Int) := IntWalk.u64_in _ (by omega)
    have hTn : T + N ≤ n := by omega
    have hNb : N ≤ 1048576 := by omega
    have eN : T + N - T = N := by omega
    have hcut : Rd w w.heap.size (if c = T then A else A.map (·.add T)) (T + N - T) ((l.drop T).take N) := by rw [eN]; exact hr.mid (i := T) (j := N) (c := c) hTn hnc
    have EN := Lib.hid eN
    clear eN
    clear h hT hN k m
    go_enter Tryd.func49, Tryd.ntmps49
    go_wp2_with fail
    refine (get_any _ _ _ _ _ _ _ hr hn hnc).mono ?_
    rintro e w' ⟨rfl, rfl⟩
    rw [H.out, HT.out, HN.out]
    go_wp2_with (at_builtin; refine wpList_app rfl _ _ rfl rfl (Own.nil_ w w.heap.size) rfl hcut (by omega) (Nat.le_refl _) ?_; intro A2 c2 w2 o2 g2)
    all_goals
      have b2 := below_nil rfl g2
      go_ret3
      refine ⟨A2, N, c2, ret_sie rfl (by rw [F.out.2.2, HT.out, HN.out]) F.out.1.symm, ?_, b2⟩
      rw [F.out.2.1, HT.out, HN.out, Int.toNat_natCast, Int.toNat_natCast]
      rw [Nat.zero_add, EN.out] at o2
      exact o2

theorem xor_none (x : Int) (h0 : 0 ≤ x) (h1 : x ≤ 18446744073709551615) : bits .xor .u64 x 0 = x := by
  obtain ⟨y, rfl⟩ := Int.eq_ofNat_of_zero_le h0
  show IntKind.u64.wrap (((BitVec.ofInt 64 (y : Int)) ^^^ (BitVec.ofInt 64 0)).toNat : Int) = _
  rw [show BitVec.ofInt 64 0 = 0#64 from rfl, BitVec.xor_zero, BitVec.ofInt_natCast, BitVec.toNat_ofNat, IntKind.wrap_u64]
  omega
theorem xor_all (x : Int) (h0 : 0 ≤ x) (h1 : x ≤ 18446744073709551615) : bits .xor .u64 x 18446744073709551615 = 18446744073709551615 - x := by
  obtain ⟨y, rfl⟩ := Int.eq_ofNat_of_zero_le h0
  show IntKind.u64.wrap (((BitVec.ofInt 64 (y : Int)) ^^^ (BitVec.ofInt 64 18446744073709551615)).toNat : Int) = _
  have e : BitVec.ofInt 64 18446744073709551615 = BitVec.allOnes 64 := by decide
  rw [e, BitVec.xor_allOnes, BitVec.toNat_not, BitVec.ofInt_natCast, BitVec.toNat_ofNat, IntKind.wrap_u64]
  omega

set_option maxRecDepth 100000 in
set_option maxHeartbeats 400000 in
theorem putInt_any (x : Int) (w : World) (h0 : -9223372036854775808 ≤ x) (h1 : x ≤ 9223372036854775807) :
    Calls Tryd.prog 71 #[.int .i64 x] w fun e w' => ∃ A' c', e = .returned (.slice A' (putN (zig x)).length c') ∧ Own w' w.heap.size A' (putN (zig x)).length c' (putN (zig x)) ∧ Below w.heap.size w w' := by
  have hlen := putN_len10 (zig_lt h0 h1)
  by_cases hx : x < 0
  · have e1 : IntKind.u64.wrap x = x + 18446744073709551616 := by rw [IntKind.wrap_u64]; omega
    have e2 : IntKind.u64.wrap ((x + 18446744073709551616) * 2) = 18446744073709551616 + 2 * x := by rw [IntKind.wrap_u64]; omega
    have e3 : IntKind.u64.wrap (x / 9223372036854775808) = 18446744073709551615 := by rw [IntKind.wrap_u64]; omega
    have e4 := Lib.hid (xor_all (18446744073709551616 + 2 * x) (by omega) (by omega))
    have e5 := Lib.hid (show 18446744073709551615 - (18446744073709551616 + 2 * x) = ((zig x : Nat) : Int) by unfold zig; rw [if_pos hx]; omega)
    go_enter Tryd.func71, Tryd.ntmps71
    go_wp2_with fail
    rw [e4.out, e5.out]
    refine (put_any _ _ hlen).mono ?_
    rintro e w1 ⟨A1, c1, rfl, o1, b1⟩
    clear e1 e2 e3
    go_wp2_with fail
    go_ret
    exact ⟨A1, c1, rfl, o1, b1⟩
  · have e4 := Lib.hid (xor_none (x * 2) (by omega) (by omega))
    have e3 := Lib.hid (show x / 9223372036854775808 = 0 by omega)
    have e5 := Lib.hid (show x * 2 = ((zig x : Nat) : Int) by unfold zig; rw [if_neg hx]; omega)
    go_enter Tryd.func71, Tryd.ntmps71
    go_wp2_with fail
    rw [e3.out, e4.out, e5.out]
    refine (put_any _ _ hlen).mono ?_
    rintro e w1 ⟨A1, c1, rfl, o1, b1⟩
    go_wp2_with fail
    go_ret
    exact ⟨A1, c1, rfl, o1, b1⟩
end Go.Proofs.YtejbljopighenaaDoor
namespace Go.Proofs.YtejbljopighenaaDoor
open Go.RowKit

/-- The digits to the base 128. -/
def digF : Nat → Nat → List UInt8
  | 0, _ => []
  | f + 1, n => if n < 128 then [b8 (n : Int)] else b8 ((n % 128 : Nat) : Int) :: digF f (n / 128)
def digN (n : Nat) : List UInt8 := digF (n + 1) n
theorem digF_any : ∀ (f g n : Nat), n < f → n < g → digF f n = digF g n
  | f + 1, g + 1, n, hf, hg => by
    unfold digF
    by_cases h : n < 128
    · rw [if_pos h, if_pos h]
    · rw [if_neg h, if_neg h, digF_any f g (n / 128) (by omega) (by omega)]
theorem digN_lt {n : Nat} (h : n < 128) : digN n = [b8 (n : Int)] := by unfold digN digF; rw [if_pos h]
theorem digN_ge {n : Nat} (h : ¬ n < 128) : digN n = b8 ((n % 128 : Nat) : Int) :: digN (n / 128) := by
  unfold digN; rw [digF, if_neg h, digF_any n (n / 128 + 1) (n / 128) (by omega) (by omega)]
/-- What digits are still to come. -/
def digT (n : Nat) : List UInt8 := if n = 0 then [] else digN n
theorem digN_T (n : Nat) : digN n = b8 ((n % 128 : Nat) : Int) :: digT (n / 128) := by
  by_cases h : n < 128
  · rw [digN_lt h, show n / 128 = 0 by omega, show n % 128 = n by omega]; rfl
  · rw [digN_ge h]; unfold digT; rw [if_neg (by omega)]
theorem at8_cons_succ (c : UInt8) (l : List UInt8) (k : Nat) : at8 (c :: l) (k + 1) = at8 l k := rfl
theorem at8_b8_0 (x : Nat) (l : List UInt8) (h : x < 256) : at8 (b8 (x : Int) :: l) 0 = x := by
  show (((b8 (x : Int)).toNat : Nat) : Int) = x
  unfold b8; rw [UInt8.toNat_ofNat']; omega
theorem dig_put : ∀ (f n : Nat), n < f → (digN n).length = (putN n).length ∧ ∀ k, (k + 1 < (putN n).length → at8 (putN n) k = at8 (digN n) k + 128 ∧ at8 (digN n) k < 128) ∧ (k + 1 = (putN n).length → at8 (putN n) k = at8 (digN n) k)
  | f + 1, n, hf => by
    by_cases h : n < 128
    · rw [digN_lt h, putN_lt h]
      exact ⟨rfl, fun k => ⟨fun hk => by simp at hk, fun _ => rfl⟩⟩
    · obtain ⟨h1, h2⟩ := dig_put f (n / 128) (by omega)
      rw [digN_ge h, putN_ge h]
      refine ⟨by simp [h1], fun k => ?_⟩
      rcases k with _ | k
      · refine ⟨fun _ => ?_, fun hk => ?_⟩
        · have e1 := at8_b8_0 (n % 128) (digN (n / 128)) (by omega)
          have e2 := at8_b8_0 (n % 128 + 128) (putN (n / 128)) (by omega)
          rw [e1, e2]
          refine ⟨by omega, by omega⟩
        · have := putN_pos (n / 128); rw [List.length_cons] at hk; omega
      · rw [at8_cons_succ, at8_cons_succ, List.length_cons]
        exact ⟨fun hk => (h2 k).1 (by omega), fun hk => (h2 k).2 (by omega)⟩
theorem ext8 {l m : List UInt8} (h : l.length = m.length) (k : ∀ j, j < l.length → at8 l j = at8 m j) : l = m := by
  apply List.ext_getElem h
  intro i h1 h2
  have := k i h1
  rw [at8_of l i h1, at8_of m i h2] at this
  exact UInt8.toNat_inj.1 (by omega)
theorem at8_set (l : List UInt8) (k j : Nat) (x : Int) (hk : k < l.length) (h0 : 0 ≤ x) (h1 : x ≤ 255) : at8 (l.set k (b8 x)) j = if j = k then x else at8 l j := by
  by_cases h : j = k
  · subst h
    rw [if_pos rfl, at8_of _ _ (by simpa using hk)]
    simp only [List.getElem_set_self]
    unfold b8; rw [UInt8.toNat_ofNat']; omega
  · rw [if_neg h]
    unfold at8
    rw [List.getD_eq_getElem?_getD, List.getD_eq_getElem?_getD, List.getElem?_set_ne (by omega)]
theorem own_some {w : World} {base n c : Nat} {A : Option Addr} {l : List UInt8} (h : Own w base A n c l) (hn : 0 < n) : ∃ g, A = some ⟨g, 0, none⟩ ∧ base ≤ g := by
  obtain ⟨g, cap, hv, hb, _⟩ := World.ownsRow.form h hn
  injection hv with hv
  exact ⟨g, hv, hb⟩

set_option maxRecDepth 100000 in
set_option maxHeartbeats 800000 in
theorem refPut_any (n : Nat) (w : World) (hn : n ≤ 18446744073709551615) :
    Calls Tryd.prog 29 #[.int .u64 n] w fun e w' => ∃ A' c', e = .returned (.slice A' (putN n).length c') ∧ Own w' w.heap.size A' (putN n).length c' (putN n) ∧ Below w.heap.size w w' := by
  have hlen := putN_len10 (n := n) (by omega)
  have hdl := (dig_put (n + 1) n (by omega)).1
  have D := Lib.hid (dig_put (n + 1) n (by omega)).2
  rw [← hdl] at hlen
  have Hdl := Lib.hid hdl
  clear hdl
  have hm : IntKind.u8.wrap ((n : Int) % 128) = (n : Int) % 128 := IntWalk.u8_in _ (by omega)
  go_enter Tryd.func29, Tryd.ntmps29
  go_wp2
  go_loopw [0, 3] (fun i v wr => ∃ (x : Nat) (o : List UInt8) (k : Nat) (A' : Option Addr) (c' : Nat), x ≤ 18446744073709551615 ∧ i = .int .u64 x ∧ v = .slice A' k c' ∧ Own wr w.heap.size A' k c' o ∧ o ++ digT x = digN n ∧ Below w.heap.size w wr) (fun i _ _ => (intOf i).toNat)
  case atStart =>
    refine ⟨n / 128, [b8 ((n : Int) % 128)], 1, _, 1, by omega, by go_num, rfl, Own.lit1 w w.heap.size (Nat.le_refl _) _ (by omega), ?_, (Below.refl _ _).alloc (Nat.le_refl _) _⟩
    rw [digN_T n]; rfl
  case round =>
    obtain ⟨x, o, k, A', c', hxb, rfl, rfl, hown, hx, hb⟩ := hrel
    have hk : k ≤ 10 := by
      have h1 := congrArg List.length hx
      rw [List.length_append, hown.len] at h1
      omega
    have Hx := Lib.hid hx
    clear hx
    by_cases h0 : x = 0
    · subst h0
      have ho : o = digN n := by have := Hx.out; simpa [digT] using this
      subst ho
      have hkk : k = (digN n).length := hown.len.symm
      subst hkk
      have hpos := putN_pos n
      rw [← Hdl.out] at hpos
      obtain ⟨g, rfl, hg⟩ := own_some hown (by omega)
      go_wp2
      go_loopw [4] (fun i wr' => ∃ (k : Nat) (L : List UInt8), k + 1 ≤ (digN n).length ∧ i = .int .i64 k ∧ Own wr' w.heap.size (some ⟨g, 0, none⟩) (digN n).length c' L ∧ (∀ j, at8 L j = if j < k then at8 (putN n) j else at8 (digN n) j) ∧ Below w.heap.size w wr') (fun i _ => (digN n).length - (intOf i).toNat)
      case atStart => exact ⟨0, digN n, by omega, rfl, hown, fun j => by rw [if_neg (by omega)], hb⟩
      case round =>
        clear hown hb
        obtain ⟨k, L, hkm, rfl, hown, hat, hb⟩ := hrel
        have Hat := Lib.hid hat
        clear hat
        by_cases hlt : k + 1 < (digN n).length
        · have hc := hown.cell (j := k) (by omega)
          have hf := hown.free k
          have hd := ((D.out k).1 (by rw [← Hdl.out]; exact hlt))
          have h0 := at8_lo L k
          have hv : at8 L k < 128 := by have := Hat.out k; rw [if_neg (Nat.lt_irrefl k)] at this; rw [this]; exact hd.2
          have Hs := Lib.hid (hown.set (j := k) (x := at8 L k + 128) (by omega) (by omega))
          have Hb := Lib.hid (hb.setCell (p := ⟨g, k, none⟩) hg (.int .u8 (at8 L k + 128)))
          have Hn := Lib.hid (show ∀ j, at8 (L.set k (b8 (at8 L k + 128))) j = if j < k + 1 then at8 (putN n) j else at8 (digN n) j from fun j => by
            rw [at8_set L k j _ (by rw [hown.len]; omega) (by omega) (by omega)]
            have hk := Hat.out k
            rw [if_neg (Nat.lt_irrefl k)] at hk
            by_cases hj : j = k
            · rw [if_pos hj, if_pos (by omega), hj, hd.1, hk]
            · rw [if_neg hj, Hat.out j]
              by_cases hjk : j < k
              · rw [if_pos hjk, if_pos (by omega)]
              · rw [if_neg hjk, if_neg (by omega)])
          clear hd hb
          go_wp2
          go_roundw
          case rel => exact ⟨k + 1, _, by omega, by go_num, Hs.out, Hn.out, Hb.out⟩
          case measure => simp [intOf]; omega
        · have hL : L = putN n := by
            refine ext8 (by rw [hown.len, Hdl.out]) fun j hj => ?_
            rw [hown.len] at hj
            rw [Hat.out j]
            by_cases hjk : j < k
            · rw [if_pos hjk]
            · rw [if_neg hjk]
              exact ((D.out j).2 (by rw [← Hdl.out]; omega)).symm
          subst hL
          go_wp2
          go_ret
          exact ⟨_, c', ret_slice Hdl.out, by rw [← Hdl.out]; exact hown, hb⟩
    · have hp := Lib.hid (digN_T x)
      have hT := Lib.hid (show digT x = digN x by unfold digT; rw [if_neg h0])
      have hm : IntKind.u8.wrap ((x : Int) % 128) = (x : Int) % 128 := IntWalk.u8_in _ (by omega)
      go_wp2_with (at_builtin; refine wpList_app rfl _ _ rfl rfl (hown.alloc _) rfl (Rd.lit1 _ _ (by omega)) (by omega) (by simp; have := hb.size; omega) ?_; intro A2 c2 w2 hown2 hg2)
      have hb2 := below_own (belowA hb _) (hown.alloc _) hg2
      clear hm
      go_roundw
      case rel => exact ⟨x / 128, o ++ [b8 ((x : Int) % 128)], k + 1, A2, c2, by omega, by go_num, rfl, hown2, by rw [List.append_assoc, List.singleton_append, show b8 ((x : Int) % 128) = b8 ((x % 128 : Nat) : Int) from rfl, ← hp.out, ← hT.out]; exact Hx.out, hb2⟩
      case measure => simp [intOf]; omega

set_option maxRecDepth 100000 in
set_option maxHeartbeats 400000 in
theorem refPutInt_any (x : Int) (w : World) (h0 : -9223372036854775808 ≤ x) (h1 : x ≤ 9223372036854775807) :
    Calls Tryd.prog 80 #[.int .i64 x] w fun e w' => ∃ A' c', e = .returned (.slice A' (putN (zig x)).length c') ∧ Own w' w.heap.size A' (putN (zig x)).length c' (putN (zig x)) ∧ Below w.heap.size w w' := by
  have hz := zig_lt h0 h1
  by_cases hx : x < 0
  · have e5 := Lib.hid (show 2 * (-(x + 1)) + 1 = ((zig x : Nat) : Int) by unfold zig; rw [if_pos hx]; omega)
    go_enter Tryd.func80, Tryd.ntmps80
    go_wp2_with fail
    rw [e5.out]
    refine (refPut_any _ _ (by omega)).mono ?_
    rintro e w1 ⟨A1, c1, rfl, o1, b1⟩
    go_wp2_with fail
    go_ret
    exact ⟨A1, c1, rfl, o1, b1⟩
  · have e5 := Lib.hid (show 2 * x = ((zig x : Nat) : Int) by unfold zig; rw [if_neg hx]; omega)
    go_enter Tryd.func80, Tryd.ntmps80
    go_wp2_with fail
    rw [e5.out]
    refine (refPut_any _ _ (by omega)).mono ?_
    rintro e w1 ⟨A1, c1, rfl, o1, b1⟩
    go_wp2_with fail
    go_ret
    exact ⟨A1, c1, rfl, o1, b1⟩

set_option maxRecDepth 100000 in
set_option maxHeartbeats 400000 in
theorem refPutBytes_any (A : Option Addr) (n c : Nat) (l : List UInt8) (w : World) (hr : Rd w w.heap.size A n l) (hn : n ≤ 100000000000) :
    Calls Tryd.prog 48 #[.slice A n c] w fun e w' => ∃ A' c', e = .returned (.slice A' ((putN n).length + n) c') ∧ Own w' w.heap.size A' ((putN n).length + n) c' (putB l) ∧ Below w.heap.size w w' := by
  have hln := Lib.hid hr.len
  have hlen := putN_len10 (n := n) (by omega)
  have hw : IntKind.u64.wrap (n : Int) = n := IntWalk.u64_in _ (by omega)
  go_enter Tryd.func48, Tryd.ntmps48
  go_wp2_with fail
  refine (refPut_any n _ (by omega)).mono ?_
  rintro e w1 ⟨A1, c1, rfl, o1, b1⟩
  go_wp2_with (at_builtin; refine wpList_app rfl _ _ rfl rfl o1 rfl (hr.up b1) (by omega) b1.size ?_; intro A2 c2 w2 o2 g2)
  have b2 := below_own b1 o1 g2
  go_ret
  exact ⟨A2, c2, rfl, by unfold putB; rw [hln.out]; exact o2, b2⟩
end Go.Proofs.YtejbljopighenaaDoor
namespace Go.Proofs.YtejbljopighenaaDoor
open Go.RowKit
theorem zv : zeroOf Tryd.prog 61 = some [.int .i64 0, .int .i64 0, .string (sb [])] := by kernel_rfl
theorem sz_val : (Tryd.prog.info? 61).map (·.size) = some 3 := by kernel_rfl
theorem al_val : (Tryd.prog.info? 61).map (fun i => i.zero.map fun z => z.cells.toList) = some (some [.int .i64 0, .int .i64 0, .string (sb [])]) := by kernel_rfl
theorem is_one : isFn Tryd.prog 73 = true := by kernel_rfl
theorem is_put : isFn Tryd.prog 26 = true := by kernel_rfl
theorem is_puti : isFn Tryd.prog 71 = true := by kernel_rfl
theorem is_putb : isFn Tryd.prog 44 = true := by kernel_rfl
theorem is_rput : isFn Tryd.prog 29 = true := by kernel_rfl
theorem is_rputi : isFn Tryd.prog 80 = true := by kernel_rfl
theorem is_rputb : isFn Tryd.prog 48 = true := by kernel_rfl

set_option maxRecDepth 100000 in
set_option maxHeartbeats 1000000 in
theorem one_any (v : Val) (w : World) (hk : 1 ≤ v.k ∧ v.k ≤ 5) (hn : v.k = 2 → 0 ≤ v.n ∧ v.n ≤ 1) (ho : VOk v) (hs : v.s.length ≤ 100000000) :
    Calls Tryd.prog 73 #[vv_ v] w fun e w' => ∃ A' m c', e = .returned (.slice A' m c') ∧ Own w' w.heap.size A' m c' (oneL v) ∧ Below w.heap.size w w' := by
  refine calls_ev (args := [vv_ v]) mixed Tryd.func73 rfl (by kernel_rfl) ?_
  refine v_boxB (vc v) rfl ?_
  rintro g W hg hB hb hsz
  rw [← hg]
  refine p_fld fv0 rfl ?_
  refine v_load agg_int rfl (hB.at_ rfl) ?_
  refine v_cvt u_int u_u8 rfl (wu8 (by omega)) ?_
  refine v_bslice (vs := [.int .u8 v.k]) slb zb rfl (by decide) rfl ?_
  rintro g1 W1 hg1 hB1 hb1 hsz1
  rw [show [Value.int .u8 v.k] = bvs [b8 v.k] from one_blk (by omega)] at hB1
  have o1 : Own W1 g (some ⟨g1, 0, none⟩) 1 1 [b8 v.k] := Own.blk hB1 (by omega) (by simp)
  have C1 : Below g w W1 := hb.trans (hb1.mono (by omega))
  have hB' := hB.belowB hb1 (by omega)
  refine p_fld fv0 rfl ?_
  refine v_load agg_int rfl (hB'.at_ rfl) ?_
  refine p_eq rfl rfl (fun h2 => ?_) (fun h2 => ?_)
  · refine p_fld fv1 rfl ?_
    refine v_load agg_int rfl (hB'.at_ rfl) ?_
    refine v_cvt u_int u_u8 rfl (wu8 (by have := hn h2; omega)) ?_
    refine v_bslice (vs := [.int .u8 v.n]) slb zb rfl (by decide) rfl ?_
    rintro g2 W2 hg2 hB2 hb2 hsz2
    rw [show [Value.int .u8 v.n] = bvs [b8 v.n] from one_blk (by have := hn h2; omega)] at hB2
    refine v_app rfl (o1.upB hb2 (by omega)) rfl (Rd.blk hB2) (by simp) (by omega) ?_
    rintro A3 c3 W3 o3 g3 -
    refine ⟨A3, _, c3, rfl, ?_, ?_⟩
    · have : oneL v = [b8 v.k] ++ [b8 v.n] := by unfold oneL; rw [if_pos h2]; rfl
      rw [this]; exact o3
    · exact (C1.trans (hb2.mono (by omega))).grown g3 (by omega) (fun k hk => (o1.lo k hk))
  refine p_eq rfl rfl (fun h3 => ?_) (fun h3 => ?_)
  · refine p_fld fv1 rfl ?_
    refine v_load agg_int rfl (hB'.at_ rfl) ?_
    refine cc is_rputi (refPutInt_any v.n W1 ho.n0.1 ho.n0.2) ?_
    rintro e W2 ⟨A2, c2, rfl, o2, b2⟩
    refine ⟨_, rfl, ?_⟩
    have hlen := putN_len10 (zig_lt ho.n0.1 ho.n0.2)
    refine v_app rfl (o1.below b2) rfl o2.rd (by omega) (by have := b2.size; omega) ?_
    rintro A3 c3 W3 o3 g3 -
    refine ⟨A3, _, c3, rfl, ?_, ?_⟩
    · have : oneL v = [b8 v.k] ++ putN (zig v.n) := by unfold oneL; rw [if_neg h2, if_pos h3]; rfl
      rw [this]; exact o3
    · exact (C1.trans (b2.mono (by omega))).grown g3 (by have := b2.size; omega) (fun k hk => (o1.lo k hk))
  refine p_eq rfl rfl (fun h4 => ?_) (fun h4 => ?_)
  rotate_left
  refine p_eq rfl rfl (fun h5 => ?_) (fun h5 => ?_)
  rotate_left
  · refine ⟨_, 1, _, rfl, ?_, C1⟩
    have : oneL v = [b8 v.k] := by unfold oneL; rw [if_neg h2, if_neg h3, if_neg (by omega)]
    rw [this]; exact o1
  all_goals
    have h45 : v.k = 4 ∨ v.k = 5 := by omega
    refine p_fld fv2 rfl ?_
    refine v_load agg_str rfl (hB'.at_ rfl) ?_
    refine v_s2b rfl ?_
    rintro g2 c2 W2 hg2 hr2 hc2 hb2 hsz2
    refine cc is_rputb (refPutBytes_any _ _ _ _ _ hr2 (by omega)) ?_
    rintro e W3 ⟨A3, c3, rfl, o3, b3⟩
    refine ⟨_, rfl, ?_⟩
    have hlen := putN_len10 (n := v.s.length) (by omega)
    have o1' := (o1.upB hb2 (by omega)).below b3
    refine v_app rfl o1' rfl o3.rd (by omega) (by have := b3.size; omega) ?_
    rintro A4 c4 W4 o4 g4 -
    refine ⟨A4, _, c4, rfl, ?_, ?_⟩
    · have : oneL v = [b8 v.k] ++ putB v.s := by unfold oneL; rw [if_neg h2, if_neg h3, if_pos h45]; rfl
      rw [this]; exact o4
    · exact ((C1.trans (hb2.mono (by omega))).trans (b3.mono (by omega))).grown g4 (by have := b3.size; omega) (fun k hk => (o1'.lo k hk))

theorem right_n {v : Val} (h : rightB v = true) : v.k = 2 → 0 ≤ v.n ∧ v.n ≤ 1 := by
  intro h2
  unfold rightB at h
  rw [if_neg (by omega), if_pos h2] at h
  simp at h
  omega


set_option maxRecDepth 100000 in
set_option maxHeartbeats 2000000 in
theorem encode_any (A : Option Addr) (n c : Nat) (l : List Val) (w : World) (hr : RdV w w.heap.size A n l) (ho : ∀ v ∈ l, VOk v) (hs : tot l ≤ 1000000) :
    Calls Tryd.prog 61 #[.slice A n c] w fun e w' => ∃ A' m c', e = .returned (.tuple #[.slice A' m c', .int .i64 (encE l)]) ∧ Own w' w.heap.size A' m c' (encB l) ∧ Below w.heap.size w w' := by
  refine calls_ev (args := [.slice A n c]) mixed Tryd.func61 rfl (by kernel_rfl) ?_
  have hln := hr.len
  have htl := tot_len l
  have hl10 := putN_len10 (n := n) (by omega)
  refine p_len slv rfl ?_
  refine v_cvt u_int u_u64 rfl (wu64 (by omega)) ?_
  refine cc is_put (put_any n w hl10) ?_
  rintro e W0 ⟨A0, c0, rfl, o0, b0⟩
  refine ⟨_, rfl, ?_⟩
  refine p_len slv rfl ?_
  refine lp (Nat × Option Addr × Nat × Nat) (fun s W => Own W w.heap.size s.2.1 s.2.2.1 s.2.2.2 (putN n ++ (l.take s.1).flatMap oneL) ∧ Below w.heap.size w W ∧ s.1 ≤ n ∧ allR (l.take s.1) = true) (fun s => [(0, .slice A n c), (4, .slice s.2.1 s.2.2.1 s.2.2.2), (12, .slice A n c), (13, .int .i64 n), (14, .int .i64 s.1)]) (fun s => n - s.1) (0, A0, (putN n).length, c0) ⟨by simpa using o0, b0, by omega, by simp [allR]⟩ ⟨rfl, rfl, rfl, rfl, rfl, trivial⟩ ?_
  rintro ⟨j, A4, m4, c4⟩ B1 W ⟨o4, hb, hj, hall⟩
  dsimp only at o4 hj hall
  have hm4 := o4.len
  have hf := flat_take_len l j ho
  rw [List.length_append] at hm4
  refine p_lt rfl rfl (fun h => ?_) (fun h => ?_)
  · have hlt : j < l.length := by omega
    obtain ⟨ad, rfl, hadb, hads, hcell⟩ := (hr.below hb).at_ (List.getElem?_eq_getElem hlt)
    obtain ⟨v, hv⟩ : ∃ v, v = l[j] := ⟨_, rfl⟩
    rw [← hv] at hcell
    have hiv : l[j]? = some v := by rw [hv, List.getElem?_eq_getElem hlt]
    have hvm := List.mem_of_getElem? hiv
    have htm := tot_mem hvm
    have hov := ho v hvm
    refine p_at slv rfl rfl rfl (by omega) ?_
    refine v_loadN (vc v) agg_val rfl rfl hcell ?_
    refine v_allocB _ al_val ?_
    rintro g W1 hg hB0 hb1 hsz1
    refine v_storeA (vc v) sz_val rfl rfl rfl (by intro u hu; exact vcs_one [v] u (by simpa [vcs] using hu)) hB0 rfl ?_
    rintro W2 hB hg2 hsz2
    have hb2 : Below g W W2 := hb1.grown hg2 (by omega) (fun k hk => by injection hk with hk; omega)
    have C2 := hb.trans (hb2.mono (by have := hb.size; omega))
    have o5 := o4.upB hb2 (by omega)
    refine v_loadN (vc v) agg_val rfl rfl (hB.run 0 (vc v) (fun j v h => by rw [Nat.zero_add]; exact h)) ?_
    refine cc is_chk (chk_any v W2 hov.s0) ?_
    rintro e W3 ⟨rfl, hb3⟩
    refine ⟨_, rfl, ?_⟩
    have C3 := C2.trans (hb3.mono C2.size)
    have o6 := o5.below hb3
    have hB3 := hB.below hb3
    clear o4 o5 hB hB0 hcell
    refine p_ne rfl rfl (fun e => ?_) (fun e => ?_)
    rotate_left
    · have hbad := chkE_ne e
      have h1 : encE l = 2 := by unfold encE; rw [allR_bad hiv hbad.1]; rfl
      have h2 : encB l = [] := by unfold encB; rw [if_neg (by omega)]
      refine ⟨none, 0, 0, ?_, by rw [h2]; exact Own.nil_ _ _, C3⟩
      rw [h1, ← hbad.2]; rfl
    have hvr := chkE_eq e
    have hk := right_k hvr
    have hn2 := right_n hvr
    have hs3 : w.heap.size ≤ W3.heap.size := C3.size
    have h1v := oneL_len v hov
    -- what is left of a round
    have hall2 : allR (l.take (j + 1)) = true := by rw [allR_take hiv hall]; exact hvr
    refine p_fld fv0 rfl ?_
    refine v_load agg_int rfl (hB3.at_ rfl) ?_
    refine v_cvt u_int u_u8 rfl (wu8 (by omega)) ?_
    refine v_bslice (vs := [.int .u8 v.k]) slb zb rfl (by decide) rfl ?_
    rintro g4 W4 hg4 hB4 hb4 hsz4
    rw [show [Value.int .u8 v.k] = bvs [b8 v.k] from one_blk (by omega)] at hB4
    refine v_app rfl (o6.upB hb4 (by omega)) rfl (Rd.blk hB4) (by show m4 + 1 ≤ _; omega) (by omega) ?_
    rintro A5 c5 W5 o7 g5 -
    have hb5 : Below w.heap.size W3 W5 := (hb4.mono (by omega)).grown g5 (by omega) (fun k hk => o6.lo k hk)
    have C5 := C3.trans hb5
    have hgB : g < W3.heap.size := hB3.lt
    have hne : (Value.slice A4 m4 c4).ownBlock ≠ some g := by
      intro e
      rcases o6.2 with ⟨hv, _⟩ | ⟨g', cap, cur, hv, _, hh, _⟩
      · rw [hv] at e; cases e
      · rw [hv] at e
        have e : g' = g := by simpa [Value.ownBlock] using e
        subst e
        have := hh.symm.trans hB3
        injection this with this
        injection this with _ this
        exact absurd this (by decide)
    have hB5 : Blk W5 g 61 (vc v) := (hB3.belowB hb4 (by omega)).grown g5 hne
    have last : ∀ (A' : Option Addr) (m' c' : Nat) (W' : World) (x : List UInt8), Own W' w.heap.size A' (m4 + 1 + m') c' ((putN n ++ (l.take j).flatMap oneL ++ [b8 v.k]) ++ x) → Below w.heap.size w W' → oneL v = [b8 v.k] ++ x → Own W' w.heap.size A' (m4 + 1 + m') c' (putN n ++ (l.take (j + 1)).flatMap oneL) := by
      intro A' m' c' W' x ho' _ hx
      rw [flat_step hiv, hx, ← List.append_assoc, ← List.append_assoc]; exact ho'
    refine p_fld fv0 rfl ?_
    refine v_load agg_int rfl (hB5.at_ rfl) ?_
    refine p_eq rfl rfl (fun e2 => ?_) (fun e2 => ?_)
    · refine p_fld fv1 rfl ?_
      refine v_load agg_int rfl (hB5.at_ rfl) ?_
      refine v_cvt u_int u_u8 rfl (wu8 (by have := hn2 e2; omega)) ?_
      refine v_bslice (vs := [.int .u8 v.n]) slb zb rfl (by decide) rfl ?_
      rintro g6 W6 hg6 hB6 hb6 hsz6
      rw [show [Value.int .u8 v.n] = bvs [b8 v.n] from one_blk (by have := hn2 e2; omega)] at hB6
      refine v_app rfl (o7.upB hb6 (by omega)) rfl (Rd.blk hB6) (by show m4 + 1 + 1 ≤ _; omega) (by have := hb5.size; omega) ?_
      rintro A7 c7 W7 o8 g7 -
      refine p_add rfl rfl (w64 (by omega)) ?_
      have C7 := (C5.trans (hb6.mono (by have := hb5.size; omega))).grown g7 (by have := C5.size; omega) (fun k hk => o7.lo k hk)
      exact ⟨(j + 1, A7, m4 + 1 + 1, c7), ⟨last _ _ _ _ _ o8 C7 (by unfold oneL; rw [if_pos e2]; rfl), C7, by show j + 1 ≤ n; omega, hall2⟩, ⟨rfl, rfl, rfl, rfl, rfl, trivial⟩, by show n - (j + 1) < n - j; omega⟩
    refine p_eq rfl rfl (fun e3 => ?_) (fun e3 => ?_)
    · refine p_fld fv1 rfl ?_
      refine v_load agg_int rfl (hB5.at_ rfl) ?_
      refine cc is_puti (putInt_any v.n W5 hov.n0.1 hov.n0.2) ?_
      rintro e W6 ⟨A6, c6, rfl, o6', b6⟩
      refine ⟨_, rfl, ?_⟩
      have hz10 := putN_len10 (zig_lt hov.n0.1 hov.n0.2)
      refine v_app rfl (o7.below b6) rfl o6'.rd (by show m4 + 1 + _ ≤ _; omega) (by have := C5.size; have := b6.size; omega) ?_
      rintro A7 c7 W7 o8 g7 -
      refine p_add rfl rfl (w64 (by omega)) ?_
      have C7 := (C5.trans (b6.mono C5.size)).grown g7 (by have := C5.size; have := b6.size; omega) (fun k hk => o7.lo k hk)
      exact ⟨(j + 1, A7, m4 + 1 + (putN (zig v.n)).length, c7), ⟨last _ _ _ _ _ o8 C7 (by unfold oneL; rw [if_neg e2, if_pos e3]; rfl), C7, by show j + 1 ≤ n; omega, hall2⟩, ⟨rfl, rfl, rfl, rfl, rfl, trivial⟩, by show n - (j + 1) < n - j; omega⟩
    refine p_eq rfl rfl (fun e4 => ?_) (fun e4 => ?_)
    rotate_left
    refine p_eq rfl rfl (fun e5 => ?_) (fun e5 => ?_)
    rotate_left
    · refine p_add rfl rfl (w64 (by omega)) ?_
      refine ⟨(j + 1, A5, m4 + 1, c5), ⟨?_, C5, by show j + 1 ≤ n; omega, hall2⟩, ⟨rfl, rfl, rfl, rfl, rfl, trivial⟩, by show n - (j + 1) < n - j; omega⟩
      show Own W5 w.heap.size A5 (m4 + 1) c5 (putN n ++ (l.take (j + 1)).flatMap oneL)
      have : oneL v = [b8 v.k] := by unfold oneL; rw [if_neg e2, if_neg e3, if_neg (by omega)]
      rw [flat_step hiv, this, ← List.append_assoc]
      exact o7
    all_goals
      have h45 : v.k = 4 ∨ v.k = 5 := by omega
      refine p_fld fv2 rfl ?_
      refine v_load agg_str rfl (hB5.at_ rfl) ?_
      refine v_s2b rfl ?_
      rintro g6 c6 W6 hg6 hr6 hc6 hb6 hsz6
      refine cc is_putb (putBytes_any _ _ _ _ _ hr6 (by omega)) ?_
      rintro e W7 ⟨A7, c7, rfl, o7', b7⟩
      refine ⟨_, rfl, ?_⟩
      have hl10' := putN_len10 (n := v.s.length) (by omega)
      have o7'' := (o7.upB hb6 (by omega)).below b7
      have hs5 := C5.size
      have hs7 := b7.size
      refine v_app rfl o7'' rfl o7'.rd (by show m4 + 1 + _ ≤ _; omega) (by omega) ?_
      rintro A8 c8 W8 o8 g8 -
      refine p_add rfl rfl (w64 (by omega)) ?_
      have C8 := ((C5.trans (hb6.mono (by omega))).trans (b7.mono (by omega))).grown g8 (by omega) (fun k hk => o7''.lo k hk)
      exact ⟨(j + 1, A8, m4 + 1 + ((putN v.s.length).length + v.s.length), c8), ⟨last _ _ _ _ _ o8 C8 (by unfold oneL; rw [if_neg e2, if_neg e3, if_pos h45]; rfl), C8, by show j + 1 ≤ n; omega, hall2⟩, ⟨rfl, rfl, rfl, rfl, rfl, trivial⟩, by show n - (j + 1) < n - j; omega⟩
  · have e : l.take j = l := List.take_of_length_le (by omega)
    rw [e] at o4 hall
    refine p_len slv rfl ?_
    refine p_gt rfl rfl (fun h => ?_) (fun h => ?_)
    · have h1 : encE l = 3 := by unfold encE; rw [hall, if_pos rfl, if_pos (by omega)]
      have h2 : encB l = [] := by unfold encB; rw [if_neg (by omega)]
      exact ⟨none, 0, 0, by rw [h1]; rfl, by rw [h2]; exact Own.nil_ _ _, hb⟩
    · have h1 : encE l = 0 := by unfold encE; rw [hall, if_pos rfl, if_neg (by omega)]
      have h2 : encB l = putN n ++ l.flatMap oneL := by unfold encB; rw [if_pos h1, hln]
      rw [h1, h2]
      exact ⟨A4, m4, c4, rfl, o4, hb⟩
set_option maxRecDepth 100000 in
set_option maxHeartbeats 1000000 in
theorem rencode_any (A : Option Addr) (n c : Nat) (l : List Val) (w : World) (hr : RdV w w.heap.size A n l) (ho : ∀ v ∈ l, VOk v) (hs : tot l ≤ 1000000) :
    Calls Tryd.prog 62 #[.slice A n c] w fun e w' => ∃ A' m c', e = .returned (.tuple #[.slice A' m c', .int .i64 (encE l)]) ∧ Own w' w.heap.size A' m c' (encB l) ∧ Below w.heap.size w w' := by
  refine calls_ev (args := [.slice A n c]) mixed Tryd.func62 rfl (by kernel_rfl) ?_
  have hln := hr.len
  have htl := tot_len l
  refine lp Nat (fun i W => Below w.heap.size w W ∧ i ≤ n ∧ allR (l.take i) = true) (fun i => [(0, .slice A n c), (4, .int .i64 i)]) (fun i => n - i) 0 ⟨Below.refl _ _, by omega, by simp [allR]⟩ ⟨rfl, rfl, trivial⟩ ?_
  rintro i B0 W ⟨hb, hi, hall⟩
  refine p_len slv rfl ?_
  refine p_lt rfl rfl (fun h => ?_) (fun h => ?_)
  · have hlt : i < l.length := by omega
    obtain ⟨ad, rfl, hadb, hads, hcell⟩ := (hr.below hb).at_ (List.getElem?_eq_getElem hlt)
    obtain ⟨v, hv⟩ : ∃ v, v = l[i] := ⟨_, rfl⟩
    rw [← hv] at hcell
    have hiv : l[i]? = some v := by rw [hv, List.getElem?_eq_getElem hlt]
    have hvm := List.mem_of_getElem? hiv
    refine p_at slv rfl rfl rfl (by omega) ?_
    refine v_loadN (vc v) agg_val rfl rfl hcell ?_
    refine cc is_chk2 (chk2_any v W (ho v hvm).s0) ?_
    rintro e W2 ⟨rfl, hb2⟩
    refine ⟨_, rfl, ?_⟩
    have B2 := hb.trans (hb2.mono hb.size)
    refine p_ne rfl rfl (fun e => ?_) (fun e => ?_)
    · refine p_add rfl rfl (w64 (by omega)) ?_
      exact ⟨i + 1, ⟨B2, by omega, by rw [allR_take hiv hall]; exact chkE_eq e⟩, ⟨rfl, rfl, trivial⟩, by omega⟩
    · have hbad := chkE_ne e
      have h1 : encE l = 2 := by unfold encE; rw [allR_bad hiv hbad.1]; rfl
      have h2 : encB l = [] := by unfold encB; rw [if_neg (by omega)]
      refine ⟨none, 0, 0, ?_, by rw [h2]; exact Own.nil_ _ _, B2⟩
      rw [h1, ← hbad.2]; rfl
  have hall' : allR l = true := by rwa [List.take_of_length_le (by omega)] at hall
  refine p_len slv rfl ?_
  refine p_gt rfl rfl (fun h => ?_) (fun h => ?_)
  · have h1 : encE l = 3 := by unfold encE; rw [hall', if_pos rfl, if_pos (by omega)]
    have h2 : encB l = [] := by unfold encB; rw [if_neg (by omega)]
    exact ⟨none, 0, 0, by rw [h1]; rfl, by rw [h2]; exact Own.nil_ _ _, hb⟩
  have h1 : encE l = 0 := by unfold encE; rw [hall', if_pos rfl, if_neg (by omega)]
  have h2 : encB l = putN n ++ l.flatMap oneL := by unfold encB; rw [if_pos h1, hln]
  refine p_len slv rfl ?_
  refine v_cvt u_int u_u64 rfl (wu64 (by omega)) ?_
  refine cc is_rput (refPut_any n W (by omega)) ?_
  rintro e W3 ⟨A3, c3, rfl, o3, b3⟩
  refine ⟨_, rfl, ?_⟩
  have B3 := hb.trans (b3.mono hb.size)
  have hl10 := putN_len10 (n := n) (by omega)
  refine lp (Nat × Option Addr × Nat × Nat) (fun s W => Own W w.heap.size s.2.1 s.2.2.1 s.2.2.2 (putN n ++ (l.take s.1).flatMap oneL) ∧ Below w.heap.size w W ∧ s.1 ≤ n) (fun s => [(0, .slice A n c), (6, .slice s.2.1 s.2.2.1 s.2.2.2), (7, .int .i64 s.1)]) (fun s => n - s.1) (0, A3, (putN n).length, c3) ⟨by simpa using o3.less hb.size, B3, by omega⟩ ⟨rfl, rfl, rfl, trivial⟩ ?_
  rintro ⟨j, A4, m4, c4⟩ B1 W4 ⟨o4, B4, hj⟩
  dsimp only at o4 hj
  refine p_len slv rfl ?_
  refine p_lt rfl rfl (fun h => ?_) (fun h => ?_)
  · have hlt : j < l.length := by omega
    obtain ⟨ad, rfl, hadb, hads, hcell⟩ := (hr.below B4).at_ (List.getElem?_eq_getElem hlt)
    obtain ⟨v, hv⟩ : ∃ v, v = l[j] := ⟨_, rfl⟩
    rw [← hv] at hcell
    have hiv : l[j]? = some v := by rw [hv, List.getElem?_eq_getElem hlt]
    have hvm := List.mem_of_getElem? hiv
    have hvr : rightB v = true := by unfold allR at hall'; exact List.all_eq_true.1 hall' v hvm
    have htm := tot_mem hvm
    refine p_at slv rfl rfl rfl (by omega) ?_
    refine v_loadN (vc v) agg_val rfl rfl hcell ?_
    refine cc is_one (one_any v W4 (right_k hvr) (right_n hvr) (ho v hvm) (by omega)) ?_
    rintro e W5 ⟨A5, m5, c5, rfl, o5, b5⟩
    refine ⟨_, rfl, ?_⟩
    have hm5 := o5.len
    have h5 := oneL_len v (ho v hvm)
    have hm4 := o4.len
    have hf := flat_take_len l j ho
    rw [List.length_append] at hm4
    refine v_app rfl (o4.below b5) rfl o5.rd (by show m4 + m5 ≤ _; omega) (by have := b5.size; have := B4.size; omega) ?_
    rintro A6 c6 W6 o6 g6 -
    refine p_add rfl rfl (w64 (by omega)) ?_
    refine ⟨(j + 1, A6, m4 + m5, c6), ⟨?_, ?_, by show j + 1 ≤ n; omega⟩, ⟨rfl, rfl, rfl, trivial⟩, by show n - (j + 1) < n - j; omega⟩
    · show Own W6 w.heap.size A6 (m4 + m5) c6 (putN n ++ (l.take (j + 1)).flatMap oneL)
      rw [flat_step hiv, ← List.append_assoc]; exact o6
    · exact (B4.trans (b5.mono B4.size)).grown g6 (by have := b5.size; have := B4.size; omega) (fun k hk => (o4.lo k hk))
  · rw [h2, h1]
    have e : l.take j = l := List.take_of_length_le (by omega)
    rw [e] at o4
    exact ⟨A4, m4, c4, rfl, o4, B4⟩
end Go.Proofs.YtejbljopighenaaDoor
namespace Go.Proofs.YtejbljopighenaaDoor
open Go.RowKit
theorem fr0 : fieldOff Tryd.prog 145 0 = some 0 := by kernel_rfl
theorem fr1 : fieldOff Tryd.prog 145 1 = some 1 := by kernel_rfl
theorem fr2 : fieldOff Tryd.prog 145 2 = some 2 := by kernel_rfl
theorem agg_err : aggOf Tryd.prog 29 = some (false, 1) := by kernel_rfl
theorem sz_err : (Tryd.prog.info? 29).map (·.size) = some 1 := by kernel_rfl
theorem sz_int : (Tryd.prog.info? 3).map (·.size) = some 1 := by kernel_rfl
theorem sz_str : (Tryd.prog.info? 9).map (·.size) = some 1 := by kernel_rfl
theorem is_gint : isFn Tryd.prog 93 = true := by kernel_rfl
theorem is_get : isFn Tryd.prog 32 = true := by kernel_rfl
theorem is_gb : isFn Tryd.prog 49 = true := by kernel_rfl
def rc (A : Option Addr) (n c : Nat) (at_ e : Int) : List Value := [.slice A n c, .int .i64 at_, .int .i64 e]

theorem Rd.grownG {w w' : World} {B n g : Nat} {A : Option Addr} {l : List UInt8} (h : Rd w B A n l) (hg : w.grownBy w' (some g)) (hB : B ≤ g) (hs : g < w.heap.size) : Rd w' B A n l :=
  h.grown hg (by omega) (fun k hk => by injection hk with hk; omega)

section
variable {w : World} {B g n c a : Nat} {A : Option Addr} {l : List UInt8} {e : Int}
set_option maxRecDepth 100000 in
theorem rone_end (hB : Blk w g 145 (rc A n c n e)) :
    Calls Tryd.prog 89 #[.pointer (some ⟨g, 0, none⟩)] w fun en w' => en = .returned (.int .u8 0) ∧ Blk w' g 145 (rc A n c n 10) ∧ w.grownBy w' (some g) ∧ w'.heap.size = w.heap.size := by
  refine calls_ev (args := [.pointer (some ⟨g, 0, none⟩)]) mixed Tryd.func89 rfl (by kernel_rfl) ?_
  refine dr (fun W => Blk W g 145 (rc A n c n e)) [(0, true), (1, true), (2, true), (3, true), (4, true), (5, true), (6, true), (7, true), (8, true), (9, true)] (by kernel_rfl) hB.drew ?_
  refine p_nil rfl ?_
  refine p_fld fr1 rfl ?_
  refine t_load agg_int rfl (fun W h => Blk.at_ h rfl) ?_
  refine p_nil rfl ?_
  refine p_fld fr0 rfl ?_
  refine t_load agg_b rfl (fun W h => Blk.at_ h rfl) ?_
  refine p_len slb rfl ?_
  refine p_eq rfl rfl (fun _ => ?_) (fun e => absurd rfl e)
  refine p_nil rfl ?_
  refine p_fld fr2 rfl ?_
  refine v_set (.int .i64 10) sz_err hB.drew rfl rfl rfl (by show 2 < 3; omega) ?_
  rintro W2 hB2 hg2 hs2
  exact ⟨rfl, hB2, gtrans gdrew hg2, hs2⟩
set_option maxRecDepth 100000 in
theorem rone_more (hr : Rd w B A n l) (hBg : B ≤ g) (hn : n ≤ 1000000000) (ha : a < n) (hB : Blk w g 145 (rc A n c a e)) :
    Calls Tryd.prog 89 #[.pointer (some ⟨g, 0, none⟩)] w fun en w' => en = .returned (.int .u8 (at8 l a)) ∧ Blk w' g 145 (rc A n c ((a + 1 : Nat) : Int) e) ∧ w.grownBy w' (some g) ∧ w'.heap.size = w.heap.size := by
  refine calls_ev (args := [.pointer (some ⟨g, 0, none⟩)]) mixed Tryd.func89 rfl (by kernel_rfl) ?_
  have hlt := hB.lt
  refine dr (fun W => Blk W g 145 (rc A n c a e)) [(0, true), (1, true), (2, true), (3, true), (4, true), (5, true), (6, true), (7, true), (8, true), (9, true)] (by kernel_rfl) hB.drew ?_
  refine p_nil rfl ?_
  refine p_fld fr1 rfl ?_
  refine t_load agg_int rfl (fun W h => Blk.at_ h rfl) ?_
  refine p_nil rfl ?_
  refine p_fld fr0 rfl ?_
  refine t_load agg_b rfl (fun W h => Blk.at_ h rfl) ?_
  refine p_len slb rfl ?_
  refine p_eq rfl rfl (fun e => by omega) (fun _ => ?_)
  refine p_nil rfl ?_
  refine p_fld fr1 rfl ?_
  refine v_load agg_int rfl (hB.drew.at_ rfl) ?_
  refine p_add rfl rfl (w64 (by omega)) ?_
  refine p_nil rfl ?_
  refine p_fld fr1 rfl ?_
  refine v_set (.int .i64 ((a : Int) + 1)) sz_int hB.drew rfl rfl rfl (by show 1 < 3; omega) ?_
  rintro W2 hB2 hg2 hs2
  replace hg2 := gtrans gdrew hg2
  replace hB2 : Blk W2 g 145 (rc A n c ((a : Int) + 1) e) := hB2
  have hr2 := hr.grownG hg2 hBg hlt
  obtain ⟨b, off, rfl, hb, hc⟩ := hr2.atB ha
  refine dr (fun W => Blk W g 145 (rc (some ⟨b, off, none⟩) n c ((a : Int) + 1) e) ∧ W.cell? ⟨b, off + a, none⟩ = some (.int .u8 (at8 l a))) [(0, true), (1, true), (2, true), (3, true), (4, true), (5, true), (6, true), (7, true), (8, true), (9, true), (10, true), (11, true)] (by kernel_rfl) ⟨hB2.drew, hc⟩ ?_
  refine p_nil rfl ?_
  refine p_fld fr0 rfl ?_
  refine t_load agg_b rfl (fun W h => Blk.at_ h.1 rfl) ?_
  refine p_nil rfl ?_
  refine p_fld fr1 rfl ?_
  refine t_load agg_int rfl (fun W h => Blk.at_ h.1 rfl) ?_
  refine p_sub rfl rfl (w64 (by omega)) ?_
  refine p_at (i := a) slb rfl rfl (by omega) ha ?_
  refine t_load agg_u8 rfl (fun W h => by rw [Nat.mul_one, Addr.add_lit]; exact h.2) ?_
  exact ⟨rfl, hB2.drew, gtrans hg2 gdrew, hs2⟩
set_option maxRecDepth 100000 in
theorem rnum_any (hr : Rd w B A n l) (hn : n ≤ 1000000000) (hnc : n ≤ c) (at_ : Int) (hB : Blk w g 145 (rc A n c at_ e)) :
    Calls Tryd.prog 90 #[.pointer (some ⟨g, 0, none⟩)] w fun en w' => en = .returned (.int .i64 (zag (gN l at_))) ∧ Blk w' g 145 (rc A n c (gTo l at_) (gE l at_)) ∧ w.grownBy w' (some g) ∧ w'.heap.size = w.heap.size := by
  refine calls_ev (args := [.pointer (some ⟨g, 0, none⟩)]) mixed Tryd.func90 rfl (by kernel_rfl) ?_
  refine dr (fun W => Blk W g 145 (rc A n c at_ e)) [(0, true), (1, true), (2, true), (3, true), (4, true), (5, true), (6, true), (7, true), (8, false), (9, true), (10, true), (11, true), (12, true), (13, true), (14, true), (15, true)] (by kernel_rfl) hB.drew ?_
  refine p_nil rfl ?_
  refine p_fld fr0 rfl ?_
  refine t_load agg_b rfl (fun W h => Blk.at_ h rfl) ?_
  refine p_nil rfl ?_
  refine p_fld fr1 rfl ?_
  refine t_load agg_int rfl (fun W h => Blk.at_ h rfl) ?_
  refine cc is_gint (getInt_any _ _ _ _ _ _ _ hr.drew (by omega) hnc) ?_
  rintro en w' ⟨rfl, rfl⟩
  refine ⟨_, rfl, hB.drew, ?_⟩
  refine p_nil rfl ?_
  refine p_fld fr1 rfl ?_
  refine v_set (.int .i64 (gTo l at_)) sz_int hB.drew rfl rfl rfl (by show 1 < 3; omega) ?_
  rintro W2 hB2 hg2 hs2
  refine p_nil rfl ?_
  refine p_fld fr2 rfl ?_
  refine v_set (.int .i64 (gE l at_)) sz_err hB2 rfl rfl rfl (by show 2 < 3; omega) ?_
  rintro W3 hB3 hg3 hs3
  exact ⟨rfl, hB3, gtrans (gtrans gdrew hg2) hg3, by rw [hs3, hs2]; rfl⟩
/-- text: what it comes to. -/
def txE (l : List UInt8) (a : Int) : Int := if gE l a ≠ 0 then gE l a else if 1000 < gN l a then 11 else gbE l a
def txS (l : List UInt8) (a : Int) : List UInt8 := if txE l a = 0 then gbL l a else []
def txTo (l : List UInt8) (a : Int) : Int := if txE l a = 0 then gbTo l a else a
set_option maxRecDepth 100000 in
theorem rtext_any (hr : Rd w w.heap.size A n l) (hr0 : Rd w B A n l) (hBg : B ≤ g) (hn : n ≤ 1000000000) (hnc : n ≤ c) (at_ : Int) (hB : Blk w g 145 (rc A n c at_ e)) :
    Calls Tryd.prog 91 #[.pointer (some ⟨g, 0, none⟩)] w fun en w' => en = .returned (.string (sb (txS l at_))) ∧ Blk w' g 145 (rc A n c (txTo l at_) (txE l at_)) ∧ w.grownBy w' (some g) := by
  refine calls_ev (args := [.pointer (some ⟨g, 0, none⟩)]) mixed Tryd.func91 rfl (by kernel_rfl) ?_
  have hlt := hB.lt
  refine dr (fun W => Blk W g 145 (rc A n c at_ e)) [(0, true), (1, true), (2, true), (3, true), (4, true), (5, true), (6, true), (7, true), (8, false), (9, true), (10, true), (11, true), (12, true), (13, true), (14, true), (15, true)] (by kernel_rfl) hB.drew ?_
  refine p_nil rfl ?_
  refine p_fld fr0 rfl ?_
  refine t_load agg_b rfl (fun W h => Blk.at_ h rfl) ?_
  refine p_nil rfl ?_
  refine p_fld fr1 rfl ?_
  refine t_load agg_int rfl (fun W h => Blk.at_ h rfl) ?_
  refine cc is_get (get_any _ _ _ _ _ _ _ hr.drew (by omega) hnc) ?_
  rintro en w' ⟨rfl, rfl⟩
  refine ⟨_, rfl, hB.drew, ?_⟩
  -- the error that is kept
  have store1 : ∀ x : Int, x = (if gE l at_ ≠ 0 then gE l at_ else if 1000 < gN l at_ then 11 else 0) → True := fun _ _ => trivial
  clear store1
  refine p_eq rfl rfl (fun h0 => ?_) (fun h0 => ?_)
  rotate_left
  · refine p_nil rfl ?_
    refine p_fld fr2 rfl ?_
    refine v_set (.int .i64 (gE l at_)) sz_err hB.drew rfl rfl rfl (by show 2 < 3; omega) ?_
    rintro W2 hB2 hg2 hs2
    refine p_ne rfl rfl (fun e => absurd e h0) (fun _ => ?_)
    have e1 : txE l at_ = gE l at_ := by unfold txE; rw [if_pos h0]
    have e2 : txS l at_ = [] := by unfold txS; rw [if_neg (by rw [e1]; exact h0)]
    have e3 : txTo l at_ = at_ := by unfold txTo; rw [if_neg (by rw [e1]; exact h0)]
    rw [e1, e2, e3]
    exact ⟨rfl, hB2, gtrans gdrew hg2⟩
  refine p_gt rfl rfl (fun h1 => ?_) (fun h1 => ?_)
  · refine p_nil rfl ?_
    refine p_fld fr2 rfl ?_
    refine v_set (.int .i64 11) sz_err hB.drew rfl rfl rfl (by show 2 < 3; omega) ?_
    rintro W2 hB2 hg2 hs2
    refine p_ne rfl rfl (fun e => by cases e) (fun _ => ?_)
    have e1 : txE l at_ = 11 := by unfold txE; rw [if_neg (by simpa using h0), if_pos h1]
    have e2 : txS l at_ = [] := by unfold txS; rw [if_neg (by rw [e1]; decide)]
    have e3 : txTo l at_ = at_ := by unfold txTo; rw [if_neg (by rw [e1]; decide)]
    rw [e1, e2, e3]
    exact ⟨rfl, hB2, gtrans gdrew hg2⟩
  have e1 : txE l at_ = gbE l at_ := by unfold txE; rw [if_neg (by simpa using h0), if_neg h1]
  refine p_nil rfl ?_
  refine p_fld fr2 rfl ?_
  refine v_set (.int .i64 (gE l at_)) sz_err hB.drew rfl rfl rfl (by show 2 < 3; omega) ?_
  rintro W2 hB2 hg2 hs2
  refine p_ne rfl rfl (fun _ => ?_) (fun e => absurd h0 e)
  have hg2' := gtrans gdrew hg2
  have hr2 := (hr0.grownG hg2' hBg hlt).more (B' := W2.heap.size) (by have : w.drew.heap.size = w.heap.size := rfl; omega)
  refine dr (fun W => Blk W g 145 (rc A n c at_ (gE l at_))) [(0, true), (1, true), (2, true), (3, true), (4, true), (5, true), (6, true), (7, true), (8, false), (9, true), (10, true), (11, true), (12, true), (13, true), (14, true), (15, true)] (by kernel_rfl) hB2.drew ?_
  refine p_nil rfl ?_
  refine p_fld fr0 rfl ?_
  refine t_load agg_b rfl (fun W h => Blk.at_ h rfl) ?_
  refine p_nil rfl ?_
  refine p_fld fr1 rfl ?_
  refine t_load agg_int rfl (fun W h => Blk.at_ h rfl) ?_
  refine cc is_gb (getBytes_any _ _ _ _ _ _ hr2.drew (by omega) hnc) ?_
  rintro en W3 ⟨A3, n3, c3, rfl, o3, b3⟩
  have hB3 := hB2.drew.below b3
  refine ⟨_, rfl, hB3, ?_⟩
  refine p_nil rfl ?_
  refine p_fld fr2 rfl ?_
  refine v_set (.int .i64 (gbE l at_)) sz_err hB3 rfl rfl rfl (by show 2 < 3; omega) ?_
  rintro W4 hB4 hg4 hs4
  have hg4' := gtrans (gtrans (gtrans hg2' gdrew) (gbelow b3)) hg4
  have hgo : ∀ k, (Value.slice A3 n3 c3).ownBlock = some k → g ≠ k := fun k hk e => by
    have := o3.lo k hk
    have h2 : W2.drew.heap.size = W2.heap.size := rfl
    have h3 : w.drew.heap.size = w.heap.size := rfl
    omega
  have o4 : Own W4 W2.drew.heap.size A3 n3 c3 (gbL l at_) := o3.kept hg4 (by
    cases hk : (Value.slice A3 n3 c3).ownBlock with
    | none => exact .inl rfl
    | some k => exact .inr (fun e => hgo k hk (by injection e with e; exact e.symm)))
  refine p_eq rfl rfl (fun h2 => ?_) (fun h2 => ?_)
  · refine p_nil rfl ?_
    refine p_fld fr1 rfl ?_
    refine v_set (.int .i64 (gbTo l at_)) sz_int hB4 rfl rfl rfl (by show 1 < 3; omega) ?_
    rintro W5 hB5 hg5 hs5
    have o5 : Own W5 W2.drew.heap.size A3 n3 c3 (gbL l at_) := o4.kept hg5 (by
      cases hk : (Value.slice A3 n3 c3).ownBlock with
      | none => exact .inl rfl
      | some k => exact .inr (fun e => hgo k hk (by injection e with e; exact e.symm)))
    refine v_str rfl o5.rd ?_
    have e2 : txS l at_ = gbL l at_ := by unfold txS; rw [if_pos (by rw [e1]; exact h2)]
    have e3 : txTo l at_ = gbTo l at_ := by unfold txTo; rw [if_pos (by rw [e1]; exact h2)]
    rw [e1, e2, e3]
    exact ⟨rfl, hB5, gtrans hg4' hg5⟩
  · refine v_str rfl o4.rd ?_
    have e0 : gbL l at_ = [] := by unfold gbL; rw [if_neg h2]
    have e2 : txS l at_ = [] := by unfold txS; rw [if_neg (by rw [e1]; exact h2)]
    have e3 : txTo l at_ = at_ := by unfold txTo; rw [if_neg (by rw [e1]; exact h2)]
    rw [e1, e2, e3, ← e0]
    exact ⟨rfl, hB4, hg4'⟩
end
end Go.Proofs.YtejbljopighenaaDoor
namespace Go.Proofs.YtejbljopighenaaDoor
open Go.RowKit
theorem is_rone : isFn Tryd.prog 89 = true := by kernel_rfl
theorem is_rnum : isFn Tryd.prog 90 = true := by kernel_rfl
theorem is_rtext : isFn Tryd.prog 91 = true := by kernel_rfl
theorem is_rpre : isFn Tryd.prog 92 = true := by kernel_rfl
theorem is_rval : isFn Tryd.prog 87 = true := by kernel_rfl
theorem pl_val : placesOf Tryd.prog 61 = some [(0, 1), (1, 1), (2, 1)] := by kernel_rfl
def pfB (l : List UInt8) (k at_ e : Int) : Bool := !decide (k = 4) || (!decide (e = 10) || (!decide (gE l at_ = 0) || (l.drop (gTo l at_).toNat).all vis))
theorem gnew {w w1 w2 : World} {r : Option Nat} {g : Nat} (h : w.grownBy w1 r) (k : w1.grownBy w2 (some g)) (hg : w.heap.size ≤ g) : w.grownBy w2 r :=
  ⟨k.os.trans h.os, k.tape.trans h.tape, k.output.trans h.output, Nat.le_trans h.size k.size, fun i hi hne => (k.block i (Nat.lt_of_lt_of_le hi h.size) (fun e => by injection e with e; omega)).trans (h.block i hi hne)⟩
section
variable {w : World} {B g n c a : Nat} {A : Option Addr} {l : List UInt8} {e : Int}
set_option maxRecDepth 100000 in
theorem rpre_any (hr : Rd w w.heap.size A n l) (hn : n ≤ 1000000000) (hnc : n ≤ c) (at_ : Int) (hB : Blk w g 145 (rc A n c at_ e)) (v : Val) :
    Calls Tryd.prog 92 #[.pointer (some ⟨g, 0, none⟩), vv_ v] w fun en w' => ∃ b, en = .returned (.bool b) ∧ b = pfB l v.k at_ e ∧ Below w.heap.size w w' := by
  refine calls_ev (args := [.pointer (some ⟨g, 0, none⟩), vv_ v]) mixed Tryd.func92 rfl (by kernel_rfl) ?_
  have hln := hr.len
  refine v_boxB (vc v) rfl ?_
  rintro g3 W hg3 hB3 hb3 hsz3
  have hBW := hB.belowB hb3 (by have := hB.lt; omega)
  rw [← hg3]
  refine p_fld fv0 rfl ?_
  refine v_load agg_int rfl (hB3.at_ rfl) ?_
  refine p_ne rfl rfl (fun h4 => ?_) (fun h4 => ?_)
  rotate_left
  · exact ⟨true, rfl, by unfold pfB; simp [h4], hb3⟩
  refine p_nil rfl ?_
  refine p_fld fr2 rfl ?_
  refine v_load agg_err rfl (hBW.at_ rfl) ?_
  refine p_ne rfl rfl (fun h10 => ?_) (fun h10 => ?_)
  rotate_left
  · exact ⟨true, rfl, by unfold pfB; simp [h10], hb3⟩
  refine dr (fun W => Blk W g 145 (rc A n c at_ e)) [(0, true), (1, true), (2, true), (3, true), (4, true), (5, true), (6, true), (7, true), (8, false), (9, true), (10, true), (11, true), (12, true), (13, true), (14, true), (15, true)] (by kernel_rfl) hBW.drew ?_
  refine p_nil rfl ?_
  refine p_fld fr0 rfl ?_
  refine t_load agg_b rfl (fun W h => Blk.at_ h rfl) ?_
  refine p_nil rfl ?_
  refine p_fld fr1 rfl ?_
  refine t_load agg_int rfl (fun W h => Blk.at_ h rfl) ?_
  have hrW : Rd W g3 A n l := (hr.below (by rw [← hg3]; exact hb3)).more (by omega)
  refine cc is_get (get_any _ _ _ _ _ _ _ hrW.drew (by omega) hnc) ?_
  rintro en w' ⟨rfl, rfl⟩
  refine ⟨_, rfl, hBW.drew, ?_⟩
  refine p_ne rfl rfl (fun h0 => ?_) (fun h0 => ?_)
  rotate_left
  · exact ⟨true, rfl, by unfold pfB; simp [h0], hb3.drew⟩
  obtain ⟨x, t, hx, hxl, _, hT, _, hle, _⟩ := g_ok h0
  have hpf : pfB l v.k at_ e = (l.drop (x + t)).all vis := by
    unfold pfB; rw [hT, Int.toNat_natCast]; simp [h4, h10, h0]
  refine p_nil rfl ?_
  refine p_fld fr0 rfl ?_
  refine v_load agg_b rfl (hBW.drew.at_ rfl) ?_
  refine p_slice (i := x + t) slb rfl (bnd_e rfl hT) rfl rfl rfl (by omega) hnc (Nat.le_refl _) ?_
  refine p_len slb rfl ?_
  have hsl : Rd W.drew g3 (slA A c (x + t) 1) (n - (x + t)) (l.drop (x + t)) := Rd.sle hrW.drew (by omega) hnc
  refine lp Nat (fun i W' => W' = W.drew ∧ i ≤ n - (x + t) ∧ ((l.drop (x + t)).take i).all vis = true) (fun i => [(40, .slice (slA A c (x + t) 1) (n - (x + t)) (c - (x + t))), (41, .int .i64 (n - (x + t) : Nat)), (42, .int .i64 i)]) (fun i => n - (x + t) - i) 0 ⟨rfl, by omega, by simp⟩ ⟨rfl, rfl, rfl, trivial⟩ ?_
  rintro i E1 W1 ⟨rfl, hi, hv⟩
  have hls := hsl.len
  refine p_lt rfl rfl (fun h => ?_) (fun h => ?_)
  · have hlt : i < (l.drop (x + t)).length := by omega
    obtain ⟨b, off, hA, hcell⟩ := hsl.at_ (k := i) (by omega)
    rw [hA]
    refine p_at (i := i) slb rfl rfl rfl (by omega) ?_
    refine v_load agg_u8 rfl (by rw [Nat.mul_one, Addr.add_lit]; exact hcell) ?_
    have h8 := at8_of (l.drop (x + t)) i hlt
    have hst := all_take_step hlt hv
    refine p_lt rfl rfl (fun h1 => ?_) (fun h1 => ?_)
    · exact ⟨false, rfl, by rw [hpf, all_bad hlt (by unfold vis; rw [decide_eq_false (by omega)]; rfl)], hb3.drew⟩
    · refine p_gt rfl rfl (fun h2 => ?_) (fun h2 => ?_)
      · exact ⟨false, rfl, by rw [hpf, all_bad hlt (by unfold vis; rw [decide_eq_false (p := _ ≤ 126) (by omega)]; simp)], hb3.drew⟩
      · refine p_add rfl rfl (w64 (by omega)) ?_
        refine ⟨i + 1, ⟨rfl, by omega, ?_⟩, ⟨by rw [← hA]; rfl, rfl, rfl, trivial⟩, by omega⟩
        rw [hst]; unfold vis; rw [decide_eq_true (by omega), decide_eq_true (by omega)]; rfl
  · rw [List.take_of_length_le (by omega)] at hv
    exact ⟨true, rfl, by rw [hpf, hv], hb3.drew⟩
end
end Go.Proofs.YtejbljopighenaaDoor
