/- Halves of bytes: the reference's walks. Halves of bytes: the reference's walks of what is packed. -/
import Derived.Test.YtliccofjlheceaaG11
namespace Go.Proofs.Ytliccofjlheceaa
open Go.RowKit

theorem take_set1 (L P : List UInt8) (k : Nat) (x : UInt8) (h : k < L.length) (hp : L.take k = P) : (L.set k x).take (k + 1) = P ++ [x] := by
  subst hp
  rw [take_snoc _ _ (by simpa using h), List.take_set, List.set_eq_of_length_le (by simp; omega)]
  simp [h]
theorem take_set2 (L P : List UInt8) (k : Nat) (x y : UInt8) (h : 2 * k + 1 < L.length) (hp : L.take (2 * k) = P) : ((L.set (2 * k) x).set (2 * k + 1) y).take (2 * (k + 1)) = P ++ [x, y] := by
  have e1 := take_set1 L P (2 * k) x (by omega) hp
  have e2 := take_set1 (L.set (2 * k) x) (P ++ [x]) (2 * k + 1) y (by simpa using h) e1
  rw [show 2 * (k + 1) = 2 * k + 1 + 1 by omega, e2]
  simp
theorem other_cell {wr : World} {H bb o o' : Nat} {v : Value} (hne : bb < H) (h : wr.cell? ⟨bb, o, none⟩ = some v) : ∀ u, (wr.setCell ⟨H, o', none⟩ u).cell? ⟨bb, o, none⟩ = some v := fun u => by
  rw [World.cell?_setCell_other _ _ _ _ (by intro e; injection e with e; omega)]; exact h

set_option maxHeartbeats 800000 in
theorem refOf_any (A : Option Addr) (n c : Nat) (l : List UInt8) (w : World) (hr : Rd w w.heap.size A n l) (hn : n ≤ 100000000000) :
    Calls Try.prog 57 #[.slice A n c] w fun e w' => e = .returned (.slice (some ⟨w.heap.size, 0, none⟩) (2 * n) (2 * n)) ∧ Own w' w.heap.size (some ⟨w.heap.size, 0, none⟩) (2 * n) (2 * n) (ofB l) ∧ Below w.heap.size w w' := by
  go_enter Try.func57, Try.ntmps57
  go_wp2_with (at_make; refine wpList_mk rfl _ _ rfl (n := 2 * n) rfl rfl (by omega) (by omega) (by omega) (Nat.le_refl _) ?_; intro w1 hown1 hg1)
  have hb1 : Below w.heap.size w w1 := (Below.refl _ _).grown hg1 (Nat.le_refl _) (by intro k h; cases h)
  go_loopw [4] (fun i wr => ∃ (k : Nat) (L : List UInt8), k ≤ n ∧ i = .int .i64 k ∧ Own wr w.heap.size (some ⟨w.heap.size, 0, none⟩) (2 * n) (2 * n) L ∧ L.take (2 * k) = ofB (l.take k) ∧ Below w.heap.size w wr) (fun i _ => n - (intOf i).toNat)
  case atStart => exact ⟨0, _, Nat.zero_le _, rfl, hown1, rfl, hb1⟩
  case round =>
    obtain ⟨k, L, hk, rfl, hown, ht, hb⟩ := hrel
    have Ht := Lib.hid ht
    clear ht
    have hln := Lib.hid hr.len
    have hLn := Lib.hid hown.len
    by_cases hlt : k < n
    · obtain ⟨bb, off, rfl, hbl, hc⟩ := (hr.below hb).atB hlt
      have h0 := at8_lo l k
      have h1 := at8_hi l k
      have hs1 := hown.cell (j := 2 * k) (by omega)
      have hf1 := hown.free (2 * k)
      have hown1 := hown.set (j := 2 * k) (x := at8 l k / 16) (by omega) (by omega)
      have hs2 := hown1.cell (j := 2 * k + 1) (by omega)
      have hf2 := hown1.free (2 * k + 1)
      have hown2 := hown1.set (j := 2 * k + 1) (x := at8 l k % 16) (by omega) (by omega)
      have hco := other_cell (o' := 2 * k) hbl hc
      have hb2 := (hb.setCell (p := ⟨w.heap.size, 2 * k, none⟩) (Nat.le_refl _) (.int .u8 (at8 l k / 16))).setCell (p := ⟨w.heap.size, 2 * k + 1, none⟩) (Nat.le_refl _) (.int .u8 (at8 l k % 16))
      have Hown2 := Lib.hid hown2
      have Hb2 := Lib.hid hb2
      clear hown2 hb2 hown1 hbl
      go_wp2
      go_roundw
      case rel => exact ⟨k + 1, _, by omega, by go_num, Hown2.out, by rw [ofB_take l k (by rw [hln.out]; exact hlt)]; exact take_set2 L _ k _ _ (by rw [hLn.out]; omega) Ht.out, Hb2.out⟩
      case measure => simp [intOf]; omega
    · have hkn : k = n := by omega
      subst hkn
      go_wp2
      go_ret
      refine ⟨rfl, ?_, hb⟩
      have e := Ht.out
      rw [List.take_of_length_le (by rw [hLn.out]; omega), List.take_of_length_le (by rw [hln.out]; omega)] at e
      rw [← e]; exact hown

theorem common_step (a b : List UInt8) (k : Nat) (h1 : k < a.length) (h2 : k < b.length) (he : at8 a k = at8 b k) (ht : a.take k = b.take k) : a.take (k + 1) = b.take (k + 1) := take_both a b k ht h1 h2 ((at8_eq_iff a b k).1 he)

set_option maxHeartbeats 800000 in
theorem refCommon_any (A1 A2 : Option Addr) (n m c1 c2 B : Nat) (a b : List UInt8) (w : World) (h1 : Rd w B A1 n a) (h2 : Rd w B A2 m b) (hn : n ≤ 100000000000) (_hm : m ≤ 100000000000) :
    Calls Try.prog 101 #[.slice A1 n c1, .slice A2 m c2] w fun e w' => e = .returned (.int .i64 (commonB a b)) ∧ ∃ d, w' = w.drewN d := by
  go_enter Try.func101, Try.ntmps101
  go_wp2
  go_loopw [5] (fun i wr => ∃ (k d : Nat), k ≤ n ∧ k ≤ m ∧ i = .int .i64 k ∧ a.take k = b.take k ∧ wr = w.drewN d) (fun i _ => n - (intOf i).toNat)
  case atStart => exact ⟨0, 0, Nat.zero_le _, Nat.zero_le _, rfl, rfl, rfl⟩
  case round =>
    obtain ⟨k, d, hkn, hkm, rfl, ht, rfl⟩ := hrel
    have Ht := Lib.hid ht
    clear ht
    have hla := Lib.hid h1.len
    have hlb := Lib.hid h2.len
    by_cases hlt1 : k < n
    · by_cases hlt2 : k < m
      · obtain ⟨bb1, off1, rfl, hc1⟩ := h1.at_ hlt1
        obtain ⟨bb2, off2, rfl, hc2⟩ := h2.at_ hlt2
        have hg1 : (k : Int) < n := by omega
        have hg2 : (k : Int) < m := by omega
        by_cases heq : at8 a k = at8 b k
        · have hq : (at8 a k == at8 b k) = true := by simp [heq]
          have He := Lib.hid heq
          clear heq
          go_wp2
          go_quiet (fail)
          go_wp2
          go_roundw
          case rel => exact ⟨k + 1, _, by omega, by omega, by go_num, common_step a b k (by rw [hla.out]; exact hlt1) (by rw [hlb.out]; exact hlt2) He.out Ht.out, rfl⟩
          case measure => simp [intOf]; omega
        · have hq : (at8 a k == at8 b k) = false := by simp [heq]
          have He := Lib.hid heq
          clear heq
          go_wp2
          go_quiet (fail)
          go_wp2
          go_ret
          exact ⟨ret_int (by rw [commonB_at a b k Ht.out (by rw [hla.out]; exact hlt1) (by rw [hlb.out]; exact hlt2) (fun e => He.out ((at8_eq_iff a b k).2 e))]), _, World.drewN_drewN ..⟩
      · have hmi : Hid (k = min a.length b.length) := Lib.hid (by have := hla.out; have := hlb.out; omega)
        have hg1 : (k : Int) < n := by omega
        have hd : decide ((k : Int) < m) = false := by simp; omega
        go_wp2
        go_quiet (fail)
        go_wp2
        go_ret
        exact ⟨ret_int (by rw [commonB_end a b k Ht.out hmi.out]), _, World.drewN_drewN ..⟩
    · have hmi : Hid (k = min a.length b.length) := Lib.hid (by have := hla.out; have := hlb.out; omega)
      have hd : decide ((k : Int) < n) = false := by simp; omega
      go_wp2
      go_quiet (fail)
      go_wp2
      go_ret
      exact ⟨ret_int (by rw [commonB_end a b k Ht.out hmi.out]), _, World.drewN_drewN ..⟩

set_option maxHeartbeats 1600000 in
theorem cmp04_any (A1 A2 : Option Addr) (n m c1 c2 B : Nat) (a b : List UInt8) (w : World) (h1 : Rd w B A1 n a) (h2 : Rd w B A2 m b) (hn : n ≤ 100000000000) (hm : m ≤ 100000000000) :
    Calls Try.prog 84 #[.slice A1 n c1, .slice A2 m c2] w fun e w' => e = .returned (.int .i64 (cmpB a b)) ∧ ∃ d, w' = w.drewN d := by
  have hla := Lib.hid h1.len
  have hlb := Lib.hid h2.len
  go_enter Try.func84, Try.ntmps84
  go_wp2
  go_loopw [5] (fun i wr => ∃ (k d : Nat), k ≤ n ∧ k ≤ m ∧ i = .int .i64 k ∧ a.take k = b.take k ∧ wr = w.drewN d) (fun i _ => n - (intOf i).toNat)
  case atStart => exact ⟨0, 0, Nat.zero_le _, Nat.zero_le _, rfl, rfl, rfl⟩
  case round =>
    obtain ⟨k, d, hkn, hkm, rfl, ht, rfl⟩ := hrel
    have Ht := Lib.hid ht
    clear ht
    by_cases hlt : k < n ∧ k < m
    · obtain ⟨hlt1, hlt2⟩ := hlt
      obtain ⟨bb1, off1, rfl, hc1⟩ := h1.at_ hlt1
      obtain ⟨bb2, off2, rfl, hc2⟩ := h2.at_ hlt2
      have hg1 : (k : Int) < n := by omega
      have hg2 : (k : Int) < m := by omega
      have hka : k < a.length := by rw [hla.out]; exact hlt1
      have hkb : k < b.length := by rw [hlb.out]; exact hlt2
      rcases Int.lt_trichotomy (at8 a k) (at8 b k) with hx | hx | hx
      · have hk := commonB_at a b k Ht.out hka hkb (fun e => by have := (at8_eq_iff a b k).2 e; omega)
        have hfin := Lib.hid (cmpB_at_lt hk hkb hx (by omega))
        clear hk hka hkb
        go_wp2
        go_quiet (fail)
        go_wp2
        go_ret
        exact ⟨ret_int hfin.out.symm, _, World.drewN_drewN ..⟩
      · have hq : ¬ at8 a k < at8 b k := by omega
        have hq2 : ¬ at8 b k < at8 a k := by omega
        have hs := Lib.hid (common_step a b k hka hkb hx Ht.out)
        clear hx hka hkb
        go_wp2
        go_quiet (fail)
        go_wp2
        go_quiet (fail)
        go_wp2
        go_roundw
        case rel => exact ⟨k + 1, _, by omega, by omega, by go_num, hs.out, rfl⟩
        case measure => simp [intOf]; omega
      · have hk := commonB_at a b k Ht.out hka hkb (fun e => by have := (at8_eq_iff a b k).2 e; omega)
        have hfin := Lib.hid (cmpB_at_ge hk (by omega) (show ¬ at8 a k < at8 b k by omega))
        have hq : ¬ at8 a k < at8 b k := by omega
        clear hk hka hkb
        go_wp2
        go_quiet (fail)
        go_wp2
        go_quiet (fail)
        go_wp2
        go_ret
        exact ⟨ret_int hfin.out.symm, by simp only [World.drewN_drewN]; exact ⟨_, rfl⟩⟩
    · have hmi : k = min a.length b.length := by rw [hla.out, hlb.out]; omega
      have hk := commonB_end a b k Ht.out hmi
      rcases Nat.lt_trichotomy n m with hx | hx | hx
      · have hfin := Lib.hid (cmpB_lt hk (by rw [hla.out]; omega) (by rw [hlb.out]; omega))
        clear hk hmi
        go_wp2
        go_ret
        exact ⟨ret_int hfin.out.symm, _, rfl⟩
      · have hfin := Lib.hid (cmpB_eq hk (by rw [hla.out]; omega) (by rw [hlb.out]; omega))
        subst hx
        clear hk hmi
        go_wp2
        go_ret
        exact ⟨ret_int hfin.out.symm, _, rfl⟩
      · have hfin := Lib.hid (cmpB_gt hk (by rw [hla.out]; omega) (by rw [hlb.out]; omega))
        clear hk hmi
        go_wp2
        go_ret
        exact ⟨ret_int hfin.out.symm, _, rfl⟩
end Go.Proofs.Ytliccofjlheceaa
namespace Go.Proofs.Ytliccofjlheceaa
open Go.RowKit

set_option maxHeartbeats 800000 in
theorem refBytes_any (A : Option Addr) (n c : Nat) (l : List UInt8) (w : World) (hr : Rd w w.heap.size A n l) (hn : n ≤ 100000000000) :
    Calls Try.prog 98 #[.slice A n c] w fun e w' => ∃ A' n' c', e = .returned (.tuple #[.slice A' n' c', .int .i64 (bytesE l)]) ∧ Own w' w.heap.size A' n' c' (bytesL l) ∧ Below w.heap.size w w' := by
  have hln := Lib.hid hr.len
  by_cases hh : halvesB l = true
  · by_cases hodd : n % 2 = 1
    · have He := Lib.hid (bytesE_odd hh (by rw [hln.out]; exact hodd))
      go_enter Try.func98, Try.ntmps98
      go_wp2_with (go_at_call 97; refine (right_any _ _ _ _ _ _ hr hn).mono ?_; rintro e w' ⟨rfl, rfl⟩)
      go_ret2
      exact ⟨none, 0, 0, ret_se rfl He.out.1.symm, by rw [He.out.2]; exact Own.nil_ _ _, Below.refl _ _⟩
    · have He := Lib.hid (bytesE_ok hh (by rw [hln.out]; omega))
      go_enter Try.func98, Try.ntmps98
      go_wp2_with (first
        | (at_make; refine wpList_mk rfl _ _ rfl (n := n / 2) rfl rfl (by omega) (by omega) (by omega) (Nat.le_refl _) ?_; intro w1 hown1 hg1)
        | (go_at_call 97; refine (right_any _ _ _ _ _ _ hr hn).mono ?_; rintro e w' ⟨rfl, rfl⟩))
      have hb1 : Below w.heap.size w w1 := (Below.refl _ _).grown hg1 (Nat.le_refl _) (by intro k h; cases h)
      have Hh := Lib.hid hh
      clear hh
      go_loopw [5] (fun i wr => ∃ (k : Nat) (L : List UInt8), k ≤ n / 2 ∧ i = .int .i64 k ∧ Own wr w.heap.size (some ⟨w.heap.size, 0, none⟩) (n / 2) (n / 2) L ∧ L.take k = joinB (l.take (2 * k)) ∧ Below w.heap.size w wr) (fun i _ => n - (intOf i).toNat)
      case atStart => exact ⟨0, _, Nat.zero_le _, rfl, hown1, rfl, hb1⟩
      case round =>
        obtain ⟨k, L, hk, rfl, hown, ht, hb⟩ := hrel
        have Ht := Lib.hid ht
        clear ht
        have hLn := Lib.hid hown.len
        by_cases hlt : k < n / 2
        · obtain ⟨bb, off, rfl, hbl, hc⟩ := (hr.below hb).atB (k := 2 * k) (by omega)
          obtain ⟨bb', off', e, hc'⟩ := (hr.below hb).at_ (k := 2 * k + 1) (by omega)
          injection e with e
          injection e with e1 e2
          subst e1 e2
          have h0 := at8_lo l (2 * k)
          have h1 := at8_lo l (2 * k + 1)
          have h2 := halvesB_at l Hh.out (2 * k)
          have h3 := halvesB_at l Hh.out (2 * k + 1)
          have hs1 := hown.cell (j := k) (by omega)
          have hf1 := hown.free k
          have Hown2 := Lib.hid (hown.set (j := k) (x := 16 * at8 l (2 * k) + at8 l (2 * k + 1)) (by omega) (by omega))
          have Hb2 := Lib.hid (hb.setCell (p := ⟨w.heap.size, k, none⟩) (Nat.le_refl _) (.int .u8 (16 * at8 l (2 * k) + at8 l (2 * k + 1))))
          have hj := Lib.hid (joinB_take8 l k (by rw [hln.out]; omega) Hh.out)
          have hw1 : IntKind.i64.wrap (2 * (k : Int)) = 2 * (k : Int) := IntWalk.i64_in _ (by omega)
          have hw9 : IntKind.i64.wrap (2 * (k : Int) + 1) = 2 * (k : Int) + 1 := IntWalk.i64_in _ (by omega)
          have hw2 : (2 * (k : Int)).toNat = 2 * k := by omega
          have hw4 : (2 * (k : Int) + 1).toNat = 2 * k + 1 := by omega
          have hw5 : (0 : Int) ≤ 2 * (k : Int) := by omega
          have hw6 : (2 * (k : Int)) < (n : Int) := by omega
          have hw7 : (0 : Int) ≤ 2 * (k : Int) + 1 := by omega
          have hw8 : (2 * (k : Int) + 1) < (n : Int) := by omega
          have hw3 : IntKind.u8.wrap (16 * at8 l (2 * k)) = 16 * at8 l (2 * k) := IntWalk.u8_in _ (by omega)
          have hw0 : IntKind.u8.wrap (16 * at8 l (2 * k) + at8 l (2 * k + 1)) = 16 * at8 l (2 * k) + at8 l (2 * k + 1) := IntWalk.u8_in _ (by omega)
          go_wp2
          go_region
          all_goals
            clear hw1 hw9 hw2 hw4 hw5 hw6 hw7 hw8 hw3 hw0 hc hc' hs1 hf1 hown hb
            go_wp2
            go_roundw
            case rel => exact ⟨k + 1, _, by omega, by go_num, Hown2.out.drew, by rw [hj.out, Int.mul_comm (at8 l (2 * k)) 16]; exact take_set1 L _ k _ (by rw [hLn.out]; omega) Ht.out, Hb2.out.drew⟩
            case measure => simp [intOf]; omega
        · have hkn : k = n / 2 := by omega
          have hend := Lib.hid (joinB_all l k (by rw [hln.out]; omega) (by rw [hln.out]; omega))
          subst hkn
          go_wp2
          go_ret2
          refine ⟨_, _, _, ret_se rfl He.out.1.symm, ?_, hb⟩
          rw [He.out.2, ← hend.out, ← Ht.out, List.take_of_length_le (by rw [hLn.out]; omega)]
          exact hown
  · have hh' : halvesB l = false := by simpa using hh
    have He := Lib.hid (bytesE_no hh')
    clear hh
    go_enter Try.func98, Try.ntmps98
    go_wp2_with (go_at_call 97; refine (right_any _ _ _ _ _ _ hr hn).mono ?_; rintro e w' ⟨rfl, rfl⟩)
    go_ret2
    exact ⟨none, 0, 0, ret_se rfl He.out.1.symm, by rw [He.out.2]; exact Own.nil_ _ _, Below.refl _ _⟩

theorem halvesB_cons (x : UInt8) (l : List UInt8) (hx : x ≤ 15) (h : halvesB l = true) : halvesB (x :: l) = true := by
  unfold halvesB at *; rw [List.all_cons, h]; simp [hx]
theorem b8_le (x : Int) (h0 : 0 ≤ x) (h1 : x ≤ 15) : b8 x ≤ 15 := by
  unfold b8; rw [UInt8.le_iff_toNat_le, UInt8.toNat_ofNat']; simp; omega
theorem refPack_odd {l : List UInt8} (h : halvesB l = true) (k : l.length % 2 = 1) (leaf : Bool) (x : Int) (hx : x = if leaf = true then 3 else 1) :
    bytesE ([b8 x] ++ l) = 0 ∧ bytesL ([b8 x] ++ l) = packL l leaf := by
  have hx' : 0 ≤ x ∧ x ≤ 15 := by subst hx; split <;> omega
  have hh : halvesB (b8 x :: l) = true := halvesB_cons _ _ (b8_le x hx'.1 hx'.2) h
  obtain ⟨h1, h2⟩ := bytesE_ok (l := [b8 x] ++ l) hh (by simp; omega)
  refine ⟨h1, ?_⟩
  rw [h2, packL_odd h k leaf _ rfl]
  rcases l with _ | ⟨y, l⟩
  · simp at k
  · simp only [List.cons_append, List.nil_append, joinB, List.drop_succ_cons, List.drop_zero]
    congr 1
    have hy : y ≤ 15 := halvesB_le _ h y (by simp)
    have e : at8 (y :: l) 0 = (y.toNat : Int) := rfl
    rw [e]
    have := b8_add (b8 x) y (b8_le x hx'.1 hx'.2) hy
    rw [← this]
    congr 1
    subst hx
    cases leaf <;> simp [b8] <;> omega
theorem refPack_even {l : List UInt8} (h : halvesB l = true) (k : l.length % 2 = 0) (leaf : Bool) (x : Int) (hx : x = if leaf = true then 2 else 0) :
    bytesE ([b8 x] ++ [b8 0] ++ l) = 0 ∧ bytesL ([b8 x] ++ [b8 0] ++ l) = packL l leaf := by
  have hx' : 0 ≤ x ∧ x ≤ 15 := by subst hx; split <;> omega
  have hh : halvesB (b8 x :: b8 0 :: l) = true := halvesB_cons _ _ (b8_le x hx'.1 hx'.2) (halvesB_cons _ _ (b8_le 0 (by omega) (by omega)) h)
  obtain ⟨h1, h2⟩ := bytesE_ok (l := [b8 x] ++ [b8 0] ++ l) hh (by simp; omega)
  refine ⟨h1, ?_⟩
  rw [h2, packL_even h k leaf _ rfl]
  simp only [List.cons_append, List.nil_append, joinB]
  congr 1
  have := b8_add (b8 x) (b8 0) (b8_le x hx'.1 hx'.2) (b8_le 0 (by omega) (by omega))
  rw [← this]
  congr 1
  subst hx
  cases leaf <;> simp [b8]

set_option maxHeartbeats 1600000 in
theorem refPack_any (A : Option Addr) (n c : Nat) (leaf : Bool) (l : List UInt8) (w : World) (hr : Rd w w.heap.size A n l) (hn : n ≤ 10000000000) :
    Calls Try.prog 81 #[.slice A n c, .bool leaf] w fun e w' => ∃ A' n' c', e = .returned (.tuple #[.slice A' n' c', .int .i64 (packE l)]) ∧ Own w' w.heap.size A' n' c' (packL l leaf) ∧ Below w.heap.size w w' := by
  have hln := Lib.hid hr.len
  by_cases hh : halvesB l = true
  · have he := Lib.hid (packE_ok hh)
    by_cases hodd : n % 2 = 1
    · have hl := Lib.hid (refPack_odd hh (by rw [hln.out]; omega) leaf _ rfl)
      have hm : (n : Int) % 2 = 1 := by omega
      cases leaf
      all_goals
        go_enter Try.func81, Try.ntmps81
        go_wp2_with (first
          | (at_builtin; refine wpList_app rfl _ _ rfl rfl (Own.lit1 w w.heap.size (Nat.le_refl _) _ (by omega)) rfl (hr.upA _) (by omega) (sz1 _ _) ?_; intro A1 c1 w1 hown1 hg1)
          | (go_at_call 97; refine (right_any _ _ _ _ _ _ hr (by omega)).mono ?_; rintro e w' ⟨rfl, rfl⟩))
        have hb1 := below_own ((Below.refl _ _).alloc (Nat.le_refl _) _) (Own.lit1 w w.heap.size (Nat.le_refl _) _ (by omega)) hg1
        refine (refBytes_any _ _ _ _ _ hown1.rd (by omega)).mono ?_
        rintro e w2 ⟨A2, n2, c2, rfl, hown2, hb2⟩
        have e1 := hl.out.1
        have e2 := hl.out.2
        simp only [if_true, if_false, Bool.false_eq_true] at e1 e2
        rw [e1]
        rw [e2] at hown2
        clear e1 e2
        go_wp2
        go_ret2
        exact ⟨A2, n2, c2, ret_se rfl he.out.symm, hown2.less hb1.size, hb1.trans (hb2.mono hb1.size)⟩
    · have hl := Lib.hid (refPack_even hh (by rw [hln.out]; omega) leaf _ rfl)
      have hm : (n : Int) % 2 = 0 := by omega
      cases leaf
      all_goals
        go_enter Try.func81, Try.ntmps81
        go_wp2_with (first
          | (go_at_call 97; refine (right_any _ _ _ _ _ _ hr (by omega)).mono ?_; rintro e w' ⟨rfl, rfl⟩)
          | (at_builtin; refine wpList_app rfl _ _ rfl rfl ((Own.lit1 w w.heap.size (Nat.le_refl _) _ (by omega)).alloc _) rfl (Rd.lit1H _ _ (World.size_alloc ..) _ (by omega)) (by omega) (sz2 _ _ _) ?_; intro A1 c1 w1 hown1 hg1; have hb1 := below_own (((Below.refl _ _).alloc (Nat.le_refl _) _).alloc (sz1 _ _) _) ((Own.lit1 w w.heap.size (Nat.le_refl _) _ (by omega)).alloc _) hg1)
          | (at_builtin; refine wpList_app rfl _ _ rfl rfl hown1 rfl (hr.up hb1) (by omega) hb1.size ?_; intro A2 c2 w2 hown2 hg2))
        have hb2 := below_own hb1 hown1 hg2
        refine (refBytes_any _ _ _ _ _ hown2.rd (by omega)).mono ?_
        rintro e w3 ⟨A3, n3, c3, rfl, hown3, hb3⟩
        have e1 := hl.out.1
        have e2 := hl.out.2
        simp only [if_true, if_false, Bool.false_eq_true] at e1 e2
        rw [e1]
        rw [e2] at hown3
        clear e1 e2
        go_wp2
        go_ret2
        exact ⟨A3, n3, c3, ret_se rfl he.out.symm, hown3.less hb2.size, hb2.trans (hb3.mono hb2.size)⟩
  · have hh' : halvesB l = false := by simpa using hh
    have He := Lib.hid (packE_no hh' leaf)
    clear hh
    go_enter Try.func81, Try.ntmps81
    go_wp2_with (go_at_call 97; refine (right_any _ _ _ _ _ _ hr (by omega)).mono ?_; rintro e w' ⟨rfl, rfl⟩)
    go_ret2
    exact ⟨none, 0, 0, ret_se rfl He.out.1.symm, by rw [He.out.2]; exact Own.nil_ _ _, Below.refl _ _⟩

end Go.Proofs.Ytliccofjlheceaa
