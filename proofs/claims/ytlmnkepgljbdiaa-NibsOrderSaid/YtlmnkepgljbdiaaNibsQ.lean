/- Halves of bytes: the reference's walks of what is packed. -/
import Derived.Test.YtlmnkepgljbdiaaNibsR
namespace Go.Proofs.Ytlmnkepgljbdiaa
open Go.RowKit

set_option maxHeartbeats 800000 in
theorem refBytes_any (A : Option Addr) (n c : Nat) (l : List UInt8) (w : World) (hr : Rd w w.heap.size A n l) (hn : n ≤ 100000000000) :
    Calls Try.prog 45 #[.slice A n c] w fun e w' => ∃ A' n' c', e = .returned (.tuple #[.slice A' n' c', .int .i64 (bytesE l)]) ∧ Own w' w.heap.size A' n' c' (bytesL l) ∧ Below w.heap.size w w' := by
  have hln := Lib.hid hr.len
  by_cases hh : halvesB l = true
  · by_cases hodd : n % 2 = 1
    · have He := Lib.hid (bytesE_odd hh (by rw [hln.out]; exact hodd))
      go_enter Try.func45, Try.ntmps45
      go_wp2_with (go_at_call 51; refine (right_any _ _ _ _ _ _ hr hn).mono ?_; rintro e w' ⟨rfl, rfl⟩)
      go_ret2
      exact ⟨none, 0, 0, ret_se rfl He.out.1.symm, by rw [He.out.2]; exact Own.nil_ _ _, Below.refl _ _⟩
    · have He := Lib.hid (bytesE_ok hh (by rw [hln.out]; omega))
      go_enter Try.func45, Try.ntmps45
      go_wp2_with (first
        | (at_make; refine wpList_mk rfl _ _ rfl (n := n / 2) rfl rfl (by omega) (by omega) (by omega) (Nat.le_refl _) ?_; intro w1 hown1 hg1)
        | (go_at_call 51; refine (right_any _ _ _ _ _ _ hr hn).mono ?_; rintro e w' ⟨rfl, rfl⟩))
      have hb1 : Below w.heap.size w w1 := (Below.refl _ _).grown hg1 (Nat.le_refl _) (by intro k h; cases h)
      have Hh := Lib.hid hh
      clear hh
      go_loopw [5] (fun i wr => ∃ (k : Nat) (L : List UInt8), k ≤ n / 2 ∧ i = .int .i64 k ∧ Own wr w.heap.size (some ⟨w.heap.size, 0, none⟩) (n / 2) (n / 2) L ∧ L.take k = joinB (l.take (2 * k)) ∧ Below w.heap.size w wr) (fun i _ => n - (intOf i).toNat)
      case atStart => exact ⟨0, _, Nat.zero_le _, rfl, hown1, rfl, hb1⟩
      case round =>
        obtain ⟨k, L, hk, rfl, hown, ht, hb⟩ := hrel
        have Ht := Lib.hid ht
        clear ht
        have hLn := Lib.hid hown.len
        by_cases hlt : k < n / 2
        · obtain ⟨bb, off, rfl, hbl, hc⟩ := (hr.below hb).atB (k := 2 * k) (by omega)
          obtain ⟨bb', off', e, hc'⟩ := (hr.below hb).at_ (k := 2 * k + 1) (by omega)
          injection e with e
          injection e with e1 e2
          subst e1 e2
          have h0 := at8_lo l (2 * k)
          have h1 := at8_lo l (2 * k + 1)
          have h2 := halvesB_at l Hh.out (2 * k)
          have h3 := halvesB_at l Hh.out (2 * k + 1)
          have hs1 := hown.cell (j := k) (by omega)
          have hf1 := hown.free k
          have Hown2 := Lib.hid (hown.set (j := k) (x := 16 * at8 l (2 * k) + at8 l (2 * k + 1)) (by omega) (by omega))
          have Hb2 := Lib.hid (hb.setCell (p := ⟨w.heap.size, k, none⟩) (Nat.le_refl _) (.int .u8 (16 * at8 l (2 * k) + at8 l (2 * k + 1))))
          have hj := Lib.hid (joinB_take8 l k (by rw [hln.out]; omega) Hh.out)
          have hw1 : IntKind.i64.wrap (2 * (k : Int)) = 2 * (k : Int) := IntWalk.i64_in _ (by omega)
          have hw9 : IntKind.i64.wrap (2 * (k : Int) + 1) = 2 * (k : Int) + 1 := IntWalk.i64_in _ (by omega)
          have hw2 : (2 * (k : Int)).toNat = 2 * k := by omega
          have hw4 : (2 * (k : Int) + 1).toNat = 2 * k + 1 := by omega
          have hw5 : (0 : Int) ≤ 2 * (k : Int) := by omega
          have hw6 : (2 * (k : Int)) < (n : Int) := by omega
          have hw7 : (0 : Int) ≤ 2 * (k : Int) + 1 := by omega
          have hw8 : (2 * (k : Int) + 1) < (n : Int) := by omega
          have hw3 : IntKind.u8.wrap (16 * at8 l (2 * k)) = 16 * at8 l (2 * k) := IntWalk.u8_in _ (by omega)
          have hw0 : IntKind.u8.wrap (16 * at8 l (2 * k) + at8 l (2 * k + 1)) = 16 * at8 l (2 * k) + at8 l (2 * k + 1) := IntWalk.u8_in _ (by omega)
          go_wp2
          go_region
          all_goals
            clear hw1 hw9 hw2 hw4 hw5 hw6 hw7 hw8 hw3 hw0 hc hc' hs1 hf1 hown hb
            go_wp2
            go_roundw
            case rel => exact ⟨k + 1, _, by omega, by go_num, Hown2.out.drew, by rw [hj.out, Int.mul_comm (at8 l (2 * k)) 16]; exact take_set1 L _ k _ (by rw [hLn.out]; omega) Ht.out, Hb2.out.drew⟩
            case measure => simp [intOf]; omega
        · have hkn : k = n / 2 := by omega
          have hend := Lib.hid (joinB_all l k (by rw [hln.out]; omega) (by rw [hln.out]; omega))
          subst hkn
          go_wp2
          go_ret2
          refine ⟨_, _, _, ret_se rfl He.out.1.symm, ?_, hb⟩
          rw [He.out.2, ← hend.out, ← Ht.out, List.take_of_length_le (by rw [hLn.out]; omega)]
          exact hown
  · have hh' : halvesB l = false := by simpa using hh
    have He := Lib.hid (bytesE_no hh')
    clear hh
    go_enter Try.func45, Try.ntmps45
    go_wp2_with (go_at_call 51; refine (right_any _ _ _ _ _ _ hr hn).mono ?_; rintro e w' ⟨rfl, rfl⟩)
    go_ret2
    exact ⟨none, 0, 0, ret_se rfl He.out.1.symm, by rw [He.out.2]; exact Own.nil_ _ _, Below.refl _ _⟩

theorem halvesB_cons (x : UInt8) (l : List UInt8) (hx : x ≤ 15) (h : halvesB l = true) : halvesB (x :: l) = true := by
  unfold halvesB at *; rw [List.all_cons, h]; simp [hx]
theorem b8_le (x : Int) (h0 : 0 ≤ x) (h1 : x ≤ 15) : b8 x ≤ 15 := by
  unfold b8; rw [UInt8.le_iff_toNat_le, UInt8.toNat_ofNat']; simp; omega
theorem refPack_odd {l : List UInt8} (h : halvesB l = true) (k : l.length % 2 = 1) (leaf : Bool) (x : Int) (hx : x = if leaf = true then 3 else 1) :
    bytesE ([b8 x] ++ l) = 0 ∧ bytesL ([b8 x] ++ l) = packL l leaf := by
  have hx' : 0 ≤ x ∧ x ≤ 15 := by subst hx; split <;> omega
  have hh : halvesB (b8 x :: l) = true := halvesB_cons _ _ (b8_le x hx'.1 hx'.2) h
  obtain ⟨h1, h2⟩ := bytesE_ok (l := [b8 x] ++ l) hh (by simp; omega)
  refine ⟨h1, ?_⟩
  rw [h2, packL_odd h k leaf _ rfl]
  rcases l with _ | ⟨y, l⟩
  · simp at k
  · simp only [List.cons_append, List.nil_append, joinB, List.drop_succ_cons, List.drop_zero]
    congr 1
    have hy : y ≤ 15 := halvesB_le _ h y (by simp)
    have e : at8 (y :: l) 0 = (y.toNat : Int) := rfl
    rw [e]
    have := b8_add (b8 x) y (b8_le x hx'.1 hx'.2) hy
    rw [← this]
    congr 1
    subst hx
    cases leaf <;> simp [b8] <;> omega
theorem refPack_even {l : List UInt8} (h : halvesB l = true) (k : l.length % 2 = 0) (leaf : Bool) (x : Int) (hx : x = if leaf = true then 2 else 0) :
    bytesE ([b8 x] ++ [b8 0] ++ l) = 0 ∧ bytesL ([b8 x] ++ [b8 0] ++ l) = packL l leaf := by
  have hx' : 0 ≤ x ∧ x ≤ 15 := by subst hx; split <;> omega
  have hh : halvesB (b8 x :: b8 0 :: l) = true := halvesB_cons _ _ (b8_le x hx'.1 hx'.2) (halvesB_cons _ _ (b8_le 0 (by omega) (by omega)) h)
  obtain ⟨h1, h2⟩ := bytesE_ok (l := [b8 x] ++ [b8 0] ++ l) hh (by simp; omega)
  refine ⟨h1, ?_⟩
  rw [h2, packL_even h k leaf _ rfl]
  simp only [List.cons_append, List.nil_append, joinB]
  congr 1
  have := b8_add (b8 x) (b8 0) (b8_le x hx'.1 hx'.2) (b8_le 0 (by omega) (by omega))
  rw [← this]
  congr 1
  subst hx
  cases leaf <;> simp [b8]

set_option maxHeartbeats 1600000 in
theorem refPack_any (A : Option Addr) (n c : Nat) (leaf : Bool) (l : List UInt8) (w : World) (hr : Rd w w.heap.size A n l) (hn : n ≤ 10000000000) :
    Calls Try.prog 17 #[.slice A n c, .bool leaf] w fun e w' => ∃ A' n' c', e = .returned (.tuple #[.slice A' n' c', .int .i64 (packE l)]) ∧ Own w' w.heap.size A' n' c' (packL l leaf) ∧ Below w.heap.size w w' := by
  have hln := Lib.hid hr.len
  by_cases hh : halvesB l = true
  · have he := Lib.hid (packE_ok hh)
    by_cases hodd : n % 2 = 1
    · have hl := Lib.hid (refPack_odd hh (by rw [hln.out]; omega) leaf _ rfl)
      have hm : (n : Int) % 2 = 1 := by omega
      cases leaf
      all_goals
        go_enter Try.func17, Try.ntmps17
        go_wp2_with (first
          | (at_builtin; refine wpList_app rfl _ _ rfl rfl (Own.lit1 w w.heap.size (Nat.le_refl _) _ (by omega)) rfl (hr.upA _) (by omega) (sz1 _ _) ?_; intro A1 c1 w1 hown1 hg1)
          | (go_at_call 51; refine (right_any _ _ _ _ _ _ hr (by omega)).mono ?_; rintro e w' ⟨rfl, rfl⟩))
        have hb1 := below_own ((Below.refl _ _).alloc (Nat.le_refl _) _) (Own.lit1 w w.heap.size (Nat.le_refl _) _ (by omega)) hg1
        refine (refBytes_any _ _ _ _ _ hown1.rd (by omega)).mono ?_
        rintro e w2 ⟨A2, n2, c2, rfl, hown2, hb2⟩
        have e1 := hl.out.1
        have e2 := hl.out.2
        simp only [if_true, if_false, Bool.false_eq_true] at e1 e2
        rw [e1]
        rw [e2] at hown2
        clear e1 e2
        go_wp2
        go_ret2
        exact ⟨A2, n2, c2, ret_se rfl he.out.symm, hown2.less hb1.size, hb1.trans (hb2.mono hb1.size)⟩
    · have hl := Lib.hid (refPack_even hh (by rw [hln.out]; omega) leaf _ rfl)
      have hm : (n : Int) % 2 = 0 := by omega
      cases leaf
      all_goals
        go_enter Try.func17, Try.ntmps17
        go_wp2_with (first
          | (go_at_call 51; refine (right_any _ _ _ _ _ _ hr (by omega)).mono ?_; rintro e w' ⟨rfl, rfl⟩)
          | (at_builtin; refine wpList_app rfl _ _ rfl rfl ((Own.lit1 w w.heap.size (Nat.le_refl _) _ (by omega)).alloc _) rfl (Rd.lit1H _ _ (World.size_alloc ..) _ (by omega)) (by omega) (sz2 _ _ _) ?_; intro A1 c1 w1 hown1 hg1; have hb1 := below_own (((Below.refl _ _).alloc (Nat.le_refl _) _).alloc (sz1 _ _) _) ((Own.lit1 w w.heap.size (Nat.le_refl _) _ (by omega)).alloc _) hg1)
          | (at_builtin; refine wpList_app rfl _ _ rfl rfl hown1 rfl (hr.up hb1) (by omega) hb1.size ?_; intro A2 c2 w2 hown2 hg2))
        have hb2 := below_own hb1 hown1 hg2
        refine (refBytes_any _ _ _ _ _ hown2.rd (by omega)).mono ?_
        rintro e w3 ⟨A3, n3, c3, rfl, hown3, hb3⟩
        have e1 := hl.out.1
        have e2 := hl.out.2
        simp only [if_true, if_false, Bool.false_eq_true] at e1 e2
        rw [e1]
        rw [e2] at hown3
        clear e1 e2
        go_wp2
        go_ret2
        exact ⟨A3, n3, c3, ret_se rfl he.out.symm, hown3.less hb2.size, hb2.trans (hb3.mono hb2.size)⟩
  · have hh' : halvesB l = false := by simpa using hh
    have He := Lib.hid (packE_no hh' leaf)
    clear hh
    go_enter Try.func17, Try.ntmps17
    go_wp2_with (go_at_call 51; refine (right_any _ _ _ _ _ _ hr (by omega)).mono ?_; rintro e w' ⟨rfl, rfl⟩)
    go_ret2
    exact ⟨none, 0, 0, ret_se rfl He.out.1.symm, by rw [He.out.2]; exact Own.nil_ _ _, Below.refl _ _⟩

theorem b8_div (c : UInt8) : b8 ((c.toNat : Int) / 16) = c / 16 := by unfold b8; apply UInt8.toNat_inj.1; rw [UInt8.toNat_ofNat', UInt8.toNat_div]; simp; have := c.toNat_lt; omega
theorem b8_mod (c : UInt8) : b8 ((c.toNat : Int) % 16) = c % 16 := by unfold b8; apply UInt8.toNat_inj.1; rw [UInt8.toNat_ofNat', UInt8.toNat_mod]; simp; have := c.toNat_lt; omega
theorem ofB_head (l : List UInt8) (h : 0 < l.length) : at8 (ofB l) 0 = at8 l 0 / 16 ∧ at8 (ofB l) 1 = at8 l 0 % 16 ∧ (ofB l).drop 1 = [b8 (at8 l 0 % 16)] ++ ofB (l.drop 1) ∧ (ofB l).drop 2 = ofB (l.drop 1) := by
  rcases l with _ | ⟨c, l⟩
  · simp at h
  · have e : at8 (c :: l) 0 = (c.toNat : Int) := rfl
    rw [e, b8_mod]
    refine ⟨?_, ?_, rfl, rfl⟩
    · show (((c / 16 : UInt8).toNat : Nat) : Int) = _
      rw [UInt8.toNat_div]; simp
    · show (((c % 16 : UInt8).toNat : Nat) : Int) = _
      rw [UInt8.toNat_mod]; simp

/-- What unpacking comes to: the halves (to be read alone), the kind, the error. -/
def Unpacked (w : World) (l : List UInt8) (e : Ending) (w' : World) : Prop :=
  ∃ A' n' c', e = .returned (.tuple #[.slice A' n' c', .bool (unpackB l), .int .i64 (unpackE l)]) ∧ Rd w' w'.heap.size A' n' (unpackL l) ∧ Below w.heap.size w w'

set_option maxHeartbeats 1600000 in
theorem refUnpack_any (A : Option Addr) (n c : Nat) (l : List UInt8) (w : World) (hr : Rd w w.heap.size A n l) (hn : n ≤ 10000000000) :
    Calls Try.prog 19 #[.slice A n c] w (Unpacked w l) := by
  have hln := Lib.hid hr.len
  rcases Nat.eq_zero_or_pos n with h0 | h0
  · subst h0
    have hd := Lib.hid (unpack_nil hln.out)
    go_enter Try.func19, Try.ntmps19
    go_wp2
    go_ret3
    exact ⟨none, 0, 0, ret_sbe rfl hd.out.2.1.symm hd.out.1.symm, by rw [hd.out.2.2]; exact Rd.nil_, Below.refl _ _⟩
  · obtain ⟨e0, e1, e2, e3⟩ := ofB_head l (by rw [hln.out]; exact h0)
    have x0 := at8_lo l 0
    have x1 := at8_hi l 0
    have hne : l.length ≠ 0 := by rw [hln.out]; omega
    have hcall : Hid (∀ W : World, Rd W W.heap.size A n l → Calls Try.prog 46 #[.slice A n c] W fun e w' => e = .returned (.slice (some ⟨W.heap.size, 0, none⟩) (2 * n) (2 * n)) ∧ Own w' W.heap.size (some ⟨W.heap.size, 0, none⟩) (2 * n) (2 * n) (ofB l) ∧
        w'.cell? ⟨W.heap.size, 0, none⟩ = some (.int .u8 (at8 l 0 / 16)) ∧ w'.cell? ⟨W.heap.size, 1, none⟩ = some (.int .u8 (at8 l 0 % 16)) ∧ Below W.heap.size W w') :=
      Lib.hid (fun W g => (refOf_any A n c l W g (by omega)).mono fun e w' ⟨he, ho, hb⟩ => ⟨he, ho, by rw [← e0]; exact ho.cell (by omega), by rw [← e1]; exact ho.cell (by omega), hb⟩)
    have E2 := Lib.hid e2
    have E3 := Lib.hid e3
    clear e0 e1 e2 e3
    by_cases hx : at8 l 0 < 64
    · have hpB : decide (2 ≤ at8 l 0 / 16) = decide (at8 l 0 / 32 % 2 = 1) := by rw [decide_eq_decide]; omega
      have HpB := Lib.hid hpB
      clear hpB
      by_cases hodd : at8 l 0 / 16 % 2 = 1
      · have hok : unpackOk l = true := by simp [unpackOk, hx, hodd]
        have hd := Lib.hid (unpack_ok hne hok)
        clear hne hok
        go_enter Try.func19, Try.ntmps19
        go_wp2_with (go_at_call 46; refine (hcall.out _ hr).mono ?_; rintro e w1 ⟨rfl, hown1, hk0, hk1, hb1⟩)
        go_ret3
        refine ⟨_, _, _, ret_sbe rfl (by rw [hd.out.2.1]; exact HpB.out) hd.out.1.symm, ?_, hb1⟩
        rw [hd.out.2.2, if_pos hodd, ← E2.out]
        exact hown1.rd.shift (by omega)
      · have hm : at8 l 0 / 16 % 2 = 0 := by omega
        have Ho := Lib.hid hodd
        by_cases hz : at8 l 0 % 16 = 0
        · have hok : unpackOk l = true := by simp [unpackOk, hx, hz]
          have hd := Lib.hid (unpack_ok hne hok)
          have hz' : (at8 l 0 % 16 != 0) = false := by simp [hz]
          clear hne hok hz hodd
          go_enter Try.func19, Try.ntmps19
          go_wp2_with (go_at_call 46; refine (hcall.out _ hr).mono ?_; rintro e w1 ⟨rfl, hown1, hk0, hk1, hb1⟩)
          all_goals go_ret3
          all_goals refine ⟨_, _, _, ret_sbe rfl (by rw [hd.out.2.1]; exact HpB.out) hd.out.1.symm, ?_, hb1⟩
          all_goals rw [hd.out.2.2, if_neg Ho.out, List.nil_append, ← E3.out]
          all_goals first
          | exact hown1.rd.shift (k := 2) (by omega)
          | (have g : Rd w1 w1.heap.size (some ⟨w.heap.size, 0, none⟩) (2 * n - 2) ((ofB l).drop 2) := hown1.rd.gone (by omega)
             rw [show 2 * n - 2 = 0 by omega] at g
             exact g)
        · have hok : unpackOk l = false := by simp [unpackOk, hodd, hz]
          have hd := Lib.hid (unpack_no hne hok)
          have hz' : (at8 l 0 % 16 != 0) = true := by simp [hz]
          clear hne hok hodd hz
          go_enter Try.func19, Try.ntmps19
          go_wp2_with (go_at_call 46; refine (hcall.out _ hr).mono ?_; rintro e w1 ⟨rfl, hown1, hk0, hk1, hb1⟩)
          go_ret3
          exact ⟨none, 0, 0, ret_sbe rfl hd.out.2.1.symm hd.out.1.symm, by rw [hd.out.2.2]; exact Rd.nil_, hb1⟩
    · have hok : unpackOk l = false := by simp [unpackOk, hx]
      have hd := Lib.hid (unpack_no hne hok)
      clear hne hok
      go_enter Try.func19, Try.ntmps19
      go_wp2_with (go_at_call 46; refine (hcall.out _ hr).mono ?_; rintro e w1 ⟨rfl, hown1, hk0, hk1, hb1⟩)
      go_ret3
      exact ⟨none, 0, 0, ret_sbe rfl hd.out.2.1.symm hd.out.1.symm, by rw [hd.out.2.2]; exact Rd.nil_, hb1⟩
end Go.Proofs.Ytlmnkepgljbdiaa
