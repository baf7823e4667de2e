/- The walk of the law VintSplit. -/
import Derived.Test.YtlmnkepgljbdiaaVintK
import Derived.Test.YtlmnkepgljbdiaaVintN
namespace Go.Proofs.Ytlmnkepgljbdiaa
open Go.RowKit

/-- The bulk that the laws reckon: so many bytes, and one for each list. -/
def tot (ll : List (List UInt8)) : Nat := (ll.map fun x => x.length + 1).sum
theorem tot_snoc (ll : List (List UInt8)) (k : Nat) (h : k < ll.length) : tot (ll.take (k + 1)) = tot (ll.take k) + ((ll.getD k []).length + 1) := by
  unfold tot
  rw [List.take_succ_eq_append_getElem h, List.map_append, List.sum_append, List.getD_eq_getElem?_getD, List.getElem?_eq_getElem h]
  simp
theorem tot_le (ll : List (List UInt8)) (k : Nat) : tot (ll.take k) ≤ tot ll := by
  conv => rhs; rw [← List.take_append_drop k ll]
  unfold tot
  rw [List.map_append, List.sum_append]; omega
theorem tot_len : ∀ (ll : List (List UInt8)), ll.length ≤ tot ll
  | [] => Nat.zero_le _
  | x :: ll => by have := tot_len ll; unfold tot at *; simp; omega
theorem tot_mem : ∀ (ll : List (List UInt8)), ∀ x ∈ ll, x.length ≤ tot ll
  | [], x, h => by simp at h
  | y :: ll, x, h => by
    unfold tot
    rw [List.map_cons, List.sum_cons]
    rcases List.mem_cons.1 h with rfl | h
    · omega
    · have := tot_mem ll x h; unfold tot at this; omega
theorem tot_flat : ∀ (ll : List (List UInt8)), (∀ x ∈ ll, x.length < 18446744073709551616) → (ll.flatMap putB).length ≤ 10 * tot ll
  | [], _ => Nat.zero_le _
  | x :: ll, h => by
    have h1 := tot_flat ll (fun y hy => h y (by simp [hy]))
    have h2 := putN_len10 (h x (by simp))
    unfold tot at *
    rw [List.flatMap_cons, List.length_append, putB_len, List.map_cons, List.sum_cons]
    omega
theorem join_cnt (ll : List (List UInt8)) : ll.length ≤ (joinL ll).length := by
  have h : ∀ ll : List (List UInt8), ll.length ≤ (ll.flatMap putB).length := by
    intro ll
    induction ll with
    | nil => exact Nat.zero_le _
    | cons x ll ih =>
      have := putN_pos x.length
      rw [List.flatMap_cons, List.length_append, putB_len, List.length_cons]; omega
  have := h ll
  unfold joinL
  rw [List.length_append]; omega
theorem tot_join (ll : List (List UInt8)) (h : tot ll ≤ 4000) : (joinL ll).length ≤ 40010 ∧ 1 ≤ (joinL ll).length ∧ ll.length ≤ 4000 ∧ short ll := by
  have h1 := tot_len ll
  have h2 := tot_flat ll (fun x hx => by have := tot_mem ll x hx; omega)
  have h3 := putN_len10 (n := ll.length) (by omega)
  have h4 := putN_pos ll.length
  refine ⟨?_, ?_, by omega, fun x hx => by have := tot_mem ll x hx; omega⟩
  · unfold joinL; rw [List.length_append]; omega
  · unfold joinL; rw [List.length_append]; omega

set_option maxRecDepth 100000 in
set_option maxHeartbeats 4000000 in
theorem vintSplit_walk (w : World) {A1 A3 : Option Addr} {n1 c1 n3 c3 : Nat} {ll : List (List UInt8)} {l3 : List UInt8} (h1 : RdS w w.heap.size A1 n1 ll) (_k1 : n1 ≤ c1) (b1 : (ll.map fun x => x.length + 1).sum ≤ 1048576)
    (x : Int) (hx : 0 ≤ x ∧ x ≤ 255) (h3 : Rd w w.heap.size A3 n3 l3) (k3 : n3 ≤ c3) :
    Calls Try.prog 9 #[.slice A1 n1 c1, .int .u8 x, .slice A3 n3 c3] w (RetTrue w) := by
  have hln := Lib.hid h1.len
  have htot : tot ll ≤ 1048576 := b1
  have htl := tot_len ll
  rw [hln.out] at htl
  go_enter Try.func9, Try.ntmps9
  go_wp2_with fail
  go_loop [7, 8] (fun v i => ∃ k : Nat, k ≤ n1 ∧ i = .int .i64 k ∧ v = .int .i64 (tot (ll.take k) : Nat)) (fun _ i => n1 - (intOf i).toNat)
  case atStart => exact ⟨0, Nat.zero_le _, rfl, rfl⟩
  case round =>
    obtain ⟨k, hk, rfl, rfl⟩ := hrel
    by_cases hlt : k < n1
    · obtain ⟨bb, off, A2, m2, c2, rfl, _, hc, _, r2⟩ := h1.at_ hlt
      have hts := Lib.hid (tot_snoc ll k (by rw [hln.out]; exact hlt))
      have e2 := Lib.hid r2.len
      have hle := Lib.hid (tot_le ll (k + 1))
      have hT : Hid (tot (ll.take (k + 1)) = tot (ll.take k) + (m2 + 1)) := Lib.hid (by rw [hts.out, e2.out])
      obtain ⟨T, hTk⟩ : ∃ T, tot (ll.take k) = T := ⟨_, rfl⟩
      rw [hTk] at hT ⊢
      have hb : T + (m2 + 1) ≤ 1048576 := by have := hT.out; have := hle.out; omega
      have HTk := Lib.hid hTk
      clear hTk
      go_wp2_with fail
      go_round
      case rel => exact ⟨k + 1, by omega, by go_num, by rw [hT.out]; go_num⟩
      case measure => simp [intOf]; omega
    · have hke : ll.take k = ll := List.take_of_length_le (by rw [hln.out]; omega)
      rw [hke]
      clear hke
      obtain ⟨T, hT⟩ : ∃ T, tot ll = T := ⟨_, rfl⟩
      rw [hT] at htot htl ⊢
      by_cases hT4 : 4000 < T
      · clear hT
        go_wp2_with fail
        refine (known01_any _).mono ?_
        rintro e w1 ⟨rfl, hb1⟩
        go_wp2_with fail
        go_ret
        exact ⟨rfl, hb1⟩
      · by_cases hn3 : 4000 < n3
        · clear hT
          go_wp2_with fail
          refine (known01_any _).mono ?_
          rintro e w1 ⟨rfl, hb1⟩
          go_wp2_with fail
          go_ret
          exact ⟨rfl, hb1⟩
        · obtain ⟨j1, j2, j3, j4⟩ := tot_join ll (by rw [hT]; omega)
          have J := Lib.hid (split_more ll (by omega) j4 (b8 x))
          have J2 := Lib.hid (split_less ll (by omega) j4)
          have J1 := Lib.hid j1
          have hn1 : n1 ≤ 4000 := by rw [← hln.out]; exact j3
          have hl3 := Lib.hid h3.len
          have hx0 := hx.1
          have hx1 := hx.2
          clear hT htl htot b1 j4
          go_wp2_with fail
          refine (join_any _ _ _ _ _ h1 (by omega) (by have := J1.out; omega)).mono ?_
          rintro e w1 ⟨A4, n4, c4, rfl, o4, b4⟩
          have e4 := Lib.hid o4.len
          rw [e4.out] at j1 j2
          have hne : ((n4 : Int) == 0) = false := by simp; omega
          go_wp2_with fail
          refine (copy_any _ _ _ _ _ o4.rd (by omega)).mono ?_
          rintro e w2 ⟨A5, c5, rfl, o5, b5⟩
          have r4 := o4.rd
          have k4 := o4.cap_
          clear o4 hne
          go_wp2_with (at_builtin; refine wpList_app rfl _ _ rfl rfl (o5.alloc _) rfl (Rd.lit1 _ _ ⟨hx0, hx1⟩) (by omega) (by have := b5.size; simp; omega) ?_; intro A6 c6 w6 o6 g6)
          have b6 := below_own (b5.trans ((Below.refl _ _).alloc b5.size _)) (o5.alloc _) g6
          have B6 := b4.trans (b6.mono b4.size)
          have r6 := o6.rd
          have k6 := o6.cap_
          have r4' := r4.up b6
          clear o5 o6 g6
          refine (split_any _ _ _ _ _ r6 (by omega) k6).mono ?_
          rintro e w7 ⟨A7, n7, c7, rfl, o7, b7⟩
          rw [J.out]
          have B7 := B6.trans (b7.mono B6.size)
          clear o7 r6
          have f1 : IntKind.i64.wrap ((n4 : Int) - 1) = (n4 : Int) - 1 := IntWalk.i64_in _ (by omega)
          have f2 : ((n4 : Int) - 1).toNat = n4 - 1 := by omega
          have r8 : Rd w7 w7.heap.size A4 (n4 - 1) (joinL ll).dropLast := by
            have := (r4'.up b7).take (k := n4 - 1) (by omega)
            rw [← e4.out] at this ⊢
            rw [List.dropLast_eq_take]; exact this
          clear r4 r4'
          go_wp2_with fail
          refine (split_any _ _ _ _ _ r8 (by omega) (by omega)).mono ?_
          rintro e w8 ⟨A8, n8, c8, rfl, o8, b8⟩
          rw [J2.out]
          have B8 := B7.trans (b8.mono B7.size)
          clear o8 r8
          go_wp2_with fail
          refine (split_any _ _ _ _ _ (h3.up B8) (by omega) k3).mono ?_
          rintro e w9 ⟨A9, n9, c9, rfl, o9, b9⟩
          have B9 := B8.trans (b9.mono B8.size)
          by_cases hs : spE l3 = 0
          · have S := Lib.hid (join_split l3 hs).1
            have hcnt := join_cnt (spL l3)
            rw [S.out, o9.len, hl3.out] at hcnt
            rw [hs]
            clear hs
            go_wp2_with fail
            refine (join_any _ _ _ _ _ o9.rd (by omega) (by rw [S.out, hl3.out]; omega)).mono ?_
            rintro e w10 ⟨A10, n10, c10, rfl, o10, b10⟩
            rw [S.out] at o10
            have B10 := B9.trans (b10.mono B9.size)
            clear o9
            go_wp2_with fail
            refine (same_yes _ _ _ _ _ _ _ _ _ _ _ o10.rd (h3.up B10) rfl).mono ?_
            rintro e w11 ⟨rfl, rfl⟩
            clear o10
            go_wp2_with fail
            refine (known01_any _).mono ?_
            rintro e w11 ⟨rfl, b11⟩
            go_wp2_with fail
            go_ret
            exact ⟨rfl, B10.trans (b11.mono B10.size)⟩
          · have e9 : n9 = 0 := by
              have := o9.len
              unfold spL at this
              rw [if_neg hs] at this
              exact this.symm
            subst e9
            have hz : (spE l3 == 0) = false := by simp [hs]
            clear hs o9
            go_wp2_with fail
            refine (known01_any _).mono ?_
            rintro e w11 ⟨rfl, b11⟩
            go_wp2_with fail
            go_ret
            exact ⟨rfl, B9.trans (b11.mono B9.size)⟩
end Go.Proofs.Ytlmnkepgljbdiaa
