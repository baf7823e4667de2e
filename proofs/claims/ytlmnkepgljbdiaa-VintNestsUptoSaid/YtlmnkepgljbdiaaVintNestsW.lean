/- The walk of the law VintNests. -/
import Derived.Test.YtlmnkepgljbdiaaVintSplitW
namespace Go.Proofs.Ytlmnkepgljbdiaa
open Go.RowKit

/-- A row of two lists. -/
theorem two_rd (w : World) (H : Nat) (hH : w.heap.size = H) {A A' : Option Addr} {n c n' c' : Nat} {l l' : List UInt8} (h : Rd w H A n l) (hc : n ≤ c) (h' : Rd w H A' n' l') (hc' : n' ≤ c') :
    RdS (w.alloc (.cells #[.slice A n c, .slice A' n' c'] 22)) (w.alloc (.cells #[.slice A n c, .slice A' n' c'] 22)).heap.size (some ⟨H, 0, none⟩) 2 [l, l'] := by
  subst hH
  refine ⟨[.slice A n c, .slice A' n' c'], ⟨rfl, fun _ => ⟨_, 0, rfl, by simp, fun j u hu => ?_⟩⟩, rfl, fun k v l' h1 h2 => ?_⟩
  · rw [Nat.zero_add, World.cell?_alloc_at _ _ _ _ rfl]
    simpa using hu
  · rcases k with _ | _ | k
    · simp at h1 h2; subst h1; subst h2; exact ⟨A, n, c, rfl, hc, h.upA _⟩
    · simp at h1 h2; subst h1; subst h2; exact ⟨A', n', c', rfl, hc', h'.upA _⟩
    · simp at h1
theorem take_all {α : Type} (l : List α) (k : Nat) (h : l.length ≤ k) : l.take k = l := List.take_of_length_le h
/-- Where the k-th of joined lists begins. -/
def spot (a : List (List UInt8)) (k : Nat) : Nat := (putN a.length).length + ((a.take k).flatMap putB).length
theorem spot_gb (a : List (List UInt8)) (k : Nat) (h : k < a.length) (hs : short a) : gbE (joinL a) (spot a k : Int) = 0 ∧ gbL (joinL a) (spot a k : Int) = a.getD k [] ∧ gbTo (joinL a) (spot a k : Int) = (spot a (k + 1) : Int) := by
  have e : joinL a = (putN a.length ++ (a.take k).flatMap putB) ++ (putB (a.getD k []) ++ (a.drop (k + 1)).flatMap putB) := by
    unfold joinL
    conv => lhs; rw [← List.take_append_drop (k + 1) a, List.flatMap_append, flat_snoc a k h]
    simp [List.append_assoc]
  have hl : (putN a.length ++ (a.take k).flatMap putB).length = spot a k := by rw [List.length_append]; rfl
  have hm : (a.getD k []).length ≤ 1048576 := hs _ (by rw [List.getD_eq_getElem?_getD, List.getElem?_eq_getElem h]; exact List.getElem_mem h)
  have g := gb_put (putN a.length ++ (a.take k).flatMap putB) (a.getD k []) ((a.drop (k + 1)).flatMap putB) hm
  rw [← e, hl] at g
  refine ⟨g.1, g.2.1, ?_⟩
  rw [g.2.2]
  congr 1
  unfold spot
  rw [flat_snoc a k h, List.length_append]; omega
theorem spot_end (a : List (List UInt8)) : spot a a.length = (joinL a).length := by unfold spot joinL; rw [List.take_length, List.length_append]

set_option maxRecDepth 100000 in
set_option maxHeartbeats 4000000 in
theorem vintNests_walk (w : World) {A1 A2 : Option Addr} {n1 c1 n2 c2 : Nat} {a b : List (List UInt8)} (h1 : RdS w w.heap.size A1 n1 a) (_k1 : n1 ≤ c1) (b1 : (a.map fun x => x.length + 1).sum ≤ 1048576)
    (h2 : RdS w w.heap.size A2 n2 b) (_k2 : n2 ≤ c2) (b2 : (b.map fun x => x.length + 1).sum ≤ 1048576) :
    Calls Try.prog 11 #[.slice A1 n1 c1, .slice A2 n2 c2] w (RetTrue w) := by
  have hl1 := Lib.hid h1.len
  have hl2 := Lib.hid h2.len
  have ht1 : tot a ≤ 1048576 := b1
  have ht2 : tot b ≤ 1048576 := b2
  have hn1 := tot_len a
  have hn2 := tot_len b
  rw [hl1.out] at hn1
  rw [hl2.out] at hn2
  go_enter Try.func11, Try.ntmps11
  go_wp2_with fail
  go_loop [5, 6] (fun v i => ∃ k : Nat, k ≤ n1 + n2 ∧ i = .int .i64 k ∧ v = .int .i64 (tot (a.take k) + tot (b.take (k - n1)) : Nat)) (fun _ i => n1 + n2 - (intOf i).toNat)
  case atStart => exact ⟨0, Nat.zero_le _, rfl, by simp [tot]⟩
  case round =>
    obtain ⟨k, hk, rfl, rfl⟩ := hrel
    have hba := Lib.hid (tot_le a k)
    have hbb := Lib.hid (tot_le b (k - n1))
    by_cases hlt : k < n1
    · obtain ⟨bb, off, A3, m3, c3, rfl, _, hc, _, r3⟩ := h1.at_ hlt
      have hts := Lib.hid (tot_snoc a k (by rw [hl1.out]; exact hlt))
      have e3 := Lib.hid r3.len
      have hle := Lib.hid (tot_le a (k + 1))
      have hz : k - n1 = 0 := by omega
      have hz2 : k + 1 - n1 = 0 := by omega
      have Hz2 := Lib.hid hz2
      rw [hz, show tot (b.take 0) = 0 from by simp [tot], Nat.add_zero]
      obtain ⟨T, hTk⟩ : ∃ T, tot (a.take k) = T := ⟨_, rfl⟩
      have hT : Hid (tot (a.take (k + 1)) = T + (m3 + 1)) := Lib.hid (by rw [hts.out, e3.out, hTk])
      rw [hTk]
      have hb : T + (m3 + 1) ≤ 1048576 := by have := hT.out; have := hle.out; omega
      have hkk : (k : Int) < (n1 : Int) + n2 := by omega
      clear hTk hz hz2 hba hbb
      go_wp2_with fail
      go_round
      case rel => exact ⟨k + 1, by omega, by go_num, by rw [Hz2.out, hT.out, show tot (b.take 0) = 0 from by simp [tot]]; go_num⟩
      case measure => simp [intOf]; omega
    · obtain ⟨j, rfl⟩ : ∃ j, k = n1 + j := ⟨k - n1, by omega⟩
      have hta : tot (a.take (n1 + j)) = tot a := by rw [take_all a _ (by rw [hl1.out]; omega)]
      have hta2 : Hid (tot (a.take (n1 + j + 1)) = tot a) := Lib.hid (by rw [take_all a _ (by rw [hl1.out]; omega)])
      rw [show n1 + j - n1 = j by omega] at hbb ⊢
      rw [hta]
      by_cases hlt2 : j < n2
      · obtain ⟨bb, off, A3, m3, c3, rfl, _, hc, _, r3⟩ := h2.at_ hlt2
        have hts := Lib.hid (tot_snoc b j (by rw [hl2.out]; exact hlt2))
        have e3 := Lib.hid r3.len
        have hle := Lib.hid (tot_le b (j + 1))
        obtain ⟨T, hTk⟩ : ∃ T, tot (b.take j) = T := ⟨_, rfl⟩
        obtain ⟨S, hS⟩ : ∃ S, tot a = S := ⟨_, rfl⟩
        have hT : Hid (tot (b.take (j + 1)) = T + (m3 + 1)) := Lib.hid (by rw [hts.out, e3.out, hTk])
        rw [hTk, hS]
        rw [hS] at hta2 ht1
        have hb : T + (m3 + 1) ≤ 1048576 := by have := hT.out; have := hle.out; omega
        have hkk : (n1 : Int) + (j : Int) < (n1 : Int) + n2 := by omega
        have hj : Hid (n1 + j + 1 - n1 = j + 1) := Lib.hid (by omega)
        clear hTk hba hbb hta hlt
        go_wp2_with fail
        go_round
        case rel => exact ⟨n1 + j + 1, by omega, by go_num, by rw [hj.out, hT.out, hta2.out]; go_num⟩
        case measure => simp [intOf]; omega
      · obtain rfl : j = n2 := by omega
        have htb : tot (b.take j) = tot b := by rw [take_all b _ (by rw [hl2.out]; omega)]
        rw [htb]
        clear htb hta hta2 hba hbb hlt hlt2
        obtain ⟨T, hT⟩ : ∃ T, tot a + tot b = T := ⟨_, rfl⟩
        rw [hT]
        by_cases hT4 : 4000 < T
        · clear hT
          go_wp2_with fail
          refine (known01_any _).mono ?_
          rintro e w1 ⟨rfl, hb1⟩
          go_wp2_with fail
          go_ret
          exact ⟨rfl, hb1⟩
        · obtain ⟨ja1, ja2, ja3, ja4⟩ := tot_join a (by omega)
          obtain ⟨jb1, jb2, jb3, jb4⟩ := tot_join b (by omega)
          have hxy : short [joinL a, joinL b] := by
            intro x hx
            rcases List.mem_cons.1 hx with rfl | hx
            · omega
            · rcases List.mem_cons.1 hx with rfl | hx
              · omega
              · cases hx
          have hxyl : Hid ((joinL [joinL a, joinL b]).length ≤ 1000000) := Lib.hid (by
            have e1 := putN_len10 (n := 2) (by omega)
            have e2 := putN_len10 (n := (joinL a).length) (by omega)
            have e3 := putN_len10 (n := (joinL b).length) (by omega)
            have : joinL [joinL a, joinL b] = putN 2 ++ (putB (joinL a) ++ putB (joinL b)) := by unfold joinL; simp
            rw [this, List.length_append, List.length_append, putB_len, putB_len]; omega)
          have SP := Lib.hid (split_join [joinL a, joinL b] (by simp) hxy)
          have SA := Lib.hid (split_join a (by omega) ja4)
          have SB := Lib.hid (split_join b (by omega) jb4)
          have SPOT := Lib.hid (fun k (h : k < a.length) => spot_gb a k h ja4)
          have JA := Lib.hid ja1
          have JB := Lib.hid jb1
          rw [hl1.out] at ja3
          rw [hl2.out] at jb3
          clear hT ht1 ht2 b1 b2 hn1 hn2 ja4 jb4 hxy ja1 jb1
          go_wp2_with fail
          refine (join_any _ _ _ _ _ h1 (by omega) (by have := JA.out; omega)).mono ?_
          rintro e w1 ⟨A4, n4, c4, rfl, o4, b4⟩
          have e4 := Lib.hid o4.len
          rw [e4.out] at ja2
          go_wp2_with fail
          refine (join_any _ _ _ _ _ (h2.up b4) (by omega) (by have := JB.out; omega)).mono ?_
          rintro e w2 ⟨A5, n5, c5, rfl, o5, b5⟩
          have e5 := Lib.hid o5.len
          rw [e5.out] at jb2
          have B5 := b4.trans (b5.mono b4.size)
          have r4 := o4.rd.up b5
          have r5 := o5.rd
          have k4 := o4.cap_
          have k5 := o5.cap_
          clear o4 o5
          go_wp2_with fail
          refine (join_any _ _ _ _ _ (two_rd w2 _ rfl r4 k4 r5 k5) (by omega) (by have := hxyl.out; omega)).mono ?_
          rintro e w3 ⟨A6, n6, c6, rfl, o6, b6⟩
          have b6' := below_new _ b6
          have B6 := B5.trans (b6'.mono B5.size)
          have e6 := Lib.hid o6.len
          have hn6 : n6 ≤ 1000000 := by have := hxyl.out; rw [e6.out] at this; exact this
          go_wp2_with fail
          refine (split_any _ _ _ _ _ o6.rd (by omega) o6.cap_).mono ?_
          rintro e w4 ⟨A7, n7, c7, rfl, o7, b7⟩
          have B7 := B6.trans (b7.mono B6.size)
          rw [SP.out.1]
          rw [SP.out.2] at o7
          obtain rfl : n7 = 2 := o7.len.symm
          have s7 := o7.rd
          have r4' := (r4.up b6').up b7
          clear r4 r5 o6 o7
          obtain ⟨b8, off8, X8, m8, c8, rfl, hB8, hc8, k8, r8⟩ := s7.at_ (k := 0) (by omega)
          obtain ⟨b9, off9, X9, m9, c9, eA, _, hc9, k9, r9⟩ := s7.at_ (k := 1) (by omega)
          injection eA with eA
          injection eA with eb eo
          subst eb; subst eo
          have r8 : Rd w4 w4.heap.size X8 m8 (joinL a) := r8
          have r9 : Rd w4 w4.heap.size X9 m9 (joinL b) := r9
          have hm8 : m8 ≤ 40010 := by have := JA.out; rw [r8.len] at this; exact this
          have hm9 : m9 ≤ 40010 := by have := JB.out; rw [r9.len] at this; exact this
          have H9 := Lib.hid hc9
          have hc8 : w4.cell? ⟨b8, off8, none⟩ = some (.slice X8 m8 c8) := hc8
          clear s7 hc9
          go_wp2_with fail
          refine (split_any _ _ _ _ _ r8 (by omega) k8).mono ?_
          rintro e w5 ⟨Ap, np, cp, rfl, op, bp⟩
          have hc9 : w5.cell? ⟨b8, off8 + 1, none⟩ = some (.slice X9 m9 c9) := by rw [bp.cell hB8]; exact H9.out
          have Bp := B7.trans (bp.mono B7.size)
          rw [SA.out.1]
          rw [SA.out.2] at op
          obtain rfl : np = n1 := by rw [← op.len, hl1.out]
          have r4 := r4'.up bp
          have r9' := r9.up bp
          clear r4' r9 hc8 r8
          go_wp2_with fail
          refine (split_any _ _ _ _ _ r9' (by omega) k9).mono ?_
          rintro e w6 ⟨Aq, nq, cq, rfl, oq, bq⟩
          have Bq := Bp.trans (bq.mono Bp.size)
          rw [SB.out.1]
          rw [SB.out.2] at oq
          obtain rfl : nq = j := by rw [← oq.len, hl2.out]
          have r4' := r4.up bq
          have sp := op.rd.up bq
          have sq := oq.rd
          clear r4 r9' op oq hc9
          have hw : IntKind.u64.wrap (np : Int) = np := IntWalk.u64_in _ (by omega)
          go_wp2_with fail
          refine (put_any _ _ (putN_len10 (by omega))).mono ?_
          rintro e w7 ⟨A10, c10, rfl, o10, b10⟩
          have B10 := Bq.trans (b10.mono Bq.size)
          have r4 := r4'.up b10
          have sp' := sp.up b10
          have sq' := sq.up b10
          clear r4' sp sq o10 hw
          have s1 := h1.up B10
          have s2 := h2.up B10
          have hn4 : n4 ≤ 40010 := by have := JA.out; rw [e4.out] at this; exact this
          have SE := Lib.hid (show spot a np = n4 by rw [← hl1.out, spot_end, e4.out])
          have S0 := Lib.hid (show (putN np).length = spot a 0 by unfold spot; simp [hl1.out])
          rw [S0.out]
          clear SP SA SB hl2 b4 b5 b6 b7 bp bq b10 JB b6' B5 B6 B7 Bp Bq
          go_wp2_with fail
          go_loopw [15, 16] (fun v i wr => ∃ k : Nat, k ≤ np ∧ i = .int .i64 k ∧ v = .int .i64 (spot a k : Nat) ∧ Below w7.heap.size w7 wr) (fun _ i _ => np - (intOf i).toNat)
          case atStart => exact ⟨0, Nat.zero_le _, rfl, rfl, Below.refl _ _⟩
          case round =>
            obtain ⟨k, hk, rfl, rfl, hb⟩ := hrel
            by_cases hlt : k < np
            · obtain ⟨b3, o3, A3, m3, c3, rfl, hB3, hc3, _, r3⟩ := (s1.up hb).at_ hlt
              have G := Lib.hid (SPOT.out k (by rw [hl1.out]; exact hlt))
              go_wp2_with fail
              refine (getBytes_any _ _ _ _ _ _ (r4.up hb) (by omega) k4).mono ?_
              rintro e w8 ⟨A11, n11, c11, rfl, o11, b11⟩
              rw [G.out.1, G.out.2.2]
              rw [G.out.2.1] at o11
              have hc3' : w8.cell? ⟨b3, o3 + k, none⟩ = some (.slice A3 m3 c3) := by rw [b11.cell hB3]; exact hc3
              have hb8 := hb.trans (b11.mono hb.size)
              have r3' := r3.up b11
              have r11 := o11.rd
              clear o11 hc3 r3
              go_wp2_with fail
              refine (same_yes _ _ _ _ _ _ _ _ _ _ _ r11 r3' rfl).mono ?_
              rintro e w9 ⟨rfl, rfl⟩
              go_wp2_with fail
              go_roundw
              case rel => exact ⟨k + 1, by omega, by go_num, rfl, hb8⟩
              case measure => simp [intOf]; omega
            · obtain rfl : k = np := by omega
              rw [SE.out]
              go_wp2_with fail
              refine (sameLists_yes _ _ _ _ _ _ _ _ _ _ _ (sp'.up hb) (s1.up hb) (by omega) rfl).mono ?_
              rintro e w8 ⟨rfl, d, rfl⟩
              go_wp2_with fail
              refine (sameLists_yes _ _ _ _ _ _ _ _ _ _ _ ((sq'.up hb).drewN d) ((s2.up hb).drewN d) (by omega) rfl).mono ?_
              rintro e w8 ⟨rfl, d2, rfl⟩
              go_wp2_with fail
              refine (known01_any _).mono ?_
              rintro e w9 ⟨rfl, b12⟩
              go_wp2_with fail
              go_ret
              have := below_drewN (B10.trans (hb.mono B10.size)) (d + d2)
              exact ⟨rfl, this.trans (b12.mono this.size)⟩
end Go.Proofs.Ytlmnkepgljbdiaa
