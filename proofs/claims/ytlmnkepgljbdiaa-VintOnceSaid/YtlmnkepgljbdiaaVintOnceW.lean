/- The walk of the law VintOnce. -/
import Derived.Test.YtlmnkepgljbdiaaVintK
import Derived.Test.YtlmnkepgljbdiaaVintO
import Derived.Test.YtlmnkepgljbdiaaOpB
namespace Go.Proofs.Ytlmnkepgljbdiaa
open Go.RowKit

theorem isGet : isFn Try.prog 28 = true := by kernel_rfl
theorem isGB : isFn Try.prog 29 = true := by kernel_rfl
theorem isPut : isFn Try.prog 30 = true := by kernel_rfl
theorem isPB : isFn Try.prog 31 = true := by kernel_rfl
theorem isSame : isFn Try.prog 20 = true := by kernel_rfl
theorem isCopy : isFn Try.prog 26 = true := by kernel_rfl
theorem isKnown01 : isFn Try.prog 27 = true := by kernel_rfl
set_option maxRecDepth 100000 in
theorem vintOnce_in (w : World) {A1 A2 : Option Addr} {n1 c1 n2 c2 a : Nat} {l1 l2 : List UInt8} (h1 : Rd w w.heap.size A1 n1 l1) (hc1 : n1 ≤ c1) (h2 : Rd w w.heap.size A2 n2 l2) (hn1 : n1 ≤ 4000) (hn2 : n2 ≤ 4000) (ha : a ≤ n1) :
    Calls Try.prog 7 #[.slice A1 n1 c1, .int .i64 a, .slice A2 n2 c2] w (RetTrue w) := by
  refine calls_ev (args := [.slice A1 n1 c1, .int .i64 a, .slice A2 n2 c2]) mixed Try.func7 rfl (by kernel_rfl) ?_
  refine p_len slb rfl ?_
  refine p_gt rfl rfl (fun _ => by omega) (fun _ => ?_)
  refine p_len slb rfl ?_
  refine p_gt rfl rfl (fun _ => by omega) (fun _ => ?_)
  refine p_lt rfl rfl (fun _ => by omega) (fun _ => ?_)
  refine p_len slb rfl ?_
  refine p_gt rfl rfl (fun _ => by omega) (fun _ => ?_)
  refine cc isGet (get_any _ _ _ _ _ _ _ h1 (by omega) hc1) ?_
  rintro e w' ⟨rfl, rfl⟩
  refine ⟨_, rfl, ?_⟩
  refine cc isGB (getBytes_any _ _ _ _ _ _ h1 (by omega) hc1) ?_
  rintro e w1 ⟨A3, n3, c3, rfl, o1, b1⟩
  refine ⟨_, rfl, ?_⟩
  have hl1 := h1.len
  refine p_ne rfl rfl (fun h => ?_) (fun h => ?_)
  rotate_left
  · have F := g_err h
    have G := gb_err1 h
    refine p_eq rfl rfl (fun _ => ?_) (fun e => absurd F.1 e)
    refine p_eq rfl rfl (fun _ => ?_) (fun e => absurd F.2 e)
    refine p_eq rfl rfl (fun _ => ?_) (fun e => absurd G.1 e)
    refine cc isKnown01 (known01_any _) ?_
    rintro e w8 ⟨rfl, b8⟩
    refine ⟨_, rfl, ?_⟩
    exact ⟨rfl, b1.trans (b8.mono b1.size)⟩
  · obtain ⟨N, t, hN, hN1, hT, ht, ht1, hle, htk, hcat⟩ := g_split h
    rw [hl1] at hle
    have hlen := putN_len10 hN1
    have M := g_more (m := l2) (by rw [hl1]; omega) hN1 ht hcat
    have L := g_less (by rw [hl1]; omega) hN1 ht ht1 hcat
    have P1 := put_any N w1.drew hlen
    rw [← hN] at P1
    have cut1 : ∀ (W : World), Below w.heap.size w W → Rd W W.heap.size (slA A1 c1 a 1) (a + t - a) (putN N) := fun W hb => by
      rw [← htk, show a + t - a = t by omega]
      exact Rd.sl (h1.up hb) (by omega) (by omega)
    refine dr0 [(0, true), (1, true), (2, true), (3, true), (4, true), (5, true), (6, true), (7, true), (8, true), (9, true), (10, true), (12, true), (13, true), (14, true), (15, true), (11, false), (16, false), (17, true), (18, true)] (by kernel_rfl) ?_
    refine p_le rfl rfl (fun e => absurd e (by omega)) (fun _ => ?_)
    refine p_len slb rfl ?_
    refine p_gt rfl rfl (fun e => absurd e (by omega)) (fun _ => ?_)
    refine p_slice slb rfl (bnd_i rfl) (bnd_e rfl hT) rfl rfl (by omega) (by omega) (by omega) ?_
    refine cc isPut P1 ?_
    rintro e w2 ⟨A4, c4, rfl, o4, b4⟩
    refine ⟨_, rfl, trivial, ?_⟩
    have b2 := b1.drew.trans (b4.mono b1.drew.size)
    refine cc isSame (same_yes _ _ _ _ _ _ _ _ _ _ _ o4.rd (cut1 _ b2) rfl) ?_
    rintro e w3 ⟨rfl, rfl⟩
    refine ⟨_, rfl, trivial, ?_⟩
    refine p_not rfl ?_
    have o5 := (o1.drew).below b4
    refine cutV Unit (fun _ W => Below w.heap.size w W) (fun _ => [(0, .slice A1 n1 c1), (1, .int .i64 a), (2, .slice A2 n2 c2), (7, .int .u64 (gN l1 a)), (8, .int .i64 (gTo l1 a)), (110, .bool false)]) ?_ ?_
    · refine dr0 [(0, true), (1, true), (2, true), (3, true), (4, true), (5, true), (6, true), (7, true), (8, true), (9, true), (10, true), (11, true), (12, true), (13, true), (15, true), (16, true), (17, true), (18, true), (14, false), (19, false), (20, true), (21, true), (22, true)] (by kernel_rfl) ?_
      refine p_eq rfl rfl (fun hg => ?_) (fun hg => ?_)
      · obtain ⟨E, hE, hE1, hE2, hE3, hE4, _, hE6⟩ := gb_same hg
        rw [hl1] at hE1
        rw [hT] at hE2
        rw [o5.len] at hE6
        refine p_len slb rfl ?_
        refine p_gt rfl rfl (fun e => absurd e (by omega)) (fun _ => ?_)
        refine p_lt rfl rfl (fun e => absurd e (by omega)) (fun _ => ?_)
        refine p_slice slb rfl (bnd_i rfl) (bnd_e rfl hE) rfl rfl (by omega) (by omega) (by omega) ?_
        refine cc isPB (putBytes_any _ _ _ _ _ o5.rd.drew (by omega)) ?_
        rintro e w5 ⟨A6, c6, rfl, o6, b6⟩
        refine ⟨_, rfl, trivial, ?_⟩
        have b7 := b2.drew.trans (b6.mono b2.drew.size)
        refine cc isSame (same_yes _ _ _ _ _ _ _ _ _ _ _ o6.rd (by rw [← hE4]; exact Rd.sl (h1.up b7) (by omega) (by omega)) rfl) ?_
        rintro e w6 ⟨rfl, rfl⟩
        refine ⟨_, rfl, trivial, ?_⟩
        refine p_not rfl ?_
        exact ⟨(), b7, rfl, rfl, rfl, rfl, rfl, rfl, trivial⟩
      · exact ⟨(), b2.drew, rfl, rfl, rfl, rfl, rfl, rfl, trivial⟩
    · rintro - B W bW
      refine p_slice slb rfl rfl (bnd_e rfl hT) rfl rfl (by omega) (by omega) (by omega) ?_
      refine cc isCopy (copy_any _ _ _ _ _ (Rd.slh (h1.up bW) (j := a + t) (m := c1) (by omega) (by omega)) (by omega)) ?_
      rintro e w4 ⟨A5, c5, rfl, o8, b8⟩
      refine ⟨_, rfl, ?_⟩
      have b9 := bW.trans (b8.mono bW.size)
      refine v_app rfl o8 rfl (h2.up b9) (by omega) b8.size ?_
      intro A6 c6 w6 o9 g9 _
      have b10 := bW.trans ((below_own b8 o8 g9).mono bW.size)
      refine cc isGet (get_any _ _ _ _ _ _ _ o9.rd (by omega) o9.cap_) ?_
      rintro e w7 ⟨rfl, rfl⟩
      refine ⟨_, rfl, ?_⟩
      refine p_sub rfl rfl (w64 (by omega)) ?_
      refine p_slice slb rfl rfl (bnd_e (i := a + t - 1) rfl (by omega)) rfl rfl (by omega) (by omega) (by omega) ?_
      refine cc isGet (get_any _ _ _ _ _ _ _ (Rd.slh (h1.up b10) (j := a + t - 1) (m := c1) (by omega) (by omega)) (by omega) (by omega)) ?_
      rintro e w8 ⟨rfl, rfl⟩
      refine ⟨_, rfl, ?_⟩
      refine p_eq rfl rfl (fun _ => ?_) (fun e => absurd (M.2.1.trans hN.symm) e)
      refine p_eq rfl rfl (fun _ => ?_) (fun e => absurd (M.2.2.trans hT.symm) e)
      refine p_eq rfl rfl (fun _ => ?_) (fun e => absurd M.1 e)
      refine p_eq rfl rfl (fun _ => ?_) (fun e => absurd L e)
      refine cc isKnown01 (known01_any _) ?_
      rintro e w9 ⟨rfl, b11⟩
      refine ⟨_, rfl, ?_⟩
      exact ⟨rfl, b10.trans (b11.mono b10.size)⟩

set_option maxRecDepth 100000 in
theorem vintOnce_walk (w : World) {A1 A2 : Option Addr} {n1 c1 n2 c2 : Nat} {l1 l2 : List UInt8} (h1 : Rd w w.heap.size A1 n1 l1) (k1 : n1 ≤ c1) (at_ : Int) (_ : -9223372036854775808 ≤ at_ ∧ at_ ≤ 9223372036854775807) (h2 : Rd w w.heap.size A2 n2 l2) (_ : n2 ≤ c2) :
    Calls Try.prog 7 #[.slice A1 n1 c1, .int .i64 at_, .slice A2 n2 c2] w (RetTrue w) := by
  by_cases hin : n1 ≤ 4000 ∧ n2 ≤ 4000 ∧ 0 ≤ at_ ∧ at_ ≤ n1
  · obtain ⟨g1, g2, g3, g4⟩ := hin
    obtain ⟨a, rfl⟩ := Int.eq_ofNat_of_zero_le g3
    exact vintOnce_in w h1 k1 h2 g1 g2 (by omega)
  · refine calls_ev (args := [.slice A1 n1 c1, .int .i64 at_, .slice A2 n2 c2]) mixed Try.func7 rfl (by kernel_rfl) ?_
    refine p_len slb rfl ?_
    refine p_gt rfl rfl (fun e1 => ?_) (fun e1 => ?_)
    rotate_left
    · refine p_len slb rfl ?_
      refine p_gt rfl rfl (fun e2 => ?_) (fun e2 => ?_)
      rotate_left
      · refine p_lt rfl rfl (fun e3 => ?_) (fun e3 => ?_)
        rotate_left
        · refine p_len slb rfl ?_
          refine p_gt rfl rfl (fun e3 => ?_) (fun e3 => absurd hin (by omega))
          refine cc isKnown01 (known01_any _) ?_
          rintro e w1 ⟨rfl, hb1⟩
          refine ⟨_, rfl, ?_⟩
          exact ⟨rfl, hb1⟩
        refine cc isKnown01 (known01_any _) ?_
        rintro e w1 ⟨rfl, hb1⟩
        refine ⟨_, rfl, ?_⟩
        exact ⟨rfl, hb1⟩
      refine cc isKnown01 (known01_any _) ?_
      rintro e w1 ⟨rfl, hb1⟩
      refine ⟨_, rfl, ?_⟩
      exact ⟨rfl, hb1⟩
    refine cc isKnown01 (known01_any _) ?_
    rintro e w1 ⟨rfl, hb1⟩
    refine ⟨_, rfl, ?_⟩
    exact ⟨rfl, hb1⟩
end Go.Proofs.Ytlmnkepgljbdiaa
