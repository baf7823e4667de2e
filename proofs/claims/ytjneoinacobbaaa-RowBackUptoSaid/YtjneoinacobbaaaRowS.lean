/- The walks of row's reader: prefix and value. -/
import Derived.Test.YtjneoinacobbaaaRowR
namespace Go.Proofs.Ytjneoinacobbaaa
open Go.RowKit
theorem is_rone : isFn Try.prog 41 = true := by kernel_rfl
theorem is_rnum : isFn Try.prog 42 = true := by kernel_rfl
theorem is_rtext : isFn Try.prog 43 = true := by kernel_rfl
theorem is_rpre : isFn Try.prog 44 = true := by kernel_rfl
theorem is_rval : isFn Try.prog 30 = true := by kernel_rfl
theorem pl_val : placesOf Try.prog 52 = some [(0, 1), (1, 1), (2, 1)] := by kernel_rfl
def pfB (l : List UInt8) (k at_ e : Int) : Bool := !decide (k = 4) || (!decide (e = 10) || (!decide (gE l at_ = 0) || (l.drop (gTo l at_).toNat).all vis))
theorem gnew {w w1 w2 : World} {r : Option Nat} {g : Nat} (h : w.grownBy w1 r) (k : w1.grownBy w2 (some g)) (hg : w.heap.size ≤ g) : w.grownBy w2 r :=
  ⟨k.os.trans h.os, k.tape.trans h.tape, k.output.trans h.output, Nat.le_trans h.size k.size, fun i hi hne => (k.block i (Nat.lt_of_lt_of_le hi h.size) (fun e => by injection e with e; omega)).trans (h.block i hi hne)⟩
section
variable {w : World} {B g n c a : Nat} {A : Option Addr} {l : List UInt8} {e : Int}
set_option maxRecDepth 100000 in
theorem rpre_any (hr : Rd w w.heap.size A n l) (hn : n ≤ 1000000000) (hnc : n ≤ c) (at_ : Int) (hB : Blk w g 63 (rc A n c at_ e)) (v : Val) :
    Calls Try.prog 44 #[.pointer (some ⟨g, 0, none⟩), vv_ v] w fun en w' => ∃ b, en = .returned (.bool b) ∧ b = pfB l v.k at_ e ∧ Below w.heap.size w w' := by
  refine calls_ev (args := [.pointer (some ⟨g, 0, none⟩), vv_ v]) mixed Try.func44 rfl (by kernel_rfl) ?_
  have hln := hr.len
  refine v_boxB (vc v) rfl ?_
  rintro g3 W hg3 hB3 hb3 hsz3
  have hBW := hB.belowB hb3 (by have := hB.lt; omega)
  rw [← hg3]
  refine p_fld fv0 rfl ?_
  refine v_load agg_int rfl (hB3.at_ rfl) ?_
  refine p_ne rfl rfl (fun h4 => ?_) (fun h4 => ?_)
  rotate_left
  · exact ⟨true, rfl, by unfold pfB; simp [h4], hb3⟩
  refine p_nil rfl ?_
  refine p_fld fr2 rfl ?_
  refine v_load agg_err rfl (hBW.at_ rfl) ?_
  refine p_ne rfl rfl (fun h10 => ?_) (fun h10 => ?_)
  rotate_left
  · exact ⟨true, rfl, by unfold pfB; simp [h10], hb3⟩
  refine dr (fun W => Blk W g 63 (rc A n c at_ e)) [(0, true), (1, true), (2, true), (3, true), (4, true), (5, true), (6, true), (7, true), (8, false), (9, true), (10, true), (11, true), (12, true), (13, true), (14, true), (15, true)] (by kernel_rfl) hBW.drew ?_
  refine p_nil rfl ?_
  refine p_fld fr0 rfl ?_
  refine t_load agg_b rfl (fun W h => Blk.at_ h rfl) ?_
  refine p_nil rfl ?_
  refine p_fld fr1 rfl ?_
  refine t_load agg_int rfl (fun W h => Blk.at_ h rfl) ?_
  have hrW : Rd W g3 A n l := (hr.below (by rw [← hg3]; exact hb3)).more (by omega)
  refine cc is_get (get_any _ _ _ _ _ _ _ hrW.drew (by omega) hnc) ?_
  rintro en w' ⟨rfl, rfl⟩
  refine ⟨_, rfl, hBW.drew, ?_⟩
  refine p_ne rfl rfl (fun h0 => ?_) (fun h0 => ?_)
  rotate_left
  · exact ⟨true, rfl, by unfold pfB; simp [h0], hb3.drew⟩
  obtain ⟨x, t, hx, hxl, _, hT, _, hle, _⟩ := g_ok h0
  have hpf : pfB l v.k at_ e = (l.drop (x + t)).all vis := by
    unfold pfB; rw [hT, Int.toNat_natCast]; simp [h4, h10, h0]
  refine p_nil rfl ?_
  refine p_fld fr0 rfl ?_
  refine v_load agg_b rfl (hBW.drew.at_ rfl) ?_
  refine p_slice (i := x + t) slb rfl (bnd_e rfl hT) rfl rfl rfl (by omega) hnc (Nat.le_refl _) ?_
  refine p_len slb rfl ?_
  have hsl : Rd W.drew g3 (slA A c (x + t) 1) (n - (x + t)) (l.drop (x + t)) := Rd.sle hrW.drew (by omega) hnc
  refine lp Nat (fun i W' => W' = W.drew ∧ i ≤ n - (x + t) ∧ ((l.drop (x + t)).take i).all vis = true) (fun i => [(40, .slice (slA A c (x + t) 1) (n - (x + t)) (c - (x + t))), (41, .int .i64 (n - (x + t) : Nat)), (42, .int .i64 i)]) (fun i => n - (x + t) - i) 0 ⟨rfl, by omega, by simp⟩ ⟨rfl, rfl, rfl, trivial⟩ ?_
  rintro i E1 W1 ⟨rfl, hi, hv⟩
  have hls := hsl.len
  refine p_lt rfl rfl (fun h => ?_) (fun h => ?_)
  · have hlt : i < (l.drop (x + t)).length := by omega
    obtain ⟨b, off, hA, hcell⟩ := hsl.at_ (k := i) (by omega)
    rw [hA]
    refine p_at (i := i) slb rfl rfl rfl (by omega) ?_
    refine v_load agg_u8 rfl (by rw [Nat.mul_one, Addr.add_lit]; exact hcell) ?_
    have h8 := at8_of (l.drop (x + t)) i hlt
    have hst := all_take_step hlt hv
    refine p_lt rfl rfl (fun h1 => ?_) (fun h1 => ?_)
    · exact ⟨false, rfl, by rw [hpf, all_bad hlt (by unfold vis; rw [decide_eq_false (by omega)]; rfl)], hb3.drew⟩
    · refine p_gt rfl rfl (fun h2 => ?_) (fun h2 => ?_)
      · exact ⟨false, rfl, by rw [hpf, all_bad hlt (by unfold vis; rw [decide_eq_false (p := _ ≤ 126) (by omega)]; simp)], hb3.drew⟩
      · refine p_add rfl rfl (w64 (by omega)) ?_
        refine ⟨i + 1, ⟨rfl, by omega, ?_⟩, ⟨by rw [← hA]; rfl, rfl, rfl, trivial⟩, by omega⟩
        rw [hst]; unfold vis; rw [decide_eq_true (by omega), decide_eq_true (by omega)]; rfl
  · rw [List.take_of_length_le (by omega)] at hv
    exact ⟨true, rfl, by rw [hpf, hv], hb3.drew⟩
end
end Go.Proofs.Ytjneoinacobbaaa
