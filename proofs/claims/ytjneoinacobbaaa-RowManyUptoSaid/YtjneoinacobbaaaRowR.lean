/- The walks of row's reader. -/
import Derived.Test.YtjneoinacobbaaaRowD
import Derived.Test.YtjneoinacobbaaaRowW
namespace Go.Proofs.Ytjneoinacobbaaa
open Go.RowKit
theorem fr0 : fieldOff Try.prog 63 0 = some 0 := by kernel_rfl
theorem fr1 : fieldOff Try.prog 63 1 = some 1 := by kernel_rfl
theorem fr2 : fieldOff Try.prog 63 2 = some 2 := by kernel_rfl
theorem agg_err : aggOf Try.prog 26 = some (false, 1) := by kernel_rfl
theorem sz_err : (Try.prog.info? 26).map (·.size) = some 1 := by kernel_rfl
theorem sz_int : (Try.prog.info? 3).map (·.size) = some 1 := by kernel_rfl
theorem sz_str : (Try.prog.info? 9).map (·.size) = some 1 := by kernel_rfl
theorem is_gint : isFn Try.prog 50 = true := by kernel_rfl
theorem is_get : isFn Try.prog 29 = true := by kernel_rfl
theorem is_gb : isFn Try.prog 48 = true := by kernel_rfl
def rc (A : Option Addr) (n c : Nat) (at_ e : Int) : List Value := [.slice A n c, .int .i64 at_, .int .i64 e]

theorem gtrans {w w1 w2 : World} {r : Option Nat} (h : w.grownBy w1 r) (k : w1.grownBy w2 r) : w.grownBy w2 r :=
  ⟨k.os.trans h.os, k.tape.trans h.tape, k.output.trans h.output, Nat.le_trans h.size k.size, fun i hi hne => (k.block i (Nat.lt_of_lt_of_le hi h.size) hne).trans (h.block i hi hne)⟩
theorem gbelow {w w1 : World} {r : Option Nat} (h : Below w.heap.size w w1) : w.grownBy w1 r := ⟨h.os, h.tape, h.output, h.size, fun i hi _ => h.block i hi⟩
theorem gdrew {w : World} {r : Option Nat} : w.grownBy w.drew r := ⟨rfl, rfl, rfl, Nat.le_refl _, fun _ _ _ => rfl⟩
theorem gset {w : World} {g i : Nat} {v : Value} : w.grownBy (w.setCell ⟨g, i, none⟩ v) (some g) := ⟨rfl, rfl, rfl, by simp, fun k _ hk => Below.heap_setCell _ _ _ _ (fun e => hk (by rw [e]))⟩
theorem Rd.grownG {w w' : World} {B n g : Nat} {A : Option Addr} {l : List UInt8} (h : Rd w B A n l) (hg : w.grownBy w' (some g)) (hB : B ≤ g) (hs : g < w.heap.size) : Rd w' B A n l :=
  h.grown hg (by omega) (fun k hk => by injection hk with hk; omega)

section
variable {w : World} {B g n c a : Nat} {A : Option Addr} {l : List UInt8} {e : Int}
set_option maxRecDepth 100000 in
theorem rone_end (hB : Blk w g 63 (rc A n c n e)) :
    Calls Try.prog 41 #[.pointer (some ⟨g, 0, none⟩)] w fun en w' => en = .returned (.int .u8 0) ∧ Blk w' g 63 (rc A n c n 10) ∧ w.grownBy w' (some g) ∧ w'.heap.size = w.heap.size := by
  refine calls_ev (args := [.pointer (some ⟨g, 0, none⟩)]) mixed Try.func41 rfl (by kernel_rfl) ?_
  refine dr (fun W => Blk W g 63 (rc A n c n e)) [(0, true), (1, true), (2, true), (3, true), (4, true), (5, true), (6, true), (7, true), (8, true), (9, true)] (by kernel_rfl) hB.drew ?_
  refine p_nil rfl ?_
  refine p_fld fr1 rfl ?_
  refine t_load agg_int rfl (fun W h => Blk.at_ h rfl) ?_
  refine p_nil rfl ?_
  refine p_fld fr0 rfl ?_
  refine t_load agg_b rfl (fun W h => Blk.at_ h rfl) ?_
  refine p_len slb rfl ?_
  refine p_eq rfl rfl (fun _ => ?_) (fun e => absurd rfl e)
  refine p_nil rfl ?_
  refine p_fld fr2 rfl ?_
  refine v_set (.int .i64 10) sz_err hB.drew rfl rfl rfl (by show 2 < 3; omega) ?_
  rintro W2 hB2 hg2 hs2
  exact ⟨rfl, hB2, gtrans gdrew hg2, hs2⟩
set_option maxRecDepth 100000 in
theorem rone_more (hr : Rd w B A n l) (hBg : B ≤ g) (hn : n ≤ 1000000000) (ha : a < n) (hB : Blk w g 63 (rc A n c a e)) :
    Calls Try.prog 41 #[.pointer (some ⟨g, 0, none⟩)] w fun en w' => en = .returned (.int .u8 (at8 l a)) ∧ Blk w' g 63 (rc A n c ((a + 1 : Nat) : Int) e) ∧ w.grownBy w' (some g) ∧ w'.heap.size = w.heap.size := by
  refine calls_ev (args := [.pointer (some ⟨g, 0, none⟩)]) mixed Try.func41 rfl (by kernel_rfl) ?_
  have hlt := hB.lt
  refine dr (fun W => Blk W g 63 (rc A n c a e)) [(0, true), (1, true), (2, true), (3, true), (4, true), (5, true), (6, true), (7, true), (8, true), (9, true)] (by kernel_rfl) hB.drew ?_
  refine p_nil rfl ?_
  refine p_fld fr1 rfl ?_
  refine t_load agg_int rfl (fun W h => Blk.at_ h rfl) ?_
  refine p_nil rfl ?_
  refine p_fld fr0 rfl ?_
  refine t_load agg_b rfl (fun W h => Blk.at_ h rfl) ?_
  refine p_len slb rfl ?_
  refine p_eq rfl rfl (fun e => by omega) (fun _ => ?_)
  refine p_nil rfl ?_
  refine p_fld fr1 rfl ?_
  refine v_load agg_int rfl (hB.drew.at_ rfl) ?_
  refine p_add rfl rfl (w64 (by omega)) ?_
  refine p_nil rfl ?_
  refine p_fld fr1 rfl ?_
  refine v_set (.int .i64 ((a : Int) + 1)) sz_int hB.drew rfl rfl rfl (by show 1 < 3; omega) ?_
  rintro W2 hB2 hg2 hs2
  replace hg2 := gtrans gdrew hg2
  replace hB2 : Blk W2 g 63 (rc A n c ((a : Int) + 1) e) := hB2
  have hr2 := hr.grownG hg2 hBg hlt
  obtain ⟨b, off, rfl, hb, hc⟩ := hr2.atB ha
  refine dr (fun W => Blk W g 63 (rc (some ⟨b, off, none⟩) n c ((a : Int) + 1) e) ∧ W.cell? ⟨b, off + a, none⟩ = some (.int .u8 (at8 l a))) [(0, true), (1, true), (2, true), (3, true), (4, true), (5, true), (6, true), (7, true), (8, true), (9, true), (10, true), (11, true)] (by kernel_rfl) ⟨hB2.drew, hc⟩ ?_
  refine p_nil rfl ?_
  refine p_fld fr0 rfl ?_
  refine t_load agg_b rfl (fun W h => Blk.at_ h.1 rfl) ?_
  refine p_nil rfl ?_
  refine p_fld fr1 rfl ?_
  refine t_load agg_int rfl (fun W h => Blk.at_ h.1 rfl) ?_
  refine p_sub rfl rfl (w64 (by omega)) ?_
  refine p_at (i := a) slb rfl rfl (by omega) ha ?_
  refine t_load agg_u8 rfl (fun W h => by rw [Nat.mul_one, Addr.add_lit]; exact h.2) ?_
  exact ⟨rfl, hB2.drew, gtrans hg2 gdrew, hs2⟩
set_option maxRecDepth 100000 in
theorem rnum_any (hr : Rd w B A n l) (hn : n ≤ 1000000000) (hnc : n ≤ c) (at_ : Int) (hB : Blk w g 63 (rc A n c at_ e)) :
    Calls Try.prog 42 #[.pointer (some ⟨g, 0, none⟩)] w fun en w' => en = .returned (.int .i64 (zag (gN l at_))) ∧ Blk w' g 63 (rc A n c (gTo l at_) (gE l at_)) ∧ w.grownBy w' (some g) ∧ w'.heap.size = w.heap.size := by
  refine calls_ev (args := [.pointer (some ⟨g, 0, none⟩)]) mixed Try.func42 rfl (by kernel_rfl) ?_
  refine dr (fun W => Blk W g 63 (rc A n c at_ e)) [(0, true), (1, true), (2, true), (3, true), (4, true), (5, true), (6, true), (7, true), (8, false), (9, true), (10, true), (11, true), (12, true), (13, true), (14, true), (15, true)] (by kernel_rfl) hB.drew ?_
  refine p_nil rfl ?_
  refine p_fld fr0 rfl ?_
  refine t_load agg_b rfl (fun W h => Blk.at_ h rfl) ?_
  refine p_nil rfl ?_
  refine p_fld fr1 rfl ?_
  refine t_load agg_int rfl (fun W h => Blk.at_ h rfl) ?_
  refine cc is_gint (getInt_any _ _ _ _ _ _ _ hr.drew (by omega) hnc) ?_
  rintro en w' ⟨rfl, rfl⟩
  refine ⟨_, rfl, hB.drew, ?_⟩
  refine p_nil rfl ?_
  refine p_fld fr1 rfl ?_
  refine v_set (.int .i64 (gTo l at_)) sz_int hB.drew rfl rfl rfl (by show 1 < 3; omega) ?_
  rintro W2 hB2 hg2 hs2
  refine p_nil rfl ?_
  refine p_fld fr2 rfl ?_
  refine v_set (.int .i64 (gE l at_)) sz_err hB2 rfl rfl rfl (by show 2 < 3; omega) ?_
  rintro W3 hB3 hg3 hs3
  exact ⟨rfl, hB3, gtrans (gtrans gdrew hg2) hg3, by rw [hs3, hs2]; rfl⟩
/-- text: what it comes to. -/
def txE (l : List UInt8) (a : Int) : Int := if gE l a ≠ 0 then gE l a else if 1000 < gN l a then 11 else gbE l a
def txS (l : List UInt8) (a : Int) : List UInt8 := if txE l a = 0 then gbL l a else []
def txTo (l : List UInt8) (a : Int) : Int := if txE l a = 0 then gbTo l a else a
set_option maxRecDepth 100000 in
theorem rtext_any (hr : Rd w w.heap.size A n l) (hr0 : Rd w B A n l) (hBg : B ≤ g) (hn : n ≤ 1000000000) (hnc : n ≤ c) (at_ : Int) (hB : Blk w g 63 (rc A n c at_ e)) :
    Calls Try.prog 43 #[.pointer (some ⟨g, 0, none⟩)] w fun en w' => en = .returned (.string (sb (txS l at_))) ∧ Blk w' g 63 (rc A n c (txTo l at_) (txE l at_)) ∧ w.grownBy w' (some g) := by
  refine calls_ev (args := [.pointer (some ⟨g, 0, none⟩)]) mixed Try.func43 rfl (by kernel_rfl) ?_
  have hlt := hB.lt
  refine dr (fun W => Blk W g 63 (rc A n c at_ e)) [(0, true), (1, true), (2, true), (3, true), (4, true), (5, true), (6, true), (7, true), (8, false), (9, true), (10, true), (11, true), (12, true), (13, true), (14, true), (15, true)] (by kernel_rfl) hB.drew ?_
  refine p_nil rfl ?_
  refine p_fld fr0 rfl ?_
  refine t_load agg_b rfl (fun W h => Blk.at_ h rfl) ?_
  refine p_nil rfl ?_
  refine p_fld fr1 rfl ?_
  refine t_load agg_int rfl (fun W h => Blk.at_ h rfl) ?_
  refine cc is_get (get_any _ _ _ _ _ _ _ hr.drew (by omega) hnc) ?_
  rintro en w' ⟨rfl, rfl⟩
  refine ⟨_, rfl, hB.drew, ?_⟩
  -- the error that is kept
  have store1 : ∀ x : Int, x = (if gE l at_ ≠ 0 then gE l at_ else if 1000 < gN l at_ then 11 else 0) → True := fun _ _ => trivial
  clear store1
  refine p_eq rfl rfl (fun h0 => ?_) (fun h0 => ?_)
  rotate_left
  · refine p_nil rfl ?_
    refine p_fld fr2 rfl ?_
    refine v_set (.int .i64 (gE l at_)) sz_err hB.drew rfl rfl rfl (by show 2 < 3; omega) ?_
    rintro W2 hB2 hg2 hs2
    refine p_ne rfl rfl (fun e => absurd e h0) (fun _ => ?_)
    have e1 : txE l at_ = gE l at_ := by unfold txE; rw [if_pos h0]
    have e2 : txS l at_ = [] := by unfold txS; rw [if_neg (by rw [e1]; exact h0)]
    have e3 : txTo l at_ = at_ := by unfold txTo; rw [if_neg (by rw [e1]; exact h0)]
    rw [e1, e2, e3]
    exact ⟨rfl, hB2, gtrans gdrew hg2⟩
  refine p_gt rfl rfl (fun h1 => ?_) (fun h1 => ?_)
  · refine p_nil rfl ?_
    refine p_fld fr2 rfl ?_
    refine v_set (.int .i64 11) sz_err hB.drew rfl rfl rfl (by show 2 < 3; omega) ?_
    rintro W2 hB2 hg2 hs2
    refine p_ne rfl rfl (fun e => by cases e) (fun _ => ?_)
    have e1 : txE l at_ = 11 := by unfold txE; rw [if_neg (by simpa using h0), if_pos h1]
    have e2 : txS l at_ = [] := by unfold txS; rw [if_neg (by rw [e1]; decide)]
    have e3 : txTo l at_ = at_ := by unfold txTo; rw [if_neg (by rw [e1]; decide)]
    rw [e1, e2, e3]
    exact ⟨rfl, hB2, gtrans gdrew hg2⟩
  have e1 : txE l at_ = gbE l at_ := by unfold txE; rw [if_neg (by simpa using h0), if_neg h1]
  refine p_nil rfl ?_
  refine p_fld fr2 rfl ?_
  refine v_set (.int .i64 (gE l at_)) sz_err hB.drew rfl rfl rfl (by show 2 < 3; omega) ?_
  rintro W2 hB2 hg2 hs2
  refine p_ne rfl rfl (fun _ => ?_) (fun e => absurd h0 e)
  have hg2' := gtrans gdrew hg2
  have hr2 := (hr0.grownG hg2' hBg hlt).more (B' := W2.heap.size) (by have : w.drew.heap.size = w.heap.size := rfl; omega)
  refine dr (fun W => Blk W g 63 (rc A n c at_ (gE l at_))) [(0, true), (1, true), (2, true), (3, true), (4, true), (5, true), (6, true), (7, true), (8, false), (9, true), (10, true), (11, true), (12, true), (13, true), (14, true), (15, true)] (by kernel_rfl) hB2.drew ?_
  refine p_nil rfl ?_
  refine p_fld fr0 rfl ?_
  refine t_load agg_b rfl (fun W h => Blk.at_ h rfl) ?_
  refine p_nil rfl ?_
  refine p_fld fr1 rfl ?_
  refine t_load agg_int rfl (fun W h => Blk.at_ h rfl) ?_
  refine cc is_gb (getBytes_any _ _ _ _ _ _ hr2.drew (by omega) hnc) ?_
  rintro en W3 ⟨A3, n3, c3, rfl, o3, b3⟩
  have hB3 := hB2.drew.below b3
  refine ⟨_, rfl, hB3, ?_⟩
  refine p_nil rfl ?_
  refine p_fld fr2 rfl ?_
  refine v_set (.int .i64 (gbE l at_)) sz_err hB3 rfl rfl rfl (by show 2 < 3; omega) ?_
  rintro W4 hB4 hg4 hs4
  have hg4' := gtrans (gtrans (gtrans hg2' gdrew) (gbelow b3)) hg4
  have hgo : ∀ k, (Value.slice A3 n3 c3).ownBlock = some k → g ≠ k := fun k hk e => by
    have := o3.lo k hk
    have h2 : W2.drew.heap.size = W2.heap.size := rfl
    have h3 : w.drew.heap.size = w.heap.size := rfl
    omega
  have o4 : Own W4 W2.drew.heap.size A3 n3 c3 (gbL l at_) := o3.kept hg4 (by
    cases hk : (Value.slice A3 n3 c3).ownBlock with
    | none => exact .inl rfl
    | some k => exact .inr (fun e => hgo k hk (by injection e with e; exact e.symm)))
  refine p_eq rfl rfl (fun h2 => ?_) (fun h2 => ?_)
  · refine p_nil rfl ?_
    refine p_fld fr1 rfl ?_
    refine v_set (.int .i64 (gbTo l at_)) sz_int hB4 rfl rfl rfl (by show 1 < 3; omega) ?_
    rintro W5 hB5 hg5 hs5
    have o5 : Own W5 W2.drew.heap.size A3 n3 c3 (gbL l at_) := o4.kept hg5 (by
      cases hk : (Value.slice A3 n3 c3).ownBlock with
      | none => exact .inl rfl
      | some k => exact .inr (fun e => hgo k hk (by injection e with e; exact e.symm)))
    refine v_str rfl o5.rd ?_
    have e2 : txS l at_ = gbL l at_ := by unfold txS; rw [if_pos (by rw [e1]; exact h2)]
    have e3 : txTo l at_ = gbTo l at_ := by unfold txTo; rw [if_pos (by rw [e1]; exact h2)]
    rw [e1, e2, e3]
    exact ⟨rfl, hB5, gtrans hg4' hg5⟩
  · refine v_str rfl o4.rd ?_
    have e0 : gbL l at_ = [] := by unfold gbL; rw [if_neg h2]
    have e2 : txS l at_ = [] := by unfold txS; rw [if_neg (by rw [e1]; exact h2)]
    have e3 : txTo l at_ = at_ := by unfold txTo; rw [if_neg (by rw [e1]; exact h2)]
    rw [e1, e2, e3, ← e0]
    exact ⟨rfl, hB4, hg4'⟩
end
end Go.Proofs.Ytjneoinacobbaaa
