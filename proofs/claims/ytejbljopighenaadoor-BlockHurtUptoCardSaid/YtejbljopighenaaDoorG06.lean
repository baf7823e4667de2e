/- The walks of row.Encode, and of the reference's one and Encode. The walks of row's reader. The walks of row's reader: prefix and value. The walk of row's reader: value. Rows of the call's own, of whatever elements; append onto them. No program in sight. Rows read from bytes, plainly; append of values. -/
import Derived.Test.YtejbljopighenaaDoorG04
import Derived.Test.YtejbljopighenaaDoorG05
namespace Go.Proofs.YtejbljopighenaaDoor
open Go.RowKit
theorem zv : zeroOf Tryd.prog 61 = some [.int .i64 0, .int .i64 0, .string (sb [])] := by kernel_rfl
theorem sz_val : (Tryd.prog.info? 61).map (·.size) = some 3 := by kernel_rfl
theorem al_val : (Tryd.prog.info? 61).map (fun i => i.zero.map fun z => z.cells.toList) = some (some [.int .i64 0, .int .i64 0, .string (sb [])]) := by kernel_rfl
theorem is_put : isFn Tryd.prog 26 = true := by kernel_rfl
theorem is_puti : isFn Tryd.prog 71 = true := by kernel_rfl
theorem is_putb : isFn Tryd.prog 44 = true := by kernel_rfl
theorem right_n {v : Val} (h : rightB v = true) : v.k = 2 → 0 ≤ v.n ∧ v.n ≤ 1 := by
  intro h2
  unfold rightB at h
  rw [if_neg (by omega), if_pos h2] at h
  simp at h
  omega


set_option maxRecDepth 100000 in
set_option maxHeartbeats 2000000 in
theorem encode_any (A : Option Addr) (n c : Nat) (l : List Val) (w : World) (hr : RdV w w.heap.size A n l) (ho : ∀ v ∈ l, VOk v) (hs : tot l ≤ 1000000) :
    Calls Tryd.prog 61 #[.slice A n c] w fun e w' => ∃ A' m c', e = .returned (.tuple #[.slice A' m c', .int .i64 (encE l)]) ∧ Own w' w.heap.size A' m c' (encB l) ∧ Below w.heap.size w w' := by
  refine calls_ev (args := [.slice A n c]) mixed Tryd.func61 rfl (by kernel_rfl) ?_
  have hln := hr.len
  have htl := tot_len l
  have hl10 := putN_len10 (n := n) (by omega)
  refine p_len slv rfl ?_
  refine v_cvt u_int u_u64 rfl (wu64 (by omega)) ?_
  refine cc is_put (put_any n w hl10) ?_
  rintro e W0 ⟨A0, c0, rfl, o0, b0⟩
  refine ⟨_, rfl, ?_⟩
  refine p_len slv rfl ?_
  refine lp (Nat × Option Addr × Nat × Nat) (fun s W => Own W w.heap.size s.2.1 s.2.2.1 s.2.2.2 (putN n ++ (l.take s.1).flatMap oneL) ∧ Below w.heap.size w W ∧ s.1 ≤ n ∧ allR (l.take s.1) = true) (fun s => [(0, .slice A n c), (4, .slice s.2.1 s.2.2.1 s.2.2.2), (12, .slice A n c), (13, .int .i64 n), (14, .int .i64 s.1)]) (fun s => n - s.1) (0, A0, (putN n).length, c0) ⟨by simpa using o0, b0, by omega, by simp [allR]⟩ ⟨rfl, rfl, rfl, rfl, rfl, trivial⟩ ?_
  rintro ⟨j, A4, m4, c4⟩ B1 W ⟨o4, hb, hj, hall⟩
  dsimp only at o4 hj hall
  have hm4 := o4.len
  have hf := flat_take_len l j ho
  rw [List.length_append] at hm4
  refine p_lt rfl rfl (fun h => ?_) (fun h => ?_)
  · have hlt : j < l.length := by omega
    obtain ⟨ad, rfl, hadb, hads, hcell⟩ := (hr.below hb).at_ (List.getElem?_eq_getElem hlt)
    obtain ⟨v, hv⟩ : ∃ v, v = l[j] := ⟨_, rfl⟩
    rw [← hv] at hcell
    have hiv : l[j]? = some v := by rw [hv, List.getElem?_eq_getElem hlt]
    have hvm := List.mem_of_getElem? hiv
    have htm := tot_mem hvm
    have hov := ho v hvm
    refine p_at slv rfl rfl rfl (by omega) ?_
    refine v_loadN (vc v) agg_val rfl rfl hcell ?_
    refine v_allocB _ al_val ?_
    rintro g W1 hg hB0 hb1 hsz1
    refine v_storeA (vc v) sz_val rfl rfl rfl (by intro u hu; exact vcs_one [v] u (by simpa [vcs] using hu)) hB0 rfl ?_
    rintro W2 hB hg2 hsz2
    have hb2 : Below g W W2 := hb1.grown hg2 (by omega) (fun k hk => by injection hk with hk; omega)
    have C2 := hb.trans (hb2.mono (by have := hb.size; omega))
    have o5 := o4.upB hb2 (by omega)
    refine v_loadN (vc v) agg_val rfl rfl (hB.run 0 (vc v) (fun j v h => by rw [Nat.zero_add]; exact h)) ?_
    refine cc is_chk (chk_any v W2 hov.s0) ?_
    rintro e W3 ⟨rfl, hb3⟩
    refine ⟨_, rfl, ?_⟩
    have C3 := C2.trans (hb3.mono C2.size)
    have o6 := o5.below hb3
    have hB3 := hB.below hb3
    clear o4 o5 hB hB0 hcell
    refine p_ne rfl rfl (fun e => ?_) (fun e => ?_)
    rotate_left
    · have hbad := chkE_ne e
      have h1 : encE l = 2 := by unfold encE; rw [allR_bad hiv hbad.1]; rfl
      have h2 : encB l = [] := by unfold encB; rw [if_neg (by omega)]
      refine ⟨none, 0, 0, ?_, by rw [h2]; exact Own.nil_ _ _, C3⟩
      rw [h1, ← hbad.2]; rfl
    have hvr := chkE_eq e
    have hk := right_k hvr
    have hn2 := right_n hvr
    have hs3 : w.heap.size ≤ W3.heap.size := C3.size
    have h1v := oneL_len v hov
    -- what is left of a round
    have hall2 : allR (l.take (j + 1)) = true := by rw [allR_take hiv hall]; exact hvr
    refine p_fld fv0 rfl ?_
    refine v_load agg_int rfl (hB3.at_ rfl) ?_
    refine v_cvt u_int u_u8 rfl (wu8 (by omega)) ?_
    refine v_bslice (vs := [.int .u8 v.k]) slb zb rfl (by decide) rfl ?_
    rintro g4 W4 hg4 hB4 hb4 hsz4
    rw [show [Value.int .u8 v.k] = bvs [b8 v.k] from one_blk (by omega)] at hB4
    refine v_app rfl (o6.upB hb4 (by omega)) rfl (Rd.blk hB4) (by show m4 + 1 ≤ _; omega) (by omega) ?_
    rintro A5 c5 W5 o7 g5 -
    have hb5 : Below w.heap.size W3 W5 := (hb4.mono (by omega)).grown g5 (by omega) (fun k hk => o6.lo k hk)
    have C5 := C3.trans hb5
    have hgB : g < W3.heap.size := hB3.lt
    have hne : (Value.slice A4 m4 c4).ownBlock ≠ some g := by
      intro e
      rcases o6.2 with ⟨hv, _⟩ | ⟨g', cap, cur, hv, _, hh, _⟩
      · rw [hv] at e; cases e
      · rw [hv] at e
        have e : g' = g := by simpa [Value.ownBlock] using e
        subst e
        have := hh.symm.trans hB3
        injection this with this
        injection this with _ this
        exact absurd this (by decide)
    have hB5 : Blk W5 g 61 (vc v) := (hB3.belowB hb4 (by omega)).grown g5 hne
    have last : ∀ (A' : Option Addr) (m' c' : Nat) (W' : World) (x : List UInt8), Own W' w.heap.size A' (m4 + 1 + m') c' ((putN n ++ (l.take j).flatMap oneL ++ [b8 v.k]) ++ x) → Below w.heap.size w W' → oneL v = [b8 v.k] ++ x → Own W' w.heap.size A' (m4 + 1 + m') c' (putN n ++ (l.take (j + 1)).flatMap oneL) := by
      intro A' m' c' W' x ho' _ hx
      rw [flat_step hiv, hx, ← List.append_assoc, ← List.append_assoc]; exact ho'
    refine p_fld fv0 rfl ?_
    refine v_load agg_int rfl (hB5.at_ rfl) ?_
    refine p_eq rfl rfl (fun e2 => ?_) (fun e2 => ?_)
    · refine p_fld fv1 rfl ?_
      refine v_load agg_int rfl (hB5.at_ rfl) ?_
      refine v_cvt u_int u_u8 rfl (wu8 (by have := hn2 e2; omega)) ?_
      refine v_bslice (vs := [.int .u8 v.n]) slb zb rfl (by decide) rfl ?_
      rintro g6 W6 hg6 hB6 hb6 hsz6
      rw [show [Value.int .u8 v.n] = bvs [b8 v.n] from one_blk (by have := hn2 e2; omega)] at hB6
      refine v_app rfl (o7.upB hb6 (by omega)) rfl (Rd.blk hB6) (by show m4 + 1 + 1 ≤ _; omega) (by have := hb5.size; omega) ?_
      rintro A7 c7 W7 o8 g7 -
      refine p_add rfl rfl (w64 (by omega)) ?_
      have C7 := (C5.trans (hb6.mono (by have := hb5.size; omega))).grown g7 (by have := C5.size; omega) (fun k hk => o7.lo k hk)
      exact ⟨(j + 1, A7, m4 + 1 + 1, c7), ⟨last _ _ _ _ _ o8 C7 (by unfold oneL; rw [if_pos e2]; rfl), C7, by show j + 1 ≤ n; omega, hall2⟩, ⟨rfl, rfl, rfl, rfl, rfl, trivial⟩, by show n - (j + 1) < n - j; omega⟩
    refine p_eq rfl rfl (fun e3 => ?_) (fun e3 => ?_)
    · refine p_fld fv1 rfl ?_
      refine v_load agg_int rfl (hB5.at_ rfl) ?_
      refine cc is_puti (putInt_any v.n W5 hov.n0.1 hov.n0.2) ?_
      rintro e W6 ⟨A6, c6, rfl, o6', b6⟩
      refine ⟨_, rfl, ?_⟩
      have hz10 := putN_len10 (zig_lt hov.n0.1 hov.n0.2)
      refine v_app rfl (o7.below b6) rfl o6'.rd (by show m4 + 1 + _ ≤ _; omega) (by have := C5.size; have := b6.size; omega) ?_
      rintro A7 c7 W7 o8 g7 -
      refine p_add rfl rfl (w64 (by omega)) ?_
      have C7 := (C5.trans (b6.mono C5.size)).grown g7 (by have := C5.size; have := b6.size; omega) (fun k hk => o7.lo k hk)
      exact ⟨(j + 1, A7, m4 + 1 + (putN (zig v.n)).length, c7), ⟨last _ _ _ _ _ o8 C7 (by unfold oneL; rw [if_neg e2, if_pos e3]; rfl), C7, by show j + 1 ≤ n; omega, hall2⟩, ⟨rfl, rfl, rfl, rfl, rfl, trivial⟩, by show n - (j + 1) < n - j; omega⟩
    refine p_eq rfl rfl (fun e4 => ?_) (fun e4 => ?_)
    rotate_left
    refine p_eq rfl rfl (fun e5 => ?_) (fun e5 => ?_)
    rotate_left
    · refine p_add rfl rfl (w64 (by omega)) ?_
      refine ⟨(j + 1, A5, m4 + 1, c5), ⟨?_, C5, by show j + 1 ≤ n; omega, hall2⟩, ⟨rfl, rfl, rfl, rfl, rfl, trivial⟩, by show n - (j + 1) < n - j; omega⟩
      show Own W5 w.heap.size A5 (m4 + 1) c5 (putN n ++ (l.take (j + 1)).flatMap oneL)
      have : oneL v = [b8 v.k] := by unfold oneL; rw [if_neg e2, if_neg e3, if_neg (by omega)]
      rw [flat_step hiv, this, ← List.append_assoc]
      exact o7
    all_goals
      have h45 : v.k = 4 ∨ v.k = 5 := by omega
      refine p_fld fv2 rfl ?_
      refine v_load agg_str rfl (hB5.at_ rfl) ?_
      refine v_s2b rfl ?_
      rintro g6 c6 W6 hg6 hr6 hc6 hb6 hsz6
      refine cc is_putb (putBytes_any _ _ _ _ _ hr6 (by omega)) ?_
      rintro e W7 ⟨A7, c7, rfl, o7', b7⟩
      refine ⟨_, rfl, ?_⟩
      have hl10' := putN_len10 (n := v.s.length) (by omega)
      have o7'' := (o7.upB hb6 (by omega)).below b7
      have hs5 := C5.size
      have hs7 := b7.size
      refine v_app rfl o7'' rfl o7'.rd (by show m4 + 1 + _ ≤ _; omega) (by omega) ?_
      rintro A8 c8 W8 o8 g8 -
      refine p_add rfl rfl (w64 (by omega)) ?_
      have C8 := ((C5.trans (hb6.mono (by omega))).trans (b7.mono (by omega))).grown g8 (by omega) (fun k hk => o7''.lo k hk)
      exact ⟨(j + 1, A8, m4 + 1 + ((putN v.s.length).length + v.s.length), c8), ⟨last _ _ _ _ _ o8 C8 (by unfold oneL; rw [if_neg e2, if_neg e3, if_pos h45]; rfl), C8, by show j + 1 ≤ n; omega, hall2⟩, ⟨rfl, rfl, rfl, rfl, rfl, trivial⟩, by show n - (j + 1) < n - j; omega⟩
  · have e : l.take j = l := List.take_of_length_le (by omega)
    rw [e] at o4 hall
    refine p_len slv rfl ?_
    refine p_gt rfl rfl (fun h => ?_) (fun h => ?_)
    · have h1 : encE l = 3 := by unfold encE; rw [hall, if_pos rfl, if_pos (by omega)]
      have h2 : encB l = [] := by unfold encB; rw [if_neg (by omega)]
      exact ⟨none, 0, 0, by rw [h1]; rfl, by rw [h2]; exact Own.nil_ _ _, hb⟩
    · have h1 : encE l = 0 := by unfold encE; rw [hall, if_pos rfl, if_neg (by omega)]
      have h2 : encB l = putN n ++ l.flatMap oneL := by unfold encB; rw [if_pos h1, hln]
      rw [h1, h2]
      exact ⟨A4, m4, c4, rfl, o4, hb⟩
end Go.Proofs.YtejbljopighenaaDoor
namespace Go.Proofs.YtejbljopighenaaDoor
open Go.RowKit
theorem fr0 : fieldOff Tryd.prog 145 0 = some 0 := by kernel_rfl
theorem fr1 : fieldOff Tryd.prog 145 1 = some 1 := by kernel_rfl
theorem fr2 : fieldOff Tryd.prog 145 2 = some 2 := by kernel_rfl
theorem agg_err : aggOf Tryd.prog 29 = some (false, 1) := by kernel_rfl
theorem sz_err : (Tryd.prog.info? 29).map (·.size) = some 1 := by kernel_rfl
theorem sz_int : (Tryd.prog.info? 3).map (·.size) = some 1 := by kernel_rfl
theorem sz_str : (Tryd.prog.info? 9).map (·.size) = some 1 := by kernel_rfl
theorem is_gint : isFn Tryd.prog 93 = true := by kernel_rfl
theorem is_get : isFn Tryd.prog 32 = true := by kernel_rfl
theorem is_gb : isFn Tryd.prog 49 = true := by kernel_rfl
def rc (A : Option Addr) (n c : Nat) (at_ e : Int) : List Value := [.slice A n c, .int .i64 at_, .int .i64 e]

theorem Rd.grownG {w w' : World} {B n g : Nat} {A : Option Addr} {l : List UInt8} (h : Rd w B A n l) (hg : w.grownBy w' (some g)) (hB : B ≤ g) (hs : g < w.heap.size) : Rd w' B A n l :=
  h.grown hg (by omega) (fun k hk => by injection hk with hk; omega)

section
variable {w : World} {B g n c a : Nat} {A : Option Addr} {l : List UInt8} {e : Int}
set_option maxRecDepth 100000 in
theorem rone_end (hB : Blk w g 145 (rc A n c n e)) :
    Calls Tryd.prog 89 #[.pointer (some ⟨g, 0, none⟩)] w fun en w' => en = .returned (.int .u8 0) ∧ Blk w' g 145 (rc A n c n 10) ∧ w.grownBy w' (some g) ∧ w'.heap.size = w.heap.size := by
  refine calls_ev (args := [.pointer (some ⟨g, 0, none⟩)]) mixed Tryd.func89 rfl (by kernel_rfl) ?_
  refine dr (fun W => Blk W g 145 (rc A n c n e)) [(0, true), (1, true), (2, true), (3, true), (4, true), (5, true), (6, true), (7, true), (8, true), (9, true)] (by kernel_rfl) hB.drew ?_
  refine p_nil rfl ?_
  refine p_fld fr1 rfl ?_
  refine t_load agg_int rfl (fun W h => Blk.at_ h rfl) ?_
  refine p_nil rfl ?_
  refine p_fld fr0 rfl ?_
  refine t_load agg_b rfl (fun W h => Blk.at_ h rfl) ?_
  refine p_len slb rfl ?_
  refine p_eq rfl rfl (fun _ => ?_) (fun e => absurd rfl e)
  refine p_nil rfl ?_
  refine p_fld fr2 rfl ?_
  refine v_set (.int .i64 10) sz_err hB.drew rfl rfl rfl (by show 2 < 3; omega) ?_
  rintro W2 hB2 hg2 hs2
  exact ⟨rfl, hB2, gtrans gdrew hg2, hs2⟩
set_option maxRecDepth 100000 in
theorem rone_more (hr : Rd w B A n l) (hBg : B ≤ g) (hn : n ≤ 1000000000) (ha : a < n) (hB : Blk w g 145 (rc A n c a e)) :
    Calls Tryd.prog 89 #[.pointer (some ⟨g, 0, none⟩)] w fun en w' => en = .returned (.int .u8 (at8 l a)) ∧ Blk w' g 145 (rc A n c ((a + 1 : Nat) : Int) e) ∧ w.grownBy w' (some g) ∧ w'.heap.size = w.heap.size := by
  refine calls_ev (args := [.pointer (some ⟨g, 0, none⟩)]) mixed Tryd.func89 rfl (by kernel_rfl) ?_
  have hlt := hB.lt
  refine dr (fun W => Blk W g 145 (rc A n c a e)) [(0, true), (1, true), (2, true), (3, true), (4, true), (5, true), (6, true), (7, true), (8, true), (9, true)] (by kernel_rfl) hB.drew ?_
  refine p_nil rfl ?_
  refine p_fld fr1 rfl ?_
  refine t_load agg_int rfl (fun W h => Blk.at_ h rfl) ?_
  refine p_nil rfl ?_
  refine p_fld fr0 rfl ?_
  refine t_load agg_b rfl (fun W h => Blk.at_ h rfl) ?_
  refine p_len slb rfl ?_
  refine p_eq rfl rfl (fun e => by omega) (fun _ => ?_)
  refine p_nil rfl ?_
  refine p_fld fr1 rfl ?_
  refine v_load agg_int rfl (hB.drew.at_ rfl) ?_
  refine p_add rfl rfl (w64 (by omega)) ?_
  refine p_nil rfl ?_
  refine p_fld fr1 rfl ?_
  refine v_set (.int .i64 ((a : Int) + 1)) sz_int hB.drew rfl rfl rfl (by show 1 < 3; omega) ?_
  rintro W2 hB2 hg2 hs2
  replace hg2 := gtrans gdrew hg2
  replace hB2 : Blk W2 g 145 (rc A n c ((a : Int) + 1) e) := hB2
  have hr2 := hr.grownG hg2 hBg hlt
  obtain ⟨b, off, rfl, hb, hc⟩ := hr2.atB ha
  refine dr (fun W => Blk W g 145 (rc (some ⟨b, off, none⟩) n c ((a : Int) + 1) e) ∧ W.cell? ⟨b, off + a, none⟩ = some (.int .u8 (at8 l a))) [(0, true), (1, true), (2, true), (3, true), (4, true), (5, true), (6, true), (7, true), (8, true), (9, true), (10, true), (11, true)] (by kernel_rfl) ⟨hB2.drew, hc⟩ ?_
  refine p_nil rfl ?_
  refine p_fld fr0 rfl ?_
  refine t_load agg_b rfl (fun W h => Blk.at_ h.1 rfl) ?_
  refine p_nil rfl ?_
  refine p_fld fr1 rfl ?_
  refine t_load agg_int rfl (fun W h => Blk.at_ h.1 rfl) ?_
  refine p_sub rfl rfl (w64 (by omega)) ?_
  refine p_at (i := a) slb rfl rfl (by omega) ha ?_
  refine t_load agg_u8 rfl (fun W h => by rw [Nat.mul_one, Addr.add_lit]; exact h.2) ?_
  exact ⟨rfl, hB2.drew, gtrans hg2 gdrew, hs2⟩
set_option maxRecDepth 100000 in
theorem rnum_any (hr : Rd w B A n l) (hn : n ≤ 1000000000) (hnc : n ≤ c) (at_ : Int) (hB : Blk w g 145 (rc A n c at_ e)) :
    Calls Tryd.prog 90 #[.pointer (some ⟨g, 0, none⟩)] w fun en w' => en = .returned (.int .i64 (zag (gN l at_))) ∧ Blk w' g 145 (rc A n c (gTo l at_) (gE l at_)) ∧ w.grownBy w' (some g) ∧ w'.heap.size = w.heap.size := by
  refine calls_ev (args := [.pointer (some ⟨g, 0, none⟩)]) mixed Tryd.func90 rfl (by kernel_rfl) ?_
  refine dr (fun W => Blk W g 145 (rc A n c at_ e)) [(0, true), (1, true), (2, true), (3, true), (4, true), (5, true), (6, true), (7, true), (8, false), (9, true), (10, true), (11, true), (12, true), (13, true), (14, true), (15, true)] (by kernel_rfl) hB.drew ?_
  refine p_nil rfl ?_
  refine p_fld fr0 rfl ?_
  refine t_load agg_b rfl (fun W h => Blk.at_ h rfl) ?_
  refine p_nil rfl ?_
  refine p_fld fr1 rfl ?_
  refine t_load agg_int rfl (fun W h => Blk.at_ h rfl) ?_
  refine cc is_gint (getInt_any _ _ _ _ _ _ _ hr.drew (by omega) hnc) ?_
  rintro en w' ⟨rfl, rfl⟩
  refine ⟨_, rfl, hB.drew, ?_⟩
  refine p_nil rfl ?_
  refine p_fld fr1 rfl ?_
  refine v_set (.int .i64 (gTo l at_)) sz_int hB.drew rfl rfl rfl (by show 1 < 3; omega) ?_
  rintro W2 hB2 hg2 hs2
  refine p_nil rfl ?_
  refine p_fld fr2 rfl ?_
  refine v_set (.int .i64 (gE l at_)) sz_err hB2 rfl rfl rfl (by show 2 < 3; omega) ?_
  rintro W3 hB3 hg3 hs3
  exact ⟨rfl, hB3, gtrans (gtrans gdrew hg2) hg3, by rw [hs3, hs2]; rfl⟩
/-- text: what it comes to. -/
def txE (l : List UInt8) (a : Int) : Int := if gE l a ≠ 0 then gE l a else if 1000 < gN l a then 11 else gbE l a
def txS (l : List UInt8) (a : Int) : List UInt8 := if txE l a = 0 then gbL l a else []
def txTo (l : List UInt8) (a : Int) : Int := if txE l a = 0 then gbTo l a else a
set_option maxRecDepth 100000 in
theorem rtext_any (hr : Rd w w.heap.size A n l) (hr0 : Rd w B A n l) (hBg : B ≤ g) (hn : n ≤ 1000000000) (hnc : n ≤ c) (at_ : Int) (hB : Blk w g 145 (rc A n c at_ e)) :
    Calls Tryd.prog 91 #[.pointer (some ⟨g, 0, none⟩)] w fun en w' => en = .returned (.string (sb (txS l at_))) ∧ Blk w' g 145 (rc A n c (txTo l at_) (txE l at_)) ∧ w.grownBy w' (some g) := by
  refine calls_ev (args := [.pointer (some ⟨g, 0, none⟩)]) mixed Tryd.func91 rfl (by kernel_rfl) ?_
  have hlt := hB.lt
  refine dr (fun W => Blk W g 145 (rc A n c at_ e)) [(0, true), (1, true), (2, true), (3, true), (4, true), (5, true), (6, true), (7, true), (8, false), (9, true), (10, true), (11, true), (12, true), (13, true), (14, true), (15, true)] (by kernel_rfl) hB.drew ?_
  refine p_nil rfl ?_
  refine p_fld fr0 rfl ?_
  refine t_load agg_b rfl (fun W h => Blk.at_ h rfl) ?_
  refine p_nil rfl ?_
  refine p_fld fr1 rfl ?_
  refine t_load agg_int rfl (fun W h => Blk.at_ h rfl) ?_
  refine cc is_get (get_any _ _ _ _ _ _ _ hr.drew (by omega) hnc) ?_
  rintro en w' ⟨rfl, rfl⟩
  refine ⟨_, rfl, hB.drew, ?_⟩
  -- the error that is kept
  have store1 : ∀ x : Int, x = (if gE l at_ ≠ 0 then gE l at_ else if 1000 < gN l at_ then 11 else 0) → True := fun _ _ => trivial
  clear store1
  refine p_eq rfl rfl (fun h0 => ?_) (fun h0 => ?_)
  rotate_left
  · refine p_nil rfl ?_
    refine p_fld fr2 rfl ?_
    refine v_set (.int .i64 (gE l at_)) sz_err hB.drew rfl rfl rfl (by show 2 < 3; omega) ?_
    rintro W2 hB2 hg2 hs2
    refine p_ne rfl rfl (fun e => absurd e h0) (fun _ => ?_)
    have e1 : txE l at_ = gE l at_ := by unfold txE; rw [if_pos h0]
    have e2 : txS l at_ = [] := by unfold txS; rw [if_neg (by rw [e1]; exact h0)]
    have e3 : txTo l at_ = at_ := by unfold txTo; rw [if_neg (by rw [e1]; exact h0)]
    rw [e1, e2, e3]
    exact ⟨rfl, hB2, gtrans gdrew hg2⟩
  refine p_gt rfl rfl (fun h1 => ?_) (fun h1 => ?_)
  · refine p_nil rfl ?_
    refine p_fld fr2 rfl ?_
    refine v_set (.int .i64 11) sz_err hB.drew rfl rfl rfl (by show 2 < 3; omega) ?_
    rintro W2 hB2 hg2 hs2
    refine p_ne rfl rfl (fun e => by cases e) (fun _ => ?_)
    have e1 : txE l at_ = 11 := by unfold txE; rw [if_neg (by simpa using h0), if_pos h1]
    have e2 : txS l at_ = [] := by unfold txS; rw [if_neg (by rw [e1]; decide)]
    have e3 : txTo l at_ = at_ := by unfold txTo; rw [if_neg (by rw [e1]; decide)]
    rw [e1, e2, e3]
    exact ⟨rfl, hB2, gtrans gdrew hg2⟩
  have e1 : txE l at_ = gbE l at_ := by unfold txE; rw [if_neg (by simpa using h0), if_neg h1]
  refine p_nil rfl ?_
  refine p_fld fr2 rfl ?_
  refine v_set (.int .i64 (gE l at_)) sz_err hB.drew rfl rfl rfl (by show 2 < 3; omega) ?_
  rintro W2 hB2 hg2 hs2
  refine p_ne rfl rfl (fun _ => ?_) (fun e => absurd h0 e)
  have hg2' := gtrans gdrew hg2
  have hr2 := (hr0.grownG hg2' hBg hlt).more (B' := W2.heap.size) (by have : w.drew.heap.size = w.heap.size := rfl; omega)
  refine dr (fun W => Blk W g 145 (rc A n c at_ (gE l at_))) [(0, true), (1, true), (2, true), (3, true), (4, true), (5, true), (6, true), (7, true), (8, false), (9, true), (10, true), (11, true), (12, true), (13, true), (14, true), (15, true)] (by kernel_rfl) hB2.drew ?_
  refine p_nil rfl ?_
  refine p_fld fr0 rfl ?_
  refine t_load agg_b rfl (fun W h => Blk.at_ h rfl) ?_
  refine p_nil rfl ?_
  refine p_fld fr1 rfl ?_
  refine t_load agg_int rfl (fun W h => Blk.at_ h rfl) ?_
  refine cc is_gb (getBytes_any _ _ _ _ _ _ hr2.drew (by omega) hnc) ?_
  rintro en W3 ⟨A3, n3, c3, rfl, o3, b3⟩
  have hB3 := hB2.drew.below b3
  refine ⟨_, rfl, hB3, ?_⟩
  refine p_nil rfl ?_
  refine p_fld fr2 rfl ?_
  refine v_set (.int .i64 (gbE l at_)) sz_err hB3 rfl rfl rfl (by show 2 < 3; omega) ?_
  rintro W4 hB4 hg4 hs4
  have hg4' := gtrans (gtrans (gtrans hg2' gdrew) (gbelow b3)) hg4
  have hgo : ∀ k, (Value.slice A3 n3 c3).ownBlock = some k → g ≠ k := fun k hk e => by
    have := o3.lo k hk
    have h2 : W2.drew.heap.size = W2.heap.size := rfl
    have h3 : w.drew.heap.size = w.heap.size := rfl
    omega
  have o4 : Own W4 W2.drew.heap.size A3 n3 c3 (gbL l at_) := o3.kept hg4 (by
    cases hk : (Value.slice A3 n3 c3).ownBlock with
    | none => exact .inl rfl
    | some k => exact .inr (fun e => hgo k hk (by injection e with e; exact e.symm)))
  refine p_eq rfl rfl (fun h2 => ?_) (fun h2 => ?_)
  · refine p_nil rfl ?_
    refine p_fld fr1 rfl ?_
    refine v_set (.int .i64 (gbTo l at_)) sz_int hB4 rfl rfl rfl (by show 1 < 3; omega) ?_
    rintro W5 hB5 hg5 hs5
    have o5 : Own W5 W2.drew.heap.size A3 n3 c3 (gbL l at_) := o4.kept hg5 (by
      cases hk : (Value.slice A3 n3 c3).ownBlock with
      | none => exact .inl rfl
      | some k => exact .inr (fun e => hgo k hk (by injection e with e; exact e.symm)))
    refine v_str rfl o5.rd ?_
    have e2 : txS l at_ = gbL l at_ := by unfold txS; rw [if_pos (by rw [e1]; exact h2)]
    have e3 : txTo l at_ = gbTo l at_ := by unfold txTo; rw [if_pos (by rw [e1]; exact h2)]
    rw [e1, e2, e3]
    exact ⟨rfl, hB5, gtrans hg4' hg5⟩
  · refine v_str rfl o4.rd ?_
    have e0 : gbL l at_ = [] := by unfold gbL; rw [if_neg h2]
    have e2 : txS l at_ = [] := by unfold txS; rw [if_neg (by rw [e1]; exact h2)]
    have e3 : txTo l at_ = at_ := by unfold txTo; rw [if_neg (by rw [e1]; exact h2)]
    rw [e1, e2, e3, ← e0]
    exact ⟨rfl, hB4, hg4'⟩
end
end Go.Proofs.YtejbljopighenaaDoor
namespace Go.Proofs.YtejbljopighenaaDoor
open Go.RowKit
theorem is_rone : isFn Tryd.prog 89 = true := by kernel_rfl
theorem is_rnum : isFn Tryd.prog 90 = true := by kernel_rfl
theorem is_rtext : isFn Tryd.prog 91 = true := by kernel_rfl
theorem is_rpre : isFn Tryd.prog 92 = true := by kernel_rfl
theorem is_rval : isFn Tryd.prog 87 = true := by kernel_rfl
theorem pl_val : placesOf Tryd.prog 61 = some [(0, 1), (1, 1), (2, 1)] := by kernel_rfl
def pfB (l : List UInt8) (k at_ e : Int) : Bool := !decide (k = 4) || (!decide (e = 10) || (!decide (gE l at_ = 0) || (l.drop (gTo l at_).toNat).all vis))
theorem gnew {w w1 w2 : World} {r : Option Nat} {g : Nat} (h : w.grownBy w1 r) (k : w1.grownBy w2 (some g)) (hg : w.heap.size ≤ g) : w.grownBy w2 r :=
  ⟨k.os.trans h.os, k.tape.trans h.tape, k.output.trans h.output, Nat.le_trans h.size k.size, fun i hi hne => (k.block i (Nat.lt_of_lt_of_le hi h.size) (fun e => by injection e with e; omega)).trans (h.block i hi hne)⟩
section
variable {w : World} {B g n c a : Nat} {A : Option Addr} {l : List UInt8} {e : Int}
set_option maxRecDepth 100000 in
theorem rpre_any (hr : Rd w w.heap.size A n l) (hn : n ≤ 1000000000) (hnc : n ≤ c) (at_ : Int) (hB : Blk w g 145 (rc A n c at_ e)) (v : Val) :
    Calls Tryd.prog 92 #[.pointer (some ⟨g, 0, none⟩), vv_ v] w fun en w' => ∃ b, en = .returned (.bool b) ∧ b = pfB l v.k at_ e ∧ Below w.heap.size w w' := by
  refine calls_ev (args := [.pointer (some ⟨g, 0, none⟩), vv_ v]) mixed Tryd.func92 rfl (by kernel_rfl) ?_
  have hln := hr.len
  refine v_boxB (vc v) rfl ?_
  rintro g3 W hg3 hB3 hb3 hsz3
  have hBW := hB.belowB hb3 (by have := hB.lt; omega)
  rw [← hg3]
  refine p_fld fv0 rfl ?_
  refine v_load agg_int rfl (hB3.at_ rfl) ?_
  refine p_ne rfl rfl (fun h4 => ?_) (fun h4 => ?_)
  rotate_left
  · exact ⟨true, rfl, by unfold pfB; simp [h4], hb3⟩
  refine p_nil rfl ?_
  refine p_fld fr2 rfl ?_
  refine v_load agg_err rfl (hBW.at_ rfl) ?_
  refine p_ne rfl rfl (fun h10 => ?_) (fun h10 => ?_)
  rotate_left
  · exact ⟨true, rfl, by unfold pfB; simp [h10], hb3⟩
  refine dr (fun W => Blk W g 145 (rc A n c at_ e)) [(0, true), (1, true), (2, true), (3, true), (4, true), (5, true), (6, true), (7, true), (8, false), (9, true), (10, true), (11, true), (12, true), (13, true), (14, true), (15, true)] (by kernel_rfl) hBW.drew ?_
  refine p_nil rfl ?_
  refine p_fld fr0 rfl ?_
  refine t_load agg_b rfl (fun W h => Blk.at_ h rfl) ?_
  refine p_nil rfl ?_
  refine p_fld fr1 rfl ?_
  refine t_load agg_int rfl (fun W h => Blk.at_ h rfl) ?_
  have hrW : Rd W g3 A n l := (hr.below (by rw [← hg3]; exact hb3)).more (by omega)
  refine cc is_get (get_any _ _ _ _ _ _ _ hrW.drew (by omega) hnc) ?_
  rintro en w' ⟨rfl, rfl⟩
  refine ⟨_, rfl, hBW.drew, ?_⟩
  refine p_ne rfl rfl (fun h0 => ?_) (fun h0 => ?_)
  rotate_left
  · exact ⟨true, rfl, by unfold pfB; simp [h0], hb3.drew⟩
  obtain ⟨x, t, hx, hxl, _, hT, _, hle, _⟩ := g_ok h0
  have hpf : pfB l v.k at_ e = (l.drop (x + t)).all vis := by
    unfold pfB; rw [hT, Int.toNat_natCast]; simp [h4, h10, h0]
  refine p_nil rfl ?_
  refine p_fld fr0 rfl ?_
  refine v_load agg_b rfl (hBW.drew.at_ rfl) ?_
  refine p_slice (i := x + t) slb rfl (bnd_e rfl hT) rfl rfl rfl (by omega) hnc (Nat.le_refl _) ?_
  refine p_len slb rfl ?_
  have hsl : Rd W.drew g3 (slA A c (x + t) 1) (n - (x + t)) (l.drop (x + t)) := Rd.sle hrW.drew (by omega) hnc
  refine lp Nat (fun i W' => W' = W.drew ∧ i ≤ n - (x + t) ∧ ((l.drop (x + t)).take i).all vis = true) (fun i => [(40, .slice (slA A c (x + t) 1) (n - (x + t)) (c - (x + t))), (41, .int .i64 (n - (x + t) : Nat)), (42, .int .i64 i)]) (fun i => n - (x + t) - i) 0 ⟨rfl, by omega, by simp⟩ ⟨rfl, rfl, rfl, trivial⟩ ?_
  rintro i E1 W1 ⟨rfl, hi, hv⟩
  have hls := hsl.len
  refine p_lt rfl rfl (fun h => ?_) (fun h => ?_)
  · have hlt : i < (l.drop (x + t)).length := by omega
    obtain ⟨b, off, hA, hcell⟩ := hsl.at_ (k := i) (by omega)
    rw [hA]
    refine p_at (i := i) slb rfl rfl rfl (by omega) ?_
    refine v_load agg_u8 rfl (by rw [Nat.mul_one, Addr.add_lit]; exact hcell) ?_
    have h8 := at8_of (l.drop (x + t)) i hlt
    have hst := all_take_step hlt hv
    refine p_lt rfl rfl (fun h1 => ?_) (fun h1 => ?_)
    · exact ⟨false, rfl, by rw [hpf, all_bad hlt (by unfold vis; rw [decide_eq_false (by omega)]; rfl)], hb3.drew⟩
    · refine p_gt rfl rfl (fun h2 => ?_) (fun h2 => ?_)
      · exact ⟨false, rfl, by rw [hpf, all_bad hlt (by unfold vis; rw [decide_eq_false (p := _ ≤ 126) (by omega)]; simp)], hb3.drew⟩
      · refine p_add rfl rfl (w64 (by omega)) ?_
        refine ⟨i + 1, ⟨rfl, by omega, ?_⟩, ⟨by rw [← hA]; rfl, rfl, rfl, trivial⟩, by omega⟩
        rw [hst]; unfold vis; rw [decide_eq_true (by omega), decide_eq_true (by omega)]; rfl
  · rw [List.take_of_length_le (by omega)] at hv
    exact ⟨true, rfl, by rw [hpf, hv], hb3.drew⟩
end
end Go.Proofs.YtejbljopighenaaDoor
namespace Go.Proofs.YtejbljopighenaaDoor
open Go.RowKit
/-- What becomes of the error at the end of a value. -/
def finE (l : List UInt8) (v : Val) (at_ e : Int) : Int := if e = 0 then (if rightB v then 0 else 11) else if pfB l v.k at_ e then e else 11
/-- What a switch's way leaves suits what is read. -/
def Suits (l : List UInt8) (a : Nat) (v : Val) (at_ e : Int) : Prop := finE l v at_ e = (vR l a).1 ∧ ((vR l a).1 = 0 → v = (vR l a).2.1 ∧ at_ = (vR l a).2.2)
def GotV (w : World) (g : Nat) (A : Option Addr) (n c : Nat) (l : List UInt8) (a : Nat) (en : Ending) (w' : World) : Prop :=
  ∃ v at_ e, en = .returned (vv_ v) ∧ Blk w' g 145 (rc A n c at_ e) ∧ w.grownBy w' (some g) ∧ e = (vR l a).1 ∧ (e = 0 → v = (vR l a).2.1 ∧ at_ = (vR l a).2.2)
theorem pfB_1 (l : List UInt8) (k at_ e : Int) (h : ¬ e = 10 ∨ ¬ k = 4) : pfB l k at_ e = true := by
  unfold pfB
  rcases h with h | h <;> simp [h]
theorem suits_end {l : List UInt8} {a : Nat} {v : Val} {at_ e : Int} (he : ¬ e = 0) (h : (vR l a).1 = if pfB l v.k at_ e then e else 11) : Suits l a v at_ e := by
  refine ⟨by unfold finE; rw [if_neg he, h], fun h0 => ?_⟩
  rw [h] at h0
  split at h0
  · exact absurd h0 he
  · cases h0
theorem suits_ok {l : List UInt8} {a to : Nat} {v : Val} {at_ : Int} (h : vR l a = fin v to) (ht : at_ = (to : Int)) : Suits l a v at_ 0 := by
  unfold Suits finE
  rw [h, if_pos rfl]
  unfold fin
  split
  · exact ⟨rfl, fun _ => ⟨rfl, ht⟩⟩
  · exact ⟨rfl, fun h => by cases h⟩
theorem txS_len (l : List UInt8) (a : Int) : (txS l a).length ≤ l.length := by
  unfold txS
  split
  · unfold gbL
    split
    · rw [List.length_take, List.length_drop]; omega
    · simp
  · simp
theorem text_suits {l : List UInt8} {a : Nat} {k : Int} (ha : a < l.length) (hk : k = at8 l a) (h45 : at8 l a = 4 ∨ at8 l a = 5) : Suits l a ⟨k, 0, txS l ((a + 1 : Nat) : Int)⟩ (txTo l ((a + 1 : Nat) : Int)) (txE l ((a + 1 : Nat) : Int)) := by
  have hv : vR l a = (if gE l ((a + 1 : Nat) : Int) ≠ 0 then no (gE l ((a + 1 : Nat) : Int))
    else if 1000 < gN l ((a + 1 : Nat) : Int) then no 11
    else if gbE l ((a + 1 : Nat) : Int) ≠ 0 then no (if at8 l a = 4 ∧ (l.drop (gTo l ((a + 1 : Nat) : Int)).toNat).all vis = false then 11 else 10)
    else fin ⟨at8 l a, 0, gbL l ((a + 1 : Nat) : Int)⟩ (gbTo l ((a + 1 : Nat) : Int)).toNat) := by
    unfold vR
    rw [if_neg (by omega), if_neg (by omega), if_neg (by omega), if_neg (by omega), if_pos h45]
  have te : txE l ((a + 1 : Nat) : Int) ≠ 0 → txTo l ((a + 1 : Nat) : Int) = ((a + 1 : Nat) : Int) := fun h => by unfold txTo; rw [if_neg h]
  by_cases c1 : gE l ((a + 1 : Nat) : Int) ≠ 0
  · rw [if_pos c1] at hv
    have e1 : txE l ((a + 1 : Nat) : Int) = gE l ((a + 1 : Nat) : Int) := by unfold txE; rw [if_pos c1]
    have h0 : txE l ((a + 1 : Nat) : Int) ≠ 0 := by rw [e1]; exact c1
    refine suits_end h0 ?_
    rw [te h0, hv]
    have : pfB l k ((a + 1 : Nat) : Int) (txE l ((a + 1 : Nat) : Int)) = true := by unfold pfB; rw [decide_eq_false (show ¬ gE l ((a + 1 : Nat) : Int) = 0 from c1)]; simp
    rw [this, if_pos rfl, e1]; rfl
  rw [if_neg c1] at hv
  by_cases c2 : 1000 < gN l ((a + 1 : Nat) : Int)
  · rw [if_pos c2] at hv
    have e1 : txE l ((a + 1 : Nat) : Int) = 11 := by unfold txE; rw [if_neg c1, if_pos c2]
    rw [e1]
    refine suits_end (by simp) ?_
    rw [pfB_1 _ _ _ _ (.inl (by simp)), if_pos rfl, hv]; rfl
  rw [if_neg c2] at hv
  have e1 : txE l ((a + 1 : Nat) : Int) = gbE l ((a + 1 : Nat) : Int) := by unfold txE; rw [if_neg c1, if_neg c2]
  by_cases c3 : gbE l ((a + 1 : Nat) : Int) ≠ 0
  · rw [if_pos c3] at hv
    have h0 : txE l ((a + 1 : Nat) : Int) ≠ 0 := by rw [e1]; exact c3
    have h10 : gbE l ((a + 1 : Nat) : Int) = 10 := by
      rcases gb_cases l ((a + 1 : Nat) : Int) with h | ⟨h, q⟩ | ⟨h, q, m⟩ | ⟨h, q, m⟩
      · exact absurd h c1
      · omega
      · exact (gb_err3 h q m).1
      · exact absurd (gb_ok h q m).1 c3
    refine suits_end h0 ?_
    rw [te h0, hv, e1, h10]
    have c1' : gE l ((a + 1 : Nat) : Int) = 0 := by simpa using c1
    by_cases h4 : at8 l a = 4
    · unfold pfB
      rw [hk, h4, c1']
      cases hvz : (l.drop (gTo l ((a + 1 : Nat) : Int)).toNat).all vis <;> simp [no]
    · rw [pfB_1 _ _ _ _ (.inr (by show ¬ k = 4; omega)), if_pos rfl, if_neg (by omega)]; rfl
  · rw [if_neg c3] at hv
    have c3' : gbE l ((a + 1 : Nat) : Int) = 0 := by simpa using c3
    have e0 : txE l ((a + 1 : Nat) : Int) = 0 := e1.trans c3'
    have e2 : txS l ((a + 1 : Nat) : Int) = gbL l ((a + 1 : Nat) : Int) := by unfold txS; rw [if_pos e0]
    have e3 : txTo l ((a + 1 : Nat) : Int) = gbTo l ((a + 1 : Nat) : Int) := by unfold txTo; rw [if_pos e0]
    rw [e0, e2, e3]
    refine suits_ok (to := (gbTo l ((a + 1 : Nat) : Int)).toNat) (by rw [hv, hk]) ?_
    obtain ⟨x, t, hx, hxl, _, hT, _⟩ := g_ok (l := l) (a := ((a + 1 : Nat) : Int)) (by simpa using c1)
    have := gN_nonneg l ((a + 1 : Nat) : Int)
    unfold gbTo
    rw [if_pos c3', hT]; omega
section
variable {w : World} {B g n c a : Nat} {A : Option Addr} {l : List UInt8} {e : Int}
set_option maxRecDepth 100000 in
set_option maxHeartbeats 1000000 in
theorem rval_any (hr : Rd w w.heap.size A n l) (hr0 : Rd w B A n l) (hBg : B ≤ g) (hn : n ≤ 1000000000) (hnc : n ≤ c) (ha : a ≤ n) (hB : Blk w g 145 (rc A n c a 0)) :
    Calls Tryd.prog 87 #[.pointer (some ⟨g, 0, none⟩)] w (GotV w g A n c l a) := by
  refine calls_ev (args := [.pointer (some ⟨g, 0, none⟩)]) mixed Tryd.func87 rfl (by kernel_rfl) ?_
  have hln := hr.len
  have hlt := hB.lt
  refine v_allocB _ al_val ?_
  rintro g2 W0 hg2 hB2 hb2 hsz2
  have hBW0 := hB.belowB hb2 (by omega)
  have hr1 : Rd W0 B A n l := hr0.keep (fun p hp => hb2.cell (by omega))
  have G0 : w.grownBy W0 (some g) := gbelow (hb2.mono (by omega))
  by_cases hend : a = n
  · subst hend
    refine cc is_rone (rone_end hBW0) ?_
    rintro en W1 ⟨rfl, hB1, hg1, hs1⟩
    refine ⟨_, rfl, ?_⟩
    have hB21 := hB2.grownN hg1 (by omega)
    refine v_cvt (by kernel_rfl) (by kernel_rfl) rfl (w64 (by omega)) ?_
    refine p_build (vs := vc ⟨0, 0, []⟩) pl_val zv rfl ?_
    refine v_allocB _ al_val ?_
    rintro g3 W2 hg3 hB3 hb3 hsz3
    refine v_storeA (vc ⟨0, 0, []⟩) sz_val rfl rfl rfl (by intro u hu; exact vcs_one [⟨0, 0, []⟩] u (by simpa [vcs] using hu)) hB3 rfl ?_
    rintro W3 hB33 hg33 hsz33
    have hB1' := (hB1.belowB hb3 (by omega)).grownN hg33 (by omega)
    have hB2' := (hB21.belowB hb3 (by omega)).grownN hg33 (by omega)
    refine p_nil rfl ?_
    refine p_fld fr2 rfl ?_
    refine v_load agg_err rfl (hB1'.at_ rfl) ?_
    refine p_ne rfl rfl (fun e => by cases e) (fun _ => ?_)
    refine v_loadN (vc ⟨0, 0, []⟩) agg_val rfl rfl (hB33.run 0 _ (fun j v h => by rw [Nat.zero_add]; exact h)) ?_
    refine v_storeA (vc ⟨0, 0, []⟩) sz_val rfl rfl rfl (by intro u hu; exact vcs_one [⟨0, 0, []⟩] u (by simpa [vcs] using hu)) hB2' rfl ?_
    rintro W4 hB24 hg4 hsz4
    refine ⟨⟨_, _, rfl, run_loadN agg_val (vc ⟨0, 0, []⟩) rfl (hB24.run 0 _ (fun j v h => by rw [Nat.zero_add]; exact h)), ?_⟩⟩
    have hv : (vR l a).1 = 10 := by unfold vR; rw [if_pos (by omega)]; rfl
    refine ⟨⟨0, 0, []⟩, a, 10, rfl, hB1'.grownN hg4 (by omega), ?_, hv.symm, fun h => by cases h⟩
    exact gnew (gnew (gtrans (gtrans G0 hg1) (gbelow (hb3.mono (by omega)))) hg33 (by omega)) hg4 (by omega)
  have hal : a < n := by omega
  refine cc is_rone (rone_more hr1 hBg hn hal hBW0) ?_
  rintro en W1 ⟨rfl, hB1, hg1, hs1⟩
  refine ⟨_, rfl, ?_⟩
  have h80 := at8_lo l a
  have h81 := at8_hi l a
  obtain ⟨k, hk⟩ : ∃ k, k = at8 l a := ⟨_, rfl⟩
  rw [← hk] at h80 h81 ⊢
  have hB21 := hB2.grownN hg1 (by omega)
  refine v_cvt (by kernel_rfl) (by kernel_rfl) rfl (w64 (by omega)) ?_
  refine p_build (vs := vc ⟨k, 0, []⟩) pl_val zv rfl ?_
  refine v_allocB _ al_val ?_
  rintro g3 W2 hg3 hB3 hb3 hsz3
  refine v_storeA (vc ⟨k, 0, []⟩) sz_val rfl rfl rfl (by intro u hu; exact vcs_one [⟨k, 0, []⟩] u (by simpa [vcs] using hu)) hB3 rfl ?_
  rintro W3 hB33 hg33 hsz33
  have hB1' := (hB1.belowB hb3 (by omega)).grownN hg33 (by omega)
  have hB2' := (hB21.belowB hb3 (by omega)).grownN hg33 (by omega)
  have G3 : w.grownBy W3 (some g) := gnew (gtrans (gtrans G0 hg1) (gbelow (hb3.mono (by omega)))) hg33 (by omega)
  have hr3 : Rd W3 B A n l := hr0.grownG G3 hBg hlt
  clear hB3 hB21 hB1 hBW0 hr1
  replace hB33 : Blk W3 g3 61 [.int .i64 k, .int .i64 0, .string (sb [])] := hB33
  refine p_nil rfl ?_
  refine p_fld fr2 rfl ?_
  refine v_load agg_err rfl (hB1'.at_ rfl) ?_
  refine p_ne rfl rfl (fun _ => ?_) (fun h => absurd rfl h)
  refine evOps_nil ?_
  refine nx ?_
  refine ev_iff rfl ?_
  refine ev_skp ?_
  refine nx ?_
  refine cutS (Val × Int × Int) (fun s W => Blk W g 145 (rc A n c s.2.1 s.2.2) ∧ Blk W g3 61 (vc s.1) ∧ Blk W g2 61 (vc ⟨0, 0, []⟩) ∧ w.grownBy W (some g) ∧ Suits l a s.1 s.2.1 s.2.2 ∧ s.1.s.length ≤ 1000000000) (fun s => [(0, .pointer (some ⟨g, 0, none⟩)), (2, .pointer (some ⟨g2, 0, none⟩)), (3, .pointer (some ⟨g3, 0, none⟩))]) ?_ ?_
  · refine p_fld fv0 rfl ?_
    refine v_load agg_int rfl (hB33.at_ rfl) ?_
    refine p_eq rfl rfl (fun e1 => ?_) (fun e1 => ?_)
    · subst e1
      refine ⟨(⟨1, 0, []⟩, ((a + 1 : Nat) : Int), 0), ⟨hB1', hB33, hB2', G3, ?_, by simp⟩, rfl, rfl, rfl, trivial⟩
      refine suits_ok (to := a + 1) ?_ rfl
      unfold vR; rw [if_neg (by omega), if_pos hk.symm]; rfl
    refine p_eq rfl rfl (fun e2 => ?_) (fun e2 => ?_)
    · subst e2
      by_cases hend2 : a + 1 = n
      · subst hend2
        refine cc is_rone (rone_end hB1') ?_
        rintro en W4 ⟨rfl, hB4, hg4, hs4⟩
        refine ⟨_, rfl, ?_⟩
        refine v_cvt (by kernel_rfl) (by kernel_rfl) rfl (w64 (by omega)) ?_
        refine p_fld fv1 rfl ?_
        refine v_set (.int .i64 0) sz_int (hB33.grownN hg4 (by omega)) rfl rfl rfl (by show 1 < 3; omega) ?_
        rintro W5 hB5 hg5 hs5
        refine ⟨(⟨2, 0, []⟩, ((a + 1 : Nat) : Int), 10), ⟨hB4.grownN hg5 (by omega), hB5, (hB2'.grownN hg4 (by omega)).grownN hg5 (by omega), gnew (gtrans G3 hg4) hg5 (by omega), ?_, by simp⟩, rfl, rfl, rfl, trivial⟩
        refine suits_end (by simp) ?_
        rw [pfB_1 _ _ _ _ (.inr (by simp)), if_pos rfl]
        unfold vR; rw [if_neg (by omega), if_neg (by omega), if_pos hk.symm, if_pos (by omega)]; rfl
      · refine cc is_rone (rone_more hr3 hBg hn (by omega) hB1') ?_
        rintro en W4 ⟨rfl, hB4, hg4, hs4⟩
        refine ⟨_, rfl, ?_⟩
        have h82 := at8_lo l (a + 1)
        have h83 := at8_hi l (a + 1)
        refine v_cvt (by kernel_rfl) (by kernel_rfl) rfl (w64 (by omega)) ?_
        refine p_fld fv1 rfl ?_
        refine v_set (.int .i64 (at8 l (a + 1))) sz_int (hB33.grownN hg4 (by omega)) rfl rfl rfl (by show 1 < 3; omega) ?_
        rintro W5 hB5 hg5 hs5
        refine ⟨(⟨2, at8 l (a + 1), []⟩, ((a + 1 + 1 : Nat) : Int), 0), ⟨hB4.grownN hg5 (by omega), hB5, (hB2'.grownN hg4 (by omega)).grownN hg5 (by omega), gnew (gtrans G3 hg4) hg5 (by omega), ?_, by simp⟩, rfl, rfl, rfl, trivial⟩
        refine suits_ok (to := a + 2) ?_ rfl
        unfold vR; rw [if_neg (by omega), if_neg (by omega), if_pos hk.symm, if_neg (by omega)]
    refine p_eq rfl rfl (fun e3 => ?_) (fun e3 => ?_)
    · subst e3
      refine cc is_rnum (rnum_any hr3 hn hnc ((a + 1 : Nat) : Int) hB1') ?_
      rintro en W4 ⟨rfl, hB4, hg4, hs4⟩
      refine ⟨_, rfl, ?_⟩
      refine p_fld fv1 rfl ?_
      refine v_set (.int .i64 (zag (gN l ((a + 1 : Nat) : Int)))) sz_int (hB33.grownN hg4 (by omega)) rfl rfl rfl (by show 1 < 3; omega) ?_
      rintro W5 hB5 hg5 hs5
      refine ⟨(⟨3, zag (gN l ((a + 1 : Nat) : Int)), []⟩, gTo l ((a + 1 : Nat) : Int), gE l ((a + 1 : Nat) : Int)), ⟨hB4.grownN hg5 (by omega), hB5, (hB2'.grownN hg4 (by omega)).grownN hg5 (by omega), gnew (gtrans G3 hg4) hg5 (by omega), ?_, by simp⟩, rfl, rfl, rfl, trivial⟩
      by_cases h0 : gE l ((a + 1 : Nat) : Int) = 0
      · obtain ⟨x, t, hx, hxl, _, hT, _⟩ := g_ok h0
        rw [h0]
        refine suits_ok (to := (gTo l ((a + 1 : Nat) : Int)).toNat) ?_ (by show gTo l _ = _; rw [hT]; omega)
        unfold vR; rw [if_neg (by omega), if_neg (by omega), if_neg (by omega), if_pos hk.symm, if_neg (by simpa using h0)]; rfl
      · refine suits_end h0 ?_
        rw [pfB_1 _ _ _ _ (.inr (by simp)), if_pos rfl]
        unfold vR; rw [if_neg (by omega), if_neg (by omega), if_neg (by omega), if_pos hk.symm, if_pos h0]; rfl
    refine p_eq rfl rfl (fun e4 => ?_) (fun e4 => ?_)
    rotate_left
    refine p_eq rfl rfl (fun e5 => ?_) (fun e5 => ?_)
    rotate_left
    · refine p_nil rfl ?_
      refine p_fld fr2 rfl ?_
      refine v_set (.int .i64 11) sz_err hB1' rfl rfl rfl (by show 2 < 3; omega) ?_
      rintro W5 hB5 hg5 hs5
      refine ⟨(⟨k, 0, []⟩, ((a + 1 : Nat) : Int), 11), ⟨hB5, hB33.grownN hg5 (by omega), hB2'.grownN hg5 (by omega), gtrans G3 hg5, ?_, by simp⟩, rfl, rfl, rfl, trivial⟩
      refine suits_end (by simp) ?_
      rw [pfB_1 _ _ _ _ (.inl (by simp)), if_pos rfl]
      unfold vR; rw [if_neg (by omega), if_neg (by omega), if_neg (by omega), if_neg (by omega), if_neg (by omega)]; rfl
    all_goals
      have h45 : at8 l a = 4 ∨ at8 l a = 5 := by omega
      refine cc is_rtext (rtext_any (hr3.more (by omega)) hr3 hBg hn hnc ((a + 1 : Nat) : Int) hB1') ?_
      rintro en W4 ⟨rfl, hB4, hg4⟩
      refine ⟨_, rfl, ?_⟩
      refine p_fld fv2 rfl ?_
      refine v_set (.string (sb (txS l ((a + 1 : Nat) : Int)))) sz_str (hB33.grownN hg4 (by omega)) rfl rfl rfl (by show 2 < 3; omega) ?_
      rintro W5 hB5 hg5 hs5
      have hg4s := hg4.size
      refine ⟨(⟨k, 0, txS l ((a + 1 : Nat) : Int)⟩, txTo l ((a + 1 : Nat) : Int), txE l ((a + 1 : Nat) : Int)), ⟨hB4.grownN hg5 (by omega), hB5, (hB2'.grownN hg4 (by omega)).grownN hg5 (by omega), gnew (gtrans G3 hg4) hg5 (by omega), text_suits (by omega) hk h45, ?_⟩, rfl, rfl, rfl, trivial⟩
      exact Nat.le_trans (txS_len l _) (by omega)
  · rintro ⟨v, at_, e⟩ E4 W4 ⟨hB4, hB43, hB42, G4, hS, hvl⟩
    dsimp only at hB4 hB43 hS hvl
    have hw4 := G4.size
    have hr4 : Rd W4 B A n l := hr0.grownG G4 hBg hlt
    have hlt3 := hB43.lt
    have hlt2 := hB42.lt
    -- the last steps
    have last : ∀ (W : World) (e' : Int), Blk W g 145 (rc A n c at_ e') → Blk W g3 61 (vc v) → Blk W g2 61 (vc ⟨0, 0, []⟩) → w.grownBy W (some g) → e' = finE l v at_ e → ∀ (W' : World), Blk W' g2 61 (vc v) → W.grownBy W' (some g2) → GotV w g A n c l a (.returned (vv_ v)) W' := by
      intro W e' h1 h2 h3 h4 h5 W' h6 h7
      refine ⟨v, at_, e', rfl, h1.grownN h7 (by omega), gnew h4 h7 (by omega), h5.trans hS.1, fun h0 => ?_⟩
      exact hS.2 (hS.1.symm.trans (h5.symm.trans h0))
    have one1 : ∀ u ∈ vc v, u.oneCell' = true := by intro u hu; exact vcs_one [v] u (by simpa [vcs] using hu)
    refine p_nil rfl ?_
    refine p_fld fr2 rfl ?_
    refine v_load agg_err rfl (hB4.at_ rfl) ?_
    refine p_eq rfl rfl (fun h0 => ?_) (fun h0 => ?_)
    · refine v_loadN (vc v) agg_val rfl rfl (hB43.run 0 _ (fun j v h => by rw [Nat.zero_add]; exact h)) ?_
      refine cc is_chk (chk_any v W4 (by omega)) ?_
      rintro en W5 ⟨rfl, b5⟩
      refine ⟨_, rfl, ?_⟩
      have hB5 := hB4.below b5
      have hB53 := hB43.below b5
      have hB52 := hB42.below b5
      have G5 := gtrans G4 (gbelow b5)
      have hs5 := b5.size
      refine p_ne rfl rfl (fun hc => ?_) (fun hc => ?_)
      · refine v_loadN (vc v) agg_val rfl rfl (hB53.run 0 _ (fun j v h => by rw [Nat.zero_add]; exact h)) ?_
        have hr5 : Rd W5 W5.heap.size A n l := (hr4.keep (fun p hp => b5.cell (by omega))).more (by omega)
        refine cc is_rpre (rpre_any hr5 hn hnc at_ hB5 v) ?_
        rintro en W6 ⟨b, rfl, hb, b6⟩
        refine ⟨_, rfl, ?_⟩
        rw [pfB_1 _ _ _ _ (.inl (by omega))] at hb
        subst hb
        refine p_not rfl ?_
        refine v_loadN (vc v) agg_val rfl rfl ((hB53.below b6).run 0 _ (fun j v h => by rw [Nat.zero_add]; exact h)) ?_
        refine v_storeA (vc v) sz_val rfl rfl rfl one1 (hB52.below b6) rfl ?_
        rintro W7 hB7 hg7 hs7
        refine ⟨⟨_, _, rfl, run_loadN agg_val (vc v) rfl (hB7.run 0 _ (fun j v h => by rw [Nat.zero_add]; exact h)), ?_⟩⟩
        exact last W6 e (hB5.below b6) (hB53.below b6) (hB52.below b6) (gtrans G5 (gbelow b6)) (by unfold finE; rw [if_pos h0, chkE_eq hc]; exact h0) W7 hB7 hg7
      · refine p_nil rfl ?_
        refine p_fld fr2 rfl ?_
        refine v_set (.int .i64 11) sz_err hB5 rfl rfl rfl (by show 2 < 3; omega) ?_
        rintro W6 hB6 hg6 hs6
        refine v_loadN (vc v) agg_val rfl rfl ((hB53.grownN hg6 (by omega)).run 0 _ (fun j v h => by rw [Nat.zero_add]; exact h)) ?_
        refine v_storeA (vc v) sz_val rfl rfl rfl one1 (hB52.grownN hg6 (by omega)) rfl ?_
        rintro W7 hB7 hg7 hs7
        refine ⟨⟨_, _, rfl, run_loadN agg_val (vc v) rfl (hB7.run 0 _ (fun j v h => by rw [Nat.zero_add]; exact h)), ?_⟩⟩
        exact last W6 11 hB6 (hB53.grownN hg6 (by omega)) (hB52.grownN hg6 (by omega)) (gtrans G5 hg6) (by unfold finE; rw [if_pos h0, (chkE_ne hc).1]; rfl) W7 hB7 hg7
    · refine v_loadN (vc v) agg_val rfl rfl (hB43.run 0 _ (fun j v h => by rw [Nat.zero_add]; exact h)) ?_
      refine cc is_rpre (rpre_any (hr4.more (by omega)) hn hnc at_ hB4 v) ?_
      rintro en W6 ⟨b, rfl, hb, b6⟩
      refine ⟨_, rfl, ?_⟩
      have hB6 := hB4.below b6
      have hB63 := hB43.below b6
      have hB62 := hB42.below b6
      have G6 := gtrans G4 (gbelow b6)
      have hs6 := b6.size
      cases b
      · refine p_not rfl ?_
        refine p_nil rfl ?_
        refine p_fld fr2 rfl ?_
        refine v_set (.int .i64 11) sz_err hB6 rfl rfl rfl (by show 2 < 3; omega) ?_
        rintro W8 hB8 hg8 hs8
        refine v_loadN (vc v) agg_val rfl rfl ((hB63.grownN hg8 (by omega)).run 0 _ (fun j v h => by rw [Nat.zero_add]; exact h)) ?_
        refine v_storeA (vc v) sz_val rfl rfl rfl one1 (hB62.grownN hg8 (by omega)) rfl ?_
        rintro W7 hB7 hg7 hs7
        refine ⟨⟨_, _, rfl, run_loadN agg_val (vc v) rfl (hB7.run 0 _ (fun j v h => by rw [Nat.zero_add]; exact h)), ?_⟩⟩
        exact last W8 11 hB8 (hB63.grownN hg8 (by omega)) (hB62.grownN hg8 (by omega)) (gtrans G6 hg8) (by unfold finE; rw [if_neg h0, ← hb]; rfl) W7 hB7 hg7
      · refine p_not rfl ?_
        refine v_loadN (vc v) agg_val rfl rfl (hB63.run 0 _ (fun j v h => by rw [Nat.zero_add]; exact h)) ?_
        refine v_storeA (vc v) sz_val rfl rfl rfl one1 hB62 rfl ?_
        rintro W7 hB7 hg7 hs7
        refine ⟨⟨_, _, rfl, run_loadN agg_val (vc v) rfl (hB7.run 0 _ (fun j v h => by rw [Nat.zero_add]; exact h)), ?_⟩⟩
        exact last W6 e hB6 hB63 hB62 G6 (by unfold finE; rw [if_neg h0, ← hb]; rfl) W7 hB7 hg7
end
end Go.Proofs.YtejbljopighenaaDoor
namespace Go.Proofs.YtejbljopighenaaDoor
open Go.RowKit
section
variable {P : Program} {E : Env} {d : Option Nat} {ty : TypeId} {p : String} {af : Array Edge} {gd : Option (Nat × Bool)} {x y : Operand} {t : TypeId} {kw : Value → World → Prop} {w : World}
/-- append, of whatever. -/
theorem v_appG {e : TypeId} {z : Value} {size bytes : Nat} (hT : P.underlying t = some (.slice e)) (hi : (P.info? e).map (fun i => (i.zero, i.size, i.bytes)) = some (some z, size, bytes)) (hzs : z.cells.size = size) (hs0 : 0 < size)
    {base : Nat} {A : Option Addr} {n c : Nat} {xs : List Value} (hx : val E x = .slice A n c) (hown : w.ownsRow base e size (.slice A n c) n xs) {B : Nat} {A2 : Option Addr} {m c2 : Nat} {news : List Value} (hy : val E y = .slice A2 m c2) (hr : Reads w B size A2 m news) (h1 : ∀ u ∈ news, u.oneCell' = true)
    (hsz : n + m ≤ 1000000000 ∧ bytes ≤ 1000) (hbase : base ≤ w.heap.size)
    (h : ∀ A' c' w', w'.ownsRow base e size (.slice A' (n + m) c') (n + m) (xs ++ news) → w.grownBy w' (Value.slice A n c).ownBlock → kw (.slice A' (n + m) c') w') :
    VVal P E { dst := d, op := .call { callee := .builtin .append, args := #[x, y], argTypes := #[t, t] }, type := ty, pos := p, after := af, guard := gd } w kw := by
  obtain ⟨i, hi0, hz0, hz1, hz2⟩ := info_parts hi
  have hb : (n + m) * bytes ≤ 140737488355328 := by
    have := Nat.mul_le_mul hsz.1 hsz.2
    omega
  obtain ⟨v', w', hrun, h2, h3, h4, h5⟩ := run_append_any (P := P) w base t ty e i z size bytes hT hi0 hz0 hz1 hz2 hzs hs0 _ n _ hown B A2 m c2 _ hr h1 (by unfold maxLen; omega) hb hbase
  obtain ⟨A', c', rfl⟩ := own_slice h2
  refine vv (v := .slice A' (n + m) c') (w' := w') ?_ (h A' c' w' h2 h3)
  simp [execOp, resolve, invoke, builtin, hx, hy, hrun]
/-- A block reads as its cells. -/
theorem Reads.blk {g : Nat} {e : TypeId} {size n : Nat} {cs : List Value} (h : Blk w g e cs) (hl : cs.length = n * size) : Reads w w.heap.size size (some ⟨g, 0, none⟩) n cs :=
  ⟨hl, fun _ => ⟨g, 0, rfl, h.lt, fun j u hu => by rw [Nat.zero_add]; exact h.at_ hu⟩⟩
theorem ownsRow_below {base : Nat} {e : TypeId} {size n : Nat} {v : Value} {xs : List Value} {w' : World} (h : w.ownsRow base e size v n xs) (hb : Below w.heap.size w w') : w'.ownsRow base e size v n xs :=
  World.ownsRow.kept h (row := none) ⟨hb.os, hb.tape, hb.output, hb.size, fun k hk _ => hb.block k hk⟩ (by cases v.ownBlock <;> simp)
/-- What is owned lies in a block of its own type. -/
theorem ownsRow_ne {base : Nat} {e T : TypeId} {size n : Nat} {v : Value} {xs cs : List Value} {g : Nat} (h : w.ownsRow base e size v n xs) (hB : Blk w g T cs) (hne : e ≠ T) : v.ownBlock ≠ some g := by
  intro he
  rcases h.2 with ⟨hv, _⟩ | ⟨g', cap, cur, hv, _, hh, _⟩
  · rw [hv] at he; cases he
  · rw [hv] at he
    have he : g' = g := by simpa [Value.ownBlock] using he
    subst he
    have := hh.symm.trans hB
    injection this with this
    injection this with _ this
    exact hne this
end
section
variable {W W' w w0 : World} {F : Nat → Prop} {gs gs' : List (Option Nat)}
/-- A slice that reads as data: its cells. -/
theorem RdD.reads {s n n' c : Nat} {l : List D} {A : Option Addr} (h : RdD W F (.sl s n l) (.slice A n' c)) (hF : ∀ b, F b → b < W.heap.size) : ∃ cs, Reads W W.heap.size s A n' cs ∧ RdL W F l cs := by
  have hs := h.slen
  obtain ⟨A', c2, cs, h1, h2, h3, h4, h5⟩ := RdD.sl_iff.1 h
  injection h1 with e1 _ _
  subst e1; subst hs
  refine ⟨cs, ⟨by rw [h4.len, h3], fun hn => ?_⟩, h4⟩
  obtain ⟨b, off, h6, h7, h8⟩ := h5 hn
  exact ⟨b, off, h6, hF b h7, h8⟩
def D.One : D → Prop
  | .v x => x.oneCell' = true
  | .sl .. => True
theorem RdD.one' {d : D} {u : Value} (h : RdD W F d u) (ho : d.One) : u.oneCell' = true := by
  cases d with
  | v x => rw [RdD.val.1 h]; exact ho
  | sl s n l => obtain ⟨A, c, e, _⟩ := h.open_; rw [e]; rfl
theorem RdL.ones : ∀ {ds : List D} {cs : List Value}, RdL W F ds cs → (∀ d ∈ ds, d.One) → ∀ u ∈ cs, u.oneCell' = true
  | [], cs, h, _, u, hu => by rw [h.isnil] at hu; cases hu
  | d :: ds, cs, h, ho, u, hu => by
    obtain ⟨v, vs, rfl, h1, h2⟩ := h.uncons
    rcases List.mem_cons.1 hu with rfl | hu
    · exact h1.one' (ho d (by simp))
    · exact RdL.ones h2 (fun d hd => ho d (by simp [hd])) u hu
theorem row_bklo {base n c s : Nat} {e : TypeId} {A : Option Addr} {xs : List Value} (h : W.ownsRow base e s (.slice A n c) n xs) : ∀ b, bk A = some b → base ≤ b ∧ b < W.heap.size := fun b hb => World.ownsRow.lt h b (by rw [own_bk]; exact hb)
theorem row_kept' {base n c s : Nat} {e : TypeId} {A : Option Addr} {xs : List Value} {r : Option Nat} (h : W.ownsRow base e s (.slice A n c) n xs) (hg : W.grownBy W' r) (hne : bk A = none ∨ bk A ≠ r) : W'.ownsRow base e s (.slice A n c) n xs := World.ownsRow.kept h hg (by rw [own_bk]; exact hne)
theorem row_cap' {base n c s : Nat} {e : TypeId} {A : Option Addr} {xs : List Value} (h : W.ownsRow base e s (.slice A n c) n xs) : n ≤ c := by
  rcases h.2 with ⟨hv, hn⟩ | ⟨g, cap, cur, hv, _, _, hc, _⟩
  · omega
  · injection hv with _ _ hc'; omega
theorem row_less {base base' n s : Nat} {e : TypeId} {v : Value} {xs : List Value} (h : W.ownsRow base e s v n xs) (hb : base' ≤ base) : W.ownsRow base' e s v n xs := by
  refine ⟨h.1, ?_⟩
  rcases h.2 with h2 | ⟨g, cap, cur, h3, h4, h5⟩
  · exact .inl h2
  · exact .inr ⟨g, cap, cur, h3, by omega, h5⟩
end
section
variable {P : Program} {E : Env} {d : Option Nat} {ty : TypeId} {p : String} {af : Array Edge} {gd : Option (Nat × Bool)} {x y : Operand} {t : TypeId} {kw : Value → World → Prop} {w w0 : World} {gs : List (Option Nat)}
/-- append onto a row of the call's own, which stands first among what is written. -/
theorem v_appR {e : TypeId} {z : Value} {size bytes : Nat} (hT : P.underlying t = some (.slice e)) (hi : (P.info? e).map (fun i => (i.zero, i.size, i.bytes)) = some (some z, size, bytes)) (hzs : z.cells.size = size) (hs0 : 0 < size)
    {A : Option Addr} {n c : Nat} {xs : List Value} (hx : val E x = .slice A n c) (hown : w.ownsRow w0.heap.size e size (.slice A n c) n xs) {B : Nat} {A2 : Option Addr} {m c2 : Nat} {news : List Value} (hy : val E y = .slice A2 m c2) (hr : Reads w B size A2 m news) (h1 : ∀ u ∈ news, u.oneCell' = true)
    (hsz : n + m ≤ 1000000000 ∧ bytes ≤ 1000) (hA : At w0 w (bk A :: gs))
    (h : ∀ A' c' w', w'.ownsRow w0.heap.size e size (.slice A' (n + m) c') (n + m) (xs ++ news) → Stp w (bk A :: gs) w' (bk A' :: gs) → At w0 w' (bk A' :: gs) → (A' = none ↔ A = none ∧ m = 0) → w.grownBy w' (bk A) → (∀ b, bk A' = some b → bk A = some b ∨ w.heap.size ≤ b) → kw (.slice A' (n + m) c') w') :
    VVal P E { dst := d, op := .call { callee := .builtin .append, args := #[x, y], argTypes := #[t, t] }, type := ty, pos := p, after := af, guard := gd } w kw := by
  obtain ⟨i, hi0, hz0, hz1, hz2⟩ := info_parts hi
  have hb : (n + m) * bytes ≤ 140737488355328 := by
    have := Nat.mul_le_mul hsz.1 hsz.2
    omega
  obtain ⟨v', w', hrun, h2, h3, h4, h5⟩ := run_append_any (P := P) w w0.heap.size t ty e i z size bytes hT hi0 hz0 hz1 hz2 hzs hs0 _ n _ hown B A2 m c2 _ hr h1 (by unfold maxLen; omega) hb hA.size
  obtain ⟨A', c', rfl⟩ := own_slice h2
  rw [own_bk, own_bk] at h4
  rw [own_bk] at h3
  have hb' := row_bklo h2
  refine vv (v := .slice A' (n + m) c') (w' := w') ?_ (h A' c' w' h2 (Stp.app h3 ?_) (hA.app h3 (fun b e => (row_bklo hown b e).1) (fun b e => (hb' b e).2)) ⟨?_, ?_⟩ h3 (fun b e => by
    rcases h4 with h4 | h4
    · left; rw [← h4]; exact e
    · right; rw [h4] at e; injection e with e; omega))
  · simp [execOp, resolve, invoke, builtin, hx, hy, hrun]
  · intro b e
    rcases h4 with h4 | h4
    · exact .inl h4
    · right; rw [h4] at e; injection e with e; omega
  · rintro rfl
    have : Value.slice none (n + m) c' = .slice none 0 0 := by
      rcases h2.2 with ⟨e, _⟩ | ⟨g, cap, cur, e, _⟩
      · exact e
      · simp at e
    obtain ⟨e1, e2⟩ := h5.1 this
    injection e1 with e1
    exact ⟨e1, e2⟩
  · rintro ⟨rfl, rfl⟩
    have : Value.slice none n c = .slice none 0 0 := by
      rcases hown.2 with ⟨e, _⟩ | ⟨g, cap, cur, e, _⟩
      · exact e
      · simp at e
    have := h5.2 ⟨this, rfl⟩
    injection this
end
end Go.Proofs.YtejbljopighenaaDoor
namespace Go.Proofs.YtejbljopighenaaDoor
open Go.RowKit

theorem fin_ok {v : Val} {to : Nat} (h : (fin v to).1 = 0) : fin v to = (0, v, to) ∧ rightB v = true := by
  unfold fin at h ⊢
  cases hb : rightB v
  · rw [hb] at h; cases h
  · exact ⟨rfl, rfl⟩
theorem gbL_len (l : List UInt8) (a : Int) : (gbL l a).length ≤ l.length := by
  unfold gbL
  split
  · rw [List.length_take, List.length_drop]; omega
  · simp
theorem zag_ok {x : Int} (h0 : 0 ≤ x) (h1 : x < 18446744073709551616) : -9223372036854775808 ≤ zag x ∧ zag x ≤ 9223372036854775807 := by unfold zag; split <;> omega
/-- What is read may be, and stands within. -/
theorem vR_ok {l : List UInt8} {a : Nat} (hl : l.length ≤ 9223372036854775807) (h : (vR l a).1 = 0) : a < (vR l a).2.2 ∧ (vR l a).2.2 ≤ l.length ∧ rightB (vR l a).2.1 = true ∧ VOk (vR l a).2.1 ∧ (vR l a).2.1.s.length ≤ l.length := by
  unfold vR at h ⊢
  split at h
  · cases h
  rename_i c1
  rw [if_neg c1]
  split at h
  · rename_i c2
    rw [if_pos c2]
    exact ⟨by show a < a + 1; omega, by show a + 1 ≤ _; omega, rfl, ⟨by simp, by simp, by simp⟩, by simp⟩
  rename_i c2
  rw [if_neg c2]
  split at h
  · rename_i c3
    rw [if_pos c3]
    split at h
    · cases h
    rename_i c4
    rw [if_neg c4]
    obtain ⟨e, hr⟩ := fin_ok h
    rw [e]
    have := at8_lo l (a + 1)
    have := at8_hi l (a + 1)
    exact ⟨by show a < a + 2; omega, by show a + 2 ≤ _; omega, hr, ⟨by simp, ⟨by show _ ≤ at8 l (a + 1); omega, by show at8 l (a + 1) ≤ _; omega⟩, by simp⟩, by simp⟩
  rename_i c3
  rw [if_neg c3]
  split at h
  · rename_i c4
    rw [if_pos c4]
    split at h
    · rename_i c5; exact absurd h c5
    rename_i c5
    rw [if_neg c5]
    obtain ⟨x, t, hx, hxl, _, hT, h1, hle, _⟩ := g_ok (l := l) (a := ((a + 1 : Nat) : Int)) (by simpa using c5)
    have hz := zag_ok (gN_nonneg l ((a + 1 : Nat) : Int)) (gN_lt l _)
    exact ⟨by show a < (gTo l _).toNat; rw [hT]; omega, by show (gTo l _).toNat ≤ _; rw [hT]; omega, rfl, ⟨by simp, hz, by simp⟩, by simp⟩
  rename_i c4
  rw [if_neg c4]
  split at h
  · rename_i c5
    rw [if_pos c5]
    split at h
    · rename_i c6; exact absurd h c6
    rename_i c6
    rw [if_neg c6]
    split at h
    · cases h
    rename_i c7
    rw [if_neg c7]
    split at h
    · exfalso; revert h; show (if _ then (11 : Int) else 10) = 0 → False
      split <;> intro h <;> cases h
    rename_i c8
    rw [if_neg c8]
    obtain ⟨e, hr⟩ := fin_ok h
    rw [e]
    obtain ⟨x, t, hx, hxl, _, hT, h1, hle, _⟩ := g_ok (l := l) (a := ((a + 1 : Nat) : Int)) (by simpa using c6)
    have c8' : gbE l ((a + 1 : Nat) : Int) = 0 := by simpa using c8
    have hn := gN_nonneg l ((a + 1 : Nat) : Int)
    have hgb := gbL_len l ((a + 1 : Nat) : Int)
    have h8 := at8_lo l a
    have h82 := at8_hi l a
    have hgt : gbTo l ((a + 1 : Nat) : Int) = gTo l ((a + 1 : Nat) : Int) + gN l ((a + 1 : Nat) : Int) := by unfold gbTo; rw [if_pos c8']
    have hin : ¬ (l.length : Int) - gTo l ((a + 1 : Nat) : Int) < gN l ((a + 1 : Nat) : Int) := by
      intro m
      have := (gb_err3 (l := l) (a := ((a + 1 : Nat) : Int)) (by simpa using c6) (by omega) m).1
      omega
    refine ⟨by show a < (gbTo l _).toNat; rw [hgt, hT]; omega, by show (gbTo l _).toNat ≤ _; rw [hgt]; omega, hr, ⟨⟨by show _ ≤ at8 l a; omega, by show at8 l a ≤ _; omega⟩, by simp, by show (gbL l _).length ≤ _; omega⟩, hgb⟩
  · cases h
/-- So many values from a place on. -/
def decF : Nat → List UInt8 → Nat → Int × List Val × Nat
  | 0, _, a => (0, [], a)
  | n + 1, l, a => if (vR l a).1 ≠ 0 then ((vR l a).1, [], 0) else ((decF n l (vR l a).2.2).1, (vR l a).2.1 :: (decF n l (vR l a).2.2).2.1, (decF n l (vR l a).2.2).2.2)
def decR (l : List UInt8) : Int × List Val × Nat := decF (gN l 0).toNat l (gTo l 0).toNat
def decE (l : List UInt8) : Int := if gE l 0 ≠ 0 then gE l 0 else if 100 < gN l 0 then 11 else if (decR l).1 ≠ 0 then (decR l).1 else if (decR l).2.2 < l.length then 11 else 0
def decL (l : List UInt8) : List Val := if decE l = 0 then (decR l).2.1 else []
theorem decF_ok {l : List UInt8} (hl : l.length ≤ 9223372036854775807) : ∀ (n a : Nat), a ≤ l.length → (decF n l a).1 = 0 → a ≤ (decF n l a).2.2 ∧ (decF n l a).2.2 ≤ l.length ∧ (decF n l a).2.1.length = n ∧ (∀ v ∈ (decF n l a).2.1, rightB v = true ∧ VOk v ∧ v.s.length ≤ l.length)
  | 0, a, ha, _ => ⟨Nat.le_refl _, ha, rfl, fun v hv => by cases hv⟩
  | n + 1, a, ha, h => by
    unfold decF at h ⊢
    split at h
    · rename_i hc; exact absurd h hc
    rename_i hc
    rw [if_neg hc]
    obtain ⟨h1, h2, h3, h4, h5⟩ := vR_ok hl (by simpa using hc : (vR l a).1 = 0)
    obtain ⟨i1, i2, i3, i4⟩ := decF_ok hl n (vR l a).2.2 h2 h
    refine ⟨by show a ≤ (decF n l _).2.2; omega, i2, by show (_ :: (decF n l _).2.1).length = n + 1; rw [List.length_cons, i3], ?_⟩
    intro v hv
    rcases List.mem_cons.1 hv with rfl | hv
    · exact ⟨h3, h4, h5⟩
    · exact i4 v hv
theorem decL_ok {l : List UInt8} (hl : l.length ≤ 9223372036854775807) : ∀ v ∈ decL l, rightB v = true ∧ VOk v ∧ v.s.length ≤ l.length := by
  intro v hv
  unfold decL at hv
  split at hv
  · rename_i h
    unfold decE at h
    split at h
    · rename_i h0; exact absurd h h0
    rename_i h0
    split at h
    · cases h
    split at h
    · rename_i h1; exact absurd h h1
    rename_i h1
    obtain ⟨x, t, hx, hxl, _, hT, _, hle, _⟩ := g_ok (l := l) (a := 0) (by simpa using h0)
    exact (decF_ok hl _ _ (by rw [hT]; omega) (by simpa [decR] using h1)).2.2.2 v hv
  · cases hv

end Go.Proofs.YtejbljopighenaaDoor
