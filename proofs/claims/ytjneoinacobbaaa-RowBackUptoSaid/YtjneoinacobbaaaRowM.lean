/- The walks of Many and Few of package row and of the reference, and of SameRows. -/
import Derived.Test.YtjneoinacobbaaaRowX
import Derived.Test.YtjneoinacobbaaaRowY
import Derived.Test.YtjneoinacobbaaaRowI
import Derived.Test.YtjneoinacobbaaaNest
import Derived.Test.YtjneoinacobbaaaVintQ
namespace Go.Proofs.Ytjneoinacobbaaa
open Go.RowKit
theorem is_encode : isFn Try.prog 10 = true := by kernel_rfl
theorem is_decode : isFn Try.prog 12 = true := by kernel_rfl
theorem is_rencode : isFn Try.prog 11 = true := by kernel_rfl
theorem is_rdecode : isFn Try.prog 13 = true := by kernel_rfl
theorem is_join : isFn Try.prog 34 = true := by kernel_rfl
theorem is_rjoin : isFn Try.prog 35 = true := by kernel_rfl
theorem is_split : isFn Try.prog 36 = true := by kernel_rfl
theorem is_rsplit : isFn Try.prog 37 = true := by kernel_rfl
theorem slvv : slOf Try.prog 42 = some (22, 1) := by kernel_rfl
theorem agg_slv : aggOf Try.prog 22 = some (false, 1) := by kernel_rfl
theorem zlv : zeroOf Try.prog 22 = some [.slice none 0 0] := by kernel_rfl
theorem lvinfo : (Try.prog.info? 22).map (fun i => (i.zero, i.size, i.bytes)) = some (some (.slice none 0 0), 1, 24) := by kernel_rfl
theorem u_svv : Try.prog.underlying 42 = some (.slice 22) := by kernel_rfl
def RdVS (w : World) (B : Nat) (A : Option Addr) (n : Nat) (ll : List (List Val)) : Prop := RdN w B 3 A n (ll.map vcs)
theorem RdVS.len {w : World} {B n : Nat} {A : Option Addr} {ll : List (List Val)} (h : RdVS w B A n ll) : ll.length = n := by have := RdN.len h; simpa using this
theorem RdVS.up {w w' : World} {n : Nat} {A : Option Addr} {ll : List (List Val)} (h : RdVS w w.heap.size A n ll) (hb : Below w.heap.size w w') : RdVS w' w'.heap.size A n ll := RdN.up h hb
theorem RdVS.at_ {w : World} {B n : Nat} {A : Option Addr} {ll : List (List Val)} (h : RdVS w B A n ll) {i : Nat} {l : List Val} (hi : ll[i]? = some l) : ∃ ad A' m c', A = some ad ∧ (ad.add (i * 1)).block < B ∧ w.cell? (ad.add (i * 1)) = some (.slice A' m c') ∧ m ≤ c' ∧ RdV w B A' m l := RdN.at_ h (by rw [List.getElem?_map, hi]; rfl)
/-- Not too great. -/
def FitsL (ll : List (List Val)) : Prop := ll.length ≤ 1000 ∧ ∀ l ∈ ll, (∀ v ∈ l, VOk v) ∧ tot l ≤ 1000000
theorem fits_join {ll : List (List Val)} (h : FitsL ll) : (joinL (ll.map encB)).length ≤ 10000000000 := by
  have := many_len ll h.2
  have h3 := putN_len10 (n := (ll.map encB).length) (by rw [List.length_map]; have := h.1; omega)
  unfold joinL
  rw [List.length_append]
  have := h.1
  omega
def ManyG (w : World) (ll : List (List Val)) (e : Ending) (w' : World) : Prop := ∃ A' m c', e = .returned (.tuple #[.slice A' m c', .int .i64 (manyE ll)]) ∧ Own w' w.heap.size A' m c' (manyB ll) ∧ Below w.heap.size w w'
set_option maxRecDepth 100000 in
theorem many_any (A : Option Addr) (n c : Nat) (ll : List (List Val)) (w : World) (hr : RdVS w w.heap.size A n ll) (hf : FitsL ll) :
    Calls Try.prog 17 #[.slice A n c] w (ManyG w ll) := by
  refine calls_ev (args := [.slice A n c]) mixed Try.func17 rfl (by kernel_rfl) ?_
  have hln := hr.len
  have hn := hf.1
  refine p_len slvv rfl ?_
  refine lp (Nat × Option Addr × Nat) (fun s W => Below w.heap.size w W ∧ s.1 ≤ n ∧ (∀ l ∈ ll.take s.1, encE l = 0) ∧ OwnN W w.heap.size 23 5 1 s.2.1 s.1 s.2.2 ((ll.take s.1).map fun l => bvs (encB l)))
    (fun s => [(4, .slice s.2.1 s.1 s.2.2), (9, .slice A n c), (10, .int .i64 n), (11, .int .i64 s.1)]) (fun s => n - s.1) (0, none, 0) ⟨Below.refl _ _, Nat.zero_le _, by simp, OwnN.nil_ _ _⟩ ⟨rfl, rfl, rfl, rfl, trivial⟩ ?_
  rintro ⟨i, A3, c3⟩ E0 W1 ⟨hb1, hin, hall, o1⟩
  dsimp only at hin hall o1
  have hs1 := hb1.size
  refine p_lt rfl rfl (fun h => ?_) (fun h => ?_)
  · obtain ⟨l, hl⟩ : ∃ l, ll[i]? = some l := ⟨_, List.getElem?_eq_getElem (by omega)⟩
    have hlm := hf.2 l (List.mem_of_getElem? hl)
    obtain ⟨ad, A4, m, c4, rfl, hbl, hcell, hmc, hrv⟩ := hr.at_ hl
    replace hrv := (hrv.below hb1).more hs1
    refine p_at (i := i) slvv rfl rfl rfl (by omega) ?_
    refine v_load agg_slv rfl ((hb1.cell hbl).trans hcell) ?_
    refine cc is_encode (encode_any _ _ _ _ _ hrv hlm.1 hlm.2) ?_
    rintro e W2 ⟨A5, m5, c5, rfl, o5, b5⟩
    refine ⟨_, rfl, ?_⟩
    have hb2 := hb1.trans (b5.mono hs1)
    refine p_ne rfl rfl (fun h0 => ?_) (fun h0 => ?_)
    · have o2 := o1.below b5
      have lo2 := o2.lo
      refine v_bslice (vs := [.slice A5 m5 c5]) sls zls rfl (by decide) rfl ?_
      rintro g W3 hg hB hb3 hsz3
      rw [hg] at hb3
      have hb4 := hb2.trans (hb3.mono hb2.size)
      have hs4 := hb4.size
      refine v_appN (by decide) Try.underlying70 lsinfo rfl (o2.below hb3) rfl (Reads.blk hB rfl) (ownsRow_below (o5.less hs1) hb3) (by omega) hs4 ?_
      rintro A6 c6 W4 o6 hg6
      have hb6 : Below w.heap.size w W4 := hb4.grown hg6 hs4 (fun k hk => lo2 k hk)
      refine p_add rfl rfl (w64 (by omega)) ?_
      refine ⟨(i + 1, A6, c6), ⟨hb6, by show i + 1 ≤ n; omega, all_take_snoc hall hl h0, ?_⟩, ⟨rfl, rfl, rfl, rfl, trivial⟩, by show n - (i + 1) < n - i; omega⟩
      show OwnN W4 w.heap.size 23 5 1 A6 (i + 1) c6 ((ll.take (i + 1)).map fun l => bvs (encB l))
      rw [map_take_snoc _ hl]; exact o6
    · have e1 : manyE ll = encE l := manyE_bad hl hall h0
      have e2 : manyB ll = [] := by unfold manyB; rw [if_neg (by rw [e1]; exact h0)]
      exact ⟨none, 0, 0, by rw [e1]; rfl, by rw [e2]; exact Own.nil_ _ _, hb2⟩
  · have hi : i = n := by omega
    subst hi
    rw [List.take_of_length_le (by omega)] at hall o1
    have e1 := manyE_ok hall
    have e2 : manyB ll = joinL (ll.map encB) := by unfold manyB; rw [if_pos e1]
    have r : RdS W1 W1.heap.size A3 i (ll.map encB) := RdN.lists (by have := o1.rd; rw [List.map_map]; exact this)
    refine cc is_join (join_any _ _ _ _ _ r (by omega) (fits_join hf)) ?_
    rintro e W2 ⟨A5, m5, c5, rfl, o5, b5⟩
    refine ⟨_, rfl, ?_⟩
    exact ⟨A5, m5, c5, by rw [e1]; rfl, by rw [e2]; exact o5.less hs1, hb1.trans (b5.mono hs1)⟩
set_option maxRecDepth 100000 in
theorem rmany_any (A : Option Addr) (n c : Nat) (ll : List (List Val)) (w : World) (hr : RdVS w w.heap.size A n ll) (hf : FitsL ll) :
    Calls Try.prog 18 #[.slice A n c] w (ManyG w ll) := by
  refine calls_ev (args := [.slice A n c]) mixed Try.func18 rfl (by kernel_rfl) ?_
  have hln := hr.len
  have hn := hf.1
  refine lp (Nat × Option Addr × Nat) (fun s W => Below w.heap.size w W ∧ s.1 ≤ n ∧ (∀ l ∈ ll.take s.1, encE l = 0) ∧ OwnN W w.heap.size 23 5 1 s.2.1 s.1 s.2.2 ((ll.take s.1).map fun l => bvs (encB l)))
    (fun s => [(0, .slice A n c), (4, .slice s.2.1 s.1 s.2.2), (5, .int .i64 s.1)]) (fun s => n - s.1) (0, none, 0) ⟨Below.refl _ _, Nat.zero_le _, by simp, OwnN.nil_ _ _⟩ ⟨rfl, rfl, rfl, trivial⟩ ?_
  rintro ⟨i, A3, c3⟩ E0 W1 ⟨hb1, hin, hall, o1⟩
  dsimp only at hin hall o1
  have hs1 := hb1.size
  refine p_len slvv rfl ?_
  refine p_lt rfl rfl (fun h => ?_) (fun h => ?_)
  · obtain ⟨l, hl⟩ : ∃ l, ll[i]? = some l := ⟨_, List.getElem?_eq_getElem (by omega)⟩
    have hlm := hf.2 l (List.mem_of_getElem? hl)
    obtain ⟨ad, A4, m, c4, rfl, hbl, hcell, hmc, hrv⟩ := hr.at_ hl
    replace hrv := (hrv.below hb1).more hs1
    refine p_at (i := i) slvv rfl rfl rfl (by omega) ?_
    refine v_load agg_slv rfl ((hb1.cell hbl).trans hcell) ?_
    refine cc is_rencode (rencode_any _ _ _ _ _ hrv hlm.1 hlm.2) ?_
    rintro e W2 ⟨A5, m5, c5, rfl, o5, b5⟩
    refine ⟨_, rfl, ?_⟩
    have hb2 := hb1.trans (b5.mono hs1)
    refine p_ne rfl rfl (fun h0 => ?_) (fun h0 => ?_)
    · have o2 := o1.below b5
      have lo2 := o2.lo
      refine v_bslice (vs := [.slice A5 m5 c5]) sls zls rfl (by decide) rfl ?_
      rintro g W3 hg hB hb3 hsz3
      rw [hg] at hb3
      have hb4 := hb2.trans (hb3.mono hb2.size)
      have hs4 := hb4.size
      refine v_appN (by decide) Try.underlying70 lsinfo rfl (o2.below hb3) rfl (Reads.blk hB rfl) (ownsRow_below (o5.less hs1) hb3) (by omega) hs4 ?_
      rintro A6 c6 W4 o6 hg6
      have hb6 : Below w.heap.size w W4 := hb4.grown hg6 hs4 (fun k hk => lo2 k hk)
      refine p_add rfl rfl (w64 (by omega)) ?_
      refine ⟨(i + 1, A6, c6), ⟨hb6, by show i + 1 ≤ n; omega, all_take_snoc hall hl h0, ?_⟩, ⟨rfl, rfl, rfl, trivial⟩, by show n - (i + 1) < n - i; omega⟩
      show OwnN W4 w.heap.size 23 5 1 A6 (i + 1) c6 ((ll.take (i + 1)).map fun l => bvs (encB l))
      rw [map_take_snoc _ hl]; exact o6
    · have e1 : manyE ll = encE l := manyE_bad hl hall h0
      have e2 : manyB ll = [] := by unfold manyB; rw [if_neg (by rw [e1]; exact h0)]
      exact ⟨none, 0, 0, by rw [e1]; rfl, by rw [e2]; exact Own.nil_ _ _, hb2⟩
  · have hi : i = n := by omega
    subst hi
    rw [List.take_of_length_le (by omega)] at hall o1
    have e1 := manyE_ok hall
    have e2 : manyB ll = joinL (ll.map encB) := by unfold manyB; rw [if_pos e1]
    have r : RdS W1 W1.heap.size A3 i (ll.map encB) := RdN.lists (by have := o1.rd; rw [List.map_map]; exact this)
    refine cc is_rjoin (refJoin_any _ _ _ _ _ r (by omega) (fits_join hf)) ?_
    rintro e W2 ⟨A5, m5, c5, rfl, o5, b5⟩
    refine ⟨_, rfl, ?_⟩
    exact ⟨A5, m5, c5, by rw [e1]; rfl, by rw [e2]; exact o5.less hs1, hb1.trans (b5.mono hs1)⟩
def FewG (w : World) (b : List UInt8) (e : Ending) (w' : World) : Prop := ∃ A' m c', e = .returned (.tuple #[.slice A' m c', .int .i64 (fewE b)]) ∧ OwnN w' w.heap.size 22 52 3 A' m c' ((fewL b).map vcs) ∧ Below w.heap.size w w'
theorem flat_cnt (ll : List (List UInt8)) : ll.length ≤ (ll.flatMap putB).length := by
  induction ll with
  | nil => exact Nat.zero_le _
  | cons s ll ih =>
    have := putN_pos s.length
    rw [List.flatMap_cons, List.length_append, List.length_cons]
    unfold putB at ih ⊢
    rw [List.length_append]; omega
theorem spL_cnt {l : List UInt8} (h : spE l = 0) : (spL l).length ≤ l.length ∧ short (spL l) := by
  obtain ⟨h1, h2⟩ := join_split l h
  refine ⟨?_, h2⟩
  have := flat_cnt (spL l)
  have e : (joinL (spL l)).length = l.length := by rw [h1]
  unfold joinL at e
  rw [List.length_append] at e
  omega
theorem row_less {w : World} {base base' es n : Nat} {e : TypeId} {v : Value} {xs : List Value} (h : w.ownsRow base e es v n xs) (hb : base' ≤ base) : w.ownsRow base' e es v n xs := by
  refine ⟨h.1, ?_⟩
  rcases h.2 with h3 | ⟨g, cap, cur, hv, hg, r⟩
  · exact .inl h3
  · exact .inr ⟨g, cap, cur, hv, by omega, r⟩
theorem OwnN.less {w : World} {base base' es n c : Nat} {T eT : TypeId} {A : Option Addr} {xss : List (List Value)} (h : OwnN w base T eT es A n c xss) (hb : base' ≤ base) : OwnN w base' T eT es A n c xss := by
  obtain ⟨vs, h1, h2, h3⟩ := h
  refine ⟨vs, row_less h1 hb, h2, fun k v xs e1 e2 => ?_⟩
  obtain ⟨A', n', c', hv, ho⟩ := h3 k v xs e1 e2
  exact ⟨A', n', c', hv, row_less ho hb⟩
set_option maxRecDepth 100000 in
theorem few_any (A : Option Addr) (n c : Nat) (b : List UInt8) (w : World) (hr : Rd w w.heap.size A n b) (hn : n ≤ 100000000) (hnc : n ≤ c) :
    Calls Try.prog 19 #[.slice A n c] w (FewG w b) := by
  refine calls_ev (args := [.slice A n c]) mixed Try.func19 rfl (by kernel_rfl) ?_
  refine cc is_split (split_any _ _ _ _ _ hr (by omega) hnc) ?_
  rintro e W0 ⟨A1, n1, c1, rfl, oS, b0⟩
  refine ⟨_, rfl, ?_⟩
  have hs0 := b0.size
  refine p_ne rfl rfl (fun h0 => ?_) (fun h0 => ?_)
  rotate_left
  · have e1 : fewE b = spE b := by unfold fewE; rw [if_pos h0]
    have e2 : fewL b = [] := by unfold fewL; rw [if_neg (by rw [e1]; exact h0)]
    exact ⟨none, 0, 0, by rw [e1]; rfl, by rw [e2]; exact OwnN.nil_ _ _, b0⟩
  have hE : fewE b = fewF (spL b) := by unfold fewE; rw [if_neg (by simp [h0])]
  obtain ⟨hcnt, hsh⟩ := spL_cnt h0
  have hbl := hr.len
  have hrd := oS.rd.nest
  have hln : (spL b).length = n1 := by have := hrd.len; simpa using this
  obtain ⟨ll, hll⟩ : ∃ ll, spL b = ll := ⟨_, rfl⟩
  rw [hll] at hE hcnt hsh hrd hln
  refine p_len sls rfl ?_
  refine lp (Nat × Option Addr × Nat) (fun s W => Below W0.heap.size W0 W ∧ s.1 ≤ n1 ∧ (∀ l ∈ ll.take s.1, decE l = 0) ∧ OwnN W W0.heap.size 22 52 3 s.2.1 s.1 s.2.2 ((ll.take s.1).map fun l => vcs (decL l)))
    (fun s => [(6, .slice s.2.1 s.1 s.2.2), (19, .slice A1 n1 c1), (20, .int .i64 n1), (21, .int .i64 s.1)]) (fun s => n1 - s.1) (0, none, 0) ⟨Below.refl _ _, Nat.zero_le _, by simp, OwnN.nil_ _ _⟩ ⟨rfl, rfl, rfl, rfl, trivial⟩ ?_
  rintro ⟨i, A3, c3⟩ E0 W1 ⟨hb1, hin, hall, o1⟩
  dsimp only at hin hall o1
  have hs1 := hb1.size
  refine p_lt rfl rfl (fun h => ?_) (fun h => ?_)
  · obtain ⟨l, hl⟩ : ∃ l, ll[i]? = some l := ⟨_, List.getElem?_eq_getElem (by omega)⟩
    have hls := hsh l (List.mem_of_getElem? hl)
    obtain ⟨ad, A4, m, c4, rfl, hbl, hcell, hmc, hrv⟩ := hrd.at_ (k := i) (xs := bvs l) (by rw [List.getElem?_map, hl]; rfl)
    replace hrv : Rd W1 W1.heap.size A4 m l := (hrv.below hb1).more hs1
    have hml := hrv.len
    refine p_at (i := i) sls rfl rfl rfl (by omega) ?_
    refine v_load agg_sl rfl ((hb1.cell hbl).trans hcell) ?_
    refine cc is_decode (decode_any _ _ _ _ _ hrv (by omega) hmc) ?_
    rintro e W2 ⟨A5, m5, c5, rfl, o5, b5⟩
    refine ⟨_, rfl, ?_⟩
    have hb2 := hb1.trans (b5.mono hs1)
    refine p_ne rfl rfl (fun h0 => ?_) (fun h0 => ?_)
    · have o2 := o1.below b5
      have lo2 := o2.lo
      refine v_bslice (vs := [.slice A5 m5 c5]) slvv zlv rfl (by decide) rfl ?_
      rintro g W3 hg hB hb3 hsz3
      rw [hg] at hb3
      have hb4 := hb2.trans (hb3.mono hb2.size)
      have hs4 := hb4.size
      refine v_appN (by decide) u_svv lvinfo rfl (o2.below hb3) rfl (Reads.blk hB rfl) (ownsRow_below (row_less o5 hs1) hb3) (by omega) hs4 ?_
      rintro A6 c6 W4 o6 hg6
      have hb6 : Below W0.heap.size W0 W4 := hb4.grown hg6 hs4 (fun k hk => lo2 k hk)
      refine p_add rfl rfl (w64 (by omega)) ?_
      refine ⟨(i + 1, A6, c6), ⟨hb6, by show i + 1 ≤ n1; omega, all_take_snoc hall hl h0, ?_⟩, ⟨rfl, rfl, rfl, rfl, trivial⟩, by show n1 - (i + 1) < n1 - i; omega⟩
      show OwnN W4 W0.heap.size 22 52 3 A6 (i + 1) c6 ((ll.take (i + 1)).map fun l => vcs (decL l))
      rw [map_take_snoc _ hl]; exact o6
    · have e1 : fewE b = decE l := by rw [hE]; exact fewF_bad hl hall h0
      have e2 : fewL b = [] := by unfold fewL; rw [if_neg (by rw [e1]; exact h0)]
      exact ⟨none, 0, 0, by rw [e1]; rfl, by rw [e2]; exact OwnN.nil_ _ _, b0.trans (hb2.mono hs0)⟩
  · have hi : i = n1 := by omega
    subst hi
    rw [List.take_of_length_le (by omega)] at hall o1
    have e1 : fewE b = 0 := by rw [hE]; exact fewF_ok hall
    have e2 : fewL b = ll.map decL := by unfold fewL; rw [if_pos e1, hll]
    exact ⟨A3, i, c3, by rw [e1]; rfl, by rw [e2, List.map_map]; exact o1.less hs0, b0.trans (hb1.mono hs0)⟩
set_option maxRecDepth 100000 in
theorem rfew_any (A : Option Addr) (n c : Nat) (b : List UInt8) (w : World) (hr : Rd w w.heap.size A n b) (hn : n ≤ 100000000) (hnc : n ≤ c) :
    Calls Try.prog 20 #[.slice A n c] w (FewG w b) := by
  refine calls_ev (args := [.slice A n c]) mixed Try.func20 rfl (by kernel_rfl) ?_
  refine cc is_rsplit (refSplit_any _ _ _ _ _ hr (by omega) hnc) ?_
  rintro e W0 ⟨A1, n1, c1, rfl, oS, b0⟩
  refine ⟨_, rfl, ?_⟩
  have hs0 := b0.size
  refine p_ne rfl rfl (fun h0 => ?_) (fun h0 => ?_)
  rotate_left
  · have e1 : fewE b = spE b := by unfold fewE; rw [if_pos h0]
    have e2 : fewL b = [] := by unfold fewL; rw [if_neg (by rw [e1]; exact h0)]
    exact ⟨none, 0, 0, by rw [e1]; rfl, by rw [e2]; exact OwnN.nil_ _ _, b0⟩
  have hE : fewE b = fewF (spL b) := by unfold fewE; rw [if_neg (by simp [h0])]
  obtain ⟨hcnt, hsh⟩ := spL_cnt h0
  have hbl := hr.len
  have hrd := oS.rd.nest
  have hln : (spL b).length = n1 := by have := hrd.len; simpa using this
  obtain ⟨ll, hll⟩ : ∃ ll, spL b = ll := ⟨_, rfl⟩
  rw [hll] at hE hcnt hsh hrd hln
  refine lp (Nat × Option Addr × Nat) (fun s W => Below W0.heap.size W0 W ∧ s.1 ≤ n1 ∧ (∀ l ∈ ll.take s.1, decE l = 0) ∧ OwnN W W0.heap.size 22 52 3 s.2.1 s.1 s.2.2 ((ll.take s.1).map fun l => vcs (decL l)))
    (fun s => [(4, .slice A1 n1 c1), (6, .slice s.2.1 s.1 s.2.2), (7, .int .i64 s.1)]) (fun s => n1 - s.1) (0, none, 0) ⟨Below.refl _ _, Nat.zero_le _, by simp, OwnN.nil_ _ _⟩ ⟨rfl, rfl, rfl, trivial⟩ ?_
  rintro ⟨i, A3, c3⟩ E0 W1 ⟨hb1, hin, hall, o1⟩
  dsimp only at hin hall o1
  have hs1 := hb1.size
  refine p_len sls rfl ?_
  refine p_lt rfl rfl (fun h => ?_) (fun h => ?_)
  · obtain ⟨l, hl⟩ : ∃ l, ll[i]? = some l := ⟨_, List.getElem?_eq_getElem (by omega)⟩
    have hls := hsh l (List.mem_of_getElem? hl)
    obtain ⟨ad, A4, m, c4, rfl, hbl, hcell, hmc, hrv⟩ := hrd.at_ (k := i) (xs := bvs l) (by rw [List.getElem?_map, hl]; rfl)
    replace hrv : Rd W1 W1.heap.size A4 m l := (hrv.below hb1).more hs1
    have hml := hrv.len
    refine p_at (i := i) sls rfl rfl rfl (by omega) ?_
    refine v_load agg_sl rfl ((hb1.cell hbl).trans hcell) ?_
    refine cc is_rdecode (rdecode_any _ _ _ _ _ hrv (by omega) hmc) ?_
    rintro e W2 ⟨A5, m5, c5, rfl, o5, b5⟩
    refine ⟨_, rfl, ?_⟩
    have hb2 := hb1.trans (b5.mono hs1)
    refine p_ne rfl rfl (fun h0 => ?_) (fun h0 => ?_)
    · have o2 := o1.below b5
      have lo2 := o2.lo
      refine v_bslice (vs := [.slice A5 m5 c5]) slvv zlv rfl (by decide) rfl ?_
      rintro g W3 hg hB hb3 hsz3
      rw [hg] at hb3
      have hb4 := hb2.trans (hb3.mono hb2.size)
      have hs4 := hb4.size
      refine v_appN (by decide) u_svv lvinfo rfl (o2.below hb3) rfl (Reads.blk hB rfl) (ownsRow_below (row_less o5 hs1) hb3) (by omega) hs4 ?_
      rintro A6 c6 W4 o6 hg6
      have hb6 : Below W0.heap.size W0 W4 := hb4.grown hg6 hs4 (fun k hk => lo2 k hk)
      refine p_add rfl rfl (w64 (by omega)) ?_
      refine ⟨(i + 1, A6, c6), ⟨hb6, by show i + 1 ≤ n1; omega, all_take_snoc hall hl h0, ?_⟩, ⟨rfl, rfl, rfl, trivial⟩, by show n1 - (i + 1) < n1 - i; omega⟩
      show OwnN W4 W0.heap.size 22 52 3 A6 (i + 1) c6 ((ll.take (i + 1)).map fun l => vcs (decL l))
      rw [map_take_snoc _ hl]; exact o6
    · have e1 : fewE b = decE l := by rw [hE]; exact fewF_bad hl hall h0
      have e2 : fewL b = [] := by unfold fewL; rw [if_neg (by rw [e1]; exact h0)]
      exact ⟨none, 0, 0, by rw [e1]; rfl, by rw [e2]; exact OwnN.nil_ _ _, b0.trans (hb2.mono hs0)⟩
  · have hi : i = n1 := by omega
    subst hi
    rw [List.take_of_length_le (by omega)] at hall o1
    have e1 : fewE b = 0 := by rw [hE]; exact fewF_ok hall
    have e2 : fewL b = ll.map decL := by unfold fewL; rw [if_pos e1, hll]
    exact ⟨A3, i, c3, by rw [e1]; rfl, by rw [e2, List.map_map]; exact o1.less hs0, b0.trans (hb1.mono hs0)⟩
set_option maxRecDepth 100000 in
theorem sameRows_any (A B : Option Addr) (n c m d : Nat) (x y : List (List Val)) (w : World) (hx : RdVS w w.heap.size A n x) (hy : RdVS w w.heap.size B m y) (hn : n ≤ 1000000000) (fx : ∀ l ∈ x, l.length ≤ 1000000000) (fy : ∀ l ∈ y, l.length ≤ 1000000000) :
    Calls Try.prog 21 #[.slice A n c, .slice B m d] w fun e w' => ∃ q, e = .returned (.bool q) ∧ q = decide (x = y) ∧ Below w.heap.size w w' := by
  refine calls_ev (args := [.slice A n c, .slice B m d]) mixed Try.func21 rfl (by kernel_rfl) ?_
  have hlx := hx.len
  have hly := hy.len
  refine p_len slvv rfl ?_
  refine p_len slvv rfl ?_
  refine p_ne rfl rfl (fun h0 => ?_) (fun h0 => ?_)
  rotate_left
  · exact ⟨false, rfl, (decide_eq_false (by rintro rfl; omega)).symm, Below.refl _ _⟩
  refine lp Nat (fun i W => Below w.heap.size w W ∧ i ≤ n ∧ x.take i = y.take i) (fun i => [(0, .slice A n c), (1, .slice B m d), (5, .int .i64 i)]) (fun i => n - i) 0 ⟨Below.refl _ _, Nat.zero_le _, rfl⟩ ⟨rfl, rfl, rfl, trivial⟩ ?_
  rintro i E0 W1 ⟨hb1, hin, ht⟩
  have hx1 := hx.below hb1
  have hy1 := hy.below hb1
  have hs1 := hb1.size
  refine p_len slvv rfl ?_
  refine p_lt rfl rfl (fun h1 => ?_) (fun h1 => ?_)
  · obtain ⟨u, hu⟩ : ∃ u, x[i]? = some u := ⟨_, List.getElem?_eq_getElem (by omega)⟩
    obtain ⟨v, hv⟩ : ∃ v, y[i]? = some v := ⟨_, List.getElem?_eq_getElem (by omega)⟩
    obtain ⟨a, A3, n3, c3, rfl, hk3, hc3, _, hr3⟩ := RdVS.at_ hx1 hu
    obtain ⟨b, A4, n4, c4, rfl, hk4, hc4, _, hr4⟩ := RdVS.at_ hy1 hv
    have hl3 := hr3.len
    have hl4 := hr4.len
    have f3 := fx u (List.mem_of_getElem? hu)
    have f4 := fy v (List.mem_of_getElem? hv)
    refine dr (fun W => W.cell? (a.add (i * 1)) = some (.slice A3 n3 c3) ∧ W.cell? (b.add (i * 1)) = some (.slice A4 n4 c4)) [(0, true), (1, true), (2, true), (3, true), (4, true), (5, true), (6, true), (7, true), (8, false), (9, true)] (by kernel_rfl) ⟨hc3, hc4⟩ ?_
    refine p_at (i := i) slvv rfl rfl rfl (by omega) ?_
    refine t_load agg_slv rfl (fun W h => h.1) ?_
    refine p_at (i := i) slvv rfl rfl rfl (by omega) ?_
    refine t_load agg_slv rfl (fun W h => h.2) ?_
    refine cc is_rows (rows_any _ _ _ _ _ _ _ _ _ (hr3.drew.more hs1) (hr4.drew.more hs1) (by omega) (by omega)) ?_
    rintro e W2 ⟨r, rfl, hr, hb2⟩
    have hb3 := hb1.drew.trans (hb2.mono hs1)
    refine ⟨_, rfl, ⟨(hb2.cell (Nat.lt_of_lt_of_le hk3 hs1)).trans hc3, (hb2.cell (Nat.lt_of_lt_of_le hk4 hs1)).trans hc4⟩, ?_⟩
    refine p_ne rfl rfl (fun h => ?_) (fun h => ?_)
    · have huv := hr.1 h
      subst huv
      refine p_add rfl rfl (w64 (by omega)) ?_
      exact ⟨i + 1, ⟨hb3, by omega, take_step ht hu hv⟩, ⟨rfl, rfl, rfl, trivial⟩, by omega⟩
    · refine ⟨false, rfl, (decide_eq_false ?_).symm, hb3⟩
      rintro rfl
      rw [hu] at hv; injection hv with hv; exact h (hr.2 hv)
  · exact ⟨true, rfl, (decide_eq_true (take_all ht (by omega) (by omega))).symm, hb1⟩
end Go.Proofs.Ytjneoinacobbaaa
