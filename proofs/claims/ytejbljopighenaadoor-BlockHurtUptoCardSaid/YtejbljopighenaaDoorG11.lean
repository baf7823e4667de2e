/- Blocks as bytes, plainly. No walk here. Package block: right, Check. A block, and a row of blocks, that came in, opened. No walk here. -/
import Derived.Test.YtejbljopighenaaDoorG10
import Derived.Test.YtejbljopighenaaDoorG04
namespace Go.Proofs.YtejbljopighenaaDoor
def rightTx (tx : List (List UInt8)) : Bool := decide (tx.length ≤ 51) && tx.all fun s => decide (s.length ≤ 20000)
def rightBk (b : Bk) : Bool := decide (0 ≤ b.num ∧ b.last.length = 32 ∧ b.prev.length = 32 ∧ b.next.length = 32 ∧ b.txs.length ≤ 50 ∧ b.txs.length = b.outs.length) && (b.txs.all rightTx && b.outs.all fun o => decide ((encO o).2 = 0))
def checkBk (b : Bk) : Int := if rightBk b = true then (if 1048576 < b.proof.length then 3 else 0) else 2
def txsB (b : Bk) : List (List UInt8) := b.txs.map joinL
def outsB (b : Bk) : List (List UInt8) := b.outs.map outB
def partsB (b : Bk) : List (List UInt8) := [putN b.num.toNat, b.last, b.prev, b.next, joinL (txsB b), joinL (outsB b), b.proof]
def blockB (b : Bk) : List UInt8 := joinL (partsB b)
def encBk (b : Bk) : List UInt8 × Int := if rightBk b = true then (if 1048576 < (blockB b).length then ([], 3) else (blockB b, 0)) else ([], 2)
def bkZ : Bk := ⟨0, [], [], [], [], [], []⟩
/-- Not too great. -/
def FitsB (b : Bk) : Prop := b.num ≤ 9223372036854775807 ∧ (∀ o ∈ b.outs, FitsO o) ∧ (blockB b).length ≤ 900000000
theorem putB_ge (s : List UInt8) : s.length + 1 ≤ (putB s).length := by rw [putB_len2]; have := putN_pos s.length; omega
theorem flat_sum : ∀ (ll : List (List UInt8)), ll.length ≤ (ll.flatMap putB).length
  | [] => Nat.zero_le _
  | x :: ll => by
    rw [List.flatMap_cons, List.length_append, List.length_cons]
    have := flat_sum ll
    have := putB_ge x
    omega
theorem join_mem {ll : List (List UInt8)} {s : List UInt8} (h : s ∈ ll) : s.length < (joinL ll).length := by
  have h1 := flat_mem putB h
  have h2 := putB_ge s
  have h3 := putN_pos ll.length
  unfold joinL
  rw [List.length_append]
  omega
theorem join_len (ll : List (List UInt8)) : ll.length < (joinL ll).length := by
  have h1 := flat_sum ll
  have h3 := putN_pos ll.length
  unfold joinL
  rw [List.length_append]
  omega
theorem parts_mem {b : Bk} {s : List UInt8} (h : s ∈ partsB b) : s.length < (blockB b).length := join_mem h
theorem bk_txs (b : Bk) : b.txs.length < (blockB b).length ∧ b.outs.length < (blockB b).length ∧ (joinL (txsB b)).length < (blockB b).length ∧ (joinL (outsB b)).length < (blockB b).length ∧ b.proof.length < (blockB b).length ∧ b.last.length < (blockB b).length ∧ b.prev.length < (blockB b).length ∧ b.next.length < (blockB b).length ∧ (putN b.num.toNat).length < (blockB b).length := by
  have h1 := parts_mem (b := b) (s := joinL (txsB b)) (by unfold partsB; simp)
  have h2 := parts_mem (b := b) (s := joinL (outsB b)) (by unfold partsB; simp)
  have h3 := parts_mem (b := b) (s := b.proof) (by unfold partsB; simp)
  have h4 := parts_mem (b := b) (s := b.last) (by unfold partsB; simp)
  have h5 := parts_mem (b := b) (s := b.prev) (by unfold partsB; simp)
  have h6 := parts_mem (b := b) (s := b.next) (by unfold partsB; simp)
  have h7 := parts_mem (b := b) (s := putN b.num.toNat) (by unfold partsB; simp)
  have h8 := join_len (txsB b)
  have h9 := join_len (outsB b)
  unfold txsB at h8
  unfold outsB at h9
  rw [List.length_map] at h8 h9
  exact ⟨by unfold txsB at h1; omega, by unfold outsB at h2; omega, h1, h2, h3, h4, h5, h6, h7⟩
theorem bk_tx {b : Bk} {tx : List (List UInt8)} (h : tx ∈ b.txs) : (joinL tx).length < (blockB b).length ∧ tx.length < (blockB b).length ∧ ∀ s ∈ tx, s.length < (blockB b).length := by
  have h1 := (bk_txs b).2.2.1
  have h2 := join_mem (ll := txsB b) (s := joinL tx) (List.mem_map.2 ⟨tx, h, rfl⟩)
  have h3 := join_len tx
  exact ⟨by omega, by omega, fun s hs => by have := join_mem hs; omega⟩
theorem bk_out {b : Bk} {o : Out} (h : o ∈ b.outs) : (outB o).length < (blockB b).length := by
  have h1 := (bk_txs b).2.2.2.1
  have h2 := join_mem (ll := outsB b) (s := outB o) (List.mem_map.2 ⟨o, h, rfl⟩)
  omega
theorem right_iff {b : Bk} : rightBk b = true ↔ (0 ≤ b.num ∧ b.last.length = 32 ∧ b.prev.length = 32 ∧ b.next.length = 32 ∧ b.txs.length ≤ 50 ∧ b.txs.length = b.outs.length) ∧ (∀ tx ∈ b.txs, tx.length ≤ 51 ∧ ∀ s ∈ tx, s.length ≤ 20000) ∧ ∀ o ∈ b.outs, (encO o).2 = 0 := by
  unfold rightBk rightTx
  simp only [Bool.and_eq_true, decide_eq_true_eq, List.all_eq_true]
theorem right_false {b : Bk} (h : ¬ ((0 ≤ b.num ∧ b.last.length = 32 ∧ b.prev.length = 32 ∧ b.next.length = 32 ∧ b.txs.length ≤ 50 ∧ b.txs.length = b.outs.length) ∧ (∀ tx ∈ b.txs, tx.length ≤ 51 ∧ ∀ s ∈ tx, s.length ≤ 20000) ∧ ∀ o ∈ b.outs, (encO o).2 = 0)) : rightBk b = false := by
  rw [← Bool.not_eq_true]
  exact fun q => h (right_iff.1 q)
theorem encBk_2 {b : Bk} (h : rightBk b = false) : encBk b = ([], 2) := by unfold encBk; rw [h, if_neg (by decide)]
theorem encBk_3 {b : Bk} (h : rightBk b = true) (h2 : 1048576 < (blockB b).length) : encBk b = ([], 3) := by unfold encBk; rw [if_pos h, if_pos h2]
theorem encBk_0 {b : Bk} (h : rightBk b = true) (h2 : ¬ 1048576 < (blockB b).length) : encBk b = (blockB b, 0) := by unfold encBk; rw [if_pos h, if_neg h2]
theorem encBk_ok {b : Bk} {s : List UInt8} (h : encBk b = (s, 0)) : rightBk b = true ∧ s = blockB b ∧ (blockB b).length ≤ 1048576 := by
  unfold encBk at h
  split at h
  · next h1 =>
    split at h
    · injection h with _ h; exact absurd h (by decide)
    · next h2 => injection h with h _; exact ⟨h1, h.symm, by omega⟩
  · injection h with _ h; exact absurd h (by decide)
/-- What some bytes come to. -/
def txsP (l : List UInt8) : Option (List (List (List UInt8))) := if spE l = 0 ∧ ∀ x ∈ spL l, spE x = 0 then some ((spL l).map spL) else none
def outsP (l : List UInt8) : Option (List Out) := if spE l = 0 ∧ ∀ x ∈ spL l, (decO x).2 = 0 then some ((spL l).map fun x => (decO x).1) else none
def mkBk (n : Int) (a1 a2 a3 a6 : List UInt8) : Option (List (List (List UInt8))) → Option (List Out) → Option Bk
  | some t, some o => some ⟨n, a1, a2, a3, t, o, a6⟩
  | some _, none => none
  | none, _ => none
def partBk (s a0 a1 a2 a3 a4 a5 a6 : List UInt8) : Option Bk := if spE s = 0 ∧ gE a0 0 = 0 ∧ gN a0 0 ≤ 9223372036854775807 then mkBk (gN a0 0) a1 a2 a3 a6 (txsP a4) (outsP a5) else none
def parseBk (s : List UInt8) : Option Bk :=
  match spL s with
  | [a0, a1, a2, a3, a4, a5, a6] => partBk s a0 a1 a2 a3 a4 a5 a6
  | _ => none
def finBk (s : List UInt8) : Option Bk → Bk × Int
  | some b => if encBk b = (s, 0) then (b, 0) else (bkZ, 11)
  | none => (bkZ, 11)
def decBk (s : List UInt8) : Bk × Int := if 1048576 < s.length then (bkZ, 3) else finBk s (parseBk s)
theorem parse_7 {s a0 a1 a2 a3 a4 a5 a6 : List UInt8} (h : spL s = [a0, a1, a2, a3, a4, a5, a6]) : parseBk s = partBk s a0 a1 a2 a3 a4 a5 a6 := by unfold parseBk; rw [h]
theorem parse_n {s : List UInt8} (h : (spL s).length ≠ 7) : parseBk s = none := by
  unfold parseBk
  split
  · next hsp => exact absurd (by rw [hsp]; rfl) h
  · rfl
theorem mkBk_some {n : Int} {a1 a2 a3 a6 : List UInt8} {t : Option (List (List (List UInt8)))} {o : Option (List Out)} {b : Bk} (h : mkBk n a1 a2 a3 a6 t o = some b) : ∃ T O, t = some T ∧ o = some O ∧ b = ⟨n, a1, a2, a3, T, O, a6⟩ := by
  cases t with
  | none => cases h
  | some T =>
    cases o with
    | none => cases h
    | some O => injection h with h; exact ⟨T, O, rfl, rfl, h.symm⟩
theorem list7 {α : Type} {l : List α} (h : l.length = 7) : ∃ a b c d e f g, l = [a, b, c, d, e, f, g] := by
  match l, h with
  | [a, b, c, d, e, f, g], _ => exact ⟨a, b, c, d, e, f, g, rfl⟩
theorem parse_some {s : List UInt8} {b : Bk} (h : parseBk s = some b) : ∃ a0 a1 a2 a3 a4 a5 a6 T O, spL s = [a0, a1, a2, a3, a4, a5, a6] ∧ spE s = 0 ∧ gE a0 0 = 0 ∧ gN a0 0 ≤ 9223372036854775807 ∧ txsP a4 = some T ∧ outsP a5 = some O ∧ b = ⟨gN a0 0, a1, a2, a3, T, O, a6⟩ := by
  by_cases h7 : (spL s).length = 7
  · obtain ⟨a0, a1, a2, a3, a4, a5, a6, hs⟩ := list7 h7
    rw [parse_7 hs] at h
    unfold partBk at h
    split at h
    · next hc =>
      obtain ⟨T, O, h1, h2, h3⟩ := mkBk_some h
      exact ⟨a0, a1, a2, a3, a4, a5, a6, T, O, hs, hc.1, hc.2.1, hc.2.2, h1, h2, h3⟩
    · cases h
  · rw [parse_n h7] at h; cases h
end Go.Proofs.YtejbljopighenaaDoor
namespace Go.Proofs.YtejbljopighenaaDoor
open Go.RowKit
theorem is_bright : isFn Tryd.prog 38 = true := by kernel_rfl
theorem is_bcheck : isFn Tryd.prog 14 = true := by kernel_rfl
theorem is_bEnc : isFn Tryd.prog 9 = true := by kernel_rfl
theorem is_fit : isFn Tryd.prog 23 = true := by kernel_rfl
theorem fB0 : fieldOff Tryd.prog 26 0 = some 0 := by kernel_rfl
theorem fB1 : fieldOff Tryd.prog 26 1 = some 1 := by kernel_rfl
theorem fB2 : fieldOff Tryd.prog 26 2 = some 2 := by kernel_rfl
theorem fB3 : fieldOff Tryd.prog 26 3 = some 3 := by kernel_rfl
theorem fB4 : fieldOff Tryd.prog 26 4 = some 4 := by kernel_rfl
theorem fB5 : fieldOff Tryd.prog 26 5 = some 5 := by kernel_rfl
theorem fB6 : fieldOff Tryd.prog 26 6 = some 6 := by kernel_rfl
theorem agg_bk : aggOf Tryd.prog 26 = some (true, 7) := by kernel_rfl
theorem agg_tss : aggOf Tryd.prog 23 = some (false, 1) := by kernel_rfl
theorem agg_ts : aggOf Tryd.prog 52 = some (false, 1) := by kernel_rfl
theorem agg_st : aggOf Tryd.prog 9 = some (false, 1) := by kernel_rfl
theorem agg_os : aggOf Tryd.prog 24 = some (false, 1) := by kernel_rfl
theorem sz_bk : (Tryd.prog.info? 26).map (·.size) = some 7 := by kernel_rfl
theorem sltss : slOf Tryd.prog 23 = some (52, 1) := by kernel_rfl
theorem slts : slOf Tryd.prog 52 = some (9, 1) := by kernel_rfl
def zBk : List Value := [.int .i64 0, .slice none 0 0, .slice none 0 0, .slice none 0 0, .slice none 0 0, .slice none 0 0, .slice none 0 0]
theorem z_bk : zeroOf Tryd.prog 26 = some zBk := by kernel_rfl
theorem al_bk : (Tryd.prog.info? 26).map (fun i => i.zero.map fun z => z.cells.toList) = some (some zBk) := by kernel_rfl
theorem pl_bk : placesOf Tryd.prog 26 = some [(0, 1), (1, 1), (2, 1), (3, 1), (4, 1), (5, 1), (6, 1)] := by kernel_rfl
/-- A block's places. -/
structure Bp where
  A1 : Option Addr
  c1 : Nat
  A2 : Option Addr
  c2 : Nat
  A3 : Option Addr
  c3 : Nat
  A4 : Option Addr
  c4 : Nat
  A5 : Option Addr
  c5 : Nat
  A6 : Option Addr
  c6 : Nat
def bkcs (b : Bk) (p : Bp) : List Value := [.int .i64 b.num, .slice p.A1 b.last.length p.c1, .slice p.A2 b.prev.length p.c2, .slice p.A3 b.next.length p.c3, .slice p.A4 b.txs.length p.c4, .slice p.A5 b.outs.length p.c5, .slice p.A6 b.proof.length p.c6]
theorem RdL.bk {W : World} {F : Nat → Prop} {b : Bk} {cs : List Value} (h : RdL W F (dBk b) cs) : ∃ p, cs = bkcs b p ∧ RdD W F (dB b.last) (.slice p.A1 b.last.length p.c1) ∧ RdD W F (dB b.prev) (.slice p.A2 b.prev.length p.c2) ∧ RdD W F (dB b.next) (.slice p.A3 b.next.length p.c3) ∧ RdD W F (dTxs b.txs) (.slice p.A4 b.txs.length p.c4) ∧ RdD W F (dOuts b.outs) (.slice p.A5 b.outs.length p.c5) ∧ RdD W F (dB b.proof) (.slice p.A6 b.proof.length p.c6) := by
  obtain ⟨u0, _, rfl, h0, h⟩ := (show RdL W F [.v (.int .i64 b.num), dB b.last, dB b.prev, dB b.next, dTxs b.txs, dOuts b.outs, dB b.proof] cs from h).uncons
  obtain ⟨u1, _, rfl, h1, h⟩ := h.uncons
  obtain ⟨u2, _, rfl, h2, h⟩ := h.uncons
  obtain ⟨u3, _, rfl, h3, h⟩ := h.uncons
  obtain ⟨u4, _, rfl, h4, h⟩ := h.uncons
  obtain ⟨u5, _, rfl, h5, h⟩ := h.uncons
  obtain ⟨u6, _, rfl, h6, h⟩ := h.uncons
  rw [h.isnil]
  obtain rfl := RdD.val.1 h0
  obtain ⟨A1, c1, e1, _⟩ := h1.open_
  obtain ⟨A2, c2, e2, _⟩ := h2.open_
  obtain ⟨A3, c3, e3, _⟩ := h3.open_
  obtain ⟨A4, c4, e4, _⟩ := h4.open_
  obtain ⟨A5, c5, e5, _⟩ := h5.open_
  obtain ⟨A6, c6, e6, _⟩ := h6.open_
  subst e1; subst e2; subst e3; subst e4; subst e5; subst e6
  exact ⟨⟨A1, c1, A2, c2, A3, c3, A4, c4, A5, c5, A6, c6⟩, rfl, h1, h2, h3, h4, h5, h6⟩
theorem RdL.ofbk {W : World} {F : Nat → Prop} {b : Bk} {p : Bp} (h1 : RdD W F (dB b.last) (.slice p.A1 b.last.length p.c1)) (h2 : RdD W F (dB b.prev) (.slice p.A2 b.prev.length p.c2)) (h3 : RdD W F (dB b.next) (.slice p.A3 b.next.length p.c3)) (h4 : RdD W F (dTxs b.txs) (.slice p.A4 b.txs.length p.c4)) (h5 : RdD W F (dOuts b.outs) (.slice p.A5 b.outs.length p.c5)) (h6 : RdD W F (dB b.proof) (.slice p.A6 b.proof.length p.c6)) : RdL W F (dBk b) (bkcs b p) :=
  RdL.cons (RdD.ofv _) (RdL.cons h1 (RdL.cons h2 (RdL.cons h3 (RdL.cons h4 (RdL.cons h5 (RdL.cons h6 RdL.nil_))))))
section
variable {w W : World} {gs : List (Option Nat)} {L : Lc} {R : List Row} {fs : List Fact}
theorem dTxs_flat (l : List (List (List UInt8))) : dTxs l = .sl 1 l.length (l.flatMap fun t => [dTx t]) := by unfold dTxs; rw [List.map_eq_flatMap]
theorem dTx_flat (l : List (List UInt8)) : dTx l = .sl 1 l.length (l.flatMap fun s => [.v (.string (sb s))]) := by unfold dTx; rw [List.map_eq_flatMap]
theorem St.txe (M : St w gs W L R fs) {l : List (List (List UInt8))} {A : Option Addr} {n c i : Nat} {t : List (List UInt8)} (h : RdD W (Fd W (own L R gs)) (dTxs l) (.slice A n c)) (hi : l[i]? = some t) :
    ∃ b off A' c', A = some ⟨b, off, none⟩ ∧ St w gs W L R (.loc ((⟨b, off, none⟩ : Addr).add (i * 1)) [.slice A' t.length c'] :: .dat false [dTx t] [.slice A' t.length c'] :: fs) := by
  rw [dTxs_flat] at h
  obtain ⟨b, off, es, e, hF, hes, hel, hc⟩ := RdD.eltO (fun l => [dTx l]) 1 (fun _ => rfl) h hi
  obtain ⟨u, us, rfl, h1, h2⟩ := hes.uncons
  rw [h2.isnil] at hc
  obtain ⟨A', c', e2, -⟩ := h1.open_
  subst e2
  exact ⟨b, off, A', c', e, (M.addD h1).addC (by rw [block_of_add]; exact hF) hc⟩
theorem St.stre (M : St w gs W L R fs) {l : List (List UInt8)} {A : Option Addr} {n c i : Nat} {s : List UInt8} (h : RdD W (Fd W (own L R gs)) (dTx l) (.slice A n c)) (hi : l[i]? = some s) :
    ∃ b off, A = some ⟨b, off, none⟩ ∧ St w gs W L R (.loc ((⟨b, off, none⟩ : Addr).add (i * 1)) [.string (sb s)] :: fs) := by
  rw [dTx_flat] at h
  obtain ⟨b, off, es, e, hF, hes, hel, hc⟩ := RdD.eltO (fun s => [.v (.string (sb s))]) 1 (fun _ => rfl) h hi
  obtain ⟨u, us, rfl, h1, h2⟩ := hes.uncons
  rw [h2.isnil] at hc
  obtain rfl := RdD.val.1 h1
  exact ⟨b, off, e, M.addC (by rw [block_of_add]; exact hF) hc⟩
end
set_option maxRecDepth 100000 in
set_option maxHeartbeats 4000000 in
theorem bright_any (b : Bk) (gs : List (Option Nat)) (w : World) (cs : List Value) (hr : RdL w (Fd w gs) (dBk b) cs) (hgs : ∀ b, some b ∈ gs → b < w.heap.size) (hf : FitsB b) :
    Calls Tryd.prog 38 #[.agg cs.toArray] w fun e w' => e = .returned (.bool (rightBk b)) ∧ Below w.heap.size w w' := by
  refine calls_ev (args := [.agg cs.toArray]) mixed Tryd.func38 rfl (by kernel_rfl) ?_
  obtain ⟨p, rfl, -, -, -, h4, h5, -⟩ := hr.bk
  obtain ⟨hf0, hf1, hf2⟩ := hf
  obtain ⟨t1, t2, t3, t4, t5, t6, t7, t8, t9⟩ := bk_txs b
  have M := ((St.start hgs).addD h5).addD h4
  clear h4 h5 hr
  refine s_box (bkcs b p) M rfl ?_
  clear M
  rintro g1 W M
  refine p_fld fB0 rfl ?_
  refine v_load agg_i rfl ((M.B 0 rfl).at_ rfl) ?_
  refine p_lt rfl rfl (fun q1 => ?_) (fun q1 => ?_)
  · have q1 : b.num < 0 := q1
    exact ⟨ret_tf (right_false (b := b) (fun h => by have := h.1; omega)).symm, M.below⟩
  refine p_fld fB1 rfl ?_
  refine v_load agg_b rfl ((M.B 0 rfl).at_ rfl) ?_
  refine p_len slb rfl ?_
  refine p_ne rfl rfl (fun q2 => ?_) (fun q2 => ?_)
  rotate_left
  · have q2 : ¬ (b.last.length : Int) = 32 := q2
    exact ⟨ret_tf (right_false (b := b) (fun h => by have := h.1; omega)).symm, M.below⟩
  refine p_fld fB2 rfl ?_
  refine v_load agg_b rfl ((M.B 0 rfl).at_ rfl) ?_
  refine p_len slb rfl ?_
  refine p_ne rfl rfl (fun q3 => ?_) (fun q3 => ?_)
  rotate_left
  · have q3 : ¬ (b.prev.length : Int) = 32 := q3
    exact ⟨ret_tf (right_false (b := b) (fun h => by have := h.1; omega)).symm, M.below⟩
  refine p_fld fB3 rfl ?_
  refine v_load agg_b rfl ((M.B 0 rfl).at_ rfl) ?_
  refine p_len slb rfl ?_
  refine p_ne rfl rfl (fun q4 => ?_) (fun q4 => ?_)
  rotate_left
  · have q4 : ¬ (b.next.length : Int) = 32 := q4
    exact ⟨ret_tf (right_false (b := b) (fun h => by have := h.1; omega)).symm, M.below⟩
  refine p_fld fB4 rfl ?_
  refine v_load agg_tss rfl ((M.B 0 rfl).at_ rfl) ?_
  refine p_len sltss rfl ?_
  refine p_gt rfl rfl (fun q5 => ?_) (fun q5 => ?_)
  · have q5 : (50 : Int) < (b.txs.length : Int) := q5
    exact ⟨ret_tf (right_false (b := b) (fun h => by have := h.1; omega)).symm, M.below⟩
  refine p_fld fB4 rfl ?_
  refine v_load agg_tss rfl ((M.B 0 rfl).at_ rfl) ?_
  refine p_len sltss rfl ?_
  refine p_fld fB5 rfl ?_
  refine v_load agg_os rfl ((M.B 0 rfl).at_ rfl) ?_
  refine p_len slos rfl ?_
  refine p_ne rfl rfl (fun q6 => ?_) (fun q6 => ?_)
  rotate_left
  · have q6 : ¬ (b.txs.length : Int) = (b.outs.length : Int) := q6
    exact ⟨ret_tf (right_false (b := b) (fun h => by have := h.1; omega)).symm, M.below⟩
  have q1 : ¬ b.num < 0 := q1
  have q2 : (b.last.length : Int) = 32 := q2
  have q3 : (b.prev.length : Int) = 32 := q3
  have q4 : (b.next.length : Int) = 32 := q4
  have q5 : ¬ (50 : Int) < (b.txs.length : Int) := q5
  have q6 : (b.txs.length : Int) = (b.outs.length : Int) := q6
  have hhd : 0 ≤ b.num ∧ b.last.length = 32 ∧ b.prev.length = 32 ∧ b.next.length = 32 ∧ b.txs.length ≤ 50 ∧ b.txs.length = b.outs.length := ⟨by omega, by omega, by omega, by omega, by omega, by omega⟩
  have q7 : b.txs.length = b.outs.length := by omega
  refine p_fld fB4 rfl ?_
  refine v_load agg_tss rfl ((M.B 0 rfl).at_ rfl) ?_
  refine p_len sltss rfl ?_
  refine lp Nat (fun i W => i ≤ b.txs.length ∧ (∀ t ∈ b.txs.take i, t.length ≤ 51 ∧ ∀ s ∈ t, s.length ≤ 20000) ∧ (∀ o ∈ b.outs.take i, (encO o).2 = 0) ∧ St w gs W [(g1, 26, bkcs b p)] [] [.dat false [dTxs b.txs] [.slice p.A4 b.txs.length p.c4], .dat false [dOuts b.outs] [.slice p.A5 b.outs.length p.c5]])
    (fun i => [(1, .pointer (some ⟨g1, 0, none⟩)), (46, .slice p.A4 b.txs.length p.c4), (47, .int .i64 (b.txs.length : Nat)), (48, .int .i64 i)]) (fun i => b.txs.length - i) 0 ⟨Nat.zero_le _, (fun t h => by rw [List.take_zero] at h; cases h), (fun t h => by rw [List.take_zero] at h; cases h), M⟩ (by repeat (first | exact trivial | refine ⟨rfl, ?_⟩)) ?_
  clear M
  rintro i E W ⟨hi, ha, hb', M⟩
  refine p_lt rfl rfl (fun hlt => ?_) (fun hge => ?_)
  rotate_left
  · have hi : i = b.txs.length := by have h : ¬ (i : Int) < (b.txs.length : Int) := hge; omega
    subst hi
    rw [List.take_of_length_le (Nat.le_refl _)] at ha
    rw [List.take_of_length_le (by omega)] at hb'
    exact ⟨ret_tf (right_iff.2 ⟨hhd, ha, hb'⟩).symm, M.below⟩
  have hil : i < b.txs.length := by have h : (i : Int) < (b.txs.length : Int) := hlt; omega
  obtain ⟨t, ht⟩ : ∃ t, b.txs[i]? = some t := ⟨_, List.getElem?_eq_getElem hil⟩
  obtain ⟨o, ho⟩ : ∃ o, b.outs[i]? = some o := ⟨_, List.getElem?_eq_getElem (by omega)⟩
  obtain ⟨u1, u2, u3⟩ := bk_tx (List.mem_of_getElem? ht)
  have hfo := hf1 o (List.mem_of_getElem? ho)
  obtain ⟨b1, o1, At, ct, e1, M'⟩ := M.txe (M.d1 0 rfl) ht
  replace M := M'; clear M'
  refine p_at (i := i) sltss (by show Value.slice p.A4 b.txs.length p.c4 = _; rw [e1]) rfl rfl hil ?_
  refine v_load agg_ts rfl (M.lc 0 rfl 0 _ rfl) ?_
  refine p_len slts rfl ?_
  refine p_gt rfl rfl (fun q8 => ?_) (fun q8 => ?_)
  · have q8 : (51 : Int) < (t.length : Int) := q8
    exact ⟨ret_tf (right_false (b := b) (fun h => by have := (h.2.1 t (List.mem_of_getElem? ht)).1; omega)).symm, M.below⟩
  have q8 : ¬ (51 : Int) < (t.length : Int) := q8
  refine p_len slts rfl ?_
  refine lp Nat (fun k W => k ≤ t.length ∧ (∀ s ∈ t.take k, s.length ≤ 20000) ∧ St w gs W [(g1, 26, bkcs b p)] [] [.dat false [dTx t] [.slice At t.length ct], .dat false [dTxs b.txs] [.slice p.A4 b.txs.length p.c4], .dat false [dOuts b.outs] [.slice p.A5 b.outs.length p.c5]])
    (fun k => [(1, .pointer (some ⟨g1, 0, none⟩)), (3, .int .i64 i), (46, .slice p.A4 b.txs.length p.c4), (47, .int .i64 (b.txs.length : Nat)), (48, .int .i64 i), (56, .slice At t.length ct), (57, .int .i64 (t.length : Nat)), (58, .int .i64 k)]) (fun k => t.length - k) 0 ⟨Nat.zero_le _, (fun s h => by rw [List.take_zero] at h; cases h), M.fsub _ (by simp)⟩ (by repeat (first | exact trivial | refine ⟨rfl, ?_⟩)) ?_
  clear M
  rintro k E W ⟨hk, hs, M⟩
  refine p_lt rfl rfl (fun hlt2 => ?_) (fun hge => ?_)
  · have hkl : k < t.length := by have h : (k : Int) < (t.length : Int) := hlt2; omega
    obtain ⟨s, hsi⟩ : ∃ s, t[k]? = some s := ⟨_, List.getElem?_eq_getElem hkl⟩
    obtain ⟨b2, o2, rfl, M'⟩ := M.stre (M.d1 0 rfl) hsi
    replace M := M'; clear M'
    refine p_at (i := k) slts rfl rfl rfl hkl ?_
    refine v_load agg_st rfl (M.lc 0 rfl 0 _ rfl) ?_
    refine p_lenS u_str rfl ?_
    refine p_gt rfl rfl (fun q9 => ?_) (fun q9 => ?_)
    · have q9 : (20000 : Int) < ((sb s).size : Int) := q9
      rw [sb_size] at q9
      exact ⟨ret_tf (right_false (b := b) (fun h => by have := (h.2.1 t (List.mem_of_getElem? ht)).2 s (List.mem_of_getElem? hsi); omega)).symm, M.below⟩
    have q9 : ¬ (20000 : Int) < ((sb s).size : Int) := q9
    rw [sb_size] at q9
    refine p_addN (b := 1) rfl rfl (by omega) ?_
    refine ⟨k + 1, ⟨by omega, fun x hx => ?_, M.fsub _ (by simp)⟩, (by repeat (first | exact trivial | refine ⟨rfl, ?_⟩)), by omega⟩
    rw [List.take_add_one, hsi, List.mem_append] at hx
    rcases hx with hx | hx
    · exact hs x hx
    · have : x = s := by simpa using hx
      rw [this]; omega
  have hk : k = t.length := by have h : ¬ (k : Int) < (t.length : Int) := hge; omega
  subst hk
  rw [List.take_of_length_le (Nat.le_refl _)] at hs
  obtain ⟨b3, o3, es, e3, M'⟩ := M.oute (M.d1 2 rfl) ho
  replace M := M'; clear M'
  have hel := (M.da 1 rfl).len
  rw [dOut_len] at hel
  refine p_fld fB5 rfl ?_
  refine v_load agg_os rfl ((M.B 0 rfl).at_ rfl) ?_
  refine p_at (i := i) slos (by show Value.slice p.A5 b.outs.length p.c5 = _; rw [e3]) rfl rfl (by omega) ?_
  refine v_loadN es agg_out rfl hel (M.lc 0 rfl) ?_
  refine cc is_xEnc (xEnc_any o _ _ _ (M.da 1 rfl) M.olt hfo) ?_
  rintro e W ⟨A7, n7, c7, rfl, o7, hb⟩
  replace M := M.call hb
  clear hb o7
  refine ⟨_, rfl, ?_⟩
  refine p_ne rfl rfl (fun q9 => ?_) (fun q9 => ?_)
  rotate_left
  · have q9 : ¬ (encO o).2 = 0 := q9
    exact ⟨ret_tf (right_false (b := b) (fun h => q9 (h.2.2 o (List.mem_of_getElem? ho)))).symm, M.below⟩
  have q9 : (encO o).2 = 0 := q9
  refine p_addN (b := 1) rfl rfl (by omega) ?_
  refine ⟨i + 1, ⟨by omega, fun x hx => ?_, fun x hx => ?_, M.fsub _ (by simp)⟩, (by repeat (first | exact trivial | refine ⟨rfl, ?_⟩)), by omega⟩
  · rw [List.take_add_one, ht, List.mem_append] at hx
    rcases hx with hx | hx
    · exact ha x hx
    · have : x = t := by simpa using hx
      rw [this]; exact ⟨by omega, hs⟩
  · rw [List.take_add_one, ho, List.mem_append] at hx
    rcases hx with hx | hx
    · exact hb' x hx
    · have : x = o := by simpa using hx
      rw [this]; exact q9
set_option maxRecDepth 100000 in
set_option maxHeartbeats 2000000 in
theorem bcheck_any (b : Bk) (gs : List (Option Nat)) (w : World) (cs : List Value) (hr : RdL w (Fd w gs) (dBk b) cs) (hgs : ∀ b, some b ∈ gs → b < w.heap.size) (hf : FitsB b) :
    Calls Tryd.prog 14 #[.agg cs.toArray] w fun e w' => e = .returned (.int .i64 (checkBk b)) ∧ Below w.heap.size w w' := by
  refine calls_ev (args := [.agg cs.toArray]) mixed Tryd.func14 rfl (by kernel_rfl) ?_
  obtain ⟨p, rfl, -⟩ := id hr.bk
  have M := (St.start hgs).addL hr
  clear hr
  refine s_box (bkcs b p) M rfl ?_
  clear M
  rintro g1 W M
  refine v_loadN (bkcs b p) agg_bk rfl rfl (M.run 0 rfl) ?_
  refine cc is_bright (bright_any b _ _ _ (M.da 0 rfl) M.olt hf) ?_
  rintro e W ⟨rfl, hb⟩
  replace M := M.call hb
  clear hb
  refine ⟨_, rfl, ?_⟩
  refine p_not rfl ?_
  unfold checkBk
  cases rightBk b with
  | false => rw [if_neg (by decide)]; exact ⟨rfl, M.below⟩
  | true =>
  rw [if_pos rfl]
  refine p_fld fB6 rfl ?_
  refine v_load agg_b rfl ((M.B 0 rfl).at_ rfl) ?_
  refine p_len slb rfl ?_
  refine p_gt rfl rfl (fun q => ?_) (fun q => ?_)
  · have q : 1048576 < b.proof.length := by have h : (1048576 : Int) < (b.proof.length : Int) := q; omega
    rw [if_pos q]; exact ⟨rfl, M.below⟩
  · have q : ¬ 1048576 < b.proof.length := by have h : ¬ (1048576 : Int) < (b.proof.length : Int) := q; omega
    rw [if_neg q]; exact ⟨rfl, M.below⟩
end Go.Proofs.YtejbljopighenaaDoor
namespace Go.Proofs.YtejbljopighenaaDoor
open Go.ChangeShapes Go.WideShapes Go.ChangeAt Go.RowKit
section
variable {H : Type} {enc : TypeId × Value → H} {W : World}
theorem slice_trod {α : Type} (dE : α → List D) (s : Nat) (hd : ∀ a, (dE a).length = s) (hs : 0 < s) (Q : α → Prop) (f : α → Nat) {ts te : TypeId} (hT : Tryd.prog.underlying ts = some (.slice te)) (hc : Program.cellsOf Tryd.prog te = s) {fuel : Nat} {cs : List Value} {x : DataW H × List MemPlace}
    (hf : DataW.trod enc Tryd.prog W 0 (fun _ => true) true fuel ts cs = some x) (hlt : ∀ q ∈ x.2, q.block < W.heap.size)
    (he : ∀ m cs' y, m < fuel → DataW.trod enc Tryd.prog W 0 (fun _ => true) true m te cs' = some y → (∀ q ∈ y.2, q.block < W.heap.size) → ∃ a, (Q a ∧ f a ≤ Rows.uptoBulk y.1) ∧ RdL W (Fd W []) (dE a) cs') :
    ∃ (l : List α) (A : Option Addr) (c : Nat), cs = [.slice A l.length c] ∧ (∀ a ∈ l, Q a) ∧ (l.map f).sum + 1 ≤ Rows.uptoBulk x.1 ∧ RdD W (Fd W []) (.sl s l.length (l.flatMap dE)) (.slice A l.length c) := by
  obtain ⟨A, m, c, ks, ds, rest, e4, hd4, l1, l2, hP, r4⟩ := trod_elts dE s hd hs (P := fun d a => Q a ∧ f a ≤ Rows.uptoBulk d) hT hc hf hlt he
  subst l1
  have hks := bulk_sums f ks ds l2 (fun i l d a b => (hP i l d a b).2)
  refine ⟨ks, A, c, e4, fun a ha => ?_, ?_, r4⟩
  · obtain ⟨i, hi⟩ := List.getElem?_of_mem ha
    have hil : i < ks.length := (List.getElem?_eq_some_iff.1 hi).1
    exact (hP i a (ds[i]'(by omega)) hi (List.getElem?_eq_getElem (by omega))).1
  · rcases hd4 with h | ⟨h, e⟩
    · rw [h]
      show _ ≤ Rows.uptoBulkAll ds + Rows.uptoBulkAll rest + 1
      omega
    · rw [h]
      rw [e] at hks
      have : Rows.uptoBulkAll ([] : List (DataW H)) = 0 := rfl
      show _ ≤ 1
      omega
def vbk (v : Val) : Nat := v.s.length + 4
def rowbk (l : List Val) : Nat := (l.map vbk).sum + 1
def rowsbk (l : List (List Val)) : Nat := (l.map rowbk).sum + 1
def resbk (r : Res) : Nat := rowsbk r.rows + 2
def outbk (o : Out) : Nat := (o.l.map resbk).sum + 4
def strbk (s : List UInt8) : Nat := s.length + 1
def txbk (t : List (List UInt8)) : Nat := (t.map strbk).sum + 1
def bkbk (b : Bk) : Nat := (b.last.length + 1) + ((b.prev.length + 1) + ((b.next.length + 1) + (((b.txs.map txbk).sum + 1) + (((b.outs.map outbk).sum + 1) + (b.proof.length + 1))))) + 2
/-- What it is made of may be. -/
def WfRow (l : List Val) : Prop := ∀ v ∈ l, VOk v
def WfRes (r : Res) : Prop := r.n ≤ 9223372036854775807 ∧ ∀ l ∈ r.rows, WfRow l
def WfOut (o : Out) : Prop := (o.e ≤ 9223372036854775807 ∧ o.at_ ≤ 9223372036854775807) ∧ ∀ r ∈ o.l, WfRes r
def WfB (b : Bk) : Prop := -9223372036854775808 ≤ b.num ∧ b.num ≤ 9223372036854775807 ∧ ∀ o ∈ b.outs, WfOut o
theorem c1vrow : Program.cellsOf Tryd.prog 59 = 1 := by kernel_rfl
theorem c1vrows : Program.cellsOf Tryd.prog 56 = 1 := by kernel_rfl
theorem c1ress : Program.cellsOf Tryd.prog 53 = 1 := by kernel_rfl
theorem c1outs : Program.cellsOf Tryd.prog 24 = 1 := by kernel_rfl
theorem c1str : Program.cellsOf Tryd.prog 9 = 1 := by kernel_rfl
theorem c1tx : Program.cellsOf Tryd.prog 52 = 1 := by kernel_rfl
theorem c1txs : Program.cellsOf Tryd.prog 23 = 1 := by kernel_rfl
theorem c2res : Program.cellsOf Tryd.prog 58 = 2 := by kernel_rfl
theorem c3out : Program.cellsOf Tryd.prog 55 = 3 := by kernel_rfl
theorem c7bk : Program.cellsOf Tryd.prog 26 = 7 := by kernel_rfl
theorem list3 {α : Type} {l : List α} (h : l.length = 3) : ∃ a b c, l = [a, b, c] := by
  match l, h with
  | [a, b, c], _ => exact ⟨a, b, c, rfl⟩
set_option maxRecDepth 100000 in
theorem row_trodB {fuel : Nat} {cs : List Value} {x : DataW H × List MemPlace} (hf : DataW.trod enc Tryd.prog W 0 (fun _ => true) true fuel 59 cs = some x) (hlt : ∀ q ∈ x.2, q.block < W.heap.size) :
    ∃ l, (WfRow l ∧ rowbk l ≤ Rows.uptoBulk x.1) ∧ RdL W (Fd W []) [dRow l] cs := by
  obtain ⟨l, A, c, rfl, h1, h2, h3⟩ := slice_trod (fun v : Val => (vc v).map D.v) 3 (fun _ => rfl) (by decide) VOk vbk Tryd.underlying59 cells3 hf hlt (fun m cs' y _ hy _ => by
    obtain ⟨v, rfl, h1, h2⟩ := val_trod hy
    exact ⟨v, ⟨h1, h2⟩, RdL.ofvals _⟩)
  exact ⟨l, ⟨h1, h2⟩, RdL.cons (by rw [dRow_flat]; exact h3) RdL.nil_⟩
set_option maxRecDepth 100000 in
theorem rows_trodB {fuel : Nat} {cs : List Value} {x : DataW H × List MemPlace} (hf : DataW.trod enc Tryd.prog W 0 (fun _ => true) true fuel 56 cs = some x) (hlt : ∀ q ∈ x.2, q.block < W.heap.size) :
    ∃ l A c, cs = [.slice A l.length c] ∧ ((∀ r ∈ l, WfRow r) ∧ rowsbk l ≤ Rows.uptoBulk x.1) ∧ RdD W (Fd W []) (dRows l) (.slice A l.length c) := by
  obtain ⟨l, A, c, rfl, h1, h2, h3⟩ := slice_trod (fun r : List Val => [dRow r]) 1 (fun _ => rfl) (by decide) WfRow rowbk Tryd.underlying56 c1vrow hf hlt (fun m cs' y _ hy hq => row_trodB hy hq)
  exact ⟨l, A, c, rfl, ⟨h1, h2⟩, by rw [dRows_flat]; exact h3⟩
set_option maxRecDepth 100000 in
theorem res_trodB {fuel : Nat} {cs : List Value} {x : DataW H × List MemPlace} (hf : DataW.trod enc Tryd.prog W 0 (fun _ => true) true fuel 58 cs = some x) (hlt : ∀ q ∈ x.2, q.block < W.heap.size) :
    ∃ r, (WfRes r ∧ resbk r ≤ Rows.uptoBulk x.1) ∧ RdL W (Fd W []) (dRes r) cs := by
  obtain ⟨xs, n, rfl, rfl, hl, hlen, hfs⟩ := DataW.trod_struct Tryd.underlying58 hf
  rw [c2res] at hl
  obtain ⟨a0, a1, rfl⟩ := list2 hl
  obtain ⟨y0, y1, rfl⟩ := list2 (show xs.length = 2 from hlen)
  have h0 : DataW.trod enc Tryd.prog W 0 (fun _ => true) true n 56 [a0] = some y0 := by have := (show DataW.trod enc Tryd.prog W 0 (fun _ => true) true n 56 (([a0, a1].drop 0).take (Program.cellsOf Tryd.prog 56)) = some y0 from hfs 0 _ rfl); rw [c1vrows] at this; exact this
  have h1 : DataW.trod enc Tryd.prog W 0 (fun _ => true) true n 3 [a1] = some y1 := by have := (show DataW.trod enc Tryd.prog W 0 (fun _ => true) true n 3 (([a0, a1].drop 1).take (Program.cellsOf Tryd.prog 3)) = some y1 from hfs 1 _ rfl); rw [c1int] at this; exact this
  have hq : ∀ y ∈ [y0, y1], ∀ q ∈ y.2, q.block < W.heap.size := fun y hy q hq => hlt q (List.mem_flatMap.2 ⟨y, hy, hq⟩)
  obtain ⟨l, A, c, e0, ⟨k1, k2⟩, k3⟩ := rows_trodB h0 (hq y0 (by simp))
  obtain ⟨m1, e1, rfl, w1⟩ := DataW.trod_int Tryd.underlying3 h1
  injection e0 with e0
  injection e1 with e1
  subst e0; subst e1
  refine ⟨⟨l, m1⟩, ⟨⟨(wf_i64 w1).2, k1⟩, ?_⟩, RdL.cons k3 (RdL.cons (RdD.ofv _) RdL.nil_)⟩
  show rowsbk l + 2 ≤ Rows.uptoBulk y0.1 + (1 + 0) + 1
  omega
set_option maxRecDepth 100000 in
theorem ress_trodB {fuel : Nat} {cs : List Value} {x : DataW H × List MemPlace} (hf : DataW.trod enc Tryd.prog W 0 (fun _ => true) true fuel 53 cs = some x) (hlt : ∀ q ∈ x.2, q.block < W.heap.size) :
    ∃ l A c, cs = [.slice A l.length c] ∧ ((∀ r ∈ l, WfRes r) ∧ (l.map resbk).sum + 1 ≤ Rows.uptoBulk x.1) ∧ RdD W (Fd W []) (dRs l) (.slice A l.length c) := by
  obtain ⟨l, A, c, rfl, h1, h2, h3⟩ := slice_trod dRes 2 dRes_len (by decide) WfRes resbk Tryd.underlying53 c2res hf hlt (fun m cs' y _ hy hq => res_trodB hy hq)
  exact ⟨l, A, c, rfl, ⟨h1, h2⟩, h3⟩
set_option maxRecDepth 100000 in
theorem out_trodB {fuel : Nat} {cs : List Value} {x : DataW H × List MemPlace} (hf : DataW.trod enc Tryd.prog W 0 (fun _ => true) true fuel 55 cs = some x) (hlt : ∀ q ∈ x.2, q.block < W.heap.size) :
    ∃ o, (WfOut o ∧ outbk o ≤ Rows.uptoBulk x.1) ∧ RdL W (Fd W []) (dOut o) cs := by
  obtain ⟨xs, n, rfl, rfl, hl, hlen, hfs⟩ := DataW.trod_struct Tryd.underlying55 hf
  rw [c3out] at hl
  obtain ⟨a0, a1, a2, rfl⟩ := list3 hl
  obtain ⟨y0, y1, y2, rfl⟩ := list3 (show xs.length = 3 from hlen)
  have hq : ∀ y ∈ [y0, y1, y2], ∀ q ∈ y.2, q.block < W.heap.size := fun y hy q hq => hlt q (List.mem_flatMap.2 ⟨y, hy, hq⟩)
  have h0 : DataW.trod enc Tryd.prog W 0 (fun _ => true) true n 3 [a0] = some y0 := by have := (show DataW.trod enc Tryd.prog W 0 (fun _ => true) true n 3 (([a0,a1,a2].drop 0).take (Program.cellsOf Tryd.prog 3)) = some y0 from hfs 0 _ rfl); rw [c1int] at this; exact this
  have h1 : DataW.trod enc Tryd.prog W 0 (fun _ => true) true n 3 [a1] = some y1 := by have := (show DataW.trod enc Tryd.prog W 0 (fun _ => true) true n 3 (([a0,a1,a2].drop 1).take (Program.cellsOf Tryd.prog 3)) = some y1 from hfs 1 _ rfl); rw [c1int] at this; exact this
  have h2 : DataW.trod enc Tryd.prog W 0 (fun _ => true) true n 53 [a2] = some y2 := by have := (show DataW.trod enc Tryd.prog W 0 (fun _ => true) true n 53 (([a0,a1,a2].drop 2).take (Program.cellsOf Tryd.prog 53)) = some y2 from hfs 2 _ rfl); rw [c1ress] at this; exact this
  obtain ⟨m0, e0, rfl, w0⟩ := DataW.trod_int Tryd.underlying3 h0
  obtain ⟨m1, e1, rfl, w1⟩ := DataW.trod_int Tryd.underlying3 h1
  obtain ⟨l, A, c, e2, ⟨k1, k2⟩, k3⟩ := ress_trodB h2 (hq y2 (by simp))
  injection e0 with e0
  injection e1 with e1
  injection e2 with e2
  subst e0; subst e1; subst e2
  refine ⟨⟨m0, m1, l⟩, ⟨⟨⟨(wf_i64 w0).2, (wf_i64 w1).2⟩, k1⟩, ?_⟩, RdL.cons (RdD.ofv _) (RdL.cons (RdD.ofv _) (RdL.cons k3 RdL.nil_))⟩
  show (l.map resbk).sum + 4 ≤ 1 + (1 + (Rows.uptoBulk y2.1 + 0)) + 1
  omega
set_option maxRecDepth 100000 in
theorem outs_trodB {fuel : Nat} {cs : List Value} {x : DataW H × List MemPlace} (hf : DataW.trod enc Tryd.prog W 0 (fun _ => true) true fuel 24 cs = some x) (hlt : ∀ q ∈ x.2, q.block < W.heap.size) :
    ∃ l A c, cs = [.slice A l.length c] ∧ ((∀ r ∈ l, WfOut r) ∧ (l.map outbk).sum + 1 ≤ Rows.uptoBulk x.1) ∧ RdD W (Fd W []) (dOuts l) (.slice A l.length c) := by
  obtain ⟨l, A, c, rfl, h1, h2, h3⟩ := slice_trod dOut 3 dOut_len (by decide) WfOut outbk Tryd.underlying24 c3out hf hlt (fun m cs' y _ hy hq => out_trodB hy hq)
  exact ⟨l, A, c, rfl, ⟨h1, h2⟩, h3⟩
set_option maxRecDepth 100000 in
theorem str_trodB {fuel : Nat} {cs : List Value} {x : DataW H × List MemPlace} (hf : DataW.trod enc Tryd.prog W 0 (fun _ => true) true fuel 9 cs = some x) :
    ∃ s, (True ∧ strbk s ≤ Rows.uptoBulk x.1) ∧ RdL W (Fd W []) [D.v (.string (sb s))] cs := by
  obtain ⟨s, hs, rfl, ws⟩ := DataW.trod_string Tryd.underlying9 hf
  subst hs
  exact ⟨s.data.toList, ⟨trivial, Nat.le_refl _⟩, RdL.cons (RdD.ofv _) RdL.nil_⟩
set_option maxRecDepth 100000 in
theorem tx_trodB {fuel : Nat} {cs : List Value} {x : DataW H × List MemPlace} (hf : DataW.trod enc Tryd.prog W 0 (fun _ => true) true fuel 52 cs = some x) (hlt : ∀ q ∈ x.2, q.block < W.heap.size) :
    ∃ l, (True ∧ txbk l ≤ Rows.uptoBulk x.1) ∧ RdL W (Fd W []) [dTx l] cs := by
  obtain ⟨l, A, c, rfl, h1, h2, h3⟩ := slice_trod (fun s : List UInt8 => [D.v (.string (sb s))]) 1 (fun _ => rfl) (by decide) (fun _ => True) strbk Tryd.underlying52 c1str hf hlt (fun m cs' y _ hy hq => str_trodB hy)
  exact ⟨l, ⟨trivial, h2⟩, RdL.cons (by rw [dTx_flat]; exact h3) RdL.nil_⟩
set_option maxRecDepth 100000 in
theorem txs_trodB {fuel : Nat} {cs : List Value} {x : DataW H × List MemPlace} (hf : DataW.trod enc Tryd.prog W 0 (fun _ => true) true fuel 23 cs = some x) (hlt : ∀ q ∈ x.2, q.block < W.heap.size) :
    ∃ l A c, cs = [.slice A l.length c] ∧ (l.map txbk).sum + 1 ≤ Rows.uptoBulk x.1 ∧ RdD W (Fd W []) (dTxs l) (.slice A l.length c) := by
  obtain ⟨l, A, c, rfl, h1, h2, h3⟩ := slice_trod (fun t : List (List UInt8) => [dTx t]) 1 (fun _ => rfl) (by decide) (fun _ => True) txbk Tryd.underlying23 c1tx hf hlt (fun m cs' y _ hy hq => tx_trodB hy hq)
  exact ⟨l, A, c, rfl, h2, by rw [dTxs_flat]; exact h3⟩
set_option maxRecDepth 100000 in
theorem bk_trodB {fuel : Nat} {cs : List Value} {x : DataW H × List MemPlace} (hf : DataW.trod enc Tryd.prog W 0 (fun _ => true) true fuel 26 cs = some x) (hlt : ∀ q ∈ x.2, q.block < W.heap.size) :
    ∃ b, (WfB b ∧ bkbk b ≤ Rows.uptoBulk x.1) ∧ RdL W (Fd W []) (dBk b) cs := by
  obtain ⟨xs, n, rfl, rfl, hl, hlen, hfs⟩ := DataW.trod_struct Tryd.underlying26 hf
  rw [c7bk] at hl
  obtain ⟨a0, a1, a2, a3, a4, a5, a6, rfl⟩ := list7 hl
  obtain ⟨y0, y1, y2, y3, y4, y5, y6, rfl⟩ := list7 (show xs.length = 7 from hlen)
  have hq : ∀ y ∈ [y0, y1, y2, y3, y4, y5, y6], ∀ q ∈ y.2, q.block < W.heap.size := fun y hy q hq => hlt q (List.mem_flatMap.2 ⟨y, hy, hq⟩)
  have h0 : DataW.trod enc Tryd.prog W 0 (fun _ => true) true n 3 [a0] = some y0 := by have := (show DataW.trod enc Tryd.prog W 0 (fun _ => true) true n 3 (([a0,a1,a2,a3,a4,a5,a6].drop 0).take (Program.cellsOf Tryd.prog 3)) = some y0 from hfs 0 _ rfl); rw [c1int] at this; exact this
  have h1 : DataW.trod enc Tryd.prog W 0 (fun _ => true) true n 22 [a1] = some y1 := by have := (show DataW.trod enc Tryd.prog W 0 (fun _ => true) true n 22 (([a0,a1,a2,a3,a4,a5,a6].drop 1).take (Program.cellsOf Tryd.prog 22)) = some y1 from hfs 1 _ rfl); rw [c1bytes] at this; exact this
  have h2 : DataW.trod enc Tryd.prog W 0 (fun _ => true) true n 22 [a2] = some y2 := by have := (show DataW.trod enc Tryd.prog W 0 (fun _ => true) true n 22 (([a0,a1,a2,a3,a4,a5,a6].drop 2).take (Program.cellsOf Tryd.prog 22)) = some y2 from hfs 2 _ rfl); rw [c1bytes] at this; exact this
  have h3 : DataW.trod enc Tryd.prog W 0 (fun _ => true) true n 22 [a3] = some y3 := by have := (show DataW.trod enc Tryd.prog W 0 (fun _ => true) true n 22 (([a0,a1,a2,a3,a4,a5,a6].drop 3).take (Program.cellsOf Tryd.prog 22)) = some y3 from hfs 3 _ rfl); rw [c1bytes] at this; exact this
  have h4 : DataW.trod enc Tryd.prog W 0 (fun _ => true) true n 23 [a4] = some y4 := by have := (show DataW.trod enc Tryd.prog W 0 (fun _ => true) true n 23 (([a0,a1,a2,a3,a4,a5,a6].drop 4).take (Program.cellsOf Tryd.prog 23)) = some y4 from hfs 4 _ rfl); rw [c1txs] at this; exact this
  have h5 : DataW.trod enc Tryd.prog W 0 (fun _ => true) true n 24 [a5] = some y5 := by have := (show DataW.trod enc Tryd.prog W 0 (fun _ => true) true n 24 (([a0,a1,a2,a3,a4,a5,a6].drop 5).take (Program.cellsOf Tryd.prog 24)) = some y5 from hfs 5 _ rfl); rw [c1outs] at this; exact this
  have h6 : DataW.trod enc Tryd.prog W 0 (fun _ => true) true n 22 [a6] = some y6 := by have := (show DataW.trod enc Tryd.prog W 0 (fun _ => true) true n 22 (([a0,a1,a2,a3,a4,a5,a6].drop 6).take (Program.cellsOf Tryd.prog 22)) = some y6 from hfs 6 _ rfl); rw [c1bytes] at this; exact this
  obtain ⟨m0, e0, rfl, w0⟩ := DataW.trod_int Tryd.underlying3 h0
  obtain ⟨l1, u1, e1, r1, b1⟩ := bytes_trod h1 (hq y1 (by simp))
  obtain ⟨l2, u2, e2, r2, b2⟩ := bytes_trod h2 (hq y2 (by simp))
  obtain ⟨l3, u3, e3, r3, b3⟩ := bytes_trod h3 (hq y3 (by simp))
  obtain ⟨l4, A4, c4, e4, b4, r4⟩ := txs_trodB h4 (hq y4 (by simp))
  obtain ⟨l5, A5, c5, e5, ⟨f5, b5⟩, r5⟩ := outs_trodB h5 (hq y5 (by simp))
  obtain ⟨l6, u6, e6, r6, b6⟩ := bytes_trod h6 (hq y6 (by simp))
  injection e0 with e0
  injection e1 with e1
  injection e2 with e2
  injection e3 with e3
  injection e4 with e4
  injection e5 with e5
  injection e6 with e6
  subst e0; subst e1; subst e2; subst e3; subst e4; subst e5; subst e6
  refine ⟨⟨m0, l1, l2, l3, l4, l5, l6⟩, ⟨⟨(wf_i64 w0).1, (wf_i64 w0).2, f5⟩, ?_⟩, RdL.cons (RdD.ofv _) (RdL.cons r1 (RdL.cons r2 (RdL.cons r3 (RdL.cons r4 (RdL.cons r5 (RdL.cons r6 RdL.nil_))))))⟩
  show (l1.length + 1) + ((l2.length + 1) + ((l3.length + 1) + (((l4.map txbk).sum + 1) + (((l5.map outbk).sum + 1) + (l6.length + 1))))) + 2 ≤ 1 + (Rows.uptoBulk y1.1 + (Rows.uptoBulk y2.1 + (Rows.uptoBulk y3.1 + (Rows.uptoBulk y4.1 + (Rows.uptoBulk y5.1 + (Rows.uptoBulk y6.1 + 0)))))) + 1
  omega
set_option maxRecDepth 100000 in
/-- One that came in. -/
theorem bk_open {base : Nat} {v : Value} {d : DataW H} {p : List MemPlace} (hv : Value.okWide Tryd.prog W .any base 26 v)
    (h : DataW.Trod enc Tryd.prog W 0 (fun _ => true) true 26 v d p) : ∃ (b : Bk) (cs : List Value), v = .agg cs.toArray ∧ RdL W (Fd W []) (dBk b) cs ∧ WfB b ∧ bkbk b ≤ Rows.uptoBulk d := by
  obtain ⟨cs, rfl, _⟩ := okWide_struct Tryd.underlying26 hv
  have hlt : ∀ x ∈ p, x.block < W.heap.size := by obtain ⟨m, hm⟩ := h; exact DataW.trod_lt m _ _ _ hm
  obtain ⟨fuel, hf⟩ := h
  obtain ⟨t, h1, h2⟩ := bk_trodB (fuel := fuel) (cs := cs.toList) (x := (d, p)) hf hlt
  exact ⟨t, cs.toList, by simp, h2, h1.1, h1.2⟩
end
end Go.Proofs.YtejbljopighenaaDoor
