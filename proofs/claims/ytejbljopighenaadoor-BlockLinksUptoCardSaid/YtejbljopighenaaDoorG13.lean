/- A block, and a row of blocks, that came in, opened. No walk here. Package block: Encode. Reference 21: Check, fits, Encode. -/
import Derived.Test.YtejbljopighenaaDoorG04
import Derived.Test.YtejbljopighenaaDoorG12
namespace Go.Proofs.YtejbljopighenaaDoor
open Go.ChangeShapes Go.WideShapes Go.ChangeAt Go.RowKit
section
variable {H : Type} {enc : TypeId × Value → H} {W : World}
theorem slice_trod {α : Type} (dE : α → List D) (s : Nat) (hd : ∀ a, (dE a).length = s) (hs : 0 < s) (Q : α → Prop) (f : α → Nat) {ts te : TypeId} (hT : Tryd.prog.underlying ts = some (.slice te)) (hc : Program.cellsOf Tryd.prog te = s) {fuel : Nat} {cs : List Value} {x : DataW H × List MemPlace}
    (hf : DataW.trod enc Tryd.prog W 0 (fun _ => true) true fuel ts cs = some x) (hlt : ∀ q ∈ x.2, q.block < W.heap.size)
    (he : ∀ m cs' y, m < fuel → DataW.trod enc Tryd.prog W 0 (fun _ => true) true m te cs' = some y → (∀ q ∈ y.2, q.block < W.heap.size) → ∃ a, (Q a ∧ f a ≤ Rows.uptoBulk y.1) ∧ RdL W (Fd W []) (dE a) cs') :
    ∃ (l : List α) (A : Option Addr) (c : Nat), cs = [.slice A l.length c] ∧ (∀ a ∈ l, Q a) ∧ (l.map f).sum + 1 ≤ Rows.uptoBulk x.1 ∧ RdD W (Fd W []) (.sl s l.length (l.flatMap dE)) (.slice A l.length c) := by
  obtain ⟨A, m, c, ks, ds, rest, e4, hd4, l1, l2, hP, r4⟩ := trod_elts dE s hd hs (P := fun d a => Q a ∧ f a ≤ Rows.uptoBulk d) hT hc hf hlt he
  subst l1
  have hks := bulk_sums f ks ds l2 (fun i l d a b => (hP i l d a b).2)
  refine ⟨ks, A, c, e4, fun a ha => ?_, ?_, r4⟩
  · obtain ⟨i, hi⟩ := List.getElem?_of_mem ha
    have hil : i < ks.length := (List.getElem?_eq_some_iff.1 hi).1
    exact (hP i a (ds[i]'(by omega)) hi (List.getElem?_eq_getElem (by omega))).1
  · rcases hd4 with h | ⟨h, e⟩
    · rw [h]
      show _ ≤ Rows.uptoBulkAll ds + Rows.uptoBulkAll rest + 1
      omega
    · rw [h]
      rw [e] at hks
      have : Rows.uptoBulkAll ([] : List (DataW H)) = 0 := rfl
      show _ ≤ 1
      omega
def vbk (v : Val) : Nat := v.s.length + 4
def rowbk (l : List Val) : Nat := (l.map vbk).sum + 1
def rowsbk (l : List (List Val)) : Nat := (l.map rowbk).sum + 1
def resbk (r : Res) : Nat := rowsbk r.rows + 2
def outbk (o : Out) : Nat := (o.l.map resbk).sum + 4
def strbk (s : List UInt8) : Nat := s.length + 1
def txbk (t : List (List UInt8)) : Nat := (t.map strbk).sum + 1
def bkbk (b : Bk) : Nat := (b.last.length + 1) + ((b.prev.length + 1) + ((b.next.length + 1) + (((b.txs.map txbk).sum + 1) + (((b.outs.map outbk).sum + 1) + (b.proof.length + 1))))) + 2
/-- What it is made of may be. -/
def WfRow (l : List Val) : Prop := ∀ v ∈ l, VOk v
def WfRes (r : Res) : Prop := r.n ≤ 9223372036854775807 ∧ ∀ l ∈ r.rows, WfRow l
def WfOut (o : Out) : Prop := (o.e ≤ 9223372036854775807 ∧ o.at_ ≤ 9223372036854775807) ∧ ∀ r ∈ o.l, WfRes r
def WfB (b : Bk) : Prop := -9223372036854775808 ≤ b.num ∧ b.num ≤ 9223372036854775807 ∧ ∀ o ∈ b.outs, WfOut o
theorem c1vrow : Program.cellsOf Tryd.prog 59 = 1 := by kernel_rfl
theorem c1vrows : Program.cellsOf Tryd.prog 56 = 1 := by kernel_rfl
theorem c1ress : Program.cellsOf Tryd.prog 53 = 1 := by kernel_rfl
theorem c1outs : Program.cellsOf Tryd.prog 24 = 1 := by kernel_rfl
theorem c1str : Program.cellsOf Tryd.prog 9 = 1 := by kernel_rfl
theorem c1tx : Program.cellsOf Tryd.prog 52 = 1 := by kernel_rfl
theorem c1txs : Program.cellsOf Tryd.prog 23 = 1 := by kernel_rfl
theorem c2res : Program.cellsOf Tryd.prog 58 = 2 := by kernel_rfl
theorem c3out : Program.cellsOf Tryd.prog 55 = 3 := by kernel_rfl
theorem c7bk : Program.cellsOf Tryd.prog 26 = 7 := by kernel_rfl
theorem list3 {α : Type} {l : List α} (h : l.length = 3) : ∃ a b c, l = [a, b, c] := by
  match l, h with
  | [a, b, c], _ => exact ⟨a, b, c, rfl⟩
set_option maxRecDepth 100000 in
theorem row_trodB {fuel : Nat} {cs : List Value} {x : DataW H × List MemPlace} (hf : DataW.trod enc Tryd.prog W 0 (fun _ => true) true fuel 59 cs = some x) (hlt : ∀ q ∈ x.2, q.block < W.heap.size) :
    ∃ l, (WfRow l ∧ rowbk l ≤ Rows.uptoBulk x.1) ∧ RdL W (Fd W []) [dRow l] cs := by
  obtain ⟨l, A, c, rfl, h1, h2, h3⟩ := slice_trod (fun v : Val => (vc v).map D.v) 3 (fun _ => rfl) (by decide) VOk vbk Tryd.underlying59 cells3 hf hlt (fun m cs' y _ hy _ => by
    obtain ⟨v, rfl, h1, h2⟩ := val_trod hy
    exact ⟨v, ⟨h1, h2⟩, RdL.ofvals _⟩)
  exact ⟨l, ⟨h1, h2⟩, RdL.cons (by rw [dRow_flat]; exact h3) RdL.nil_⟩
set_option maxRecDepth 100000 in
theorem rows_trodB {fuel : Nat} {cs : List Value} {x : DataW H × List MemPlace} (hf : DataW.trod enc Tryd.prog W 0 (fun _ => true) true fuel 56 cs = some x) (hlt : ∀ q ∈ x.2, q.block < W.heap.size) :
    ∃ l A c, cs = [.slice A l.length c] ∧ ((∀ r ∈ l, WfRow r) ∧ rowsbk l ≤ Rows.uptoBulk x.1) ∧ RdD W (Fd W []) (dRows l) (.slice A l.length c) := by
  obtain ⟨l, A, c, rfl, h1, h2, h3⟩ := slice_trod (fun r : List Val => [dRow r]) 1 (fun _ => rfl) (by decide) WfRow rowbk Tryd.underlying56 c1vrow hf hlt (fun m cs' y _ hy hq => row_trodB hy hq)
  exact ⟨l, A, c, rfl, ⟨h1, h2⟩, by rw [dRows_flat]; exact h3⟩
set_option maxRecDepth 100000 in
theorem res_trodB {fuel : Nat} {cs : List Value} {x : DataW H × List MemPlace} (hf : DataW.trod enc Tryd.prog W 0 (fun _ => true) true fuel 58 cs = some x) (hlt : ∀ q ∈ x.2, q.block < W.heap.size) :
    ∃ r, (WfRes r ∧ resbk r ≤ Rows.uptoBulk x.1) ∧ RdL W (Fd W []) (dRes r) cs := by
  obtain ⟨xs, n, rfl, rfl, hl, hlen, hfs⟩ := DataW.trod_struct Tryd.underlying58 hf
  rw [c2res] at hl
  obtain ⟨a0, a1, rfl⟩ := list2 hl
  obtain ⟨y0, y1, rfl⟩ := list2 (show xs.length = 2 from hlen)
  have h0 : DataW.trod enc Tryd.prog W 0 (fun _ => true) true n 56 [a0] = some y0 := by have := (show DataW.trod enc Tryd.prog W 0 (fun _ => true) true n 56 (([a0, a1].drop 0).take (Program.cellsOf Tryd.prog 56)) = some y0 from hfs 0 _ rfl); rw [c1vrows] at this; exact this
  have h1 : DataW.trod enc Tryd.prog W 0 (fun _ => true) true n 3 [a1] = some y1 := by have := (show DataW.trod enc Tryd.prog W 0 (fun _ => true) true n 3 (([a0, a1].drop 1).take (Program.cellsOf Tryd.prog 3)) = some y1 from hfs 1 _ rfl); rw [c1int] at this; exact this
  have hq : ∀ y ∈ [y0, y1], ∀ q ∈ y.2, q.block < W.heap.size := fun y hy q hq => hlt q (List.mem_flatMap.2 ⟨y, hy, hq⟩)
  obtain ⟨l, A, c, e0, ⟨k1, k2⟩, k3⟩ := rows_trodB h0 (hq y0 (by simp))
  obtain ⟨m1, e1, rfl, w1⟩ := DataW.trod_int Tryd.underlying3 h1
  injection e0 with e0
  injection e1 with e1
  subst e0; subst e1
  refine ⟨⟨l, m1⟩, ⟨⟨(wf_i64 w1).2, k1⟩, ?_⟩, RdL.cons k3 (RdL.cons (RdD.ofv _) RdL.nil_)⟩
  show rowsbk l + 2 ≤ Rows.uptoBulk y0.1 + (1 + 0) + 1
  omega
set_option maxRecDepth 100000 in
theorem ress_trodB {fuel : Nat} {cs : List Value} {x : DataW H × List MemPlace} (hf : DataW.trod enc Tryd.prog W 0 (fun _ => true) true fuel 53 cs = some x) (hlt : ∀ q ∈ x.2, q.block < W.heap.size) :
    ∃ l A c, cs = [.slice A l.length c] ∧ ((∀ r ∈ l, WfRes r) ∧ (l.map resbk).sum + 1 ≤ Rows.uptoBulk x.1) ∧ RdD W (Fd W []) (dRs l) (.slice A l.length c) := by
  obtain ⟨l, A, c, rfl, h1, h2, h3⟩ := slice_trod dRes 2 dRes_len (by decide) WfRes resbk Tryd.underlying53 c2res hf hlt (fun m cs' y _ hy hq => res_trodB hy hq)
  exact ⟨l, A, c, rfl, ⟨h1, h2⟩, h3⟩
set_option maxRecDepth 100000 in
theorem out_trodB {fuel : Nat} {cs : List Value} {x : DataW H × List MemPlace} (hf : DataW.trod enc Tryd.prog W 0 (fun _ => true) true fuel 55 cs = some x) (hlt : ∀ q ∈ x.2, q.block < W.heap.size) :
    ∃ o, (WfOut o ∧ outbk o ≤ Rows.uptoBulk x.1) ∧ RdL W (Fd W []) (dOut o) cs := by
  obtain ⟨xs, n, rfl, rfl, hl, hlen, hfs⟩ := DataW.trod_struct Tryd.underlying55 hf
  rw [c3out] at hl
  obtain ⟨a0, a1, a2, rfl⟩ := list3 hl
  obtain ⟨y0, y1, y2, rfl⟩ := list3 (show xs.length = 3 from hlen)
  have hq : ∀ y ∈ [y0, y1, y2], ∀ q ∈ y.2, q.block < W.heap.size := fun y hy q hq => hlt q (List.mem_flatMap.2 ⟨y, hy, hq⟩)
  have h0 : DataW.trod enc Tryd.prog W 0 (fun _ => true) true n 3 [a0] = some y0 := by have := (show DataW.trod enc Tryd.prog W 0 (fun _ => true) true n 3 (([a0,a1,a2].drop 0).take (Program.cellsOf Tryd.prog 3)) = some y0 from hfs 0 _ rfl); rw [c1int] at this; exact this
  have h1 : DataW.trod enc Tryd.prog W 0 (fun _ => true) true n 3 [a1] = some y1 := by have := (show DataW.trod enc Tryd.prog W 0 (fun _ => true) true n 3 (([a0,a1,a2].drop 1).take (Program.cellsOf Tryd.prog 3)) = some y1 from hfs 1 _ rfl); rw [c1int] at this; exact this
  have h2 : DataW.trod enc Tryd.prog W 0 (fun _ => true) true n 53 [a2] = some y2 := by have := (show DataW.trod enc Tryd.prog W 0 (fun _ => true) true n 53 (([a0,a1,a2].drop 2).take (Program.cellsOf Tryd.prog 53)) = some y2 from hfs 2 _ rfl); rw [c1ress] at this; exact this
  obtain ⟨m0, e0, rfl, w0⟩ := DataW.trod_int Tryd.underlying3 h0
  obtain ⟨m1, e1, rfl, w1⟩ := DataW.trod_int Tryd.underlying3 h1
  obtain ⟨l, A, c, e2, ⟨k1, k2⟩, k3⟩ := ress_trodB h2 (hq y2 (by simp))
  injection e0 with e0
  injection e1 with e1
  injection e2 with e2
  subst e0; subst e1; subst e2
  refine ⟨⟨m0, m1, l⟩, ⟨⟨⟨(wf_i64 w0).2, (wf_i64 w1).2⟩, k1⟩, ?_⟩, RdL.cons (RdD.ofv _) (RdL.cons (RdD.ofv _) (RdL.cons k3 RdL.nil_))⟩
  show (l.map resbk).sum + 4 ≤ 1 + (1 + (Rows.uptoBulk y2.1 + 0)) + 1
  omega
set_option maxRecDepth 100000 in
theorem outs_trodB {fuel : Nat} {cs : List Value} {x : DataW H × List MemPlace} (hf : DataW.trod enc Tryd.prog W 0 (fun _ => true) true fuel 24 cs = some x) (hlt : ∀ q ∈ x.2, q.block < W.heap.size) :
    ∃ l A c, cs = [.slice A l.length c] ∧ ((∀ r ∈ l, WfOut r) ∧ (l.map outbk).sum + 1 ≤ Rows.uptoBulk x.1) ∧ RdD W (Fd W []) (dOuts l) (.slice A l.length c) := by
  obtain ⟨l, A, c, rfl, h1, h2, h3⟩ := slice_trod dOut 3 dOut_len (by decide) WfOut outbk Tryd.underlying24 c3out hf hlt (fun m cs' y _ hy hq => out_trodB hy hq)
  exact ⟨l, A, c, rfl, ⟨h1, h2⟩, h3⟩
set_option maxRecDepth 100000 in
theorem str_trodB {fuel : Nat} {cs : List Value} {x : DataW H × List MemPlace} (hf : DataW.trod enc Tryd.prog W 0 (fun _ => true) true fuel 9 cs = some x) :
    ∃ s, (True ∧ strbk s ≤ Rows.uptoBulk x.1) ∧ RdL W (Fd W []) [D.v (.string (sb s))] cs := by
  obtain ⟨s, hs, rfl, ws⟩ := DataW.trod_string Tryd.underlying9 hf
  subst hs
  exact ⟨s.data.toList, ⟨trivial, Nat.le_refl _⟩, RdL.cons (RdD.ofv _) RdL.nil_⟩
set_option maxRecDepth 100000 in
theorem tx_trodB {fuel : Nat} {cs : List Value} {x : DataW H × List MemPlace} (hf : DataW.trod enc Tryd.prog W 0 (fun _ => true) true fuel 52 cs = some x) (hlt : ∀ q ∈ x.2, q.block < W.heap.size) :
    ∃ l, (True ∧ txbk l ≤ Rows.uptoBulk x.1) ∧ RdL W (Fd W []) [dTx l] cs := by
  obtain ⟨l, A, c, rfl, h1, h2, h3⟩ := slice_trod (fun s : List UInt8 => [D.v (.string (sb s))]) 1 (fun _ => rfl) (by decide) (fun _ => True) strbk Tryd.underlying52 c1str hf hlt (fun m cs' y _ hy hq => str_trodB hy)
  exact ⟨l, ⟨trivial, h2⟩, RdL.cons (by rw [dTx_flat]; exact h3) RdL.nil_⟩
set_option maxRecDepth 100000 in
theorem txs_trodB {fuel : Nat} {cs : List Value} {x : DataW H × List MemPlace} (hf : DataW.trod enc Tryd.prog W 0 (fun _ => true) true fuel 23 cs = some x) (hlt : ∀ q ∈ x.2, q.block < W.heap.size) :
    ∃ l A c, cs = [.slice A l.length c] ∧ (l.map txbk).sum + 1 ≤ Rows.uptoBulk x.1 ∧ RdD W (Fd W []) (dTxs l) (.slice A l.length c) := by
  obtain ⟨l, A, c, rfl, h1, h2, h3⟩ := slice_trod (fun t : List (List UInt8) => [dTx t]) 1 (fun _ => rfl) (by decide) (fun _ => True) txbk Tryd.underlying23 c1tx hf hlt (fun m cs' y _ hy hq => tx_trodB hy hq)
  exact ⟨l, A, c, rfl, h2, by rw [dTxs_flat]; exact h3⟩
set_option maxRecDepth 100000 in
theorem bk_trodB {fuel : Nat} {cs : List Value} {x : DataW H × List MemPlace} (hf : DataW.trod enc Tryd.prog W 0 (fun _ => true) true fuel 26 cs = some x) (hlt : ∀ q ∈ x.2, q.block < W.heap.size) :
    ∃ b, (WfB b ∧ bkbk b ≤ Rows.uptoBulk x.1) ∧ RdL W (Fd W []) (dBk b) cs := by
  obtain ⟨xs, n, rfl, rfl, hl, hlen, hfs⟩ := DataW.trod_struct Tryd.underlying26 hf
  rw [c7bk] at hl
  obtain ⟨a0, a1, a2, a3, a4, a5, a6, rfl⟩ := list7 hl
  obtain ⟨y0, y1, y2, y3, y4, y5, y6, rfl⟩ := list7 (show xs.length = 7 from hlen)
  have hq : ∀ y ∈ [y0, y1, y2, y3, y4, y5, y6], ∀ q ∈ y.2, q.block < W.heap.size := fun y hy q hq => hlt q (List.mem_flatMap.2 ⟨y, hy, hq⟩)
  have h0 : DataW.trod enc Tryd.prog W 0 (fun _ => true) true n 3 [a0] = some y0 := by have := (show DataW.trod enc Tryd.prog W 0 (fun _ => true) true n 3 (([a0,a1,a2,a3,a4,a5,a6].drop 0).take (Program.cellsOf Tryd.prog 3)) = some y0 from hfs 0 _ rfl); rw [c1int] at this; exact this
  have h1 : DataW.trod enc Tryd.prog W 0 (fun _ => true) true n 22 [a1] = some y1 := by have := (show DataW.trod enc Tryd.prog W 0 (fun _ => true) true n 22 (([a0,a1,a2,a3,a4,a5,a6].drop 1).take (Program.cellsOf Tryd.prog 22)) = some y1 from hfs 1 _ rfl); rw [c1bytes] at this; exact this
  have h2 : DataW.trod enc Tryd.prog W 0 (fun _ => true) true n 22 [a2] = some y2 := by have := (show DataW.trod enc Tryd.prog W 0 (fun _ => true) true n 22 (([a0,a1,a2,a3,a4,a5,a6].drop 2).take (Program.cellsOf Tryd.prog 22)) = some y2 from hfs 2 _ rfl); rw [c1bytes] at this; exact this
  have h3 : DataW.trod enc Tryd.prog W 0 (fun _ => true) true n 22 [a3] = some y3 := by have := (show DataW.trod enc Tryd.prog W 0 (fun _ => true) true n 22 (([a0,a1,a2,a3,a4,a5,a6].drop 3).take (Program.cellsOf Tryd.prog 22)) = some y3 from hfs 3 _ rfl); rw [c1bytes] at this; exact this
  have h4 : DataW.trod enc Tryd.prog W 0 (fun _ => true) true n 23 [a4] = some y4 := by have := (show DataW.trod enc Tryd.prog W 0 (fun _ => true) true n 23 (([a0,a1,a2,a3,a4,a5,a6].drop 4).take (Program.cellsOf Tryd.prog 23)) = some y4 from hfs 4 _ rfl); rw [c1txs] at this; exact this
  have h5 : DataW.trod enc Tryd.prog W 0 (fun _ => true) true n 24 [a5] = some y5 := by have := (show DataW.trod enc Tryd.prog W 0 (fun _ => true) true n 24 (([a0,a1,a2,a3,a4,a5,a6].drop 5).take (Program.cellsOf Tryd.prog 24)) = some y5 from hfs 5 _ rfl); rw [c1outs] at this; exact this
  have h6 : DataW.trod enc Tryd.prog W 0 (fun _ => true) true n 22 [a6] = some y6 := by have := (show DataW.trod enc Tryd.prog W 0 (fun _ => true) true n 22 (([a0,a1,a2,a3,a4,a5,a6].drop 6).take (Program.cellsOf Tryd.prog 22)) = some y6 from hfs 6 _ rfl); rw [c1bytes] at this; exact this
  obtain ⟨m0, e0, rfl, w0⟩ := DataW.trod_int Tryd.underlying3 h0
  obtain ⟨l1, u1, e1, r1, b1⟩ := bytes_trod h1 (hq y1 (by simp))
  obtain ⟨l2, u2, e2, r2, b2⟩ := bytes_trod h2 (hq y2 (by simp))
  obtain ⟨l3, u3, e3, r3, b3⟩ := bytes_trod h3 (hq y3 (by simp))
  obtain ⟨l4, A4, c4, e4, b4, r4⟩ := txs_trodB h4 (hq y4 (by simp))
  obtain ⟨l5, A5, c5, e5, ⟨f5, b5⟩, r5⟩ := outs_trodB h5 (hq y5 (by simp))
  obtain ⟨l6, u6, e6, r6, b6⟩ := bytes_trod h6 (hq y6 (by simp))
  injection e0 with e0
  injection e1 with e1
  injection e2 with e2
  injection e3 with e3
  injection e4 with e4
  injection e5 with e5
  injection e6 with e6
  subst e0; subst e1; subst e2; subst e3; subst e4; subst e5; subst e6
  refine ⟨⟨m0, l1, l2, l3, l4, l5, l6⟩, ⟨⟨(wf_i64 w0).1, (wf_i64 w0).2, f5⟩, ?_⟩, RdL.cons (RdD.ofv _) (RdL.cons r1 (RdL.cons r2 (RdL.cons r3 (RdL.cons r4 (RdL.cons r5 (RdL.cons r6 RdL.nil_))))))⟩
  show (l1.length + 1) + ((l2.length + 1) + ((l3.length + 1) + (((l4.map txbk).sum + 1) + (((l5.map outbk).sum + 1) + (l6.length + 1))))) + 2 ≤ 1 + (Rows.uptoBulk y1.1 + (Rows.uptoBulk y2.1 + (Rows.uptoBulk y3.1 + (Rows.uptoBulk y4.1 + (Rows.uptoBulk y5.1 + (Rows.uptoBulk y6.1 + 0)))))) + 1
  omega
set_option maxRecDepth 100000 in
/-- A row of them that came in. -/
theorem bks_open {base : Nat} {v : Value} {d : DataW H} {p : List MemPlace} (hv : Value.okWide Tryd.prog W .any base 44 v)
    (h : DataW.Trod enc Tryd.prog W 0 (fun _ => true) true 44 v d p) : ∃ A c l, v = .slice A l.length c ∧ RdD W (Fd W []) (dBks l) (.slice A l.length c) ∧ (∀ b ∈ l, WfB b) ∧ (l.map bkbk).sum + 1 ≤ Rows.uptoBulk d := by
  obtain ⟨a0, len, cap, rfl⟩ := okWide_slice Tryd.underlying44 hv
  have hlt : ∀ x ∈ p, x.block < W.heap.size := by obtain ⟨m, hm⟩ := h; exact DataW.trod_lt m _ _ _ hm
  obtain ⟨fuel, hf⟩ := h
  obtain ⟨l, A, c, e, h1, h2, h3⟩ := slice_trod dBk 7 dBk_len (by decide) WfB bkbk Tryd.underlying44 c7bk (fuel := fuel) (x := (d, p)) hf hlt (fun m cs' y _ hy hq => bk_trodB hy hq)
  simp [Value.cells] at e
  obtain ⟨rfl, rfl, rfl⟩ := e
  exact ⟨_, _, l, rfl, h3, h1, h2⟩
end
end Go.Proofs.YtejbljopighenaaDoor
namespace Go.Proofs.YtejbljopighenaaDoor
open Go.RowKit
theorem is_vjoin : isFn Tryd.prog 24 = true := by kernel_rfl
theorem u_lss : Tryd.prog.underlying 62 = some (.slice 22) := by kernel_rfl
theorem al_bool : (Tryd.prog.info? 4).map (fun i => i.zero.map fun z => z.cells.toList) = some (some [.bool false]) := by kernel_rfl
section
variable {E : Env} {d : Option Nat} {ty : TypeId} {p : String} {af : Array Edge} {gd : Option (Nat × Bool)} {x : Operand} {kw : Value → World → Prop} {w W : World} {gs : List (Option Nat)} {L : Lc} {R : List Row} {fs : List Fact}
/-- A text's bytes. -/
theorem s_s2b {l : List UInt8} (M : St w gs W L R fs) (hx : val E x = .string (sb l)) (h : ∀ A c W', St w gs W' L R (.dat false [dB l] [.slice A l.length c] :: fs) → kw (.slice A l.length c) W') :
    VVal Tryd.prog E { dst := d, op := .convert 9 22 x, type := ty, pos := p, after := af, guard := gd } W kw :=
  v_s2b hx fun g c W' hg hr hc hb _ => h _ c W' (by
    subst hg
    refine (M.call hb).addD (RdD.ofbytes hr hc fun b off e hb2 => ⟨hb2, fun e2 => ?_⟩)
    injection e with e
    injection e with e
    have := M.olt b e2
    omega)
theorem RdD.rds {W : World} {F : Nat → Prop} {A : Option Addr} {n c : Nat} {ll : List (List UInt8)} (h : RdD W F (dLs ll) (.slice A n c)) (hF : ∀ b, F b → b < W.heap.size) : n = ll.length ∧ n ≤ c ∧ RdS W W.heap.size A n ll := by
  obtain ⟨cs, h1, h2⟩ := h.reads hF
  obtain ⟨A', c', e, h3, -⟩ := h.open_
  injection e with _ e2 e3
  subst e3
  refine ⟨h.slen, by omega, RdN.lists ⟨cs, h1, by rw [h2.len]; simp, fun k v xs e1 e2 => ?_⟩⟩
  rw [List.getElem?_map] at e2
  obtain ⟨l, hl, rfl⟩ := Option.map_eq_some_iff.1 e2
  obtain ⟨v', hv', hd⟩ : ∃ v', cs[k]? = some v' ∧ RdD W F (dB l) v' := h2.get (by rw [List.getElem?_map, hl]; rfl)
  rw [e1] at hv'
  injection hv' with hv'
  subst hv'
  obtain ⟨A2, c2, rfl, h4, -⟩ := hd.open_
  obtain ⟨cs2, h5, h6⟩ := hd.reads hF
  have := h6.vals
  subst this
  exact ⟨A2, l.length, c2, rfl, h4, h5⟩
set_option maxRecDepth 100000 in
/-- Is it short enough? -/
theorem fit_any {g : Nat} {lg : Bool} (M : St w gs W ((g, 4, [.bool lg]) :: L) R fs) (A : Option Addr) (n c : Nat) :
    Calls Tryd.prog 23 #[.slice A n c, .pointer (some ⟨g, 0, none⟩)] W fun e W' => e = .returned (.slice A n c) ∧ St w gs W' ((g, 4, [.bool (lg || decide (1048576 < n))]) :: L) R fs := by
  refine calls_ev (args := [.slice A n c, .pointer (some ⟨g, 0, none⟩)]) mixed Tryd.func23 rfl (by kernel_rfl) ?_
  refine v_load agg_bl rfl ((M.B 0 rfl).at_ rfl) ?_
  cases lg with
  | true =>
    refine s_set 0 (off := 0) (.bool true) [.bool true] M rfl sz_bln rfl rfl rfl (by show 0 < 1; decide) rfl ?_
    clear M; rintro W M
    dsimp only [setL] at M
    exact ⟨rfl, M⟩
  | false =>
    refine p_len slb rfl ?_
    refine p_gt rfl rfl (fun q => ?_) (fun q => ?_)
    · have q : 1048576 < n := by have h : (1048576 : Int) < (n : Int) := q; omega
      refine s_set 0 (off := 0) (.bool true) [.bool true] M rfl sz_bln rfl rfl rfl (by show 0 < 1; decide) rfl ?_
      clear M; rintro W M
      dsimp only [setL] at M
      rw [Bool.false_or, decide_eq_true q]
      exact ⟨rfl, M⟩
    · have q : ¬ 1048576 < n := by have h : ¬ (1048576 : Int) < (n : Int) := q; omega
      refine s_set 0 (off := 0) (.bool false) [.bool false] M rfl sz_bln rfl rfl rfl (by show 0 < 1; decide) rfl ?_
      clear M; rintro W M
      dsimp only [setL] at M
      rw [Bool.false_or, decide_eq_false q]
      exact ⟨rfl, M⟩
end
theorem encO_full {o : Out} (h : (encO o).2 = 0) : encO o = (outB o, 0) := by
  unfold encO at h ⊢
  split at h
  · next h1 =>
    split at h
    · exact absurd h (by decide)
    · next h2 => rw [if_pos h1, if_neg h2]
  · exact absurd h (by decide)
theorem take_map_snoc {α β : Type} (f : α → β) {l : List α} {i : Nat} {x : α} (h : l[i]? = some x) : (l.take (i + 1)).map f = (l.take i).map f ++ [f x] := by rw [List.take_add_one, h, List.map_append]; rfl
set_option maxRecDepth 100000 in
set_option maxHeartbeats 8000000 in
theorem bEnc_any (b : Bk) (gs : List (Option Nat)) (w : World) (cs : List Value) (hr : RdL w (Fd w gs) (dBk b) cs) (hgs : ∀ b, some b ∈ gs → b < w.heap.size) (hf : FitsB b) :
    Calls Tryd.prog 9 #[.agg cs.toArray] w (EncG w (encBk b)) := by
  refine calls_ev (args := [.agg cs.toArray]) mixed Tryd.func9 rfl (by kernel_rfl) ?_
  obtain ⟨p, rfl, h1, h2, h3, h4, h5, h6⟩ := id hr.bk
  obtain ⟨t1, t2, t3, t4, t5, t6, t7, t8, t9⟩ := bk_txs b
  have M := ((((((St.start hgs).addD h6).addD h3).addD h2).addD h1).addD h5).addD h4
  have M := M.addL hr
  clear h1 h2 h3 h4 h5 h6 hr
  refine s_box (bkcs b p) M rfl ?_
  clear M
  rintro g1 W M
  refine v_loadN (bkcs b p) agg_bk rfl rfl (M.run 0 rfl) ?_
  refine cc is_bcheck (bcheck_any b _ _ _ (M.da 0 rfl) M.olt hf) ?_
  rintro e W ⟨rfl, hb⟩
  replace M := M.call hb
  clear hb
  obtain ⟨hf0, hf1, hf2⟩ := hf
  refine ⟨_, rfl, ?_⟩
  refine p_ne rfl rfl (fun q => ?_) (fun q => ?_)
  rotate_left
  · have q : ¬ checkBk b = 0 := q
    have he : encBk b = ([], checkBk b) := by
      unfold checkBk at q ⊢
      split
      · next h1 =>
        rw [if_pos h1] at q
        split
        · rw [encBk_3 h1 (by omega)]
        · next h2 => rw [if_neg h2] at q; exact absurd rfl q
      · next h1 => rw [encBk_2 (by simpa using h1)]
    exact ⟨none, 0, 0, by rw [he]; rfl, by rw [he]; exact World.ownsRow_nil _ _ _ _, M.below⟩
  have q : checkBk b = 0 := q
  have hrt : rightBk b = true := by
    unfold checkBk at q
    split at q
    · next h => exact h
    · exact absurd q (by decide)
  obtain ⟨⟨r1, r2, r3, r4, r5, r6⟩, r7, r8⟩ := right_iff.1 hrt
  refine s_alloc [.bool false] M al_bool ?_
  clear M; rintro g5 W M
  refine s_set 0 (off := 0) (.bool false) [.bool false] M rfl sz_bln rfl rfl rfl (by show 0 < 1; decide) rfl ?_
  clear M; rintro W M
  dsimp only [setL] at M
  refine p_fun (#[] : Array Operand) _ ?_
  refine p_fld fB4 rfl ?_
  refine v_load agg_tss rfl ((M.B 1 rfl).at_ rfl) ?_
  refine p_len sltss rfl ?_
  obtain ⟨FX, hFX⟩ : ∃ FX : List Fact, FX = [.dat false [dTxs b.txs] [.slice p.A4 b.txs.length p.c4], .dat false [dOuts b.outs] [.slice p.A5 b.outs.length p.c5], .dat false [dB b.last] [.slice p.A1 b.last.length p.c1], .dat false [dB b.prev] [.slice p.A2 b.prev.length p.c2], .dat false [dB b.next] [.slice p.A3 b.next.length p.c3], .dat false [dB b.proof] [.slice p.A6 b.proof.length p.c6]] := ⟨_, rfl⟩
  refine cutS (List Value × Option Addr × Nat × List Value × Option Addr × Nat × Bool) (fun s W => (s.2.2.2.2.2.2 = true → 1048576 < (blockB b).length) ∧ St w gs W [(g5, 4, [.bool s.2.2.2.2.2.2]), (g1, 26, bkcs b p)] [⟨22, 1, s.2.1, b.txs.length, s.2.2.1, s.1⟩, ⟨22, 1, s.2.2.2.2.1, b.txs.length, s.2.2.2.2.2.1, s.2.2.2.1⟩] (.dat false ((outsB b).map dB) s.1 :: .dat false ((txsB b).map dB) s.2.2.2.1 :: FX))
    (fun s => [(1, .pointer (some ⟨g1, 0, none⟩)), (5, .pointer (some ⟨g5, 0, none⟩)), (6, .func (.func 23) #[] #[.pointer (some ⟨g5, 0, none⟩)]), (7, .slice s.2.2.2.2.1 b.txs.length s.2.2.2.2.2.1), (8, .slice s.2.1 b.txs.length s.2.2.1)]) ?_ ?_
  · refine lp (Nat × List Value × Option Addr × Nat × List Value × Option Addr × Nat × Bool) (fun s W => s.1 ≤ b.txs.length ∧ (s.2.2.2.2.2.2.2 = true → 1048576 < (blockB b).length) ∧ St w gs W [(g5, 4, [.bool s.2.2.2.2.2.2.2]), (g1, 26, bkcs b p)] [⟨22, 1, s.2.2.1, s.1, s.2.2.2.1, s.2.1⟩, ⟨22, 1, s.2.2.2.2.2.1, s.1, s.2.2.2.2.2.2.1, s.2.2.2.2.1⟩] (.dat false (((b.outs.take s.1).map outB).map dB) s.2.1 :: .dat false (((b.txs.take s.1).map joinL).map dB) s.2.2.2.2.1 :: FX))
      (fun s => [(1, .pointer (some ⟨g1, 0, none⟩)), (5, .pointer (some ⟨g5, 0, none⟩)), (6, .func (.func 23) #[] #[.pointer (some ⟨g5, 0, none⟩)]), (7, .slice s.2.2.2.2.2.1 s.1 s.2.2.2.2.2.2.1), (8, .slice s.2.2.1 s.1 s.2.2.2.1), (24, .slice p.A4 b.txs.length p.c4), (25, .int .i64 (b.txs.length : Nat)), (26, .int .i64 s.1)]) (fun s => b.txs.length - s.1) (0, [], none, 0, [], none, 0, false) ⟨Nat.zero_le _, (fun h => by cases h), ?_⟩ (by repeat (first | exact trivial | refine ⟨rfl, ?_⟩)) ?_
    · have M2 := (((M.nilR 22 1).nilR 22 1).addL (ds := []) (cs := []) RdL.nil_).addL (ds := []) (cs := []) RdL.nil_
      subst hFX
      exact M2.fsub _ (by simp)
    clear M
    rintro ⟨i, xs8, A8, c8, xs7, A7, c7, lg⟩ E W ⟨hi, hlg, M⟩
    dsimp only at hi hlg M
    refine p_lt rfl rfl (fun hlt => ?_) (fun hge => ?_)
    rotate_left
    · have hi : i = b.txs.length := by have h : ¬ (i : Int) < (b.txs.length : Int) := hge; omega
      subst hi
      rw [List.take_of_length_le (Nat.le_refl _), List.take_of_length_le (by omega)] at M
      exact ⟨(xs8, A8, c8, xs7, A7, c7, lg), ⟨hlg, M⟩, (by repeat (first | exact trivial | refine ⟨rfl, ?_⟩))⟩
    have hil : i < b.txs.length := by have h : (i : Int) < (b.txs.length : Int) := hlt; omega
    obtain ⟨t, ht⟩ : ∃ t, b.txs[i]? = some t := ⟨_, List.getElem?_eq_getElem hil⟩
    obtain ⟨o, ho⟩ : ∃ o, b.outs[i]? = some o := ⟨_, List.getElem?_eq_getElem (by omega)⟩
    obtain ⟨u1, u2, u3⟩ := bk_tx (List.mem_of_getElem? ht)
    have hfo := hf1 o (List.mem_of_getElem? ho)
    have hol := bk_out (List.mem_of_getElem? ho)
    have heo := encO_full (r8 o (List.mem_of_getElem? ho))
    have hFt : ∀ f ∈ [Fact.dat false [dTxs b.txs] [.slice p.A4 b.txs.length p.c4], .dat false [dOuts b.outs] [.slice p.A5 b.outs.length p.c5]], f ∈ FX := by rw [hFX]; intro f hf; simp only [List.mem_cons, List.not_mem_nil, or_false] at hf ⊢; rcases hf with h | h <;> simp [h]
    have dtx : RdD W (Fd W (own [(g5, 4, [.bool lg]), (g1, 26, bkcs b p)] [⟨22, 1, A8, i, c8, xs8⟩, ⟨22, 1, A7, i, c7, xs7⟩] gs)) (dTxs b.txs) (.slice p.A4 b.txs.length p.c4) := by
      have h : RdL W (Ft w W _ false) [dTxs b.txs] [.slice p.A4 b.txs.length p.c4] := M.fct (.dat false [dTxs b.txs] [.slice p.A4 b.txs.length p.c4]) (List.mem_cons_of_mem _ (List.mem_cons_of_mem _ (hFt _ (by simp))))
      exact (h.to fun b hb => ⟨rfl, hb.1, hb.2.1⟩).hd
    obtain ⟨b1, o1, At, ct, e1, M'⟩ := M.txe dtx ht
    replace M := M'; clear M' dtx
    refine p_at (i := i) sltss (by show Value.slice p.A4 b.txs.length p.c4 = _; rw [e1]) rfl rfl hil ?_
    refine v_load agg_ts rfl (M.lc 0 rfl 0 _ rfl) ?_
    refine p_len slts rfl ?_
    refine lp (Nat × List Value × Option Addr × Nat) (fun s W => s.1 ≤ t.length ∧ St w gs W [(g5, 4, [.bool lg]), (g1, 26, bkcs b p)] [⟨22, 1, s.2.2.1, s.1, s.2.2.2, s.2.1⟩, ⟨22, 1, A8, i, c8, xs8⟩, ⟨22, 1, A7, i, c7, xs7⟩] (.dat false ((t.take s.1).map dB) s.2.1 :: .dat false [dTx t] [.slice At t.length ct] :: .dat false (((b.outs.take i).map outB).map dB) xs8 :: .dat false (((b.txs.take i).map joinL).map dB) xs7 :: FX))
      (fun s => [(1, .pointer (some ⟨g1, 0, none⟩)), (5, .pointer (some ⟨g5, 0, none⟩)), (6, .func (.func 23) #[] #[.pointer (some ⟨g5, 0, none⟩)]), (7, .slice A7 i c7), (8, .slice A8 i c8), (9, .int .i64 i), (11, .slice s.2.2.1 s.1 s.2.2.2), (24, .slice p.A4 b.txs.length p.c4), (25, .int .i64 (b.txs.length : Nat)), (26, .int .i64 i), (31, .slice At t.length ct), (32, .int .i64 (t.length : Nat)), (33, .int .i64 s.1)]) (fun s => t.length - s.1) (0, [], none, 0) ⟨Nat.zero_le _, ?_⟩ (by repeat (first | exact trivial | refine ⟨rfl, ?_⟩)) ?_
    · have M2 := (M.nilR 22 1).addL (ds := []) (cs := []) RdL.nil_
      exact M2.fsub _ (by intro f hf; simp only [List.mem_cons, List.take_zero, List.map_nil] at hf ⊢; rcases hf with h | h | h | h | h <;> simp [h])
    clear M
    rintro ⟨k, ys, A11, c11⟩ E W ⟨hk, M⟩
    dsimp only at hk M
    refine p_lt rfl rfl (fun hlt2 => ?_) (fun hge => ?_)
    · have hkl : k < t.length := by have h : (k : Int) < (t.length : Int) := hlt2; omega
      obtain ⟨x, hxi⟩ : ∃ x, t[k]? = some x := ⟨_, List.getElem?_eq_getElem hkl⟩
      have hxl := u3 x (List.mem_of_getElem? hxi)
      obtain ⟨b2, o2, rfl, M'⟩ := M.stre (M.d1 1 rfl) hxi
      replace M := M'; clear M'
      refine p_at (i := k) slts rfl rfl rfl hkl ?_
      refine v_load agg_st rfl (M.lc 0 rfl 0 _ rfl) ?_
      refine s_s2b M rfl ?_
      clear M; rintro A39 c39 W M
      refine s_bslice (fr := false) (ds := [dB x]) [.slice A39 x.length c39] M sls zls rfl (by decide) rfl (M.dw 0 rfl) rfl ?_
      clear M; rintro gq W M
      obtain ⟨news, hrd, hnd⟩ := (M.d1 0 rfl).reads Fd.lt
      replace M := M.addL hnd
      refine s_app (z := .slice none 0 0) (news := news) M u_lss lsinfo rfl (by decide) rfl rfl hrd (hnd.ones (fun d hd => by rcases List.mem_singleton.1 hd with rfl; exact trivial)) ⟨by omega, by decide⟩ ?_
      clear M hrd hnd
      rintro A41 c41 W M -
      refine p_addN (b := 1) rfl rfl (by omega) ?_
      have hx := (M.da 4 rfl).app (M.da 0 rfl)
      rw [← take_map_snoc dB hxi] at hx
      replace M := M.addL hx
      exact ⟨(k + 1, ys ++ news, A41, c41), ⟨by dsimp only; omega, M.fsub _ (by intro f hf; simp only [List.mem_cons] at hf ⊢; rcases hf with h | h | h | h | h <;> simp [h])⟩, (by repeat (first | exact trivial | refine ⟨rfl, ?_⟩)), by dsimp only; omega⟩
    have hk : k = t.length := by have h : ¬ (k : Int) < (t.length : Int) := hge; omega
    subst hk
    rw [List.take_of_length_le (Nat.le_refl _)] at M
    replace M := M.frzR (fr := false) (M.dt 0 rfl)
    obtain ⟨-, -, hrs⟩ := RdD.rds (ll := t) (M.d1 0 rfl) Fd.lt
    refine cc is_vjoin (join_any _ _ _ t _ hrs (by omega) (by omega)) ?_
    clear hrs
    rintro e W ⟨A46, n46, c46, rfl, o46, hb⟩
    have en46 := o46.len
    replace M := M.callO hb o46
    clear hb o46
    refine ⟨_, rfl, ?_⟩
    refine cc is_fit (fit_any M _ _ _) ?_
    clear M
    rintro e W ⟨rfl, M⟩
    refine ⟨_, rfl, ?_⟩
    have hlg2 : (lg || decide (1048576 < n46)) = true → 1048576 < (blockB b).length := by
      intro h
      rw [Bool.or_eq_true, decide_eq_true_eq] at h
      rcases h with h | h
      · exact hlg h
      · omega
    obtain ⟨lg2, hl2⟩ : ∃ q, q = (lg || decide (1048576 < n46)) := ⟨_, rfl⟩
    rw [← hl2] at M hlg2
    replace M := M.swpR
    refine s_bslice (fr := false) (ds := [dB (joinL t)]) [.slice A46 n46 c46] M sls zls rfl (by decide) rfl (M.dw 0 rfl) rfl ?_
    clear M; rintro gq W M
    obtain ⟨news, hrd, hnd⟩ := (M.d1 0 rfl).reads Fd.lt
    replace M := M.addL hnd
    refine s_app (z := .slice none 0 0) (news := news) M u_lss lsinfo rfl (by decide) rfl rfl hrd (hnd.ones (fun d hd => by rcases List.mem_singleton.1 hd with rfl; exact trivial)) ⟨by omega, by decide⟩ ?_
    clear M hrd hnd
    rintro A49 c49 W M -
    have hx := (M.da 7 rfl).app (M.da 0 rfl)
    have em : ((b.txs.take (i + 1)).map joinL).map dB = ((b.txs.take i).map joinL).map dB ++ [dB (joinL t)] := by rw [take_map_snoc joinL ht, List.map_append]; rfl
    rw [← em] at hx
    replace M := (M.addL hx).fsub (.dat false (((b.txs.take (i + 1)).map joinL).map dB) (xs7 ++ news) :: .dat false (((b.outs.take i).map outB).map dB) xs8 :: FX) (by intro f hf; simp only [List.mem_cons] at hf ⊢; rcases hf with h | h | h <;> simp [h])
    clear hx
    obtain ⟨xs9, hx9⟩ : ∃ x, x = xs7 ++ news := ⟨_, rfl⟩
    rw [← hx9] at M
    have dos : RdD W (Fd W (own [(g5, 4, [.bool lg2]), (g1, 26, bkcs b p)] [⟨22, 1, A49, i + 1, c49, xs9⟩, ⟨22, 1, A8, i, c8, xs8⟩] gs)) (dOuts b.outs) (.slice p.A5 b.outs.length p.c5) := by
      have h : RdL W (Ft w W (own [(g5, 4, [.bool lg2]), (g1, 26, bkcs b p)] [⟨22, 1, A49, i + 1, c49, xs7 ++ news⟩, ⟨22, 1, A8, i, c8, xs8⟩] gs) false) [dOuts b.outs] [.slice p.A5 b.outs.length p.c5] := by
        have := M.fct (.dat false [dOuts b.outs] [.slice p.A5 b.outs.length p.c5]) (List.mem_cons_of_mem _ (List.mem_cons_of_mem _ (hFt _ (by simp))))
        exact this
      exact (h.to fun b hb => ⟨rfl, hb.1, hb.2.1⟩).hd
    obtain ⟨b3, o3, es, e3, M'⟩ := M.oute dos ho
    replace M := M'; clear M' dos
    have hel := (M.da 1 rfl).len
    rw [dOut_len] at hel
    refine p_fld fB5 rfl ?_
    refine v_load agg_os rfl ((M.B 1 rfl).at_ rfl) ?_
    refine p_at (i := i) slos (by show Value.slice p.A5 b.outs.length p.c5 = _; rw [e3]) rfl rfl (by omega) ?_
    refine v_loadN es agg_out rfl hel (M.lc 0 rfl) ?_
    have cx := xEnc_any o _ _ _ (M.da 1 rfl) M.olt hfo
    rw [heo] at cx
    refine cc is_xEnc cx ?_
    clear cx
    rintro e W ⟨A57, n57, c57, rfl, o57, hb⟩
    have en57 : (outB o).length = n57 := o57.len
    replace M := M.callO hb o57
    clear hb o57
    refine ⟨_, rfl, ?_⟩
    refine cc is_fit (fit_any M _ _ _) ?_
    clear M
    rintro e W ⟨rfl, M⟩
    refine ⟨_, rfl, ?_⟩
    have hlg3 : (lg2 || decide (1048576 < n57)) = true → 1048576 < (blockB b).length := by
      intro h
      rw [Bool.or_eq_true, decide_eq_true_eq] at h
      rcases h with h | h
      · exact hlg2 h
      · omega
    obtain ⟨lg3, hl3⟩ : ∃ q, q = (lg2 || decide (1048576 < n57)) := ⟨_, rfl⟩
    rw [← hl3] at M hlg3
    replace M := M.swpR
    refine s_bslice (fr := false) (ds := [dB (outB o)]) [.slice A57 n57 c57] M sls zls rfl (by decide) rfl (M.dw 0 rfl) rfl ?_
    clear M; rintro gq W M
    obtain ⟨news, hrd, hnd⟩ := (M.d1 0 rfl).reads Fd.lt
    replace M := M.addL hnd
    refine s_app (z := .slice none 0 0) (news := news) M u_lss lsinfo rfl (by decide) rfl rfl hrd (hnd.ones (fun d hd => by rcases List.mem_singleton.1 hd with rfl; exact trivial)) ⟨by omega, by decide⟩ ?_
    clear M hrd hnd
    rintro A64 c64 W M -
    have hx := (M.da 6 rfl).app (M.da 0 rfl)
    have em2 : ((b.outs.take (i + 1)).map outB).map dB = ((b.outs.take i).map outB).map dB ++ [dB (outB o)] := by rw [take_map_snoc outB ho, List.map_append]; rfl
    rw [← em2] at hx
    replace M := (M.addL hx).fsub (.dat false (((b.outs.take (i + 1)).map outB).map dB) (xs8 ++ news) :: .dat false (((b.txs.take (i + 1)).map joinL).map dB) xs9 :: FX) (by intro f hf; simp only [List.mem_cons] at hf ⊢; rcases hf with h | h | h <;> simp [h])
    refine p_addN (b := 1) rfl rfl (by omega) ?_
    exact ⟨(i + 1, _, A64, c64, xs9, A49, c49, lg3), ⟨by dsimp only; omega, hlg3, M⟩, (by repeat (first | exact trivial | refine ⟨rfl, ?_⟩)), by dsimp only; omega⟩
  clear M
  rintro ⟨xs8, A8, c8, xs7, A7, c7, lg⟩ E W ⟨hlg, M⟩
  dsimp only at hlg M
  have hlo : (outsB b).length = b.txs.length := by unfold outsB; rw [List.length_map]; omega
  have hlt : (txsB b).length = b.txs.length := by unfold txsB; rw [List.length_map]
  replace M := M.frzR (fr := false) (M.dt 0 rfl)
  have hdo : RdD W (Fd W (own [(g5, 4, [.bool lg]), (g1, 26, bkcs b p)] [⟨22, 1, A7, b.txs.length, c7, xs7⟩] gs)) (dLs (outsB b)) (.slice A8 b.txs.length c8) := by unfold dLs; rw [hlo]; exact M.d1 0 rfl
  replace M := M.addD hdo
  clear hdo
  replace M := M.frzR (fr := false) (M.dt 3 rfl)
  have hdt : RdD W (Fd W (own [(g5, 4, [.bool lg]), (g1, 26, bkcs b p)] [] gs)) (dLs (txsB b)) (.slice A7 b.txs.length c7) := by unfold dLs; rw [hlt]; exact M.d1 0 rfl
  replace M := M.addD hdt
  clear hdt
  replace M := (M.fsub [.dat false [dLs (txsB b)] [.slice A7 b.txs.length c7], .dat false [dLs (outsB b)] [.slice A8 b.txs.length c8], .dat false [dB b.last] [.slice p.A1 b.last.length p.c1], .dat false [dB b.prev] [.slice p.A2 b.prev.length p.c2], .dat false [dB b.next] [.slice p.A3 b.next.length p.c3], .dat false [dB b.proof] [.slice p.A6 b.proof.length p.c6]] (by subst hFX; simp)).drew
  clear hFX FX
  refine cutV (Option Addr × Nat) (fun s W => St w gs W [(g5, 4, [.bool (decide (1048576 < (blockB b).length))]), (g1, 26, bkcs b p)] [⟨5, 1, s.1, (blockB b).length, s.2, bvs (blockB b)⟩] []) (fun s => [(5, .pointer (some ⟨g5, 0, none⟩)), (16, .slice s.1 (blockB b).length s.2)]) ?_ ?_
  · refine drT (Kp w gs [(g1, 26, bkcs b p)] []) (.take 0 (.take 1 (.take 2 (.take 3 (.take 5 (.take 6 (.take 7 (.take 8 (.take 9 (.take 10 (.take 11 (.take 12 (.take 15 (.take 16 (.take 19 (.take 20 (.one 4 (.one 13 (.one 14 (.one 17 (.one 18 (.one 21 (.one 22 (.one 23 (.take 24 (.nil)))))))))))))))))))))))))) (by kernel_rfl) (M.kp (by simp) (by simp)) ?_
    refine p_fld fB0 rfl ?_
    refine t_load agg_i rfl (fun W K => (K.B 0 rfl).at_ rfl) ?_
    refine t_cvt u_i64t u_u64t rfl (cv64 r1 hf0) ?_
    refine p_fld fB1 rfl ?_
    refine t_load agg_b rfl (fun W K => (K.B 0 rfl).at_ rfl) ?_
    refine p_fld fB2 rfl ?_
    refine t_load agg_b rfl (fun W K => (K.B 0 rfl).at_ rfl) ?_
    refine p_fld fB3 rfl ?_
    refine t_load agg_b rfl (fun W K => (K.B 0 rfl).at_ rfl) ?_
    refine p_fld fB6 rfl ?_
    refine t_load agg_b rfl (fun W K => (K.B 0 rfl).at_ rfl) ?_
    refine cc is_vput (put_any b.num.toNat _ (putN_len10 (by omega))) ?_
    rintro e W ⟨A70, c70, rfl, o70, hb⟩
    replace M := M.callO hb o70
    clear hb o70
    refine ⟨_, rfl, (M.kp (by simp) (by simp)), ?_⟩
    obtain ⟨-, -, hrs⟩ := RdD.rds (ll := txsB b) (M.d1 1 rfl) Fd.lt
    refine cc is_vjoin (join_any _ _ _ (txsB b) _ hrs (by omega) (by omega)) ?_
    clear hrs
    rintro e W ⟨A79, n79, c79, rfl, o79, hb⟩
    have en79 : (joinL (txsB b)).length = n79 := o79.len
    replace M := M.callO hb o79
    clear hb o79
    refine ⟨_, rfl, (M.kp (by simp) (by simp)), ?_⟩
    refine cc is_fit (fit_any M _ _ _) ?_
    clear M
    rintro e W ⟨rfl, M⟩
    refine ⟨_, rfl, (M.kp (by simp) (by simp)), ?_⟩
    obtain ⟨-, -, hrs⟩ := RdD.rds (ll := outsB b) (M.d1 3 rfl) Fd.lt
    refine cc is_vjoin (join_any _ _ _ (outsB b) _ hrs (by omega) (by omega)) ?_
    clear hrs
    rintro e W ⟨A83, n83, c83, rfl, o83, hb⟩
    have en83 : (joinL (outsB b)).length = n83 := o83.len
    replace M := M.callO hb o83
    clear hb o83
    refine ⟨_, rfl, (M.kp (by simp) (by simp)), ?_⟩
    refine cc is_fit (fit_any M _ _ _) ?_
    clear M
    rintro e W ⟨rfl, M⟩
    refine ⟨_, rfl, (M.kp (by simp) (by simp)), ?_⟩
    refine s_bslice (fr := false) (ds := (partsB b).map dB) [.slice A70 (putN b.num.toNat).length c70, .slice p.A1 b.last.length p.c1, .slice p.A2 b.prev.length p.c2, .slice p.A3 b.next.length p.c3, .slice A79 n79 c79, .slice A83 n83 c83, .slice p.A6 b.proof.length p.c6] M sls zls rfl (by decide) rfl (RdL.cons (M.dw 2 rfl).hd (RdL.cons (M.dw 5 rfl).hd (RdL.cons (M.dw 6 rfl).hd (RdL.cons (M.dw 7 rfl).hd (RdL.cons (M.dw 1 rfl).hd (RdL.cons (M.dw 0 rfl).hd (RdL.cons (M.dw 8 rfl).hd RdL.nil_))))))) rfl ?_
    clear M; rintro g87 W M
    refine ⟨(M.kp (by simp) (by simp)), ?_⟩
    obtain ⟨-, -, hrs⟩ := RdD.rds (ll := partsB b) (M.d1 0 rfl) Fd.lt
    refine cc is_vjoin (join_any _ _ _ (partsB b) _ hrs (by decide) (by show (blockB b).length ≤ _; omega)) ?_
    clear hrs
    rintro e W ⟨A88, n88, c88, rfl, o88, hb⟩
    have en88 : (blockB b).length = n88 := o88.len
    subst en88
    replace M := M.callR (r := ⟨5, 1, A88, (blockB b).length, c88, bvs (blockB b)⟩) hb o88
    clear hb o88
    refine ⟨_, rfl, (M.kp (by simp) (by simp)), ?_⟩
    refine cc is_fit (fit_any M _ _ _) ?_
    clear M
    rintro e W ⟨rfl, M⟩
    refine ⟨_, rfl, (M.kp (by simp) (by simp)), ?_⟩
    have eq : (((lg || decide (1048576 < n79)) || decide (1048576 < n83)) || decide (1048576 < (blockB b).length)) = decide (1048576 < (blockB b).length) := by
      by_cases hB : 1048576 < (blockB b).length
      · rw [decide_eq_true hB, Bool.or_true]
      · have h1 : lg = false := by cases lg with
          | false => rfl
          | true => exact absurd (hlg rfl) hB
        rw [h1, decide_eq_false hB, decide_eq_false (show ¬ 1048576 < n79 by omega), decide_eq_false (show ¬ 1048576 < n83 by omega)]
        rfl
    rw [eq] at M
    exact ⟨(A88, c88), M.fsub _ (by simp), (by repeat (first | exact trivial | refine ⟨rfl, ?_⟩))⟩
  clear M
  rintro ⟨A88, c88⟩ E W M
  dsimp only at M
  refine v_load agg_bl rfl ((M.B 0 rfl).at_ rfl) ?_
  by_cases hB : 1048576 < (blockB b).length
  · rw [decide_eq_true hB]
    rw [encBk_3 hrt hB]
    exact ⟨none, 0, 0, rfl, World.ownsRow_nil _ _ _ _, M.below⟩
  · rw [decide_eq_false hB]
    rw [encBk_0 hrt hB]
    exact ⟨A88, _, c88, rfl, M.row _ (List.mem_cons_self ..), M.below⟩
end Go.Proofs.YtejbljopighenaaDoor
namespace Go.Proofs.YtejbljopighenaaDoor
open Go.RowKit
theorem is_r21check : isFn Tryd.prog 15 = true := by kernel_rfl
theorem is_r21fits : isFn Tryd.prog 30 = true := by kernel_rfl
theorem is_r21Enc : isFn Tryd.prog 10 = true := by kernel_rfl
theorem is_r1join : isFn Tryd.prog 28 = true := by kernel_rfl
theorem check_2 {b : Bk} (h : ¬ ((0 ≤ b.num ∧ b.last.length = 32 ∧ b.prev.length = 32 ∧ b.next.length = 32 ∧ b.txs.length ≤ 50 ∧ b.txs.length = b.outs.length) ∧ (∀ tx ∈ b.txs, tx.length ≤ 51 ∧ ∀ s ∈ tx, s.length ≤ 20000) ∧ ∀ o ∈ b.outs, (encO o).2 = 0)) : checkBk b = 2 := by unfold checkBk; rw [right_false h]; rfl
set_option maxRecDepth 100000 in
set_option maxHeartbeats 4000000 in
theorem r21check_any (b : Bk) (gs : List (Option Nat)) (w : World) (cs : List Value) (hr : RdL w (Fd w gs) (dBk b) cs) (hgs : ∀ b, some b ∈ gs → b < w.heap.size) (hf : FitsB b) :
    Calls Tryd.prog 15 #[.agg cs.toArray] w fun e w' => e = .returned (.int .i64 (checkBk b)) ∧ Below w.heap.size w w' := by
  refine calls_ev (args := [.agg cs.toArray]) mixed Tryd.func15 rfl (by kernel_rfl) ?_
  obtain ⟨p, rfl, -, -, -, h4, h5, -⟩ := hr.bk
  obtain ⟨hf0, hf1, hf2⟩ := hf
  obtain ⟨t1, t2, t3, t4, t5, t6, t7, t8, t9⟩ := bk_txs b
  have M := ((St.start hgs).addD h5).addD h4
  clear h4 h5 hr
  refine s_box (bkcs b p) M rfl ?_
  clear M
  rintro g1 W M
  refine p_fld fB0 rfl ?_
  refine v_load agg_i rfl ((M.B 0 rfl).at_ rfl) ?_
  refine p_lt rfl rfl (fun q1 => ?_) (fun q1 => ?_)
  · have q1 : b.num < 0 := q1
    exact ⟨by rw [check_2 (b := b) (fun h => by have := h.1; omega)]; rfl, M.below⟩
  refine p_fld fB1 rfl ?_
  refine v_load agg_b rfl ((M.B 0 rfl).at_ rfl) ?_
  refine p_len slb rfl ?_
  refine p_ne rfl rfl (fun q2 => ?_) (fun q2 => ?_)
  rotate_left
  · have q2 : ¬ (b.last.length : Int) = 32 := q2
    exact ⟨by rw [check_2 (b := b) (fun h => by have := h.1; omega)]; rfl, M.below⟩
  refine p_fld fB2 rfl ?_
  refine v_load agg_b rfl ((M.B 0 rfl).at_ rfl) ?_
  refine p_len slb rfl ?_
  refine p_ne rfl rfl (fun q3 => ?_) (fun q3 => ?_)
  rotate_left
  · have q3 : ¬ (b.prev.length : Int) = 32 := q3
    exact ⟨by rw [check_2 (b := b) (fun h => by have := h.1; omega)]; rfl, M.below⟩
  refine p_fld fB3 rfl ?_
  refine v_load agg_b rfl ((M.B 0 rfl).at_ rfl) ?_
  refine p_len slb rfl ?_
  refine p_ne rfl rfl (fun q4 => ?_) (fun q4 => ?_)
  rotate_left
  · have q4 : ¬ (b.next.length : Int) = 32 := q4
    exact ⟨by rw [check_2 (b := b) (fun h => by have := h.1; omega)]; rfl, M.below⟩
  refine p_fld fB4 rfl ?_
  refine v_load agg_tss rfl ((M.B 0 rfl).at_ rfl) ?_
  refine p_len sltss rfl ?_
  refine p_gt rfl rfl (fun q5 => ?_) (fun q5 => ?_)
  · have q5 : (50 : Int) < (b.txs.length : Int) := q5
    exact ⟨by rw [check_2 (b := b) (fun h => by have := h.1; omega)]; rfl, M.below⟩
  refine p_fld fB4 rfl ?_
  refine v_load agg_tss rfl ((M.B 0 rfl).at_ rfl) ?_
  refine p_len sltss rfl ?_
  refine p_fld fB5 rfl ?_
  refine v_load agg_os rfl ((M.B 0 rfl).at_ rfl) ?_
  refine p_len slos rfl ?_
  refine p_ne rfl rfl (fun q6 => ?_) (fun q6 => ?_)
  rotate_left
  · have q6 : ¬ (b.txs.length : Int) = (b.outs.length : Int) := q6
    exact ⟨by rw [check_2 (b := b) (fun h => by have := h.1; omega)]; rfl, M.below⟩
  have q1 : ¬ b.num < 0 := q1
  have q2 : (b.last.length : Int) = 32 := q2
  have q3 : (b.prev.length : Int) = 32 := q3
  have q4 : (b.next.length : Int) = 32 := q4
  have q5 : ¬ (50 : Int) < (b.txs.length : Int) := q5
  have q6 : (b.txs.length : Int) = (b.outs.length : Int) := q6
  have hhd : 0 ≤ b.num ∧ b.last.length = 32 ∧ b.prev.length = 32 ∧ b.next.length = 32 ∧ b.txs.length ≤ 50 ∧ b.txs.length = b.outs.length := ⟨by omega, by omega, by omega, by omega, by omega, by omega⟩
  have q7 : b.txs.length = b.outs.length := by omega
  refine lp Nat (fun i W => i ≤ b.txs.length ∧ (∀ t ∈ b.txs.take i, t.length ≤ 51 ∧ ∀ s ∈ t, s.length ≤ 20000) ∧ (∀ o ∈ b.outs.take i, (encO o).2 = 0) ∧ St w gs W [(g1, 26, bkcs b p)] [] [.dat false [dTxs b.txs] [.slice p.A4 b.txs.length p.c4], .dat false [dOuts b.outs] [.slice p.A5 b.outs.length p.c5]])
    (fun i => [(1, .pointer (some ⟨g1, 0, none⟩)), (3, .int .i64 i)]) (fun i => b.txs.length - i) 0 ⟨Nat.zero_le _, (fun t h => by rw [List.take_zero] at h; cases h), (fun t h => by rw [List.take_zero] at h; cases h), M⟩ (by repeat (first | exact trivial | refine ⟨rfl, ?_⟩)) ?_
  clear M
  rintro i E W ⟨hi, ha, hb', M⟩
  refine p_fld fB4 rfl ?_
  refine v_load agg_tss rfl ((M.B 0 rfl).at_ rfl) ?_
  refine p_len sltss rfl ?_
  refine p_lt rfl rfl (fun hlt => ?_) (fun hge => ?_)
  rotate_left
  · have hi : i = b.txs.length := by have h : ¬ (i : Int) < (b.txs.length : Int) := hge; omega
    subst hi
    rw [List.take_of_length_le (Nat.le_refl _)] at ha
    rw [List.take_of_length_le (by omega)] at hb'
    have hrt := right_iff.2 ⟨hhd, ha, hb'⟩
    have hck : checkBk b = if 1048576 < b.proof.length then 3 else 0 := by unfold checkBk; rw [if_pos hrt]
    refine p_fld fB6 rfl ?_
    refine v_load agg_b rfl ((M.B 0 rfl).at_ rfl) ?_
    refine p_len slb rfl ?_
    refine p_gt rfl rfl (fun q => ?_) (fun q => ?_)
    · have q : 1048576 < b.proof.length := by have h : (1048576 : Int) < (b.proof.length : Int) := q; omega
      rw [hck, if_pos q]; exact ⟨rfl, M.below⟩
    · have q : ¬ 1048576 < b.proof.length := by have h : ¬ (1048576 : Int) < (b.proof.length : Int) := q; omega
      rw [hck, if_neg q]; exact ⟨rfl, M.below⟩
  have hil : i < b.txs.length := by have h : (i : Int) < (b.txs.length : Int) := hlt; omega
  obtain ⟨t, ht⟩ : ∃ t, b.txs[i]? = some t := ⟨_, List.getElem?_eq_getElem hil⟩
  obtain ⟨o, ho⟩ : ∃ o, b.outs[i]? = some o := ⟨_, List.getElem?_eq_getElem (by omega)⟩
  obtain ⟨u1, u2, u3⟩ := bk_tx (List.mem_of_getElem? ht)
  have hfo := hf1 o (List.mem_of_getElem? ho)
  obtain ⟨b3, o3, es, e3, M'⟩ := M.oute (M.d1 1 rfl) ho
  replace M := M'; clear M'
  have hel := (M.da 1 rfl).len
  rw [dOut_len] at hel
  refine p_fld fB5 rfl ?_
  refine v_load agg_os rfl ((M.B 0 rfl).at_ rfl) ?_
  refine p_at (i := i) slos (by show Value.slice p.A5 b.outs.length p.c5 = _; rw [e3]) rfl rfl (by omega) ?_
  refine v_loadN es agg_out rfl hel (M.lc 0 rfl) ?_
  refine cc is_r20Enc (r20Enc_any o _ _ _ (M.da 1 rfl) M.olt hfo) ?_
  rintro e W ⟨A7, n7, c7, rfl, o7, hb⟩
  replace M := M.call hb
  clear hb o7
  refine ⟨_, rfl, ?_⟩
  refine p_ne rfl rfl (fun q9 => ?_) (fun q9 => ?_)
  rotate_left
  · have q9 : ¬ (encO o).2 = 0 := q9
    exact ⟨by rw [check_2 (b := b) (fun h => q9 (h.2.2 o (List.mem_of_getElem? ho)))]; rfl, M.below⟩
  have q9 : (encO o).2 = 0 := q9
  obtain ⟨b1, o1, At, ct, e1, M'⟩ := M.txe (M.d1 2 rfl) ht
  replace M := M'; clear M'
  refine p_fld fB4 rfl ?_
  refine v_load agg_tss rfl ((M.B 0 rfl).at_ rfl) ?_
  refine p_at (i := i) sltss (by show Value.slice p.A4 b.txs.length p.c4 = _; rw [e1]) rfl rfl hil ?_
  refine v_load agg_ts rfl (M.lc 0 rfl 0 _ rfl) ?_
  refine p_len slts rfl ?_
  refine p_gt rfl rfl (fun q8 => ?_) (fun q8 => ?_)
  · have q8 : (51 : Int) < (t.length : Int) := q8
    exact ⟨by rw [check_2 (b := b) (fun h => by have := (h.2.1 t (List.mem_of_getElem? ht)).1; omega)]; rfl, M.below⟩
  have q8 : ¬ (51 : Int) < (t.length : Int) := q8
  refine lp Nat (fun k W => k ≤ t.length ∧ (∀ s ∈ t.take k, s.length ≤ 20000) ∧ St w gs W [(g1, 26, bkcs b p)] [] [.loc ((⟨b1, o1, none⟩ : Addr).add (i * 1)) [.slice At t.length ct], .dat false [dTx t] [.slice At t.length ct], .dat false [dTxs b.txs] [.slice p.A4 b.txs.length p.c4], .dat false [dOuts b.outs] [.slice p.A5 b.outs.length p.c5]])
    (fun k => [(1, .pointer (some ⟨g1, 0, none⟩)), (3, .int .i64 i), (6, .int .i64 k)]) (fun k => t.length - k) 0 ⟨Nat.zero_le _, (fun s h => by rw [List.take_zero] at h; cases h), M.fsub _ (by simp)⟩ (by repeat (first | exact trivial | refine ⟨rfl, ?_⟩)) ?_
  clear M
  rintro k E W ⟨hk, hs, M⟩
  refine p_fld fB4 rfl ?_
  refine v_load agg_tss rfl ((M.B 0 rfl).at_ rfl) ?_
  refine p_at (i := i) sltss (by show Value.slice p.A4 b.txs.length p.c4 = _; rw [e1]) rfl rfl hil ?_
  refine v_load agg_ts rfl (M.lc 0 rfl 0 _ rfl) ?_
  refine p_len slts rfl ?_
  refine p_lt rfl rfl (fun hlt2 => ?_) (fun hge => ?_)
  · have hkl : k < t.length := by have h : (k : Int) < (t.length : Int) := hlt2; omega
    obtain ⟨s, hsi⟩ : ∃ s, t[k]? = some s := ⟨_, List.getElem?_eq_getElem hkl⟩
    obtain ⟨b2, o2, rfl, M'⟩ := M.stre (M.d1 1 rfl) hsi
    replace M := M'; clear M'
    refine p_fld fB4 rfl ?_
    refine v_load agg_tss rfl ((M.B 0 rfl).at_ rfl) ?_
    refine p_at (i := i) sltss (by show Value.slice p.A4 b.txs.length p.c4 = _; rw [e1]) rfl rfl hil ?_
    refine v_load agg_ts rfl (M.lc 1 rfl 0 _ rfl) ?_
    refine p_at (i := k) slts rfl rfl rfl hkl ?_
    refine v_load agg_st rfl (M.lc 0 rfl 0 _ rfl) ?_
    refine p_lenS u_str rfl ?_
    refine p_gt rfl rfl (fun q9 => ?_) (fun q9 => ?_)
    · have q9 : (20000 : Int) < ((sb s).size : Int) := q9
      rw [sb_size] at q9
      exact ⟨by rw [check_2 (b := b) (fun h => by have := (h.2.1 t (List.mem_of_getElem? ht)).2 s (List.mem_of_getElem? hsi); omega)]; rfl, M.below⟩
    have q9 : ¬ (20000 : Int) < ((sb s).size : Int) := q9
    rw [sb_size] at q9
    refine p_addN (b := 1) rfl rfl (by omega) ?_
    refine ⟨k + 1, ⟨by omega, fun x hx => ?_, M.fsub _ (by simp)⟩, (by repeat (first | exact trivial | refine ⟨rfl, ?_⟩)), by omega⟩
    rw [List.take_add_one, hsi, List.mem_append] at hx
    rcases hx with hx | hx
    · exact hs x hx
    · have : x = s := by simpa using hx
      rw [this]; omega
  have hk : k = t.length := by have h : ¬ (k : Int) < (t.length : Int) := hge; omega
  subst hk
  rw [List.take_of_length_le (Nat.le_refl _)] at hs
  refine p_addN (b := 1) rfl rfl (by omega) ?_
  refine ⟨i + 1, ⟨by omega, fun x hx => ?_, fun x hx => ?_, M.fsub _ (by simp)⟩, (by repeat (first | exact trivial | refine ⟨rfl, ?_⟩)), by omega⟩
  · rw [List.take_add_one, ht, List.mem_append] at hx
    rcases hx with hx | hx
    · exact ha x hx
    · have : x = t := by simpa using hx
      rw [this]; exact ⟨by omega, hs⟩
  · rw [List.take_add_one, ho, List.mem_append] at hx
    rcases hx with hx | hx
    · exact hb' x hx
    · have : x = o := by simpa using hx
      rw [this]; exact q9
theorem St.lse {w W : World} {gs : List (Option Nat)} {L : Lc} {R : List Row} {fs : List Fact} (M : St w gs W L R fs) {ll : List (List UInt8)} {A : Option Addr} {n c i : Nat} {l : List UInt8} (h : RdD W (Fd W (own L R gs)) (dLs ll) (.slice A n c)) (hi : ll[i]? = some l) :
    ∃ b off A' c', A = some ⟨b, off, none⟩ ∧ St w gs W L R (.loc ((⟨b, off, none⟩ : Addr).add (i * 1)) [.slice A' l.length c'] :: .dat false [dB l] [.slice A' l.length c'] :: fs) := by
  have h : RdD W (Fd W (own L R gs)) (.sl 1 ll.length (ll.flatMap fun l => [dB l])) (.slice A n c) := by unfold dLs at h; rw [List.map_eq_flatMap] at h; exact h
  obtain ⟨b, off, es, e, hF, hes, hel, hc⟩ := RdD.eltO (fun l => [dB l]) 1 (fun _ => rfl) h hi
  obtain ⟨u, us, rfl, h1, h2⟩ := hes.uncons
  rw [h2.isnil] at hc
  obtain ⟨A', c', e2, -⟩ := h1.open_
  subst e2
  exact ⟨b, off, A', c', e, (M.addD h1).addC (by rw [block_of_add]; exact hF) hc⟩
set_option maxRecDepth 100000 in
set_option maxHeartbeats 1000000 in
theorem r21fits_any (ll : List (List UInt8)) (gs : List (Option Nat)) (w : World) (A : Option Addr) (n c : Nat) (hr : RdD w (Fd w gs) (dLs ll) (.slice A n c)) (hgs : ∀ b, some b ∈ gs → b < w.heap.size) (hl : ll.length ≤ 1000000000) :
    Calls Tryd.prog 30 #[.slice A n c] w fun e w' => ∃ q : Bool, e = .returned (.bool q) ∧ (q = true ↔ ∀ s ∈ ll, s.length ≤ 1048576) ∧ Below w.heap.size w w' := by
  refine calls_ev (args := [.slice A n c]) mixed Tryd.func30 rfl (by kernel_rfl) ?_
  have en : n = ll.length := hr.slen
  subst en
  have M := (St.start hgs).addD hr
  clear hr
  refine lp Nat (fun i W => i ≤ ll.length ∧ (∀ s ∈ ll.take i, s.length ≤ 1048576) ∧ St w gs W [] [] [.dat false [dLs ll] [.slice A ll.length c]]) (fun i => [(0, .slice A ll.length c), (3, .int .i64 i)]) (fun i => ll.length - i) 0 ⟨Nat.zero_le _, (fun s h => by rw [List.take_zero] at h; cases h), M⟩ (by repeat (first | exact trivial | refine ⟨rfl, ?_⟩)) ?_
  clear M
  rintro i E W ⟨hi, ha, M⟩
  refine p_len sls rfl ?_
  refine p_lt rfl rfl (fun hlt => ?_) (fun hge => ?_)
  rotate_left
  · have hi : i = ll.length := by have h : ¬ (i : Int) < (ll.length : Int) := hge; omega
    subst hi
    rw [List.take_of_length_le (Nat.le_refl _)] at ha
    exact ⟨true, rfl, ⟨fun _ => ha, fun _ => rfl⟩, M.below⟩
  have hil : i < ll.length := by have h : (i : Int) < (ll.length : Int) := hlt; omega
  obtain ⟨l, hl2⟩ : ∃ l, ll[i]? = some l := ⟨_, List.getElem?_eq_getElem hil⟩
  obtain ⟨b1, o1, A1, c1, rfl, M'⟩ := M.lse (M.d1 0 rfl) hl2
  replace M := M'; clear M'
  refine p_at (i := i) sls rfl rfl rfl hil ?_
  refine v_load agg_b rfl (M.lc 0 rfl 0 _ rfl) ?_
  refine p_len slb rfl ?_
  refine p_gt rfl rfl (fun q => ?_) (fun q => ?_)
  · have q : (1048576 : Int) < (l.length : Int) := q
    exact ⟨false, rfl, ⟨(fun h => by cases h), fun h => by have := h l (List.mem_of_getElem? hl2); omega⟩, M.below⟩
  have q : ¬ (1048576 : Int) < (l.length : Int) := q
  refine p_addN (b := 1) rfl rfl (by omega) ?_
  refine ⟨i + 1, ⟨by omega, fun x hx => ?_, M.fsub _ (by simp)⟩, (by repeat (first | exact trivial | refine ⟨rfl, ?_⟩)), by omega⟩
  rw [List.take_add_one, hl2, List.mem_append] at hx
  rcases hx with hx | hx
  · exact ha x hx
  · have : x = l := by simpa using hx
    rw [this]; omega
end Go.Proofs.YtejbljopighenaaDoor
