/- Rows, outcomes, blocks as data. No walk here. Outcomes as bytes, plainly: written, read, read back. No walk here. Package txn: right, Encode. Package txn: Encode. -/
import Derived.Test.YtejbljopighenaaDoorG08
import Derived.Test.YtejbljopighenaaDoorG05
import Derived.Test.YtejbljopighenaaDoorG06
namespace Go.Proofs.YtejbljopighenaaDoor
open Go.RowKit
structure Res where
  rows : List (List Val)
  n : Int
structure Out where
  e : Int
  at_ : Int
  l : List Res
structure Bk where
  num : Int
  last : List UInt8
  prev : List UInt8
  next : List UInt8
  txs : List (List (List UInt8))
  outs : List Out
  proof : List UInt8
def dRow (l : List Val) : D := .sl 3 l.length ((vcs l).map D.v)
def dRows (ll : List (List Val)) : D := .sl 1 ll.length (ll.map dRow)
def dRes (r : Res) : List D := [dRows r.rows, .v (.int .i64 r.n)]
def dRs (l : List Res) : D := .sl 2 l.length (l.flatMap dRes)
def dOut (o : Out) : List D := [.v (.int .i64 o.e), .v (.int .i64 o.at_), dRs o.l]
def dOuts (l : List Out) : D := .sl 3 l.length (l.flatMap dOut)
def dTx (tx : List (List UInt8)) : D := .sl 1 tx.length (tx.map fun s => .v (.string (sb s)))
def dTxs (l : List (List (List UInt8))) : D := .sl 1 l.length (l.map dTx)
def dBk (b : Bk) : List D := [.v (.int .i64 b.num), dB b.last, dB b.prev, dB b.next, dTxs b.txs, dOuts b.outs, dB b.proof]
def dBks (l : List Bk) : D := .sl 7 l.length (l.flatMap dBk)
theorem dRes_len (r : Res) : (dRes r).length = 2 := rfl
theorem dOut_len (o : Out) : (dOut o).length = 3 := rfl
theorem dBk_len (b : Bk) : (dBk b).length = 7 := rfl
def outcs (o : Out) (A : Option Addr) (c : Nat) : List Value := [.int .i64 o.e, .int .i64 o.at_, .slice A o.l.length c]
def rescs (r : Res) (A : Option Addr) (c : Nat) : List Value := [.slice A r.rows.length c, .int .i64 r.n]
section
variable {W W' : World} {F : Nat → Prop} {A : Option Addr} {n c : Nat}
/-- A row, as before. -/
theorem RdD.rowV {l : List Val} (h : RdD W F (dRow l) (.slice A n c)) (hF : ∀ b, F b → b < W.heap.size) : n = l.length ∧ n ≤ c ∧ RdV W W.heap.size A n l := by
  obtain ⟨cs, h1, h2⟩ := h.reads hF
  have e := h2.vals
  subst e
  obtain ⟨A', c', e, h3, -⟩ := h.open_
  injection e with _ e2 e3
  subst e3
  exact ⟨h.slen, by omega, h1⟩
theorem RdD.rowsV {ll : List (List Val)} (h : RdD W F (dRows ll) (.slice A n c)) (hF : ∀ b, F b → b < W.heap.size) : n = ll.length ∧ n ≤ c ∧ RdVS W W.heap.size A n ll := by
  obtain ⟨cs, h1, h2⟩ := h.reads hF
  obtain ⟨A', c', e, h3, -⟩ := h.open_
  injection e with _ e2 e3
  subst e3
  refine ⟨h.slen, by omega, cs, h1, by rw [h2.len]; simp, fun k v xs e1 e2 => ?_⟩
  rw [List.getElem?_map] at e2
  obtain ⟨l, hl, rfl⟩ := Option.map_eq_some_iff.1 e2
  obtain ⟨v', hv', hd⟩ : ∃ v', cs[k]? = some v' ∧ RdD W F (dRow l) v' := h2.get (by rw [List.getElem?_map, hl]; rfl)
  rw [e1] at hv'
  injection hv' with hv'
  subst hv'
  obtain ⟨A2, c2, rfl, h4, -⟩ := hd.open_
  have := hd.rowV hF
  exact ⟨A2, l.length, c2, rfl, h4, this.2.2⟩
/-- What a call has made, as data. -/
theorem ownRow_rd {base : Nat} {e : TypeId} {l : List Val} (h : W.ownsRow base e 3 (.slice A n c) n (vcs l)) (hn : n = l.length) (hF : ∀ b, base ≤ b → b < W.heap.size → Thaw W b → F b) : RdD W F (dRow l) (.slice A n c) := by
  subst hn
  exact rdD_row h (RdL.ofvals _) fun b h1 h2 h3 => hF b h1 h2 (row_thaw h (by rw [← own_bk]; exact h3))
theorem OwnN.rdRows {base : Nat} {T eT : TypeId} {ll : List (List Val)} (h : OwnN W base T eT 3 A n c (ll.map vcs)) (hF : ∀ b, base ≤ b → b < W.heap.size → Thaw W b → F b) : RdD W F (dRows ll) (.slice A n c) := by
  obtain ⟨vs, h1, h2, h3⟩ := h
  have hn : n = ll.length := by have := h1.1; rw [List.length_map] at h2; omega
  have key : RdL W F (ll.map dRow) vs := by
    rw [List.length_map] at h2
    refine RdL.ofall dRow ll vs h2 fun k v l hv hl => ?_
    obtain ⟨A', m, c', rfl, ho⟩ := h3 k v (vcs l) hv (by rw [List.getElem?_map, hl]; rfl)
    exact ownRow_rd ho (by have := ho.1; rw [vcs_len] at this; omega) hF
  subst hn
  exact rdD_row h1 key fun b q1 q2 q3 => hF b q1 q2 (row_thaw h1 (by rw [← own_bk]; exact q3))
end
end Go.Proofs.YtejbljopighenaaDoor
namespace Go.Proofs.YtejbljopighenaaDoor
def rightO (o : Out) : Bool := decide (0 ≤ o.e ∧ o.e ≤ 999 ∧ 0 ≤ o.at_ ∧ o.at_ ≤ 50 ∧ (o.e ≠ 0 → o.l = []) ∧ o.l.length ≤ 50) && o.l.all fun r => decide (0 ≤ r.n)
def resB (r : Res) : List UInt8 := putN r.n.toNat ++ putB (manyB r.rows)
def hdB (o : Out) : List UInt8 := putN o.e.toNat ++ putN o.at_.toNat ++ putN o.l.length
def outB (o : Out) : List UInt8 := hdB o ++ o.l.flatMap resB
def okO (o : Out) : Bool := rightO o && o.l.all fun r => decide (manyE r.rows = 0)
def encO (o : Out) : List UInt8 × Int := if okO o = true then (if 1048576 < (outB o).length then ([], 3) else (outB o, 0)) else ([], 2)
def outZ : Out := ⟨0, 0, []⟩
/-- Not too great. -/
def FitsO (o : Out) : Prop := (∀ r ∈ o.l, FitsL r.rows ∧ r.n ≤ 9223372036854775807) ∧ o.l.length ≤ 1000000 ∧ (outB o).length ≤ 900000000
structure RS where
  at_ : Int
  bad : Bool
def numP (b : List UInt8) (s : RS) : Int × RS := if gE b s.at_ ≠ 0 ∨ 9223372036854775807 < gN b s.at_ then (0, ⟨s.at_, true⟩) else (gN b s.at_, ⟨gTo b s.at_, s.bad⟩)
def resP (b : List UInt8) (s : RS) : Res × RS :=
  if gbE b (numP b s).2.at_ ≠ 0 then (⟨[], 0⟩, ⟨(numP b s).2.at_, true⟩)
  else (⟨fewL (gbL b (numP b s).2.at_), (numP b s).1⟩, ⟨gbTo b (numP b s).2.at_, (numP b s).2.bad || decide (fewE (gbL b (numP b s).2.at_) ≠ 0)⟩)
def resF (b : List UInt8) : Nat → RS → List Res × RS
  | 0, s => ([], s)
  | k + 1, s => if s.bad = true then ([], s) else ((resP b s).1 :: (resF b k (resP b s).2).1, (resF b k (resP b s).2).2)
def hd1 (b : List UInt8) : Int × RS := numP b ⟨0, false⟩
def hd2 (b : List UInt8) : Int × RS := numP b (hd1 b).2
def hd3 (b : List UInt8) : Int × RS := numP b (hd2 b).2
def resO (b : List UInt8) : List Res × RS := resF b (min (hd3 b).1.toNat 51) (hd3 b).2
def parseO (b : List UInt8) : Out := ⟨(hd1 b).1, (hd2 b).1, (resO b).1⟩
def decO (b : List UInt8) : Out × Int := if (resO b).2.bad = false ∧ encO (parseO b) = (b, 0) then (parseO b, 0) else (outZ, 11)
theorem manyE_all : ∀ {ll : List (List Val)}, manyE ll = 0 → ∀ l ∈ ll, encE l = 0
  | [], _, l, hl => by cases hl
  | x :: r, h, l, hl => by
    unfold manyE at h
    split at h
    · next h1 => exact absurd h h1
    · next h1 =>
      rcases List.mem_cons.1 hl with rfl | hl
      · exact Classical.not_not.1 h1
      · exact manyE_all h l hl
theorem few_many {ll : List (List Val)} (h : manyE ll = 0) (hf : FitsL ll) : fewE (manyB ll) = 0 ∧ fewL (manyB ll) = ll := by
  have hE := manyE_all h
  have e2 : manyB ll = joinL (ll.map encB) := by unfold manyB; rw [if_pos h]
  have hs : short (ll.map encB) := by
    intro s hs
    obtain ⟨x, hx, rfl⟩ := List.mem_map.1 hs
    have := encB_len (hf.2.1 x hx).1 (hf.2.1 x hx).2
    omega
  obtain ⟨s1, s2⟩ := split_join _ (by rw [List.length_map]; have := hf.1; omega) hs
  have e3 : fewE (manyB ll) = 0 := by
    unfold fewE
    rw [e2, s1, if_neg (by decide), s2]
    refine fewF_ok fun s hs => ?_
    obtain ⟨x, hx, rfl⟩ := List.mem_map.1 hs
    exact (dec_enc (hE x hx) (hf.2.1 x hx).1).1
  refine ⟨e3, ?_⟩
  unfold fewL
  rw [if_pos e3, e2, s2, List.map_map]
  conv => rhs; rw [← List.map_id ll]
  exact List.map_congr_left fun x hx => (dec_enc (hE x hx) (hf.2.1 x hx).1).2
theorem fewF_all : ∀ {ll : List (List UInt8)}, fewF ll = 0 → ∀ l ∈ ll, decE l = 0
  | [], _, l, hl => by cases hl
  | x :: r, h, l, hl => by
    unfold fewF at h
    split at h
    · next h1 => exact absurd h h1
    · next h1 =>
      rcases List.mem_cons.1 hl with rfl | hl
      · exact Classical.not_not.1 h1
      · exact fewF_all h l hl
/-- Rows that are read are written as they were. -/
theorem many_few {b : List UInt8} (h : fewE b = 0) (hb : b.length ≤ 1000000000) : manyE (fewL b) = 0 ∧ manyB (fewL b) = b := by
  have e : fewL b = (spL b).map decL := by unfold fewL; rw [if_pos h]
  have hs : spE b = 0 := by
    unfold fewE at h
    split at h
    · next h1 => exact absurd h h1
    · next h1 => exact Classical.not_not.1 h1
  have hF : fewF (spL b) = 0 := by unfold fewE at h; rw [if_neg (by rw [hs]; decide)] at h; exact h
  obtain ⟨j1, j2⟩ := join_split b hs
  have key : ∀ x ∈ spL b, encE (decL x) = 0 ∧ encB (decL x) = x := fun x hx => enc_dec (by have := j2 x hx; omega) (fewF_all hF x hx)
  have m0 : manyE (fewL b) = 0 := by
    rw [e]
    refine manyE_ok fun l hl => ?_
    obtain ⟨x, hx, rfl⟩ := List.mem_map.1 hl
    exact (key x hx).1
  refine ⟨m0, ?_⟩
  unfold manyB
  rw [if_pos m0, e, List.map_map]
  have : (spL b).map (encB ∘ decL) = spL b := by
    conv => rhs; rw [← List.map_id (spL b)]
    exact List.map_congr_left fun x hx => (key x hx).2
  rw [this, j1]
theorem right_short {v : Val} (h : rightB v = true) : v.s.length ≤ 1000 := by
  unfold rightB at h
  split at h
  · simp only [Bool.and_eq_true, List.isEmpty_iff] at h; rw [h.2]; decide
  split at h
  · simp only [Bool.and_eq_true, List.isEmpty_iff] at h; rw [h.2]; decide
  split at h
  · simp only [List.isEmpty_iff] at h; rw [h]; decide
  split at h
  · simp only [Bool.and_eq_true, decide_eq_true_eq] at h; omega
  split at h
  · simp only [Bool.and_eq_true, decide_eq_true_eq] at h; omega
  · cases h
theorem tot_leO : ∀ {l : List Val} {k : Nat}, (∀ v ∈ l, v.s.length ≤ k) → tot l ≤ l.length * (40 + k)
  | [], k, _ => Nat.zero_le _
  | v :: l, k, h => by
    have h1 := tot_leO (l := l) fun x hx => h x (List.mem_cons_of_mem _ hx)
    have h2 := h v (List.mem_cons_self ..)
    unfold tot at h1 ⊢
    rw [List.map_cons, List.sum_cons, List.length_cons, Nat.succ_mul]; omega
theorem few_fits {b : List UInt8} (hb : b.length ≤ 1000000) : FitsL (fewL b) := by
  by_cases h : fewE b = 0
  · have e : fewL b = (spL b).map decL := by unfold fewL; rw [if_pos h]
    have hs : spE b = 0 := by
      unfold fewE at h
      split at h
      · next h1 => exact absurd h h1
      · next h1 => exact Classical.not_not.1 h1
    have hF : fewF (spL b) = 0 := by unfold fewE at h; rw [if_neg (by rw [hs]; decide)] at h; exact h
    obtain ⟨c1, c2⟩ := spL_cnt hs
    refine ⟨by rw [e, List.length_map]; omega, fun l hl => ?_, ?_⟩
    · rw [e] at hl
      obtain ⟨x, hx, rfl⟩ := List.mem_map.1 hl
      have hx1 := c2 x hx
      have hd := decL_ok (l := x) (by omega)
      refine ⟨fun v hv => (hd v hv).2.1, ?_⟩
      have h1 := (enc_ok (enc_dec (l := x) (by omega) (fewF_all hF x hx)).1).2.1
      have h2 := tot_leO (l := decL x) (k := 1000) (fun v hv => right_short (hd v hv).1)
      have : (decL x).length * (40 + 1000) ≤ 100 * (40 + 1000) := Nat.mul_le_mul_right _ h1
      omega
    · have m := many_few h (by omega)
      have m2 : manyB (fewL b) = joinL ((fewL b).map encB) := by unfold manyB; rw [if_pos m.1]
      rw [← m2, m.2]; omega
  · have e : fewL b = [] := by unfold fewL; rw [if_neg h]
    rw [e]
    exact fits_of ⟨Nat.zero_le _, fun l hl => by cases hl⟩
theorem numP_put (p : List UInt8) (n : Nat) (r : List UInt8) (bad : Bool) (h : n ≤ 9223372036854775807) : numP (p ++ (putN n ++ r)) ⟨(p.length : Int), bad⟩ = ((n : Int), ⟨(((p ++ putN n).length : Nat) : Int), bad⟩) := by
  obtain ⟨g1, g2, g3⟩ := g_put p n r (by omega)
  unfold numP
  rw [if_neg (by rw [g1, g2]; omega), g2, g3]
  rw [List.length_append]
theorem resP_put (p : List UInt8) {r : Res} (q : List UInt8) (h0 : 0 ≤ r.n) (hn : r.n ≤ 9223372036854775807) (hf : FitsL r.rows) (hm : manyE r.rows = 0) (hl : (manyB r.rows).length ≤ 1048576) : resP (p ++ (resB r ++ q)) ⟨(p.length : Int), false⟩ = (r, ⟨(((p ++ resB r).length : Nat) : Int), false⟩) := by
  have e : p ++ (resB r ++ q) = p ++ (putN r.n.toNat ++ (putB (manyB r.rows) ++ q)) := by unfold resB; rw [List.append_assoc]
  have n1 := numP_put p r.n.toNat (putB (manyB r.rows) ++ q) false (by omega)
  have e2 : p ++ (putN r.n.toNat ++ (putB (manyB r.rows) ++ q)) = (p ++ putN r.n.toNat) ++ (putB (manyB r.rows) ++ q) := by rw [List.append_assoc]
  obtain ⟨g1, g2, g3⟩ := gb_put (p ++ putN r.n.toNat) (manyB r.rows) q hl
  rw [← e2] at g1 g2 g3
  obtain ⟨f1, f2⟩ := few_many hm hf
  unfold resP
  rw [e, n1]
  dsimp only
  rw [if_neg (by rw [g1]; decide), g2, g3, f1, f2]
  obtain ⟨rows, n⟩ := r
  have : ((n.toNat : Nat) : Int) = n := Int.toNat_of_nonneg h0
  simp only [this, ne_eq, not_true_eq_false, decide_false, Bool.or_false]
  congr 2
  unfold resB
  simp only [List.length_append]
  omega
theorem resF_put : ∀ (l : List Res) (p q : List UInt8), (∀ r ∈ l, 0 ≤ r.n ∧ r.n ≤ 9223372036854775807 ∧ FitsL r.rows ∧ manyE r.rows = 0 ∧ (manyB r.rows).length ≤ 1048576) → resF (p ++ (l.flatMap resB ++ q)) l.length ⟨(p.length : Int), false⟩ = (l, ⟨(((p ++ l.flatMap resB).length : Nat) : Int), false⟩)
  | [], p, q, _ => by rw [List.length_nil, resF, List.flatMap_nil, List.append_nil]
  | r :: l, p, q, h => by
    obtain ⟨h1, h2, h3, h4, h5⟩ := h r (List.mem_cons_self ..)
    have e : p ++ ((r :: l).flatMap resB ++ q) = p ++ (resB r ++ (l.flatMap resB ++ q)) := by rw [List.flatMap_cons, List.append_assoc]
    have e2 : p ++ (resB r ++ (l.flatMap resB ++ q)) = (p ++ resB r) ++ (l.flatMap resB ++ q) := by rw [List.append_assoc]
    have r1 := resP_put p (l.flatMap resB ++ q) h1 h2 h3 h4 h5
    have ih := resF_put l (p ++ resB r) q (fun x hx => h x (List.mem_cons_of_mem _ hx))
    rw [List.length_cons, resF, if_neg (show ¬ false = true by decide), e, r1, e2]
    dsimp only
    rw [ih]
    dsimp only
    rw [List.flatMap_cons, List.append_assoc]
theorem flat_mem {α : Type} (f : α → List UInt8) : ∀ {l : List α} {x : α}, x ∈ l → (f x).length ≤ (l.flatMap f).length
  | y :: l, x, h => by
    rw [List.flatMap_cons, List.length_append]
    rcases List.mem_cons.1 h with rfl | h
    · omega
    · have := flat_mem f h; omega
theorem okO_iff {o : Out} : okO o = true ↔ (0 ≤ o.e ∧ o.e ≤ 999 ∧ 0 ≤ o.at_ ∧ o.at_ ≤ 50 ∧ (o.e ≠ 0 → o.l = []) ∧ o.l.length ≤ 50) ∧ ∀ r ∈ o.l, 0 ≤ r.n ∧ manyE r.rows = 0 := by
  unfold okO rightO
  simp only [Bool.and_eq_true, decide_eq_true_eq, List.all_eq_true]
  constructor
  · rintro ⟨⟨h1, h2⟩, h3⟩
    exact ⟨h1, fun r hr => ⟨h2 r hr, h3 r hr⟩⟩
  · rintro ⟨h1, h2⟩
    exact ⟨⟨h1, fun r hr => (h2 r hr).1⟩, fun r hr => (h2 r hr).2⟩
theorem encO_ok {o : Out} {b : List UInt8} (h : encO o = (b, 0)) : okO o = true ∧ b = outB o ∧ (outB o).length ≤ 1048576 := by
  unfold encO at h
  split at h
  · next h1 =>
    split at h
    · injection h with _ h; exact absurd h (by decide)
    · next h2 => injection h with h _; exact ⟨h1, h.symm, by omega⟩
  · injection h with _ h; exact absurd h (by decide)
/-- What was written is read back, whatever stands behind. -/
theorem parse_put {o : Out} {b : List UInt8} (h : encO o = (b, 0)) (hf : FitsO o) (q : List UInt8) : (resO (b ++ q)).2.bad = false ∧ parseO (b ++ q) = o := by
  obtain ⟨hok, rfl, hl⟩ := encO_ok h
  obtain ⟨⟨h1, h2, h3, h4, h5, h6⟩, h7⟩ := okO_iff.1 hok
  have e : outB o ++ q = [] ++ (putN o.e.toNat ++ (putN o.at_.toNat ++ (putN o.l.length ++ (o.l.flatMap resB ++ q)))) := by unfold outB hdB; simp only [List.append_assoc, List.nil_append]
  have n1 := numP_put [] o.e.toNat (putN o.at_.toNat ++ (putN o.l.length ++ (o.l.flatMap resB ++ q))) false (by omega)
  have n2 := numP_put (putN o.e.toNat) o.at_.toNat (putN o.l.length ++ (o.l.flatMap resB ++ q)) false (by omega)
  have n3 := numP_put (putN o.e.toNat ++ putN o.at_.toNat) o.l.length (o.l.flatMap resB ++ q) false (by omega)
  have a1 : hd1 (outB o ++ q) = ((o.e.toNat : Int), ⟨((putN o.e.toNat).length : Nat), false⟩) := by unfold hd1; rw [e]; exact n1
  have a2 : hd2 (outB o ++ q) = ((o.at_.toNat : Int), ⟨((putN o.e.toNat ++ putN o.at_.toNat).length : Nat), false⟩) := by unfold hd2; rw [a1, e]; exact n2
  have a3 : hd3 (outB o ++ q) = ((o.l.length : Int), ⟨((hdB o).length : Nat), false⟩) := by
    unfold hd3
    rw [a2, e]
    dsimp only
    rw [List.append_assoc] at n3
    exact n3
  have a4 : resO (outB o ++ q) = (o.l, ⟨((outB o).length : Nat), false⟩) := by
    unfold resO
    rw [a3]
    dsimp only
    rw [Int.toNat_natCast, Nat.min_eq_left (by omega)]
    have r := resF_put o.l (hdB o) q (fun r hr => ⟨(h7 r hr).1, (hf.1 r hr).2, (hf.1 r hr).1, (h7 r hr).2, ?_⟩)
    · rw [← List.append_assoc] at r
      exact r
    · have := flat_mem resB hr
      have e3 : (outB o).length = (hdB o).length + (o.l.flatMap resB).length := by unfold outB; rw [List.length_append]
      have e4 : (resB r).length = (putN r.n.toNat).length + (putB (manyB r.rows)).length := by unfold resB; rw [List.length_append]
      have e5 : (putB (manyB r.rows)).length = (putN (manyB r.rows).length).length + (manyB r.rows).length := by unfold putB; rw [List.length_append]
      omega
  refine ⟨by rw [a4], ?_⟩
  unfold parseO
  rw [a1, a2, a4]
  obtain ⟨oe, oa, ol⟩ := o
  dsimp only at h1 h3 ⊢
  rw [Int.toNat_of_nonneg h1, Int.toNat_of_nonneg h3]
theorem dec_encO {o : Out} {b : List UInt8} (h : encO o = (b, 0)) (hf : FitsO o) : decO b = (o, 0) := by
  obtain ⟨h1, h2⟩ := parse_put h hf []
  rw [List.append_nil] at h1 h2
  unfold decO
  rw [h1, h2, if_pos ⟨rfl, h⟩]
theorem numP_le (b : List UInt8) (s : RS) : (numP b s).1 ≤ 9223372036854775807 := by
  unfold numP
  split
  · exact (by decide : (0 : Int) ≤ 9223372036854775807)
  · next h => dsimp only; omega
theorem gbL_le (b : List UInt8) (a : Int) : (gbL b a).length ≤ b.length := by
  unfold gbL
  split
  · rw [List.length_take, List.length_drop]; omega
  · exact Nat.zero_le _
theorem resF_fits {b : List UInt8} (hb : b.length ≤ 1000000) : ∀ (k : Nat) (s : RS), (resF b k s).1.length ≤ k ∧ ∀ r ∈ (resF b k s).1, FitsL r.rows ∧ r.n ≤ 9223372036854775807 ∧ (resB r).length ≤ 1000040
  | 0, s => ⟨Nat.le_refl _, fun r hr => by cases hr⟩
  | k + 1, s => by
    rw [resF]
    split
    · exact ⟨Nat.zero_le _, fun r hr => by cases hr⟩
    · obtain ⟨h1, h2⟩ := resF_fits hb k (resP b s).2
      refine ⟨by rw [List.length_cons]; omega, fun r hr => ?_⟩
      rcases List.mem_cons.1 hr with rfl | hr
      · unfold resP
        split
        · refine ⟨fits_of ⟨Nat.zero_le _, fun l hl => by cases hl⟩, (show (0 : Int) ≤ 9223372036854775807 by decide), (show (resB ⟨[], 0⟩).length ≤ 1000040 by decide)⟩
        · have hg := gbL_le b (numP b s).2.at_
          have hn := numP_le b s
          refine ⟨few_fits (by omega), hn, ?_⟩
          unfold resB
          dsimp only
          rw [List.length_append, putB, List.length_append]
          have p1 := putN_len10 (n := (numP b s).1.toNat) (by omega)
          by_cases h0 : fewE (gbL b (numP b s).2.at_) = 0
          · rw [(many_few h0 (by omega)).2]
            have p2 := putN_len10 (n := (gbL b (numP b s).2.at_).length) (by omega)
            omega
          · have e : fewL (gbL b (numP b s).2.at_) = [] := by unfold fewL; rw [if_neg h0]
            rw [e]
            have : (manyB []).length ≤ 1 := by decide
            have p2 := putN_len10 (n := (manyB []).length) (by omega)
            omega
      · exact h2 r hr
theorem flat_bound {α : Type} (f : α → List UInt8) {k : Nat} : ∀ {l : List α}, (∀ x ∈ l, (f x).length ≤ k) → (l.flatMap f).length ≤ l.length * k
  | [], _ => by simp
  | y :: l, h => by
    rw [List.flatMap_cons, List.length_append, List.length_cons, Nat.succ_mul]
    have := flat_bound f (l := l) fun x hx => h x (List.mem_cons_of_mem _ hx)
    have := h y (List.mem_cons_self ..)
    omega
theorem parse_fits {b : List UInt8} (hb : b.length ≤ 1000000) : FitsO (parseO b) := by
  obtain ⟨h1, h2⟩ := resF_fits hb (min (hd3 b).1.toNat 51) (hd3 b).2
  have hm : min (hd3 b).1.toNat 51 ≤ 51 := Nat.min_le_right _ _
  refine ⟨fun r hr => ⟨(h2 r hr).1, (h2 r hr).2.1⟩, by show (resO b).1.length ≤ _; unfold resO; omega, ?_⟩
  unfold outB
  rw [List.length_append]
  have e1 := putN_len10 (n := (parseO b).e.toNat) (by have := numP_le b ⟨0, false⟩; show (hd1 b).1.toNat < _; unfold hd1; omega)
  have e2 := putN_len10 (n := (parseO b).at_.toNat) (by have := numP_le b (hd1 b).2; show (hd2 b).1.toNat < _; unfold hd2; omega)
  have hl : (parseO b).l.length ≤ 51 := by show (resO b).1.length ≤ _; unfold resO; omega
  have e3 := putN_len10 (n := (parseO b).l.length) (by omega)
  have e4 := flat_bound resB (l := (parseO b).l) (k := 1000040) fun r hr => (h2 r hr).2.2
  have e5 : (parseO b).l.length * 1000040 ≤ 51 * 1000040 := Nat.mul_le_mul_right _ hl
  unfold hdB
  simp only [List.length_append]
  omega
theorem decO_ok {b : List UInt8} (h : (decO b).2 = 0) : encO (decO b).1 = (b, 0) := by
  unfold decO at h ⊢
  split at h
  · next h1 => rw [if_pos h1]; exact h1.2
  · exact absurd h (by decide)
theorem decO_bad {b : List UInt8} (h : (decO b).2 ≠ 0) : decO b = (outZ, 11) := by
  unfold decO at h ⊢
  split at h
  · exact absurd rfl h
  · next h1 => rw [if_neg h1]
end Go.Proofs.YtejbljopighenaaDoor
namespace Go.Proofs.YtejbljopighenaaDoor
open Go.RowKit
theorem is_xright : isFn Tryd.prog 45 = true := by kernel_rfl
theorem is_xEnc : isFn Tryd.prog 25 = true := by kernel_rfl
theorem is_xnum : isFn Tryd.prog 63 = true := by kernel_rfl
theorem is_xres : isFn Tryd.prog 64 = true := by kernel_rfl
theorem is_many : isFn Tryd.prog 46 = true := by kernel_rfl
theorem is_few : isFn Tryd.prog 74 = true := by kernel_rfl
theorem is_vput : isFn Tryd.prog 26 = true := by kernel_rfl
theorem is_vputB : isFn Tryd.prog 44 = true := by kernel_rfl
theorem is_vget : isFn Tryd.prog 32 = true := by kernel_rfl
theorem is_vgetB : isFn Tryd.prog 49 = true := by kernel_rfl
theorem fO0 : fieldOff Tryd.prog 55 0 = some 0 := by kernel_rfl
theorem fO1 : fieldOff Tryd.prog 55 1 = some 1 := by kernel_rfl
theorem fO2 : fieldOff Tryd.prog 55 2 = some 2 := by kernel_rfl
theorem fR0 : fieldOff Tryd.prog 58 0 = some 0 := by kernel_rfl
theorem fR1 : fieldOff Tryd.prog 58 1 = some 1 := by kernel_rfl
theorem agg_out : aggOf Tryd.prog 55 = some (true, 3) := by kernel_rfl
theorem agg_res : aggOf Tryd.prog 58 = some (true, 2) := by kernel_rfl
theorem agg_rs : aggOf Tryd.prog 53 = some (false, 1) := by kernel_rfl
theorem agg_vvs : aggOf Tryd.prog 56 = some (false, 1) := by kernel_rfl
theorem agg_i : aggOf Tryd.prog 3 = some (false, 1) := by kernel_rfl
theorem agg_bl : aggOf Tryd.prog 4 = some (false, 1) := by kernel_rfl
theorem sz_out : (Tryd.prog.info? 55).map (·.size) = some 3 := by kernel_rfl
theorem sz_res : (Tryd.prog.info? 58).map (·.size) = some 2 := by kernel_rfl
theorem sz_rs : (Tryd.prog.info? 53).map (·.size) = some 1 := by kernel_rfl
theorem sz_bln : (Tryd.prog.info? 4).map (·.size) = some 1 := by kernel_rfl
theorem slrs : slOf Tryd.prog 53 = some (58, 2) := by kernel_rfl
def zOut : List Value := [.int .i64 0, .int .i64 0, .slice none 0 0]
def zRes : List Value := [.slice none 0 0, .int .i64 0]
theorem z_out : zeroOf Tryd.prog 55 = some zOut := by kernel_rfl
theorem z_res : zeroOf Tryd.prog 58 = some zRes := by kernel_rfl
theorem al_out : (Tryd.prog.info? 55).map (fun i => i.zero.map fun z => z.cells.toList) = some (some zOut) := by kernel_rfl
theorem al_res : (Tryd.prog.info? 58).map (fun i => i.zero.map fun z => z.cells.toList) = some (some zRes) := by kernel_rfl
theorem pl_out : placesOf Tryd.prog 55 = some [(0, 1), (1, 1), (2, 1)] := by kernel_rfl
theorem pl_res : placesOf Tryd.prog 58 = some [(0, 1), (1, 1)] := by kernel_rfl
theorem RdL.out {W : World} {F : Nat → Prop} {o : Out} {cs : List Value} (h : RdL W F (dOut o) cs) : ∃ A c, cs = outcs o A c ∧ RdD W F (dRs o.l) (.slice A o.l.length c) := by
  obtain ⟨u0, _, rfl, h0, h⟩ := (show RdL W F [.v (.int .i64 o.e), .v (.int .i64 o.at_), dRs o.l] cs from h).uncons
  obtain ⟨u1, _, rfl, h1, h⟩ := h.uncons
  obtain ⟨u2, _, rfl, h2, h⟩ := h.uncons
  rw [h.isnil]
  obtain ⟨A1, c1, e1, _⟩ := h2.open_
  subst e1
  obtain rfl := RdD.val.1 h0
  obtain rfl := RdD.val.1 h1
  exact ⟨A1, c1, rfl, h2⟩
theorem RdL.res {W : World} {F : Nat → Prop} {r : Res} {cs : List Value} (h : RdL W F (dRes r) cs) : ∃ A c, cs = rescs r A c ∧ RdD W F (dRows r.rows) (.slice A r.rows.length c) := by
  obtain ⟨u0, _, rfl, h0, h⟩ := (show RdL W F [dRows r.rows, .v (.int .i64 r.n)] cs from h).uncons
  obtain ⟨u1, _, rfl, h1, h⟩ := h.uncons
  rw [h.isnil]
  obtain ⟨A1, c1, e1, _⟩ := h0.open_
  subst e1
  obtain rfl := RdD.val.1 h1
  exact ⟨A1, c1, rfl, h0⟩
theorem RdD.eltO {W : World} {F : Nat → Prop} {α : Type} (f : α → List D) (s : Nat) (hf : ∀ x, (f x).length = s) {l : List α} {A : Option Addr} {n c i : Nat} {x : α} (h : RdD W F (.sl s l.length (l.flatMap f)) (.slice A n c)) (hi : l[i]? = some x) :
    ∃ b off es, A = some ⟨b, off, none⟩ ∧ F b ∧ RdL W F (f x) es ∧ es.length = s ∧ ∀ j y, es[j]? = some y → W.cell? (((⟨b, off, none⟩ : Addr).add (i * s)).add j) = some y := by
  have hn := h.slen
  have hil := (List.getElem?_eq_some_iff.1 hi).1
  obtain ⟨b, off, es, e1, hF, hes, hel, hc⟩ := h.at_ (i := i) (by omega)
  have hx : ((l.flatMap f).drop (i * s)).take s = f x := by
    clear h hes hel hc e1 hn hil
    induction l generalizing i with
    | nil => cases hi
    | cons y l ih =>
      cases i with
      | zero =>
        simp at hi
        subst hi
        rw [Nat.zero_mul, List.drop_zero, List.flatMap_cons, List.take_left' (hf _)]
      | succ i =>
        rw [List.flatMap_cons, Nat.succ_mul, Nat.add_comm, ← List.drop_drop, List.drop_left' (hf _)]
        exact ih (by simpa using hi)
  rw [hx] at hes
  exact ⟨b, off, es, e1, hF, hes, hel, fun j y hj => by rw [Addr.add_lit, Addr.add_lit]; exact hc j y hj⟩
section
variable {w W : World} {gs : List (Option Nat)} {L : Lc} {R : List Row} {fs : List Fact}
theorem St.res (M : St w gs W L R fs) {l : List Res} {A : Option Addr} {n c i : Nat} {r : Res} (h : RdD W (Fd W (own L R gs)) (dRs l) (.slice A n c)) (hi : l[i]? = some r) :
    ∃ b off Ar cr, A = some ⟨b, off, none⟩ ∧ St w gs W L R (.loc ((⟨b, off, none⟩ : Addr).add (i * 2)) (rescs r Ar cr) :: .dat false [dRows r.rows] [.slice Ar r.rows.length cr] :: fs) := by
  obtain ⟨b, off, es, e, hF, hes, hel, hc⟩ := RdD.eltO dRes 2 dRes_len h hi
  obtain ⟨Ar, cr, rfl, h1⟩ := hes.res
  exact ⟨b, off, Ar, cr, e, (M.addD h1).addC (by rw [block_of_add]; exact hF) hc⟩
end
theorem right_split (o : Out) (q : Bool) (hq : q = o.l.all fun r => decide (0 ≤ r.n)) (h : 0 ≤ o.e ∧ o.e ≤ 999 ∧ 0 ≤ o.at_ ∧ o.at_ ≤ 50 ∧ (o.e ≠ 0 → o.l = []) ∧ o.l.length ≤ 50) : rightO o = q := by unfold rightO; rw [decide_eq_true h, Bool.true_and, hq]
theorem right_no (o : Out) (h : ¬ (0 ≤ o.e ∧ o.e ≤ 999 ∧ 0 ≤ o.at_ ∧ o.at_ ≤ 50 ∧ (o.e ≠ 0 → o.l = []) ∧ o.l.length ≤ 50)) : rightO o = false := by unfold rightO; rw [decide_eq_false h, Bool.false_and]
set_option maxRecDepth 100000 in
set_option maxHeartbeats 2000000 in
theorem xright_any (o : Out) (gs : List (Option Nat)) (w : World) (cs : List Value) (hr : RdL w (Fd w gs) (dOut o) cs) (hgs : ∀ b, some b ∈ gs → b < w.heap.size) (hl : o.l.length ≤ 1000000) :
    Calls Tryd.prog 45 #[.agg cs.toArray] w fun e w' => e = .returned (.bool (rightO o)) ∧ Below w.heap.size w w' := by
  refine calls_ev (args := [.agg cs.toArray]) mixed Tryd.func45 rfl (by kernel_rfl) ?_
  obtain ⟨A, c, rfl, h1⟩ := hr.out
  have M := (St.start hgs).addD h1
  clear h1 hr
  refine s_box (outcs o A c) M rfl ?_
  clear M
  rintro g1 W M
  refine p_fld fO0 rfl ?_
  refine v_load agg_i rfl ((M.B 0 rfl).at_ rfl) ?_
  refine p_lt rfl rfl (fun q1 => ?_) (fun q1 => ?_)
  ·
    exact ⟨ret_tf (right_no o (by omega)).symm, M.below⟩
  refine p_fld fO0 rfl ?_
  refine v_load agg_i rfl ((M.B 0 rfl).at_ rfl) ?_
  refine p_gt rfl rfl (fun q2 => ?_) (fun q2 => ?_)
  ·
    exact ⟨ret_tf (right_no o (by omega)).symm, M.below⟩
  refine p_fld fO1 rfl ?_
  refine v_load agg_i rfl ((M.B 0 rfl).at_ rfl) ?_
  refine p_lt rfl rfl (fun q3 => ?_) (fun q3 => ?_)
  ·
    exact ⟨ret_tf (right_no o (by omega)).symm, M.below⟩
  refine p_fld fO1 rfl ?_
  refine v_load agg_i rfl ((M.B 0 rfl).at_ rfl) ?_
  refine p_gt rfl rfl (fun q4 => ?_) (fun q4 => ?_)
  ·
    exact ⟨ret_tf (right_no o (by omega)).symm, M.below⟩
  have q1 : ¬ o.e < 0 := q1
  have q2 : ¬ 999 < o.e := q2
  have q3 : ¬ o.at_ < 0 := q3
  have q4 : ¬ 50 < o.at_ := q4
  refine p_fld fO0 rfl ?_
  refine v_load agg_i rfl ((M.B 0 rfl).at_ rfl) ?_
  refine p_ne rfl rfl (fun q5 => ?_) (fun q5 => ?_)
  · have q5 : o.e ≠ 0 → o.l = [] := fun h => absurd q5 h
    refine p_fld fO2 rfl ?_
    refine v_load agg_rs rfl ((M.B 0 rfl).at_ rfl) ?_
    refine p_len slrs rfl ?_
    refine p_gt rfl rfl (fun q6 => ?_) (fun q6 => ?_)
    · have q6 : (50 : Int) < (o.l.length : Int) := q6
      exact ⟨ret_tf (right_no o (by omega)).symm, M.below⟩
    have q6 : ¬ (50 : Int) < (o.l.length : Int) := q6
    have hok : 0 ≤ o.e ∧ o.e ≤ 999 ∧ 0 ≤ o.at_ ∧ o.at_ ≤ 50 ∧ (o.e ≠ 0 → o.l = []) ∧ o.l.length ≤ 50 := ⟨by omega, by omega, by omega, by omega, q5, by omega⟩
    refine p_fld fO2 rfl ?_
    refine v_load agg_rs rfl ((M.B 0 rfl).at_ rfl) ?_
    refine p_len slrs rfl ?_
    refine lp Nat (fun i W => i ≤ o.l.length ∧ (∀ r ∈ o.l.take i, 0 ≤ r.n) ∧ St w gs W [(g1, 55, outcs o A c)] [] [.dat false [dRs o.l] [.slice A o.l.length c]]) (fun i => [(41, .slice A o.l.length c), (42, .int .i64 (o.l.length : Nat)), (43, .int .i64 i)]) (fun i => o.l.length - i) 0 ⟨Nat.zero_le _, (fun r hr => by rw [List.take_zero] at hr; cases hr), M⟩ (by repeat (first | exact trivial | refine ⟨rfl, ?_⟩)) ?_
    clear M
    rintro i E W ⟨hi, hall, M⟩
    refine p_lt rfl rfl (fun hlt => ?_) (fun hge => ?_)
    rotate_left
    · have hi : i = o.l.length := by have h : ¬ (i : Int) < (o.l.length : Int) := hge; omega
      subst hi
      rw [List.take_of_length_le (Nat.le_refl _)] at hall
      exact ⟨ret_tf (right_split o true (by symm; rw [List.all_eq_true]; exact fun r hr => decide_eq_true (hall r hr)) hok).symm, M.below⟩
    have hlt : i < o.l.length := by have h : (i : Int) < (o.l.length : Int) := hlt; omega
    obtain ⟨r, hri⟩ : ∃ r, o.l[i]? = some r := ⟨_, List.getElem?_eq_getElem hlt⟩
    obtain ⟨b1, o1, Ar, cr, e1, M'⟩ := M.res (M.d1 0 rfl) hri
    replace M := M'; clear M'
    refine p_at (i := i) slrs (by show Value.slice A o.l.length c = _; rw [e1]) rfl rfl hlt ?_
    refine v_loadN (rescs r Ar cr) agg_res rfl rfl (M.lc 0 rfl) ?_
    refine s_alloc (zRes) M al_res ?_
    clear M
    rintro g4 W M
    refine s_storeA 0 (rescs r Ar cr) M rfl sz_res rfl rfl rfl (all1 rfl) rfl ?_
    clear M; rintro W M
    dsimp only [setL] at M
    refine p_fld fR1 rfl ?_
    refine v_load agg_i rfl ((M.B 0 rfl).at_ rfl) ?_
    refine p_lt rfl rfl (fun q7 => ?_) (fun q7 => ?_)
    · refine ⟨ret_tf (right_split o false ?_ hok).symm, M.below⟩
      symm
      rw [← Bool.not_eq_true, List.all_eq_true]
      intro h
      have := of_decide_eq_true (h r (List.mem_of_getElem? hri))
      have q7 : r.n < 0 := q7
      omega
    have q7 : ¬ r.n < 0 := q7
    refine p_addN (b := 1) rfl rfl (by omega) ?_
    refine ⟨i + 1, ⟨by omega, fun x hx => ?_, M.dropL.fsub _ (by simp)⟩, (by repeat (first | exact trivial | refine ⟨rfl, ?_⟩)), by omega⟩
    rw [List.take_add_one, hri, List.mem_append] at hx
    rcases hx with hx | hx
    · exact hall x hx
    · have : x = r := by simpa using hx
      rw [this]; omega
  · have q5' : o.e ≠ 0 := q5
    refine p_fld fO2 rfl ?_
    refine v_load agg_rs rfl ((M.B 0 rfl).at_ rfl) ?_
    refine p_len slrs rfl ?_
    refine p_gt rfl rfl (fun q8 => ?_) (fun q8 => ?_)
    · have q8 : (0 : Int) < (o.l.length : Int) := q8
      refine ⟨ret_tf (right_no o fun h => ?_).symm, M.below⟩
      have := h.2.2.2.2.1 q5'
      rw [this] at q8
      exact absurd q8 (by decide)
    have q5 : o.e ≠ 0 → o.l = [] := fun _ => List.eq_nil_of_length_eq_zero (by have h : ¬ (0 : Int) < (o.l.length : Int) := q8; omega)
    refine p_fld fO2 rfl ?_
    refine v_load agg_rs rfl ((M.B 0 rfl).at_ rfl) ?_
    refine p_len slrs rfl ?_
    refine p_gt rfl rfl (fun q6 => ?_) (fun q6 => ?_)
    · have q6 : (50 : Int) < (o.l.length : Int) := q6
      exact ⟨ret_tf (right_no o (by omega)).symm, M.below⟩
    have q6 : ¬ (50 : Int) < (o.l.length : Int) := q6
    have hok : 0 ≤ o.e ∧ o.e ≤ 999 ∧ 0 ≤ o.at_ ∧ o.at_ ≤ 50 ∧ (o.e ≠ 0 → o.l = []) ∧ o.l.length ≤ 50 := ⟨by omega, by omega, by omega, by omega, q5, by omega⟩
    refine p_fld fO2 rfl ?_
    refine v_load agg_rs rfl ((M.B 0 rfl).at_ rfl) ?_
    refine p_len slrs rfl ?_
    refine lp Nat (fun i W => i ≤ o.l.length ∧ (∀ r ∈ o.l.take i, 0 ≤ r.n) ∧ St w gs W [(g1, 55, outcs o A c)] [] [.dat false [dRs o.l] [.slice A o.l.length c]]) (fun i => [(41, .slice A o.l.length c), (42, .int .i64 (o.l.length : Nat)), (43, .int .i64 i)]) (fun i => o.l.length - i) 0 ⟨Nat.zero_le _, (fun r hr => by rw [List.take_zero] at hr; cases hr), M⟩ (by repeat (first | exact trivial | refine ⟨rfl, ?_⟩)) ?_
    clear M
    rintro i E W ⟨hi, hall, M⟩
    refine p_lt rfl rfl (fun hlt => ?_) (fun hge => ?_)
    rotate_left
    · have hi : i = o.l.length := by have h : ¬ (i : Int) < (o.l.length : Int) := hge; omega
      subst hi
      rw [List.take_of_length_le (Nat.le_refl _)] at hall
      exact ⟨ret_tf (right_split o true (by symm; rw [List.all_eq_true]; exact fun r hr => decide_eq_true (hall r hr)) hok).symm, M.below⟩
    have hlt : i < o.l.length := by have h : (i : Int) < (o.l.length : Int) := hlt; omega
    obtain ⟨r, hri⟩ : ∃ r, o.l[i]? = some r := ⟨_, List.getElem?_eq_getElem hlt⟩
    obtain ⟨b1, o1, Ar, cr, e1, M'⟩ := M.res (M.d1 0 rfl) hri
    replace M := M'; clear M'
    refine p_at (i := i) slrs (by show Value.slice A o.l.length c = _; rw [e1]) rfl rfl hlt ?_
    refine v_loadN (rescs r Ar cr) agg_res rfl rfl (M.lc 0 rfl) ?_
    refine s_alloc (zRes) M al_res ?_
    clear M
    rintro g4 W M
    refine s_storeA 0 (rescs r Ar cr) M rfl sz_res rfl rfl rfl (all1 rfl) rfl ?_
    clear M; rintro W M
    dsimp only [setL] at M
    refine p_fld fR1 rfl ?_
    refine v_load agg_i rfl ((M.B 0 rfl).at_ rfl) ?_
    refine p_lt rfl rfl (fun q7 => ?_) (fun q7 => ?_)
    · refine ⟨ret_tf (right_split o false ?_ hok).symm, M.below⟩
      symm
      rw [← Bool.not_eq_true, List.all_eq_true]
      intro h
      have := of_decide_eq_true (h r (List.mem_of_getElem? hri))
      have q7 : r.n < 0 := q7
      omega
    have q7 : ¬ r.n < 0 := q7
    refine p_addN (b := 1) rfl rfl (by omega) ?_
    refine ⟨i + 1, ⟨by omega, fun x hx => ?_, M.dropL.fsub _ (by simp)⟩, (by repeat (first | exact trivial | refine ⟨rfl, ?_⟩)), by omega⟩
    rw [List.take_add_one, hri, List.mem_append] at hx
    rcases hx with hx | hx
    · exact hall x hx
    · have : x = r := by simpa using hx
      rw [this]; omega
end Go.Proofs.YtejbljopighenaaDoor
namespace Go.Proofs.YtejbljopighenaaDoor
open Go.RowKit
theorem u_i64t : (Tryd.prog.underlying 3).isSome = true := by kernel_rfl
theorem u_u64t : Tryd.prog.underlying 66 = some (.int .u64) := by kernel_rfl
theorem cv64 {x : Int} (h0 : 0 ≤ x) (h : x ≤ 9223372036854775807) : IntKind.u64.wrap x = ((x.toNat : Nat) : Int) := (wu64 ⟨h0, by omega⟩).trans (Int.toNat_of_nonneg h0).symm
theorem cv64N {n : Nat} (h : n ≤ 9223372036854775807) : IntKind.u64.wrap (n : Int) = ((n : Nat) : Int) := wu64 ⟨by omega, by omega⟩
theorem putB_len2 (s : List UInt8) : (putB s).length = (putN s.length).length + s.length := by unfold putB; rw [List.length_append]
theorem resB_len (r : Res) : (resB r).length = (putN r.n.toNat).length + ((putN (manyB r.rows).length).length + (manyB r.rows).length) := by unfold resB; rw [List.length_append, putB_len2]
theorem flat_take_leO {α : Type} (f : α → List UInt8) (l : List α) (i : Nat) : ((l.take i).flatMap f).length ≤ (l.flatMap f).length := by
  have : l.flatMap f = (l.take i).flatMap f ++ (l.drop i).flatMap f := by rw [← List.flatMap_append, List.take_append_drop]
  rw [this, List.length_append]; omega
theorem flat_take_snocO {α : Type} (f : α → List UInt8) {l : List α} {i : Nat} {x : α} (h : l[i]? = some x) : (l.take (i + 1)).flatMap f = (l.take i).flatMap f ++ f x := by
  rw [List.take_add_one, h, List.flatMap_append]; simp
theorem encO_2 {o : Out} (h : okO o = false) : encO o = ([], 2) := by unfold encO; rw [h, if_neg (by decide)]
theorem encO_3 {o : Out} (h : okO o = true) (h2 : 1048576 < (outB o).length) : encO o = ([], 3) := by unfold encO; rw [if_pos h, if_pos h2]
theorem encO_0 {o : Out} (h : okO o = true) (h2 : ¬ 1048576 < (outB o).length) : encO o = (outB o, 0) := by unfold encO; rw [if_pos h, if_neg h2]
def EncG (w : World) (r : List UInt8 × Int) (e : Ending) (w' : World) : Prop := ∃ A n c, e = .returned (.tuple #[.slice A n c, .int .i64 r.2]) ∧ Own w' w.heap.size A n c r.1 ∧ Below w.heap.size w w'
set_option maxRecDepth 100000 in
set_option maxHeartbeats 4000000 in
theorem xEnc_any (o : Out) (gs : List (Option Nat)) (w : World) (cs : List Value) (hr : RdL w (Fd w gs) (dOut o) cs) (hgs : ∀ b, some b ∈ gs → b < w.heap.size) (hf : FitsO o) :
    Calls Tryd.prog 25 #[.agg cs.toArray] w (EncG w (encO o)) := by
  refine calls_ev (args := [.agg cs.toArray]) mixed Tryd.func25 rfl (by kernel_rfl) ?_
  obtain ⟨A, c, rfl, h1⟩ := id hr.out
  have M := ((St.start hgs).addD h1).addL hr
  clear h1 hr
  obtain ⟨hf1, hf2, hf3⟩ := hf
  refine s_box (outcs o A c) M rfl ?_
  clear M
  rintro g1 W M
  refine v_loadN (outcs o A c) agg_out rfl rfl (M.run 0 rfl) ?_
  refine cc is_xright (xright_any o _ _ _ (M.da 0 rfl) M.olt (by omega)) ?_
  rintro e W ⟨rfl, hb⟩
  replace M := M.call hb
  clear hb
  refine ⟨_, rfl, ?_⟩
  refine p_not rfl ?_
  cases hri : rightO o with
  | false =>
    have he := encO_2 (o := o) (by unfold okO; rw [hri]; rfl)
    exact ⟨none, 0, 0, by rw [he]; rfl, by rw [he]; exact World.ownsRow_nil _ _ _ _, M.below⟩
  | true =>
  obtain ⟨⟨q1, q2, q3, q4, q5, q6⟩, q7⟩ : (0 ≤ o.e ∧ o.e ≤ 999 ∧ 0 ≤ o.at_ ∧ o.at_ ≤ 50 ∧ (o.e ≠ 0 → o.l = []) ∧ o.l.length ≤ 50) ∧ ∀ r ∈ o.l, 0 ≤ r.n := by
    have h := hri
    unfold rightO at h
    rw [Bool.and_eq_true, decide_eq_true_eq, List.all_eq_true] at h
    exact ⟨h.1, fun r hr => of_decide_eq_true (h.2 r hr)⟩
  have p1 := putN_len10 (n := o.e.toNat) (by omega)
  have p2 := putN_len10 (n := o.at_.toNat) (by omega)
  have p3 := putN_len10 (n := o.l.length) (by omega)
  have hob : (outB o).length = (hdB o).length + (o.l.flatMap resB).length := by unfold outB; rw [List.length_append]
  refine cutV (Option Addr × Nat) (fun s W => St w gs W [(g1, 55, outcs o A c)] [⟨5, 1, s.1, (putN o.e.toNat).length + (putN o.at_.toNat).length, s.2, bvs (putN o.e.toNat ++ putN o.at_.toNat)⟩] [.dat false [dRs o.l] [.slice A o.l.length c]]) (fun s => [(1, .pointer (some ⟨g1, 0, none⟩)), (4, .slice s.1 ((putN o.e.toNat).length + (putN o.at_.toNat).length) s.2)]) ?_ ?_
  · replace M := M.drew
    refine drT (Kp w gs [(g1, 55, outcs o A c)] []) (.take 0 (.take 1 (.take 2 (.take 4 (.take 5 (.take 6 (.one 3 (.one 7 (.one 8 (.take 9 (.nil))))))))))) (by kernel_rfl) (M.kp (by simp) (by simp)) ?_
    refine p_fld fO0 rfl ?_
    refine t_load agg_i rfl (fun W K => (K.B 0 rfl).at_ rfl) ?_
    refine t_cvt u_i64t u_u64t rfl (cv64 q1 (by omega)) ?_
    refine p_fld fO1 rfl ?_
    refine t_load agg_i rfl (fun W K => (K.B 0 rfl).at_ rfl) ?_
    refine t_cvt u_i64t u_u64t rfl (cv64 q3 (by omega)) ?_
    refine cc is_vput (put_any _ _ p1) ?_
    rintro e W ⟨A3, c3, rfl, o3, hb⟩
    replace M := M.callR (r := ⟨5, 1, A3, (putN o.e.toNat).length, c3, bvs (putN o.e.toNat)⟩) hb o3
    refine ⟨_, rfl, (M.kp (by simp) (by simp)), ?_⟩
    refine cc is_vput (put_any _ _ p2) ?_
    rintro e W ⟨A5, c5, rfl, o5, hb⟩
    replace M := M.callO hb o5
    refine ⟨_, rfl, (M.kp (by simp) (by simp)), ?_⟩
    refine s_appB M rfl rfl (M.rdb 0 rfl).2.2 (by omega) ?_
    clear M; rintro A6 c6 W M -
    refine ⟨(M.kp (by simp) (by simp)), ?_⟩
    exact ⟨(A6, c6), M.fsub _ (by simp), (by repeat (first | exact trivial | refine ⟨rfl, ?_⟩))⟩
  clear M
  rintro ⟨A4, c4⟩ E W M
  dsimp only at M
  refine p_fld fO2 rfl ?_
  refine v_load agg_rs rfl ((M.B 0 rfl).at_ rfl) ?_
  refine p_len slrs rfl ?_
  refine v_cvt u_i64t u_u64t rfl (cv64N (by omega)) ?_
  refine cc is_vput (put_any _ _ p3) ?_
  rintro e W ⟨A5, c5, rfl, o5, hb⟩
  replace M := M.callO hb o5
  clear o5 hb
  refine ⟨_, rfl, ?_⟩
  refine s_appB M rfl rfl (M.rdb 0 rfl).2.2 (by omega) ?_
  clear M; rintro A6 c6 W M -
  have eH : putN o.e.toNat ++ putN o.at_.toNat ++ putN o.l.length = hdB o := rfl
  have eHl : (putN o.e.toNat).length + (putN o.at_.toNat).length + (putN o.l.length).length = (hdB o).length := by unfold hdB; simp only [List.length_append]
  rw [eH, eHl] at M
  rw [eHl]
  refine p_fld fO2 rfl ?_
  refine v_load agg_rs rfl ((M.B 0 rfl).at_ rfl) ?_
  refine p_len slrs rfl ?_
  refine lp (Nat × Bool × List UInt8 × Option Addr × Nat) (fun s W => s.1 ≤ o.l.length ∧ (∀ r ∈ o.l.take s.1, manyE r.rows = 0) ∧ (s.2.1 = true → 1048576 < s.2.2.1.length) ∧ s.2.2.1 = hdB o ++ (o.l.take s.1).flatMap resB ∧ St w gs W [(g1, 55, outcs o A c)] [⟨5, 1, s.2.2.2.1, s.2.2.1.length, s.2.2.2.2, bvs s.2.2.1⟩] [.dat false [dRs o.l] [.slice A o.l.length c]])
    (fun s => [(1, .pointer (some ⟨g1, 0, none⟩)), (4, .slice s.2.2.2.1 s.2.2.1.length s.2.2.2.2), (5, .bool s.2.1), (30, .slice A o.l.length c), (31, .int .i64 (o.l.length : Nat)), (32, .int .i64 s.1)]) (fun s => o.l.length - s.1) (0, false, hdB o, A6, c6) ⟨Nat.zero_le _, (fun r hr => by rw [List.take_zero] at hr; cases hr), (fun h => by cases h), (by dsimp only; rw [List.take_zero, List.flatMap_nil, List.append_nil]), M.fsub _ (by simp)⟩ (by repeat (first | exact trivial | refine ⟨rfl, ?_⟩)) ?_
  clear M
  rintro ⟨i, lg, P, A4, c4⟩ E W ⟨hi, hall, hlg, hP, M⟩
  dsimp only at hi hall hlg hP M
  have hPl : P.length ≤ (outB o).length := by rw [hP, List.length_append, hob]; have := flat_take_leO resB o.l i; omega
  refine p_lt rfl rfl (fun hlt => ?_) (fun hge => ?_)
  rotate_left
  · have hi : i = o.l.length := by have h : ¬ (i : Int) < (o.l.length : Int) := hge; omega
    subst hi
    rw [List.take_of_length_le (Nat.le_refl _)] at hall hP
    have hok : okO o = true := okO_iff.2 ⟨⟨q1, q2, q3, q4, q5, q6⟩, fun r hr => ⟨q7 r hr, hall r hr⟩⟩
    have hPo : P = outB o := hP
    cases lg with
    | true =>
      have hbig := hlg rfl
      have he := encO_3 hok (by rw [← hPo]; exact hbig)
      exact ⟨none, 0, 0, by rw [he]; rfl, by rw [he]; exact World.ownsRow_nil _ _ _ _, M.below⟩
    | false =>
    refine p_len slb rfl ?_
    refine p_gt rfl rfl (fun hbig => ?_) (fun hbig => ?_)
    · have hbig : 1048576 < P.length := by have h : (1048576 : Int) < (P.length : Int) := hbig; omega
      have he := encO_3 hok (by rw [← hPo]; exact hbig)
      exact ⟨none, 0, 0, by rw [he]; rfl, by rw [he]; exact World.ownsRow_nil _ _ _ _, M.below⟩
    · have hbig : ¬ 1048576 < P.length := by have h : ¬ (1048576 : Int) < (P.length : Int) := hbig; omega
      have he := encO_0 hok (by rw [← hPo]; exact hbig)
      exact ⟨A4, P.length, c4, by rw [he]; rfl, by rw [he, ← hPo]; exact M.row _ (List.mem_cons_self ..), M.below⟩
  have hlt : i < o.l.length := by have h : (i : Int) < (o.l.length : Int) := hlt; omega
  obtain ⟨r, hri⟩ : ∃ r, o.l[i]? = some r := ⟨_, List.getElem?_eq_getElem hlt⟩
  obtain ⟨hfr, hrn⟩ := hf1 r (List.mem_of_getElem? hri)
  have hr0 := q7 r (List.mem_of_getElem? hri)
  have hs := flat_take_snocO resB hri
  have hs2 := flat_take_leO resB o.l (i + 1)
  have hrl := resB_len r
  rw [hs, List.length_append] at hs2
  have hPn : P ++ resB r = hdB o ++ (o.l.take (i + 1)).flatMap resB := by rw [hP, hs, List.append_assoc]
  have hPl2 : P.length = (hdB o).length + ((o.l.take i).flatMap resB).length := by rw [hP, List.length_append]
  obtain ⟨b1, o1, Ar, cr, rfl, M'⟩ := M.res (M.d1 0 rfl) hri
  replace M := M'; clear M'
  refine p_at (i := i) slrs rfl rfl rfl hlt ?_
  refine v_loadN (rescs r Ar cr) agg_res rfl rfl (M.lc 0 rfl) ?_
  refine s_alloc (zRes) M al_res ?_
  clear M
  rintro g7 W M
  refine s_storeA 0 (rescs r Ar cr) M rfl sz_res rfl rfl rfl (all1 rfl) rfl ?_
  clear M; rintro W M
  dsimp only [setL] at M
  refine p_fld fR0 rfl ?_
  refine v_load agg_vvs rfl ((M.B 0 rfl).at_ rfl) ?_
  obtain ⟨-, -, hrv⟩ := RdD.rowsV (M.d1 1 rfl) Fd.lt
  refine cc is_many (many_any _ _ _ r.rows _ hrv hfr) ?_
  clear hrv
  rintro e W ⟨A8, n8, c8, rfl, o8, hb⟩
  have en8 := o8.len
  replace M := M.callO hb o8
  clear o8 hb
  refine ⟨_, rfl, ?_⟩
  refine p_ne rfl rfl (fun hm => ?_) (fun hm => ?_)
  rotate_left
  · have hm : ¬ manyE r.rows = 0 := hm
    have he := encO_2 (o := o) (by
      rw [← Bool.not_eq_true]
      intro h
      exact hm ((okO_iff.1 h).2 r (List.mem_of_getElem? hri)).2)
    exact ⟨none, 0, 0, by rw [he]; rfl, by rw [he]; exact World.ownsRow_nil _ _ _ _, M.below⟩
  have hm : manyE r.rows = 0 := hm
  have hrl10 := putN_len10 (n := r.n.toNat) (by omega)
  have hbl : (manyB r.rows).length ≤ 900000000 := by omega
  have hq8 := putN_len10 (n := n8) (by omega)
  cases lg with
  | true =>
    have hbig := hlg rfl
    refine p_fld fR1 rfl ?_
    refine v_load agg_i rfl ((M.B 0 rfl).at_ rfl) ?_
    refine v_cvt u_i64t u_u64t rfl (cv64 hr0 hrn) ?_
    refine cc is_vput (put_any _ _ hrl10) ?_
    rintro e W ⟨A9, c9, rfl, o9, hb⟩
    replace M := M.callO hb o9
    clear o9 hb
    refine ⟨_, rfl, ?_⟩
    refine s_appB M rfl rfl (M.rdb 0 rfl).2.2 (by omega) ?_
    clear M; rintro A11 c11 W M -
    refine cc is_vputB (putBytes_any _ _ _ _ _ (M.rdb 1 rfl).2.2 (by omega)) ?_
    rintro e W ⟨A12, c12, rfl, o12, hb⟩
    replace M := M.callO hb o12
    clear o12 hb
    refine ⟨_, rfl, ?_⟩
    refine s_appB M rfl rfl (M.rdb 0 rfl).2.2 (by omega) ?_
    clear M; rintro A13 c13 W M -
    refine p_addN (b := 1) rfl rfl (by omega) ?_
    have e2 : P ++ putN r.n.toNat ++ putB (manyB r.rows) = P ++ resB r := by rw [List.append_assoc]; rfl
    have e3 : P.length + (putN r.n.toNat).length + ((putN n8).length + n8) = (P ++ resB r).length := by rw [List.length_append, hrl, en8]; omega
    rw [e2, e3] at M
    refine ⟨(i + 1, true, P ++ resB r, A13, c13), ⟨by dsimp only; omega, fun x hx => ?_, fun h => ?_, hPn, M.dropL.fsub _ (by simp)⟩, ?_, by dsimp only; omega⟩
    · rw [List.take_add_one, hri, List.mem_append] at hx
      rcases hx with hx | hx
      · exact hall x hx
      · have : x = r := by simpa using hx
        rw [this]; exact hm
    · (have := hPl2; dsimp only; rw [List.length_append]; omega)
    · refine ⟨rfl, ?_, rfl, rfl, rfl, rfl, trivial⟩
      dsimp only
      rw [← e3]
      rfl
  | false =>
  refine p_len slb rfl ?_
  refine p_gt rfl rfl (fun hbig => ?_) (fun hbig => ?_)
  · have hbig : 1048576 < n8 := by have h : (1048576 : Int) < (n8 : Int) := hbig; omega
    refine p_fld fR1 rfl ?_
    refine v_load agg_i rfl ((M.B 0 rfl).at_ rfl) ?_
    refine v_cvt u_i64t u_u64t rfl (cv64 hr0 hrn) ?_
    refine cc is_vput (put_any _ _ hrl10) ?_
    rintro e W ⟨A9, c9, rfl, o9, hb⟩
    replace M := M.callO hb o9
    clear o9 hb
    refine ⟨_, rfl, ?_⟩
    refine s_appB M rfl rfl (M.rdb 0 rfl).2.2 (by omega) ?_
    clear M; rintro A11 c11 W M -
    refine cc is_vputB (putBytes_any _ _ _ _ _ (M.rdb 1 rfl).2.2 (by omega)) ?_
    rintro e W ⟨A12, c12, rfl, o12, hb⟩
    replace M := M.callO hb o12
    clear o12 hb
    refine ⟨_, rfl, ?_⟩
    refine s_appB M rfl rfl (M.rdb 0 rfl).2.2 (by omega) ?_
    clear M; rintro A13 c13 W M -
    refine p_addN (b := 1) rfl rfl (by omega) ?_
    have e2 : P ++ putN r.n.toNat ++ putB (manyB r.rows) = P ++ resB r := by rw [List.append_assoc]; rfl
    have e3 : P.length + (putN r.n.toNat).length + ((putN n8).length + n8) = (P ++ resB r).length := by rw [List.length_append, hrl, en8]; omega
    rw [e2, e3] at M
    refine ⟨(i + 1, true, P ++ resB r, A13, c13), ⟨by dsimp only; omega, fun x hx => ?_, fun h => ?_, hPn, M.dropL.fsub _ (by simp)⟩, ?_, by dsimp only; omega⟩
    · rw [List.take_add_one, hri, List.mem_append] at hx
      rcases hx with hx | hx
      · exact hall x hx
      · have : x = r := by simpa using hx
        rw [this]; exact hm
    · (have := hPl2; dsimp only; rw [List.length_append]; omega)
    · refine ⟨rfl, ?_, rfl, rfl, rfl, rfl, trivial⟩
      dsimp only
      rw [← e3]
      rfl
  ·
    refine p_fld fR1 rfl ?_
    refine v_load agg_i rfl ((M.B 0 rfl).at_ rfl) ?_
    refine v_cvt u_i64t u_u64t rfl (cv64 hr0 hrn) ?_
    refine cc is_vput (put_any _ _ hrl10) ?_
    rintro e W ⟨A9, c9, rfl, o9, hb⟩
    replace M := M.callO hb o9
    clear o9 hb
    refine ⟨_, rfl, ?_⟩
    refine s_appB M rfl rfl (M.rdb 0 rfl).2.2 (by omega) ?_
    clear M; rintro A11 c11 W M -
    refine cc is_vputB (putBytes_any _ _ _ _ _ (M.rdb 1 rfl).2.2 (by omega)) ?_
    rintro e W ⟨A12, c12, rfl, o12, hb⟩
    replace M := M.callO hb o12
    clear o12 hb
    refine ⟨_, rfl, ?_⟩
    refine s_appB M rfl rfl (M.rdb 0 rfl).2.2 (by omega) ?_
    clear M; rintro A13 c13 W M -
    refine p_addN (b := 1) rfl rfl (by omega) ?_
    have e2 : P ++ putN r.n.toNat ++ putB (manyB r.rows) = P ++ resB r := by rw [List.append_assoc]; rfl
    have e3 : P.length + (putN r.n.toNat).length + ((putN n8).length + n8) = (P ++ resB r).length := by rw [List.length_append, hrl, en8]; omega
    rw [e2, e3] at M
    refine ⟨(i + 1, false, P ++ resB r, A13, c13), ⟨by dsimp only; omega, fun x hx => ?_, fun h => ?_, hPn, M.dropL.fsub _ (by simp)⟩, ?_, by dsimp only; omega⟩
    · rw [List.take_add_one, hri, List.mem_append] at hx
      rcases hx with hx | hx
      · exact hall x hx
      · have : x = r := by simpa using hx
        rw [this]; exact hm
    · (cases h)
    · refine ⟨rfl, ?_, rfl, rfl, rfl, rfl, trivial⟩
      dsimp only
      rw [← e3]
      rfl
end Go.Proofs.YtejbljopighenaaDoor
