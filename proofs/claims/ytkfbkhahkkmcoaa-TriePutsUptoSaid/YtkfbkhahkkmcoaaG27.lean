/- A node, a pair, and rows of them, that came in, opened. No walk here. The walks of the laws TrieGets and TriePuts. -/
import Derived.Test.YtkfbkhahkkmcoaaG26
import Derived.Test.YtkfbkhahkkmcoaaG13
import Derived.Test.YtkfbkhahkkmcoaaG22
namespace Go.Proofs.Ytkfbkhahkkmcoaa
open Go.ChangeShapes Go.WideShapes Go.ChangeAt Go.RowKit
section
variable {H : Type} {enc : TypeId × Value → H} {W : World}
theorem rdD_elts {α : Type} (dE : α → List D) (s : Nat) (hd : ∀ a, (dE a).length = s) {P : Nat → α → Prop} {F : Nat → Prop} {b off : Nat} : ∀ (n : Nat), (∀ i, i < n → ∃ a es, P i a ∧ RdL W F (dE a) es ∧ ∀ j u, es[j]? = some u → W.cell? ⟨b, off + i * s + j, none⟩ = some u) →
    ∃ (l : List α) (cs : List Value), l.length = n ∧ (∀ i a, l[i]? = some a → P i a) ∧ RdL W F (l.flatMap dE) cs ∧ ∀ j u, cs[j]? = some u → W.cell? ⟨b, off + j, none⟩ = some u
  | 0, _ => ⟨[], [], rfl, (fun i a h => by simp at h), RdL.nil_, fun j u h => by simp at h⟩
  | n + 1, h => by
    obtain ⟨l, cs, h1, h2, h3, h4⟩ := rdD_elts dE s hd n (fun i hi => h i (by omega))
    obtain ⟨a, es, k1, k2, k3⟩ := h n (by omega)
    have hl : cs.length = n * s := by
      rw [h3.len, ← h1]
      clear h1 h2 h3 h4
      induction l with
      | nil => simp
      | cons x l ih => rw [List.flatMap_cons, List.length_append, ih, hd, List.length_cons, Nat.succ_mul]; omega
    refine ⟨l ++ [a], cs ++ es, by simp [h1], fun i x hx => ?_, by rw [List.flatMap_append]; simp only [List.flatMap_cons, List.flatMap_nil, List.append_nil]; exact h3.app k2, fun j u hu => ?_⟩
    · by_cases hi : i < n
      · rw [List.getElem?_append_left (by omega)] at hx; exact h2 i x hx
      · have hin : i = n := by
          have := (List.getElem?_eq_some_iff.1 hx).1
          simp [h1] at this; omega
        subst hin
        rw [List.getElem?_append_right (by omega), h1, Nat.sub_self] at hx
        simp at hx
        subst hx
        exact k1
    · by_cases hj : j < n * s
      · rw [List.getElem?_append_left (by omega)] at hu; exact h4 j u hu
      · rw [List.getElem?_append_right (by omega), hl] at hu
        have := k3 _ u hu
        rw [show off + n * s + (j - n * s) = off + j by omega] at this
        exact this
/-- A row whose elements read as data. -/
theorem trod_elts {α : Type} (dE : α → List D) (s : Nat) (hd : ∀ a, (dE a).length = s) (hs : 0 < s) {P : DataW H → α → Prop} {ts te : TypeId} (hT : Try.prog.underlying ts = some (.slice te)) (hc : Program.cellsOf Try.prog te = s) {fuel : Nat} {cs : List Value} {x : DataW H × List MemPlace}
    (hf : DataW.trod enc Try.prog W 0 (fun _ => true) true fuel ts cs = some x) (hlt : ∀ q ∈ x.2, q.block < W.heap.size)
    (he : ∀ m cs' y, m < fuel → DataW.trod enc Try.prog W 0 (fun _ => true) true m te cs' = some y → (∀ q ∈ y.2, q.block < W.heap.size) → ∃ a, P y.1 a ∧ RdL W (Fd W []) (dE a) cs') :
    ∃ (A : Option Addr) (n c : Nat) (l : List α) (ds rest : List (DataW H)), cs = [.slice A n c] ∧ (x.1 = .slice ds rest ∨ (x.1 = .nil ∧ ds = [])) ∧ l.length = n ∧ l.length = ds.length ∧ (∀ (i : Nat) (a : α) (d : DataW H), l[i]? = some a → ds[i]? = some d → P d a) ∧ RdD W (Fd W []) (.sl s n (l.flatMap dE)) (.slice A n c) := by
  rcases DataW.trod_slice hT hf with ⟨hcs, hx⟩ | ⟨a, l, c, elems, rest, m, hm0, hcs, hx, _, hl, hm, hlen, hel, _⟩
  · subst hx
    exact ⟨none, 0, 0, [], [], [], hcs, .inr ⟨rfl, rfl⟩, rfl, rfl, (fun i a d h => by cases h), RdD.nil_ _ _⟩
  · subst hx
    dsimp only at hlt ⊢
    have each : ∀ i, i < l → ∃ (u : α) (es : List Value), (∀ y, elems[i]? = some y → P y.1 u) ∧ RdL W (Fd W []) (dE u) es ∧ es.length = s ∧ ∀ j, j < s → W.cell? ((a.add (i * s)).add j) = es[j]? := by
      intro i hi
      have hE := hel i hi
      rw [hc, List.getElem?_eq_getElem (by omega), Option.bind_eq_some_iff] at hE
      obtain ⟨cs', hcs', hy⟩ := hE
      obtain ⟨u, h1, h2⟩ := he m cs' _ (by omega) hy (fun q hq => hlt q (List.mem_append_right _ (List.mem_flatMap.2 ⟨elems[i]'(by omega), List.mem_append_left _ (List.getElem_mem _), hq⟩)))
      obtain ⟨_, hc1, hc2⟩ := World.cells?_some hcs'
      have hcl : cs'.length = s := by rw [h2.len, hd]
      refine ⟨u, cs', fun y hy2 => ?_, h2, hcl, fun j hj => ?_⟩
      · rw [List.getElem?_eq_getElem (by omega)] at hy2
        injection hy2 with hy2
        subst hy2
        exact h1
      · exact hc2 j (by omega)
    by_cases h0 : l = 0
    · subst h0
      refine ⟨some a, 0, c, [], [], rest.map (·.1), hcs, .inl ?_, rfl, rfl, (fun i a d h => by cases h), RdD.nil_ _ _⟩
      rw [List.eq_nil_of_length_eq_zero hlen]; rfl
    · obtain ⟨b, off, spot⟩ := a
      obtain ⟨u0, es0, _, k2, k3, k4⟩ := each 0 (by omega)
      have hspot : spot = none := by
        have := k4 0 hs
        rw [List.getElem?_eq_getElem (by omega)] at this
        simpa [Addr.add] using World.cell?_spot this
      subst hspot
      have hbW : b < W.heap.size := hlt (.cell b off) (List.mem_append_left _ (MemPlace.mem_row.2 ⟨0, by rw [hc, hlen]; exact Nat.mul_pos (by omega) hs, by simp⟩))
      obtain ⟨ul, us, e1, e2, e3, e4⟩ := rdD_elts (P := fun i u => ∀ y, elems[i]? = some y → P y.1 u) (F := Fd W []) (b := b) (off := off) dE s hd l (fun i hi => by
        obtain ⟨u, es, f1, f2, f3, f4⟩ := each i hi
        refine ⟨u, es, f1, f2, fun j v hv => ?_⟩
        have := f4 j (by have := (List.getElem?_eq_some_iff.1 hv).1; omega)
        rw [Addr.add_lit, Addr.add_lit, hv] at this
        exact this)
      refine ⟨some ⟨b, off, none⟩, l, c, ul, elems.map (·.1), rest.map (·.1), hcs, .inl rfl, e1, by simp [e1, hlen], fun i u d h1 h2 => ?_, ?_⟩
      · rw [List.getElem?_map] at h2
        obtain ⟨y, hy, rfl⟩ := Option.map_eq_some_iff.1 h2
        exact e2 i u h1 y hy
      · refine RdD.sl_iff.2 ⟨_, c, us, rfl, hl, ?_, e3, fun _ => ⟨b, off, rfl, ⟨hbW, by simp⟩, e4⟩⟩
        rw [← e1]
        clear e1 e2 e3 e4
        induction ul with
        | nil => simp
        | cons x ul ih => rw [List.flatMap_cons, List.length_append, ih, hd, List.length_cons, Nat.succ_mul]; omega
theorem bulk_sums {α : Type} (f : α → Nat) : ∀ (ll : List α) (ds : List (DataW H)), ll.length = ds.length → (∀ (i : Nat) (l : α) (d : DataW H), ll[i]? = some l → ds[i]? = some d → f l ≤ Rows.uptoBulk d) → (ll.map f).sum ≤ Rows.uptoBulkAll ds
  | [], ds, h, _ => Nat.zero_le _
  | l :: ll, [], h, _ => by simp at h
  | l :: ll, d :: ds, h, k => by
    have h0 := k 0 l d rfl rfl
    have := bulk_sums f ll ds (by simpa using h) (fun i l' d' h1 h2 => k (i + 1) l' d' (by simpa using h1) (by simpa using h2))
    show _ ≤ Rows.uptoBulk d + Rows.uptoBulkAll ds
    rw [List.map_cons, List.sum_cons]; omega
set_option maxRecDepth 100000 in
theorem bytes_trod {fuel : Nat} {cs : List Value} {x : DataW H × List MemPlace} (hf : DataW.trod enc Try.prog W 0 (fun _ => true) true fuel 22 cs = some x) (hlt : ∀ q ∈ x.2, q.block < W.heap.size) :
    ∃ l u, cs = [u] ∧ RdD W (Fd W []) (dB l) u ∧ l.length + 1 ≤ Rows.uptoBulk x.1 := by
  obtain ⟨A, n, c, l, rfl, hr, hc, _, hb, _⟩ := rd_trod (d := x.1) (p := x.2) hf hlt
  exact ⟨l, _, rfl, RdD.ofbytes hr hc (fun b off _ h => ⟨h, by simp⟩), hb⟩
theorem list6 {α : Type} {l : List α} (h : l.length = 6) : ∃ a b c d e f, l = [a, b, c, d, e, f] := by
  match l, h with
  | [a, b, c, d, e, f], _ => exact ⟨a, b, c, d, e, f, rfl⟩
theorem c1int : Program.cellsOf Try.prog 3 = 1 := by kernel_rfl
theorem c1bool : Program.cellsOf Try.prog 4 = 1 := by kernel_rfl
theorem c1bytes : Program.cellsOf Try.prog 22 = 1 := by kernel_rfl
theorem c1nodes : Program.cellsOf Try.prog 23 = 1 := by kernel_rfl
theorem c6node : Program.cellsOf Try.prog 25 = 6 := by kernel_rfl
theorem dNs_flat : ∀ ks : List Nd, dNs ks = ks.flatMap dN
  | [] => rfl
  | t :: ts => by rw [dNs, List.flatMap_cons, dNs_flat ts]
theorem szs_sum : ∀ ks : List Nd, szs ks = (ks.map sz).sum
  | [] => rfl
  | t :: ts => by rw [szs, List.map_cons, List.sum_cons, szs_sum ts]
set_option maxRecDepth 100000 in
theorem node_trod : ∀ (fuel : Nat) (cs : List Value) (x : DataW H × List MemPlace), DataW.trod enc Try.prog W 0 (fun _ => true) true fuel 25 cs = some x → (∀ q ∈ x.2, q.block < W.heap.size) →
    ∃ t, sz t ≤ Rows.uptoBulk x.1 ∧ RdL W (Fd W []) (dN t) cs := by
  intro fuel
  induction fuel using Nat.strongRecOn with
  | ind fuel ih =>
  intro cs x hf hlt
  obtain ⟨xs, n, rfl, rfl, hl, hlen, hfs⟩ := DataW.trod_struct Try.underlying25 hf
  rw [c6node] at hl
  obtain ⟨a0, a1, a2, a3, a4, a5, rfl⟩ := list6 hl
  obtain ⟨y0, y1, y2, y3, y4, y5, rfl⟩ := list6 (show xs.length = 6 from hlen)
  have h0 : DataW.trod enc Try.prog W 0 (fun _ => true) true n 3 [a0] = some y0 := by have := (show DataW.trod enc Try.prog W 0 (fun _ => true) true n 3 (([a0, a1, a2, a3, a4, a5].drop 0).take (Program.cellsOf Try.prog 3)) = some y0 from hfs 0 _ rfl); rw [c1int] at this; exact this
  have h1 : DataW.trod enc Try.prog W 0 (fun _ => true) true n 22 [a1] = some y1 := by have := (show DataW.trod enc Try.prog W 0 (fun _ => true) true n 22 (([a0, a1, a2, a3, a4, a5].drop 1).take (Program.cellsOf Try.prog 22)) = some y1 from hfs 1 _ rfl); rw [c1bytes] at this; exact this
  have h2 : DataW.trod enc Try.prog W 0 (fun _ => true) true n 4 [a2] = some y2 := by have := (show DataW.trod enc Try.prog W 0 (fun _ => true) true n 4 (([a0, a1, a2, a3, a4, a5].drop 2).take (Program.cellsOf Try.prog 4)) = some y2 from hfs 2 _ rfl); rw [c1bool] at this; exact this
  have h3 : DataW.trod enc Try.prog W 0 (fun _ => true) true n 22 [a3] = some y3 := by have := (show DataW.trod enc Try.prog W 0 (fun _ => true) true n 22 (([a0, a1, a2, a3, a4, a5].drop 3).take (Program.cellsOf Try.prog 22)) = some y3 from hfs 3 _ rfl); rw [c1bytes] at this; exact this
  have h4 : DataW.trod enc Try.prog W 0 (fun _ => true) true n 23 [a4] = some y4 := by have := (show DataW.trod enc Try.prog W 0 (fun _ => true) true n 23 (([a0, a1, a2, a3, a4, a5].drop 4).take (Program.cellsOf Try.prog 23)) = some y4 from hfs 4 _ rfl); rw [c1nodes] at this; exact this
  have h5 : DataW.trod enc Try.prog W 0 (fun _ => true) true n 22 [a5] = some y5 := by have := (show DataW.trod enc Try.prog W 0 (fun _ => true) true n 22 (([a0, a1, a2, a3, a4, a5].drop 5).take (Program.cellsOf Try.prog 22)) = some y5 from hfs 5 _ rfl); rw [c1bytes] at this; exact this
  have hq : ∀ y ∈ [y0, y1, y2, y3, y4, y5], ∀ q ∈ y.2, q.block < W.heap.size := fun y hy q hq => hlt q (List.mem_flatMap.2 ⟨y, hy, hq⟩)
  obtain ⟨k, e0, rfl, _⟩ := DataW.trod_int Try.underlying3 h0
  obtain ⟨hs, e2, rfl⟩ := DataW.trod_bool Try.underlying4 h2
  obtain ⟨p, u1, e1, r1, b1⟩ := bytes_trod h1 (hq y1 (by simp))
  obtain ⟨v, u3, e3, r3, b3⟩ := bytes_trod h3 (hq y3 (by simp))
  obtain ⟨h, u5, e5, r5, b5⟩ := bytes_trod h5 (hq y5 (by simp))
  obtain ⟨A, m, c, ks, ds, rest, e4, hd4, l1, l2, hP, r4⟩ := trod_elts dN 6 dN_len (by decide) (P := fun d t => sz t ≤ Rows.uptoBulk d) Try.underlying23 c6node h4 (hq y4 (by simp)) (fun m cs' y hm hy hyq => ih m (by omega) cs' y hy hyq)
  injection e0 with e0
  injection e1 with e1
  injection e2 with e2
  injection e3 with e3
  injection e4 with e4
  injection e5 with e5
  subst e0; subst e1; subst e2; subst e3; subst e4; subst e5
  have hks := bulk_sums sz ks ds l2 (fun i l d a b => hP i l d a b)
  rw [← szs_sum] at hks
  have b4 : szs ks + 1 ≤ Rows.uptoBulk y4.1 := by
    rcases hd4 with h | ⟨h, e⟩
    · rw [h]
      show _ ≤ Rows.uptoBulkAll ds + Rows.uptoBulkAll rest + 1
      omega
    · rw [h]
      rw [e] at hks
      have : Rows.uptoBulkAll ([] : List (DataW H)) = 0 := rfl
      show _ ≤ 1
      omega
  refine ⟨.mk k p hs v ks h, ?_, ?_⟩
  · rw [sz]
    show _ ≤ 1 + (Rows.uptoBulk y1.1 + (1 + (Rows.uptoBulk y3.1 + (Rows.uptoBulk y4.1 + (Rows.uptoBulk y5.1 + 0))))) + 1
    omega
  · rw [dN]
    rw [← l1, ← dNs_flat] at r4
    rw [← l1]
    exact RdL.cons (RdD.ofv _) (RdL.cons r1 (RdL.cons (RdD.ofv _) (RdL.cons r3 (RdL.cons r4 (RdL.cons r5 RdL.nil_)))))
set_option maxRecDepth 100000 in
/-- Bytes that came in, as data. -/
theorem by_open {base : Nat} {v : Value} {d : DataW H} {p : List MemPlace} (hv : Value.okWide Try.prog W .any base 22 v)
    (h : DataW.Trod enc Try.prog W 0 (fun _ => true) true 22 v d p) : ∃ A n c l, v = .slice A n c ∧ RdD W (Fd W []) (dB l) (.slice A n c) ∧ l.length + 1 ≤ Rows.uptoBulk d := by
  obtain ⟨a0, len, cap, rfl⟩ := okWide_slice Try.underlying22 hv
  have hlt : ∀ x ∈ p, x.block < W.heap.size := by obtain ⟨m, hm⟩ := h; exact DataW.trod_lt m _ _ _ hm
  obtain ⟨fuel, hf⟩ := h
  obtain ⟨l, u, hu, hr, hb⟩ := bytes_trod (x := (d, p)) hf hlt
  simp [Value.cells] at hu
  subst hu
  exact ⟨_, _, _, l, rfl, hr, hb⟩
set_option maxRecDepth 100000 in
/-- A node that came in. -/
theorem nd_open {base : Nat} {v : Value} {d : DataW H} {p : List MemPlace} (hv : Value.okWide Try.prog W .any base 25 v)
    (h : DataW.Trod enc Try.prog W 0 (fun _ => true) true 25 v d p) : ∃ t cs, v = .agg cs.toArray ∧ RdL W (Fd W []) (dN t) cs ∧ sz t ≤ Rows.uptoBulk d := by
  obtain ⟨cs, rfl, _⟩ := okWide_struct Try.underlying25 hv
  have hlt : ∀ x ∈ p, x.block < W.heap.size := by obtain ⟨m, hm⟩ := h; exact DataW.trod_lt m _ _ _ hm
  obtain ⟨fuel, hf⟩ := h
  obtain ⟨t, h1, h2⟩ := node_trod fuel cs.toList (d, p) hf hlt
  exact ⟨t, cs.toList, by simp, h2, h1⟩
theorem list2 {α : Type} {l : List α} (h : l.length = 2) : ∃ a b, l = [a, b] := by
  match l, h with
  | [a, b], _ => exact ⟨a, b, rfl⟩
theorem c2pair : Program.cellsOf Try.prog 43 = 2 := by kernel_rfl
set_option maxRecDepth 100000 in
theorem pair_trod (fuel : Nat) (cs : List Value) (x : DataW H × List MemPlace) (hf : DataW.trod enc Try.prog W 0 (fun _ => true) true fuel 43 cs = some x) (hlt : ∀ q ∈ x.2, q.block < W.heap.size) :
    ∃ t : Pr, t.k.length + t.v.length + 3 ≤ Rows.uptoBulk x.1 ∧ RdL W (Fd W []) (dPr t) cs := by
  obtain ⟨xs, n, rfl, rfl, hl, hlen, hfs⟩ := DataW.trod_struct Try.underlying43 hf
  rw [c2pair] at hl
  obtain ⟨a0, a1, rfl⟩ := list2 hl
  obtain ⟨y0, y1, rfl⟩ := list2 (show xs.length = 2 from hlen)
  have h0 : DataW.trod enc Try.prog W 0 (fun _ => true) true n 22 [a0] = some y0 := by have := (show DataW.trod enc Try.prog W 0 (fun _ => true) true n 22 (([a0, a1].drop 0).take (Program.cellsOf Try.prog 22)) = some y0 from hfs 0 _ rfl); rw [c1bytes] at this; exact this
  have h1 : DataW.trod enc Try.prog W 0 (fun _ => true) true n 22 [a1] = some y1 := by have := (show DataW.trod enc Try.prog W 0 (fun _ => true) true n 22 (([a0, a1].drop 1).take (Program.cellsOf Try.prog 22)) = some y1 from hfs 1 _ rfl); rw [c1bytes] at this; exact this
  have hq : ∀ y ∈ [y0, y1], ∀ q ∈ y.2, q.block < W.heap.size := fun y hy q hq => hlt q (List.mem_flatMap.2 ⟨y, hy, hq⟩)
  obtain ⟨k, u0, e0, r0, b0⟩ := bytes_trod h0 (hq y0 (by simp))
  obtain ⟨v, u1, e1, r1, b1⟩ := bytes_trod h1 (hq y1 (by simp))
  injection e0 with e0
  injection e1 with e1
  subst e0; subst e1
  refine ⟨⟨k, v⟩, ?_, RdL.cons r0 (RdL.cons r1 RdL.nil_)⟩
  show k.length + v.length + 3 ≤ Rows.uptoBulk y0.1 + (Rows.uptoBulk y1.1 + 0) + 1
  omega
set_option maxRecDepth 100000 in
/-- A pair that came in. -/
theorem pr_open {base : Nat} {v : Value} {d : DataW H} {p : List MemPlace} (hv : Value.okWide Try.prog W .any base 43 v)
    (h : DataW.Trod enc Try.prog W 0 (fun _ => true) true 43 v d p) : ∃ (t : Pr) (cs : List Value), v = .agg cs.toArray ∧ RdL W (Fd W []) (dPr t) cs ∧ t.k.length + t.v.length + 3 ≤ Rows.uptoBulk d := by
  obtain ⟨cs, rfl, _⟩ := okWide_struct Try.underlying43 hv
  have hlt : ∀ x ∈ p, x.block < W.heap.size := by obtain ⟨m, hm⟩ := h; exact DataW.trod_lt m _ _ _ hm
  obtain ⟨fuel, hf⟩ := h
  obtain ⟨t, h1, h2⟩ := pair_trod fuel cs.toList (d, p) hf hlt
  exact ⟨t, cs.toList, by simp, h2, h1⟩
set_option maxRecDepth 100000 in
/-- A row of pairs that came in. -/
theorem prs_open {base : Nat} {v : Value} {d : DataW H} {p : List MemPlace} (hv : Value.okWide Try.prog W .any base 28 v)
    (h : DataW.Trod enc Try.prog W 0 (fun _ => true) true 28 v d p) : ∃ A n c l, v = .slice A n c ∧ RdD W (Fd W []) (dPl l) (.slice A n c) ∧ (l.map fun t => t.k.length + t.v.length + 3).sum + 1 ≤ Rows.uptoBulk d := by
  obtain ⟨a0, len, cap, rfl⟩ := okWide_slice Try.underlying28 hv
  have hlt : ∀ x ∈ p, x.block < W.heap.size := by obtain ⟨m, hm⟩ := h; exact DataW.trod_lt m _ _ _ hm
  obtain ⟨fuel, hf⟩ := h
  obtain ⟨A, m, c, ks, ds, rest, e4, hd4, l1, l2, hP, r4⟩ := trod_elts (x := (d, p)) dPr 2 (fun _ => rfl) (by decide) (P := fun d (t : Pr) => t.k.length + t.v.length + 3 ≤ Rows.uptoBulk d) Try.underlying28 c2pair hf hlt (fun m cs' y hm hy hyq => pair_trod m cs' y hy hyq)
  simp [Value.cells] at e4
  obtain ⟨rfl, rfl, rfl⟩ := e4
  have hks := bulk_sums (fun t : Pr => t.k.length + t.v.length + 3) ks ds l2 (fun i l d a b => hP i l d a b)
  refine ⟨_, _, _, ks, rfl, by rw [← l1] at r4 ⊢; exact r4, ?_⟩
  dsimp only at hd4
  rcases hd4 with h | ⟨h, e⟩
  · rw [h]
    show _ ≤ Rows.uptoBulkAll ds + Rows.uptoBulkAll rest + 1
    omega
  · rw [h]
    rw [e] at hks
    have : Rows.uptoBulkAll ([] : List (DataW H)) = 0 := rfl
    show _ ≤ 1
    omega
end
end Go.Proofs.Ytkfbkhahkkmcoaa
namespace Go.Proofs.Ytkfbkhahkkmcoaa
open Go.RowKit
section
variable {w W W' : World} {gs : List (Option Nat)} {L : Lc} {R : List Row} {fs : List Fact} {d d' : D} {u u' : Value}
theorem St.callF2 (M : St w gs W L R fs) (hb : Below W.heap.size W W') (h1 : RdD W' (Fr W W') d u) (h2 : RdD W' (Fr W W') d' u') : St w gs W' L R (.dat true [d] [u] :: .dat true [d'] [u'] :: fs) :=
  (M.callF1 hb h2).addT (RdL.one (h1.to fun b hb' => ⟨rfl, hb'.2, fun e => by have := M.olt b e; have := hb'.1; omega, fun _ => Nat.le_trans M.size hb'.1⟩))
theorem St.callFD (M : St w gs W L R fs) (hb : Below W.heap.size W W') {ds : List D} {cs : List Value} (h1 : RdL W' (Fd W' (own L R gs)) ds cs) (h2 : RdD W' (Fr W W') d' u') : St w gs W' L R (.dat false ds cs :: .dat true [d'] [u'] :: fs) :=
  (M.callF1 hb h2).addL h1
theorem missOk.toD {F : Nat → Prop} {m : Option (List UInt8)} {A : Option Addr} {n c : Nat} (h : missOk W F [] m A n c) : RdD W F (dB (m.getD [])) (.slice A n c) := by
  unfold missOk at h
  cases m with
  | none =>
    obtain ⟨rfl, rfl, rfl⟩ := h
    exact RdD.nil_ _ _
  | some r => exact h.2
end
theorem rPairs_len : ∀ l : List It, (rPairsF l).1.length ≤ l.length
  | [] => Nat.le_refl _
  | x :: l => by
    have := rPairs_len l
    rw [rPairsF]
    split
    · exact Nat.zero_le _
    · split
      · exact Nat.zero_le _
      · simp only [List.length_cons]; omega
theorem tPairs_len (t : Nd) : (tPairs t).l.length ≤ sz t := by
  rw [tPairs_eq]
  have h1 := itemsP_len t [] true
  have h2 := rPairs_len (itemsP t [] true)
  unfold rPairs
  split
  · split
    · exact Nat.zero_le _
    · dsimp only; omega
  · exact Nat.zero_le _
theorem much8_no {t : Nd} {ll : List (List UInt8)} (h : much8P t ll = false) : sz t ≤ 38500 ∧ lensN ll ≤ 9000 := by
  unfold much8P at h
  rw [Bool.or_eq_false_iff, decide_eq_false_iff_not, decide_eq_false_iff_not] at h
  have := much_sz t 700 (by omega)
  omega
theorem tPut_sz' {t : Nd} {k v : List UInt8} : sz (tPut t k v).1 ≤ sz t + 130 + 2 * k.length + v.length := by
  unfold tPut
  cases htri : tri t k.length v.length with
  | false =>
    have e : sz noneN = 6 := rfl
    rw [if_neg (by decide)]
    show sz noneN ≤ _
    omega
  | true =>
    rw [if_pos rfl]
    cases hm : (putP t (ofB k) v).2 with
    | some r =>
      have e : sz noneN = 6 := rfl
      show sz noneN ≤ _
      omega
    | none =>
      have := sz_put (tri_val htri).1 (ofB k) v (halvesB_ofB k)
      rw [ofB_length] at this
      exact this
theorem tPut_sz {t : Nd} {l1 l2 : List UInt8} (hz : sz t ≤ 38500) (hl : lensN [l1, l2] ≤ 9000) : sz (tPut t l1 l2).1 ≤ 1000000 := by
  have := tPut_sz' (t := t) (k := l1) (v := l2)
  unfold lensN at hl
  simp at hl
  omega
theorem tDrop_sz' {t : Nd} {k : List UInt8} : sz (tDrop t k).t ≤ sz t + 6 := by
  have e : sz noneN = 6 := rfl
  unfold tDrop
  rcases tGet_cases t k with ⟨h1, h2⟩ | ⟨htri, ⟨r, h1, h2⟩ | ⟨h1, h2, h3⟩ | ⟨h1, h2, h3⟩⟩
  · rw [h2, if_neg (show ¬ (2 : Int) = 0 by decide)]
    show sz noneN ≤ _; omega
  · rw [h2, if_neg (show ¬ (80 : Int) = 0 by decide)]
    show sz noneN ≤ _; omega
  · rw [h3, if_pos rfl, if_pos rfl]
    have := sz_drop (tri_val htri).1 (ofB k) (halvesB_ofB k) h2
    cases (dropP t (ofB k)).2 with
    | some r => show sz noneN ≤ _; omega
    | none => show sz (dropP t (ofB k)).1 ≤ _; omega
  · rw [h3, if_pos rfl, if_neg (by decide)]
    show sz t ≤ _; omega
theorem tDrop_sz {t : Nd} {l1 : List UInt8} (hz : sz t ≤ 38500) : sz (tDrop t l1).t ≤ 1000000 := by
  have := tDrop_sz' (t := t) (k := l1)
  omega
set_option maxRecDepth 100000 in
set_option maxHeartbeats 4000000 in
theorem trieGets_walk (w : World) {t : Nd} {cs : List Value} (hr : RdL w (Fd w []) (dN t) cs) (hz : sz t ≤ 1048576) {A1 : Option Addr} {n1 c1 : Nat} {l1 : List UInt8} (g1 : RdD w (Fd w []) (dB l1) (.slice A1 n1 c1)) (b1 : l1.length ≤ 1048576) :
    Calls Try.prog 10 #[.agg cs.toArray, .slice A1 n1 c1] w (RetTrue w) := by
  refine calls_ev (args := [.agg cs.toArray, .slice A1 n1 c1]) mixed Try.func10 rfl (by kernel_rfl) ?_
  have hcl := hr.len
  rw [dN_len] at hcl
  have M := ((St.start (w := w) (gs := []) (fun b h => by cases h)).addD g1).addL hr
  refine s_box (cs) M rfl ?_
  clear M
  rintro g2 W M
  refine v_loadN cs agg_nd rfl hcl (M.run 0 rfl) ?_
  refine s_bslice [.slice A1 n1 c1] (fr := false) (ds := [dB l1]) M slbb zls2 rfl (by decide) rfl (M.dw 1 rfl) rfl ?_
  clear M; rintro g3 W M
  have hl1 := (M.rdb 2 rfl).1
  refine cc is_much8 (much8_any t (by omega) [l1] _ _ cs _ 1 1 (M.da 1 rfl) (M.d1 0 rfl) M.olt (by unfold lensN; simp; omega)) ?_
  rintro e W ⟨he, hb⟩
  obtain ⟨q, hq⟩ : ∃ q, q = much8P t [l1] := ⟨_, rfl⟩
  rw [← hq] at he
  subst he
  replace M := M.call hb
  clear hb
  refine ⟨_, rfl, ?_⟩
  cases q with
  | true =>
    refine cc is_kn8 (known8_any _) ?_
    rintro e W ⟨rfl, hb⟩
    replace M := M.call hb
    clear hb
    exact ⟨_, rfl, rfl, M.below⟩
  | false =>
    obtain ⟨hz2, _⟩ := much8_no hq.symm
    have hpl := tPairs_len t
    obtain ⟨G, hG⟩ : ∃ G, G = tGet t l1 := ⟨_, rfl⟩
    obtain ⟨Q, hQ⟩ : ∃ Q, Q = tPairs t := ⟨_, rfl⟩
    rw [← hQ] at hpl
    refine v_loadN cs agg_nd rfl hcl (M.run 0 rfl) ?_
    refine cc is_tGet (tGet_any t (by omega) _ _ _ l1 _ _ _ (M.da 1 rfl) (M.d1 2 rfl) M.olt) ?_
    rintro e W ⟨A3, n3, c3, Am3, nm3, cm3, he, rv, rm, hb⟩
    rw [← hG] at he rv rm
    subst he
    replace M := M.callF2 hb rv rm.toD
    clear rv rm hb
    refine ⟨_, rfl, ?_⟩
    refine v_loadN cs agg_nd rfl hcl (M.run 0 rfl) ?_
    refine cc is_r8get (r8get_any t (by omega) l1 _ _ cs _ _ _ (M.da 3 rfl) (M.d1 4 rfl) M.olt) ?_
    rintro e W ⟨A4, n4, c4, Am4, nm4, cm4, he, rv, rm, hb⟩
    rw [← tGet_eq, ← hG] at he rv rm
    subst he
    replace M := ((M.call hb).addD rm).addD rv
    clear rv rm hb
    refine ⟨_, rfl, ?_⟩
    refine v_loadN cs agg_nd rfl hcl (M.run 0 rfl) ?_
    refine cc is_tPairs (tPairs_any t (by omega) _ _ cs (M.da 5 rfl) M.olt) ?_
    rintro e W ⟨A5, n5, c5, Am5, nm5, cm5, he, rv, rm, hb⟩
    rw [← hQ] at he rv rm
    subst he
    replace M := M.callF2 hb rv rm.toD
    clear rv rm hb
    refine ⟨_, rfl, ?_⟩
    refine v_loadN cs agg_nd rfl hcl (M.run 0 rfl) ?_
    refine cc is_r8pairs (r8pairs_any t (by omega) _ _ cs (M.da 7 rfl) M.olt) ?_
    rintro e W ⟨A6, n6, c6, Am6, nm6, cm6, he, rv, rm, hb⟩
    rw [← tPairs_eq, ← hQ] at he rv rm
    subst he
    replace M := ((M.call hb).addD rm).addD rv
    clear rv rm hb
    refine ⟨_, rfl, ?_⟩
    obtain ⟨q, hq, hc⟩ := same_tf (c1 := c3) (c2 := c4) (M.rdb 6 rfl).2.2 (M.rdb 4 rfl).2.2
    obtain rfl := hq.2 rfl
    refine cc is_same0 hc ?_
    rintro e W' ⟨rfl, rfl⟩
    refine ⟨_, rfl, ?_⟩
    clear hq hc
    refine p_beqC u_bool rfl rfl (fun _ => ?_) (fun e => absurd rfl e)
    obtain ⟨q, hq, hc⟩ := same_tf (c1 := cm3) (c2 := cm4) (M.rdb 7 rfl).2.2 (M.rdb 5 rfl).2.2
    obtain rfl := hq.2 rfl
    refine cc is_same0 hc ?_
    rintro e W' ⟨rfl, rfl⟩
    refine ⟨_, rfl, ?_⟩
    clear hq hc
    refine p_eq rfl rfl (fun _ => ?_) (fun e => absurd rfl e)
    refine cc is_r8sp (r8sp_any Q.l Q.l _ _ _ _ _ _ _ _ (M.d1 2 rfl) (M.d1 0 rfl) M.olt (by omega)) ?_
    rintro e W ⟨q, rfl, hq, hb⟩
    obtain rfl := hq.2 rfl
    replace M := M.call hb
    clear hb hq
    refine ⟨_, rfl, ?_⟩
    obtain ⟨q, hq, hc⟩ := same_tf (c1 := cm5) (c2 := cm6) (M.rdb 3 rfl).2.2 (M.rdb 1 rfl).2.2
    obtain rfl := hq.2 rfl
    refine cc is_same0 hc ?_
    rintro e W' ⟨rfl, rfl⟩
    refine ⟨_, rfl, ?_⟩
    clear hq hc
    refine p_eq rfl rfl (fun _ => ?_) (fun e => absurd rfl e)
    refine cc is_kn8 (known8_any _) ?_
    rintro e W ⟨rfl, hb⟩
    replace M := M.call hb
    clear hb
    exact ⟨_, rfl, rfl, M.below⟩
set_option maxRecDepth 100000 in
set_option maxHeartbeats 4000000 in
theorem triePuts_walk (w : World) {t : Nd} {cs : List Value} (hr : RdL w (Fd w []) (dN t) cs) (hz : sz t ≤ 1048576) {A1 : Option Addr} {n1 c1 : Nat} {l1 : List UInt8} (g1 : RdD w (Fd w []) (dB l1) (.slice A1 n1 c1)) (b1 : l1.length ≤ 1048576) {A2 : Option Addr} {n2 c2 : Nat} {l2 : List UInt8} (g2 : RdD w (Fd w []) (dB l2) (.slice A2 n2 c2)) (b2 : l2.length ≤ 1048576) :
    Calls Try.prog 12 #[.agg cs.toArray, .slice A1 n1 c1, .slice A2 n2 c2] w (RetTrue w) := by
  refine calls_ev (args := [.agg cs.toArray, .slice A1 n1 c1, .slice A2 n2 c2]) mixed Try.func12 rfl (by kernel_rfl) ?_
  have hcl := hr.len
  rw [dN_len] at hcl
  have M := (((St.start (w := w) (gs := []) (fun b h => by cases h)).addD g2).addD g1).addL hr
  refine s_box (cs) M rfl ?_
  clear M
  rintro g3 W M
  refine v_loadN cs agg_nd rfl hcl (M.run 0 rfl) ?_
  refine s_bslice [.slice A1 n1 c1, .slice A2 n2 c2] (fr := false) (ds := [dB l1, dB l2]) M slbb zls2 rfl (by decide) rfl (RdL.cons (M.dw 1 rfl).hd (M.dw 2 rfl)) rfl ?_
  clear M; rintro g4 W M
  have hl1 := (M.rdb 2 rfl).1
  have hl2 := (M.rdb 3 rfl).1
  refine cc is_much8 (much8_any t (by omega) [l1, l2] _ _ cs _ 2 2 (M.da 1 rfl) (M.d1 0 rfl) M.olt (by unfold lensN; simp; omega)) ?_
  rintro e W ⟨he, hb⟩
  obtain ⟨q, hq⟩ : ∃ q, q = much8P t [l1, l2] := ⟨_, rfl⟩
  rw [← hq] at he
  subst he
  replace M := M.call hb
  clear hb
  refine ⟨_, rfl, ?_⟩
  cases q with
  | true =>
    refine cc is_kn8 (known8_any _) ?_
    rintro e W ⟨rfl, hb⟩
    replace M := M.call hb
    clear hb
    exact ⟨_, rfl, rfl, M.below⟩
  | false =>
    obtain ⟨hz2, hl9⟩ := much8_no hq.symm
    obtain ⟨G, hG⟩ : ∃ G, G = tPut t l1 l2 := ⟨_, rfl⟩
    obtain ⟨Q, hQ⟩ : ∃ Q, Q = tDrop t l1 := ⟨_, rfl⟩
    have hGz : sz G.1 ≤ 1000000 := by rw [hG]; exact tPut_sz hz2 hl9
    have hQz : sz Q.t ≤ 1000000 := by rw [hQ]; exact tDrop_sz hz2
    refine v_loadN cs agg_nd rfl hcl (M.run 0 rfl) ?_
    refine cc is_copied (copied_any 1000000 (by decide) t (by omega) _ _ cs (M.da 1 rfl) M.olt) ?_
    rintro e W ⟨cs7, rfl, r7, hb⟩
    have hcl7 := r7.len
    rw [dN_len] at hcl7
    replace M := M.callF hb r7
    clear r7 hb
    refine ⟨_, rfl, ?_⟩
    refine s_alloc (zN) M al_nd ?_
    clear M
    rintro g7 W M
    refine s_storeA 0 cs7 M rfl sz_nd rfl rfl hcl7 ((M.da 0 rfl).ones (dN_one _)) rfl ?_
    clear M; rintro W M
    dsimp only [setL] at M
    refine v_loadN cs7 agg_nd rfl hcl7 (M.run 0 rfl) ?_
    refine cc is_tPut (tPut_any t (by omega) l1 l2 _ _ cs7 _ _ _ _ _ _ (M.da 0 rfl) (M.d1 3 rfl) (M.d1 4 rfl) M.olt) ?_
    rintro e W ⟨cs8, Am3, nm3, cm3, he, rv, rm, hb⟩
    rw [← hG] at he rv rm
    subst he
    have hcl8 := rv.len
    rw [dN_len] at hcl8
    replace M := M.callFD hb rv rm.toD
    clear rv rm hb
    refine ⟨_, rfl, ?_⟩
    refine s_alloc (zN) M al_nd ?_
    clear M
    rintro g8 W M
    refine s_storeA 0 cs8 M rfl sz_nd rfl rfl hcl8 ((M.da 0 rfl).ones (dN_one _)) rfl ?_
    clear M; rintro W M
    dsimp only [setL] at M
    refine v_loadN cs agg_nd rfl hcl (M.run 2 rfl) ?_
    refine cc is_r8put (r8put_any (sz t + 401) t (by omega) l1 l2 (Nat.le_refl _) _ _ cs _ _ _ _ _ _ (M.da 4 rfl) (M.d1 5 rfl) (M.d1 6 rfl) M.olt) ?_
    rintro e W ⟨cs11, Am4, nm4, cm4, he, rv, rm, hb⟩
    rw [← tPut_eq (by omega), ← hG] at he rv rm
    subst he
    have hcl11 := rv.len
    rw [dN_len] at hcl11
    replace M := ((M.call hb).addD rm).addL rv
    clear rv rm hb
    refine ⟨_, rfl, ?_⟩
    refine s_alloc (zN) M al_nd ?_
    clear M
    rintro g11 W M
    refine s_storeA 0 cs11 M rfl sz_nd rfl rfl hcl11 ((M.da 0 rfl).ones (dN_one _)) rfl ?_
    clear M; rintro W M
    dsimp only [setL] at M
    refine v_loadN cs7 agg_nd rfl hcl7 (M.run 2 rfl) ?_
    refine cc is_tDrop (tDrop_any t (by omega) l1 _ _ cs7 _ _ _ (M.da 4 rfl) (M.d1 7 rfl) M.olt) ?_
    rintro e W ⟨cs14, Am5, nm5, cm5, he, rv, rm, hb⟩
    rw [← hQ] at he rv rm
    subst he
    have hcl14 := rv.len
    rw [dN_len] at hcl14
    replace M := M.callFD hb rv rm.toD
    clear rv rm hb
    refine ⟨_, rfl, ?_⟩
    refine s_alloc (zN) M al_nd ?_
    clear M
    rintro g14 W M
    refine s_storeA 0 cs14 M rfl sz_nd rfl rfl hcl14 ((M.da 0 rfl).ones (dN_one _)) rfl ?_
    clear M; rintro W M
    dsimp only [setL] at M
    refine v_loadN cs agg_nd rfl hcl (M.run 4 rfl) ?_
    refine cc is_r8drop (r8drop_any (sz t + 401) t (by omega) l1 (Nat.le_refl _) _ _ cs _ _ _ (M.da 8 rfl) (M.d1 9 rfl) M.olt) ?_
    rintro e W ⟨cs18, Am6, nm6, cm6, he, rv, rm, hb⟩
    rw [← tDrop_eq (by omega), ← hQ] at he rv rm
    subst he
    have hcl18 := rv.len
    rw [dN_len] at hcl18
    replace M := ((M.call hb).addD rm).addL rv
    clear rv rm hb
    refine ⟨_, rfl, ?_⟩
    refine s_alloc (zN) M al_nd ?_
    clear M
    rintro g18 W M
    refine s_storeA 0 cs18 M rfl sz_nd rfl rfl hcl18 ((M.da 0 rfl).ones (dN_one _)) rfl ?_
    clear M; rintro W M
    dsimp only [setL] at M
    refine v_loadN cs8 agg_nd rfl hcl8 (M.run 3 rfl) ?_
    refine v_loadN cs11 agg_nd rfl hcl11 (M.run 2 rfl) ?_
    refine cc is_r7same (rsame_any 2000000 (by decide) G.1 (by omega) G.1 _ _ cs8 cs11 (M.da 6 rfl) (M.da 4 rfl) M.olt (by omega)) ?_
    rintro e W ⟨q, rfl, hq, hb⟩
    obtain rfl := hq.2 rfl
    replace M := M.call hb
    clear hb hq
    refine ⟨_, rfl, ?_⟩
    obtain ⟨q, hq, hc⟩ := same_tf (c1 := cm3) (c2 := cm4) (M.rdb 7 rfl).2.2 (M.rdb 5 rfl).2.2
    obtain rfl := hq.2 rfl
    refine cc is_same0 hc ?_
    rintro e W' ⟨rfl, rfl⟩
    refine ⟨_, rfl, ?_⟩
    clear hq hc
    refine p_eq rfl rfl (fun _ => ?_) (fun e => absurd rfl e)
    refine v_loadN cs14 agg_nd rfl hcl14 (M.run 1 rfl) ?_
    refine v_loadN cs18 agg_nd rfl hcl18 (M.run 0 rfl) ?_
    refine cc is_r7same (rsame_any 2000000 (by decide) Q.t (by omega) Q.t _ _ cs14 cs18 (M.da 2 rfl) (M.da 0 rfl) M.olt (by omega)) ?_
    rintro e W ⟨q, rfl, hq, hb⟩
    obtain rfl := hq.2 rfl
    replace M := M.call hb
    clear hb hq
    refine ⟨_, rfl, ?_⟩
    refine p_beqC u_bool rfl rfl (fun _ => ?_) (fun e => absurd rfl e)
    obtain ⟨q, hq, hc⟩ := same_tf (c1 := cm5) (c2 := cm6) (M.rdb 3 rfl).2.2 (M.rdb 1 rfl).2.2
    obtain rfl := hq.2 rfl
    refine cc is_same0 hc ?_
    rintro e W' ⟨rfl, rfl⟩
    refine ⟨_, rfl, ?_⟩
    clear hq hc
    refine p_eq rfl rfl (fun _ => ?_) (fun e => absurd rfl e)
    refine v_loadN cs7 agg_nd rfl hcl7 (M.run 4 rfl) ?_
    refine v_loadN cs agg_nd rfl hcl (M.run 5 rfl) ?_
    refine cc is_r7same (rsame_any 2000000 (by decide) t (by omega) t _ _ cs7 cs (M.da 8 rfl) (M.da 10 rfl) M.olt (by omega)) ?_
    rintro e W ⟨q, rfl, hq, hb⟩
    obtain rfl := hq.2 rfl
    replace M := M.call hb
    clear hb hq
    refine ⟨_, rfl, ?_⟩
    refine cc is_kn8 (known8_any _) ?_
    rintro e W ⟨rfl, hb⟩
    replace M := M.call hb
    clear hb
    exact ⟨_, rfl, rfl, M.below⟩
end Go.Proofs.Ytkfbkhahkkmcoaa
