/- A node, a pair, and rows of them, that came in, opened. No walk here. The walks of the laws TrieGets and TriePuts. Tries without stubs, plainly, as rising rows of pairs. No walk here. -/
import Derived.Test.YtkfbkhahkkmcoaaG26
import Derived.Test.YtkfbkhahkkmcoaaG13
import Derived.Test.YtkfbkhahkkmcoaaG22
import Derived.Test.YtkfbkhahkkmcoaaG17
namespace Go.Proofs.Ytkfbkhahkkmcoaa
open Go.ChangeShapes Go.WideShapes Go.ChangeAt Go.RowKit
section
variable {H : Type} {enc : TypeId × Value → H} {W : World}
theorem rdD_elts {α : Type} (dE : α → List D) (s : Nat) (hd : ∀ a, (dE a).length = s) {P : Nat → α → Prop} {F : Nat → Prop} {b off : Nat} : ∀ (n : Nat), (∀ i, i < n → ∃ a es, P i a ∧ RdL W F (dE a) es ∧ ∀ j u, es[j]? = some u → W.cell? ⟨b, off + i * s + j, none⟩ = some u) →
    ∃ (l : List α) (cs : List Value), l.length = n ∧ (∀ i a, l[i]? = some a → P i a) ∧ RdL W F (l.flatMap dE) cs ∧ ∀ j u, cs[j]? = some u → W.cell? ⟨b, off + j, none⟩ = some u
  | 0, _ => ⟨[], [], rfl, (fun i a h => by simp at h), RdL.nil_, fun j u h => by simp at h⟩
  | n + 1, h => by
    obtain ⟨l, cs, h1, h2, h3, h4⟩ := rdD_elts dE s hd n (fun i hi => h i (by omega))
    obtain ⟨a, es, k1, k2, k3⟩ := h n (by omega)
    have hl : cs.length = n * s := by
      rw [h3.len, ← h1]
      clear h1 h2 h3 h4
      induction l with
      | nil => simp
      | cons x l ih => rw [List.flatMap_cons, List.length_append, ih, hd, List.length_cons, Nat.succ_mul]; omega
    refine ⟨l ++ [a], cs ++ es, by simp [h1], fun i x hx => ?_, by rw [List.flatMap_append]; simp only [List.flatMap_cons, List.flatMap_nil, List.append_nil]; exact h3.app k2, fun j u hu => ?_⟩
    · by_cases hi : i < n
      · rw [List.getElem?_append_left (by omega)] at hx; exact h2 i x hx
      · have hin : i = n := by
          have := (List.getElem?_eq_some_iff.1 hx).1
          simp [h1] at this; omega
        subst hin
        rw [List.getElem?_append_right (by omega), h1, Nat.sub_self] at hx
        simp at hx
        subst hx
        exact k1
    · by_cases hj : j < n * s
      · rw [List.getElem?_append_left (by omega)] at hu; exact h4 j u hu
      · rw [List.getElem?_append_right (by omega), hl] at hu
        have := k3 _ u hu
        rw [show off + n * s + (j - n * s) = off + j by omega] at this
        exact this
/-- A row whose elements read as data. -/
theorem trod_elts {α : Type} (dE : α → List D) (s : Nat) (hd : ∀ a, (dE a).length = s) (hs : 0 < s) {P : DataW H → α → Prop} {ts te : TypeId} (hT : Try.prog.underlying ts = some (.slice te)) (hc : Program.cellsOf Try.prog te = s) {fuel : Nat} {cs : List Value} {x : DataW H × List MemPlace}
    (hf : DataW.trod enc Try.prog W 0 (fun _ => true) true fuel ts cs = some x) (hlt : ∀ q ∈ x.2, q.block < W.heap.size)
    (he : ∀ m cs' y, m < fuel → DataW.trod enc Try.prog W 0 (fun _ => true) true m te cs' = some y → (∀ q ∈ y.2, q.block < W.heap.size) → ∃ a, P y.1 a ∧ RdL W (Fd W []) (dE a) cs') :
    ∃ (A : Option Addr) (n c : Nat) (l : List α) (ds rest : List (DataW H)), cs = [.slice A n c] ∧ (x.1 = .slice ds rest ∨ (x.1 = .nil ∧ ds = [])) ∧ l.length = n ∧ l.length = ds.length ∧ (∀ (i : Nat) (a : α) (d : DataW H), l[i]? = some a → ds[i]? = some d → P d a) ∧ RdD W (Fd W []) (.sl s n (l.flatMap dE)) (.slice A n c) := by
  rcases DataW.trod_slice hT hf with ⟨hcs, hx⟩ | ⟨a, l, c, elems, rest, m, hm0, hcs, hx, _, hl, hm, hlen, hel, _⟩
  · subst hx
    exact ⟨none, 0, 0, [], [], [], hcs, .inr ⟨rfl, rfl⟩, rfl, rfl, (fun i a d h => by cases h), RdD.nil_ _ _⟩
  · subst hx
    dsimp only at hlt ⊢
    have each : ∀ i, i < l → ∃ (u : α) (es : List Value), (∀ y, elems[i]? = some y → P y.1 u) ∧ RdL W (Fd W []) (dE u) es ∧ es.length = s ∧ ∀ j, j < s → W.cell? ((a.add (i * s)).add j) = es[j]? := by
      intro i hi
      have hE := hel i hi
      rw [hc, List.getElem?_eq_getElem (by omega), Option.bind_eq_some_iff] at hE
      obtain ⟨cs', hcs', hy⟩ := hE
      obtain ⟨u, h1, h2⟩ := he m cs' _ (by omega) hy (fun q hq => hlt q (List.mem_append_right _ (List.mem_flatMap.2 ⟨elems[i]'(by omega), List.mem_append_left _ (List.getElem_mem _), hq⟩)))
      obtain ⟨_, hc1, hc2⟩ := World.cells?_some hcs'
      have hcl : cs'.length = s := by rw [h2.len, hd]
      refine ⟨u, cs', fun y hy2 => ?_, h2, hcl, fun j hj => ?_⟩
      · rw [List.getElem?_eq_getElem (by omega)] at hy2
        injection hy2 with hy2
        subst hy2
        exact h1
      · exact hc2 j (by omega)
    by_cases h0 : l = 0
    · subst h0
      refine ⟨some a, 0, c, [], [], rest.map (·.1), hcs, .inl ?_, rfl, rfl, (fun i a d h => by cases h), RdD.nil_ _ _⟩
      rw [List.eq_nil_of_length_eq_zero hlen]; rfl
    · obtain ⟨b, off, spot⟩ := a
      obtain ⟨u0, es0, _, k2, k3, k4⟩ := each 0 (by omega)
      have hspot : spot = none := by
        have := k4 0 hs
        rw [List.getElem?_eq_getElem (by omega)] at this
        simpa [Addr.add] using World.cell?_spot this
      subst hspot
      have hbW : b < W.heap.size := hlt (.cell b off) (List.mem_append_left _ (MemPlace.mem_row.2 ⟨0, by rw [hc, hlen]; exact Nat.mul_pos (by omega) hs, by simp⟩))
      obtain ⟨ul, us, e1, e2, e3, e4⟩ := rdD_elts (P := fun i u => ∀ y, elems[i]? = some y → P y.1 u) (F := Fd W []) (b := b) (off := off) dE s hd l (fun i hi => by
        obtain ⟨u, es, f1, f2, f3, f4⟩ := each i hi
        refine ⟨u, es, f1, f2, fun j v hv => ?_⟩
        have := f4 j (by have := (List.getElem?_eq_some_iff.1 hv).1; omega)
        rw [Addr.add_lit, Addr.add_lit, hv] at this
        exact this)
      refine ⟨some ⟨b, off, none⟩, l, c, ul, elems.map (·.1), rest.map (·.1), hcs, .inl rfl, e1, by simp [e1, hlen], fun i u d h1 h2 => ?_, ?_⟩
      · rw [List.getElem?_map] at h2
        obtain ⟨y, hy, rfl⟩ := Option.map_eq_some_iff.1 h2
        exact e2 i u h1 y hy
      · refine RdD.sl_iff.2 ⟨_, c, us, rfl, hl, ?_, e3, fun _ => ⟨b, off, rfl, ⟨hbW, by simp⟩, e4⟩⟩
        rw [← e1]
        clear e1 e2 e3 e4
        induction ul with
        | nil => simp
        | cons x ul ih => rw [List.flatMap_cons, List.length_append, ih, hd, List.length_cons, Nat.succ_mul]; omega
theorem bulk_sums {α : Type} (f : α → Nat) : ∀ (ll : List α) (ds : List (DataW H)), ll.length = ds.length → (∀ (i : Nat) (l : α) (d : DataW H), ll[i]? = some l → ds[i]? = some d → f l ≤ Rows.uptoBulk d) → (ll.map f).sum ≤ Rows.uptoBulkAll ds
  | [], ds, h, _ => Nat.zero_le _
  | l :: ll, [], h, _ => by simp at h
  | l :: ll, d :: ds, h, k => by
    have h0 := k 0 l d rfl rfl
    have := bulk_sums f ll ds (by simpa using h) (fun i l' d' h1 h2 => k (i + 1) l' d' (by simpa using h1) (by simpa using h2))
    show _ ≤ Rows.uptoBulk d + Rows.uptoBulkAll ds
    rw [List.map_cons, List.sum_cons]; omega
set_option maxRecDepth 100000 in
theorem bytes_trod {fuel : Nat} {cs : List Value} {x : DataW H × List MemPlace} (hf : DataW.trod enc Try.prog W 0 (fun _ => true) true fuel 22 cs = some x) (hlt : ∀ q ∈ x.2, q.block < W.heap.size) :
    ∃ l u, cs = [u] ∧ RdD W (Fd W []) (dB l) u ∧ l.length + 1 ≤ Rows.uptoBulk x.1 := by
  obtain ⟨A, n, c, l, rfl, hr, hc, _, hb, _⟩ := rd_trod (d := x.1) (p := x.2) hf hlt
  exact ⟨l, _, rfl, RdD.ofbytes hr hc (fun b off _ h => ⟨h, by simp⟩), hb⟩
theorem list6 {α : Type} {l : List α} (h : l.length = 6) : ∃ a b c d e f, l = [a, b, c, d, e, f] := by
  match l, h with
  | [a, b, c, d, e, f], _ => exact ⟨a, b, c, d, e, f, rfl⟩
theorem c1int : Program.cellsOf Try.prog 3 = 1 := by kernel_rfl
theorem c1bool : Program.cellsOf Try.prog 4 = 1 := by kernel_rfl
theorem c1bytes : Program.cellsOf Try.prog 22 = 1 := by kernel_rfl
theorem c1nodes : Program.cellsOf Try.prog 23 = 1 := by kernel_rfl
theorem c6node : Program.cellsOf Try.prog 25 = 6 := by kernel_rfl
theorem dNs_flat : ∀ ks : List Nd, dNs ks = ks.flatMap dN
  | [] => rfl
  | t :: ts => by rw [dNs, List.flatMap_cons, dNs_flat ts]
theorem szs_sum : ∀ ks : List Nd, szs ks = (ks.map sz).sum
  | [] => rfl
  | t :: ts => by rw [szs, List.map_cons, List.sum_cons, szs_sum ts]
set_option maxRecDepth 100000 in
theorem node_trod : ∀ (fuel : Nat) (cs : List Value) (x : DataW H × List MemPlace), DataW.trod enc Try.prog W 0 (fun _ => true) true fuel 25 cs = some x → (∀ q ∈ x.2, q.block < W.heap.size) →
    ∃ t, sz t ≤ Rows.uptoBulk x.1 ∧ RdL W (Fd W []) (dN t) cs := by
  intro fuel
  induction fuel using Nat.strongRecOn with
  | ind fuel ih =>
  intro cs x hf hlt
  obtain ⟨xs, n, rfl, rfl, hl, hlen, hfs⟩ := DataW.trod_struct Try.underlying25 hf
  rw [c6node] at hl
  obtain ⟨a0, a1, a2, a3, a4, a5, rfl⟩ := list6 hl
  obtain ⟨y0, y1, y2, y3, y4, y5, rfl⟩ := list6 (show xs.length = 6 from hlen)
  have h0 : DataW.trod enc Try.prog W 0 (fun _ => true) true n 3 [a0] = some y0 := by have := (show DataW.trod enc Try.prog W 0 (fun _ => true) true n 3 (([a0, a1, a2, a3, a4, a5].drop 0).take (Program.cellsOf Try.prog 3)) = some y0 from hfs 0 _ rfl); rw [c1int] at this; exact this
  have h1 : DataW.trod enc Try.prog W 0 (fun _ => true) true n 22 [a1] = some y1 := by have := (show DataW.trod enc Try.prog W 0 (fun _ => true) true n 22 (([a0, a1, a2, a3, a4, a5].drop 1).take (Program.cellsOf Try.prog 22)) = some y1 from hfs 1 _ rfl); rw [c1bytes] at this; exact this
  have h2 : DataW.trod enc Try.prog W 0 (fun _ => true) true n 4 [a2] = some y2 := by have := (show DataW.trod enc Try.prog W 0 (fun _ => true) true n 4 (([a0, a1, a2, a3, a4, a5].drop 2).take (Program.cellsOf Try.prog 4)) = some y2 from hfs 2 _ rfl); rw [c1bool] at this; exact this
  have h3 : DataW.trod enc Try.prog W 0 (fun _ => true) true n 22 [a3] = some y3 := by have := (show DataW.trod enc Try.prog W 0 (fun _ => true) true n 22 (([a0, a1, a2, a3, a4, a5].drop 3).take (Program.cellsOf Try.prog 22)) = some y3 from hfs 3 _ rfl); rw [c1bytes] at this; exact this
  have h4 : DataW.trod enc Try.prog W 0 (fun _ => true) true n 23 [a4] = some y4 := by have := (show DataW.trod enc Try.prog W 0 (fun _ => true) true n 23 (([a0, a1, a2, a3, a4, a5].drop 4).take (Program.cellsOf Try.prog 23)) = some y4 from hfs 4 _ rfl); rw [c1nodes] at this; exact this
  have h5 : DataW.trod enc Try.prog W 0 (fun _ => true) true n 22 [a5] = some y5 := by have := (show DataW.trod enc Try.prog W 0 (fun _ => true) true n 22 (([a0, a1, a2, a3, a4, a5].drop 5).take (Program.cellsOf Try.prog 22)) = some y5 from hfs 5 _ rfl); rw [c1bytes] at this; exact this
  have hq : ∀ y ∈ [y0, y1, y2, y3, y4, y5], ∀ q ∈ y.2, q.block < W.heap.size := fun y hy q hq => hlt q (List.mem_flatMap.2 ⟨y, hy, hq⟩)
  obtain ⟨k, e0, rfl, _⟩ := DataW.trod_int Try.underlying3 h0
  obtain ⟨hs, e2, rfl⟩ := DataW.trod_bool Try.underlying4 h2
  obtain ⟨p, u1, e1, r1, b1⟩ := bytes_trod h1 (hq y1 (by simp))
  obtain ⟨v, u3, e3, r3, b3⟩ := bytes_trod h3 (hq y3 (by simp))
  obtain ⟨h, u5, e5, r5, b5⟩ := bytes_trod h5 (hq y5 (by simp))
  obtain ⟨A, m, c, ks, ds, rest, e4, hd4, l1, l2, hP, r4⟩ := trod_elts dN 6 dN_len (by decide) (P := fun d t => sz t ≤ Rows.uptoBulk d) Try.underlying23 c6node h4 (hq y4 (by simp)) (fun m cs' y hm hy hyq => ih m (by omega) cs' y hy hyq)
  injection e0 with e0
  injection e1 with e1
  injection e2 with e2
  injection e3 with e3
  injection e4 with e4
  injection e5 with e5
  subst e0; subst e1; subst e2; subst e3; subst e4; subst e5
  have hks := bulk_sums sz ks ds l2 (fun i l d a b => hP i l d a b)
  rw [← szs_sum] at hks
  have b4 : szs ks + 1 ≤ Rows.uptoBulk y4.1 := by
    rcases hd4 with h | ⟨h, e⟩
    · rw [h]
      show _ ≤ Rows.uptoBulkAll ds + Rows.uptoBulkAll rest + 1
      omega
    · rw [h]
      rw [e] at hks
      have : Rows.uptoBulkAll ([] : List (DataW H)) = 0 := rfl
      show _ ≤ 1
      omega
  refine ⟨.mk k p hs v ks h, ?_, ?_⟩
  · rw [sz]
    show _ ≤ 1 + (Rows.uptoBulk y1.1 + (1 + (Rows.uptoBulk y3.1 + (Rows.uptoBulk y4.1 + (Rows.uptoBulk y5.1 + 0))))) + 1
    omega
  · rw [dN]
    rw [← l1, ← dNs_flat] at r4
    rw [← l1]
    exact RdL.cons (RdD.ofv _) (RdL.cons r1 (RdL.cons (RdD.ofv _) (RdL.cons r3 (RdL.cons r4 (RdL.cons r5 RdL.nil_)))))
set_option maxRecDepth 100000 in
/-- Bytes that came in, as data. -/
theorem by_open {base : Nat} {v : Value} {d : DataW H} {p : List MemPlace} (hv : Value.okWide Try.prog W .any base 22 v)
    (h : DataW.Trod enc Try.prog W 0 (fun _ => true) true 22 v d p) : ∃ A n c l, v = .slice A n c ∧ RdD W (Fd W []) (dB l) (.slice A n c) ∧ l.length + 1 ≤ Rows.uptoBulk d := by
  obtain ⟨a0, len, cap, rfl⟩ := okWide_slice Try.underlying22 hv
  have hlt : ∀ x ∈ p, x.block < W.heap.size := by obtain ⟨m, hm⟩ := h; exact DataW.trod_lt m _ _ _ hm
  obtain ⟨fuel, hf⟩ := h
  obtain ⟨l, u, hu, hr, hb⟩ := bytes_trod (x := (d, p)) hf hlt
  simp [Value.cells] at hu
  subst hu
  exact ⟨_, _, _, l, rfl, hr, hb⟩
set_option maxRecDepth 100000 in
/-- A node that came in. -/
theorem nd_open {base : Nat} {v : Value} {d : DataW H} {p : List MemPlace} (hv : Value.okWide Try.prog W .any base 25 v)
    (h : DataW.Trod enc Try.prog W 0 (fun _ => true) true 25 v d p) : ∃ t cs, v = .agg cs.toArray ∧ RdL W (Fd W []) (dN t) cs ∧ sz t ≤ Rows.uptoBulk d := by
  obtain ⟨cs, rfl, _⟩ := okWide_struct Try.underlying25 hv
  have hlt : ∀ x ∈ p, x.block < W.heap.size := by obtain ⟨m, hm⟩ := h; exact DataW.trod_lt m _ _ _ hm
  obtain ⟨fuel, hf⟩ := h
  obtain ⟨t, h1, h2⟩ := node_trod fuel cs.toList (d, p) hf hlt
  exact ⟨t, cs.toList, by simp, h2, h1⟩
theorem list2 {α : Type} {l : List α} (h : l.length = 2) : ∃ a b, l = [a, b] := by
  match l, h with
  | [a, b], _ => exact ⟨a, b, rfl⟩
theorem c2pair : Program.cellsOf Try.prog 43 = 2 := by kernel_rfl
set_option maxRecDepth 100000 in
theorem pair_trod (fuel : Nat) (cs : List Value) (x : DataW H × List MemPlace) (hf : DataW.trod enc Try.prog W 0 (fun _ => true) true fuel 43 cs = some x) (hlt : ∀ q ∈ x.2, q.block < W.heap.size) :
    ∃ t : Pr, t.k.length + t.v.length + 3 ≤ Rows.uptoBulk x.1 ∧ RdL W (Fd W []) (dPr t) cs := by
  obtain ⟨xs, n, rfl, rfl, hl, hlen, hfs⟩ := DataW.trod_struct Try.underlying43 hf
  rw [c2pair] at hl
  obtain ⟨a0, a1, rfl⟩ := list2 hl
  obtain ⟨y0, y1, rfl⟩ := list2 (show xs.length = 2 from hlen)
  have h0 : DataW.trod enc Try.prog W 0 (fun _ => true) true n 22 [a0] = some y0 := by have := (show DataW.trod enc Try.prog W 0 (fun _ => true) true n 22 (([a0, a1].drop 0).take (Program.cellsOf Try.prog 22)) = some y0 from hfs 0 _ rfl); rw [c1bytes] at this; exact this
  have h1 : DataW.trod enc Try.prog W 0 (fun _ => true) true n 22 [a1] = some y1 := by have := (show DataW.trod enc Try.prog W 0 (fun _ => true) true n 22 (([a0, a1].drop 1).take (Program.cellsOf Try.prog 22)) = some y1 from hfs 1 _ rfl); rw [c1bytes] at this; exact this
  have hq : ∀ y ∈ [y0, y1], ∀ q ∈ y.2, q.block < W.heap.size := fun y hy q hq => hlt q (List.mem_flatMap.2 ⟨y, hy, hq⟩)
  obtain ⟨k, u0, e0, r0, b0⟩ := bytes_trod h0 (hq y0 (by simp))
  obtain ⟨v, u1, e1, r1, b1⟩ := bytes_trod h1 (hq y1 (by simp))
  injection e0 with e0
  injection e1 with e1
  subst e0; subst e1
  refine ⟨⟨k, v⟩, ?_, RdL.cons r0 (RdL.cons r1 RdL.nil_)⟩
  show k.length + v.length + 3 ≤ Rows.uptoBulk y0.1 + (Rows.uptoBulk y1.1 + 0) + 1
  omega
set_option maxRecDepth 100000 in
/-- A pair that came in. -/
theorem pr_open {base : Nat} {v : Value} {d : DataW H} {p : List MemPlace} (hv : Value.okWide Try.prog W .any base 43 v)
    (h : DataW.Trod enc Try.prog W 0 (fun _ => true) true 43 v d p) : ∃ (t : Pr) (cs : List Value), v = .agg cs.toArray ∧ RdL W (Fd W []) (dPr t) cs ∧ t.k.length + t.v.length + 3 ≤ Rows.uptoBulk d := by
  obtain ⟨cs, rfl, _⟩ := okWide_struct Try.underlying43 hv
  have hlt : ∀ x ∈ p, x.block < W.heap.size := by obtain ⟨m, hm⟩ := h; exact DataW.trod_lt m _ _ _ hm
  obtain ⟨fuel, hf⟩ := h
  obtain ⟨t, h1, h2⟩ := pair_trod fuel cs.toList (d, p) hf hlt
  exact ⟨t, cs.toList, by simp, h2, h1⟩
set_option maxRecDepth 100000 in
/-- A row of pairs that came in. -/
theorem prs_open {base : Nat} {v : Value} {d : DataW H} {p : List MemPlace} (hv : Value.okWide Try.prog W .any base 28 v)
    (h : DataW.Trod enc Try.prog W 0 (fun _ => true) true 28 v d p) : ∃ A n c l, v = .slice A n c ∧ RdD W (Fd W []) (dPl l) (.slice A n c) ∧ (l.map fun t => t.k.length + t.v.length + 3).sum + 1 ≤ Rows.uptoBulk d := by
  obtain ⟨a0, len, cap, rfl⟩ := okWide_slice Try.underlying28 hv
  have hlt : ∀ x ∈ p, x.block < W.heap.size := by obtain ⟨m, hm⟩ := h; exact DataW.trod_lt m _ _ _ hm
  obtain ⟨fuel, hf⟩ := h
  obtain ⟨A, m, c, ks, ds, rest, e4, hd4, l1, l2, hP, r4⟩ := trod_elts (x := (d, p)) dPr 2 (fun _ => rfl) (by decide) (P := fun d (t : Pr) => t.k.length + t.v.length + 3 ≤ Rows.uptoBulk d) Try.underlying28 c2pair hf hlt (fun m cs' y hm hy hyq => pair_trod m cs' y hy hyq)
  simp [Value.cells] at e4
  obtain ⟨rfl, rfl, rfl⟩ := e4
  have hks := bulk_sums (fun t : Pr => t.k.length + t.v.length + 3) ks ds l2 (fun i l d a b => hP i l d a b)
  refine ⟨_, _, _, ks, rfl, by rw [← l1] at r4 ⊢; exact r4, ?_⟩
  dsimp only at hd4
  rcases hd4 with h | ⟨h, e⟩
  · rw [h]
    show _ ≤ Rows.uptoBulkAll ds + Rows.uptoBulkAll rest + 1
    omega
  · rw [h]
    rw [e] at hks
    have : Rows.uptoBulkAll ([] : List (DataW H)) = 0 := rfl
    show _ ≤ 1
    omega
end
def dBo (l : List Bool) : D := .sl 1 l.length (l.map fun b => D.v (.bool b))
theorem slbo : slOf Try.prog 78 = some (4, 1) := by kernel_rfl
set_option maxRecDepth 100000 in
/-- A row of truths that came in. -/
theorem bos_open {H : Type} {enc : TypeId × Value → H} {W : World} {base : Nat} {v : Value} {d : DataW H} {p : List MemPlace} (hv : Value.okWide Try.prog W .any base 78 v)
    (h : DataW.Trod enc Try.prog W 0 (fun _ => true) true 78 v d p) : ∃ A n c l, v = .slice A n c ∧ RdD W (Fd W []) (dBo l) (.slice A n c) ∧ l.length + 1 ≤ Rows.uptoBulk d := by
  obtain ⟨a0, len, cap, rfl⟩ := okWide_slice Try.underlying78 hv
  have hlt : ∀ x ∈ p, x.block < W.heap.size := by obtain ⟨m, hm⟩ := h; exact DataW.trod_lt m _ _ _ hm
  obtain ⟨fuel, hf⟩ := h
  obtain ⟨A, m, c, ks, ds, rest, e4, hd4, l1, l2, hP, r4⟩ := trod_elts (x := (d, p)) (fun b : Bool => [D.v (.bool b)]) 1 (fun _ => rfl) (by decide) (P := fun d (t : Bool) => 1 ≤ Rows.uptoBulk d) Try.underlying78 c1bool hf hlt (fun m cs' y hm hy hyq => by
    obtain ⟨b, e, rfl⟩ := DataW.trod_bool Try.underlying4 hy
    subst e
    exact ⟨b, Nat.le_refl _, RdL.cons (RdD.ofv _) RdL.nil_⟩)
  simp [Value.cells] at e4
  obtain ⟨rfl, rfl, rfl⟩ := e4
  have hks := bulk_sums (fun _ : Bool => 1) ks ds l2 (fun i l d a b => hP i l d a b)
  have hsum : (ks.map fun _ : Bool => 1).sum = ks.length := by clear hks r4 hP hd4 l1 l2; induction ks with
    | nil => rfl
    | cons x ks ih => rw [List.map_cons, List.sum_cons, ih, List.length_cons]; omega
  have hfl : ks.flatMap (fun b : Bool => [D.v (.bool b)]) = ks.map fun b => D.v (.bool b) := by clear hks r4 hP hd4 l1 l2 hsum; induction ks with
    | nil => rfl
    | cons x ks ih => rw [List.flatMap_cons, ih]; rfl
  rw [hfl] at r4
  refine ⟨_, _, _, ks, rfl, by unfold dBo; rw [← l1] at r4 ⊢; exact r4, ?_⟩
  dsimp only at hd4
  rcases hd4 with h | ⟨h, e⟩
  · rw [h]
    show _ ≤ Rows.uptoBulkAll ds + Rows.uptoBulkAll rest + 1
    omega
  · rw [h]
    rw [e] at hks
    have : Rows.uptoBulkAll ([] : List (DataW H)) = 0 := rfl
    show _ ≤ 1
    omega
end Go.Proofs.Ytkfbkhahkkmcoaa
namespace Go.Proofs.Ytkfbkhahkkmcoaa
open Go.RowKit
section
variable {w W W' : World} {gs : List (Option Nat)} {L : Lc} {R : List Row} {fs : List Fact} {d d' : D} {u u' : Value}
theorem St.callF2 (M : St w gs W L R fs) (hb : Below W.heap.size W W') (h1 : RdD W' (Fr W W') d u) (h2 : RdD W' (Fr W W') d' u') : St w gs W' L R (.dat true [d] [u] :: .dat true [d'] [u'] :: fs) :=
  (M.callF1 hb h2).addT (RdL.one (h1.to fun b hb' => ⟨rfl, hb'.2, fun e => by have := M.olt b e; have := hb'.1; omega, fun _ => Nat.le_trans M.size hb'.1⟩))
theorem St.callFD (M : St w gs W L R fs) (hb : Below W.heap.size W W') {ds : List D} {cs : List Value} (h1 : RdL W' (Fd W' (own L R gs)) ds cs) (h2 : RdD W' (Fr W W') d' u') : St w gs W' L R (.dat false ds cs :: .dat true [d'] [u'] :: fs) :=
  (M.callF1 hb h2).addL h1
theorem missOk.toD {F : Nat → Prop} {m : Option (List UInt8)} {A : Option Addr} {n c : Nat} (h : missOk W F [] m A n c) : RdD W F (dB (m.getD [])) (.slice A n c) := by
  unfold missOk at h
  cases m with
  | none =>
    obtain ⟨rfl, rfl, rfl⟩ := h
    exact RdD.nil_ _ _
  | some r => exact h.2
end
theorem rPairs_len : ∀ l : List It, (rPairsF l).1.length ≤ l.length
  | [] => Nat.le_refl _
  | x :: l => by
    have := rPairs_len l
    rw [rPairsF]
    split
    · exact Nat.zero_le _
    · split
      · exact Nat.zero_le _
      · simp only [List.length_cons]; omega
theorem tPairs_len (t : Nd) : (tPairs t).l.length ≤ sz t := by
  rw [tPairs_eq]
  have h1 := itemsP_len t [] true
  have h2 := rPairs_len (itemsP t [] true)
  unfold rPairs
  split
  · split
    · exact Nat.zero_le _
    · dsimp only; omega
  · exact Nat.zero_le _
theorem much8_no {t : Nd} {ll : List (List UInt8)} (h : much8P t ll = false) : sz t ≤ 38500 ∧ lensN ll ≤ 9000 := by
  unfold much8P at h
  rw [Bool.or_eq_false_iff, decide_eq_false_iff_not, decide_eq_false_iff_not] at h
  have := much_sz t 700 (by omega)
  omega
theorem tPut_sz' {t : Nd} {k v : List UInt8} : sz (tPut t k v).1 ≤ sz t + 130 + 2 * k.length + v.length := by
  unfold tPut
  cases htri : tri t k.length v.length with
  | false =>
    have e : sz noneN = 6 := rfl
    rw [if_neg (by decide)]
    show sz noneN ≤ _
    omega
  | true =>
    rw [if_pos rfl]
    cases hm : (putP t (ofB k) v).2 with
    | some r =>
      have e : sz noneN = 6 := rfl
      show sz noneN ≤ _
      omega
    | none =>
      have := sz_put (tri_val htri).1 (ofB k) v (halvesB_ofB k)
      rw [ofB_length] at this
      exact this
theorem tPut_sz {t : Nd} {l1 l2 : List UInt8} (hz : sz t ≤ 38500) (hl : lensN [l1, l2] ≤ 9000) : sz (tPut t l1 l2).1 ≤ 1000000 := by
  have := tPut_sz' (t := t) (k := l1) (v := l2)
  unfold lensN at hl
  simp at hl
  omega
theorem tDrop_sz' {t : Nd} {k : List UInt8} : sz (tDrop t k).t ≤ sz t + 6 := by
  have e : sz noneN = 6 := rfl
  unfold tDrop
  rcases tGet_cases t k with ⟨h1, h2⟩ | ⟨htri, ⟨r, h1, h2⟩ | ⟨h1, h2, h3⟩ | ⟨h1, h2, h3⟩⟩
  · rw [h2, if_neg (show ¬ (2 : Int) = 0 by decide)]
    show sz noneN ≤ _; omega
  · rw [h2, if_neg (show ¬ (80 : Int) = 0 by decide)]
    show sz noneN ≤ _; omega
  · rw [h3, if_pos rfl, if_pos rfl]
    have := sz_drop (tri_val htri).1 (ofB k) (halvesB_ofB k) h2
    cases (dropP t (ofB k)).2 with
    | some r => show sz noneN ≤ _; omega
    | none => show sz (dropP t (ofB k)).1 ≤ _; omega
  · rw [h3, if_pos rfl, if_neg (by decide)]
    show sz t ≤ _; omega
theorem tDrop_sz {t : Nd} {l1 : List UInt8} (hz : sz t ≤ 38500) : sz (tDrop t l1).t ≤ 1000000 := by
  have := tDrop_sz' (t := t) (k := l1)
  omega

set_option maxRecDepth 100000 in
set_option maxHeartbeats 4000000 in
theorem trieGets_walk (w : World) {t : Nd} {cs : List Value} (hr : RdL w (Fd w []) (dN t) cs) (hz : sz t ≤ 1048576) {A1 : Option Addr} {n1 c1 : Nat} {l1 : List UInt8} (g1 : RdD w (Fd w []) (dB l1) (.slice A1 n1 c1)) (b1 : l1.length ≤ 1048576) :
    Calls Try.prog 10 #[.agg cs.toArray, .slice A1 n1 c1] w (RetTrue w) := by
  refine calls_ev (args := [.agg cs.toArray, .slice A1 n1 c1]) mixed Try.func10 rfl (by kernel_rfl) ?_
  have hcl := hr.len
  rw [dN_len] at hcl
  have M := ((St.start (w := w) (gs := []) (fun b h => by cases h)).addD g1).addL hr
  refine s_box (cs) M rfl ?_
  clear M
  rintro g2 W M
  refine v_loadN cs agg_nd rfl hcl (M.run 0 rfl) ?_
  refine s_bslice [.slice A1 n1 c1] (fr := false) (ds := [dB l1]) M slbb zls2 rfl (by decide) rfl (M.dw 1 rfl) rfl ?_
  clear M; rintro g3 W M
  have hl1 := (M.rdb 2 rfl).1
  refine cc is_much8 (much8_any t (by omega) [l1] _ _ cs _ 1 1 (M.da 1 rfl) (M.d1 0 rfl) M.olt (by unfold lensN; simp; omega)) ?_
  rintro e W ⟨he, hb⟩
  obtain ⟨q, hq⟩ : ∃ q, q = much8P t [l1] := ⟨_, rfl⟩
  rw [← hq] at he
  subst he
  replace M := M.call hb
  clear hb
  refine ⟨_, rfl, ?_⟩
  cases q with
  | true =>
    refine cc is_kn8 (known8_any _) ?_
    rintro e W ⟨rfl, hb⟩
    replace M := M.call hb
    clear hb
    exact ⟨_, rfl, rfl, M.below⟩
  | false =>
    obtain ⟨hz2, _⟩ := much8_no hq.symm
    have hpl := tPairs_len t
    obtain ⟨G, hG⟩ : ∃ G, G = tGet t l1 := ⟨_, rfl⟩
    obtain ⟨Q, hQ⟩ : ∃ Q, Q = tPairs t := ⟨_, rfl⟩
    rw [← hQ] at hpl
    refine v_loadN cs agg_nd rfl hcl (M.run 0 rfl) ?_
    refine cc is_tGet (tGet_any t (by omega) _ _ _ l1 _ _ _ (M.da 1 rfl) (M.d1 2 rfl) M.olt) ?_
    rintro e W ⟨A3, n3, c3, Am3, nm3, cm3, he, rv, rm, hb⟩
    rw [← hG] at he rv rm
    subst he
    replace M := M.callF2 hb rv rm.toD
    clear rv rm hb
    refine ⟨_, rfl, ?_⟩
    refine v_loadN cs agg_nd rfl hcl (M.run 0 rfl) ?_
    refine cc is_r8get (r8get_any t (by omega) l1 _ _ cs _ _ _ (M.da 3 rfl) (M.d1 4 rfl) M.olt) ?_
    rintro e W ⟨A4, n4, c4, Am4, nm4, cm4, he, rv, rm, hb⟩
    rw [← tGet_eq, ← hG] at he rv rm
    subst he
    replace M := ((M.call hb).addD rm).addD rv
    clear rv rm hb
    refine ⟨_, rfl, ?_⟩
    refine v_loadN cs agg_nd rfl hcl (M.run 0 rfl) ?_
    refine cc is_tPairs (tPairs_any t (by omega) _ _ cs (M.da 5 rfl) M.olt) ?_
    rintro e W ⟨A5, n5, c5, Am5, nm5, cm5, he, rv, rm, hb⟩
    rw [← hQ] at he rv rm
    subst he
    replace M := M.callF2 hb rv rm.toD
    clear rv rm hb
    refine ⟨_, rfl, ?_⟩
    refine v_loadN cs agg_nd rfl hcl (M.run 0 rfl) ?_
    refine cc is_r8pairs (r8pairs_any t (by omega) _ _ cs (M.da 7 rfl) M.olt) ?_
    rintro e W ⟨A6, n6, c6, Am6, nm6, cm6, he, rv, rm, hb⟩
    rw [← tPairs_eq, ← hQ] at he rv rm
    subst he
    replace M := ((M.call hb).addD rm).addD rv
    clear rv rm hb
    refine ⟨_, rfl, ?_⟩
    obtain ⟨q, hq, hc⟩ := same_tf (c1 := c3) (c2 := c4) (M.rdb 6 rfl).2.2 (M.rdb 4 rfl).2.2
    obtain rfl := hq.2 rfl
    refine cc is_same0 hc ?_
    rintro e W' ⟨rfl, rfl⟩
    refine ⟨_, rfl, ?_⟩
    clear hq hc
    refine p_beqC u_bool rfl rfl (fun _ => ?_) (fun e => absurd rfl e)
    obtain ⟨q, hq, hc⟩ := same_tf (c1 := cm3) (c2 := cm4) (M.rdb 7 rfl).2.2 (M.rdb 5 rfl).2.2
    obtain rfl := hq.2 rfl
    refine cc is_same0 hc ?_
    rintro e W' ⟨rfl, rfl⟩
    refine ⟨_, rfl, ?_⟩
    clear hq hc
    refine p_eq rfl rfl (fun _ => ?_) (fun e => absurd rfl e)
    refine cc is_r8sp (r8sp_any Q.l Q.l _ _ _ _ _ _ _ _ (M.d1 2 rfl) (M.d1 0 rfl) M.olt (by omega)) ?_
    rintro e W ⟨q, rfl, hq, hb⟩
    obtain rfl := hq.2 rfl
    replace M := M.call hb
    clear hb hq
    refine ⟨_, rfl, ?_⟩
    obtain ⟨q, hq, hc⟩ := same_tf (c1 := cm5) (c2 := cm6) (M.rdb 3 rfl).2.2 (M.rdb 1 rfl).2.2
    obtain rfl := hq.2 rfl
    refine cc is_same0 hc ?_
    rintro e W' ⟨rfl, rfl⟩
    refine ⟨_, rfl, ?_⟩
    clear hq hc
    refine p_eq rfl rfl (fun _ => ?_) (fun e => absurd rfl e)
    refine cc is_kn8 (known8_any _) ?_
    rintro e W ⟨rfl, hb⟩
    replace M := M.call hb
    clear hb
    exact ⟨_, rfl, rfl, M.below⟩
set_option maxRecDepth 100000 in
set_option maxHeartbeats 4000000 in
theorem triePuts_walk (w : World) {t : Nd} {cs : List Value} (hr : RdL w (Fd w []) (dN t) cs) (hz : sz t ≤ 1048576) {A1 : Option Addr} {n1 c1 : Nat} {l1 : List UInt8} (g1 : RdD w (Fd w []) (dB l1) (.slice A1 n1 c1)) (b1 : l1.length ≤ 1048576) {A2 : Option Addr} {n2 c2 : Nat} {l2 : List UInt8} (g2 : RdD w (Fd w []) (dB l2) (.slice A2 n2 c2)) (b2 : l2.length ≤ 1048576) :
    Calls Try.prog 12 #[.agg cs.toArray, .slice A1 n1 c1, .slice A2 n2 c2] w (RetTrue w) := by
  refine calls_ev (args := [.agg cs.toArray, .slice A1 n1 c1, .slice A2 n2 c2]) mixed Try.func12 rfl (by kernel_rfl) ?_
  have hcl := hr.len
  rw [dN_len] at hcl
  have M := (((St.start (w := w) (gs := []) (fun b h => by cases h)).addD g2).addD g1).addL hr
  refine s_box (cs) M rfl ?_
  clear M
  rintro g3 W M
  refine v_loadN cs agg_nd rfl hcl (M.run 0 rfl) ?_
  refine s_bslice [.slice A1 n1 c1, .slice A2 n2 c2] (fr := false) (ds := [dB l1, dB l2]) M slbb zls2 rfl (by decide) rfl (RdL.cons (M.dw 1 rfl).hd (M.dw 2 rfl)) rfl ?_
  clear M; rintro g4 W M
  have hl1 := (M.rdb 2 rfl).1
  have hl2 := (M.rdb 3 rfl).1
  refine cc is_much8 (much8_any t (by omega) [l1, l2] _ _ cs _ 2 2 (M.da 1 rfl) (M.d1 0 rfl) M.olt (by unfold lensN; simp; omega)) ?_
  rintro e W ⟨he, hb⟩
  obtain ⟨q, hq⟩ : ∃ q, q = much8P t [l1, l2] := ⟨_, rfl⟩
  rw [← hq] at he
  subst he
  replace M := M.call hb
  clear hb
  refine ⟨_, rfl, ?_⟩
  cases q with
  | true =>
    refine cc is_kn8 (known8_any _) ?_
    rintro e W ⟨rfl, hb⟩
    replace M := M.call hb
    clear hb
    exact ⟨_, rfl, rfl, M.below⟩
  | false =>
    obtain ⟨hz2, hl9⟩ := much8_no hq.symm
    obtain ⟨G, hG⟩ : ∃ G, G = tPut t l1 l2 := ⟨_, rfl⟩
    obtain ⟨Q, hQ⟩ : ∃ Q, Q = tDrop t l1 := ⟨_, rfl⟩
    have hGz : sz G.1 ≤ 1000000 := by rw [hG]; exact tPut_sz hz2 hl9
    have hQz : sz Q.t ≤ 1000000 := by rw [hQ]; exact tDrop_sz hz2
    refine v_loadN cs agg_nd rfl hcl (M.run 0 rfl) ?_
    refine cc is_copied (copied_any 1000000 (by decide) t (by omega) _ _ cs (M.da 1 rfl) M.olt) ?_
    rintro e W ⟨cs7, rfl, r7, hb⟩
    have hcl7 := r7.len
    rw [dN_len] at hcl7
    replace M := M.callF hb r7
    clear r7 hb
    refine ⟨_, rfl, ?_⟩
    refine s_alloc (zN) M al_nd ?_
    clear M
    rintro g7 W M
    refine s_storeA 0 cs7 M rfl sz_nd rfl rfl hcl7 ((M.da 0 rfl).ones (dN_one _)) rfl ?_
    clear M; rintro W M
    dsimp only [setL] at M
    refine v_loadN cs7 agg_nd rfl hcl7 (M.run 0 rfl) ?_
    refine cc is_tPut (tPut_any t (by omega) l1 l2 _ _ cs7 _ _ _ _ _ _ (M.da 0 rfl) (M.d1 3 rfl) (M.d1 4 rfl) M.olt) ?_
    rintro e W ⟨cs8, Am3, nm3, cm3, he, rv, rm, hb⟩
    rw [← hG] at he rv rm
    subst he
    have hcl8 := rv.len
    rw [dN_len] at hcl8
    replace M := M.callFD hb rv rm.toD
    clear rv rm hb
    refine ⟨_, rfl, ?_⟩
    refine s_alloc (zN) M al_nd ?_
    clear M
    rintro g8 W M
    refine s_storeA 0 cs8 M rfl sz_nd rfl rfl hcl8 ((M.da 0 rfl).ones (dN_one _)) rfl ?_
    clear M; rintro W M
    dsimp only [setL] at M
    refine v_loadN cs agg_nd rfl hcl (M.run 2 rfl) ?_
    refine cc is_r8put (r8put_any (sz t + 401) t (by omega) l1 l2 (Nat.le_refl _) _ _ cs _ _ _ _ _ _ (M.da 4 rfl) (M.d1 5 rfl) (M.d1 6 rfl) M.olt) ?_
    rintro e W ⟨cs11, Am4, nm4, cm4, he, rv, rm, hb⟩
    rw [← tPut_eq (by omega), ← hG] at he rv rm
    subst he
    have hcl11 := rv.len
    rw [dN_len] at hcl11
    replace M := ((M.call hb).addD rm).addL rv
    clear rv rm hb
    refine ⟨_, rfl, ?_⟩
    refine s_alloc (zN) M al_nd ?_
    clear M
    rintro g11 W M
    refine s_storeA 0 cs11 M rfl sz_nd rfl rfl hcl11 ((M.da 0 rfl).ones (dN_one _)) rfl ?_
    clear M; rintro W M
    dsimp only [setL] at M
    refine v_loadN cs7 agg_nd rfl hcl7 (M.run 2 rfl) ?_
    refine cc is_tDrop (tDrop_any t (by omega) l1 _ _ cs7 _ _ _ (M.da 4 rfl) (M.d1 7 rfl) M.olt) ?_
    rintro e W ⟨cs14, Am5, nm5, cm5, he, rv, rm, hb⟩
    rw [← hQ] at he rv rm
    subst he
    have hcl14 := rv.len
    rw [dN_len] at hcl14
    replace M := M.callFD hb rv rm.toD
    clear rv rm hb
    refine ⟨_, rfl, ?_⟩
    refine s_alloc (zN) M al_nd ?_
    clear M
    rintro g14 W M
    refine s_storeA 0 cs14 M rfl sz_nd rfl rfl hcl14 ((M.da 0 rfl).ones (dN_one _)) rfl ?_
    clear M; rintro W M
    dsimp only [setL] at M
    refine v_loadN cs agg_nd rfl hcl (M.run 4 rfl) ?_
    refine cc is_r8drop (r8drop_any (sz t + 401) t (by omega) l1 (Nat.le_refl _) _ _ cs _ _ _ (M.da 8 rfl) (M.d1 9 rfl) M.olt) ?_
    rintro e W ⟨cs18, Am6, nm6, cm6, he, rv, rm, hb⟩
    rw [← tDrop_eq (by omega), ← hQ] at he rv rm
    subst he
    have hcl18 := rv.len
    rw [dN_len] at hcl18
    replace M := ((M.call hb).addD rm).addL rv
    clear rv rm hb
    refine ⟨_, rfl, ?_⟩
    refine s_alloc (zN) M al_nd ?_
    clear M
    rintro g18 W M
    refine s_storeA 0 cs18 M rfl sz_nd rfl rfl hcl18 ((M.da 0 rfl).ones (dN_one _)) rfl ?_
    clear M; rintro W M
    dsimp only [setL] at M
    refine v_loadN cs8 agg_nd rfl hcl8 (M.run 3 rfl) ?_
    refine v_loadN cs11 agg_nd rfl hcl11 (M.run 2 rfl) ?_
    refine cc is_r7same (rsame_any 2000000 (by decide) G.1 (by omega) G.1 _ _ cs8 cs11 (M.da 6 rfl) (M.da 4 rfl) M.olt (by omega)) ?_
    rintro e W ⟨q, rfl, hq, hb⟩
    obtain rfl := hq.2 rfl
    replace M := M.call hb
    clear hb hq
    refine ⟨_, rfl, ?_⟩
    obtain ⟨q, hq, hc⟩ := same_tf (c1 := cm3) (c2 := cm4) (M.rdb 7 rfl).2.2 (M.rdb 5 rfl).2.2
    obtain rfl := hq.2 rfl
    refine cc is_same0 hc ?_
    rintro e W' ⟨rfl, rfl⟩
    refine ⟨_, rfl, ?_⟩
    clear hq hc
    refine p_eq rfl rfl (fun _ => ?_) (fun e => absurd rfl e)
    refine v_loadN cs14 agg_nd rfl hcl14 (M.run 1 rfl) ?_
    refine v_loadN cs18 agg_nd rfl hcl18 (M.run 0 rfl) ?_
    refine cc is_r7same (rsame_any 2000000 (by decide) Q.t (by omega) Q.t _ _ cs14 cs18 (M.da 2 rfl) (M.da 0 rfl) M.olt (by omega)) ?_
    rintro e W ⟨q, rfl, hq, hb⟩
    obtain rfl := hq.2 rfl
    replace M := M.call hb
    clear hb hq
    refine ⟨_, rfl, ?_⟩
    refine p_beqC u_bool rfl rfl (fun _ => ?_) (fun e => absurd rfl e)
    obtain ⟨q, hq, hc⟩ := same_tf (c1 := cm5) (c2 := cm6) (M.rdb 3 rfl).2.2 (M.rdb 1 rfl).2.2
    obtain rfl := hq.2 rfl
    refine cc is_same0 hc ?_
    rintro e W' ⟨rfl, rfl⟩
    refine ⟨_, rfl, ?_⟩
    clear hq hc
    refine p_eq rfl rfl (fun _ => ?_) (fun e => absurd rfl e)
    refine v_loadN cs7 agg_nd rfl hcl7 (M.run 4 rfl) ?_
    refine v_loadN cs agg_nd rfl hcl (M.run 5 rfl) ?_
    refine cc is_r7same (rsame_any 2000000 (by decide) t (by omega) t _ _ cs7 cs (M.da 8 rfl) (M.da 10 rfl) M.olt (by omega)) ?_
    rintro e W ⟨q, rfl, hq, hb⟩
    obtain rfl := hq.2 rfl
    replace M := M.call hb
    clear hb hq
    refine ⟨_, rfl, ?_⟩
    refine cc is_kn8 (known8_any _) ?_
    rintro e W ⟨rfl, hb⟩
    replace M := M.call hb
    clear hb
    exact ⟨_, rfl, rfl, M.below⟩
end Go.Proofs.Ytkfbkhahkkmcoaa
namespace Go.Proofs.Ytkfbkhahkkmcoaa
theorem cmp_app (w a b : List UInt8) : cmpB (w ++ a) (w ++ b) = cmpB a b := by
  induction w with
  | nil => rfl
  | cons x w ih => rw [List.cons_append, List.cons_append, cmpB_cons, if_pos rfl, ih]
theorem cmp_zero : ∀ {a b : List UInt8}, cmpB a b = 0 ↔ a = b
  | [], [] => by simp [cmpB_nil]
  | [], y :: b => by rw [cmpB_nil_cons]; simp
  | x :: a, [] => by rw [cmpB_cons_nil]; simp
  | x :: a, y :: b => by
    rw [cmpB_cons]
    by_cases h : x = y
    · subst h
      rw [if_pos rfl, cmp_zero]; simp
    · rw [if_neg h]
      constructor
      · intro e; split at e <;> cases e
      · intro e; injection e with e; exact absurd e h
theorem cmp_self (a : List UInt8) : cmpB a a = 0 := cmp_zero.2 rfl
theorem cmp_trans : ∀ {a b c : List UInt8}, cmpB a b < 0 → cmpB b c < 0 → cmpB a c < 0
  | a, [], c, h, _ => by
    cases a with
    | nil => rw [cmpB_nil] at h; omega
    | cons x a => rw [cmpB_cons_nil] at h; omega
  | _, y :: b, [], _, h => by rw [cmpB_cons_nil] at h; omega
  | [], y :: b, z :: c, _, _ => by rw [cmpB_nil_cons]; decide
  | x :: a, y :: b, z :: c, h1, h2 => by
    rw [cmpB_cons] at h1 h2 ⊢
    by_cases e1 : x = y
    · subst e1
      rw [if_pos rfl] at h1
      by_cases e2 : x = z
      · rw [if_pos e2] at h2 ⊢; exact cmp_trans h1 h2
      · rw [if_neg e2] at h2 ⊢; exact h2
    · rw [if_neg e1] at h1
      have l1 : x.toNat < y.toNat := by split at h1; assumption; omega
      by_cases e2 : y = z
      · subst e2
        rw [if_neg e1, if_pos l1]; decide
      · rw [if_neg e2] at h2
        have l2 : y.toNat < z.toNat := by split at h2; assumption; omega
        have e3 : x ≠ z := fun e => by rw [e] at l1; omega
        rw [if_neg e3, if_pos (by omega)]; decide
theorem cmp_anti {a b : List UInt8} (h : cmpB a b < 0) : ¬ cmpB b a < 0 := fun k => by have := cmpB_symm a b; omega
theorem cmp_ne {a b : List UInt8} (h : cmpB a b < 0) : a ≠ b := fun e => by rw [e, cmp_self] at h; omega
theorem cmp_pre {w p : List UInt8} (h : w <+: p) (hn : w.length < p.length) : cmpB w p < 0 := by
  obtain ⟨r, rfl⟩ := h
  have := cmp_app w [] r
  rw [List.append_nil] at this
  rw [this]
  cases r with
  | nil => simp at hn
  | cons x r => rw [cmpB_nil_cons]; decide
theorem cmp_diff {w p q : List UInt8} {a b : UInt8} (hp : w ++ [a] <+: p) (hq : w ++ [b] <+: q) (h : a.toNat < b.toNat) : cmpB p q < 0 := by
  obtain ⟨r, rfl⟩ := hp
  obtain ⟨s, rfl⟩ := hq
  rw [List.append_assoc, List.append_assoc, cmp_app, List.singleton_append, List.singleton_append, cmpB_cons, if_neg (fun e => by rw [e] at h; omega), if_pos h]; decide
/- Rising rows of pairs. -/
def Ris (l : List Pr) : Prop := l.Pairwise fun a b => cmpB a.k b.k < 0
theorem insP_mem : ∀ {l : List Pr} {p y : Pr}, Ris l → (y ∈ insP l p ↔ y = p ∨ (y ∈ l ∧ y.k ≠ p.k))
  | [], p, y, _ => by rw [insP]; simp
  | x :: r, p, y, h => by
    have h' := List.pairwise_cons.1 h
    rw [insP]
    split
    · rename_i h1
      have := insP_mem (l := r) (p := p) (y := y) h'.2
      rw [List.mem_cons, this, List.mem_cons]
      have hx := cmp_ne h1
      constructor
      · rintro (rfl | rfl | ⟨a, b⟩)
        · exact .inr ⟨.inl rfl, hx⟩
        · exact .inl rfl
        · exact .inr ⟨.inr a, b⟩
      · rintro (rfl | ⟨rfl | a, b⟩)
        · exact .inr (.inl rfl)
        · exact .inl rfl
        · exact .inr (.inr ⟨a, b⟩)
    · rename_i h1
      split
      · rename_i h2
        have e := cmp_zero.1 h2
        rw [List.mem_cons, List.mem_cons]
        constructor
        · rintro (rfl | a)
          · exact .inl rfl
          · have := cmp_ne (h'.1 y a)
            rw [e] at this
            exact .inr ⟨.inr a, fun e2 => this e2.symm⟩
        · rintro (rfl | ⟨rfl | a, b⟩)
          · exact .inl rfl
          · exact absurd e b
          · exact .inr a
      · rename_i h2
        have h3 : cmpB p.k x.k < 0 := by have := cmpB_symm p.k x.k; omega
        rw [List.mem_cons, List.mem_cons]
        constructor
        · rintro (rfl | rfl | a)
          · exact .inl rfl
          · exact .inr ⟨.inl rfl, fun e => cmp_ne h3 e.symm⟩
          · exact .inr ⟨.inr a, fun e => cmp_ne (cmp_trans h3 (h'.1 y a)) e.symm⟩
        · rintro (rfl | ⟨rfl | a, b⟩)
          · exact .inl rfl
          · exact .inr (.inl rfl)
          · exact .inr (.inr a)
theorem ins_ris : ∀ {l : List Pr} (p : Pr), Ris l → Ris (insP l p)
  | [], p, _ => List.pairwise_singleton _ _
  | x :: r, p, h => by
    have h' := List.pairwise_cons.1 h
    rw [insP]
    split
    · rename_i h1
      refine List.pairwise_cons.2 ⟨fun y hy => ?_, ins_ris p h'.2⟩
      rcases (insP_mem h'.2).1 hy with rfl | ⟨a, _⟩
      · exact h1
      · exact h'.1 y a
    · rename_i h1
      split
      · rename_i h2
        have e := cmp_zero.1 h2
        exact List.pairwise_cons.2 ⟨fun y hy => by rw [← e]; exact h'.1 y hy, h'.2⟩
      · rename_i h2
        have h3 : cmpB p.k x.k < 0 := by have := cmpB_symm p.k x.k; omega
        refine List.pairwise_cons.2 ⟨fun y hy => ?_, h⟩
        rcases List.mem_cons.1 hy with rfl | hy
        · exact h3
        · exact cmp_trans h3 (h'.1 y hy)
theorem ris_ext : ∀ {a b : List Pr}, Ris a → Ris b → (∀ y, y ∈ a ↔ y ∈ b) → a = b
  | [], [], _, _, _ => rfl
  | [], y :: b, _, _, h => by have := (h y).2 (by simp); cases this
  | x :: a, [], _, _, h => by have := (h x).1 (by simp); cases this
  | x :: a, y :: b, ha, hb, h => by
    have ha' := List.pairwise_cons.1 ha
    have hb' := List.pairwise_cons.1 hb
    have hxy : x = y := by
      rcases List.mem_cons.1 ((h x).1 (by simp)) with e | hx
      · exact e
      · rcases List.mem_cons.1 ((h y).2 (by simp)) with e | hy
        · exact e.symm
        · exact absurd (ha'.1 y hy) (cmp_anti (hb'.1 x hx))
    subst hxy
    congr 1
    refine ris_ext ha'.2 hb'.2 fun z => ?_
    constructor
    · intro hz
      rcases List.mem_cons.1 ((h z).1 (by simp [hz])) with rfl | h2
      · exact absurd rfl (cmp_ne (ha'.1 z hz))
      · exact h2
    · intro hz
      rcases List.mem_cons.1 ((h z).2 (by simp [hz])) with rfl | h2
      · exact absurd rfl (cmp_ne (hb'.1 z hz))
      · exact h2
theorem ris_key : ∀ {l : List Pr} {x y : Pr}, Ris l → x ∈ l → y ∈ l → x.k = y.k → x = y
  | z :: l, x, y, h, hx, hy, e => by
    have h' := List.pairwise_cons.1 h
    rcases List.mem_cons.1 hx with e1 | hx1
    · rcases List.mem_cons.1 hy with e2 | hy1
      · rw [e1, e2]
      · exact absurd e (by rw [e1]; exact cmp_ne (h'.1 y hy1))
    · rcases List.mem_cons.1 hy with e2 | hy1
      · exact absurd e.symm (by rw [e2]; exact cmp_ne (h'.1 x hx1))
      · exact ris_key h'.2 hx1 hy1 e
theorem fold_ris : ∀ {l o : List Pr}, Ris o → Ris (l.foldl insP o)
  | [], _, h => h
  | p :: l, _, h => fold_ris (l := l) (ins_ris p h)
theorem rising_ris (l : List Pr) : Ris (risingP l) := fold_ris List.Pairwise.nil
theorem filter_ris {l : List Pr} (f : Pr → Bool) (h : Ris l) : Ris (l.filter f) := List.Pairwise.filter f h
/- The items of a trie rise. -/
def RisI (l : List It) : Prop := l.Pairwise fun a b => cmpB a.path b.path < 0
theorem kids_ris {ks : List Nd} {kn : Bool} {at_ : List UInt8} : ∀ (i : Nat), i + ks.length ≤ 16 → (∀ k ∈ ks, ∀ way, RisI (itemsP k way kn)) → RisI (itemsK ks true kn i at_) := by
  induction ks with
  | nil => intro i _ _; rw [itemsK]; exact List.Pairwise.nil
  | cons t ks ih =>
    intro i hi h
    rw [List.length_cons] at hi
    rw [itemsK]
    refine List.pairwise_append.2 ⟨h t (by simp) _, ih (i + 1) (by omega) (fun k hk => h k (by simp [hk])), fun x hx y hy => ?_⟩
    obtain ⟨j, k, h1, h2⟩ := itemsK_mem hy
    have hj := (List.getElem?_eq_some_iff.1 h1).1
    exact cmp_diff (kid_pre hx) (kid_pre h2) (by rw [ofNat_half (by omega), ofNat_half (by omega)]; omega)
theorem items_ris {even : Bool} {t : Nd} {d : Nat} (hv : Val even t d) : ∀ (way : List UInt8) (kn : Bool), RisI (itemsP t way kn) := by
  induction hv with
  | none => intro way kn; rw [items_none]; exact List.Pairwise.nil
  | leaf => intro way kn; rw [items_leaf]; exact List.pairwise_singleton _ _
  | stub => intro way kn; rw [items_stub]; exact List.pairwise_singleton _ _
  | way d p k hd hp h0 hk hr ih => intro way kn; rw [items_way]; exact ih _ _
  | branch d has v ks hd hv hv0 he h16 hr hm ih =>
    intro way kn
    rw [items_br]
    refine List.pairwise_append.2 ⟨?_, kids_ris 0 (by omega) (fun k hk way => ih k hk way false), fun x hx y hy => ?_⟩
    · unfold ownI
      cases has with
      | true => exact List.pairwise_singleton _ _
      | false => exact List.Pairwise.nil
    · have hxp : x.path = way := by
        unfold ownI at hx
        cases has with
        | true => simp only [if_pos, List.mem_singleton] at hx; subst hx; rfl
        | false => cases hx
      rw [hxp]
      obtain ⟨j, k, _, h2⟩ := kid_mem hy
      exact cmp_pre ((List.prefix_append _ _).trans (kid_pre h2)) (pre_at (kid_pre h2)).1
theorem items_even {t : Nd} {d : Nat} (hv : Val true t d) : ∀ (way : List UInt8) (kn : Bool), ∀ x ∈ itemsP t way kn, ∃ r, x.path = way ++ r ∧ halvesB r = true ∧ (x.stub = false → (d + r.length) % 2 = 0 ∧ x.known = false ∧ x.hash = []) := by
  have ends : ∀ {d : Nat}, endsP d true = true → d % 2 = 0 := fun h => by
    unfold endsP at h
    simp at h
    omega
  induction hv with
  | none => intro way kn x hx; rw [items_none] at hx; cases hx
  | leaf d p v hd hp hv he =>
    intro way kn x hx
    rw [items_leaf, List.mem_singleton] at hx
    subst hx
    exact ⟨p, rfl, hp, fun _ => ⟨ends he, rfl, rfl⟩⟩
  | stub d h hd hh =>
    intro way kn x hx
    rw [items_stub, List.mem_singleton] at hx
    subst hx
    exact ⟨[], by simp, rfl, fun h => by cases h⟩
  | way d p k hd hp h0 hk hr ih =>
    intro way kn x hx
    rw [items_way] at hx
    obtain ⟨r, h1, h2, h3⟩ := ih _ _ x hx
    exact ⟨p ++ r, by rw [h1, List.append_assoc], by rw [halvesB_app, hp, h2]; rfl, fun h => by
      rw [List.length_append, ← Nat.add_assoc]; exact h3 h⟩
  | branch d has v ks hd hv hv0 he h16 hr hm ih =>
    intro way kn x hx
    rw [items_br] at hx
    rcases List.mem_append.1 hx with hx | hx
    · unfold ownI at hx
      cases has with
      | true => simp only [if_pos, List.mem_singleton] at hx; subst hx; exact ⟨[], by simp, rfl, fun _ => ⟨ends (he rfl), rfl, rfl⟩⟩
      | false => cases hx
    · obtain ⟨j, k, h1, h2⟩ := kid_mem hx
      have hj : j < 16 := by have := (List.getElem?_eq_some_iff.1 h1).1; omega
      obtain ⟨r, k1, k2, k3⟩ := ih k (List.mem_of_getElem? h1) _ _ x h2
      refine ⟨UInt8.ofNat j :: r, by rw [k1, List.append_assoc]; rfl, ?_, fun h => ?_⟩
      · have := ofNat_half hj
        unfold halvesB at k2 ⊢
        simp only [List.all_cons, Bool.and_eq_true, decide_eq_true_eq]
        have h15 : (UInt8.ofNat j).toNat ≤ 15 := by omega
        exact ⟨h15, k2⟩
      · rw [List.length_cons, show d + (r.length + 1) = d + 1 + r.length by omega]; exact k3 h
theorem sf_items {even : Bool} {t : Nd} {d : Nat} (hv : Val even t d) : ∀ (way : List UInt8) (kn : Bool), sfB t = true ↔ ∀ x ∈ itemsP t way kn, x.stub = false := by
  induction hv with
  | none => intro way kn; rw [items_none]; simp [sf_none]
  | leaf d p v => intro way kn; rw [items_leaf]; simp [show sfB (.mk 1 p false v [] []) = true from sf_leaf p v]
  | stub d h => intro way kn; rw [items_stub, sfB_mk]; simp
  | way d p k hd hp h0 hk hr ih =>
    intro way kn
    rw [items_way, ← ih (way ++ p) true, sfB_mk, sfsB, sfsB]; simp
  | branch d has v ks hd hv hv0 he h16 hr hm ih =>
    intro way kn
    rw [items_br, sfB_mk, Bool.and_eq_true, sfsB_all]
    constructor
    · rintro ⟨_, h⟩ x hx
      rcases List.mem_append.1 hx with hx | hx
      · unfold ownI at hx
        cases has with
        | true => simp only [if_pos, List.mem_singleton] at hx; subst hx; rfl
        | false => cases hx
      · obtain ⟨j, k, h1, h2⟩ := kid_mem hx
        exact (ih k (List.mem_of_getElem? h1) _ _).1 (h k (List.mem_of_getElem? h1)) x h2
    · intro h
      refine ⟨by decide, fun k hk => ?_⟩
      obtain ⟨j, hj⟩ := List.getElem?_of_mem hk
      exact (ih k hk (way ++ [UInt8.ofNat j]) false).2 fun x hx => h x (List.mem_append_right _ (kid_of hj hx))
theorem ofB_inj {a b : List UInt8} (h : ofB a = ofB b) : a = b := by rw [← joinB_ofB a, h, joinB_ofB]
theorem itOf_inj {a b : Pr} (h : itOf a = itOf b) : a = b := by
  unfold itOf at h
  injection h with h1 h2
  obtain ⟨k, v⟩ := a
  obtain ⟨k', v'⟩ := b
  dsimp only at h1 h2
  rw [ofB_inj h1, h2]
theorem map_inj {α β : Type} {f : α → β} (hf : ∀ a b, f a = f b → a = b) : ∀ {l m : List α}, l.map f = m.map f → l = m
  | [], [], _ => rfl
  | [], _ :: _, h => by cases h
  | _ :: _, [], h => by cases h
  | x :: l, y :: m, h => by
    rw [List.map_cons, List.map_cons] at h
    injection h with h1 h2
    rw [hf _ _ h1, map_inj hf h2]
/-- A trie without stubs that may be. -/
def Full (t : Nd) : Prop := Val true t 0 ∧ sfB t = true
def prsT (t : Nd) : List Pr := (pairsP t []).1
theorem rPairs_map : ∀ {l : List It}, (∀ x ∈ l, x.stub = false) → rPairsF l = (l.map fun x => ⟨bytesL x.path, x.val⟩, none)
  | [], _ => rfl
  | x :: l, h => by
    have := rPairs_map (l := l) (fun y hy => h y (by simp [hy]))
    rw [rPairsF, h x (by simp), this]; rfl
theorem full_pairs {t : Nd} (h : Full t) : (pairsP t []).2 = none ∧ prsT t = (itemsP t [] true).map fun x => ⟨bytesL x.path, x.val⟩ := by
  obtain ⟨h1, h2⟩ := pairs_items t [] true
  rw [rPairs_map ((sf_items h.1 [] true).1 h.2)] at h1 h2
  exact ⟨h1, h2 h1⟩
theorem prs_items {t : Nd} (h : Full t) : itemsP t [] true = (prsT t).map itOf := by
  rw [(full_pairs h).2, List.map_map]
  have : ∀ x ∈ itemsP t [] true, (itOf ∘ fun x : It => (⟨bytesL x.path, x.val⟩ : Pr)) x = x := fun x hx => by
    have hs := (sf_items h.1 [] true).1 h.2 x hx
    obtain ⟨r, h1, h2, h3⟩ := items_even h.1 [] true x hx
    obtain ⟨h4, h5, h6⟩ := h3 hs
    rw [List.nil_append] at h1
    obtain ⟨p, v, s, k, hh⟩ := x
    dsimp only at h1 hs h5 h6
    subst h1; subst hs; subst h5; subst h6
    show itOf ⟨bytesL p, v⟩ = _
    unfold itOf
    dsimp only
    rw [(bytesE_ok h2 (by omega)).2, ofB_joinB p h2 (by omega)]
  conv => lhs; rw [← List.map_id (itemsP t [] true)]
  exact List.map_congr_left fun x hx => (this x hx).symm
theorem prs_mem {t : Nd} (h : Full t) {p : Pr} : p ∈ prsT t ↔ itOf p ∈ itemsP t [] true := by
  rw [prs_items h, List.mem_map]
  constructor
  · intro hp; exact ⟨p, hp, rfl⟩
  · rintro ⟨q, hq, e⟩
    rw [← itOf_inj e]; exact hq
theorem prs_ris {t : Nd} (h : Full t) : Ris (prsT t) := by
  have := items_ris h.1 [] true
  rw [prs_items h] at this
  unfold RisI at this
  rw [List.pairwise_map] at this
  refine this.imp fun {a b} hab => ?_
  have e : cmpB (ofB a.k) (ofB b.k) < 0 := hab
  rw [cmpB_ofB] at e
  exact e
theorem build_prs {t : Nd} (h : Full t) {N : Nat} (hN : 401 ≤ N) : buildA N ((prsT t).map itOf) 0 = (t, none) := by
  rw [← prs_items h]
  have := build_like h.1 [] true _ N (Like.refl _) (fun x hx => by
    have := items_le h.1 [] true x hx
    rw [List.length_nil] at this ⊢; omega)
  rw [List.length_nil] at this
  exact this
theorem prs_inj {a b : Nd} (ha : Full a) (hb : Full b) (h : prsT a = prsT b) : a = b := by
  have h1 := build_prs ha (Nat.le_refl 401)
  have h2 := build_prs hb (Nat.le_refl 401)
  rw [h, h2] at h1
  injection h1 with h1
  exact h1.symm
theorem full_none : Full noneN := ⟨.none 0 (by decide), sf_none⟩
theorem prs_none : prsT noneN = [] := by rw [(full_pairs full_none).2, items_none]; rfl
theorem keep_itOf (k : List UInt8) (p : Pr) : keepI (ofB k) (itOf p) = decide (p.k ≠ k) := by
  unfold keepI itOf
  dsimp only
  rw [Bool.false_or]
  by_cases h : p.k = k
  · rw [h]; simp
  · have : ofB p.k ≠ ofB k := fun e => h (ofB_inj e)
    simp [h, this]
theorem put_prs {t : Nd} (h : Full t) {k v : List UInt8} (hk : k.length ≤ 200) (hl : v.length ≤ 4000) : (putP t (ofB k) v).2 = none ∧ Full (putP t (ofB k) v).1 ∧ prsT (putP t (ofB k) v).1 = insP (prsT t) ⟨k, v⟩ := by
  obtain ⟨hm, hs⟩ := sf_put h.1 h.2 (ofB k) v (halvesB_ofB k)
  obtain ⟨hv, hlike⟩ := put_sum h.1 hk hl hm
  have hf : Full (putP t (ofB k) v).1 := ⟨hv, hs⟩
  refine ⟨hm, hf, ris_ext (prs_ris hf) (ins_ris _ (prs_ris h)) fun y => ?_⟩
  rw [prs_mem hf, insP_mem (prs_ris h)]
  have up_it : ∀ {x z : It}, Up x z → ∀ {p : Pr}, (x = itOf p → z.known = false → z = itOf p) := fun hu p e hk => by
    subst e
    rename_i x z
    obtain ⟨a, b, c, d, e⟩ := z
    obtain ⟨u1, u2, u3, u4, _⟩ := hu
    dsimp only at u1 u2 u3 u4 hk
    subst hk; subst u1; subst u2; subst u3; subst u4; rfl
  constructor
  · intro hy
    obtain ⟨z, hz, hu⟩ := hlike.mem_l _ hy
    rcases List.mem_cons.1 hz with rfl | hz
    · left
      have h1 : ofB k = ofB y.k := hu.1
      have h2 : v = y.v := hu.2.1
      obtain ⟨yk, yv⟩ := y
      dsimp only at h1 h2
      rw [ofB_inj h1, h2]
    · right
      obtain ⟨hz1, hz2⟩ := List.mem_filter.1 hz
      rw [prs_items h] at hz1
      obtain ⟨q, hq, rfl⟩ := List.mem_map.1 hz1
      have h1 : ofB q.k = ofB y.k := hu.1
      have h2 : q.v = y.v := hu.2.1
      have e : q = y := by
        obtain ⟨yk, yv⟩ := y
        obtain ⟨qk, qv⟩ := q
        dsimp only at h1 h2
        rw [ofB_inj h1, h2]
      subst e
      rw [keep_itOf] at hz2
      exact ⟨hq, of_decide_eq_true hz2⟩
  · intro hy
    have : itOf y ∈ newI (ofB k) v :: (itemsP t [] true).filter (keepI (ofB k)) := by
      rcases hy with rfl | ⟨h1, h2⟩
      · exact List.mem_cons_self ..
      · exact List.mem_cons_of_mem _ (List.mem_filter.2 ⟨(prs_mem h).1 h1, by rw [keep_itOf]; exact decide_eq_true h2⟩)
    obtain ⟨x, hx, hu⟩ := hlike.mem_r _ this
    have hxs := (sf_items hf.1 [] true).1 hf.2 x hx
    rw [prs_items hf] at hx ⊢
    obtain ⟨q, hq, rfl⟩ := List.mem_map.1 hx
    have h1 : ofB y.k = ofB q.k := hu.1
    have h2 : y.v = q.v := hu.2.1
    have e : q = y := by
      obtain ⟨yk, yv⟩ := y
      obtain ⟨qk, qv⟩ := q
      dsimp only at h1 h2
      rw [ofB_inj h1, h2]
    subst e
    exact List.mem_map_of_mem hq
theorem build_nostub : ∀ (N : Nat) (l : List It) (at_ : Nat), (∀ x ∈ l, x.stub = false) → (buildA N l at_).2 = none
  | 0, _, _, _ => by rw [buildA]
  | N + 1, [], _, _ => by rw [buildA]
  | N + 1, [x], at_, h => by rw [build_one, if_pos (h x (by simp))]
  | N + 1, x :: y :: r, at_, h => by
    by_cases hK : alikeP (x :: y :: r) at_ = 0
    · rw [build_br (by simp) hK, bad_none (f := fun h => buildA N (groupA (x :: y :: r) at_ h) (at_ + 1)) fun i _ _ => build_nostub N _ _ fun z hz => h z (List.mem_filter.1 hz).1]
    · obtain ⟨c, hc, hs⟩ := alike_sh (l := x :: y :: r) at_ (by simp)
      rw [build_way (by simp) hs hc.symm (fun e => hK (by rw [← hc, e]; rfl))]
      exact build_nostub N _ _ h
theorem get_prs {t : Nd} (h : Full t) (k : List UInt8) : (getP t (ofB k)).miss = none ∧ ((getP t (ofB k)).has = true → ⟨k, (getP t (ofB k)).v⟩ ∈ prsT t) ∧ ((getP t (ofB k)).has = false → ∀ p ∈ prsT t, p.k ≠ k) := by
  obtain ⟨h1, h2⟩ := get_items0 h.1 (ofB k) (halvesB_ofB k)
  have hs := (sf_items h.1 [] true).1 h.2
  have hm : (getP t (ofB k)).miss = none := by
    rw [← h1]
    exact stubL_none fun x hx e => by rw [hs x hx] at e; cases e
  have h3 := h2 hm
  refine ⟨hm, fun hh => ?_, fun hh p hp e => ?_⟩
  · rw [hh, if_pos rfl] at h3
    have := List.mem_of_find?_eq_some h3
    rw [prs_mem h]; exact this
  · rw [hh, if_neg (by decide), List.find?_eq_none] at h3
    have := h3 _ ((prs_mem h).1 hp)
    refine this (decide_eq_true ?_)
    show ofB p.k = _
    rw [e]
theorem drop_prs {t : Nd} (h : Full t) {k : List UInt8} (hh : (getP t (ofB k)).has = true) : (dropP t (ofB k)).2 = none ∧ Full (dropP t (ofB k)).1 ∧ prsT (dropP t (ofB k)).1 = (prsT t).filter fun p => decide (p.k ≠ k) := by
  obtain ⟨d1, d2⟩ := drop_items h.1 (ofB k) (halvesB_ofB k) hh
  have hs := (sf_items h.1 [] true).1 h.2
  have hm : (dropP t (ofB k)).2 = none := by
    cases hm : (dropP t (ofB k)).2 with
    | none => rfl
    | some m =>
      have := d2 m hm [] true 401 (fun x hx => by
        have := items_le h.1 [] true x (List.mem_filter.1 hx).1
        rw [List.length_nil] at this ⊢; omega)
      rw [build_nostub _ _ _ fun x hx => hs x (List.mem_filter.1 hx).1] at this
      cases this
  obtain ⟨e1, e2, e3⟩ := d1 hm
  have e4 := e3 [] true
  rw [List.nil_append] at e4
  have hf : Full (dropP t (ofB k)).1 := ⟨e1, (sf_items e1 [] true).2 fun x hx => by rw [e4] at hx; exact hs x (List.mem_filter.1 hx).1⟩
  refine ⟨hm, hf, map_inj (fun a b => itOf_inj) ?_⟩
  rw [← prs_items hf, e4, prs_items h, List.filter_map]
  congr 1
  refine List.filter_congr fun p hp => ?_
  exact keep_itOf k p
theorem of_prs : ∀ (l : List Pr) (t : Nd), longPr l = false → Full t → (tOfF l t).2 = 0 ∧ Full (tOfF l t).1 ∧ prsT (tOfF l t).1 = l.foldl insP (prsT t)
  | [], t, _, h => ⟨rfl, h, rfl⟩
  | p :: l, t, hl, h => by
    unfold longPr at hl
    rw [List.any_cons, Bool.or_eq_false_iff, decide_eq_false_iff_not] at hl
    obtain ⟨h1, h2, h3⟩ := put_prs h (k := p.k) (v := p.v) (by omega) (by omega)
    rw [tOfF, if_neg (by omega), List.foldl_cons]
    have := of_prs l _ hl.2 h2
    rw [h3] at this
    exact this
theorem of_long : ∀ (l : List Pr) (t : Nd), longPr l = true → tOfF l t = (noneN, 2)
  | p :: l, t, hl => by
    unfold longPr at hl
    rw [List.any_cons, Bool.or_eq_true, decide_eq_true_eq] at hl
    rw [tOfF]
    split
    · rfl
    · rename_i h
      exact of_long l _ (hl.resolve_left (by omega))
theorem tOf_prs {l : List Pr} (hl : longPr l = false) : (tOf l).2 = 0 ∧ Full (tOf l).1 ∧ prsT (tOf l).1 = risingP l := by
  have := of_prs l noneN hl full_none
  rw [prs_none] at this
  exact this
theorem tOf_eq {N : Nat} (hN : 401 ≤ N) (l : List Pr) : tOf l = rOf N l := by
  unfold rOf
  cases hl : longPr l with
  | true => rw [if_pos rfl]; exact of_long l _ hl
  | false =>
    obtain ⟨h1, h2, h3⟩ := tOf_prs hl
    rw [if_neg (by decide), ← h3, build_prs h2 hN, ← h1]
theorem rising_mem : ∀ {l o : List Pr} {y : Pr}, Ris o → y ∈ l.foldl insP o → y ∈ l ∨ y ∈ o
  | [], o, y, _, h => .inr h
  | p :: l, o, y, ho, h => by
    rw [List.foldl_cons] at h
    rcases rising_mem (ins_ris p ho) h with h | h
    · exact .inl (by simp [h])
    · rcases (insP_mem ho).1 h with rfl | ⟨h, _⟩
      · exact .inl (by simp)
      · exact .inr h
end Go.Proofs.Ytkfbkhahkkmcoaa
