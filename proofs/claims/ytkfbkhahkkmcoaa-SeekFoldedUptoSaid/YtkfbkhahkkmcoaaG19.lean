/- A node, a pair, and rows of them, that came in, opened. No walk here. The walks of the laws TrieGets and TriePuts. Tries without stubs, plainly, as rising rows of pairs. No walk here. Tries without stubs, plainly: what Get, Put, Drop, Pairs, Of answer of them. No walk here. The walk of the law TrieTwo. The walks of the laws TrieOf and TrieDigest. law08: folded. keys.Next; seek.Under. Seek, plainly: what is found is what of the items lies in the range. Seek, plainly: the reference's Range. Reference 09: might. Reference 04: Next. -/
import Derived.Test.YtkfbkhahkkmcoaaG18
import Derived.Test.YtkfbkhahkkmcoaaG07
import Derived.Test.YtkfbkhahkkmcoaaG12
import Derived.Test.YtkfbkhahkkmcoaaG10
import Derived.Test.YtkfbkhahkkmcoaaG15
import Derived.Test.YtkfbkhahkkmcoaaG14
namespace Go.Proofs.Ytkfbkhahkkmcoaa
open Go.ChangeShapes Go.WideShapes Go.ChangeAt Go.RowKit
section
variable {H : Type} {enc : TypeId × Value → H} {W : World}
theorem rdD_elts {α : Type} (dE : α → List D) (s : Nat) (hd : ∀ a, (dE a).length = s) {P : Nat → α → Prop} {F : Nat → Prop} {b off : Nat} : ∀ (n : Nat), (∀ i, i < n → ∃ a es, P i a ∧ RdL W F (dE a) es ∧ ∀ j u, es[j]? = some u → W.cell? ⟨b, off + i * s + j, none⟩ = some u) →
    ∃ (l : List α) (cs : List Value), l.length = n ∧ (∀ i a, l[i]? = some a → P i a) ∧ RdL W F (l.flatMap dE) cs ∧ ∀ j u, cs[j]? = some u → W.cell? ⟨b, off + j, none⟩ = some u
  | 0, _ => ⟨[], [], rfl, (fun i a h => by simp at h), RdL.nil_, fun j u h => by simp at h⟩
  | n + 1, h => by
    obtain ⟨l, cs, h1, h2, h3, h4⟩ := rdD_elts dE s hd n (fun i hi => h i (by omega))
    obtain ⟨a, es, k1, k2, k3⟩ := h n (by omega)
    have hl : cs.length = n * s := by
      rw [h3.len, ← h1]
      clear h1 h2 h3 h4
      induction l with
      | nil => simp
      | cons x l ih => rw [List.flatMap_cons, List.length_append, ih, hd, List.length_cons, Nat.succ_mul]; omega
    refine ⟨l ++ [a], cs ++ es, by simp [h1], fun i x hx => ?_, by rw [List.flatMap_append]; simp only [List.flatMap_cons, List.flatMap_nil, List.append_nil]; exact h3.app k2, fun j u hu => ?_⟩
    · by_cases hi : i < n
      · rw [List.getElem?_append_left (by omega)] at hx; exact h2 i x hx
      · have hin : i = n := by
          have := (List.getElem?_eq_some_iff.1 hx).1
          simp [h1] at this; omega
        subst hin
        rw [List.getElem?_append_right (by omega), h1, Nat.sub_self] at hx
        simp at hx
        subst hx
        exact k1
    · by_cases hj : j < n * s
      · rw [List.getElem?_append_left (by omega)] at hu; exact h4 j u hu
      · rw [List.getElem?_append_right (by omega), hl] at hu
        have := k3 _ u hu
        rw [show off + n * s + (j - n * s) = off + j by omega] at this
        exact this
/-- A row whose elements read as data. -/
theorem trod_elts {α : Type} (dE : α → List D) (s : Nat) (hd : ∀ a, (dE a).length = s) (hs : 0 < s) {P : DataW H → α → Prop} {ts te : TypeId} (hT : Try.prog.underlying ts = some (.slice te)) (hc : Program.cellsOf Try.prog te = s) {fuel : Nat} {cs : List Value} {x : DataW H × List MemPlace}
    (hf : DataW.trod enc Try.prog W 0 (fun _ => true) true fuel ts cs = some x) (hlt : ∀ q ∈ x.2, q.block < W.heap.size)
    (he : ∀ m cs' y, m < fuel → DataW.trod enc Try.prog W 0 (fun _ => true) true m te cs' = some y → (∀ q ∈ y.2, q.block < W.heap.size) → ∃ a, P y.1 a ∧ RdL W (Fd W []) (dE a) cs') :
    ∃ (A : Option Addr) (n c : Nat) (l : List α) (ds rest : List (DataW H)), cs = [.slice A n c] ∧ (x.1 = .slice ds rest ∨ (x.1 = .nil ∧ ds = [])) ∧ l.length = n ∧ l.length = ds.length ∧ (∀ (i : Nat) (a : α) (d : DataW H), l[i]? = some a → ds[i]? = some d → P d a) ∧ RdD W (Fd W []) (.sl s n (l.flatMap dE)) (.slice A n c) := by
  rcases DataW.trod_slice hT hf with ⟨hcs, hx⟩ | ⟨a, l, c, elems, rest, m, hm0, hcs, hx, _, hl, hm, hlen, hel, _⟩
  · subst hx
    exact ⟨none, 0, 0, [], [], [], hcs, .inr ⟨rfl, rfl⟩, rfl, rfl, (fun i a d h => by cases h), RdD.nil_ _ _⟩
  · subst hx
    dsimp only at hlt ⊢
    have each : ∀ i, i < l → ∃ (u : α) (es : List Value), (∀ y, elems[i]? = some y → P y.1 u) ∧ RdL W (Fd W []) (dE u) es ∧ es.length = s ∧ ∀ j, j < s → W.cell? ((a.add (i * s)).add j) = es[j]? := by
      intro i hi
      have hE := hel i hi
      rw [hc, List.getElem?_eq_getElem (by omega), Option.bind_eq_some_iff] at hE
      obtain ⟨cs', hcs', hy⟩ := hE
      obtain ⟨u, h1, h2⟩ := he m cs' _ (by omega) hy (fun q hq => hlt q (List.mem_append_right _ (List.mem_flatMap.2 ⟨elems[i]'(by omega), List.mem_append_left _ (List.getElem_mem _), hq⟩)))
      obtain ⟨_, hc1, hc2⟩ := World.cells?_some hcs'
      have hcl : cs'.length = s := by rw [h2.len, hd]
      refine ⟨u, cs', fun y hy2 => ?_, h2, hcl, fun j hj => ?_⟩
      · rw [List.getElem?_eq_getElem (by omega)] at hy2
        injection hy2 with hy2
        subst hy2
        exact h1
      · exact hc2 j (by omega)
    by_cases h0 : l = 0
    · subst h0
      refine ⟨some a, 0, c, [], [], rest.map (·.1), hcs, .inl ?_, rfl, rfl, (fun i a d h => by cases h), RdD.nil_ _ _⟩
      rw [List.eq_nil_of_length_eq_zero hlen]; rfl
    · obtain ⟨b, off, spot⟩ := a
      obtain ⟨u0, es0, _, k2, k3, k4⟩ := each 0 (by omega)
      have hspot : spot = none := by
        have := k4 0 hs
        rw [List.getElem?_eq_getElem (by omega)] at this
        simpa [Addr.add] using World.cell?_spot this
      subst hspot
      have hbW : b < W.heap.size := hlt (.cell b off) (List.mem_append_left _ (MemPlace.mem_row.2 ⟨0, by rw [hc, hlen]; exact Nat.mul_pos (by omega) hs, by simp⟩))
      obtain ⟨ul, us, e1, e2, e3, e4⟩ := rdD_elts (P := fun i u => ∀ y, elems[i]? = some y → P y.1 u) (F := Fd W []) (b := b) (off := off) dE s hd l (fun i hi => by
        obtain ⟨u, es, f1, f2, f3, f4⟩ := each i hi
        refine ⟨u, es, f1, f2, fun j v hv => ?_⟩
        have := f4 j (by have := (List.getElem?_eq_some_iff.1 hv).1; omega)
        rw [Addr.add_lit, Addr.add_lit, hv] at this
        exact this)
      refine ⟨some ⟨b, off, none⟩, l, c, ul, elems.map (·.1), rest.map (·.1), hcs, .inl rfl, e1, by simp [e1, hlen], fun i u d h1 h2 => ?_, ?_⟩
      · rw [List.getElem?_map] at h2
        obtain ⟨y, hy, rfl⟩ := Option.map_eq_some_iff.1 h2
        exact e2 i u h1 y hy
      · refine RdD.sl_iff.2 ⟨_, c, us, rfl, hl, ?_, e3, fun _ => ⟨b, off, rfl, ⟨hbW, by simp⟩, e4⟩⟩
        rw [← e1]
        clear e1 e2 e3 e4
        induction ul with
        | nil => simp
        | cons x ul ih => rw [List.flatMap_cons, List.length_append, ih, hd, List.length_cons, Nat.succ_mul]; omega
theorem bulk_sums {α : Type} (f : α → Nat) : ∀ (ll : List α) (ds : List (DataW H)), ll.length = ds.length → (∀ (i : Nat) (l : α) (d : DataW H), ll[i]? = some l → ds[i]? = some d → f l ≤ Rows.uptoBulk d) → (ll.map f).sum ≤ Rows.uptoBulkAll ds
  | [], ds, h, _ => Nat.zero_le _
  | l :: ll, [], h, _ => by simp at h
  | l :: ll, d :: ds, h, k => by
    have h0 := k 0 l d rfl rfl
    have := bulk_sums f ll ds (by simpa using h) (fun i l' d' h1 h2 => k (i + 1) l' d' (by simpa using h1) (by simpa using h2))
    show _ ≤ Rows.uptoBulk d + Rows.uptoBulkAll ds
    rw [List.map_cons, List.sum_cons]; omega
set_option maxRecDepth 100000 in
theorem bytes_trod {fuel : Nat} {cs : List Value} {x : DataW H × List MemPlace} (hf : DataW.trod enc Try.prog W 0 (fun _ => true) true fuel 22 cs = some x) (hlt : ∀ q ∈ x.2, q.block < W.heap.size) :
    ∃ l u, cs = [u] ∧ RdD W (Fd W []) (dB l) u ∧ l.length + 1 ≤ Rows.uptoBulk x.1 := by
  obtain ⟨A, n, c, l, rfl, hr, hc, _, hb, _⟩ := rd_trod (d := x.1) (p := x.2) hf hlt
  exact ⟨l, _, rfl, RdD.ofbytes hr hc (fun b off _ h => ⟨h, by simp⟩), hb⟩
theorem c1bytes : Program.cellsOf Try.prog 22 = 1 := by kernel_rfl
set_option maxRecDepth 100000 in
/-- Bytes that came in, as data. -/
theorem by_open {base : Nat} {v : Value} {d : DataW H} {p : List MemPlace} (hv : Value.okWide Try.prog W .any base 22 v)
    (h : DataW.Trod enc Try.prog W 0 (fun _ => true) true 22 v d p) : ∃ A n c l, v = .slice A n c ∧ RdD W (Fd W []) (dB l) (.slice A n c) ∧ l.length + 1 ≤ Rows.uptoBulk d := by
  obtain ⟨a0, len, cap, rfl⟩ := okWide_slice Try.underlying22 hv
  have hlt : ∀ x ∈ p, x.block < W.heap.size := by obtain ⟨m, hm⟩ := h; exact DataW.trod_lt m _ _ _ hm
  obtain ⟨fuel, hf⟩ := h
  obtain ⟨l, u, hu, hr, hb⟩ := bytes_trod (x := (d, p)) hf hlt
  simp [Value.cells] at hu
  subst hu
  exact ⟨_, _, _, l, rfl, hr, hb⟩
theorem list2 {α : Type} {l : List α} (h : l.length = 2) : ∃ a b, l = [a, b] := by
  match l, h with
  | [a, b], _ => exact ⟨a, b, rfl⟩
theorem c2pair : Program.cellsOf Try.prog 43 = 2 := by kernel_rfl
set_option maxRecDepth 100000 in
theorem pair_trod (fuel : Nat) (cs : List Value) (x : DataW H × List MemPlace) (hf : DataW.trod enc Try.prog W 0 (fun _ => true) true fuel 43 cs = some x) (hlt : ∀ q ∈ x.2, q.block < W.heap.size) :
    ∃ t : Pr, t.k.length + t.v.length + 3 ≤ Rows.uptoBulk x.1 ∧ RdL W (Fd W []) (dPr t) cs := by
  obtain ⟨xs, n, rfl, rfl, hl, hlen, hfs⟩ := DataW.trod_struct Try.underlying43 hf
  rw [c2pair] at hl
  obtain ⟨a0, a1, rfl⟩ := list2 hl
  obtain ⟨y0, y1, rfl⟩ := list2 (show xs.length = 2 from hlen)
  have h0 : DataW.trod enc Try.prog W 0 (fun _ => true) true n 22 [a0] = some y0 := by have := (show DataW.trod enc Try.prog W 0 (fun _ => true) true n 22 (([a0, a1].drop 0).take (Program.cellsOf Try.prog 22)) = some y0 from hfs 0 _ rfl); rw [c1bytes] at this; exact this
  have h1 : DataW.trod enc Try.prog W 0 (fun _ => true) true n 22 [a1] = some y1 := by have := (show DataW.trod enc Try.prog W 0 (fun _ => true) true n 22 (([a0, a1].drop 1).take (Program.cellsOf Try.prog 22)) = some y1 from hfs 1 _ rfl); rw [c1bytes] at this; exact this
  have hq : ∀ y ∈ [y0, y1], ∀ q ∈ y.2, q.block < W.heap.size := fun y hy q hq => hlt q (List.mem_flatMap.2 ⟨y, hy, hq⟩)
  obtain ⟨k, u0, e0, r0, b0⟩ := bytes_trod h0 (hq y0 (by simp))
  obtain ⟨v, u1, e1, r1, b1⟩ := bytes_trod h1 (hq y1 (by simp))
  injection e0 with e0
  injection e1 with e1
  subst e0; subst e1
  refine ⟨⟨k, v⟩, ?_, RdL.cons r0 (RdL.cons r1 RdL.nil_)⟩
  show k.length + v.length + 3 ≤ Rows.uptoBulk y0.1 + (Rows.uptoBulk y1.1 + 0) + 1
  omega
set_option maxRecDepth 100000 in
/-- A row of pairs that came in. -/
theorem prs_open {base : Nat} {v : Value} {d : DataW H} {p : List MemPlace} (hv : Value.okWide Try.prog W .any base 28 v)
    (h : DataW.Trod enc Try.prog W 0 (fun _ => true) true 28 v d p) : ∃ A n c l, v = .slice A n c ∧ RdD W (Fd W []) (dPl l) (.slice A n c) ∧ (l.map fun t => t.k.length + t.v.length + 3).sum + 1 ≤ Rows.uptoBulk d := by
  obtain ⟨a0, len, cap, rfl⟩ := okWide_slice Try.underlying28 hv
  have hlt : ∀ x ∈ p, x.block < W.heap.size := by obtain ⟨m, hm⟩ := h; exact DataW.trod_lt m _ _ _ hm
  obtain ⟨fuel, hf⟩ := h
  obtain ⟨A, m, c, ks, ds, rest, e4, hd4, l1, l2, hP, r4⟩ := trod_elts (x := (d, p)) dPr 2 (fun _ => rfl) (by decide) (P := fun d (t : Pr) => t.k.length + t.v.length + 3 ≤ Rows.uptoBulk d) Try.underlying28 c2pair hf hlt (fun m cs' y hm hy hyq => pair_trod m cs' y hy hyq)
  simp [Value.cells] at e4
  obtain ⟨rfl, rfl, rfl⟩ := e4
  have hks := bulk_sums (fun t : Pr => t.k.length + t.v.length + 3) ks ds l2 (fun i l d a b => hP i l d a b)
  refine ⟨_, _, _, ks, rfl, by rw [← l1] at r4 ⊢; exact r4, ?_⟩
  dsimp only at hd4
  rcases hd4 with h | ⟨h, e⟩
  · rw [h]
    show _ ≤ Rows.uptoBulkAll ds + Rows.uptoBulkAll rest + 1
    omega
  · rw [h]
    rw [e] at hks
    have : Rows.uptoBulkAll ([] : List (DataW H)) = 0 := rfl
    show _ ≤ 1
    omega
end
end Go.Proofs.Ytkfbkhahkkmcoaa
namespace Go.Proofs.Ytkfbkhahkkmcoaa
open Go.RowKit
section
variable {w W W' : World} {gs : List (Option Nat)} {L : Lc} {R : List Row} {fs : List Fact} {d d' : D} {u u' : Value}
theorem missOk.toD {F : Nat → Prop} {m : Option (List UInt8)} {A : Option Addr} {n c : Nat} (h : missOk W F [] m A n c) : RdD W F (dB (m.getD [])) (.slice A n c) := by
  unfold missOk at h
  cases m with
  | none =>
    obtain ⟨rfl, rfl, rfl⟩ := h
    exact RdD.nil_ _ _
  | some r => exact h.2
end
end Go.Proofs.Ytkfbkhahkkmcoaa
namespace Go.Proofs.Ytkfbkhahkkmcoaa
theorem cmp_app (w a b : List UInt8) : cmpB (w ++ a) (w ++ b) = cmpB a b := by
  induction w with
  | nil => rfl
  | cons x w ih => rw [List.cons_append, List.cons_append, cmpB_cons, if_pos rfl, ih]
theorem cmp_zero : ∀ {a b : List UInt8}, cmpB a b = 0 ↔ a = b
  | [], [] => by simp [cmpB_nil]
  | [], y :: b => by rw [cmpB_nil_cons]; simp
  | x :: a, [] => by rw [cmpB_cons_nil]; simp
  | x :: a, y :: b => by
    rw [cmpB_cons]
    by_cases h : x = y
    · subst h
      rw [if_pos rfl, cmp_zero]; simp
    · rw [if_neg h]
      constructor
      · intro e; split at e <;> cases e
      · intro e; injection e with e; exact absurd e h
theorem cmp_self (a : List UInt8) : cmpB a a = 0 := cmp_zero.2 rfl
theorem cmp_trans : ∀ {a b c : List UInt8}, cmpB a b < 0 → cmpB b c < 0 → cmpB a c < 0
  | a, [], c, h, _ => by
    cases a with
    | nil => rw [cmpB_nil] at h; omega
    | cons x a => rw [cmpB_cons_nil] at h; omega
  | _, y :: b, [], _, h => by rw [cmpB_cons_nil] at h; omega
  | [], y :: b, z :: c, _, _ => by rw [cmpB_nil_cons]; decide
  | x :: a, y :: b, z :: c, h1, h2 => by
    rw [cmpB_cons] at h1 h2 ⊢
    by_cases e1 : x = y
    · subst e1
      rw [if_pos rfl] at h1
      by_cases e2 : x = z
      · rw [if_pos e2] at h2 ⊢; exact cmp_trans h1 h2
      · rw [if_neg e2] at h2 ⊢; exact h2
    · rw [if_neg e1] at h1
      have l1 : x.toNat < y.toNat := by split at h1; assumption; omega
      by_cases e2 : y = z
      · subst e2
        rw [if_neg e1, if_pos l1]; decide
      · rw [if_neg e2] at h2
        have l2 : y.toNat < z.toNat := by split at h2; assumption; omega
        have e3 : x ≠ z := fun e => by rw [e] at l1; omega
        rw [if_neg e3, if_pos (by omega)]; decide
theorem cmp_anti {a b : List UInt8} (h : cmpB a b < 0) : ¬ cmpB b a < 0 := fun k => by have := cmpB_symm a b; omega
theorem cmp_ne {a b : List UInt8} (h : cmpB a b < 0) : a ≠ b := fun e => by rw [e, cmp_self] at h; omega
theorem cmp_pre {w p : List UInt8} (h : w <+: p) (hn : w.length < p.length) : cmpB w p < 0 := by
  obtain ⟨r, rfl⟩ := h
  have := cmp_app w [] r
  rw [List.append_nil] at this
  rw [this]
  cases r with
  | nil => simp at hn
  | cons x r => rw [cmpB_nil_cons]; decide
theorem cmp_diff {w p q : List UInt8} {a b : UInt8} (hp : w ++ [a] <+: p) (hq : w ++ [b] <+: q) (h : a.toNat < b.toNat) : cmpB p q < 0 := by
  obtain ⟨r, rfl⟩ := hp
  obtain ⟨s, rfl⟩ := hq
  rw [List.append_assoc, List.append_assoc, cmp_app, List.singleton_append, List.singleton_append, cmpB_cons, if_neg (fun e => by rw [e] at h; omega), if_pos h]; decide
def Ris (l : List Pr) : Prop := l.Pairwise fun a b => cmpB a.k b.k < 0
theorem insP_mem : ∀ {l : List Pr} {p y : Pr}, Ris l → (y ∈ insP l p ↔ y = p ∨ (y ∈ l ∧ y.k ≠ p.k))
  | [], p, y, _ => by rw [insP]; simp
  | x :: r, p, y, h => by
    have h' := List.pairwise_cons.1 h
    rw [insP]
    split
    · rename_i h1
      have := insP_mem (l := r) (p := p) (y := y) h'.2
      rw [List.mem_cons, this, List.mem_cons]
      have hx := cmp_ne h1
      constructor
      · rintro (rfl | rfl | ⟨a, b⟩)
        · exact .inr ⟨.inl rfl, hx⟩
        · exact .inl rfl
        · exact .inr ⟨.inr a, b⟩
      · rintro (rfl | ⟨rfl | a, b⟩)
        · exact .inr (.inl rfl)
        · exact .inl rfl
        · exact .inr (.inr ⟨a, b⟩)
    · rename_i h1
      split
      · rename_i h2
        have e := cmp_zero.1 h2
        rw [List.mem_cons, List.mem_cons]
        constructor
        · rintro (rfl | a)
          · exact .inl rfl
          · have := cmp_ne (h'.1 y a)
            rw [e] at this
            exact .inr ⟨.inr a, fun e2 => this e2.symm⟩
        · rintro (rfl | ⟨rfl | a, b⟩)
          · exact .inl rfl
          · exact absurd e b
          · exact .inr a
      · rename_i h2
        have h3 : cmpB p.k x.k < 0 := by have := cmpB_symm p.k x.k; omega
        rw [List.mem_cons, List.mem_cons]
        constructor
        · rintro (rfl | rfl | a)
          · exact .inl rfl
          · exact .inr ⟨.inl rfl, fun e => cmp_ne h3 e.symm⟩
          · exact .inr ⟨.inr a, fun e => cmp_ne (cmp_trans h3 (h'.1 y a)) e.symm⟩
        · rintro (rfl | ⟨rfl | a, b⟩)
          · exact .inl rfl
          · exact .inr (.inl rfl)
          · exact .inr (.inr a)
theorem ins_ris : ∀ {l : List Pr} (p : Pr), Ris l → Ris (insP l p)
  | [], p, _ => List.pairwise_singleton _ _
  | x :: r, p, h => by
    have h' := List.pairwise_cons.1 h
    rw [insP]
    split
    · rename_i h1
      refine List.pairwise_cons.2 ⟨fun y hy => ?_, ins_ris p h'.2⟩
      rcases (insP_mem h'.2).1 hy with rfl | ⟨a, _⟩
      · exact h1
      · exact h'.1 y a
    · rename_i h1
      split
      · rename_i h2
        have e := cmp_zero.1 h2
        exact List.pairwise_cons.2 ⟨fun y hy => by rw [← e]; exact h'.1 y hy, h'.2⟩
      · rename_i h2
        have h3 : cmpB p.k x.k < 0 := by have := cmpB_symm p.k x.k; omega
        refine List.pairwise_cons.2 ⟨fun y hy => ?_, h⟩
        rcases List.mem_cons.1 hy with rfl | hy
        · exact h3
        · exact cmp_trans h3 (h'.1 y hy)
theorem ris_ext : ∀ {a b : List Pr}, Ris a → Ris b → (∀ y, y ∈ a ↔ y ∈ b) → a = b
  | [], [], _, _, _ => rfl
  | [], y :: b, _, _, h => by have := (h y).2 (by simp); cases this
  | x :: a, [], _, _, h => by have := (h x).1 (by simp); cases this
  | x :: a, y :: b, ha, hb, h => by
    have ha' := List.pairwise_cons.1 ha
    have hb' := List.pairwise_cons.1 hb
    have hxy : x = y := by
      rcases List.mem_cons.1 ((h x).1 (by simp)) with e | hx
      · exact e
      · rcases List.mem_cons.1 ((h y).2 (by simp)) with e | hy
        · exact e.symm
        · exact absurd (ha'.1 y hy) (cmp_anti (hb'.1 x hx))
    subst hxy
    congr 1
    refine ris_ext ha'.2 hb'.2 fun z => ?_
    constructor
    · intro hz
      rcases List.mem_cons.1 ((h z).1 (by simp [hz])) with rfl | h2
      · exact absurd rfl (cmp_ne (ha'.1 z hz))
      · exact h2
    · intro hz
      rcases List.mem_cons.1 ((h z).2 (by simp [hz])) with rfl | h2
      · exact absurd rfl (cmp_ne (hb'.1 z hz))
      · exact h2
theorem ris_key : ∀ {l : List Pr} {x y : Pr}, Ris l → x ∈ l → y ∈ l → x.k = y.k → x = y
  | z :: l, x, y, h, hx, hy, e => by
    have h' := List.pairwise_cons.1 h
    rcases List.mem_cons.1 hx with e1 | hx1
    · rcases List.mem_cons.1 hy with e2 | hy1
      · rw [e1, e2]
      · exact absurd e (by rw [e1]; exact cmp_ne (h'.1 y hy1))
    · rcases List.mem_cons.1 hy with e2 | hy1
      · exact absurd e.symm (by rw [e2]; exact cmp_ne (h'.1 x hx1))
      · exact ris_key h'.2 hx1 hy1 e
theorem fold_ris : ∀ {l o : List Pr}, Ris o → Ris (l.foldl insP o)
  | [], _, h => h
  | p :: l, _, h => fold_ris (l := l) (ins_ris p h)
theorem rising_ris (l : List Pr) : Ris (risingP l) := fold_ris List.Pairwise.nil
def RisI (l : List It) : Prop := l.Pairwise fun a b => cmpB a.path b.path < 0
theorem kids_ris {ks : List Nd} {kn : Bool} {at_ : List UInt8} : ∀ (i : Nat), i + ks.length ≤ 16 → (∀ k ∈ ks, ∀ way, RisI (itemsP k way kn)) → RisI (itemsK ks true kn i at_) := by
  induction ks with
  | nil => intro i _ _; rw [itemsK]; exact List.Pairwise.nil
  | cons t ks ih =>
    intro i hi h
    rw [List.length_cons] at hi
    rw [itemsK]
    refine List.pairwise_append.2 ⟨h t (by simp) _, ih (i + 1) (by omega) (fun k hk => h k (by simp [hk])), fun x hx y hy => ?_⟩
    obtain ⟨j, k, h1, h2⟩ := itemsK_mem hy
    have hj := (List.getElem?_eq_some_iff.1 h1).1
    exact cmp_diff (kid_pre hx) (kid_pre h2) (by rw [ofNat_half (by omega), ofNat_half (by omega)]; omega)
theorem items_ris {even : Bool} {t : Nd} {d : Nat} (hv : Val even t d) : ∀ (way : List UInt8) (kn : Bool), RisI (itemsP t way kn) := by
  induction hv with
  | none => intro way kn; rw [items_none]; exact List.Pairwise.nil
  | leaf => intro way kn; rw [items_leaf]; exact List.pairwise_singleton _ _
  | stub => intro way kn; rw [items_stub]; exact List.pairwise_singleton _ _
  | way d p k hd hp h0 hk hr ih => intro way kn; rw [items_way]; exact ih _ _
  | branch d has v ks hd hv hv0 he h16 hr hm ih =>
    intro way kn
    rw [items_br]
    refine List.pairwise_append.2 ⟨?_, kids_ris 0 (by omega) (fun k hk way => ih k hk way false), fun x hx y hy => ?_⟩
    · unfold ownI
      cases has with
      | true => exact List.pairwise_singleton _ _
      | false => exact List.Pairwise.nil
    · have hxp : x.path = way := by
        unfold ownI at hx
        cases has with
        | true => simp only [if_pos, List.mem_singleton] at hx; subst hx; rfl
        | false => cases hx
      rw [hxp]
      obtain ⟨j, k, _, h2⟩ := kid_mem hy
      exact cmp_pre ((List.prefix_append _ _).trans (kid_pre h2)) (pre_at (kid_pre h2)).1
theorem items_even {t : Nd} {d : Nat} (hv : Val true t d) : ∀ (way : List UInt8) (kn : Bool), ∀ x ∈ itemsP t way kn, ∃ r, x.path = way ++ r ∧ halvesB r = true ∧ (x.stub = false → (d + r.length) % 2 = 0 ∧ x.known = false ∧ x.hash = []) := by
  have ends : ∀ {d : Nat}, endsP d true = true → d % 2 = 0 := fun h => by
    unfold endsP at h
    simp at h
    omega
  induction hv with
  | none => intro way kn x hx; rw [items_none] at hx; cases hx
  | leaf d p v hd hp hv he =>
    intro way kn x hx
    rw [items_leaf, List.mem_singleton] at hx
    subst hx
    exact ⟨p, rfl, hp, fun _ => ⟨ends he, rfl, rfl⟩⟩
  | stub d h hd hh =>
    intro way kn x hx
    rw [items_stub, List.mem_singleton] at hx
    subst hx
    exact ⟨[], by simp, rfl, fun h => by cases h⟩
  | way d p k hd hp h0 hk hr ih =>
    intro way kn x hx
    rw [items_way] at hx
    obtain ⟨r, h1, h2, h3⟩ := ih _ _ x hx
    exact ⟨p ++ r, by rw [h1, List.append_assoc], by rw [halvesB_app, hp, h2]; rfl, fun h => by
      rw [List.length_append, ← Nat.add_assoc]; exact h3 h⟩
  | branch d has v ks hd hv hv0 he h16 hr hm ih =>
    intro way kn x hx
    rw [items_br] at hx
    rcases List.mem_append.1 hx with hx | hx
    · unfold ownI at hx
      cases has with
      | true => simp only [if_pos, List.mem_singleton] at hx; subst hx; exact ⟨[], by simp, rfl, fun _ => ⟨ends (he rfl), rfl, rfl⟩⟩
      | false => cases hx
    · obtain ⟨j, k, h1, h2⟩ := kid_mem hx
      have hj : j < 16 := by have := (List.getElem?_eq_some_iff.1 h1).1; omega
      obtain ⟨r, k1, k2, k3⟩ := ih k (List.mem_of_getElem? h1) _ _ x h2
      refine ⟨UInt8.ofNat j :: r, by rw [k1, List.append_assoc]; rfl, ?_, fun h => ?_⟩
      · have := ofNat_half hj
        unfold halvesB at k2 ⊢
        simp only [List.all_cons, Bool.and_eq_true, decide_eq_true_eq]
        have h15 : (UInt8.ofNat j).toNat ≤ 15 := by omega
        exact ⟨h15, k2⟩
      · rw [List.length_cons, show d + (r.length + 1) = d + 1 + r.length by omega]; exact k3 h
theorem sf_items {even : Bool} {t : Nd} {d : Nat} (hv : Val even t d) : ∀ (way : List UInt8) (kn : Bool), sfB t = true ↔ ∀ x ∈ itemsP t way kn, x.stub = false := by
  induction hv with
  | none => intro way kn; rw [items_none]; simp [sf_none]
  | leaf d p v => intro way kn; rw [items_leaf]; simp [show sfB (.mk 1 p false v [] []) = true from sf_leaf p v]
  | stub d h => intro way kn; rw [items_stub, sfB_mk]; simp
  | way d p k hd hp h0 hk hr ih =>
    intro way kn
    rw [items_way, ← ih (way ++ p) true, sfB_mk, sfsB, sfsB]; simp
  | branch d has v ks hd hv hv0 he h16 hr hm ih =>
    intro way kn
    rw [items_br, sfB_mk, Bool.and_eq_true, sfsB_all]
    constructor
    · rintro ⟨_, h⟩ x hx
      rcases List.mem_append.1 hx with hx | hx
      · unfold ownI at hx
        cases has with
        | true => simp only [if_pos, List.mem_singleton] at hx; subst hx; rfl
        | false => cases hx
      · obtain ⟨j, k, h1, h2⟩ := kid_mem hx
        exact (ih k (List.mem_of_getElem? h1) _ _).1 (h k (List.mem_of_getElem? h1)) x h2
    · intro h
      refine ⟨by decide, fun k hk => ?_⟩
      obtain ⟨j, hj⟩ := List.getElem?_of_mem hk
      exact (ih k hk (way ++ [UInt8.ofNat j]) false).2 fun x hx => h x (List.mem_append_right _ (kid_of hj hx))
theorem ofB_inj {a b : List UInt8} (h : ofB a = ofB b) : a = b := by rw [← joinB_ofB a, h, joinB_ofB]
theorem itOf_inj {a b : Pr} (h : itOf a = itOf b) : a = b := by
  unfold itOf at h
  injection h with h1 h2
  obtain ⟨k, v⟩ := a
  obtain ⟨k', v'⟩ := b
  dsimp only at h1 h2
  rw [ofB_inj h1, h2]
/-- A trie without stubs that may be. -/
def Full (t : Nd) : Prop := Val true t 0 ∧ sfB t = true
def prsT (t : Nd) : List Pr := (pairsP t []).1
theorem rPairs_map : ∀ {l : List It}, (∀ x ∈ l, x.stub = false) → rPairsF l = (l.map fun x => ⟨bytesL x.path, x.val⟩, none)
  | [], _ => rfl
  | x :: l, h => by
    have := rPairs_map (l := l) (fun y hy => h y (by simp [hy]))
    rw [rPairsF, h x (by simp), this]; rfl
theorem full_pairs {t : Nd} (h : Full t) : (pairsP t []).2 = none ∧ prsT t = (itemsP t [] true).map fun x => ⟨bytesL x.path, x.val⟩ := by
  obtain ⟨h1, h2⟩ := pairs_items t [] true
  rw [rPairs_map ((sf_items h.1 [] true).1 h.2)] at h1 h2
  exact ⟨h1, h2 h1⟩
theorem prs_items {t : Nd} (h : Full t) : itemsP t [] true = (prsT t).map itOf := by
  rw [(full_pairs h).2, List.map_map]
  have : ∀ x ∈ itemsP t [] true, (itOf ∘ fun x : It => (⟨bytesL x.path, x.val⟩ : Pr)) x = x := fun x hx => by
    have hs := (sf_items h.1 [] true).1 h.2 x hx
    obtain ⟨r, h1, h2, h3⟩ := items_even h.1 [] true x hx
    obtain ⟨h4, h5, h6⟩ := h3 hs
    rw [List.nil_append] at h1
    obtain ⟨p, v, s, k, hh⟩ := x
    dsimp only at h1 hs h5 h6
    subst h1; subst hs; subst h5; subst h6
    show itOf ⟨bytesL p, v⟩ = _
    unfold itOf
    dsimp only
    rw [(bytesE_ok h2 (by omega)).2, ofB_joinB p h2 (by omega)]
  conv => lhs; rw [← List.map_id (itemsP t [] true)]
  exact List.map_congr_left fun x hx => (this x hx).symm
theorem prs_mem {t : Nd} (h : Full t) {p : Pr} : p ∈ prsT t ↔ itOf p ∈ itemsP t [] true := by
  rw [prs_items h, List.mem_map]
  constructor
  · intro hp; exact ⟨p, hp, rfl⟩
  · rintro ⟨q, hq, e⟩
    rw [← itOf_inj e]; exact hq
theorem prs_ris {t : Nd} (h : Full t) : Ris (prsT t) := by
  have := items_ris h.1 [] true
  rw [prs_items h] at this
  unfold RisI at this
  rw [List.pairwise_map] at this
  refine this.imp fun {a b} hab => ?_
  have e : cmpB (ofB a.k) (ofB b.k) < 0 := hab
  rw [cmpB_ofB] at e
  exact e
theorem build_prs {t : Nd} (h : Full t) {N : Nat} (hN : 401 ≤ N) : buildA N ((prsT t).map itOf) 0 = (t, none) := by
  rw [← prs_items h]
  have := build_like h.1 [] true _ N (Like.refl _) (fun x hx => by
    have := items_le h.1 [] true x hx
    rw [List.length_nil] at this ⊢; omega)
  rw [List.length_nil] at this
  exact this
theorem prs_inj {a b : Nd} (ha : Full a) (hb : Full b) (h : prsT a = prsT b) : a = b := by
  have h1 := build_prs ha (Nat.le_refl 401)
  have h2 := build_prs hb (Nat.le_refl 401)
  rw [h, h2] at h1
  injection h1 with h1
  exact h1.symm
theorem full_none : Full noneN := ⟨.none 0 (by decide), sf_none⟩
theorem prs_none : prsT noneN = [] := by rw [(full_pairs full_none).2, items_none]; rfl
theorem keep_itOf (k : List UInt8) (p : Pr) : keepI (ofB k) (itOf p) = decide (p.k ≠ k) := by
  unfold keepI itOf
  dsimp only
  rw [Bool.false_or]
  by_cases h : p.k = k
  · rw [h]; simp
  · have : ofB p.k ≠ ofB k := fun e => h (ofB_inj e)
    simp [h, this]
theorem put_prs {t : Nd} (h : Full t) {k v : List UInt8} (hk : k.length ≤ 200) (hl : v.length ≤ 4000) : (putP t (ofB k) v).2 = none ∧ Full (putP t (ofB k) v).1 ∧ prsT (putP t (ofB k) v).1 = insP (prsT t) ⟨k, v⟩ := by
  obtain ⟨hm, hs⟩ := sf_put h.1 h.2 (ofB k) v (halvesB_ofB k)
  obtain ⟨hv, hlike⟩ := put_sum h.1 hk hl hm
  have hf : Full (putP t (ofB k) v).1 := ⟨hv, hs⟩
  refine ⟨hm, hf, ris_ext (prs_ris hf) (ins_ris _ (prs_ris h)) fun y => ?_⟩
  rw [prs_mem hf, insP_mem (prs_ris h)]
  have up_it : ∀ {x z : It}, Up x z → ∀ {p : Pr}, (x = itOf p → z.known = false → z = itOf p) := fun hu p e hk => by
    subst e
    rename_i x z
    obtain ⟨a, b, c, d, e⟩ := z
    obtain ⟨u1, u2, u3, u4, _⟩ := hu
    dsimp only at u1 u2 u3 u4 hk
    subst hk; subst u1; subst u2; subst u3; subst u4; rfl
  constructor
  · intro hy
    obtain ⟨z, hz, hu⟩ := hlike.mem_l _ hy
    rcases List.mem_cons.1 hz with rfl | hz
    · left
      have h1 : ofB k = ofB y.k := hu.1
      have h2 : v = y.v := hu.2.1
      obtain ⟨yk, yv⟩ := y
      dsimp only at h1 h2
      rw [ofB_inj h1, h2]
    · right
      obtain ⟨hz1, hz2⟩ := List.mem_filter.1 hz
      rw [prs_items h] at hz1
      obtain ⟨q, hq, rfl⟩ := List.mem_map.1 hz1
      have h1 : ofB q.k = ofB y.k := hu.1
      have h2 : q.v = y.v := hu.2.1
      have e : q = y := by
        obtain ⟨yk, yv⟩ := y
        obtain ⟨qk, qv⟩ := q
        dsimp only at h1 h2
        rw [ofB_inj h1, h2]
      subst e
      rw [keep_itOf] at hz2
      exact ⟨hq, of_decide_eq_true hz2⟩
  · intro hy
    have : itOf y ∈ newI (ofB k) v :: (itemsP t [] true).filter (keepI (ofB k)) := by
      rcases hy with rfl | ⟨h1, h2⟩
      · exact List.mem_cons_self ..
      · exact List.mem_cons_of_mem _ (List.mem_filter.2 ⟨(prs_mem h).1 h1, by rw [keep_itOf]; exact decide_eq_true h2⟩)
    obtain ⟨x, hx, hu⟩ := hlike.mem_r _ this
    have hxs := (sf_items hf.1 [] true).1 hf.2 x hx
    rw [prs_items hf] at hx ⊢
    obtain ⟨q, hq, rfl⟩ := List.mem_map.1 hx
    have h1 : ofB y.k = ofB q.k := hu.1
    have h2 : y.v = q.v := hu.2.1
    have e : q = y := by
      obtain ⟨yk, yv⟩ := y
      obtain ⟨qk, qv⟩ := q
      dsimp only at h1 h2
      rw [ofB_inj h1, h2]
    subst e
    exact List.mem_map_of_mem hq
theorem of_prs : ∀ (l : List Pr) (t : Nd), longPr l = false → Full t → (tOfF l t).2 = 0 ∧ Full (tOfF l t).1 ∧ prsT (tOfF l t).1 = l.foldl insP (prsT t)
  | [], t, _, h => ⟨rfl, h, rfl⟩
  | p :: l, t, hl, h => by
    unfold longPr at hl
    rw [List.any_cons, Bool.or_eq_false_iff, decide_eq_false_iff_not] at hl
    obtain ⟨h1, h2, h3⟩ := put_prs h (k := p.k) (v := p.v) (by omega) (by omega)
    rw [tOfF, if_neg (by omega), List.foldl_cons]
    have := of_prs l _ hl.2 h2
    rw [h3] at this
    exact this
theorem of_long : ∀ (l : List Pr) (t : Nd), longPr l = true → tOfF l t = (noneN, 2)
  | p :: l, t, hl => by
    unfold longPr at hl
    rw [List.any_cons, Bool.or_eq_true, decide_eq_true_eq] at hl
    rw [tOfF]
    split
    · rfl
    · rename_i h
      exact of_long l _ (hl.resolve_left (by omega))
theorem tOf_prs {l : List Pr} (hl : longPr l = false) : (tOf l).2 = 0 ∧ Full (tOf l).1 ∧ prsT (tOf l).1 = risingP l := by
  have := of_prs l noneN hl full_none
  rw [prs_none] at this
  exact this
theorem tOf_eq {N : Nat} (hN : 401 ≤ N) (l : List Pr) : tOf l = rOf N l := by
  unfold rOf
  cases hl : longPr l with
  | true => rw [if_pos rfl]; exact of_long l _ hl
  | false =>
    obtain ⟨h1, h2, h3⟩ := tOf_prs hl
    rw [if_neg (by decide), ← h3, build_prs h2 hN, ← h1]
theorem rising_mem : ∀ {l o : List Pr} {y : Pr}, Ris o → y ∈ l.foldl insP o → y ∈ l ∨ y ∈ o
  | [], o, y, _, h => .inr h
  | p :: l, o, y, ho, h => by
    rw [List.foldl_cons] at h
    rcases rising_mem (ins_ris p ho) h with h | h
    · exact .inl (by simp [h])
    · rcases (insP_mem ho).1 h with rfl | ⟨h, _⟩
      · exact .inl (by simp)
      · exact .inr h
end Go.Proofs.Ytkfbkhahkkmcoaa
namespace Go.Proofs.Ytkfbkhahkkmcoaa
theorem longN_cons (p : Pr) (l : List Pr) : longN (p :: l) = 10 + p.k.length + p.v.length + longN l := by unfold longN; rw [List.map_cons, List.sum_cons]
theorem prBulk_cons (p : Pr) (l : List Pr) : prBulk (p :: l) = 140 + 2 * p.k.length + p.v.length + prBulk l := by unfold prBulk; rw [List.map_cons, List.sum_cons]
theorem longN_up : ∀ l : List Pr, longN l ≤ 4 * (l.map fun t => t.k.length + t.v.length + 3).sum
  | [] => Nat.zero_le _
  | p :: l => by have := longN_up l; rw [longN_cons, List.map_cons, List.sum_cons]; omega
theorem prBulk_up : ∀ l : List Pr, prBulk l ≤ 14 * longN l
  | [] => Nat.zero_le _
  | p :: l => by have := prBulk_up l; rw [prBulk_cons, longN_cons]; omega
theorem longN_mem : ∀ {l : List Pr} {p : Pr}, p ∈ l → 10 + p.k.length + p.v.length ≤ longN l
  | q :: l, p, h => by
    rw [longN_cons]
    rcases List.mem_cons.1 h with rfl | h
    · omega
    · have := longN_mem h; omega
theorem longN_big {l : List Pr} (h : longN l ≤ 10000000) : prBig l := by
  have := longN_len l
  exact ⟨by omega, fun p hp => by have := longN_mem hp; omega⟩
theorem tOfF_sz : ∀ (l : List Pr) (t : Nd), Full t → sz (tOfF l t).1 ≤ sz t + prBulk l
  | [], t, _ => Nat.le_add_right _ _
  | p :: l, t, h => by
    rw [tOfF, prBulk_cons]
    split
    · have e : sz noneN = 6 := rfl
      have := sz_eq t
      show sz noneN ≤ _
      omega
    · obtain ⟨_, h2, _⟩ := put_prs h (k := p.k) (v := p.v) (by omega) (by omega)
      have h3 := tOfF_sz l _ h2
      have h4 := sz_put h.1 (ofB p.k) p.v (halvesB_ofB _)
      rw [ofB_length] at h4
      omega
theorem tOf_sz (l : List Pr) : sz (tOf l).1 ≤ 6 + prBulk l := tOfF_sz l noneN full_none
theorem full_check {t : Nd} (h : Full t) : checkE t = 0 := by unfold checkE; rw [right_of_val h.1, if_pos rfl]
theorem put_comm {r : List Pr} (h : Ris r) {a b : Pr} (hk : a.k ≠ b.k) : insP (insP r a) b = insP (insP r b) a := by
  have ha := ins_ris a h
  have hb := ins_ris b h
  refine ris_ext (ins_ris b ha) (ins_ris a hb) fun y => ?_
  rw [insP_mem ha, insP_mem h, insP_mem hb, insP_mem h]
  constructor
  · rintro (rfl | ⟨rfl | ⟨h1, h2⟩, h3⟩)
    · exact .inr ⟨.inl rfl, fun e => hk e.symm⟩
    · exact .inl rfl
    · exact .inr ⟨.inr ⟨h1, h3⟩, h2⟩
  · rintro (rfl | ⟨rfl | ⟨h1, h2⟩, h3⟩)
    · exact .inr ⟨.inl rfl, hk⟩
    · exact .inl rfl
    · exact .inr ⟨.inr ⟨h1, h3⟩, h2⟩
theorem fold_inj_mem : ∀ {l o : List Pr}, Ris o → (∀ x ∈ l ++ o, ∀ y ∈ l ++ o, x.k = y.k → x = y) → ∀ y, y ∈ l.foldl insP o ↔ y ∈ l ∨ y ∈ o
  | [], o, _, _, y => by simp
  | p :: l, o, ho, hi, y => by
    rw [List.foldl_cons]
    have hm : ∀ z, z ∈ insP o p ↔ z = p ∨ z ∈ o := fun z => by
      rw [insP_mem ho]
      constructor
      · rintro (rfl | h)
        · exact .inl rfl
        · exact .inr h.1
      · rintro (rfl | h)
        · exact .inl rfl
        · by_cases hk : z.k = p.k
          · exact .inl (hi z (by simp [h]) p (by simp) hk)
          · exact .inr ⟨h, hk⟩
    have hi' : ∀ x ∈ l ++ insP o p, ∀ y ∈ l ++ insP o p, x.k = y.k → x = y := fun x hx y hy e => by
      have conv : ∀ z ∈ l ++ insP o p, z ∈ (p :: l) ++ o := fun z hz => by
        rcases List.mem_append.1 hz with h | h
        · simp [h]
        · rcases (hm z).1 h with rfl | h <;> simp [*]
      exact hi x (conv x hx) y (conv y hy) e
    rw [fold_inj_mem (ins_ris p ho) hi' y, hm, List.mem_cons]
    constructor
    · rintro (h | h | h) <;> simp [h]
    · rintro ((h | h) | h) <;> simp [h]
theorem rising_same {r back : List Pr} (h : Ris r) (hm : ∀ y, y ∈ back ↔ y ∈ r) : risingP back = r := by
  refine ris_ext (rising_ris back) h fun y => ?_
  unfold risingP
  rw [fold_inj_mem List.Pairwise.nil (fun x hx y hy e => by
    rw [List.append_nil] at hx hy
    exact ris_key h ((hm x).1 hx) ((hm y).1 hy) e), hm]
  simp
theorem longPr_mem {l : List Pr} (h : longPr l = false) {p : Pr} (hp : p ∈ l) : p.k.length ≤ 200 ∧ p.v.length ≤ 4000 := by
  unfold longPr at h
  rw [List.any_eq_false] at h
  have := h p hp
  rw [decide_eq_true_eq] at this
  omega
theorem longPr_sub {l m : List Pr} (h : longPr l = false) (hm : ∀ p ∈ m, p ∈ l) : longPr m = false := by
  unfold longPr
  rw [List.any_eq_false]
  intro p hp
  have := longPr_mem h (hm p hp)
  rw [decide_eq_true_eq]; omega
theorem rising_sub (l : List Pr) : ∀ p ∈ risingP l, p ∈ l := fun p hp => by
  rcases rising_mem List.Pairwise.nil hp with h | h
  · exact h
  · cases h
end Go.Proofs.Ytkfbkhahkkmcoaa
namespace Go.Proofs.Ytkfbkhahkkmcoaa
open Go.RowKit

theorem of_ok {l : List Pr} {T : Nd × Int} (hT : T = tOf l) (h0 : T.2 = 0) : longPr l = false ∧ Full T.1 ∧ prsT T.1 = risingP l := by
  cases hl : longPr l with
  | true =>
    have : T = (noneN, 2) := hT.trans (of_long l _ hl)
    rw [this] at h0
    exact absurd h0 (by decide)
  | false =>
    obtain ⟨_, h2, h3⟩ := tOf_prs hl
    rw [hT]
    exact ⟨rfl, h2, h3⟩
end Go.Proofs.Ytkfbkhahkkmcoaa
namespace Go.Proofs.Ytkfbkhahkkmcoaa
open Go.RowKit

theorem u_inty : Try.prog.underlying 3 = some (.int .i64) := by kernel_rfl
/-- The same pairs, in whichever order. -/
theorem of_same {l back : List Pr} {T : Nd × Int} (hT : T = tOf l) (h0 : T.2 = 0) (hm : ∀ y, y ∈ back ↔ y ∈ risingP l) : T = tOf back := by
  obtain ⟨hl, hF, hr⟩ := of_ok hT h0
  have hb : longPr back = false := longPr_sub hl fun p hp => rising_sub l p ((hm p).1 hp)
  obtain ⟨e, hF2, hr2⟩ := tOf_prs hb
  have h1 : T.1 = (tOf back).1 := prs_inj hF hF2 (by rw [hr, hr2]; exact (rising_same (rising_ris l) hm).symm)
  exact Prod.ext h1 (h0.trans e.symm)
end Go.Proofs.Ytkfbkhahkkmcoaa
namespace Go.Proofs.Ytkfbkhahkkmcoaa
open Go.RowKit
/-- A row as a block. -/
theorem St.rowBlk {w W : World} {gs : List (Option Nat)} {L : Lc} {R : List Row} {fs : List Fact} {e : TypeId} {s n c : Nat} {A : Option Addr} {xs : List Value} (M : St w gs W L (⟨e, s, A, n, c, xs⟩ :: R) fs) (hn : 0 < n) : ∃ g rest, A = some ⟨g, 0, none⟩ ∧ n ≤ c ∧ St w gs W ((g, e, xs ++ rest) :: L) R fs := by
  have hrow := M.row _ (List.mem_cons_self ..)
  rcases hrow.2 with ⟨hv, h0⟩ | ⟨g, cap, cur, hv, hb, hh, h1, h2, h3, h4⟩
  · simp only at h0; omega
  · injection hv with e1 e2 e3
    simp only at e1 e3 h4
    subst e1
    have hx : xs ++ cur.toList.drop (n * s) = cur.toList := by rw [← h4, List.take_append_drop]
    refine ⟨g, cur.toList.drop (n * s), rfl, by dsimp only at h1; omega, ⟨M.below, M.lt, fun y hy => ?_, fun r hr => M.row r (by simp [hr]), ?_, fun f hf => ?_⟩⟩
    · rcases List.mem_cons.1 hy with rfl | hy
      · exact ⟨by show Blk W g e (xs ++ cur.toList.drop (n * s)); rw [hx]; exact hh, hb⟩
      · exact M.blk y hy
    · have hp := List.Perm.pairwise (l' := bk (some ⟨g, 0, none⟩) :: (L.map (fun x => some x.1) ++ R.map (fun r => bk r.A))) (by rw [List.map_cons]; exact List.perm_middle) M.ap (fun h => apart_comm h)
      exact hp
    · refine (M.fct f hf).up ⟨Nat.le_refl _, fun _ _ _ => rfl, fun b _ e => ?_⟩
      unfold own at *
      simp only [List.map_cons, List.cons_append, List.mem_append, List.mem_cons] at e ⊢
      rcases e with e | e | e | e
      · exact .inr (.inl (by rw [e]; rfl))
      · exact .inl e
      · exact .inr (.inr (.inl e))
      · exact .inr (.inr (.inr e))
def foldedP : List UInt8 → Nd → Nd
  | [], t => foldN t
  | x :: w, t => if t.kids = [] then foldN t else .mk t.kind t.path t.has t.val (t.kids.set (x.toNat % t.kids.length) (foldedP w (t.kids.getD (x.toNat % t.kids.length) noneN))) t.hash
theorem u_u8x : (Try.prog.underlying 5).isSome = true := by kernel_rfl
--BEGIN
end Go.Proofs.Ytkfbkhahkkmcoaa
namespace Go.Proofs.Ytkfbkhahkkmcoaa
open Go.RowKit
theorem le_lt {a b c : List UInt8} (h : cmpB a b ≤ 0) (k : cmpB b c < 0) : cmpB a c < 0 := by
  by_cases e : cmpB a b = 0
  · rw [cmp_zero.1 e]; exact k
  · exact cmp_trans (by omega) k
theorem pre_le {w p : List UInt8} (h : w <+: p) : cmpB w p ≤ 0 := by obtain ⟨r, rfl⟩ := h; exact cmpB_append w r
theorem least_le {w p : List UInt8} (h : w <+: p) (he : p.length % 2 = 0) : cmpB (leastB w) p ≤ 0 := by
  unfold leastB
  split
  · obtain ⟨r, rfl⟩ := h
    rw [cmp_app]
    cases r with
    | nil => rw [List.append_nil] at he; omega
    | cons x r =>
      rw [cmpB_cons]
      split
      · exact cmpB_append [] r
      · rename_i hx
        split
        · omega
        · rename_i h2
          have : (0 : UInt8).toNat = 0 := rfl
          exact absurd (UInt8.toNat_inj.1 (by omega)) hx
  · exact pre_le h
theorem least_pre (p : List UInt8) : p <+: leastB p := by
  unfold leastB
  split
  · exact List.prefix_append _ _
  · exact List.prefix_rfl
theorem least_even (p : List UInt8) : (leastB p).length % 2 = 0 := by
  unfold leastB
  split
  · rw [List.length_append]; simp; omega
  · omega
theorem least_mono {w p : List UInt8} (h : w <+: p) : cmpB (leastB w) (leastB p) ≤ 0 := least_le (h.trans (least_pre p)) (least_even p)
theorem lt_far : ∀ {w lo : List UInt8} (r : List UInt8), cmpB w lo < 0 → ¬ w <+: lo → cmpB (w ++ r) lo < 0
  | [], lo, r, h, hn => absurd List.nil_prefix hn
  | x :: w, [], r, h, hn => by rw [cmpB_cons_nil] at h; omega
  | x :: w, y :: lo, r, h, hn => by
    rw [List.cons_append, cmpB_cons]
    rw [cmpB_cons] at h
    by_cases e : x = y
    · rw [if_pos e] at h ⊢
      subst e
      exact lt_far r h fun hp => hn (List.cons_prefix_cons.2 ⟨rfl, hp⟩)
    · rw [if_neg e] at h ⊢
      exact h
theorem late_mono {w p lo : List UInt8} (h : w <+: p) (hl : 0 ≤ cmpB p lo ∨ p <+: lo) : 0 ≤ cmpB w lo ∨ w <+: lo := by
  rcases hl with hl | hl
  · by_cases hw : w <+: lo
    · exact .inr hw
    · left
      obtain ⟨r, rfl⟩ := h
      rcases Int.lt_or_le (cmpB w lo) 0 with hc | hc
      · have := lt_far r hc hw; omega
      · exact hc
  · exact .inr (h.trans hl)
theorem meets_mono {s : Span} {w p : List UInt8} (h : w <+: p) (hm : meetsB s p = true) : meetsB s w = true := by
  unfold meetsB at *
  simp only [Bool.and_eq_true, Bool.or_eq_true, decide_eq_true_eq] at *
  refine ⟨late_mono h hm.1, ?_⟩
  rcases hm.2 with h2 | h2
  · exact .inl h2
  · exact .inr (le_lt (least_mono h) h2)
theorem has_meets {s : Span} {w p : List UInt8} (h : w <+: p) (he : p.length % 2 = 0) (hm : hasB s p = true) : meetsB s w = true := by
  unfold hasB at hm
  unfold meetsB
  simp only [Bool.and_eq_true, Bool.or_eq_true, decide_eq_true_eq] at *
  refine ⟨late_mono h (.inl hm.1), ?_⟩
  rcases hm.2 with h2 | h2
  · exact .inl h2
  · exact .inr (le_lt (least_le h he) h2)
/-- What an item is to a range. -/
def selS (s : Span) (x : It) : Option Fnd := match x.stub with
  | true => if meetsB s x.path = true then some (.miss x.path) else none
  | false => if hasB s x.path = true then some (.pair ⟨bytesL x.path, x.val⟩) else none
def EvI (l : List It) : Prop := ∀ y ∈ l, y.stub = false → y.path.length % 2 = 0
theorem sel_none {s : Span} {w : List UInt8} {l : List It} (hm : meetsB s w = false) (hp : ∀ y ∈ l, w <+: y.path) (he : EvI l) : l.filterMap (selS s) = [] := by
  rw [List.filterMap_eq_nil_iff]
  intro y hy
  unfold selS
  cases hs : y.stub with
  | true =>
    dsimp only
    rw [if_neg]
    intro h
    rw [meets_mono (hp y hy) h] at hm; cases hm
  | false =>
    dsimp only
    rw [if_neg]
    intro h
    rw [has_meets (hp y hy) (he y hy hs) h] at hm; cases hm
theorem kids_walk {s : Span} {ks : List Nd} {kn : Bool} {at_ : List UInt8} : ∀ (i : Nat), (∀ k ∈ ks, ∀ way, EvI (itemsP k way kn) → walkP s false k way = (itemsP k way kn).filterMap (selS s)) → EvI (itemsK ks true kn i at_) → (walkK s false ks true i at_).flatten = (itemsK ks true kn i at_).filterMap (selS s) := by
  induction ks with
  | nil => intro i _ _; rw [walkK, itemsK]; rfl
  | cons t ks ih =>
    intro i h he
    rw [itemsK] at he
    rw [walkK, itemsK, List.flatten_cons, List.filterMap_append, h t (by simp) _ (fun y hy => he y (List.mem_append_left _ hy)), ih (i + 1) (fun k hk => h k (by simp [hk])) (fun y hy => he y (List.mem_append_right _ hy))]
theorem walk_items {s : Span} {even : Bool} {t : Nd} {d : Nat} (hv : Val even t d) : ∀ (way : List UInt8) (kn : Bool), EvI (itemsP t way kn) → walkP s false t way = (itemsP t way kn).filterMap (selS s) := by
  induction hv with
  | none => intro way kn _; rw [items_none]; unfold noneN; rw [walkP, if_pos (.inl rfl)]; rfl
  | leaf d p v =>
    intro way kn he
    rw [items_leaf] at he ⊢
    rw [walkP]
    cases hm : meetsB s (way ++ p) with
    | false =>
      rw [if_pos (.inr rfl), sel_none hm (fun y hy => by simp only [List.mem_singleton] at hy; subst hy; exact List.prefix_rfl) he]
    | true =>
      rw [if_neg (by simp), if_neg (by decide), walkK, List.flatten_nil, List.append_nil]
      unfold ownF selS
      cases hh : hasB s (way ++ p) <;> simp [hh, Nd.kind, Nd.has, Nd.val]
  | stub d h =>
    intro way kn he
    rw [items_stub] at he ⊢
    rw [walkP, List.append_nil]
    cases hm : meetsB s way with
    | false => rw [if_pos (.inr rfl), sel_none hm (fun y hy => by simp only [List.mem_singleton] at hy; subst hy; exact List.prefix_rfl) he]
    | true => rw [if_neg (by simp), if_pos rfl]; unfold selS; simp [hm]
  | way d p k hd hp h0 hk hr ih =>
    intro way kn he
    rw [items_way] at he ⊢
    rw [walkP]
    cases hm : meetsB s (way ++ p) with
    | false => rw [if_pos (.inr rfl), sel_none hm (fun y hy => (List.prefix_append _ _).trans (items_pre k _ _ y hy)) he]
    | true =>
      rw [if_neg (by simp), if_neg (by decide)]
      have ho : ownF (.mk 2 p false [] [k] []) s (way ++ p) = [] := if_pos (.inl ⟨by simp [Nd.kind], rfl⟩)
      rw [ho, List.nil_append, walkK, walkK, ← ih (way ++ p) true he]
      simp
  | branch d has v ks hd hv hv0 he' h16 hr hm ih =>
    intro way kn he
    rw [items_br] at he ⊢
    rw [walkP, List.append_nil]
    cases hmt : meetsB s way with
    | false =>
      rw [if_pos (.inr rfl), sel_none hmt (fun y hy => ?_) he]
      rcases List.mem_append.1 hy with hy | hy
      · unfold ownI at hy
        cases has with
        | true => simp only [if_pos, List.mem_singleton] at hy; subst hy; exact List.prefix_rfl
        | false => cases hy
      · obtain ⟨j, k, _, h2⟩ := kid_mem hy
        exact (List.prefix_append _ _).trans (kid_pre h2)
    | true =>
      rw [if_neg (by simp), if_neg (by decide), List.filterMap_append]
      rw [show decide ((3 : Int) = 3) = true from rfl, kids_walk 0 (fun k hk way h => ih k hk way false h) (fun y hy => he y (List.mem_append_right _ hy))]
      congr 1
      unfold ownF ownI
      cases has with
      | false => rw [if_pos (.inl ⟨by simp [Nd.kind], rfl⟩)]; rfl
      | true =>
        cases hh : hasB s way <;> simp [hh, Nd.kind, Nd.has, Nd.val, selS]
mutual
theorem walk_back (s : Span) : ∀ (t : Nd) (way : List UInt8), walkP s true t way = (walkP s false t way).reverse
  | .mk k p has v ks hs, way => by
    have h := walkK_back s ks (decide (k = 3)) 0 (way ++ p)
    have ho : (ownF (.mk k p has v ks hs) s (way ++ p)).reverse = ownF (.mk k p has v ks hs) s (way ++ p) := by unfold ownF; split <;> rfl
    rw [walkP, walkP]
    split
    · rfl
    · split
      · rfl
      · rw [List.reverse_append, ho, h, List.reverse_flatten]
theorem walkK_back (s : Span) : ∀ (ks : List Nd) (br : Bool) (i : Nat) (at_ : List UInt8), walkK s true ks br i at_ = (walkK s false ks br i at_).map List.reverse
  | [], _, _, _ => by rw [walkK, walkK]; rfl
  | t :: ts, br, i, at_ => by rw [walkK, walkK, List.map_cons, walk_back s t, walkK_back s ts]
end
end Go.Proofs.Ytkfbkhahkkmcoaa
namespace Go.Proofs.Ytkfbkhahkkmcoaa
open Go.RowKit
theorem late_take : ∀ (w lo : List UInt8), (¬ cmpB (w.take (min w.length lo.length)) (lo.take (min w.length lo.length)) < 0) ↔ (0 ≤ cmpB w lo ∨ w <+: lo)
  | [], lo => by simp [cmpB_nil]
  | x :: w, [] => by
    rw [cmpB_cons_nil]
    simp [cmpB_nil]
  | x :: w, y :: lo => by
    have ih := late_take w lo
    rw [List.length_cons, List.length_cons, Nat.add_min_add_right, List.take_succ_cons, List.take_succ_cons, cmpB_cons, cmpB_cons, List.cons_prefix_cons]
    by_cases e : x = y
    · rw [if_pos e, if_pos e]
      simp only [e, true_and]
      exact ih
    · rw [if_neg e, if_neg e]
      by_cases h : x.toNat < y.toNat
      · rw [if_pos h]; simp [e]
      · rw [if_neg h]; simp
def mightR (w lo hi : List UInt8) (op : Bool) : Bool := !decide (cmpB (w.take (min w.length lo.length)) (lo.take (min w.length lo.length)) < 0) && (op || decide (cmpB (leastB w) hi < 0))
theorem might_meets (s : Span) (w : List UInt8) : mightR w s.lo s.hi s.op = meetsB s w := by
  unfold mightR meetsB
  congr 1
  rw [Bool.eq_iff_iff]
  simp only [Bool.not_eq_true', decide_eq_false_iff_not, Bool.or_eq_true, decide_eq_true_eq]
  exact late_take w s.lo
def inR (key low high : List UInt8) : Bool := decide (0 ≤ cmpB key low) && (decide (high.length = 0) || decide (cmpB key high < 0))
theorem has_in {low high p : List UInt8} (h : ofB (bytesL p) = p) : hasB (ofS low high) p = inR (bytesL p) low high := by
  unfold hasB inR ofS
  dsimp only
  conv => lhs; rw [← h]
  rw [cmpB_ofB, cmpB_ofB]
/-- The reference's loop, over the items in whichever order. -/
def rGo (low high : List UInt8) (most : Int) : List It → List Pr → PairsR
  | [], out => ⟨out, none, 0⟩
  | x :: l, out => if (out.length : Int) < most then
      (if x.stub = true ∧ mightR x.path (ofB low) (ofB high) (decide (high.length = 0)) = true then ⟨[], some x.path, 80⟩
       else rGo low high most l (if x.stub = false ∧ inR (bytesL x.path) low high = true then out ++ [⟨bytesL x.path, x.val⟩] else out))
    else ⟨out, none, 0⟩
theorem goF_pairs (most : Int) (ps : List Pr) : goF most (ps.map Fnd.pair) = decide ((ps.length : Int) ≠ most) := by
  unfold goF; rw [all_map, Bool.true_and, List.length_map]
theorem end_pairs (ps : List Pr) : endF (ps.map Fnd.pair) = ⟨ps, none, 0⟩ := by unfold endF; rw [missF_map, prsF_map]
theorem rGo_full (low high : List UInt8) (most : Int) (l : List It) (out : List Pr) (h : ¬ (out.length : Int) < most) : rGo low high most l out = ⟨out, none, 0⟩ := by
  cases l with
  | nil => rfl
  | cons x l => rw [rGo, if_neg h]
theorem feed_rGo (low high : List UInt8) (most : Int) : ∀ (l : List It) (ps : List Pr), (ps.length : Int) < most → (∀ x ∈ l, x.stub = false → ofB (bytesL x.path) = x.path) →
    endF (feed (goF most) (ps.map Fnd.pair) (l.filterMap (selS (ofS low high)))).1 = rGo low high most l ps
  | [], ps, h, _ => by rw [List.filterMap_nil]; exact end_pairs ps
  | x :: l, ps, h, he => by
    have ih := fun ps h => feed_rGo low high most l ps h (fun y hy => he y (by simp [hy]))
    have hm : mightR x.path (ofB low) (ofB high) (decide (high.length = 0)) = meetsB (ofS low high) x.path := might_meets (ofS low high) x.path
    rw [rGo, if_pos h, hm, List.filterMap_cons]
    unfold selS
    cases hs : x.stub with
    | true =>
      dsimp only
      cases hb : meetsB (ofS low high) x.path with
      | true =>
        rw [if_pos rfl, if_pos ⟨rfl, rfl⟩]
        dsimp only
        have hg : goF most (ps.map Fnd.pair ++ [.miss x.path]) = false := by unfold goF; rw [all_snoc]; rfl
        rw [feed, hg]
        dsimp only
        unfold endF
        rw [missF_snoc]
      | false =>
        rw [if_neg (by simp), if_neg (by simp), if_neg (by simp)]
        exact ih ps h
    | false =>
      dsimp only
      rw [has_in (he x (by simp) hs), if_neg (show ¬ (false = true ∧ meetsB (ofS low high) x.path = true) by simp)]
      cases hb : inR (bytesL x.path) low high with
      | true =>
        rw [if_pos rfl, if_pos ⟨rfl, rfl⟩]
        dsimp only
        have hmap : ps.map Fnd.pair ++ [.pair ⟨bytesL x.path, x.val⟩] = (ps ++ [(⟨bytesL x.path, x.val⟩ : Pr)]).map Fnd.pair := by rw [List.map_append]; rfl
        have hl : (ps ++ [(⟨bytesL x.path, x.val⟩ : Pr)]).length = ps.length + 1 := by simp
        rw [feed, hmap, goF_pairs, hl]
        by_cases hq : ((ps.length + 1 : Nat) : Int) = most
        · rw [decide_eq_false (by omega)]
          dsimp only
          rw [end_pairs, rGo_full _ _ _ _ _ (by rw [hl]; omega)]
        · rw [decide_eq_true hq]
          dsimp only
          exact ih _ (by rw [hl]; omega)
      | false =>
        rw [if_neg (by simp), if_neg (by simp)]
        exact ih ps h
/-- The program's Range is the reference's. -/
theorem some_ref {t : Nd} (hv : Val true t 0) (low high : List UInt8) (most : Int) (back : Bool) (h0 : 0 < most) :
    endF (feed (goF most) [] (walkP (ofS low high) back t [])).1 = rGo low high most (match back with | false => itemsP t [] true | true => (itemsP t [] true).reverse) [] := by
  have hev : ∀ x ∈ itemsP t [] true, x.path.length % 2 = 0 ∧ halvesB x.path = true ∨ x.stub = true := by
    intro x hx
    obtain ⟨r, hr, hh, hp⟩ := items_even hv [] true x hx
    cases hs : x.stub with
    | true => exact .inr rfl
    | false =>
      left
      rw [hr, List.nil_append]
      have := (hp hs).1
      exact ⟨by omega, hh⟩
  have hE : EvI (itemsP t [] true) := fun y hy hs => by
    rcases hev y hy with h | h
    · exact h.1
    · rw [hs] at h; cases h
  have hO : ∀ x ∈ itemsP t [] true, x.stub = false → ofB (bytesL x.path) = x.path := fun x hx hs => by
    rcases hev x hx with h | h
    · rw [(bytesE_ok h.2 h.1).2]; exact ofB_joinB _ h.2 h.1
    · rw [hs] at h; cases h
  cases back with
  | false =>
    rw [walk_items hv [] true hE]
    exact feed_rGo low high most _ [] h0 hO
  | true =>
    rw [walk_back, walk_items hv [] true hE, ← List.filterMap_reverse]
    exact feed_rGo low high most _ [] h0 (fun x hx => hO x (List.mem_reverse.1 hx))
/-- The reference's Range. -/
def rangeR (t : Nd) (low high : List UInt8) (most : Int) (back : Bool) : PairsR :=
  if checkE t = 0 then (if most < 0 then ⟨[], none, 2⟩ else rGo low high most (match back with | false => itemsP t [] true | true => (itemsP t [] true).reverse) []) else ⟨[], none, 2⟩
theorem val_of_check {t : Nd} (h : checkE t = 0) : Val true t 0 := by
  refine val_of_right true (sz t + 1) t 0 (by omega) ?_
  unfold checkE at h
  cases hr : rightP true t 0 with
  | true => rfl
  | false => rw [hr] at h; simp at h
theorem range_ref (t : Nd) (low high : List UInt8) (most : Int) (back : Bool) : rangeP t low high most back = rangeR t low high most back := by
  unfold rangeP rangeR someP
  by_cases hc : checkE t = 0
  · rw [if_pos hc, if_pos hc]
    by_cases hm : most < 0
    · rw [if_pos hm, if_pos hm]
    · rw [if_neg hm, if_neg hm]
      by_cases h0 : most = 0
      · rw [if_pos h0, rGo_full _ _ _ _ _ (by rw [h0]; simp)]
      · rw [if_neg h0]
        exact some_ref (val_of_check hc) low high most back (by omega)
  · rw [if_neg hc, if_neg hc]
end Go.Proofs.Ytkfbkhahkkmcoaa
