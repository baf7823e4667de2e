/- A node, a pair, and rows of them, that came in, opened. No walk here. The walks of the laws TrieGets and TriePuts. Tries without stubs, plainly, as rising rows of pairs. No walk here. Tries without stubs, plainly: what Get, Put, Drop, Pairs, Of answer of them. No walk here. The walk of the law TrieTwo. The walks of the laws TrieOf and TrieDigest. law08: folded. The walks of slices.EqualFunc over nodes, for any function; of node.Same. -/
import Derived.Test.YtojjfkbffjkojaaDoorG20
import Derived.Test.YtojjfkbffjkojaaDoorG08
import Derived.Test.YtojjfkbffjkojaaDoorG17
import Derived.Test.YtojjfkbffjkojaaDoorG09
import Derived.Test.YtojjfkbffjkojaaDoorG05
import Derived.Test.YtojjfkbffjkojaaDoorG07
namespace Go.Proofs.YtojjfkbffjkojaaDoor
open Go.ChangeShapes Go.WideShapes Go.ChangeAt Go.RowKit
section
variable {H : Type} {enc : TypeId × Value → H} {W : World}
theorem rdD_elts {α : Type} (dE : α → List D) (s : Nat) (hd : ∀ a, (dE a).length = s) {P : Nat → α → Prop} {F : Nat → Prop} {b off : Nat} : ∀ (n : Nat), (∀ i, i < n → ∃ a es, P i a ∧ RdL W F (dE a) es ∧ ∀ j u, es[j]? = some u → W.cell? ⟨b, off + i * s + j, none⟩ = some u) →
    ∃ (l : List α) (cs : List Value), l.length = n ∧ (∀ i a, l[i]? = some a → P i a) ∧ RdL W F (l.flatMap dE) cs ∧ ∀ j u, cs[j]? = some u → W.cell? ⟨b, off + j, none⟩ = some u
  | 0, _ => ⟨[], [], rfl, (fun i a h => by simp at h), RdL.nil_, fun j u h => by simp at h⟩
  | n + 1, h => by
    obtain ⟨l, cs, h1, h2, h3, h4⟩ := rdD_elts dE s hd n (fun i hi => h i (by omega))
    obtain ⟨a, es, k1, k2, k3⟩ := h n (by omega)
    have hl : cs.length = n * s := by
      rw [h3.len, ← h1]
      clear h1 h2 h3 h4
      induction l with
      | nil => simp
      | cons x l ih => rw [List.flatMap_cons, List.length_append, ih, hd, List.length_cons, Nat.succ_mul]; omega
    refine ⟨l ++ [a], cs ++ es, by simp [h1], fun i x hx => ?_, by rw [List.flatMap_append]; simp only [List.flatMap_cons, List.flatMap_nil, List.append_nil]; exact h3.app k2, fun j u hu => ?_⟩
    · by_cases hi : i < n
      · rw [List.getElem?_append_left (by omega)] at hx; exact h2 i x hx
      · have hin : i = n := by
          have := (List.getElem?_eq_some_iff.1 hx).1
          simp [h1] at this; omega
        subst hin
        rw [List.getElem?_append_right (by omega), h1, Nat.sub_self] at hx
        simp at hx
        subst hx
        exact k1
    · by_cases hj : j < n * s
      · rw [List.getElem?_append_left (by omega)] at hu; exact h4 j u hu
      · rw [List.getElem?_append_right (by omega), hl] at hu
        have := k3 _ u hu
        rw [show off + n * s + (j - n * s) = off + j by omega] at this
        exact this
/-- A row whose elements read as data. -/
theorem trod_elts {α : Type} (dE : α → List D) (s : Nat) (hd : ∀ a, (dE a).length = s) (hs : 0 < s) {P : DataW H → α → Prop} {ts te : TypeId} (hT : Tryd.prog.underlying ts = some (.slice te)) (hc : Program.cellsOf Tryd.prog te = s) {fuel : Nat} {cs : List Value} {x : DataW H × List MemPlace}
    (hf : DataW.trod enc Tryd.prog W 0 (fun _ => true) true fuel ts cs = some x) (hlt : ∀ q ∈ x.2, q.block < W.heap.size)
    (he : ∀ m cs' y, m < fuel → DataW.trod enc Tryd.prog W 0 (fun _ => true) true m te cs' = some y → (∀ q ∈ y.2, q.block < W.heap.size) → ∃ a, P y.1 a ∧ RdL W (Fd W []) (dE a) cs') :
    ∃ (A : Option Addr) (n c : Nat) (l : List α) (ds rest : List (DataW H)), cs = [.slice A n c] ∧ (x.1 = .slice ds rest ∨ (x.1 = .nil ∧ ds = [])) ∧ l.length = n ∧ l.length = ds.length ∧ (∀ (i : Nat) (a : α) (d : DataW H), l[i]? = some a → ds[i]? = some d → P d a) ∧ RdD W (Fd W []) (.sl s n (l.flatMap dE)) (.slice A n c) := by
  rcases DataW.trod_slice hT hf with ⟨hcs, hx⟩ | ⟨a, l, c, elems, rest, m, hm0, hcs, hx, _, hl, hm, hlen, hel, _⟩
  · subst hx
    exact ⟨none, 0, 0, [], [], [], hcs, .inr ⟨rfl, rfl⟩, rfl, rfl, (fun i a d h => by cases h), RdD.nil_ _ _⟩
  · subst hx
    dsimp only at hlt ⊢
    have each : ∀ i, i < l → ∃ (u : α) (es : List Value), (∀ y, elems[i]? = some y → P y.1 u) ∧ RdL W (Fd W []) (dE u) es ∧ es.length = s ∧ ∀ j, j < s → W.cell? ((a.add (i * s)).add j) = es[j]? := by
      intro i hi
      have hE := hel i hi
      rw [hc, List.getElem?_eq_getElem (by omega), Option.bind_eq_some_iff] at hE
      obtain ⟨cs', hcs', hy⟩ := hE
      obtain ⟨u, h1, h2⟩ := he m cs' _ (by omega) hy (fun q hq => hlt q (List.mem_append_right _ (List.mem_flatMap.2 ⟨elems[i]'(by omega), List.mem_append_left _ (List.getElem_mem _), hq⟩)))
      obtain ⟨_, hc1, hc2⟩ := World.cells?_some hcs'
      have hcl : cs'.length = s := by rw [h2.len, hd]
      refine ⟨u, cs', fun y hy2 => ?_, h2, hcl, fun j hj => ?_⟩
      · rw [List.getElem?_eq_getElem (by omega)] at hy2
        injection hy2 with hy2
        subst hy2
        exact h1
      · exact hc2 j (by omega)
    by_cases h0 : l = 0
    · subst h0
      refine ⟨some a, 0, c, [], [], rest.map (·.1), hcs, .inl ?_, rfl, rfl, (fun i a d h => by cases h), RdD.nil_ _ _⟩
      rw [List.eq_nil_of_length_eq_zero hlen]; rfl
    · obtain ⟨b, off, spot⟩ := a
      obtain ⟨u0, es0, _, k2, k3, k4⟩ := each 0 (by omega)
      have hspot : spot = none := by
        have := k4 0 hs
        rw [List.getElem?_eq_getElem (by omega)] at this
        simpa [Addr.add] using World.cell?_spot this
      subst hspot
      have hbW : b < W.heap.size := hlt (.cell b off) (List.mem_append_left _ (MemPlace.mem_row.2 ⟨0, by rw [hc, hlen]; exact Nat.mul_pos (by omega) hs, by simp⟩))
      obtain ⟨ul, us, e1, e2, e3, e4⟩ := rdD_elts (P := fun i u => ∀ y, elems[i]? = some y → P y.1 u) (F := Fd W []) (b := b) (off := off) dE s hd l (fun i hi => by
        obtain ⟨u, es, f1, f2, f3, f4⟩ := each i hi
        refine ⟨u, es, f1, f2, fun j v hv => ?_⟩
        have := f4 j (by have := (List.getElem?_eq_some_iff.1 hv).1; omega)
        rw [Addr.add_lit, Addr.add_lit, hv] at this
        exact this)
      refine ⟨some ⟨b, off, none⟩, l, c, ul, elems.map (·.1), rest.map (·.1), hcs, .inl rfl, e1, by simp [e1, hlen], fun i u d h1 h2 => ?_, ?_⟩
      · rw [List.getElem?_map] at h2
        obtain ⟨y, hy, rfl⟩ := Option.map_eq_some_iff.1 h2
        exact e2 i u h1 y hy
      · refine RdD.sl_iff.2 ⟨_, c, us, rfl, hl, ?_, e3, fun _ => ⟨b, off, rfl, ⟨hbW, by simp⟩, e4⟩⟩
        rw [← e1]
        clear e1 e2 e3 e4
        induction ul with
        | nil => simp
        | cons x ul ih => rw [List.flatMap_cons, List.length_append, ih, hd, List.length_cons, Nat.succ_mul]; omega
theorem bulk_sums {α : Type} (f : α → Nat) : ∀ (ll : List α) (ds : List (DataW H)), ll.length = ds.length → (∀ (i : Nat) (l : α) (d : DataW H), ll[i]? = some l → ds[i]? = some d → f l ≤ Rows.uptoBulk d) → (ll.map f).sum ≤ Rows.uptoBulkAll ds
  | [], ds, h, _ => Nat.zero_le _
  | l :: ll, [], h, _ => by simp at h
  | l :: ll, d :: ds, h, k => by
    have h0 := k 0 l d rfl rfl
    have := bulk_sums f ll ds (by simpa using h) (fun i l' d' h1 h2 => k (i + 1) l' d' (by simpa using h1) (by simpa using h2))
    show _ ≤ Rows.uptoBulk d + Rows.uptoBulkAll ds
    rw [List.map_cons, List.sum_cons]; omega
set_option maxRecDepth 100000 in
theorem bytes_trod {fuel : Nat} {cs : List Value} {x : DataW H × List MemPlace} (hf : DataW.trod enc Tryd.prog W 0 (fun _ => true) true fuel 23 cs = some x) (hlt : ∀ q ∈ x.2, q.block < W.heap.size) :
    ∃ l u, cs = [u] ∧ RdD W (Fd W []) (dB l) u ∧ l.length + 1 ≤ Rows.uptoBulk x.1 := by
  obtain ⟨A, n, c, l, rfl, hr, hc, _, hb, _⟩ := rd_trod (d := x.1) (p := x.2) hf hlt
  exact ⟨l, _, rfl, RdD.ofbytes hr hc (fun b off _ h => ⟨h, by simp⟩), hb⟩
theorem c1bytes : Program.cellsOf Tryd.prog 23 = 1 := by kernel_rfl
theorem list2 {α : Type} {l : List α} (h : l.length = 2) : ∃ a b, l = [a, b] := by
  match l, h with
  | [a, b], _ => exact ⟨a, b, rfl⟩
theorem c2pair : Program.cellsOf Tryd.prog 68 = 2 := by kernel_rfl
set_option maxRecDepth 100000 in
theorem pair_trod (fuel : Nat) (cs : List Value) (x : DataW H × List MemPlace) (hf : DataW.trod enc Tryd.prog W 0 (fun _ => true) true fuel 68 cs = some x) (hlt : ∀ q ∈ x.2, q.block < W.heap.size) :
    ∃ t : Pr, t.k.length + t.v.length + 3 ≤ Rows.uptoBulk x.1 ∧ RdL W (Fd W []) (dPr t) cs := by
  obtain ⟨xs, n, rfl, rfl, hl, hlen, hfs⟩ := DataW.trod_struct Tryd.underlying68 hf
  rw [c2pair] at hl
  obtain ⟨a0, a1, rfl⟩ := list2 hl
  obtain ⟨y0, y1, rfl⟩ := list2 (show xs.length = 2 from hlen)
  have h0 : DataW.trod enc Tryd.prog W 0 (fun _ => true) true n 23 [a0] = some y0 := by have := (show DataW.trod enc Tryd.prog W 0 (fun _ => true) true n 23 (([a0, a1].drop 0).take (Program.cellsOf Tryd.prog 23)) = some y0 from hfs 0 _ rfl); rw [c1bytes] at this; exact this
  have h1 : DataW.trod enc Tryd.prog W 0 (fun _ => true) true n 23 [a1] = some y1 := by have := (show DataW.trod enc Tryd.prog W 0 (fun _ => true) true n 23 (([a0, a1].drop 1).take (Program.cellsOf Tryd.prog 23)) = some y1 from hfs 1 _ rfl); rw [c1bytes] at this; exact this
  have hq : ∀ y ∈ [y0, y1], ∀ q ∈ y.2, q.block < W.heap.size := fun y hy q hq => hlt q (List.mem_flatMap.2 ⟨y, hy, hq⟩)
  obtain ⟨k, u0, e0, r0, b0⟩ := bytes_trod h0 (hq y0 (by simp))
  obtain ⟨v, u1, e1, r1, b1⟩ := bytes_trod h1 (hq y1 (by simp))
  injection e0 with e0
  injection e1 with e1
  subst e0; subst e1
  refine ⟨⟨k, v⟩, ?_, RdL.cons r0 (RdL.cons r1 RdL.nil_)⟩
  show k.length + v.length + 3 ≤ Rows.uptoBulk y0.1 + (Rows.uptoBulk y1.1 + 0) + 1
  omega
set_option maxRecDepth 100000 in
/-- A row of pairs that came in. -/
theorem prs_open {base : Nat} {v : Value} {d : DataW H} {p : List MemPlace} (hv : Value.okWide Tryd.prog W .any base 22 v)
    (h : DataW.Trod enc Tryd.prog W 0 (fun _ => true) true 22 v d p) : ∃ A n c l, v = .slice A n c ∧ RdD W (Fd W []) (dPl l) (.slice A n c) ∧ (l.map fun t => t.k.length + t.v.length + 3).sum + 1 ≤ Rows.uptoBulk d := by
  obtain ⟨a0, len, cap, rfl⟩ := okWide_slice Tryd.underlying22 hv
  have hlt : ∀ x ∈ p, x.block < W.heap.size := by obtain ⟨m, hm⟩ := h; exact DataW.trod_lt m _ _ _ hm
  obtain ⟨fuel, hf⟩ := h
  obtain ⟨A, m, c, ks, ds, rest, e4, hd4, l1, l2, hP, r4⟩ := trod_elts (x := (d, p)) dPr 2 (fun _ => rfl) (by decide) (P := fun d (t : Pr) => t.k.length + t.v.length + 3 ≤ Rows.uptoBulk d) Tryd.underlying22 c2pair hf hlt (fun m cs' y hm hy hyq => pair_trod m cs' y hy hyq)
  simp [Value.cells] at e4
  obtain ⟨rfl, rfl, rfl⟩ := e4
  have hks := bulk_sums (fun t : Pr => t.k.length + t.v.length + 3) ks ds l2 (fun i l d a b => hP i l d a b)
  refine ⟨_, _, _, ks, rfl, by rw [← l1] at r4 ⊢; exact r4, ?_⟩
  dsimp only at hd4
  rcases hd4 with h | ⟨h, e⟩
  · rw [h]
    show _ ≤ Rows.uptoBulkAll ds + Rows.uptoBulkAll rest + 1
    omega
  · rw [h]
    rw [e] at hks
    have : Rows.uptoBulkAll ([] : List (DataW H)) = 0 := rfl
    show _ ≤ 1
    omega
end
end Go.Proofs.YtojjfkbffjkojaaDoor
namespace Go.Proofs.YtojjfkbffjkojaaDoor
open Go.RowKit
section
variable {w W W' : World} {gs : List (Option Nat)} {L : Lc} {R : List Row} {fs : List Fact} {d d' : D} {u u' : Value}
theorem missOk.toD {F : Nat → Prop} {m : Option (List UInt8)} {A : Option Addr} {n c : Nat} (h : missOk W F [] m A n c) : RdD W F (dB (m.getD [])) (.slice A n c) := by
  unfold missOk at h
  cases m with
  | none =>
    obtain ⟨rfl, rfl, rfl⟩ := h
    exact RdD.nil_ _ _
  | some r => exact h.2
end
end Go.Proofs.YtojjfkbffjkojaaDoor
namespace Go.Proofs.YtojjfkbffjkojaaDoor
theorem cmp_app (w a b : List UInt8) : cmpB (w ++ a) (w ++ b) = cmpB a b := by
  induction w with
  | nil => rfl
  | cons x w ih => rw [List.cons_append, List.cons_append, cmpB_cons, if_pos rfl, ih]
theorem cmp_zero : ∀ {a b : List UInt8}, cmpB a b = 0 ↔ a = b
  | [], [] => by simp [cmpB_nil]
  | [], y :: b => by rw [cmpB_nil_cons]; simp
  | x :: a, [] => by rw [cmpB_cons_nil]; simp
  | x :: a, y :: b => by
    rw [cmpB_cons]
    by_cases h : x = y
    · subst h
      rw [if_pos rfl, cmp_zero]; simp
    · rw [if_neg h]
      constructor
      · intro e; split at e <;> cases e
      · intro e; injection e with e; exact absurd e h
theorem cmp_self (a : List UInt8) : cmpB a a = 0 := cmp_zero.2 rfl
theorem cmp_trans : ∀ {a b c : List UInt8}, cmpB a b < 0 → cmpB b c < 0 → cmpB a c < 0
  | a, [], c, h, _ => by
    cases a with
    | nil => rw [cmpB_nil] at h; omega
    | cons x a => rw [cmpB_cons_nil] at h; omega
  | _, y :: b, [], _, h => by rw [cmpB_cons_nil] at h; omega
  | [], y :: b, z :: c, _, _ => by rw [cmpB_nil_cons]; decide
  | x :: a, y :: b, z :: c, h1, h2 => by
    rw [cmpB_cons] at h1 h2 ⊢
    by_cases e1 : x = y
    · subst e1
      rw [if_pos rfl] at h1
      by_cases e2 : x = z
      · rw [if_pos e2] at h2 ⊢; exact cmp_trans h1 h2
      · rw [if_neg e2] at h2 ⊢; exact h2
    · rw [if_neg e1] at h1
      have l1 : x.toNat < y.toNat := by split at h1; assumption; omega
      by_cases e2 : y = z
      · subst e2
        rw [if_neg e1, if_pos l1]; decide
      · rw [if_neg e2] at h2
        have l2 : y.toNat < z.toNat := by split at h2; assumption; omega
        have e3 : x ≠ z := fun e => by rw [e] at l1; omega
        rw [if_neg e3, if_pos (by omega)]; decide
theorem cmp_anti {a b : List UInt8} (h : cmpB a b < 0) : ¬ cmpB b a < 0 := fun k => by have := cmpB_symm a b; omega
theorem cmp_ne {a b : List UInt8} (h : cmpB a b < 0) : a ≠ b := fun e => by rw [e, cmp_self] at h; omega
theorem cmp_pre {w p : List UInt8} (h : w <+: p) (hn : w.length < p.length) : cmpB w p < 0 := by
  obtain ⟨r, rfl⟩ := h
  have := cmp_app w [] r
  rw [List.append_nil] at this
  rw [this]
  cases r with
  | nil => simp at hn
  | cons x r => rw [cmpB_nil_cons]; decide
theorem cmp_diff {w p q : List UInt8} {a b : UInt8} (hp : w ++ [a] <+: p) (hq : w ++ [b] <+: q) (h : a.toNat < b.toNat) : cmpB p q < 0 := by
  obtain ⟨r, rfl⟩ := hp
  obtain ⟨s, rfl⟩ := hq
  rw [List.append_assoc, List.append_assoc, cmp_app, List.singleton_append, List.singleton_append, cmpB_cons, if_neg (fun e => by rw [e] at h; omega), if_pos h]; decide
def Ris (l : List Pr) : Prop := l.Pairwise fun a b => cmpB a.k b.k < 0
theorem insP_mem : ∀ {l : List Pr} {p y : Pr}, Ris l → (y ∈ insP l p ↔ y = p ∨ (y ∈ l ∧ y.k ≠ p.k))
  | [], p, y, _ => by rw [insP]; simp
  | x :: r, p, y, h => by
    have h' := List.pairwise_cons.1 h
    rw [insP]
    split
    · rename_i h1
      have := insP_mem (l := r) (p := p) (y := y) h'.2
      rw [List.mem_cons, this, List.mem_cons]
      have hx := cmp_ne h1
      constructor
      · rintro (rfl | rfl | ⟨a, b⟩)
        · exact .inr ⟨.inl rfl, hx⟩
        · exact .inl rfl
        · exact .inr ⟨.inr a, b⟩
      · rintro (rfl | ⟨rfl | a, b⟩)
        · exact .inr (.inl rfl)
        · exact .inl rfl
        · exact .inr (.inr ⟨a, b⟩)
    · rename_i h1
      split
      · rename_i h2
        have e := cmp_zero.1 h2
        rw [List.mem_cons, List.mem_cons]
        constructor
        · rintro (rfl | a)
          · exact .inl rfl
          · have := cmp_ne (h'.1 y a)
            rw [e] at this
            exact .inr ⟨.inr a, fun e2 => this e2.symm⟩
        · rintro (rfl | ⟨rfl | a, b⟩)
          · exact .inl rfl
          · exact absurd e b
          · exact .inr a
      · rename_i h2
        have h3 : cmpB p.k x.k < 0 := by have := cmpB_symm p.k x.k; omega
        rw [List.mem_cons, List.mem_cons]
        constructor
        · rintro (rfl | rfl | a)
          · exact .inl rfl
          · exact .inr ⟨.inl rfl, fun e => cmp_ne h3 e.symm⟩
          · exact .inr ⟨.inr a, fun e => cmp_ne (cmp_trans h3 (h'.1 y a)) e.symm⟩
        · rintro (rfl | ⟨rfl | a, b⟩)
          · exact .inl rfl
          · exact .inr (.inl rfl)
          · exact .inr (.inr a)
theorem ins_ris : ∀ {l : List Pr} (p : Pr), Ris l → Ris (insP l p)
  | [], p, _ => List.pairwise_singleton _ _
  | x :: r, p, h => by
    have h' := List.pairwise_cons.1 h
    rw [insP]
    split
    · rename_i h1
      refine List.pairwise_cons.2 ⟨fun y hy => ?_, ins_ris p h'.2⟩
      rcases (insP_mem h'.2).1 hy with rfl | ⟨a, _⟩
      · exact h1
      · exact h'.1 y a
    · rename_i h1
      split
      · rename_i h2
        have e := cmp_zero.1 h2
        exact List.pairwise_cons.2 ⟨fun y hy => by rw [← e]; exact h'.1 y hy, h'.2⟩
      · rename_i h2
        have h3 : cmpB p.k x.k < 0 := by have := cmpB_symm p.k x.k; omega
        refine List.pairwise_cons.2 ⟨fun y hy => ?_, h⟩
        rcases List.mem_cons.1 hy with rfl | hy
        · exact h3
        · exact cmp_trans h3 (h'.1 y hy)
theorem ris_ext : ∀ {a b : List Pr}, Ris a → Ris b → (∀ y, y ∈ a ↔ y ∈ b) → a = b
  | [], [], _, _, _ => rfl
  | [], y :: b, _, _, h => by have := (h y).2 (by simp); cases this
  | x :: a, [], _, _, h => by have := (h x).1 (by simp); cases this
  | x :: a, y :: b, ha, hb, h => by
    have ha' := List.pairwise_cons.1 ha
    have hb' := List.pairwise_cons.1 hb
    have hxy : x = y := by
      rcases List.mem_cons.1 ((h x).1 (by simp)) with e | hx
      · exact e
      · rcases List.mem_cons.1 ((h y).2 (by simp)) with e | hy
        · exact e.symm
        · exact absurd (ha'.1 y hy) (cmp_anti (hb'.1 x hx))
    subst hxy
    congr 1
    refine ris_ext ha'.2 hb'.2 fun z => ?_
    constructor
    · intro hz
      rcases List.mem_cons.1 ((h z).1 (by simp [hz])) with rfl | h2
      · exact absurd rfl (cmp_ne (ha'.1 z hz))
      · exact h2
    · intro hz
      rcases List.mem_cons.1 ((h z).2 (by simp [hz])) with rfl | h2
      · exact absurd rfl (cmp_ne (hb'.1 z hz))
      · exact h2
def RisI (l : List It) : Prop := l.Pairwise fun a b => cmpB a.path b.path < 0
theorem kids_ris {ks : List Nd} {kn : Bool} {at_ : List UInt8} : ∀ (i : Nat), i + ks.length ≤ 16 → (∀ k ∈ ks, ∀ way, RisI (itemsP k way kn)) → RisI (itemsK ks true kn i at_) := by
  induction ks with
  | nil => intro i _ _; rw [itemsK]; exact List.Pairwise.nil
  | cons t ks ih =>
    intro i hi h
    rw [List.length_cons] at hi
    rw [itemsK]
    refine List.pairwise_append.2 ⟨h t (by simp) _, ih (i + 1) (by omega) (fun k hk => h k (by simp [hk])), fun x hx y hy => ?_⟩
    obtain ⟨j, k, h1, h2⟩ := itemsK_mem hy
    have hj := (List.getElem?_eq_some_iff.1 h1).1
    exact cmp_diff (kid_pre hx) (kid_pre h2) (by rw [ofNat_half (by omega), ofNat_half (by omega)]; omega)
theorem items_ris {even : Bool} {t : Nd} {d : Nat} (hv : Val even t d) : ∀ (way : List UInt8) (kn : Bool), RisI (itemsP t way kn) := by
  induction hv with
  | none => intro way kn; rw [items_none]; exact List.Pairwise.nil
  | leaf => intro way kn; rw [items_leaf]; exact List.pairwise_singleton _ _
  | stub => intro way kn; rw [items_stub]; exact List.pairwise_singleton _ _
  | way d p k hd hp h0 hk hr ih => intro way kn; rw [items_way]; exact ih _ _
  | branch d has v ks hd hv hv0 he h16 hr hm ih =>
    intro way kn
    rw [items_br]
    refine List.pairwise_append.2 ⟨?_, kids_ris 0 (by omega) (fun k hk way => ih k hk way false), fun x hx y hy => ?_⟩
    · unfold ownI
      cases has with
      | true => exact List.pairwise_singleton _ _
      | false => exact List.Pairwise.nil
    · have hxp : x.path = way := by
        unfold ownI at hx
        cases has with
        | true => simp only [if_pos, List.mem_singleton] at hx; subst hx; rfl
        | false => cases hx
      rw [hxp]
      obtain ⟨j, k, _, h2⟩ := kid_mem hy
      exact cmp_pre ((List.prefix_append _ _).trans (kid_pre h2)) (pre_at (kid_pre h2)).1
theorem items_even {t : Nd} {d : Nat} (hv : Val true t d) : ∀ (way : List UInt8) (kn : Bool), ∀ x ∈ itemsP t way kn, ∃ r, x.path = way ++ r ∧ halvesB r = true ∧ (x.stub = false → (d + r.length) % 2 = 0 ∧ x.known = false ∧ x.hash = []) := by
  have ends : ∀ {d : Nat}, endsP d true = true → d % 2 = 0 := fun h => by
    unfold endsP at h
    simp at h
    omega
  induction hv with
  | none => intro way kn x hx; rw [items_none] at hx; cases hx
  | leaf d p v hd hp hv he =>
    intro way kn x hx
    rw [items_leaf, List.mem_singleton] at hx
    subst hx
    exact ⟨p, rfl, hp, fun _ => ⟨ends he, rfl, rfl⟩⟩
  | stub d h hd hh =>
    intro way kn x hx
    rw [items_stub, List.mem_singleton] at hx
    subst hx
    exact ⟨[], by simp, rfl, fun h => by cases h⟩
  | way d p k hd hp h0 hk hr ih =>
    intro way kn x hx
    rw [items_way] at hx
    obtain ⟨r, h1, h2, h3⟩ := ih _ _ x hx
    exact ⟨p ++ r, by rw [h1, List.append_assoc], by rw [halvesB_app, hp, h2]; rfl, fun h => by
      rw [List.length_append, ← Nat.add_assoc]; exact h3 h⟩
  | branch d has v ks hd hv hv0 he h16 hr hm ih =>
    intro way kn x hx
    rw [items_br] at hx
    rcases List.mem_append.1 hx with hx | hx
    · unfold ownI at hx
      cases has with
      | true => simp only [if_pos, List.mem_singleton] at hx; subst hx; exact ⟨[], by simp, rfl, fun _ => ⟨ends (he rfl), rfl, rfl⟩⟩
      | false => cases hx
    · obtain ⟨j, k, h1, h2⟩ := kid_mem hx
      have hj : j < 16 := by have := (List.getElem?_eq_some_iff.1 h1).1; omega
      obtain ⟨r, k1, k2, k3⟩ := ih k (List.mem_of_getElem? h1) _ _ x h2
      refine ⟨UInt8.ofNat j :: r, by rw [k1, List.append_assoc]; rfl, ?_, fun h => ?_⟩
      · have := ofNat_half hj
        unfold halvesB at k2 ⊢
        simp only [List.all_cons, Bool.and_eq_true, decide_eq_true_eq]
        have h15 : (UInt8.ofNat j).toNat ≤ 15 := by omega
        exact ⟨h15, k2⟩
      · rw [List.length_cons, show d + (r.length + 1) = d + 1 + r.length by omega]; exact k3 h
theorem sf_items {even : Bool} {t : Nd} {d : Nat} (hv : Val even t d) : ∀ (way : List UInt8) (kn : Bool), sfB t = true ↔ ∀ x ∈ itemsP t way kn, x.stub = false := by
  induction hv with
  | none => intro way kn; rw [items_none]; simp [sf_none]
  | leaf d p v => intro way kn; rw [items_leaf]; simp [show sfB (.mk 1 p false v [] []) = true from sf_leaf p v]
  | stub d h => intro way kn; rw [items_stub, sfB_mk]; simp
  | way d p k hd hp h0 hk hr ih =>
    intro way kn
    rw [items_way, ← ih (way ++ p) true, sfB_mk, sfsB, sfsB]; simp
  | branch d has v ks hd hv hv0 he h16 hr hm ih =>
    intro way kn
    rw [items_br, sfB_mk, Bool.and_eq_true, sfsB_all]
    constructor
    · rintro ⟨_, h⟩ x hx
      rcases List.mem_append.1 hx with hx | hx
      · unfold ownI at hx
        cases has with
        | true => simp only [if_pos, List.mem_singleton] at hx; subst hx; rfl
        | false => cases hx
      · obtain ⟨j, k, h1, h2⟩ := kid_mem hx
        exact (ih k (List.mem_of_getElem? h1) _ _).1 (h k (List.mem_of_getElem? h1)) x h2
    · intro h
      refine ⟨by decide, fun k hk => ?_⟩
      obtain ⟨j, hj⟩ := List.getElem?_of_mem hk
      exact (ih k hk (way ++ [UInt8.ofNat j]) false).2 fun x hx => h x (List.mem_append_right _ (kid_of hj hx))
theorem ofB_inj {a b : List UInt8} (h : ofB a = ofB b) : a = b := by rw [← joinB_ofB a, h, joinB_ofB]
theorem itOf_inj {a b : Pr} (h : itOf a = itOf b) : a = b := by
  unfold itOf at h
  injection h with h1 h2
  obtain ⟨k, v⟩ := a
  obtain ⟨k', v'⟩ := b
  dsimp only at h1 h2
  rw [ofB_inj h1, h2]
/-- A trie without stubs that may be. -/
def Full (t : Nd) : Prop := Val true t 0 ∧ sfB t = true
def prsT (t : Nd) : List Pr := (pairsP t []).1
theorem rPairs_map : ∀ {l : List It}, (∀ x ∈ l, x.stub = false) → rPairsF l = (l.map fun x => ⟨bytesL x.path, x.val⟩, none)
  | [], _ => rfl
  | x :: l, h => by
    have := rPairs_map (l := l) (fun y hy => h y (by simp [hy]))
    rw [rPairsF, h x (by simp), this]; rfl
theorem full_pairs {t : Nd} (h : Full t) : (pairsP t []).2 = none ∧ prsT t = (itemsP t [] true).map fun x => ⟨bytesL x.path, x.val⟩ := by
  obtain ⟨h1, h2⟩ := pairs_items t [] true
  rw [rPairs_map ((sf_items h.1 [] true).1 h.2)] at h1 h2
  exact ⟨h1, h2 h1⟩
theorem prs_items {t : Nd} (h : Full t) : itemsP t [] true = (prsT t).map itOf := by
  rw [(full_pairs h).2, List.map_map]
  have : ∀ x ∈ itemsP t [] true, (itOf ∘ fun x : It => (⟨bytesL x.path, x.val⟩ : Pr)) x = x := fun x hx => by
    have hs := (sf_items h.1 [] true).1 h.2 x hx
    obtain ⟨r, h1, h2, h3⟩ := items_even h.1 [] true x hx
    obtain ⟨h4, h5, h6⟩ := h3 hs
    rw [List.nil_append] at h1
    obtain ⟨p, v, s, k, hh⟩ := x
    dsimp only at h1 hs h5 h6
    subst h1; subst hs; subst h5; subst h6
    show itOf ⟨bytesL p, v⟩ = _
    unfold itOf
    dsimp only
    rw [(bytesE_ok h2 (by omega)).2, ofB_joinB p h2 (by omega)]
  conv => lhs; rw [← List.map_id (itemsP t [] true)]
  exact List.map_congr_left fun x hx => (this x hx).symm
theorem prs_mem {t : Nd} (h : Full t) {p : Pr} : p ∈ prsT t ↔ itOf p ∈ itemsP t [] true := by
  rw [prs_items h, List.mem_map]
  constructor
  · intro hp; exact ⟨p, hp, rfl⟩
  · rintro ⟨q, hq, e⟩
    rw [← itOf_inj e]; exact hq
theorem prs_ris {t : Nd} (h : Full t) : Ris (prsT t) := by
  have := items_ris h.1 [] true
  rw [prs_items h] at this
  unfold RisI at this
  rw [List.pairwise_map] at this
  refine this.imp fun {a b} hab => ?_
  have e : cmpB (ofB a.k) (ofB b.k) < 0 := hab
  rw [cmpB_ofB] at e
  exact e
theorem build_prs {t : Nd} (h : Full t) {N : Nat} (hN : 401 ≤ N) : buildA N ((prsT t).map itOf) 0 = (t, none) := by
  rw [← prs_items h]
  have := build_like h.1 [] true _ N (Like.refl _) (fun x hx => by
    have := items_le h.1 [] true x hx
    rw [List.length_nil] at this ⊢; omega)
  rw [List.length_nil] at this
  exact this
theorem full_none : Full noneN := ⟨.none 0 (by decide), sf_none⟩
theorem prs_none : prsT noneN = [] := by rw [(full_pairs full_none).2, items_none]; rfl
theorem keep_itOf (k : List UInt8) (p : Pr) : keepI (ofB k) (itOf p) = decide (p.k ≠ k) := by
  unfold keepI itOf
  dsimp only
  rw [Bool.false_or]
  by_cases h : p.k = k
  · rw [h]; simp
  · have : ofB p.k ≠ ofB k := fun e => h (ofB_inj e)
    simp [h, this]
theorem put_prs {t : Nd} (h : Full t) {k v : List UInt8} (hk : k.length ≤ 200) (hl : v.length ≤ 4000) : (putP t (ofB k) v).2 = none ∧ Full (putP t (ofB k) v).1 ∧ prsT (putP t (ofB k) v).1 = insP (prsT t) ⟨k, v⟩ := by
  obtain ⟨hm, hs⟩ := sf_put h.1 h.2 (ofB k) v (halvesB_ofB k)
  obtain ⟨hv, hlike⟩ := put_sum h.1 hk hl hm
  have hf : Full (putP t (ofB k) v).1 := ⟨hv, hs⟩
  refine ⟨hm, hf, ris_ext (prs_ris hf) (ins_ris _ (prs_ris h)) fun y => ?_⟩
  rw [prs_mem hf, insP_mem (prs_ris h)]
  have up_it : ∀ {x z : It}, Up x z → ∀ {p : Pr}, (x = itOf p → z.known = false → z = itOf p) := fun hu p e hk => by
    subst e
    rename_i x z
    obtain ⟨a, b, c, d, e⟩ := z
    obtain ⟨u1, u2, u3, u4, _⟩ := hu
    dsimp only at u1 u2 u3 u4 hk
    subst hk; subst u1; subst u2; subst u3; subst u4; rfl
  constructor
  · intro hy
    obtain ⟨z, hz, hu⟩ := hlike.mem_l _ hy
    rcases List.mem_cons.1 hz with rfl | hz
    · left
      have h1 : ofB k = ofB y.k := hu.1
      have h2 : v = y.v := hu.2.1
      obtain ⟨yk, yv⟩ := y
      dsimp only at h1 h2
      rw [ofB_inj h1, h2]
    · right
      obtain ⟨hz1, hz2⟩ := List.mem_filter.1 hz
      rw [prs_items h] at hz1
      obtain ⟨q, hq, rfl⟩ := List.mem_map.1 hz1
      have h1 : ofB q.k = ofB y.k := hu.1
      have h2 : q.v = y.v := hu.2.1
      have e : q = y := by
        obtain ⟨yk, yv⟩ := y
        obtain ⟨qk, qv⟩ := q
        dsimp only at h1 h2
        rw [ofB_inj h1, h2]
      subst e
      rw [keep_itOf] at hz2
      exact ⟨hq, of_decide_eq_true hz2⟩
  · intro hy
    have : itOf y ∈ newI (ofB k) v :: (itemsP t [] true).filter (keepI (ofB k)) := by
      rcases hy with rfl | ⟨h1, h2⟩
      · exact List.mem_cons_self ..
      · exact List.mem_cons_of_mem _ (List.mem_filter.2 ⟨(prs_mem h).1 h1, by rw [keep_itOf]; exact decide_eq_true h2⟩)
    obtain ⟨x, hx, hu⟩ := hlike.mem_r _ this
    have hxs := (sf_items hf.1 [] true).1 hf.2 x hx
    rw [prs_items hf] at hx ⊢
    obtain ⟨q, hq, rfl⟩ := List.mem_map.1 hx
    have h1 : ofB y.k = ofB q.k := hu.1
    have h2 : y.v = q.v := hu.2.1
    have e : q = y := by
      obtain ⟨yk, yv⟩ := y
      obtain ⟨qk, qv⟩ := q
      dsimp only at h1 h2
      rw [ofB_inj h1, h2]
    subst e
    exact List.mem_map_of_mem hq
theorem get_prs {t : Nd} (h : Full t) (k : List UInt8) : (getP t (ofB k)).miss = none ∧ ((getP t (ofB k)).has = true → ⟨k, (getP t (ofB k)).v⟩ ∈ prsT t) ∧ ((getP t (ofB k)).has = false → ∀ p ∈ prsT t, p.k ≠ k) := by
  obtain ⟨h1, h2⟩ := get_items0 h.1 (ofB k) (halvesB_ofB k)
  have hs := (sf_items h.1 [] true).1 h.2
  have hm : (getP t (ofB k)).miss = none := by
    rw [← h1]
    exact stubL_none fun x hx e => by rw [hs x hx] at e; cases e
  have h3 := h2 hm
  refine ⟨hm, fun hh => ?_, fun hh p hp e => ?_⟩
  · rw [hh, if_pos rfl] at h3
    have := List.mem_of_find?_eq_some h3
    rw [prs_mem h]; exact this
  · rw [hh, if_neg (by decide), List.find?_eq_none] at h3
    have := h3 _ ((prs_mem h).1 hp)
    refine this (decide_eq_true ?_)
    show ofB p.k = _
    rw [e]
theorem of_prs : ∀ (l : List Pr) (t : Nd), longPr l = false → Full t → (tOfF l t).2 = 0 ∧ Full (tOfF l t).1 ∧ prsT (tOfF l t).1 = l.foldl insP (prsT t)
  | [], t, _, h => ⟨rfl, h, rfl⟩
  | p :: l, t, hl, h => by
    unfold longPr at hl
    rw [List.any_cons, Bool.or_eq_false_iff, decide_eq_false_iff_not] at hl
    obtain ⟨h1, h2, h3⟩ := put_prs h (k := p.k) (v := p.v) (by omega) (by omega)
    rw [tOfF, if_neg (by omega), List.foldl_cons]
    have := of_prs l _ hl.2 h2
    rw [h3] at this
    exact this
theorem of_long : ∀ (l : List Pr) (t : Nd), longPr l = true → tOfF l t = (noneN, 2)
  | p :: l, t, hl => by
    unfold longPr at hl
    rw [List.any_cons, Bool.or_eq_true, decide_eq_true_eq] at hl
    rw [tOfF]
    split
    · rfl
    · rename_i h
      exact of_long l _ (hl.resolve_left (by omega))
theorem tOf_prs {l : List Pr} (hl : longPr l = false) : (tOf l).2 = 0 ∧ Full (tOf l).1 ∧ prsT (tOf l).1 = risingP l := by
  have := of_prs l noneN hl full_none
  rw [prs_none] at this
  exact this
theorem tOf_eq {N : Nat} (hN : 401 ≤ N) (l : List Pr) : tOf l = rOf N l := by
  unfold rOf
  cases hl : longPr l with
  | true => rw [if_pos rfl]; exact of_long l _ hl
  | false =>
    obtain ⟨h1, h2, h3⟩ := tOf_prs hl
    rw [if_neg (by decide), ← h3, build_prs h2 hN, ← h1]
end Go.Proofs.YtojjfkbffjkojaaDoor
namespace Go.Proofs.YtojjfkbffjkojaaDoor
theorem longN_cons (p : Pr) (l : List Pr) : longN (p :: l) = 10 + p.k.length + p.v.length + longN l := by unfold longN; rw [List.map_cons, List.sum_cons]
theorem prBulk_cons (p : Pr) (l : List Pr) : prBulk (p :: l) = 140 + 2 * p.k.length + p.v.length + prBulk l := by unfold prBulk; rw [List.map_cons, List.sum_cons]
theorem longN_mem : ∀ {l : List Pr} {p : Pr}, p ∈ l → 10 + p.k.length + p.v.length ≤ longN l
  | q :: l, p, h => by
    rw [longN_cons]
    rcases List.mem_cons.1 h with rfl | h
    · omega
    · have := longN_mem h; omega
theorem longN_big {l : List Pr} (h : longN l ≤ 10000000) : prBig l := by
  have := longN_len l
  exact ⟨by omega, fun p hp => by have := longN_mem hp; omega⟩
theorem tOfF_sz : ∀ (l : List Pr) (t : Nd), Full t → sz (tOfF l t).1 ≤ sz t + prBulk l
  | [], t, _ => Nat.le_add_right _ _
  | p :: l, t, h => by
    rw [tOfF, prBulk_cons]
    split
    · have e : sz noneN = 6 := rfl
      have := sz_eq t
      show sz noneN ≤ _
      omega
    · obtain ⟨_, h2, _⟩ := put_prs h (k := p.k) (v := p.v) (by omega) (by omega)
      have h3 := tOfF_sz l _ h2
      have h4 := sz_put h.1 (ofB p.k) p.v (halvesB_ofB _)
      rw [ofB_length] at h4
      omega
theorem tOf_sz (l : List Pr) : sz (tOf l).1 ≤ 6 + prBulk l := tOfF_sz l noneN full_none
theorem full_tri {t : Nd} (h : Full t) {nk nv : Nat} (h1 : nk ≤ 200) (h2 : nv ≤ 4000) : tri t nk nv = true := tri_of h.1 h1 h2
theorem tGet_full {t : Nd} (h : Full t) {k : List UInt8} (h1 : k.length ≤ 200) : ∃ v has, tGet t k = ⟨v, has, none, 0⟩ ∧ (has = true → ⟨k, v⟩ ∈ prsT t) ∧ (has = false → v = [] ∧ ∀ p ∈ prsT t, p.k ≠ k) := by
  obtain ⟨g1, g2, g3⟩ := get_prs h k
  rcases tGet_cases t k with ⟨a, b⟩ | ⟨a, ⟨r, b, c⟩ | ⟨b, c, d⟩ | ⟨b, c, d⟩⟩
  · rw [full_tri h h1 (by decide)] at a; cases a
  · rw [g1] at b; cases b
  · exact ⟨_, _, d, fun _ => g2 c, fun h => by cases h⟩
  · exact ⟨_, _, d, fun h => (by cases h), fun _ => ⟨rfl, g3 c⟩⟩
end Go.Proofs.YtojjfkbffjkojaaDoor
namespace Go.Proofs.YtojjfkbffjkojaaDoor
open Go.RowKit

theorem of_ok {l : List Pr} {T : Nd × Int} (hT : T = tOf l) (h0 : T.2 = 0) : longPr l = false ∧ Full T.1 ∧ prsT T.1 = risingP l := by
  cases hl : longPr l with
  | true =>
    have : T = (noneN, 2) := hT.trans (of_long l _ hl)
    rw [this] at h0
    exact absurd h0 (by decide)
  | false =>
    obtain ⟨_, h2, h3⟩ := tOf_prs hl
    rw [hT]
    exact ⟨rfl, h2, h3⟩
end Go.Proofs.YtojjfkbffjkojaaDoor
namespace Go.Proofs.YtojjfkbffjkojaaDoor
open Go.RowKit
/-- A row as a block. -/
theorem St.rowBlk {w W : World} {gs : List (Option Nat)} {L : Lc} {R : List Row} {fs : List Fact} {e : TypeId} {s n c : Nat} {A : Option Addr} {xs : List Value} (M : St w gs W L (⟨e, s, A, n, c, xs⟩ :: R) fs) (hn : 0 < n) : ∃ g rest, A = some ⟨g, 0, none⟩ ∧ n ≤ c ∧ St w gs W ((g, e, xs ++ rest) :: L) R fs := by
  have hrow := M.row _ (List.mem_cons_self ..)
  rcases hrow.2 with ⟨hv, h0⟩ | ⟨g, cap, cur, hv, hb, hh, h1, h2, h3, h4⟩
  · simp only at h0; omega
  · injection hv with e1 e2 e3
    simp only at e1 e3 h4
    subst e1
    have hx : xs ++ cur.toList.drop (n * s) = cur.toList := by rw [← h4, List.take_append_drop]
    refine ⟨g, cur.toList.drop (n * s), rfl, by dsimp only at h1; omega, ⟨M.below, M.lt, fun y hy => ?_, fun r hr => M.row r (by simp [hr]), ?_, fun f hf => ?_⟩⟩
    · rcases List.mem_cons.1 hy with rfl | hy
      · exact ⟨by show Blk W g e (xs ++ cur.toList.drop (n * s)); rw [hx]; exact hh, hb⟩
      · exact M.blk y hy
    · have hp := List.Perm.pairwise (l' := bk (some ⟨g, 0, none⟩) :: (L.map (fun x => some x.1) ++ R.map (fun r => bk r.A))) (by rw [List.map_cons]; exact List.perm_middle) M.ap (fun h => apart_comm h)
      exact hp
    · refine (M.fct f hf).up ⟨Nat.le_refl _, fun _ _ _ => rfl, fun b _ e => ?_⟩
      unfold own at *
      simp only [List.map_cons, List.cons_append, List.mem_append, List.mem_cons] at e ⊢
      rcases e with e | e | e | e
      · exact .inr (.inl (by rw [e]; rfl))
      · exact .inl e
      · exact .inr (.inr (.inl e))
      · exact .inr (.inr (.inr e))
end Go.Proofs.YtojjfkbffjkojaaDoor
namespace Go.Proofs.YtojjfkbffjkojaaDoor
open Go.RowKit
theorem is_eqfn : isFn Tryd.prog 78 = true := by kernel_rfl
/-- Pair by pair. -/
def All2 (P : Nd → Nd → Prop) (a b : List Nd) : Prop := a.length = b.length ∧ ∀ (i : Nat) (x y : Nd), a[i]? = some x → b[i]? = some y → P x y
set_option maxRecDepth 100000 in
set_option maxHeartbeats 1000000 in
theorem eqfn_any (F : Nat) (hF : isFn Tryd.prog F = true) (P : Nd → Nd → Prop) (Q : World → List (Option Nat) → Prop) (ks ls : List Nd) (gs : List (Option Nat)) (w : World) (A B : Option Addr) (n c m d : Nat)
    (hQ : ∀ W L R fs, St w gs W L R fs → Q W (own L R gs))
    (ih : ∀ (i : Nat) (a b : Nd), ks[i]? = some a → ls[i]? = some b → ∀ (gs : List (Option Nat)) (w : World) (ca cb : List Value), Q w gs → RdL w (Fd w gs) (dN a) ca → RdL w (Fd w gs) (dN b) cb → (∀ b, some b ∈ gs → b < w.heap.size) → Calls Tryd.prog F #[.agg ca.toArray, .agg cb.toArray] w fun e w' => ∃ q : Bool, e = .returned (.bool q) ∧ (q = true ↔ P a b) ∧ Below w.heap.size w w')
    (ha : RdD w (Fd w gs) (dKs ks) (.slice A n c)) (hb : RdD w (Fd w gs) (dKs ls) (.slice B m d)) (hgs : ∀ b, some b ∈ gs → b < w.heap.size) (hz : n ≤ 1000000000 ∧ m ≤ 1000000000) :
    Calls Tryd.prog 78 #[.slice A n c, .slice B m d, .func (.func F) #[] #[]] w fun e w' => ∃ q : Bool, e = .returned (.bool q) ∧ (q = true ↔ All2 P ks ls) ∧ Below w.heap.size w w' := by
  refine calls_ev (args := [.slice A n c, .slice B m d, .func (.func F) #[] #[]]) mixed Tryd.func78 rfl (by kernel_rfl) ?_
  have en := ha.slen
  have em := hb.slen
  subst en; subst em
  have M := ((St.start hgs).addD hb).addD ha
  clear ha hb
  refine p_len sln rfl ?_
  refine p_len sln rfl ?_
  refine p_ne rfl rfl (fun hl => ?_) (fun hl => ?_)
  rotate_left
  · exact ⟨false, rfl, ⟨(fun h => by cases h), fun h => absurd (by rw [h.1]) hl⟩, M.below⟩
  have hl' : ks.length = ls.length := by omega
  refine p_len sln rfl ?_
  refine lp Nat (fun i W => i ≤ ks.length ∧ (∀ (j : Nat) (x y : Nd), j < i → ks[j]? = some x → ls[j]? = some y → P x y) ∧ St w gs W [] [] [.dat false [dKs ks] [.slice A ks.length c], .dat false [dKs ls] [.slice B ls.length d]])
    (fun i => [(1, .slice B ls.length d), (2, .func (.func F) #[] #[]), (15, .slice A ks.length c), (16, .int .i64 ks.length), (17, .int .i64 i)]) (fun i => ks.length - i) 0 ⟨Nat.zero_le _, (fun j x y h => absurd h (by omega)), M⟩ (by repeat (first | exact trivial | refine ⟨rfl, ?_⟩)) ?_
  clear M
  rintro i E W ⟨hi, hP, M⟩
  refine p_lt rfl rfl (fun hlt => ?_) (fun hge => ?_)
  · have hlt' : i < ks.length := by omega
    obtain ⟨x, hx⟩ : ∃ x, ks[i]? = some x := ⟨_, List.getElem?_eq_getElem hlt'⟩
    obtain ⟨y, hy⟩ : ∃ y, ls[i]? = some y := ⟨_, List.getElem?_eq_getElem (by omega)⟩
    obtain ⟨b1, o1, xs, rfl, hxl, M'⟩ := M.kid (M.d1 0 rfl) hx
    replace M := M'; clear M'
    obtain ⟨b2, o2, ys, rfl, hyl, M'⟩ := M.kid (M.d1 3 rfl) hy
    replace M := M'; clear M'
    obtain ⟨Ap5, cp5, Av5, cv5, Ak5, ck5, Ah5, ch5, rfl, -⟩ := (M.da 3 rfl).node
    obtain ⟨Ap6, cp6, Av6, cv6, Ak6, ck6, Ah6, ch6, rfl, -⟩ := (M.da 1 rfl).node
    refine p_at sln rfl rfl rfl (by omega) ?_
    refine v_loadN (ncs x Ap5 cp5 Av5 cv5 Ak5 ck5 Ah5 ch5) agg_nd rfl hxl (M.lc 2 rfl) ?_
    refine s_alloc (zN) M al_nd ?_
    clear M
    rintro g8 W M
    first | refine s_storeA 0 (ncs x Ap5 cp5 Av5 cv5 Ak5 ck5 Ah5 ch5) M rfl (by kernel_rfl) rfl rfl rfl (all1 rfl) rfl ?_ | refine s_storeA 1 (ncs x Ap5 cp5 Av5 cv5 Ak5 ck5 Ah5 ch5) M rfl (by kernel_rfl) rfl rfl rfl (all1 rfl) rfl ?_ | refine s_storeA 2 (ncs x Ap5 cp5 Av5 cv5 Ak5 ck5 Ah5 ch5) M rfl (by kernel_rfl) rfl rfl rfl (all1 rfl) rfl ?_ | refine s_storeA 3 (ncs x Ap5 cp5 Av5 cv5 Ak5 ck5 Ah5 ch5) M rfl (by kernel_rfl) rfl rfl rfl (all1 rfl) rfl ?_
    clear M
    rintro W M
    dsimp only [setL] at M
    refine p_at sln rfl rfl rfl (by omega) ?_
    refine v_loadN (ncs y Ap6 cp6 Av6 cv6 Ak6 ck6 Ah6 ch6) agg_nd rfl hyl (M.lc 0 rfl) ?_
    refine s_alloc (zN) M al_nd ?_
    clear M
    rintro g9 W M
    first | refine s_storeA 0 (ncs y Ap6 cp6 Av6 cv6 Ak6 ck6 Ah6 ch6) M rfl (by kernel_rfl) rfl rfl rfl (all1 rfl) rfl ?_ | refine s_storeA 1 (ncs y Ap6 cp6 Av6 cv6 Ak6 ck6 Ah6 ch6) M rfl (by kernel_rfl) rfl rfl rfl (all1 rfl) rfl ?_ | refine s_storeA 2 (ncs y Ap6 cp6 Av6 cv6 Ak6 ck6 Ah6 ch6) M rfl (by kernel_rfl) rfl rfl rfl (all1 rfl) rfl ?_ | refine s_storeA 3 (ncs y Ap6 cp6 Av6 cv6 Ak6 ck6 Ah6 ch6) M rfl (by kernel_rfl) rfl rfl rfl (all1 rfl) rfl ?_
    clear M
    rintro W M
    dsimp only [setL] at M
    refine v_loadN (ncs x Ap5 cp5 Av5 cv5 Ak5 ck5 Ah5 ch5) agg_nd rfl hxl (M.run 1 rfl) ?_
    refine v_loadN (ncs y Ap6 cp6 Av6 cv6 Ak6 ck6 Ah6 ch6) agg_nd rfl hyl (M.run 0 rfl) ?_
    refine cc hF (ih i x y hx hy _ _ _ _ (hQ _ _ _ _ M) (M.da 3 rfl) (M.da 1 rfl) M.olt) ?_
    rintro e W ⟨q, rfl, hq, hb⟩
    replace M := M.call hb
    refine ⟨_, rfl, ?_⟩
    refine p_not rfl ?_
    cases q with
    | false =>
      exact ⟨false, rfl, ⟨(fun h => by cases h), fun h => absurd (hq.2 (h.2 i x y hx hy)) (by decide)⟩, M.below⟩
    | true =>
      refine p_addN (b := 1) rfl rfl (by omega) ?_
      refine ⟨i + 1, ⟨by omega, fun j a b hj ha hb => ?_, (M.dropL.dropL).fsub _ (by simp)⟩, (by repeat (first | exact trivial | refine ⟨rfl, ?_⟩)), by omega⟩
      by_cases e : j = i
      · subst e
        rw [hx] at ha; rw [hy] at hb
        injection ha with ha; injection hb with hb
        subst ha; subst hb
        exact hq.1 rfl
      · exact hP j a b (by omega) ha hb
  · exact ⟨true, rfl, ⟨fun _ => ⟨hl', fun j x y hx hy => hP j x y (by have := (List.getElem?_eq_some_iff.1 hx).1; omega) hx hy⟩, fun _ => rfl⟩, M.below⟩
end Go.Proofs.YtojjfkbffjkojaaDoor
