/- Lists of bytes in memory: a [][]byte that reads as lists ('RdS'); one of the call's own, its elements too ('OwnS'); append onto it. -/
import Derived.Test.YtjneoinacobbaaaDoorStr
import Derived.Deep.QuietTactic
import Derived.BigQuiet
import Derived.Test.YtjneoinacobbaaaDoorPlain
namespace Go.Proofs.YtjneoinacobbaaaDoor
open Go.RowKit

theorem lsinfo : (Tryd.prog.info? 23).map (fun i => (i.zero, i.size, i.bytes)) = some (some (.slice none 0 0), 1, 24) := by kernel_rfl

/-- The values vs are slices of bytes that read as these lists, below block B. -/
structure Els (w : World) (B : Nat) (vs : List Value) (ll : List (List UInt8)) : Prop where
  len : vs.length = ll.length
  rd : ∀ (k : Nat) (v : Value) (l : List UInt8), vs[k]? = some v → ll[k]? = some l → ∃ A n c, v = .slice A n c ∧ n ≤ c ∧ Rd w B A n l
/-- A slice of n slices of bytes that reads as these lists, below block B. -/
def RdS (w : World) (B : Nat) (A : Option Addr) (n : Nat) (ll : List (List UInt8)) : Prop := ∃ vs, Reads w B 1 A n vs ∧ Els w B vs ll

section
variable {w w' : World} {B B' base n c : Nat} {A : Option Addr} {ll : List (List UInt8)} {vs : List Value}
theorem Els.keep (h : Els w B vs ll) (hk : ∀ p : Addr, p.block < B → w'.cell? p = w.cell? p) : Els w' B vs ll :=
  ⟨h.len, fun k v l h1 h2 => let ⟨A, n, c, hv, hn, hr⟩ := h.rd k v l h1 h2; ⟨A, n, c, hv, hn, hr.keep hk⟩⟩
theorem Els.more (h : Els w B vs ll) (hB : B ≤ B') : Els w B' vs ll :=
  ⟨h.len, fun k v l h1 h2 => let ⟨A, n, c, hv, hn, hr⟩ := h.rd k v l h1 h2; ⟨A, n, c, hv, hn, hr.more hB⟩⟩
theorem RdS.keep (h : RdS w B A n ll) (hk : ∀ p : Addr, p.block < B → w'.cell? p = w.cell? p) : RdS w' B A n ll := let ⟨vs, h1, h2⟩ := h; ⟨vs, h1.keep hk, h2.keep hk⟩
theorem RdS.more (h : RdS w B A n ll) (hB : B ≤ B') : RdS w B' A n ll := let ⟨vs, h1, h2⟩ := h; ⟨vs, h1.more hB, h2.more hB⟩
theorem RdS.below (h : RdS w B A n ll) (hb : Below B w w') : RdS w' B A n ll := h.keep fun _ hp => hb.cell hp
theorem RdS.drewN (h : RdS w B A n ll) (k : Nat) : RdS (w.drewN k) B A n ll := h.keep fun _ _ => rfl
theorem RdS.alloc (h : RdS w B A n ll) (hB : B ≤ w.heap.size) (o : Obj) : RdS (w.alloc o) B A n ll := h.keep fun p hp => World.cell?_alloc_lt w o p (by omega)
theorem RdS.up (h : RdS w w.heap.size A n ll) (hb : Below w.heap.size w w') : RdS w' w'.heap.size A n ll := (h.below hb).more hb.size
theorem RdS.upA (h : RdS w w.heap.size A n ll) (o : Obj) : RdS (w.alloc o) (w.alloc o).heap.size A n ll := (h.alloc (Nat.le_refl _) o).more (by simp)
theorem RdS.len (h : RdS w B A n ll) : ll.length = n := by obtain ⟨vs, h1, h2⟩ := h; have := h1.1; rw [h2.len] at this; omega
theorem RdS.nil_ : RdS w B A 0 [] := ⟨[], Reads.none_, rfl, fun k v l h => by simp at h⟩
/-- The k-th element: its cell, and what it reads as. -/
theorem RdS.at_ (h : RdS w B A n ll) {k : Nat} (hk : k < n) : ∃ b off A' m c', A = some ⟨b, off, none⟩ ∧ b < B ∧ w.cell? ⟨b, off + k, none⟩ = some (.slice A' m c') ∧ m ≤ c' ∧ Rd w B A' m (ll.getD k []) := by
  have hl := h.len
  obtain ⟨vs, h1, h2⟩ := h
  obtain ⟨b, off, u, e, hb, hu, hc⟩ := h1.at_ hk
  obtain ⟨A', m, c', rfl, hm, hr⟩ := h2.rd k u (ll[k]'(by omega)) hu (List.getElem?_eq_getElem (by omega))
  refine ⟨b, off, A', m, c', e, hb, hc, hm, ?_⟩
  rw [List.getD_eq_getElem?_getD, List.getElem?_eq_getElem (by omega)]
  exact hr
end

/-- The values vs are slices of bytes of the call's own, that read as these lists, each in a block of its own. -/
structure ElsOwn (w : World) (base : Nat) (vs : List Value) (ll : List (List UInt8)) : Prop where
  len : vs.length = ll.length
  own : ∀ (k : Nat) (v : Value) (l : List UInt8), vs[k]? = some v → ll[k]? = some l → ∃ A n c, v = .slice A n c ∧ Own w base A n c l
  far : ∀ (i j : Nat) (v u : Value), vs[i]? = some v → vs[j]? = some u → i ≠ j → v.ownBlock = none ∨ v.ownBlock ≠ u.ownBlock
/-- A slice of n slices of bytes of the call's own, its elements too. -/
def OwnS (w : World) (base : Nat) (A : Option Addr) (n c : Nat) (ll : List (List UInt8)) : Prop := ∃ vs, w.ownsRow base 23 1 (.slice A n c) n vs ∧ ElsOwn w base vs ll

section
variable {w w' : World} {base n c : Nat} {A : Option Addr} {ll : List (List UInt8)} {vs : List Value}
theorem ElsOwn.nil_ : ElsOwn w base [] [] := ⟨rfl, fun k v l h => by simp at h, fun i j v u h => by simp at h⟩
theorem ElsOwn.kept {row : Option Nat} (h : ElsOwn w base vs ll) (hg : w.grownBy w' row) (hne : ∀ v ∈ vs, v.ownBlock = none ∨ v.ownBlock ≠ row) : ElsOwn w' base vs ll :=
  ⟨h.len, fun k v l h1 h2 => by
    obtain ⟨A, n, c, rfl, ho⟩ := h.own k v l h1 h2
    exact ⟨A, n, c, rfl, ho.kept hg (hne _ (List.mem_of_getElem? h1))⟩, h.far⟩
theorem ElsOwn.below (h : ElsOwn w base vs ll) (hb : Below w.heap.size w w') : ElsOwn w' base vs ll :=
  h.kept (row := none) ⟨hb.os, hb.tape, hb.output, hb.size, fun k hk _ => hb.block k hk⟩ (fun v _ => by cases v.ownBlock <;> simp)
theorem ElsOwn.less (h : ElsOwn w base vs ll) {base' : Nat} (hb : base' ≤ base) : ElsOwn w base' vs ll :=
  ⟨h.len, fun k v l h1 h2 => let ⟨A, n, c, hv, ho⟩ := h.own k v l h1 h2; ⟨A, n, c, hv, ho.less hb⟩, h.far⟩
theorem ElsOwn.lt (h : ElsOwn w base vs ll) : ∀ v ∈ vs, ∀ g, v.ownBlock = some g → base ≤ g ∧ g < w.heap.size := by
  intro v hv g hg
  obtain ⟨k, hk⟩ := List.getElem?_of_mem hv
  have hkl : k < ll.length := by rw [← h.len]; exact (List.getElem?_eq_some_iff.1 hk).1
  obtain ⟨A, n, c, rfl, ho⟩ := h.own k v ll[k] hk (List.getElem?_eq_getElem hkl)
  exact World.ownsRow.lt ho g hg
/-- One more, which lies in a block that was not there when the others were made. -/
theorem ElsOwn.snoc (h : ElsOwn w base vs ll) {A' : Option Addr} {m c' H : Nat} {l : List UInt8} (ho : Own w base A' m c' l) (hH : ∀ v ∈ vs, ∀ g, v.ownBlock = some g → g < H) (hN : ∀ g, (Value.slice A' m c').ownBlock = some g → H ≤ g) : ElsOwn w base (vs ++ [.slice A' m c']) (ll ++ [l]) := by
  refine ⟨by simp [h.len], ?_, ?_⟩
  · intro k v l' h1 h2
    by_cases hk : k < vs.length
    · rw [List.getElem?_append_left hk] at h1
      rw [List.getElem?_append_left (by rw [← h.len]; exact hk)] at h2
      exact h.own k v l' h1 h2
    · rw [List.getElem?_append_right (by omega)] at h1
      rw [List.getElem?_append_right (by rw [← h.len]; omega)] at h2
      have e : k - vs.length = 0 := by
        have := (List.getElem?_eq_some_iff.1 h1).1
        simp at this; omega
      rw [e] at h1
      rw [show k - ll.length = 0 by rw [← h.len]; exact e] at h2
      simp at h1 h2
      subst h1; subst h2
      exact ⟨A', m, c', rfl, ho⟩
  · intro i j v u h1 h2 hij
    have key : ∀ v u, v ∈ vs → u = Value.slice A' m c' → (v.ownBlock = none ∨ v.ownBlock ≠ u.ownBlock) ∧ (u.ownBlock = none ∨ u.ownBlock ≠ v.ownBlock) := by
      rintro v u hv rfl
      cases hvb : v.ownBlock with
      | none => cases hub : (Value.slice A' m c').ownBlock <;> simp
      | some g =>
        cases hub : (Value.slice A' m c').ownBlock with
        | none => simp
        | some g' =>
          have h1 := hH v hv g hvb
          have h2 := hN g' hub
          constructor <;> right <;> intro e <;> injection e with e <;> omega
    have two : ∀ k v, (vs ++ [Value.slice A' m c'])[k]? = some v → (k < vs.length ∧ vs[k]? = some v) ∨ (k = vs.length ∧ v = Value.slice A' m c') := by
      intro k v hk
      by_cases hlt : k < vs.length
      · exact .inl ⟨hlt, by rw [List.getElem?_append_left hlt] at hk; exact hk⟩
      · rw [List.getElem?_append_right (by omega)] at hk
        have e : k - vs.length = 0 := by
          have := (List.getElem?_eq_some_iff.1 hk).1
          simp at this; omega
        rw [e] at hk
        simp at hk
        exact .inr ⟨by omega, hk.symm⟩
    rcases two i v h1 with ⟨_, e1⟩ | ⟨i1, e1⟩ <;> rcases two j u h2 with ⟨_, e2⟩ | ⟨j1, e2⟩
    · exact h.far i j v u e1 e2 hij
    · exact (key v u (List.mem_of_getElem? e1) e2).1
    · exact (key u v (List.mem_of_getElem? e2) e1).2
    · omega
theorem OwnS.nil_ (w : World) (base : Nat) : OwnS w base none 0 0 [] := ⟨[], World.ownsRow_nil _ _ _ _, ElsOwn.nil_⟩
theorem OwnS.len (h : OwnS w base A n c ll) : ll.length = n := by obtain ⟨vs, h1, h2⟩ := h; have := h1.1; rw [h2.len] at this; omega
theorem OwnS.cap_ (h : OwnS w base A n c ll) : n ≤ c := by
  obtain ⟨vs, h, _⟩ := h
  rcases h.2 with ⟨hv, h0⟩ | ⟨g, cap, cur, hv, _, _, hle, _⟩
  · injection hv with _ h1 h2; omega
  · injection hv with _ h1 h2; omega
theorem OwnS.rd (h : OwnS w base A n c ll) : RdS w w.heap.size A n ll := by
  obtain ⟨vs, h1, h2⟩ := h
  refine ⟨vs, Reads.of_own h1, h2.len, fun k v l e1 e2 => ?_⟩
  obtain ⟨A', n', c', hv, ho⟩ := h2.own k v l e1 e2
  exact ⟨A', n', c', hv, ho.cap_, ho.rd⟩
theorem OwnS.below (h : OwnS w base A n c ll) (hb : Below w.heap.size w w') : OwnS w' base A n c ll := by
  obtain ⟨vs, h1, h2⟩ := h
  exact ⟨vs, World.ownsRow.kept h1 (row := none) ⟨hb.os, hb.tape, hb.output, hb.size, fun k hk _ => hb.block k hk⟩ (by cases (Value.slice A n c).ownBlock <;> simp), h2.below hb⟩
theorem OwnS.alloc (h : OwnS w base A n c ll) (o : Obj) : OwnS (w.alloc o) base A n c ll := h.below ((Below.refl _ _).alloc (Nat.le_refl _) o)
theorem OwnS.less (h : OwnS w base A n c ll) {base' : Nat} (hb : base' ≤ base) : OwnS w base' A n c ll := by
  obtain ⟨vs, h1, h2⟩ := h
  refine ⟨vs, ⟨h1.1, ?_⟩, h2.less hb⟩
  rcases h1.2 with h3 | ⟨g, cap, cur, hv, hg, r⟩
  · exact .inl h3
  · exact .inr ⟨g, cap, cur, hv, by omega, r⟩
end

/-- Two rows whose elements are of two types lie in two blocks. -/
theorem rows_apart {w : World} {b1 b2 : Nat} {e1 e2 : TypeId} (he : e1 ≠ e2) {s1 s2 : Nat} {v1 v2 : Value} {n1 n2 : Nat} {x1 x2 : List Value} (h1 : w.ownsRow b1 e1 s1 v1 n1 x1) (h2 : w.ownsRow b2 e2 s2 v2 n2 x2) : v1.ownBlock = none ∨ v1.ownBlock ≠ v2.ownBlock := by
  rcases h1.2 with ⟨rfl, _⟩ | ⟨g1, c1, u1, rfl, _, hh1, _⟩
  · exact .inl rfl
  · right
    rcases h2.2 with ⟨rfl, _⟩ | ⟨g2, c2, u2, rfl, _, hh2, _⟩
    · simp [Value.ownBlock]
    · intro e
      have : g1 = g2 := by simpa [Value.ownBlock] using e
      subst this
      rw [hh1] at hh2
      injection hh2 with hh2
      injection hh2 with _ ht
      exact he ht

/-- append(out, s), out and s of the call's own, s made behind all that is in out. -/
theorem run_appS {w : World} {base : Nat} {A : Option Addr} {n c : Nat} {ll : List (List UInt8)} {vs : List Value} (hrow : w.ownsRow base 23 1 (.slice A n c) n vs) (hels : ElsOwn w base vs ll)
    {A' : Option Addr} {m c' H : Nat} {l : List UInt8} (ho : Own w base A' m c' l) (hH : ∀ v ∈ vs, ∀ g, v.ownBlock = some g → g < H) (hN : ∀ g, (Value.slice A' m c').ownBlock = some g → H ≤ g)
    {B : Nat} {A2 : Option Addr} {c2 : Nat} (hr : Reads w B 1 A2 1 [.slice A' m c']) (hsz : n ≤ 1000000000000) (hbase : base ≤ w.heap.size) (ty : TypeId) :
    ∃ A3 c3 w', (Builtin.append_ #[22, 22] ty #[.slice A n c, .slice A2 1 c2]).run Tryd.prog w = .ok (.slice A3 (n + 1) c3) w' ∧ OwnS w' base A3 (n + 1) c3 (ll ++ [l]) ∧ w.grownBy w' (Value.slice A n c).ownBlock := by
  obtain ⟨i0, hi, hz0, hz1, hz2⟩ := info_parts lsinfo
  obtain ⟨v', w', hrun, h2, h3, h4, h5⟩ := run_append_any (P := Tryd.prog) w base 22 ty 23 i0 (.slice none 0 0) 1 24 Tryd.underlying22 hi hz0 hz1 hz2 rfl (by omega) _ n _ hrow B A2 1 c2 _ hr (by intro u hu; simp at hu; subst hu; rfl) (by unfold maxLen; omega) (by omega) hbase
  obtain ⟨A3, c3, rfl⟩ := own_slice h2
  refine ⟨A3, c3, w', hrun, ⟨vs ++ [.slice A' m c'], h2, ?_⟩, h3⟩
  refine (hels.snoc ho hH hN).kept h3 ?_
  intro v hv
  rcases List.mem_append.1 hv with hv | hv
  · obtain ⟨k, hk⟩ := List.getElem?_of_mem hv
    have hkl : k < ll.length := by rw [← hels.len]; exact (List.getElem?_eq_some_iff.1 hk).1
    obtain ⟨A4, n4, c4, rfl, ho4⟩ := hels.own k v ll[k] hk (List.getElem?_eq_getElem hkl)
    exact rows_apart (by decide) ho4 hrow
  · simp at hv
    subst hv
    exact rows_apart (by decide) ho hrow
theorem wpList_appS {ops : Array Oper} {rest : List Oper} {o : Oper} {a : Act} {w : World} {Q : Exit → Act → World → Prop} (hgd : o.guard = none) (s x : Operand)
    (hop : o.op = .call { callee := .builtin .append, args := #[s, x], argTypes := #[22, 22] })
    {base : Nat} {A : Option Addr} {n c : Nat} {ll : List (List UInt8)} {vs : List Value} (hs : a.eval s = .slice A n c) (hrow : w.ownsRow base 23 1 (.slice A n c) n vs) (hels : ElsOwn w base vs ll)
    {A' : Option Addr} {m c' H : Nat} {l : List UInt8} (ho : Own w base A' m c' l) (hH : ∀ v ∈ vs, ∀ g, v.ownBlock = some g → g < H) (hN : ∀ g, (Value.slice A' m c').ownBlock = some g → H ≤ g)
    {B : Nat} {A2 : Option Addr} {c2 : Nat} (hx : a.eval x = .slice A2 1 c2) (hr : Reads w B 1 A2 1 [.slice A' m c']) (hsz : n ≤ 1000000000000) (hbase : base ≤ w.heap.size)
    (h : ∀ A3 c3 w', OwnS w' base A3 (n + 1) c3 (ll ++ [l]) → w.grownBy w' (Value.slice A n c).ownBlock → wpList Tryd.prog ops Q rest (a.put o.dst (.slice A3 (n + 1) c3)) w') : wpList Tryd.prog ops Q (o :: rest) a w := by
  refine wpList_plain hgd fun K hK => ?_
  obtain ⟨A3, c3, w', hrun, h2, h3⟩ := run_appS (c2 := c2) hrow hels ho hH hN hr hsz hbase o.type
  unfold Oper.wp execOp
  simp only [hop, resolve, invoke, builtin, Sem.run_bind, Sem.run_pure, Result.andThen_ok, List.map_toArray, List.map_cons, List.map_nil, hs, hx, hrun]
  exact hK _ _ (h A3 c3 w' h2 h3)
/-- A new block of one value reads as that. -/
theorem Reads.lit1 (w : World) (H : Nat) (hH : w.heap.size = H) (v : Value) (t : TypeId) : Reads (w.alloc (.cells #[v] t)) (H + 1) 1 (some ⟨H, 0, none⟩) 1 [v] := by
  subst hH
  refine ⟨rfl, fun _ => ⟨_, 0, rfl, by omega, fun j u hu => ?_⟩⟩
  rw [Nat.zero_add, World.cell?_alloc_at _ _ _ _ rfl]
  simpa using hu

end Go.Proofs.YtjneoinacobbaaaDoor
