/- Slices of slices: one that reads as lists ('RdN'); one of the call's own, its elements too ('OwnN'); append onto it. -/
import Derived.Test.YtjneoinacobbaaaRowE
import Derived.Test.YtjneoinacobbaaaLists
namespace Go.Proofs.Ytjneoinacobbaaa
open Go.RowKit

/-- A slice of n slices that reads as these lists of cells, elements of es cells, below block B. -/
def RdN (w : World) (B es : Nat) (A : Option Addr) (n : Nat) (xss : List (List Value)) : Prop :=
  ∃ vs, Reads w B 1 A n vs ∧ vs.length = xss.length ∧ ∀ (k : Nat) (v : Value) (xs : List Value), vs[k]? = some v → xss[k]? = some xs → ∃ A m c, v = .slice A m c ∧ m ≤ c ∧ Reads w B es A m xs
section
variable {w w' : World} {B B' base es n c : Nat} {A : Option Addr} {xss : List (List Value)}
theorem RdN.below (h : RdN w B es A n xss) (hb : Below B w w') : RdN w' B es A n xss := by
  obtain ⟨vs, h1, h2, h3⟩ := h
  refine ⟨vs, h1.below hb, h2, fun k v xs e1 e2 => ?_⟩
  obtain ⟨A, m, c, hv, hm, hr⟩ := h3 k v xs e1 e2
  exact ⟨A, m, c, hv, hm, hr.below hb⟩
theorem RdN.more (h : RdN w B es A n xss) (hB : B ≤ B') : RdN w B' es A n xss := by
  obtain ⟨vs, h1, h2, h3⟩ := h
  refine ⟨vs, h1.more hB, h2, fun k v xs e1 e2 => ?_⟩
  obtain ⟨A, m, c, hv, hm, hr⟩ := h3 k v xs e1 e2
  exact ⟨A, m, c, hv, hm, hr.more hB⟩
theorem RdN.up (h : RdN w w.heap.size es A n xss) (hb : Below w.heap.size w w') : RdN w' w'.heap.size es A n xss := (h.below hb).more hb.size
theorem RdN.drew (h : RdN w B es A n xss) : RdN w.drew B es A n xss := h
theorem RdN.len (h : RdN w B es A n xss) : xss.length = n := by obtain ⟨vs, h1, h2, _⟩ := h; have := h1.1; omega
theorem RdN.nil_ : RdN w B es A 0 [] := ⟨[], Reads.none_, rfl, fun k v xs h => by simp at h⟩
theorem RdN.at_ (h : RdN w B es A n xss) {k : Nat} {xs : List Value} (hk : xss[k]? = some xs) : ∃ ad A' m c', A = some ad ∧ (ad.add (k * 1)).block < B ∧ w.cell? (ad.add (k * 1)) = some (.slice A' m c') ∧ m ≤ c' ∧ Reads w B es A' m xs := by
  have hl := h.len
  have hkn : k < n := by have := (List.getElem?_eq_some_iff.1 hk).1; omega
  obtain ⟨vs, h1, h2, h3⟩ := h
  obtain ⟨b, off, u, e, hb, hu, hc⟩ := h1.at_ hkn
  obtain ⟨A', m, c', rfl, hm, hr⟩ := h3 k u xs hu hk
  exact ⟨⟨b, off, none⟩, A', m, c', e, by rw [block_of_add]; exact hb, by rw [Nat.mul_one, Addr.add_lit]; exact hc, hm, hr⟩
theorem RdS.nest {ll : List (List UInt8)} (h : RdS w B A n ll) : RdN w B 1 A n (ll.map bvs) := by
  obtain ⟨vs, h1, h2⟩ := h
  refine ⟨vs, h1, by rw [h2.len]; simp, fun k v xs e1 e2 => ?_⟩
  rw [List.getElem?_map] at e2
  obtain ⟨l, hl, rfl⟩ := Option.map_eq_some_iff.1 e2
  exact h2.rd k v l e1 hl
theorem RdN.lists {ll : List (List UInt8)} (h : RdN w B 1 A n (ll.map bvs)) : RdS w B A n ll := by
  obtain ⟨vs, h1, h2, h3⟩ := h
  refine ⟨vs, h1, by simpa using h2, fun k v l e1 e2 => ?_⟩
  exact h3 k v (bvs l) e1 (by rw [List.getElem?_map, e2]; rfl)
theorem row_cap {e : TypeId} {xs : List Value} (h : w.ownsRow base e es (.slice A n c) n xs) : n ≤ c := by
  rcases h.2 with ⟨hv, h0⟩ | ⟨g, cap, cur, hv, _, _, hle, _⟩
  · injection hv with _ h1 h2; omega
  · injection hv with _ h1 h2; omega
theorem row_kept {e : TypeId} {v : Value} {xs : List Value} {row : Option Nat} (h : w.ownsRow base e es v n xs) (hg : w.grownBy w' row) (hne : v.ownBlock = none ∨ v.ownBlock ≠ row) : w'.ownsRow base e es v n xs := World.ownsRow.kept h hg hne
end

/-- A slice of n slices of the call's own, its elements too: T the elements' type, eT and es what these hold. -/
def OwnN (w : World) (base : Nat) (T eT : TypeId) (es : Nat) (A : Option Addr) (n c : Nat) (xss : List (List Value)) : Prop :=
  ∃ vs, w.ownsRow base T 1 (.slice A n c) n vs ∧ vs.length = xss.length ∧ ∀ (k : Nat) (v : Value) (xs : List Value), vs[k]? = some v → xss[k]? = some xs → ∃ A m c, v = .slice A m c ∧ w.ownsRow base eT es (.slice A m c) m xs
section
variable {w w' : World} {B B' base es n c : Nat} {T eT : TypeId} {A : Option Addr} {xss : List (List Value)}
theorem OwnN.nil_ (w : World) (base : Nat) : OwnN w base T eT es none 0 0 [] := ⟨[], World.ownsRow_nil _ _ _ _, rfl, fun k v xs h => by simp at h⟩
theorem OwnN.rd (h : OwnN w base T eT es A n c xss) : RdN w w.heap.size es A n xss := by
  obtain ⟨vs, h1, h2, h3⟩ := h
  refine ⟨vs, Reads.of_own h1, h2, fun k v xs e1 e2 => ?_⟩
  obtain ⟨A', n', c', hv, ho⟩ := h3 k v xs e1 e2
  exact ⟨A', n', c', hv, row_cap ho, Reads.of_own ho⟩
theorem OwnN.below (h : OwnN w base T eT es A n c xss) (hb : Below w.heap.size w w') : OwnN w' base T eT es A n c xss := by
  obtain ⟨vs, h1, h2, h3⟩ := h
  refine ⟨vs, ownsRow_below h1 hb, h2, fun k v xs e1 e2 => ?_⟩
  obtain ⟨A', n', c', hv, ho⟩ := h3 k v xs e1 e2
  exact ⟨A', n', c', hv, ownsRow_below ho hb⟩
theorem OwnN.cap_ (h : OwnN w base T eT es A n c xss) : n ≤ c := by obtain ⟨vs, h1, _⟩ := h; exact row_cap h1
theorem OwnN.lo (h : OwnN w base T eT es A n c xss) : ∀ k, (Value.slice A n c).ownBlock = some k → base ≤ k := by obtain ⟨vs, h1, _⟩ := h; exact fun k hk => (World.ownsRow.lt h1 k hk).1
end
section
variable {P : Program} {E : Env} {d : Option Nat} {ty : TypeId} {p : String} {af : Array Edge} {gd : Option (Nat × Bool)} {x y : Operand} {t : TypeId} {kw : Value → World → Prop} {w : World}
/-- append of one. -/
theorem v_appN {T eT : TypeId} {es : Nat} (hne : eT ≠ T) (hT : P.underlying t = some (.slice T)) (hi : (P.info? T).map (fun i => (i.zero, i.size, i.bytes)) = some (some (.slice none 0 0), 1, 24))
    {base : Nat} {A : Option Addr} {n c : Nat} {xss : List (List Value)} (hx : val E x = .slice A n c) (hown : OwnN w base T eT es A n c xss) {B : Nat} {A2 : Option Addr} {c2 : Nat} {A' : Option Addr} {m c' : Nat} {xs : List Value} (hy : val E y = .slice A2 1 c2)
    (hr : Reads w B 1 A2 1 [.slice A' m c']) (ho : w.ownsRow base eT es (.slice A' m c') m xs) (hsz : n + 1 ≤ 1000000000) (hbase : base ≤ w.heap.size)
    (h : ∀ A3 c3 w', OwnN w' base T eT es A3 (n + 1) c3 (xss ++ [xs]) → w.grownBy w' (Value.slice A n c).ownBlock → kw (.slice A3 (n + 1) c3) w') :
    VVal P E { dst := d, op := .call { callee := .builtin .append, args := #[x, y], argTypes := #[t, t] }, type := ty, pos := p, after := af, guard := gd } w kw := by
  obtain ⟨vs, h1, h2, h3⟩ := hown
  refine v_appG hT hi rfl (by decide) hx h1 hy hr (by intro u hu; simp at hu; subst hu; rfl) ⟨hsz, by decide⟩ hbase ?_
  intro A3 c3 w' h4 hg
  refine h A3 c3 w' ⟨vs ++ [.slice A' m c'], h4, by simp [h2], fun k v ys e1 e2 => ?_⟩ hg
  by_cases hk : k < vs.length
  · rw [List.getElem?_append_left hk] at e1
    rw [List.getElem?_append_left (by omega)] at e2
    obtain ⟨A4, m4, c4, rfl, o4⟩ := h3 k v ys e1 e2
    exact ⟨A4, m4, c4, rfl, row_kept o4 hg (rows_apart hne o4 h1)⟩
  · rw [List.getElem?_append_right (by omega)] at e1 e2
    have e : k - vs.length = 0 := by
      have := (List.getElem?_eq_some_iff.1 e1).1
      simp at this; omega
    rw [e] at e1
    rw [show k - xss.length = 0 by omega] at e2
    simp at e1 e2
    subst e1; subst e2
    exact ⟨A', m, c', rfl, row_kept ho hg (rows_apart hne ho h1)⟩
end
theorem sls : slOf Try.prog 70 = some (23, 1) := by kernel_rfl
theorem zls : zeroOf Try.prog 23 = some [.slice none 0 0] := by kernel_rfl
theorem agg_sl : aggOf Try.prog 23 = some (false, 1) := by kernel_rfl
end Go.Proofs.Ytjneoinacobbaaa
