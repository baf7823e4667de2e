/- Many rows, plainly. Slices of slices: one that reads as lists ('RdN'); one of the call's own, its elements too ('OwnN'); append onto it. Lists of bytes as bytes: the reference's Join and Split. The walks of Many and Few of package row and of the reference, and of SameRows. The state of a call, in one: blocks of its own that are still written, rows that grow, and what stays. No program in sight. Small helps for walks. No program in sight. append onto a row: what the old cells still hold. No program in sight. Lists of lists of bytes, as data. A state's own blocks and rows, in another order. -/
import Derived.Test.YtejbljopighenaaDoorG07
import Derived.Test.YtejbljopighenaaDoorG06
import Derived.Test.YtejbljopighenaaDoorG01
import Derived.Test.YtejbljopighenaaDoorG05
namespace Go.Proofs.YtejbljopighenaaDoor

/-- The first row that is none: why. -/
def manyE : List (List Val) → Int
  | [] => 0
  | l :: r => if encE l ≠ 0 then encE l else manyE r
def manyB (ll : List (List Val)) : List UInt8 := if manyE ll = 0 then joinL (ll.map encB) else []
theorem manyE_ok {ll : List (List Val)} (h : ∀ l ∈ ll, encE l = 0) : manyE ll = 0 := by
  induction ll with
  | nil => rfl
  | cons l r ih =>
    unfold manyE
    rw [if_neg (by simp [h l (by simp)])]
    exact ih (fun x hx => h x (by simp [hx]))
theorem manyE_bad : ∀ {ll : List (List Val)} {i : Nat} {l : List Val}, ll[i]? = some l → (∀ x ∈ ll.take i, encE x = 0) → encE l ≠ 0 → manyE ll = encE l
  | [], i, l, h, _, _ => by simp at h
  | x :: r, 0, l, h, _, hl => by
    simp at h
    subst h
    unfold manyE
    rw [if_pos hl]
  | x :: r, i + 1, l, h, ha, hl => by
    unfold manyE
    rw [if_neg (by simp [ha x (by simp)])]
    exact manyE_bad (i := i) (by simpa using h) (fun y hy => ha y (by simp [hy])) hl
/-- The first bytes that are no row: why. -/
def fewF : List (List UInt8) → Int
  | [] => 0
  | l :: r => if decE l ≠ 0 then decE l else fewF r
def fewE (b : List UInt8) : Int := if spE b ≠ 0 then spE b else fewF (spL b)
def fewL (b : List UInt8) : List (List Val) := if fewE b = 0 then (spL b).map decL else []
theorem fewF_ok {ll : List (List UInt8)} (h : ∀ l ∈ ll, decE l = 0) : fewF ll = 0 := by
  induction ll with
  | nil => rfl
  | cons l r ih =>
    unfold fewF
    rw [if_neg (by simp [h l (by simp)])]
    exact ih (fun x hx => h x (by simp [hx]))
theorem fewF_bad : ∀ {ll : List (List UInt8)} {i : Nat} {l : List UInt8}, ll[i]? = some l → (∀ x ∈ ll.take i, decE x = 0) → decE l ≠ 0 → fewF ll = decE l
  | [], i, l, h, _, _ => by simp at h
  | x :: r, 0, l, h, _, hl => by
    simp at h
    subst h
    unfold fewF
    rw [if_pos hl]
  | x :: r, i + 1, l, h, ha, hl => by
    unfold fewF
    rw [if_neg (by simp [ha x (by simp)])]
    exact fewF_bad (i := i) (by simpa using h) (fun y hy => ha y (by simp [hy])) hl
theorem all_take_snoc {α : Type} {p : α → Prop} {l : List α} {i : Nat} {x : α} (h : ∀ y ∈ l.take i, p y) (hx : l[i]? = some x) (hp : p x) : ∀ y ∈ l.take (i + 1), p y := by
  intro y hy
  rw [List.take_add_one, hx] at hy
  simp at hy
  rcases hy with hy | rfl
  · exact h y hy
  · exact hp
theorem map_take_snoc {α β : Type} (f : α → β) {l : List α} {i : Nat} {x : α} (hx : l[i]? = some x) : (l.take (i + 1)).map f = (l.take i).map f ++ [f x] := by
  rw [List.take_add_one, hx]; simp
theorem encB_len {l : List Val} (ho : ∀ v ∈ l, VOk v) (ht : tot l ≤ 1000000) : (encB l).length ≤ 1000010 := by
  unfold encB
  split
  · have := flat_len l ho
    have h1 := tot_len l
    have := putN_len10 (n := l.length) (by omega)
    rw [List.length_append]; omega
  · simp
theorem many_len : ∀ (ll : List (List Val)), (∀ l ∈ ll, (∀ v ∈ l, VOk v) ∧ tot l ≤ 1000000) → ((ll.map encB).flatMap putB).length ≤ ll.length * 1000020
  | [], _ => Nat.zero_le _
  | l :: r, h => by
    have h1 := many_len r (fun x hx => h x (by simp [hx]))
    have h2 := encB_len (h l (by simp)).1 (h l (by simp)).2
    have h3 := putN_len10 (n := (encB l).length) (by omega)
    rw [List.map_cons, List.flatMap_cons, List.length_append, List.length_cons]
    unfold putB
    unfold putB at h1
    rw [List.length_append]; omega
end Go.Proofs.YtejbljopighenaaDoor
namespace Go.Proofs.YtejbljopighenaaDoor
open Go.RowKit

/-- A slice of n slices that reads as these lists of cells, elements of es cells, below block B. -/
def RdN (w : World) (B es : Nat) (A : Option Addr) (n : Nat) (xss : List (List Value)) : Prop :=
  ∃ vs, Reads w B 1 A n vs ∧ vs.length = xss.length ∧ ∀ (k : Nat) (v : Value) (xs : List Value), vs[k]? = some v → xss[k]? = some xs → ∃ A m c, v = .slice A m c ∧ m ≤ c ∧ Reads w B es A m xs
section
variable {w w' : World} {B B' base es n c : Nat} {A : Option Addr} {xss : List (List Value)}
theorem RdN.below (h : RdN w B es A n xss) (hb : Below B w w') : RdN w' B es A n xss := by
  obtain ⟨vs, h1, h2, h3⟩ := h
  refine ⟨vs, h1.below hb, h2, fun k v xs e1 e2 => ?_⟩
  obtain ⟨A, m, c, hv, hm, hr⟩ := h3 k v xs e1 e2
  exact ⟨A, m, c, hv, hm, hr.below hb⟩
theorem RdN.more (h : RdN w B es A n xss) (hB : B ≤ B') : RdN w B' es A n xss := by
  obtain ⟨vs, h1, h2, h3⟩ := h
  refine ⟨vs, h1.more hB, h2, fun k v xs e1 e2 => ?_⟩
  obtain ⟨A, m, c, hv, hm, hr⟩ := h3 k v xs e1 e2
  exact ⟨A, m, c, hv, hm, hr.more hB⟩
theorem RdN.up (h : RdN w w.heap.size es A n xss) (hb : Below w.heap.size w w') : RdN w' w'.heap.size es A n xss := (h.below hb).more hb.size
theorem RdN.drew (h : RdN w B es A n xss) : RdN w.drew B es A n xss := h
theorem RdN.len (h : RdN w B es A n xss) : xss.length = n := by obtain ⟨vs, h1, h2, _⟩ := h; have := h1.1; omega
theorem RdN.nil_ : RdN w B es A 0 [] := ⟨[], Reads.none_, rfl, fun k v xs h => by simp at h⟩
theorem RdN.at_ (h : RdN w B es A n xss) {k : Nat} {xs : List Value} (hk : xss[k]? = some xs) : ∃ ad A' m c', A = some ad ∧ (ad.add (k * 1)).block < B ∧ w.cell? (ad.add (k * 1)) = some (.slice A' m c') ∧ m ≤ c' ∧ Reads w B es A' m xs := by
  have hl := h.len
  have hkn : k < n := by have := (List.getElem?_eq_some_iff.1 hk).1; omega
  obtain ⟨vs, h1, h2, h3⟩ := h
  obtain ⟨b, off, u, e, hb, hu, hc⟩ := h1.at_ hkn
  obtain ⟨A', m, c', rfl, hm, hr⟩ := h3 k u xs hu hk
  exact ⟨⟨b, off, none⟩, A', m, c', e, by rw [block_of_add]; exact hb, by rw [Nat.mul_one, Addr.add_lit]; exact hc, hm, hr⟩
theorem RdS.nest {ll : List (List UInt8)} (h : RdS w B A n ll) : RdN w B 1 A n (ll.map bvs) := by
  obtain ⟨vs, h1, h2⟩ := h
  refine ⟨vs, h1, by rw [h2.len]; simp, fun k v xs e1 e2 => ?_⟩
  rw [List.getElem?_map] at e2
  obtain ⟨l, hl, rfl⟩ := Option.map_eq_some_iff.1 e2
  exact h2.rd k v l e1 hl
theorem RdN.lists {ll : List (List UInt8)} (h : RdN w B 1 A n (ll.map bvs)) : RdS w B A n ll := by
  obtain ⟨vs, h1, h2, h3⟩ := h
  refine ⟨vs, h1, by simpa using h2, fun k v l e1 e2 => ?_⟩
  exact h3 k v (bvs l) e1 (by rw [List.getElem?_map, e2]; rfl)
theorem row_cap {e : TypeId} {xs : List Value} (h : w.ownsRow base e es (.slice A n c) n xs) : n ≤ c := by
  rcases h.2 with ⟨hv, h0⟩ | ⟨g, cap, cur, hv, _, _, hle, _⟩
  · injection hv with _ h1 h2; omega
  · injection hv with _ h1 h2; omega
theorem row_kept {e : TypeId} {v : Value} {xs : List Value} {row : Option Nat} (h : w.ownsRow base e es v n xs) (hg : w.grownBy w' row) (hne : v.ownBlock = none ∨ v.ownBlock ≠ row) : w'.ownsRow base e es v n xs := World.ownsRow.kept h hg hne
end

/-- A slice of n slices of the call's own, its elements too: T the elements' type, eT and es what these hold. -/
def OwnN (w : World) (base : Nat) (T eT : TypeId) (es : Nat) (A : Option Addr) (n c : Nat) (xss : List (List Value)) : Prop :=
  ∃ vs, w.ownsRow base T 1 (.slice A n c) n vs ∧ vs.length = xss.length ∧ ∀ (k : Nat) (v : Value) (xs : List Value), vs[k]? = some v → xss[k]? = some xs → ∃ A m c, v = .slice A m c ∧ w.ownsRow base eT es (.slice A m c) m xs
section
variable {w w' : World} {B B' base es n c : Nat} {T eT : TypeId} {A : Option Addr} {xss : List (List Value)}
theorem OwnN.nil_ (w : World) (base : Nat) : OwnN w base T eT es none 0 0 [] := ⟨[], World.ownsRow_nil _ _ _ _, rfl, fun k v xs h => by simp at h⟩
theorem OwnN.rd (h : OwnN w base T eT es A n c xss) : RdN w w.heap.size es A n xss := by
  obtain ⟨vs, h1, h2, h3⟩ := h
  refine ⟨vs, Reads.of_own h1, h2, fun k v xs e1 e2 => ?_⟩
  obtain ⟨A', n', c', hv, ho⟩ := h3 k v xs e1 e2
  exact ⟨A', n', c', hv, row_cap ho, Reads.of_own ho⟩
theorem OwnN.below (h : OwnN w base T eT es A n c xss) (hb : Below w.heap.size w w') : OwnN w' base T eT es A n c xss := by
  obtain ⟨vs, h1, h2, h3⟩ := h
  refine ⟨vs, ownsRow_below h1 hb, h2, fun k v xs e1 e2 => ?_⟩
  obtain ⟨A', n', c', hv, ho⟩ := h3 k v xs e1 e2
  exact ⟨A', n', c', hv, ownsRow_below ho hb⟩
theorem OwnN.cap_ (h : OwnN w base T eT es A n c xss) : n ≤ c := by obtain ⟨vs, h1, _⟩ := h; exact row_cap h1
theorem OwnN.lo (h : OwnN w base T eT es A n c xss) : ∀ k, (Value.slice A n c).ownBlock = some k → base ≤ k := by obtain ⟨vs, h1, _⟩ := h; exact fun k hk => (World.ownsRow.lt h1 k hk).1
end
section
variable {P : Program} {E : Env} {d : Option Nat} {ty : TypeId} {p : String} {af : Array Edge} {gd : Option (Nat × Bool)} {x y : Operand} {t : TypeId} {kw : Value → World → Prop} {w : World}
/-- append of one. -/
theorem v_appN {T eT : TypeId} {es : Nat} (hne : eT ≠ T) (hT : P.underlying t = some (.slice T)) (hi : (P.info? T).map (fun i => (i.zero, i.size, i.bytes)) = some (some (.slice none 0 0), 1, 24))
    {base : Nat} {A : Option Addr} {n c : Nat} {xss : List (List Value)} (hx : val E x = .slice A n c) (hown : OwnN w base T eT es A n c xss) {B : Nat} {A2 : Option Addr} {c2 : Nat} {A' : Option Addr} {m c' : Nat} {xs : List Value} (hy : val E y = .slice A2 1 c2)
    (hr : Reads w B 1 A2 1 [.slice A' m c']) (ho : w.ownsRow base eT es (.slice A' m c') m xs) (hsz : n + 1 ≤ 1000000000) (hbase : base ≤ w.heap.size)
    (h : ∀ A3 c3 w', OwnN w' base T eT es A3 (n + 1) c3 (xss ++ [xs]) → w.grownBy w' (Value.slice A n c).ownBlock → kw (.slice A3 (n + 1) c3) w') :
    VVal P E { dst := d, op := .call { callee := .builtin .append, args := #[x, y], argTypes := #[t, t] }, type := ty, pos := p, after := af, guard := gd } w kw := by
  obtain ⟨vs, h1, h2, h3⟩ := hown
  refine v_appG hT hi rfl (by decide) hx h1 hy hr (by intro u hu; simp at hu; subst hu; rfl) ⟨hsz, by decide⟩ hbase ?_
  intro A3 c3 w' h4 hg
  refine h A3 c3 w' ⟨vs ++ [.slice A' m c'], h4, by simp [h2], fun k v ys e1 e2 => ?_⟩ hg
  by_cases hk : k < vs.length
  · rw [List.getElem?_append_left hk] at e1
    rw [List.getElem?_append_left (by omega)] at e2
    obtain ⟨A4, m4, c4, rfl, o4⟩ := h3 k v ys e1 e2
    exact ⟨A4, m4, c4, rfl, row_kept o4 hg (rows_apart hne o4 h1)⟩
  · rw [List.getElem?_append_right (by omega)] at e1 e2
    have e : k - vs.length = 0 := by
      have := (List.getElem?_eq_some_iff.1 e1).1
      simp at this; omega
    rw [e] at e1
    rw [show k - xss.length = 0 by omega] at e2
    simp at e1 e2
    subst e1; subst e2
    exact ⟨A', m, c', rfl, row_kept ho hg (rows_apart hne ho h1)⟩
end
theorem sls : slOf Tryd.prog 62 = some (22, 1) := by kernel_rfl
theorem zls : zeroOf Tryd.prog 22 = some [.slice none 0 0] := by kernel_rfl
theorem agg_sl : aggOf Tryd.prog 22 = some (false, 1) := by kernel_rfl
end Go.Proofs.YtejbljopighenaaDoor
namespace Go.Proofs.YtejbljopighenaaDoor
open Go.RowKit
theorem is_encode : isFn Tryd.prog 61 = true := by kernel_rfl
theorem is_decode : isFn Tryd.prog 81 = true := by kernel_rfl
theorem is_join : isFn Tryd.prog 24 = true := by kernel_rfl
theorem is_split : isFn Tryd.prog 31 = true := by kernel_rfl
theorem slvv : slOf Tryd.prog 56 = some (59, 1) := by kernel_rfl
theorem agg_slv : aggOf Tryd.prog 59 = some (false, 1) := by kernel_rfl
theorem zlv : zeroOf Tryd.prog 59 = some [.slice none 0 0] := by kernel_rfl
theorem lvinfo : (Tryd.prog.info? 59).map (fun i => (i.zero, i.size, i.bytes)) = some (some (.slice none 0 0), 1, 24) := by kernel_rfl
theorem u_svv : Tryd.prog.underlying 56 = some (.slice 59) := by kernel_rfl
def RdVS (w : World) (B : Nat) (A : Option Addr) (n : Nat) (ll : List (List Val)) : Prop := RdN w B 3 A n (ll.map vcs)
theorem RdVS.len {w : World} {B n : Nat} {A : Option Addr} {ll : List (List Val)} (h : RdVS w B A n ll) : ll.length = n := by have := RdN.len h; simpa using this
theorem RdVS.up {w w' : World} {n : Nat} {A : Option Addr} {ll : List (List Val)} (h : RdVS w w.heap.size A n ll) (hb : Below w.heap.size w w') : RdVS w' w'.heap.size A n ll := RdN.up h hb
theorem RdVS.at_ {w : World} {B n : Nat} {A : Option Addr} {ll : List (List Val)} (h : RdVS w B A n ll) {i : Nat} {l : List Val} (hi : ll[i]? = some l) : ∃ ad A' m c', A = some ad ∧ (ad.add (i * 1)).block < B ∧ w.cell? (ad.add (i * 1)) = some (.slice A' m c') ∧ m ≤ c' ∧ RdV w B A' m l := RdN.at_ h (by rw [List.getElem?_map, hi]; rfl)
/-- Not too great. -/
def FitsL (ll : List (List Val)) : Prop := ll.length ≤ 1000000 ∧ (∀ l ∈ ll, (∀ v ∈ l, VOk v) ∧ tot l ≤ 1000000) ∧ (joinL (ll.map encB)).length ≤ 10000000000
theorem fits_of {ll : List (List Val)} (h : ll.length ≤ 1000 ∧ ∀ l ∈ ll, (∀ v ∈ l, VOk v) ∧ tot l ≤ 1000000) : FitsL ll := by
  refine ⟨by omega, h.2, ?_⟩
  have := many_len ll h.2
  have h3 := putN_len10 (n := (ll.map encB).length) (by rw [List.length_map]; have := h.1; omega)
  unfold joinL
  rw [List.length_append]
  have := h.1
  omega
theorem fits_join {ll : List (List Val)} (h : FitsL ll) : (joinL (ll.map encB)).length ≤ 10000000000 := h.2.2
def ManyG (w : World) (ll : List (List Val)) (e : Ending) (w' : World) : Prop := ∃ A' m c', e = .returned (.tuple #[.slice A' m c', .int .i64 (manyE ll)]) ∧ Own w' w.heap.size A' m c' (manyB ll) ∧ Below w.heap.size w w'
set_option maxRecDepth 100000 in
theorem many_any (A : Option Addr) (n c : Nat) (ll : List (List Val)) (w : World) (hr : RdVS w w.heap.size A n ll) (hf : FitsL ll) :
    Calls Tryd.prog 46 #[.slice A n c] w (ManyG w ll) := by
  refine calls_ev (args := [.slice A n c]) mixed Tryd.func46 rfl (by kernel_rfl) ?_
  have hln := hr.len
  have hn := hf.1
  refine p_len slvv rfl ?_
  refine lp (Nat × Option Addr × Nat) (fun s W => Below w.heap.size w W ∧ s.1 ≤ n ∧ (∀ l ∈ ll.take s.1, encE l = 0) ∧ OwnN W w.heap.size 22 5 1 s.2.1 s.1 s.2.2 ((ll.take s.1).map fun l => bvs (encB l)))
    (fun s => [(4, .slice s.2.1 s.1 s.2.2), (9, .slice A n c), (10, .int .i64 n), (11, .int .i64 s.1)]) (fun s => n - s.1) (0, none, 0) ⟨Below.refl _ _, Nat.zero_le _, by simp, OwnN.nil_ _ _⟩ ⟨rfl, rfl, rfl, rfl, trivial⟩ ?_
  rintro ⟨i, A3, c3⟩ E0 W1 ⟨hb1, hin, hall, o1⟩
  dsimp only at hin hall o1
  have hs1 := hb1.size
  refine p_lt rfl rfl (fun h => ?_) (fun h => ?_)
  · obtain ⟨l, hl⟩ : ∃ l, ll[i]? = some l := ⟨_, List.getElem?_eq_getElem (by omega)⟩
    have hlm := hf.2.1 l (List.mem_of_getElem? hl)
    obtain ⟨ad, A4, m, c4, rfl, hbl, hcell, hmc, hrv⟩ := hr.at_ hl
    replace hrv := (hrv.below hb1).more hs1
    refine p_at (i := i) slvv rfl rfl rfl (by omega) ?_
    refine v_load agg_slv rfl ((hb1.cell hbl).trans hcell) ?_
    refine cc is_encode (encode_any _ _ _ _ _ hrv hlm.1 hlm.2) ?_
    rintro e W2 ⟨A5, m5, c5, rfl, o5, b5⟩
    refine ⟨_, rfl, ?_⟩
    have hb2 := hb1.trans (b5.mono hs1)
    refine p_ne rfl rfl (fun h0 => ?_) (fun h0 => ?_)
    · have o2 := o1.below b5
      have lo2 := o2.lo
      refine v_bslice (vs := [.slice A5 m5 c5]) sls zls rfl (by decide) rfl ?_
      rintro g W3 hg hB hb3 hsz3
      rw [hg] at hb3
      have hb4 := hb2.trans (hb3.mono hb2.size)
      have hs4 := hb4.size
      refine v_appN (by decide) Tryd.underlying62 lsinfo rfl (o2.below hb3) rfl (Reads.blk hB rfl) (ownsRow_below (o5.less hs1) hb3) (by omega) hs4 ?_
      rintro A6 c6 W4 o6 hg6
      have hb6 : Below w.heap.size w W4 := hb4.grown hg6 hs4 (fun k hk => lo2 k hk)
      refine p_add rfl rfl (w64 (by omega)) ?_
      refine ⟨(i + 1, A6, c6), ⟨hb6, by show i + 1 ≤ n; omega, all_take_snoc hall hl h0, ?_⟩, ⟨rfl, rfl, rfl, rfl, trivial⟩, by show n - (i + 1) < n - i; omega⟩
      show OwnN W4 w.heap.size 22 5 1 A6 (i + 1) c6 ((ll.take (i + 1)).map fun l => bvs (encB l))
      rw [map_take_snoc _ hl]; exact o6
    · have e1 : manyE ll = encE l := manyE_bad hl hall h0
      have e2 : manyB ll = [] := by unfold manyB; rw [if_neg (by rw [e1]; exact h0)]
      exact ⟨none, 0, 0, by rw [e1]; rfl, by rw [e2]; exact Own.nil_ _ _, hb2⟩
  · have hi : i = n := by omega
    subst hi
    rw [List.take_of_length_le (by omega)] at hall o1
    have e1 := manyE_ok hall
    have e2 : manyB ll = joinL (ll.map encB) := by unfold manyB; rw [if_pos e1]
    have r : RdS W1 W1.heap.size A3 i (ll.map encB) := RdN.lists (by have := o1.rd; rw [List.map_map]; exact this)
    refine cc is_join (join_any _ _ _ _ _ r (by omega) (fits_join hf)) ?_
    rintro e W2 ⟨A5, m5, c5, rfl, o5, b5⟩
    refine ⟨_, rfl, ?_⟩
    exact ⟨A5, m5, c5, by rw [e1]; rfl, by rw [e2]; exact o5.less hs1, hb1.trans (b5.mono hs1)⟩
def FewG (w : World) (b : List UInt8) (e : Ending) (w' : World) : Prop := ∃ A' m c', e = .returned (.tuple #[.slice A' m c', .int .i64 (fewE b)]) ∧ OwnN w' w.heap.size 59 61 3 A' m c' ((fewL b).map vcs) ∧ Below w.heap.size w w'
theorem flat_cnt (ll : List (List UInt8)) : ll.length ≤ (ll.flatMap putB).length := by
  induction ll with
  | nil => exact Nat.zero_le _
  | cons s ll ih =>
    have := putN_pos s.length
    rw [List.flatMap_cons, List.length_append, List.length_cons]
    unfold putB at ih ⊢
    rw [List.length_append]; omega
theorem spL_cnt {l : List UInt8} (h : spE l = 0) : (spL l).length ≤ l.length ∧ short (spL l) := by
  obtain ⟨h1, h2⟩ := join_split l h
  refine ⟨?_, h2⟩
  have := flat_cnt (spL l)
  have e : (joinL (spL l)).length = l.length := by rw [h1]
  unfold joinL at e
  rw [List.length_append] at e
  omega
theorem row_lessM {w : World} {base base' es n : Nat} {e : TypeId} {v : Value} {xs : List Value} (h : w.ownsRow base e es v n xs) (hb : base' ≤ base) : w.ownsRow base' e es v n xs := by
  refine ⟨h.1, ?_⟩
  rcases h.2 with h3 | ⟨g, cap, cur, hv, hg, r⟩
  · exact .inl h3
  · exact .inr ⟨g, cap, cur, hv, by omega, r⟩
theorem OwnN.less {w : World} {base base' es n c : Nat} {T eT : TypeId} {A : Option Addr} {xss : List (List Value)} (h : OwnN w base T eT es A n c xss) (hb : base' ≤ base) : OwnN w base' T eT es A n c xss := by
  obtain ⟨vs, h1, h2, h3⟩ := h
  refine ⟨vs, row_lessM h1 hb, h2, fun k v xs e1 e2 => ?_⟩
  obtain ⟨A', n', c', hv, ho⟩ := h3 k v xs e1 e2
  exact ⟨A', n', c', hv, row_lessM ho hb⟩
set_option maxRecDepth 100000 in
theorem few_any (A : Option Addr) (n c : Nat) (b : List UInt8) (w : World) (hr : Rd w w.heap.size A n b) (hn : n ≤ 100000000) (hnc : n ≤ c) :
    Calls Tryd.prog 74 #[.slice A n c] w (FewG w b) := by
  refine calls_ev (args := [.slice A n c]) mixed Tryd.func74 rfl (by kernel_rfl) ?_
  refine cc is_split (split_any _ _ _ _ _ hr (by omega) hnc) ?_
  rintro e W0 ⟨A1, n1, c1, rfl, oS, b0⟩
  refine ⟨_, rfl, ?_⟩
  have hs0 := b0.size
  refine p_ne rfl rfl (fun h0 => ?_) (fun h0 => ?_)
  rotate_left
  · have e1 : fewE b = spE b := by unfold fewE; rw [if_pos h0]
    have e2 : fewL b = [] := by unfold fewL; rw [if_neg (by rw [e1]; exact h0)]
    exact ⟨none, 0, 0, by rw [e1]; rfl, by rw [e2]; exact OwnN.nil_ _ _, b0⟩
  have hE : fewE b = fewF (spL b) := by unfold fewE; rw [if_neg (by simp [h0])]
  obtain ⟨hcnt, hsh⟩ := spL_cnt h0
  have hbl := hr.len
  have hrd := oS.rd.nest
  have hln : (spL b).length = n1 := by have := hrd.len; simpa using this
  obtain ⟨ll, hll⟩ : ∃ ll, spL b = ll := ⟨_, rfl⟩
  rw [hll] at hE hcnt hsh hrd hln
  refine p_len sls rfl ?_
  refine lp (Nat × Option Addr × Nat) (fun s W => Below W0.heap.size W0 W ∧ s.1 ≤ n1 ∧ (∀ l ∈ ll.take s.1, decE l = 0) ∧ OwnN W W0.heap.size 59 61 3 s.2.1 s.1 s.2.2 ((ll.take s.1).map fun l => vcs (decL l)))
    (fun s => [(6, .slice s.2.1 s.1 s.2.2), (19, .slice A1 n1 c1), (20, .int .i64 n1), (21, .int .i64 s.1)]) (fun s => n1 - s.1) (0, none, 0) ⟨Below.refl _ _, Nat.zero_le _, by simp, OwnN.nil_ _ _⟩ ⟨rfl, rfl, rfl, rfl, trivial⟩ ?_
  rintro ⟨i, A3, c3⟩ E0 W1 ⟨hb1, hin, hall, o1⟩
  dsimp only at hin hall o1
  have hs1 := hb1.size
  refine p_lt rfl rfl (fun h => ?_) (fun h => ?_)
  · obtain ⟨l, hl⟩ : ∃ l, ll[i]? = some l := ⟨_, List.getElem?_eq_getElem (by omega)⟩
    have hls := hsh l (List.mem_of_getElem? hl)
    obtain ⟨ad, A4, m, c4, rfl, hbl, hcell, hmc, hrv⟩ := hrd.at_ (k := i) (xs := bvs l) (by rw [List.getElem?_map, hl]; rfl)
    replace hrv : Rd W1 W1.heap.size A4 m l := (hrv.below hb1).more hs1
    have hml := hrv.len
    refine p_at (i := i) sls rfl rfl rfl (by omega) ?_
    refine v_load agg_sl rfl ((hb1.cell hbl).trans hcell) ?_
    refine cc is_decode (decode_any _ _ _ _ _ hrv (by omega) hmc) ?_
    rintro e W2 ⟨A5, m5, c5, rfl, o5, b5⟩
    refine ⟨_, rfl, ?_⟩
    have hb2 := hb1.trans (b5.mono hs1)
    refine p_ne rfl rfl (fun h0 => ?_) (fun h0 => ?_)
    · have o2 := o1.below b5
      have lo2 := o2.lo
      refine v_bslice (vs := [.slice A5 m5 c5]) slvv zlv rfl (by decide) rfl ?_
      rintro g W3 hg hB hb3 hsz3
      rw [hg] at hb3
      have hb4 := hb2.trans (hb3.mono hb2.size)
      have hs4 := hb4.size
      refine v_appN (by decide) u_svv lvinfo rfl (o2.below hb3) rfl (Reads.blk hB rfl) (ownsRow_below (row_lessM o5 hs1) hb3) (by omega) hs4 ?_
      rintro A6 c6 W4 o6 hg6
      have hb6 : Below W0.heap.size W0 W4 := hb4.grown hg6 hs4 (fun k hk => lo2 k hk)
      refine p_add rfl rfl (w64 (by omega)) ?_
      refine ⟨(i + 1, A6, c6), ⟨hb6, by show i + 1 ≤ n1; omega, all_take_snoc hall hl h0, ?_⟩, ⟨rfl, rfl, rfl, rfl, trivial⟩, by show n1 - (i + 1) < n1 - i; omega⟩
      show OwnN W4 W0.heap.size 59 61 3 A6 (i + 1) c6 ((ll.take (i + 1)).map fun l => vcs (decL l))
      rw [map_take_snoc _ hl]; exact o6
    · have e1 : fewE b = decE l := by rw [hE]; exact fewF_bad hl hall h0
      have e2 : fewL b = [] := by unfold fewL; rw [if_neg (by rw [e1]; exact h0)]
      exact ⟨none, 0, 0, by rw [e1]; rfl, by rw [e2]; exact OwnN.nil_ _ _, b0.trans (hb2.mono hs0)⟩
  · have hi : i = n1 := by omega
    subst hi
    rw [List.take_of_length_le (by omega)] at hall o1
    have e1 : fewE b = 0 := by rw [hE]; exact fewF_ok hall
    have e2 : fewL b = ll.map decL := by unfold fewL; rw [if_pos e1, hll]
    exact ⟨A3, i, c3, by rw [e1]; rfl, by rw [e2, List.map_map]; exact o1.less hs0, b0.trans (hb1.mono hs0)⟩
set_option maxRecDepth 100000 in
theorem sameRows_any (A B : Option Addr) (n c m d : Nat) (x y : List (List Val)) (w : World) (hx : RdVS w w.heap.size A n x) (hy : RdVS w w.heap.size B m y) (hn : n ≤ 1000000000) (fx : ∀ l ∈ x, l.length ≤ 1000000000) (fy : ∀ l ∈ y, l.length ≤ 1000000000) :
    Calls Tryd.prog 78 #[.slice A n c, .slice B m d] w fun e w' => ∃ q, e = .returned (.bool q) ∧ q = decide (x = y) ∧ Below w.heap.size w w' := by
  refine calls_ev (args := [.slice A n c, .slice B m d]) mixed Tryd.func78 rfl (by kernel_rfl) ?_
  have hlx := hx.len
  have hly := hy.len
  refine p_len slvv rfl ?_
  refine p_len slvv rfl ?_
  refine p_ne rfl rfl (fun h0 => ?_) (fun h0 => ?_)
  rotate_left
  · exact ⟨false, rfl, (decide_eq_false (by rintro rfl; omega)).symm, Below.refl _ _⟩
  refine lp Nat (fun i W => Below w.heap.size w W ∧ i ≤ n ∧ x.take i = y.take i) (fun i => [(0, .slice A n c), (1, .slice B m d), (5, .int .i64 i)]) (fun i => n - i) 0 ⟨Below.refl _ _, Nat.zero_le _, rfl⟩ ⟨rfl, rfl, rfl, trivial⟩ ?_
  rintro i E0 W1 ⟨hb1, hin, ht⟩
  have hx1 := hx.below hb1
  have hy1 := hy.below hb1
  have hs1 := hb1.size
  refine p_len slvv rfl ?_
  refine p_lt rfl rfl (fun h1 => ?_) (fun h1 => ?_)
  · obtain ⟨u, hu⟩ : ∃ u, x[i]? = some u := ⟨_, List.getElem?_eq_getElem (by omega)⟩
    obtain ⟨v, hv⟩ : ∃ v, y[i]? = some v := ⟨_, List.getElem?_eq_getElem (by omega)⟩
    obtain ⟨a, A3, n3, c3, rfl, hk3, hc3, _, hr3⟩ := RdVS.at_ hx1 hu
    obtain ⟨b, A4, n4, c4, rfl, hk4, hc4, _, hr4⟩ := RdVS.at_ hy1 hv
    have hl3 := hr3.len
    have hl4 := hr4.len
    have f3 := fx u (List.mem_of_getElem? hu)
    have f4 := fy v (List.mem_of_getElem? hv)
    refine dr (fun W => W.cell? (a.add (i * 1)) = some (.slice A3 n3 c3) ∧ W.cell? (b.add (i * 1)) = some (.slice A4 n4 c4)) [(0, true), (1, true), (2, true), (3, true), (4, true), (5, true), (6, true), (7, true), (8, false), (9, true)] (by kernel_rfl) ⟨hc3, hc4⟩ ?_
    refine p_at (i := i) slvv rfl rfl rfl (by omega) ?_
    refine t_load agg_slv rfl (fun W h => h.1) ?_
    refine p_at (i := i) slvv rfl rfl rfl (by omega) ?_
    refine t_load agg_slv rfl (fun W h => h.2) ?_
    refine cc is_rows (rows_any _ _ _ _ _ _ _ _ _ (hr3.drew.more hs1) (hr4.drew.more hs1) (by omega) (by omega)) ?_
    rintro e W2 ⟨r, rfl, hr, hb2⟩
    have hb3 := hb1.drew.trans (hb2.mono hs1)
    refine ⟨_, rfl, ⟨(hb2.cell (Nat.lt_of_lt_of_le hk3 hs1)).trans hc3, (hb2.cell (Nat.lt_of_lt_of_le hk4 hs1)).trans hc4⟩, ?_⟩
    refine p_ne rfl rfl (fun h => ?_) (fun h => ?_)
    · have huv := hr.1 h
      subst huv
      refine p_add rfl rfl (w64 (by omega)) ?_
      exact ⟨i + 1, ⟨hb3, by omega, take_step ht hu hv⟩, ⟨rfl, rfl, rfl, trivial⟩, by omega⟩
    · refine ⟨false, rfl, (decide_eq_false ?_).symm, hb3⟩
      rintro rfl
      rw [hu] at hv; injection hv with hv; exact h (hr.2 hv)
  · exact ⟨true, rfl, (decide_eq_true (take_all ht (by omega) (by omega))).symm, hb1⟩
end Go.Proofs.YtejbljopighenaaDoor
namespace Go.Proofs.YtejbljopighenaaDoor
open Go.RowKit
theorem all1 {vs : List Value} (h : vs.all (fun u => u.oneCell') = true) : ∀ u ∈ vs, u.oneCell' = true := fun u hu => List.all_eq_true.1 h u hu
/-- A row that grows. -/
structure Row where
  e : TypeId
  s : Nat
  A : Option Addr
  n : Nat
  c : Nat
  xs : List Value
/-- What stays: cells that read as data; cells at a place. -/
inductive Fact where
  | dat (fr : Bool) (ds : List D) (cs : List Value)
  | loc (a : Addr) (cs : List Value)
  | stp (W0 : World) (os0 : List (Option Nat))
  | rng (lo hi : Nat) (ds : List D) (cs : List Value)
abbrev Lc := List (Nat × TypeId × List Value)
def own (L : Lc) (R : List Row) (gs : List (Option Nat)) : List (Option Nat) := L.map (fun x => some x.1) ++ (R.map (fun r => bk r.A) ++ gs)
def Ft (w W : World) (os : List (Option Nat)) (fr : Bool) (b : Nat) : Prop := b < W.heap.size ∧ some b ∉ os ∧ (fr = true → w.heap.size ≤ b ∧ Thaw W b)
def Fact.ok (w W : World) (os : List (Option Nat)) : Fact → Prop
  | .dat fr ds cs => RdL W (Ft w W os fr) ds cs
  | .loc a cs => Ft w W os false a.block ∧ ∀ j x, cs[j]? = some x → W.cell? (a.add j) = some x
  | .stp W0 os0 => Stp W0 os0 W os
  | .rng lo hi ds cs => RdL W (fun b => Ft w W os true b ∧ lo ≤ b ∧ b < hi) ds cs
def Apart (a b : Option Nat) : Prop := a = none ∨ a ≠ b
structure St (w : World) (gs : List (Option Nat)) (W : World) (L : Lc) (R : List Row) (fs : List Fact) : Prop where
  below : Below w.heap.size w W
  lt : ∀ b, some b ∈ gs → b < w.heap.size
  blk : ∀ x ∈ L, Blk W x.1 x.2.1 x.2.2 ∧ w.heap.size ≤ x.1
  row : ∀ r ∈ R, W.ownsRow w.heap.size r.e r.s (.slice r.A r.n r.c) r.n r.xs
  ap : (L.map (fun x => some x.1) ++ R.map (fun r => bk r.A)).Pairwise Apart
  fct : ∀ f ∈ fs, f.ok w W (own L R gs)
def setL : Lc → Nat → List Value → Lc
  | [], _, _ => []
  | (g, T, _) :: L, 0, cs => (g, T, cs) :: L
  | x :: L, i + 1, cs => x :: setL L i cs
theorem setL_map : ∀ (L : Lc) (i : Nat) (cs : List Value), (setL L i cs).map (fun x => some x.1) = L.map (fun x => some x.1)
  | [], _, _ => rfl
  | (g, T, _) :: L, 0, cs => rfl
  | x :: L, i + 1, cs => by unfold setL; rw [List.map_cons, List.map_cons, setL_map L i cs]
theorem setL_own (L : Lc) (i : Nat) (cs : List Value) (R : List Row) (gs : List (Option Nat)) : own (setL L i cs) R gs = own L R gs := by unfold own; rw [setL_map]
theorem nth_mem {α : Type} {l : List α} {i : Nat} {x : α} (h : nth l i = some x) : x ∈ l := by rw [nth_eq] at h; exact List.mem_of_getElem? h
theorem setL_mem : ∀ {L : Lc} {i : Nat} {g : Nat} {T : TypeId} {cs cs' : List Value}, nth L i = some (g, T, cs) → (L.map (fun x => some x.1)).Pairwise Apart → ∀ x ∈ setL L i cs', x = (g, T, cs') ∨ (x ∈ L ∧ x.1 ≠ g)
  | (g0, T0, c0) :: L, 0, g, T, cs, cs', h, hp, x, hx => by
    injection h with h; injection h with e1 h; injection h with e2 e3
    subst e1; subst e2; subst e3
    unfold setL at hx
    rcases List.mem_cons.1 hx with rfl | hx
    · exact .inl rfl
    · right
      refine ⟨by simp [hx], fun e => ?_⟩
      rw [List.map_cons, List.pairwise_cons] at hp
      have := hp.1 (some x.1) (List.mem_map.2 ⟨x, hx, rfl⟩)
      rcases this with h | h
      · cases h
      · exact h (by rw [e])
  | y :: L, i + 1, g, T, cs, cs', h, hp, x, hx => by
    unfold setL at hx
    rw [List.map_cons, List.pairwise_cons] at hp
    rcases List.mem_cons.1 hx with rfl | hx
    · right
      refine ⟨by simp, fun e => ?_⟩
      have hm : (g, T, cs) ∈ L := nth_mem (show nth L i = _ from h)
      rcases hp.1 (some g) (List.mem_map.2 ⟨_, hm, rfl⟩) with h | h
      · cases h
      · exact h (by rw [e])
    · rcases setL_mem (L := L) (show nth L i = _ from h) hp.2 x hx with h | ⟨h1, h2⟩
      · exact .inl h
      · exact .inr ⟨by simp [h1], h2⟩
section
variable {w W W' : World} {gs os os' : List (Option Nat)} {L : Lc} {R : List Row} {fs : List Fact} {f : Fact} {ds : List D} {cs : List Value} {d : D} {u : Value} {fr : Bool} {g : Nat} {T : TypeId}
theorem Fact.ok.up (h : f.ok w W os) (s : Stp W os W' os') : f.ok w W' os' := by
  have key : ∀ {fr : Bool} b, Ft w W os fr b → W'.heap[b]? = W.heap[b]? ∧ Ft w W' os' fr b := fun b hb => ⟨s.block b hb.1 hb.2.1, by have := s.size; have := hb.1; omega, fun e => hb.2.1 (s.own b hb.1 e), fun e => ⟨(hb.2.2 e).1, (hb.2.2 e).2.same (s.block b hb.1 hb.2.1)⟩⟩
  cases f with
  | dat fr ds cs => exact RdL.to key h
  | stp W0 os0 => exact Stp.trans h s
  | rng lo hi ds cs => exact RdL.to (fun b hb => ⟨(key b hb.1).1, (key b hb.1).2, hb.2⟩) h
  | loc a cs =>
    obtain ⟨h1, h2⟩ := h
    obtain ⟨k1, k2⟩ := key _ h1
    exact ⟨k2, fun j x hx => (World.cell?_of_block (w := W) (a := a.add j) (by rw [block_of_add]; exact k1)).trans (h2 j x hx)⟩
theorem St.start (hgs : ∀ b, some b ∈ gs → b < w.heap.size) : St w gs w [] [] [] :=
  ⟨Below.refl _ _, hgs, (fun x h => by cases h), (fun x h => by cases h), List.Pairwise.nil, (fun x h => by cases h)⟩
theorem St.add (M : St w gs W L R fs) (h : f.ok w W (own L R gs)) : St w gs W L R (f :: fs) :=
  ⟨M.below, M.lt, M.blk, M.row, M.ap, fun x hx => by
    rcases List.mem_cons.1 hx with rfl | hx
    · exact h
    · exact M.fct x hx⟩
theorem St.addL (M : St w gs W L R fs) (h : RdL W (Fd W (own L R gs)) ds cs) : St w gs W L R (.dat false ds cs :: fs) :=
  M.add (f := .dat false ds cs) (h.to fun b hb => ⟨rfl, hb.1, hb.2, fun e => by cases e⟩)
theorem St.addD (M : St w gs W L R fs) (h : RdD W (Fd W (own L R gs)) d u) : St w gs W L R (.dat false [d] [u] :: fs) := M.addL (RdL.one h)
theorem St.addT (M : St w gs W L R fs) (h : RdL W (Ft w W (own L R gs) fr) ds cs) : St w gs W L R (.dat fr ds cs :: fs) := M.add (f := .dat fr ds cs) h
theorem St.addC (M : St w gs W L R fs) {a : Addr} (h : Fd W (own L R gs) a.block) (hc : ∀ j x, cs[j]? = some x → W.cell? (a.add j) = some x) : St w gs W L R (.loc a cs :: fs) :=
  M.add (f := .loc a cs) ⟨⟨h.1, h.2, fun e => by cases e⟩, hc⟩
theorem St.B (M : St w gs W L R fs) (i : Nat) (h : nth L i = some (g, T, cs)) : Blk W g T cs := (M.blk _ (nth_mem h)).1
theorem St.run (M : St w gs W L R fs) (i : Nat) (h : nth L i = some (g, T, cs)) : ∀ j v, cs[j]? = some v → W.cell? ((⟨g, 0, none⟩ : Addr).add j) = some v := (M.B i h).run 0 _ fun j v h => by rw [Nat.zero_add]; exact h
theorem St.dt (M : St w gs W L R fs) (i : Nat) (h : nth fs i = some (.dat fr ds cs)) : RdL W (Ft w W (own L R gs) fr) ds cs := M.fct _ (nth_mem h)
theorem St.dw (M : St w gs W L R fs) (i : Nat) (h : nth fs i = some (.dat fr ds cs)) : RdL W (Ft w W (own L R gs) false) ds cs := (M.dt i h).to fun b hb => ⟨rfl, hb.1, hb.2.1, fun e => by cases e⟩
theorem St.da (M : St w gs W L R fs) (i : Nat) (h : nth fs i = some (.dat fr ds cs)) : RdL W (Fd W (own L R gs)) ds cs := (M.dt i h).to fun b hb => ⟨rfl, hb.1, hb.2.1⟩
theorem RdL.hd {F : Nat → Prop} (h : RdL W F [d] [u]) : RdD W F d u := by obtain ⟨v, vs, e, h1, _⟩ := h.uncons; injection e with e1 e2; subst e1; exact h1
theorem St.d1 (M : St w gs W L R fs) (i : Nat) (h : nth fs i = some (.dat fr [d] [u])) : RdD W (Fd W (own L R gs)) d u := (M.da i h).hd
theorem St.lc (M : St w gs W L R fs) (i : Nat) {a : Addr} (h : nth fs i = some (.loc a cs)) : ∀ j x, cs[j]? = some x → W.cell? (a.add j) = some x := (M.fct _ (nth_mem h)).2
theorem own_gs {b : Option Nat} (h : b ∈ gs) : b ∈ own L R gs := by unfold own; simp [h]
theorem St.fin (M : St w gs W L R fs) (i : Nat) (h : nth fs i = some (.dat fr ds cs)) : RdL W (Fd W gs) ds cs := (M.dt i h).to fun b hb => ⟨rfl, hb.1, fun e => hb.2.1 (own_gs e)⟩
theorem St.fin1 (M : St w gs W L R fs) (i : Nat) (h : nth fs i = some (.dat fr [d] [u])) : RdD W (Fd W gs) d u := (M.fin i h).hd
theorem St.finF (M : St w gs W L R fs) (i : Nat) (h : nth fs i = some (.dat true ds cs)) : RdL W (Fr w W) ds cs := (M.dt i h).to fun b hb => ⟨rfl, (hb.2.2 rfl).1, hb.1, (hb.2.2 rfl).2⟩
theorem St.size (M : St w gs W L R fs) : w.heap.size ≤ W.heap.size := M.below.size
theorem St.rowlt (M : St w gs W L R fs) {r : Row} (hr : r ∈ R) : ∀ b, bk r.A = some b → w.heap.size ≤ b ∧ b < W.heap.size := row_bklo (M.row r hr)
theorem St.olt (M : St w gs W L R fs) : ∀ b, some b ∈ own L R gs → b < W.heap.size := by
  intro b h
  unfold own at h
  rcases List.mem_append.1 h with h | h
  · obtain ⟨x, hx, e⟩ := List.mem_map.1 h
    injection e with e; subst e
    exact (M.blk x hx).1.lt
  · rcases List.mem_append.1 h with h | h
    · obtain ⟨r, hr, e⟩ := List.mem_map.1 h
      exact (M.rowlt hr b e).2
    · have := M.lt b h; have := M.size; omega
theorem St.drew (M : St w gs W L R fs) : St w gs W.drew L R fs :=
  ⟨M.below.drew, M.lt, M.blk, M.row, M.ap, fun f hf => (M.fct f hf).up Stp.drew⟩
/-- Behind a call. -/
theorem St.call (M : St w gs W L R fs) (hb : Below W.heap.size W W') : St w gs W' L R fs :=
  ⟨M.below.trans (hb.mono M.size), M.lt, fun x hx => ⟨(M.blk x hx).1.below hb, (M.blk x hx).2⟩, fun r hr => ownsRow_below (M.row r hr) hb, M.ap, fun f hf => (M.fct f hf).up (Stp.below hb)⟩
/-- What a call has made. -/
theorem St.callF (M : St w gs W L R fs) (hb : Below W.heap.size W W') (h : RdL W' (Fr W W') ds cs) : St w gs W' L R (.dat true ds cs :: fs) :=
  (M.call hb).add (f := .dat true ds cs) (h.to fun b hb' => ⟨rfl, hb'.2.1, fun e => by have := M.olt b e; have := hb'.1; omega, fun _ => ⟨Nat.le_trans M.size hb'.1, hb'.2.2⟩⟩)
theorem St.callF1 (M : St w gs W L R fs) (hb : Below W.heap.size W W') (h : RdD W' (Fr W W') d u) : St w gs W' L R (.dat true [d] [u] :: fs) := M.callF hb (RdL.one h)
/-- Fewer words. -/
theorem St.fsub (M : St w gs W L R fs) (fs' : List Fact) (h : ∀ f ∈ fs', f ∈ fs) : St w gs W L R fs' := ⟨M.below, M.lt, M.blk, M.row, M.ap, fun f hf => M.fct f (h f hf)⟩
theorem St.dropL {x : Nat × TypeId × List Value} (M : St w gs W (x :: L) R fs) : St w gs W L R fs :=
  ⟨M.below, M.lt, fun y hy => M.blk y (by simp [hy]), M.row, by have := M.ap; rw [List.map_cons, List.cons_append, List.pairwise_cons] at this; exact this.2, fun f hf => (M.fct f hf).up ⟨Nat.le_refl _, fun _ _ _ => rfl, fun b _ e => by unfold own at *; simp only [List.map_cons, List.cons_append, List.mem_cons]; right; exact e⟩⟩
theorem St.dropR {r : Row} (M : St w gs W L (r :: R) fs) : St w gs W L R fs :=
  ⟨M.below, M.lt, M.blk, fun y hy => M.row y (by simp [hy]), (M.ap.sublist (List.Sublist.append_left (by rw [List.map_cons]; exact List.sublist_cons_self _ _) _)), fun f hf => (M.fct f hf).up ⟨Nat.le_refl _, fun _ _ _ => rfl, fun b _ e => by
    unfold own at *
    rw [List.map_cons]
    simp only [List.mem_append, List.cons_append, List.mem_cons] at e ⊢
    rcases e with e | e | e <;> simp [e]⟩⟩
theorem apart_comm {a b : Option Nat} (h : Apart a b) : Apart b a := by
  unfold Apart at *
  cases a with
  | none =>
    cases b with
    | none => exact .inl rfl
    | some b => right; intro e; cases e
  | some a =>
    rcases h with h | h
    · cases h
    · right; exact fun e => h e.symm
theorem St.swp {x y : Nat × TypeId × List Value} (M : St w gs W (x :: y :: L) R fs) : St w gs W (y :: x :: L) R fs :=
  ⟨M.below, M.lt, fun z hz => M.blk z (by simp only [List.mem_cons] at hz ⊢; rcases hz with h | h | h <;> simp [h]), M.row,
   List.Perm.pairwise (List.Perm.append_right _ (by rw [List.map_cons, List.map_cons, List.map_cons, List.map_cons]; exact List.Perm.swap _ _ _)) M.ap (fun h => apart_comm h),
   fun f hf => (M.fct f hf).up ⟨Nat.le_refl _, fun _ _ _ => rfl, fun b _ e => by
    unfold own at *
    simp only [List.map_cons, List.cons_append, List.mem_cons] at e ⊢
    rcases e with e | e | e <;> simp [e]⟩⟩
/-- A new block. -/
theorem St.newB (M : St w gs W L R fs) (hg : g = W.heap.size) (hB : Blk W' g T cs) (hb : Below g W W') : St w gs W' ((g, T, cs) :: L) R fs := by
  subst hg
  have M1 := M.call hb
  have new : ∀ b, some b ∈ own L R gs → b < W.heap.size := M.olt
  refine ⟨M1.below, M.lt, fun x hx => ?_, M1.row, ?_, fun f hf => (M.fct f hf).up (Stp.new (g := some W.heap.size) hb (fun b e => by injection e with e; omega))⟩
  · rcases List.mem_cons.1 hx with rfl | hx
    · exact ⟨hB, M.size⟩
    · exact M1.blk x hx
  · rw [List.map_cons, List.cons_append, List.pairwise_cons]
    refine ⟨fun b hb' => ?_, M.ap⟩
    right
    rintro rfl
    have := new W.heap.size (by unfold own; rw [← List.append_assoc]; exact List.mem_append_left _ hb')
    omega
theorem St.frzB' {rest : List Value} (M : St w gs W ((g, T, cs ++ rest) :: L) R fs) {s n : Nat} (hd : RdL W (Ft w W (own ((g, T, cs ++ rest) :: L) R gs) fr) ds cs) (hl : ds.length = n * s) {c : Nat} (hc : n ≤ c) : St w gs W L R (.dat fr [.sl s n ds] [.slice (some ⟨g, 0, none⟩) n c] :: fs) := by
  have hB := M.B 0 rfl
  have hg := (M.blk _ (List.mem_cons_self ..)).2
  have hap := M.ap
  rw [List.map_cons, List.cons_append, List.pairwise_cons] at hap
  have hn : some g ∉ own L R gs := fun e => by
    unfold own at e
    rw [← List.append_assoc] at e
    rcases List.mem_append.1 e with e | e
    · rcases hap.1 _ e with h | h
      · cases h
      · exact h rfl
    · have := M.lt g e
      have : w.heap.size ≤ g := hg
      omega
  refine M.dropL.addT (RdL.one (RdD.sl_iff.2 ⟨_, c, cs, rfl, hc, hl, hd.to (fun b hb => ⟨rfl, hb.1, fun e => hb.2.1 (List.mem_cons_of_mem _ e), hb.2.2⟩), fun _ => ⟨g, 0, rfl, ⟨hB.lt, hn, fun _ => ⟨hg, Thaw.of hB⟩⟩, fun j x hx => ?_⟩⟩))
  rw [Nat.zero_add]
  refine hB.at_ ?_
  rw [List.getElem?_append_left (List.getElem?_eq_some_iff.1 hx).1]
  exact hx
theorem St.frzB (M : St w gs W ((g, T, cs) :: L) R fs) {s n : Nat} (hd : RdL W (Ft w W (own ((g, T, cs) :: L) R gs) fr) ds cs) (hl : ds.length = n * s) {c : Nat} (hc : n ≤ c) : St w gs W L R (.dat fr [.sl s n ds] [.slice (some ⟨g, 0, none⟩) n c] :: fs) :=
  St.frzB' (rest := []) (by rw [List.append_nil]; exact M) (by rw [List.append_nil]; exact hd) hl hc
/-- A row that a call has made. -/
theorem St.callR (M : St w gs W L R fs) (hb : Below W.heap.size W W') {r : Row} (h : W'.ownsRow W.heap.size r.e r.s (.slice r.A r.n r.c) r.n r.xs) : St w gs W' L (r :: R) fs := by
  have M1 := M.call hb
  have hr := row_bklo h
  refine ⟨M1.below, M.lt, M1.blk, fun x hx => ?_, ?_, fun f hf => (M.fct f hf).up ⟨hb.size, fun b h _ => hb.block b h, fun b hlt e => ?_⟩⟩
  · rcases List.mem_cons.1 hx with rfl | hx
    · exact row_less h M.size
    · exact M1.row x hx
  · refine List.Perm.pairwise (l := bk r.A :: (L.map (fun x => some x.1) ++ R.map (fun r => bk r.A))) (by rw [List.map_cons]; exact List.perm_middle.symm) ?_ (fun h => apart_comm h)
    rw [List.pairwise_cons]
    refine ⟨fun b hb' => ?_, M.ap⟩
    cases hA : bk r.A with
    | none => exact .inl rfl
    | some a =>
      right
      rintro rfl
      have := M.olt a (by unfold own; rw [← List.append_assoc]; exact List.mem_append_left _ hb')
      have := (hr a hA).1
      omega
  · unfold own at e ⊢
    simp only [List.map_cons, List.cons_append, List.mem_append, List.mem_cons] at e ⊢
    rcases e with e | e | e | e
    · exact .inl e
    · have := (hr b e.symm).1; omega
    · exact .inr (.inl e)
    · exact .inr (.inr e)
/-- A row that grows no more. -/
theorem St.frzR {r : Row} (M : St w gs W L (r :: R) fs) (hd : RdL W (Ft w W (own L (r :: R) gs) fr) ds r.xs) : St w gs W L R (.dat fr [.sl r.s r.n ds] [.slice r.A r.n r.c] :: fs) := by
  have hrow := M.row r (List.mem_cons_self ..)
  have hlt := row_bklo hrow
  have sub : ∀ b : Nat, some b ∈ own L R gs → some b ∈ own L (r :: R) gs := fun b e => by
    unfold own at e ⊢
    simp only [List.map_cons, List.cons_append, List.mem_append, List.mem_cons] at e ⊢
    rcases e with e | e | e <;> simp [e]
  have hd' : RdL W (Ft w W (own L R gs) fr) ds r.xs := hd.to fun b hb => ⟨rfl, hb.1, fun e => hb.2.1 (sub b e), hb.2.2⟩
  refine M.dropR.addT (RdL.one (rdD_row hrow hd' fun b h1 h2 h3 => ⟨h2, fun e => ?_, fun _ => ⟨h1, row_thaw hrow (by rw [← own_bk]; exact h3)⟩⟩))
  · rw [own_bk] at h3
    unfold own at e
    rw [← List.append_assoc] at e
    rcases List.mem_append.1 e with e | e
    · have hp := List.Perm.pairwise (l' := bk r.A :: (L.map (fun x => some x.1) ++ R.map (fun r => bk r.A))) (by rw [List.map_cons]; exact List.perm_middle) M.ap (fun h => apart_comm h)
      rw [List.pairwise_cons] at hp
      rcases hp.1 _ e with h | h
      · rw [h3] at h; cases h
      · exact h h3
    · have := M.lt b e; omega
/-- Bytes that grow no more. -/
theorem St.frzO {A : Option Addr} {n c : Nat} {l : List UInt8} (M : St w gs W L (⟨5, 1, A, n, c, bvs l⟩ :: R) fs) : St w gs W L R (.dat true [dB l] [.slice A n c] :: fs) := by
  have hrow := M.row _ (List.mem_cons_self ..)
  have hn : l.length = n := by have := hrow.1; rw [bvs_length] at this; simp only at this; omega
  have := M.frzR (fr := true) (RdL.ofvals (bvs l))
  unfold dB
  rw [hn]
  exact this
/-- Bytes that a call has made. -/
theorem St.callO (M : St w gs W L R fs) (hb : Below W.heap.size W W') {A : Option Addr} {n c : Nat} {l : List UInt8} (h : Own W' W.heap.size A n c l) : St w gs W' L R (.dat true [dB l] [.slice A n c] :: fs) :=
  (M.callR (r := ⟨5, 1, A, n, c, bvs l⟩) hb h).frzO
/-- A store into a block. -/
theorem St.wrote (M : St w gs W L R fs) (i : Nat) (hL : nth L i = some (g, T, cs)) {cs' : List Value} (hB : Blk W' g T cs') (hg : W.grownBy W' (some g)) : St w gs W' (setL L i cs') R fs := by
  have hm := nth_mem hL
  have hlo := (M.blk _ hm).2
  have hapL : (L.map (fun x => some x.1)).Pairwise Apart := M.ap.sublist (List.sublist_append_left _ _)
  have hin : some g ∈ own L R gs := List.mem_append_left _ (List.mem_map.2 ⟨_, hm, rfl⟩)
  refine ⟨M.below.grown hg M.size (fun b e => by injection e with e; subst e; exact hlo), M.lt, fun x hx => ?_, fun r hr => ?_, by rw [setL_map]; exact M.ap, fun f hf => (M.fct f hf).up (by rw [setL_own]; exact Stp.wrote hg hin)⟩
  · rcases setL_mem hL hapL x hx with rfl | ⟨h1, h2⟩
    · exact ⟨hB, hlo⟩
    · exact ⟨(M.blk x h1).1.grownN hg (fun e => h2 e.symm), (M.blk x h1).2⟩
  · refine row_kept' (M.row r hr) hg ?_
    have hp := (List.pairwise_append.1 M.ap).2.2 (some g) (List.mem_map.2 ⟨_, hm, rfl⟩) (bk r.A) (List.mem_map.2 ⟨r, hr, rfl⟩)
    right
    intro e
    rcases hp with h | h
    · cases h
    · exact h e.symm
/-- Words for the worlds of a region. -/
def Kp (w : World) (gs : List (Option Nat)) (L : Lc) (fs : List Fact) (W : World) : Prop := ∃ L2 R2 fs2, St w gs W L2 R2 fs2 ∧ (∀ x ∈ L, x ∈ L2) ∧ ∀ f ∈ fs, f ∈ fs2
theorem St.kp (M : St w gs W L R fs) {L' : Lc} {fs' : List Fact} (h1 : ∀ x ∈ L', x ∈ L) (h2 : ∀ f ∈ fs', f ∈ fs) : Kp w gs L' fs' W := ⟨_, _, _, M, h1, h2⟩
theorem Kp.B (K : Kp w gs L fs W) (i : Nat) (h : nth L i = some (g, T, cs)) : Blk W g T cs := by
  obtain ⟨L2, R2, fs2, M, h1, _⟩ := K
  exact (M.blk _ (h1 _ (nth_mem h))).1
theorem Kp.run (K : Kp w gs L fs W) (i : Nat) (h : nth L i = some (g, T, cs)) : ∀ j v, cs[j]? = some v → W.cell? ((⟨g, 0, none⟩ : Addr).add j) = some v := (K.B i h).run 0 _ fun j v h => by rw [Nat.zero_add]; exact h
theorem Kp.lc (K : Kp w gs L fs W) (i : Nat) {a : Addr} (h : nth fs i = some (.loc a cs)) : ∀ j x, cs[j]? = some x → W.cell? (a.add j) = some x := by
  obtain ⟨L2, R2, fs2, M, _, h2⟩ := K
  obtain ⟨_, h3⟩ := M.fct _ (h2 _ (nth_mem h))
  exact h3
end
section
variable {P : Program} {E : Env} {d : Option Nat} {ty : TypeId} {p : String} {af : Array Edge} {gd : Option (Nat × Bool)} {x y z : Operand} {t u : TypeId} {kw : Value → World → Prop} {w W : World} {gs : List (Option Nat)} {L : Lc} {R : List Row} {fs : List Fact} {g : Nat} {T : TypeId} {cs : List Value}
theorem s_box (vs : List Value) (M : St w gs W L R fs) (hx : (val E x).cells = vs.toArray) (h : ∀ g W', St w gs W' ((g, t, vs) :: L) R fs → kw (.pointer (some ⟨g, 0, none⟩)) W') :
    VVal P E { dst := d, op := .box t x, type := ty, pos := p, after := af, guard := gd } W kw :=
  v_boxB vs hx fun g w' hg hB hb _ => h g w' (M.newB hg hB hb)
theorem s_alloc (vs : List Value) (M : St w gs W L R fs) (hz : (P.info? t).map (fun i => i.zero.map fun z => z.cells.toList) = some (some vs)) (h : ∀ g W', St w gs W' ((g, t, vs) :: L) R fs → kw (.pointer (some ⟨g, 0, none⟩)) W') :
    VVal P E { dst := d, op := .alloc t, type := ty, pos := p, after := af, guard := gd } W kw :=
  v_allocB vs hz fun g w' hg hB hb _ => h g w' (M.newB hg hB hb)
theorem s_set (i : Nat) {off : Nat} (v : Value) (cs' : List Value) (M : St w gs W L R fs) (hL : nth L i = some (g, T, cs)) (hT : (P.info? t).map (·.size) = some 1) (hx : val E x = .pointer (some ⟨g, off, none⟩)) (hy : val E y = v) (h1 : v.oneCell' = true) (hi : off < cs.length) (hc : cs.set off v = cs')
    (h : ∀ W', St w gs W' (setL L i cs') R fs → kw undef W') : VSkip P E { dst := d, op := .store t x y, type := ty, pos := p, after := af, guard := gd } W kw :=
  v_set v hT (M.B i hL) hx hy h1 hi fun W' hB hg _ => h W' (M.wrote i hL (by rw [← hc]; exact hB) hg)
theorem s_storeA (i : Nat) {n : Nat} (vs : List Value) (M : St w gs W L R fs) (hL : nth L i = some (g, T, cs)) (hT : (P.info? t).map (·.size) = some n) (hx : val E x = .pointer (some ⟨g, 0, none⟩)) (hy : (val E y).cells = vs.toArray) (hn : vs.length = n) (h1 : ∀ u ∈ vs, u.oneCell' = true) (hl : cs.length = n)
    (h : ∀ W', St w gs W' (setL L i vs) R fs → kw undef W') : VSkip P E { dst := d, op := .store t x y, type := ty, pos := p, after := af, guard := gd } W kw :=
  v_storeA vs hT hx hy hn h1 (M.B i hL) hl fun W' hB hg _ => h W' (M.wrote i hL hB hg)
/-- A literal slice. -/
theorem s_bslice {parts : Array (Nat × Operand)} {n s : Nat} {e : TypeId} {zs : List Value} (vs : List Value) {ds : List D} {fr : Bool} (M : St w gs W L R fs) (hT : slOf P t = some (e, s)) (hz : zeroOf P e = some zs) (hzl : zs.length = s) (hn : (Nat.ble 1 (n * s) && Nat.ble (n * s) 1000) = true)
    (hv : fillL (fun i => some (i * s, s)) ((List.range (n * s)).map fun i => zs.getD (i % s) (.tuple #[])) (parts.toList.map fun x => (x.1, val E x.2)) = some vs) (hd : RdL W (Ft w W (own L R gs) fr) ds vs) (hl : ds.length = n * s)
    (h : ∀ g W', St w gs W' L R (.dat fr [.sl s n ds] [.slice (some ⟨g, 0, none⟩) n n] :: fs) → kw (.slice (some ⟨g, 0, none⟩) n n) W') :
    VVal P E { dst := d, op := .buildSlice t n parts, type := ty, pos := p, after := af, guard := gd } W kw :=
  v_bslice hT hz hzl hn hv fun g W' hg hB hb _ => h g W' ((((M.addT hd).newB hg hB hb).frzB ((M.addT hd).newB hg hB hb |>.dt 0 rfl) hl (Nat.le_refl _)).fsub _ (fun f hf => by
    rcases List.mem_cons.1 hf with rfl | hf
    · exact List.mem_cons_self ..
    · exact List.mem_cons_of_mem _ (List.mem_cons_of_mem _ hf)))
/-- A literal slice whose block is still written. -/
theorem s_bsliceB {parts : Array (Nat × Operand)} {n s : Nat} {e : TypeId} {zs : List Value} (vs : List Value) (M : St w gs W L R fs) (hT : slOf P t = some (e, s)) (hz : zeroOf P e = some zs) (hzl : zs.length = s) (hn : (Nat.ble 1 (n * s) && Nat.ble (n * s) 1000) = true)
    (hv : fillL (fun i => some (i * s, s)) ((List.range (n * s)).map fun i => zs.getD (i % s) (.tuple #[])) (parts.toList.map fun x => (x.1, val E x.2)) = some vs)
    (h : ∀ g W', St w gs W' ((g, e, vs) :: L) R fs → kw (.slice (some ⟨g, 0, none⟩) n n) W') :
    VVal P E { dst := d, op := .buildSlice t n parts, type := ty, pos := p, after := af, guard := gd } W kw :=
  v_bslice hT hz hzl hn hv fun g W' hg hB hb _ => h g W' (M.newB hg hB hb)
/-- No row yet. -/
theorem St.nilR (M : St w gs W L R fs) (e : TypeId) (s : Nat) : St w gs W L (⟨e, s, none, 0, 0, []⟩ :: R) fs := M.callR (r := ⟨e, s, none, 0, 0, []⟩) (Below.refl _ _) (World.ownsRow_nil _ _ _ _)
/-- append onto the first row. -/
theorem s_app {e : TypeId} {z : Value} {s bytes : Nat} {A : Option Addr} {n c : Nat} {xs : List Value} (M : St w gs W L (⟨e, s, A, n, c, xs⟩ :: R) fs) (hT : P.underlying t = some (.slice e)) (hi : (P.info? e).map (fun i => (i.zero, i.size, i.bytes)) = some (some z, s, bytes)) (hzs : z.cells.size = s) (hs0 : 0 < s)
    (hx : val E x = .slice A n c) {B : Nat} {A2 : Option Addr} {m c2 : Nat} {news : List Value} (hy : val E y = .slice A2 m c2) (hr : Reads W B s A2 m news) (h1 : ∀ u ∈ news, u.oneCell' = true)
    (hsz : n + m ≤ 1000000000 ∧ bytes ≤ 1000)
    (h : ∀ A' c' W', St w gs W' L (⟨e, s, A', n + m, c', xs ++ news⟩ :: R) fs → (A' = none ↔ A = none ∧ m = 0) → kw (.slice A' (n + m) c') W') :
    VVal P E { dst := d, op := .call { callee := .builtin .append, args := #[x, y], argTypes := #[t, t] }, type := ty, pos := p, after := af, guard := gd } W kw := by
  have hrow := M.row _ (List.mem_cons_self ..)
  have hlo := row_bklo hrow
  have hA : At w W (bk A :: own L R gs) := ⟨M.below, fun b e => by
    rcases List.mem_cons.1 e with e | e
    · exact (hlo b e.symm).2
    · exact M.dropR.olt b e⟩
  have hp := List.Perm.pairwise (l' := bk A :: (L.map (fun x => some x.1) ++ R.map (fun r => bk r.A))) (by rw [List.map_cons]; exact List.perm_middle) M.ap (fun h => apart_comm h)
  rw [List.pairwise_cons] at hp
  refine v_appR hT hi hzs hs0 hx hrow hy hr h1 hsz hA fun A' c' W' hrow' hS hA' hnn hg hnb => h A' c' W' ?_ hnn
  have hlo' := row_bklo hrow'
  have kept : ∀ o : Option Nat, o ∈ L.map (fun x => some x.1) ++ R.map (fun r => bk r.A) → o = none ∨ o ≠ bk A := fun o ho => apart_comm (hp.1 o ho)
  refine ⟨hA'.below, M.lt, fun y hy => ⟨(M.blk y hy).1.grown hg ?_, (M.blk y hy).2⟩, fun r hr => ?_, ?_, fun f hf => ?_⟩
  · rcases kept (some y.1) (List.mem_append_left _ (List.mem_map.2 ⟨y, hy, rfl⟩)) with h | h
    · cases h
    · exact fun e => h e.symm
  · rcases List.mem_cons.1 hr with rfl | hr
    · exact hrow'
    · exact row_kept' (M.row r (by simp [hr])) hg (kept _ (List.mem_append_right _ (List.mem_map.2 ⟨r, hr, rfl⟩)))
  · refine List.Perm.pairwise (l := bk A' :: (L.map (fun x => some x.1) ++ R.map (fun r => bk r.A))) (by rw [List.map_cons]; exact List.perm_middle.symm) ?_ (fun h => apart_comm h)
    rw [List.pairwise_cons]
    refine ⟨fun o ho => ?_, hp.2⟩
    cases ha : bk A' with
    | none => exact .inl rfl
    | some a =>
      right
      rintro rfl
      rcases hnb a ha with h | h
      · rcases hp.1 _ ho with h2 | h2
        · rw [h] at h2; cases h2
        · exact h2 h
      · have := M.dropR.olt a (by unfold own; rw [← List.append_assoc]; exact List.mem_append_left _ ho)
        omega
  · have ho : ∀ (X : Option Addr) (n c : Nat) (ys : List Value) (b : Option Nat), b ∈ own L (⟨e, s, X, n, c, ys⟩ :: R) gs ↔ b ∈ bk X :: own L R gs := by
      intro X n c ys b
      unfold own
      simp only [List.map_cons, List.cons_append, List.mem_append, List.mem_cons]
      constructor <;> rintro (h | h | h | h) <;> simp [h]
    exact (M.fct f hf).up ⟨hS.size, fun b hb hn => hS.block b hb (fun e => hn ((ho _ _ _ _ _).2 e)), fun b hb e => (ho _ _ _ _ _).2 (hS.own b hb ((ho _ _ _ _ _).1 e))⟩
/-- append of bytes onto the first row. -/
theorem s_appB {A : Option Addr} {n c : Nat} {l : List UInt8} (M : St w gs W L (⟨5, 1, A, n, c, bvs l⟩ :: R) fs) (hx : val E x = .slice A n c) {B : Nat} {A2 : Option Addr} {m c2 : Nat} {l2 : List UInt8} (hy : val E y = .slice A2 m c2) (hr : Rd W B A2 m l2) (hsz : n + m ≤ 1000000000)
    (h : ∀ A' c' W', St w gs W' L (⟨5, 1, A', n + m, c', bvs (l ++ l2)⟩ :: R) fs → (A' = none ↔ A = none ∧ m = 0) → kw (.slice A' (n + m) c') W') :
    VVal Tryd.prog E { dst := d, op := .call { callee := .builtin .append, args := #[x, y], argTypes := #[22, 22] }, type := ty, pos := p, after := af, guard := gd } W kw :=
  s_app M Tryd.underlying22 u8info rfl (by decide) hx hy hr (bvs_one _) ⟨hsz, by decide⟩ fun A' c' W' M' hnn => h A' c' W' (by rw [bvs_append]; exact M') hnn
/-- Bytes that stay, read. -/
theorem St.rdb (M : St w gs W L R fs) (i : Nat) {fr : Bool} {l : List UInt8} {A : Option Addr} {n c : Nat} (h : nth fs i = some (.dat fr [dB l] [.slice A n c])) : n = l.length ∧ n ≤ c ∧ Rd W W.heap.size A n l := (M.d1 i h).rd Fd.lt
end
section
variable {w W : World} {gs : List (Option Nat)} {L : Lc} {R : List Row} {fs : List Fact} {ds : List D} {cs : List Value} {d : D} {u : Value} {fr : Bool}
end
end Go.Proofs.YtejbljopighenaaDoor
namespace Go.Proofs.YtejbljopighenaaDoor
open Go.RowKit
section
variable {P : Program} {E : Env} {d : Option Nat} {ty : TypeId} {p : String} {af : Array Edge} {g : Option (Nat × Bool)} {x y : Operand} {t u : TypeId} {k : Value → Prop} {a b : Nat}
theorem p_addN (hx : val E x = .int .i64 (a : Int)) (hy : val E y = .int .i64 (b : Int)) (hs : a + b ≤ 9223372036854775807) (h : k (.int .i64 ((a + b : Nat) : Int))) : VPure P E { dst := d, op := .binOp .add t x y u, type := ty, pos := p, after := af, guard := g } k :=
  p_add hx hy ((w64 (by omega)).trans (by omega)) h
theorem p_subN (hx : val E x = .int .i64 (a : Int)) (hy : val E y = .int .i64 (b : Int)) (hs : b ≤ a) (ha : a ≤ 9223372036854775807) (h : k (.int .i64 ((a - b : Nat) : Int))) : VPure P E { dst := d, op := .binOp .sub t x y u, type := ty, pos := p, after := af, guard := g } k :=
  p_sub hx hy ((w64 (by omega)).trans (by omega)) h
theorem p_quoN (hx : val E x = .int .i64 (a : Int)) (hy : val E y = .int .i64 (b : Int)) (hb : 0 < b) (ha : a ≤ 9223372036854775807) (h : k (.int .i64 ((a / b : Nat) : Int))) : VPure P E { dst := d, op := .binOp .quo t x y u, type := ty, pos := p, after := af, guard := g } k := by
  have h1 : a / b ≤ a := Nat.div_le_self _ _
  have e : (a : Int).tdiv (b : Int) = ((a / b : Nat) : Int) := by rw [Int.tdiv_eq_ediv_of_nonneg (by omega)]; exact (Int.natCast_ediv a b).symm
  exact p_quo hx hy (by omega) (r := ((a / b : Nat) : Int)) ((congrArg IntKind.i64.wrap e).trans (w64 ⟨Int.le_trans (by decide) (Int.natCast_nonneg _), Int.le_trans (Int.ofNat_le.2 h1) (by omega)⟩)) h
end
theorem same_tf {A1 A2 : Option Addr} {n m c1 c2 B1 B2 : Nat} {a b : List UInt8} {w : World} (h1 : Rd w B1 A1 n a) (h2 : Rd w B2 A2 m b) : ∃ q : Bool, (q = true ↔ a = b) ∧ Calls Tryd.prog 13 #[.slice A1 n c1, .slice A2 m c2] w fun e w' => e = .returned (.bool q) ∧ w = w' :=
  ⟨decide (a = b), decide_eq_true_iff, same_any A1 A2 n m c1 c2 B1 B2 a b w h1 h2⟩
theorem ret_tf {a b : Bool} (h : a = b) : Ending.returned (.bool a) = Ending.returned (.bool b) := by rw [h]
end Go.Proofs.YtejbljopighenaaDoor
namespace Go.Proofs.YtejbljopighenaaDoor
open Go.RowKit
/-- An element's place, reckoned. -/
theorem p_atM {P : Program} {E : Env} {d : Option Nat} {ty : TypeId} {p : String} {af : Array Edge} {g : Option (Nat × Bool)} {x y : Operand} {t : TypeId} {kd : IntKind} {k : Value → Prop} {b o q n c i : Nat} {e : TypeId} {s : Nat} {j : Int} (hT : slOf P t = some (e, s)) (hx : val E x = .slice (some ⟨b, o, none⟩) n c) (hy : val E y = .int kd j) (hj : j = (i : Int)) (hi : i < n) (hq : o + i * s = q)
    (h : k (.pointer (some ⟨b, q, none⟩))) : VPure P E { dst := d, op := .indexAddr t x y, type := ty, pos := p, after := af, guard := g } k :=
  p_at hT hx hy hj hi (by rw [Addr.add_lit, hq]; exact h)
section
variable {P : Program} {E : Env} {d : Option Nat} {ty : TypeId} {p : String} {af : Array Edge} {gd : Option (Nat × Bool)} {x y : Operand} {t : TypeId} {kw : Value → World → Prop} {w W : World} {gs : List (Option Nat)} {L : Lc} {R : List Row} {fs : List Fact}
end
end Go.Proofs.YtejbljopighenaaDoor
namespace Go.Proofs.YtejbljopighenaaDoor
open Go.RowKit
def dLs (ll : List (List UInt8)) : D := .sl 1 ll.length (ll.map dB)
theorem RdL.ofall {W : World} {F : Nat → Prop} {α : Type} (f : α → D) : ∀ (xs : List α) (vs : List Value), vs.length = xs.length → (∀ (k : Nat) (v : Value) (x : α), vs[k]? = some v → xs[k]? = some x → RdD W F (f x) v) → RdL W F (xs.map f) vs
  | [], [], _, _ => RdL.nil_
  | [], v :: vs, h, _ => by simp at h
  | x :: xs, [], h, _ => by simp at h
  | x :: xs, v :: vs, h, k => RdL.cons (k 0 v x rfl rfl) (RdL.ofall f xs vs (by simpa using h) (fun j v' x' h1 h2 => k (j + 1) v' x' (by simpa using h1) (by simpa using h2)))
theorem one_at {α : Type} {l : List α} {i : Nat} {x : α} (h : l[i]? = some x) : (l.drop i).take 1 = [x] := by
  have hi := (List.getElem?_eq_some_iff.1 h).1
  rw [List.drop_eq_getElem_cons hi, List.take_succ_cons, List.take_zero, (List.getElem?_eq_some_iff.1 h).2]
/-- An element of a list of lists. -/
theorem RdD.lsat {W : World} {F : Nat → Prop} {ll : List (List UInt8)} {A : Option Addr} {n c i : Nat} (h : RdD W F (dLs ll) (.slice A n c)) (hi : i < n) :
    ∃ b off A' m c' l, A = some ⟨b, off, none⟩ ∧ ll[i]? = some l ∧ W.cell? ⟨b, off + i, none⟩ = some (.slice A' m c') ∧ RdD W F (dB l) (.slice A' m c') := by
  have hn := h.slen
  obtain ⟨b, off, es, e1, hF, hes, hel, hc⟩ := h.at_ hi
  obtain ⟨l, hl⟩ : ∃ l, ll[i]? = some l := ⟨ll[i], List.getElem?_eq_getElem (by omega)⟩
  have e : ((ll.map dB).drop (i * 1)).take 1 = [dB l] := one_at (by rw [Nat.mul_one, List.getElem?_map, hl]; rfl)
  rw [e] at hes
  obtain ⟨u, us, e2, hu, _⟩ := hes.uncons
  obtain ⟨A', c', e3, _⟩ := hu.open_
  subst e2; subst e3
  refine ⟨b, off, A', _, c', l, e1, hl, ?_, hu⟩
  have := hc 0 _ rfl
  rwa [Nat.mul_one] at this
end Go.Proofs.YtejbljopighenaaDoor
namespace Go.Proofs.YtejbljopighenaaDoor
open Go.RowKit
section
variable {w W : World} {gs : List (Option Nat)} {L L' : Lc} {R R' : List Row} {fs : List Fact}
theorem own_perm (hL : L.Perm L') (hR : R.Perm R') (gs : List (Option Nat)) {b : Option Nat} : b ∈ own L' R' gs → b ∈ own L R gs := by
  unfold own
  intro h
  rcases List.mem_append.1 h with h | h
  · exact List.mem_append_left _ ((hL.map _).mem_iff.2 h)
  · rcases List.mem_append.1 h with h | h
    · exact List.mem_append_right _ (List.mem_append_left _ ((hR.map _).mem_iff.2 h))
    · exact List.mem_append_right _ (List.mem_append_right _ h)
theorem St.perm (M : St w gs W L R fs) (hL : L.Perm L') (hR : R.Perm R') : St w gs W L' R' fs :=
  ⟨M.below, M.lt, fun x hx => M.blk x (hL.mem_iff.2 hx), fun r hr => M.row r (hR.mem_iff.2 hr), List.Perm.pairwise ((hL.map _).append (hR.map _)) M.ap (fun h => apart_comm h),
    fun f hf => (M.fct f hf).up ⟨Nat.le_refl _, fun _ _ _ => rfl, fun _ _ e => own_perm hL hR gs e⟩⟩
theorem St.permR (M : St w gs W L R fs) (hR : R.Perm R') : St w gs W L R' fs := M.perm (List.Perm.refl _) hR
theorem St.swpR {x y : Row} (M : St w gs W L (x :: y :: R) fs) : St w gs W L (y :: x :: R) fs := M.permR (List.Perm.swap ..)
end
end Go.Proofs.YtejbljopighenaaDoor
