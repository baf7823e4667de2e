/- Lists of bytes in memory: a [][]byte that reads as lists ('RdS'); one of the call's own, its elements too ('OwnS'); append onto it. Lists of lists of bytes, as data. The walks of Go's library: bytes.Clone, Equal, HasPrefix; slices.Clone, Grow, Concat of bytes. The walks of slices.Grow (of nothing) and slices.Concat, of bytes. Halves of bytes: the plain functions. Nodes, plainly, and as data. The walks of package node's small functions: halves, bare, ends. Memory that is written over, but keeps its kinds; the walk of reference 00's Spoil. Memory that is written over, but keeps its kinds, while new blocks come. The walks of node's bare. -/
import Derived.Test.YtliccofjlheceaaG03
import Derived.Deep.QuietTactic
import Derived.BigQuiet
import Derived.Test.YtliccofjlheceaaG04
import Derived.Lib.AppendZeros
namespace Go.Proofs.Ytliccofjlheceaa
open Go.RowKit

/-- The values vs are slices of bytes that read as these lists, below block B. -/
structure Els (w : World) (B : Nat) (vs : List Value) (ll : List (List UInt8)) : Prop where
  len : vs.length = ll.length
  rd : ∀ (k : Nat) (v : Value) (l : List UInt8), vs[k]? = some v → ll[k]? = some l → ∃ A n c, v = .slice A n c ∧ n ≤ c ∧ Rd w B A n l
/-- A slice of n slices of bytes that reads as these lists, below block B. -/
def RdS (w : World) (B : Nat) (A : Option Addr) (n : Nat) (ll : List (List UInt8)) : Prop := ∃ vs, Reads w B 1 A n vs ∧ Els w B vs ll

section
variable {w w' : World} {B B' base n c : Nat} {A : Option Addr} {ll : List (List UInt8)} {vs : List Value}
theorem Els.keep (h : Els w B vs ll) (hk : ∀ p : Addr, p.block < B → w'.cell? p = w.cell? p) : Els w' B vs ll :=
  ⟨h.len, fun k v l h1 h2 => let ⟨A, n, c, hv, hn, hr⟩ := h.rd k v l h1 h2; ⟨A, n, c, hv, hn, hr.keep hk⟩⟩
theorem Els.more (h : Els w B vs ll) (hB : B ≤ B') : Els w B' vs ll :=
  ⟨h.len, fun k v l h1 h2 => let ⟨A, n, c, hv, hn, hr⟩ := h.rd k v l h1 h2; ⟨A, n, c, hv, hn, hr.more hB⟩⟩
theorem RdS.keep (h : RdS w B A n ll) (hk : ∀ p : Addr, p.block < B → w'.cell? p = w.cell? p) : RdS w' B A n ll := let ⟨vs, h1, h2⟩ := h; ⟨vs, h1.keep hk, h2.keep hk⟩
theorem RdS.more (h : RdS w B A n ll) (hB : B ≤ B') : RdS w B' A n ll := let ⟨vs, h1, h2⟩ := h; ⟨vs, h1.more hB, h2.more hB⟩
theorem RdS.below (h : RdS w B A n ll) (hb : Below B w w') : RdS w' B A n ll := h.keep fun _ hp => hb.cell hp
theorem RdS.alloc (h : RdS w B A n ll) (hB : B ≤ w.heap.size) (o : Obj) : RdS (w.alloc o) B A n ll := h.keep fun p hp => World.cell?_alloc_lt w o p (by omega)
theorem RdS.up (h : RdS w w.heap.size A n ll) (hb : Below w.heap.size w w') : RdS w' w'.heap.size A n ll := (h.below hb).more hb.size
theorem RdS.upA (h : RdS w w.heap.size A n ll) (o : Obj) : RdS (w.alloc o) (w.alloc o).heap.size A n ll := (h.alloc (Nat.le_refl _) o).more (by simp)
theorem RdS.len (h : RdS w B A n ll) : ll.length = n := by obtain ⟨vs, h1, h2⟩ := h; have := h1.1; rw [h2.len] at this; omega
theorem RdS.nil_ : RdS w B A 0 [] := ⟨[], Reads.none_, rfl, fun k v l h => by simp at h⟩
/-- The k-th element: its cell, and what it reads as. -/
theorem RdS.at_ (h : RdS w B A n ll) {k : Nat} (hk : k < n) : ∃ b off A' m c', A = some ⟨b, off, none⟩ ∧ b < B ∧ w.cell? ⟨b, off + k, none⟩ = some (.slice A' m c') ∧ m ≤ c' ∧ Rd w B A' m (ll.getD k []) := by
  have hl := h.len
  obtain ⟨vs, h1, h2⟩ := h
  obtain ⟨b, off, u, e, hb, hu, hc⟩ := h1.at_ hk
  obtain ⟨A', m, c', rfl, hm, hr⟩ := h2.rd k u (ll[k]'(by omega)) hu (List.getElem?_eq_getElem (by omega))
  refine ⟨b, off, A', m, c', e, hb, hc, hm, ?_⟩
  rw [List.getD_eq_getElem?_getD, List.getElem?_eq_getElem (by omega)]
  exact hr
end

/-- The values vs are slices of bytes of the call's own, that read as these lists, each in a block of its own. -/
structure ElsOwn (w : World) (base : Nat) (vs : List Value) (ll : List (List UInt8)) : Prop where
  len : vs.length = ll.length
  own : ∀ (k : Nat) (v : Value) (l : List UInt8), vs[k]? = some v → ll[k]? = some l → ∃ A n c, v = .slice A n c ∧ Own w base A n c l
  far : ∀ (i j : Nat) (v u : Value), vs[i]? = some v → vs[j]? = some u → i ≠ j → v.ownBlock = none ∨ v.ownBlock ≠ u.ownBlock
/-- A slice of n slices of bytes of the call's own, its elements too. -/
def OwnS (w : World) (base : Nat) (A : Option Addr) (n c : Nat) (ll : List (List UInt8)) : Prop := ∃ vs, w.ownsRow base 23 1 (.slice A n c) n vs ∧ ElsOwn w base vs ll

section
variable {w w' : World} {base n c : Nat} {A : Option Addr} {ll : List (List UInt8)} {vs : List Value}
theorem ElsOwn.nil_ : ElsOwn w base [] [] := ⟨rfl, fun k v l h => by simp at h, fun i j v u h => by simp at h⟩
theorem ElsOwn.kept {row : Option Nat} (h : ElsOwn w base vs ll) (hg : w.grownBy w' row) (hne : ∀ v ∈ vs, v.ownBlock = none ∨ v.ownBlock ≠ row) : ElsOwn w' base vs ll :=
  ⟨h.len, fun k v l h1 h2 => by
    obtain ⟨A, n, c, rfl, ho⟩ := h.own k v l h1 h2
    exact ⟨A, n, c, rfl, ho.kept hg (hne _ (List.mem_of_getElem? h1))⟩, h.far⟩
theorem ElsOwn.below (h : ElsOwn w base vs ll) (hb : Below w.heap.size w w') : ElsOwn w' base vs ll :=
  h.kept (row := none) ⟨hb.os, hb.tape, hb.output, hb.size, fun k hk _ => hb.block k hk⟩ (fun v _ => by cases v.ownBlock <;> simp)
theorem ElsOwn.less (h : ElsOwn w base vs ll) {base' : Nat} (hb : base' ≤ base) : ElsOwn w base' vs ll :=
  ⟨h.len, fun k v l h1 h2 => let ⟨A, n, c, hv, ho⟩ := h.own k v l h1 h2; ⟨A, n, c, hv, ho.less hb⟩, h.far⟩
theorem ElsOwn.lt (h : ElsOwn w base vs ll) : ∀ v ∈ vs, ∀ g, v.ownBlock = some g → base ≤ g ∧ g < w.heap.size := by
  intro v hv g hg
  obtain ⟨k, hk⟩ := List.getElem?_of_mem hv
  have hkl : k < ll.length := by rw [← h.len]; exact (List.getElem?_eq_some_iff.1 hk).1
  obtain ⟨A, n, c, rfl, ho⟩ := h.own k v ll[k] hk (List.getElem?_eq_getElem hkl)
  exact World.ownsRow.lt ho g hg
theorem OwnS.nil_ (w : World) (base : Nat) : OwnS w base none 0 0 [] := ⟨[], World.ownsRow_nil _ _ _ _, ElsOwn.nil_⟩
theorem OwnS.len (h : OwnS w base A n c ll) : ll.length = n := by obtain ⟨vs, h1, h2⟩ := h; have := h1.1; rw [h2.len] at this; omega
theorem OwnS.cap_ (h : OwnS w base A n c ll) : n ≤ c := by
  obtain ⟨vs, h, _⟩ := h
  rcases h.2 with ⟨hv, h0⟩ | ⟨g, cap, cur, hv, _, _, hle, _⟩
  · injection hv with _ h1 h2; omega
  · injection hv with _ h1 h2; omega
theorem OwnS.rd (h : OwnS w base A n c ll) : RdS w w.heap.size A n ll := by
  obtain ⟨vs, h1, h2⟩ := h
  refine ⟨vs, Reads.of_own h1, h2.len, fun k v l e1 e2 => ?_⟩
  obtain ⟨A', n', c', hv, ho⟩ := h2.own k v l e1 e2
  exact ⟨A', n', c', hv, ho.cap_, ho.rd⟩
theorem OwnS.below (h : OwnS w base A n c ll) (hb : Below w.heap.size w w') : OwnS w' base A n c ll := by
  obtain ⟨vs, h1, h2⟩ := h
  exact ⟨vs, World.ownsRow.kept h1 (row := none) ⟨hb.os, hb.tape, hb.output, hb.size, fun k hk _ => hb.block k hk⟩ (by cases (Value.slice A n c).ownBlock <;> simp), h2.below hb⟩
theorem OwnS.alloc (h : OwnS w base A n c ll) (o : Obj) : OwnS (w.alloc o) base A n c ll := h.below ((Below.refl _ _).alloc (Nat.le_refl _) o)
theorem OwnS.less (h : OwnS w base A n c ll) {base' : Nat} (hb : base' ≤ base) : OwnS w base' A n c ll := by
  obtain ⟨vs, h1, h2⟩ := h
  refine ⟨vs, ⟨h1.1, ?_⟩, h2.less hb⟩
  rcases h1.2 with h3 | ⟨g, cap, cur, hv, hg, r⟩
  · exact .inl h3
  · exact .inr ⟨g, cap, cur, hv, by omega, r⟩
end

/-- A new block of one value reads as that. -/
theorem Reads.lit1 (w : World) (H : Nat) (hH : w.heap.size = H) (v : Value) (t : TypeId) : Reads (w.alloc (.cells #[v] t)) (H + 1) 1 (some ⟨H, 0, none⟩) 1 [v] := by
  subst hH
  refine ⟨rfl, fun _ => ⟨_, 0, rfl, by omega, fun j u hu => ?_⟩⟩
  rw [Nat.zero_add, World.cell?_alloc_at _ _ _ _ rfl]
  simpa using hu

end Go.Proofs.Ytliccofjlheceaa
namespace Go.Proofs.Ytliccofjlheceaa
open Go.RowKit
theorem isSlb : isSl Try.prog 23 = true := by kernel_rfl
theorem is_bclone : isFn Try.prog 76 = true := by kernel_rfl
theorem is_beq : isFn Try.prog 49 = true := by kernel_rfl
set_option maxRecDepth 100000 in
theorem bclone_any (gs : List (Option Nat)) (A : Option Addr) (n c : Nat) (l : List UInt8) (w : World) (hr : RdD w (Fd w gs) (dB l) (.slice A n c)) (hsz : n ≤ 100000000) :
    Calls Try.prog 76 #[.slice A n c] w fun e w' => ∃ A' c', e = .returned (.slice A' n c') ∧ Own w' w.heap.size A' n c' l ∧ (A' = none ↔ A = none) ∧ Below w.heap.size w w' := by
  refine calls_ev (args := [.slice A n c]) mixed Try.func76 rfl (by kernel_rfl) ?_
  obtain ⟨hn, hc, hrd⟩ := hr.rd Fd.lt
  refine p_sln isSlb rfl rfl (fun h => ?_) (fun h => ?_)
  · have h0 := hr.none0 h
    subst h
    have hl : l = [] := List.eq_nil_of_length_eq_zero (by omega)
    subst hl
    subst h0
    exact ⟨none, 0, rfl, Own.nil_ _ _, by simp, Below.refl _ _⟩
  · refine v_bslice0 slb ?_
    rintro g W1 hg hB hb hs1
    have A1 : At w W1 [some g] := (At.start (gs := []) (by simp)).new (hg ▸ hb) (fun b e => by injection e with e; omega)
    refine v_appS rfl (Own.blk (l := []) hB (by omega) (by simp)) rfl (hrd.below (hg ▸ hb)) (by omega) A1 ?_
    rintro A3 c3 W3 o3 s3 A3' hA3 h3
    rw [Nat.zero_add] at o3
    refine ⟨A3, c3, by rw [Nat.zero_add]; rfl, o3, ⟨fun e => absurd (hA3.1 e).1 (by simp), fun e => absurd e h⟩, A3'.below⟩
set_option maxRecDepth 100000 in
theorem beq_any (A1 A2 : Option Addr) (n m c1 c2 B1 B2 : Nat) (a b : List UInt8) (w : World) (h1 : Rd w B1 A1 n a) (h2 : Rd w B2 A2 m b) :
    Calls Try.prog 49 #[.slice A1 n c1, .slice A2 m c2] w fun e w' => e = .returned (.bool (decide (a = b))) ∧ w = w' := by
  refine calls_ev (args := [.slice A1 n c1, .slice A2 m c2]) mixed Try.func49 rfl (by kernel_rfl) ?_
  refine v_str rfl h1 ?_
  refine v_str rfl h2 ?_
  refine p_seq rfl rfl (fun h => ?_) (fun h => ?_)
  · exact ⟨by rw [decide_eq_true (sb_inj.1 h)]; rfl, rfl⟩
  · exact ⟨by rw [decide_eq_false (fun e => h (by rw [e]))]; rfl, rfl⟩
end Go.Proofs.Ytliccofjlheceaa
namespace Go.Proofs.Ytliccofjlheceaa

/-- Of each byte its upper half, and its lower half. -/
def ofB (l : List UInt8) : List UInt8 := l.flatMap fun c => [c / 16, c % 16]
theorem ofB_length (l : List UInt8) : (ofB l).length = 2 * l.length := by
  induction l with
  | nil => rfl
  | cons c l ih => simp [ofB, List.flatMap_cons] at *; omega
theorem ofB_append (l m : List UInt8) : ofB (l ++ m) = ofB l ++ ofB m := by simp [ofB, List.flatMap_append]
theorem ofB_take (l : List UInt8) (k : Nat) (h : k < l.length) : ofB (l.take (k + 1)) = ofB (l.take k) ++ [b8 (at8 l k / 16), b8 (at8 l k % 16)] := by
  rw [take_snoc l k h, ofB_append]
  congr 1
  have e : at8 l k = ((l.getD k 0).toNat : Int) := rfl
  rw [e]
  generalize l.getD k 0 = c
  have e1 : b8 ((c.toNat : Int) / 16) = c / 16 := by unfold b8; apply UInt8.toNat_inj.1; rw [UInt8.toNat_ofNat', UInt8.toNat_div]; simp; have := c.toNat_lt; omega
  have e2 : b8 ((c.toNat : Int) % 16) = c % 16 := by unfold b8; apply UInt8.toNat_inj.1; rw [UInt8.toNat_ofNat', UInt8.toNat_mod]; simp; have := c.toNat_lt; omega
  rw [e1, e2]; rfl
theorem b8_add (a b : UInt8) (ha : a ≤ 15) (hb : b ≤ 15) : b8 (16 * (a.toNat : Int) + b.toNat) = 16 * a + b := by
  unfold b8; apply UInt8.toNat_inj.1
  have h1 := UInt8.le_iff_toNat_le.1 ha
  have h2 := UInt8.le_iff_toNat_le.1 hb
  rw [UInt8.toNat_ofNat', UInt8.toNat_add, UInt8.toNat_mul]
  simp at *; omega

/-- Are all halves? -/
def halvesB (l : List UInt8) : Bool := l.all fun c => decide (c ≤ 15)
theorem halvesB_take (l : List UInt8) (k : Nat) (h : k < l.length) (ht : halvesB (l.take k) = true) (hk : at8 l k ≤ 15) : halvesB (l.take (k + 1)) = true := by
  rw [take_snoc l k h]
  unfold halvesB at *
  rw [List.all_append, ht]
  have : l.getD k 0 ≤ 15 := by rw [UInt8.le_iff_toNat_le]; unfold at8 at hk; simp at *; omega
  simp only [List.all_cons, List.all_nil, Bool.and_true, Bool.true_and, decide_eq_true_eq]; exact this
theorem halvesB_no (l : List UInt8) (k : Nat) (h : k < l.length) (hk : 15 < at8 l k) : halvesB l = false := by
  unfold halvesB
  rw [List.all_eq_false]
  refine ⟨l[k], List.getElem_mem h, ?_⟩
  rw [at8_of l k h] at hk
  rw [decide_eq_true_eq, UInt8.le_iff_toNat_le]
  simp; omega
theorem halvesB_at (l : List UInt8) (h : halvesB l = true) (k : Nat) : at8 l k ≤ 15 := by
  by_cases hk : k < l.length
  · unfold halvesB at h
    rw [List.all_eq_true] at h
    have := h l[k] (List.getElem_mem hk)
    rw [decide_eq_true_eq, UInt8.le_iff_toNat_le] at this
    rw [at8_of l k hk]
    simp at this; omega
  · unfold at8
    rw [List.getD_eq_getElem?_getD, List.getElem?_eq_none (by omega)]; simp
theorem halvesB_le (l : List UInt8) (h : halvesB l = true) (c : UInt8) (hc : c ∈ l) : c ≤ 15 := by
  unfold halvesB at h
  rw [List.all_eq_true] at h
  simpa using h c hc
/-- Two to a byte. -/
def joinB : List UInt8 → List UInt8
  | a :: b :: r => (16 * a + b) :: joinB r
  | _ => []
theorem joinB_length : ∀ l : List UInt8, (joinB l).length = l.length / 2
  | a :: b :: r => by rw [joinB, List.length_cons, joinB_length r, List.length_cons, List.length_cons]; omega
  | [a] => by simp [joinB]
  | [] => by simp [joinB]
theorem joinB_take : ∀ (l : List UInt8) (k : Nat), 2 * k + 1 < l.length → joinB (l.take (2 * (k + 1))) = joinB (l.take (2 * k)) ++ [16 * l.getD (2 * k) 0 + l.getD (2 * k + 1) 0]
  | a :: b :: r, 0, _ => by simp [joinB]
  | a :: b :: r, k + 1, h => by
    have ih := joinB_take r k (by simp at h; omega)
    have e1 : 2 * (k + 1 + 1) = 2 * (k + 1) + 1 + 1 := by omega
    have e2 : 2 * (k + 1) = 2 * k + 1 + 1 := by omega
    rw [e1, e2]
    simp only [List.take_succ_cons, joinB, List.cons_append, List.getD_cons_succ]
    rw [← e2, ih]
  | [a], k, h => by simp at h
  | [], k, h => by simp at h
theorem joinB_take8 (l : List UInt8) (k : Nat) (h : 2 * k + 1 < l.length) (hh : halvesB l = true) : joinB (l.take (2 * (k + 1))) = joinB (l.take (2 * k)) ++ [b8 (at8 l (2 * k) * 16 + at8 l (2 * k + 1))] := by
  rw [joinB_take l k h]
  congr 2
  rw [at8_of l (2 * k) (by omega), at8_of l (2 * k + 1) h, Int.mul_comm, b8_add _ _ (halvesB_le l hh _ (List.getElem_mem _)) (halvesB_le l hh _ (List.getElem_mem _))]
  rw [List.getD_eq_getElem?_getD, List.getD_eq_getElem?_getD, List.getElem?_eq_getElem (by omega), List.getElem?_eq_getElem h]; rfl
theorem joinB_all (l : List UInt8) (k : Nat) (h : l.length ≤ 2 * k + 1) (hk : 2 * k ≤ l.length) : joinB (l.take (2 * k)) = joinB l := by
  induction l using joinB.induct generalizing k with
  | case1 a b r ih =>
    obtain ⟨j, rfl⟩ : ∃ j, k = j + 1 := ⟨k - 1, by simp at h; omega⟩
    have e2 : 2 * (j + 1) = 2 * j + 1 + 1 := by omega
    rw [e2]
    simp only [List.take_succ_cons, joinB]
    rw [ih j (by simp at h; omega) (by simp at hk; omega)]
  | case2 t x =>
    rcases t with _ | ⟨a, _ | ⟨b, r⟩⟩
    · simp
    · have : k = 0 := by simp at hk; omega
      subst this; simp [joinB]
    · exact absurd rfl (x a b r)

/-- How many stand at the begin of both. -/
def commonB : List UInt8 → List UInt8 → Nat
  | a :: l, b :: m => if a = b then commonB l m + 1 else 0
  | _, _ => 0
def bytesE (l : List UInt8) : Int := if halvesB l = true then (if l.length % 2 = 1 then 11 else 0) else 2
def bytesL (l : List UInt8) : List UInt8 := if halvesB l = true then (if l.length % 2 = 1 then [] else joinB l) else []
def packE (l : List UInt8) : Int := if halvesB l = true then 0 else 2
def packL (l : List UInt8) (leaf : Bool) : List UInt8 :=
  if halvesB l = true then (if l.length % 2 = 1 then b8 ((if leaf = true then 32 else 0) + 16 + at8 l 0) :: joinB (l.drop 1) else b8 (if leaf = true then 32 else 0) :: joinB l) else []
def unpackOk (b : List UInt8) : Bool := decide (at8 b 0 < 64) && (decide (at8 b 0 / 16 % 2 = 1) || decide (at8 b 0 % 16 = 0))
def unpackE (b : List UInt8) : Int := if b.length = 0 then 10 else if unpackOk b = true then 0 else 11
def unpackB (b : List UInt8) : Bool := decide (b.length ≠ 0) && unpackOk b && decide (at8 b 0 / 32 % 2 = 1)
def unpackL (b : List UInt8) : List UInt8 := if b.length = 0 then [] else if unpackOk b = true then (if at8 b 0 / 16 % 2 = 1 then [b8 (at8 b 0 % 16)] else []) ++ ofB (b.drop 1) else []
theorem or_halves (a b : Int) (h0 : 0 ≤ a) (h1 : a ≤ 15) (h2 : 0 ≤ b) (h3 : b ≤ 15) : bits .or .u8 (a * 16) b = a * 16 + b := by
  have h : ∀ x y : Fin 16, bits .or .u8 ((x.val : Int) * 16) (y.val : Int) = (x.val : Int) * 16 + (y.val : Int) := by decide +kernel
  have := h ⟨a.toNat, by omega⟩ ⟨b.toNat, by omega⟩
  simp only [Int.toNat_of_nonneg h0, Int.toNat_of_nonneg h2] at this
  exact this
end Go.Proofs.Ytliccofjlheceaa
namespace Go.Proofs.Ytliccofjlheceaa
open Go.RowKit
/-- A node of a trie. -/
inductive Nd where
  | mk (kind : Int) (path : List UInt8) (has : Bool) (val : List UInt8) (kids : List Nd) (hash : List UInt8)
namespace Nd
def kind : Nd → Int | .mk k _ _ _ _ _ => k
def path : Nd → List UInt8 | .mk _ p _ _ _ _ => p
def has : Nd → Bool | .mk _ _ h _ _ _ => h
def val : Nd → List UInt8 | .mk _ _ _ v _ _ => v
def kids : Nd → List Nd | .mk _ _ _ _ ks _ => ks
def hash : Nd → List UInt8 | .mk _ _ _ _ _ h => h
theorem eta (t : Nd) : t = .mk t.kind t.path t.has t.val t.kids t.hash := by cases t; rfl
end Nd
def noneN : Nd := .mk 0 [] false [] [] []
mutual
def sz : Nd → Nat
  | .mk _ p _ v ks hs => 6 + p.length + v.length + hs.length + szs ks
def szs : List Nd → Nat
  | [] => 0
  | t :: ts => sz t + szs ts
end
theorem sz_eq (t : Nd) : sz t = 6 + t.path.length + t.val.length + t.hash.length + szs t.kids := by cases t; unfold sz; rfl
theorem szs_mem : ∀ {ks : List Nd} {k : Nd}, k ∈ ks → sz k ≤ szs ks
  | t :: ts, k, h => by
    unfold szs
    rcases List.mem_cons.1 h with rfl | h
    · omega
    · have := szs_mem h; omega
theorem szs_len : ∀ (ks : List Nd), 6 * ks.length ≤ szs ks
  | [] => Nat.zero_le _
  | t :: ts => by
    have := szs_len ts
    have := sz_eq t
    unfold szs
    rw [List.length_cons]; omega
mutual
def dN : Nd → List D
  | .mk k p h v ks hs => [.v (.int .i64 k), dB p, .v (.bool h), dB v, .sl 6 ks.length (dNs ks), dB hs]
def dNs : List Nd → List D
  | [] => []
  | t :: ts => dN t ++ dNs ts
end
theorem dN_eq (t : Nd) : dN t = [.v (.int .i64 t.kind), dB t.path, .v (.bool t.has), dB t.val, .sl 6 t.kids.length (dNs t.kids), dB t.hash] := by cases t; unfold dN; rfl
theorem dN_len (t : Nd) : (dN t).length = 6 := by rw [dN_eq]; rfl
theorem dNs_len : ∀ ks : List Nd, (dNs ks).length = ks.length * 6
  | [] => rfl
  | t :: ts => by unfold dNs; rw [List.length_append, dN_len, dNs_len ts, List.length_cons]; omega
theorem dNs_app : ∀ (a b : List Nd), dNs (a ++ b) = dNs a ++ dNs b
  | [], b => rfl
  | t :: a, b => by rw [List.cons_append, dNs, dNs, dNs_app a b, List.append_assoc]
theorem dNs_at : ∀ {ks : List Nd} {i : Nat} {t : Nd}, ks[i]? = some t → ((dNs ks).drop (i * 6)).take 6 = dN t
  | t0 :: ks, 0, t, h => by
    simp at h; subst h
    rw [Nat.zero_mul, List.drop_zero, dNs, List.take_append_of_le_length (by rw [dN_len]; omega), List.take_of_length_le (by rw [dN_len]; omega)]
  | t0 :: ks, i + 1, t, h => by
    rw [dNs, show (i + 1) * 6 = (dN t0).length + i * 6 by rw [dN_len]; omega, ← List.drop_drop, List.drop_left]
    exact dNs_at (by simpa using h)
theorem dN_one (t : Nd) : ∀ d ∈ dN t, d.One := by
  intro d hd
  rw [dN_eq] at hd
  simp only [List.mem_cons, List.not_mem_nil, or_false] at hd
  rcases hd with rfl | rfl | rfl | rfl | rfl | rfl <;> first | rfl | trivial
/-- A node's cells. -/
def ncs (t : Nd) (Ap : Option Addr) (cp : Nat) (Av : Option Addr) (cv : Nat) (Ak : Option Addr) (ck : Nat) (Ah : Option Addr) (ch : Nat) : List Value :=
  [.int .i64 t.kind, .slice Ap t.path.length cp, .bool t.has, .slice Av t.val.length cv, .slice Ak t.kids.length ck, .slice Ah t.hash.length ch]
/-- A slice of nodes. -/
abbrev dKs (ks : List Nd) : D := .sl 6 ks.length (dNs ks)
section
variable {W : World} {F : Nat → Prop}
theorem RdL.node {t : Nd} {cs : List Value} (h : RdL W F (dN t) cs) : ∃ Ap cp Av cv Ak ck Ah ch, cs = ncs t Ap cp Av cv Ak ck Ah ch ∧
    RdD W F (dB t.path) (.slice Ap t.path.length cp) ∧ RdD W F (dB t.val) (.slice Av t.val.length cv) ∧ RdD W F (dKs t.kids) (.slice Ak t.kids.length ck) ∧ RdD W F (dB t.hash) (.slice Ah t.hash.length ch) := by
  rw [dN_eq] at h
  obtain ⟨u0, _, rfl, h0, h⟩ := h.uncons
  obtain ⟨u1, _, rfl, h1, h⟩ := h.uncons
  obtain ⟨u2, _, rfl, h2, h⟩ := h.uncons
  obtain ⟨u3, _, rfl, h3, h⟩ := h.uncons
  obtain ⟨u4, _, rfl, h4, h⟩ := h.uncons
  obtain ⟨u5, _, rfl, h5, h⟩ := h.uncons
  rw [h.isnil]
  obtain ⟨A1, c1, e1, _⟩ := h1.open_
  obtain ⟨A3, c3, e3, _⟩ := h3.open_
  obtain ⟨A4, c4, e4, _⟩ := h4.open_
  obtain ⟨A5, c5, e5, _⟩ := h5.open_
  have e0 := RdD.val.1 h0
  have e2 := RdD.val.1 h2
  subst e0; subst e1; subst e2; subst e3; subst e4; subst e5
  exact ⟨A1, c1, A3, c3, A4, c4, A5, c5, rfl, h1, h3, h4, h5⟩
theorem RdL.ofnode {t : Nd} {Ap Av Ak Ah : Option Addr} {cp cv ck ch : Nat} (h1 : RdD W F (dB t.path) (.slice Ap t.path.length cp)) (h3 : RdD W F (dB t.val) (.slice Av t.val.length cv)) (h4 : RdD W F (dKs t.kids) (.slice Ak t.kids.length ck)) (h5 : RdD W F (dB t.hash) (.slice Ah t.hash.length ch)) : RdL W F (dN t) (ncs t Ap cp Av cv Ak ck Ah ch) := by
  rw [dN_eq]
  exact RdL.cons (RdD.ofv _) (RdL.cons h1 (RdL.cons (RdD.ofv _) (RdL.cons h3 (RdL.cons h4 (RdL.cons h5 RdL.nil_)))))
/-- A kid. -/
theorem RdD.kid {ks : List Nd} {A : Option Addr} {n c i : Nat} {k : Nd} (h : RdD W F (dKs ks) (.slice A n c)) (hk : ks[i]? = some k) :
    ∃ b off es, A = some ⟨b, off, none⟩ ∧ F b ∧ RdL W F (dN k) es ∧ es.length = 6 ∧ ∀ j x, es[j]? = some x → W.cell? (((⟨b, off, none⟩ : Addr).add (i * 6)).add j) = some x := by
  have hn := h.slen
  have hi := (List.getElem?_eq_some_iff.1 hk).1
  obtain ⟨b, off, es, e1, hF, hes, hel, hc⟩ := h.at_ (i := i) (by omega)
  rw [dNs_at hk] at hes
  exact ⟨b, off, es, e1, hF, hes, hel, fun j x hx => by rw [Addr.add_lit, Addr.add_lit]; exact hc j x hx⟩
end
end Go.Proofs.Ytliccofjlheceaa
namespace Go.Proofs.Ytliccofjlheceaa
open Go.RowKit
theorem fN0 : fieldOff Try.prog 38 0 = some 0 := by kernel_rfl
theorem fN1 : fieldOff Try.prog 38 1 = some 1 := by kernel_rfl
theorem fN2 : fieldOff Try.prog 38 2 = some 2 := by kernel_rfl
theorem fN3 : fieldOff Try.prog 38 3 = some 3 := by kernel_rfl
theorem fN4 : fieldOff Try.prog 38 4 = some 4 := by kernel_rfl
theorem fN5 : fieldOff Try.prog 38 5 = some 5 := by kernel_rfl
theorem agg_bo : aggOf Try.prog 4 = some (false, 1) := by kernel_rfl
theorem agg_ns : aggOf Try.prog 36 = some (false, 1) := by kernel_rfl
theorem agg_nd : aggOf Try.prog 38 = some (true, 6) := by kernel_rfl
theorem sln : slOf Try.prog 36 = some (38, 6) := by kernel_rfl
theorem sz_nd : (Try.prog.info? 38).map (·.size) = some 6 := by kernel_rfl
theorem al_nd : (Try.prog.info? 38).map (fun i => i.zero.map fun z => z.cells.toList) = some (some [.int .i64 0, .slice none 0 0, .bool false, .slice none 0 0, .slice none 0 0, .slice none 0 0]) := by kernel_rfl
theorem u_bool : Try.prog.underlying 4 = some .bool := by kernel_rfl
theorem agg_by' : aggOf Try.prog 5 = some (false, 1) := by kernel_rfl
theorem is_h1 : isFn Try.prog 103 = true := by kernel_rfl
theorem is_ixf : isFn Try.prog 104 = true := by kernel_rfl
theorem is_ctf : isFn Try.prog 102 = true := by kernel_rfl
theorem is_nh : isFn Try.prog 87 = true := by kernel_rfl
set_option maxRecDepth 100000 in
theorem h1_any (c : Nat) (w : World) :
    Calls Try.prog 103 #[.int .u8 c] w fun e w' => e = .returned (.bool (decide (15 < c))) ∧ w = w' := by
  refine calls_ev (args := [.int .u8 c]) mixed Try.func103 rfl (by kernel_rfl) ?_
  refine p_gt rfl rfl (fun h => ?_) (fun h => ?_)
  · exact ⟨by rw [decide_eq_true (by omega)]; rfl, rfl⟩
  · exact ⟨by rw [decide_eq_false (by omega)]; rfl, rfl⟩
set_option maxRecDepth 100000 in
theorem ixf_any (A : Option Addr) (n c B : Nat) (l : List UInt8) (w : World) (hr : Rd w B A n l) (hn : n ≤ 1000000000000) :
    Calls Try.prog 104 #[.slice A n c, .func (.func 103) #[] #[]] w fun e w' => (∃ r : Int, e = .returned (.int .i64 r) ∧ (0 ≤ r ↔ halvesB l = false)) ∧ w = w' := by
  refine calls_ev (args := [.slice A n c, .func (.func 103) #[] #[]]) mixed Try.func104 rfl (by kernel_rfl) ?_
  have hl := hr.len
  refine p_len slb rfl ?_
  refine lp Nat (fun i W => i ≤ n ∧ w = W ∧ halvesB (l.take i) = true) (fun i => [(0, .slice A n c), (1, .func (.func 103) #[] #[]), (7, .int .i64 n), (8, .int .i64 i)]) (fun i => n - i) 0 ⟨Nat.zero_le _, rfl, by simp [halvesB]⟩ ⟨rfl, rfl, rfl, rfl, trivial⟩ ?_
  rintro i E W ⟨hi, rfl, hh⟩
  refine p_lt rfl rfl (fun hlt => ?_) (fun hge => ?_)
  · obtain ⟨b, off, rfl, hc⟩ := hr.at_ (k := i) (by omega)
    have hb := at8_lo l i
    refine p_at slb rfl rfl rfl (by omega) ?_
    have e8 : at8 l i = ((l.getD i 0).toNat : Int) := rfl
    rw [e8] at hc
    refine v_load agg_by' rfl (by rw [Addr.add_lit, Nat.mul_one]; exact hc) ?_
    refine cc is_h1 (h1_any (l.getD i 0).toNat w) ?_
    rintro e W2 ⟨rfl, rfl⟩
    refine ⟨_, rfl, ?_⟩
    by_cases h15 : 15 < (l.getD i 0).toNat
    · rw [decide_eq_true h15]
      refine ⟨⟨(i : Int), rfl, ?_⟩, rfl⟩
      have := halvesB_no l i (by omega) (by rw [e8]; omega)
      simp [this]
    · rw [decide_eq_false h15]
      refine p_add rfl rfl (r := ((i + 1 : Nat) : Int)) ((w64 (by omega)).trans (by omega)) ?_
      exact ⟨i + 1, ⟨by omega, rfl, halvesB_take l i (by omega) hh (by rw [e8]; omega)⟩, ⟨rfl, rfl, rfl, rfl, trivial⟩, by omega⟩
  · have hin : i = n := by omega
    subst hin
    rw [List.take_of_length_le (by omega)] at hh
    exact ⟨⟨-1, rfl, by rw [hh]; simp⟩, rfl⟩
set_option maxRecDepth 100000 in
theorem nhalves_any (A : Option Addr) (n c B : Nat) (l : List UInt8) (w : World) (hr : Rd w B A n l) (hn : n ≤ 1000000000000) :
    Calls Try.prog 87 #[.slice A n c] w fun e w' => e = .returned (.bool (halvesB l)) ∧ w = w' := by
  refine calls_ev (args := [.slice A n c]) mixed Try.func87 rfl (by kernel_rfl) ?_
  have ctf : Calls Try.prog 102 #[.slice A n c, .func (.func 103) #[] #[]] w fun e w' => e = .returned (.bool (!halvesB l)) ∧ w = w' := by
    refine calls_ev (args := [.slice A n c, .func (.func 103) #[] #[]]) mixed Try.func102 rfl (by kernel_rfl) ?_
    refine cc is_ixf (ixf_any A n c B l w hr hn) ?_
    rintro e W ⟨⟨r, rfl, hx⟩, rfl⟩
    refine ⟨_, rfl, ?_⟩
    refine p_ge rfl rfl (fun h => ?_) (fun h => ?_)
    · exact ⟨by rw [hx.1 h]; rfl, rfl⟩
    · have : halvesB l = true := by
        cases hq : halvesB l with
        | true => rfl
        | false => exact absurd (hx.2 hq) h
      exact ⟨by rw [this]; rfl, rfl⟩
  refine cc is_ctf ctf ?_
  rintro e W ⟨rfl, rfl⟩
  refine ⟨_, rfl, ?_⟩
  refine p_not rfl ?_
  exact ⟨by rw [Bool.not_not]; rfl, rfl⟩
def endsP (d : Nat) (even : Bool) : Bool := decide (d ≤ 400) && (!even || decide (d % 2 = 0))
theorem tmod2' (a : Nat) : ((a : Nat) : Int).tmod 2 = ((a % 2 : Nat) : Int) := by rw [Int.tmod_eq_emod_of_nonneg (by omega)]; omega
theorem is_ends : isFn Try.prog 89 = true := by kernel_rfl
set_option maxRecDepth 100000 in
theorem ends_any (d : Nat) (even : Bool) (w : World) :
    Calls Try.prog 89 #[.int .i64 d, .bool even] w fun e w' => e = .returned (.bool (endsP d even)) ∧ w = w' := by
  refine calls_ev (args := [.int .i64 d, .bool even]) mixed Try.func89 rfl (by kernel_rfl) ?_
  refine p_le rfl rfl (fun h => ?_) (fun h => ?_)
  · refine p_not rfl ?_
    cases even with
    | false => exact ⟨by unfold endsP; rw [decide_eq_true (by omega)]; rfl, rfl⟩
    | true =>
      refine p_rem rfl rfl (by decide) (tmod2' _) ?_
      refine p_eq rfl rfl (fun h2 => ?_) (fun h2 => ?_)
      · exact ⟨by unfold endsP; rw [decide_eq_true (by omega), decide_eq_true (by omega)]; rfl, rfl⟩
      · exact ⟨by unfold endsP; rw [decide_eq_true (by omega), decide_eq_false (by omega)]; rfl, rfl⟩
  · exact ⟨by unfold endsP; rw [decide_eq_false (by omega)]; rfl, rfl⟩
end Go.Proofs.Ytliccofjlheceaa
namespace Go.Proofs.Ytliccofjlheceaa
open Go.RowKit
def soft (v v' : Value) : Prop := v' = v ∨ (∃ (c c' : UInt8), v = u8v c ∧ v' = u8v c') ∨ (∃ x y : Int, v = .int .i64 x ∧ v' = .int .i64 y)
theorem soft.trans {a b c : Value} (h : soft a b) (k : soft b c) : soft a c := by
  rcases h with rfl | ⟨x, y, rfl, rfl⟩ | ⟨x, y, rfl, rfl⟩
  · exact k
  · rcases k with rfl | ⟨x', y', h1, rfl⟩ | ⟨x', y', h1, rfl⟩
    · exact .inr (.inl ⟨_, _, rfl, rfl⟩)
    · exact .inr (.inl ⟨_, _, rfl, rfl⟩)
    · unfold u8v at h1; injection h1 with h1; cases h1
  · rcases k with rfl | ⟨x', y', h1, rfl⟩ | ⟨x', y', h1, rfl⟩
    · exact .inr (.inr ⟨_, _, rfl, rfl⟩)
    · unfold u8v at h1; injection h1 with h1; cases h1
    · exact .inr (.inr ⟨_, _, rfl, rfl⟩)
theorem soft.byte {c : UInt8} {v : Value} (h : soft (u8v c) v) : ∃ c', v = u8v c' := by
  rcases h with rfl | ⟨x, y, _, rfl⟩ | ⟨x, y, h1, rfl⟩
  · exact ⟨c, rfl⟩
  · exact ⟨y, rfl⟩
  · unfold u8v at h1; injection h1 with h1; cases h1
theorem soft.sl {A : Option Addr} {n c : Nat} {v : Value} (h : soft (.slice A n c) v) : v = .slice A n c := by
  rcases h with rfl | ⟨x, y, h1, rfl⟩ | ⟨x, y, h1, rfl⟩
  · rfl
  · cases h1
  · cases h1
theorem soft.int {x : Int} {v : Value} (h : soft (.int .i64 x) v) : ∃ y, v = .int .i64 y := by
  rcases h with rfl | ⟨c, y, h1, rfl⟩ | ⟨x, y, h1, rfl⟩
  · exact ⟨_, rfl⟩
  · unfold u8v at h1; injection h1 with h1; cases h1
  · exact ⟨_, rfl⟩
/-- Only what lies in some blocks is written, and keeps its kind. -/
structure Tame (B : Nat → Prop) (W W' : World) : Prop where
  low : ∀ base, (∀ b, B b → base ≤ b) → Below base W W'
  size : W'.heap.size = W.heap.size
  out : ∀ b, ¬ B b → W'.heap[b]? = W.heap[b]?
  inn : ∀ a v, W.cell? a = some v → ∃ v', W'.cell? a = some v' ∧ soft v v'
  thaw : ∀ b, Thaw W b → Thaw W' b
theorem Tame.refl (B : Nat → Prop) (W : World) : Tame B W W := ⟨fun base _ => Below.refl _ _, rfl, fun _ _ => rfl, fun a v h => ⟨v, h, .inl rfl⟩, fun b h => h⟩
theorem Tame.trans {B : Nat → Prop} {W W1 W2 : World} (h : Tame B W W1) (k : Tame B W1 W2) : Tame B W W2 :=
  ⟨fun base hb => (h.low base hb).trans (k.low base hb), k.size.trans h.size, fun b hb => (k.out b hb).trans (h.out b hb), fun a v hv => by
    obtain ⟨v1, h1, s1⟩ := h.inn a v hv
    obtain ⟨v2, h2, s2⟩ := k.inn a v1 h1
    exact ⟨v2, h2, s1.trans s2⟩, fun b hb => k.thaw b (h.thaw b hb)⟩
theorem heap_set_at {W : World} {b o : Nat} {c : Array Value} {e : TypeId} {z : Nat × Nat} (v : Value) (h : W.heap[b]? = some (.cells c e z)) : (W.setCell ⟨b, o, none⟩ v).heap[b]? = some (.cells (c.setIfInBounds o v) e z) := by
  unfold World.setCell
  simp only [Array.getElem?_modify, h, if_pos]
  rfl
theorem cell_set {W : World} {b o : Nat} {old v : Value} (hc : W.cell? ⟨b, o, none⟩ = some old) {a : Addr} {u : Value} (ha : W.cell? a = some u) : (W.setCell ⟨b, o, none⟩ v).cell? a = some (if a.block = b ∧ a.off = o then v else u) := by
  by_cases hb : a.block = b
  · have hsp := World.cell?_spot ha
    obtain ⟨ab, ao, asp⟩ := a
    dsimp only at hb hsp ⊢
    subst hb
    subst hsp
    cases hh : W.heap[ab]? with
    | none => unfold World.cell? at ha; dsimp only at ha; rw [hh] at ha; cases ha
    | some ob =>
      cases ob with
      | cells c e z =>
        have h2 := heap_set_at (o := o) v hh
        unfold World.cell? at ha hc ⊢
        dsimp only at ha hc ⊢
        rw [hh] at ha hc
        rw [h2]
        simp only [Option.isSome_none, Bool.false_eq_true, if_false] at ha hc ⊢
        by_cases ho : ao = o
        · subst ho
          rw [if_pos (by simp), Array.getElem?_setIfInBounds_self_of_lt (Array.getElem?_eq_some_iff.1 hc).1]
        · rw [if_neg (fun h => ho h.2), Array.getElem?_setIfInBounds_ne (fun e => ho e.symm)]; exact ha
      | _ => unfold World.cell? at ha; dsimp only at ha; rw [hh] at ha; cases ha
  · rw [if_neg (fun h => hb h.1)]
    exact (World.cell?_of_block (w := W) (Below.heap_setCell W ⟨b, o, none⟩ v a.block hb)).trans ha
theorem Tame.set {B : Nat → Prop} {W W1 : World} (h : Tame B W W1) {b o : Nat} {old v : Value} (hB : B b) (hc : W1.cell? ⟨b, o, none⟩ = some old) (hs : soft old v) : Tame B W (W1.setCell ⟨b, o, none⟩ v) :=
  h.trans ⟨fun base hb => (Below.refl _ _).setCell (hb b hB) v, by unfold World.setCell; simp, fun k hk => Below.heap_setCell W1 ⟨b, o, none⟩ v k (fun e => hk (e ▸ hB)), fun a u hu => by
    refine ⟨_, cell_set hc hu, ?_⟩
    by_cases hab : a.block = b ∧ a.off = o
    · rw [if_pos hab]
      have hsp := World.cell?_spot hu
      obtain ⟨ab, ao, asp⟩ := a
      dsimp only at hab hsp
      obtain ⟨rfl, rfl⟩ := hab
      subst hsp
      rw [hc] at hu
      injection hu with hu
      rw [← hu]; exact hs
    · rw [if_neg hab]; exact .inl rfl, fun k hk => by
    by_cases e : k = b
    · subst e
      intro cs T z hz
      cases hh : W1.heap[k]? with
      | none => unfold World.cell? at hc; dsimp only at hc; rw [hh] at hc; cases hc
      | some ob =>
        cases ob with
        | cells c e z' =>
          rw [heap_set_at v hh] at hz
          injection hz with hz
          injection hz with _ _ hz
          rw [← hz]; exact hk c e z' hh
        | _ => unfold World.cell? at hc; dsimp only at hc; rw [hh] at hc; cases hc
    · exact hk.same (Below.heap_setCell W1 ⟨b, o, none⟩ v k e)⟩
/-- A slice of bytes, whichever they are. -/
def SoftRd (B : Nat → Prop) (W : World) (A : Option Addr) (n : Nat) : Prop := 0 < n → ∃ b off, A = some ⟨b, off, none⟩ ∧ B b ∧ ∀ j, j < n → ∃ c : UInt8, W.cell? ⟨b, off + j, none⟩ = some (u8v c)
theorem SoftRd.up {B : Nat → Prop} {W W' : World} {A : Option Addr} {n : Nat} (h : SoftRd B W A n) (t : Tame B W W') : SoftRd B W' A n := fun hn => by
  obtain ⟨b, off, e, hB, hc⟩ := h hn
  refine ⟨b, off, e, hB, fun j hj => ?_⟩
  obtain ⟨c, hc⟩ := hc j hj
  obtain ⟨v', h1, h2⟩ := t.inn _ _ hc
  obtain ⟨c', rfl⟩ := h2.byte
  exact ⟨c', h1⟩
theorem SoftRd.of {B F : Nat → Prop} {W : World} {A : Option Addr} {n c : Nat} {l : List UInt8} (h : RdD W F (dB l) (.slice A n c)) (hF : ∀ b, F b → B b) (hlt : ∀ b, F b → b < W.heap.size) : SoftRd B W A n := fun hn => by
  have e := h.slen
  obtain ⟨A', c', e1, _, hr⟩ := h.bytes hlt
  injection e1 with e1 e2 e3
  subst e1
  subst e2
  obtain ⟨b, off, rfl, _⟩ := hr.at_ (k := 0) (by omega)
  refine ⟨b, off, rfl, hF b (RdD.blk0 h hn), fun j hj => ?_⟩
  obtain ⟨b', off', e2, hc⟩ := hr.at_ (k := j) hj
  injection e2 with e2
  injection e2 with e2 e3
  subst e2; subst e3
  exact ⟨l.getD j 0, hc⟩
theorem is_spoil : isFn Try.prog 52 = true := by kernel_rfl
theorem sz_u8s : (Try.prog.info? 5).map (·.size) = some 1 := by kernel_rfl
theorem xor_range (a : Int) : 0 ≤ bits .xor .u8 a 165 ∧ bits .xor .u8 a 165 ≤ 255 := by
  unfold bits
  rw [IntKind.wrap_u8']
  omega
set_option maxRecDepth 100000 in
set_option maxHeartbeats 1000000 in
theorem spoil_any (B : Nat → Prop) (W : World) (A : Option Addr) (n c : Nat) (h : SoftRd B W A n) (hT : ∀ b, B b → Thaw W b) (hn : n ≤ 1000000000) :
    Calls Try.prog 52 #[.slice A n c] W fun e W' => (∃ v, e = .returned v) ∧ Tame B W W' := by
  refine calls_ev (args := [.slice A n c]) mixed Try.func52 rfl (by kernel_rfl) ?_
  refine lp Nat (fun i W1 => i ≤ n ∧ Tame B W W1) (fun i => [(0, .slice A n c), (2, .int .i64 i)]) (fun i => n - i) 0 ⟨Nat.zero_le _, Tame.refl _ _⟩ (by repeat (first | exact trivial | refine ⟨rfl, ?_⟩)) ?_
  rintro i E W1 ⟨hi, M⟩
  refine p_len slb rfl ?_
  refine p_lt rfl rfl (fun hlt => ?_) (fun hge => ?_)
  · obtain ⟨b, off, rfl, hB, hc⟩ := (h.up M) (by omega)
    obtain ⟨q, hq⟩ := hc i (by omega)
    have hx := xor_range (q.toNat : Int)
    have hq' : W1.cell? ((⟨b, off, none⟩ : Addr).add (i * 1)) = some (.int .u8 (q.toNat : Int)) := by rw [Addr.add_lit, Nat.mul_one]; exact hq
    refine p_at (i := i) slb rfl rfl rfl (by omega) ?_
    refine v_load agg_by' rfl hq' ?_
    refine p_xor rfl rfl rfl ?_
    refine p_at (i := i) slb rfl rfl rfl (by omega) ?_
    refine v_store (ad := ⟨b, off + i, none⟩) (old := u8v q) sz_u8s (by show Value.pointer (some ((⟨b, off, none⟩ : Addr).add (i * 1))) = _; rw [Addr.add_lit, Nat.mul_one]) rfl rfl hq ((M.thaw b (hT b hB)).free _) ?_
    refine p_addN (b := 1) rfl rfl (by omega) ?_
    exact ⟨i + 1, ⟨by omega, M.set hB hq (.inr (.inl ⟨q, b8 (bits .xor .u8 (q.toNat : Int) 165), rfl, (u8v_b8 _ hx.1 hx.2).symm⟩))⟩, (by repeat (first | exact trivial | refine ⟨rfl, ?_⟩)), by omega⟩
  · exact ⟨⟨_, rfl⟩, M⟩
/-- What a call has made, between two sizes. -/
theorem St.callG {w W W' : World} {gs : List (Option Nat)} {L : Lc} {R : List Row} {fs : List Fact} {ds : List D} {cs : List Value} (M : St w gs W L R fs) (hb : Below W.heap.size W W') (h : RdL W' (Fr W W') ds cs) : St w gs W' L R (.rng W.heap.size W'.heap.size ds cs :: fs) :=
  (M.call hb).add (f := .rng W.heap.size W'.heap.size ds cs) (h.to fun b hb' => ⟨rfl, ⟨hb'.2.1, fun e => by have := M.olt b e; have := hb'.1; omega, fun _ => ⟨Nat.le_trans M.size hb'.1, hb'.2.2⟩⟩, hb'.1, hb'.2.1⟩)
theorem St.rg {w W : World} {gs : List (Option Nat)} {L : Lc} {R : List Row} {fs : List Fact} {lo hi : Nat} {ds : List D} {cs : List Value} (M : St w gs W L R fs) (i : Nat) (h : nth fs i = some (.rng lo hi ds cs)) : RdL W (fun b => Ft w W (own L R gs) true b ∧ lo ≤ b ∧ b < hi) ds cs := M.fct _ (nth_mem h)
theorem St.rda {w W : World} {gs : List (Option Nat)} {L : Lc} {R : List Row} {fs : List Fact} {lo hi : Nat} {ds : List D} {cs : List Value} (M : St w gs W L R fs) (i : Nat) (h : nth fs i = some (.rng lo hi ds cs)) : RdL W (Fd W (own L R gs)) ds cs := (M.rg i h).to fun b hb => ⟨rfl, hb.1.1, hb.1.2.1⟩
/-- What was handed in. -/
theorem St.arg {w W : World} {gs : List (Option Nat)} {L : Lc} {R : List Row} {fs : List Fact} {ds : List D} {cs : List Value} (M : St w gs W L R fs) (h : RdL w (Fd w gs) ds cs) : St w gs W L R (.dat false ds cs :: fs) :=
  M.addL (h.to fun b hb => ⟨M.below.block b hb.1, by have := M.size; have := hb.1; omega, fun e => by
    unfold own at e
    rcases List.mem_append.1 e with e | e
    · obtain ⟨y, hy, he⟩ := List.mem_map.1 e
      injection he with he
      have := (M.blk y hy).2; have := hb.1; omega
    rcases List.mem_append.1 e with e | e
    · obtain ⟨r, hr, he⟩ := List.mem_map.1 e
      have := (row_bklo (M.row r hr) b he).1; have := hb.1; omega
    · exact hb.2 e⟩)
end Go.Proofs.Ytliccofjlheceaa
namespace Go.Proofs.Ytliccofjlheceaa
open Go.RowKit
structure Tame2 (B : Nat → Prop) (W W' : World) : Prop where
  low : ∀ base, base ≤ W.heap.size → (∀ b, B b → base ≤ b) → Below base W W'
  size : W.heap.size ≤ W'.heap.size
  out : ∀ b, b < W.heap.size → ¬ B b → W'.heap[b]? = W.heap[b]?
  inn : ∀ a v, B a.block → W.cell? a = some v → ∃ v', W'.cell? a = some v' ∧ soft v v'
  thaw : ∀ b, B b → Thaw W b → Thaw W' b
theorem Tame2.refl (B : Nat → Prop) (W : World) : Tame2 B W W := ⟨fun base _ _ => Below.refl _ _, Nat.le_refl _, fun _ _ _ => rfl, fun a v _ h => ⟨v, h, .inl rfl⟩, fun b _ h => h⟩
theorem Tame2.trans {B : Nat → Prop} {W W1 W2 : World} (h : Tame2 B W W1) (k : Tame2 B W1 W2) : Tame2 B W W2 :=
  ⟨fun base hl hb => (h.low base hl hb).trans (k.low base (Nat.le_trans hl h.size) hb), Nat.le_trans h.size k.size, fun b hl hb => (k.out b (Nat.lt_of_lt_of_le hl h.size) hb).trans (h.out b hl hb), fun a v hB hv => by
    obtain ⟨v1, h1, s1⟩ := h.inn a v hB hv
    obtain ⟨v2, h2, s2⟩ := k.inn a v1 hB h1
    exact ⟨v2, h2, s1.trans s2⟩, fun b hB hb => k.thaw b hB (h.thaw b hB hb)⟩
theorem Tame.two {B : Nat → Prop} {W W' : World} (h : Tame B W W') : Tame2 B W W' := ⟨fun base _ hb => h.low base hb, Nat.le_of_eq h.size.symm, fun b _ hb => h.out b hb, fun a v _ hv => h.inn a v hv, fun b _ hb => h.thaw b hb⟩
theorem Tame2.new {B : Nat → Prop} {W W' : World} (hb : Below W.heap.size W W') (hB : ∀ b, B b → b < W.heap.size) : Tame2 B W W' :=
  ⟨fun base hl _ => hb.mono hl, hb.size, fun b hl _ => hb.block b hl, fun a v h hv => ⟨v, cellB hb hv, .inl rfl⟩, fun b h ht => ht.same (hb.block b (hB b h))⟩
end Go.Proofs.Ytliccofjlheceaa
namespace Go.Proofs.Ytliccofjlheceaa
open Go.RowKit
def bareP (t : Nd) (p v k h : Bool) : Bool := decide ((p = true ∨ t.path.length = 0) ∧ (v = true ∨ t.val.length = 0) ∧ (k = true ∨ t.kids.length = 0) ∧ (h = true ∨ t.hash.length = 0) ∧ (t.has = false ∨ t.kind = 3))
theorem is_bare : isFn Try.prog 88 = true := by kernel_rfl
theorem ncs_one (t : Nd) (Ap : Option Addr) (cp : Nat) (Av : Option Addr) (cv : Nat) (Ak : Option Addr) (ck : Nat) (Ah : Option Addr) (ch : Nat) : ∀ u ∈ ncs t Ap cp Av cv Ak ck Ah ch, u.oneCell' = true := by
  intro u hu
  simp only [ncs, List.mem_cons, List.not_mem_nil, or_false] at hu
  rcases hu with rfl | rfl | rfl | rfl | rfl | rfl <;> rfl
set_option maxRecDepth 100000 in
set_option maxHeartbeats 4000000 in
theorem bare_any (t : Nd) (Ap : Option Addr) (cp : Nat) (Av : Option Addr) (cv : Nat) (Ak : Option Addr) (ck : Nat) (Ah : Option Addr) (ch : Nat) (p v k h : Bool) (w : World) (hq : (p = false ∧ v = false ∧ k = false ∧ h = false) ∨ (p = true ∧ v = true ∧ k = false ∧ h = false) ∨ (p = false ∧ v = false ∧ k = false ∧ h = true) ∨ (p = true ∧ v = false ∧ k = true ∧ h = false) ∨ (p = false ∧ v = false ∧ k = true ∧ h = false) ∨ (p = false ∧ v = true ∧ k = true ∧ h = false)) :
    Calls Try.prog 88 #[.agg (ncs t Ap cp Av cv Ak ck Ah ch).toArray, .bool p, .bool v, .bool k, .bool h] w fun e w' => e = .returned (.bool (bareP t p v k h)) ∧ Below w.heap.size w w' := by
  refine calls_ev (args := [.agg (ncs t Ap cp Av cv Ak ck Ah ch).toArray, .bool p, .bool v, .bool k, .bool h]) mixed Try.func88 rfl (by kernel_rfl) ?_
  refine v_boxB (ncs t Ap cp Av cv Ak ck Ah ch) rfl ?_
  rintro g W1 hg hB hb hs1
  subst hg
  unfold ncs at hB
  unfold bareP
  rcases hq with ⟨rfl, rfl, rfl, rfl⟩ | ⟨rfl, rfl, rfl, rfl⟩ | ⟨rfl, rfl, rfl, rfl⟩ | ⟨rfl, rfl, rfl, rfl⟩ | ⟨rfl, rfl, rfl, rfl⟩ | ⟨rfl, rfl, rfl, rfl⟩ <;> cases hh : t.has <;> rw [hh] at hB
  all_goals
    repeat' first
      | (refine p_fld fN0 rfl ?_)
      | (refine p_fld fN1 rfl ?_)
      | (refine p_fld fN2 rfl ?_)
      | (refine p_fld fN3 rfl ?_)
      | (refine p_fld fN4 rfl ?_)
      | (refine p_fld fN5 rfl ?_)
      | (refine v_load agg_int rfl (hB.at_ rfl) ?_)
      | (refine v_load agg_b rfl (hB.at_ rfl) ?_)
      | (refine v_load agg_bo rfl (hB.at_ rfl) ?_)
      | (refine v_load agg_ns rfl (hB.at_ rfl) ?_)
      | (refine p_len slb rfl ?_)
      | (refine p_len sln rfl ?_)
      | (refine p_eq rfl rfl (fun _ => ?_) (fun _ => ?_))
      | (refine p_not rfl ?_)
  all_goals (refine ⟨?_, hb⟩)
  all_goals first
    | exact congrArg (fun q => Ending.returned (.bool q)) (decide_eq_true (by simp only [Bool.false_eq_true, false_or, true_or, true_and, and_true, reduceCtorEq]; omega)).symm
    | exact congrArg (fun q => Ending.returned (.bool q)) (decide_eq_false (by simp only [Bool.false_eq_true, false_or, true_or, true_and, and_true, reduceCtorEq]; omega)).symm
end Go.Proofs.Ytliccofjlheceaa
