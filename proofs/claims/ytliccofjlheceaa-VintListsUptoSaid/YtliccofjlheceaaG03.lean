/- Values and slices that are built of parts; bytes of a string. More single operations. No program in sight. Rows of the call's own, of whatever elements; append onto them. No program in sight. Facts of bytes that many walks want. The state of a call, in one: blocks of its own that are still written, rows that grow, and what stays. No program in sight. Plain lemmas on lists and results that several texts use. No program in sight. Small helps for walks. No program in sight. append onto a row: what the old cells still hold. No program in sight. Lists of bytes in memory: a [][]byte that reads as lists ('RdS'); one of the call's own, its elements too ('OwnS'); append onto it. Lists of lists of bytes, as data. A state's own blocks and rows, in another order. A store into a row of bytes. -/
import Derived.Test.YtliccofjlheceaaG02
import Derived.Laws.IdiomStrings
import Derived.Deep.QuietTactic
import Derived.BigQuiet
namespace Go.Proofs.Ytliccofjlheceaa
open Go.RowKit

def putAt (cs : List Value) : Nat → List Value → List Value
  | _, [] => cs
  | i, v :: r => putAt (cs.set i v) (i + 1) r
def fillL (place : Nat → Option (Nat × Nat)) (cells : List Value) : List (Nat × Value) → Option (List Value)
  | [] => some cells
  | (i, v) :: rest => match place i with
    | none => none
    | some (off, size) => match Nat.beq v.cells.size size && Nat.ble (off + v.cells.size) cells.length with
      | true => fillL place (putAt cells off v.cells.toList) rest
      | false => none
theorem foldl_put : ∀ (r : List Value) (off j : Nat) (cs : List Value), (r.zipIdx j).foldl (fun cs x => cs.setIfInBounds (off + x.2) x.1) cs.toArray = (putAt cs (off + j) r).toArray
  | [], off, j, cs => rfl
  | v :: r, off, j, cs => by
    simp only [List.zipIdx_cons, List.foldl_cons, List.setIfInBounds_toArray, putAt]
    rw [foldl_put r off (j + 1), Nat.add_assoc]
theorem fill_eq (place : Nat → Option (Nat × Nat)) : ∀ (parts : List (Nat × Value)) (cs vs : List Value), fillL place cs parts = some vs → Instr.fill place cs.toArray parts = some vs.toArray
  | [], cs, vs, h => by
    injection h with h
    subst h
    rfl
  | (i, v) :: rest, cs, vs, h => by
    unfold fillL at h
    unfold Instr.fill
    cases hp : place i with
    | none => rw [hp] at h; cases h
    | some q =>
      obtain ⟨off, size⟩ := q
      rw [hp] at h
      simp only [] at h ⊢
      split at h
      · rename_i hb
        simp only [Bool.and_eq_true] at hb
        have h1 : v.cells.size = size := Nat.eq_of_beq_eq_true hb.1
        have h2 : off + v.cells.size ≤ cs.length := Nat.le_of_ble_eq_true hb.2
        have hc : ¬ ((v.cells.size ≠ size || off + v.cells.size > cs.toArray.size) = true) := by simp [h1]; omega
        have e : v.cells.zipIdx.foldl (fun cs x => cs.setIfInBounds (off + x.2) x.1) cs.toArray = (putAt cs off v.cells.toList).toArray := by
          rw [← Array.foldl_toList, Array.toList_zipIdx]
          exact foldl_put v.cells.toList off 0 cs
        rw [if_neg hc]
        have ih := fill_eq place rest _ _ h
        rw [← e] at ih
        exact ih
      · cases h

def zeroOf (P : Program) (t : TypeId) : Option (List Value) := (P.info? t).bind fun i => i.zero.map fun z => z.cells.toList

section
variable {P : Program} {E : Env} {d : Option Nat} {ty : TypeId} {p : String} {af : Array Edge} {gd : Option (Nat × Bool)} {x y : Operand} {t : TypeId} {k : Value → Prop} {kw : Value → World → Prop} {w : World}
theorem zero_run {zs : List Value} (h : zeroOf P t = some zs) (w : World) : ∃ z, (zeroValue t).run P w = .ok z w ∧ z.cells.toList = zs := by
  obtain ⟨i, hi1, hi2⟩ := Option.bind_eq_some_iff.1 h
  obtain ⟨z, hz1, hz2⟩ := Option.map_eq_some_iff.1 hi2
  exact ⟨z, by simp [zeroValue, typeInfo, hi1, hz1], hz2⟩
/-- A slice that is built: a new block. -/
theorem v_bslice {parts : Array (Nat × Operand)} {n s : Nat} {e : TypeId} {zs vs : List Value} (hT : slOf P t = some (e, s)) (hz : zeroOf P e = some zs) (hzl : zs.length = s) (hn : (Nat.ble 1 (n * s) && Nat.ble (n * s) 1000) = true)
    (hv : fillL (fun i => some (i * s, s)) ((List.range (n * s)).map fun i => zs.getD (i % s) (.tuple #[])) (parts.toList.map fun x => (x.1, val E x.2)) = some vs)
    (h : ∀ g w', g = w.heap.size → Blk w' g e vs → Below g w w' → w'.heap.size = g + 1 → kw (.slice (some ⟨g, 0, none⟩) n n) w') :
    VVal P E { dst := d, op := .buildSlice t n parts, type := ty, pos := p, after := af, guard := gd } w kw := by
  obtain ⟨hu, info, hi1, hi2⟩ := slOf_spec hT
  obtain ⟨z, hzr, hzc⟩ := zero_run hz w
  simp only [Bool.and_eq_true] at hn
  have h1 : 1 ≤ n * s := Nat.le_of_ble_eq_true hn.1
  have h2 : n * s ≤ 1000 := Nat.le_of_ble_eq_true hn.2
  refine vv (v := .slice (some ⟨w.heap.size, 0, none⟩) n n) (w' := w.alloc (.cells vs.toArray e)) ?_ (h _ _ rfl (Blk.new w vs e) ((Below.refl _ _).alloc (Nat.le_refl _) _) (by simp))
  have hf := fill_eq _ _ _ _ hv
  have e1 : (parts.map fun x => (x.1, val E x.2)).toList = parts.toList.map fun x => (x.1, val E x.2) := by simp
  have hsz : (sizeOf e).run P w = .ok s w := by simp [sizeOf, typeInfo, hi1, hi2]
  have hzs : z.cells.size = s := by rw [← hzl, ← hzc]; simp
  have hs0 : 0 < s := Nat.pos_of_ne_zero (fun e => by subst e; simp at h1)
  have e2 : ((Array.range (n * s)).map fun i => z.cells[i % z.cells.size]!) = ((List.range (n * s)).map fun i => zs.getD (i % s) (.tuple #[])).toArray := by
    apply Array.toList_inj.1
    simp only [Array.toList_map, Array.toList_range]
    refine List.map_congr_left fun i _ => ?_
    have hlt : i % s < z.cells.size := by rw [hzs]; exact Nat.mod_lt _ hs0
    rw [hzs, ← hzc]
    simp [hlt]
  simp only [execOp, Instr.buildSlice, Sem.run_bind, run_underlying hu, Result.andThen_ok, hsz]
  rw [if_neg (show ¬ n * s > 2 ^ 24 by omega), if_neg (show ¬ n * s = 0 by omega)]
  simp only [Sem.run_bind, Sem.run_pure, Result.andThen_ok, hzr, e2, e1, hf]
  simp [newRow]
end

end Go.Proofs.Ytliccofjlheceaa
namespace Go.Proofs.Ytliccofjlheceaa
open Go.RowKit
section
variable {P : Program} {E : Env} {d : Option Nat} {ty : TypeId} {p : String} {af : Array Edge} {gd : Option (Nat × Bool)} {x y : Operand} {t : TypeId} {kw : Value → World → Prop} {w : World}
/-- A block reads as its cells. -/
theorem Reads.blk {g : Nat} {e : TypeId} {size n : Nat} {cs : List Value} (h : Blk w g e cs) (hl : cs.length = n * size) : Reads w w.heap.size size (some ⟨g, 0, none⟩) n cs :=
  ⟨hl, fun _ => ⟨g, 0, rfl, h.lt, fun j u hu => by rw [Nat.zero_add]; exact h.at_ hu⟩⟩
theorem ownsRow_below {base : Nat} {e : TypeId} {size n : Nat} {v : Value} {xs : List Value} {w' : World} (h : w.ownsRow base e size v n xs) (hb : Below w.heap.size w w') : w'.ownsRow base e size v n xs :=
  World.ownsRow.kept h (row := none) ⟨hb.os, hb.tape, hb.output, hb.size, fun k hk _ => hb.block k hk⟩ (by cases v.ownBlock <;> simp)
end
section
variable {W W' w w0 : World} {F : Nat → Prop} {gs gs' : List (Option Nat)}
/-- A slice that reads as data: its cells. -/
theorem RdD.reads {s n n' c : Nat} {l : List D} {A : Option Addr} (h : RdD W F (.sl s n l) (.slice A n' c)) (hF : ∀ b, F b → b < W.heap.size) : ∃ cs, Reads W W.heap.size s A n' cs ∧ RdL W F l cs := by
  have hs := h.slen
  obtain ⟨A', c2, cs, h1, h2, h3, h4, h5⟩ := RdD.sl_iff.1 h
  injection h1 with e1 _ _
  subst e1; subst hs
  refine ⟨cs, ⟨by rw [h4.len, h3], fun hn => ?_⟩, h4⟩
  obtain ⟨b, off, h6, h7, h8⟩ := h5 hn
  exact ⟨b, off, h6, hF b h7, h8⟩
def D.One : D → Prop
  | .v x => x.oneCell' = true
  | .sl .. => True
theorem row_bklo {base n c s : Nat} {e : TypeId} {A : Option Addr} {xs : List Value} (h : W.ownsRow base e s (.slice A n c) n xs) : ∀ b, bk A = some b → base ≤ b ∧ b < W.heap.size := fun b hb => World.ownsRow.lt h b (by rw [own_bk]; exact hb)
theorem row_kept' {base n c s : Nat} {e : TypeId} {A : Option Addr} {xs : List Value} {r : Option Nat} (h : W.ownsRow base e s (.slice A n c) n xs) (hg : W.grownBy W' r) (hne : bk A = none ∨ bk A ≠ r) : W'.ownsRow base e s (.slice A n c) n xs := World.ownsRow.kept h hg (by rw [own_bk]; exact hne)
theorem row_less {base base' n s : Nat} {e : TypeId} {v : Value} {xs : List Value} (h : W.ownsRow base e s v n xs) (hb : base' ≤ base) : W.ownsRow base' e s v n xs := by
  refine ⟨h.1, ?_⟩
  rcases h.2 with h2 | ⟨g, cap, cur, h3, h4, h5⟩
  · exact .inl h2
  · exact .inr ⟨g, cap, cur, h3, by omega, h5⟩
end
section
variable {P : Program} {E : Env} {d : Option Nat} {ty : TypeId} {p : String} {af : Array Edge} {gd : Option (Nat × Bool)} {x y : Operand} {t : TypeId} {kw : Value → World → Prop} {w w0 : World} {gs : List (Option Nat)}
/-- append onto a row of the call's own, which stands first among what is written. -/
theorem v_appR {e : TypeId} {z : Value} {size bytes : Nat} (hT : P.underlying t = some (.slice e)) (hi : (P.info? e).map (fun i => (i.zero, i.size, i.bytes)) = some (some z, size, bytes)) (hzs : z.cells.size = size) (hs0 : 0 < size)
    {A : Option Addr} {n c : Nat} {xs : List Value} (hx : val E x = .slice A n c) (hown : w.ownsRow w0.heap.size e size (.slice A n c) n xs) {B : Nat} {A2 : Option Addr} {m c2 : Nat} {news : List Value} (hy : val E y = .slice A2 m c2) (hr : Reads w B size A2 m news) (h1 : ∀ u ∈ news, u.oneCell' = true)
    (hsz : n + m ≤ 1000000000 ∧ bytes ≤ 1000) (hA : At w0 w (bk A :: gs))
    (h : ∀ A' c' w', w'.ownsRow w0.heap.size e size (.slice A' (n + m) c') (n + m) (xs ++ news) → Stp w (bk A :: gs) w' (bk A' :: gs) → At w0 w' (bk A' :: gs) → (A' = none ↔ A = none ∧ m = 0) → w.grownBy w' (bk A) → (∀ b, bk A' = some b → bk A = some b ∨ w.heap.size ≤ b) → kw (.slice A' (n + m) c') w') :
    VVal P E { dst := d, op := .call { callee := .builtin .append, args := #[x, y], argTypes := #[t, t] }, type := ty, pos := p, after := af, guard := gd } w kw := by
  obtain ⟨i, hi0, hz0, hz1, hz2⟩ := info_parts hi
  have hb : (n + m) * bytes ≤ 140737488355328 := by
    have := Nat.mul_le_mul hsz.1 hsz.2
    omega
  obtain ⟨v', w', hrun, h2, h3, h4, h5⟩ := run_append_any (P := P) w w0.heap.size t ty e i z size bytes hT hi0 hz0 hz1 hz2 hzs hs0 _ n _ hown B A2 m c2 _ hr h1 (by unfold maxLen; omega) hb hA.size
  obtain ⟨A', c', rfl⟩ := own_slice h2
  rw [own_bk, own_bk] at h4
  rw [own_bk] at h3
  have hb' := row_bklo h2
  refine vv (v := .slice A' (n + m) c') (w' := w') ?_ (h A' c' w' h2 (Stp.app h3 ?_) (hA.app h3 (fun b e => (row_bklo hown b e).1) (fun b e => (hb' b e).2)) ⟨?_, ?_⟩ h3 (fun b e => by
    rcases h4 with h4 | h4
    · left; rw [← h4]; exact e
    · right; rw [h4] at e; injection e with e; omega))
  · simp [execOp, resolve, invoke, builtin, hx, hy, hrun]
  · intro b e
    rcases h4 with h4 | h4
    · exact .inl h4
    · right; rw [h4] at e; injection e with e; omega
  · rintro rfl
    have : Value.slice none (n + m) c' = .slice none 0 0 := by
      rcases h2.2 with ⟨e, _⟩ | ⟨g, cap, cur, e, _⟩
      · exact e
      · simp at e
    obtain ⟨e1, e2⟩ := h5.1 this
    injection e1 with e1
    exact ⟨e1, e2⟩
  · rintro ⟨rfl, rfl⟩
    have : Value.slice none n c = .slice none 0 0 := by
      rcases hown.2 with ⟨e, _⟩ | ⟨g, cap, cur, e, _⟩
      · exact e
      · simp at e
    have := h5.2 ⟨this, rfl⟩
    injection this
end
end Go.Proofs.Ytliccofjlheceaa
namespace Go.Proofs.Ytliccofjlheceaa
open Go.RowKit
theorem zb : zeroOf Try.prog 5 = some [.int .u8 0] := by kernel_rfl
section
variable {w w' : World} {base n c : Nat} {A : Option Addr} {l : List UInt8}
/-- A block of bytes reads as these. -/
theorem Rd.blk {g : Nat} {l : List UInt8} (h : Blk w g 5 (bvs l)) : Rd w w.heap.size (some ⟨g, 0, none⟩) l.length l :=
  ⟨by rw [bvs_length]; simp, fun _ => ⟨g, 0, rfl, h.lt, fun j u hu => by rw [Nat.zero_add]; exact h.at_ hu⟩⟩
theorem Own.blk {g : Nat} {l : List UInt8} (h : Blk w g 5 (bvs l)) (hb : base ≤ g) (hl : l.length ≤ 1000000000000) : Own w base (some ⟨g, 0, none⟩) l.length l.length l := by
  refine ⟨by rw [bvs_length]; simp, .inr ⟨g, _, _, rfl, hb, h, Nat.le_refl _, by unfold maxLen; omega, by simp [bvs], ?_⟩⟩
  show (bvs l).take (l.length * 1) = bvs l
  rw [List.take_of_length_le (by rw [bvs_length]; omega)]
end
section
variable {E : Env} {d : Option Nat} {ty : TypeId} {p : String} {af : Array Edge} {g : Option (Nat × Bool)} {x y z : Operand} {kw : Value → World → Prop} {w w0 : World} {gs : List (Option Nat)}
end
end Go.Proofs.Ytliccofjlheceaa
namespace Go.Proofs.Ytliccofjlheceaa
open Go.RowKit
theorem all1 {vs : List Value} (h : vs.all (fun u => u.oneCell') = true) : ∀ u ∈ vs, u.oneCell' = true := fun u hu => List.all_eq_true.1 h u hu
/-- A row that grows. -/
structure Row where
  e : TypeId
  s : Nat
  A : Option Addr
  n : Nat
  c : Nat
  xs : List Value
/-- What stays: cells that read as data; cells at a place. -/
inductive Fact where
  | dat (fr : Bool) (ds : List D) (cs : List Value)
  | loc (a : Addr) (cs : List Value)
  | stp (W0 : World) (os0 : List (Option Nat))
  | rng (lo hi : Nat) (ds : List D) (cs : List Value)
abbrev Lc := List (Nat × TypeId × List Value)
def own (L : Lc) (R : List Row) (gs : List (Option Nat)) : List (Option Nat) := L.map (fun x => some x.1) ++ (R.map (fun r => bk r.A) ++ gs)
def Ft (w W : World) (os : List (Option Nat)) (fr : Bool) (b : Nat) : Prop := b < W.heap.size ∧ some b ∉ os ∧ (fr = true → w.heap.size ≤ b ∧ Thaw W b)
def Fact.ok (w W : World) (os : List (Option Nat)) : Fact → Prop
  | .dat fr ds cs => RdL W (Ft w W os fr) ds cs
  | .loc a cs => Ft w W os false a.block ∧ ∀ j x, cs[j]? = some x → W.cell? (a.add j) = some x
  | .stp W0 os0 => Stp W0 os0 W os
  | .rng lo hi ds cs => RdL W (fun b => Ft w W os true b ∧ lo ≤ b ∧ b < hi) ds cs
def Apart (a b : Option Nat) : Prop := a = none ∨ a ≠ b
structure St (w : World) (gs : List (Option Nat)) (W : World) (L : Lc) (R : List Row) (fs : List Fact) : Prop where
  below : Below w.heap.size w W
  lt : ∀ b, some b ∈ gs → b < w.heap.size
  blk : ∀ x ∈ L, Blk W x.1 x.2.1 x.2.2 ∧ w.heap.size ≤ x.1
  row : ∀ r ∈ R, W.ownsRow w.heap.size r.e r.s (.slice r.A r.n r.c) r.n r.xs
  ap : (L.map (fun x => some x.1) ++ R.map (fun r => bk r.A)).Pairwise Apart
  fct : ∀ f ∈ fs, f.ok w W (own L R gs)
def setL : Lc → Nat → List Value → Lc
  | [], _, _ => []
  | (g, T, _) :: L, 0, cs => (g, T, cs) :: L
  | x :: L, i + 1, cs => x :: setL L i cs
theorem setL_map : ∀ (L : Lc) (i : Nat) (cs : List Value), (setL L i cs).map (fun x => some x.1) = L.map (fun x => some x.1)
  | [], _, _ => rfl
  | (g, T, _) :: L, 0, cs => rfl
  | x :: L, i + 1, cs => by unfold setL; rw [List.map_cons, List.map_cons, setL_map L i cs]
theorem setL_own (L : Lc) (i : Nat) (cs : List Value) (R : List Row) (gs : List (Option Nat)) : own (setL L i cs) R gs = own L R gs := by unfold own; rw [setL_map]
theorem nth_mem {α : Type} {l : List α} {i : Nat} {x : α} (h : nth l i = some x) : x ∈ l := by rw [nth_eq] at h; exact List.mem_of_getElem? h
theorem setL_mem : ∀ {L : Lc} {i : Nat} {g : Nat} {T : TypeId} {cs cs' : List Value}, nth L i = some (g, T, cs) → (L.map (fun x => some x.1)).Pairwise Apart → ∀ x ∈ setL L i cs', x = (g, T, cs') ∨ (x ∈ L ∧ x.1 ≠ g)
  | (g0, T0, c0) :: L, 0, g, T, cs, cs', h, hp, x, hx => by
    injection h with h; injection h with e1 h; injection h with e2 e3
    subst e1; subst e2; subst e3
    unfold setL at hx
    rcases List.mem_cons.1 hx with rfl | hx
    · exact .inl rfl
    · right
      refine ⟨by simp [hx], fun e => ?_⟩
      rw [List.map_cons, List.pairwise_cons] at hp
      have := hp.1 (some x.1) (List.mem_map.2 ⟨x, hx, rfl⟩)
      rcases this with h | h
      · cases h
      · exact h (by rw [e])
  | y :: L, i + 1, g, T, cs, cs', h, hp, x, hx => by
    unfold setL at hx
    rw [List.map_cons, List.pairwise_cons] at hp
    rcases List.mem_cons.1 hx with rfl | hx
    · right
      refine ⟨by simp, fun e => ?_⟩
      have hm : (g, T, cs) ∈ L := nth_mem (show nth L i = _ from h)
      rcases hp.1 (some g) (List.mem_map.2 ⟨_, hm, rfl⟩) with h | h
      · cases h
      · exact h (by rw [e])
    · rcases setL_mem (L := L) (show nth L i = _ from h) hp.2 x hx with h | ⟨h1, h2⟩
      · exact .inl h
      · exact .inr ⟨by simp [h1], h2⟩
section
variable {w W W' : World} {gs os os' : List (Option Nat)} {L : Lc} {R : List Row} {fs : List Fact} {f : Fact} {ds : List D} {cs : List Value} {d : D} {u : Value} {fr : Bool} {g : Nat} {T : TypeId}
theorem Fact.ok.up (h : f.ok w W os) (s : Stp W os W' os') : f.ok w W' os' := by
  have key : ∀ {fr : Bool} b, Ft w W os fr b → W'.heap[b]? = W.heap[b]? ∧ Ft w W' os' fr b := fun b hb => ⟨s.block b hb.1 hb.2.1, by have := s.size; have := hb.1; omega, fun e => hb.2.1 (s.own b hb.1 e), fun e => ⟨(hb.2.2 e).1, (hb.2.2 e).2.same (s.block b hb.1 hb.2.1)⟩⟩
  cases f with
  | dat fr ds cs => exact RdL.to key h
  | stp W0 os0 => exact Stp.trans h s
  | rng lo hi ds cs => exact RdL.to (fun b hb => ⟨(key b hb.1).1, (key b hb.1).2, hb.2⟩) h
  | loc a cs =>
    obtain ⟨h1, h2⟩ := h
    obtain ⟨k1, k2⟩ := key _ h1
    exact ⟨k2, fun j x hx => (World.cell?_of_block (w := W) (a := a.add j) (by rw [block_of_add]; exact k1)).trans (h2 j x hx)⟩
theorem St.start (hgs : ∀ b, some b ∈ gs → b < w.heap.size) : St w gs w [] [] [] :=
  ⟨Below.refl _ _, hgs, (fun x h => by cases h), (fun x h => by cases h), List.Pairwise.nil, (fun x h => by cases h)⟩
theorem St.add (M : St w gs W L R fs) (h : f.ok w W (own L R gs)) : St w gs W L R (f :: fs) :=
  ⟨M.below, M.lt, M.blk, M.row, M.ap, fun x hx => by
    rcases List.mem_cons.1 hx with rfl | hx
    · exact h
    · exact M.fct x hx⟩
theorem St.addL (M : St w gs W L R fs) (h : RdL W (Fd W (own L R gs)) ds cs) : St w gs W L R (.dat false ds cs :: fs) :=
  M.add (f := .dat false ds cs) (h.to fun b hb => ⟨rfl, hb.1, hb.2, fun e => by cases e⟩)
theorem St.addD (M : St w gs W L R fs) (h : RdD W (Fd W (own L R gs)) d u) : St w gs W L R (.dat false [d] [u] :: fs) := M.addL (RdL.one h)
theorem St.addT (M : St w gs W L R fs) (h : RdL W (Ft w W (own L R gs) fr) ds cs) : St w gs W L R (.dat fr ds cs :: fs) := M.add (f := .dat fr ds cs) h
theorem St.B (M : St w gs W L R fs) (i : Nat) (h : nth L i = some (g, T, cs)) : Blk W g T cs := (M.blk _ (nth_mem h)).1
theorem St.run (M : St w gs W L R fs) (i : Nat) (h : nth L i = some (g, T, cs)) : ∀ j v, cs[j]? = some v → W.cell? ((⟨g, 0, none⟩ : Addr).add j) = some v := (M.B i h).run 0 _ fun j v h => by rw [Nat.zero_add]; exact h
theorem St.dt (M : St w gs W L R fs) (i : Nat) (h : nth fs i = some (.dat fr ds cs)) : RdL W (Ft w W (own L R gs) fr) ds cs := M.fct _ (nth_mem h)
theorem St.dw (M : St w gs W L R fs) (i : Nat) (h : nth fs i = some (.dat fr ds cs)) : RdL W (Ft w W (own L R gs) false) ds cs := (M.dt i h).to fun b hb => ⟨rfl, hb.1, hb.2.1, fun e => by cases e⟩
theorem St.da (M : St w gs W L R fs) (i : Nat) (h : nth fs i = some (.dat fr ds cs)) : RdL W (Fd W (own L R gs)) ds cs := (M.dt i h).to fun b hb => ⟨rfl, hb.1, hb.2.1⟩
theorem RdL.hd {F : Nat → Prop} (h : RdL W F [d] [u]) : RdD W F d u := by obtain ⟨v, vs, e, h1, _⟩ := h.uncons; injection e with e1 e2; subst e1; exact h1
theorem St.d1 (M : St w gs W L R fs) (i : Nat) (h : nth fs i = some (.dat fr [d] [u])) : RdD W (Fd W (own L R gs)) d u := (M.da i h).hd
theorem St.size (M : St w gs W L R fs) : w.heap.size ≤ W.heap.size := M.below.size
theorem St.rowlt (M : St w gs W L R fs) {r : Row} (hr : r ∈ R) : ∀ b, bk r.A = some b → w.heap.size ≤ b ∧ b < W.heap.size := row_bklo (M.row r hr)
theorem St.olt (M : St w gs W L R fs) : ∀ b, some b ∈ own L R gs → b < W.heap.size := by
  intro b h
  unfold own at h
  rcases List.mem_append.1 h with h | h
  · obtain ⟨x, hx, e⟩ := List.mem_map.1 h
    injection e with e; subst e
    exact (M.blk x hx).1.lt
  · rcases List.mem_append.1 h with h | h
    · obtain ⟨r, hr, e⟩ := List.mem_map.1 h
      exact (M.rowlt hr b e).2
    · have := M.lt b h; have := M.size; omega
theorem St.drew (M : St w gs W L R fs) : St w gs W.drew L R fs :=
  ⟨M.below.drew, M.lt, M.blk, M.row, M.ap, fun f hf => (M.fct f hf).up Stp.drew⟩
/-- Behind a call. -/
theorem St.call (M : St w gs W L R fs) (hb : Below W.heap.size W W') : St w gs W' L R fs :=
  ⟨M.below.trans (hb.mono M.size), M.lt, fun x hx => ⟨(M.blk x hx).1.below hb, (M.blk x hx).2⟩, fun r hr => ownsRow_below (M.row r hr) hb, M.ap, fun f hf => (M.fct f hf).up (Stp.below hb)⟩
/-- Fewer words. -/
theorem St.fsub (M : St w gs W L R fs) (fs' : List Fact) (h : ∀ f ∈ fs', f ∈ fs) : St w gs W L R fs' := ⟨M.below, M.lt, M.blk, M.row, M.ap, fun f hf => M.fct f (h f hf)⟩
theorem St.dropL {x : Nat × TypeId × List Value} (M : St w gs W (x :: L) R fs) : St w gs W L R fs :=
  ⟨M.below, M.lt, fun y hy => M.blk y (by simp [hy]), M.row, by have := M.ap; rw [List.map_cons, List.cons_append, List.pairwise_cons] at this; exact this.2, fun f hf => (M.fct f hf).up ⟨Nat.le_refl _, fun _ _ _ => rfl, fun b _ e => by unfold own at *; simp only [List.map_cons, List.cons_append, List.mem_cons]; right; exact e⟩⟩
theorem St.dropR {r : Row} (M : St w gs W L (r :: R) fs) : St w gs W L R fs :=
  ⟨M.below, M.lt, M.blk, fun y hy => M.row y (by simp [hy]), (M.ap.sublist (List.Sublist.append_left (by rw [List.map_cons]; exact List.sublist_cons_self _ _) _)), fun f hf => (M.fct f hf).up ⟨Nat.le_refl _, fun _ _ _ => rfl, fun b _ e => by
    unfold own at *
    rw [List.map_cons]
    simp only [List.mem_append, List.cons_append, List.mem_cons] at e ⊢
    rcases e with e | e | e <;> simp [e]⟩⟩
theorem apart_comm {a b : Option Nat} (h : Apart a b) : Apart b a := by
  unfold Apart at *
  cases a with
  | none =>
    cases b with
    | none => exact .inl rfl
    | some b => right; intro e; cases e
  | some a =>
    rcases h with h | h
    · cases h
    · right; exact fun e => h e.symm
/-- A new block. -/
theorem St.newB (M : St w gs W L R fs) (hg : g = W.heap.size) (hB : Blk W' g T cs) (hb : Below g W W') : St w gs W' ((g, T, cs) :: L) R fs := by
  subst hg
  have M1 := M.call hb
  have new : ∀ b, some b ∈ own L R gs → b < W.heap.size := M.olt
  refine ⟨M1.below, M.lt, fun x hx => ?_, M1.row, ?_, fun f hf => (M.fct f hf).up (Stp.new (g := some W.heap.size) hb (fun b e => by injection e with e; omega))⟩
  · rcases List.mem_cons.1 hx with rfl | hx
    · exact ⟨hB, M.size⟩
    · exact M1.blk x hx
  · rw [List.map_cons, List.cons_append, List.pairwise_cons]
    refine ⟨fun b hb' => ?_, M.ap⟩
    right
    rintro rfl
    have := new W.heap.size (by unfold own; rw [← List.append_assoc]; exact List.mem_append_left _ hb')
    omega
/-- A row that a call has made. -/
theorem St.callR (M : St w gs W L R fs) (hb : Below W.heap.size W W') {r : Row} (h : W'.ownsRow W.heap.size r.e r.s (.slice r.A r.n r.c) r.n r.xs) : St w gs W' L (r :: R) fs := by
  have M1 := M.call hb
  have hr := row_bklo h
  refine ⟨M1.below, M.lt, M1.blk, fun x hx => ?_, ?_, fun f hf => (M.fct f hf).up ⟨hb.size, fun b h _ => hb.block b h, fun b hlt e => ?_⟩⟩
  · rcases List.mem_cons.1 hx with rfl | hx
    · exact row_less h M.size
    · exact M1.row x hx
  · refine List.Perm.pairwise (l := bk r.A :: (L.map (fun x => some x.1) ++ R.map (fun r => bk r.A))) (by rw [List.map_cons]; exact List.perm_middle.symm) ?_ (fun h => apart_comm h)
    rw [List.pairwise_cons]
    refine ⟨fun b hb' => ?_, M.ap⟩
    cases hA : bk r.A with
    | none => exact .inl rfl
    | some a =>
      right
      rintro rfl
      have := M.olt a (by unfold own; rw [← List.append_assoc]; exact List.mem_append_left _ hb')
      have := (hr a hA).1
      omega
  · unfold own at e ⊢
    simp only [List.map_cons, List.cons_append, List.mem_append, List.mem_cons] at e ⊢
    rcases e with e | e | e | e
    · exact .inl e
    · have := (hr b e.symm).1; omega
    · exact .inr (.inl e)
    · exact .inr (.inr e)
/-- A row that grows no more. -/
theorem St.frzR {r : Row} (M : St w gs W L (r :: R) fs) (hd : RdL W (Ft w W (own L (r :: R) gs) fr) ds r.xs) : St w gs W L R (.dat fr [.sl r.s r.n ds] [.slice r.A r.n r.c] :: fs) := by
  have hrow := M.row r (List.mem_cons_self ..)
  have hlt := row_bklo hrow
  have sub : ∀ b : Nat, some b ∈ own L R gs → some b ∈ own L (r :: R) gs := fun b e => by
    unfold own at e ⊢
    simp only [List.map_cons, List.cons_append, List.mem_append, List.mem_cons] at e ⊢
    rcases e with e | e | e <;> simp [e]
  have hd' : RdL W (Ft w W (own L R gs) fr) ds r.xs := hd.to fun b hb => ⟨rfl, hb.1, fun e => hb.2.1 (sub b e), hb.2.2⟩
  refine M.dropR.addT (RdL.one (rdD_row hrow hd' fun b h1 h2 h3 => ⟨h2, fun e => ?_, fun _ => ⟨h1, row_thaw hrow (by rw [← own_bk]; exact h3)⟩⟩))
  · rw [own_bk] at h3
    unfold own at e
    rw [← List.append_assoc] at e
    rcases List.mem_append.1 e with e | e
    · have hp := List.Perm.pairwise (l' := bk r.A :: (L.map (fun x => some x.1) ++ R.map (fun r => bk r.A))) (by rw [List.map_cons]; exact List.perm_middle) M.ap (fun h => apart_comm h)
      rw [List.pairwise_cons] at hp
      rcases hp.1 _ e with h | h
      · rw [h3] at h; cases h
      · exact h h3
    · have := M.lt b e; omega
/-- Bytes that grow no more. -/
theorem St.frzO {A : Option Addr} {n c : Nat} {l : List UInt8} (M : St w gs W L (⟨5, 1, A, n, c, bvs l⟩ :: R) fs) : St w gs W L R (.dat true [dB l] [.slice A n c] :: fs) := by
  have hrow := M.row _ (List.mem_cons_self ..)
  have hn : l.length = n := by have := hrow.1; rw [bvs_length] at this; simp only at this; omega
  have := M.frzR (fr := true) (RdL.ofvals (bvs l))
  unfold dB
  rw [hn]
  exact this
/-- A store into a block. -/
theorem St.wrote (M : St w gs W L R fs) (i : Nat) (hL : nth L i = some (g, T, cs)) {cs' : List Value} (hB : Blk W' g T cs') (hg : W.grownBy W' (some g)) : St w gs W' (setL L i cs') R fs := by
  have hm := nth_mem hL
  have hlo := (M.blk _ hm).2
  have hapL : (L.map (fun x => some x.1)).Pairwise Apart := M.ap.sublist (List.sublist_append_left _ _)
  have hin : some g ∈ own L R gs := List.mem_append_left _ (List.mem_map.2 ⟨_, hm, rfl⟩)
  refine ⟨M.below.grown hg M.size (fun b e => by injection e with e; subst e; exact hlo), M.lt, fun x hx => ?_, fun r hr => ?_, by rw [setL_map]; exact M.ap, fun f hf => (M.fct f hf).up (by rw [setL_own]; exact Stp.wrote hg hin)⟩
  · rcases setL_mem hL hapL x hx with rfl | ⟨h1, h2⟩
    · exact ⟨hB, hlo⟩
    · exact ⟨(M.blk x h1).1.grownN hg (fun e => h2 e.symm), (M.blk x h1).2⟩
  · refine row_kept' (M.row r hr) hg ?_
    have hp := (List.pairwise_append.1 M.ap).2.2 (some g) (List.mem_map.2 ⟨_, hm, rfl⟩) (bk r.A) (List.mem_map.2 ⟨r, hr, rfl⟩)
    right
    intro e
    rcases hp with h | h
    · cases h
    · exact h e.symm
/-- Words for the worlds of a region. -/
def Kp (w : World) (gs : List (Option Nat)) (L : Lc) (fs : List Fact) (W : World) : Prop := ∃ L2 R2 fs2, St w gs W L2 R2 fs2 ∧ (∀ x ∈ L, x ∈ L2) ∧ ∀ f ∈ fs, f ∈ fs2
theorem Kp.B (K : Kp w gs L fs W) (i : Nat) (h : nth L i = some (g, T, cs)) : Blk W g T cs := by
  obtain ⟨L2, R2, fs2, M, h1, _⟩ := K
  exact (M.blk _ (h1 _ (nth_mem h))).1
theorem Kp.run (K : Kp w gs L fs W) (i : Nat) (h : nth L i = some (g, T, cs)) : ∀ j v, cs[j]? = some v → W.cell? ((⟨g, 0, none⟩ : Addr).add j) = some v := (K.B i h).run 0 _ fun j v h => by rw [Nat.zero_add]; exact h
end
section
variable {P : Program} {E : Env} {d : Option Nat} {ty : TypeId} {p : String} {af : Array Edge} {gd : Option (Nat × Bool)} {x y z : Operand} {t u : TypeId} {kw : Value → World → Prop} {w W : World} {gs : List (Option Nat)} {L : Lc} {R : List Row} {fs : List Fact} {g : Nat} {T : TypeId} {cs : List Value}
/-- A literal slice whose block is still written. -/
theorem s_bsliceB {parts : Array (Nat × Operand)} {n s : Nat} {e : TypeId} {zs : List Value} (vs : List Value) (M : St w gs W L R fs) (hT : slOf P t = some (e, s)) (hz : zeroOf P e = some zs) (hzl : zs.length = s) (hn : (Nat.ble 1 (n * s) && Nat.ble (n * s) 1000) = true)
    (hv : fillL (fun i => some (i * s, s)) ((List.range (n * s)).map fun i => zs.getD (i % s) (.tuple #[])) (parts.toList.map fun x => (x.1, val E x.2)) = some vs)
    (h : ∀ g W', St w gs W' ((g, e, vs) :: L) R fs → kw (.slice (some ⟨g, 0, none⟩) n n) W') :
    VVal P E { dst := d, op := .buildSlice t n parts, type := ty, pos := p, after := af, guard := gd } W kw :=
  v_bslice hT hz hzl hn hv fun g W' hg hB hb _ => h g W' (M.newB hg hB hb)
/-- No row yet. -/
theorem St.nilR (M : St w gs W L R fs) (e : TypeId) (s : Nat) : St w gs W L (⟨e, s, none, 0, 0, []⟩ :: R) fs := M.callR (r := ⟨e, s, none, 0, 0, []⟩) (Below.refl _ _) (World.ownsRow_nil _ _ _ _)
/-- append onto the first row. -/
theorem s_app {e : TypeId} {z : Value} {s bytes : Nat} {A : Option Addr} {n c : Nat} {xs : List Value} (M : St w gs W L (⟨e, s, A, n, c, xs⟩ :: R) fs) (hT : P.underlying t = some (.slice e)) (hi : (P.info? e).map (fun i => (i.zero, i.size, i.bytes)) = some (some z, s, bytes)) (hzs : z.cells.size = s) (hs0 : 0 < s)
    (hx : val E x = .slice A n c) {B : Nat} {A2 : Option Addr} {m c2 : Nat} {news : List Value} (hy : val E y = .slice A2 m c2) (hr : Reads W B s A2 m news) (h1 : ∀ u ∈ news, u.oneCell' = true)
    (hsz : n + m ≤ 1000000000 ∧ bytes ≤ 1000)
    (h : ∀ A' c' W', St w gs W' L (⟨e, s, A', n + m, c', xs ++ news⟩ :: R) fs → (A' = none ↔ A = none ∧ m = 0) → kw (.slice A' (n + m) c') W') :
    VVal P E { dst := d, op := .call { callee := .builtin .append, args := #[x, y], argTypes := #[t, t] }, type := ty, pos := p, after := af, guard := gd } W kw := by
  have hrow := M.row _ (List.mem_cons_self ..)
  have hlo := row_bklo hrow
  have hA : At w W (bk A :: own L R gs) := ⟨M.below, fun b e => by
    rcases List.mem_cons.1 e with e | e
    · exact (hlo b e.symm).2
    · exact M.dropR.olt b e⟩
  have hp := List.Perm.pairwise (l' := bk A :: (L.map (fun x => some x.1) ++ R.map (fun r => bk r.A))) (by rw [List.map_cons]; exact List.perm_middle) M.ap (fun h => apart_comm h)
  rw [List.pairwise_cons] at hp
  refine v_appR hT hi hzs hs0 hx hrow hy hr h1 hsz hA fun A' c' W' hrow' hS hA' hnn hg hnb => h A' c' W' ?_ hnn
  have hlo' := row_bklo hrow'
  have kept : ∀ o : Option Nat, o ∈ L.map (fun x => some x.1) ++ R.map (fun r => bk r.A) → o = none ∨ o ≠ bk A := fun o ho => apart_comm (hp.1 o ho)
  refine ⟨hA'.below, M.lt, fun y hy => ⟨(M.blk y hy).1.grown hg ?_, (M.blk y hy).2⟩, fun r hr => ?_, ?_, fun f hf => ?_⟩
  · rcases kept (some y.1) (List.mem_append_left _ (List.mem_map.2 ⟨y, hy, rfl⟩)) with h | h
    · cases h
    · exact fun e => h e.symm
  · rcases List.mem_cons.1 hr with rfl | hr
    · exact hrow'
    · exact row_kept' (M.row r (by simp [hr])) hg (kept _ (List.mem_append_right _ (List.mem_map.2 ⟨r, hr, rfl⟩)))
  · refine List.Perm.pairwise (l := bk A' :: (L.map (fun x => some x.1) ++ R.map (fun r => bk r.A))) (by rw [List.map_cons]; exact List.perm_middle.symm) ?_ (fun h => apart_comm h)
    rw [List.pairwise_cons]
    refine ⟨fun o ho => ?_, hp.2⟩
    cases ha : bk A' with
    | none => exact .inl rfl
    | some a =>
      right
      rintro rfl
      rcases hnb a ha with h | h
      · rcases hp.1 _ ho with h2 | h2
        · rw [h] at h2; cases h2
        · exact h2 h
      · have := M.dropR.olt a (by unfold own; rw [← List.append_assoc]; exact List.mem_append_left _ ho)
        omega
  · have ho : ∀ (X : Option Addr) (n c : Nat) (ys : List Value) (b : Option Nat), b ∈ own L (⟨e, s, X, n, c, ys⟩ :: R) gs ↔ b ∈ bk X :: own L R gs := by
      intro X n c ys b
      unfold own
      simp only [List.map_cons, List.cons_append, List.mem_append, List.mem_cons]
      constructor <;> rintro (h | h | h | h) <;> simp [h]
    exact (M.fct f hf).up ⟨hS.size, fun b hb hn => hS.block b hb (fun e => hn ((ho _ _ _ _ _).2 e)), fun b hb e => (ho _ _ _ _ _).2 (hS.own b hb ((ho _ _ _ _ _).1 e))⟩
end
section
variable {w W : World} {gs : List (Option Nat)} {L : Lc} {R : List Row} {fs : List Fact} {ds : List D} {cs : List Value} {d : D} {u : Value} {fr : Bool}
end
end Go.Proofs.Ytliccofjlheceaa
namespace Go.Proofs.Ytliccofjlheceaa

theorem belowA {W w : World} (h : Go.RowKit.Below W.heap.size W w) (o : Obj) : Go.RowKit.Below W.heap.size W (w.alloc o) := h.alloc h.size o
theorem below_drewN {B : Nat} {a w : World} (h : Go.RowKit.Below B a w) (n : Nat) : Go.RowKit.Below B a (w.drewN n) := ⟨h.os, h.tape, h.output, h.size, h.block⟩
end Go.Proofs.Ytliccofjlheceaa
namespace Go.Proofs.Ytliccofjlheceaa
open Go.RowKit
section
variable {P : Program} {E : Env} {d : Option Nat} {ty : TypeId} {p : String} {af : Array Edge} {g : Option (Nat × Bool)} {x y : Operand} {t u : TypeId} {k : Value → Prop} {a b : Nat}
theorem p_addN (hx : val E x = .int .i64 (a : Int)) (hy : val E y = .int .i64 (b : Int)) (hs : a + b ≤ 9223372036854775807) (h : k (.int .i64 ((a + b : Nat) : Int))) : VPure P E { dst := d, op := .binOp .add t x y u, type := ty, pos := p, after := af, guard := g } k :=
  p_add hx hy ((w64 (by omega)).trans (by omega)) h
theorem p_remN (hx : val E x = .int .i64 (a : Int)) (hy : val E y = .int .i64 (b : Int)) (hb : 0 < b) (h : k (.int .i64 ((a % b : Nat) : Int))) : VPure P E { dst := d, op := .binOp .rem t x y u, type := ty, pos := p, after := af, guard := g } k :=
  p_rem hx hy (by omega) (by rw [Int.tmod_eq_emod_of_nonneg (by omega)]; omega) h
end
theorem St.drewN {w W : World} {gs : List (Option Nat)} {L : Lc} {R : List Row} {fs : List Fact} (M : St w gs W L R fs) (n : Nat) : St w gs (W.drewN n) L R fs := M.call (below_drewN (Below.refl _ W) n)
end Go.Proofs.Ytliccofjlheceaa
namespace Go.Proofs.Ytliccofjlheceaa
open Go.RowKit
theorem app_moved {P : Program} {w w' : World} {base : Nat} {t ty e : TypeId} {i : TypeInfo} {z : Value} (ht : P.underlying t = some (.slice e)) (hi : P.info? e = some i) (hz : i.zero = some z) {A : Option Addr} {n c0 : Nat} {xs : List Value} (hown : w.ownsRow base e i.size (.slice A n c0) n xs)
    {a : Addr} {m c : Nat} {news : List Value} (hl : news.length = m * i.size) (hnews : ∀ j u, news[j]? = some u → w.cell? (a.add j) = some u) (h1 : ∀ u ∈ news, u.oneCell' = true) (h63 : n + m ≤ maxLen) (hbytes : (n + m) * i.bytes ≤ 140737488355328) {v' : Value}
    (hrun : (Builtin.append_ #[t, t] ty #[.slice A n c0, .slice (some a) m c]).run P w = .ok v' w') : v'.ownBlock = (Value.slice A n c0).ownBlock ∨ w.grownBy w' none := by
  have hsmall : n + m ≤ 9223372036854775807 := by simp only [maxLen] at h63; omega
  rcases hown.2 with ⟨hv, hx⟩ | ⟨g, cap, cur, hv, hbg, hg, hnc, hcm, hcs, htake⟩
  · injection hv with e1 e2 e3
    subst e1; subst e2; subst e3
    have hx : xs = [] := List.eq_nil_of_length_eq_zero (by simpa using hown.1)
    by_cases hm : m = 0
    · subst hm
      have hn : news = [] := List.eq_nil_of_length_eq_zero (by simpa using hl)
      left
      have h2 : (Builtin.append_ #[t, t] ty #[.slice none 0 0, .slice (some a) 0 c]).run P w = .ok (.slice none 0 0) w := by
        simp [Builtin.append_, run_underlying ht, sizeOf, typeInfo, hi, Builtin.lenOf, Builtin.firstCells, loadCells, loadCellsFrom]
      rw [h2] at hrun
      injection hrun with e1 e2
      rw [← e1]
    · right
      have hr := run_append_nil (P := P) w t ty e i z ht hi hz a m c news hl hnews (by omega) (by omega) (by have hb := hbytes; simp only [Nat.zero_add] at hb; omega)
      rw [hr] at hrun
      injection hrun with e1 e2
      rw [← e2]
      exact ⟨rfl, rfl, rfl, by simp, fun k hk _ => Below.heap_alloc w.drew _ k hk⟩
  · injection hv with e1 e2 e3
    subst e1; subst e3
    by_cases hroom : n + m ≤ c0
    · left
      have hfit : n * i.size + news.length ≤ cur.size := by rw [hl, hcs, ← Nat.add_mul]; exact Nat.mul_le_mul_right _ hroom
      have hr := run_append_room (P := P) w t ty e i ht hi g n c0 cur hg a m c news hl hnews h1 hroom hfit
      rw [hr] at hrun
      injection hrun with e1 e2
      rw [← e1]; rfl
    · right
      have holds : ∀ j u, xs[j]? = some u → w.cell? ((⟨g, 0, none⟩ : Addr).add j) = some u := hown.cells (g := g) rfl
      have hr := run_append_grow (P := P) w t ty e i z ht hi hz ⟨g, 0, none⟩ n c0 xs hown.1 holds a m c news hl hnews (by omega) (by omega) (growslice_fits (by omega) hbytes)
      rw [hr] at hrun
      injection hrun with e1 e2
      rw [← e2]
      exact ⟨rfl, rfl, rfl, by simp, fun k hk _ => Below.heap_alloc w.drew _ k hk⟩
/-- An element's place, reckoned. -/
theorem p_atM {P : Program} {E : Env} {d : Option Nat} {ty : TypeId} {p : String} {af : Array Edge} {g : Option (Nat × Bool)} {x y : Operand} {t : TypeId} {kd : IntKind} {k : Value → Prop} {b o q n c i : Nat} {e : TypeId} {s : Nat} {j : Int} (hT : slOf P t = some (e, s)) (hx : val E x = .slice (some ⟨b, o, none⟩) n c) (hy : val E y = .int kd j) (hj : j = (i : Int)) (hi : i < n) (hq : o + i * s = q)
    (h : k (.pointer (some ⟨b, q, none⟩))) : VPure P E { dst := d, op := .indexAddr t x y, type := ty, pos := p, after := af, guard := g } k :=
  p_at hT hx hy hj hi (by rw [Addr.add_lit, hq]; exact h)
section
variable {P : Program} {E : Env} {d : Option Nat} {ty : TypeId} {p : String} {af : Array Edge} {gd : Option (Nat × Bool)} {x y : Operand} {t : TypeId} {kw : Value → World → Prop} {w W : World} {gs : List (Option Nat)} {L : Lc} {R : List Row} {fs : List Fact}
theorem row_cells {W : World} {base : Nat} {e : TypeId} {s n c : Nat} {A : Option Addr} {xs : List Value} (h : W.ownsRow base e s (.slice A n c) n xs) : ∀ (ad : Addr), A = some ad → ∀ j u, xs[j]? = some u → W.cell? (ad.add j) = some u := by
  intro ad hA j u hu
  subst hA
  rcases h.2 with ⟨hv, _⟩ | ⟨g, cap, cur, hv, _⟩
  · cases hv
  · injection hv with e1 e2 e3
    injection e1 with e1
    subst e1
    exact h.cells (g := g) rfl j u hu
/-- append of a block onto the first row; the old cells hold what they held. -/
theorem s_appK {e : TypeId} {z : Value} {s bytes : Nat} {A : Option Addr} {n c : Nat} {xs : List Value} (M : St w gs W L (⟨e, s, A, n, c, xs⟩ :: R) fs) (hT : P.underlying t = some (.slice e)) (hi : (P.info? e).map (fun i => (i.zero, i.size, i.bytes)) = some (some z, s, bytes)) (hzs : z.cells.size = s) (hs0 : 0 < s)
    (hx : val E x = .slice A n c) {a : Addr} {m c2 : Nat} {news : List Value} (hy : val E y = .slice (some a) m c2) {B : Nat} (hr : Reads W B s (some a) m news) (hm : 0 < m) (h1 : ∀ u ∈ news, u.oneCell' = true)
    (hsz : n + m ≤ 1000000000 ∧ bytes ≤ 1000)
    (h : ∀ A' c' W', St w gs W' L (⟨e, s, A', n + m, c', xs ++ news⟩ :: R) fs → (∀ ad, A = some ad → ∀ j u, xs[j]? = some u → W'.cell? (ad.add j) = some u) → kw (.slice A' (n + m) c') W') :
    VVal P E { dst := d, op := .call { callee := .builtin .append, args := #[x, y], argTypes := #[t, t] }, type := ty, pos := p, after := af, guard := gd } W kw := by
  have hrow := M.row _ (List.mem_cons_self ..)
  have key := s_app (d := d) (ty := ty) (p := p) (af := af) (gd := gd) (kw := fun v W' => ∃ A' c', v = .slice A' (n + m) c' ∧ St w gs W' L (⟨e, s, A', n + m, c', xs ++ news⟩ :: R) fs) M hT hi hzs hs0 hx hy hr h1 hsz (fun A' c' W' M' _ => ⟨A', c', rfl, M'⟩)
  obtain ⟨v, W', hrun, A', c', rfl, M'⟩ := key.go
  refine ⟨_, W', hrun, h A' c' W' M' ?_⟩
  intro ad hA j u hu
  obtain ⟨i, hi0, hz0, hz1, hz2⟩ := info_parts hi
  have hcells : ∀ j u, news[j]? = some u → W.cell? (a.add j) = some u := by
    intro j u hu
    obtain ⟨b, off, h, _, hc⟩ := hr.2 hm
    injection h with h
    subst h
    rw [Addr.add_lit]
    exact hc j u hu
  have hrun2 : (Builtin.append_ #[t, t] ty #[.slice A n c, .slice (some a) m c2]).run P W = .ok (.slice A' (n + m) c') W' := by
    simp only [execOp, resolve, invoke, builtin, Sem.run_bind, Sem.run_pure, Result.andThen_ok, List.map_toArray, List.map_cons, List.map_nil, hx, hy] at hrun
    revert hrun
    cases hq : (Builtin.append_ #[t, t] ty #[.slice A n c, .slice (some a) m c2]).run P W with
    | ok v w1 =>
      simp only [Result.andThen_ok]
      intro h
      simp only [Sem.run_pure, Result.ok.injEq, Next.value.injEq] at h
      rw [h.1, h.2]
    | _ => intro h; simp at h
  have hb : (n + m) * bytes ≤ 140737488355328 := by
    have := Nat.mul_le_mul hsz.1 hsz.2
    omega
  subst hz1; subst hz2
  rcases app_moved (P := P) hT hi0 hz0 hrow hr.1 hcells h1 (show n + m ≤ maxLen by unfold maxLen; omega) hb hrun2 with h2 | h2
  · have hrow' := M'.row _ (List.mem_cons_self ..)
    have hju : (xs ++ news)[j]? = some u := by rw [List.getElem?_append_left (List.getElem?_eq_some_iff.1 hu).1]; exact hu
    have hc := row_cells hrow'
    rw [own_bk, own_bk] at h2
    subst hA
    rcases hrow.2 with ⟨hv, _⟩ | ⟨g, cap, cur, hv, _⟩
    · cases hv
    · injection hv with e1 e2 e3
      injection e1 with e1
      subst e1
      rcases hrow'.2 with ⟨hv', _⟩ | ⟨g', cap', cur', hv', _⟩
      · injection hv' with e1
        subst e1
        cases h2
      · injection hv' with e1 e2 e3
        subst e1
        have : g' = g := by simpa [bk] using h2
        subst this
        exact hc _ rfl j u hju
  · have hlt := row_bklo hrow
    subst hA
    have h0 := row_cells hrow _ rfl j u hu
    exact (World.cell?_of_block (w := W) (a := ad.add j) (h2.block _ (World.block_lt_of_cell? W _ h0) (by simp))).trans h0
end
end Go.Proofs.Ytliccofjlheceaa
namespace Go.Proofs.Ytliccofjlheceaa
open Go.RowKit

theorem lsinfo : (Try.prog.info? 23).map (fun i => (i.zero, i.size, i.bytes)) = some (some (.slice none 0 0), 1, 24) := by kernel_rfl

/-- The values vs are slices of bytes that read as these lists, below block B. -/
structure Els (w : World) (B : Nat) (vs : List Value) (ll : List (List UInt8)) : Prop where
  len : vs.length = ll.length
  rd : ∀ (k : Nat) (v : Value) (l : List UInt8), vs[k]? = some v → ll[k]? = some l → ∃ A n c, v = .slice A n c ∧ n ≤ c ∧ Rd w B A n l
/-- A slice of n slices of bytes that reads as these lists, below block B. -/
def RdS (w : World) (B : Nat) (A : Option Addr) (n : Nat) (ll : List (List UInt8)) : Prop := ∃ vs, Reads w B 1 A n vs ∧ Els w B vs ll

section
variable {w w' : World} {B B' base n c : Nat} {A : Option Addr} {ll : List (List UInt8)} {vs : List Value}
theorem Els.keep (h : Els w B vs ll) (hk : ∀ p : Addr, p.block < B → w'.cell? p = w.cell? p) : Els w' B vs ll :=
  ⟨h.len, fun k v l h1 h2 => let ⟨A, n, c, hv, hn, hr⟩ := h.rd k v l h1 h2; ⟨A, n, c, hv, hn, hr.keep hk⟩⟩
theorem Els.more (h : Els w B vs ll) (hB : B ≤ B') : Els w B' vs ll :=
  ⟨h.len, fun k v l h1 h2 => let ⟨A, n, c, hv, hn, hr⟩ := h.rd k v l h1 h2; ⟨A, n, c, hv, hn, hr.more hB⟩⟩
theorem RdS.keep (h : RdS w B A n ll) (hk : ∀ p : Addr, p.block < B → w'.cell? p = w.cell? p) : RdS w' B A n ll := let ⟨vs, h1, h2⟩ := h; ⟨vs, h1.keep hk, h2.keep hk⟩
theorem RdS.more (h : RdS w B A n ll) (hB : B ≤ B') : RdS w B' A n ll := let ⟨vs, h1, h2⟩ := h; ⟨vs, h1.more hB, h2.more hB⟩
theorem RdS.below (h : RdS w B A n ll) (hb : Below B w w') : RdS w' B A n ll := h.keep fun _ hp => hb.cell hp
theorem RdS.drewN (h : RdS w B A n ll) (k : Nat) : RdS (w.drewN k) B A n ll := h.keep fun _ _ => rfl
theorem RdS.alloc (h : RdS w B A n ll) (hB : B ≤ w.heap.size) (o : Obj) : RdS (w.alloc o) B A n ll := h.keep fun p hp => World.cell?_alloc_lt w o p (by omega)
theorem RdS.up (h : RdS w w.heap.size A n ll) (hb : Below w.heap.size w w') : RdS w' w'.heap.size A n ll := (h.below hb).more hb.size
theorem RdS.upA (h : RdS w w.heap.size A n ll) (o : Obj) : RdS (w.alloc o) (w.alloc o).heap.size A n ll := (h.alloc (Nat.le_refl _) o).more (by simp)
theorem RdS.len (h : RdS w B A n ll) : ll.length = n := by obtain ⟨vs, h1, h2⟩ := h; have := h1.1; rw [h2.len] at this; omega
theorem RdS.nil_ : RdS w B A 0 [] := ⟨[], Reads.none_, rfl, fun k v l h => by simp at h⟩
/-- The k-th element: its cell, and what it reads as. -/
theorem RdS.at_ (h : RdS w B A n ll) {k : Nat} (hk : k < n) : ∃ b off A' m c', A = some ⟨b, off, none⟩ ∧ b < B ∧ w.cell? ⟨b, off + k, none⟩ = some (.slice A' m c') ∧ m ≤ c' ∧ Rd w B A' m (ll.getD k []) := by
  have hl := h.len
  obtain ⟨vs, h1, h2⟩ := h
  obtain ⟨b, off, u, e, hb, hu, hc⟩ := h1.at_ hk
  obtain ⟨A', m, c', rfl, hm, hr⟩ := h2.rd k u (ll[k]'(by omega)) hu (List.getElem?_eq_getElem (by omega))
  refine ⟨b, off, A', m, c', e, hb, hc, hm, ?_⟩
  rw [List.getD_eq_getElem?_getD, List.getElem?_eq_getElem (by omega)]
  exact hr
end

/-- The values vs are slices of bytes of the call's own, that read as these lists, each in a block of its own. -/
structure ElsOwn (w : World) (base : Nat) (vs : List Value) (ll : List (List UInt8)) : Prop where
  len : vs.length = ll.length
  own : ∀ (k : Nat) (v : Value) (l : List UInt8), vs[k]? = some v → ll[k]? = some l → ∃ A n c, v = .slice A n c ∧ Own w base A n c l
  far : ∀ (i j : Nat) (v u : Value), vs[i]? = some v → vs[j]? = some u → i ≠ j → v.ownBlock = none ∨ v.ownBlock ≠ u.ownBlock
/-- A slice of n slices of bytes of the call's own, its elements too. -/
def OwnS (w : World) (base : Nat) (A : Option Addr) (n c : Nat) (ll : List (List UInt8)) : Prop := ∃ vs, w.ownsRow base 23 1 (.slice A n c) n vs ∧ ElsOwn w base vs ll

section
variable {w w' : World} {base n c : Nat} {A : Option Addr} {ll : List (List UInt8)} {vs : List Value}
theorem ElsOwn.nil_ : ElsOwn w base [] [] := ⟨rfl, fun k v l h => by simp at h, fun i j v u h => by simp at h⟩
theorem ElsOwn.kept {row : Option Nat} (h : ElsOwn w base vs ll) (hg : w.grownBy w' row) (hne : ∀ v ∈ vs, v.ownBlock = none ∨ v.ownBlock ≠ row) : ElsOwn w' base vs ll :=
  ⟨h.len, fun k v l h1 h2 => by
    obtain ⟨A, n, c, rfl, ho⟩ := h.own k v l h1 h2
    exact ⟨A, n, c, rfl, ho.kept hg (hne _ (List.mem_of_getElem? h1))⟩, h.far⟩
theorem ElsOwn.below (h : ElsOwn w base vs ll) (hb : Below w.heap.size w w') : ElsOwn w' base vs ll :=
  h.kept (row := none) ⟨hb.os, hb.tape, hb.output, hb.size, fun k hk _ => hb.block k hk⟩ (fun v _ => by cases v.ownBlock <;> simp)
theorem ElsOwn.less (h : ElsOwn w base vs ll) {base' : Nat} (hb : base' ≤ base) : ElsOwn w base' vs ll :=
  ⟨h.len, fun k v l h1 h2 => let ⟨A, n, c, hv, ho⟩ := h.own k v l h1 h2; ⟨A, n, c, hv, ho.less hb⟩, h.far⟩
theorem ElsOwn.lt (h : ElsOwn w base vs ll) : ∀ v ∈ vs, ∀ g, v.ownBlock = some g → base ≤ g ∧ g < w.heap.size := by
  intro v hv g hg
  obtain ⟨k, hk⟩ := List.getElem?_of_mem hv
  have hkl : k < ll.length := by rw [← h.len]; exact (List.getElem?_eq_some_iff.1 hk).1
  obtain ⟨A, n, c, rfl, ho⟩ := h.own k v ll[k] hk (List.getElem?_eq_getElem hkl)
  exact World.ownsRow.lt ho g hg
/-- One more, which lies in a block that was not there when the others were made. -/
theorem ElsOwn.snoc (h : ElsOwn w base vs ll) {A' : Option Addr} {m c' H : Nat} {l : List UInt8} (ho : Own w base A' m c' l) (hH : ∀ v ∈ vs, ∀ g, v.ownBlock = some g → g < H) (hN : ∀ g, (Value.slice A' m c').ownBlock = some g → H ≤ g) : ElsOwn w base (vs ++ [.slice A' m c']) (ll ++ [l]) := by
  refine ⟨by simp [h.len], ?_, ?_⟩
  · intro k v l' h1 h2
    by_cases hk : k < vs.length
    · rw [List.getElem?_append_left hk] at h1
      rw [List.getElem?_append_left (by rw [← h.len]; exact hk)] at h2
      exact h.own k v l' h1 h2
    · rw [List.getElem?_append_right (by omega)] at h1
      rw [List.getElem?_append_right (by rw [← h.len]; omega)] at h2
      have e : k - vs.length = 0 := by
        have := (List.getElem?_eq_some_iff.1 h1).1
        simp at this; omega
      rw [e] at h1
      rw [show k - ll.length = 0 by rw [← h.len]; exact e] at h2
      simp at h1 h2
      subst h1; subst h2
      exact ⟨A', m, c', rfl, ho⟩
  · intro i j v u h1 h2 hij
    have key : ∀ v u, v ∈ vs → u = Value.slice A' m c' → (v.ownBlock = none ∨ v.ownBlock ≠ u.ownBlock) ∧ (u.ownBlock = none ∨ u.ownBlock ≠ v.ownBlock) := by
      rintro v u hv rfl
      cases hvb : v.ownBlock with
      | none => cases hub : (Value.slice A' m c').ownBlock <;> simp
      | some g =>
        cases hub : (Value.slice A' m c').ownBlock with
        | none => simp
        | some g' =>
          have h1 := hH v hv g hvb
          have h2 := hN g' hub
          constructor <;> right <;> intro e <;> injection e with e <;> omega
    have two : ∀ k v, (vs ++ [Value.slice A' m c'])[k]? = some v → (k < vs.length ∧ vs[k]? = some v) ∨ (k = vs.length ∧ v = Value.slice A' m c') := by
      intro k v hk
      by_cases hlt : k < vs.length
      · exact .inl ⟨hlt, by rw [List.getElem?_append_left hlt] at hk; exact hk⟩
      · rw [List.getElem?_append_right (by omega)] at hk
        have e : k - vs.length = 0 := by
          have := (List.getElem?_eq_some_iff.1 hk).1
          simp at this; omega
        rw [e] at hk
        simp at hk
        exact .inr ⟨by omega, hk.symm⟩
    rcases two i v h1 with ⟨_, e1⟩ | ⟨i1, e1⟩ <;> rcases two j u h2 with ⟨_, e2⟩ | ⟨j1, e2⟩
    · exact h.far i j v u e1 e2 hij
    · exact (key v u (List.mem_of_getElem? e1) e2).1
    · exact (key u v (List.mem_of_getElem? e2) e1).2
    · omega
theorem OwnS.nil_ (w : World) (base : Nat) : OwnS w base none 0 0 [] := ⟨[], World.ownsRow_nil _ _ _ _, ElsOwn.nil_⟩
theorem OwnS.len (h : OwnS w base A n c ll) : ll.length = n := by obtain ⟨vs, h1, h2⟩ := h; have := h1.1; rw [h2.len] at this; omega
theorem OwnS.cap_ (h : OwnS w base A n c ll) : n ≤ c := by
  obtain ⟨vs, h, _⟩ := h
  rcases h.2 with ⟨hv, h0⟩ | ⟨g, cap, cur, hv, _, _, hle, _⟩
  · injection hv with _ h1 h2; omega
  · injection hv with _ h1 h2; omega
theorem OwnS.rd (h : OwnS w base A n c ll) : RdS w w.heap.size A n ll := by
  obtain ⟨vs, h1, h2⟩ := h
  refine ⟨vs, Reads.of_own h1, h2.len, fun k v l e1 e2 => ?_⟩
  obtain ⟨A', n', c', hv, ho⟩ := h2.own k v l e1 e2
  exact ⟨A', n', c', hv, ho.cap_, ho.rd⟩
theorem OwnS.below (h : OwnS w base A n c ll) (hb : Below w.heap.size w w') : OwnS w' base A n c ll := by
  obtain ⟨vs, h1, h2⟩ := h
  exact ⟨vs, World.ownsRow.kept h1 (row := none) ⟨hb.os, hb.tape, hb.output, hb.size, fun k hk _ => hb.block k hk⟩ (by cases (Value.slice A n c).ownBlock <;> simp), h2.below hb⟩
theorem OwnS.alloc (h : OwnS w base A n c ll) (o : Obj) : OwnS (w.alloc o) base A n c ll := h.below ((Below.refl _ _).alloc (Nat.le_refl _) o)
theorem OwnS.less (h : OwnS w base A n c ll) {base' : Nat} (hb : base' ≤ base) : OwnS w base' A n c ll := by
  obtain ⟨vs, h1, h2⟩ := h
  refine ⟨vs, ⟨h1.1, ?_⟩, h2.less hb⟩
  rcases h1.2 with h3 | ⟨g, cap, cur, hv, hg, r⟩
  · exact .inl h3
  · exact .inr ⟨g, cap, cur, hv, by omega, r⟩
end

/-- Two rows whose elements are of two types lie in two blocks. -/
theorem rows_apart {w : World} {b1 b2 : Nat} {e1 e2 : TypeId} (he : e1 ≠ e2) {s1 s2 : Nat} {v1 v2 : Value} {n1 n2 : Nat} {x1 x2 : List Value} (h1 : w.ownsRow b1 e1 s1 v1 n1 x1) (h2 : w.ownsRow b2 e2 s2 v2 n2 x2) : v1.ownBlock = none ∨ v1.ownBlock ≠ v2.ownBlock := by
  rcases h1.2 with ⟨rfl, _⟩ | ⟨g1, c1, u1, rfl, _, hh1, _⟩
  · exact .inl rfl
  · right
    rcases h2.2 with ⟨rfl, _⟩ | ⟨g2, c2, u2, rfl, _, hh2, _⟩
    · simp [Value.ownBlock]
    · intro e
      have : g1 = g2 := by simpa [Value.ownBlock] using e
      subst this
      rw [hh1] at hh2
      injection hh2 with hh2
      injection hh2 with _ ht
      exact he ht

/-- append(out, s), out and s of the call's own, s made behind all that is in out. -/
theorem run_appS {w : World} {base : Nat} {A : Option Addr} {n c : Nat} {ll : List (List UInt8)} {vs : List Value} (hrow : w.ownsRow base 23 1 (.slice A n c) n vs) (hels : ElsOwn w base vs ll)
    {A' : Option Addr} {m c' H : Nat} {l : List UInt8} (ho : Own w base A' m c' l) (hH : ∀ v ∈ vs, ∀ g, v.ownBlock = some g → g < H) (hN : ∀ g, (Value.slice A' m c').ownBlock = some g → H ≤ g)
    {B : Nat} {A2 : Option Addr} {c2 : Nat} (hr : Reads w B 1 A2 1 [.slice A' m c']) (hsz : n ≤ 1000000000000) (hbase : base ≤ w.heap.size) (ty : TypeId) :
    ∃ A3 c3 w', (Builtin.append_ #[22, 22] ty #[.slice A n c, .slice A2 1 c2]).run Try.prog w = .ok (.slice A3 (n + 1) c3) w' ∧ OwnS w' base A3 (n + 1) c3 (ll ++ [l]) ∧ w.grownBy w' (Value.slice A n c).ownBlock := by
  obtain ⟨i0, hi, hz0, hz1, hz2⟩ := info_parts lsinfo
  obtain ⟨v', w', hrun, h2, h3, h4, h5⟩ := run_append_any (P := Try.prog) w base 22 ty 23 i0 (.slice none 0 0) 1 24 Try.underlying22 hi hz0 hz1 hz2 rfl (by omega) _ n _ hrow B A2 1 c2 _ hr (by intro u hu; simp at hu; subst hu; rfl) (by unfold maxLen; omega) (by omega) hbase
  obtain ⟨A3, c3, rfl⟩ := own_slice h2
  refine ⟨A3, c3, w', hrun, ⟨vs ++ [.slice A' m c'], h2, ?_⟩, h3⟩
  refine (hels.snoc ho hH hN).kept h3 ?_
  intro v hv
  rcases List.mem_append.1 hv with hv | hv
  · obtain ⟨k, hk⟩ := List.getElem?_of_mem hv
    have hkl : k < ll.length := by rw [← hels.len]; exact (List.getElem?_eq_some_iff.1 hk).1
    obtain ⟨A4, n4, c4, rfl, ho4⟩ := hels.own k v ll[k] hk (List.getElem?_eq_getElem hkl)
    exact rows_apart (by decide) ho4 hrow
  · simp at hv
    subst hv
    exact rows_apart (by decide) ho hrow
theorem wpList_appS {ops : Array Oper} {rest : List Oper} {o : Oper} {a : Act} {w : World} {Q : Exit → Act → World → Prop} (hgd : o.guard = none) (s x : Operand)
    (hop : o.op = .call { callee := .builtin .append, args := #[s, x], argTypes := #[22, 22] })
    {base : Nat} {A : Option Addr} {n c : Nat} {ll : List (List UInt8)} {vs : List Value} (hs : a.eval s = .slice A n c) (hrow : w.ownsRow base 23 1 (.slice A n c) n vs) (hels : ElsOwn w base vs ll)
    {A' : Option Addr} {m c' H : Nat} {l : List UInt8} (ho : Own w base A' m c' l) (hH : ∀ v ∈ vs, ∀ g, v.ownBlock = some g → g < H) (hN : ∀ g, (Value.slice A' m c').ownBlock = some g → H ≤ g)
    {B : Nat} {A2 : Option Addr} {c2 : Nat} (hx : a.eval x = .slice A2 1 c2) (hr : Reads w B 1 A2 1 [.slice A' m c']) (hsz : n ≤ 1000000000000) (hbase : base ≤ w.heap.size)
    (h : ∀ A3 c3 w', OwnS w' base A3 (n + 1) c3 (ll ++ [l]) → w.grownBy w' (Value.slice A n c).ownBlock → wpList Try.prog ops Q rest (a.put o.dst (.slice A3 (n + 1) c3)) w') : wpList Try.prog ops Q (o :: rest) a w := by
  refine wpList_plain hgd fun K hK => ?_
  obtain ⟨A3, c3, w', hrun, h2, h3⟩ := run_appS (c2 := c2) hrow hels ho hH hN hr hsz hbase o.type
  unfold Oper.wp execOp
  simp only [hop, resolve, invoke, builtin, Sem.run_bind, Sem.run_pure, Result.andThen_ok, List.map_toArray, List.map_cons, List.map_nil, hs, hx, hrun]
  exact hK _ _ (h A3 c3 w' h2 h3)
/-- A new block of one value reads as that. -/
theorem Reads.lit1 (w : World) (H : Nat) (hH : w.heap.size = H) (v : Value) (t : TypeId) : Reads (w.alloc (.cells #[v] t)) (H + 1) 1 (some ⟨H, 0, none⟩) 1 [v] := by
  subst hH
  refine ⟨rfl, fun _ => ⟨_, 0, rfl, by omega, fun j u hu => ?_⟩⟩
  rw [Nat.zero_add, World.cell?_alloc_at _ _ _ _ rfl]
  simpa using hu

end Go.Proofs.Ytliccofjlheceaa
namespace Go.Proofs.Ytliccofjlheceaa
open Go.RowKit
theorem one_at {α : Type} {l : List α} {i : Nat} {x : α} (h : l[i]? = some x) : (l.drop i).take 1 = [x] := by
  have hi := (List.getElem?_eq_some_iff.1 h).1
  rw [List.drop_eq_getElem_cons hi, List.take_succ_cons, List.take_zero, (List.getElem?_eq_some_iff.1 h).2]
end Go.Proofs.Ytliccofjlheceaa
namespace Go.Proofs.Ytliccofjlheceaa
open Go.RowKit
section
variable {w W : World} {gs : List (Option Nat)} {L L' : Lc} {R R' : List Row} {fs : List Fact}
theorem own_perm (hL : L.Perm L') (hR : R.Perm R') (gs : List (Option Nat)) {b : Option Nat} : b ∈ own L' R' gs → b ∈ own L R gs := by
  unfold own
  intro h
  rcases List.mem_append.1 h with h | h
  · exact List.mem_append_left _ ((hL.map _).mem_iff.2 h)
  · rcases List.mem_append.1 h with h | h
    · exact List.mem_append_right _ (List.mem_append_left _ ((hR.map _).mem_iff.2 h))
    · exact List.mem_append_right _ (List.mem_append_right _ h)
theorem St.perm (M : St w gs W L R fs) (hL : L.Perm L') (hR : R.Perm R') : St w gs W L' R' fs :=
  ⟨M.below, M.lt, fun x hx => M.blk x (hL.mem_iff.2 hx), fun r hr => M.row r (hR.mem_iff.2 hr), List.Perm.pairwise ((hL.map _).append (hR.map _)) M.ap (fun h => apart_comm h),
    fun f hf => (M.fct f hf).up ⟨Nat.le_refl _, fun _ _ _ => rfl, fun _ _ e => own_perm hL hR gs e⟩⟩
theorem St.permR (M : St w gs W L R fs) (hR : R.Perm R') : St w gs W L R' fs := M.perm (List.Perm.refl _) hR
theorem St.swpR {x y : Row} (M : St w gs W L (x :: y :: R) fs) : St w gs W L (y :: x :: R) fs := M.permR (List.Perm.swap ..)
end
end Go.Proofs.Ytliccofjlheceaa
namespace Go.Proofs.Ytliccofjlheceaa
open Go.RowKit
theorem sz_u8 : (Try.prog.info? 5).map (·.size) = some 1 := by kernel_rfl
/-- A row that is written at one place. -/
theorem St.wroteR {w W W' : World} {gs : List (Option Nat)} {L : Lc} {R : List Row} {fs : List Fact} {e : TypeId} {s n c : Nat} {A : Option Addr} {xs xs' : List Value} (M : St w gs W L (⟨e, s, A, n, c, xs⟩ :: R) fs) (hg : W.grownBy W' (bk A)) (hrow' : W'.ownsRow w.heap.size e s (.slice A n c) n xs') : St w gs W' L (⟨e, s, A, n, c, xs'⟩ :: R) fs := by
  have hrow := M.row _ (List.mem_cons_self ..)
  have hlo := row_bklo hrow
  have hp := List.Perm.pairwise (l' := bk A :: (L.map (fun x => some x.1) ++ R.map (fun r => bk r.A))) (by rw [List.map_cons]; exact List.perm_middle) M.ap (fun h => apart_comm h)
  rw [List.pairwise_cons] at hp
  have kept : ∀ o : Option Nat, o ∈ L.map (fun x => some x.1) ++ R.map (fun r => bk r.A) → o = none ∨ o ≠ bk A := fun o ho => apart_comm (hp.1 o ho)
  refine ⟨M.below.grown hg M.size (fun b e => (hlo b e).1), M.lt, fun y hy => ⟨(M.blk y hy).1.grown hg ?_, (M.blk y hy).2⟩, fun r hr => ?_, M.ap, fun f hf => (M.fct f hf).up (Stp.wrote hg ?_)⟩
  · rcases kept (some y.1) (List.mem_append_left _ (List.mem_map.2 ⟨y, hy, rfl⟩)) with h | h
    · cases h
    · exact fun e => h e.symm
  · rcases List.mem_cons.1 hr with rfl | hr
    · exact hrow'
    · exact row_kept' (M.row r (by simp [hr])) hg (kept _ (List.mem_append_right _ (List.mem_map.2 ⟨r, hr, rfl⟩)))
  · unfold own
    exact List.mem_append_right _ (List.mem_append_left _ (List.mem_map.2 ⟨_, List.mem_cons_self .., rfl⟩))
theorem s_setRow {E : Env} {d : Option Nat} {ty : TypeId} {p : String} {af : Array Edge} {gd : Option (Nat × Bool)} {x y : Operand} {kw : Value → World → Prop} {w W : World} {gs : List (Option Nat)} {L : Lc} {R : List Row} {fs : List Fact} {g n c : Nat} {l : List UInt8} (j : Nat) (v : Int) (M : St w gs W L (⟨5, 1, some ⟨g, 0, none⟩, n, c, bvs l⟩ :: R) fs) (hx : val E x = .pointer (some ⟨g, j, none⟩)) (hy : val E y = .int .u8 v) (hj : j < n) (hv : 0 ≤ v ∧ v ≤ 255)
    (h : ∀ W', St w gs W' L (⟨5, 1, some ⟨g, 0, none⟩, n, c, bvs (l.set j (b8 v))⟩ :: R) fs → kw undef W') : VSkip Try.prog E { dst := d, op := .store 5 x y, type := ty, pos := p, after := af, guard := gd } W kw := by
  have hrow : Own W w.heap.size (some ⟨g, 0, none⟩) n c l := M.row _ (List.mem_cons_self ..)
  refine v_store sz_u8 hx hy rfl (hrow.cell hj) (hrow.free j) (h _ (M.wroteR ⟨rfl, rfl, rfl, by simp, fun k _ hk => Below.heap_setCell _ _ _ _ (fun e => hk (by rw [e]; rfl))⟩ (hrow.set hv.1 hv.2)))
theorem row_addr {w W : World} {gs : List (Option Nat)} {L : Lc} {R : List Row} {fs : List Fact} {e : TypeId} {s n c : Nat} {A : Option Addr} {xs : List Value} (M : St w gs W L (⟨e, s, A, n, c, xs⟩ :: R) fs) (hn : 0 < n) : ∃ g, A = some ⟨g, 0, none⟩ := by
  rcases (M.row _ (List.mem_cons_self ..)).2 with ⟨hv, h0⟩ | ⟨g, cap, cur, hv, _⟩
  · simp only at h0; omega
  · injection hv with e1 e2 e3
    exact ⟨g, e1⟩
end Go.Proofs.Ytliccofjlheceaa
