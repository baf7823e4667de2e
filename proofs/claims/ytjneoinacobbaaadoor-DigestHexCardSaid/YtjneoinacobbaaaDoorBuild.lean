/- Values and slices that are built of parts; bytes of a string. -/
import Derived.Test.YtjneoinacobbaaaDoorBlk
import Derived.Test.YtjneoinacobbaaaDoorOpB
import Derived.Laws.IdiomStrings
namespace Go.Proofs.YtjneoinacobbaaaDoor
open Go.RowKit

def putAt (cs : List Value) : Nat → List Value → List Value
  | _, [] => cs
  | i, v :: r => putAt (cs.set i v) (i + 1) r
def fillL (place : Nat → Option (Nat × Nat)) (cells : List Value) : List (Nat × Value) → Option (List Value)
  | [] => some cells
  | (i, v) :: rest => match place i with
    | none => none
    | some (off, size) => match Nat.beq v.cells.size size && Nat.ble (off + v.cells.size) cells.length with
      | true => fillL place (putAt cells off v.cells.toList) rest
      | false => none
theorem putAt_len : ∀ (r cs : List Value) (i : Nat), (putAt cs i r).length = cs.length
  | [], cs, i => rfl
  | v :: r, cs, i => by rw [putAt, putAt_len r, List.length_set]
theorem foldl_put : ∀ (r : List Value) (off j : Nat) (cs : List Value), (r.zipIdx j).foldl (fun cs x => cs.setIfInBounds (off + x.2) x.1) cs.toArray = (putAt cs (off + j) r).toArray
  | [], off, j, cs => rfl
  | v :: r, off, j, cs => by
    simp only [List.zipIdx_cons, List.foldl_cons, List.setIfInBounds_toArray, putAt]
    rw [foldl_put r off (j + 1), Nat.add_assoc]
theorem fill_eq (place : Nat → Option (Nat × Nat)) : ∀ (parts : List (Nat × Value)) (cs vs : List Value), fillL place cs parts = some vs → Instr.fill place cs.toArray parts = some vs.toArray
  | [], cs, vs, h => by
    injection h with h
    subst h
    rfl
  | (i, v) :: rest, cs, vs, h => by
    unfold fillL at h
    unfold Instr.fill
    cases hp : place i with
    | none => rw [hp] at h; cases h
    | some q =>
      obtain ⟨off, size⟩ := q
      rw [hp] at h
      simp only [] at h ⊢
      split at h
      · rename_i hb
        simp only [Bool.and_eq_true] at hb
        have h1 : v.cells.size = size := Nat.eq_of_beq_eq_true hb.1
        have h2 : off + v.cells.size ≤ cs.length := Nat.le_of_ble_eq_true hb.2
        have hc : ¬ ((v.cells.size ≠ size || off + v.cells.size > cs.toArray.size) = true) := by simp [h1]; omega
        have e : v.cells.zipIdx.foldl (fun cs x => cs.setIfInBounds (off + x.2) x.1) cs.toArray = (putAt cs off v.cells.toList).toArray := by
          rw [← Array.foldl_toList, Array.toList_zipIdx]
          exact foldl_put v.cells.toList off 0 cs
        rw [if_neg hc]
        have ih := fill_eq place rest _ _ h
        rw [← e] at ih
        exact ih
      · cases h

/-- A struct's fields: where each begins, how many cells it has. -/
def placesOf (P : Program) (t : TypeId) : Option (List (Nat × Nat)) :=
  match P.underlying t with
  | some (.struct fs) => fs.toList.mapM fun f => (P.info? f.type).map fun i => (f.offset, i.size)
  | _ => none
def zeroOf (P : Program) (t : TypeId) : Option (List Value) := (P.info? t).bind fun i => i.zero.map fun z => z.cells.toList

section
variable {P : Program} {E : Env} {d : Option Nat} {ty : TypeId} {p : String} {af : Array Edge} {gd : Option (Nat × Bool)} {x y : Operand} {t : TypeId} {k : Value → Prop} {kw : Value → World → Prop} {w : World}
theorem zero_run {zs : List Value} (h : zeroOf P t = some zs) (w : World) : ∃ z, (zeroValue t).run P w = .ok z w ∧ z.cells.toList = zs := by
  obtain ⟨i, hi1, hi2⟩ := Option.bind_eq_some_iff.1 h
  obtain ⟨z, hz1, hz2⟩ := Option.map_eq_some_iff.1 hi2
  exact ⟨z, by simp [zeroValue, typeInfo, hi1, hz1], hz2⟩
theorem mapM_places {P : Program} : ∀ (fs : List Field) (ps : List (Nat × Nat)) (w : World), fs.mapM (fun f => (P.info? f.type).map fun i => (f.offset, i.size)) = some ps → (fs.mapM (m := Sem) fun f => do pure (f.offset, ← sizeOf f.type)).run P w = .ok ps w
  | [], ps, w, h => by injection h with h; subst h; rfl
  | f :: fs, ps, w, h => by
    rw [List.mapM_cons] at h
    obtain ⟨q, hq, h⟩ := Option.bind_eq_some_iff.1 h
    obtain ⟨qs, hqs, h⟩ := Option.bind_eq_some_iff.1 h
    injection h with h
    subst h
    obtain ⟨i, hi, rfl⟩ := Option.map_eq_some_iff.1 hq
    have ih := mapM_places fs qs w hqs
    simp only [List.mapM_cons, Sem.run_bind, sizeOf, typeInfo, run_program, Result.andThen_ok, hi, Sem.run_pure] at ih ⊢
    simp only [ih, Result.andThen_ok]
theorem p_build {parts : Array (Nat × Operand)} {ps : List (Nat × Nat)} {zs vs : List Value} (hp : placesOf P t = some ps) (hz : zeroOf P t = some zs) (hv : fillL (nth ps) zs (parts.toList.map fun x => (x.1, val E x.2)) = some vs) (h : k (.agg vs.toArray)) :
    VPure P E { dst := d, op := .build t parts, type := ty, pos := p, after := af, guard := gd } k := by
  refine pp (fun w => ?_) h
  unfold placesOf at hp
  split at hp
  · rename_i fs hu
    obtain ⟨z, hzr, hzc⟩ := zero_run hz w
    have hm := mapM_places _ _ w hp
    have hf := fill_eq _ _ _ _ hv
    have e1 : (parts.map fun x => (x.1, val E x.2)).toList = parts.toList.map fun x => (x.1, val E x.2) := by simp
    have e2 : (nth ps) = (ps.toArray[·]?) := by funext j; rw [nth_eq]; simp
    rw [e2, ← hzc] at hf
    simp only [execOp, Instr.build, Sem.run_bind, hzr, Result.andThen_ok, run_underlying hu, Array.mapM_eq_mapM_toList, Sem.run_map]
    rw [hm]
    simp only [Result.andThen_ok, e1]
    have e3 : z.cells = z.cells.toList.toArray := by simp
    rw [e3, hf]
    rfl
  · cases hp
/-- A slice that is built: a new block. -/
theorem v_bslice {parts : Array (Nat × Operand)} {n s : Nat} {e : TypeId} {zs vs : List Value} (hT : slOf P t = some (e, s)) (hz : zeroOf P e = some zs) (hzl : zs.length = s) (hn : (Nat.ble 1 (n * s) && Nat.ble (n * s) 1000) = true)
    (hv : fillL (fun i => some (i * s, s)) ((List.range (n * s)).map fun i => zs.getD (i % s) (.tuple #[])) (parts.toList.map fun x => (x.1, val E x.2)) = some vs)
    (h : ∀ g w', g = w.heap.size → Blk w' g e vs → Below g w w' → w'.heap.size = g + 1 → kw (.slice (some ⟨g, 0, none⟩) n n) w') :
    VVal P E { dst := d, op := .buildSlice t n parts, type := ty, pos := p, after := af, guard := gd } w kw := by
  obtain ⟨hu, info, hi1, hi2⟩ := slOf_spec hT
  obtain ⟨z, hzr, hzc⟩ := zero_run hz w
  simp only [Bool.and_eq_true] at hn
  have h1 : 1 ≤ n * s := Nat.le_of_ble_eq_true hn.1
  have h2 : n * s ≤ 1000 := Nat.le_of_ble_eq_true hn.2
  refine vv (v := .slice (some ⟨w.heap.size, 0, none⟩) n n) (w' := w.alloc (.cells vs.toArray e)) ?_ (h _ _ rfl (Blk.new w vs e) ((Below.refl _ _).alloc (Nat.le_refl _) _) (by simp))
  have hf := fill_eq _ _ _ _ hv
  have e1 : (parts.map fun x => (x.1, val E x.2)).toList = parts.toList.map fun x => (x.1, val E x.2) := by simp
  have hsz : (sizeOf e).run P w = .ok s w := by simp [sizeOf, typeInfo, hi1, hi2]
  have hzs : z.cells.size = s := by rw [← hzl, ← hzc]; simp
  have hs0 : 0 < s := Nat.pos_of_ne_zero (fun e => by subst e; simp at h1)
  have e2 : ((Array.range (n * s)).map fun i => z.cells[i % z.cells.size]!) = ((List.range (n * s)).map fun i => zs.getD (i % s) (.tuple #[])).toArray := by
    apply Array.toList_inj.1
    simp only [Array.toList_map, Array.toList_range]
    refine List.map_congr_left fun i _ => ?_
    have hlt : i % s < z.cells.size := by rw [hzs]; exact Nat.mod_lt _ hs0
    rw [hzs, ← hzc]
    simp [hlt]
  simp only [execOp, Instr.buildSlice, Sem.run_bind, run_underlying hu, Result.andThen_ok, hsz]
  rw [if_neg (show ¬ n * s > 2 ^ 24 by omega), if_neg (show ¬ n * s = 0 by omega)]
  simp only [Sem.run_bind, Sem.run_pure, Result.andThen_ok, hzr, e2, e1, hf]
  simp [newRow]
end

/-- [ ]byte(s) -/
theorem v_s2b {E : Env} {d : Option Nat} {ty : TypeId} {p : String} {af : Array Edge} {gd : Option (Nat × Bool)} {x : Operand} {kw : Value → World → Prop} {w : World} {l : List UInt8} (hx : val E x = .string (sb l))
    (h : ∀ g c w', g = w.heap.size → Rd w' w'.heap.size (some ⟨g, 0, none⟩) l.length l → l.length ≤ c → Below g w w' → w'.heap.size = g + 1 → kw (.slice (some ⟨g, 0, none⟩) l.length c) w') :
    VVal Tryd.prog E { dst := d, op := .convert 9 23 x, type := ty, pos := p, after := af, guard := gd } w kw := by
  have hr := run_bytes_of_string (P := Tryd.prog) w 9 23 5 (sb l) (by kernel_rfl) Tryd.underlying23 Tryd.underlying5
  have hsz : (sb l).size = l.length := by simp [sb, ByteArray.size]
  rw [hsz] at hr
  refine vv (by simp only [execOp, hx, Sem.run_bind, hr, Result.andThen_ok, Sem.run_pure]; rfl) (h _ _ _ rfl ?_ (grownCap_ge _ _ _ _) ?_ (by simp))
  · refine ⟨by rw [bvs_length]; simp, fun hn => ⟨_, 0, rfl, by simp, fun j u hu => ?_⟩⟩
    rw [Nat.zero_add]
    have hj : j < l.length := by have := (List.getElem?_eq_some_iff.1 hu).1; rwa [bvs_length] at this
    have hcell : ∀ (C : Array Value) (fr : Nat × Nat), (w.drew.alloc (.cells C 5 fr)).cell? ⟨w.heap.size, j, none⟩ = C[j]? := by
      intro C fr
      have : (w.drew.alloc (.cells C 5 fr)).heap[w.heap.size]? = some (.cells C 5 fr) := by
        show (w.heap.push _)[w.heap.size]? = _
        simp
      unfold World.cell?
      rw [this]
      rfl
    rw [hcell]
    unfold bytesRow
    have : j < ((sb l).data.map (fun b => Value.int .u8 b.toNat)).size := by simp [sb, hj]
    rw [Array.getElem?_append_left this]
    simpa [bvs, sb, u8v] using hu
  · exact ((Below.refl _ _).drew.alloc (Nat.le_refl _) _)
end Go.Proofs.YtjneoinacobbaaaDoor
