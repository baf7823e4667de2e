/- Values and rows read from bytes, plainly. Which values may be: the walks of value.visible, right, Check, and of the reference's Check. Values and slices that are built of parts; bytes of a string. More single operations. No program in sight. Facts of bytes that many walks want. Numbers and bytes in one way: the walks of package vint. Numbers and bytes in one way: the walk of vint.Get. Numbers and bytes in one way: the walks of vint.GetBytes, PutInt. Numbers and bytes in one way: the reference's walks. -/
import Derived.Test.YtejbljopighenaaDoorG04
import Derived.Test.YtejbljopighenaaDoorG03
import Derived.Laws.IdiomStrings
import Derived.Test.YtejbljopighenaaDoorG01
namespace Go.Proofs.YtejbljopighenaaDoor

theorem gE_drop {l : List UInt8} {p : Nat} (hp : p ≤ l.length) (x : Nat) : gE (l.drop p) (x : Int) = gE l ((p + x : Nat) : Int) ∧ gN (l.drop p) (x : Int) = gN l ((p + x : Nat) : Int) := by
  unfold gE gN
  rw [List.length_drop, Int.toNat_natCast, Int.toNat_natCast, List.drop_drop]
  by_cases h : l.length < p + x
  · rw [if_pos (by omega), if_pos (by omega), if_pos (by omega), if_pos (by omega)]; exact ⟨rfl, rfl⟩
  · rw [if_neg (by omega), if_neg (by omega), if_neg (by omega), if_neg (by omega)]; exact ⟨rfl, rfl⟩
theorem gTo_drop {l : List UInt8} {p : Nat} (hp : p ≤ l.length) (x : Nat) (h : gE l ((p + x : Nat) : Int) = 0) : gTo l ((p + x : Nat) : Int) = p + gTo (l.drop p) (x : Int) := by
  have h1 := (gE_drop hp x).1
  unfold gTo
  rw [if_pos h, if_pos (h1.trans h), Int.toNat_natCast, Int.toNat_natCast, List.drop_drop]
  omega
theorem gb_drop {l : List UInt8} {p : Nat} (hp : p ≤ l.length) (x : Nat) : gbE (l.drop p) (x : Int) = gbE l ((p + x : Nat) : Int) ∧ gbL (l.drop p) (x : Int) = gbL l ((p + x : Nat) : Int) ∧ (gbE l ((p + x : Nat) : Int) = 0 → gbTo l ((p + x : Nat) : Int) = p + gbTo (l.drop p) (x : Int)) := by
  obtain ⟨h1, h2⟩ := gE_drop hp x
  rcases gb_cases l ((p + x : Nat) : Int) with h | ⟨h, k⟩ | ⟨h, k, m⟩ | ⟨h, k, m⟩
  · have F := gb_err1 h
    have G := gb_err1 (l := l.drop p) (a := (x : Int)) (by rw [h1]; exact h)
    exact ⟨by rw [F.1, G.1, h1], by rw [F.2.1, G.2.1], fun e => absurd (F.1.symm.trans e) h⟩
  · have F := gb_err2 h k
    have G := gb_err2 (l := l.drop p) (a := (x : Int)) (by rw [h1]; exact h) (by rw [h2]; exact k)
    exact ⟨by rw [F.1, G.1], by rw [F.2.1, G.2.1], fun e => by rw [F.1] at e; cases e⟩
  · have ht := gTo_drop hp x h
    have F := gb_err3 h k m
    have G := gb_err3 (l := l.drop p) (a := (x : Int)) (by rw [h1]; exact h) (by rw [h2]; exact k) (by rw [h2, List.length_drop]; omega)
    exact ⟨by rw [F.1, G.1], by rw [F.2.1, G.2.1], fun e => by rw [F.1] at e; cases e⟩
  · have ht := gTo_drop hp x h
    have F := gb_ok h k m
    have G := gb_ok (l := l.drop p) (a := (x : Int)) (by rw [h1]; exact h) (by rw [h2]; exact k) (by rw [h2, List.length_drop]; omega)
    obtain ⟨y, t, hy, hyl, _, hT, _, hle, _⟩ := g_ok (l := l.drop p) (a := (x : Int)) (by rw [h1]; exact h)
    refine ⟨by rw [F.1, G.1], ?_, fun _ => by rw [F.2.2, G.2.2, ht, h2]; omega⟩
    rw [F.2.1, G.2.1, h2, ht, hT, List.drop_drop]
    congr 2
/-- What is read at a place: why there is nothing, the value, the place behind. -/
def fin (v : Val) (to : Nat) : Int × Val × Nat := if rightB v then (0, v, to) else (11, v, to)
def no (e : Int) : Int × Val × Nat := (e, ⟨0, 0, []⟩, 0)
def vR (l : List UInt8) (a : Nat) : Int × Val × Nat :=
  if l.length ≤ a then no 10
  else if at8 l a = 1 then (0, ⟨1, 0, []⟩, a + 1)
  else if at8 l a = 2 then (if l.length ≤ a + 1 then no 10 else fin ⟨2, at8 l (a + 1), []⟩ (a + 2))
  else if at8 l a = 3 then (if gE l ((a + 1 : Nat) : Int) ≠ 0 then no (gE l ((a + 1 : Nat) : Int)) else (0, ⟨3, zag (gN l ((a + 1 : Nat) : Int)), []⟩, (gTo l ((a + 1 : Nat) : Int)).toNat))
  else if at8 l a = 4 ∨ at8 l a = 5 then
    (if gE l ((a + 1 : Nat) : Int) ≠ 0 then no (gE l ((a + 1 : Nat) : Int))
    else if 1000 < gN l ((a + 1 : Nat) : Int) then no 11
    else if gbE l ((a + 1 : Nat) : Int) ≠ 0 then no (if at8 l a = 4 ∧ (l.drop (gTo l ((a + 1 : Nat) : Int)).toNat).all vis = false then 11 else 10)
    else fin ⟨at8 l a, 0, gbL l ((a + 1 : Nat) : Int)⟩ (gbTo l ((a + 1 : Nat) : Int)).toNat)
  else no 11
theorem at8_drop (l : List UInt8) (p x : Nat) : at8 (l.drop p) x = at8 l (p + x) := by
  unfold at8; simp [List.getD_eq_getElem?_getD]
theorem fin_shift (v : Val) (p to : Nat) : fin v (p + to) = ((fin v to).1, (fin v to).2.1, p + (fin v to).2.2) := by unfold fin; split <;> rfl
/-- Read of what is left, it is the same. -/
theorem vR_drop {l : List UInt8} {p : Nat} (hp : p ≤ l.length) : (vR (l.drop p) 0).1 = (vR l p).1 ∧ ((vR l p).1 = 0 → (vR (l.drop p) 0).2.1 = (vR l p).2.1 ∧ (vR l p).2.2 = p + (vR (l.drop p) 0).2.2) := by
  have h1 := gE_drop hp 1
  have h2 := gb_drop hp 1
  have hl : (l.drop p).length = l.length - p := List.length_drop
  have h8 := at8_drop l p 0
  have h81 := at8_drop l p 1
  rw [Nat.add_zero] at h8
  unfold vR
  rw [hl, h8, h81, Nat.zero_add, h1.1, h1.2, h2.1, h2.2.1]
  by_cases c1 : l.length ≤ p
  · rw [if_pos (by omega), if_pos c1]; exact ⟨rfl, fun h => by cases h⟩
  rw [if_neg (by omega), if_neg c1]
  by_cases c2 : at8 l p = 1
  · rw [if_pos c2, if_pos c2]; exact ⟨rfl, fun _ => ⟨rfl, rfl⟩⟩
  rw [if_neg c2, if_neg c2]
  by_cases c3 : at8 l p = 2
  · rw [if_pos c3, if_pos c3]
    by_cases c4 : l.length ≤ p + 1
    · rw [if_pos (by omega), if_pos c4]; exact ⟨rfl, fun h => by cases h⟩
    have e := fin_shift ⟨2, at8 l (p + 1), []⟩ p (0 + 2)
    rw [if_neg (by omega), if_neg c4, show p + 2 = p + (0 + 2) by omega, e]
    exact ⟨rfl, fun _ => ⟨rfl, rfl⟩⟩
  rw [if_neg c3, if_neg c3]
  by_cases c4 : at8 l p = 3
  · rw [if_pos c4, if_pos c4]
    by_cases c5 : gE l ((p + 1 : Nat) : Int) ≠ 0
    · rw [if_pos c5, if_pos c5]; exact ⟨rfl, fun h => absurd h c5⟩
    rw [if_neg c5, if_neg c5]
    have ht := gTo_drop hp 1 (by simpa using c5)
    obtain ⟨y, t, hy, _, _, hT, _⟩ := g_ok (l := l.drop p) (a := ((1 : Nat) : Int)) (by rw [h1.1]; simpa using c5)
    exact ⟨rfl, fun _ => ⟨rfl, by show (gTo l _).toNat = p + (gTo (l.drop p) _).toNat; rw [ht, hT]; omega⟩⟩
  rw [if_neg c4, if_neg c4]
  by_cases c5 : at8 l p = 4 ∨ at8 l p = 5
  · rw [if_pos c5, if_pos c5]
    by_cases c6 : gE l ((p + 1 : Nat) : Int) ≠ 0
    · rw [if_pos c6, if_pos c6]; exact ⟨rfl, fun h => absurd h c6⟩
    rw [if_neg c6, if_neg c6]
    by_cases c7 : 1000 < gN l ((p + 1 : Nat) : Int)
    · rw [if_pos c7, if_pos c7]; exact ⟨rfl, fun h => by cases h⟩
    rw [if_neg c7, if_neg c7]
    have ht := gTo_drop hp 1 (by simpa using c6)
    obtain ⟨y, t, hy, _, _, hT, _⟩ := g_ok (l := l.drop p) (a := ((1 : Nat) : Int)) (by rw [h1.1]; simpa using c6)
    by_cases c8 : gbE l ((p + 1 : Nat) : Int) ≠ 0
    · rw [if_pos c8, if_pos c8]
      have e : (l.drop p).drop (gTo (l.drop p) ((1 : Nat) : Int)).toNat = l.drop (gTo l ((p + 1 : Nat) : Int)).toNat := by
        rw [List.drop_drop, ht, hT]; congr 1
      rw [e]
      refine ⟨rfl, fun h => ?_⟩
      exfalso
      revert h
      show (if _ then (11 : Int) else 10) = 0 → False
      split <;> intro h <;> cases h
    rw [if_neg c8, if_neg c8]
    have hb := h2.2.2 (by simpa using c8)
    have hb0 : 0 ≤ gbTo (l.drop p) ((1 : Nat) : Int) := by
      unfold gbTo
      rw [if_pos (by rw [h2.1]; simpa using c8), hT]
      have := gN_nonneg (l.drop p) ((1 : Nat) : Int)
      omega
    rw [hb, show (p + gbTo (l.drop p) ((1 : Nat) : Int)).toNat = p + (gbTo (l.drop p) ((1 : Nat) : Int)).toNat by omega, fin_shift]
    exact ⟨rfl, fun _ => ⟨rfl, rfl⟩⟩
  rw [if_neg c5, if_neg c5]
  exact ⟨rfl, fun h => by cases h⟩
end Go.Proofs.YtejbljopighenaaDoor
namespace Go.Proofs.YtejbljopighenaaDoor
open Go.RowKit
theorem is_vis : isFn Tryd.prog 86 = true := by kernel_rfl
theorem is_right : isFn Tryd.prog 79 = true := by kernel_rfl
theorem is_chk : isFn Tryd.prog 70 = true := by kernel_rfl
theorem all_take_step {s : List UInt8} {i : Nat} (hi : i < s.length) (h : (s.take i).all vis = true) : (s.take (i + 1)).all vis = vis s[i] := by
  rw [List.take_succ_eq_append_getElem hi, List.all_append, h]; simp
theorem all_bad {s : List UInt8} {i : Nat} (hi : i < s.length) (h : vis s[i] = false) : s.all vis = false := by
  rw [List.all_eq_false]
  exact ⟨s[i], List.getElem_mem hi, by rw [h]; simp⟩
set_option maxRecDepth 100000 in
theorem vis_any (s : List UInt8) (w : World) (hs : s.length ≤ 9223372036854775807) :
    Calls Tryd.prog 86 #[.string (sb s)] w fun e w' => ∃ b, e = .returned (.bool b) ∧ b = s.all vis ∧ w = w' := by
  refine calls_ev (args := [.string (sb s)]) mixed Tryd.func86 rfl (by kernel_rfl) ?_
  refine p_lenS u_str rfl ?_
  refine lp Nat (fun i W => w = W ∧ i ≤ s.length ∧ (s.take i).all vis = true) (fun i => [(0, .string (sb s)), (5, .int .i64 (sb s).size), (6, .int .i64 i)]) (fun i => s.length - i) 0 ⟨rfl, by omega, by simp⟩ ⟨rfl, rfl, rfl, trivial⟩ ?_
  rintro i B W ⟨rfl, hi, hv⟩
  have hz := sb_size s
  refine p_lt rfl rfl (fun h => ?_) (fun h => ?_)
  · have hlt : i < s.length := by omega
    have hg : (sb s)[i]? = some s[i] := by rw [sb_get, List.getElem?_eq_getElem hlt]
    have hst := all_take_step hlt hv
    refine p_atS u_str rfl rfl rfl hg ?_
    refine p_lt rfl rfl (fun h1 => ?_) (fun h1 => ?_)
    · exact ⟨false, rfl, (all_bad hlt (by unfold vis; rw [decide_eq_false (by omega)]; rfl)).symm, rfl⟩
    · refine p_atS u_str rfl rfl rfl hg ?_
      refine p_gt rfl rfl (fun h2 => ?_) (fun h2 => ?_)
      · exact ⟨false, rfl, (all_bad hlt (by unfold vis; rw [decide_eq_false (p := _ ≤ 126) (by omega)]; simp)).symm, rfl⟩
      · refine p_add rfl rfl (w64 (by omega)) ?_
        refine ⟨i + 1, ⟨rfl, by omega, ?_⟩, ⟨rfl, rfl, rfl, trivial⟩, by omega⟩
        rw [hst]; unfold vis; rw [decide_eq_true (by omega), decide_eq_true (by omega)]; rfl
  · refine ⟨true, rfl, ?_, rfl⟩
    rw [List.take_of_length_le (by omega)] at hv
    exact hv.symm

theorem sb_nil {s : List UInt8} : sb s = ⟨#[]⟩ ↔ s = [] := by
  constructor
  · intro h; have := congrArg (fun x : ByteArray => x.data.toList) h; simpa [sb] using this
  · rintro rfl; rfl
set_option maxRecDepth 100000 in
theorem right_any (v : Val) (w : World) (hs : v.s.length ≤ 9223372036854775807) :
    Calls Tryd.prog 79 #[vv_ v] w fun e w' => ∃ b, e = .returned (.bool b) ∧ b = rightB v ∧ Below w.heap.size w w' := by
  refine calls_ev (args := [vv_ v]) mixed Tryd.func79 rfl (by kernel_rfl) ?_
  refine v_boxB (vc v) rfl ?_
  rintro g W hg hB hb hsz
  rw [← hg]
  have hz := sb_size v.s
  repeat' first
    | (refine p_eq rfl rfl (fun _ => ?_) (fun _ => ?_) <;> try (exfalso; omega))
    | (refine p_ne rfl rfl (fun _ => ?_) (fun _ => ?_) <;> try (exfalso; omega))
    | (refine p_lt rfl rfl (fun _ => ?_) (fun _ => ?_) <;> try (exfalso; omega))
    | (refine p_le rfl rfl (fun _ => ?_) (fun _ => ?_) <;> try (exfalso; omega))
    | (refine p_gt rfl rfl (fun _ => ?_) (fun _ => ?_) <;> try (exfalso; omega))
    | (refine p_ge rfl rfl (fun _ => ?_) (fun _ => ?_) <;> try (exfalso; omega))
    | (refine p_seq rfl rfl (fun _ => ?_) (fun _ => ?_))
    | (refine p_sne rfl rfl (fun _ => ?_) (fun _ => ?_))
    | (refine p_not rfl ?_)
    | (refine p_lenS u_str rfl ?_)
    | (refine p_fld fv0 rfl ?_)
    | (refine p_fld fv1 rfl ?_)
    | (refine p_fld fv2 rfl ?_)
    | (refine v_load agg_int rfl (hB.at_ rfl) ?_)
    | (refine v_load agg_str rfl (hB.at_ rfl) ?_)
  all_goals first
    | (refine ⟨true, rfl, ?_, hb⟩; clear hB hb; simp_all [rightB, sb_nil] <;> omega)
    | (refine ⟨false, rfl, ?_, hb⟩; clear hB hb; simp_all [rightB, sb_nil] <;> omega)
    | skip
  · refine cc is_vis (vis_any v.s _ hs) ?_
    rintro e w' ⟨b, rfl, hv, rfl⟩
    refine ⟨_, rfl, ?_⟩
    cases b
    · refine ⟨false, rfl, ?_, hb⟩; clear hB hb; simp_all [rightB] <;> omega
    · refine ⟨true, rfl, ?_, hb⟩; clear hB hb; simp_all [rightB] <;> omega

theorem ret_i {a b : Int} (h : a = b) : Ending.returned (.int .i64 a) = .returned (.int .i64 b) := by rw [h]
set_option maxRecDepth 100000 in
theorem chk_any (v : Val) (w : World) (hs : v.s.length ≤ 9223372036854775807) :
    Calls Tryd.prog 70 #[vv_ v] w fun e w' => e = .returned (.int .i64 (chkE v)) ∧ Below w.heap.size w w' := by
  refine calls_ev (args := [vv_ v]) mixed Tryd.func70 rfl (by kernel_rfl) ?_
  refine v_boxB (vc v) rfl ?_
  rintro g W hg hB hb hsz
  rw [← hg]
  refine v_loadN (vc v) agg_val rfl rfl (hB.run 0 (vc v) (fun j v h => by rw [Nat.zero_add]; exact h)) ?_
  refine cc is_right (right_any v W hs) ?_
  rintro e W2 ⟨b, rfl, hr, hb2⟩
  refine ⟨_, rfl, ?_⟩
  have B2 := hb.trans (hb2.mono (by omega))
  cases b
  · refine p_not rfl ?_
    exact ⟨ret_i (by unfold chkE; rw [← hr]; rfl), B2⟩
  · refine p_not rfl ?_
    exact ⟨ret_i (by unfold chkE; rw [← hr]; rfl), B2⟩
theorem right_k {v : Val} (h : rightB v = true) : 1 ≤ v.k ∧ v.k ≤ 5 := by
  unfold rightB at h
  repeat' split at h
  all_goals first | omega | cases h
end Go.Proofs.YtejbljopighenaaDoor
namespace Go.Proofs.YtejbljopighenaaDoor
open Go.RowKit

def putAt (cs : List Value) : Nat → List Value → List Value
  | _, [] => cs
  | i, v :: r => putAt (cs.set i v) (i + 1) r
def fillL (place : Nat → Option (Nat × Nat)) (cells : List Value) : List (Nat × Value) → Option (List Value)
  | [] => some cells
  | (i, v) :: rest => match place i with
    | none => none
    | some (off, size) => match Nat.beq v.cells.size size && Nat.ble (off + v.cells.size) cells.length with
      | true => fillL place (putAt cells off v.cells.toList) rest
      | false => none
theorem foldl_put : ∀ (r : List Value) (off j : Nat) (cs : List Value), (r.zipIdx j).foldl (fun cs x => cs.setIfInBounds (off + x.2) x.1) cs.toArray = (putAt cs (off + j) r).toArray
  | [], off, j, cs => rfl
  | v :: r, off, j, cs => by
    simp only [List.zipIdx_cons, List.foldl_cons, List.setIfInBounds_toArray, putAt]
    rw [foldl_put r off (j + 1), Nat.add_assoc]
theorem fill_eq (place : Nat → Option (Nat × Nat)) : ∀ (parts : List (Nat × Value)) (cs vs : List Value), fillL place cs parts = some vs → Instr.fill place cs.toArray parts = some vs.toArray
  | [], cs, vs, h => by
    injection h with h
    subst h
    rfl
  | (i, v) :: rest, cs, vs, h => by
    unfold fillL at h
    unfold Instr.fill
    cases hp : place i with
    | none => rw [hp] at h; cases h
    | some q =>
      obtain ⟨off, size⟩ := q
      rw [hp] at h
      simp only [] at h ⊢
      split at h
      · rename_i hb
        simp only [Bool.and_eq_true] at hb
        have h1 : v.cells.size = size := Nat.eq_of_beq_eq_true hb.1
        have h2 : off + v.cells.size ≤ cs.length := Nat.le_of_ble_eq_true hb.2
        have hc : ¬ ((v.cells.size ≠ size || off + v.cells.size > cs.toArray.size) = true) := by simp [h1]; omega
        have e : v.cells.zipIdx.foldl (fun cs x => cs.setIfInBounds (off + x.2) x.1) cs.toArray = (putAt cs off v.cells.toList).toArray := by
          rw [← Array.foldl_toList, Array.toList_zipIdx]
          exact foldl_put v.cells.toList off 0 cs
        rw [if_neg hc]
        have ih := fill_eq place rest _ _ h
        rw [← e] at ih
        exact ih
      · cases h

/-- A struct's fields: where each begins, how many cells it has. -/
def placesOf (P : Program) (t : TypeId) : Option (List (Nat × Nat)) :=
  match P.underlying t with
  | some (.struct fs) => fs.toList.mapM fun f => (P.info? f.type).map fun i => (f.offset, i.size)
  | _ => none
def zeroOf (P : Program) (t : TypeId) : Option (List Value) := (P.info? t).bind fun i => i.zero.map fun z => z.cells.toList

section
variable {P : Program} {E : Env} {d : Option Nat} {ty : TypeId} {p : String} {af : Array Edge} {gd : Option (Nat × Bool)} {x y : Operand} {t : TypeId} {k : Value → Prop} {kw : Value → World → Prop} {w : World}
theorem zero_run {zs : List Value} (h : zeroOf P t = some zs) (w : World) : ∃ z, (zeroValue t).run P w = .ok z w ∧ z.cells.toList = zs := by
  obtain ⟨i, hi1, hi2⟩ := Option.bind_eq_some_iff.1 h
  obtain ⟨z, hz1, hz2⟩ := Option.map_eq_some_iff.1 hi2
  exact ⟨z, by simp [zeroValue, typeInfo, hi1, hz1], hz2⟩
theorem mapM_places {P : Program} : ∀ (fs : List Field) (ps : List (Nat × Nat)) (w : World), fs.mapM (fun f => (P.info? f.type).map fun i => (f.offset, i.size)) = some ps → (fs.mapM (m := Sem) fun f => do pure (f.offset, ← sizeOf f.type)).run P w = .ok ps w
  | [], ps, w, h => by injection h with h; subst h; rfl
  | f :: fs, ps, w, h => by
    rw [List.mapM_cons] at h
    obtain ⟨q, hq, h⟩ := Option.bind_eq_some_iff.1 h
    obtain ⟨qs, hqs, h⟩ := Option.bind_eq_some_iff.1 h
    injection h with h
    subst h
    obtain ⟨i, hi, rfl⟩ := Option.map_eq_some_iff.1 hq
    have ih := mapM_places fs qs w hqs
    simp only [List.mapM_cons, Sem.run_bind, sizeOf, typeInfo, run_program, Result.andThen_ok, hi, Sem.run_pure] at ih ⊢
    simp only [ih, Result.andThen_ok]
theorem p_build {parts : Array (Nat × Operand)} {ps : List (Nat × Nat)} {zs vs : List Value} (hp : placesOf P t = some ps) (hz : zeroOf P t = some zs) (hv : fillL (nth ps) zs (parts.toList.map fun x => (x.1, val E x.2)) = some vs) (h : k (.agg vs.toArray)) :
    VPure P E { dst := d, op := .build t parts, type := ty, pos := p, after := af, guard := gd } k := by
  refine pp (fun w => ?_) h
  unfold placesOf at hp
  split at hp
  · rename_i fs hu
    obtain ⟨z, hzr, hzc⟩ := zero_run hz w
    have hm := mapM_places _ _ w hp
    have hf := fill_eq _ _ _ _ hv
    have e1 : (parts.map fun x => (x.1, val E x.2)).toList = parts.toList.map fun x => (x.1, val E x.2) := by simp
    have e2 : (nth ps) = (ps.toArray[·]?) := by funext j; rw [nth_eq]; simp
    rw [e2, ← hzc] at hf
    simp only [execOp, Instr.build, Sem.run_bind, hzr, Result.andThen_ok, run_underlying hu, Array.mapM_eq_mapM_toList, Sem.run_map]
    rw [hm]
    simp only [Result.andThen_ok, e1]
    have e3 : z.cells = z.cells.toList.toArray := by simp
    rw [e3, hf]
    rfl
  · cases hp
/-- A slice that is built: a new block. -/
theorem v_bslice {parts : Array (Nat × Operand)} {n s : Nat} {e : TypeId} {zs vs : List Value} (hT : slOf P t = some (e, s)) (hz : zeroOf P e = some zs) (hzl : zs.length = s) (hn : (Nat.ble 1 (n * s) && Nat.ble (n * s) 1000) = true)
    (hv : fillL (fun i => some (i * s, s)) ((List.range (n * s)).map fun i => zs.getD (i % s) (.tuple #[])) (parts.toList.map fun x => (x.1, val E x.2)) = some vs)
    (h : ∀ g w', g = w.heap.size → Blk w' g e vs → Below g w w' → w'.heap.size = g + 1 → kw (.slice (some ⟨g, 0, none⟩) n n) w') :
    VVal P E { dst := d, op := .buildSlice t n parts, type := ty, pos := p, after := af, guard := gd } w kw := by
  obtain ⟨hu, info, hi1, hi2⟩ := slOf_spec hT
  obtain ⟨z, hzr, hzc⟩ := zero_run hz w
  simp only [Bool.and_eq_true] at hn
  have h1 : 1 ≤ n * s := Nat.le_of_ble_eq_true hn.1
  have h2 : n * s ≤ 1000 := Nat.le_of_ble_eq_true hn.2
  refine vv (v := .slice (some ⟨w.heap.size, 0, none⟩) n n) (w' := w.alloc (.cells vs.toArray e)) ?_ (h _ _ rfl (Blk.new w vs e) ((Below.refl _ _).alloc (Nat.le_refl _) _) (by simp))
  have hf := fill_eq _ _ _ _ hv
  have e1 : (parts.map fun x => (x.1, val E x.2)).toList = parts.toList.map fun x => (x.1, val E x.2) := by simp
  have hsz : (sizeOf e).run P w = .ok s w := by simp [sizeOf, typeInfo, hi1, hi2]
  have hzs : z.cells.size = s := by rw [← hzl, ← hzc]; simp
  have hs0 : 0 < s := Nat.pos_of_ne_zero (fun e => by subst e; simp at h1)
  have e2 : ((Array.range (n * s)).map fun i => z.cells[i % z.cells.size]!) = ((List.range (n * s)).map fun i => zs.getD (i % s) (.tuple #[])).toArray := by
    apply Array.toList_inj.1
    simp only [Array.toList_map, Array.toList_range]
    refine List.map_congr_left fun i _ => ?_
    have hlt : i % s < z.cells.size := by rw [hzs]; exact Nat.mod_lt _ hs0
    rw [hzs, ← hzc]
    simp [hlt]
  simp only [execOp, Instr.buildSlice, Sem.run_bind, run_underlying hu, Result.andThen_ok, hsz]
  rw [if_neg (show ¬ n * s > 2 ^ 24 by omega), if_neg (show ¬ n * s = 0 by omega)]
  simp only [Sem.run_bind, Sem.run_pure, Result.andThen_ok, hzr, e2, e1, hf]
  simp [newRow]
end

/-- [ ]byte(s) -/
theorem v_s2b {E : Env} {d : Option Nat} {ty : TypeId} {p : String} {af : Array Edge} {gd : Option (Nat × Bool)} {x : Operand} {kw : Value → World → Prop} {w : World} {l : List UInt8} (hx : val E x = .string (sb l))
    (h : ∀ g c w', g = w.heap.size → Rd w' w'.heap.size (some ⟨g, 0, none⟩) l.length l → l.length ≤ c → Below g w w' → w'.heap.size = g + 1 → kw (.slice (some ⟨g, 0, none⟩) l.length c) w') :
    VVal Tryd.prog E { dst := d, op := .convert 9 22 x, type := ty, pos := p, after := af, guard := gd } w kw := by
  have hr := run_bytes_of_string (P := Tryd.prog) w 9 22 5 (sb l) (by kernel_rfl) Tryd.underlying22 Tryd.underlying5
  have hsz : (sb l).size = l.length := by simp [sb, ByteArray.size]
  rw [hsz] at hr
  refine vv (by simp only [execOp, hx, Sem.run_bind, hr, Result.andThen_ok, Sem.run_pure]; rfl) (h _ _ _ rfl ?_ (grownCap_ge _ _ _ _) ?_ (by simp))
  · refine ⟨by rw [bvs_length]; simp, fun hn => ⟨_, 0, rfl, by simp, fun j u hu => ?_⟩⟩
    rw [Nat.zero_add]
    have hj : j < l.length := by have := (List.getElem?_eq_some_iff.1 hu).1; rwa [bvs_length] at this
    have hcell : ∀ (C : Array Value) (fr : Nat × Nat), (w.drew.alloc (.cells C 5 fr)).cell? ⟨w.heap.size, j, none⟩ = C[j]? := by
      intro C fr
      have : (w.drew.alloc (.cells C 5 fr)).heap[w.heap.size]? = some (.cells C 5 fr) := by
        show (w.heap.push _)[w.heap.size]? = _
        simp
      unfold World.cell?
      rw [this]
      rfl
    rw [hcell]
    unfold bytesRow
    have : j < ((sb l).data.map (fun b => Value.int .u8 b.toNat)).size := by simp [sb, hj]
    rw [Array.getElem?_append_left this]
    simpa [bvs, sb, u8v] using hu
  · exact ((Below.refl _ _).drew.alloc (Nat.le_refl _) _)
end Go.Proofs.YtejbljopighenaaDoor
namespace Go.Proofs.YtejbljopighenaaDoor
open Go.RowKit
section
variable {P : Program} {E : Env} {d : Option Nat} {ty : TypeId} {p : String} {af : Array Edge} {g : Option (Nat × Bool)} {x y z : Operand} {t u : TypeId} {k : Value → Prop} {S : World → Prop} {kw : Value → World → Prop} {w w' : World} {o : Oper} {v : Value}
def isPtr (P : Program) (t : TypeId) : Bool := match P.underlying t with | some (.pointer _) => true | _ => false
def isSl (P : Program) (t : TypeId) : Bool := match P.underlying t with | some (.slice _) => true | _ => false
theorem isPtr_spec (h : isPtr P t = true) : ∃ e, P.underlying t = some (.pointer e) := by
  unfold isPtr at h; split at h <;> simp_all
theorem isSl_spec (h : isSl P t = true) : ∃ e, P.underlying t = some (.slice e) := by
  unfold isSl at h; split at h <;> simp_all
theorem eq_ptr1 {e : TypeId} (he : P.underlying t = some (.pointer e)) (d : Nat) (ad : Addr) (w : World) : (Op.equalIn (d + 1) t (.pointer (some ad)) (.pointer none)).run P w = .ok false w := by
  simp [Op.equalIn, run_underlying he]
theorem eq_sl1 {e : TypeId} (he : P.underlying t = some (.slice e)) (d : Nat) (ad : Addr) (n c : Nat) (w : World) : (Op.equalIn (d + 1) t (.slice (some ad) n c) (.slice none 0 0)).run P w = .ok false w := by
  simp [Op.equalIn, run_underlying he]
theorem eq_sl0 {e : TypeId} (he : P.underlying t = some (.slice e)) (d n c : Nat) (w : World) : (Op.equalIn (d + 1) t (.slice none n c) (.slice none 0 0)).run P w = .ok true w := by
  simp [Op.equalIn, run_underlying he]
theorem eq_of {a b : Value} {q : Bool} (h : ∀ d, (Op.equalIn (d + 1) t a b).run P w = .ok q w) : (Op.equal t a b).run P w = .ok q w := h 9999
/-- A pointer that is there is not nil. -/
theorem p_peq {ad : Addr} (hT : isPtr P t = true) (hx : val E x = .pointer (some ad)) (hy : val E y = .pointer none) (h : k (.bool false)) : VPure P E { dst := d, op := .binOp .eql t x y u, type := ty, pos := p, after := af, guard := g } k :=
  pp (fun w => by
    obtain ⟨e, he⟩ := isPtr_spec hT
    simp [execOp, hx, hy, eqGuard, binOp, eq_of (fun d => eq_ptr1 (P := P) he d ad w)]) h
/-- A slice held against nil. -/
theorem p_sln {A : Option Addr} {n c : Nat} (hT : isSl P t = true) (hx : val E x = .slice A n c) (hy : val E y = .slice none 0 0) (h0 : A = none → k (.bool true)) (h1 : A ≠ none → k (.bool false)) : VPure P E { dst := d, op := .binOp .eql t x y u, type := ty, pos := p, after := af, guard := g } k := by
  obtain ⟨e, he⟩ := isSl_spec hT
  cases A with
  | none => exact pp (fun w => by simp [execOp, hx, hy, eqGuard, binOp, eq_of (fun d => eq_sl0 (P := P) he d n c w)]) (h0 rfl)
  | some ad => exact pp (fun w => by simp [execOp, hx, hy, eqGuard, binOp, eq_of (fun d => eq_sl1 (P := P) he d ad n c w)]) (h1 (by simp))
/-- A result that lies in memory. -/
theorem c_loadN {n a : Nat} {ad : Addr} (vs : List Value) (hT : aggOf P t = some (true, n)) (hx : E a = .pointer (some ad)) (hn : vs.length = n) (hc : ∀ j v, vs[j]? = some v → w.cell? (ad.add j) = some v) (h : k (.agg vs.toArray)) : VCell P E a t w k :=
  ⟨ad, _, hx, run_loadN hT vs hn hc, h⟩
end
end Go.Proofs.YtejbljopighenaaDoor
namespace Go.Proofs.YtejbljopighenaaDoor
open Go.RowKit
theorem zb : zeroOf Tryd.prog 5 = some [.int .u8 0] := by kernel_rfl
theorem u_u8 : Tryd.prog.underlying 5 = some (.int .u8) := by kernel_rfl
theorem u_u64 : Tryd.prog.underlying 66 = some (.int .u64) := by kernel_rfl
theorem u_int : (Tryd.prog.underlying 3).isSome = true := by kernel_rfl
section
variable {w w' : World} {base n c : Nat} {A : Option Addr} {l : List UInt8}
/-- A block of bytes reads as these. -/
theorem Rd.blk {g : Nat} {l : List UInt8} (h : Blk w g 5 (bvs l)) : Rd w w.heap.size (some ⟨g, 0, none⟩) l.length l :=
  ⟨by rw [bvs_length]; simp, fun _ => ⟨g, 0, rfl, h.lt, fun j u hu => by rw [Nat.zero_add]; exact h.at_ hu⟩⟩
theorem Own.blk {g : Nat} {l : List UInt8} (h : Blk w g 5 (bvs l)) (hb : base ≤ g) (hl : l.length ≤ 1000000000000) : Own w base (some ⟨g, 0, none⟩) l.length l.length l := by
  refine ⟨by rw [bvs_length]; simp, .inr ⟨g, _, _, rfl, hb, h, Nat.le_refl _, by unfold maxLen; omega, by simp [bvs], ?_⟩⟩
  show (bvs l).take (l.length * 1) = bvs l
  rw [List.take_of_length_le (by rw [bvs_length]; omega)]
theorem one_blk {x : Int} (h : 0 ≤ x ∧ x ≤ 255) : [Value.int .u8 x] = bvs [b8 x] := by
  unfold bvs; rw [List.map_cons, List.map_nil, u8v_b8 x h.1 h.2]
theorem Own.upB {B : Nat} (h : Own w base A n c l) (hb : Below B w w') (hB : w.heap.size ≤ B) : Own w' base A n c l := h.below (hb.mono hB)
end
theorem Own.bklo {w : World} {base n c : Nat} {A : Option Addr} {l : List UInt8} (h : Own w base A n c l) : ∀ b, bk A = some b → base ≤ b ∧ b < w.heap.size := fun b e => World.ownsRow.lt h b (by rw [own_bk]; exact e)
section
variable {E : Env} {d : Option Nat} {ty : TypeId} {p : String} {af : Array Edge} {g : Option (Nat × Bool)} {x y z : Operand} {kw : Value → World → Prop} {w w0 : World} {gs : List (Option Nat)}
/-- append of bytes onto a row of the call's own, which stands first among what is written. -/
theorem v_appS {A : Option Addr} {n c : Nat} {l : List UInt8} (hx : val E x = .slice A n c) (hown : Own w w0.heap.size A n c l) {B : Nat} {A2 : Option Addr} {m c2 : Nat} {l2 : List UInt8} (hy : val E y = .slice A2 m c2) (hr : Rd w B A2 m l2) (hsz : n + m ≤ 1000000000000) (hA : At w0 w (bk A :: gs))
    (h : ∀ A' c' w', Own w' w0.heap.size A' (n + m) c' (l ++ l2) → Stp w (bk A :: gs) w' (bk A' :: gs) → At w0 w' (bk A' :: gs) → (A' = none ↔ A = none ∧ m = 0) → w.grownBy w' (bk A) → kw (.slice A' (n + m) c') w') :
    VVal Tryd.prog E { dst := d, op := .call { callee := .builtin .append, args := #[x, y], argTypes := #[22, 22] }, type := ty, pos := p, after := af, guard := g } w kw := by
  obtain ⟨A', c', w', hrun, h2, h3, h4, h5⟩ := run_app (c2 := c2) hown hr hsz hA.size ty
  rw [own_bk, own_bk] at h4
  rw [own_bk] at h3
  have hb' := h2.bklo
  refine vv (v := .slice A' (n + m) c') (w' := w') ?_ (h A' c' w' h2 (Stp.app h3 ?_) (hA.app h3 (fun b e => (hown.bklo b e).1) (fun b e => (hb' b e).2)) h5 h3)
  · simp [execOp, resolve, invoke, builtin, hx, hy, hrun]
  · intro b e
    rcases h4 with h4 | h4
    · exact .inl h4
    · right; rw [h4] at e; injection e with e; omega
/-- A literal of bytes. -/
theorem v_litB {parts : Array (Nat × Operand)} {n : Nat} (vs : List Value) (l : List UInt8) (hn : (Nat.ble 1 (n * 1) && Nat.ble (n * 1) 1000) = true) (hl : l.length = n) (hvs : vs = bvs l)
    (hv : fillL (fun i => some (i * 1, 1)) ((List.range (n * 1)).map fun i => [Value.int .u8 0].getD (i % 1) (.tuple #[])) (parts.toList.map fun x => (x.1, val E x.2)) = some vs) (hA : At w0 w gs)
    (h : ∀ g w', g = w.heap.size → Own w' w0.heap.size (some ⟨g, 0, none⟩) n n l → Stp w gs w' gs → At w0 w' gs → Below w.heap.size w w' → w'.heap.size = g + 1 → kw (.slice (some ⟨g, 0, none⟩) n n) w') :
    VVal Tryd.prog E { dst := d, op := .buildSlice 22 n parts, type := ty, pos := p, after := af, guard := g } w kw := by
  subst hvs
  refine v_bslice (vs := bvs l) slb zb rfl hn hv ?_
  rintro g w' hg hB hb hs
  subst hg; subst hl
  refine h _ w' rfl (Own.blk hB hA.size ?_) (Stp.below hb) (hA.call hb) hb hs
  simp only [Bool.and_eq_true, Nat.ble_eq] at hn
  omega
end
theorem Own.ne_blk {w : World} {base n c g : Nat} {A : Option Addr} {l : List UInt8} {T : TypeId} {cs : List Value} (h : Own w base A n c l) (hB : Blk w g T cs) (hT : T ≠ 5) : bk A ≠ some g := by
  rcases h.2 with ⟨hv, _⟩ | ⟨g', cap, cur, hv, _, hg, _⟩
  · injection hv with hv; subst hv; simp [bk]
  · injection hv with hv; subst hv
    intro e
    injection e with e
    subst e
    have := hB.symm.trans hg
    injection this with this
    injection this with _ e _
    exact hT e
theorem bvs1 (x : Nat) : [Value.int .u8 ((x % 256 : Nat) : Int)] = bvs [UInt8.ofNat x] := by unfold bvs u8v; simp
theorem u8v_nat (x : Nat) : Value.int .u8 ((x % 256 : Nat) : Int) = u8v (UInt8.ofNat x) := by unfold u8v; simp
end Go.Proofs.YtejbljopighenaaDoor
namespace Go.Proofs.YtejbljopighenaaDoor
open Go.RowKit

theorem or128 (x : Int) (h0 : 0 ≤ x) (h1 : x ≤ 255) : bits .or .u8 x 128 = x % 128 + 128 := by
  have h : ∀ y : Fin 256, bits .or .u8 (y.val : Int) 128 = (y.val : Int) % 128 + 128 := by decide +kernel
  have := h ⟨x.toNat, by omega⟩
  simp only [Int.toNat_of_nonneg h0] at this
  exact this

set_option maxRecDepth 100000 in
set_option maxHeartbeats 400000 in
theorem put_any (n : Nat) (w : World) (hlen : (putN n).length ≤ 10) :
    Calls Tryd.prog 26 #[.int .u64 n] w fun e w' => ∃ A' c', e = .returned (.slice A' (putN n).length c') ∧ Own w' w.heap.size A' (putN n).length c' (putN n) ∧ Below w.heap.size w w' := by
  go_enter Tryd.func26, Tryd.ntmps26
  go_wp2
  go_loopw [0, 3] (fun i v wr => ∃ (x : Nat) (o : List UInt8) (k : Nat) (A' : Option Addr) (c' : Nat), i = .int .u64 x ∧ v = .slice A' k c' ∧ Own wr w.heap.size A' k c' o ∧ o ++ putN x = putN n ∧ Below w.heap.size w wr) (fun i _ _ => (intOf i).toNat)
  case atStart => exact ⟨n, [], 0, none, 0, rfl, rfl, Own.nil_ _ _, rfl, Below.refl _ _⟩
  case round =>
    obtain ⟨x, o, k, A', c', rfl, rfl, hown, hx, hb⟩ := hrel
    have hk : k ≤ 10 := by
      have h1 := congrArg List.length hx
      rw [List.length_append, hown.len] at h1
      omega
    have Hx := Lib.hid hx
    clear hx
    by_cases hlt : x < 128
    · have hp := Lib.hid (putN_lt hlt)
      have hw : IntKind.u8.wrap (x : Int) = x := IntWalk.u8_in _ (by omega)
      have hm : (x : Int) % 256 = x := by omega
      go_wp2_with (at_builtin; refine wpList_app rfl _ _ rfl rfl (hown.alloc _) rfl (Rd.lit1 _ _ (by omega)) (by omega) (by simp; have := hb.size; omega) ?_; intro A2 c2 w2 hown2 hg2)
      have hb2 := below_own (belowA hb _) (hown.alloc _) hg2
      go_ret
      have e1 : o ++ [b8 (x : Int)] = putN n := by rw [← hp.out]; exact Hx.out
      rw [e1] at hown2
      have e2 := hown2.len
      exact ⟨A2, c2, ret_slice e2.symm, by rw [e2]; exact hown2, hb2⟩
    · have hp := Lib.hid (putN_ge hlt)
      have hm : IntKind.u8.wrap (x : Int) = (x : Int) % 256 := IntKind.wrap_u8 _
      have ho := or128 ((x : Int) % 256) (by omega) (by omega)
      have he : (x : Int) % 128 + 128 = ((x % 128 + 128 : Nat) : Int) := by omega
      have He := Lib.hid he
      clear he
      go_wp2_with (at_builtin; refine wpList_app rfl _ _ rfl rfl (hown.alloc _) rfl (Rd.lit1 _ _ (by omega)) (by omega) (by simp; have := hb.size; omega) ?_; intro A2 c2 w2 hown2 hg2)
      have hb2 := below_own (belowA hb _) (hown.alloc _) hg2
      clear hm ho
      go_roundw
      case rel => exact ⟨x / 128, o ++ [b8 ((x : Int) % 128 + 128)], k + 1, A2, c2, by go_num, rfl, hown2, by rw [He.out, List.append_assoc, List.singleton_append, ← hp.out]; exact Hx.out, hb2⟩
      case measure => simp [intOf]; omega

set_option maxRecDepth 100000 in
set_option maxHeartbeats 400000 in
theorem putBytes_any (A : Option Addr) (n c : Nat) (l : List UInt8) (w : World) (hr : Rd w w.heap.size A n l) (hn : n ≤ 100000000000) :
    Calls Tryd.prog 44 #[.slice A n c] w fun e w' => ∃ A' c', e = .returned (.slice A' ((putN n).length + n) c') ∧ Own w' w.heap.size A' ((putN n).length + n) c' (putB l) ∧ Below w.heap.size w w' := by
  have hln := Lib.hid hr.len
  have hlen := putN_len10 (n := n) (by omega)
  have hw : IntKind.u64.wrap (n : Int) = n := IntWalk.u64_in _ (by omega)
  go_enter Tryd.func44, Tryd.ntmps44
  go_wp2_with fail
  refine (put_any n _ hlen).mono ?_
  rintro e w1 ⟨A1, c1, rfl, o1, b1⟩
  go_wp2_with (at_builtin; refine wpList_app rfl _ _ rfl rfl o1 rfl (hr.up b1) (by omega) b1.size ?_; intro A2 c2 w2 o2 g2)
  have b2 := below_own b1 o1 g2
  go_ret
  exact ⟨A2, c2, rfl, by unfold putB; rw [hln.out]; exact o2, b2⟩
end Go.Proofs.YtejbljopighenaaDoor
namespace Go.Proofs.YtejbljopighenaaDoor
open Go.RowKit

theorem ret3 {k1 k2 k3 : IntKind} {a b c a' b' c' : Int} (h1 : a = a') (h2 : b = b') (h3 : c = c') : Ending.returned (.tuple #[.int k1 a, .int k2 b, .int k3 c]) = Ending.returned (.tuple #[.int k1 a', .int k2 b', .int k3 c']) := by rw [h1, h2, h3]
theorem and127 (x : Int) (h0 : 0 ≤ x) (h1 : x ≤ 255) : bits .and .u8 x 127 = x % 128 := by
  have h : ∀ y : Fin 256, bits .and .u8 (y.val : Int) 127 = (y.val : Int) % 128 := by decide +kernel
  have := h ⟨x.toNat, by omega⟩
  simp only [Int.toNat_of_nonneg h0] at this
  exact this
theorem acc_lt {acc k x : Nat} (h : acc < 128 ^ k) (hx : x ≤ 127) : acc + x * 128 ^ k < 128 ^ (k + 1) := by
  have h1 : x * 128 ^ k ≤ 127 * 128 ^ k := Nat.mul_le_mul_right _ hx
  rw [Nat.pow_succ]; omega
/-- The number gets seven bits more. -/
theorem or_step (acc k : Nat) (x : Int) (h0 : 0 ≤ x) (h1 : x ≤ 255) (hacc : acc < 128 ^ k) (hk : k ≤ 9) (h9 : k = 9 → x ≤ 1) :
    bits .or .u64 (acc : Int) (IntKind.u64.wrap (IntKind.u64.wrap (bits .and .u8 x 127) * 2 ^ (7 * k))) = ((acc + (x.toNat % 128) * 128 ^ k : Nat) : Int) := by
  rw [and127 x h0 h1]
  obtain ⟨y, rfl⟩ := Int.eq_ofNat_of_zero_le h0
  have e1 : IntKind.u64.wrap ((y : Int) % 128) = ((y % 128 : Nat) : Int) := by rw [IntKind.wrap_u64]; omega
  have hp : (2 : Nat) ^ (7 * k) = 128 ^ k := by rw [Nat.pow_mul]
  have hb : (y % 128) * 128 ^ k < 18446744073709551616 := by
    by_cases e : k = 9
    · subst e
      have hp9 : (128 : Nat) ^ 9 = 9223372036854775808 := by decide
      rw [hp9]
      have : y % 128 ≤ 1 := by have := h9 rfl; omega
      have := Nat.mul_le_mul_right 9223372036854775808 this
      omega
    · have h2 : 128 ^ (k + 1) ≤ 128 ^ 9 := Nat.pow_le_pow_right (by omega) (by omega)
      have hp9 : (128 : Nat) ^ 9 = 9223372036854775808 := by decide
      have h3 : (y % 128) * 128 ^ k ≤ 127 * 128 ^ k := Nat.mul_le_mul_right _ (by omega)
      rw [hp9, Nat.pow_succ] at h2
      omega
  have hpz : (2 : Int) ^ (7 * k) = ((128 ^ k : Nat) : Int) := by
    have : ((2 ^ (7 * k) : Nat) : Int) = ((128 ^ k : Nat) : Int) := by rw [hp]
    rw [← this, Int.natCast_pow]; rfl
  rw [e1, hpz, Int.toNat_natCast, ← Int.natCast_mul]
  have e2 : IntKind.u64.wrap (((y % 128 * 128 ^ k : Nat)) : Int) = ((y % 128 * 128 ^ k : Nat) : Int) := by rw [IntKind.wrap_u64]; omega
  rw [e2]
  have ha : acc < 18446744073709551616 := by
    have h2 : 128 ^ k ≤ 128 ^ 9 := Nat.pow_le_pow_right (by omega) hk
    have hp9 : (128 : Nat) ^ 9 = 9223372036854775808 := by decide
    omega
  have := bits_or_u64_nat acc (y % 128 * 128 ^ k) ha hb
  rw [this]
  congr 1
  rw [Nat.mul_comm, ← hp, Nat.or_comm, ← Nat.two_pow_add_eq_or_of_lt (by rw [hp]; exact hacc), Nat.add_comm]
/-- What Get comes to. -/
def Got (w : World) (l : List UInt8) (at_ : Int) (e : Ending) (w' : World) : Prop := e = .returned (.tuple #[.int .u64 (gN l at_), .int .i64 (gTo l at_), .int .i64 (gE l at_)]) ∧ w = w'

set_option maxRecDepth 100000 in
set_option maxHeartbeats 1600000 in
theorem get_in (A : Option Addr) (n c B a : Nat) (l : List UInt8) (w : World) (hr : Rd w B A n l) (hn : n ≤ 100000000000) (hnc : n ≤ c) (ha : a < n) :
    Calls Tryd.prog 32 #[.slice A n c, .int .i64 a] w (Got w l a) := by
  obtain ⟨b, off, rfl, hB, hcells⟩ := hr.cells (by omega)
  have hln := Lib.hid hr.len
  have Hcells := Lib.hid hcells
  have hca : ¬ c = a := by omega
  clear hcells
  go_enter Tryd.func32, Tryd.ntmps32
  go_wp2
  go_step3
  go_wp2
  go_step3
  go_wp2
  go_loop [7, 8, 23] (fun v e i => ∃ (k acc : Nat), a + k ≤ n ∧ k ≤ 9 ∧ acc < 128 ^ k ∧ i = .int .i64 k ∧ v = .int .u64 acc ∧ e = .int .i64 10 ∧ getF (l.drop (a + k)) k acc = getF (l.drop a) 0 0) (fun _ _ i => n - (intOf i).toNat)
  case atStart => exact ⟨0, 0, by omega, by omega, by simp, rfl, rfl, rfl, rfl⟩
  case round =>
    obtain ⟨k, acc, hkn, hk9, hacc, rfl, rfl, rfl, hg⟩ := hrel
    have Hg := Lib.hid hg
    have Hacc := Lib.hid hacc
    have hal : Hid (a ≤ l.length) := Lib.hid (by rw [hln.out]; omega)
    clear hg hacc
    by_cases hlt : a + k < n
    · have hc : w.cell? ⟨b, off + a + k, none⟩ = some (.int .u8 (at8 l (a + k))) := by rw [Nat.add_assoc]; exact Hcells.out (a + k) hlt
      have h0 := at8_lo l (a + k)
      have h1 := at8_hi l (a + k)
      have hst := Lib.hid (getF_step l a k acc (by rw [hln.out]; exact hlt))
      by_cases h9 : k = 9
      · have hb9 : ((k : Int) == 9) = true := by simp; omega
        have hk0 : (0 : Int) < k := by omega
        by_cases hc1 : 1 < at8 l (a + k)
        · have F := Lib.hid (g_fail hal.out (by decide) (show getF (l.drop a) 0 0 = (0, 0, 11) by rw [← Hg.out, hst.out, if_pos (.inl ⟨h9, hc1⟩)]))
          clear h9
          go_wp2
          go_ret3
          exact ⟨ret3 F.out.2.1.symm F.out.2.2.symm F.out.1.symm, rfl⟩
        · have hd1 : decide (1 < at8 l (a + k)) = false := by simp; omega
          by_cases hz : at8 l (a + k) = 0
          · have hbz : (at8 l (a + k) == 0) = true := by simp [hz]
            have F := Lib.hid (g_fail hal.out (by decide) (show getF (l.drop a) 0 0 = (0, 0, 11) by rw [← Hg.out, hst.out, if_pos (.inr ⟨hz, by omega⟩)]))
            clear h9 hz
            go_wp2
            go_ret3
            exact ⟨ret3 F.out.2.1.symm F.out.2.2.symm F.out.1.symm, rfl⟩
          · have hbz : (at8 l (a + k) == 0) = false := by simp [hz]
            have hv := or_step acc k (at8 l (a + k)) h0 h1 Hacc.out hk9 (by omega)
            have F := Lib.hid (g_done hal.out (show getF (l.drop a) 0 0 = (acc + (at8 l (a + k)).toNat * 128 ^ k, k + 1, 0) by rw [← Hg.out, hst.out, if_neg (by omega), if_pos (by omega)]))
            rw [show (at8 l (a + k)).toNat % 128 = (at8 l (a + k)).toNat by omega] at hv
            have Hv := Lib.hid hv
            have hlt8 : at8 l (a + k) < 128 := by omega
            clear hv hz h9
            go_wp2
            go_ret3
            exact ⟨ret3 (by rw [Hv.out]; exact F.out.2.1.symm) (by rw [F.out.2.2]; omega) F.out.1.symm, rfl⟩
      · have hb9 : ((k : Int) == 9) = false := by simp; omega
        by_cases hz : at8 l (a + k) = 0
        · have hbz : (at8 l (a + k) == 0) = true := by simp [hz]
          by_cases hk0 : 0 < k
          · have hk0' : (0 : Int) < k := by omega
            have F := Lib.hid (g_fail hal.out (by decide) (show getF (l.drop a) 0 0 = (0, 0, 11) by rw [← Hg.out, hst.out, if_pos (.inr ⟨hz, by omega⟩)]))
            clear h9 hz
            go_wp2
            go_ret3
            exact ⟨ret3 F.out.2.1.symm F.out.2.2.symm F.out.1.symm, rfl⟩
          · have hk0' : decide ((0 : Int) < k) = false := by simp; omega
            have hv := or_step acc k (at8 l (a + k)) h0 h1 Hacc.out hk9 (by omega)
            have F := Lib.hid (g_done hal.out (show getF (l.drop a) 0 0 = (acc + (at8 l (a + k)).toNat * 128 ^ k, k + 1, 0) by rw [← Hg.out, hst.out, if_neg (by omega), if_pos (by omega)]))
            rw [show (at8 l (a + k)).toNat % 128 = (at8 l (a + k)).toNat by omega] at hv
            have Hv := Lib.hid hv
            have hlt8 : at8 l (a + k) < 128 := by omega
            clear hv hz h9
            go_wp2
            go_ret3
            exact ⟨ret3 (by rw [Hv.out]; exact F.out.2.1.symm) (by rw [F.out.2.2]; omega) F.out.1.symm, rfl⟩
        · have hbz : (at8 l (a + k) == 0) = false := by simp [hz]
          by_cases hs : at8 l (a + k) < 128
          · have hv := or_step acc k (at8 l (a + k)) h0 h1 Hacc.out hk9 (by omega)
            have F := Lib.hid (g_done hal.out (show getF (l.drop a) 0 0 = (acc + (at8 l (a + k)).toNat * 128 ^ k, k + 1, 0) by rw [← Hg.out, hst.out, if_neg (by omega), if_pos (by omega)]))
            rw [show (at8 l (a + k)).toNat % 128 = (at8 l (a + k)).toNat by omega] at hv
            have Hv := Lib.hid hv
            clear hv hz h9
            go_wp2
            go_ret3
            exact ⟨ret3 (by rw [Hv.out]; exact F.out.2.1.symm) (by rw [F.out.2.2]; omega) F.out.1.symm, rfl⟩
          · have hv := or_step acc k (at8 l (a + k)) h0 h1 Hacc.out hk9 (by omega)
            rw [show (at8 l (a + k)).toNat % 128 = (at8 l (a + k)).toNat - 128 by omega] at hv
            have Hv := Lib.hid hv
            have F := Lib.hid (show getF (l.drop (a + (k + 1))) (k + 1) (acc + ((at8 l (a + k)).toNat - 128) * 128 ^ k) = getF (l.drop a) 0 0 by rw [← Hg.out, hst.out, if_neg (by omega), if_neg (by omega)])
            have Hb := Lib.hid (acc_lt (x := (at8 l (a + k)).toNat - 128) Hacc.out (by omega))
            clear hv hz
            go_wp2
            go_round
            case rel => exact ⟨k + 1, _, by omega, by omega, Hb.out, by go_num, by rw [Hv.out], rfl, F.out⟩
            case measure => simp [intOf]; omega
    · have F := Lib.hid (g_fail hal.out (by decide) (show getF (l.drop a) 0 0 = (0, 0, 10) by rw [← Hg.out, getF_end l a k acc (by rw [hln.out]; omega)]))
      go_wp2
      go_ret3
      exact ⟨ret3 F.out.2.1.symm F.out.2.2.symm F.out.1.symm, rfl⟩

set_option maxRecDepth 100000 in
set_option maxHeartbeats 1600000 in
theorem get_end (A : Option Addr) (n c B : Nat) (l : List UInt8) (w : World) (hr : Rd w B A n l) :
    Calls Tryd.prog 32 #[.slice A n c, .int .i64 n] w (Got w l n) := by
  have F := Lib.hid (g_fail (l := l) (a := n) (x := 10) (by rw [hr.len]; exact Nat.le_refl _) (by decide) (by rw [List.drop_eq_nil_of_le (by rw [hr.len]; exact Nat.le_refl _)]; rfl))
  go_enter Tryd.func32, Tryd.ntmps32
  go_wp2
  go_step3
  go_wp2
  go_step3
  go_wp2
  all_goals
    refine wp_loop_rounds 1 ?_
    rw [rounds_succ]
    go_wp2
    go_ret3
    exact ⟨ret3 F.out.2.1.symm F.out.2.2.symm F.out.1.symm, rfl⟩

set_option maxRecDepth 100000 in
set_option maxHeartbeats 1600000 in
theorem get_any (A : Option Addr) (n c B : Nat) (at_ : Int) (l : List UInt8) (w : World) (hr : Rd w B A n l) (hn : n ≤ 100000000000) (hnc : n ≤ c) :
    Calls Tryd.prog 32 #[.slice A n c, .int .i64 at_] w (Got w l at_) := by
  by_cases ho : at_ < 0
  · have F := Lib.hid (g_out (l := l) (.inl ho))
    go_enter Tryd.func32, Tryd.ntmps32
    go_wp2
    go_step3
    go_wp2
    try rw [Exit.noGoto_ret]
    go_ret3
    exact ⟨ret3 F.out.2.1.symm F.out.2.2.symm F.out.1.symm, rfl⟩
  · by_cases hp : (n : Int) < at_
    · have F := Lib.hid (g_out (l := l) (a := at_) (.inr (by rw [hr.len]; exact hp)))
      go_enter Tryd.func32, Tryd.ntmps32
      go_wp2
      go_step3
      go_wp2
      try rw [Exit.noGoto_ret]
      go_ret3
      exact ⟨ret3 F.out.2.1.symm F.out.2.2.symm F.out.1.symm, rfl⟩
    · obtain ⟨a, rfl⟩ := Int.eq_ofNat_of_zero_le (show 0 ≤ at_ by omega)
      by_cases he : a = n
      · subst he
        exact get_end A a c B l w hr
      · exact get_in A n c B a l w hr hn hnc (by omega)

theorem xor_0 (x : Int) (h0 : 0 ≤ x) (h1 : x ≤ 9223372036854775807) : bits .xor .i64 x 0 = x := by
  obtain ⟨y, rfl⟩ := Int.eq_ofNat_of_zero_le h0
  show IntKind.i64.wrap (((BitVec.ofInt 64 (y : Int)) ^^^ (BitVec.ofInt 64 0)).toNat : Int) = _
  rw [show BitVec.ofInt 64 0 = 0#64 from rfl, BitVec.xor_zero, BitVec.ofInt_natCast, BitVec.toNat_ofNat, IntKind.wrap_i64]
  omega
theorem xor_1 (x : Int) (h0 : 0 ≤ x) (h1 : x ≤ 9223372036854775807) : bits .xor .i64 x (-1) = -x - 1 := by
  obtain ⟨y, rfl⟩ := Int.eq_ofNat_of_zero_le h0
  show IntKind.i64.wrap (((BitVec.ofInt 64 (y : Int)) ^^^ (BitVec.ofInt 64 (-1))).toNat : Int) = _
  have e : BitVec.ofInt 64 (-1) = BitVec.allOnes 64 := by decide
  rw [e, BitVec.xor_allOnes, BitVec.toNat_not, BitVec.ofInt_natCast, BitVec.toNat_ofNat, IntKind.wrap_i64]
  omega
/-- What GetInt comes to. -/
def GotInt (w : World) (l : List UInt8) (at_ : Int) (e : Ending) (w' : World) : Prop := e = .returned (.tuple #[.int .i64 (zag (gN l at_)), .int .i64 (gTo l at_), .int .i64 (gE l at_)]) ∧ w = w'

set_option maxRecDepth 100000 in
set_option maxHeartbeats 1600000 in
theorem getInt_any (A : Option Addr) (n c B : Nat) (at_ : Int) (l : List UInt8) (w : World) (hr : Rd w B A n l) (hn : n ≤ 100000000000) (hnc : n ≤ c) :
    Calls Tryd.prog 93 #[.slice A n c, .int .i64 at_] w (GotInt w l at_) := by
  have h0 := gN_nonneg l at_
  have h1 := gN_lt l at_
  obtain ⟨x, hx⟩ : ∃ x, gN l at_ = x := ⟨_, rfl⟩
  rw [hx] at h0 h1
  have Hx := Lib.hid hx
  clear hx
  have ha := and_one_u64 x h0 (by omega)
  have hw := IntWalk.i64_in (x / 2) (by omega)
  by_cases ho : x % 2 = 1
  · have hz := Lib.hid (show -(x / 2) - 1 = zag x by unfold zag; rw [if_pos ho])
    have hx1 := xor_1 (x / 2) (by omega) (by omega)
    rw [ho] at ha
    go_enter Tryd.func93, Tryd.ntmps93
    go_wp2_with fail
    refine (get_any _ _ _ _ _ _ _ hr hn hnc).mono ?_
    rintro e w' ⟨rfl, rfl⟩
    rw [Hx.out]
    go_wp2_with fail
    go_ret3
    exact ⟨ret3 (by rw [Hx.out]; exact hz.out) rfl rfl, rfl⟩
  · have he : x % 2 = 0 := by omega
    have hz := Lib.hid (show x / 2 = zag x by unfold zag; rw [if_neg ho])
    have hx1 := xor_0 (x / 2) (by omega) (by omega)
    rw [he] at ha
    go_enter Tryd.func93, Tryd.ntmps93
    go_wp2_with fail
    refine (get_any _ _ _ _ _ _ _ hr hn hnc).mono ?_
    rintro e w' ⟨rfl, rfl⟩
    rw [Hx.out]
    go_wp2_with fail
    go_ret3
    exact ⟨ret3 (by rw [Hx.out]; exact hz.out) rfl rfl, rfl⟩
end Go.Proofs.YtejbljopighenaaDoor
namespace Go.Proofs.YtejbljopighenaaDoor
open Go.RowKit

theorem g_to {l : List UInt8} {a : Int} (h : gE l a = 0) : ∃ T : Nat, gTo l a = (T : Int) ∧ T ≤ l.length := by
  obtain ⟨x, t, _, _, _, hT, _, hle, _, _⟩ := g_ok h
  exact ⟨x + t, hT, hle⟩
theorem ret_sie {A A' : Option Addr} {n n' c c' : Nat} {x y x' y' : Int} (h : Value.slice A n c = Value.slice A' n' c') (h1 : x = x') (h2 : y = y') :
    Ending.returned (.tuple #[.slice A n c, .int .i64 x, .int .i64 y]) = Ending.returned (.tuple #[.slice A' n' c', .int .i64 x', .int .i64 y']) := by rw [h, h1, h2]
/-- What GetBytes comes to. -/
def GotBytes (w : World) (l : List UInt8) (at_ : Int) (e : Ending) (w' : World) : Prop :=
  ∃ A' n' c', e = .returned (.tuple #[.slice A' n' c', .int .i64 (gbTo l at_), .int .i64 (gbE l at_)]) ∧ Own w' w.heap.size A' n' c' (gbL l at_) ∧ Below w.heap.size w w'
theorem gotBytes_none {w w' : World} {l : List UInt8} {a : Int} {x : Int} (h : gbE l a = x ∧ gbL l a = [] ∧ gbTo l a = 0) (hb : Below w.heap.size w w') : GotBytes w l a (.returned (.tuple #[.slice none 0 0, .int .i64 0, .int .i64 x])) w' :=
  ⟨none, 0, 0, by rw [h.1, h.2.2], by rw [h.2.1]; exact Own.nil_ _ _, hb⟩

set_option maxRecDepth 100000 in
set_option maxHeartbeats 1600000 in
theorem getBytes_any (A : Option Addr) (n c : Nat) (at_ : Int) (l : List UInt8) (w : World) (hr : Rd w w.heap.size A n l) (hn : n ≤ 100000000000) (hnc : n ≤ c) :
    Calls Tryd.prog 49 #[.slice A n c, .int .i64 at_] w (GotBytes w l at_) := by
  have hln := Lib.hid hr.len
  rcases gb_cases l at_ with h | ⟨h, k⟩ | ⟨h, k, m⟩ | ⟨h, k, m⟩
  · have F := Lib.hid (gb_err1 h)
    have hne : (gE l at_ != 0) = true := by simp [h]
    clear h
    go_enter Tryd.func49, Tryd.ntmps49
    go_wp2_with fail
    refine (get_any _ _ _ _ _ _ _ hr hn hnc).mono ?_
    rintro e w' ⟨rfl, rfl⟩
    go_wp2_with fail
    go_ret3
    exact gotBytes_none F.out (Below.refl _ _)
  · have F := Lib.hid (gb_err2 h k)
    have H := Lib.hid h
    clear h
    go_enter Tryd.func49, Tryd.ntmps49
    go_wp2_with fail
    refine (get_any _ _ _ _ _ _ _ hr hn hnc).mono ?_
    rintro e w' ⟨rfl, rfl⟩
    rw [H.out]
    go_wp2_with fail
    go_ret3
    exact gotBytes_none F.out (Below.refl _ _)
  · have F := Lib.hid (gb_err3 h k m)
    have H := Lib.hid h
    obtain ⟨T, hT, hle⟩ := g_to h
    have h0 := gN_nonneg l at_
    rw [hln.out] at m hle
    rw [hT] at m
    have HT := Lib.hid hT
    have hw : IntKind.u64.wrap ((n : Int) - (T : Int)) = (n : Int) - (T : Int) := IntWalk.u64_in _ (by omega)
    clear h hT
    go_enter Tryd.func49, Tryd.ntmps49
    go_wp2_with fail
    refine (get_any _ _ _ _ _ _ _ hr hn hnc).mono ?_
    rintro e w' ⟨rfl, rfl⟩
    rw [H.out, HT.out]
    go_wp2_with fail
    go_ret3
    exact gotBytes_none F.out (Below.refl _ _)
  · have F := Lib.hid (gb_ok h k m)
    have H := Lib.hid h
    obtain ⟨T, hT, hle⟩ := g_to h
    obtain ⟨N, hN⟩ := Int.eq_ofNat_of_zero_le (gN_nonneg l at_)
    rw [hln.out] at m hle
    rw [hT, hN] at m
    rw [hN] at k
    have HT := Lib.hid hT
    have HN := Lib.hid hN
    have hw : IntKind.u64.wrap ((n : Int) - (T : Int)) = (n : Int) - (T : Int) := IntWalk.u64_in _ (by omega)
    have hTn : T + N ≤ n := by omega
    have hNb : N ≤ 1048576 := by omega
    have eN : T + N - T = N := by omega
    have hcut : Rd w w.heap.size (if c = T then A else A.map (·.add T)) (T + N - T) ((l.drop T).take N) := by rw [eN]; exact hr.mid (i := T) (j := N) (c := c) hTn hnc
    have EN := Lib.hid eN
    clear eN
    clear h hT hN k m
    go_enter Tryd.func49, Tryd.ntmps49
    go_wp2_with fail
    refine (get_any _ _ _ _ _ _ _ hr hn hnc).mono ?_
    rintro e w' ⟨rfl, rfl⟩
    rw [H.out, HT.out, HN.out]
    go_wp2_with (at_builtin; refine wpList_app rfl _ _ rfl rfl (Own.nil_ w w.heap.size) rfl hcut (by omega) (Nat.le_refl _) ?_; intro A2 c2 w2 o2 g2)
    all_goals
      have b2 := below_nil rfl g2
      go_ret3
      refine ⟨A2, N, c2, ret_sie rfl (by rw [F.out.2.2, HT.out, HN.out]) F.out.1.symm, ?_, b2⟩
      rw [F.out.2.1, HT.out, HN.out, Int.toNat_natCast, Int.toNat_natCast]
      rw [Nat.zero_add, EN.out] at o2
      exact o2

theorem xor_none (x : Int) (h0 : 0 ≤ x) (h1 : x ≤ 18446744073709551615) : bits .xor .u64 x 0 = x := by
  obtain ⟨y, rfl⟩ := Int.eq_ofNat_of_zero_le h0
  show IntKind.u64.wrap (((BitVec.ofInt 64 (y : Int)) ^^^ (BitVec.ofInt 64 0)).toNat : Int) = _
  rw [show BitVec.ofInt 64 0 = 0#64 from rfl, BitVec.xor_zero, BitVec.ofInt_natCast, BitVec.toNat_ofNat, IntKind.wrap_u64]
  omega
theorem xor_all (x : Int) (h0 : 0 ≤ x) (h1 : x ≤ 18446744073709551615) : bits .xor .u64 x 18446744073709551615 = 18446744073709551615 - x := by
  obtain ⟨y, rfl⟩ := Int.eq_ofNat_of_zero_le h0
  show IntKind.u64.wrap (((BitVec.ofInt 64 (y : Int)) ^^^ (BitVec.ofInt 64 18446744073709551615)).toNat : Int) = _
  have e : BitVec.ofInt 64 18446744073709551615 = BitVec.allOnes 64 := by decide
  rw [e, BitVec.xor_allOnes, BitVec.toNat_not, BitVec.ofInt_natCast, BitVec.toNat_ofNat, IntKind.wrap_u64]
  omega

set_option maxRecDepth 100000 in
set_option maxHeartbeats 400000 in
theorem putInt_any (x : Int) (w : World) (h0 : -9223372036854775808 ≤ x) (h1 : x ≤ 9223372036854775807) :
    Calls Tryd.prog 71 #[.int .i64 x] w fun e w' => ∃ A' c', e = .returned (.slice A' (putN (zig x)).length c') ∧ Own w' w.heap.size A' (putN (zig x)).length c' (putN (zig x)) ∧ Below w.heap.size w w' := by
  have hlen := putN_len10 (zig_lt h0 h1)
  by_cases hx : x < 0
  · have e1 : IntKind.u64.wrap x = x + 18446744073709551616 := by rw [IntKind.wrap_u64]; omega
    have e2 : IntKind.u64.wrap ((x + 18446744073709551616) * 2) = 18446744073709551616 + 2 * x := by rw [IntKind.wrap_u64]; omega
    have e3 : IntKind.u64.wrap (x / 9223372036854775808) = 18446744073709551615 := by rw [IntKind.wrap_u64]; omega
    have e4 := Lib.hid (xor_all (18446744073709551616 + 2 * x) (by omega) (by omega))
    have e5 := Lib.hid (show 18446744073709551615 - (18446744073709551616 + 2 * x) = ((zig x : Nat) : Int) by unfold zig; rw [if_pos hx]; omega)
    go_enter Tryd.func71, Tryd.ntmps71
    go_wp2_with fail
    rw [e4.out, e5.out]
    refine (put_any _ _ hlen).mono ?_
    rintro e w1 ⟨A1, c1, rfl, o1, b1⟩
    clear e1 e2 e3
    go_wp2_with fail
    go_ret
    exact ⟨A1, c1, rfl, o1, b1⟩
  · have e4 := Lib.hid (xor_none (x * 2) (by omega) (by omega))
    have e3 := Lib.hid (show x / 9223372036854775808 = 0 by omega)
    have e5 := Lib.hid (show x * 2 = ((zig x : Nat) : Int) by unfold zig; rw [if_neg hx]; omega)
    go_enter Tryd.func71, Tryd.ntmps71
    go_wp2_with fail
    rw [e3.out, e4.out, e5.out]
    refine (put_any _ _ hlen).mono ?_
    rintro e w1 ⟨A1, c1, rfl, o1, b1⟩
    go_wp2_with fail
    go_ret
    exact ⟨A1, c1, rfl, o1, b1⟩
end Go.Proofs.YtejbljopighenaaDoor
