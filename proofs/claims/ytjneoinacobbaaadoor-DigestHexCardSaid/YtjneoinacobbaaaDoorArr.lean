/- Operations on arrays. No program in sight. -/
import Derived.Test.YtjneoinacobbaaaDoorBuild
import Derived.Test.YtjneoinacobbaaaDoorOpB
import Derived.Laws.BitsAllLaws
namespace Go.Proofs.YtjneoinacobbaaaDoor
open Go.RowKit
/-- An array's length, its elements' type, their cells. -/
def arrOf (P : Program) (t : TypeId) : Option (Nat × TypeId × Nat) :=
  match P.underlying t with
  | some (.array n e) => (P.info? e).map fun i => (n, e, i.size)
  | _ => none
section
variable {P : Program} {E : Env} {d : Option Nat} {ty : TypeId} {p : String} {af : Array Edge} {g : Option (Nat × Bool)} {x y : Operand} {t : TypeId} {k : Value → Prop} {kd : IntKind}
theorem arrOf_spec {n : Nat} {e : TypeId} {s : Nat} (h : arrOf P t = some (n, e, s)) : P.underlying t = some (.array n e) ∧ ∃ i, P.info? e = some i ∧ i.size = s := by
  unfold arrOf at h
  split at h
  · rename_i n' e' hu
    obtain ⟨i, hi, he⟩ := Option.map_eq_some_iff.1 h
    simp only [Prod.mk.injEq] at he
    obtain ⟨rfl, rfl, he⟩ := he
    exact ⟨hu, i, hi, he⟩
  · cases h
theorem p_atA {ad : Addr} {n i : Nat} {e : TypeId} {s : Nat} {j : Int} (hT : arrOf P t = some (n, e, s)) (hx : val E x = .pointer (some ad)) (hy : val E y = .int kd j) (hj : j = (i : Int)) (hi : i < n)
    (h : k (.pointer (some (ad.add (i * s))))) : VPure P E { dst := d, op := .indexAddr t x y, type := ty, pos := p, after := af, guard := g } k :=
  pp (fun w => by
    obtain ⟨hu, info, hi1, hi2⟩ := arrOf_spec hT
    subst hj
    have h0 : 0 ≤ (i : Int) ∧ (i : Int) < (n : Int) := by omega
    simp [execOp, hx, hy, Instr.indexAt, Instr.sureAddr, run_underlying hu, asIntOf, hi, sizeOf, typeInfo, hi1, hi2]) h
/-- An element of one cell of an array's value. -/
theorem p_idxA {cs : List Value} {n i : Nat} {e : TypeId} {j : Int} {v : Value} (hT : arrOf P t = some (n, e, 1)) (ha : aggOf P e = some (false, 1)) (hx : val E x = .agg cs.toArray) (hy : val E y = .int kd j) (hj : j = (i : Int)) (hi : i < n) (hv : cs[i]? = some v)
    (h : k v) : VPure P E { dst := d, op := .index t x y, type := ty, pos := p, after := af, guard := g } k :=
  pp (fun w => by
    obtain ⟨hu, info, hi1, hi2⟩ := arrOf_spec hT
    subst hj
    have ag := (aggOf_run ha w).1
    simp [execOp, hx, hy, Instr.index, run_underlying hu, asIntOf, hi, sizeOf, typeInfo, hi1, hi2, part, ag, hv]) h
theorem p_buildA {parts : Array (Nat × Operand)} {n s : Nat} {e : TypeId} {zs vs : List Value} (hT : arrOf P t = some (n, e, s)) (hz : zeroOf P t = some zs) (hv : fillL (fun i => some (i * s, s)) zs (parts.toList.map fun x => (x.1, val E x.2)) = some vs) (h : k (.agg vs.toArray)) :
    VPure P E { dst := d, op := .build t parts, type := ty, pos := p, after := af, guard := g } k := by
  refine pp (fun w => ?_) h
  obtain ⟨hu, info, hi1, hi2⟩ := arrOf_spec hT
  obtain ⟨z, hzr, hzc⟩ := zero_run hz w
  have hf := fill_eq _ _ _ _ hv
  have e1 : (parts.map fun x => (x.1, val E x.2)).toList = parts.toList.map fun x => (x.1, val E x.2) := by simp
  rw [← hzc] at hf
  have e3 : z.cells = z.cells.toList.toArray := by simp
  have hs : (sizeOf e).run P w = .ok s w := by simp [sizeOf, typeInfo, hi1, hi2]
  simp only [execOp, Instr.build, Sem.run_bind, hzr, Result.andThen_ok, run_underlying hu, hs, e1]
  rw [e3, hf]
  simp
end
end Go.Proofs.YtjneoinacobbaaaDoor
