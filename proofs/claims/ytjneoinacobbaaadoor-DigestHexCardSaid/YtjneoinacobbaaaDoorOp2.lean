/- More single operations. No program in sight. -/
import Derived.Test.YtjneoinacobbaaaDoorBuild
namespace Go.Proofs.YtjneoinacobbaaaDoor
open Go.RowKit
section
variable {P : Program} {E : Env} {d : Option Nat} {ty : TypeId} {p : String} {af : Array Edge} {g : Option (Nat × Bool)} {x y z : Operand} {t u : TypeId} {k : Value → Prop} {S : World → Prop} {kw : Value → World → Prop} {w w' : World} {o : Oper} {v : Value}
def isPtr (P : Program) (t : TypeId) : Bool := match P.underlying t with | some (.pointer _) => true | _ => false
def isSl (P : Program) (t : TypeId) : Bool := match P.underlying t with | some (.slice _) => true | _ => false
theorem isPtr_spec (h : isPtr P t = true) : ∃ e, P.underlying t = some (.pointer e) := by
  unfold isPtr at h; split at h <;> simp_all
theorem isSl_spec (h : isSl P t = true) : ∃ e, P.underlying t = some (.slice e) := by
  unfold isSl at h; split at h <;> simp_all
theorem eq_ptr1 {e : TypeId} (he : P.underlying t = some (.pointer e)) (d : Nat) (ad : Addr) (w : World) : (Op.equalIn (d + 1) t (.pointer (some ad)) (.pointer none)).run P w = .ok false w := by
  simp [Op.equalIn, run_underlying he]
theorem eq_ptr0 {e : TypeId} (he : P.underlying t = some (.pointer e)) (d : Nat) (w : World) : (Op.equalIn (d + 1) t (.pointer none) (.pointer none)).run P w = .ok true w := by
  simp [Op.equalIn, run_underlying he]
theorem eq_sl1 {e : TypeId} (he : P.underlying t = some (.slice e)) (d : Nat) (ad : Addr) (n c : Nat) (w : World) : (Op.equalIn (d + 1) t (.slice (some ad) n c) (.slice none 0 0)).run P w = .ok false w := by
  simp [Op.equalIn, run_underlying he]
theorem eq_sl0 {e : TypeId} (he : P.underlying t = some (.slice e)) (d n c : Nat) (w : World) : (Op.equalIn (d + 1) t (.slice none n c) (.slice none 0 0)).run P w = .ok true w := by
  simp [Op.equalIn, run_underlying he]
theorem eq_of {a b : Value} {q : Bool} (h : ∀ d, (Op.equalIn (d + 1) t a b).run P w = .ok q w) : (Op.equal t a b).run P w = .ok q w := h 9999
/-- A pointer that is there is not nil. -/
theorem p_peq {ad : Addr} (hT : isPtr P t = true) (hx : val E x = .pointer (some ad)) (hy : val E y = .pointer none) (h : k (.bool false)) : VPure P E { dst := d, op := .binOp .eql t x y u, type := ty, pos := p, after := af, guard := g } k :=
  pp (fun w => by
    obtain ⟨e, he⟩ := isPtr_spec hT
    simp [execOp, hx, hy, eqGuard, binOp, eq_of (fun d => eq_ptr1 (P := P) he d ad w)]) h
theorem p_peq0 (hT : isPtr P t = true) (hx : val E x = .pointer none) (hy : val E y = .pointer none) (h : k (.bool true)) : VPure P E { dst := d, op := .binOp .eql t x y u, type := ty, pos := p, after := af, guard := g } k :=
  pp (fun w => by
    obtain ⟨e, he⟩ := isPtr_spec hT
    simp [execOp, hx, hy, eqGuard, binOp, eq_of (fun d => eq_ptr0 (P := P) he d w)]) h
theorem p_pne {ad : Addr} (hT : isPtr P t = true) (hx : val E x = .pointer (some ad)) (hy : val E y = .pointer none) (h : k (.bool true)) : VPure P E { dst := d, op := .binOp .neq t x y u, type := ty, pos := p, after := af, guard := g } k :=
  pp (fun w => by
    obtain ⟨e, he⟩ := isPtr_spec hT
    simp [execOp, hx, hy, eqGuard, binOp, eq_of (fun d => eq_ptr1 (P := P) he d ad w)]) h
theorem p_pne0 (hT : isPtr P t = true) (hx : val E x = .pointer none) (hy : val E y = .pointer none) (h : k (.bool false)) : VPure P E { dst := d, op := .binOp .neq t x y u, type := ty, pos := p, after := af, guard := g } k :=
  pp (fun w => by
    obtain ⟨e, he⟩ := isPtr_spec hT
    simp [execOp, hx, hy, eqGuard, binOp, eq_of (fun d => eq_ptr0 (P := P) he d w)]) h
/-- A slice held against nil. -/
theorem p_sln {A : Option Addr} {n c : Nat} (hT : isSl P t = true) (hx : val E x = .slice A n c) (hy : val E y = .slice none 0 0) (h0 : A = none → k (.bool true)) (h1 : A ≠ none → k (.bool false)) : VPure P E { dst := d, op := .binOp .eql t x y u, type := ty, pos := p, after := af, guard := g } k := by
  obtain ⟨e, he⟩ := isSl_spec hT
  cases A with
  | none => exact pp (fun w => by simp [execOp, hx, hy, eqGuard, binOp, eq_of (fun d => eq_sl0 (P := P) he d n c w)]) (h0 rfl)
  | some ad => exact pp (fun w => by simp [execOp, hx, hy, eqGuard, binOp, eq_of (fun d => eq_sl1 (P := P) he d ad n c w)]) (h1 (by simp))
theorem p_slnn {A : Option Addr} {n c : Nat} (hT : isSl P t = true) (hx : val E x = .slice A n c) (hy : val E y = .slice none 0 0) (h0 : A = none → k (.bool false)) (h1 : A ≠ none → k (.bool true)) : VPure P E { dst := d, op := .binOp .neq t x y u, type := ty, pos := p, after := af, guard := g } k := by
  obtain ⟨e, he⟩ := isSl_spec hT
  cases A with
  | none => exact pp (fun w => by simp [execOp, hx, hy, eqGuard, binOp, eq_of (fun d => eq_sl0 (P := P) he d n c w)]) (h0 rfl)
  | some ad => exact pp (fun w => by simp [execOp, hx, hy, eqGuard, binOp, eq_of (fun d => eq_sl1 (P := P) he d ad n c w)]) (h1 (by simp))
/-- Two truths. -/
theorem p_beq {a b : Bool} (hT : P.underlying t = some .bool) (hx : val E x = .bool a) (hy : val E y = .bool b) (h : k (.bool (a == b))) : VPure P E { dst := d, op := .binOp .eql t x y u, type := ty, pos := p, after := af, guard := g } k :=
  pp (fun w => by simp [execOp, hx, hy, eqGuard, binOp, run_equal_bool (P := P) w t a b hT]) h
theorem p_bne {a b : Bool} (hT : P.underlying t = some .bool) (hx : val E x = .bool a) (hy : val E y = .bool b) (h : k (.bool (!(a == b)))) : VPure P E { dst := d, op := .binOp .neq t x y u, type := ty, pos := p, after := af, guard := g } k :=
  pp (fun w => by simp [execOp, hx, hy, eqGuard, binOp, run_equal_bool (P := P) w t a b hT]) h
end
end Go.Proofs.YtjneoinacobbaaaDoor
