/- Single operations on bytes, for the walk that reckons. -/
import Derived.Test.YtjneoinacobbaaaDoorCut
import Derived.Test.YtjneoinacobbaaaDoorStr
namespace Go.Proofs.YtjneoinacobbaaaDoor
open Go.RowKit

theorem mixed : Tryd.prog.follows .mixedOrders = true := by kernel_rfl
theorem slb : slOf Tryd.prog 23 = some (5, 1) := by kernel_rfl
theorem slbb : slOf Tryd.prog 22 = some (23, 1) := by kernel_rfl
theorem agg_u8 : aggOf Tryd.prog 5 = some (false, 1) := by kernel_rfl
theorem agg_b : aggOf Tryd.prog 23 = some (false, 1) := by kernel_rfl
theorem agg_int : aggOf Tryd.prog 3 = some (false, 1) := by kernel_rfl

/-- Bytes that are cut out. -/
theorem Rd.sl {w : World} {B n i j m : Nat} {A : Option Addr} {l : List UInt8} (h : Rd w B A n l) (hij : i + j ≤ n) (hm : i + j ≤ m) : Rd w B (slA A m i 1) j ((l.drop i).take j) := by
  have e : slA A m i 1 = if m = i then A else A.map (·.add i) := by unfold slA; rw [Nat.mul_one]
  rw [e]
  by_cases hmi : m = i
  · have hj : j = 0 := by omega
    subst hj
    rw [List.take_zero]
    exact ⟨rfl, fun h => absurd h (by omega)⟩
  · rw [if_neg hmi]
    have h2 := Rd.mid (c := n + i + 1) h hij (by omega)
    rw [if_neg (by omega)] at h2
    exact h2
/-- Bytes that are cut out, to the end. -/
theorem Rd.sle {w : World} {B n i m : Nat} {A : Option Addr} {l : List UInt8} (h : Rd w B A n l) (hij : i ≤ n) (hm : n ≤ m) : Rd w B (slA A m i 1) (n - i) (l.drop i) := by
  have := h.sl (i := i) (j := n - i) (m := m) (by omega) (by omega)
  rw [List.take_of_length_le (by rw [List.length_drop, h.len]; exact Nat.le_refl _)] at this
  exact this
theorem Rd.slh {w : World} {B n j m : Nat} {A : Option Addr} {l : List UInt8} (h : Rd w B A n l) (hj : j ≤ n) (hm : j ≤ m) : Rd w B (slA A m 0 1) j (l.take j) := by
  have := h.sl (i := 0) (j := j) (m := m) (by omega) (by omega)
  simpa using this

section
variable {E : Env} {d : Option Nat} {ty : TypeId} {p : String} {af : Array Edge} {g : Option (Nat × Bool)} {x y z : Operand} {kw : Value → World → Prop} {w : World} {S : World → Prop} {k : Value → Prop}
/-- append of bytes. -/
theorem v_app {base : Nat} {A : Option Addr} {n c : Nat} {l : List UInt8} (hx : val E x = .slice A n c) (hown : Own w base A n c l) {B : Nat} {A2 : Option Addr} {m c2 : Nat} {l2 : List UInt8} (hy : val E y = .slice A2 m c2) (hr : Rd w B A2 m l2) (hsz : n + m ≤ 1000000000000) (hbase : base ≤ w.heap.size)
    (h : ∀ A' c' w', Own w' base A' (n + m) c' (l ++ l2) → w.grownBy w' (Value.slice A n c).ownBlock → (A' = none ↔ A = none ∧ m = 0) → kw (.slice A' (n + m) c') w') :
    VVal Tryd.prog E { dst := d, op := .call { callee := .builtin .append, args := #[x, y], argTypes := #[23, 23] }, type := ty, pos := p, after := af, guard := g } w kw := by
  obtain ⟨A', c', w', hrun, h2, h3, _, h5⟩ := run_app (c2 := c2) hown hr hsz hbase ty
  refine vv (v := .slice A' (n + m) c') (w' := w') ?_ (h A' c' w' h2 h3 h5)
  simp [execOp, resolve, invoke, builtin, hx, hy, hrun]
/-- string(b) -/
theorem v_str {B : Nat} {A : Option Addr} {n c : Nat} {l : List UInt8} (hx : val E x = .slice A n c) (hr : Rd w B A n l) (h : kw (.string (sb l)) w) :
    VVal Tryd.prog E { dst := d, op := .convert 23 9 x, type := ty, pos := p, after := af, guard := g } w kw :=
  vv (by simp only [execOp, hx, Sem.run_bind, run_str hr c, Result.andThen_ok, Sem.run_pure]; rfl) h
theorem t_str {B : Nat} {A : Option Addr} {n c : Nat} {l : List UInt8} (hx : val E x = .slice A n c) (hr : ∀ w, S w → Rd w B A n l) (h : k (.string (sb l))) :
    VHeld Tryd.prog S E { dst := d, op := .convert 23 9 x, type := ty, pos := p, after := af, guard := g } k :=
  th (fun w hw => by simp only [execOp, hx, Sem.run_bind, run_str (hr w hw) c, Result.andThen_ok, Sem.run_pure]; rfl) h
theorem sb_inj {a b : List UInt8} : sb a = sb b ↔ a = b := by
  constructor
  · intro h
    have := congrArg (fun x : ByteArray => x.data.toList) h
    simpa [sb] using this
  · intro h; rw [h]
end
end Go.Proofs.YtjneoinacobbaaaDoor
