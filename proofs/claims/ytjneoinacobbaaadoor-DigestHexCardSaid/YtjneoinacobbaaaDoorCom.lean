/- Facts of bytes that many walks want. -/
import Derived.Test.YtjneoinacobbaaaDoorBuild
import Derived.Test.YtjneoinacobbaaaDoorOpB
import Derived.Test.YtjneoinacobbaaaDoorFp
import Derived.Test.YtjneoinacobbaaaDoorOp2
namespace Go.Proofs.YtjneoinacobbaaaDoor
open Go.RowKit
theorem zb : zeroOf Tryd.prog 5 = some [.int .u8 0] := by kernel_rfl
theorem u_u8 : Tryd.prog.underlying 5 = some (.int .u8) := by kernel_rfl
theorem u_u64 : Tryd.prog.underlying 47 = some (.int .u64) := by kernel_rfl
theorem u_int : (Tryd.prog.underlying 3).isSome = true := by kernel_rfl
section
variable {w w' : World} {base n c : Nat} {A : Option Addr} {l : List UInt8}
/-- A block of bytes reads as these. -/
theorem Rd.blk {g : Nat} {l : List UInt8} (h : Blk w g 5 (bvs l)) : Rd w w.heap.size (some ⟨g, 0, none⟩) l.length l :=
  ⟨by rw [bvs_length]; simp, fun _ => ⟨g, 0, rfl, h.lt, fun j u hu => by rw [Nat.zero_add]; exact h.at_ hu⟩⟩
theorem Own.blk {g : Nat} {l : List UInt8} (h : Blk w g 5 (bvs l)) (hb : base ≤ g) (hl : l.length ≤ 1000000000000) : Own w base (some ⟨g, 0, none⟩) l.length l.length l := by
  refine ⟨by rw [bvs_length]; simp, .inr ⟨g, _, _, rfl, hb, h, Nat.le_refl _, by unfold maxLen; omega, by simp [bvs], ?_⟩⟩
  show (bvs l).take (l.length * 1) = bvs l
  rw [List.take_of_length_le (by rw [bvs_length]; omega)]
theorem one_blk {x : Int} (h : 0 ≤ x ∧ x ≤ 255) : [Value.int .u8 x] = bvs [b8 x] := by
  unfold bvs; rw [List.map_cons, List.map_nil, u8v_b8 x h.1 h.2]
theorem Own.upB {B : Nat} (h : Own w base A n c l) (hb : Below B w w') (hB : w.heap.size ≤ B) : Own w' base A n c l := h.below (hb.mono hB)
end
theorem Own.bklo {w : World} {base n c : Nat} {A : Option Addr} {l : List UInt8} (h : Own w base A n c l) : ∀ b, bk A = some b → base ≤ b ∧ b < w.heap.size := fun b e => World.ownsRow.lt h b (by rw [own_bk]; exact e)
section
variable {E : Env} {d : Option Nat} {ty : TypeId} {p : String} {af : Array Edge} {g : Option (Nat × Bool)} {x y z : Operand} {kw : Value → World → Prop} {w w0 : World} {gs : List (Option Nat)}
/-- append of bytes onto a row of the call's own, which stands first among what is written. -/
theorem v_appS {A : Option Addr} {n c : Nat} {l : List UInt8} (hx : val E x = .slice A n c) (hown : Own w w0.heap.size A n c l) {B : Nat} {A2 : Option Addr} {m c2 : Nat} {l2 : List UInt8} (hy : val E y = .slice A2 m c2) (hr : Rd w B A2 m l2) (hsz : n + m ≤ 1000000000000) (hA : At w0 w (bk A :: gs))
    (h : ∀ A' c' w', Own w' w0.heap.size A' (n + m) c' (l ++ l2) → Stp w (bk A :: gs) w' (bk A' :: gs) → At w0 w' (bk A' :: gs) → (A' = none ↔ A = none ∧ m = 0) → w.grownBy w' (bk A) → kw (.slice A' (n + m) c') w') :
    VVal Tryd.prog E { dst := d, op := .call { callee := .builtin .append, args := #[x, y], argTypes := #[23, 23] }, type := ty, pos := p, after := af, guard := g } w kw := by
  obtain ⟨A', c', w', hrun, h2, h3, h4, h5⟩ := run_app (c2 := c2) hown hr hsz hA.size ty
  rw [own_bk, own_bk] at h4
  rw [own_bk] at h3
  have hb' := h2.bklo
  refine vv (v := .slice A' (n + m) c') (w' := w') ?_ (h A' c' w' h2 (Stp.app h3 ?_) (hA.app h3 (fun b e => (hown.bklo b e).1) (fun b e => (hb' b e).2)) h5 h3)
  · simp [execOp, resolve, invoke, builtin, hx, hy, hrun]
  · intro b e
    rcases h4 with h4 | h4
    · exact .inl h4
    · right; rw [h4] at e; injection e with e; omega
/-- A literal of bytes. -/
theorem v_litB {parts : Array (Nat × Operand)} {n : Nat} (vs : List Value) (l : List UInt8) (hn : (Nat.ble 1 (n * 1) && Nat.ble (n * 1) 1000) = true) (hl : l.length = n) (hvs : vs = bvs l)
    (hv : fillL (fun i => some (i * 1, 1)) ((List.range (n * 1)).map fun i => [Value.int .u8 0].getD (i % 1) (.tuple #[])) (parts.toList.map fun x => (x.1, val E x.2)) = some vs) (hA : At w0 w gs)
    (h : ∀ g w', g = w.heap.size → Own w' w0.heap.size (some ⟨g, 0, none⟩) n n l → Stp w gs w' gs → At w0 w' gs → Below w.heap.size w w' → w'.heap.size = g + 1 → kw (.slice (some ⟨g, 0, none⟩) n n) w') :
    VVal Tryd.prog E { dst := d, op := .buildSlice 23 n parts, type := ty, pos := p, after := af, guard := g } w kw := by
  subst hvs
  refine v_bslice (vs := bvs l) slb zb rfl hn hv ?_
  rintro g w' hg hB hb hs
  subst hg; subst hl
  refine h _ w' rfl (Own.blk hB hA.size ?_) (Stp.below hb) (hA.call hb) hb hs
  simp only [Bool.and_eq_true, Nat.ble_eq] at hn
  omega
end
theorem Own.ne_blk {w : World} {base n c g : Nat} {A : Option Addr} {l : List UInt8} {T : TypeId} {cs : List Value} (h : Own w base A n c l) (hB : Blk w g T cs) (hT : T ≠ 5) : bk A ≠ some g := by
  rcases h.2 with ⟨hv, _⟩ | ⟨g', cap, cur, hv, _, hg, _⟩
  · injection hv with hv; subst hv; simp [bk]
  · injection hv with hv; subst hv
    intro e
    injection e with e
    subst e
    have := hB.symm.trans hg
    injection this with this
    injection this with _ e _
    exact hT e
/-- A literal's row is marked as a string's. -/
theorem v_cvtB {E : Env} {d : Option Nat} {ty : TypeId} {p : String} {af : Array Edge} {gd : Option (Nat × Bool)} {x : Operand} {kw : Value → World → Prop} {w : World} {g n c : Nat} {l : List UInt8} (hx : val E x = .slice (some ⟨g, 0, none⟩) n c) (hB : Blk w g 5 (bvs l)) (hn : n = l.length)
    (h : ∀ w', Rd w' w'.heap.size (some ⟨g, 0, none⟩) n l → w.grownBy w' (some g) → w'.heap.size = w.heap.size → kw (.slice (some ⟨g, 0, none⟩) n c) w') :
    VVal Tryd.prog E { dst := d, op := .convert 23 23 x, type := ty, pos := p, after := af, guard := gd } w kw := by
  have hsh : w.shape? g = some (5, (bvs l).length) := by unfold World.shape?; rw [show w.heap[g]? = _ from hB]; simp
  have hg := hB.lt
  have hf : (w.freeze ⟨g, (bvs l).length, none⟩ 1).heap = w.heap.modify g fun
      | .cells c elem (lo, hi) => .cells c elem (if lo == hi then ((bvs l).length, (bvs l).length + 1) else (min lo (bvs l).length, max hi ((bvs l).length + 1)))
      | o => o := by unfold World.freeze; rw [if_neg (by decide)]; rfl
  have hat : (w.freeze ⟨g, (bvs l).length, none⟩ 1).heap[g]? = some (.cells (bvs l).toArray 5 ((bvs l).length, (bvs l).length + 1)) := by
    rw [hf, Array.getElem?_modify, if_pos rfl, show w.heap[g]? = _ from hB]; rfl
  have hsz : (w.freeze ⟨g, (bvs l).length, none⟩ 1).heap.size = w.heap.size := by rw [hf]; simp
  refine vv (v := .slice (some ⟨g, 0, none⟩) n c) (w' := w.freeze ⟨g, (bvs l).length, none⟩ 1) ?_ (h _ ?_ ?_ hsz)
  · have hr : (convert 23 23 (.slice (some ⟨g, 0, none⟩) n c)).run Tryd.prog w = .ok (.slice (some ⟨g, 0, none⟩) n c) (w.freeze ⟨g, (bvs l).length, none⟩ 1) := by
      simp [convert, run_underlying Tryd.underlying23, run_underlying Tryd.underlying5, markStringish, hsh]
    simp only [execOp, hx, Sem.run_bind, hr, Result.andThen_ok, Sem.run_pure]
  · subst hn
    refine ⟨by rw [bvs_length]; simp, fun _ => ⟨g, 0, rfl, by rw [hsz]; exact hg, fun j u hu => ?_⟩⟩
    unfold World.cell?
    simp only [Nat.zero_add, hat]
    simpa using hu
  · exact ⟨rfl, rfl, rfl, by rw [hsz]; exact Nat.le_refl _, fun k _ hk => by
      rw [hf, Array.getElem?_modify, if_neg (fun e => hk (by rw [e]))]⟩
theorem bvs1 (x : Nat) : [Value.int .u8 ((x % 256 : Nat) : Int)] = bvs [UInt8.ofNat x] := by unfold bvs u8v; simp
theorem u8v_nat (x : Nat) : Value.int .u8 ((x % 256 : Nat) : Int) = u8v (UInt8.ofNat x) := by unfold u8v; simp
end Go.Proofs.YtjneoinacobbaaaDoor
