/- Rows of the call's own, of whatever elements; append onto them. No program in sight. Facts of bytes that many walks want. -/
import Derived.Test.YtdlljmmgkoeilaaDoorG03
namespace Go.Proofs.YtdlljmmgkoeilaaDoor
open Go.RowKit
section
variable {P : Program} {E : Env} {d : Option Nat} {ty : TypeId} {p : String} {af : Array Edge} {gd : Option (Nat × Bool)} {x y : Operand} {t : TypeId} {kw : Value → World → Prop} {w : World}
/-- A block reads as its cells. -/
theorem Reads.blk {g : Nat} {e : TypeId} {size n : Nat} {cs : List Value} (h : Blk w g e cs) (hl : cs.length = n * size) : Reads w w.heap.size size (some ⟨g, 0, none⟩) n cs :=
  ⟨hl, fun _ => ⟨g, 0, rfl, h.lt, fun j u hu => by rw [Nat.zero_add]; exact h.at_ hu⟩⟩
theorem ownsRow_below {base : Nat} {e : TypeId} {size n : Nat} {v : Value} {xs : List Value} {w' : World} (h : w.ownsRow base e size v n xs) (hb : Below w.heap.size w w') : w'.ownsRow base e size v n xs :=
  World.ownsRow.kept h (row := none) ⟨hb.os, hb.tape, hb.output, hb.size, fun k hk _ => hb.block k hk⟩ (by cases v.ownBlock <;> simp)
end
section
variable {W W' w w0 : World} {F : Nat → Prop} {gs gs' : List (Option Nat)}
/-- A slice that reads as data: its cells. -/
theorem RdD.reads {s n n' c : Nat} {l : List D} {A : Option Addr} (h : RdD W F (.sl s n l) (.slice A n' c)) (hF : ∀ b, F b → b < W.heap.size) : ∃ cs, Reads W W.heap.size s A n' cs ∧ RdL W F l cs := by
  have hs := h.slen
  obtain ⟨A', c2, cs, h1, h2, h3, h4, h5⟩ := RdD.sl_iff.1 h
  injection h1 with e1 _ _
  subst e1; subst hs
  refine ⟨cs, ⟨by rw [h4.len, h3], fun hn => ?_⟩, h4⟩
  obtain ⟨b, off, h6, h7, h8⟩ := h5 hn
  exact ⟨b, off, h6, hF b h7, h8⟩
def D.One : D → Prop
  | .v x => x.oneCell' = true
  | .sl .. => True
theorem RdD.one' {d : D} {u : Value} (h : RdD W F d u) (ho : d.One) : u.oneCell' = true := by
  cases d with
  | v x => rw [RdD.val.1 h]; exact ho
  | sl s n l => obtain ⟨A, c, e, _⟩ := h.open_; rw [e]; rfl
theorem RdL.ones : ∀ {ds : List D} {cs : List Value}, RdL W F ds cs → (∀ d ∈ ds, d.One) → ∀ u ∈ cs, u.oneCell' = true
  | [], cs, h, _, u, hu => by rw [h.isnil] at hu; cases hu
  | d :: ds, cs, h, ho, u, hu => by
    obtain ⟨v, vs, rfl, h1, h2⟩ := h.uncons
    rcases List.mem_cons.1 hu with rfl | hu
    · exact h1.one' (ho d (by simp))
    · exact RdL.ones h2 (fun d hd => ho d (by simp [hd])) u hu
theorem row_bklo {base n c s : Nat} {e : TypeId} {A : Option Addr} {xs : List Value} (h : W.ownsRow base e s (.slice A n c) n xs) : ∀ b, bk A = some b → base ≤ b ∧ b < W.heap.size := fun b hb => World.ownsRow.lt h b (by rw [own_bk]; exact hb)
theorem row_kept' {base n c s : Nat} {e : TypeId} {A : Option Addr} {xs : List Value} {r : Option Nat} (h : W.ownsRow base e s (.slice A n c) n xs) (hg : W.grownBy W' r) (hne : bk A = none ∨ bk A ≠ r) : W'.ownsRow base e s (.slice A n c) n xs := World.ownsRow.kept h hg (by rw [own_bk]; exact hne)
theorem row_less {base base' n s : Nat} {e : TypeId} {v : Value} {xs : List Value} (h : W.ownsRow base e s v n xs) (hb : base' ≤ base) : W.ownsRow base' e s v n xs := by
  refine ⟨h.1, ?_⟩
  rcases h.2 with h2 | ⟨g, cap, cur, h3, h4, h5⟩
  · exact .inl h2
  · exact .inr ⟨g, cap, cur, h3, by omega, h5⟩
/-- A new block of cells as a row. -/
theorem row_blk {base g n s : Nat} {e : TypeId} {cs : List Value} (hB : Blk W g e cs) (hb : base ≤ g) (hl : cs.length = n * s) (hn : n ≤ 1000000000) : W.ownsRow base e s (.slice (some ⟨g, 0, none⟩) n n) n cs :=
  ⟨hl, .inr ⟨g, n, cs.toArray, rfl, hb, hB, Nat.le_refl _, by unfold maxLen; omega, by simpa using hl, by simp [← hl]⟩⟩
end
section
variable {P : Program} {E : Env} {d : Option Nat} {ty : TypeId} {p : String} {af : Array Edge} {gd : Option (Nat × Bool)} {x y : Operand} {t : TypeId} {kw : Value → World → Prop} {w w0 : World} {gs : List (Option Nat)}
/-- append onto a row of the call's own, which stands first among what is written. -/
theorem v_appR {e : TypeId} {z : Value} {size bytes : Nat} (hT : P.underlying t = some (.slice e)) (hi : (P.info? e).map (fun i => (i.zero, i.size, i.bytes)) = some (some z, size, bytes)) (hzs : z.cells.size = size) (hs0 : 0 < size)
    {A : Option Addr} {n c : Nat} {xs : List Value} (hx : val E x = .slice A n c) (hown : w.ownsRow w0.heap.size e size (.slice A n c) n xs) {B : Nat} {A2 : Option Addr} {m c2 : Nat} {news : List Value} (hy : val E y = .slice A2 m c2) (hr : Reads w B size A2 m news) (h1 : ∀ u ∈ news, u.oneCell' = true)
    (hsz : n + m ≤ 1000000000 ∧ bytes ≤ 1000) (hA : At w0 w (bk A :: gs))
    (h : ∀ A' c' w', w'.ownsRow w0.heap.size e size (.slice A' (n + m) c') (n + m) (xs ++ news) → Stp w (bk A :: gs) w' (bk A' :: gs) → At w0 w' (bk A' :: gs) → (A' = none ↔ A = none ∧ m = 0) → w.grownBy w' (bk A) → (∀ b, bk A' = some b → bk A = some b ∨ w.heap.size ≤ b) → kw (.slice A' (n + m) c') w') :
    VVal P E { dst := d, op := .call { callee := .builtin .append, args := #[x, y], argTypes := #[t, t] }, type := ty, pos := p, after := af, guard := gd } w kw := by
  obtain ⟨i, hi0, hz0, hz1, hz2⟩ := info_parts hi
  have hb : (n + m) * bytes ≤ 140737488355328 := by
    have := Nat.mul_le_mul hsz.1 hsz.2
    omega
  obtain ⟨v', w', hrun, h2, h3, h4, h5⟩ := run_append_any (P := P) w w0.heap.size t ty e i z size bytes hT hi0 hz0 hz1 hz2 hzs hs0 _ n _ hown B A2 m c2 _ hr h1 (by unfold maxLen; omega) hb hA.size
  obtain ⟨A', c', rfl⟩ := own_slice h2
  rw [own_bk, own_bk] at h4
  rw [own_bk] at h3
  have hb' := row_bklo h2
  refine vv (v := .slice A' (n + m) c') (w' := w') ?_ (h A' c' w' h2 (Stp.app h3 ?_) (hA.app h3 (fun b e => (row_bklo hown b e).1) (fun b e => (hb' b e).2)) ⟨?_, ?_⟩ h3 (fun b e => by
    rcases h4 with h4 | h4
    · left; rw [← h4]; exact e
    · right; rw [h4] at e; injection e with e; omega))
  · simp [execOp, resolve, invoke, builtin, hx, hy, hrun]
  · intro b e
    rcases h4 with h4 | h4
    · exact .inl h4
    · right; rw [h4] at e; injection e with e; omega
  · rintro rfl
    have : Value.slice none (n + m) c' = .slice none 0 0 := by
      rcases h2.2 with ⟨e, _⟩ | ⟨g, cap, cur, e, _⟩
      · exact e
      · simp at e
    obtain ⟨e1, e2⟩ := h5.1 this
    injection e1 with e1
    exact ⟨e1, e2⟩
  · rintro ⟨rfl, rfl⟩
    have : Value.slice none n c = .slice none 0 0 := by
      rcases hown.2 with ⟨e, _⟩ | ⟨g, cap, cur, e, _⟩
      · exact e
      · simp at e
    have := h5.2 ⟨this, rfl⟩
    injection this
/-- A literal without elements. -/
theorem v_bslice0 {s : Nat} {e : TypeId} (hT : slOf P t = some (e, s)) (h : ∀ g w', g = w.heap.size → Blk w' g e [] → Below g w w' → w'.heap.size = g + 1 → kw (.slice (some ⟨g, 0, none⟩) 0 0) w') :
    VVal P E { dst := d, op := .buildSlice t 0 #[], type := ty, pos := p, after := af, guard := gd } w kw := by
  obtain ⟨hu, info, hi1, hi2⟩ := slOf_spec hT
  refine vv (v := .slice (some ⟨w.heap.size, 0, none⟩) 0 0) (w' := w.alloc (.cells #[] e)) ?_ (h _ _ rfl (Blk.new' w #[] e) ((Below.refl _ _).alloc (Nat.le_refl _) _) (by simp))
  simp [execOp, Instr.buildSlice, run_underlying hu, sizeOf, typeInfo, hi1, Instr.fill, newRow, show Array.range 0 = #[] by decide]
end
end Go.Proofs.YtdlljmmgkoeilaaDoor
namespace Go.Proofs.YtdlljmmgkoeilaaDoor
open Go.RowKit
theorem zb : zeroOf Tryd.prog 5 = some [.int .u8 0] := by kernel_rfl
theorem u_u8 : Tryd.prog.underlying 5 = some (.int .u8) := by kernel_rfl
theorem u_int : (Tryd.prog.underlying 3).isSome = true := by kernel_rfl
section
variable {w w' : World} {base n c : Nat} {A : Option Addr} {l : List UInt8}
/-- A block of bytes reads as these. -/
theorem Rd.blk {g : Nat} {l : List UInt8} (h : Blk w g 5 (bvs l)) : Rd w w.heap.size (some ⟨g, 0, none⟩) l.length l :=
  ⟨by rw [bvs_length]; simp, fun _ => ⟨g, 0, rfl, h.lt, fun j u hu => by rw [Nat.zero_add]; exact h.at_ hu⟩⟩
theorem Own.blk {g : Nat} {l : List UInt8} (h : Blk w g 5 (bvs l)) (hb : base ≤ g) (hl : l.length ≤ 1000000000000) : Own w base (some ⟨g, 0, none⟩) l.length l.length l := by
  refine ⟨by rw [bvs_length]; simp, .inr ⟨g, _, _, rfl, hb, h, Nat.le_refl _, by unfold maxLen; omega, by simp [bvs], ?_⟩⟩
  show (bvs l).take (l.length * 1) = bvs l
  rw [List.take_of_length_le (by rw [bvs_length]; omega)]
theorem Own.upB {B : Nat} (h : Own w base A n c l) (hb : Below B w w') (hB : w.heap.size ≤ B) : Own w' base A n c l := h.below (hb.mono hB)
end
theorem Own.bklo {w : World} {base n c : Nat} {A : Option Addr} {l : List UInt8} (h : Own w base A n c l) : ∀ b, bk A = some b → base ≤ b ∧ b < w.heap.size := fun b e => World.ownsRow.lt h b (by rw [own_bk]; exact e)
section
variable {E : Env} {d : Option Nat} {ty : TypeId} {p : String} {af : Array Edge} {g : Option (Nat × Bool)} {x y z : Operand} {kw : Value → World → Prop} {w w0 : World} {gs : List (Option Nat)}
/-- append of bytes onto a row of the call's own, which stands first among what is written. -/
theorem v_appS {A : Option Addr} {n c : Nat} {l : List UInt8} (hx : val E x = .slice A n c) (hown : Own w w0.heap.size A n c l) {B : Nat} {A2 : Option Addr} {m c2 : Nat} {l2 : List UInt8} (hy : val E y = .slice A2 m c2) (hr : Rd w B A2 m l2) (hsz : n + m ≤ 1000000000000) (hA : At w0 w (bk A :: gs))
    (h : ∀ A' c' w', Own w' w0.heap.size A' (n + m) c' (l ++ l2) → Stp w (bk A :: gs) w' (bk A' :: gs) → At w0 w' (bk A' :: gs) → (A' = none ↔ A = none ∧ m = 0) → w.grownBy w' (bk A) → kw (.slice A' (n + m) c') w') :
    VVal Tryd.prog E { dst := d, op := .call { callee := .builtin .append, args := #[x, y], argTypes := #[23, 23] }, type := ty, pos := p, after := af, guard := g } w kw := by
  obtain ⟨A', c', w', hrun, h2, h3, h4, h5⟩ := run_app (c2 := c2) hown hr hsz hA.size ty
  rw [own_bk, own_bk] at h4
  rw [own_bk] at h3
  have hb' := h2.bklo
  refine vv (v := .slice A' (n + m) c') (w' := w') ?_ (h A' c' w' h2 (Stp.app h3 ?_) (hA.app h3 (fun b e => (hown.bklo b e).1) (fun b e => (hb' b e).2)) h5 h3)
  · simp [execOp, resolve, invoke, builtin, hx, hy, hrun]
  · intro b e
    rcases h4 with h4 | h4
    · exact .inl h4
    · right; rw [h4] at e; injection e with e; omega
/-- A literal of bytes. -/
theorem v_litB {parts : Array (Nat × Operand)} {n : Nat} (vs : List Value) (l : List UInt8) (hn : (Nat.ble 1 (n * 1) && Nat.ble (n * 1) 1000) = true) (hl : l.length = n) (hvs : vs = bvs l)
    (hv : fillL (fun i => some (i * 1, 1)) ((List.range (n * 1)).map fun i => [Value.int .u8 0].getD (i % 1) (.tuple #[])) (parts.toList.map fun x => (x.1, val E x.2)) = some vs) (hA : At w0 w gs)
    (h : ∀ g w', g = w.heap.size → Own w' w0.heap.size (some ⟨g, 0, none⟩) n n l → Stp w gs w' gs → At w0 w' gs → Below w.heap.size w w' → w'.heap.size = g + 1 → kw (.slice (some ⟨g, 0, none⟩) n n) w') :
    VVal Tryd.prog E { dst := d, op := .buildSlice 23 n parts, type := ty, pos := p, after := af, guard := g } w kw := by
  subst hvs
  refine v_bslice (vs := bvs l) slb zb rfl hn hv ?_
  rintro g w' hg hB hb hs
  subst hg; subst hl
  refine h _ w' rfl (Own.blk hB hA.size ?_) (Stp.below hb) (hA.call hb) hb hs
  simp only [Bool.and_eq_true, Nat.ble_eq] at hn
  omega
end
theorem Own.ne_blk {w : World} {base n c g : Nat} {A : Option Addr} {l : List UInt8} {T : TypeId} {cs : List Value} (h : Own w base A n c l) (hB : Blk w g T cs) (hT : T ≠ 5) : bk A ≠ some g := by
  rcases h.2 with ⟨hv, _⟩ | ⟨g', cap, cur, hv, _, hg, _⟩
  · injection hv with hv; subst hv; simp [bk]
  · injection hv with hv; subst hv
    intro e
    injection e with e
    subst e
    have := hB.symm.trans hg
    injection this with this
    injection this with _ e _
    exact hT e
theorem bvs1 (x : Nat) : [Value.int .u8 ((x % 256 : Nat) : Int)] = bvs [UInt8.ofNat x] := by unfold bvs u8v; simp
end Go.Proofs.YtdlljmmgkoeilaaDoor
