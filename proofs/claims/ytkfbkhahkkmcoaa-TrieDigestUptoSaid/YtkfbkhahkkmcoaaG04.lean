/- More single operations. No program in sight. Rows of the call's own, of whatever elements; append onto them. No program in sight. Facts of bytes that many walks want. -/
import Derived.Test.YtkfbkhahkkmcoaaG03
namespace Go.Proofs.Ytkfbkhahkkmcoaa
open Go.RowKit
section
variable {P : Program} {E : Env} {d : Option Nat} {ty : TypeId} {p : String} {af : Array Edge} {g : Option (Nat × Bool)} {x y z : Operand} {t u : TypeId} {k : Value → Prop} {S : World → Prop} {kw : Value → World → Prop} {w w' : World} {o : Oper} {v : Value}
def isPtr (P : Program) (t : TypeId) : Bool := match P.underlying t with | some (.pointer _) => true | _ => false
def isSl (P : Program) (t : TypeId) : Bool := match P.underlying t with | some (.slice _) => true | _ => false
theorem isPtr_spec (h : isPtr P t = true) : ∃ e, P.underlying t = some (.pointer e) := by
  unfold isPtr at h; split at h <;> simp_all
theorem isSl_spec (h : isSl P t = true) : ∃ e, P.underlying t = some (.slice e) := by
  unfold isSl at h; split at h <;> simp_all
theorem eq_ptr1 {e : TypeId} (he : P.underlying t = some (.pointer e)) (d : Nat) (ad : Addr) (w : World) : (Op.equalIn (d + 1) t (.pointer (some ad)) (.pointer none)).run P w = .ok false w := by
  simp [Op.equalIn, run_underlying he]
theorem eq_ptr0 {e : TypeId} (he : P.underlying t = some (.pointer e)) (d : Nat) (w : World) : (Op.equalIn (d + 1) t (.pointer none) (.pointer none)).run P w = .ok true w := by
  simp [Op.equalIn, run_underlying he]
theorem eq_sl1 {e : TypeId} (he : P.underlying t = some (.slice e)) (d : Nat) (ad : Addr) (n c : Nat) (w : World) : (Op.equalIn (d + 1) t (.slice (some ad) n c) (.slice none 0 0)).run P w = .ok false w := by
  simp [Op.equalIn, run_underlying he]
theorem eq_sl0 {e : TypeId} (he : P.underlying t = some (.slice e)) (d n c : Nat) (w : World) : (Op.equalIn (d + 1) t (.slice none n c) (.slice none 0 0)).run P w = .ok true w := by
  simp [Op.equalIn, run_underlying he]
theorem eq_of {a b : Value} {q : Bool} (h : ∀ d, (Op.equalIn (d + 1) t a b).run P w = .ok q w) : (Op.equal t a b).run P w = .ok q w := h 9999
/-- A pointer that is there is not nil. -/
theorem p_peq {ad : Addr} (hT : isPtr P t = true) (hx : val E x = .pointer (some ad)) (hy : val E y = .pointer none) (h : k (.bool false)) : VPure P E { dst := d, op := .binOp .eql t x y u, type := ty, pos := p, after := af, guard := g } k :=
  pp (fun w => by
    obtain ⟨e, he⟩ := isPtr_spec hT
    simp [execOp, hx, hy, eqGuard, binOp, eq_of (fun d => eq_ptr1 (P := P) he d ad w)]) h
theorem p_peq0 (hT : isPtr P t = true) (hx : val E x = .pointer none) (hy : val E y = .pointer none) (h : k (.bool true)) : VPure P E { dst := d, op := .binOp .eql t x y u, type := ty, pos := p, after := af, guard := g } k :=
  pp (fun w => by
    obtain ⟨e, he⟩ := isPtr_spec hT
    simp [execOp, hx, hy, eqGuard, binOp, eq_of (fun d => eq_ptr0 (P := P) he d w)]) h
theorem p_pne {ad : Addr} (hT : isPtr P t = true) (hx : val E x = .pointer (some ad)) (hy : val E y = .pointer none) (h : k (.bool true)) : VPure P E { dst := d, op := .binOp .neq t x y u, type := ty, pos := p, after := af, guard := g } k :=
  pp (fun w => by
    obtain ⟨e, he⟩ := isPtr_spec hT
    simp [execOp, hx, hy, eqGuard, binOp, eq_of (fun d => eq_ptr1 (P := P) he d ad w)]) h
theorem p_pne0 (hT : isPtr P t = true) (hx : val E x = .pointer none) (hy : val E y = .pointer none) (h : k (.bool false)) : VPure P E { dst := d, op := .binOp .neq t x y u, type := ty, pos := p, after := af, guard := g } k :=
  pp (fun w => by
    obtain ⟨e, he⟩ := isPtr_spec hT
    simp [execOp, hx, hy, eqGuard, binOp, eq_of (fun d => eq_ptr0 (P := P) he d w)]) h
/-- A slice held against nil. -/
theorem p_sln {A : Option Addr} {n c : Nat} (hT : isSl P t = true) (hx : val E x = .slice A n c) (hy : val E y = .slice none 0 0) (h0 : A = none → k (.bool true)) (h1 : A ≠ none → k (.bool false)) : VPure P E { dst := d, op := .binOp .eql t x y u, type := ty, pos := p, after := af, guard := g } k := by
  obtain ⟨e, he⟩ := isSl_spec hT
  cases A with
  | none => exact pp (fun w => by simp [execOp, hx, hy, eqGuard, binOp, eq_of (fun d => eq_sl0 (P := P) he d n c w)]) (h0 rfl)
  | some ad => exact pp (fun w => by simp [execOp, hx, hy, eqGuard, binOp, eq_of (fun d => eq_sl1 (P := P) he d ad n c w)]) (h1 (by simp))
theorem p_slnn {A : Option Addr} {n c : Nat} (hT : isSl P t = true) (hx : val E x = .slice A n c) (hy : val E y = .slice none 0 0) (h0 : A = none → k (.bool false)) (h1 : A ≠ none → k (.bool true)) : VPure P E { dst := d, op := .binOp .neq t x y u, type := ty, pos := p, after := af, guard := g } k := by
  obtain ⟨e, he⟩ := isSl_spec hT
  cases A with
  | none => exact pp (fun w => by simp [execOp, hx, hy, eqGuard, binOp, eq_of (fun d => eq_sl0 (P := P) he d n c w)]) (h0 rfl)
  | some ad => exact pp (fun w => by simp [execOp, hx, hy, eqGuard, binOp, eq_of (fun d => eq_sl1 (P := P) he d ad n c w)]) (h1 (by simp))
/-- Two truths. -/
theorem p_beq {a b : Bool} (hT : P.underlying t = some .bool) (hx : val E x = .bool a) (hy : val E y = .bool b) (h : k (.bool (a == b))) : VPure P E { dst := d, op := .binOp .eql t x y u, type := ty, pos := p, after := af, guard := g } k :=
  pp (fun w => by simp [execOp, hx, hy, eqGuard, binOp, run_equal_bool (P := P) w t a b hT]) h
theorem p_bne {a b : Bool} (hT : P.underlying t = some .bool) (hx : val E x = .bool a) (hy : val E y = .bool b) (h : k (.bool (!(a == b)))) : VPure P E { dst := d, op := .binOp .neq t x y u, type := ty, pos := p, after := af, guard := g } k :=
  pp (fun w => by simp [execOp, hx, hy, eqGuard, binOp, run_equal_bool (P := P) w t a b hT]) h
/-- A result that lies in memory. -/
theorem c_loadN {n a : Nat} {ad : Addr} (vs : List Value) (hT : aggOf P t = some (true, n)) (hx : E a = .pointer (some ad)) (hn : vs.length = n) (hc : ∀ j v, vs[j]? = some v → w.cell? (ad.add j) = some v) (h : k (.agg vs.toArray)) : VCell P E a t w k :=
  ⟨ad, _, hx, run_loadN hT vs hn hc, h⟩
theorem c_load1 {n a : Nat} {ad : Addr} (hT : aggOf P t = some (false, n)) (hx : E a = .pointer (some ad)) (hc : w.cell? ad = some v) (h : k v) : VCell P E a t w k :=
  ⟨ad, _, hx, run_load1 hT hc, h⟩
end
end Go.Proofs.Ytkfbkhahkkmcoaa
namespace Go.Proofs.Ytkfbkhahkkmcoaa
open Go.RowKit
section
variable {P : Program} {E : Env} {d : Option Nat} {ty : TypeId} {p : String} {af : Array Edge} {gd : Option (Nat × Bool)} {x y : Operand} {t : TypeId} {kw : Value → World → Prop} {w : World}
/-- append, of whatever. -/
theorem v_appG {e : TypeId} {z : Value} {size bytes : Nat} (hT : P.underlying t = some (.slice e)) (hi : (P.info? e).map (fun i => (i.zero, i.size, i.bytes)) = some (some z, size, bytes)) (hzs : z.cells.size = size) (hs0 : 0 < size)
    {base : Nat} {A : Option Addr} {n c : Nat} {xs : List Value} (hx : val E x = .slice A n c) (hown : w.ownsRow base e size (.slice A n c) n xs) {B : Nat} {A2 : Option Addr} {m c2 : Nat} {news : List Value} (hy : val E y = .slice A2 m c2) (hr : Reads w B size A2 m news) (h1 : ∀ u ∈ news, u.oneCell' = true)
    (hsz : n + m ≤ 1000000000 ∧ bytes ≤ 1000) (hbase : base ≤ w.heap.size)
    (h : ∀ A' c' w', w'.ownsRow base e size (.slice A' (n + m) c') (n + m) (xs ++ news) → w.grownBy w' (Value.slice A n c).ownBlock → kw (.slice A' (n + m) c') w') :
    VVal P E { dst := d, op := .call { callee := .builtin .append, args := #[x, y], argTypes := #[t, t] }, type := ty, pos := p, after := af, guard := gd } w kw := by
  obtain ⟨i, hi0, hz0, hz1, hz2⟩ := info_parts hi
  have hb : (n + m) * bytes ≤ 140737488355328 := by
    have := Nat.mul_le_mul hsz.1 hsz.2
    omega
  obtain ⟨v', w', hrun, h2, h3, h4, h5⟩ := run_append_any (P := P) w base t ty e i z size bytes hT hi0 hz0 hz1 hz2 hzs hs0 _ n _ hown B A2 m c2 _ hr h1 (by unfold maxLen; omega) hb hbase
  obtain ⟨A', c', rfl⟩ := own_slice h2
  refine vv (v := .slice A' (n + m) c') (w' := w') ?_ (h A' c' w' h2 h3)
  simp [execOp, resolve, invoke, builtin, hx, hy, hrun]
/-- A block reads as its cells. -/
theorem Reads.blk {g : Nat} {e : TypeId} {size n : Nat} {cs : List Value} (h : Blk w g e cs) (hl : cs.length = n * size) : Reads w w.heap.size size (some ⟨g, 0, none⟩) n cs :=
  ⟨hl, fun _ => ⟨g, 0, rfl, h.lt, fun j u hu => by rw [Nat.zero_add]; exact h.at_ hu⟩⟩
theorem ownsRow_below {base : Nat} {e : TypeId} {size n : Nat} {v : Value} {xs : List Value} {w' : World} (h : w.ownsRow base e size v n xs) (hb : Below w.heap.size w w') : w'.ownsRow base e size v n xs :=
  World.ownsRow.kept h (row := none) ⟨hb.os, hb.tape, hb.output, hb.size, fun k hk _ => hb.block k hk⟩ (by cases v.ownBlock <;> simp)
/-- What is owned lies in a block of its own type. -/
theorem ownsRow_ne {base : Nat} {e T : TypeId} {size n : Nat} {v : Value} {xs cs : List Value} {g : Nat} (h : w.ownsRow base e size v n xs) (hB : Blk w g T cs) (hne : e ≠ T) : v.ownBlock ≠ some g := by
  intro he
  rcases h.2 with ⟨hv, _⟩ | ⟨g', cap, cur, hv, _, hh, _⟩
  · rw [hv] at he; cases he
  · rw [hv] at he
    have he : g' = g := by simpa [Value.ownBlock] using he
    subst he
    have := hh.symm.trans hB
    injection this with this
    injection this with _ this
    exact hne this
end
section
variable {W W' w w0 : World} {F : Nat → Prop} {gs gs' : List (Option Nat)}
/-- A slice that reads as data: its cells. -/
theorem RdD.reads {s n n' c : Nat} {l : List D} {A : Option Addr} (h : RdD W F (.sl s n l) (.slice A n' c)) (hF : ∀ b, F b → b < W.heap.size) : ∃ cs, Reads W W.heap.size s A n' cs ∧ RdL W F l cs := by
  have hs := h.slen
  obtain ⟨A', c2, cs, h1, h2, h3, h4, h5⟩ := RdD.sl_iff.1 h
  injection h1 with e1 _ _
  subst e1; subst hs
  refine ⟨cs, ⟨by rw [h4.len, h3], fun hn => ?_⟩, h4⟩
  obtain ⟨b, off, h6, h7, h8⟩ := h5 hn
  exact ⟨b, off, h6, hF b h7, h8⟩
def D.One : D → Prop
  | .v x => x.oneCell' = true
  | .sl .. => True
theorem RdD.one' {d : D} {u : Value} (h : RdD W F d u) (ho : d.One) : u.oneCell' = true := by
  cases d with
  | v x => rw [RdD.val.1 h]; exact ho
  | sl s n l => obtain ⟨A, c, e, _⟩ := h.open_; rw [e]; rfl
theorem RdL.ones : ∀ {ds : List D} {cs : List Value}, RdL W F ds cs → (∀ d ∈ ds, d.One) → ∀ u ∈ cs, u.oneCell' = true
  | [], cs, h, _, u, hu => by rw [h.isnil] at hu; cases hu
  | d :: ds, cs, h, ho, u, hu => by
    obtain ⟨v, vs, rfl, h1, h2⟩ := h.uncons
    rcases List.mem_cons.1 hu with rfl | hu
    · exact h1.one' (ho d (by simp))
    · exact RdL.ones h2 (fun d hd => ho d (by simp [hd])) u hu
theorem row_bklo {base n c s : Nat} {e : TypeId} {A : Option Addr} {xs : List Value} (h : W.ownsRow base e s (.slice A n c) n xs) : ∀ b, bk A = some b → base ≤ b ∧ b < W.heap.size := fun b hb => World.ownsRow.lt h b (by rw [own_bk]; exact hb)
theorem row_kept' {base n c s : Nat} {e : TypeId} {A : Option Addr} {xs : List Value} {r : Option Nat} (h : W.ownsRow base e s (.slice A n c) n xs) (hg : W.grownBy W' r) (hne : bk A = none ∨ bk A ≠ r) : W'.ownsRow base e s (.slice A n c) n xs := World.ownsRow.kept h hg (by rw [own_bk]; exact hne)
theorem row_cap' {base n c s : Nat} {e : TypeId} {A : Option Addr} {xs : List Value} (h : W.ownsRow base e s (.slice A n c) n xs) : n ≤ c := by
  rcases h.2 with ⟨hv, hn⟩ | ⟨g, cap, cur, hv, _, _, hc, _⟩
  · omega
  · injection hv with _ _ hc'; omega
theorem row_less {base base' n s : Nat} {e : TypeId} {v : Value} {xs : List Value} (h : W.ownsRow base e s v n xs) (hb : base' ≤ base) : W.ownsRow base' e s v n xs := by
  refine ⟨h.1, ?_⟩
  rcases h.2 with h2 | ⟨g, cap, cur, h3, h4, h5⟩
  · exact .inl h2
  · exact .inr ⟨g, cap, cur, h3, by omega, h5⟩
/-- Rows of other types lie apart. -/
theorem row_ne_row {b1 b2 n1 n2 c1 c2 s1 s2 : Nat} {e1 e2 : TypeId} {A1 A2 : Option Addr} {x1 x2 : List Value} (h1 : W.ownsRow b1 e1 s1 (.slice A1 n1 c1) n1 x1) (h2 : W.ownsRow b2 e2 s2 (.slice A2 n2 c2) n2 x2) (hne : e1 ≠ e2) : bk A1 = none ∨ bk A1 ≠ bk A2 := by
  rcases h1.2 with ⟨hv, _⟩ | ⟨g1, _, _, hv, _, hg1, _⟩
  · injection hv with hv; subst hv; exact .inl rfl
  · right
    injection hv with hv; subst hv
    rcases h2.2 with ⟨hv2, _⟩ | ⟨g2, _, _, hv2, _, hg2, _⟩
    · injection hv2 with hv2; subst hv2; simp [bk]
    · injection hv2 with hv2; subst hv2
      intro e
      have e : g1 = g2 := by simpa [bk] using e
      subst e
      rw [hg1] at hg2
      injection hg2 with hg2
      injection hg2 with _ e _
      exact hne e
theorem row_ne_blk {base n c s g : Nat} {e T : TypeId} {A : Option Addr} {xs cs : List Value} (h : W.ownsRow base e s (.slice A n c) n xs) (hB : Blk W g T cs) (hne : e ≠ T) : bk A ≠ some g := by
  have := ownsRow_ne h hB hne
  rwa [own_bk] at this
/-- A new block of cells as a row. -/
theorem row_blk {base g n s : Nat} {e : TypeId} {cs : List Value} (hB : Blk W g e cs) (hb : base ≤ g) (hl : cs.length = n * s) (hn : n ≤ 1000000000) : W.ownsRow base e s (.slice (some ⟨g, 0, none⟩) n n) n cs :=
  ⟨hl, .inr ⟨g, n, cs.toArray, rfl, hb, hB, Nat.le_refl _, by unfold maxLen; omega, by simpa using hl, by simp [← hl]⟩⟩
end
section
variable {P : Program} {E : Env} {d : Option Nat} {ty : TypeId} {p : String} {af : Array Edge} {gd : Option (Nat × Bool)} {x y : Operand} {t : TypeId} {kw : Value → World → Prop} {w w0 : World} {gs : List (Option Nat)}
/-- append onto a row of the call's own, which stands first among what is written. -/
theorem v_appR {e : TypeId} {z : Value} {size bytes : Nat} (hT : P.underlying t = some (.slice e)) (hi : (P.info? e).map (fun i => (i.zero, i.size, i.bytes)) = some (some z, size, bytes)) (hzs : z.cells.size = size) (hs0 : 0 < size)
    {A : Option Addr} {n c : Nat} {xs : List Value} (hx : val E x = .slice A n c) (hown : w.ownsRow w0.heap.size e size (.slice A n c) n xs) {B : Nat} {A2 : Option Addr} {m c2 : Nat} {news : List Value} (hy : val E y = .slice A2 m c2) (hr : Reads w B size A2 m news) (h1 : ∀ u ∈ news, u.oneCell' = true)
    (hsz : n + m ≤ 1000000000 ∧ bytes ≤ 1000) (hA : At w0 w (bk A :: gs))
    (h : ∀ A' c' w', w'.ownsRow w0.heap.size e size (.slice A' (n + m) c') (n + m) (xs ++ news) → Stp w (bk A :: gs) w' (bk A' :: gs) → At w0 w' (bk A' :: gs) → (A' = none ↔ A = none ∧ m = 0) → w.grownBy w' (bk A) → (∀ b, bk A' = some b → bk A = some b ∨ w.heap.size ≤ b) → kw (.slice A' (n + m) c') w') :
    VVal P E { dst := d, op := .call { callee := .builtin .append, args := #[x, y], argTypes := #[t, t] }, type := ty, pos := p, after := af, guard := gd } w kw := by
  obtain ⟨i, hi0, hz0, hz1, hz2⟩ := info_parts hi
  have hb : (n + m) * bytes ≤ 140737488355328 := by
    have := Nat.mul_le_mul hsz.1 hsz.2
    omega
  obtain ⟨v', w', hrun, h2, h3, h4, h5⟩ := run_append_any (P := P) w w0.heap.size t ty e i z size bytes hT hi0 hz0 hz1 hz2 hzs hs0 _ n _ hown B A2 m c2 _ hr h1 (by unfold maxLen; omega) hb hA.size
  obtain ⟨A', c', rfl⟩ := own_slice h2
  rw [own_bk, own_bk] at h4
  rw [own_bk] at h3
  have hb' := row_bklo h2
  refine vv (v := .slice A' (n + m) c') (w' := w') ?_ (h A' c' w' h2 (Stp.app h3 ?_) (hA.app h3 (fun b e => (row_bklo hown b e).1) (fun b e => (hb' b e).2)) ⟨?_, ?_⟩ h3 (fun b e => by
    rcases h4 with h4 | h4
    · left; rw [← h4]; exact e
    · right; rw [h4] at e; injection e with e; omega))
  · simp [execOp, resolve, invoke, builtin, hx, hy, hrun]
  · intro b e
    rcases h4 with h4 | h4
    · exact .inl h4
    · right; rw [h4] at e; injection e with e; omega
  · rintro rfl
    have : Value.slice none (n + m) c' = .slice none 0 0 := by
      rcases h2.2 with ⟨e, _⟩ | ⟨g, cap, cur, e, _⟩
      · exact e
      · simp at e
    obtain ⟨e1, e2⟩ := h5.1 this
    injection e1 with e1
    exact ⟨e1, e2⟩
  · rintro ⟨rfl, rfl⟩
    have : Value.slice none n c = .slice none 0 0 := by
      rcases hown.2 with ⟨e, _⟩ | ⟨g, cap, cur, e, _⟩
      · exact e
      · simp at e
    have := h5.2 ⟨this, rfl⟩
    injection this
/-- A literal without elements. -/
theorem v_bslice0 {s : Nat} {e : TypeId} (hT : slOf P t = some (e, s)) (h : ∀ g w', g = w.heap.size → Blk w' g e [] → Below g w w' → w'.heap.size = g + 1 → kw (.slice (some ⟨g, 0, none⟩) 0 0) w') :
    VVal P E { dst := d, op := .buildSlice t 0 #[], type := ty, pos := p, after := af, guard := gd } w kw := by
  obtain ⟨hu, info, hi1, hi2⟩ := slOf_spec hT
  refine vv (v := .slice (some ⟨w.heap.size, 0, none⟩) 0 0) (w' := w.alloc (.cells #[] e)) ?_ (h _ _ rfl (Blk.new' w #[] e) ((Below.refl _ _).alloc (Nat.le_refl _) _) (by simp))
  simp [execOp, Instr.buildSlice, run_underlying hu, sizeOf, typeInfo, hi1, Instr.fill, newRow, show Array.range 0 = #[] by decide]
end
end Go.Proofs.Ytkfbkhahkkmcoaa
namespace Go.Proofs.Ytkfbkhahkkmcoaa
open Go.RowKit
theorem zb : zeroOf Try.prog 5 = some [.int .u8 0] := by kernel_rfl
theorem u_u8 : Try.prog.underlying 5 = some (.int .u8) := by kernel_rfl
theorem u_u64 : Try.prog.underlying 122 = some (.int .u64) := by kernel_rfl
theorem u_int : (Try.prog.underlying 3).isSome = true := by kernel_rfl
section
variable {w w' : World} {base n c : Nat} {A : Option Addr} {l : List UInt8}
/-- A block of bytes reads as these. -/
theorem Rd.blk {g : Nat} {l : List UInt8} (h : Blk w g 5 (bvs l)) : Rd w w.heap.size (some ⟨g, 0, none⟩) l.length l :=
  ⟨by rw [bvs_length]; simp, fun _ => ⟨g, 0, rfl, h.lt, fun j u hu => by rw [Nat.zero_add]; exact h.at_ hu⟩⟩
theorem Own.blk {g : Nat} {l : List UInt8} (h : Blk w g 5 (bvs l)) (hb : base ≤ g) (hl : l.length ≤ 1000000000000) : Own w base (some ⟨g, 0, none⟩) l.length l.length l := by
  refine ⟨by rw [bvs_length]; simp, .inr ⟨g, _, _, rfl, hb, h, Nat.le_refl _, by unfold maxLen; omega, by simp [bvs], ?_⟩⟩
  show (bvs l).take (l.length * 1) = bvs l
  rw [List.take_of_length_le (by rw [bvs_length]; omega)]
theorem one_blk {x : Int} (h : 0 ≤ x ∧ x ≤ 255) : [Value.int .u8 x] = bvs [b8 x] := by
  unfold bvs; rw [List.map_cons, List.map_nil, u8v_b8 x h.1 h.2]
theorem Own.upB {B : Nat} (h : Own w base A n c l) (hb : Below B w w') (hB : w.heap.size ≤ B) : Own w' base A n c l := h.below (hb.mono hB)
end
theorem Own.bklo {w : World} {base n c : Nat} {A : Option Addr} {l : List UInt8} (h : Own w base A n c l) : ∀ b, bk A = some b → base ≤ b ∧ b < w.heap.size := fun b e => World.ownsRow.lt h b (by rw [own_bk]; exact e)
section
variable {E : Env} {d : Option Nat} {ty : TypeId} {p : String} {af : Array Edge} {g : Option (Nat × Bool)} {x y z : Operand} {kw : Value → World → Prop} {w w0 : World} {gs : List (Option Nat)}
/-- append of bytes onto a row of the call's own, which stands first among what is written. -/
theorem v_appS {A : Option Addr} {n c : Nat} {l : List UInt8} (hx : val E x = .slice A n c) (hown : Own w w0.heap.size A n c l) {B : Nat} {A2 : Option Addr} {m c2 : Nat} {l2 : List UInt8} (hy : val E y = .slice A2 m c2) (hr : Rd w B A2 m l2) (hsz : n + m ≤ 1000000000000) (hA : At w0 w (bk A :: gs))
    (h : ∀ A' c' w', Own w' w0.heap.size A' (n + m) c' (l ++ l2) → Stp w (bk A :: gs) w' (bk A' :: gs) → At w0 w' (bk A' :: gs) → (A' = none ↔ A = none ∧ m = 0) → w.grownBy w' (bk A) → kw (.slice A' (n + m) c') w') :
    VVal Try.prog E { dst := d, op := .call { callee := .builtin .append, args := #[x, y], argTypes := #[22, 22] }, type := ty, pos := p, after := af, guard := g } w kw := by
  obtain ⟨A', c', w', hrun, h2, h3, h4, h5⟩ := run_app (c2 := c2) hown hr hsz hA.size ty
  rw [own_bk, own_bk] at h4
  rw [own_bk] at h3
  have hb' := h2.bklo
  refine vv (v := .slice A' (n + m) c') (w' := w') ?_ (h A' c' w' h2 (Stp.app h3 ?_) (hA.app h3 (fun b e => (hown.bklo b e).1) (fun b e => (hb' b e).2)) h5 h3)
  · simp [execOp, resolve, invoke, builtin, hx, hy, hrun]
  · intro b e
    rcases h4 with h4 | h4
    · exact .inl h4
    · right; rw [h4] at e; injection e with e; omega
/-- A literal of bytes. -/
theorem v_litB {parts : Array (Nat × Operand)} {n : Nat} (vs : List Value) (l : List UInt8) (hn : (Nat.ble 1 (n * 1) && Nat.ble (n * 1) 1000) = true) (hl : l.length = n) (hvs : vs = bvs l)
    (hv : fillL (fun i => some (i * 1, 1)) ((List.range (n * 1)).map fun i => [Value.int .u8 0].getD (i % 1) (.tuple #[])) (parts.toList.map fun x => (x.1, val E x.2)) = some vs) (hA : At w0 w gs)
    (h : ∀ g w', g = w.heap.size → Own w' w0.heap.size (some ⟨g, 0, none⟩) n n l → Stp w gs w' gs → At w0 w' gs → Below w.heap.size w w' → w'.heap.size = g + 1 → kw (.slice (some ⟨g, 0, none⟩) n n) w') :
    VVal Try.prog E { dst := d, op := .buildSlice 22 n parts, type := ty, pos := p, after := af, guard := g } w kw := by
  subst hvs
  refine v_bslice (vs := bvs l) slb zb rfl hn hv ?_
  rintro g w' hg hB hb hs
  subst hg; subst hl
  refine h _ w' rfl (Own.blk hB hA.size ?_) (Stp.below hb) (hA.call hb) hb hs
  simp only [Bool.and_eq_true, Nat.ble_eq] at hn
  omega
end
theorem Own.ne_blk {w : World} {base n c g : Nat} {A : Option Addr} {l : List UInt8} {T : TypeId} {cs : List Value} (h : Own w base A n c l) (hB : Blk w g T cs) (hT : T ≠ 5) : bk A ≠ some g := by
  rcases h.2 with ⟨hv, _⟩ | ⟨g', cap, cur, hv, _, hg, _⟩
  · injection hv with hv; subst hv; simp [bk]
  · injection hv with hv; subst hv
    intro e
    injection e with e
    subst e
    have := hB.symm.trans hg
    injection this with this
    injection this with _ e _
    exact hT e
/-- A literal's row is marked as a string's. -/
theorem v_cvtB {E : Env} {d : Option Nat} {ty : TypeId} {p : String} {af : Array Edge} {gd : Option (Nat × Bool)} {x : Operand} {kw : Value → World → Prop} {w : World} {g n c : Nat} {l : List UInt8} (hx : val E x = .slice (some ⟨g, 0, none⟩) n c) (hB : Blk w g 5 (bvs l)) (hn : n = l.length)
    (h : ∀ w', Rd w' w'.heap.size (some ⟨g, 0, none⟩) n l → w.grownBy w' (some g) → w'.heap.size = w.heap.size → kw (.slice (some ⟨g, 0, none⟩) n c) w') :
    VVal Try.prog E { dst := d, op := .convert 22 22 x, type := ty, pos := p, after := af, guard := gd } w kw := by
  have hsh : w.shape? g = some (5, (bvs l).length) := by unfold World.shape?; rw [show w.heap[g]? = _ from hB]; simp
  have hg := hB.lt
  have hf : (w.freeze ⟨g, (bvs l).length, none⟩ 1).heap = w.heap.modify g fun
      | .cells c elem (lo, hi) => .cells c elem (if lo == hi then ((bvs l).length, (bvs l).length + 1) else (min lo (bvs l).length, max hi ((bvs l).length + 1)))
      | o => o := by unfold World.freeze; rw [if_neg (by decide)]; rfl
  have hat : (w.freeze ⟨g, (bvs l).length, none⟩ 1).heap[g]? = some (.cells (bvs l).toArray 5 ((bvs l).length, (bvs l).length + 1)) := by
    rw [hf, Array.getElem?_modify, if_pos rfl, show w.heap[g]? = _ from hB]; rfl
  have hsz : (w.freeze ⟨g, (bvs l).length, none⟩ 1).heap.size = w.heap.size := by rw [hf]; simp
  refine vv (v := .slice (some ⟨g, 0, none⟩) n c) (w' := w.freeze ⟨g, (bvs l).length, none⟩ 1) ?_ (h _ ?_ ?_ hsz)
  · have hr : (convert 22 22 (.slice (some ⟨g, 0, none⟩) n c)).run Try.prog w = .ok (.slice (some ⟨g, 0, none⟩) n c) (w.freeze ⟨g, (bvs l).length, none⟩ 1) := by
      simp [convert, run_underlying Try.underlying22, run_underlying Try.underlying5, markStringish, hsh]
    simp only [execOp, hx, Sem.run_bind, hr, Result.andThen_ok, Sem.run_pure]
  · subst hn
    refine ⟨by rw [bvs_length]; simp, fun _ => ⟨g, 0, rfl, by rw [hsz]; exact hg, fun j u hu => ?_⟩⟩
    unfold World.cell?
    simp only [Nat.zero_add, hat]
    simpa using hu
  · exact ⟨rfl, rfl, rfl, by rw [hsz]; exact Nat.le_refl _, fun k _ hk => by
      rw [hf, Array.getElem?_modify, if_neg (fun e => hk (by rw [e]))]⟩
theorem bvs1 (x : Nat) : [Value.int .u8 ((x % 256 : Nat) : Int)] = bvs [UInt8.ofNat x] := by unfold bvs u8v; simp
theorem u8v_nat (x : Nat) : Value.int .u8 ((x % 256 : Nat) : Int) = u8v (UInt8.ofNat x) := by unfold u8v; simp
end Go.Proofs.Ytkfbkhahkkmcoaa
