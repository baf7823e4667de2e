/- Lists of bytes in memory: a [][]byte that reads as lists ('RdS'); one of the call's own, its elements too ('OwnS'); append onto it. Lists of lists of bytes, as data. The walks of Go's library: bytes.Clone, Equal, HasPrefix; slices.Clone, Grow, Concat of bytes. The walks of slices.Grow (of nothing) and slices.Concat, of bytes. Halves of bytes: the plain functions. Nodes, plainly, and as data. The walks of package node's small functions: halves, bare, ends. The walks of node's bare. -/
import Derived.Test.YtdlljmmgkoeilaaDoorG03
import Derived.Deep.QuietTactic
import Derived.BigQuiet
import Derived.Test.YtdlljmmgkoeilaaDoorG05
import Derived.Test.YtdlljmmgkoeilaaDoorG04
import Derived.Lib.AppendZeros
namespace Go.Proofs.YtdlljmmgkoeilaaDoor
open Go.RowKit

/-- The values vs are slices of bytes that read as these lists, below block B. -/
structure Els (w : World) (B : Nat) (vs : List Value) (ll : List (List UInt8)) : Prop where
  len : vs.length = ll.length
  rd : ∀ (k : Nat) (v : Value) (l : List UInt8), vs[k]? = some v → ll[k]? = some l → ∃ A n c, v = .slice A n c ∧ n ≤ c ∧ Rd w B A n l
/-- A slice of n slices of bytes that reads as these lists, below block B. -/
def RdS (w : World) (B : Nat) (A : Option Addr) (n : Nat) (ll : List (List UInt8)) : Prop := ∃ vs, Reads w B 1 A n vs ∧ Els w B vs ll

section
variable {w w' : World} {B B' base n c : Nat} {A : Option Addr} {ll : List (List UInt8)} {vs : List Value}
theorem Els.keep (h : Els w B vs ll) (hk : ∀ p : Addr, p.block < B → w'.cell? p = w.cell? p) : Els w' B vs ll :=
  ⟨h.len, fun k v l h1 h2 => let ⟨A, n, c, hv, hn, hr⟩ := h.rd k v l h1 h2; ⟨A, n, c, hv, hn, hr.keep hk⟩⟩
theorem Els.more (h : Els w B vs ll) (hB : B ≤ B') : Els w B' vs ll :=
  ⟨h.len, fun k v l h1 h2 => let ⟨A, n, c, hv, hn, hr⟩ := h.rd k v l h1 h2; ⟨A, n, c, hv, hn, hr.more hB⟩⟩
theorem RdS.keep (h : RdS w B A n ll) (hk : ∀ p : Addr, p.block < B → w'.cell? p = w.cell? p) : RdS w' B A n ll := let ⟨vs, h1, h2⟩ := h; ⟨vs, h1.keep hk, h2.keep hk⟩
theorem RdS.more (h : RdS w B A n ll) (hB : B ≤ B') : RdS w B' A n ll := let ⟨vs, h1, h2⟩ := h; ⟨vs, h1.more hB, h2.more hB⟩
theorem RdS.below (h : RdS w B A n ll) (hb : Below B w w') : RdS w' B A n ll := h.keep fun _ hp => hb.cell hp
theorem RdS.drewN (h : RdS w B A n ll) (k : Nat) : RdS (w.drewN k) B A n ll := h.keep fun _ _ => rfl
theorem RdS.alloc (h : RdS w B A n ll) (hB : B ≤ w.heap.size) (o : Obj) : RdS (w.alloc o) B A n ll := h.keep fun p hp => World.cell?_alloc_lt w o p (by omega)
theorem RdS.up (h : RdS w w.heap.size A n ll) (hb : Below w.heap.size w w') : RdS w' w'.heap.size A n ll := (h.below hb).more hb.size
theorem RdS.len (h : RdS w B A n ll) : ll.length = n := by obtain ⟨vs, h1, h2⟩ := h; have := h1.1; rw [h2.len] at this; omega
theorem RdS.nil_ : RdS w B A 0 [] := ⟨[], Reads.none_, rfl, fun k v l h => by simp at h⟩
/-- The k-th element: its cell, and what it reads as. -/
theorem RdS.at_ (h : RdS w B A n ll) {k : Nat} (hk : k < n) : ∃ b off A' m c', A = some ⟨b, off, none⟩ ∧ b < B ∧ w.cell? ⟨b, off + k, none⟩ = some (.slice A' m c') ∧ m ≤ c' ∧ Rd w B A' m (ll.getD k []) := by
  have hl := h.len
  obtain ⟨vs, h1, h2⟩ := h
  obtain ⟨b, off, u, e, hb, hu, hc⟩ := h1.at_ hk
  obtain ⟨A', m, c', rfl, hm, hr⟩ := h2.rd k u (ll[k]'(by omega)) hu (List.getElem?_eq_getElem (by omega))
  refine ⟨b, off, A', m, c', e, hb, hc, hm, ?_⟩
  rw [List.getD_eq_getElem?_getD, List.getElem?_eq_getElem (by omega)]
  exact hr
end

/-- The values vs are slices of bytes of the call's own, that read as these lists, each in a block of its own. -/
structure ElsOwn (w : World) (base : Nat) (vs : List Value) (ll : List (List UInt8)) : Prop where
  len : vs.length = ll.length
  own : ∀ (k : Nat) (v : Value) (l : List UInt8), vs[k]? = some v → ll[k]? = some l → ∃ A n c, v = .slice A n c ∧ Own w base A n c l
  far : ∀ (i j : Nat) (v u : Value), vs[i]? = some v → vs[j]? = some u → i ≠ j → v.ownBlock = none ∨ v.ownBlock ≠ u.ownBlock
/-- A slice of n slices of bytes of the call's own, its elements too. -/
def OwnS (w : World) (base : Nat) (A : Option Addr) (n c : Nat) (ll : List (List UInt8)) : Prop := ∃ vs, w.ownsRow base 23 1 (.slice A n c) n vs ∧ ElsOwn w base vs ll

section
variable {w w' : World} {base n c : Nat} {A : Option Addr} {ll : List (List UInt8)} {vs : List Value}
theorem ElsOwn.nil_ : ElsOwn w base [] [] := ⟨rfl, fun k v l h => by simp at h, fun i j v u h => by simp at h⟩
theorem ElsOwn.kept {row : Option Nat} (h : ElsOwn w base vs ll) (hg : w.grownBy w' row) (hne : ∀ v ∈ vs, v.ownBlock = none ∨ v.ownBlock ≠ row) : ElsOwn w' base vs ll :=
  ⟨h.len, fun k v l h1 h2 => by
    obtain ⟨A, n, c, rfl, ho⟩ := h.own k v l h1 h2
    exact ⟨A, n, c, rfl, ho.kept hg (hne _ (List.mem_of_getElem? h1))⟩, h.far⟩
theorem ElsOwn.below (h : ElsOwn w base vs ll) (hb : Below w.heap.size w w') : ElsOwn w' base vs ll :=
  h.kept (row := none) ⟨hb.os, hb.tape, hb.output, hb.size, fun k hk _ => hb.block k hk⟩ (fun v _ => by cases v.ownBlock <;> simp)
theorem ElsOwn.lt (h : ElsOwn w base vs ll) : ∀ v ∈ vs, ∀ g, v.ownBlock = some g → base ≤ g ∧ g < w.heap.size := by
  intro v hv g hg
  obtain ⟨k, hk⟩ := List.getElem?_of_mem hv
  have hkl : k < ll.length := by rw [← h.len]; exact (List.getElem?_eq_some_iff.1 hk).1
  obtain ⟨A, n, c, rfl, ho⟩ := h.own k v ll[k] hk (List.getElem?_eq_getElem hkl)
  exact World.ownsRow.lt ho g hg
theorem OwnS.nil_ (w : World) (base : Nat) : OwnS w base none 0 0 [] := ⟨[], World.ownsRow_nil _ _ _ _, ElsOwn.nil_⟩
theorem OwnS.len (h : OwnS w base A n c ll) : ll.length = n := by obtain ⟨vs, h1, h2⟩ := h; have := h1.1; rw [h2.len] at this; omega
theorem OwnS.cap_ (h : OwnS w base A n c ll) : n ≤ c := by
  obtain ⟨vs, h, _⟩ := h
  rcases h.2 with ⟨hv, h0⟩ | ⟨g, cap, cur, hv, _, _, hle, _⟩
  · injection hv with _ h1 h2; omega
  · injection hv with _ h1 h2; omega
theorem OwnS.rd (h : OwnS w base A n c ll) : RdS w w.heap.size A n ll := by
  obtain ⟨vs, h1, h2⟩ := h
  refine ⟨vs, Reads.of_own h1, h2.len, fun k v l e1 e2 => ?_⟩
  obtain ⟨A', n', c', hv, ho⟩ := h2.own k v l e1 e2
  exact ⟨A', n', c', hv, ho.cap_, ho.rd⟩
theorem OwnS.below (h : OwnS w base A n c ll) (hb : Below w.heap.size w w') : OwnS w' base A n c ll := by
  obtain ⟨vs, h1, h2⟩ := h
  exact ⟨vs, World.ownsRow.kept h1 (row := none) ⟨hb.os, hb.tape, hb.output, hb.size, fun k hk _ => hb.block k hk⟩ (by cases (Value.slice A n c).ownBlock <;> simp), h2.below hb⟩
theorem OwnS.alloc (h : OwnS w base A n c ll) (o : Obj) : OwnS (w.alloc o) base A n c ll := h.below ((Below.refl _ _).alloc (Nat.le_refl _) o)
end

/-- A new block of one value reads as that. -/
theorem Reads.lit1 (w : World) (H : Nat) (hH : w.heap.size = H) (v : Value) (t : TypeId) : Reads (w.alloc (.cells #[v] t)) (H + 1) 1 (some ⟨H, 0, none⟩) 1 [v] := by
  subst hH
  refine ⟨rfl, fun _ => ⟨_, 0, rfl, by omega, fun j u hu => ?_⟩⟩
  rw [Nat.zero_add, World.cell?_alloc_at _ _ _ _ rfl]
  simpa using hu

end Go.Proofs.YtdlljmmgkoeilaaDoor
namespace Go.Proofs.YtdlljmmgkoeilaaDoor
open Go.RowKit
def dLs (ll : List (List UInt8)) : D := .sl 1 ll.length (ll.map dB)
theorem RdL.ofall {W : World} {F : Nat → Prop} {α : Type} (f : α → D) : ∀ (xs : List α) (vs : List Value), vs.length = xs.length → (∀ (k : Nat) (v : Value) (x : α), vs[k]? = some v → xs[k]? = some x → RdD W F (f x) v) → RdL W F (xs.map f) vs
  | [], [], _, _ => RdL.nil_
  | [], v :: vs, h, _ => by simp at h
  | x :: xs, [], h, _ => by simp at h
  | x :: xs, v :: vs, h, k => RdL.cons (k 0 v x rfl rfl) (RdL.ofall f xs vs (by simpa using h) (fun j v' x' h1 h2 => k (j + 1) v' x' (by simpa using h1) (by simpa using h2)))
theorem RdS.toD {w : World} {B n c : Nat} {A : Option Addr} {ll : List (List UInt8)} (h : RdS w B A n ll) (hc : n ≤ c) : RdD w (fun b => b < B) (dLs ll) (.slice A n c) := by
  have hl := h.len
  obtain ⟨vs, h1, h2⟩ := h
  subst hl
  refine RdD.sl_iff.2 ⟨A, c, vs, rfl, hc, by simp, RdL.ofall dB ll vs h2.len (fun k v x e1 e2 => ?_), h1.2⟩
  obtain ⟨A', m, c', rfl, hm, hr⟩ := h2.rd k v x e1 e2
  exact RdD.ofbytes hr hm fun b off _ hb => hb
theorem one_at {α : Type} {l : List α} {i : Nat} {x : α} (h : l[i]? = some x) : (l.drop i).take 1 = [x] := by
  have hi := (List.getElem?_eq_some_iff.1 h).1
  rw [List.drop_eq_getElem_cons hi, List.take_succ_cons, List.take_zero, (List.getElem?_eq_some_iff.1 h).2]
/-- An element of a list of lists. -/
theorem RdD.lsat {W : World} {F : Nat → Prop} {ll : List (List UInt8)} {A : Option Addr} {n c i : Nat} (h : RdD W F (dLs ll) (.slice A n c)) (hi : i < n) :
    ∃ b off A' m c' l, A = some ⟨b, off, none⟩ ∧ ll[i]? = some l ∧ W.cell? ⟨b, off + i, none⟩ = some (.slice A' m c') ∧ RdD W F (dB l) (.slice A' m c') := by
  have hn := h.slen
  obtain ⟨b, off, es, e1, hF, hes, hel, hc⟩ := h.at_ hi
  obtain ⟨l, hl⟩ : ∃ l, ll[i]? = some l := ⟨ll[i], List.getElem?_eq_getElem (by omega)⟩
  have e : ((ll.map dB).drop (i * 1)).take 1 = [dB l] := one_at (by rw [Nat.mul_one, List.getElem?_map, hl]; rfl)
  rw [e] at hes
  obtain ⟨u, us, e2, hu, _⟩ := hes.uncons
  obtain ⟨A', c', e3, _⟩ := hu.open_
  subst e2; subst e3
  refine ⟨b, off, A', _, c', l, e1, hl, ?_, hu⟩
  have := hc 0 _ rfl
  rwa [Nat.mul_one] at this
end Go.Proofs.YtdlljmmgkoeilaaDoor
namespace Go.Proofs.YtdlljmmgkoeilaaDoor
open Go.RowKit
theorem isSlb : isSl Tryd.prog 23 = true := by kernel_rfl
theorem is_bclone : isFn Tryd.prog 44 = true := by kernel_rfl
theorem is_beq : isFn Tryd.prog 60 = true := by kernel_rfl
theorem is_bpre : isFn Tryd.prog 61 = true := by kernel_rfl
set_option maxRecDepth 100000 in
theorem bclone_any (gs : List (Option Nat)) (A : Option Addr) (n c : Nat) (l : List UInt8) (w : World) (hr : RdD w (Fd w gs) (dB l) (.slice A n c)) (hsz : n ≤ 100000000) :
    Calls Tryd.prog 44 #[.slice A n c] w fun e w' => ∃ A' c', e = .returned (.slice A' n c') ∧ Own w' w.heap.size A' n c' l ∧ (A' = none ↔ A = none) ∧ Below w.heap.size w w' := by
  refine calls_ev (args := [.slice A n c]) mixed Tryd.func44 rfl (by kernel_rfl) ?_
  obtain ⟨hn, hc, hrd⟩ := hr.rd Fd.lt
  refine p_sln isSlb rfl rfl (fun h => ?_) (fun h => ?_)
  · have h0 := hr.none0 h
    subst h
    have hl : l = [] := List.eq_nil_of_length_eq_zero (by omega)
    subst hl
    subst h0
    exact ⟨none, 0, rfl, Own.nil_ _ _, by simp, Below.refl _ _⟩
  · refine v_bslice0 slb ?_
    rintro g W1 hg hB hb hs1
    have A1 : At w W1 [some g] := (At.start (gs := []) (by simp)).new (hg ▸ hb) (fun b e => by injection e with e; omega)
    refine v_appS rfl (Own.blk (l := []) hB (by omega) (by simp)) rfl (hrd.below (hg ▸ hb)) (by omega) A1 ?_
    rintro A3 c3 W3 o3 s3 A3' hA3 h3
    rw [Nat.zero_add] at o3
    refine ⟨A3, c3, by rw [Nat.zero_add]; rfl, o3, ⟨fun e => absurd (hA3.1 e).1 (by simp), fun e => absurd e h⟩, A3'.below⟩
theorem is_sclone : isFn Tryd.prog 59 = true := by kernel_rfl
set_option maxRecDepth 100000 in
theorem sclone_any (gs : List (Option Nat)) (A : Option Addr) (n c : Nat) (l : List UInt8) (w : World) (hr : RdD w (Fd w gs) (dB l) (.slice A n c)) (hsz : n ≤ 100000000) :
    Calls Tryd.prog 59 #[.slice A n c] w fun e w' => ∃ A' c', e = .returned (.slice A' n c') ∧ Own w' w.heap.size A' n c' l ∧ (A' = none ↔ A = none) ∧ Below w.heap.size w w' := by
  refine calls_ev (args := [.slice A n c]) mixed Tryd.func59 rfl (by kernel_rfl) ?_
  obtain ⟨hn, hc, hrd⟩ := hr.rd Fd.lt
  refine p_sln isSlb rfl rfl (fun h => ?_) (fun h => ?_)
  · have h0 := hr.none0 h
    subst h
    have hl : l = [] := List.eq_nil_of_length_eq_zero (by omega)
    subst hl
    subst h0
    exact ⟨none, 0, rfl, Own.nil_ _ _, by simp, Below.refl _ _⟩
  · refine v_bslice0 slb ?_
    rintro g W1 hg hB hb hs1
    have A1 : At w W1 [some g] := (At.start (gs := []) (by simp)).new (hg ▸ hb) (fun b e => by injection e with e; omega)
    refine v_appS rfl (Own.blk (l := []) hB (by omega) (by simp)) rfl (hrd.below (hg ▸ hb)) (by omega) A1 ?_
    rintro A3 c3 W3 o3 s3 A3' hA3 h3
    rw [Nat.zero_add] at o3
    refine ⟨A3, c3, by rw [Nat.zero_add]; rfl, o3, ⟨fun e => absurd (hA3.1 e).1 (by simp), fun e => absurd e h⟩, A3'.below⟩
set_option maxRecDepth 100000 in
theorem beq_any (A1 A2 : Option Addr) (n m c1 c2 B1 B2 : Nat) (a b : List UInt8) (w : World) (h1 : Rd w B1 A1 n a) (h2 : Rd w B2 A2 m b) :
    Calls Tryd.prog 60 #[.slice A1 n c1, .slice A2 m c2] w fun e w' => e = .returned (.bool (decide (a = b))) ∧ w = w' := by
  refine calls_ev (args := [.slice A1 n c1, .slice A2 m c2]) mixed Tryd.func60 rfl (by kernel_rfl) ?_
  refine v_str rfl h1 ?_
  refine v_str rfl h2 ?_
  refine p_seq rfl rfl (fun h => ?_) (fun h => ?_)
  · exact ⟨by rw [decide_eq_true (sb_inj.1 h)]; rfl, rfl⟩
  · exact ⟨by rw [decide_eq_false (fun e => h (by rw [e]))]; rfl, rfl⟩
set_option maxRecDepth 100000 in
theorem bpre_any (A1 A2 : Option Addr) (n m c1 c2 B1 B2 : Nat) (a b : List UInt8) (w : World) (h1 : Rd w B1 A1 n a) (hc1 : n ≤ c1) (h2 : Rd w B2 A2 m b) :
    Calls Tryd.prog 61 #[.slice A1 n c1, .slice A2 m c2] w fun e w' => e = .returned (.bool (decide (b <+: a))) ∧ w = w' := by
  refine calls_ev (args := [.slice A1 n c1, .slice A2 m c2]) mixed Tryd.func61 rfl (by kernel_rfl) ?_
  have e1 := h1.len
  have e2 := h2.len
  refine p_len slb rfl ?_
  refine p_len slb rfl ?_
  refine p_ge rfl rfl (fun h => ?_) (fun h => ?_)
  · refine p_len slb rfl ?_
    refine p_slice (i := 0) (j := m) (m := c1) slb rfl rfl (bnd_i rfl) rfl rfl (Nat.zero_le _) (by omega) (Nat.le_refl _) ?_
    rw [slA0, Nat.sub_zero, Nat.sub_zero]
    refine cc is_beq (beq_any A1 A2 m m c1 c2 _ _ _ _ w (h1.take (by omega)) h2) ?_
    rintro e w' ⟨rfl, rfl⟩
    refine ⟨_, rfl, ?_⟩
    refine ⟨?_, rfl⟩
    have : decide (a.take m = b) = decide (b <+: a) := by
      rw [Bool.eq_iff_iff, decide_eq_true_iff, decide_eq_true_iff, List.prefix_iff_eq_take, e2]
      exact eq_comm
    rw [this]; rfl
  · refine ⟨?_, rfl⟩
    rw [decide_eq_false]
    · rfl
    · intro hp
      have := hp.length_le
      omega
end Go.Proofs.YtdlljmmgkoeilaaDoor
namespace Go.Proofs.YtdlljmmgkoeilaaDoor
open Go.RowKit
theorem take_flat' {α : Type} {ll : List (List α)} {i : Nat} {l : List α} (h : ll[i]? = some l) : (ll.take (i + 1)).flatten = (ll.take i).flatten ++ l := by
  have hi := (List.getElem?_eq_some_iff.1 h).1
  rw [List.take_succ_eq_append_getElem hi, List.flatten_append, List.flatten_cons, List.flatten_nil, List.append_nil]
  have := (List.getElem?_eq_some_iff.1 h).2
  rw [this]
theorem flat_take_le' {α : Type} (ll : List (List α)) (i : Nat) : (ll.take i).flatten.length ≤ ll.flatten.length := by
  have : ll.flatten = (ll.take i).flatten ++ (ll.drop i).flatten := by rw [← List.flatten_append, List.take_append_drop]
  rw [this, List.length_append]; omega
theorem sl_ls' : slOf Tryd.prog 119 = some (23, 1) := by kernel_rfl
section
variable {P : Program} {E : Env} {d : Option Nat} {ty : TypeId} {p : String} {af : Array Edge} {g : Option (Nat × Bool)} {x y : Operand} {t : TypeId} {k : Value → Prop} {kw : Value → World → Prop} {w : World}
theorem p_cap {A : Option Addr} {n c : Nat} {e : TypeId} {s : Nat} (hT : slOf P t = some (e, s)) (hx : val E x = .slice A n c) (h : k (.int .i64 c)) : VPure P E { dst := d, op := .call { callee := .builtin .cap, args := #[x], argTypes := #[t] }, type := ty, pos := p, after := af, guard := g } k :=
  pp (fun w => by
    have hu := (slOf_spec hT).1
    simp [execOp, resolve, invoke, builtin, Builtin.cap_, hx, run_underlying hu, goInt]) h
/-- append of so many noughts onto nothing. -/
theorem v_zerosB {n : Nat} (hx : val E x = .slice none 0 0) (hy : val E y = .int .i64 n) (h0 : 0 < n) (hn : n ≤ 1000000000000)
    (h : ∀ g c' w', g = w.heap.size → Own w' w.heap.size (some ⟨g, 0, none⟩) 0 c' [] → n ≤ c' → Below w.heap.size w w' → w'.heap.size = g + 1 → kw (.slice (some ⟨g, 0, none⟩) n c') w') :
    VVal Tryd.prog E { dst := d, op := .call { callee := .builtin .append, args := #[x, y], argTypes := #[23, 3] }, type := ty, pos := p, after := af, guard := g } w kw := by
  obtain ⟨i, hi, hz, hs1, hs2⟩ := info_parts u8info
  have u_i : Tryd.prog.underlying 3 = some (.int .i64) := by kernel_rfl
  have hrun := Lib.run_append_nil_zeros (P := Tryd.prog) w 23 3 ty 5 i (.int .u8 0) .i64 .i64 Tryd.underlying23 u_i hi hz n h0 (by rw [hs1]; decide) (by omega) (by rw [hs2]; omega)
  have hge := grownCap_ge w n 0 5
  have hcm : grownCap w n 0 5 ≤ maxLen := grownCap_le_maxLen w n 0 5 (by unfold maxLen; omega)
  have ho : Own (w.drew.alloc (.cells (Builtin.zeroCells (Value.int .u8 0).cells n ++ Builtin.zeroCells (Value.int .u8 0).cells (grownCap w n 0 5 - n)) 5)) w.heap.size (some ⟨w.heap.size, 0, none⟩) 0 (grownCap w n 0 5) [] := by
    refine ⟨rfl, .inr ⟨w.heap.size, _, _, rfl, Nat.le_refl _, heap_alloc_new w.drew _, Nat.zero_le _, hcm, ?_, by simp [bvs]⟩⟩
    have hz1 : (Value.int IntKind.u8 0).cells.size = 1 := rfl
    simp only [Array.size_append, size_zeroCells, hz1]
    omega
  have hk := h _ _ _ rfl ho hge ((Below.refl _ _).drew.alloc (Nat.le_refl _) _) (by simp)
  refine vv ?_ hk
  simp only [execOp, resolve, Sem.run_bind, Sem.run_pure, Result.andThen_ok, invoke, builtin, List.map_toArray, List.map_cons, List.map_nil, hx, hy, hrun]
end
theorem is_grow : isFn Tryd.prog 76 = true := by kernel_rfl
theorem is_concat : isFn Tryd.prog 62 = true := by kernel_rfl
set_option maxRecDepth 100000 in
theorem grow_any (n : Nat) (w : World) (hn : n ≤ 1000000000) :
    Calls Tryd.prog 76 #[.slice none 0 0, .int .i64 n] w fun e w' => ∃ A' c', e = .returned (.slice A' 0 c') ∧ Own w' w.heap.size A' 0 c' [] ∧ Below w.heap.size w w' := by
  refine calls_ev (args := [.slice none 0 0, .int .i64 n]) mixed Tryd.func76 rfl (by kernel_rfl) ?_
  refine p_lt rfl rfl (fun h => by omega) (fun _ => ?_)
  refine p_cap slb rfl ?_
  refine p_len slb rfl ?_
  refine p_sub rfl rfl (r := 0) (w64 (by decide)) ?_
  refine p_sub rfl rfl (r := (n : Int)) ((w64 (by omega)).trans (by omega)) ?_
  refine p_gt rfl rfl (fun h => ?_) (fun h => ?_)
  · refine p_cap slb rfl ?_
    refine p_slice (i := 0) (j := 0) (m := 0) slb rfl rfl (bnd_i rfl) rfl rfl (by decide) (by decide) (by decide) ?_
    refine v_zerosB rfl rfl (by omega) (by omega) ?_
    rintro g c' W1 hg o1 hc hb hs
    refine p_len slb rfl ?_
    refine p_slice (i := 0) (j := 0) (m := c') slb rfl rfl (bnd_i rfl) rfl rfl (by decide) (by omega) (Nat.le_refl _) ?_
    exact ⟨_, c', rfl, by rw [slA0]; exact o1, hb⟩
  · exact ⟨none, 0, rfl, Own.nil_ _ _, Below.refl _ _⟩
set_option maxRecDepth 100000 in
theorem concat_any (gs : List (Option Nat)) (A : Option Addr) (n c : Nat) (ll : List (List UInt8)) (w : World) (hgs : ∀ b, some b ∈ gs → b < w.heap.size) (hr : RdD w (Fd w gs) (dLs ll) (.slice A n c)) (hs : ll.flatten.length ≤ 1000000) (hs2 : n ≤ 1000000) :
    Calls Tryd.prog 62 #[.slice A n c] w fun e w' => ∃ A' c', e = .returned (.slice A' ll.flatten.length c') ∧ Own w' w.heap.size A' ll.flatten.length c' ll.flatten ∧ Below w.heap.size w w' := by
  refine calls_ev (args := [.slice A n c]) mixed Tryd.func62 rfl (by kernel_rfl) ?_
  have hn := hr.slen
  refine p_len sl_ls' rfl ?_
  refine lp Nat (fun i W => i ≤ n ∧ W = w) (fun i => [(0, .slice A n c), (3, .int .i64 ((ll.take i).flatten.length : Nat)), (9, .slice A n c), (10, .int .i64 n), (11, .int .i64 i)]) (fun i => n - i) 0 ⟨Nat.zero_le _, rfl⟩ ⟨rfl, rfl, rfl, rfl, rfl, trivial⟩ ?_
  rintro i E W ⟨hi, rfl⟩
  have hfl := flat_take_le' ll i
  refine p_lt rfl rfl (fun hlt => ?_) (fun hge => ?_)
  · obtain ⟨b, off, A', m, c', l, rfl, hl, hcell, hrl⟩ := hr.lsat (i := i) (by omega)
    have hfl2 := flat_take_le' ll (i + 1)
    rw [take_flat' hl, List.length_append] at hfl2
    obtain ⟨e1, _, _⟩ := hrl.rd Fd.lt
    subst e1
    refine p_at sl_ls' rfl rfl rfl (by omega) ?_
    refine v_load agg_b rfl (by rw [Addr.add_lit, Nat.mul_one]; exact hcell) ?_
    refine p_len slb rfl ?_
    refine p_add rfl rfl (r := (((ll.take (i + 1)).flatten.length : Nat) : Int)) ((w64 (by omega)).trans (by rw [take_flat' hl, List.length_append]; omega)) ?_
    refine p_lt rfl rfl (fun h => by omega) (fun _ => ?_)
    refine p_add rfl rfl (r := ((i + 1 : Nat) : Int)) ((w64 (by omega)).trans (by omega)) ?_
    exact ⟨i + 1, ⟨by omega, rfl⟩, ⟨rfl, rfl, rfl, rfl, rfl, trivial⟩, by omega⟩
  · have hin : i = n := by omega
    subst hin
    rw [List.take_of_length_le (by omega)] at hfl
    rw [show ll.take i = ll from List.take_of_length_le (by omega)]
    refine cc is_grow (grow_any _ W (by omega)) ?_
    rintro e W1 ⟨A1, c1, rfl, o1, b1⟩
    refine ⟨_, rfl, ?_⟩
    refine p_len sl_ls' rfl ?_
    have A1' : At W W1 (bk A1 :: gs) := (At.start hgs).new b1 (fun b e => (o1.bklo b e).2)
    have s1 : Stp W gs W1 (bk A1 :: gs) := Stp.new b1 (fun b e => (o1.bklo b e).1)
    refine lp (Nat × Option Addr × Nat) (fun s W2 => s.1 ≤ i ∧ Own W2 W.heap.size s.2.1 (ll.take s.1).flatten.length s.2.2 (ll.take s.1).flatten ∧ At W W2 (bk s.2.1 :: gs) ∧ Stp W gs W2 (bk s.2.1 :: gs)) (fun s => [(6, .slice s.2.1 (ll.take s.1).flatten.length s.2.2), (25, .slice A i c), (26, .int .i64 i), (27, .int .i64 s.1)]) (fun s => i - s.1) (0, A1, c1) ⟨Nat.zero_le _, o1, A1', s1⟩ ⟨rfl, rfl, rfl, rfl, trivial⟩ ?_
    clear o1 A1' s1
    rintro ⟨j, A2, c2⟩ E2 W2 ⟨hj, o2, A2', s2⟩
    dsimp only at hj o2 A2' s2
    refine p_lt rfl rfl (fun hlt => ?_) (fun hge => ?_)
    · obtain ⟨b, off, A', m, c', l, rfl, hl, hcell, hrl⟩ := (hr.up s2).lsat (i := j) (by omega)
      have hfl2 := flat_take_le' ll (j + 1)
      rw [take_flat' hl, List.length_append] at hfl2
      obtain ⟨e1, _, hrd⟩ := hrl.rd Fd.lt
      refine p_at sl_ls' rfl rfl rfl (by omega) ?_
      refine v_load agg_b rfl (by rw [Addr.add_lit, Nat.mul_one]; exact hcell) ?_
      refine v_appS rfl o2 rfl hrd (by dsimp only; omega) A2' ?_
      rintro A3 c3 W3 o3 s3 A3' - h3
      refine p_add rfl rfl (r := ((j + 1 : Nat) : Int)) ((w64 (by omega)).trans (by omega)) ?_
      have e2 : (ll.take (j + 1)).flatten.length = (ll.take j).flatten.length + m := by rw [take_flat' hl, List.length_append, e1]
      exact ⟨(j + 1, A3, c3), ⟨by dsimp only; omega, by dsimp only; rw [e2, take_flat' hl]; exact o3, A3', s2.trans s3⟩, ⟨by dsimp only; rw [e2]; rfl, rfl, rfl, rfl, trivial⟩, by dsimp only; omega⟩
    · have hjn : j = i := by omega
      subst hjn
      rw [show ll.take j = ll from List.take_of_length_le (by omega)] at o2
      refine ⟨A2, c2, ?_, o2, A2'.below⟩
      show Ending.returned (.slice A2 (ll.take j).flatten.length c2) = _
      rw [show ll.take j = ll from List.take_of_length_le (by omega)]
end Go.Proofs.YtdlljmmgkoeilaaDoor
namespace Go.Proofs.YtdlljmmgkoeilaaDoor

/-- Of each byte its upper half, and its lower half. -/
def ofB (l : List UInt8) : List UInt8 := l.flatMap fun c => [c / 16, c % 16]
theorem ofB_length (l : List UInt8) : (ofB l).length = 2 * l.length := by
  induction l with
  | nil => rfl
  | cons c l ih => simp [ofB, List.flatMap_cons] at *; omega
theorem ofB_append (l m : List UInt8) : ofB (l ++ m) = ofB l ++ ofB m := by simp [ofB, List.flatMap_append]
theorem ofB_take (l : List UInt8) (k : Nat) (h : k < l.length) : ofB (l.take (k + 1)) = ofB (l.take k) ++ [b8 (at8 l k / 16), b8 (at8 l k % 16)] := by
  rw [take_snoc l k h, ofB_append]
  congr 1
  have e : at8 l k = ((l.getD k 0).toNat : Int) := rfl
  rw [e]
  generalize l.getD k 0 = c
  have e1 : b8 ((c.toNat : Int) / 16) = c / 16 := by unfold b8; apply UInt8.toNat_inj.1; rw [UInt8.toNat_ofNat', UInt8.toNat_div]; simp; have := c.toNat_lt; omega
  have e2 : b8 ((c.toNat : Int) % 16) = c % 16 := by unfold b8; apply UInt8.toNat_inj.1; rw [UInt8.toNat_ofNat', UInt8.toNat_mod]; simp; have := c.toNat_lt; omega
  rw [e1, e2]; rfl
theorem at8_eq_iff (l m : List UInt8) (k : Nat) : at8 l k = at8 m k ↔ l.getD k 0 = m.getD k 0 := by
  unfold at8; constructor
  · intro h; exact UInt8.toNat_inj.1 (by omega)
  · intro h; rw [h]
theorem b8_add (a b : UInt8) (ha : a ≤ 15) (hb : b ≤ 15) : b8 (16 * (a.toNat : Int) + b.toNat) = 16 * a + b := by
  unfold b8; apply UInt8.toNat_inj.1
  have h1 := UInt8.le_iff_toNat_le.1 ha
  have h2 := UInt8.le_iff_toNat_le.1 hb
  rw [UInt8.toNat_ofNat', UInt8.toNat_add, UInt8.toNat_mul]
  simp at *; omega

/-- Are all halves? -/
def halvesB (l : List UInt8) : Bool := l.all fun c => decide (c ≤ 15)
theorem halvesB_take (l : List UInt8) (k : Nat) (h : k < l.length) (ht : halvesB (l.take k) = true) (hk : at8 l k ≤ 15) : halvesB (l.take (k + 1)) = true := by
  rw [take_snoc l k h]
  unfold halvesB at *
  rw [List.all_append, ht]
  have : l.getD k 0 ≤ 15 := by rw [UInt8.le_iff_toNat_le]; unfold at8 at hk; simp at *; omega
  simp only [List.all_cons, List.all_nil, Bool.and_true, Bool.true_and, decide_eq_true_eq]; exact this
theorem halvesB_no (l : List UInt8) (k : Nat) (h : k < l.length) (hk : 15 < at8 l k) : halvesB l = false := by
  unfold halvesB
  rw [List.all_eq_false]
  refine ⟨l[k], List.getElem_mem h, ?_⟩
  rw [at8_of l k h] at hk
  rw [decide_eq_true_eq, UInt8.le_iff_toNat_le]
  simp; omega
theorem halvesB_at (l : List UInt8) (h : halvesB l = true) (k : Nat) : at8 l k ≤ 15 := by
  by_cases hk : k < l.length
  · unfold halvesB at h
    rw [List.all_eq_true] at h
    have := h l[k] (List.getElem_mem hk)
    rw [decide_eq_true_eq, UInt8.le_iff_toNat_le] at this
    rw [at8_of l k hk]
    simp at this; omega
  · unfold at8
    rw [List.getD_eq_getElem?_getD, List.getElem?_eq_none (by omega)]; simp
theorem halvesB_le (l : List UInt8) (h : halvesB l = true) (c : UInt8) (hc : c ∈ l) : c ≤ 15 := by
  unfold halvesB at h
  rw [List.all_eq_true] at h
  simpa using h c hc
theorem halvesB_ofB (l : List UInt8) : halvesB (ofB l) = true := by
  unfold halvesB ofB
  rw [List.all_flatMap, List.all_eq_true]
  intro c _
  have h1 : c / 16 ≤ 15 := by rw [UInt8.le_iff_toNat_le, UInt8.toNat_div]; have := c.toNat_lt; simp; omega
  have h2 : c % 16 ≤ 15 := by rw [UInt8.le_iff_toNat_le, UInt8.toNat_mod]; have := c.toNat_lt; simp; omega
  simp [h1, h2]

/-- Two to a byte. -/
def joinB : List UInt8 → List UInt8
  | a :: b :: r => (16 * a + b) :: joinB r
  | _ => []
theorem joinB_take : ∀ (l : List UInt8) (k : Nat), 2 * k + 1 < l.length → joinB (l.take (2 * (k + 1))) = joinB (l.take (2 * k)) ++ [16 * l.getD (2 * k) 0 + l.getD (2 * k + 1) 0]
  | a :: b :: r, 0, _ => by simp [joinB]
  | a :: b :: r, k + 1, h => by
    have ih := joinB_take r k (by simp at h; omega)
    have e1 : 2 * (k + 1 + 1) = 2 * (k + 1) + 1 + 1 := by omega
    have e2 : 2 * (k + 1) = 2 * k + 1 + 1 := by omega
    rw [e1, e2]
    simp only [List.take_succ_cons, joinB, List.cons_append, List.getD_cons_succ]
    rw [← e2, ih]
  | [a], k, h => by simp at h
  | [], k, h => by simp at h
theorem joinB_take8 (l : List UInt8) (k : Nat) (h : 2 * k + 1 < l.length) (hh : halvesB l = true) : joinB (l.take (2 * (k + 1))) = joinB (l.take (2 * k)) ++ [b8 (at8 l (2 * k) * 16 + at8 l (2 * k + 1))] := by
  rw [joinB_take l k h]
  congr 2
  rw [at8_of l (2 * k) (by omega), at8_of l (2 * k + 1) h, Int.mul_comm, b8_add _ _ (halvesB_le l hh _ (List.getElem_mem _)) (halvesB_le l hh _ (List.getElem_mem _))]
  rw [List.getD_eq_getElem?_getD, List.getD_eq_getElem?_getD, List.getElem?_eq_getElem (by omega), List.getElem?_eq_getElem h]; rfl
theorem joinB_all (l : List UInt8) (k : Nat) (h : l.length ≤ 2 * k + 1) (hk : 2 * k ≤ l.length) : joinB (l.take (2 * k)) = joinB l := by
  induction l using joinB.induct generalizing k with
  | case1 a b r ih =>
    obtain ⟨j, rfl⟩ : ∃ j, k = j + 1 := ⟨k - 1, by simp at h; omega⟩
    have e2 : 2 * (j + 1) = 2 * j + 1 + 1 := by omega
    rw [e2]
    simp only [List.take_succ_cons, joinB]
    rw [ih j (by simp at h; omega) (by simp at hk; omega)]
  | case2 t x =>
    rcases t with _ | ⟨a, _ | ⟨b, r⟩⟩
    · simp
    · have : k = 0 := by simp at hk; omega
      subst this; simp [joinB]
    · exact absurd rfl (x a b r)

/-- How many stand at the begin of both. -/
def commonB : List UInt8 → List UInt8 → Nat
  | a :: l, b :: m => if a = b then commonB l m + 1 else 0
  | _, _ => 0
theorem commonB_le : ∀ l m : List UInt8, commonB l m ≤ l.length ∧ commonB l m ≤ m.length
  | a :: l, b :: m => by
    have := commonB_le l m
    unfold commonB; split <;> simp <;> omega
  | [], _ => by simp [commonB]
  | _ :: _, [] => by simp [commonB]
theorem commonB_at : ∀ (l m : List UInt8) (k : Nat), l.take k = m.take k → k < l.length → k < m.length → l.getD k 0 ≠ m.getD k 0 → commonB l m = k
  | a :: l, b :: m, 0, _, _, _, h => by simp at h; simp [commonB, h]
  | a :: l, b :: m, k + 1, ht, h1, h2, h => by
    simp only [List.take_succ_cons, List.cons.injEq] at ht
    unfold commonB
    rw [if_pos ht.1, commonB_at l m k ht.2 (by simpa using h1) (by simpa using h2) (by simpa using h)]
  | [], _, _, _, h, _, _ => by simp at h
  | _ :: _, [], _, _, _, h, _ => by simp at h
theorem commonB_end : ∀ (l m : List UInt8) (k : Nat), l.take k = m.take k → k = min l.length m.length → commonB l m = k
  | a :: l, b :: m, 0, _, h => by simp at h
  | a :: l, b :: m, k + 1, ht, h => by
    simp only [List.take_succ_cons, List.cons.injEq] at ht
    unfold commonB
    rw [if_pos ht.1, commonB_end l m k ht.2 (by simp at h; omega)]
  | [], m, k, _, h => by simp at h; subst h; simp [commonB]
  | _ :: _, [], k, _, h => by simp at h; subst h; simp [commonB]
theorem take_both (l m : List UInt8) (k : Nat) (ht : l.take k = m.take k) (h1 : k < l.length) (h2 : k < m.length) (h : l.getD k 0 = m.getD k 0) : l.take (k + 1) = m.take (k + 1) := by
  rw [take_snoc l k h1, take_snoc m k h2, ht, h]

theorem commonB_pre : ∀ l m : List UInt8, l.take (commonB l m) = m.take (commonB l m)
  | a :: l, b :: m => by
    unfold commonB
    by_cases h : a = b
    · rw [if_pos h]; simp [h, commonB_pre l m]
    · rw [if_neg h]; rfl
  | [], m => by simp [commonB]
  | _ :: _, [] => by simp [commonB]
/-- Half by half: what is a beginning comes first. -/
def cmpB (a b : List UInt8) : Int :=
  let n := commonB a b
  if n = a.length ∧ n = b.length then 0 else if n = a.length ∨ n < b.length ∧ at8 a n < at8 b n then -1 else 1

def bytesE (l : List UInt8) : Int := if halvesB l = true then (if l.length % 2 = 1 then 11 else 0) else 2
def bytesL (l : List UInt8) : List UInt8 := if halvesB l = true then (if l.length % 2 = 1 then [] else joinB l) else []
def packL (l : List UInt8) (leaf : Bool) : List UInt8 :=
  if halvesB l = true then (if l.length % 2 = 1 then b8 ((if leaf = true then 32 else 0) + 16 + at8 l 0) :: joinB (l.drop 1) else b8 (if leaf = true then 32 else 0) :: joinB l) else []
theorem or_halves (a b : Int) (h0 : 0 ≤ a) (h1 : a ≤ 15) (h2 : 0 ≤ b) (h3 : b ≤ 15) : bits .or .u8 (a * 16) b = a * 16 + b := by
  have h : ∀ x y : Fin 16, bits .or .u8 ((x.val : Int) * 16) (y.val : Int) = (x.val : Int) * 16 + (y.val : Int) := by decide +kernel
  have := h ⟨a.toNat, by omega⟩ ⟨b.toNat, by omega⟩
  simp only [Int.toNat_of_nonneg h0, Int.toNat_of_nonneg h2] at this
  exact this
end Go.Proofs.YtdlljmmgkoeilaaDoor
namespace Go.Proofs.YtdlljmmgkoeilaaDoor
open Go.RowKit
/-- A node of a trie. -/
inductive Nd where
  | mk (kind : Int) (path : List UInt8) (has : Bool) (val : List UInt8) (kids : List Nd) (hash : List UInt8)
namespace Nd
def kind : Nd → Int | .mk k _ _ _ _ _ => k
def path : Nd → List UInt8 | .mk _ p _ _ _ _ => p
def has : Nd → Bool | .mk _ _ h _ _ _ => h
def val : Nd → List UInt8 | .mk _ _ _ v _ _ => v
def kids : Nd → List Nd | .mk _ _ _ _ ks _ => ks
def hash : Nd → List UInt8 | .mk _ _ _ _ _ h => h
theorem eta (t : Nd) : t = .mk t.kind t.path t.has t.val t.kids t.hash := by cases t; rfl
end Nd
def noneN : Nd := .mk 0 [] false [] [] []
mutual
def sz : Nd → Nat
  | .mk _ p _ v ks hs => 6 + p.length + v.length + hs.length + szs ks
def szs : List Nd → Nat
  | [] => 0
  | t :: ts => sz t + szs ts
end
theorem sz_eq (t : Nd) : sz t = 6 + t.path.length + t.val.length + t.hash.length + szs t.kids := by cases t; unfold sz; rfl
theorem szs_mem : ∀ {ks : List Nd} {k : Nd}, k ∈ ks → sz k ≤ szs ks
  | t :: ts, k, h => by
    unfold szs
    rcases List.mem_cons.1 h with rfl | h
    · omega
    · have := szs_mem h; omega
theorem szs_len : ∀ (ks : List Nd), 6 * ks.length ≤ szs ks
  | [] => Nat.zero_le _
  | t :: ts => by
    have := szs_len ts
    have := sz_eq t
    unfold szs
    rw [List.length_cons]; omega
mutual
def dN : Nd → List D
  | .mk k p h v ks hs => [.v (.int .i64 k), dB p, .v (.bool h), dB v, .sl 6 ks.length (dNs ks), dB hs]
def dNs : List Nd → List D
  | [] => []
  | t :: ts => dN t ++ dNs ts
end
theorem dN_eq (t : Nd) : dN t = [.v (.int .i64 t.kind), dB t.path, .v (.bool t.has), dB t.val, .sl 6 t.kids.length (dNs t.kids), dB t.hash] := by cases t; unfold dN; rfl
theorem dN_len (t : Nd) : (dN t).length = 6 := by rw [dN_eq]; rfl
theorem dNs_len : ∀ ks : List Nd, (dNs ks).length = ks.length * 6
  | [] => rfl
  | t :: ts => by unfold dNs; rw [List.length_append, dN_len, dNs_len ts, List.length_cons]; omega
theorem dNs_app : ∀ (a b : List Nd), dNs (a ++ b) = dNs a ++ dNs b
  | [], b => rfl
  | t :: a, b => by rw [List.cons_append, dNs, dNs, dNs_app a b, List.append_assoc]
theorem dNs_at : ∀ {ks : List Nd} {i : Nat} {t : Nd}, ks[i]? = some t → ((dNs ks).drop (i * 6)).take 6 = dN t
  | t0 :: ks, 0, t, h => by
    simp at h; subst h
    rw [Nat.zero_mul, List.drop_zero, dNs, List.take_append_of_le_length (by rw [dN_len]; omega), List.take_of_length_le (by rw [dN_len]; omega)]
  | t0 :: ks, i + 1, t, h => by
    rw [dNs, show (i + 1) * 6 = (dN t0).length + i * 6 by rw [dN_len]; omega, ← List.drop_drop, List.drop_left]
    exact dNs_at (by simpa using h)
theorem dN_one (t : Nd) : ∀ d ∈ dN t, d.One := by
  intro d hd
  rw [dN_eq] at hd
  simp only [List.mem_cons, List.not_mem_nil, or_false] at hd
  rcases hd with rfl | rfl | rfl | rfl | rfl | rfl <;> first | rfl | trivial
theorem dNs_one : ∀ (ks : List Nd), ∀ d ∈ dNs ks, d.One
  | [], d, h => by cases h
  | t :: ks, d, h => by
    rw [dNs] at h
    rcases List.mem_append.1 h with h | h
    · exact dN_one t d h
    · exact dNs_one ks d h
/-- A node's cells. -/
def ncs (t : Nd) (Ap : Option Addr) (cp : Nat) (Av : Option Addr) (cv : Nat) (Ak : Option Addr) (ck : Nat) (Ah : Option Addr) (ch : Nat) : List Value :=
  [.int .i64 t.kind, .slice Ap t.path.length cp, .bool t.has, .slice Av t.val.length cv, .slice Ak t.kids.length ck, .slice Ah t.hash.length ch]
/-- A slice of nodes. -/
abbrev dKs (ks : List Nd) : D := .sl 6 ks.length (dNs ks)
section
variable {W : World} {F : Nat → Prop}
theorem RdL.node {t : Nd} {cs : List Value} (h : RdL W F (dN t) cs) : ∃ Ap cp Av cv Ak ck Ah ch, cs = ncs t Ap cp Av cv Ak ck Ah ch ∧
    RdD W F (dB t.path) (.slice Ap t.path.length cp) ∧ RdD W F (dB t.val) (.slice Av t.val.length cv) ∧ RdD W F (dKs t.kids) (.slice Ak t.kids.length ck) ∧ RdD W F (dB t.hash) (.slice Ah t.hash.length ch) := by
  rw [dN_eq] at h
  obtain ⟨u0, _, rfl, h0, h⟩ := h.uncons
  obtain ⟨u1, _, rfl, h1, h⟩ := h.uncons
  obtain ⟨u2, _, rfl, h2, h⟩ := h.uncons
  obtain ⟨u3, _, rfl, h3, h⟩ := h.uncons
  obtain ⟨u4, _, rfl, h4, h⟩ := h.uncons
  obtain ⟨u5, _, rfl, h5, h⟩ := h.uncons
  rw [h.isnil]
  obtain ⟨A1, c1, e1, _⟩ := h1.open_
  obtain ⟨A3, c3, e3, _⟩ := h3.open_
  obtain ⟨A4, c4, e4, _⟩ := h4.open_
  obtain ⟨A5, c5, e5, _⟩ := h5.open_
  have e0 := RdD.val.1 h0
  have e2 := RdD.val.1 h2
  subst e0; subst e1; subst e2; subst e3; subst e4; subst e5
  exact ⟨A1, c1, A3, c3, A4, c4, A5, c5, rfl, h1, h3, h4, h5⟩
theorem RdL.ofnode {t : Nd} {Ap Av Ak Ah : Option Addr} {cp cv ck ch : Nat} (h1 : RdD W F (dB t.path) (.slice Ap t.path.length cp)) (h3 : RdD W F (dB t.val) (.slice Av t.val.length cv)) (h4 : RdD W F (dKs t.kids) (.slice Ak t.kids.length ck)) (h5 : RdD W F (dB t.hash) (.slice Ah t.hash.length ch)) : RdL W F (dN t) (ncs t Ap cp Av cv Ak ck Ah ch) := by
  rw [dN_eq]
  exact RdL.cons (RdD.ofv _) (RdL.cons h1 (RdL.cons (RdD.ofv _) (RdL.cons h3 (RdL.cons h4 (RdL.cons h5 RdL.nil_)))))
/-- A kid. -/
theorem RdD.kid {ks : List Nd} {A : Option Addr} {n c i : Nat} {k : Nd} (h : RdD W F (dKs ks) (.slice A n c)) (hk : ks[i]? = some k) :
    ∃ b off es, A = some ⟨b, off, none⟩ ∧ F b ∧ RdL W F (dN k) es ∧ es.length = 6 ∧ ∀ j x, es[j]? = some x → W.cell? (((⟨b, off, none⟩ : Addr).add (i * 6)).add j) = some x := by
  have hn := h.slen
  have hi := (List.getElem?_eq_some_iff.1 hk).1
  obtain ⟨b, off, es, e1, hF, hes, hel, hc⟩ := h.at_ (i := i) (by omega)
  rw [dNs_at hk] at hes
  exact ⟨b, off, es, e1, hF, hes, hel, fun j x hx => by rw [Addr.add_lit, Addr.add_lit]; exact hc j x hx⟩
end
end Go.Proofs.YtdlljmmgkoeilaaDoor
namespace Go.Proofs.YtdlljmmgkoeilaaDoor
open Go.RowKit
theorem fN0 : fieldOff Tryd.prog 28 0 = some 0 := by kernel_rfl
theorem fN1 : fieldOff Tryd.prog 28 1 = some 1 := by kernel_rfl
theorem fN2 : fieldOff Tryd.prog 28 2 = some 2 := by kernel_rfl
theorem fN3 : fieldOff Tryd.prog 28 3 = some 3 := by kernel_rfl
theorem fN4 : fieldOff Tryd.prog 28 4 = some 4 := by kernel_rfl
theorem fN5 : fieldOff Tryd.prog 28 5 = some 5 := by kernel_rfl
theorem agg_bo : aggOf Tryd.prog 4 = some (false, 1) := by kernel_rfl
theorem agg_ns : aggOf Tryd.prog 26 = some (false, 1) := by kernel_rfl
theorem agg_nd : aggOf Tryd.prog 28 = some (true, 6) := by kernel_rfl
theorem sln : slOf Tryd.prog 26 = some (28, 6) := by kernel_rfl
theorem sz_nd : (Tryd.prog.info? 28).map (·.size) = some 6 := by kernel_rfl
theorem al_nd : (Tryd.prog.info? 28).map (fun i => i.zero.map fun z => z.cells.toList) = some (some [.int .i64 0, .slice none 0 0, .bool false, .slice none 0 0, .slice none 0 0, .slice none 0 0]) := by kernel_rfl
theorem u_bool : Tryd.prog.underlying 4 = some .bool := by kernel_rfl
theorem agg_by' : aggOf Tryd.prog 5 = some (false, 1) := by kernel_rfl
theorem is_h1 : isFn Tryd.prog 70 = true := by kernel_rfl
theorem is_ixf : isFn Tryd.prog 82 = true := by kernel_rfl
theorem is_ctf : isFn Tryd.prog 69 = true := by kernel_rfl
theorem is_nh : isFn Tryd.prog 53 = true := by kernel_rfl
set_option maxRecDepth 100000 in
theorem h1_any (c : Nat) (w : World) :
    Calls Tryd.prog 70 #[.int .u8 c] w fun e w' => e = .returned (.bool (decide (15 < c))) ∧ w = w' := by
  refine calls_ev (args := [.int .u8 c]) mixed Tryd.func70 rfl (by kernel_rfl) ?_
  refine p_gt rfl rfl (fun h => ?_) (fun h => ?_)
  · exact ⟨by rw [decide_eq_true (by omega)]; rfl, rfl⟩
  · exact ⟨by rw [decide_eq_false (by omega)]; rfl, rfl⟩
set_option maxRecDepth 100000 in
theorem ixf_any (A : Option Addr) (n c B : Nat) (l : List UInt8) (w : World) (hr : Rd w B A n l) (hn : n ≤ 1000000000000) :
    Calls Tryd.prog 82 #[.slice A n c, .func (.func 70) #[] #[]] w fun e w' => (∃ r : Int, e = .returned (.int .i64 r) ∧ (0 ≤ r ↔ halvesB l = false)) ∧ w = w' := by
  refine calls_ev (args := [.slice A n c, .func (.func 70) #[] #[]]) mixed Tryd.func82 rfl (by kernel_rfl) ?_
  have hl := hr.len
  refine p_len slb rfl ?_
  refine lp Nat (fun i W => i ≤ n ∧ w = W ∧ halvesB (l.take i) = true) (fun i => [(0, .slice A n c), (1, .func (.func 70) #[] #[]), (7, .int .i64 n), (8, .int .i64 i)]) (fun i => n - i) 0 ⟨Nat.zero_le _, rfl, by simp [halvesB]⟩ ⟨rfl, rfl, rfl, rfl, trivial⟩ ?_
  rintro i E W ⟨hi, rfl, hh⟩
  refine p_lt rfl rfl (fun hlt => ?_) (fun hge => ?_)
  · obtain ⟨b, off, rfl, hc⟩ := hr.at_ (k := i) (by omega)
    have hb := at8_lo l i
    refine p_at slb rfl rfl rfl (by omega) ?_
    have e8 : at8 l i = ((l.getD i 0).toNat : Int) := rfl
    rw [e8] at hc
    refine v_load agg_by' rfl (by rw [Addr.add_lit, Nat.mul_one]; exact hc) ?_
    refine cc is_h1 (h1_any (l.getD i 0).toNat w) ?_
    rintro e W2 ⟨rfl, rfl⟩
    refine ⟨_, rfl, ?_⟩
    by_cases h15 : 15 < (l.getD i 0).toNat
    · rw [decide_eq_true h15]
      refine ⟨⟨(i : Int), rfl, ?_⟩, rfl⟩
      have := halvesB_no l i (by omega) (by rw [e8]; omega)
      simp [this]
    · rw [decide_eq_false h15]
      refine p_add rfl rfl (r := ((i + 1 : Nat) : Int)) ((w64 (by omega)).trans (by omega)) ?_
      exact ⟨i + 1, ⟨by omega, rfl, halvesB_take l i (by omega) hh (by rw [e8]; omega)⟩, ⟨rfl, rfl, rfl, rfl, trivial⟩, by omega⟩
  · have hin : i = n := by omega
    subst hin
    rw [List.take_of_length_le (by omega)] at hh
    exact ⟨⟨-1, rfl, by rw [hh]; simp⟩, rfl⟩
set_option maxRecDepth 100000 in
theorem nhalves_any (A : Option Addr) (n c B : Nat) (l : List UInt8) (w : World) (hr : Rd w B A n l) (hn : n ≤ 1000000000000) :
    Calls Tryd.prog 53 #[.slice A n c] w fun e w' => e = .returned (.bool (halvesB l)) ∧ w = w' := by
  refine calls_ev (args := [.slice A n c]) mixed Tryd.func53 rfl (by kernel_rfl) ?_
  have ctf : Calls Tryd.prog 69 #[.slice A n c, .func (.func 70) #[] #[]] w fun e w' => e = .returned (.bool (!halvesB l)) ∧ w = w' := by
    refine calls_ev (args := [.slice A n c, .func (.func 70) #[] #[]]) mixed Tryd.func69 rfl (by kernel_rfl) ?_
    refine cc is_ixf (ixf_any A n c B l w hr hn) ?_
    rintro e W ⟨⟨r, rfl, hx⟩, rfl⟩
    refine ⟨_, rfl, ?_⟩
    refine p_ge rfl rfl (fun h => ?_) (fun h => ?_)
    · exact ⟨by rw [hx.1 h]; rfl, rfl⟩
    · have : halvesB l = true := by
        cases hq : halvesB l with
        | true => rfl
        | false => exact absurd (hx.2 hq) h
      exact ⟨by rw [this]; rfl, rfl⟩
  refine cc is_ctf ctf ?_
  rintro e W ⟨rfl, rfl⟩
  refine ⟨_, rfl, ?_⟩
  refine p_not rfl ?_
  exact ⟨by rw [Bool.not_not]; rfl, rfl⟩
def endsP (d : Nat) (even : Bool) : Bool := decide (d ≤ 400) && (!even || decide (d % 2 = 0))
theorem tmod2' (a : Nat) : ((a : Nat) : Int).tmod 2 = ((a % 2 : Nat) : Int) := by rw [Int.tmod_eq_emod_of_nonneg (by omega)]; omega
theorem is_ends : isFn Tryd.prog 55 = true := by kernel_rfl
set_option maxRecDepth 100000 in
theorem ends_any (d : Nat) (even : Bool) (w : World) :
    Calls Tryd.prog 55 #[.int .i64 d, .bool even] w fun e w' => e = .returned (.bool (endsP d even)) ∧ w = w' := by
  refine calls_ev (args := [.int .i64 d, .bool even]) mixed Tryd.func55 rfl (by kernel_rfl) ?_
  refine p_le rfl rfl (fun h => ?_) (fun h => ?_)
  · refine p_not rfl ?_
    cases even with
    | false => exact ⟨by unfold endsP; rw [decide_eq_true (by omega)]; rfl, rfl⟩
    | true =>
      refine p_rem rfl rfl (by decide) (tmod2' _) ?_
      refine p_eq rfl rfl (fun h2 => ?_) (fun h2 => ?_)
      · exact ⟨by unfold endsP; rw [decide_eq_true (by omega), decide_eq_true (by omega)]; rfl, rfl⟩
      · exact ⟨by unfold endsP; rw [decide_eq_true (by omega), decide_eq_false (by omega)]; rfl, rfl⟩
  · exact ⟨by unfold endsP; rw [decide_eq_false (by omega)]; rfl, rfl⟩
end Go.Proofs.YtdlljmmgkoeilaaDoor
namespace Go.Proofs.YtdlljmmgkoeilaaDoor
open Go.RowKit
def bareP (t : Nd) (p v k h : Bool) : Bool := decide ((p = true ∨ t.path.length = 0) ∧ (v = true ∨ t.val.length = 0) ∧ (k = true ∨ t.kids.length = 0) ∧ (h = true ∨ t.hash.length = 0) ∧ (t.has = false ∨ t.kind = 3))
theorem is_bare : isFn Tryd.prog 54 = true := by kernel_rfl
theorem ncs_one (t : Nd) (Ap : Option Addr) (cp : Nat) (Av : Option Addr) (cv : Nat) (Ak : Option Addr) (ck : Nat) (Ah : Option Addr) (ch : Nat) : ∀ u ∈ ncs t Ap cp Av cv Ak ck Ah ch, u.oneCell' = true := by
  intro u hu
  simp only [ncs, List.mem_cons, List.not_mem_nil, or_false] at hu
  rcases hu with rfl | rfl | rfl | rfl | rfl | rfl <;> rfl
set_option maxRecDepth 100000 in
set_option maxHeartbeats 4000000 in
theorem bare_any (t : Nd) (Ap : Option Addr) (cp : Nat) (Av : Option Addr) (cv : Nat) (Ak : Option Addr) (ck : Nat) (Ah : Option Addr) (ch : Nat) (p v k h : Bool) (w : World) (hq : (p = false ∧ v = false ∧ k = false ∧ h = false) ∨ (p = true ∧ v = true ∧ k = false ∧ h = false) ∨ (p = false ∧ v = false ∧ k = false ∧ h = true) ∨ (p = true ∧ v = false ∧ k = true ∧ h = false) ∨ (p = false ∧ v = false ∧ k = true ∧ h = false) ∨ (p = false ∧ v = true ∧ k = true ∧ h = false)) :
    Calls Tryd.prog 54 #[.agg (ncs t Ap cp Av cv Ak ck Ah ch).toArray, .bool p, .bool v, .bool k, .bool h] w fun e w' => e = .returned (.bool (bareP t p v k h)) ∧ Below w.heap.size w w' := by
  refine calls_ev (args := [.agg (ncs t Ap cp Av cv Ak ck Ah ch).toArray, .bool p, .bool v, .bool k, .bool h]) mixed Tryd.func54 rfl (by kernel_rfl) ?_
  refine v_boxB (ncs t Ap cp Av cv Ak ck Ah ch) rfl ?_
  rintro g W1 hg hB hb hs1
  subst hg
  unfold ncs at hB
  unfold bareP
  rcases hq with ⟨rfl, rfl, rfl, rfl⟩ | ⟨rfl, rfl, rfl, rfl⟩ | ⟨rfl, rfl, rfl, rfl⟩ | ⟨rfl, rfl, rfl, rfl⟩ | ⟨rfl, rfl, rfl, rfl⟩ | ⟨rfl, rfl, rfl, rfl⟩ <;> cases hh : t.has <;> rw [hh] at hB
  all_goals
    repeat' first
      | (refine p_fld fN0 rfl ?_)
      | (refine p_fld fN1 rfl ?_)
      | (refine p_fld fN2 rfl ?_)
      | (refine p_fld fN3 rfl ?_)
      | (refine p_fld fN4 rfl ?_)
      | (refine p_fld fN5 rfl ?_)
      | (refine v_load agg_int rfl (hB.at_ rfl) ?_)
      | (refine v_load agg_b rfl (hB.at_ rfl) ?_)
      | (refine v_load agg_bo rfl (hB.at_ rfl) ?_)
      | (refine v_load agg_ns rfl (hB.at_ rfl) ?_)
      | (refine p_len slb rfl ?_)
      | (refine p_len sln rfl ?_)
      | (refine p_eq rfl rfl (fun _ => ?_) (fun _ => ?_))
      | (refine p_not rfl ?_)
  all_goals (refine ⟨?_, hb⟩)
  all_goals first
    | exact congrArg (fun q => Ending.returned (.bool q)) (decide_eq_true (by simp only [Bool.false_eq_true, false_or, true_or, true_and, and_true, reduceCtorEq]; omega)).symm
    | exact congrArg (fun q => Ending.returned (.bool q)) (decide_eq_false (by simp only [Bool.false_eq_true, false_or, true_or, true_and, and_true, reduceCtorEq]; omega)).symm
end Go.Proofs.YtdlljmmgkoeilaaDoor
