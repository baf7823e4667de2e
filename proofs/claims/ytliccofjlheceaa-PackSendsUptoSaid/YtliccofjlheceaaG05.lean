/- The walks of Go's library: bytes.Clone, Equal, HasPrefix; slices.Clone, Grow, Concat of bytes. The walks of slices.Grow (of nothing) and slices.Concat, of bytes. Halves of bytes: the plain functions. Nodes, plainly, and as data. The walks of package node's small functions: halves, bare, ends. The walks of node's bare. The walks of node's right, branch, Check. -/
import Derived.Test.YtliccofjlheceaaG04
import Derived.Lib.AppendZeros
namespace Go.Proofs.Ytliccofjlheceaa
open Go.RowKit
theorem isSlb : isSl Try.prog 23 = true := by kernel_rfl
theorem is_bclone : isFn Try.prog 76 = true := by kernel_rfl
theorem is_beq : isFn Try.prog 49 = true := by kernel_rfl
set_option maxRecDepth 100000 in
theorem bclone_any (gs : List (Option Nat)) (A : Option Addr) (n c : Nat) (l : List UInt8) (w : World) (hr : RdD w (Fd w gs) (dB l) (.slice A n c)) (hsz : n ≤ 100000000) :
    Calls Try.prog 76 #[.slice A n c] w fun e w' => ∃ A' c', e = .returned (.slice A' n c') ∧ Own w' w.heap.size A' n c' l ∧ (A' = none ↔ A = none) ∧ Below w.heap.size w w' := by
  refine calls_ev (args := [.slice A n c]) mixed Try.func76 rfl (by kernel_rfl) ?_
  obtain ⟨hn, hc, hrd⟩ := hr.rd Fd.lt
  refine p_sln isSlb rfl rfl (fun h => ?_) (fun h => ?_)
  · have h0 := hr.none0 h
    subst h
    have hl : l = [] := List.eq_nil_of_length_eq_zero (by omega)
    subst hl
    subst h0
    exact ⟨none, 0, rfl, Own.nil_ _ _, by simp, Below.refl _ _⟩
  · refine v_bslice0 slb ?_
    rintro g W1 hg hB hb hs1
    have A1 : At w W1 [some g] := (At.start (gs := []) (by simp)).new (hg ▸ hb) (fun b e => by injection e with e; omega)
    refine v_appS rfl (Own.blk (l := []) hB (by omega) (by simp)) rfl (hrd.below (hg ▸ hb)) (by omega) A1 ?_
    rintro A3 c3 W3 o3 s3 A3' hA3 h3
    rw [Nat.zero_add] at o3
    refine ⟨A3, c3, by rw [Nat.zero_add]; rfl, o3, ⟨fun e => absurd (hA3.1 e).1 (by simp), fun e => absurd e h⟩, A3'.below⟩
set_option maxRecDepth 100000 in
theorem beq_any (A1 A2 : Option Addr) (n m c1 c2 B1 B2 : Nat) (a b : List UInt8) (w : World) (h1 : Rd w B1 A1 n a) (h2 : Rd w B2 A2 m b) :
    Calls Try.prog 49 #[.slice A1 n c1, .slice A2 m c2] w fun e w' => e = .returned (.bool (decide (a = b))) ∧ w = w' := by
  refine calls_ev (args := [.slice A1 n c1, .slice A2 m c2]) mixed Try.func49 rfl (by kernel_rfl) ?_
  refine v_str rfl h1 ?_
  refine v_str rfl h2 ?_
  refine p_seq rfl rfl (fun h => ?_) (fun h => ?_)
  · exact ⟨by rw [decide_eq_true (sb_inj.1 h)]; rfl, rfl⟩
  · exact ⟨by rw [decide_eq_false (fun e => h (by rw [e]))]; rfl, rfl⟩
end Go.Proofs.Ytliccofjlheceaa
namespace Go.Proofs.Ytliccofjlheceaa

/-- Of each byte its upper half, and its lower half. -/
def ofB (l : List UInt8) : List UInt8 := l.flatMap fun c => [c / 16, c % 16]
theorem ofB_length (l : List UInt8) : (ofB l).length = 2 * l.length := by
  induction l with
  | nil => rfl
  | cons c l ih => simp [ofB, List.flatMap_cons] at *; omega
theorem ofB_append (l m : List UInt8) : ofB (l ++ m) = ofB l ++ ofB m := by simp [ofB, List.flatMap_append]
theorem ofB_take (l : List UInt8) (k : Nat) (h : k < l.length) : ofB (l.take (k + 1)) = ofB (l.take k) ++ [b8 (at8 l k / 16), b8 (at8 l k % 16)] := by
  rw [take_snoc l k h, ofB_append]
  congr 1
  have e : at8 l k = ((l.getD k 0).toNat : Int) := rfl
  rw [e]
  generalize l.getD k 0 = c
  have e1 : b8 ((c.toNat : Int) / 16) = c / 16 := by unfold b8; apply UInt8.toNat_inj.1; rw [UInt8.toNat_ofNat', UInt8.toNat_div]; simp; have := c.toNat_lt; omega
  have e2 : b8 ((c.toNat : Int) % 16) = c % 16 := by unfold b8; apply UInt8.toNat_inj.1; rw [UInt8.toNat_ofNat', UInt8.toNat_mod]; simp; have := c.toNat_lt; omega
  rw [e1, e2]; rfl
theorem b8_add (a b : UInt8) (ha : a ≤ 15) (hb : b ≤ 15) : b8 (16 * (a.toNat : Int) + b.toNat) = 16 * a + b := by
  unfold b8; apply UInt8.toNat_inj.1
  have h1 := UInt8.le_iff_toNat_le.1 ha
  have h2 := UInt8.le_iff_toNat_le.1 hb
  rw [UInt8.toNat_ofNat', UInt8.toNat_add, UInt8.toNat_mul]
  simp at *; omega

/-- Are all halves? -/
def halvesB (l : List UInt8) : Bool := l.all fun c => decide (c ≤ 15)
theorem halvesB_take (l : List UInt8) (k : Nat) (h : k < l.length) (ht : halvesB (l.take k) = true) (hk : at8 l k ≤ 15) : halvesB (l.take (k + 1)) = true := by
  rw [take_snoc l k h]
  unfold halvesB at *
  rw [List.all_append, ht]
  have : l.getD k 0 ≤ 15 := by rw [UInt8.le_iff_toNat_le]; unfold at8 at hk; simp at *; omega
  simp only [List.all_cons, List.all_nil, Bool.and_true, Bool.true_and, decide_eq_true_eq]; exact this
theorem halvesB_no (l : List UInt8) (k : Nat) (h : k < l.length) (hk : 15 < at8 l k) : halvesB l = false := by
  unfold halvesB
  rw [List.all_eq_false]
  refine ⟨l[k], List.getElem_mem h, ?_⟩
  rw [at8_of l k h] at hk
  rw [decide_eq_true_eq, UInt8.le_iff_toNat_le]
  simp; omega
theorem halvesB_at (l : List UInt8) (h : halvesB l = true) (k : Nat) : at8 l k ≤ 15 := by
  by_cases hk : k < l.length
  · unfold halvesB at h
    rw [List.all_eq_true] at h
    have := h l[k] (List.getElem_mem hk)
    rw [decide_eq_true_eq, UInt8.le_iff_toNat_le] at this
    rw [at8_of l k hk]
    simp at this; omega
  · unfold at8
    rw [List.getD_eq_getElem?_getD, List.getElem?_eq_none (by omega)]; simp
theorem halvesB_le (l : List UInt8) (h : halvesB l = true) (c : UInt8) (hc : c ∈ l) : c ≤ 15 := by
  unfold halvesB at h
  rw [List.all_eq_true] at h
  simpa using h c hc
/-- Two to a byte. -/
def joinB : List UInt8 → List UInt8
  | a :: b :: r => (16 * a + b) :: joinB r
  | _ => []
theorem joinB_length : ∀ l : List UInt8, (joinB l).length = l.length / 2
  | a :: b :: r => by rw [joinB, List.length_cons, joinB_length r, List.length_cons, List.length_cons]; omega
  | [a] => by simp [joinB]
  | [] => by simp [joinB]
theorem joinB_take : ∀ (l : List UInt8) (k : Nat), 2 * k + 1 < l.length → joinB (l.take (2 * (k + 1))) = joinB (l.take (2 * k)) ++ [16 * l.getD (2 * k) 0 + l.getD (2 * k + 1) 0]
  | a :: b :: r, 0, _ => by simp [joinB]
  | a :: b :: r, k + 1, h => by
    have ih := joinB_take r k (by simp at h; omega)
    have e1 : 2 * (k + 1 + 1) = 2 * (k + 1) + 1 + 1 := by omega
    have e2 : 2 * (k + 1) = 2 * k + 1 + 1 := by omega
    rw [e1, e2]
    simp only [List.take_succ_cons, joinB, List.cons_append, List.getD_cons_succ]
    rw [← e2, ih]
  | [a], k, h => by simp at h
  | [], k, h => by simp at h
theorem joinB_take8 (l : List UInt8) (k : Nat) (h : 2 * k + 1 < l.length) (hh : halvesB l = true) : joinB (l.take (2 * (k + 1))) = joinB (l.take (2 * k)) ++ [b8 (at8 l (2 * k) * 16 + at8 l (2 * k + 1))] := by
  rw [joinB_take l k h]
  congr 2
  rw [at8_of l (2 * k) (by omega), at8_of l (2 * k + 1) h, Int.mul_comm, b8_add _ _ (halvesB_le l hh _ (List.getElem_mem _)) (halvesB_le l hh _ (List.getElem_mem _))]
  rw [List.getD_eq_getElem?_getD, List.getD_eq_getElem?_getD, List.getElem?_eq_getElem (by omega), List.getElem?_eq_getElem h]; rfl
theorem joinB_all (l : List UInt8) (k : Nat) (h : l.length ≤ 2 * k + 1) (hk : 2 * k ≤ l.length) : joinB (l.take (2 * k)) = joinB l := by
  induction l using joinB.induct generalizing k with
  | case1 a b r ih =>
    obtain ⟨j, rfl⟩ : ∃ j, k = j + 1 := ⟨k - 1, by simp at h; omega⟩
    have e2 : 2 * (j + 1) = 2 * j + 1 + 1 := by omega
    rw [e2]
    simp only [List.take_succ_cons, joinB]
    rw [ih j (by simp at h; omega) (by simp at hk; omega)]
  | case2 t x =>
    rcases t with _ | ⟨a, _ | ⟨b, r⟩⟩
    · simp
    · have : k = 0 := by simp at hk; omega
      subst this; simp [joinB]
    · exact absurd rfl (x a b r)

/-- How many stand at the begin of both. -/
def commonB : List UInt8 → List UInt8 → Nat
  | a :: l, b :: m => if a = b then commonB l m + 1 else 0
  | _, _ => 0
def bytesE (l : List UInt8) : Int := if halvesB l = true then (if l.length % 2 = 1 then 11 else 0) else 2
def bytesL (l : List UInt8) : List UInt8 := if halvesB l = true then (if l.length % 2 = 1 then [] else joinB l) else []
def packE (l : List UInt8) : Int := if halvesB l = true then 0 else 2
def packL (l : List UInt8) (leaf : Bool) : List UInt8 :=
  if halvesB l = true then (if l.length % 2 = 1 then b8 ((if leaf = true then 32 else 0) + 16 + at8 l 0) :: joinB (l.drop 1) else b8 (if leaf = true then 32 else 0) :: joinB l) else []
def unpackOk (b : List UInt8) : Bool := decide (at8 b 0 < 64) && (decide (at8 b 0 / 16 % 2 = 1) || decide (at8 b 0 % 16 = 0))
def unpackE (b : List UInt8) : Int := if b.length = 0 then 10 else if unpackOk b = true then 0 else 11
def unpackB (b : List UInt8) : Bool := decide (b.length ≠ 0) && unpackOk b && decide (at8 b 0 / 32 % 2 = 1)
def unpackL (b : List UInt8) : List UInt8 := if b.length = 0 then [] else if unpackOk b = true then (if at8 b 0 / 16 % 2 = 1 then [b8 (at8 b 0 % 16)] else []) ++ ofB (b.drop 1) else []
theorem or_halves (a b : Int) (h0 : 0 ≤ a) (h1 : a ≤ 15) (h2 : 0 ≤ b) (h3 : b ≤ 15) : bits .or .u8 (a * 16) b = a * 16 + b := by
  have h : ∀ x y : Fin 16, bits .or .u8 ((x.val : Int) * 16) (y.val : Int) = (x.val : Int) * 16 + (y.val : Int) := by decide +kernel
  have := h ⟨a.toNat, by omega⟩ ⟨b.toNat, by omega⟩
  simp only [Int.toNat_of_nonneg h0, Int.toNat_of_nonneg h2] at this
  exact this
end Go.Proofs.Ytliccofjlheceaa
namespace Go.Proofs.Ytliccofjlheceaa
open Go.RowKit
/-- A node of a trie. -/
inductive Nd where
  | mk (kind : Int) (path : List UInt8) (has : Bool) (val : List UInt8) (kids : List Nd) (hash : List UInt8)
namespace Nd
def kind : Nd → Int | .mk k _ _ _ _ _ => k
def path : Nd → List UInt8 | .mk _ p _ _ _ _ => p
def has : Nd → Bool | .mk _ _ h _ _ _ => h
def val : Nd → List UInt8 | .mk _ _ _ v _ _ => v
def kids : Nd → List Nd | .mk _ _ _ _ ks _ => ks
def hash : Nd → List UInt8 | .mk _ _ _ _ _ h => h
theorem eta (t : Nd) : t = .mk t.kind t.path t.has t.val t.kids t.hash := by cases t; rfl
end Nd
def noneN : Nd := .mk 0 [] false [] [] []
mutual
def sz : Nd → Nat
  | .mk _ p _ v ks hs => 6 + p.length + v.length + hs.length + szs ks
def szs : List Nd → Nat
  | [] => 0
  | t :: ts => sz t + szs ts
end
theorem sz_eq (t : Nd) : sz t = 6 + t.path.length + t.val.length + t.hash.length + szs t.kids := by cases t; unfold sz; rfl
theorem szs_mem : ∀ {ks : List Nd} {k : Nd}, k ∈ ks → sz k ≤ szs ks
  | t :: ts, k, h => by
    unfold szs
    rcases List.mem_cons.1 h with rfl | h
    · omega
    · have := szs_mem h; omega
theorem szs_len : ∀ (ks : List Nd), 6 * ks.length ≤ szs ks
  | [] => Nat.zero_le _
  | t :: ts => by
    have := szs_len ts
    have := sz_eq t
    unfold szs
    rw [List.length_cons]; omega
mutual
def dN : Nd → List D
  | .mk k p h v ks hs => [.v (.int .i64 k), dB p, .v (.bool h), dB v, .sl 6 ks.length (dNs ks), dB hs]
def dNs : List Nd → List D
  | [] => []
  | t :: ts => dN t ++ dNs ts
end
theorem dN_eq (t : Nd) : dN t = [.v (.int .i64 t.kind), dB t.path, .v (.bool t.has), dB t.val, .sl 6 t.kids.length (dNs t.kids), dB t.hash] := by cases t; unfold dN; rfl
theorem dN_len (t : Nd) : (dN t).length = 6 := by rw [dN_eq]; rfl
theorem dNs_len : ∀ ks : List Nd, (dNs ks).length = ks.length * 6
  | [] => rfl
  | t :: ts => by unfold dNs; rw [List.length_append, dN_len, dNs_len ts, List.length_cons]; omega
theorem dNs_app : ∀ (a b : List Nd), dNs (a ++ b) = dNs a ++ dNs b
  | [], b => rfl
  | t :: a, b => by rw [List.cons_append, dNs, dNs, dNs_app a b, List.append_assoc]
theorem dNs_at : ∀ {ks : List Nd} {i : Nat} {t : Nd}, ks[i]? = some t → ((dNs ks).drop (i * 6)).take 6 = dN t
  | t0 :: ks, 0, t, h => by
    simp at h; subst h
    rw [Nat.zero_mul, List.drop_zero, dNs, List.take_append_of_le_length (by rw [dN_len]; omega), List.take_of_length_le (by rw [dN_len]; omega)]
  | t0 :: ks, i + 1, t, h => by
    rw [dNs, show (i + 1) * 6 = (dN t0).length + i * 6 by rw [dN_len]; omega, ← List.drop_drop, List.drop_left]
    exact dNs_at (by simpa using h)
theorem dN_one (t : Nd) : ∀ d ∈ dN t, d.One := by
  intro d hd
  rw [dN_eq] at hd
  simp only [List.mem_cons, List.not_mem_nil, or_false] at hd
  rcases hd with rfl | rfl | rfl | rfl | rfl | rfl <;> first | rfl | trivial
/-- A node's cells. -/
def ncs (t : Nd) (Ap : Option Addr) (cp : Nat) (Av : Option Addr) (cv : Nat) (Ak : Option Addr) (ck : Nat) (Ah : Option Addr) (ch : Nat) : List Value :=
  [.int .i64 t.kind, .slice Ap t.path.length cp, .bool t.has, .slice Av t.val.length cv, .slice Ak t.kids.length ck, .slice Ah t.hash.length ch]
/-- A slice of nodes. -/
abbrev dKs (ks : List Nd) : D := .sl 6 ks.length (dNs ks)
section
variable {W : World} {F : Nat → Prop}
theorem RdL.node {t : Nd} {cs : List Value} (h : RdL W F (dN t) cs) : ∃ Ap cp Av cv Ak ck Ah ch, cs = ncs t Ap cp Av cv Ak ck Ah ch ∧
    RdD W F (dB t.path) (.slice Ap t.path.length cp) ∧ RdD W F (dB t.val) (.slice Av t.val.length cv) ∧ RdD W F (dKs t.kids) (.slice Ak t.kids.length ck) ∧ RdD W F (dB t.hash) (.slice Ah t.hash.length ch) := by
  rw [dN_eq] at h
  obtain ⟨u0, _, rfl, h0, h⟩ := h.uncons
  obtain ⟨u1, _, rfl, h1, h⟩ := h.uncons
  obtain ⟨u2, _, rfl, h2, h⟩ := h.uncons
  obtain ⟨u3, _, rfl, h3, h⟩ := h.uncons
  obtain ⟨u4, _, rfl, h4, h⟩ := h.uncons
  obtain ⟨u5, _, rfl, h5, h⟩ := h.uncons
  rw [h.isnil]
  obtain ⟨A1, c1, e1, _⟩ := h1.open_
  obtain ⟨A3, c3, e3, _⟩ := h3.open_
  obtain ⟨A4, c4, e4, _⟩ := h4.open_
  obtain ⟨A5, c5, e5, _⟩ := h5.open_
  have e0 := RdD.val.1 h0
  have e2 := RdD.val.1 h2
  subst e0; subst e1; subst e2; subst e3; subst e4; subst e5
  exact ⟨A1, c1, A3, c3, A4, c4, A5, c5, rfl, h1, h3, h4, h5⟩
theorem RdL.ofnode {t : Nd} {Ap Av Ak Ah : Option Addr} {cp cv ck ch : Nat} (h1 : RdD W F (dB t.path) (.slice Ap t.path.length cp)) (h3 : RdD W F (dB t.val) (.slice Av t.val.length cv)) (h4 : RdD W F (dKs t.kids) (.slice Ak t.kids.length ck)) (h5 : RdD W F (dB t.hash) (.slice Ah t.hash.length ch)) : RdL W F (dN t) (ncs t Ap cp Av cv Ak ck Ah ch) := by
  rw [dN_eq]
  exact RdL.cons (RdD.ofv _) (RdL.cons h1 (RdL.cons (RdD.ofv _) (RdL.cons h3 (RdL.cons h4 (RdL.cons h5 RdL.nil_)))))
/-- A kid. -/
theorem RdD.kid {ks : List Nd} {A : Option Addr} {n c i : Nat} {k : Nd} (h : RdD W F (dKs ks) (.slice A n c)) (hk : ks[i]? = some k) :
    ∃ b off es, A = some ⟨b, off, none⟩ ∧ F b ∧ RdL W F (dN k) es ∧ es.length = 6 ∧ ∀ j x, es[j]? = some x → W.cell? (((⟨b, off, none⟩ : Addr).add (i * 6)).add j) = some x := by
  have hn := h.slen
  have hi := (List.getElem?_eq_some_iff.1 hk).1
  obtain ⟨b, off, es, e1, hF, hes, hel, hc⟩ := h.at_ (i := i) (by omega)
  rw [dNs_at hk] at hes
  exact ⟨b, off, es, e1, hF, hes, hel, fun j x hx => by rw [Addr.add_lit, Addr.add_lit]; exact hc j x hx⟩
end
end Go.Proofs.Ytliccofjlheceaa
namespace Go.Proofs.Ytliccofjlheceaa
open Go.RowKit
theorem fN0 : fieldOff Try.prog 38 0 = some 0 := by kernel_rfl
theorem fN1 : fieldOff Try.prog 38 1 = some 1 := by kernel_rfl
theorem fN2 : fieldOff Try.prog 38 2 = some 2 := by kernel_rfl
theorem fN3 : fieldOff Try.prog 38 3 = some 3 := by kernel_rfl
theorem fN4 : fieldOff Try.prog 38 4 = some 4 := by kernel_rfl
theorem fN5 : fieldOff Try.prog 38 5 = some 5 := by kernel_rfl
theorem agg_bo : aggOf Try.prog 4 = some (false, 1) := by kernel_rfl
theorem agg_ns : aggOf Try.prog 36 = some (false, 1) := by kernel_rfl
theorem agg_nd : aggOf Try.prog 38 = some (true, 6) := by kernel_rfl
theorem sln : slOf Try.prog 36 = some (38, 6) := by kernel_rfl
theorem sz_nd : (Try.prog.info? 38).map (·.size) = some 6 := by kernel_rfl
theorem al_nd : (Try.prog.info? 38).map (fun i => i.zero.map fun z => z.cells.toList) = some (some [.int .i64 0, .slice none 0 0, .bool false, .slice none 0 0, .slice none 0 0, .slice none 0 0]) := by kernel_rfl
theorem u_bool : Try.prog.underlying 4 = some .bool := by kernel_rfl
theorem agg_by' : aggOf Try.prog 5 = some (false, 1) := by kernel_rfl
theorem is_h1 : isFn Try.prog 103 = true := by kernel_rfl
theorem is_ixf : isFn Try.prog 104 = true := by kernel_rfl
theorem is_ctf : isFn Try.prog 102 = true := by kernel_rfl
theorem is_nh : isFn Try.prog 87 = true := by kernel_rfl
set_option maxRecDepth 100000 in
theorem h1_any (c : Nat) (w : World) :
    Calls Try.prog 103 #[.int .u8 c] w fun e w' => e = .returned (.bool (decide (15 < c))) ∧ w = w' := by
  refine calls_ev (args := [.int .u8 c]) mixed Try.func103 rfl (by kernel_rfl) ?_
  refine p_gt rfl rfl (fun h => ?_) (fun h => ?_)
  · exact ⟨by rw [decide_eq_true (by omega)]; rfl, rfl⟩
  · exact ⟨by rw [decide_eq_false (by omega)]; rfl, rfl⟩
set_option maxRecDepth 100000 in
theorem ixf_any (A : Option Addr) (n c B : Nat) (l : List UInt8) (w : World) (hr : Rd w B A n l) (hn : n ≤ 1000000000000) :
    Calls Try.prog 104 #[.slice A n c, .func (.func 103) #[] #[]] w fun e w' => (∃ r : Int, e = .returned (.int .i64 r) ∧ (0 ≤ r ↔ halvesB l = false)) ∧ w = w' := by
  refine calls_ev (args := [.slice A n c, .func (.func 103) #[] #[]]) mixed Try.func104 rfl (by kernel_rfl) ?_
  have hl := hr.len
  refine p_len slb rfl ?_
  refine lp Nat (fun i W => i ≤ n ∧ w = W ∧ halvesB (l.take i) = true) (fun i => [(0, .slice A n c), (1, .func (.func 103) #[] #[]), (7, .int .i64 n), (8, .int .i64 i)]) (fun i => n - i) 0 ⟨Nat.zero_le _, rfl, by simp [halvesB]⟩ ⟨rfl, rfl, rfl, rfl, trivial⟩ ?_
  rintro i E W ⟨hi, rfl, hh⟩
  refine p_lt rfl rfl (fun hlt => ?_) (fun hge => ?_)
  · obtain ⟨b, off, rfl, hc⟩ := hr.at_ (k := i) (by omega)
    have hb := at8_lo l i
    refine p_at slb rfl rfl rfl (by omega) ?_
    have e8 : at8 l i = ((l.getD i 0).toNat : Int) := rfl
    rw [e8] at hc
    refine v_load agg_by' rfl (by rw [Addr.add_lit, Nat.mul_one]; exact hc) ?_
    refine cc is_h1 (h1_any (l.getD i 0).toNat w) ?_
    rintro e W2 ⟨rfl, rfl⟩
    refine ⟨_, rfl, ?_⟩
    by_cases h15 : 15 < (l.getD i 0).toNat
    · rw [decide_eq_true h15]
      refine ⟨⟨(i : Int), rfl, ?_⟩, rfl⟩
      have := halvesB_no l i (by omega) (by rw [e8]; omega)
      simp [this]
    · rw [decide_eq_false h15]
      refine p_add rfl rfl (r := ((i + 1 : Nat) : Int)) ((w64 (by omega)).trans (by omega)) ?_
      exact ⟨i + 1, ⟨by omega, rfl, halvesB_take l i (by omega) hh (by rw [e8]; omega)⟩, ⟨rfl, rfl, rfl, rfl, trivial⟩, by omega⟩
  · have hin : i = n := by omega
    subst hin
    rw [List.take_of_length_le (by omega)] at hh
    exact ⟨⟨-1, rfl, by rw [hh]; simp⟩, rfl⟩
set_option maxRecDepth 100000 in
theorem nhalves_any (A : Option Addr) (n c B : Nat) (l : List UInt8) (w : World) (hr : Rd w B A n l) (hn : n ≤ 1000000000000) :
    Calls Try.prog 87 #[.slice A n c] w fun e w' => e = .returned (.bool (halvesB l)) ∧ w = w' := by
  refine calls_ev (args := [.slice A n c]) mixed Try.func87 rfl (by kernel_rfl) ?_
  have ctf : Calls Try.prog 102 #[.slice A n c, .func (.func 103) #[] #[]] w fun e w' => e = .returned (.bool (!halvesB l)) ∧ w = w' := by
    refine calls_ev (args := [.slice A n c, .func (.func 103) #[] #[]]) mixed Try.func102 rfl (by kernel_rfl) ?_
    refine cc is_ixf (ixf_any A n c B l w hr hn) ?_
    rintro e W ⟨⟨r, rfl, hx⟩, rfl⟩
    refine ⟨_, rfl, ?_⟩
    refine p_ge rfl rfl (fun h => ?_) (fun h => ?_)
    · exact ⟨by rw [hx.1 h]; rfl, rfl⟩
    · have : halvesB l = true := by
        cases hq : halvesB l with
        | true => rfl
        | false => exact absurd (hx.2 hq) h
      exact ⟨by rw [this]; rfl, rfl⟩
  refine cc is_ctf ctf ?_
  rintro e W ⟨rfl, rfl⟩
  refine ⟨_, rfl, ?_⟩
  refine p_not rfl ?_
  exact ⟨by rw [Bool.not_not]; rfl, rfl⟩
def endsP (d : Nat) (even : Bool) : Bool := decide (d ≤ 400) && (!even || decide (d % 2 = 0))
theorem tmod2' (a : Nat) : ((a : Nat) : Int).tmod 2 = ((a % 2 : Nat) : Int) := by rw [Int.tmod_eq_emod_of_nonneg (by omega)]; omega
theorem is_ends : isFn Try.prog 89 = true := by kernel_rfl
set_option maxRecDepth 100000 in
theorem ends_any (d : Nat) (even : Bool) (w : World) :
    Calls Try.prog 89 #[.int .i64 d, .bool even] w fun e w' => e = .returned (.bool (endsP d even)) ∧ w = w' := by
  refine calls_ev (args := [.int .i64 d, .bool even]) mixed Try.func89 rfl (by kernel_rfl) ?_
  refine p_le rfl rfl (fun h => ?_) (fun h => ?_)
  · refine p_not rfl ?_
    cases even with
    | false => exact ⟨by unfold endsP; rw [decide_eq_true (by omega)]; rfl, rfl⟩
    | true =>
      refine p_rem rfl rfl (by decide) (tmod2' _) ?_
      refine p_eq rfl rfl (fun h2 => ?_) (fun h2 => ?_)
      · exact ⟨by unfold endsP; rw [decide_eq_true (by omega), decide_eq_true (by omega)]; rfl, rfl⟩
      · exact ⟨by unfold endsP; rw [decide_eq_true (by omega), decide_eq_false (by omega)]; rfl, rfl⟩
  · exact ⟨by unfold endsP; rw [decide_eq_false (by omega)]; rfl, rfl⟩
end Go.Proofs.Ytliccofjlheceaa
namespace Go.Proofs.Ytliccofjlheceaa
open Go.RowKit
def bareP (t : Nd) (p v k h : Bool) : Bool := decide ((p = true ∨ t.path.length = 0) ∧ (v = true ∨ t.val.length = 0) ∧ (k = true ∨ t.kids.length = 0) ∧ (h = true ∨ t.hash.length = 0) ∧ (t.has = false ∨ t.kind = 3))
theorem is_bare : isFn Try.prog 88 = true := by kernel_rfl
theorem ncs_one (t : Nd) (Ap : Option Addr) (cp : Nat) (Av : Option Addr) (cv : Nat) (Ak : Option Addr) (ck : Nat) (Ah : Option Addr) (ch : Nat) : ∀ u ∈ ncs t Ap cp Av cv Ak ck Ah ch, u.oneCell' = true := by
  intro u hu
  simp only [ncs, List.mem_cons, List.not_mem_nil, or_false] at hu
  rcases hu with rfl | rfl | rfl | rfl | rfl | rfl <;> rfl
set_option maxRecDepth 100000 in
set_option maxHeartbeats 4000000 in
theorem bare_any (t : Nd) (Ap : Option Addr) (cp : Nat) (Av : Option Addr) (cv : Nat) (Ak : Option Addr) (ck : Nat) (Ah : Option Addr) (ch : Nat) (p v k h : Bool) (w : World) (hq : (p = false ∧ v = false ∧ k = false ∧ h = false) ∨ (p = true ∧ v = true ∧ k = false ∧ h = false) ∨ (p = false ∧ v = false ∧ k = false ∧ h = true) ∨ (p = true ∧ v = false ∧ k = true ∧ h = false) ∨ (p = false ∧ v = false ∧ k = true ∧ h = false) ∨ (p = false ∧ v = true ∧ k = true ∧ h = false)) :
    Calls Try.prog 88 #[.agg (ncs t Ap cp Av cv Ak ck Ah ch).toArray, .bool p, .bool v, .bool k, .bool h] w fun e w' => e = .returned (.bool (bareP t p v k h)) ∧ Below w.heap.size w w' := by
  refine calls_ev (args := [.agg (ncs t Ap cp Av cv Ak ck Ah ch).toArray, .bool p, .bool v, .bool k, .bool h]) mixed Try.func88 rfl (by kernel_rfl) ?_
  refine v_boxB (ncs t Ap cp Av cv Ak ck Ah ch) rfl ?_
  rintro g W1 hg hB hb hs1
  subst hg
  unfold ncs at hB
  unfold bareP
  rcases hq with ⟨rfl, rfl, rfl, rfl⟩ | ⟨rfl, rfl, rfl, rfl⟩ | ⟨rfl, rfl, rfl, rfl⟩ | ⟨rfl, rfl, rfl, rfl⟩ | ⟨rfl, rfl, rfl, rfl⟩ | ⟨rfl, rfl, rfl, rfl⟩ <;> cases hh : t.has <;> rw [hh] at hB
  all_goals
    repeat' first
      | (refine p_fld fN0 rfl ?_)
      | (refine p_fld fN1 rfl ?_)
      | (refine p_fld fN2 rfl ?_)
      | (refine p_fld fN3 rfl ?_)
      | (refine p_fld fN4 rfl ?_)
      | (refine p_fld fN5 rfl ?_)
      | (refine v_load agg_int rfl (hB.at_ rfl) ?_)
      | (refine v_load agg_b rfl (hB.at_ rfl) ?_)
      | (refine v_load agg_bo rfl (hB.at_ rfl) ?_)
      | (refine v_load agg_ns rfl (hB.at_ rfl) ?_)
      | (refine p_len slb rfl ?_)
      | (refine p_len sln rfl ?_)
      | (refine p_eq rfl rfl (fun _ => ?_) (fun _ => ?_))
      | (refine p_not rfl ?_)
  all_goals (refine ⟨?_, hb⟩)
  all_goals first
    | exact congrArg (fun q => Ending.returned (.bool q)) (decide_eq_true (by simp only [Bool.false_eq_true, false_or, true_or, true_and, and_true, reduceCtorEq]; omega)).symm
    | exact congrArg (fun q => Ending.returned (.bool q)) (decide_eq_false (by simp only [Bool.false_eq_true, false_or, true_or, true_and, and_true, reduceCtorEq]; omega)).symm
end Go.Proofs.Ytliccofjlheceaa
namespace Go.Proofs.Ytliccofjlheceaa
open Go.RowKit
def kindsB (ks : List Nd) : Bool := ks.all fun k => decide (k.kind = 3 ∨ k.kind = 4)
def manyN (ks : List Nd) : Nat := (ks.filter fun k => decide (k.kind ≠ 0)).length
/-- May a node be, so many halves down? -/
def ownP (even : Bool) (k : Int) (p : List UInt8) (h : Bool) (v : List UInt8) (ks : List Nd) (hs : List UInt8) (d : Nat) (below : Nat → Bool) : Bool :=
  decide (d ≤ 400) && (decide (v.length ≤ 4000) && (halvesB p && (
    if k = 0 then decide (p.length = 0 ∧ v.length = 0 ∧ ks.length = 0 ∧ hs.length = 0 ∧ h = false)
    else if k = 1 then decide (ks.length = 0 ∧ hs.length = 0 ∧ h = false) && endsP (d + p.length) even
    else if k = 4 then decide (p.length = 0 ∧ v.length = 0 ∧ ks.length = 0 ∧ h = false ∧ hs.length = 32)
    else if k = 2 then decide (v.length = 0 ∧ hs.length = 0 ∧ h = false ∧ p.length ≠ 0 ∧ ks.length = 1) && (kindsB ks && below (d + p.length))
    else if k = 3 then decide (p.length = 0 ∧ hs.length = 0 ∧ (h = true ∨ v.length = 0)) && ((!h || endsP d even) && (decide (ks.length = 16) && (below (d + 1) && decide (2 ≤ (if h then 1 else 0) + manyN ks))))
    else false)))
mutual
def rightP (even : Bool) : Nd → Nat → Bool
  | .mk k p h v ks hs, d => ownP even k p h v ks hs d (rightsP even ks)
def rightsP (even : Bool) : List Nd → Nat → Bool
  | [], _ => true
  | t :: ts, d => rightP even t d && rightsP even ts d
end
theorem rightP_eq (even : Bool) (t : Nd) (d : Nat) : rightP even t d = ownP even t.kind t.path t.has t.val t.kids t.hash d (rightsP even t.kids) := by cases t; unfold rightP; rfl
theorem rightsP_snoc (even : Bool) (d : Nat) : ∀ (a : List Nd) (t : Nd), rightsP even (a ++ [t]) d = (rightsP even a d && rightP even t d)
  | [], t => by simp [rightsP]
  | x :: a, t => by rw [List.cons_append, rightsP, rightsP, rightsP_snoc even d a t, Bool.and_assoc]
theorem rightsP_bad {even : Bool} {d : Nat} : ∀ {ks : List Nd} {t : Nd}, t ∈ ks → rightP even t d = false → rightsP even ks d = false
  | x :: a, t, h, hb => by
    rw [rightsP]
    rcases List.mem_cons.1 h with rfl | h
    · rw [hb]; rfl
    · rw [rightsP_bad h hb, Bool.and_false]
theorem is_nright : isFn Try.prog 60 = true := by kernel_rfl
theorem is_nbranch : isFn Try.prog 90 = true := by kernel_rfl
/-- What node.right answers of this node. -/
def RightOk (t : Nd) : Prop := ∀ (gs : List (Option Nat)) (w : World) (cs : List Value) (d : Nat) (even : Bool), RdL w (Fd w gs) (dN t) cs → (∀ b, some b ∈ gs → b < w.heap.size) → d ≤ 1000000000000000 →
  Calls Try.prog 60 #[.agg cs.toArray, .int .i64 d, .bool even] w fun e w' => e = .returned (.bool (rightP even t d)) ∧ Below w.heap.size w w'
set_option maxRecDepth 100000 in
set_option maxHeartbeats 1000000 in
theorem branch_any (t : Nd) (ih : ∀ k ∈ t.kids, RightOk k) (hk : t.kids.length ≤ 1000000000000) (gs : List (Option Nat)) (w : World) (cs : List Value) (d : Nat) (even : Bool) (hr : RdL w (Fd w gs) (dN t) cs) (hgs : ∀ b, some b ∈ gs → b < w.heap.size) (hd : d ≤ 100000000) :
    Calls Try.prog 90 #[.agg cs.toArray, .int .i64 d, .bool even] w fun e w' => e = .returned (.bool (decide (t.kids.length = 16) && (rightsP even t.kids (d + 1) && decide (2 ≤ (if t.has then 1 else 0) + manyN t.kids)))) ∧ Below w.heap.size w w' := by
  refine calls_ev (args := [.agg cs.toArray, .int .i64 d, .bool even]) mixed Try.func90 rfl (by kernel_rfl) ?_
  obtain ⟨Ap, cp, Av, cv, Ak, ck, Ah, ch, rfl, r1, r3, r4, r5⟩ := hr.node
  refine v_boxB (ncs t Ap cp Av cv Ak ck Ah ch) rfl ?_
  rintro g W1 hg hB hb hs1
  subst hg
  unfold ncs at hB
  repeat' first
    | (refine p_fld fN0 rfl ?_)
    | (refine p_fld fN1 rfl ?_)
    | (refine p_fld fN2 rfl ?_)
    | (refine p_fld fN3 rfl ?_)
    | (refine p_fld fN4 rfl ?_)
    | (refine p_fld fN5 rfl ?_)
    | (refine v_load agg_int rfl (hB.at_ rfl) ?_)
    | (refine v_load agg_b rfl (hB.at_ rfl) ?_)
    | (refine v_load agg_bo rfl (hB.at_ rfl) ?_)
    | (refine v_load agg_ns rfl (hB.at_ rfl) ?_)
    | (refine p_len slb rfl ?_)
    | (refine p_len sln rfl ?_)
  refine p_ne rfl rfl (fun h16 => ?_) (fun h16 => ?_)
  rotate_left
  · refine ⟨?_, hb⟩
    rw [decide_eq_false (by omega)]; rfl
  have h16' : t.kids.length = 16 := by omega
  repeat' first
    | (refine p_fld fN0 rfl ?_)
    | (refine p_fld fN1 rfl ?_)
    | (refine p_fld fN2 rfl ?_)
    | (refine p_fld fN3 rfl ?_)
    | (refine p_fld fN4 rfl ?_)
    | (refine p_fld fN5 rfl ?_)
    | (refine v_load agg_int rfl (hB.at_ rfl) ?_)
    | (refine v_load agg_b rfl (hB.at_ rfl) ?_)
    | (refine v_load agg_bo rfl (hB.at_ rfl) ?_)
    | (refine v_load agg_ns rfl (hB.at_ rfl) ?_)
    | (refine p_len slb rfl ?_)
    | (refine p_len sln rfl ?_)
  cases hh : t.has with
  | false =>
    rw [hh] at hB
    repeat' first
      | (refine p_fld fN0 rfl ?_)
      | (refine p_fld fN1 rfl ?_)
      | (refine p_fld fN2 rfl ?_)
      | (refine p_fld fN3 rfl ?_)
      | (refine p_fld fN4 rfl ?_)
      | (refine p_fld fN5 rfl ?_)
      | (refine v_load agg_int rfl (hB.at_ rfl) ?_)
      | (refine v_load agg_b rfl (hB.at_ rfl) ?_)
      | (refine v_load agg_bo rfl (hB.at_ rfl) ?_)
      | (refine v_load agg_ns rfl (hB.at_ rfl) ?_)
      | (refine p_len slb rfl ?_)
      | (refine p_len sln rfl ?_)
    have A1 : At w W1 gs := (At.start hgs).call hb
    have s1 : Stp w gs W1 gs := Stp.below hb
    have hFB : FB W1 gs w.heap.size 38 [.int .i64 t.kind, .slice Ap t.path.length cp, .bool false, .slice Av t.val.length cv, .slice Ak t.kids.length ck, .slice Ah t.hash.length ch] := FB.new hB hgs (Nat.le_refl _)
    refine lp Nat (fun i W => i ≤ 16 ∧ At w W gs ∧ Stp w gs W gs ∧ rightsP even (t.kids.take i) (d + 1) = true) (fun i => [(1, .int .i64 d), (2, .bool even), (7, .int .i64 (0 + manyN (t.kids.take i) : Nat)), (8, .bool true), (20, .slice Ak t.kids.length ck), (21, .int .i64 t.kids.length), (22, .int .i64 i)]) (fun i => 16 - i) 0 ⟨Nat.zero_le _, A1, s1, by simp [rightsP]⟩ ⟨rfl, rfl, rfl, rfl, rfl, rfl, rfl, trivial⟩ ?_
    clear A1 s1
    rintro i E W ⟨hi, A2, s2, hri⟩
    have hml : manyN (t.kids.take i) ≤ 16 := Nat.le_trans (List.length_filter_le _ _) (by rw [List.length_take]; omega)
    refine p_lt rfl rfl (fun hlt => ?_) (fun hge => ?_)
    · obtain ⟨k, hki⟩ : ∃ k, t.kids[i]? = some k := ⟨_, List.getElem?_eq_getElem (by omega)⟩
      have hkm := List.mem_of_getElem? hki
      obtain ⟨b, off, es, rfl, hF, hes, hel, hc⟩ := (r4.up s2).kid hki
      refine p_at sln rfl rfl rfl (by omega) ?_
      refine v_loadN es agg_nd rfl hel hc ?_
      refine v_allocB _ al_nd ?_
      rintro g3 W3 hg3 hB3 hb3 hs3
      refine v_storeA es sz_nd rfl rfl hel (hes.ones (dN_one k)) hB3 rfl ?_
      rintro W4 hB4 hg4 hs4
      rw [hg3] at hb3
      have hb4 : Below W.heap.size W W4 := hb3.grown hg4 (by omega) (fun q hq => by injection hq with hq; omega)
      refine v_loadN es agg_nd rfl hel (hB4.run 0 es (fun j v h => by rw [Nat.zero_add]; exact h)) ?_
      refine p_add rfl rfl (r := ((d + 1 : Nat) : Int)) ((w64 (by omega)).trans (by omega)) ?_
      refine cc is_nright (ih k hkm gs W4 es (d + 1) even (hes.up (Stp.below hb4)) (A2.call hb4).lt (by omega)) ?_
      rintro e W5 ⟨rfl, b5⟩
      refine ⟨_, rfl, ?_⟩
      have A5 := (A2.call hb4).call b5
      have s5 : Stp w gs W5 gs := (s2.trans (Stp.below hb4)).trans (Stp.below b5)
      refine p_not rfl ?_
      have htk : t.kids.take (i + 1) = t.kids.take i ++ [k] := by rw [List.take_add_one, hki]; rfl
      cases hrk : rightP even k (d + 1) with
      | false =>
        refine ⟨?_, A5.below⟩
        rw [rightsP_bad hkm hrk, Bool.false_and, Bool.and_false]; rfl
      | true =>
        have hr2 : rightsP even (t.kids.take (i + 1)) (d + 1) = true := by rw [htk, rightsP_snoc, hri, hrk]; rfl
        obtain ⟨Ap', cp', Av', cv', Ak', ck', Ah', ch', rfl, _⟩ := hes.node
        have hB5 := hB4.below b5
        refine p_fld fN0 rfl ?_
        refine v_load agg_int rfl (hB5.at_ rfl) ?_
        refine p_ne rfl rfl (fun h0 => ?_) (fun h0 => ?_)
        · refine p_add rfl rfl (r := ((i + 1 : Nat) : Int)) ((w64 (by omega)).trans (by omega)) ?_
          refine ⟨i + 1, ⟨by omega, A5, s5, hr2⟩, ⟨rfl, rfl, ?_, rfl, rfl, rfl, rfl, trivial⟩, by omega⟩
          have e : manyN (t.kids.take (i + 1)) = manyN (t.kids.take i) := by unfold manyN; rw [htk, List.filter_append]; simp [h0]
          rw [e]; rfl
        · refine p_add rfl rfl (r := ((0 + manyN (t.kids.take i) + 1 : Nat) : Int)) ((w64 (by omega)).trans (by omega)) ?_
          refine p_add rfl rfl (r := ((i + 1 : Nat) : Int)) ((w64 (by omega)).trans (by omega)) ?_
          refine ⟨i + 1, ⟨by omega, A5, s5, hr2⟩, ⟨rfl, rfl, ?_, rfl, rfl, rfl, rfl, trivial⟩, by omega⟩
          have e : manyN (t.kids.take (i + 1)) = manyN (t.kids.take i) + 1 := by unfold manyN; rw [htk, List.filter_append]; simp [h0]
          rw [e]; rfl
    · have hi16 : i = 16 := by omega
      subst hi16
      have htk : t.kids.take 16 = t.kids := List.take_of_length_le (by omega)
      rw [htk] at hri
      rw [htk]
      refine p_ge rfl rfl (fun h2 => ?_) (fun h2 => ?_)
      · refine ⟨?_, A2.below⟩
        rw [decide_eq_true h16', hri, decide_eq_true (by simp; omega)]; rfl
      · refine ⟨?_, A2.below⟩
        rw [decide_eq_true h16', hri, decide_eq_false (by simp; omega)]; rfl
  | true =>
    rw [hh] at hB
    refine p_add rfl rfl (r := 1) (w64 (by decide)) ?_
    repeat' first
      | (refine p_fld fN0 rfl ?_)
      | (refine p_fld fN1 rfl ?_)
      | (refine p_fld fN2 rfl ?_)
      | (refine p_fld fN3 rfl ?_)
      | (refine p_fld fN4 rfl ?_)
      | (refine p_fld fN5 rfl ?_)
      | (refine v_load agg_int rfl (hB.at_ rfl) ?_)
      | (refine v_load agg_b rfl (hB.at_ rfl) ?_)
      | (refine v_load agg_bo rfl (hB.at_ rfl) ?_)
      | (refine v_load agg_ns rfl (hB.at_ rfl) ?_)
      | (refine p_len slb rfl ?_)
      | (refine p_len sln rfl ?_)
    have A1 : At w W1 gs := (At.start hgs).call hb
    have s1 : Stp w gs W1 gs := Stp.below hb
    have hFB : FB W1 gs w.heap.size 38 [.int .i64 t.kind, .slice Ap t.path.length cp, .bool true, .slice Av t.val.length cv, .slice Ak t.kids.length ck, .slice Ah t.hash.length ch] := FB.new hB hgs (Nat.le_refl _)
    refine lp Nat (fun i W => i ≤ 16 ∧ At w W gs ∧ Stp w gs W gs ∧ rightsP even (t.kids.take i) (d + 1) = true) (fun i => [(1, .int .i64 d), (2, .bool even), (7, .int .i64 (1 + manyN (t.kids.take i) : Nat)), (8, .bool true), (20, .slice Ak t.kids.length ck), (21, .int .i64 t.kids.length), (22, .int .i64 i)]) (fun i => 16 - i) 0 ⟨Nat.zero_le _, A1, s1, by simp [rightsP]⟩ ⟨rfl, rfl, rfl, rfl, rfl, rfl, rfl, trivial⟩ ?_
    clear A1 s1
    rintro i E W ⟨hi, A2, s2, hri⟩
    have hml : manyN (t.kids.take i) ≤ 16 := Nat.le_trans (List.length_filter_le _ _) (by rw [List.length_take]; omega)
    refine p_lt rfl rfl (fun hlt => ?_) (fun hge => ?_)
    · obtain ⟨k, hki⟩ : ∃ k, t.kids[i]? = some k := ⟨_, List.getElem?_eq_getElem (by omega)⟩
      have hkm := List.mem_of_getElem? hki
      obtain ⟨b, off, es, rfl, hF, hes, hel, hc⟩ := (r4.up s2).kid hki
      refine p_at sln rfl rfl rfl (by omega) ?_
      refine v_loadN es agg_nd rfl hel hc ?_
      refine v_allocB _ al_nd ?_
      rintro g3 W3 hg3 hB3 hb3 hs3
      refine v_storeA es sz_nd rfl rfl hel (hes.ones (dN_one k)) hB3 rfl ?_
      rintro W4 hB4 hg4 hs4
      rw [hg3] at hb3
      have hb4 : Below W.heap.size W W4 := hb3.grown hg4 (by omega) (fun q hq => by injection hq with hq; omega)
      refine v_loadN es agg_nd rfl hel (hB4.run 0 es (fun j v h => by rw [Nat.zero_add]; exact h)) ?_
      refine p_add rfl rfl (r := ((d + 1 : Nat) : Int)) ((w64 (by omega)).trans (by omega)) ?_
      refine cc is_nright (ih k hkm gs W4 es (d + 1) even (hes.up (Stp.below hb4)) (A2.call hb4).lt (by omega)) ?_
      rintro e W5 ⟨rfl, b5⟩
      refine ⟨_, rfl, ?_⟩
      have A5 := (A2.call hb4).call b5
      have s5 : Stp w gs W5 gs := (s2.trans (Stp.below hb4)).trans (Stp.below b5)
      refine p_not rfl ?_
      have htk : t.kids.take (i + 1) = t.kids.take i ++ [k] := by rw [List.take_add_one, hki]; rfl
      cases hrk : rightP even k (d + 1) with
      | false =>
        refine ⟨?_, A5.below⟩
        rw [rightsP_bad hkm hrk, Bool.false_and, Bool.and_false]; rfl
      | true =>
        have hr2 : rightsP even (t.kids.take (i + 1)) (d + 1) = true := by rw [htk, rightsP_snoc, hri, hrk]; rfl
        obtain ⟨Ap', cp', Av', cv', Ak', ck', Ah', ch', rfl, _⟩ := hes.node
        have hB5 := hB4.below b5
        refine p_fld fN0 rfl ?_
        refine v_load agg_int rfl (hB5.at_ rfl) ?_
        refine p_ne rfl rfl (fun h0 => ?_) (fun h0 => ?_)
        · refine p_add rfl rfl (r := ((i + 1 : Nat) : Int)) ((w64 (by omega)).trans (by omega)) ?_
          refine ⟨i + 1, ⟨by omega, A5, s5, hr2⟩, ⟨rfl, rfl, ?_, rfl, rfl, rfl, rfl, trivial⟩, by omega⟩
          have e : manyN (t.kids.take (i + 1)) = manyN (t.kids.take i) := by unfold manyN; rw [htk, List.filter_append]; simp [h0]
          rw [e]; rfl
        · refine p_add rfl rfl (r := ((1 + manyN (t.kids.take i) + 1 : Nat) : Int)) ((w64 (by omega)).trans (by omega)) ?_
          refine p_add rfl rfl (r := ((i + 1 : Nat) : Int)) ((w64 (by omega)).trans (by omega)) ?_
          refine ⟨i + 1, ⟨by omega, A5, s5, hr2⟩, ⟨rfl, rfl, ?_, rfl, rfl, rfl, rfl, trivial⟩, by omega⟩
          have e : manyN (t.kids.take (i + 1)) = manyN (t.kids.take i) + 1 := by unfold manyN; rw [htk, List.filter_append]; simp [h0]
          rw [e]; rfl
    · have hi16 : i = 16 := by omega
      subst hi16
      have htk : t.kids.take 16 = t.kids := List.take_of_length_le (by omega)
      rw [htk] at hri
      rw [htk]
      refine p_ge rfl rfl (fun h2 => ?_) (fun h2 => ?_)
      · refine ⟨?_, A2.below⟩
        rw [decide_eq_true h16', hri, decide_eq_true (by simp; omega)]; rfl
      · refine ⟨?_, A2.below⟩
        rw [decide_eq_true h16', hri, decide_eq_false (by simp; omega)]; rfl
theorem bare0 {t : Nd} (h : t.kind = 0) : bareP t false false false false = decide (t.path.length = 0 ∧ t.val.length = 0 ∧ t.kids.length = 0 ∧ t.hash.length = 0 ∧ t.has = false) := by
  unfold bareP; exact decide_eq_decide.2 (by grind)
theorem bare1 {t : Nd} (h : t.kind = 1) : bareP t true true false false = decide (t.kids.length = 0 ∧ t.hash.length = 0 ∧ t.has = false) := by
  unfold bareP; exact decide_eq_decide.2 (by grind)
theorem bare4 {t : Nd} (h : t.kind = 4) : bareP t false false false true = decide (t.path.length = 0 ∧ t.val.length = 0 ∧ t.kids.length = 0 ∧ t.has = false) := by
  unfold bareP; exact decide_eq_decide.2 (by grind)
theorem bare2 {t : Nd} (h : t.kind = 2) : bareP t true false true false = decide (t.val.length = 0 ∧ t.hash.length = 0 ∧ t.has = false) := by
  unfold bareP; exact decide_eq_decide.2 (by grind)
theorem bare3 {t : Nd} (h : t.kind = 3) : bareP t false t.has true false = decide (t.path.length = 0 ∧ t.hash.length = 0 ∧ (t.has = true ∨ t.val.length = 0)) := by
  unfold bareP; exact decide_eq_decide.2 (by grind)
set_option maxRecDepth 100000 in
set_option maxHeartbeats 1000000 in
theorem nright_step (N : Nat) (ih : ∀ k : Nd, sz k < N → RightOk k) (t : Nd) (ht : sz t ≤ N) (hN : N ≤ 1000000000000) : RightOk t := by
  intro gs w cs d even hr hgs hd
  refine calls_ev (args := [.agg cs.toArray, .int .i64 d, .bool even]) mixed Try.func60 rfl (by kernel_rfl) ?_
  obtain ⟨Ap, cp, Av, cv, Ak, ck, Ah, ch, rfl, r1, r3, r4, r5⟩ := hr.node
  have hsz := sz_eq t
  have hsl := szs_len t.kids
  refine v_boxB (ncs t Ap cp Av cv Ak ck Ah ch) rfl ?_
  rintro g W1 hg hB hb hs1
  subst hg
  have hBn := hB
  unfold ncs at hB
  have A1 : At w W1 gs := (At.start hgs).call hb
  have s1 : Stp w gs W1 gs := Stp.below hb
  have hr1 := hr.up s1
  obtain ⟨_, _, hrp⟩ := (r1.up s1).rd Fd.lt
  refine p_gt rfl rfl (fun hd4 => ?_) (fun hd4 => ?_)
  · exact ⟨by rw [rightP_eq, ownP, decide_eq_false (by omega)]; rfl, hb⟩
  repeat' first
    | (refine p_fld fN0 rfl ?_)
    | (refine p_fld fN1 rfl ?_)
    | (refine p_fld fN2 rfl ?_)
    | (refine p_fld fN3 rfl ?_)
    | (refine p_fld fN4 rfl ?_)
    | (refine p_fld fN5 rfl ?_)
    | (refine v_load agg_int rfl (hB.at_ rfl) ?_)
    | (refine v_load agg_b rfl (hB.at_ rfl) ?_)
    | (refine v_load agg_bo rfl (hB.at_ rfl) ?_)
    | (refine v_load agg_ns rfl (hB.at_ rfl) ?_)
    | (refine p_len slb rfl ?_)
    | (refine p_len sln rfl ?_)
  refine p_gt rfl rfl (fun hv => ?_) (fun hv => ?_)
  · exact ⟨by rw [rightP_eq, ownP, decide_eq_false (show ¬ t.val.length ≤ 4000 by omega), Bool.false_and, Bool.and_false]; rfl, hb⟩
  repeat' first
    | (refine p_fld fN0 rfl ?_)
    | (refine p_fld fN1 rfl ?_)
    | (refine p_fld fN2 rfl ?_)
    | (refine p_fld fN3 rfl ?_)
    | (refine p_fld fN4 rfl ?_)
    | (refine p_fld fN5 rfl ?_)
    | (refine v_load agg_int rfl (hB.at_ rfl) ?_)
    | (refine v_load agg_b rfl (hB.at_ rfl) ?_)
    | (refine v_load agg_bo rfl (hB.at_ rfl) ?_)
    | (refine v_load agg_ns rfl (hB.at_ rfl) ?_)
    | (refine p_len slb rfl ?_)
    | (refine p_len sln rfl ?_)
  refine cc is_nh (nhalves_any Ap t.path.length cp _ t.path W1 hrp (by omega)) ?_
  rintro e W' ⟨rfl, rfl⟩
  refine ⟨_, rfl, ?_⟩
  refine p_not rfl ?_
  have hX : rightP even t d = ownP even t.kind t.path t.has t.val t.kids t.hash d (rightsP even t.kids) := rightP_eq even t d
  unfold ownP at hX
  rw [decide_eq_true (show d ≤ 400 by omega), decide_eq_true (show t.val.length ≤ 4000 by omega), Bool.true_and, Bool.true_and] at hX
  cases hh : halvesB t.path with
  | false =>
    rw [hh] at hX
    exact ⟨by rw [hX]; rfl, hb⟩
  | true =>
  rw [hh, Bool.true_and] at hX
  repeat' first
    | (refine p_fld fN0 rfl ?_)
    | (refine p_fld fN1 rfl ?_)
    | (refine p_fld fN2 rfl ?_)
    | (refine p_fld fN3 rfl ?_)
    | (refine p_fld fN4 rfl ?_)
    | (refine p_fld fN5 rfl ?_)
    | (refine v_load agg_int rfl (hB.at_ rfl) ?_)
    | (refine v_load agg_b rfl (hB.at_ rfl) ?_)
    | (refine v_load agg_bo rfl (hB.at_ rfl) ?_)
    | (refine v_load agg_ns rfl (hB.at_ rfl) ?_)
    | (refine p_len slb rfl ?_)
    | (refine p_len sln rfl ?_)
  refine p_eq rfl rfl (fun h0 => ?_) (fun h0 => ?_)
  · rw [if_pos h0] at hX
    refine v_loadN (ncs t Ap cp Av cv Ak ck Ah ch) agg_nd rfl rfl (hBn.run 0 _ (fun j v h => by rw [Nat.zero_add]; exact h)) ?_
    refine cc is_bare (bare_any t Ap cp Av cv Ak ck Ah ch _ _ _ _ W1 (by decide)) ?_
    rintro e W2 ⟨rfl, b2⟩
    refine ⟨_, rfl, ?_⟩
    refine ⟨?_, hb.trans (b2.mono hb.size)⟩
    rw [hX, bare0 h0]; rfl
  rw [if_neg h0] at hX
  refine p_eq rfl rfl (fun h1 => ?_) (fun h1 => ?_)
  · rw [if_pos h1] at hX
    refine v_loadN (ncs t Ap cp Av cv Ak ck Ah ch) agg_nd rfl rfl (hBn.run 0 _ (fun j v h => by rw [Nat.zero_add]; exact h)) ?_
    refine cc is_bare (bare_any t Ap cp Av cv Ak ck Ah ch _ _ _ _ W1 (by decide)) ?_
    rintro e W2 ⟨rfl, b2⟩
    refine ⟨_, rfl, ?_⟩
    rw [bare1 h1]
    have hb2 := hb.trans (b2.mono hb.size)
    cases hq : decide (t.kids.length = 0 ∧ t.hash.length = 0 ∧ t.has = false) with
    | false => exact ⟨by rw [hX, hq]; rfl, hb2⟩
    | true =>
      replace hB := hB.below b2
      repeat' first
        | (refine p_fld fN0 rfl ?_)
        | (refine p_fld fN1 rfl ?_)
        | (refine p_fld fN2 rfl ?_)
        | (refine p_fld fN3 rfl ?_)
        | (refine p_fld fN4 rfl ?_)
        | (refine p_fld fN5 rfl ?_)
        | (refine v_load agg_int rfl (hB.at_ rfl) ?_)
        | (refine v_load agg_b rfl (hB.at_ rfl) ?_)
        | (refine v_load agg_bo rfl (hB.at_ rfl) ?_)
        | (refine v_load agg_ns rfl (hB.at_ rfl) ?_)
        | (refine p_len slb rfl ?_)
        | (refine p_len sln rfl ?_)
      refine p_add rfl rfl (r := ((d + t.path.length : Nat) : Int)) ((w64 (by omega)).trans (by omega)) ?_
      refine cc is_ends (ends_any (d + t.path.length) even W2) ?_
      rintro e W3 ⟨rfl, rfl⟩
      refine ⟨_, rfl, ?_⟩
      exact ⟨by rw [hX, hq]; rfl, hb2⟩
  rw [if_neg h1] at hX
  refine p_eq rfl rfl (fun h4 => ?_) (fun h4 => ?_)
  · rw [if_pos h4] at hX
    refine v_loadN (ncs t Ap cp Av cv Ak ck Ah ch) agg_nd rfl rfl (hBn.run 0 _ (fun j v h => by rw [Nat.zero_add]; exact h)) ?_
    refine cc is_bare (bare_any t Ap cp Av cv Ak ck Ah ch _ _ _ _ W1 (by decide)) ?_
    rintro e W2 ⟨rfl, b2⟩
    refine ⟨_, rfl, ?_⟩
    rw [bare4 h4]
    have hb2 := hb.trans (b2.mono hb.size)
    cases hq : decide (t.path.length = 0 ∧ t.val.length = 0 ∧ t.kids.length = 0 ∧ t.has = false) with
    | false =>
      have := of_decide_eq_false hq
      exact ⟨by rw [hX, decide_eq_false (fun h => this ⟨h.1, h.2.1, h.2.2.1, h.2.2.2.1⟩)]; rfl, hb2⟩
    | true =>
      have := of_decide_eq_true hq
      replace hB := hB.below b2
      repeat' first
        | (refine p_fld fN0 rfl ?_)
        | (refine p_fld fN1 rfl ?_)
        | (refine p_fld fN2 rfl ?_)
        | (refine p_fld fN3 rfl ?_)
        | (refine p_fld fN4 rfl ?_)
        | (refine p_fld fN5 rfl ?_)
        | (refine v_load agg_int rfl (hB.at_ rfl) ?_)
        | (refine v_load agg_b rfl (hB.at_ rfl) ?_)
        | (refine v_load agg_bo rfl (hB.at_ rfl) ?_)
        | (refine v_load agg_ns rfl (hB.at_ rfl) ?_)
        | (refine p_len slb rfl ?_)
        | (refine p_len sln rfl ?_)
      refine p_eq rfl rfl (fun h5 => ?_) (fun h5 => ?_)
      · exact ⟨by rw [hX, decide_eq_true ⟨this.1, this.2.1, this.2.2.1, this.2.2.2, by omega⟩]; rfl, hb2⟩
      · exact ⟨by rw [hX, decide_eq_false (fun h => h5 (by rw [h.2.2.2.2]; rfl))]; rfl, hb2⟩
  rw [if_neg h4] at hX
  refine p_eq rfl rfl (fun h2 => ?_) (fun h2 => ?_)
  · rw [if_pos h2] at hX
    refine v_loadN (ncs t Ap cp Av cv Ak ck Ah ch) agg_nd rfl rfl (hBn.run 0 _ (fun j v h => by rw [Nat.zero_add]; exact h)) ?_
    refine cc is_bare (bare_any t Ap cp Av cv Ak ck Ah ch _ _ _ _ W1 (by decide)) ?_
    rintro e W2 ⟨rfl, b2⟩
    refine ⟨_, rfl, ?_⟩
    rw [bare2 h2]
    have hb2 := hb.trans (b2.mono hb.size)
    refine p_not rfl ?_
    cases hq : decide (t.val.length = 0 ∧ t.hash.length = 0 ∧ t.has = false) with
    | false =>
      have := of_decide_eq_false hq
      exact ⟨by rw [hX, decide_eq_false (fun h => this ⟨h.1, h.2.1, h.2.2.1⟩)]; rfl, hb2⟩
    | true =>
      have hq' := of_decide_eq_true hq
      have A2 := A1.call b2
      have s2 : Stp w gs W2 gs := s1.trans (Stp.below b2)
      replace hBn := hBn.below b2
      replace hB := hB.below b2
      repeat' first
        | (refine p_fld fN0 rfl ?_)
        | (refine p_fld fN1 rfl ?_)
        | (refine p_fld fN2 rfl ?_)
        | (refine p_fld fN3 rfl ?_)
        | (refine p_fld fN4 rfl ?_)
        | (refine p_fld fN5 rfl ?_)
        | (refine v_load agg_int rfl (hB.at_ rfl) ?_)
        | (refine v_load agg_b rfl (hB.at_ rfl) ?_)
        | (refine v_load agg_bo rfl (hB.at_ rfl) ?_)
        | (refine v_load agg_ns rfl (hB.at_ rfl) ?_)
        | (refine p_len slb rfl ?_)
        | (refine p_len sln rfl ?_)
      refine p_eq rfl rfl (fun h5 => ?_) (fun h5 => ?_)
      · exact ⟨by rw [hX, decide_eq_false (fun h => h.2.2.2.1 (by omega))]; rfl, hb2⟩
      repeat' first
        | (refine p_fld fN0 rfl ?_)
        | (refine p_fld fN1 rfl ?_)
        | (refine p_fld fN2 rfl ?_)
        | (refine p_fld fN3 rfl ?_)
        | (refine p_fld fN4 rfl ?_)
        | (refine p_fld fN5 rfl ?_)
        | (refine v_load agg_int rfl (hB.at_ rfl) ?_)
        | (refine v_load agg_b rfl (hB.at_ rfl) ?_)
        | (refine v_load agg_bo rfl (hB.at_ rfl) ?_)
        | (refine v_load agg_ns rfl (hB.at_ rfl) ?_)
        | (refine p_len slb rfl ?_)
        | (refine p_len sln rfl ?_)
      refine p_ne rfl rfl (fun h6 => ?_) (fun h6 => ?_)
      rotate_left
      · exact ⟨by rw [hX, decide_eq_false (fun h => h6 (by rw [h.2.2.2.2]; rfl))]; rfl, hb2⟩
      rw [decide_eq_true ⟨hq'.1, hq'.2.1, hq'.2.2, by omega, by omega⟩, Bool.true_and] at hX
      obtain ⟨k, hk⟩ : ∃ k, t.kids = [k] := by
        have h7 : t.kids.length = 1 := by omega
        match hks : t.kids, h7 with
        | [k], _ => exact ⟨k, rfl⟩
      have hki : t.kids[0]? = some k := by rw [hk]; rfl
      have hkm : k ∈ t.kids := by rw [hk]; simp
      have hkz := szs_mem hkm
      repeat' first
        | (refine p_fld fN0 rfl ?_)
        | (refine p_fld fN1 rfl ?_)
        | (refine p_fld fN2 rfl ?_)
        | (refine p_fld fN3 rfl ?_)
        | (refine p_fld fN4 rfl ?_)
        | (refine p_fld fN5 rfl ?_)
        | (refine v_load agg_int rfl (hB.at_ rfl) ?_)
        | (refine v_load agg_b rfl (hB.at_ rfl) ?_)
        | (refine v_load agg_bo rfl (hB.at_ rfl) ?_)
        | (refine v_load agg_ns rfl (hB.at_ rfl) ?_)
        | (refine p_len slb rfl ?_)
        | (refine p_len sln rfl ?_)
      obtain ⟨b, off, es, rfl, hF, hes, hel, hc⟩ := (r4.up s2).kid hki
      refine p_at (i := 0) sln rfl rfl rfl (by omega) ?_
      refine v_loadN es agg_nd rfl hel hc ?_
      refine v_allocB _ al_nd ?_
      rintro g3 W3 hg3 hB3 hb3 hs3
      refine v_storeA es sz_nd rfl rfl hel (hes.ones (dN_one k)) hB3 rfl ?_
      rintro W4 hB4 hg4 hs4
      rw [hg3] at hb3
      have hb4 : Below W2.heap.size W2 W4 := hb3.grown hg4 (by omega) (fun q hq => by injection hq with hq; omega)
      have hB' := hB.below hb4
      have hes4 := hes.up (Stp.below hb4)
      have A4 := A2.call hb4
      obtain ⟨Ap', cp', Av', cv', Ak', ck', Ah', ch', rfl, _⟩ := hes.node
      refine p_fld fN0 rfl ?_
      refine v_load agg_int rfl (hB4.at_ rfl) ?_
      have hbk : rightsP even t.kids (d + t.path.length) = rightP even k (d + t.path.length) := by rw [hk, rightsP, rightsP, Bool.and_true]
      refine p_eq rfl rfl (fun h8 => ?_) (fun h8 => ?_)
      ·
        refine v_loadN (ncs k Ap' cp' Av' cv' Ak' ck' Ah' ch') agg_nd rfl hel (hB4.run 0 _ (fun j v h => by rw [Nat.zero_add]; exact h)) ?_
        refine p_fld fN1 rfl ?_
        refine v_load agg_b rfl (hB'.at_ rfl) ?_
        refine p_len slb rfl ?_
        refine p_add rfl rfl (r := ((d + t.path.length : Nat) : Int)) ((w64 (by omega)).trans (by omega)) ?_
        refine cc is_nright (ih k (by omega) gs W4 _ (d + t.path.length) even hes4 A4.lt (by omega)) ?_
        rintro e W5 ⟨rfl, b5⟩
        refine ⟨_, rfl, ?_⟩
        have hkk : kindsB t.kids = true := by rw [hk]; unfold kindsB; rw [List.all_cons, decide_eq_true (by omega)]; rfl
        rw [hkk, hbk, Bool.true_and] at hX
        exact ⟨by rw [hX]; rfl, A4.below.trans (b5.mono A4.size)⟩
      · refine p_fld fN0 rfl ?_
        refine v_load agg_int rfl (hB4.at_ rfl) ?_
        refine p_eq rfl rfl (fun h9 => ?_) (fun h9 => ?_)
        ·
          refine v_loadN (ncs k Ap' cp' Av' cv' Ak' ck' Ah' ch') agg_nd rfl hel (hB4.run 0 _ (fun j v h => by rw [Nat.zero_add]; exact h)) ?_
          refine p_fld fN1 rfl ?_
          refine v_load agg_b rfl (hB'.at_ rfl) ?_
          refine p_len slb rfl ?_
          refine p_add rfl rfl (r := ((d + t.path.length : Nat) : Int)) ((w64 (by omega)).trans (by omega)) ?_
          refine cc is_nright (ih k (by omega) gs W4 _ (d + t.path.length) even hes4 A4.lt (by omega)) ?_
          rintro e W5 ⟨rfl, b5⟩
          refine ⟨_, rfl, ?_⟩
          have hkk : kindsB t.kids = true := by rw [hk]; unfold kindsB; rw [List.all_cons, decide_eq_true (by omega)]; rfl
          rw [hkk, hbk, Bool.true_and] at hX
          exact ⟨by rw [hX]; rfl, A4.below.trans (b5.mono A4.size)⟩
        · have hkk : kindsB t.kids = false := by rw [hk]; unfold kindsB; rw [List.all_cons, decide_eq_false (by omega)]; rfl
          rw [hkk] at hX
          exact ⟨by rw [hX]; rfl, A4.below⟩
  rw [if_neg h2] at hX
  refine p_eq rfl rfl (fun h3 => ?_) (fun h3 => ?_)
  · rw [if_pos h3] at hX
    refine v_loadN (ncs t Ap cp Av cv Ak ck Ah ch) agg_nd rfl rfl (hBn.run 0 _ (fun j v h => by rw [Nat.zero_add]; exact h)) ?_
    repeat' first
      | (refine p_fld fN0 rfl ?_)
      | (refine p_fld fN1 rfl ?_)
      | (refine p_fld fN2 rfl ?_)
      | (refine p_fld fN3 rfl ?_)
      | (refine p_fld fN4 rfl ?_)
      | (refine p_fld fN5 rfl ?_)
      | (refine v_load agg_int rfl (hB.at_ rfl) ?_)
      | (refine v_load agg_b rfl (hB.at_ rfl) ?_)
      | (refine v_load agg_bo rfl (hB.at_ rfl) ?_)
      | (refine v_load agg_ns rfl (hB.at_ rfl) ?_)
      | (refine p_len slb rfl ?_)
      | (refine p_len sln rfl ?_)
    refine cc is_bare (bare_any t Ap cp Av cv Ak ck Ah ch _ _ _ _ W1 (by cases t.has <;> decide)) ?_
    rintro e W2 ⟨rfl, b2⟩
    refine ⟨_, rfl, ?_⟩
    rw [bare3 h3]
    have hb2 := hb.trans (b2.mono hb.size)
    cases hq : decide (t.path.length = 0 ∧ t.hash.length = 0 ∧ (t.has = true ∨ t.val.length = 0)) with
    | false => exact ⟨by rw [hX, hq]; rfl, hb2⟩
    | true =>
      rw [hq, Bool.true_and] at hX
      have A2 := A1.call b2
      have s2 : Stp w gs W2 gs := s1.trans (Stp.below b2)
      replace hBn := hBn.below b2
      replace hB := hB.below b2
      have hbr := branch_any t (fun k hk => ih k (by have := szs_mem hk; omega)) (by omega) gs W2 _ d even (hr.up s2) A2.lt (by omega)
      repeat' first
        | (refine p_fld fN0 rfl ?_)
        | (refine p_fld fN1 rfl ?_)
        | (refine p_fld fN2 rfl ?_)
        | (refine p_fld fN3 rfl ?_)
        | (refine p_fld fN4 rfl ?_)
        | (refine p_fld fN5 rfl ?_)
        | (refine v_load agg_int rfl (hB.at_ rfl) ?_)
        | (refine v_load agg_b rfl (hB.at_ rfl) ?_)
        | (refine v_load agg_bo rfl (hB.at_ rfl) ?_)
        | (refine v_load agg_ns rfl (hB.at_ rfl) ?_)
        | (refine p_len slb rfl ?_)
        | (refine p_len sln rfl ?_)
      refine p_not rfl ?_
      cases hhas : t.has with
      | false =>
        rw [hhas] at hX
        refine v_loadN (ncs t Ap cp Av cv Ak ck Ah ch) agg_nd rfl rfl (hBn.run 0 _ (fun j v h => by rw [Nat.zero_add]; exact h)) ?_
        refine cc is_nbranch hbr ?_
        rintro e W5 ⟨rfl, b5⟩
        refine ⟨_, rfl, ?_⟩
        exact ⟨by rw [hX, hhas]; rfl, A2.below.trans (b5.mono A2.size)⟩
      | true =>
        rw [hhas] at hX
        refine cc is_ends (ends_any d even W2) ?_
        rintro e W3 ⟨rfl, rfl⟩
        refine ⟨_, rfl, ?_⟩
        cases hen : endsP d even with
        | false => exact ⟨by rw [hX, hen]; rfl, A2.below⟩
        | true =>
          refine v_loadN (ncs t Ap cp Av cv Ak ck Ah ch) agg_nd rfl rfl (hBn.run 0 _ (fun j v h => by rw [Nat.zero_add]; exact h)) ?_
          refine cc is_nbranch hbr ?_
          rintro e W5 ⟨rfl, b5⟩
          refine ⟨_, rfl, ?_⟩
          exact ⟨by rw [hX, hen, hhas]; rfl, A2.below.trans (b5.mono A2.size)⟩
  rw [if_neg h3] at hX
  exact ⟨by rw [hX]; rfl, hb⟩
theorem nright_any : ∀ (N : Nat), N ≤ 1000000000000 → ∀ t : Nd, sz t < N → RightOk t
  | 0, _, t, h => by omega
  | N + 1, hN, t, h => nright_step N (fun k hk => nright_any N (by omega) k hk) t (by omega) (by omega)
end Go.Proofs.Ytliccofjlheceaa
