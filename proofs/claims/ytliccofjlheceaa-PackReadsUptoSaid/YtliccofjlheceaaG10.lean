/- Reference 07: the walks of Encode, Hash, Fold. The walk of digest's words. The walk of digest's take. append onto a slice that is full: a new row. No program in sight. The walks of digest.New, Write, Len, Sum. The walks of digest.New, Len, Sum of a Digest, Sum. The walk of digest.Sum. Package node: the walks of encode, hash, Encode, Hash, Fold. Numbers and bytes in one way: the reference's Get, GetInt, GetBytes. Lists of bytes as bytes: Join and Split, the program's and the reference's. Reference 08: items as data; the walk of Items. Reference 08: the walks of alike and Build. Package node: the reader's methods. From a walk that returns true and writes nothing that was there to the row; arguments opened to lists. Halves of bytes: what the chapter's examples fix. Halves of bytes: plain laws of the functions: there and back, order, what is joined. The walks of the laws NibsBack, NibsOrder, -/
import Derived.Test.YtliccofjlheceaaG08
import Derived.Test.YtliccofjlheceaaG09
import Derived.Test.YtliccofjlheceaaG03
import Derived.Test.YtliccofjlheceaaG04
import Derived.Test.YtliccofjlheceaaG05
import Derived.Test.YtliccofjlheceaaG06
import Derived.Test.YtliccofjlheceaaG07
import Derived.Test.YtliccofjlheceaaRows
import Derived.ProofKit
import Derived.OpenShut
import Derived.ChangeOld
import Derived.WideKeyArgs
import Derived.JoinedCond
namespace Go.Proofs.Ytliccofjlheceaa
open Go.RowKit
theorem is_rpack : isFn Try.prog 81 = true := by kernel_rfl
theorem is_rpb : isFn Try.prog 41 = true := by kernel_rfl
theorem sz_u8 : (Try.prog.info? 5).map (·.size) = some 1 := by kernel_rfl
theorem sha_len (b : List UInt8) : (sha b).length = 32 := by rw [sha_def]; unfold out8 put4; rfl
/-- A row that is written at one place. -/
theorem St.wroteR {w W W' : World} {gs : List (Option Nat)} {L : Lc} {R : List Row} {fs : List Fact} {e : TypeId} {s n c : Nat} {A : Option Addr} {xs xs' : List Value} (M : St w gs W L (⟨e, s, A, n, c, xs⟩ :: R) fs) (hg : W.grownBy W' (bk A)) (hrow' : W'.ownsRow w.heap.size e s (.slice A n c) n xs') : St w gs W' L (⟨e, s, A, n, c, xs'⟩ :: R) fs := by
  have hrow := M.row _ (List.mem_cons_self ..)
  have hlo := row_bklo hrow
  have hp := List.Perm.pairwise (l' := bk A :: (L.map (fun x => some x.1) ++ R.map (fun r => bk r.A))) (by rw [List.map_cons]; exact List.perm_middle) M.ap (fun h => apart_comm h)
  rw [List.pairwise_cons] at hp
  have kept : ∀ o : Option Nat, o ∈ L.map (fun x => some x.1) ++ R.map (fun r => bk r.A) → o = none ∨ o ≠ bk A := fun o ho => apart_comm (hp.1 o ho)
  refine ⟨M.below.grown hg M.size (fun b e => (hlo b e).1), M.lt, fun y hy => ⟨(M.blk y hy).1.grown hg ?_, (M.blk y hy).2⟩, fun r hr => ?_, M.ap, fun f hf => (M.fct f hf).up (Stp.wrote hg ?_)⟩
  · rcases kept (some y.1) (List.mem_append_left _ (List.mem_map.2 ⟨y, hy, rfl⟩)) with h | h
    · cases h
    · exact fun e => h e.symm
  · rcases List.mem_cons.1 hr with rfl | hr
    · exact hrow'
    · exact row_kept' (M.row r (by simp [hr])) hg (kept _ (List.mem_append_right _ (List.mem_map.2 ⟨r, hr, rfl⟩)))
  · unfold own
    exact List.mem_append_right _ (List.mem_append_left _ (List.mem_map.2 ⟨_, List.mem_cons_self .., rfl⟩))
theorem s_setRow {E : Env} {d : Option Nat} {ty : TypeId} {p : String} {af : Array Edge} {gd : Option (Nat × Bool)} {x y : Operand} {kw : Value → World → Prop} {w W : World} {gs : List (Option Nat)} {L : Lc} {R : List Row} {fs : List Fact} {g n c : Nat} {l : List UInt8} (j : Nat) (v : Int) (M : St w gs W L (⟨5, 1, some ⟨g, 0, none⟩, n, c, bvs l⟩ :: R) fs) (hx : val E x = .pointer (some ⟨g, j, none⟩)) (hy : val E y = .int .u8 v) (hj : j < n) (hv : 0 ≤ v ∧ v ≤ 255)
    (h : ∀ W', St w gs W' L (⟨5, 1, some ⟨g, 0, none⟩, n, c, bvs (l.set j (b8 v))⟩ :: R) fs → kw undef W') : VSkip Try.prog E { dst := d, op := .store 5 x y, type := ty, pos := p, after := af, guard := gd } W kw := by
  have hrow : Own W w.heap.size (some ⟨g, 0, none⟩) n c l := M.row _ (List.mem_cons_self ..)
  refine v_store sz_u8 hx hy rfl (hrow.cell hj) (hrow.free j) (h _ (M.wroteR ⟨rfl, rfl, rfl, by simp, fun k _ hk => Below.heap_setCell _ _ _ _ (fun e => hk (by rw [e]; rfl))⟩ (hrow.set hv.1 hv.2)))
theorem row_addr {w W : World} {gs : List (Option Nat)} {L : Lc} {R : List Row} {fs : List Fact} {e : TypeId} {s n c : Nat} {A : Option Addr} {xs : List Value} (M : St w gs W L (⟨e, s, A, n, c, xs⟩ :: R) fs) (hn : 0 < n) : ∃ g, A = some ⟨g, 0, none⟩ := by
  rcases (M.row _ (List.mem_cons_self ..)).2 with ⟨hv, h0⟩ | ⟨g, cap, cur, hv, _⟩
  · simp only at h0; omega
  · injection hv with e1 e2 e3
    exact ⟨g, e1⟩
/-- Two bytes that tell which kids there are. -/
def kbit (ks : List Nd) (i : Nat) : Nat := if (ks.getD i noneN).kind ≠ 0 then 128 / 2 ^ (i % 8) else 0
def kbits (ks : List Nd) : Nat → Nat × Nat
  | 0 => (0, 0)
  | i + 1 => if i < 8 then ((kbits ks i).1 + kbit ks i, (kbits ks i).2) else ((kbits ks i).1, (kbits ks i).2 + kbit ks i)
def encF (k : Int) (p : List UInt8) (has : Bool) (v : List UInt8) (ks : List Nd) (hs : List UInt8) : List UInt8 :=
  b8 (k % 256) :: (if k = 1 then putB (packL p true) ++ putB v
    else if k = 2 then putB (packL p false) ++ hs
    else if k = 3 then (if has then (1 : UInt8) :: putB v else [0]) ++ (UInt8.ofNat (kbits ks 16).1 :: UInt8.ofNat (kbits ks 16).2 :: hs)
    else [])
mutual
def hashP : Nd → List UInt8
  | .mk k p has v ks h => if k = 4 then h else sha (encF k p has v ks (hashesP ks))
def hashesP : List Nd → List UInt8
  | [] => []
  | t :: ts => (if t.kind ≠ 0 then hashP t else []) ++ hashesP ts
end
def encP (t : Nd) : List UInt8 := encF t.kind t.path t.has t.val t.kids (hashesP t.kids)
theorem hashP_eq (t : Nd) : hashP t = if t.kind = 4 then t.hash else sha (encP t) := by cases t; rw [hashP]; rfl
theorem hashP_len {even : Bool} {t : Nd} {d : Nat} (h : Val even t d) : (hashP t).length = 32 := by
  rw [hashP_eq]
  by_cases h4 : t.kind = 4
  · rw [if_pos h4]
    cases h with
    | stub d h hd hh => exact hh
    | none => exact absurd (show (0 : Int) = 4 from h4) (by decide)
    | leaf => exact absurd (show (1 : Int) = 4 from h4) (by decide)
    | way => exact absurd (show (2 : Int) = 4 from h4) (by decide)
    | branch => exact absurd (show (3 : Int) = 4 from h4) (by decide)
  · rw [if_neg h4]; exact sha_len _
theorem Val.way_kid {even : Bool} {t : Nd} {d : Nat} (h : Val even t d) (h2 : t.kind = 2) : ∃ k, t.kids = [k] ∧ Val even k (d + t.path.length) ∧ k.kind ≠ 0 := by
  cases h with
  | way _ p k hd hp h0 hk hr => exact ⟨k, rfl, hr, fun e => by rcases hk with h | h <;> exact absurd (h.symm.trans e) (by decide)⟩
  | none => exact absurd (show (0 : Int) = 2 from h2) (by decide)
  | leaf => exact absurd (show (1 : Int) = 2 from h2) (by decide)
  | stub => exact absurd (show (4 : Int) = 2 from h2) (by decide)
  | branch => exact absurd (show (3 : Int) = 2 from h2) (by decide)
theorem Val.br_kids {even : Bool} {t : Nd} {d : Nat} (h : Val even t d) (h3 : t.kind = 3) : t.kids.length = 16 ∧ ∀ k ∈ t.kids, Val even k (d + 1) := by
  cases h with
  | branch d has v ks hd hv hv0 he h16 hr hm => exact ⟨h16, hr⟩
  | none => exact absurd (show (0 : Int) = 3 from h3) (by decide)
  | leaf => exact absurd (show (1 : Int) = 3 from h3) (by decide)
  | stub => exact absurd (show (4 : Int) = 3 from h3) (by decide)
  | way => exact absurd (show (2 : Int) = 3 from h3) (by decide)
theorem kbits_succ (ks : List Nd) (i : Nat) : kbits ks (i + 1) = if i < 8 then ((kbits ks i).1 + kbit ks i, (kbits ks i).2) else ((kbits ks i).1, (kbits ks i).2 + kbit ks i) := by rw [kbits]
theorem kb_pow : ∀ i, i < 8 → 128 / 2 ^ (i % 8) + 2 ^ (8 - (i + 1)) = 2 ^ (8 - i) := by decide
theorem kb_pow2 : ∀ i, i < 8 → 128 / 2 ^ ((i + 8) % 8) + 2 ^ (16 - (i + 8 + 1)) = 2 ^ (16 - (i + 8)) := by decide
theorem kbits_lo (ks : List Nd) : ∀ i, i ≤ 8 → (kbits ks i).1 + 2 ^ (8 - i) ≤ 256 ∧ (kbits ks i).2 = 0
  | 0, _ => ⟨Nat.le_refl 256, rfl⟩
  | i + 1, h => by
    obtain ⟨h1, h2⟩ := kbits_lo ks i (by omega)
    have h3 := kb_pow i (by omega)
    have h4 : kbit ks i ≤ 128 / 2 ^ (i % 8) := by unfold kbit; split; exact Nat.le_refl _; exact Nat.zero_le _
    unfold kbits
    rw [if_pos (by omega)]
    exact ⟨by dsimp only; omega, h2⟩
theorem kbits_hi (ks : List Nd) : ∀ i, i ≤ 8 → (kbits ks (i + 8)).1 ≤ 255 ∧ (kbits ks (i + 8)).2 + 2 ^ (16 - (i + 8)) ≤ 256
  | 0, _ => by
    obtain ⟨h1, h2⟩ := kbits_lo ks 8 (by omega)
    refine ⟨by simp at h1 ⊢; omega, ?_⟩
    rw [show (0 + 8 : Nat) = 8 from rfl, h2]; decide
  | i + 1, h => by
    obtain ⟨h1, h2⟩ := kbits_hi ks i (by omega)
    have h3 := kb_pow2 i (by omega)
    have h4 : kbit ks (i + 8) ≤ 128 / 2 ^ ((i + 8) % 8) := by unfold kbit; split; exact Nat.le_refl _; exact Nat.zero_le _
    rw [show i + 1 + 8 = (i + 8) + 1 by omega]
    unfold kbits
    rw [if_neg (by omega)]
    refine ⟨h1, ?_⟩
    dsimp only; omega
theorem kbits_le (ks : List Nd) (i : Nat) (h : i ≤ 16) : (kbits ks i).1 ≤ 255 ∧ (kbits ks i).2 ≤ 255 := by
  rcases Nat.lt_or_ge i 9 with h8 | h8
  · obtain ⟨h1, h2⟩ := kbits_lo ks i (by omega)
    have : 1 ≤ 2 ^ (8 - i) := Nat.one_le_two_pow
    omega
  · obtain ⟨h1, h2⟩ := kbits_hi ks (i - 8) (by omega)
    rw [show i - 8 + 8 = i by omega] at h1 h2
    have : 1 ≤ 2 ^ (16 - i) := Nat.one_le_two_pow
    omega
theorem Val.mono {even : Bool} {t : Nd} {d : Nat} (h : Val even t d) : ∀ d', d' ≤ d → Val false t d' := by
  have he : ∀ {e d d' : Nat} {even : Bool}, endsP e even = true → d' + (e - d) ≤ 400 → endsP (d' + (e - d)) false = true := fun _ h => ends_yes h (.inl rfl)
  induction h with
  | none d hd => intro d' hd'; exact .none d' (by omega)
  | leaf d p v hd hp hv he' => intro d' hd'; have := endsP_le he'; exact .leaf d' p v (by omega) hp hv (ends_yes (by omega) (.inl rfl))
  | stub d h hd hh => intro d' hd'; exact .stub d' h (by omega) hh
  | way d p k hd hp h0 hk hr ih => intro d' hd'; exact .way d' p k (by omega) hp h0 hk (ih _ (by omega))
  | branch d has v ks hd hv hv0 he' h16 hr hm ih => intro d' hd'; exact .branch d' has v ks (by omega) hv hv0 (fun e => ends_yes (by omega) (.inl rfl)) h16 (fun k hk => ih k hk _ (by omega)) hm
theorem quo8 {x c : Nat} (hx : x < 256) : IntKind.u8.wrap ((x : Int).tdiv (c : Int)) = ((x / c : Nat) : Int) := by
  have h1 : x / c ≤ x := Nat.div_le_self _ _
  have e : (x : Int).tdiv (c : Int) = ((x / c : Nat) : Int) := by rw [Int.tdiv_eq_ediv_of_nonneg (by omega)]; exact (Int.natCast_ediv x c).symm
  rw [e]
  obtain ⟨q, hq⟩ : ∃ q, q = x / c := ⟨_, rfl⟩
  rw [← hq] at h1 ⊢
  rw [IntKind.wrap_u8']; omega
theorem b8_cast (x : Nat) : b8 (x : Int) = UInt8.ofNat x := by unfold b8; rw [Int.toNat_natCast]
/-- One of the two bytes grows. -/
theorem two_lo (P h : List UInt8) (a b x : Nat) (ha : a ≤ 255) : at8 (P ++ (UInt8.ofNat a :: UInt8.ofNat b :: h)) P.length = (a : Int) ∧ (P ++ (UInt8.ofNat a :: UInt8.ofNat b :: h)).set P.length (b8 ((a + x : Nat) : Int)) = P ++ (UInt8.ofNat (a + x) :: UInt8.ofNat b :: h) := by
  constructor
  · unfold at8
    rw [List.getD_eq_getElem?_getD, List.getElem?_append_right (Nat.le_refl _), Nat.sub_self]
    show (((UInt8.ofNat a).toNat : Nat) : Int) = _
    rw [UInt8.toNat_ofNat', Nat.mod_eq_of_lt (by omega)]
  · rw [List.set_append_right _ _ (Nat.le_refl _), Nat.sub_self, b8_cast]; rfl
theorem two_hi (P h : List UInt8) (a b x : Nat) (hb : b ≤ 255) : at8 (P ++ (UInt8.ofNat a :: UInt8.ofNat b :: h)) (P.length + 1) = (b : Int) ∧ (P ++ (UInt8.ofNat a :: UInt8.ofNat b :: h)).set (P.length + 1) (b8 ((b + x : Nat) : Int)) = P ++ (UInt8.ofNat a :: UInt8.ofNat (b + x) :: h) := by
  have e : P.length + 1 - P.length = 1 := by omega
  constructor
  · unfold at8
    rw [List.getD_eq_getElem?_getD, List.getElem?_append_right (by omega), e]
    show (((UInt8.ofNat b).toNat : Nat) : Int) = _
    rw [UInt8.toNat_ofNat', Nat.mod_eq_of_lt (by omega)]
  · rw [List.set_append_right _ _ (by omega), e, b8_cast]; rfl
theorem putB_lenE (s : List UInt8) : (putB s).length = (putN s.length).length + s.length := by unfold putB; rw [List.length_append]
theorem packL_len (p : List UInt8) (leaf : Bool) : (packL p leaf).length ≤ p.length + 1 := by
  unfold packL
  split
  · split
    · rw [List.length_cons, joinB_length, List.length_drop]; omega
    · rw [List.length_cons, joinB_length]; omega
  · simp
end Go.Proofs.Ytliccofjlheceaa
namespace Go.Proofs.Ytliccofjlheceaa
open Go.RowKit
def rootsAt (w : World) : Prop := ∀ j, j < 64 → w.cell? ⟨1, j, none⟩ = some (cu (roots.getD j 0))
end Go.Proofs.Ytliccofjlheceaa
namespace Go.Proofs.Ytliccofjlheceaa
open Go.RowKit

/-- The package's tables. -/
structure GL (W : World) (gs : List (Option Nat)) : Prop where
  roots : rootsAt W
  begin : ∀ j v, (hc begin8)[j]? = some v → W.cell? ⟨0, j, none⟩ = some v
  size : 2 ≤ W.heap.size
  out0 : some 0 ∉ gs
  out1 : some 1 ∉ gs
theorem GL.up {W W' : World} {gs gs' : List (Option Nat)} (h : GL W gs) (s : Stp W gs W' gs') : GL W' gs' :=
  ⟨fun j hj => (World.cell?_of_block (w := W) (a := ⟨1, j, none⟩) (s.block 1 h.size h.out1)).trans (h.roots j hj),
   fun j v hv => (World.cell?_of_block (w := W) (a := ⟨0, j, none⟩) (s.block 0 (by have := h.size; omega) h.out0)).trans (h.begin j v hv),
   Nat.le_trans h.size s.size, fun e => h.out0 (s.own 0 (by have := h.size; omega) e), fun e => h.out1 (s.own 1 h.size e)⟩
section
variable {E : Env} {d : Option Nat} {ty : TypeId} {p : String} {af : Array Edge} {g : Option (Nat × Bool)} {x y z : Operand} {kw : Value → World → Prop} {w : World}
end
end Go.Proofs.Ytliccofjlheceaa
namespace Go.Proofs.Ytliccofjlheceaa
open Go.RowKit
theorem orN {a b : Nat} (ha : a < 2 ^ 62) (hb : b < 2 ^ 62) : bits .or .i64 (a : Int) (b : Int) = ((a ||| b : Nat) : Int) := by
  have h := Nat.or_lt_two_pow ha hb
  have e : (BitVec.ofInt IntKind.i64.bits (a : Int) ||| BitVec.ofInt IntKind.i64.bits (b : Int)).toNat = a ||| b := by
    rw [BitVec.toNat_or, BitVec.ofInt_natCast, BitVec.ofInt_natCast, BitVec.toNat_ofNat, BitVec.toNat_ofNat, Nat.mod_eq_of_lt (by show a < 2 ^ 64; omega), Nat.mod_eq_of_lt (by show b < 2 ^ 64; omega)]
  show IntKind.i64.wrap ((BitVec.ofInt IntKind.i64.bits (a : Int) ||| BitVec.ofInt IntKind.i64.bits (b : Int)).toNat : Int) = _
  rw [e]
  exact w64 (by omega)
def setN (ks : List Nd) (i : Nat) : Nat := 256 * (kbits ks i).1 + (kbits ks i).2
theorem setN_bit : ∀ i, i < 16 → (if i < 8 then 256 * (128 / 2 ^ (i % 8)) else 128 / 2 ^ (i % 8)) = 2 ^ (15 - i) := by decide
theorem setN_yes {ks : List Nd} {i : Nat} (h : i < 16) (hk : (ks.getD i noneN).kind ≠ 0) : setN ks (i + 1) = setN ks i + 2 ^ (15 - i) := by
  have h1 := setN_bit i h
  unfold setN
  rw [kbits_succ]
  unfold kbit
  rw [if_pos hk]
  by_cases h8 : i < 8
  · rw [if_pos h8] at h1 ⊢
    dsimp only; omega
  · rw [if_neg h8] at h1 ⊢
    dsimp only; omega
theorem setN_no {ks : List Nd} {i : Nat} (hk : (ks.getD i noneN).kind = 0) : setN ks (i + 1) = setN ks i := by
  have hb : kbit ks i = 0 := by unfold kbit; rw [if_neg (fun h => h hk)]
  unfold setN
  rw [kbits_succ, hb]
  split <;> rfl
theorem setN_dvd (ks : List Nd) : ∀ i, i ≤ 16 → 2 ^ (16 - i) ∣ setN ks i
  | 0, _ => ⟨0, rfl⟩
  | i + 1, h => by
    have ih := setN_dvd ks i (by omega)
    have h1 : 2 ^ (16 - i) = 2 ^ (16 - (i + 1)) * 2 := by rw [← Nat.pow_succ]; congr 1; omega
    have h2 : 2 ^ (16 - (i + 1)) ∣ setN ks i := Nat.dvd_trans ⟨2, h1⟩ ih
    by_cases hk : (ks.getD i noneN).kind = 0
    · rw [setN_no hk]; exact h2
    · rw [setN_yes (by omega) hk]
      exact Nat.dvd_add h2 (by rw [show 16 - (i + 1) = 15 - i by omega]; exact Nat.dvd_refl _)
theorem setN_lt (ks : List Nd) {i : Nat} (h : i ≤ 16) : setN ks i < 65536 := by
  have := kbits_le ks i h
  unfold setN; omega
theorem setN_or {ks : List Nd} {i : Nat} (h : i < 16) (hk : (ks.getD i noneN).kind ≠ 0) : bits .or .i64 (setN ks i : Int) ((2 ^ (15 - i) : Nat) : Int) = (setN ks (i + 1) : Int) := by
  have hp : 2 ^ (15 - i) < 2 ^ 62 := Nat.pow_lt_pow_right (by decide) (by omega)
  rw [orN (by have := setN_lt ks (Nat.le_of_lt h); omega) hp, setN_yes h hk]
  obtain ⟨a, ha⟩ := setN_dvd ks i (by omega)
  rw [ha, Nat.two_pow_add_eq_or_of_lt (Nat.pow_lt_pow_right (by decide) (by omega))]
theorem shl15 {i : Nat} (h : i < 16) : IntKind.i64.wrap (1 * 2 ^ (min (((15 - i : Nat) : Int)).toNat IntKind.i64.bits)) = ((2 ^ (15 - i) : Nat) : Int) := by
  have key : ∀ i, i < 16 → IntKind.i64.wrap (1 * 2 ^ (min (((15 - i : Nat) : Int)).toNat IntKind.i64.bits)) = ((2 ^ (15 - i) : Nat) : Int) := by decide
  exact key i h
theorem is_npack : isFn Try.prog 65 = true := by kernel_rfl
theorem is_npb : isFn Try.prog 36 = true := by kernel_rfl
end Go.Proofs.Ytliccofjlheceaa
namespace Go.Proofs.Ytliccofjlheceaa
open Go.RowKit

/-- The unit, as it is kept: at the end of all it has gone round. -/
def unit8 (k : Nat) : Nat := 128 ^ k % 18446744073709551616
theorem unit8_le {k : Nat} (h : k ≤ 9) : unit8 k = 128 ^ k := by
  unfold unit8
  have h2 : 128 ^ k ≤ 128 ^ 9 := Nat.pow_le_pow_right (by omega) h
  have hp9 : (128 : Nat) ^ 9 = 9223372036854775808 := by decide
  exact Nat.mod_eq_of_lt (by omega)
theorem unit8_step (k : Nat) : IntKind.u64.wrap ((unit8 k : Int) * 128) = (unit8 (k + 1) : Int) := by
  unfold unit8
  rw [IntKind.wrap_u64, Nat.pow_succ]
  omega

/-- The number gets seven bits more, as the reference reckons it. -/
theorem add_step (acc k : Nat) (x : Int) (h0 : 0 ≤ x) (h1 : x ≤ 255) (hacc : acc < 128 ^ k) (hk : k ≤ 9) (h9 : k = 9 → x ≤ 1) :
    IntKind.u64.wrap ((acc : Int) + IntKind.u64.wrap (x % 128 * ((unit8 k : Nat) : Int))) = ((acc + (x.toNat % 128) * 128 ^ k : Nat) : Int) := by
  rw [unit8_le hk]
  obtain ⟨y, rfl⟩ := Int.eq_ofNat_of_zero_le h0
  have hb : (y % 128) * 128 ^ k + acc < 18446744073709551616 := by
    by_cases e : k = 9
    · subst e
      have hp9 : (128 : Nat) ^ 9 = 9223372036854775808 := by decide
      rw [hp9] at hacc ⊢
      have : y % 128 ≤ 1 := by have := h9 rfl; omega
      have := Nat.mul_le_mul_right 9223372036854775808 this
      omega
    · have h2 : 128 ^ (k + 1) ≤ 128 ^ 9 := Nat.pow_le_pow_right (by omega) (by omega)
      have hp9 : (128 : Nat) ^ 9 = 9223372036854775808 := by decide
      have h3 : (y % 128) * 128 ^ k ≤ 127 * 128 ^ k := Nat.mul_le_mul_right _ (by omega)
      rw [hp9, Nat.pow_succ] at h2
      omega
  rw [show (y : Int) % 128 = ((y % 128 : Nat) : Int) by omega, ← Int.natCast_mul, Int.toNat_natCast]
  rw [IntKind.wrap_u64, IntKind.wrap_u64]
  omega
set_option maxRecDepth 100000 in
set_option maxHeartbeats 1600000 in
theorem refGet_in (A : Option Addr) (n c B a : Nat) (l : List UInt8) (w : World) (hr : Rd w B A n l) (hn : n ≤ 100000000000) (ha : a ≤ n) :
    Calls Try.prog 38 #[.slice A n c, .int .i64 a] w (Got w l a) := by
  have hln := Lib.hid hr.len
  go_enter Try.func38, Try.ntmps38
  go_wp2
  go_loop [7, 8, 9] (fun v u i => ∃ (k acc : Nat), a + k ≤ n ∧ k ≤ 9 ∧ acc < 128 ^ k ∧ i = .int .i64 ((a + k : Nat) : Int) ∧ v = .int .u64 acc ∧ u = .int .u64 (unit8 k) ∧ getF (l.drop (a + k)) k acc = getF (l.drop a) 0 0) (fun _ _ i => n - (intOf i).toNat)
  case atStart => exact ⟨0, 0, by omega, by omega, by simp, rfl, rfl, rfl, rfl⟩
  case round =>
    obtain ⟨k, acc, hkn, hk9, hacc, rfl, rfl, rfl, hg⟩ := hrel
    have Hg := Lib.hid hg
    have Hacc := Lib.hid hacc
    have hal : Hid (a ≤ l.length) := Lib.hid (by rw [hln.out]; omega)
    have hu := Lib.hid (unit8_le hk9)
    have hus := unit8_step k
    clear hg hacc
    by_cases hlt : a + k < n
    · obtain ⟨b, off, rfl, hc⟩ := hr.at_ hlt
      have h0 := at8_lo l (a + k)
      have h1 := at8_hi l (a + k)
      have hst := Lib.hid (getF_step l a k acc (by rw [hln.out]; exact hlt))
      by_cases h9 : k = 9
      · have hb9 : ((a : Int) + k - a == 9) = true := by simp; omega
        have hk0 : (a : Int) < (a : Int) + k := by omega
        by_cases hc1 : 1 < at8 l (a + k)
        · have F := Lib.hid (g_fail hal.out (by decide) (show getF (l.drop a) 0 0 = (0, 0, 11) by rw [← Hg.out, hst.out, if_pos (.inl ⟨h9, hc1⟩)]))
          have hb0 : (at8 l (a + k) != 0) = true := by rw [bne_iff_ne]; omega
          have hb1 : (at8 l (a + k) != 1) = true := by rw [bne_iff_ne]; omega
          clear h9
          go_wp2
          go_ret3
          exact ⟨ret3 F.out.2.1.symm F.out.2.2.symm F.out.1.symm, rfl⟩
        · by_cases hz : at8 l (a + k) = 0
          · have F := Lib.hid (g_fail hal.out (by decide) (show getF (l.drop a) 0 0 = (0, 0, 11) by rw [← Hg.out, hst.out, if_pos (.inr ⟨hz, by omega⟩)]))
            have hb0 : (at8 l (a + k) != 0) = false := by simp [hz]
            have hb1 : (at8 l (a + k) == 0) = true := by simp [hz]
            clear h9 hz
            go_wp2
            go_ret3
            exact ⟨ret3 F.out.2.1.symm F.out.2.2.symm F.out.1.symm, rfl⟩
          · have hb0 : (at8 l (a + k) != 0) = true := by rw [bne_iff_ne]; omega
            have hb1 : (at8 l (a + k) != 1) = false := by simp; omega
            have hb2 : (at8 l (a + k) == 0) = false := by simp [hz]
            have hv := add_step acc k (at8 l (a + k)) h0 h1 Hacc.out hk9 (by omega)
            have F := Lib.hid (g_done hal.out (show getF (l.drop a) 0 0 = (acc + (at8 l (a + k)).toNat * 128 ^ k, k + 1, 0) by rw [← Hg.out, hst.out, if_neg (by omega), if_pos (by omega)]))
            rw [show (at8 l (a + k)).toNat % 128 = (at8 l (a + k)).toNat by omega] at hv
            have Hv := Lib.hid hv
            have hlt8 : at8 l (a + k) < 128 := by omega
            clear hv hz h9
            go_wp2
            go_ret3
            exact ⟨ret3 (by rw [Hv.out]; exact F.out.2.1.symm) (by rw [F.out.2.2]; omega) F.out.1.symm, rfl⟩
      · have hb9 : ((a : Int) + k - a == 9) = false := by simp; omega
        by_cases hz : at8 l (a + k) = 0
        · have hb0 : (at8 l (a + k) == 0) = true := by simp [hz]
          by_cases hk0 : 0 < k
          · have hk1 : (a : Int) < (a : Int) + k := by omega
            have F := Lib.hid (g_fail hal.out (by decide) (show getF (l.drop a) 0 0 = (0, 0, 11) by rw [← Hg.out, hst.out, if_pos (.inr ⟨hz, by omega⟩)]))
            clear h9 hz
            go_wp2
            go_ret3
            exact ⟨ret3 F.out.2.1.symm F.out.2.2.symm F.out.1.symm, rfl⟩
          · have hk1 : decide ((a : Int) < (a : Int) + k) = false := by simp; omega
            have hv := add_step acc k (at8 l (a + k)) h0 h1 Hacc.out hk9 (by omega)
            have F := Lib.hid (g_done hal.out (show getF (l.drop a) 0 0 = (acc + (at8 l (a + k)).toNat * 128 ^ k, k + 1, 0) by rw [← Hg.out, hst.out, if_neg (by omega), if_pos (by omega)]))
            rw [show (at8 l (a + k)).toNat % 128 = (at8 l (a + k)).toNat by omega] at hv
            have Hv := Lib.hid hv
            have hlt8 : at8 l (a + k) < 128 := by omega
            clear hv hz h9
            go_wp2
            go_ret3
            exact ⟨ret3 (by rw [Hv.out]; exact F.out.2.1.symm) (by rw [F.out.2.2]; omega) F.out.1.symm, rfl⟩
        · have hb0 : (at8 l (a + k) == 0) = false := by simp [hz]
          have hbd : (decide ((a : Int) < (a : Int) + k) && (at8 l (a + k) == 0)) = false := by rw [hb0]; simp
          by_cases hk0 : 0 < k
          · have hk1 : (a : Int) < (a : Int) + k := by omega
            by_cases hs : at8 l (a + k) < 128
            · have hv := add_step acc k (at8 l (a + k)) h0 h1 Hacc.out hk9 (by omega)
              have F := Lib.hid (g_done hal.out (show getF (l.drop a) 0 0 = (acc + (at8 l (a + k)).toNat * 128 ^ k, k + 1, 0) by rw [← Hg.out, hst.out, if_neg (by omega), if_pos (by omega)]))
              rw [show (at8 l (a + k)).toNat % 128 = (at8 l (a + k)).toNat by omega] at hv
              have Hv := Lib.hid hv
              clear hv hz h9
              go_wp2
              go_ret3
              exact ⟨ret3 (by rw [Hv.out]; exact F.out.2.1.symm) (by rw [F.out.2.2]; omega) F.out.1.symm, rfl⟩
            · have hv := add_step acc k (at8 l (a + k)) h0 h1 Hacc.out hk9 (by omega)
              rw [show (at8 l (a + k)).toNat % 128 = (at8 l (a + k)).toNat - 128 by omega] at hv
              have Hv := Lib.hid hv
              have F := Lib.hid (show getF (l.drop (a + (k + 1))) (k + 1) (acc + ((at8 l (a + k)).toNat - 128) * 128 ^ k) = getF (l.drop a) 0 0 by rw [← Hg.out, hst.out, if_neg (by omega), if_neg (by omega)])
              have Hb := Lib.hid (acc_lt (x := (at8 l (a + k)).toNat - 128) Hacc.out (by omega))
              clear hv hz
              go_wp2
              go_round
              case rel => exact ⟨k + 1, _, by omega, by omega, Hb.out, by go_num, by rw [Hv.out], rfl, F.out⟩
              case measure => simp [intOf]; omega
          · have hk1 : decide ((a : Int) < (a : Int) + k) = false := by simp; omega
            by_cases hs : at8 l (a + k) < 128
            · have hv := add_step acc k (at8 l (a + k)) h0 h1 Hacc.out hk9 (by omega)
              have F := Lib.hid (g_done hal.out (show getF (l.drop a) 0 0 = (acc + (at8 l (a + k)).toNat * 128 ^ k, k + 1, 0) by rw [← Hg.out, hst.out, if_neg (by omega), if_pos (by omega)]))
              rw [show (at8 l (a + k)).toNat % 128 = (at8 l (a + k)).toNat by omega] at hv
              have Hv := Lib.hid hv
              clear hv hz h9
              go_wp2
              go_ret3
              exact ⟨ret3 (by rw [Hv.out]; exact F.out.2.1.symm) (by rw [F.out.2.2]; omega) F.out.1.symm, rfl⟩
            · have hv := add_step acc k (at8 l (a + k)) h0 h1 Hacc.out hk9 (by omega)
              rw [show (at8 l (a + k)).toNat % 128 = (at8 l (a + k)).toNat - 128 by omega] at hv
              have Hv := Lib.hid hv
              have F := Lib.hid (show getF (l.drop (a + (k + 1))) (k + 1) (acc + ((at8 l (a + k)).toNat - 128) * 128 ^ k) = getF (l.drop a) 0 0 by rw [← Hg.out, hst.out, if_neg (by omega), if_neg (by omega)])
              have Hb := Lib.hid (acc_lt (x := (at8 l (a + k)).toNat - 128) Hacc.out (by omega))
              clear hv hz
              go_wp2
              go_round
              case rel => exact ⟨k + 1, _, by omega, by omega, Hb.out, by go_num, by rw [Hv.out], rfl, F.out⟩
              case measure => simp [intOf]; omega
    · have F := Lib.hid (g_fail hal.out (by decide) (show getF (l.drop a) 0 0 = (0, 0, 10) by rw [← Hg.out, getF_end l a k acc (by rw [hln.out]; omega)]))
      go_wp2
      go_ret3
      exact ⟨ret3 F.out.2.1.symm F.out.2.2.symm F.out.1.symm, rfl⟩

set_option maxRecDepth 100000 in
set_option maxHeartbeats 1600000 in
theorem refGet_any (A : Option Addr) (n c B : Nat) (at_ : Int) (l : List UInt8) (w : World) (hr : Rd w B A n l) (hn : n ≤ 100000000000) :
    Calls Try.prog 38 #[.slice A n c, .int .i64 at_] w (Got w l at_) := by
  by_cases ho : at_ < 0
  · have F := Lib.hid (g_out (l := l) (.inl ho))
    go_enter Try.func38, Try.ntmps38
    go_wp2
    go_ret3
    exact ⟨ret3 F.out.2.1.symm F.out.2.2.symm F.out.1.symm, rfl⟩
  · by_cases hp : (n : Int) < at_
    · have F := Lib.hid (g_out (l := l) (a := at_) (.inr (by rw [hr.len]; exact hp)))
      go_enter Try.func38, Try.ntmps38
      go_wp2
      go_ret3
      exact ⟨ret3 F.out.2.1.symm F.out.2.2.symm F.out.1.symm, rfl⟩
    · obtain ⟨a, rfl⟩ := Int.eq_ofNat_of_zero_le (show 0 ≤ at_ by omega)
      exact refGet_in A n c B a l w hr hn (by omega)

set_option maxRecDepth 100000 in
set_option maxHeartbeats 1600000 in
theorem refGetBytes_any (A : Option Addr) (n c : Nat) (at_ : Int) (l : List UInt8) (w : World) (hr : Rd w w.heap.size A n l) (hn : n ≤ 100000000000) (hnc : n ≤ c) :
    Calls Try.prog 39 #[.slice A n c, .int .i64 at_] w (GotBytes w l at_) := by
  have hln := Lib.hid hr.len
  rcases gb_cases l at_ with h | ⟨h, k⟩ | ⟨h, k, m⟩ | ⟨h, k, m⟩
  · have F := Lib.hid (gb_err1 h)
    have hne : (gE l at_ != 0) = true := by simp [h]
    clear h
    go_enter Try.func39, Try.ntmps39
    go_wp2_with fail
    refine (refGet_any _ _ _ _ _ _ _ hr hn).mono ?_
    rintro e w' ⟨rfl, rfl⟩
    go_wp2_with fail
    go_ret3
    exact gotBytes_none F.out (Below.refl _ _)
  · have F := Lib.hid (gb_err2 h k)
    have H := Lib.hid h
    clear h
    go_enter Try.func39, Try.ntmps39
    go_wp2_with fail
    refine (refGet_any _ _ _ _ _ _ _ hr hn).mono ?_
    rintro e w' ⟨rfl, rfl⟩
    rw [H.out]
    go_wp2_with fail
    go_ret3
    exact gotBytes_none F.out (Below.refl _ _)
  · have F := Lib.hid (gb_err3 h k m)
    have H := Lib.hid h
    obtain ⟨T, hT, hle⟩ := g_to h
    obtain ⟨N, hN⟩ := Int.eq_ofNat_of_zero_le (gN_nonneg l at_)
    rw [hln.out] at m hle
    rw [hT, hN] at m
    rw [hN] at k
    have HT := Lib.hid hT
    have HN := Lib.hid hN
    have hw : IntKind.i64.wrap (N : Int) = N := IntWalk.i64_in _ (by omega)
    have hgt : (n : Int) < (T : Int) + N := by omega
    clear h hT hN m
    go_enter Try.func39, Try.ntmps39
    go_wp2_with fail
    refine (refGet_any _ _ _ _ _ _ _ hr hn).mono ?_
    rintro e w' ⟨rfl, rfl⟩
    rw [H.out, HT.out, HN.out]
    go_wp2_with fail
    go_ret3
    exact gotBytes_none F.out (Below.refl _ _)
  · have F := Lib.hid (gb_ok h k m)
    have H := Lib.hid h
    obtain ⟨T, hT, hle⟩ := g_to h
    obtain ⟨N, hN⟩ := Int.eq_ofNat_of_zero_le (gN_nonneg l at_)
    rw [hln.out] at m hle
    rw [hT, hN] at m
    rw [hN] at k
    have HT := Lib.hid hT
    have HN := Lib.hid hN
    have hTn : T + N ≤ n := by omega
    have hNb : N ≤ 1048576 := by omega
    have hle2 : (T : Int) + N ≤ n := by omega
    have eN : T + N - T = N := by omega
    have hcut : Rd w w.heap.size (if c = T then A else A.map (·.add T)) (T + N - T) ((l.drop T).take N) := by rw [eN]; exact hr.mid (i := T) (j := N) (c := c) hTn hnc
    have EN := Lib.hid eN
    clear h hT hN k m eN
    go_enter Try.func39, Try.ntmps39
    go_wp2_with fail
    refine (refGet_any _ _ _ _ _ _ _ hr hn).mono ?_
    rintro e w' ⟨rfl, rfl⟩
    rw [H.out, HT.out, HN.out]
    go_wp2_with (at_builtin; refine wpList_app rfl _ _ rfl rfl (Own.nil_ w w.heap.size) rfl hcut (by omega) (Nat.le_refl _) ?_; intro A2 c2 w2 o2 g2)
    all_goals
      have b2 := below_nil rfl g2
      go_ret3
      refine ⟨A2, N, c2, ret_sie rfl (by rw [F.out.2.2, HT.out, HN.out]) F.out.1.symm, ?_, b2⟩
      rw [F.out.2.1, HT.out, HN.out, Int.toNat_natCast, Int.toNat_natCast]
      rw [Nat.zero_add, EN.out] at o2
      exact o2
end Go.Proofs.Ytliccofjlheceaa
namespace Go.Proofs.Ytliccofjlheceaa
open Go.RowKit

theorem putB_len (l : List UInt8) : (putB l).length = (putN l.length).length + l.length := by unfold putB; rw [List.length_append]

/-- A place behind what has been read lies farther on, within the bytes. -/
theorem gb_to {l : List UInt8} {a : Int} (h : gbE l a = 0) : a < gbTo l a ∧ gbTo l a ≤ (l.length : Int) ∧ 0 ≤ a := by
  rcases gb_cases l a with e | ⟨e, k⟩ | ⟨e, k, m⟩ | ⟨e, k, m⟩
  · rw [(gb_err1 e).1] at h; exact absurd h e
  · rw [(gb_err2 e k).1] at h; cases h
  · rw [(gb_err3 e k m).1] at h; cases h
  · obtain ⟨x, t, hx, _, _, hT, ht, hle, _, _⟩ := g_ok e
    rw [(gb_ok e k m).2.2]
    have := gN_nonneg l a
    omega
end Go.Proofs.Ytliccofjlheceaa
namespace Go.Proofs.Ytliccofjlheceaa
open Go.RowKit
structure It where
  path : List UInt8
  val : List UInt8
  stub : Bool
  known : Bool
  hash : List UInt8
mutual
def itemsP : Nd → List UInt8 → Bool → List It
  | .mk k p has v ks h, way, known =>
    if k = 4 then [⟨way ++ p, [], true, known, h⟩]
    else (if k = 1 ∨ has = true then [⟨way ++ p, v, false, false, []⟩] else []) ++ itemsK ks (decide (k = 3)) (decide (k = 2)) 0 (way ++ p)
def itemsK : List Nd → Bool → Bool → Nat → List UInt8 → List It
  | [], _, _, _, _ => []
  | t :: ts, br, known, i, at_ => itemsP t (if br then at_ ++ [UInt8.ofNat i] else at_) known ++ itemsK ts br known (i + 1) at_
end
end Go.Proofs.Ytliccofjlheceaa
namespace Go.Proofs.Ytliccofjlheceaa
open Go.RowKit
def alikeF (x : It) (at_ : Nat) (n : Nat) (y : It) : Nat := min n (commonB (x.path.drop at_) (y.path.drop at_))
def alikeP : List It → Nat → Nat
  | [], _ => 0
  | x :: r, at_ => r.foldl (alikeF x at_) (x.path.length - at_)
theorem alike_le : ∀ (r : List It) (x : It) (at_ n : Nat), r.foldl (alikeF x at_) n ≤ n
  | [], _, _, n => Nat.le_refl _
  | y :: r, x, at_, n => by
    rw [List.foldl_cons]
    have := alike_le r x at_ (alikeF x at_ n y)
    have : alikeF x at_ n y ≤ n := Nat.min_le_left _ _
    omega
def groupA (l : List It) (at_ h : Nat) : List It := l.filter fun x => decide (at_ < x.path.length ∧ (x.path.getD at_ 0).toNat = h)
def lastV (l : List It) (at_ : Nat) : Bool × List UInt8 := l.foldl (fun s x => if x.path.length = at_ then (true, x.val) else s) (false, [])
def badF (f : Nat → Nd × Option (List UInt8)) : Nat → Nat → Option (List UInt8)
  | _, 0 => none
  | h, j + 1 => match (f h).2 with
    | some m => some m
    | none => badF f (h + 1) j
def kidsF (f : Nat → Nd × Option (List UInt8)) : List Nd := (List.range 16).map fun h => (f h).1
def buildA : Nat → List It → Nat → Nd × Option (List UInt8)
  | 0, _, _ => (noneN, none)
  | _ + 1, [], _ => (noneN, none)
  | n + 1, x :: r, at_ =>
    if r = [] ∧ x.stub = false then (leafN (x.path.drop at_) x.val, none)
    else if 0 < alikeP (x :: r) at_ then
      (if r = [] ∧ x.known = false then (noneN, some x.path)
       else (.mk 2 ((x.path.drop at_).take (alikeP (x :: r) at_)) false [] [(buildA n (x :: r) (at_ + alikeP (x :: r) at_)).1] [], (buildA n (x :: r) (at_ + alikeP (x :: r) at_)).2))
    else if r = [] then (.mk 4 [] false [] [] x.hash, none)
    else match badF (fun h => buildA n (groupA (x :: r) at_ h) (at_ + 1)) 0 16 with
      | some m => (noneN, some m)
      | none => (.mk 3 [] (lastV (x :: r) at_).1 (lastV (x :: r) at_).2 (kidsF fun h => buildA n (groupA (x :: r) at_ h) (at_ + 1)) [], none)
theorem ev_sq {P : Program} {a b : Code} {E : Env} {w : World} {K : Kont} (h : ev P a E w (thenK (ev P b) K)) : ev P (.seq a b) E w K := h
theorem s_mkN {E : Env} {d : Option Nat} {ty : TypeId} {p : String} {af : Array Edge} {gd : Option (Nat × Bool)} {l c : Operand} {kw : Value → World → Prop} {w W : World} {gs : List (Option Nat)} {L : Lc} {R : List Row} {fs : List Fact} (M : St w gs W L R fs) (hl : val E l = .int .i64 ((16 : Nat) : Int)) (hc : val E c = .int .i64 ((16 : Nat) : Int))
    (h : ∀ g W', St w gs W' ((g, 38, zNs 16) :: L) R fs → kw (.slice (some ⟨g, 0, none⟩) 16 16) W') :
    VVal Try.prog E { dst := d, op := .makeSlice 36 l c, type := ty, pos := p, after := af, guard := gd } W kw :=
  v_mkN hl hc fun g W' hg hB hb => h g W' (M.newB hg hB hb)
theorem u_int' : Try.prog.underlying 3 = some (.int .i64) := by kernel_rfl
theorem u_u8s : (Try.prog.underlying 5).isSome = true := by kernel_rfl
end Go.Proofs.Ytliccofjlheceaa
namespace Go.Proofs.Ytliccofjlheceaa
open Go.RowKit
/-- What a reader has left, and whether something was wrong. -/
structure RS where
  l : List UInt8
  bad : Bool
def textP (s : RS) : List UInt8 × RS := (gbL s.l 0, ⟨s.l.drop (gbTo s.l 0).toNat, s.bad || decide (gbE s.l 0 ≠ 0)⟩)
def bitB (set : List UInt8) (i : Nat) : Bool := decide ((set.getD (i / 8) 0).toNat / 2 ^ (7 - i % 8) % 2 = 1)
theorem gbTo_le (l : List UInt8) : 0 ≤ gbTo l 0 ∧ gbTo l 0 ≤ (l.length : Int) := by
  by_cases h : gbE l 0 = 0
  · have := gb_to h; omega
  · unfold gbTo; rw [if_neg h]; omega
theorem textP_le (s : RS) : (textP s).2.l.length ≤ s.l.length ∧ (textP s).1.length ≤ s.l.length := by
  unfold textP
  dsimp only
  rw [List.length_drop]
  refine ⟨by omega, ?_⟩
  unfold gbL
  split
  · rw [List.length_take, List.length_drop]; omega
  · simp
section
variable {w W : World} {gs : List (Option Nat)} {g : Nat} {L : Lc} {R : List Row} {fs : List Fact} {A : Option Addr} {n c : Nat} {l : List UInt8} {bad : Bool}
theorem St.drop2 {x y : Nat × TypeId × List Value} (M : St w gs W (x :: y :: L) R fs) : St w gs W (x :: L) R fs := M.swp.dropL
theorem and1 {x : Nat} (h : x < 256) : bits .and .u8 (x : Int) 1 = ((x % 2 : Nat) : Int) := by
  have key : ∀ y : Fin 256, bits .and .u8 ((y.val : Nat) : Int) 1 = ((y.val % 2 : Nat) : Int) := by decide +kernel
  exact key ⟨x, h⟩
theorem shr7 {x j : Nat} (hj : j ≤ 7) : (x : Int).fdiv (2 ^ (min ((j : Nat) : Int).toNat IntKind.u8.bits)) = ((x / 2 ^ j : Nat) : Int) := by
  rw [Int.toNat_natCast, show min j IntKind.u8.bits = j from Nat.min_eq_left (show j ≤ 8 by omega), Int.fdiv_eq_ediv_of_nonneg _ (Int.le_of_lt (Int.pow_pos (by decide))), Int.natCast_ediv, Int.natCast_pow]
  rfl
theorem u_u8r : (Try.prog.underlying 5).isSome = true := by kernel_rfl
theorem u_intr : Try.prog.underlying 3 = some (.int .i64) := by kernel_rfl
end
end Go.Proofs.Ytliccofjlheceaa
namespace Go.Proofs.Ytliccofjlheceaa
open Go.ChangeShapes Go.WideShapes Go.ChangeAt Go.RowKit

theorem own_ : ownKnob Try.prog.godebug = none := by kernel_rfl
theorem laidOut : laidOutB Try.prog = true := by kernel_rfl

/-- A call returns true, and below the heap's old size all is as it was. -/
def RetTrue (w : World) (e : Ending) (w' : World) : Prop := e = .returned (.bool true) ∧ Below w.heap.size w w'

section
variable {H : Type} {enc : TypeId × Value → H} {P : Program}
theorem trodAll_stays (hl : laidOutB P = true) {W W' : World} (hb : Below W.heap.size W W') {sp : Nat → Bool} : ∀ (ts : List TypeId) (vs : List Value) (ds : List (DataW H)) (p : List MemPlace),
    (ts.all fun t => P.readableRec t && decide (t < P.types.size)) = true → DataW.TrodAll enc P W 0 (fun _ => true) true ts vs ds p → (∀ x ∈ p, x.block < W.heap.size) → (∀ x ∈ p, sp x.block = true) → DataW.TrodAll enc P W' 0 sp true ts vs ds p
  | [], vs, ds, p, _, h, _, _ => by
    obtain ⟨rfl, rfl, rfl⟩ := trodAll_nil h
    exact trodAll_mk0
  | t :: ts, vs, ds, p, ht, h, hlt, hsp => by
    obtain ⟨v, vs', d, ds', p0, q0, rfl, rfl, rfl, h0, r0⟩ := trodAll_cons h
    rw [List.all_cons, Bool.and_eq_true, Bool.and_eq_true, decide_eq_true_eq] at ht
    refine trodAll_cons_mk (WideElems.Trod_stays hl ht.1.1 ht.1.2 h0 (fun x hx => hb.same (hlt x (by simp [hx]))) (fun x hx => hsp x (by simp [hx]))) (trodAll_stays hl hb ts vs' ds' q0 ht.2 r0 (fun x hx => hlt x (by simp [hx])) (fun x hx => hsp x (by simp [hx])))

theorem post_of_below {f : Func} {s : ChangeSpec} {apart fresh handsOn again : Bool} {W W' : World} {args : Array Value} {v : Value} {ds gs : List (DataW H)} {before pa pv : List MemPlace}
    (hW : DataW.Whole enc P f.params.toList s.vars apart W args.toList ds gs before)
    (hres : ∀ (b : Nat) (sp : Nat → Bool) (hd : Bool), DataW.TrodAll enc P W' b sp hd f.resultTypes.toList (v.resultList f.resultTypes.size) (s.fn H (ds ++ gs)).results [])
    (hargs : ∀ sp : Nat → Bool, (∀ p ∈ before, sp p.block = true) → DataW.TrodAll enc P W' 0 sp true f.params.toList args.toList (s.fn H (ds ++ gs)).args pa)
    (hvars : ∀ sp : Nat → Bool, (∀ p ∈ before, sp p.block = true) → DataW.TrodVars enc P W' sp s.vars (s.fn H (ds ++ gs)).vars pv)
    (hps : before = pa ++ pv) (hb : Below W.heap.size W W')
    (hok : ∀ (j : Nat) (t : TypeId) (r : Value), f.resultTypes[j]? = some t → (v.resultList f.resultTypes.size)[j]? = some r → Value.okWide P W' .any 0 t r) :
    s.post enc P f apart fresh handsOn again W args v W' := by
  have hlt : ∀ p ∈ before, p.block < W.heap.size := fun p hp => hW.lt p hp
  have hold : ∀ p ∈ before, (fun b => decide (b < W.heap.size)) p.block = true := fun p hp => by simpa using hlt p hp
  refine ⟨ds, gs, before, [], pa, pv, hW, hres _ _ _, hargs _ hold, hvars _ hold, World.keptBut_mono (fun p hp => ⟨hp, ?_⟩) (hb.frame (· ∈ before)), fun _ => ?_⟩
  · rw [hps, List.mem_append] at hp
    exact Or.inr hp
  · obtain ⟨_, _, _, _, _, hz, hn⟩ := hW
    refine ⟨hok, _, _, ([] ++ pa) ++ pv, ⟨[] ++ pa, pv, trodAll_append (hargs _ (fun _ _ => rfl)) (hres _ _ _), hvars _ (fun _ _ => rfl), rfl, ?_, ?_⟩, ?_⟩
    · intro b off hp
      have hin : MemPlace.cell b off ∈ before := by rw [hps]; simpa using hp
      rw [hb.frozen (hlt _ hin)]
      exact hz b off hin
    · intro ha
      have := hn ha
      rw [hps] at this
      simpa using this
    · intro p hp _
      rw [hps]
      simpa using hp

/-- THE ROW'S LAST STEP: the law has returned true, nothing that was there has turned. -/
theorem law_post (hl : laidOutB P = true) {tb : TypeId} (hbool : P.underlying tb = some .bool) {f : Func} {s : ChangeSpec} {W W' : World} {args : Array Value} {ds gs : List (DataW H)} {before : List MemPlace}
    (hvars : s.vars = []) (hW : DataW.Whole enc P f.params.toList s.vars false W args.toList ds gs before)
    (hts : (f.params.toList.all fun t => P.readableRec t && decide (t < P.types.size)) = true) (hrt : f.resultTypes = #[tb])
    (hres : (s.fn H (ds ++ gs)).results = [.lit (.bool true)]) (hargs : (s.fn H (ds ++ gs)).args = ds) (hvs : (s.fn H (ds ++ gs)).vars = []) (hb : Below W.heap.size W W') :
    s.post enc P f false true false false W args (.bool true) W' := by
  have hW' := hW
  obtain ⟨p, q, hA, hV, rfl, hfz, hnd⟩ := hW
  rw [hvars] at hV
  obtain ⟨rfl, rfl⟩ := trodVars_none hV
  have hlt : ∀ x ∈ p, x.block < W.heap.size := fun x hx => hW'.lt x (by simp [hx])
  refine post_of_below (pa := p) (pv := []) hW' ?_ ?_ ?_ rfl hb ?_
  · intro b sp hd
    rw [hres, hrt]
    exact trodAll_cons_mk (shut_bool hbool _) trodAll_mk0
  · intro sp hsp
    rw [hargs]
    exact trodAll_stays hl hb _ _ _ _ hts hA hlt (fun x hx => hsp x (by simp [hx]))
  · intro sp hsp
    rw [hvars, hvs]
    rfl
  · exact ok_one hrt rfl (okWide_bool_mk hbool _)
end

end Go.Proofs.Ytliccofjlheceaa
namespace Go.Proofs.Ytliccofjlheceaa

theorem ofB_cons (c : UInt8) (l : List UInt8) : ofB (c :: l) = c / 16 :: c % 16 :: ofB l := rfl
theorem up (a b : UInt8) (ha : a ≤ 15) (hb : b ≤ 15) : (16 * a + b) / 16 = a ∧ (16 * a + b) % 16 = b := by
  have h1 := UInt8.le_iff_toNat_le.1 ha
  have h2 := UInt8.le_iff_toNat_le.1 hb
  constructor <;> apply UInt8.toNat_inj.1
  · rw [UInt8.toNat_div, UInt8.toNat_add, UInt8.toNat_mul]; simp at *; omega
  · rw [UInt8.toNat_mod, UInt8.toNat_add, UInt8.toNat_mul]; simp at *; omega
theorem ofB_joinB : ∀ (l : List UInt8), halvesB l = true → l.length % 2 = 0 → ofB (joinB l) = l
  | a :: b :: r, h, k => by
    have ha := halvesB_le _ h a (by simp)
    have hb := halvesB_le _ h b (by simp)
    have hr : halvesB r = true := halvesB_dropP (l := a :: b :: r) h 2
    rw [joinB, ofB_cons, (up a b ha hb).1, (up a b ha hb).2, ofB_joinB r hr (by simp at k; omega)]
  | [a], _, k => by simp at k
  | [], _, _ => rfl
theorem at8_b8 (x : Int) (h0 : 0 ≤ x) (h1 : x ≤ 255) (l : List UInt8) : at8 (b8 x :: l) 0 = x := by
  show (((b8 x).toNat : Nat) : Int) = x
  unfold b8; rw [UInt8.toNat_ofNat']; omega
theorem b8_at0 (c : UInt8) (l : List UInt8) : b8 (at8 (c :: l) 0) = c := b8_nat c

/-- What is packed is unpacked as it was. -/
theorem unpack_pack (l : List UInt8) (leaf : Bool) (h : halvesB l = true) : unpackE (packL l leaf) = 0 ∧ unpackB (packL l leaf) = leaf ∧ unpackL (packL l leaf) = l ∧ (packL l leaf).length = l.length / 2 + 1 := by
  by_cases hodd : l.length % 2 = 1
  · have e := packL_odd h hodd leaf _ rfl
    have a0 := at8_lo l 0
    have a1 := halvesB_at l h 0
    obtain ⟨x, hx⟩ : ∃ x : Int, x = (if leaf = true then 32 else 0) + 16 + at8 l 0 := ⟨_, rfl⟩
    have hx' : 0 ≤ x ∧ x ≤ 63 ∧ x / 16 % 2 = 1 ∧ x % 16 = at8 l 0 ∧ (x / 32 % 2 = 1 ↔ leaf = true) := by subst hx; cases leaf <;> simp <;> omega
    rw [← hx] at e
    rw [e, List.singleton_append]
    have hat := at8_b8 x (by omega) (by omega) (joinB (l.drop 1))
    have hok : unpackOk (b8 x :: joinB (l.drop 1)) = true := by unfold unpackOk; rw [hat]; simp [hx'.2.2.1]; omega
    obtain ⟨u1, u2, u3⟩ := unpack_ok (b := b8 x :: joinB (l.drop 1)) (by simp) hok
    rw [hat] at u2 u3
    refine ⟨u1, ?_, ?_, ?_⟩
    · rw [u2, Bool.eq_iff_iff]; simp [hx'.2.2.2.2]
    · rw [u3, if_pos hx'.2.2.1, hx'.2.2.2.1]
      rw [show (b8 x :: joinB (l.drop 1)).drop 1 = joinB (l.drop 1) from rfl, ofB_joinB _ (halvesB_dropP h 1) (by rw [List.length_drop]; omega)]
      rcases l with _ | ⟨c, l⟩
      · simp at hodd
      · rw [b8_at0]; rfl
    · rw [List.length_cons, joinB_length, List.length_drop]; omega
  · have e := packL_even h (by omega) leaf _ rfl
    obtain ⟨x, hx⟩ : ∃ x : Int, x = if leaf = true then 32 else 0 := ⟨_, rfl⟩
    have hx' : 0 ≤ x ∧ x ≤ 63 ∧ x / 16 % 2 = 0 ∧ x % 16 = 0 ∧ (x / 32 % 2 = 1 ↔ leaf = true) := by subst hx; cases leaf <;> simp
    rw [← hx] at e
    rw [e, List.singleton_append]
    have hat := at8_b8 x (by omega) (by omega) (joinB l)
    have hok : unpackOk (b8 x :: joinB l) = true := by unfold unpackOk; rw [hat]; simp [hx'.2.2.2.1]; omega
    obtain ⟨u1, u2, u3⟩ := unpack_ok (b := b8 x :: joinB l) (by simp) hok
    rw [hat] at u2 u3
    refine ⟨u1, ?_, ?_, ?_⟩
    · rw [u2, Bool.eq_iff_iff]; simp [hx'.2.2.2.2]
    · rw [u3, if_neg (by omega)]
      rw [show (b8 x :: joinB l).drop 1 = joinB l from rfl, ofB_joinB _ h (by omega)]; rfl
    · rw [List.length_cons, joinB_length]

end Go.Proofs.Ytliccofjlheceaa
namespace Go.Proofs.Ytliccofjlheceaa
open Go.RowKit

theorem unpackL_len (b : List UInt8) : (unpackL b).length ≤ 2 * b.length := by
  unfold unpackL
  split
  · simp
  · split
    · rw [List.length_append, ofB_length, List.length_drop]
      split <;> simp <;> omega
    · simp
end Go.Proofs.Ytliccofjlheceaa
namespace Go.Proofs.Ytliccofjlheceaa
open Go.RowKit
theorem is_eqfn : isFn Try.prog 91 = true := by kernel_rfl
/-- Pair by pair. -/
def All2 (P : Nd → Nd → Prop) (a b : List Nd) : Prop := a.length = b.length ∧ ∀ (i : Nat) (x y : Nd), a[i]? = some x → b[i]? = some y → P x y
theorem all2_eq {a b : List Nd} : All2 (fun x y => x = y) a b ↔ a = b := by
  constructor
  · rintro ⟨h1, h2⟩
    refine List.ext_getElem? fun i => ?_
    by_cases hi : i < a.length
    · have e1 := List.getElem?_eq_getElem hi
      have e2 := List.getElem?_eq_getElem (l := b) (i := i) (by omega)
      rw [e1, e2, h2 i _ _ e1 e2]
    · rw [List.getElem?_eq_none (by omega), List.getElem?_eq_none (by omega)]
  · rintro rfl
    exact ⟨rfl, fun i x y h1 h2 => by rw [h1] at h2; injection h2⟩
set_option maxRecDepth 100000 in
set_option maxHeartbeats 1000000 in
theorem eqfn_any (F : Nat) (hF : isFn Try.prog F = true) (P : Nd → Nd → Prop) (Q : World → List (Option Nat) → Prop) (ks ls : List Nd) (gs : List (Option Nat)) (w : World) (A B : Option Addr) (n c m d : Nat)
    (hQ : ∀ W L R fs, St w gs W L R fs → Q W (own L R gs))
    (ih : ∀ (i : Nat) (a b : Nd), ks[i]? = some a → ls[i]? = some b → ∀ (gs : List (Option Nat)) (w : World) (ca cb : List Value), Q w gs → RdL w (Fd w gs) (dN a) ca → RdL w (Fd w gs) (dN b) cb → (∀ b, some b ∈ gs → b < w.heap.size) → Calls Try.prog F #[.agg ca.toArray, .agg cb.toArray] w fun e w' => ∃ q : Bool, e = .returned (.bool q) ∧ (q = true ↔ P a b) ∧ Below w.heap.size w w')
    (ha : RdD w (Fd w gs) (dKs ks) (.slice A n c)) (hb : RdD w (Fd w gs) (dKs ls) (.slice B m d)) (hgs : ∀ b, some b ∈ gs → b < w.heap.size) (hz : n ≤ 1000000000 ∧ m ≤ 1000000000) :
    Calls Try.prog 91 #[.slice A n c, .slice B m d, .func (.func F) #[] #[]] w fun e w' => ∃ q : Bool, e = .returned (.bool q) ∧ (q = true ↔ All2 P ks ls) ∧ Below w.heap.size w w' := by
  refine calls_ev (args := [.slice A n c, .slice B m d, .func (.func F) #[] #[]]) mixed Try.func91 rfl (by kernel_rfl) ?_
  have en := ha.slen
  have em := hb.slen
  subst en; subst em
  have M := ((St.start hgs).addD hb).addD ha
  clear ha hb
  refine p_len sln rfl ?_
  refine p_len sln rfl ?_
  refine p_ne rfl rfl (fun hl => ?_) (fun hl => ?_)
  rotate_left
  · exact ⟨false, rfl, ⟨(fun h => by cases h), fun h => absurd (by rw [h.1]) hl⟩, M.below⟩
  have hl' : ks.length = ls.length := by omega
  refine p_len sln rfl ?_
  refine lp Nat (fun i W => i ≤ ks.length ∧ (∀ (j : Nat) (x y : Nd), j < i → ks[j]? = some x → ls[j]? = some y → P x y) ∧ St w gs W [] [] [.dat false [dKs ks] [.slice A ks.length c], .dat false [dKs ls] [.slice B ls.length d]])
    (fun i => [(1, .slice B ls.length d), (2, .func (.func F) #[] #[]), (15, .slice A ks.length c), (16, .int .i64 ks.length), (17, .int .i64 i)]) (fun i => ks.length - i) 0 ⟨Nat.zero_le _, (fun j x y h => absurd h (by omega)), M⟩ (by repeat (first | exact trivial | refine ⟨rfl, ?_⟩)) ?_
  clear M
  rintro i E W ⟨hi, hP, M⟩
  refine p_lt rfl rfl (fun hlt => ?_) (fun hge => ?_)
  · have hlt' : i < ks.length := by omega
    obtain ⟨x, hx⟩ : ∃ x, ks[i]? = some x := ⟨_, List.getElem?_eq_getElem hlt'⟩
    obtain ⟨y, hy⟩ : ∃ y, ls[i]? = some y := ⟨_, List.getElem?_eq_getElem (by omega)⟩
    obtain ⟨b1, o1, xs, rfl, hxl, M'⟩ := M.kid (M.d1 0 rfl) hx
    replace M := M'; clear M'
    obtain ⟨b2, o2, ys, rfl, hyl, M'⟩ := M.kid (M.d1 3 rfl) hy
    replace M := M'; clear M'
    obtain ⟨Ap5, cp5, Av5, cv5, Ak5, ck5, Ah5, ch5, rfl, -⟩ := (M.da 3 rfl).node
    obtain ⟨Ap6, cp6, Av6, cv6, Ak6, ck6, Ah6, ch6, rfl, -⟩ := (M.da 1 rfl).node
    refine p_at sln rfl rfl rfl (by omega) ?_
    refine v_loadN (ncs x Ap5 cp5 Av5 cv5 Ak5 ck5 Ah5 ch5) agg_nd rfl hxl (M.lc 2 rfl) ?_
    refine s_alloc (zN) M al_nd ?_
    clear M
    rintro g8 W M
    first | refine s_storeA 0 (ncs x Ap5 cp5 Av5 cv5 Ak5 ck5 Ah5 ch5) M rfl (by kernel_rfl) rfl rfl rfl (all1 rfl) rfl ?_ | refine s_storeA 1 (ncs x Ap5 cp5 Av5 cv5 Ak5 ck5 Ah5 ch5) M rfl (by kernel_rfl) rfl rfl rfl (all1 rfl) rfl ?_ | refine s_storeA 2 (ncs x Ap5 cp5 Av5 cv5 Ak5 ck5 Ah5 ch5) M rfl (by kernel_rfl) rfl rfl rfl (all1 rfl) rfl ?_ | refine s_storeA 3 (ncs x Ap5 cp5 Av5 cv5 Ak5 ck5 Ah5 ch5) M rfl (by kernel_rfl) rfl rfl rfl (all1 rfl) rfl ?_
    clear M
    rintro W M
    dsimp only [setL] at M
    refine p_at sln rfl rfl rfl (by omega) ?_
    refine v_loadN (ncs y Ap6 cp6 Av6 cv6 Ak6 ck6 Ah6 ch6) agg_nd rfl hyl (M.lc 0 rfl) ?_
    refine s_alloc (zN) M al_nd ?_
    clear M
    rintro g9 W M
    first | refine s_storeA 0 (ncs y Ap6 cp6 Av6 cv6 Ak6 ck6 Ah6 ch6) M rfl (by kernel_rfl) rfl rfl rfl (all1 rfl) rfl ?_ | refine s_storeA 1 (ncs y Ap6 cp6 Av6 cv6 Ak6 ck6 Ah6 ch6) M rfl (by kernel_rfl) rfl rfl rfl (all1 rfl) rfl ?_ | refine s_storeA 2 (ncs y Ap6 cp6 Av6 cv6 Ak6 ck6 Ah6 ch6) M rfl (by kernel_rfl) rfl rfl rfl (all1 rfl) rfl ?_ | refine s_storeA 3 (ncs y Ap6 cp6 Av6 cv6 Ak6 ck6 Ah6 ch6) M rfl (by kernel_rfl) rfl rfl rfl (all1 rfl) rfl ?_
    clear M
    rintro W M
    dsimp only [setL] at M
    refine v_loadN (ncs x Ap5 cp5 Av5 cv5 Ak5 ck5 Ah5 ch5) agg_nd rfl hxl (M.run 1 rfl) ?_
    refine v_loadN (ncs y Ap6 cp6 Av6 cv6 Ak6 ck6 Ah6 ch6) agg_nd rfl hyl (M.run 0 rfl) ?_
    refine cc hF (ih i x y hx hy _ _ _ _ (hQ _ _ _ _ M) (M.da 3 rfl) (M.da 1 rfl) M.olt) ?_
    rintro e W ⟨q, rfl, hq, hb⟩
    replace M := M.call hb
    refine ⟨_, rfl, ?_⟩
    refine p_not rfl ?_
    cases q with
    | false =>
      exact ⟨false, rfl, ⟨(fun h => by cases h), fun h => absurd (hq.2 (h.2 i x y hx hy)) (by decide)⟩, M.below⟩
    | true =>
      refine p_addN (b := 1) rfl rfl (by omega) ?_
      refine ⟨i + 1, ⟨by omega, fun j a b hj ha hb => ?_, (M.dropL.dropL).fsub _ (by simp)⟩, (by repeat (first | exact trivial | refine ⟨rfl, ?_⟩)), by omega⟩
      by_cases e : j = i
      · subst e
        rw [hx] at ha; rw [hy] at hb
        injection ha with ha; injection hb with hb
        subst ha; subst hb
        exact hq.1 rfl
      · exact hP j a b (by omega) ha hb
  · exact ⟨true, rfl, ⟨fun _ => ⟨hl', fun j x y hx hy => hP j x y (by have := (List.getElem?_eq_some_iff.1 hx).1; omega) hx hy⟩, fun _ => rfl⟩, M.below⟩
theorem is_nsame : isFn Try.prog 64 = true := by kernel_rfl
def NSameOk (a : Nd) : Prop := ∀ (b : Nd) (gs : List (Option Nat)) (w : World) (ca cb : List Value), RdL w (Fd w gs) (dN a) ca → RdL w (Fd w gs) (dN b) cb → (∀ b, some b ∈ gs → b < w.heap.size) → sz b ≤ 1000000000 →
  Calls Try.prog 64 #[.agg ca.toArray, .agg cb.toArray] w fun e w' => ∃ q : Bool, e = .returned (.bool q) ∧ (q = true ↔ a = b) ∧ Below w.heap.size w w'
set_option maxRecDepth 100000 in
set_option maxHeartbeats 1000000 in
theorem nsame_step (N : Nat) (ih : ∀ k : Nd, sz k < N → NSameOk k) (a : Nd) (ht : sz a ≤ N) (hN : N ≤ 1000000000) : NSameOk a := by
  intro b gs w ca cb hra hrb hgs hzb
  refine calls_ev (args := [.agg ca.toArray, .agg cb.toArray]) mixed Try.func64 rfl (by kernel_rfl) ?_
  obtain ⟨Ap, cp, Av, cv, Ak, ck, Ah, ch, rfl, r1, r3, r4, r5⟩ := hra.node
  obtain ⟨Bp, dp, Bv, dv, Bk, dk, Bh, dh, rfl, s1, s3, s4, s5⟩ := hrb.node
  have hsz := sz_eq a
  have hsl := szs_len a.kids
  have hsz' := sz_eq b
  have hsl' := szs_len b.kids
  have M := ((((((((St.start hgs).addD r5).addD r3).addD r1).addD s5).addD s3).addD s1).addD s4).addD r4
  clear r1 r3 r4 r5 hra s1 s3 s4 s5 hrb
  refine s_box (ncs a Ap cp Av cv Ak ck Ah ch) M rfl ?_
  clear M
  rintro g2 W M
  refine s_box (ncs b Bp dp Bv dv Bk dk Bh dh) M rfl ?_
  clear M
  rintro g3 W M
  have hB := M.B 0 rfl
  have hC := M.B 1 rfl
  unfold ncs at hB hC
  repeat' first
    | (refine p_fld fN0 rfl ?_)
    | (refine v_load agg_int rfl (hB.at_ rfl) ?_)
    | (refine v_load agg_int rfl (hC.at_ rfl) ?_)
  refine p_eq rfl rfl (fun hk => ?_) (fun hk => ?_)
  rotate_left
  ·
    exact ⟨false, rfl, ⟨(fun h => by cases h), fun h => absurd (by rw [h]) hk⟩, M.below⟩
  repeat' first
    | (refine p_fld fN2 rfl ?_)
    | (refine v_load agg_bo rfl (hB.at_ rfl) ?_)
    | (refine v_load agg_bo rfl (hC.at_ rfl) ?_)
  refine p_beqC u_bool rfl rfl (fun hh => ?_) (fun hh => ?_)
  rotate_left
  ·
    exact ⟨false, rfl, ⟨(fun h => by cases h), fun h => absurd (by rw [h]) hh⟩, M.below⟩
  repeat' first
    | (refine p_fld fN1 rfl ?_)
    | (refine v_load agg_b rfl (hB.at_ rfl) ?_)
    | (refine v_load agg_b rfl (hC.at_ rfl) ?_)
  refine cc is_beq (beq_any _ _ _ _ cp dp _ _ a.path b.path _ (M.rdb 5 rfl).2.2 (M.rdb 2 rfl).2.2) ?_
  rintro e W' ⟨rfl, rfl⟩
  refine ⟨_, rfl, ?_⟩
  by_cases hp : a.path = b.path
  rotate_left
  · rw [decide_eq_false hp]
    exact ⟨false, rfl, ⟨(fun h => by cases h), fun h => absurd (by rw [h]) hp⟩, M.below⟩
  rw [decide_eq_true hp]
  repeat' first
    | (refine p_fld fN3 rfl ?_)
    | (refine v_load agg_b rfl (hB.at_ rfl) ?_)
    | (refine v_load agg_b rfl (hC.at_ rfl) ?_)
  refine cc is_beq (beq_any _ _ _ _ cv dv _ _ a.val b.val _ (M.rdb 6 rfl).2.2 (M.rdb 3 rfl).2.2) ?_
  rintro e W' ⟨rfl, rfl⟩
  refine ⟨_, rfl, ?_⟩
  by_cases hv : a.val = b.val
  rotate_left
  · rw [decide_eq_false hv]
    exact ⟨false, rfl, ⟨(fun h => by cases h), fun h => absurd (by rw [h]) hv⟩, M.below⟩
  rw [decide_eq_true hv]
  repeat' first
    | (refine p_fld fN5 rfl ?_)
    | (refine v_load agg_b rfl (hB.at_ rfl) ?_)
    | (refine v_load agg_b rfl (hC.at_ rfl) ?_)
  refine cc is_beq (beq_any _ _ _ _ ch dh _ _ a.hash b.hash _ (M.rdb 7 rfl).2.2 (M.rdb 4 rfl).2.2) ?_
  rintro e W' ⟨rfl, rfl⟩
  refine ⟨_, rfl, ?_⟩
  by_cases hhs : a.hash = b.hash
  rotate_left
  · rw [decide_eq_false hhs]
    exact ⟨false, rfl, ⟨(fun h => by cases h), fun h => absurd (by rw [h]) hhs⟩, M.below⟩
  rw [decide_eq_true hhs]
  repeat' first
    | (refine p_fld fN4 rfl ?_)
    | (refine v_load agg_ns rfl (hB.at_ rfl) ?_)
    | (refine v_load agg_ns rfl (hC.at_ rfl) ?_)
  refine cc is_eqfn (eqfn_any _ is_nsame (fun x y => x = y) (fun _ _ => True) a.kids b.kids _ _ Ak Bk _ ck _ dk (fun _ _ _ _ _ => trivial) (fun i x y hx hy gs w ca cb _ h1 h2 h3 => ?_) (M.d1 0 rfl) (M.d1 1 rfl) M.olt ⟨by omega, by omega⟩) ?_
  · have hxz := szs_mem (List.mem_of_getElem? hx)
    have hyz := szs_mem (List.mem_of_getElem? hy)
    exact ih x (by omega) y gs w ca cb h1 h2 h3 (by omega)
  · rintro e W ⟨q, rfl, hq, hb⟩
    replace M := M.call hb
    refine ⟨_, rfl, ?_⟩
    refine ⟨q, rfl, ⟨fun e => ?_, fun e => hq.2 (all2_eq.2 (by rw [e]))⟩, M.below⟩
    have hks := all2_eq.1 (hq.1 e)
    cases a; cases b
    simp only [Nd.kind, Nd.has, Nd.path, Nd.val, Nd.hash, Nd.kids] at hk hh hp hv hhs hks
    rw [hk, hh, hp, hv, hhs, hks]
theorem nsame_any : ∀ (N : Nat), N ≤ 1000000000 → ∀ t : Nd, sz t < N → NSameOk t
  | 0, _, t, h => by omega
  | N + 1, hN, t, h => nsame_step N (fun k hk => nsame_any N (by omega) k hk) t (by omega) (by omega)
end Go.Proofs.Ytliccofjlheceaa
