/- Reference 07: the walks of Encode, Hash, Fold. The walk of digest's words. The walk of digest's take. append onto a slice that is full: a new row. No program in sight. The walks of digest.New, Write, Len, Sum. The walks of digest.New, Len, Sum of a Digest, Sum. The walk of digest.Sum. Package node: the walks of encode, hash, Encode, Hash, Fold. Reference 08: items as data; the walk of Items. -/
import Derived.Test.YtliccofjlheceaaG09
import Derived.Test.YtliccofjlheceaaG10
import Derived.Test.YtliccofjlheceaaG11
import Derived.Test.YtliccofjlheceaaG12
import Derived.Test.YtliccofjlheceaaG03
import Derived.Test.YtliccofjlheceaaG04
import Derived.Test.YtliccofjlheceaaG05
import Derived.Test.YtliccofjlheceaaG06
import Derived.Test.YtliccofjlheceaaG07
namespace Go.Proofs.Ytliccofjlheceaa
open Go.RowKit
theorem is_r7enc : isFn Try.prog 54 = true := by kernel_rfl
theorem is_r7hash : isFn Try.prog 27 = true := by kernel_rfl
theorem is_r7fold : isFn Try.prog 32 = true := by kernel_rfl
theorem is_rpack : isFn Try.prog 81 = true := by kernel_rfl
theorem is_rpb : isFn Try.prog 41 = true := by kernel_rfl
theorem sz_u8 : (Try.prog.info? 5).map (·.size) = some 1 := by kernel_rfl
theorem sha_len (b : List UInt8) : (sha b).length = 32 := by rw [sha_def]; unfold out8 put4; rfl
/-- A row that is written at one place. -/
theorem St.wroteR {w W W' : World} {gs : List (Option Nat)} {L : Lc} {R : List Row} {fs : List Fact} {e : TypeId} {s n c : Nat} {A : Option Addr} {xs xs' : List Value} (M : St w gs W L (⟨e, s, A, n, c, xs⟩ :: R) fs) (hg : W.grownBy W' (bk A)) (hrow' : W'.ownsRow w.heap.size e s (.slice A n c) n xs') : St w gs W' L (⟨e, s, A, n, c, xs'⟩ :: R) fs := by
  have hrow := M.row _ (List.mem_cons_self ..)
  have hlo := row_bklo hrow
  have hp := List.Perm.pairwise (l' := bk A :: (L.map (fun x => some x.1) ++ R.map (fun r => bk r.A))) (by rw [List.map_cons]; exact List.perm_middle) M.ap (fun h => apart_comm h)
  rw [List.pairwise_cons] at hp
  have kept : ∀ o : Option Nat, o ∈ L.map (fun x => some x.1) ++ R.map (fun r => bk r.A) → o = none ∨ o ≠ bk A := fun o ho => apart_comm (hp.1 o ho)
  refine ⟨M.below.grown hg M.size (fun b e => (hlo b e).1), M.lt, fun y hy => ⟨(M.blk y hy).1.grown hg ?_, (M.blk y hy).2⟩, fun r hr => ?_, M.ap, fun f hf => (M.fct f hf).up (Stp.wrote hg ?_)⟩
  · rcases kept (some y.1) (List.mem_append_left _ (List.mem_map.2 ⟨y, hy, rfl⟩)) with h | h
    · cases h
    · exact fun e => h e.symm
  · rcases List.mem_cons.1 hr with rfl | hr
    · exact hrow'
    · exact row_kept' (M.row r (by simp [hr])) hg (kept _ (List.mem_append_right _ (List.mem_map.2 ⟨r, hr, rfl⟩)))
  · unfold own
    exact List.mem_append_right _ (List.mem_append_left _ (List.mem_map.2 ⟨_, List.mem_cons_self .., rfl⟩))
theorem s_setRow {E : Env} {d : Option Nat} {ty : TypeId} {p : String} {af : Array Edge} {gd : Option (Nat × Bool)} {x y : Operand} {kw : Value → World → Prop} {w W : World} {gs : List (Option Nat)} {L : Lc} {R : List Row} {fs : List Fact} {g n c : Nat} {l : List UInt8} (j : Nat) (v : Int) (M : St w gs W L (⟨5, 1, some ⟨g, 0, none⟩, n, c, bvs l⟩ :: R) fs) (hx : val E x = .pointer (some ⟨g, j, none⟩)) (hy : val E y = .int .u8 v) (hj : j < n) (hv : 0 ≤ v ∧ v ≤ 255)
    (h : ∀ W', St w gs W' L (⟨5, 1, some ⟨g, 0, none⟩, n, c, bvs (l.set j (b8 v))⟩ :: R) fs → kw undef W') : VSkip Try.prog E { dst := d, op := .store 5 x y, type := ty, pos := p, after := af, guard := gd } W kw := by
  have hrow : Own W w.heap.size (some ⟨g, 0, none⟩) n c l := M.row _ (List.mem_cons_self ..)
  refine v_store sz_u8 hx hy rfl (hrow.cell hj) (hrow.free j) (h _ (M.wroteR ⟨rfl, rfl, rfl, by simp, fun k _ hk => Below.heap_setCell _ _ _ _ (fun e => hk (by rw [e]; rfl))⟩ (hrow.set hv.1 hv.2)))
theorem row_addr {w W : World} {gs : List (Option Nat)} {L : Lc} {R : List Row} {fs : List Fact} {e : TypeId} {s n c : Nat} {A : Option Addr} {xs : List Value} (M : St w gs W L (⟨e, s, A, n, c, xs⟩ :: R) fs) (hn : 0 < n) : ∃ g, A = some ⟨g, 0, none⟩ := by
  rcases (M.row _ (List.mem_cons_self ..)).2 with ⟨hv, h0⟩ | ⟨g, cap, cur, hv, _⟩
  · simp only at h0; omega
  · injection hv with e1 e2 e3
    exact ⟨g, e1⟩
/-- Two bytes that tell which kids there are. -/
def kbit (ks : List Nd) (i : Nat) : Nat := if (ks.getD i noneN).kind ≠ 0 then 128 / 2 ^ (i % 8) else 0
def kbits (ks : List Nd) : Nat → Nat × Nat
  | 0 => (0, 0)
  | i + 1 => if i < 8 then ((kbits ks i).1 + kbit ks i, (kbits ks i).2) else ((kbits ks i).1, (kbits ks i).2 + kbit ks i)
def encF (k : Int) (p : List UInt8) (has : Bool) (v : List UInt8) (ks : List Nd) (hs : List UInt8) : List UInt8 :=
  b8 (k % 256) :: (if k = 1 then putB (packL p true) ++ putB v
    else if k = 2 then putB (packL p false) ++ hs
    else if k = 3 then (if has then (1 : UInt8) :: putB v else [0]) ++ (UInt8.ofNat (kbits ks 16).1 :: UInt8.ofNat (kbits ks 16).2 :: hs)
    else [])
mutual
def hashP : Nd → List UInt8
  | .mk k p has v ks h => if k = 4 then h else sha (encF k p has v ks (hashesP ks))
def hashesP : List Nd → List UInt8
  | [] => []
  | t :: ts => (if t.kind ≠ 0 then hashP t else []) ++ hashesP ts
end
def encP (t : Nd) : List UInt8 := encF t.kind t.path t.has t.val t.kids (hashesP t.kids)
theorem hashP_eq (t : Nd) : hashP t = if t.kind = 4 then t.hash else sha (encP t) := by cases t; rw [hashP]; rfl
theorem hashP_len {even : Bool} {t : Nd} {d : Nat} (h : Val even t d) : (hashP t).length = 32 := by
  rw [hashP_eq]
  by_cases h4 : t.kind = 4
  · rw [if_pos h4]
    cases h with
    | stub d h hd hh => exact hh
    | none => exact absurd (show (0 : Int) = 4 from h4) (by decide)
    | leaf => exact absurd (show (1 : Int) = 4 from h4) (by decide)
    | way => exact absurd (show (2 : Int) = 4 from h4) (by decide)
    | branch => exact absurd (show (3 : Int) = 4 from h4) (by decide)
  · rw [if_neg h4]; exact sha_len _
theorem Val.way_kid {even : Bool} {t : Nd} {d : Nat} (h : Val even t d) (h2 : t.kind = 2) : ∃ k, t.kids = [k] ∧ Val even k (d + t.path.length) ∧ k.kind ≠ 0 := by
  cases h with
  | way _ p k hd hp h0 hk hr => exact ⟨k, rfl, hr, fun e => by rcases hk with h | h <;> exact absurd (h.symm.trans e) (by decide)⟩
  | none => exact absurd (show (0 : Int) = 2 from h2) (by decide)
  | leaf => exact absurd (show (1 : Int) = 2 from h2) (by decide)
  | stub => exact absurd (show (4 : Int) = 2 from h2) (by decide)
  | branch => exact absurd (show (3 : Int) = 2 from h2) (by decide)
theorem Val.br_kids {even : Bool} {t : Nd} {d : Nat} (h : Val even t d) (h3 : t.kind = 3) : t.kids.length = 16 ∧ ∀ k ∈ t.kids, Val even k (d + 1) := by
  cases h with
  | branch d has v ks hd hv hv0 he h16 hr hm => exact ⟨h16, hr⟩
  | none => exact absurd (show (0 : Int) = 3 from h3) (by decide)
  | leaf => exact absurd (show (1 : Int) = 3 from h3) (by decide)
  | stub => exact absurd (show (4 : Int) = 3 from h3) (by decide)
  | way => exact absurd (show (2 : Int) = 3 from h3) (by decide)
theorem kbits_succ (ks : List Nd) (i : Nat) : kbits ks (i + 1) = if i < 8 then ((kbits ks i).1 + kbit ks i, (kbits ks i).2) else ((kbits ks i).1, (kbits ks i).2 + kbit ks i) := by rw [kbits]
theorem kb_pow : ∀ i, i < 8 → 128 / 2 ^ (i % 8) + 2 ^ (8 - (i + 1)) = 2 ^ (8 - i) := by decide
theorem kb_pow2 : ∀ i, i < 8 → 128 / 2 ^ ((i + 8) % 8) + 2 ^ (16 - (i + 8 + 1)) = 2 ^ (16 - (i + 8)) := by decide
theorem kbits_lo (ks : List Nd) : ∀ i, i ≤ 8 → (kbits ks i).1 + 2 ^ (8 - i) ≤ 256 ∧ (kbits ks i).2 = 0
  | 0, _ => ⟨Nat.le_refl 256, rfl⟩
  | i + 1, h => by
    obtain ⟨h1, h2⟩ := kbits_lo ks i (by omega)
    have h3 := kb_pow i (by omega)
    have h4 : kbit ks i ≤ 128 / 2 ^ (i % 8) := by unfold kbit; split; exact Nat.le_refl _; exact Nat.zero_le _
    unfold kbits
    rw [if_pos (by omega)]
    exact ⟨by dsimp only; omega, h2⟩
theorem kbits_hi (ks : List Nd) : ∀ i, i ≤ 8 → (kbits ks (i + 8)).1 ≤ 255 ∧ (kbits ks (i + 8)).2 + 2 ^ (16 - (i + 8)) ≤ 256
  | 0, _ => by
    obtain ⟨h1, h2⟩ := kbits_lo ks 8 (by omega)
    refine ⟨by simp at h1 ⊢; omega, ?_⟩
    rw [show (0 + 8 : Nat) = 8 from rfl, h2]; decide
  | i + 1, h => by
    obtain ⟨h1, h2⟩ := kbits_hi ks i (by omega)
    have h3 := kb_pow2 i (by omega)
    have h4 : kbit ks (i + 8) ≤ 128 / 2 ^ ((i + 8) % 8) := by unfold kbit; split; exact Nat.le_refl _; exact Nat.zero_le _
    rw [show i + 1 + 8 = (i + 8) + 1 by omega]
    unfold kbits
    rw [if_neg (by omega)]
    refine ⟨h1, ?_⟩
    dsimp only; omega
theorem kbits_le (ks : List Nd) (i : Nat) (h : i ≤ 16) : (kbits ks i).1 ≤ 255 ∧ (kbits ks i).2 ≤ 255 := by
  rcases Nat.lt_or_ge i 9 with h8 | h8
  · obtain ⟨h1, h2⟩ := kbits_lo ks i (by omega)
    have : 1 ≤ 2 ^ (8 - i) := Nat.one_le_two_pow
    omega
  · obtain ⟨h1, h2⟩ := kbits_hi ks (i - 8) (by omega)
    rw [show i - 8 + 8 = i by omega] at h1 h2
    have : 1 ≤ 2 ^ (16 - i) := Nat.one_le_two_pow
    omega
theorem hashesP_snoc (a : List Nd) (k : Nd) : hashesP (a ++ [k]) = hashesP a ++ (if k.kind ≠ 0 then hashP k else []) := by
  induction a with
  | nil => rw [List.nil_append, hashesP, hashesP, hashesP, List.append_nil]; rfl
  | cons x a ih => rw [List.cons_append, hashesP, hashesP, ih, List.append_assoc]
theorem hashesP_len {d : Nat} : ∀ {ks : List Nd}, (∀ k ∈ ks, Val false k d) → (hashesP ks).length ≤ 32 * ks.length
  | [], _ => by rw [hashesP]; simp
  | k :: ks, h => by
    have h1 := hashesP_len (fun k hk => h k (List.mem_cons_of_mem _ hk))
    have h2 := hashP_len (h k (by simp))
    rw [hashesP, List.length_append, List.length_cons]
    split
    · omega
    · simp; omega
theorem Val.mono {even : Bool} {t : Nd} {d : Nat} (h : Val even t d) : ∀ d', d' ≤ d → Val false t d' := by
  have he : ∀ {e d d' : Nat} {even : Bool}, endsP e even = true → d' + (e - d) ≤ 400 → endsP (d' + (e - d)) false = true := fun _ h => ends_yes h (.inl rfl)
  induction h with
  | none d hd => intro d' hd'; exact .none d' (by omega)
  | leaf d p v hd hp hv he' => intro d' hd'; have := endsP_le he'; exact .leaf d' p v (by omega) hp hv (ends_yes (by omega) (.inl rfl))
  | stub d h hd hh => intro d' hd'; exact .stub d' h (by omega) hh
  | way d p k hd hp h0 hk hr ih => intro d' hd'; exact .way d' p k (by omega) hp h0 hk (ih _ (by omega))
  | branch d has v ks hd hv hv0 he' h16 hr hm ih => intro d' hd'; exact .branch d' has v ks (by omega) hv hv0 (fun e => ends_yes (by omega) (.inl rfl)) h16 (fun k hk => ih k hk _ (by omega)) hm
theorem quo8 {x c : Nat} (hx : x < 256) : IntKind.u8.wrap ((x : Int).tdiv (c : Int)) = ((x / c : Nat) : Int) := by
  have h1 : x / c ≤ x := Nat.div_le_self _ _
  have e : (x : Int).tdiv (c : Int) = ((x / c : Nat) : Int) := by rw [Int.tdiv_eq_ediv_of_nonneg (by omega)]; exact (Int.natCast_ediv x c).symm
  rw [e]
  obtain ⟨q, hq⟩ : ∃ q, q = x / c := ⟨_, rfl⟩
  rw [← hq] at h1 ⊢
  rw [IntKind.wrap_u8']; omega
theorem b8_cast (x : Nat) : b8 (x : Int) = UInt8.ofNat x := by unfold b8; rw [Int.toNat_natCast]
/-- One of the two bytes grows. -/
theorem two_lo (P h : List UInt8) (a b x : Nat) (ha : a ≤ 255) : at8 (P ++ (UInt8.ofNat a :: UInt8.ofNat b :: h)) P.length = (a : Int) ∧ (P ++ (UInt8.ofNat a :: UInt8.ofNat b :: h)).set P.length (b8 ((a + x : Nat) : Int)) = P ++ (UInt8.ofNat (a + x) :: UInt8.ofNat b :: h) := by
  constructor
  · unfold at8
    rw [List.getD_eq_getElem?_getD, List.getElem?_append_right (Nat.le_refl _), Nat.sub_self]
    show (((UInt8.ofNat a).toNat : Nat) : Int) = _
    rw [UInt8.toNat_ofNat', Nat.mod_eq_of_lt (by omega)]
  · rw [List.set_append_right _ _ (Nat.le_refl _), Nat.sub_self, b8_cast]; rfl
theorem two_hi (P h : List UInt8) (a b x : Nat) (hb : b ≤ 255) : at8 (P ++ (UInt8.ofNat a :: UInt8.ofNat b :: h)) (P.length + 1) = (b : Int) ∧ (P ++ (UInt8.ofNat a :: UInt8.ofNat b :: h)).set (P.length + 1) (b8 ((b + x : Nat) : Int)) = P ++ (UInt8.ofNat a :: UInt8.ofNat (b + x) :: h) := by
  have e : P.length + 1 - P.length = 1 := by omega
  constructor
  · unfold at8
    rw [List.getD_eq_getElem?_getD, List.getElem?_append_right (by omega), e]
    show (((UInt8.ofNat b).toNat : Nat) : Int) = _
    rw [UInt8.toNat_ofNat', Nat.mod_eq_of_lt (by omega)]
  · rw [List.set_append_right _ _ (by omega), e, b8_cast]; rfl
def hashR (t : Nd) : List UInt8 := if rightP false t 0 then hashP t else []
def encR (t : Nd) : List UInt8 × Int := if t.kind ≠ 4 ∧ rightP false t 0 = true then (encP t, 0) else ([], 2)
theorem hashR_kid {even : Bool} {t : Nd} {d : Nat} (h : Val even t d) : hashR t = hashP t := by
  unfold hashR
  rw [right_of_val (h.mono 0 (Nat.zero_le _)), if_pos rfl]
def RHashOk (t : Nd) : Prop := ∀ (gs : List (Option Nat)) (w : World) (cs : List Value), RdL w (Fd w gs) (dN t) cs → (∀ b, some b ∈ gs → b < w.heap.size) →
  Calls Try.prog 27 #[.agg cs.toArray] w fun e w' => ∃ A n c, e = .returned (.slice A n c) ∧ Own w' w.heap.size A n c (hashR t) ∧ Below w.heap.size w w'
def REncOk (t : Nd) : Prop := ∀ (gs : List (Option Nat)) (w : World) (cs : List Value), RdL w (Fd w gs) (dN t) cs → (∀ b, some b ∈ gs → b < w.heap.size) →
  Calls Try.prog 54 #[.agg cs.toArray] w fun e w' => ∃ A n c, e = .returned (.tuple #[.slice A n c, .int .i64 (encR t).2]) ∧ Own w' w.heap.size A n c (encR t).1 ∧ Below w.heap.size w w'
theorem putB_lenE (s : List UInt8) : (putB s).length = (putN s.length).length + s.length := by unfold putB; rw [List.length_append]
theorem packL_len (p : List UInt8) (leaf : Bool) : (packL p leaf).length ≤ p.length + 1 := by
  unfold packL
  split
  · split
    · rw [List.length_cons, joinB_length, List.length_drop]; omega
    · rw [List.length_cons, joinB_length]; omega
  · simp
set_option maxRecDepth 100000 in
set_option maxHeartbeats 2000000 in
theorem renc_step (N : Nat) (ih : ∀ k : Nd, sz k < N → RHashOk k) (t : Nd) (ht : sz t ≤ N) (hN : N ≤ 100000000) : REncOk t := by
  intro gs w cs hr hgs
  refine calls_ev (args := [.agg cs.toArray]) mixed Try.func54 rfl (by kernel_rfl) ?_
  obtain ⟨Ap, cp, Av, cv, Ak, ck, Ah, ch, rfl, r1, r3, r4, r5⟩ := hr.node
  have hsz := sz_eq t
  have hsl := szs_len t.kids
  have M := ((((St.start hgs).addD r4).addD r3).addD r1).addL hr
  clear r1 r3 r4 r5 hr
  refine s_box (ncs t Ap cp Av cv Ak ck Ah ch) M rfl ?_
  clear M
  rintro g1 W M
  refine p_fld fN0 rfl ?_
  refine v_load agg_int rfl (by first | exact (M.B 0 rfl).at_ rfl | exact (M.B 1 rfl).at_ rfl | exact (M.B 2 rfl).at_ rfl | exact (M.B 3 rfl).at_ rfl | exact (M.B 4 rfl).at_ rfl | exact M.lc 0 rfl _ _ rfl | exact M.lc 1 rfl _ _ rfl | exact M.lc 2 rfl _ _ rfl | exact M.lc 3 rfl _ _ rfl | exact M.lc 4 rfl _ _ rfl | exact M.lc 5 rfl _ _ rfl | exact M.lc 6 rfl _ _ rfl | exact M.lc 7 rfl _ _ rfl) ?_
  refine p_eq rfl rfl (fun h4 => ?_) (fun h4 => ?_)
  · rw [show encR t = ([], 2) by unfold encR; rw [if_neg (by simp [h4])]]
    exact ⟨none, 0, 0, rfl, World.ownsRow_nil _ _ _ _, M.below⟩
  refine v_loadN (ncs t Ap cp Av cv Ak ck Ah ch) agg_nd rfl rfl (by first | exact M.run 0 rfl | exact M.run 1 rfl | exact M.run 2 rfl | exact M.run 3 rfl | exact M.run 4 rfl | exact M.lc 0 rfl | exact M.lc 1 rfl | exact M.lc 2 rfl | exact M.lc 3 rfl | exact M.lc 4 rfl | exact M.lc 5 rfl | exact M.lc 6 rfl | exact M.lc 7 rfl) ?_
  refine cc is_r7right (rright_any 1000000000 (by decide) t (by omega) _ _ _ 0 false (by first | with_reducible exact M.da_0 | with_reducible exact M.da_1 | with_reducible exact M.da_2 | with_reducible exact M.da_3 | with_reducible exact M.da_4 | with_reducible exact M.da_5 | with_reducible exact M.da_6 | with_reducible exact M.da_7 | with_reducible exact M.da_8 | with_reducible exact M.da_9 | with_reducible exact M.da_10 | with_reducible exact M.da_11) M.olt (by omega)) ?_
  rintro e W ⟨rfl, hb⟩
  refine ⟨_, rfl, ?_⟩
  replace M := M.call hb
  refine p_not rfl ?_
  cases hrt : rightP false t 0 with
  | false =>
    rw [show encR t = ([], 2) by unfold encR; rw [if_neg (by simp [hrt])]]
    exact ⟨none, 0, 0, rfl, World.ownsRow_nil _ _ _ _, M.below⟩
  | true =>
  rw [show encR t = (encP t, 0) by unfold encR; rw [if_pos ⟨h4, hrt⟩]]
  have hval := val_of_right false _ t 0 (Nat.lt_succ_self _) hrt
  refine p_fld fN0 rfl ?_
  refine v_load agg_int rfl (by first | exact (M.B 0 rfl).at_ rfl | exact (M.B 1 rfl).at_ rfl | exact (M.B 2 rfl).at_ rfl | exact (M.B 3 rfl).at_ rfl | exact (M.B 4 rfl).at_ rfl | exact M.lc 0 rfl _ _ rfl | exact M.lc 1 rfl _ _ rfl | exact M.lc 2 rfl _ _ rfl | exact M.lc 3 rfl _ _ rfl | exact M.lc 4 rfl _ _ rfl | exact M.lc 5 rfl _ _ rfl | exact M.lc 6 rfl _ _ rfl | exact M.lc 7 rfl _ _ rfl) ?_
  refine v_cvt u_int u_u8 rfl (r := t.kind % 256) (by rw [IntKind.wrap_u8']) ?_
  refine s_litB [.int .u8 (t.kind % 256)] [b8 (t.kind % 256)] M (by decide) rfl (one_blk (by omega)) rfl ?_
  clear M; rintro g4 W M
  refine p_fld fN1 rfl ?_
  refine v_load agg_b rfl (by first | exact (M.B 0 rfl).at_ rfl | exact (M.B 1 rfl).at_ rfl | exact (M.B 2 rfl).at_ rfl | exact (M.B 3 rfl).at_ rfl | exact (M.B 4 rfl).at_ rfl | exact M.lc 0 rfl _ _ rfl | exact M.lc 1 rfl _ _ rfl | exact M.lc 2 rfl _ _ rfl | exact M.lc 3 rfl _ _ rfl | exact M.lc 4 rfl _ _ rfl | exact M.lc 5 rfl _ _ rfl | exact M.lc 6 rfl _ _ rfl | exact M.lc 7 rfl _ _ rfl) ?_
  refine p_fld fN0 rfl ?_
  refine v_load agg_int rfl (by first | exact (M.B 0 rfl).at_ rfl | exact (M.B 1 rfl).at_ rfl | exact (M.B 2 rfl).at_ rfl | exact (M.B 3 rfl).at_ rfl | exact (M.B 4 rfl).at_ rfl | exact M.lc 0 rfl _ _ rfl | exact M.lc 1 rfl _ _ rfl | exact M.lc 2 rfl _ _ rfl | exact M.lc 3 rfl _ _ rfl | exact M.lc 4 rfl _ _ rfl | exact M.lc 5 rfl _ _ rfl | exact M.lc 6 rfl _ _ rfl | exact M.lc 7 rfl _ _ rfl) ?_
  refine p_eqD rfl rfl ?_
  refine cc is_rpack (refPack_any Ap _ cp (decide (t.kind = 1)) t.path _ (M.rdb 1 rfl).2.2 (by omega)) ?_
  rintro e W ⟨A5, n5, c5, rfl, o5, hb⟩
  replace M := M.callO hb o5
  refine ⟨_, rfl, ?_⟩
  have e5 := o5.len
  have hpk := packL_len t.path (decide (t.kind = 1))
  have hpn := putN_len10 (n := n5) (by omega)
  have hvn := putN_len10 (n := t.val.length) (by omega)
  refine p_fld fN0 rfl ?_
  refine v_load agg_int rfl (by first | exact (M.B 0 rfl).at_ rfl | exact (M.B 1 rfl).at_ rfl | exact (M.B 2 rfl).at_ rfl | exact (M.B 3 rfl).at_ rfl | exact (M.B 4 rfl).at_ rfl | exact M.lc 0 rfl _ _ rfl | exact M.lc 1 rfl _ _ rfl | exact M.lc 2 rfl _ _ rfl | exact M.lc 3 rfl _ _ rfl | exact M.lc 4 rfl _ _ rfl | exact M.lc 5 rfl _ _ rfl | exact M.lc 6 rfl _ _ rfl | exact M.lc 7 rfl _ _ rfl) ?_
  obtain ⟨gr, cr, hcr⟩ : ∃ gr cr, gr = g4 ∧ cr = 1 := ⟨_, _, rfl, rfl⟩
  unfold encP encF
  refine p_eq rfl rfl (fun hk1 => ?_) (fun hk1 => ?_)
  · rw [if_pos hk1]
    rw [decide_eq_true hk1] at M
    refine cc is_rpb (refPutBytes_any _ _ _ (packL t.path true) _ (M.rdb 0 rfl).2.2 (by omega)) ?_
    rintro e W ⟨A7, c7, rfl, o7, hb⟩
    replace M := M.callO hb o7
    refine ⟨_, rfl, ?_⟩
    refine s_appB M rfl rfl (M.rdb 0 rfl).2.2 (by omega) ?_
    clear M; rintro A8 c8 W M -
    clear o7 hb
    refine p_fld fN3 rfl ?_
    refine v_load agg_b rfl (by first | exact (M.B 0 rfl).at_ rfl | exact (M.B 1 rfl).at_ rfl | exact (M.B 2 rfl).at_ rfl | exact (M.B 3 rfl).at_ rfl | exact (M.B 4 rfl).at_ rfl | exact M.lc 0 rfl _ _ rfl | exact M.lc 1 rfl _ _ rfl | exact M.lc 2 rfl _ _ rfl | exact M.lc 3 rfl _ _ rfl | exact M.lc 4 rfl _ _ rfl | exact M.lc 5 rfl _ _ rfl | exact M.lc 6 rfl _ _ rfl | exact M.lc 7 rfl _ _ rfl) ?_
    refine cc is_rpb (refPutBytes_any _ _ _ t.val _ (M.rdb 4 rfl).2.2 (by omega)) ?_
    rintro e W ⟨A7, c7, rfl, o7, hb⟩
    replace M := M.callO hb o7
    refine ⟨_, rfl, ?_⟩
    refine s_appB M rfl rfl (M.rdb 0 rfl).2.2 (by omega) ?_
    clear M; rintro A8 c8 W M -
    clear o7 hb
    rw [List.singleton_append, List.cons_append] at M
    exact ⟨A8, _, c8, rfl, M.row _ (List.mem_cons_self ..), M.below⟩
  rw [if_neg hk1]
  rw [decide_eq_false hk1] at M
  refine p_eq rfl rfl (fun hk2 => ?_) (fun hk2 => ?_)
  · rw [if_pos hk2]
    refine cc is_rpb (refPutBytes_any _ _ _ (packL t.path false) _ (M.rdb 0 rfl).2.2 (by omega)) ?_
    rintro e W ⟨A7, c7, rfl, o7, hb⟩
    replace M := M.callO hb o7
    refine ⟨_, rfl, ?_⟩
    refine s_appB M rfl rfl (M.rdb 0 rfl).2.2 (by omega) ?_
    clear M; rintro A8 c8 W M -
    clear o7 hb
    obtain ⟨k, hks, hvk, hk0⟩ := hval.way_kid hk2
    have hkl : t.kids.length = 1 := by rw [hks]; rfl
    have hkz : szs t.kids = sz k := by rw [hks, szs, szs]; omega
    have hki : t.kids[0]? = some k := by rw [hks]; rfl
    refine p_fld fN4 rfl ?_
    refine v_load agg_ns rfl (by first | exact (M.B 0 rfl).at_ rfl | exact (M.B 1 rfl).at_ rfl | exact (M.B 2 rfl).at_ rfl | exact (M.B 3 rfl).at_ rfl | exact (M.B 4 rfl).at_ rfl | exact M.lc 0 rfl _ _ rfl | exact M.lc 1 rfl _ _ rfl | exact M.lc 2 rfl _ _ rfl | exact M.lc 3 rfl _ _ rfl | exact M.lc 4 rfl _ _ rfl | exact M.lc 5 rfl _ _ rfl | exact M.lc 6 rfl _ _ rfl | exact M.lc 7 rfl _ _ rfl) ?_
    obtain ⟨b, off, es, e0, hel, M'⟩ := M.kid (M.d1 5 rfl) hki
    replace M := M'; clear M'
    refine p_at (i := 0) sln (by show (Value.slice Ak t.kids.length ck) = _; rw [e0]) rfl rfl (by omega) ?_
    refine v_loadN es agg_nd rfl hel (M.lc 0 rfl) ?_
    refine cc is_r7hash (ih k (by omega) _ _ es (M.da 1 rfl) M.olt) ?_
    rintro e W ⟨A9, n9, c9, rfl, o9, hb⟩
    rw [hashR_kid hvk] at o9
    have e9 := o9.len
    have l9 := hashP_len hvk
    replace M := M.callO hb o9
    refine ⟨_, rfl, ?_⟩
    refine s_appB M rfl rfl (M.rdb 0 rfl).2.2 (by omega) ?_
    clear M; rintro A10 c10 W M -
    rw [List.singleton_append, List.cons_append] at M
    have ehs : hashesP t.kids = hashP k := by rw [hks, hashesP, hashesP, if_pos hk0, List.append_nil]
    rw [ehs]
    exact ⟨A10, _, c10, rfl, M.row _ (List.mem_cons_self ..), M.below⟩
  rw [if_neg hk2]
  refine p_eq rfl rfl (fun hk3 => ?_) (fun hk3 => ?_)
  rotate_left
  · rw [if_neg hk3]
    exact ⟨_, 1, _, rfl, M.row _ (List.mem_cons_self ..), M.below⟩
  rw [if_pos hk3]
  obtain ⟨h16, hvk⟩ := hval.br_kids hk3
  have hvk' : ∀ k ∈ t.kids, Val false k (0 + 1) := hvk
  have htk : ∀ i, (hashesP (t.kids.take i)).length ≤ 512 := fun i => by
    have := hashesP_len (ks := t.kids.take i) (fun k hk => hvk' k (List.mem_of_mem_take hk))
    rw [List.length_take] at this
    omega
  -- the two bytes' place
  refine s_litB [.int .u8 0] [0] M (by decide) rfl rfl rfl ?_
  clear M; rintro g9 W M
  replace M := M.frzO
  refine s_appB M rfl rfl (M.rdb 0 rfl).2.2 (by decide) ?_
  clear M; rintro A8 c8 W M -
  obtain ⟨P, hP⟩ : ∃ P, P = b8 (t.kind % 256) :: (if t.has then (1 : UInt8) :: putB t.val else [0]) := ⟨_, rfl⟩
  have hPl : P.length ≤ 12 + t.val.length := by
    rw [hP, List.length_cons]
    split
    · rw [List.length_cons, putB_lenE]; omega
    · simp only [List.length_cons, List.length_nil]; omega
  have hgoal : b8 (t.kind % 256) :: ((if t.has = true then (1 : UInt8) :: putB t.val else [0]) ++ (UInt8.ofNat (kbits t.kids 16).1 :: UInt8.ofNat (kbits t.kids 16).2 :: hashesP t.kids)) = P ++ (UInt8.ofNat (kbits t.kids 16).1 :: UInt8.ofNat (kbits t.kids 16).2 :: hashesP t.kids) := by rw [hP]; rfl
  rw [hgoal]
  refine cutS (Option Addr × Nat) (fun s W => St w gs W [(g1, 38, ncs t Ap cp Av cv Ak ck Ah ch)] [⟨5, 1, s.1, P.length, s.2, bvs P⟩] [.dat false [dKs t.kids] [.slice Ak t.kids.length ck]]) (fun s => [(1, .pointer (some ⟨g1, 0, none⟩)), (4, .slice s.1 P.length s.2)]) ?_ ?_
  · refine p_fld fN2 rfl ?_
    refine v_load agg_bo rfl (by first | exact (M.B 0 rfl).at_ rfl | exact (M.B 1 rfl).at_ rfl | exact (M.B 2 rfl).at_ rfl | exact (M.B 3 rfl).at_ rfl | exact (M.B 4 rfl).at_ rfl | exact M.lc 0 rfl _ _ rfl | exact M.lc 1 rfl _ _ rfl | exact M.lc 2 rfl _ _ rfl | exact M.lc 3 rfl _ _ rfl | exact M.lc 4 rfl _ _ rfl | exact M.lc 5 rfl _ _ rfl | exact M.lc 6 rfl _ _ rfl | exact M.lc 7 rfl _ _ rfl) ?_
    cases hh : t.has with
    | true =>
      rw [hh, if_pos rfl] at hP
      obtain ⟨g, rfl⟩ := row_addr M (by decide)
      refine p_atM (i := 1) (q := 1) slb rfl rfl rfl (by decide) (by decide) ?_
      refine s_setRow 1 1 M rfl rfl (by decide) (by decide) ?_
      clear M; rintro W M
      refine p_fld fN3 rfl ?_
      refine v_load agg_b rfl (by first | exact (M.B 0 rfl).at_ rfl | exact (M.B 1 rfl).at_ rfl | exact (M.B 2 rfl).at_ rfl | exact (M.B 3 rfl).at_ rfl | exact (M.B 4 rfl).at_ rfl | exact M.lc 0 rfl _ _ rfl | exact M.lc 1 rfl _ _ rfl | exact M.lc 2 rfl _ _ rfl | exact M.lc 3 rfl _ _ rfl | exact M.lc 4 rfl _ _ rfl | exact M.lc 5 rfl _ _ rfl | exact M.lc 6 rfl _ _ rfl | exact M.lc 7 rfl _ _ rfl) ?_
      refine cc is_rpb (refPutBytes_any _ _ _ t.val _ (M.rdb 4 rfl).2.2 (by omega)) ?_
      rintro e W ⟨A7, c7, rfl, o7, hb⟩
      replace M := M.callO hb o7
      refine ⟨_, rfl, ?_⟩
      refine s_appB M rfl rfl (M.rdb 0 rfl).2.2 (by omega) ?_
      clear M; rintro A8 c8 W M -
      clear o7 hb
      have e : ([b8 (t.kind % 256)] ++ [0] : List UInt8).set 1 (b8 1) ++ putB t.val = P := by rw [hP]; rfl
      rw [e] at M
      have hl : 1 + 1 + ((putN t.val.length).length + t.val.length) = P.length := by rw [hP, List.length_cons, List.length_cons, putB_lenE]; omega
      rw [hl] at M
      exact ⟨(A8, c8), M.fsub _ (by simp), ⟨rfl, (by show Value.slice A8 (1 + 1 + ((putN t.val.length).length + t.val.length)) c8 = _; rw [hl]), trivial⟩⟩
    | false =>
      rw [hh, if_neg (by simp)] at hP
      have e : ([b8 (t.kind % 256)] ++ [0] : List UInt8) = P := by rw [hP]; rfl
      have hl : P.length = 2 := by rw [hP]; rfl
      rw [e] at M
      exact ⟨(A8, c8), by dsimp only; rw [hl]; exact M.fsub _ (by simp), ⟨rfl, (by show Value.slice A8 (1 + 1) c8 = _; rw [hl]), trivial⟩⟩
  · clear M
    rintro ⟨A0, c0⟩ B0 W0 M
    dsimp only at M
    refine p_len slb rfl ?_
    refine s_litB [.int .u8 0, .int .u8 0] [0, 0] M (by decide) rfl rfl rfl ?_
    clear M; rintro g10 W M
    replace M := M.frzO
    refine s_appB M rfl rfl (M.rdb 0 rfl).2.2 (by omega) ?_
    clear M; rintro A2 c2 W M -
    obtain ⟨F, hF⟩ : ∃ F : Nat → List UInt8, F = fun i => P ++ (UInt8.ofNat (kbits t.kids i).1 :: UInt8.ofNat (kbits t.kids i).2 :: hashesP (t.kids.take i)) := ⟨_, rfl⟩
    have hFl : ∀ i, (F i).length = P.length + 2 + (hashesP (t.kids.take i)).length := fun i => by rw [hF]; simp only [List.length_append, List.length_cons]; omega
    have hF0 : P ++ [0, 0] = F 0 := by rw [hF]; simp [kbits, hashesP]
    have hF0l : P.length + 2 = (F 0).length := by rw [← hF0, List.length_append]; rfl
    rw [hF0, hF0l] at M
    have hF16 : P ++ (UInt8.ofNat (kbits t.kids 16).1 :: UInt8.ofNat (kbits t.kids 16).2 :: hashesP t.kids) = F 16 := by rw [hF]; simp only; rw [List.take_of_length_le (by omega)]
    rw [hF16]
    refine lp (Nat × Option Addr × Nat) (fun s W => s.1 ≤ 16 ∧ St w gs W [(g1, 38, ncs t Ap cp Av cv Ak ck Ah ch)] [⟨5, 1, s.2.1, (F s.1).length, s.2.2, bvs (F s.1)⟩] [.dat false [dKs t.kids] [.slice Ak t.kids.length ck]]) (fun s => [(1, .pointer (some ⟨g1, 0, none⟩)), (4, .slice s.2.1 (F s.1).length s.2.2), (7, .int .i64 P.length), (8, .int .i64 s.1)]) (fun s => 16 - s.1) (0, A2, c2) ⟨Nat.zero_le _, M.fsub _ (by simp)⟩ ⟨rfl, (by show Value.slice A2 (P.length + 2) c2 = _; rw [hF0l]), rfl, rfl, trivial⟩ ?_
    clear M
    rintro ⟨i, A3, c3⟩ E5 W5 ⟨hi, M⟩
    dsimp only at hi M
    refine p_lt rfl rfl (fun hlt => ?_) (fun hge => ?_)
    · dsimp only at hlt
      have hi16 : i < 16 := by omega
      obtain ⟨k, hki⟩ : ∃ k, t.kids[i]? = some k := ⟨_, List.getElem?_eq_getElem (by omega)⟩
      have hki1 := List.getElem?_eq_some_iff.1 hki
      have hkd : t.kids.getD i noneN = k := by rw [List.getD_eq_getElem?_getD, hki]; rfl
      have hkz := szs_mem (List.mem_of_getElem? hki)
      have hvkk := hvk k (List.mem_of_getElem? hki)
      have htk1 : t.kids.take (i + 1) = t.kids.take i ++ [k] := by rw [List.take_succ_eq_append_getElem hki1.1, hki1.2]
      obtain ⟨b, off, es, e0, hel, M'⟩ := M.kid (M.d1 0 rfl) hki
      replace M := M'; clear M'
      obtain ⟨Ap5, cp5, Av5, cv5, Ak5, ck5, Ah5, ch5, rfl, -⟩ := (M.da 1 rfl).node
      refine p_fld fN4 rfl ?_
      refine v_load agg_ns rfl (by first | exact (M.B 0 rfl).at_ rfl | exact (M.B 1 rfl).at_ rfl | exact (M.B 2 rfl).at_ rfl | exact (M.B 3 rfl).at_ rfl | exact (M.B 4 rfl).at_ rfl | exact M.lc 0 rfl _ _ rfl | exact M.lc 1 rfl _ _ rfl | exact M.lc 2 rfl _ _ rfl | exact M.lc 3 rfl _ _ rfl | exact M.lc 4 rfl _ _ rfl | exact M.lc 5 rfl _ _ rfl | exact M.lc 6 rfl _ _ rfl | exact M.lc 7 rfl _ _ rfl) ?_
      refine p_at sln (by show (Value.slice Ak t.kids.length ck) = _; rw [e0]) rfl rfl (by omega) ?_
      refine p_fld fN0 rfl ?_
      refine v_load agg_int rfl (M.lc 0 rfl 0 _ rfl) ?_
      refine p_ne rfl rfl (fun hk0 => ?_) (fun hk0 => ?_)
      · have hFF : F (i + 1) = F i := by
          have hkb : kbit t.kids i = 0 := by unfold kbit; rw [hkd, if_neg (by simp [hk0])]
          have hkk : kbits t.kids (i + 1) = kbits t.kids i := by
            rw [kbits_succ, hkb]
            split <;> rfl
          rw [hF]
          simp only
          rw [htk1, hashesP_snoc, if_neg (by simp [hk0]), List.append_nil, hkk]
        refine p_addN (b := 1) rfl rfl (by omega) ?_
        exact ⟨(i + 1, A3, c3), ⟨by dsimp only; omega, by dsimp only; rw [hFF]; exact M.fsub _ (by simp)⟩, ⟨rfl, (by show Value.slice A3 (F i).length c3 = _; rw [hFF]), rfl, rfl, trivial⟩, by dsimp only; omega⟩
      · have hk0 : k.kind ≠ 0 := hk0
        have hkb : kbit t.kids i = 128 / 2 ^ (i % 8) := by unfold kbit; rw [hkd, if_pos hk0]
        have hks := kbits_succ t.kids i
        have hkl := kbits_le t.kids i (by omega)
        have hkl1 := kbits_le t.kids (i + 1) (by omega)
        have hpow : 128 / 2 ^ (i % 8) ≤ 128 := Nat.div_le_self _ _
        obtain ⟨q, x, hq, hq2, hx1, hx2, hx3⟩ : ∃ q x : Nat, i / 8 = q ∧ q < 2 ∧ at8 (F i) (P.length + q) = (x : Int) ∧ x + 128 / 2 ^ (i % 8) ≤ 255 ∧ (F i).set (P.length + q) (b8 ((x + 128 / 2 ^ (i % 8) : Nat) : Int)) ++ hashP k = F (i + 1) := by
          rcases Nat.lt_or_ge i 8 with h8 | h8
          · rw [if_pos h8, hkb] at hks
            rw [hks] at hkl1
            obtain ⟨u1, u2⟩ := two_lo P (hashesP (t.kids.take i)) (kbits t.kids i).1 (kbits t.kids i).2 (128 / 2 ^ (i % 8)) hkl.1
            refine ⟨0, (kbits t.kids i).1, by omega, by decide, by rw [hF]; exact u1, hkl1.1, ?_⟩
            rw [hF]
            simp only
            rw [Nat.add_zero, u2, hks, htk1, hashesP_snoc, if_pos hk0]
            simp only [List.append_assoc, List.cons_append]
          · rw [if_neg (by omega), hkb] at hks
            rw [hks] at hkl1
            obtain ⟨u1, u2⟩ := two_hi P (hashesP (t.kids.take i)) (kbits t.kids i).1 (kbits t.kids i).2 (128 / 2 ^ (i % 8)) hkl.2
            refine ⟨1, (kbits t.kids i).2, by omega, by decide, by rw [hF]; exact u1, hkl1.2, ?_⟩
            rw [hF]
            simp only
            rw [u2, hks, htk1, hashesP_snoc, if_pos hk0]
            simp only [List.append_assoc, List.cons_append]
        refine ev_assoc ?_
        refine lp Nat (fun j W => j ≤ i % 8 ∧ W = W5) (fun j => [(1, .pointer (some ⟨g1, 0, none⟩)), (4, .slice A3 (F i).length c3), (7, .int .i64 P.length), (8, .int .i64 i), (9, .int .u8 ((128 / 2 ^ j : Nat) : Int)), (10, .int .i64 j)]) (fun j => i % 8 - j) 0 ⟨Nat.zero_le _, rfl⟩ ⟨rfl, rfl, rfl, rfl, rfl, rfl, trivial⟩ ?_
        rintro j E6 W6 ⟨hj, rfl⟩
        refine p_remN (b := 8) rfl rfl (by decide) ?_
        refine p_lt rfl rfl (fun hlj => ?_) (fun hgj => ?_)
        · refine p_quo (b := (2 : Nat)) rfl rfl (by decide) (quo8 (by have : 128 / 2 ^ j ≤ 128 := Nat.div_le_self _ _; omega)) ?_
          refine p_addN (b := 1) rfl rfl (by omega) ?_
          exact ⟨j + 1, ⟨by omega, rfl⟩, ⟨rfl, rfl, rfl, rfl, (by show Value.int .u8 ((128 / 2 ^ j / 2 : Nat) : Int) = _; rw [Nat.div_div_eq_div_mul, ← Nat.pow_succ]), rfl, trivial⟩, by omega⟩
        · have hje : j = i % 8 := by omega
          subst hje
          obtain ⟨g, rfl⟩ := row_addr M (by rw [hFl]; omega)
          have hrow : Own W6 w.heap.size (some ⟨g, 0, none⟩) (F i).length c3 (F i) := M.row _ (List.mem_cons_self ..)
          have hjl : P.length + q < (F i).length := by rw [hFl]; omega
          refine p_quoN (b := 8) rfl rfl (by decide) (by omega) ?_
          refine p_addN rfl rfl (by omega) ?_
          refine p_quoN (b := 8) rfl rfl (by decide) (by omega) ?_
          refine p_addN rfl rfl (by omega) ?_
          rw [hq]
          refine p_atM (i := P.length + q) (q := P.length + q) slb rfl rfl rfl hjl (by omega) ?_
          refine v_load agg_u8 rfl (hrow.cell hjl) ?_
          rw [hx1]
          refine p_add rfl rfl (r := ((x + 128 / 2 ^ (i % 8) : Nat) : Int)) (by rw [IntKind.wrap_u8']; omega) ?_
          refine p_atM (i := P.length + q) (q := P.length + q) slb rfl rfl rfl hjl (by omega) ?_
          refine s_setRow (P.length + q) _ M rfl rfl hjl (by omega) ?_
          clear M; rintro W M
          refine p_fld fN4 rfl ?_
          refine v_load agg_ns rfl (by first | exact (M.B 0 rfl).at_ rfl | exact (M.B 1 rfl).at_ rfl | exact (M.B 2 rfl).at_ rfl | exact (M.B 3 rfl).at_ rfl | exact (M.B 4 rfl).at_ rfl | exact M.lc 0 rfl _ _ rfl | exact M.lc 1 rfl _ _ rfl | exact M.lc 2 rfl _ _ rfl | exact M.lc 3 rfl _ _ rfl | exact M.lc 4 rfl _ _ rfl | exact M.lc 5 rfl _ _ rfl | exact M.lc 6 rfl _ _ rfl | exact M.lc 7 rfl _ _ rfl) ?_
          refine p_at sln (by show (Value.slice Ak t.kids.length ck) = _; rw [e0]) rfl rfl (by omega) ?_
          refine v_loadN (ncs k Ap5 cp5 Av5 cv5 Ak5 ck5 Ah5 ch5) agg_nd rfl hel (M.lc 0 rfl) ?_
          refine cc is_r7hash (ih k (by omega) _ _ _ (M.da 1 rfl) M.olt) ?_
          rintro e W ⟨A9, n9, c9, rfl, o9, hb⟩
          rw [hashR_kid hvkk] at o9
          have e9 := o9.len
          have l9 := hashP_len hvkk
          replace M := M.callO hb o9
          refine ⟨_, rfl, ?_⟩
          refine s_appB M rfl rfl (M.rdb 0 rfl).2.2 (by have := hFl i; have := htk i; omega) ?_
          clear M; rintro A10 c10 W M -
          have hl10 : (F i).length + n9 = (F (i + 1)).length := by rw [← hx3, List.length_append, List.length_set, e9]
          rw [hx3, hl10] at M
          refine p_addN (b := 1) rfl rfl (by omega) ?_
          exact ⟨(i + 1, A10, c10), ⟨by dsimp only; omega, M.fsub _ (by simp)⟩, ⟨rfl, (by show Value.slice A10 ((F i).length + n9) c10 = _; rw [hl10]), rfl, rfl, trivial⟩, by dsimp only; omega⟩
    · dsimp only at hge
      have : i = 16 := by omega
      subst this
      exact ⟨A3, _, c3, rfl, M.row _ (List.mem_cons_self ..), M.below⟩
theorem encP_len {t : Nd} (hv : Val false t 0) (hz : sz t ≤ 100000000) : (encP t).length ≤ 600 + sz t := by
  have hsz := sz_eq t
  have hp1 := packL_len t.path true
  have hp2 := packL_len t.path false
  have q1 := putN_len10 (n := (packL t.path true).length) (by omega)
  have q2 := putN_len10 (n := (packL t.path false).length) (by omega)
  have q3 := putN_len10 (n := t.val.length) (by omega)
  unfold encP encF
  rw [List.length_cons]
  split
  · rw [List.length_append, putB_lenE, putB_lenE]; omega
  · split
    · rename_i h1 h2
      obtain ⟨k, hk, hvk, -⟩ := hv.way_kid h2
      have hh : (hashesP t.kids).length ≤ 32 * t.kids.length := hashesP_len (d := 0 + t.path.length) (by rw [hk]; intro x hx; rw [List.mem_singleton.1 hx]; exact hvk)
      rw [hk] at hh
      rw [List.length_append, putB_lenE, hk]
      simp only [List.length_singleton] at hh
      omega
    · split
      · rename_i h1 h2 h3
        obtain ⟨h16, hvk⟩ := hv.br_kids h3
        have hh : (hashesP t.kids).length ≤ 32 * t.kids.length := hashesP_len (d := 0 + 1) hvk
        rw [List.length_append, List.length_cons, List.length_cons]
        split
        · rw [List.length_cons, putB_lenE]; omega
        · simp only [List.length_singleton]; omega
      · simp only [List.length_nil]; omega
set_option maxRecDepth 100000 in
set_option maxHeartbeats 2000000 in
theorem rhash_step (t : Nd) (henc : REncOk t) (hN : sz t ≤ 100000000) : RHashOk t := by
  intro gs w cs hr hgs
  refine calls_ev (args := [.agg cs.toArray]) mixed Try.func27 rfl (by kernel_rfl) ?_
  obtain ⟨Ap, cp, Av, cv, Ak, ck, Ah, ch, rfl, r1, r3, r4, r5⟩ := hr.node
  have hsz := sz_eq t
  have M := ((((St.start hgs).addD r5).addD r3).addD r1).addL hr
  clear r1 r3 r4 r5 hr
  refine s_box (ncs t Ap cp Av cv Ak ck Ah ch) M rfl ?_
  clear M
  rintro g1 W M
  refine p_fld fN0 rfl ?_
  refine v_load agg_int rfl (by first | exact (M.B 0 rfl).at_ rfl | exact (M.B 1 rfl).at_ rfl | exact (M.B 2 rfl).at_ rfl | exact (M.B 3 rfl).at_ rfl | exact (M.B 4 rfl).at_ rfl | exact M.lc 0 rfl _ _ rfl | exact M.lc 1 rfl _ _ rfl | exact M.lc 2 rfl _ _ rfl | exact M.lc 3 rfl _ _ rfl | exact M.lc 4 rfl _ _ rfl | exact M.lc 5 rfl _ _ rfl | exact M.lc 6 rfl _ _ rfl | exact M.lc 7 rfl _ _ rfl) ?_
  refine p_eq rfl rfl (fun h4 => ?_) (fun h4 => ?_)
  ·
    refine v_loadN (ncs t Ap cp Av cv Ak ck Ah ch) agg_nd rfl rfl (by first | exact M.run 0 rfl | exact M.run 1 rfl | exact M.run 2 rfl | exact M.run 3 rfl | exact M.run 4 rfl | exact M.lc 0 rfl | exact M.lc 1 rfl | exact M.lc 2 rfl | exact M.lc 3 rfl | exact M.lc 4 rfl | exact M.lc 5 rfl | exact M.lc 6 rfl | exact M.lc 7 rfl) ?_
    refine cc is_r7right (rright_any 1000000000 (by decide) t (by omega) _ _ _ 0 false (by first | with_reducible exact M.da_0 | with_reducible exact M.da_1 | with_reducible exact M.da_2 | with_reducible exact M.da_3 | with_reducible exact M.da_4 | with_reducible exact M.da_5 | with_reducible exact M.da_6 | with_reducible exact M.da_7 | with_reducible exact M.da_8 | with_reducible exact M.da_9 | with_reducible exact M.da_10 | with_reducible exact M.da_11) M.olt (by omega)) ?_
    rintro e W ⟨rfl, hb⟩
    refine ⟨_, rfl, ?_⟩
    replace M := M.call hb
    cases hrt : rightP false t 0 with
    | true =>
      refine p_fld fN5 rfl ?_
      refine v_load agg_b rfl (by first | exact (M.B 0 rfl).at_ rfl | exact (M.B 1 rfl).at_ rfl | exact (M.B 2 rfl).at_ rfl | exact (M.B 3 rfl).at_ rfl | exact (M.B 4 rfl).at_ rfl | exact M.lc 0 rfl _ _ rfl | exact M.lc 1 rfl _ _ rfl | exact M.lc 2 rfl _ _ rfl | exact M.lc 3 rfl _ _ rfl | exact M.lc 4 rfl _ _ rfl | exact M.lc 5 rfl _ _ rfl | exact M.lc 6 rfl _ _ rfl | exact M.lc 7 rfl _ _ rfl) ?_
      refine cc is_copy0 (copy_any _ _ _ t.hash _ (M.rdb 3 rfl).2.2 (by omega)) ?_
      rintro e W ⟨A7, c7, rfl, o7, hbel⟩
      replace M := M.callR (r := ⟨5, 1, A7, _, c7, bvs t.hash⟩) hbel o7
      refine ⟨_, rfl, ?_⟩
      have e : hashR t = t.hash := by unfold hashR; rw [if_pos hrt, hashP_eq, if_pos h4]
      rw [e]
      exact ⟨A7, _, c7, rfl, M.row _ (List.mem_cons_self ..), M.below⟩
    | false =>
      refine v_loadN (ncs t Ap cp Av cv Ak ck Ah ch) agg_nd rfl rfl (by first | exact M.run 0 rfl | exact M.run 1 rfl | exact M.run 2 rfl | exact M.run 3 rfl | exact M.run 4 rfl | exact M.lc 0 rfl | exact M.lc 1 rfl | exact M.lc 2 rfl | exact M.lc 3 rfl | exact M.lc 4 rfl | exact M.lc 5 rfl | exact M.lc 6 rfl | exact M.lc 7 rfl) ?_
      refine cc is_r7enc (henc _ _ _ (by first | with_reducible exact M.da_0 | with_reducible exact M.da_1 | with_reducible exact M.da_2 | with_reducible exact M.da_3 | with_reducible exact M.da_4 | with_reducible exact M.da_5 | with_reducible exact M.da_6 | with_reducible exact M.da_7 | with_reducible exact M.da_8 | with_reducible exact M.da_9 | with_reducible exact M.da_10 | with_reducible exact M.da_11) M.olt) ?_
      rintro e W ⟨A5, n5, c5, rfl, o5, hb⟩
      have e5 := o5.len
      replace M := M.callO hb o5
      refine ⟨_, rfl, ?_⟩
      rw [show encR t = ([], 2) by unfold encR; rw [if_neg (by simp [hrt])]]
      rw [show hashR t = [] by unfold hashR; rw [if_neg (by simp [hrt])]]
      refine p_ne rfl rfl (fun e => absurd e (by decide)) (fun _ => ?_)
      exact ⟨none, 0, 0, rfl, World.ownsRow_nil _ _ _ _, M.below⟩
  ·
    refine v_loadN (ncs t Ap cp Av cv Ak ck Ah ch) agg_nd rfl rfl (by first | exact M.run 0 rfl | exact M.run 1 rfl | exact M.run 2 rfl | exact M.run 3 rfl | exact M.run 4 rfl | exact M.lc 0 rfl | exact M.lc 1 rfl | exact M.lc 2 rfl | exact M.lc 3 rfl | exact M.lc 4 rfl | exact M.lc 5 rfl | exact M.lc 6 rfl | exact M.lc 7 rfl) ?_
    refine cc is_r7enc (henc _ _ _ (by first | with_reducible exact M.da_0 | with_reducible exact M.da_1 | with_reducible exact M.da_2 | with_reducible exact M.da_3 | with_reducible exact M.da_4 | with_reducible exact M.da_5 | with_reducible exact M.da_6 | with_reducible exact M.da_7 | with_reducible exact M.da_8 | with_reducible exact M.da_9 | with_reducible exact M.da_10 | with_reducible exact M.da_11) M.olt) ?_
    rintro e W ⟨A5, n5, c5, rfl, o5, hb⟩
    have e5 := o5.len
    replace M := M.callO hb o5
    refine ⟨_, rfl, ?_⟩
    cases hrt : rightP false t 0 with
    | true =>
      have hE : encR t = (encP t, 0) := by unfold encR; rw [if_pos ⟨h4, hrt⟩]
      have hval := val_of_right false _ t 0 (Nat.lt_succ_self _) hrt
      have hel := encP_len hval hN
      rw [hE] at M e5 ⊢
      refine p_ne rfl rfl (fun _ => ?_) (fun e => absurd rfl e)
      have e5 : n5 = (encP t).length := e5.symm
      refine cc is_r5sum (r5sum_any (encP t) _ _ A5 n5 c5 (M.d1 0 rfl) M.olt (by omega)) ?_
      rintro e W ⟨A7, c7, rfl, o7, hbel⟩
      refine ⟨_, rfl, ?_⟩
      have e : hashR t = sha (encP t) := by unfold hashR; rw [if_pos hrt, hashP_eq, if_neg h4]
      rw [e]
      replace M := M.callR (r := ⟨5, 1, A7, _, c7, bvs (sha (encP t))⟩) hbel o7
      exact ⟨A7, _, c7, rfl, M.row _ (List.mem_cons_self ..), M.below⟩
    | false =>
      rw [show encR t = ([], 2) by unfold encR; rw [if_neg (by simp [hrt])]]
      rw [show hashR t = [] by unfold hashR; rw [if_neg (by simp [hrt])]]
      refine p_ne rfl rfl (fun e => absurd e (by decide)) (fun _ => ?_)
      exact ⟨none, 0, 0, rfl, World.ownsRow_nil _ _ _ _, M.below⟩
theorem renc_any : ∀ (N : Nat), N ≤ 100000000 → ∀ t : Nd, sz t < N → REncOk t ∧ RHashOk t
  | 0, _, t, h => by omega
  | N + 1, hN, t, h =>
    have e := renc_step N (fun k hk => (renc_any N (by omega) k hk).2) t (by omega) (by omega)
    ⟨e, rhash_step t e (by omega)⟩
theorem rhash_any (t : Nd) (h : sz t ≤ 90000000) : RHashOk t := (renc_any 100000000 (Nat.le_refl _) t (by omega)).2
def foldN (t : Nd) : Nd := if t.kind = 0 then noneN else .mk 4 [] false [] [] (hashR t)
set_option maxRecDepth 100000 in
set_option maxHeartbeats 2000000 in
theorem rfold_any (t : Nd) (ht : sz t ≤ 90000000) (gs : List (Option Nat)) (w : World) (cs : List Value) (hr : RdL w (Fd w gs) (dN t) cs) (hgs : ∀ b, some b ∈ gs → b < w.heap.size) :
    Calls Try.prog 32 #[.agg cs.toArray] w fun e w' => ∃ cs', e = .returned (.agg cs'.toArray) ∧ RdL w' (Fr w w') (dN (foldN t)) cs' ∧ Below w.heap.size w w' := by
  refine calls_ev (args := [.agg cs.toArray]) mixed Try.func32 rfl (by kernel_rfl) ?_
  obtain ⟨Ap, cp, Av, cv, Ak, ck, Ah, ch, rfl, r1, r3, r4, r5⟩ := hr.node
  have M := (St.start hgs).addL hr
  clear r1 r3 r4 r5 hr
  refine s_box (ncs t Ap cp Av cv Ak ck Ah ch) M rfl ?_
  clear M
  rintro g1 W M
  refine s_alloc (zN) M al_nd ?_
  clear M
  rintro g2 W M
  refine p_fld fN0 rfl ?_
  refine v_load agg_int rfl (by first | exact (M.B 0 rfl).at_ rfl | exact (M.B 1 rfl).at_ rfl | exact (M.B 2 rfl).at_ rfl | exact (M.B 3 rfl).at_ rfl | exact (M.B 4 rfl).at_ rfl | exact M.lc 0 rfl _ _ rfl | exact M.lc 1 rfl _ _ rfl | exact M.lc 2 rfl _ _ rfl | exact M.lc 3 rfl _ _ rfl | exact M.lc 4 rfl _ _ rfl | exact M.lc 5 rfl _ _ rfl | exact M.lc 6 rfl _ _ rfl | exact M.lc 7 rfl _ _ rfl) ?_
  unfold foldN
  refine p_eq rfl rfl (fun h0 => ?_) (fun h0 => ?_)
  · rw [if_pos h0]
    refine p_build (vs := zN) pl_nd z_nd rfl ?_
    first | refine s_storeA 0 (zN) M rfl (by kernel_rfl) rfl rfl rfl (all1 rfl) rfl ?_ | refine s_storeA 1 (zN) M rfl (by kernel_rfl) rfl rfl rfl (all1 rfl) rfl ?_ | refine s_storeA 2 (zN) M rfl (by kernel_rfl) rfl rfl rfl (all1 rfl) rfl ?_ | refine s_storeA 3 (zN) M rfl (by kernel_rfl) rfl rfl rfl (all1 rfl) rfl ?_
    clear M
    rintro W M
    dsimp only [setL] at M
    refine c_loadN (zN) agg_nd rfl rfl (by first | exact M.run 0 rfl | exact M.run 1 rfl | exact M.run 2 rfl | exact M.run 3 rfl | exact M.run 4 rfl | exact M.lc 0 rfl | exact M.lc 1 rfl | exact M.lc 2 rfl | exact M.lc 3 rfl | exact M.lc 4 rfl | exact M.lc 5 rfl | exact M.lc 6 rfl | exact M.lc 7 rfl) ?_
    exact ⟨_, rfl, RdL.znone, M.below⟩
  · rw [if_neg h0]
    refine v_loadN (ncs t Ap cp Av cv Ak ck Ah ch) agg_nd rfl rfl (by first | exact M.run 0 rfl | exact M.run 1 rfl | exact M.run 2 rfl | exact M.run 3 rfl | exact M.run 4 rfl | exact M.lc 0 rfl | exact M.lc 1 rfl | exact M.lc 2 rfl | exact M.lc 3 rfl | exact M.lc 4 rfl | exact M.lc 5 rfl | exact M.lc 6 rfl | exact M.lc 7 rfl) ?_
    refine cc is_r7hash (rhash_any t ht _ _ _ (by first | with_reducible exact M.da_0 | with_reducible exact M.da_1 | with_reducible exact M.da_2 | with_reducible exact M.da_3 | with_reducible exact M.da_4 | with_reducible exact M.da_5 | with_reducible exact M.da_6 | with_reducible exact M.da_7 | with_reducible exact M.da_8 | with_reducible exact M.da_9 | with_reducible exact M.da_10 | with_reducible exact M.da_11) M.olt) ?_
    rintro e W ⟨A5, n5, c5, rfl, o5, hb⟩
    have e5 := o5.len
    replace M := M.callO hb o5
    refine ⟨_, rfl, ?_⟩
    subst e5
    refine p_build (vs := ncs (.mk 4 [] false [] [] (hashR t)) none 0 none 0 none 0 A5 c5) pl_nd z_nd rfl ?_
    first | refine s_storeA 0 (ncs (.mk 4 [] false [] [] (hashR t)) none 0 none 0 none 0 A5 c5) M rfl (by kernel_rfl) rfl rfl rfl (all1 rfl) rfl ?_ | refine s_storeA 1 (ncs (.mk 4 [] false [] [] (hashR t)) none 0 none 0 none 0 A5 c5) M rfl (by kernel_rfl) rfl rfl rfl (all1 rfl) rfl ?_ | refine s_storeA 2 (ncs (.mk 4 [] false [] [] (hashR t)) none 0 none 0 none 0 A5 c5) M rfl (by kernel_rfl) rfl rfl rfl (all1 rfl) rfl ?_ | refine s_storeA 3 (ncs (.mk 4 [] false [] [] (hashR t)) none 0 none 0 none 0 A5 c5) M rfl (by kernel_rfl) rfl rfl rfl (all1 rfl) rfl ?_
    clear M
    rintro W M
    dsimp only [setL] at M
    refine c_loadN (ncs (.mk 4 [] false [] [] (hashR t)) none 0 none 0 none 0 A5 c5) agg_nd rfl rfl (by first | exact M.run 0 rfl | exact M.run 1 rfl | exact M.run 2 rfl | exact M.run 3 rfl | exact M.run 4 rfl | exact M.lc 0 rfl | exact M.lc 1 rfl | exact M.lc 2 rfl | exact M.lc 3 rfl | exact M.lc 4 rfl | exact M.lc 5 rfl | exact M.lc 6 rfl | exact M.lc 7 rfl) ?_
    exact ⟨_, rfl, RdL.ofnode (t := .mk 4 [] false [] [] (hashR t)) (RdD.nil_ _ _) (RdD.nil_ _ _) (RdD.nil_ _ _) (M.finF1 0 rfl), M.below⟩
end Go.Proofs.Ytliccofjlheceaa
namespace Go.Proofs.Ytliccofjlheceaa
open Go.RowKit
def rootsAt (w : World) : Prop := ∀ j, j < 64 → w.cell? ⟨1, j, none⟩ = some (cu (roots.getD j 0))
end Go.Proofs.Ytliccofjlheceaa
namespace Go.Proofs.Ytliccofjlheceaa
open Go.RowKit

/-- The package's tables. -/
structure GL (W : World) (gs : List (Option Nat)) : Prop where
  roots : rootsAt W
  begin : ∀ j v, (hc begin8)[j]? = some v → W.cell? ⟨0, j, none⟩ = some v
  size : 2 ≤ W.heap.size
  out0 : some 0 ∉ gs
  out1 : some 1 ∉ gs
theorem GL.up {W W' : World} {gs gs' : List (Option Nat)} (h : GL W gs) (s : Stp W gs W' gs') : GL W' gs' :=
  ⟨fun j hj => (World.cell?_of_block (w := W) (a := ⟨1, j, none⟩) (s.block 1 h.size h.out1)).trans (h.roots j hj),
   fun j v hv => (World.cell?_of_block (w := W) (a := ⟨0, j, none⟩) (s.block 0 (by have := h.size; omega) h.out0)).trans (h.begin j v hv),
   Nat.le_trans h.size s.size, fun e => h.out0 (s.own 0 (by have := h.size; omega) e), fun e => h.out1 (s.own 1 h.size e)⟩
section
variable {E : Env} {d : Option Nat} {ty : TypeId} {p : String} {af : Array Edge} {g : Option (Nat × Bool)} {x y z : Operand} {kw : Value → World → Prop} {w : World}
end
end Go.Proofs.Ytliccofjlheceaa
namespace Go.Proofs.Ytliccofjlheceaa
open Go.RowKit
theorem orN {a b : Nat} (ha : a < 2 ^ 62) (hb : b < 2 ^ 62) : bits .or .i64 (a : Int) (b : Int) = ((a ||| b : Nat) : Int) := by
  have h := Nat.or_lt_two_pow ha hb
  have e : (BitVec.ofInt IntKind.i64.bits (a : Int) ||| BitVec.ofInt IntKind.i64.bits (b : Int)).toNat = a ||| b := by
    rw [BitVec.toNat_or, BitVec.ofInt_natCast, BitVec.ofInt_natCast, BitVec.toNat_ofNat, BitVec.toNat_ofNat, Nat.mod_eq_of_lt (by show a < 2 ^ 64; omega), Nat.mod_eq_of_lt (by show b < 2 ^ 64; omega)]
  show IntKind.i64.wrap ((BitVec.ofInt IntKind.i64.bits (a : Int) ||| BitVec.ofInt IntKind.i64.bits (b : Int)).toNat : Int) = _
  rw [e]
  exact w64 (by omega)
def setN (ks : List Nd) (i : Nat) : Nat := 256 * (kbits ks i).1 + (kbits ks i).2
theorem setN_bit : ∀ i, i < 16 → (if i < 8 then 256 * (128 / 2 ^ (i % 8)) else 128 / 2 ^ (i % 8)) = 2 ^ (15 - i) := by decide
theorem setN_yes {ks : List Nd} {i : Nat} (h : i < 16) (hk : (ks.getD i noneN).kind ≠ 0) : setN ks (i + 1) = setN ks i + 2 ^ (15 - i) := by
  have h1 := setN_bit i h
  unfold setN
  rw [kbits_succ]
  unfold kbit
  rw [if_pos hk]
  by_cases h8 : i < 8
  · rw [if_pos h8] at h1 ⊢
    dsimp only; omega
  · rw [if_neg h8] at h1 ⊢
    dsimp only; omega
theorem setN_no {ks : List Nd} {i : Nat} (hk : (ks.getD i noneN).kind = 0) : setN ks (i + 1) = setN ks i := by
  have hb : kbit ks i = 0 := by unfold kbit; rw [if_neg (fun h => h hk)]
  unfold setN
  rw [kbits_succ, hb]
  split <;> rfl
theorem setN_dvd (ks : List Nd) : ∀ i, i ≤ 16 → 2 ^ (16 - i) ∣ setN ks i
  | 0, _ => ⟨0, rfl⟩
  | i + 1, h => by
    have ih := setN_dvd ks i (by omega)
    have h1 : 2 ^ (16 - i) = 2 ^ (16 - (i + 1)) * 2 := by rw [← Nat.pow_succ]; congr 1; omega
    have h2 : 2 ^ (16 - (i + 1)) ∣ setN ks i := Nat.dvd_trans ⟨2, h1⟩ ih
    by_cases hk : (ks.getD i noneN).kind = 0
    · rw [setN_no hk]; exact h2
    · rw [setN_yes (by omega) hk]
      exact Nat.dvd_add h2 (by rw [show 16 - (i + 1) = 15 - i by omega]; exact Nat.dvd_refl _)
theorem setN_lt (ks : List Nd) {i : Nat} (h : i ≤ 16) : setN ks i < 65536 := by
  have := kbits_le ks i h
  unfold setN; omega
theorem setN_or {ks : List Nd} {i : Nat} (h : i < 16) (hk : (ks.getD i noneN).kind ≠ 0) : bits .or .i64 (setN ks i : Int) ((2 ^ (15 - i) : Nat) : Int) = (setN ks (i + 1) : Int) := by
  have hp : 2 ^ (15 - i) < 2 ^ 62 := Nat.pow_lt_pow_right (by decide) (by omega)
  rw [orN (by have := setN_lt ks (Nat.le_of_lt h); omega) hp, setN_yes h hk]
  obtain ⟨a, ha⟩ := setN_dvd ks i (by omega)
  rw [ha, Nat.two_pow_add_eq_or_of_lt (Nat.pow_lt_pow_right (by decide) (by omega))]
theorem shl15 {i : Nat} (h : i < 16) : IntKind.i64.wrap (1 * 2 ^ (min (((15 - i : Nat) : Int)).toNat IntKind.i64.bits)) = ((2 ^ (15 - i) : Nat) : Int) := by
  have key : ∀ i, i < 16 → IntKind.i64.wrap (1 * 2 ^ (min (((15 - i : Nat) : Int)).toNat IntKind.i64.bits)) = ((2 ^ (15 - i) : Nat) : Int) := by decide
  exact key i h
theorem is_npack : isFn Try.prog 65 = true := by kernel_rfl
theorem is_npb : isFn Try.prog 36 = true := by kernel_rfl
end Go.Proofs.Ytliccofjlheceaa
namespace Go.Proofs.Ytliccofjlheceaa
open Go.RowKit
structure It where
  path : List UInt8
  val : List UInt8
  stub : Bool
  known : Bool
  hash : List UInt8
def dI (x : It) : List D := [dB x.path, dB x.val, .v (.bool x.stub), .v (.bool x.known), dB x.hash]
theorem dI_len (x : It) : (dI x).length = 5 := rfl
def dIs (l : List It) : List D := l.flatMap dI
abbrev dIl (l : List It) : D := .sl 5 l.length (dIs l)
theorem dIs_app (a b : List It) : dIs (a ++ b) = dIs a ++ dIs b := by unfold dIs; rw [List.flatMap_append]
theorem sli : slOf Try.prog 95 = some (98, 5) := by kernel_rfl
theorem agg_it : aggOf Try.prog 98 = some (true, 5) := by kernel_rfl
theorem fI0 : fieldOff Try.prog 98 0 = some 0 := by kernel_rfl
theorem fI1 : fieldOff Try.prog 98 1 = some 1 := by kernel_rfl
theorem fI2 : fieldOff Try.prog 98 2 = some 2 := by kernel_rfl
theorem fI3 : fieldOff Try.prog 98 3 = some 3 := by kernel_rfl
theorem fI4 : fieldOff Try.prog 98 4 = some 4 := by kernel_rfl
def zI : List Value := [.slice none 0 0, .slice none 0 0, .bool false, .bool false, .slice none 0 0]
theorem pl_it : placesOf Try.prog 98 = some [(0, 1), (1, 1), (2, 1), (3, 1), (4, 1)] := by kernel_rfl
theorem z_it : zeroOf Try.prog 98 = some zI := by kernel_rfl
theorem itinfo : (Try.prog.info? 98).map (fun i => (i.zero, i.size, i.bytes)) = some (some (.agg zI.toArray), 5, 80) := by kernel_rfl
def ics (x : It) (Ap : Option Addr) (cp : Nat) (Av : Option Addr) (cv : Nat) (Ah : Option Addr) (ch : Nat) : List Value := [.slice Ap x.path.length cp, .slice Av x.val.length cv, .bool x.stub, .bool x.known, .slice Ah x.hash.length ch]
theorem RdL.item {W : World} {F : Nat → Prop} {x : It} {cs : List Value} (h : RdL W F (dI x) cs) : ∃ Ap cp Av cv Ah ch, cs = ics x Ap cp Av cv Ah ch ∧ RdD W F (dB x.path) (.slice Ap x.path.length cp) ∧ RdD W F (dB x.val) (.slice Av x.val.length cv) ∧ RdD W F (dB x.hash) (.slice Ah x.hash.length ch) := by
  obtain ⟨u0, _, rfl, h0, h⟩ := (show RdL W F [dB x.path, dB x.val, .v (.bool x.stub), .v (.bool x.known), dB x.hash] cs from h).uncons
  obtain ⟨u1, _, rfl, h1, h⟩ := h.uncons
  obtain ⟨u2, _, rfl, h2, h⟩ := h.uncons
  obtain ⟨u3, _, rfl, h3, h⟩ := h.uncons
  obtain ⟨u4, _, rfl, h4, h⟩ := h.uncons
  rw [h.isnil]
  obtain ⟨A0, c0, e0, _⟩ := h0.open_
  obtain ⟨A1, c1, e1, _⟩ := h1.open_
  obtain ⟨A4, c4, e4, _⟩ := h4.open_
  have e2 := RdD.val.1 h2
  have e3 := RdD.val.1 h3
  subst e0; subst e1; subst e2; subst e3; subst e4
  exact ⟨A0, c0, A1, c1, A4, c4, rfl, h0, h1, h4⟩
/-- An item of a slice that stays. -/
theorem St.item {w W : World} {gs : List (Option Nat)} {L : Lc} {R : List Row} {fs : List Fact} (M : St w gs W L R fs) {l : List It} {A : Option Addr} {n c i : Nat} {x : It} (h : RdD W (Fd W (own L R gs)) (dIl l) (.slice A n c)) (hi : l[i]? = some x) :
    ∃ b off Ap cp Av cv Ah ch, A = some ⟨b, off, none⟩ ∧ St w gs W L R (.loc ((⟨b, off, none⟩ : Addr).add (i * 5)) (ics x Ap cp Av cv Ah ch) :: .dat false (dI x) (ics x Ap cp Av cv Ah ch) :: .dat false [dB x.path] [.slice Ap x.path.length cp] :: .dat false [dB x.val] [.slice Av x.val.length cv] :: .dat false [dB x.hash] [.slice Ah x.hash.length ch] :: fs) := by
  obtain ⟨b, off, es, e, hF, hes, hel, hc⟩ := RdD.elt dI 5 dI_len h hi
  have hes' := hes
  obtain ⟨Ap, cp, Av, cv, Ah, ch, rfl, h1, h2, h3⟩ := hes.item
  exact ⟨b, off, Ap, cp, Av, cv, Ah, ch, e, ((((M.addD h3).addD h2).addD h1).addL hes').addC (by rw [block_of_add]; exact hF) hc⟩
mutual
def itemsP : Nd → List UInt8 → Bool → List It
  | .mk k p has v ks h, way, known =>
    if k = 4 then [⟨way ++ p, [], true, known, h⟩]
    else (if k = 1 ∨ has = true then [⟨way ++ p, v, false, false, []⟩] else []) ++ itemsK ks (decide (k = 3)) (decide (k = 2)) 0 (way ++ p)
def itemsK : List Nd → Bool → Bool → Nat → List UInt8 → List It
  | [], _, _, _, _ => []
  | t :: ts, br, known, i, at_ => itemsP t (if br then at_ ++ [UInt8.ofNat i] else at_) known ++ itemsK ts br known (i + 1) at_
end
end Go.Proofs.Ytliccofjlheceaa
