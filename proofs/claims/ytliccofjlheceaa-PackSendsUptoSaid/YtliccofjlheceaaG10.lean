/- From a walk that returns true and writes nothing that was there to the row; arguments opened to lists. Halves of bytes: what the chapter's examples fix. Halves of bytes: plain laws of the functions: there and back, order, what is joined. The walks of the laws NibsBack, NibsOrder, NibsJoin, NibsCuts. The walk of the law NibsBack. Package node: Decode. The walks of slices.EqualFunc over nodes, for any function; of node.Same. The walk of node.Count (a function that calls itself through a variable); what it counts. Tries without stubs, plainly. The walks of trie.Of, pairs and Pairs. law08: what the chapter's example fixes. law07: known, much. Reference 08: the walks of right, stub, Get. Reference 08: the walks of Put and Drop. Reference 08: the walks of SamePairs, Pairs, Rising, Of. -/
import Derived.Test.YtliccofjlheceaaRows
import Derived.Test.YtliccofjlheceaaG03
import Derived.ProofKit
import Derived.OpenShut
import Derived.ChangeOld
import Derived.WideKeyArgs
import Derived.JoinedCond
import Derived.Test.YtliccofjlheceaaG09
import Derived.Test.YtliccofjlheceaaG08
import Derived.Test.YtliccofjlheceaaG05
import Derived.Test.YtliccofjlheceaaG06
import Derived.Test.YtliccofjlheceaaG07
namespace Go.Proofs.Ytliccofjlheceaa
open Go.ChangeShapes Go.WideShapes Go.ChangeAt Go.RowKit

theorem own_ : ownKnob Try.prog.godebug = none := by kernel_rfl
theorem laidOut : laidOutB Try.prog = true := by kernel_rfl

/-- A call returns true, and below the heap's old size all is as it was. -/
def RetTrue (w : World) (e : Ending) (w' : World) : Prop := e = .returned (.bool true) ∧ Below w.heap.size w w'

section
variable {H : Type} {enc : TypeId × Value → H} {P : Program}
theorem trodAll_stays (hl : laidOutB P = true) {W W' : World} (hb : Below W.heap.size W W') {sp : Nat → Bool} : ∀ (ts : List TypeId) (vs : List Value) (ds : List (DataW H)) (p : List MemPlace),
    (ts.all fun t => P.readableRec t && decide (t < P.types.size)) = true → DataW.TrodAll enc P W 0 (fun _ => true) true ts vs ds p → (∀ x ∈ p, x.block < W.heap.size) → (∀ x ∈ p, sp x.block = true) → DataW.TrodAll enc P W' 0 sp true ts vs ds p
  | [], vs, ds, p, _, h, _, _ => by
    obtain ⟨rfl, rfl, rfl⟩ := trodAll_nil h
    exact trodAll_mk0
  | t :: ts, vs, ds, p, ht, h, hlt, hsp => by
    obtain ⟨v, vs', d, ds', p0, q0, rfl, rfl, rfl, h0, r0⟩ := trodAll_cons h
    rw [List.all_cons, Bool.and_eq_true, Bool.and_eq_true, decide_eq_true_eq] at ht
    refine trodAll_cons_mk (WideElems.Trod_stays hl ht.1.1 ht.1.2 h0 (fun x hx => hb.same (hlt x (by simp [hx]))) (fun x hx => hsp x (by simp [hx]))) (trodAll_stays hl hb ts vs' ds' q0 ht.2 r0 (fun x hx => hlt x (by simp [hx])) (fun x hx => hsp x (by simp [hx])))

theorem post_of_below {f : Func} {s : ChangeSpec} {apart fresh handsOn again : Bool} {W W' : World} {args : Array Value} {v : Value} {ds gs : List (DataW H)} {before pa pv : List MemPlace}
    (hW : DataW.Whole enc P f.params.toList s.vars apart W args.toList ds gs before)
    (hres : ∀ (b : Nat) (sp : Nat → Bool) (hd : Bool), DataW.TrodAll enc P W' b sp hd f.resultTypes.toList (v.resultList f.resultTypes.size) (s.fn H (ds ++ gs)).results [])
    (hargs : ∀ sp : Nat → Bool, (∀ p ∈ before, sp p.block = true) → DataW.TrodAll enc P W' 0 sp true f.params.toList args.toList (s.fn H (ds ++ gs)).args pa)
    (hvars : ∀ sp : Nat → Bool, (∀ p ∈ before, sp p.block = true) → DataW.TrodVars enc P W' sp s.vars (s.fn H (ds ++ gs)).vars pv)
    (hps : before = pa ++ pv) (hb : Below W.heap.size W W')
    (hok : ∀ (j : Nat) (t : TypeId) (r : Value), f.resultTypes[j]? = some t → (v.resultList f.resultTypes.size)[j]? = some r → Value.okWide P W' .any 0 t r) :
    s.post enc P f apart fresh handsOn again W args v W' := by
  have hlt : ∀ p ∈ before, p.block < W.heap.size := fun p hp => hW.lt p hp
  have hold : ∀ p ∈ before, (fun b => decide (b < W.heap.size)) p.block = true := fun p hp => by simpa using hlt p hp
  refine ⟨ds, gs, before, [], pa, pv, hW, hres _ _ _, hargs _ hold, hvars _ hold, World.keptBut_mono (fun p hp => ⟨hp, ?_⟩) (hb.frame (· ∈ before)), fun _ => ?_⟩
  · rw [hps, List.mem_append] at hp
    exact Or.inr hp
  · obtain ⟨_, _, _, _, _, hz, hn⟩ := hW
    refine ⟨hok, _, _, ([] ++ pa) ++ pv, ⟨[] ++ pa, pv, trodAll_append (hargs _ (fun _ _ => rfl)) (hres _ _ _), hvars _ (fun _ _ => rfl), rfl, ?_, ?_⟩, ?_⟩
    · intro b off hp
      have hin : MemPlace.cell b off ∈ before := by rw [hps]; simpa using hp
      rw [hb.frozen (hlt _ hin)]
      exact hz b off hin
    · intro ha
      have := hn ha
      rw [hps] at this
      simpa using this
    · intro p hp _
      rw [hps]
      simpa using hp

/-- THE ROW'S LAST STEP: the law has returned true, nothing that was there has turned. -/
theorem law_post (hl : laidOutB P = true) {tb : TypeId} (hbool : P.underlying tb = some .bool) {f : Func} {s : ChangeSpec} {W W' : World} {args : Array Value} {ds gs : List (DataW H)} {before : List MemPlace}
    (hvars : s.vars = []) (hW : DataW.Whole enc P f.params.toList s.vars false W args.toList ds gs before)
    (hts : (f.params.toList.all fun t => P.readableRec t && decide (t < P.types.size)) = true) (hrt : f.resultTypes = #[tb])
    (hres : (s.fn H (ds ++ gs)).results = [.lit (.bool true)]) (hargs : (s.fn H (ds ++ gs)).args = ds) (hvs : (s.fn H (ds ++ gs)).vars = []) (hb : Below W.heap.size W W') :
    s.post enc P f false true false false W args (.bool true) W' := by
  have hW' := hW
  obtain ⟨p, q, hA, hV, rfl, hfz, hnd⟩ := hW
  rw [hvars] at hV
  obtain ⟨rfl, rfl⟩ := trodVars_none hV
  have hlt : ∀ x ∈ p, x.block < W.heap.size := fun x hx => hW'.lt x (by simp [hx])
  refine post_of_below (pa := p) (pv := []) hW' ?_ ?_ ?_ rfl hb ?_
  · intro b sp hd
    rw [hres, hrt]
    exact trodAll_cons_mk (shut_bool hbool _) trodAll_mk0
  · intro sp hsp
    rw [hargs]
    exact trodAll_stays hl hb _ _ _ _ hts hA hlt (fun x hx => hsp x (by simp [hx]))
  · intro sp hsp
    rw [hvars, hvs]
    rfl
  · exact ok_one hrt rfl (okWide_bool_mk hbool _)
end

end Go.Proofs.Ytliccofjlheceaa
namespace Go.Proofs.Ytliccofjlheceaa

theorem ofB_cons (c : UInt8) (l : List UInt8) : ofB (c :: l) = c / 16 :: c % 16 :: ofB l := rfl
theorem up (a b : UInt8) (ha : a ≤ 15) (hb : b ≤ 15) : (16 * a + b) / 16 = a ∧ (16 * a + b) % 16 = b := by
  have h1 := UInt8.le_iff_toNat_le.1 ha
  have h2 := UInt8.le_iff_toNat_le.1 hb
  constructor <;> apply UInt8.toNat_inj.1
  · rw [UInt8.toNat_div, UInt8.toNat_add, UInt8.toNat_mul]; simp at *; omega
  · rw [UInt8.toNat_mod, UInt8.toNat_add, UInt8.toNat_mul]; simp at *; omega
theorem ofB_joinB : ∀ (l : List UInt8), halvesB l = true → l.length % 2 = 0 → ofB (joinB l) = l
  | a :: b :: r, h, k => by
    have ha := halvesB_le _ h a (by simp)
    have hb := halvesB_le _ h b (by simp)
    have hr : halvesB r = true := halvesB_dropP (l := a :: b :: r) h 2
    rw [joinB, ofB_cons, (up a b ha hb).1, (up a b ha hb).2, ofB_joinB r hr (by simp at k; omega)]
  | [a], _, k => by simp at k
  | [], _, _ => rfl
theorem at8_b8 (x : Int) (h0 : 0 ≤ x) (h1 : x ≤ 255) (l : List UInt8) : at8 (b8 x :: l) 0 = x := by
  show (((b8 x).toNat : Nat) : Int) = x
  unfold b8; rw [UInt8.toNat_ofNat']; omega
theorem b8_at0 (c : UInt8) (l : List UInt8) : b8 (at8 (c :: l) 0) = c := b8_nat c

/-- What is packed is unpacked as it was. -/
theorem unpack_pack (l : List UInt8) (leaf : Bool) (h : halvesB l = true) : unpackE (packL l leaf) = 0 ∧ unpackB (packL l leaf) = leaf ∧ unpackL (packL l leaf) = l ∧ (packL l leaf).length = l.length / 2 + 1 := by
  by_cases hodd : l.length % 2 = 1
  · have e := packL_odd h hodd leaf _ rfl
    have a0 := at8_lo l 0
    have a1 := halvesB_at l h 0
    obtain ⟨x, hx⟩ : ∃ x : Int, x = (if leaf = true then 32 else 0) + 16 + at8 l 0 := ⟨_, rfl⟩
    have hx' : 0 ≤ x ∧ x ≤ 63 ∧ x / 16 % 2 = 1 ∧ x % 16 = at8 l 0 ∧ (x / 32 % 2 = 1 ↔ leaf = true) := by subst hx; cases leaf <;> simp <;> omega
    rw [← hx] at e
    rw [e, List.singleton_append]
    have hat := at8_b8 x (by omega) (by omega) (joinB (l.drop 1))
    have hok : unpackOk (b8 x :: joinB (l.drop 1)) = true := by unfold unpackOk; rw [hat]; simp [hx'.2.2.1]; omega
    obtain ⟨u1, u2, u3⟩ := unpack_ok (b := b8 x :: joinB (l.drop 1)) (by simp) hok
    rw [hat] at u2 u3
    refine ⟨u1, ?_, ?_, ?_⟩
    · rw [u2, Bool.eq_iff_iff]; simp [hx'.2.2.2.2]
    · rw [u3, if_pos hx'.2.2.1, hx'.2.2.2.1]
      rw [show (b8 x :: joinB (l.drop 1)).drop 1 = joinB (l.drop 1) from rfl, ofB_joinB _ (halvesB_dropP h 1) (by rw [List.length_drop]; omega)]
      rcases l with _ | ⟨c, l⟩
      · simp at hodd
      · rw [b8_at0]; rfl
    · rw [List.length_cons, joinB_length, List.length_drop]; omega
  · have e := packL_even h (by omega) leaf _ rfl
    obtain ⟨x, hx⟩ : ∃ x : Int, x = if leaf = true then 32 else 0 := ⟨_, rfl⟩
    have hx' : 0 ≤ x ∧ x ≤ 63 ∧ x / 16 % 2 = 0 ∧ x % 16 = 0 ∧ (x / 32 % 2 = 1 ↔ leaf = true) := by subst hx; cases leaf <;> simp
    rw [← hx] at e
    rw [e, List.singleton_append]
    have hat := at8_b8 x (by omega) (by omega) (joinB l)
    have hok : unpackOk (b8 x :: joinB l) = true := by unfold unpackOk; rw [hat]; simp [hx'.2.2.2.1]; omega
    obtain ⟨u1, u2, u3⟩ := unpack_ok (b := b8 x :: joinB l) (by simp) hok
    rw [hat] at u2 u3
    refine ⟨u1, ?_, ?_, ?_⟩
    · rw [u2, Bool.eq_iff_iff]; simp [hx'.2.2.2.2]
    · rw [u3, if_neg (by omega)]
      rw [show (b8 x :: joinB l).drop 1 = joinB l from rfl, ofB_joinB _ h (by omega)]; rfl
    · rw [List.length_cons, joinB_length]

end Go.Proofs.Ytliccofjlheceaa
namespace Go.Proofs.Ytliccofjlheceaa
open Go.RowKit

theorem unpackL_len (b : List UInt8) : (unpackL b).length ≤ 2 * b.length := by
  unfold unpackL
  split
  · simp
  · split
    · rw [List.length_append, ofB_length, List.length_drop]
      split <;> simp <;> omega
    · simp
end Go.Proofs.Ytliccofjlheceaa
namespace Go.Proofs.Ytliccofjlheceaa
open Go.RowKit
theorem is_eqfn : isFn Try.prog 91 = true := by kernel_rfl
/-- Pair by pair. -/
def All2 (P : Nd → Nd → Prop) (a b : List Nd) : Prop := a.length = b.length ∧ ∀ (i : Nat) (x y : Nd), a[i]? = some x → b[i]? = some y → P x y
theorem all2_eq {a b : List Nd} : All2 (fun x y => x = y) a b ↔ a = b := by
  constructor
  · rintro ⟨h1, h2⟩
    refine List.ext_getElem? fun i => ?_
    by_cases hi : i < a.length
    · have e1 := List.getElem?_eq_getElem hi
      have e2 := List.getElem?_eq_getElem (l := b) (i := i) (by omega)
      rw [e1, e2, h2 i _ _ e1 e2]
    · rw [List.getElem?_eq_none (by omega), List.getElem?_eq_none (by omega)]
  · rintro rfl
    exact ⟨rfl, fun i x y h1 h2 => by rw [h1] at h2; injection h2⟩
set_option maxRecDepth 100000 in
set_option maxHeartbeats 1000000 in
theorem eqfn_any (F : Nat) (hF : isFn Try.prog F = true) (P : Nd → Nd → Prop) (Q : World → List (Option Nat) → Prop) (ks ls : List Nd) (gs : List (Option Nat)) (w : World) (A B : Option Addr) (n c m d : Nat)
    (hQ : ∀ W L R fs, St w gs W L R fs → Q W (own L R gs))
    (ih : ∀ (i : Nat) (a b : Nd), ks[i]? = some a → ls[i]? = some b → ∀ (gs : List (Option Nat)) (w : World) (ca cb : List Value), Q w gs → RdL w (Fd w gs) (dN a) ca → RdL w (Fd w gs) (dN b) cb → (∀ b, some b ∈ gs → b < w.heap.size) → Calls Try.prog F #[.agg ca.toArray, .agg cb.toArray] w fun e w' => ∃ q : Bool, e = .returned (.bool q) ∧ (q = true ↔ P a b) ∧ Below w.heap.size w w')
    (ha : RdD w (Fd w gs) (dKs ks) (.slice A n c)) (hb : RdD w (Fd w gs) (dKs ls) (.slice B m d)) (hgs : ∀ b, some b ∈ gs → b < w.heap.size) (hz : n ≤ 1000000000 ∧ m ≤ 1000000000) :
    Calls Try.prog 91 #[.slice A n c, .slice B m d, .func (.func F) #[] #[]] w fun e w' => ∃ q : Bool, e = .returned (.bool q) ∧ (q = true ↔ All2 P ks ls) ∧ Below w.heap.size w w' := by
  refine calls_ev (args := [.slice A n c, .slice B m d, .func (.func F) #[] #[]]) mixed Try.func91 rfl (by kernel_rfl) ?_
  have en := ha.slen
  have em := hb.slen
  subst en; subst em
  have M := ((St.start hgs).addD hb).addD ha
  clear ha hb
  refine p_len sln rfl ?_
  refine p_len sln rfl ?_
  refine p_ne rfl rfl (fun hl => ?_) (fun hl => ?_)
  rotate_left
  · exact ⟨false, rfl, ⟨(fun h => by cases h), fun h => absurd (by rw [h.1]) hl⟩, M.below⟩
  have hl' : ks.length = ls.length := by omega
  refine p_len sln rfl ?_
  refine lp Nat (fun i W => i ≤ ks.length ∧ (∀ (j : Nat) (x y : Nd), j < i → ks[j]? = some x → ls[j]? = some y → P x y) ∧ St w gs W [] [] [.dat false [dKs ks] [.slice A ks.length c], .dat false [dKs ls] [.slice B ls.length d]])
    (fun i => [(1, .slice B ls.length d), (2, .func (.func F) #[] #[]), (15, .slice A ks.length c), (16, .int .i64 ks.length), (17, .int .i64 i)]) (fun i => ks.length - i) 0 ⟨Nat.zero_le _, (fun j x y h => absurd h (by omega)), M⟩ (by repeat (first | exact trivial | refine ⟨rfl, ?_⟩)) ?_
  clear M
  rintro i E W ⟨hi, hP, M⟩
  refine p_lt rfl rfl (fun hlt => ?_) (fun hge => ?_)
  · have hlt' : i < ks.length := by omega
    obtain ⟨x, hx⟩ : ∃ x, ks[i]? = some x := ⟨_, List.getElem?_eq_getElem hlt'⟩
    obtain ⟨y, hy⟩ : ∃ y, ls[i]? = some y := ⟨_, List.getElem?_eq_getElem (by omega)⟩
    obtain ⟨b1, o1, xs, rfl, hxl, M'⟩ := M.kid (M.d1 0 rfl) hx
    replace M := M'; clear M'
    obtain ⟨b2, o2, ys, rfl, hyl, M'⟩ := M.kid (M.d1 3 rfl) hy
    replace M := M'; clear M'
    obtain ⟨Ap5, cp5, Av5, cv5, Ak5, ck5, Ah5, ch5, rfl, -⟩ := (M.da 3 rfl).node
    obtain ⟨Ap6, cp6, Av6, cv6, Ak6, ck6, Ah6, ch6, rfl, -⟩ := (M.da 1 rfl).node
    refine p_at sln rfl rfl rfl (by omega) ?_
    refine v_loadN (ncs x Ap5 cp5 Av5 cv5 Ak5 ck5 Ah5 ch5) agg_nd rfl hxl (M.lc 2 rfl) ?_
    refine s_alloc (zN) M al_nd ?_
    clear M
    rintro g8 W M
    first | refine s_storeA 0 (ncs x Ap5 cp5 Av5 cv5 Ak5 ck5 Ah5 ch5) M rfl (by kernel_rfl) rfl rfl rfl (all1 rfl) rfl ?_ | refine s_storeA 1 (ncs x Ap5 cp5 Av5 cv5 Ak5 ck5 Ah5 ch5) M rfl (by kernel_rfl) rfl rfl rfl (all1 rfl) rfl ?_ | refine s_storeA 2 (ncs x Ap5 cp5 Av5 cv5 Ak5 ck5 Ah5 ch5) M rfl (by kernel_rfl) rfl rfl rfl (all1 rfl) rfl ?_ | refine s_storeA 3 (ncs x Ap5 cp5 Av5 cv5 Ak5 ck5 Ah5 ch5) M rfl (by kernel_rfl) rfl rfl rfl (all1 rfl) rfl ?_
    clear M
    rintro W M
    dsimp only [setL] at M
    refine p_at sln rfl rfl rfl (by omega) ?_
    refine v_loadN (ncs y Ap6 cp6 Av6 cv6 Ak6 ck6 Ah6 ch6) agg_nd rfl hyl (M.lc 0 rfl) ?_
    refine s_alloc (zN) M al_nd ?_
    clear M
    rintro g9 W M
    first | refine s_storeA 0 (ncs y Ap6 cp6 Av6 cv6 Ak6 ck6 Ah6 ch6) M rfl (by kernel_rfl) rfl rfl rfl (all1 rfl) rfl ?_ | refine s_storeA 1 (ncs y Ap6 cp6 Av6 cv6 Ak6 ck6 Ah6 ch6) M rfl (by kernel_rfl) rfl rfl rfl (all1 rfl) rfl ?_ | refine s_storeA 2 (ncs y Ap6 cp6 Av6 cv6 Ak6 ck6 Ah6 ch6) M rfl (by kernel_rfl) rfl rfl rfl (all1 rfl) rfl ?_ | refine s_storeA 3 (ncs y Ap6 cp6 Av6 cv6 Ak6 ck6 Ah6 ch6) M rfl (by kernel_rfl) rfl rfl rfl (all1 rfl) rfl ?_
    clear M
    rintro W M
    dsimp only [setL] at M
    refine v_loadN (ncs x Ap5 cp5 Av5 cv5 Ak5 ck5 Ah5 ch5) agg_nd rfl hxl (M.run 1 rfl) ?_
    refine v_loadN (ncs y Ap6 cp6 Av6 cv6 Ak6 ck6 Ah6 ch6) agg_nd rfl hyl (M.run 0 rfl) ?_
    refine cc hF (ih i x y hx hy _ _ _ _ (hQ _ _ _ _ M) (M.da 3 rfl) (M.da 1 rfl) M.olt) ?_
    rintro e W ⟨q, rfl, hq, hb⟩
    replace M := M.call hb
    refine ⟨_, rfl, ?_⟩
    refine p_not rfl ?_
    cases q with
    | false =>
      exact ⟨false, rfl, ⟨(fun h => by cases h), fun h => absurd (hq.2 (h.2 i x y hx hy)) (by decide)⟩, M.below⟩
    | true =>
      refine p_addN (b := 1) rfl rfl (by omega) ?_
      refine ⟨i + 1, ⟨by omega, fun j a b hj ha hb => ?_, (M.dropL.dropL).fsub _ (by simp)⟩, (by repeat (first | exact trivial | refine ⟨rfl, ?_⟩)), by omega⟩
      by_cases e : j = i
      · subst e
        rw [hx] at ha; rw [hy] at hb
        injection ha with ha; injection hb with hb
        subst ha; subst hb
        exact hq.1 rfl
      · exact hP j a b (by omega) ha hb
  · exact ⟨true, rfl, ⟨fun _ => ⟨hl', fun j x y hx hy => hP j x y (by have := (List.getElem?_eq_some_iff.1 hx).1; omega) hx hy⟩, fun _ => rfl⟩, M.below⟩
theorem is_nsame : isFn Try.prog 64 = true := by kernel_rfl
def NSameOk (a : Nd) : Prop := ∀ (b : Nd) (gs : List (Option Nat)) (w : World) (ca cb : List Value), RdL w (Fd w gs) (dN a) ca → RdL w (Fd w gs) (dN b) cb → (∀ b, some b ∈ gs → b < w.heap.size) → sz b ≤ 1000000000 →
  Calls Try.prog 64 #[.agg ca.toArray, .agg cb.toArray] w fun e w' => ∃ q : Bool, e = .returned (.bool q) ∧ (q = true ↔ a = b) ∧ Below w.heap.size w w'
set_option maxRecDepth 100000 in
set_option maxHeartbeats 1000000 in
theorem nsame_step (N : Nat) (ih : ∀ k : Nd, sz k < N → NSameOk k) (a : Nd) (ht : sz a ≤ N) (hN : N ≤ 1000000000) : NSameOk a := by
  intro b gs w ca cb hra hrb hgs hzb
  refine calls_ev (args := [.agg ca.toArray, .agg cb.toArray]) mixed Try.func64 rfl (by kernel_rfl) ?_
  obtain ⟨Ap, cp, Av, cv, Ak, ck, Ah, ch, rfl, r1, r3, r4, r5⟩ := hra.node
  obtain ⟨Bp, dp, Bv, dv, Bk, dk, Bh, dh, rfl, s1, s3, s4, s5⟩ := hrb.node
  have hsz := sz_eq a
  have hsl := szs_len a.kids
  have hsz' := sz_eq b
  have hsl' := szs_len b.kids
  have M := ((((((((St.start hgs).addD r5).addD r3).addD r1).addD s5).addD s3).addD s1).addD s4).addD r4
  clear r1 r3 r4 r5 hra s1 s3 s4 s5 hrb
  refine s_box (ncs a Ap cp Av cv Ak ck Ah ch) M rfl ?_
  clear M
  rintro g2 W M
  refine s_box (ncs b Bp dp Bv dv Bk dk Bh dh) M rfl ?_
  clear M
  rintro g3 W M
  have hB := M.B 0 rfl
  have hC := M.B 1 rfl
  unfold ncs at hB hC
  repeat' first
    | (refine p_fld fN0 rfl ?_)
    | (refine v_load agg_int rfl (hB.at_ rfl) ?_)
    | (refine v_load agg_int rfl (hC.at_ rfl) ?_)
  refine p_eq rfl rfl (fun hk => ?_) (fun hk => ?_)
  rotate_left
  ·
    exact ⟨false, rfl, ⟨(fun h => by cases h), fun h => absurd (by rw [h]) hk⟩, M.below⟩
  repeat' first
    | (refine p_fld fN2 rfl ?_)
    | (refine v_load agg_bo rfl (hB.at_ rfl) ?_)
    | (refine v_load agg_bo rfl (hC.at_ rfl) ?_)
  refine p_beqC u_bool rfl rfl (fun hh => ?_) (fun hh => ?_)
  rotate_left
  ·
    exact ⟨false, rfl, ⟨(fun h => by cases h), fun h => absurd (by rw [h]) hh⟩, M.below⟩
  repeat' first
    | (refine p_fld fN1 rfl ?_)
    | (refine v_load agg_b rfl (hB.at_ rfl) ?_)
    | (refine v_load agg_b rfl (hC.at_ rfl) ?_)
  refine cc is_beq (beq_any _ _ _ _ cp dp _ _ a.path b.path _ (M.rdb 5 rfl).2.2 (M.rdb 2 rfl).2.2) ?_
  rintro e W' ⟨rfl, rfl⟩
  refine ⟨_, rfl, ?_⟩
  by_cases hp : a.path = b.path
  rotate_left
  · rw [decide_eq_false hp]
    exact ⟨false, rfl, ⟨(fun h => by cases h), fun h => absurd (by rw [h]) hp⟩, M.below⟩
  rw [decide_eq_true hp]
  repeat' first
    | (refine p_fld fN3 rfl ?_)
    | (refine v_load agg_b rfl (hB.at_ rfl) ?_)
    | (refine v_load agg_b rfl (hC.at_ rfl) ?_)
  refine cc is_beq (beq_any _ _ _ _ cv dv _ _ a.val b.val _ (M.rdb 6 rfl).2.2 (M.rdb 3 rfl).2.2) ?_
  rintro e W' ⟨rfl, rfl⟩
  refine ⟨_, rfl, ?_⟩
  by_cases hv : a.val = b.val
  rotate_left
  · rw [decide_eq_false hv]
    exact ⟨false, rfl, ⟨(fun h => by cases h), fun h => absurd (by rw [h]) hv⟩, M.below⟩
  rw [decide_eq_true hv]
  repeat' first
    | (refine p_fld fN5 rfl ?_)
    | (refine v_load agg_b rfl (hB.at_ rfl) ?_)
    | (refine v_load agg_b rfl (hC.at_ rfl) ?_)
  refine cc is_beq (beq_any _ _ _ _ ch dh _ _ a.hash b.hash _ (M.rdb 7 rfl).2.2 (M.rdb 4 rfl).2.2) ?_
  rintro e W' ⟨rfl, rfl⟩
  refine ⟨_, rfl, ?_⟩
  by_cases hhs : a.hash = b.hash
  rotate_left
  · rw [decide_eq_false hhs]
    exact ⟨false, rfl, ⟨(fun h => by cases h), fun h => absurd (by rw [h]) hhs⟩, M.below⟩
  rw [decide_eq_true hhs]
  repeat' first
    | (refine p_fld fN4 rfl ?_)
    | (refine v_load agg_ns rfl (hB.at_ rfl) ?_)
    | (refine v_load agg_ns rfl (hC.at_ rfl) ?_)
  refine cc is_eqfn (eqfn_any _ is_nsame (fun x y => x = y) (fun _ _ => True) a.kids b.kids _ _ Ak Bk _ ck _ dk (fun _ _ _ _ _ => trivial) (fun i x y hx hy gs w ca cb _ h1 h2 h3 => ?_) (M.d1 0 rfl) (M.d1 1 rfl) M.olt ⟨by omega, by omega⟩) ?_
  · have hxz := szs_mem (List.mem_of_getElem? hx)
    have hyz := szs_mem (List.mem_of_getElem? hy)
    exact ih x (by omega) y gs w ca cb h1 h2 h3 (by omega)
  · rintro e W ⟨q, rfl, hq, hb⟩
    replace M := M.call hb
    refine ⟨_, rfl, ?_⟩
    refine ⟨q, rfl, ⟨fun e => ?_, fun e => hq.2 (all2_eq.2 (by rw [e]))⟩, M.below⟩
    have hks := all2_eq.1 (hq.1 e)
    cases a; cases b
    simp only [Nd.kind, Nd.has, Nd.path, Nd.val, Nd.hash, Nd.kids] at hk hh hp hv hhs hks
    rw [hk, hh, hp, hv, hhs, hks]
theorem nsame_any : ∀ (N : Nat), N ≤ 1000000000 → ∀ t : Nd, sz t < N → NSameOk t
  | 0, _, t, h => by omega
  | N + 1, hN, t, h => nsame_step N (fun k hk => nsame_any N (by omega) k hk) t (by omega) (by omega)
end Go.Proofs.Ytliccofjlheceaa
namespace Go.Proofs.Ytliccofjlheceaa
open Go.RowKit
mutual
/-- How many nodes, how many stubs. -/
def cntP : Nd → Nat × Nat
  | .mk k _ _ _ ks _ => ((if k = 0 then 0 else 1) + (cntsP ks).1, (if k = 4 then 1 else 0) + (cntsP ks).2)
def cntsP : List Nd → Nat × Nat
  | [] => (0, 0)
  | t :: ts => ((cntP t).1 + (cntsP ts).1, (cntP t).2 + (cntsP ts).2)
end
theorem cntP_eq (t : Nd) : cntP t = ((if t.kind = 0 then 0 else 1) + (cntsP t.kids).1, (if t.kind = 4 then 1 else 0) + (cntsP t.kids).2) := by cases t; rw [cntP]; rfl
theorem cntsP_snoc (a : List Nd) (k : Nd) : cntsP (a ++ [k]) = ((cntsP a).1 + (cntP k).1, (cntsP a).2 + (cntP k).2) := by
  induction a with
  | nil => rw [List.nil_append, cntsP, cntsP, cntsP]; simp
  | cons x a ih =>
    rw [List.cons_append, cntsP, cntsP, ih]
    dsimp only
    rw [Nat.add_assoc, Nat.add_assoc]
mutual
theorem cntP_sz : ∀ t : Nd, (cntP t).1 + 5 ≤ sz t ∧ (cntP t).2 + 5 ≤ sz t
  | .mk k p h v ks hs => by
    have := cntsP_sz ks
    rw [cntP, sz]
    constructor <;> dsimp only <;> split <;> omega
theorem cntsP_sz : ∀ ks : List Nd, (cntsP ks).1 ≤ szs ks ∧ (cntsP ks).2 ≤ szs ks
  | [] => by rw [cntsP]; simp
  | t :: ts => by
    have h1 := cntP_sz t
    have h2 := cntsP_sz ts
    rw [cntsP, szs]
    constructor <;> dsimp only <;> omega
end
theorem szs_appC : ∀ a b : List Nd, szs (a ++ b) = szs a + szs b
  | [], b => by rw [List.nil_append, szs, Nat.zero_add]
  | t :: a, b => by rw [List.cons_append, szs, szs, szs_appC a b, Nat.add_assoc]
theorem is_cnt1 : isFn Try.prog 61 = true := by kernel_rfl
theorem ag_fnd : aggOf Try.prog 50 = some (false, 1) := by kernel_rfl
theorem sz_fnd : (Try.prog.info? 50).map (·.size) = some 1 := by kernel_rfl
theorem sz_intt : (Try.prog.info? 3).map (·.size) = some 1 := by kernel_rfl
def fv (g4 g5 g6 : Nat) : Value := .func (.func 61) #[] #[.pointer (some ⟨g4, 0, none⟩), .pointer (some ⟨g5, 0, none⟩), .pointer (some ⟨g6, 0, none⟩)]
def CntOk (t : Nd) : Prop := ∀ (w W : World) (gs : List (Option Nat)) (g4 g5 g6 a s : Nat) (L : Lc) (R : List Row) (fs : List Fact) (cs : List Value), a + sz t ≤ 1000000000000000 → s + sz t ≤ 1000000000000000 →
  RdL W (Fd W (own ((g6, 50, [fv g4 g5 g6]) :: (g5, 3, [.int .i64 (s : Nat)]) :: (g4, 3, [.int .i64 (a : Nat)]) :: L) R gs)) (dN t) cs →
  St w gs W ((g6, 50, [fv g4 g5 g6]) :: (g5, 3, [.int .i64 (s : Nat)]) :: (g4, 3, [.int .i64 (a : Nat)]) :: L) R fs →
  Calls Try.prog 61 #[.agg cs.toArray, .pointer (some ⟨g4, 0, none⟩), .pointer (some ⟨g5, 0, none⟩), .pointer (some ⟨g6, 0, none⟩)] W fun e W' => (∃ v, e = .returned v) ∧
    St w gs W' ((g6, 50, [fv g4 g5 g6]) :: (g5, 3, [.int .i64 (s + (cntP t).2 : Nat)]) :: (g4, 3, [.int .i64 (a + (cntP t).1 : Nat)]) :: L) R fs
set_option maxRecDepth 100000 in
set_option maxHeartbeats 2000000 in
theorem cnt_step (N : Nat) (ih : ∀ k : Nd, sz k < N → CntOk k) (t : Nd) (ht : sz t ≤ N) : CntOk t := by
  intro w W gs g4 g5 g6 a s L R fs cs hza hzs hr M
  refine calls_ev (args := [.agg cs.toArray, .pointer (some ⟨g4, 0, none⟩), .pointer (some ⟨g5, 0, none⟩), .pointer (some ⟨g6, 0, none⟩)]) mixed Try.func61 rfl (by kernel_rfl) ?_
  have hsz := sz_eq t
  have hsl := szs_len t.kids
  obtain ⟨Ap, cp, Av, cv, Ak, ck, Ah, ch, rfl, -, -, r4, -⟩ := hr.node
  replace M := M.addD r4
  clear r4 hr
  have hcq := cntP_eq t
  obtain ⟨a1, ha1⟩ : ∃ a1, a1 = a + (if t.kind = 0 then 0 else 1) := ⟨_, rfl⟩
  obtain ⟨s1, hs1⟩ : ∃ s1, s1 = s + (if t.kind = 4 then 1 else 0) := ⟨_, rfl⟩
  have ha1' : a1 ≤ a + 1 := by rw [ha1]; split <;> omega
  have hs1' : s1 ≤ s + 1 := by rw [hs1]; split <;> omega
  refine ev_assoc (ev_assoc ?_)
  refine cutS Nat (fun gb W => St w gs W ((g6, 50, [fv g4 g5 g6]) :: (g5, 3, [.int .i64 (s1 : Nat)]) :: (g4, 3, [.int .i64 (a1 : Nat)]) :: L) R (.loc ⟨gb, 0, none⟩ (ncs t Ap cp Av cv Ak ck Ah ch) :: .dat false [dKs t.kids] [.slice Ak t.kids.length ck] :: fs))
    (fun gb => [(1, .pointer (some ⟨g4, 0, none⟩)), (2, .pointer (some ⟨g5, 0, none⟩)), (3, .pointer (some ⟨g6, 0, none⟩)), (4, .pointer (some ⟨gb, 0, none⟩))]) ?_ ?_
  ·
    refine s_box (ncs t Ap cp Av cv Ak ck Ah ch) M rfl ?_
    clear M
    rintro gb W M
    replace M := M.frzN
    refine p_fld fN0 rfl ?_
    refine v_load agg_int rfl (M.lc 0 rfl 0 _ rfl) ?_
    refine p_ne rfl rfl (fun h0 => ?_) (fun h0 => ?_)
    · rw [if_pos h0, Nat.add_zero] at ha1
      subst ha1
      refine p_fld fN0 rfl ?_
      refine v_load agg_int rfl (M.lc 0 rfl 0 _ rfl) ?_
      refine p_eq rfl rfl (fun h4 => ?_) (fun h4 => ?_)
      · rw [if_pos h4] at hs1
        refine v_load agg_int rfl ((M.B 1 rfl).at_ rfl) ?_
        refine p_addN (b := 1) rfl rfl (by omega) ?_
        rw [← hs1]
        refine s_set 1 (.int .i64 (s1 : Nat)) [.int .i64 (s1 : Nat)] M rfl sz_intt rfl rfl rfl (Nat.le_of_ble_eq_true rfl) rfl ?_
        clear M; rintro W M
        dsimp only [setL] at M
        exact ⟨gb, M, (by repeat (first | exact trivial | refine ⟨rfl, ?_⟩))⟩
      · rw [if_neg h4, Nat.add_zero] at hs1
        subst hs1
        exact ⟨gb, M, (by repeat (first | exact trivial | refine ⟨rfl, ?_⟩))⟩
    · rw [if_neg h0] at ha1
      refine v_load agg_int rfl ((M.B 2 rfl).at_ rfl) ?_
      refine p_addN (b := 1) rfl rfl (by omega) ?_
      rw [← ha1]
      refine s_set 2 (.int .i64 (a1 : Nat)) [.int .i64 (a1 : Nat)] M rfl sz_intt rfl rfl rfl (Nat.le_of_ble_eq_true rfl) rfl ?_
      clear M; rintro W M
      dsimp only [setL] at M
      refine p_fld fN0 rfl ?_
      refine v_load agg_int rfl (M.lc 0 rfl 0 _ rfl) ?_
      refine p_eq rfl rfl (fun h4 => ?_) (fun h4 => ?_)
      · rw [if_pos h4] at hs1
        refine v_load agg_int rfl ((M.B 1 rfl).at_ rfl) ?_
        refine p_addN (b := 1) rfl rfl (by omega) ?_
        rw [← hs1]
        refine s_set 1 (.int .i64 (s1 : Nat)) [.int .i64 (s1 : Nat)] M rfl sz_intt rfl rfl rfl (Nat.le_of_ble_eq_true rfl) rfl ?_
        clear M; rintro W M
        dsimp only [setL] at M
        exact ⟨gb, M, (by repeat (first | exact trivial | refine ⟨rfl, ?_⟩))⟩
      · rw [if_neg h4, Nat.add_zero] at hs1
        subst hs1
        exact ⟨gb, M, (by repeat (first | exact trivial | refine ⟨rfl, ?_⟩))⟩
  · clear M
    rintro gb E1 W1 M
    refine p_fld fN4 rfl ?_
    refine v_load agg_ns rfl (M.lc 0 rfl 4 _ rfl) ?_
    refine p_len sln rfl ?_
    refine lp Nat (fun i W => i ≤ t.kids.length ∧ St w gs W ((g6, 50, [fv g4 g5 g6]) :: (g5, 3, [.int .i64 (s1 + (cntsP (t.kids.take i)).2 : Nat)]) :: (g4, 3, [.int .i64 (a1 + (cntsP (t.kids.take i)).1 : Nat)]) :: L) R (.dat false [dKs t.kids] [.slice Ak t.kids.length ck] :: fs))
      (fun i => [(3, .pointer (some ⟨g6, 0, none⟩)), (18, .slice Ak t.kids.length ck), (19, .int .i64 t.kids.length), (20, .int .i64 i)]) (fun i => t.kids.length - i) 0 ⟨Nat.zero_le _, M.fsub _ (fun f h => List.mem_cons_of_mem _ h)⟩ (by repeat (first | exact trivial | refine ⟨rfl, ?_⟩)) ?_
    clear M
    rintro i E2 W2 ⟨hi, M⟩
    refine p_lt rfl rfl (fun hlt => ?_) (fun hge => ?_)
    · obtain ⟨k, hki⟩ : ∃ k, t.kids[i]? = some k := ⟨_, List.getElem?_eq_getElem (by omega)⟩
      have hki1 := List.getElem?_eq_some_iff.1 hki
      have hkz := szs_mem (List.mem_of_getElem? hki)
      have htk1 : t.kids.take (i + 1) = t.kids.take i ++ [k] := by rw [List.take_succ_eq_append_getElem hki1.1, hki1.2]
      have hcs := cntsP_snoc (t.kids.take i) k
      rw [← htk1] at hcs
      have hcz := cntsP_sz (t.kids.take i)
      have hsp : szs (t.kids.take i) + sz k ≤ szs t.kids := by
        have e : t.kids = t.kids.take (i + 1) ++ t.kids.drop (i + 1) := (List.take_append_drop ..).symm
        have h := congrArg szs e
        rw [htk1, szs_appC, szs_appC, szs, szs] at h
        omega
      obtain ⟨b, off, es, e0, hel, M'⟩ := M.kid (M.d1 0 rfl) hki
      replace M := M'; clear M'
      obtain ⟨Ap5, cp5, Av5, cv5, Ak5, ck5, Ah5, ch5, rfl, -⟩ := (M.da 1 rfl).node
      refine p_at sln (by show (Value.slice Ak t.kids.length ck) = _; rw [e0]) rfl rfl (by omega) ?_
      refine v_loadN (ncs k Ap5 cp5 Av5 cv5 Ak5 ck5 Ah5 ch5) agg_nd rfl hel (M.lc 0 rfl) ?_
      refine s_alloc (zN) M al_nd ?_
      clear M
      rintro g9 W M
      first | refine s_storeA 0 (ncs k Ap5 cp5 Av5 cv5 Ak5 ck5 Ah5 ch5) M rfl (by kernel_rfl) rfl rfl rfl (all1 rfl) rfl ?_ | refine s_storeA 1 (ncs k Ap5 cp5 Av5 cv5 Ak5 ck5 Ah5 ch5) M rfl (by kernel_rfl) rfl rfl rfl (all1 rfl) rfl ?_ | refine s_storeA 2 (ncs k Ap5 cp5 Av5 cv5 Ak5 ck5 Ah5 ch5) M rfl (by kernel_rfl) rfl rfl rfl (all1 rfl) rfl ?_ | refine s_storeA 3 (ncs k Ap5 cp5 Av5 cv5 Ak5 ck5 Ah5 ch5) M rfl (by kernel_rfl) rfl rfl rfl (all1 rfl) rfl ?_
      clear M
      rintro W M
      dsimp only [setL] at M
      replace M := M.frzN
      refine v_load ag_fnd rfl ((M.B 0 rfl).at_ rfl) ?_
      refine v_loadN (ncs k Ap5 cp5 Av5 cv5 Ak5 ck5 Ah5 ch5) agg_nd rfl hel (M.lc 0 rfl) ?_
      refine cc is_cnt1 (ih k (by omega) w _ gs g4 g5 g6 _ _ L R _ _ (by omega) (by omega) (M.da 2 rfl) M) ?_
      clear M
      rintro e W ⟨⟨v, rfl⟩, M⟩
      refine ⟨_, rfl, ?_⟩
      refine p_addN (b := 1) rfl rfl (by omega) ?_
      refine ⟨i + 1, ⟨by omega, ?_⟩, (by repeat (first | exact trivial | refine ⟨rfl, ?_⟩)), by omega⟩
      rw [hcs]
      dsimp only
      rw [← Nat.add_assoc, ← Nat.add_assoc]
      exact M.fsub _ (by intro f hf; simp only [List.mem_cons] at hf ⊢; rcases hf with h | h <;> simp [h])
    · have hin : i = t.kids.length := by omega
      subst hin
      rw [List.take_of_length_le (Nat.le_refl _)] at M
      refine ⟨⟨_, rfl⟩, ?_⟩
      rw [hcq]
      dsimp only
      rw [← Nat.add_assoc, ← Nat.add_assoc, ← ha1, ← hs1]
      exact M.fsub _ (fun f h => List.mem_cons_of_mem _ h)
theorem cnt_any : ∀ (N : Nat), ∀ t : Nd, sz t < N → CntOk t
  | 0, t, h => by omega
  | N + 1, t, h => cnt_step N (fun k hk => cnt_any N k hk) t (by omega)
set_option maxRecDepth 100000 in
set_option maxHeartbeats 2000000 in
theorem ncount_any (t : Nd) (ht : sz t ≤ 100000000000000) (gs : List (Option Nat)) (w : World) (cs : List Value) (hr : RdL w (Fd w gs) (dN t) cs) (hgs : ∀ b, some b ∈ gs → b < w.heap.size) :
    Calls Try.prog 44 #[.agg cs.toArray] w fun e w' => e = .returned (.tuple #[.int .i64 ((cntP t).1 : Nat), .int .i64 ((cntP t).2 : Nat)]) ∧ Below w.heap.size w w' := by
  refine calls_ev (args := [.agg cs.toArray]) mixed Try.func44 rfl (by kernel_rfl) ?_
  obtain ⟨Ap, cp, Av, cv, Ak, ck, Ah, ch, rfl, -⟩ := id hr.node
  have M := (St.start hgs).addL hr
  clear hr
  refine s_box (ncs t Ap cp Av cv Ak ck Ah ch) M rfl ?_
  clear M
  rintro g1 W M
  replace M := M.frzN
  refine s_alloc ([.int .i64 0]) M (by kernel_rfl) ?_
  clear M
  rintro g4 W M
  refine s_alloc ([.int .i64 0]) M (by kernel_rfl) ?_
  clear M
  rintro g5 W M
  refine s_set 1 (.int .i64 0) [.int .i64 0] M rfl sz_intt rfl rfl rfl (Nat.le_of_ble_eq_true rfl) rfl ?_
  clear M; rintro W M
  dsimp only [setL] at M
  refine s_set 0 (.int .i64 0) [.int .i64 0] M rfl sz_intt rfl rfl rfl (Nat.le_of_ble_eq_true rfl) rfl ?_
  clear M; rintro W M
  dsimp only [setL] at M
  refine s_alloc ([.nilFunc]) M (by kernel_rfl) ?_
  clear M
  rintro g6 W M
  refine p_fun (#[] : Array Operand) _ ?_
  refine s_set 0 (fv g4 g5 g6) [fv g4 g5 g6] M rfl sz_fnd rfl rfl rfl (Nat.le_of_ble_eq_true rfl) rfl ?_
  clear M; rintro W M
  dsimp only [setL] at M
  refine v_load ag_fnd rfl ((M.B 0 rfl).at_ rfl) ?_
  refine v_loadN (ncs t Ap cp Av cv Ak ck Ah ch) agg_nd rfl rfl (M.lc 0 rfl) ?_
  refine cc is_cnt1 (cnt_any 1000000000000000 t (by omega) w _ gs g4 g5 g6 0 0 [] [] _ _ (by omega) (by omega) (M.da 1 rfl) M) ?_
  clear M
  rintro e W ⟨⟨v, rfl⟩, M⟩
  refine ⟨_, rfl, ?_⟩
  rw [Nat.zero_add, Nat.zero_add] at M
  replace M := M.drew
  refine drT (Kp w gs [(g5, 3, [.int .i64 ((cntP t).2 : Nat)]), (g4, 3, [.int .i64 ((cntP t).1 : Nat)])] []) (.take 0 (.take 1 (.take 2 (.take 3 (.nil))))) (by kernel_rfl) (M.kp (by simp) (by simp)) ?_
  refine t_load agg_int rfl (fun W K => (K.B 1 rfl).at_ rfl) ?_
  refine t_load agg_int rfl (fun W K => (K.B 0 rfl).at_ rfl) ?_
  exact ⟨rfl, M.below⟩
end Go.Proofs.Ytliccofjlheceaa
namespace Go.Proofs.Ytliccofjlheceaa
theorem sum_mem {α : Type} (f : α → Nat) : ∀ {l : List α} {x : α}, x ∈ l → f x ≤ (l.map f).sum
  | y :: l, x, h => by
    rw [List.map_cons, List.sum_cons]
    rcases List.mem_cons.1 h with rfl | h
    · omega
    · have := sum_mem f h; omega
end Go.Proofs.Ytliccofjlheceaa
namespace Go.Proofs.Ytliccofjlheceaa
open Go.RowKit
structure PairsR where
  l : List Pr
  miss : Option (List UInt8)
  e : Int
end Go.Proofs.Ytliccofjlheceaa
namespace Go.Proofs.Ytliccofjlheceaa
open Go.RowKit
/-- A block that is marked as a string's. -/
theorem St.mark {w W W' : World} {gs : List (Option Nat)} {L : Lc} {R : List Row} {fs : List Fact} {g n c : Nat} {T : TypeId} {cs : List Value} {l : List UInt8} (M : St w gs W ((g, T, cs) :: L) R fs) (hg : W.grownBy W' (some g)) (hr : Rd W' W'.heap.size (some ⟨g, 0, none⟩) n l) (hc : n ≤ c) : St w gs W' L R (.dat false [dB l] [.slice (some ⟨g, 0, none⟩) n c] :: fs) := by
  have hgw := (M.blk _ (List.mem_cons_self ..)).2
  have hap := M.ap
  rw [List.map_cons, List.cons_append, List.pairwise_cons] at hap
  have kept : ∀ o : Option Nat, o ∈ L.map (fun x => some x.1) ++ R.map (fun r => bk r.A) → o = none ∨ o ≠ some g := fun o ho => apart_comm (hap.1 o ho)
  have hn : some g ∉ own L R gs := fun e => by
    unfold own at e
    rw [← List.append_assoc] at e
    rcases List.mem_append.1 e with e | e
    · rcases hap.1 _ e with h | h
      · cases h
      · exact h rfl
    · have := M.lt g e
      have : w.heap.size ≤ g := hgw
      omega
  have M' : St w gs W' L R fs := by
    refine ⟨M.below.grown hg M.size (fun b e => by injection e with e; omega), M.lt, fun y hy => ⟨(M.blk y (by simp [hy])).1.grown hg ?_, (M.blk y (by simp [hy])).2⟩, fun r hr => ?_, hap.2, fun f hf => ((M.fct f hf).up (Stp.wrote hg (by unfold own; simp))).up ⟨Nat.le_refl _, fun _ _ _ => rfl, fun b _ e => by unfold own at *; simp only [List.map_cons, List.cons_append, List.mem_cons]; right; exact e⟩⟩
    · rcases kept (some y.1) (List.mem_append_left _ (List.mem_map.2 ⟨y, hy, rfl⟩)) with h | h
      · cases h
      · exact fun e => h e.symm
    · exact row_kept' (M.row r hr) hg (kept _ (List.mem_append_right _ (List.mem_map.2 ⟨r, hr, rfl⟩)))
  refine M'.addT (RdL.one (RdD.ofbytes hr hc (fun b off e hb => ?_)))
  injection e with e
  injection e with e1 e2
  subst e1
  exact ⟨hb, hn, fun e => by cases e⟩
theorem s_cvtB {E : Env} {d : Option Nat} {ty : TypeId} {p : String} {af : Array Edge} {gd : Option (Nat × Bool)} {x : Operand} {kw : Value → World → Prop} {w W : World} {gs : List (Option Nat)} {L : Lc} {R : List Row} {fs : List Fact} {g n c : Nat} (l : List UInt8) (M : St w gs W ((g, 5, bvs l) :: L) R fs) (hx : val E x = .slice (some ⟨g, 0, none⟩) n c) (hn : n = l.length) (hc : n ≤ c)
    (h : ∀ W', St w gs W' L R (.dat false [dB l] [.slice (some ⟨g, 0, none⟩) n c] :: fs) → kw (.slice (some ⟨g, 0, none⟩) n c) W') :
    VVal Try.prog E { dst := d, op := .convert 23 23 x, type := ty, pos := p, after := af, guard := gd } W kw :=
  v_cvtB hx (M.B 0 rfl) hn fun W' hr hg _ => h W' (M.mark hg hr hc)
end Go.Proofs.Ytliccofjlheceaa
namespace Go.Proofs.Ytliccofjlheceaa
open Go.RowKit
def keepI (q : List UInt8) (x : It) : Bool := x.stub || !decide (x.path = q)
end Go.Proofs.Ytliccofjlheceaa
