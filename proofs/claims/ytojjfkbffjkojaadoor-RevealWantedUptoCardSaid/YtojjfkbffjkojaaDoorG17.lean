/- Numbers and bytes in one way: the reference's Get, GetInt, GetBytes. Lists of bytes as bytes: Join and Split, the program's and the reference's. Package node: the reader's methods. From a walk that returns true and writes nothing that was there to the row; arguments opened to lists. Halves of bytes: what the chapter's examples fix. Halves of bytes: plain laws of the functions: there and back, order, what is joined. The walks of the laws NibsBack, NibsOrder, NibsJoin, NibsCuts. The walk of the law NibsBack. Package node: Decode. Reference 07: text, stubs, Decode; reference 06: Unpack (what it makes is its caller's). Package reveal: At. -/
import Derived.Test.YtojjfkbffjkojaaDoorG11
import Derived.Test.YtojjfkbffjkojaaDoorG05
import Derived.Test.YtojjfkbffjkojaaDoorG14
import Derived.Test.YtojjfkbffjkojaaDoorG16
import Derived.Test.YtojjfkbffjkojaaDoorRows
import Derived.Test.YtojjfkbffjkojaaDoorG03
import Derived.ProofKit
import Derived.OpenShut
import Derived.ChangeOld
import Derived.WideKeyArgs
import Derived.JoinedCond
import Derived.Test.YtojjfkbffjkojaaDoorG08
import Derived.Test.YtojjfkbffjkojaaDoorG06
namespace Go.Proofs.YtojjfkbffjkojaaDoor
open Go.RowKit
/-- What a reader has left, and whether something was wrong. -/
structure RS where
  l : List UInt8
  bad : Bool
def cutP (k : Nat) (s : RS) : List UInt8 × RS := if s.l.length < k then ([], ⟨[], true⟩) else (s.l.take k, ⟨s.l.drop k, s.bad⟩)
theorem sz_nsR : (Tryd.prog.info? 24).map (·.size) = some 1 := by kernel_rfl
section
variable {w W : World} {gs : List (Option Nat)} {g : Nat} {L : Lc} {R : List Row} {fs : List Fact} {A : Option Addr} {n c : Nat} {l : List UInt8} {bad : Bool}
theorem u_u8r : (Tryd.prog.underlying 5).isSome = true := by kernel_rfl
theorem u_intr : Tryd.prog.underlying 3 = some (.int .i64) := by kernel_rfl
end
end Go.Proofs.YtojjfkbffjkojaaDoor
namespace Go.Proofs.YtojjfkbffjkojaaDoor
open Go.ChangeShapes Go.WideShapes Go.ChangeAt Go.RowKit

theorem own_ : ownKnob Tryd.prog.godebug = none := by kernel_rfl
theorem laidOut : laidOutB Tryd.prog = true := by kernel_rfl

/-- A call returns true, and below the heap's old size all is as it was. -/
def RetTrue (w : World) (e : Ending) (w' : World) : Prop := e = .returned (.bool true) ∧ Below w.heap.size w w'

section
variable {H : Type} {enc : TypeId × Value → H} {P : Program}
theorem trodAll_stays (hl : laidOutB P = true) {W W' : World} (hb : Below W.heap.size W W') {sp : Nat → Bool} : ∀ (ts : List TypeId) (vs : List Value) (ds : List (DataW H)) (p : List MemPlace),
    (ts.all fun t => P.readableRec t && decide (t < P.types.size)) = true → DataW.TrodAll enc P W 0 (fun _ => true) true ts vs ds p → (∀ x ∈ p, x.block < W.heap.size) → (∀ x ∈ p, sp x.block = true) → DataW.TrodAll enc P W' 0 sp true ts vs ds p
  | [], vs, ds, p, _, h, _, _ => by
    obtain ⟨rfl, rfl, rfl⟩ := trodAll_nil h
    exact trodAll_mk0
  | t :: ts, vs, ds, p, ht, h, hlt, hsp => by
    obtain ⟨v, vs', d, ds', p0, q0, rfl, rfl, rfl, h0, r0⟩ := trodAll_cons h
    rw [List.all_cons, Bool.and_eq_true, Bool.and_eq_true, decide_eq_true_eq] at ht
    refine trodAll_cons_mk (WideElems.Trod_stays hl ht.1.1 ht.1.2 h0 (fun x hx => hb.same (hlt x (by simp [hx]))) (fun x hx => hsp x (by simp [hx]))) (trodAll_stays hl hb ts vs' ds' q0 ht.2 r0 (fun x hx => hlt x (by simp [hx])) (fun x hx => hsp x (by simp [hx])))

theorem post_of_below {f : Func} {s : ChangeSpec} {apart fresh handsOn again : Bool} {W W' : World} {args : Array Value} {v : Value} {ds gs : List (DataW H)} {before pa pv : List MemPlace}
    (hW : DataW.Whole enc P f.params.toList s.vars apart W args.toList ds gs before)
    (hres : ∀ (b : Nat) (sp : Nat → Bool) (hd : Bool), DataW.TrodAll enc P W' b sp hd f.resultTypes.toList (v.resultList f.resultTypes.size) (s.fn H (ds ++ gs)).results [])
    (hargs : ∀ sp : Nat → Bool, (∀ p ∈ before, sp p.block = true) → DataW.TrodAll enc P W' 0 sp true f.params.toList args.toList (s.fn H (ds ++ gs)).args pa)
    (hvars : ∀ sp : Nat → Bool, (∀ p ∈ before, sp p.block = true) → DataW.TrodVars enc P W' sp s.vars (s.fn H (ds ++ gs)).vars pv)
    (hps : before = pa ++ pv) (hb : Below W.heap.size W W')
    (hok : ∀ (j : Nat) (t : TypeId) (r : Value), f.resultTypes[j]? = some t → (v.resultList f.resultTypes.size)[j]? = some r → Value.okWide P W' .any 0 t r) :
    s.post enc P f apart fresh handsOn again W args v W' := by
  have hlt : ∀ p ∈ before, p.block < W.heap.size := fun p hp => hW.lt p hp
  have hold : ∀ p ∈ before, (fun b => decide (b < W.heap.size)) p.block = true := fun p hp => by simpa using hlt p hp
  refine ⟨ds, gs, before, [], pa, pv, hW, hres _ _ _, hargs _ hold, hvars _ hold, World.keptBut_mono (fun p hp => ⟨hp, ?_⟩) (hb.frame (· ∈ before)), fun _ => ?_⟩
  · rw [hps, List.mem_append] at hp
    exact Or.inr hp
  · obtain ⟨_, _, _, _, _, hz, hn⟩ := hW
    refine ⟨hok, _, _, ([] ++ pa) ++ pv, ⟨[] ++ pa, pv, trodAll_append (hargs _ (fun _ _ => rfl)) (hres _ _ _), hvars _ (fun _ _ => rfl), rfl, ?_, ?_⟩, ?_⟩
    · intro b off hp
      have hin : MemPlace.cell b off ∈ before := by rw [hps]; simpa using hp
      rw [hb.frozen (hlt _ hin)]
      exact hz b off hin
    · intro ha
      have := hn ha
      rw [hps] at this
      simpa using this
    · intro p hp _
      rw [hps]
      simpa using hp

/-- THE ROW'S LAST STEP: the law has returned true, nothing that was there has turned. -/
theorem law_post (hl : laidOutB P = true) {tb : TypeId} (hbool : P.underlying tb = some .bool) {f : Func} {s : ChangeSpec} {W W' : World} {args : Array Value} {ds gs : List (DataW H)} {before : List MemPlace}
    (hvars : s.vars = []) (hW : DataW.Whole enc P f.params.toList s.vars false W args.toList ds gs before)
    (hts : (f.params.toList.all fun t => P.readableRec t && decide (t < P.types.size)) = true) (hrt : f.resultTypes = #[tb])
    (hres : (s.fn H (ds ++ gs)).results = [.lit (.bool true)]) (hargs : (s.fn H (ds ++ gs)).args = ds) (hvs : (s.fn H (ds ++ gs)).vars = []) (hb : Below W.heap.size W W') :
    s.post enc P f false true false false W args (.bool true) W' := by
  have hW' := hW
  obtain ⟨p, q, hA, hV, rfl, hfz, hnd⟩ := hW
  rw [hvars] at hV
  obtain ⟨rfl, rfl⟩ := trodVars_none hV
  have hlt : ∀ x ∈ p, x.block < W.heap.size := fun x hx => hW'.lt x (by simp [hx])
  refine post_of_below (pa := p) (pv := []) hW' ?_ ?_ ?_ rfl hb ?_
  · intro b sp hd
    rw [hres, hrt]
    exact trodAll_cons_mk (shut_bool hbool _) trodAll_mk0
  · intro sp hsp
    rw [hargs]
    exact trodAll_stays hl hb _ _ _ _ hts hA hlt (fun x hx => hsp x (by simp [hx]))
  · intro sp hsp
    rw [hvars, hvs]
    rfl
  · exact ok_one hrt rfl (okWide_bool_mk hbool _)
end

end Go.Proofs.YtojjfkbffjkojaaDoor
namespace Go.Proofs.YtojjfkbffjkojaaDoor

theorem ofB_cons (c : UInt8) (l : List UInt8) : ofB (c :: l) = c / 16 :: c % 16 :: ofB l := rfl
theorem div_mod (c : UInt8) : 16 * (c / 16) + c % 16 = c := by
  apply UInt8.toNat_inj.1
  rw [UInt8.toNat_add, UInt8.toNat_mul, UInt8.toNat_div, UInt8.toNat_mod]
  have := c.toNat_lt
  simp; omega
theorem joinB_ofB (l : List UInt8) : joinB (ofB l) = l := by
  induction l with
  | nil => rfl
  | cons c l ih => rw [ofB_cons, joinB, ih, div_mod]
theorem up (a b : UInt8) (ha : a ≤ 15) (hb : b ≤ 15) : (16 * a + b) / 16 = a ∧ (16 * a + b) % 16 = b := by
  have h1 := UInt8.le_iff_toNat_le.1 ha
  have h2 := UInt8.le_iff_toNat_le.1 hb
  constructor <;> apply UInt8.toNat_inj.1
  · rw [UInt8.toNat_div, UInt8.toNat_add, UInt8.toNat_mul]; simp at *; omega
  · rw [UInt8.toNat_mod, UInt8.toNat_add, UInt8.toNat_mul]; simp at *; omega
theorem ofB_joinB : ∀ (l : List UInt8), halvesB l = true → l.length % 2 = 0 → ofB (joinB l) = l
  | a :: b :: r, h, k => by
    have ha := halvesB_le _ h a (by simp)
    have hb := halvesB_le _ h b (by simp)
    have hr : halvesB r = true := halvesB_dropP (l := a :: b :: r) h 2
    rw [joinB, ofB_cons, (up a b ha hb).1, (up a b ha hb).2, ofB_joinB r hr (by simp at k; omega)]
  | [a], _, k => by simp at k
  | [], _, _ => rfl
theorem half_eq (a b : UInt8) (h1 : a / 16 = b / 16) (h2 : a % 16 = b % 16) : a = b := by rw [← div_mod a, ← div_mod b, h1, h2]
/-- cmpB, one byte at a time. -/
theorem cmpB_cons (x y : UInt8) (a b : List UInt8) : cmpB (x :: a) (y :: b) = if x = y then cmpB a b else if x.toNat < y.toNat then -1 else 1 := by
  by_cases h : x = y
  · subst h
    rw [if_pos rfl]
    unfold cmpB
    simp only [commonB, if_true, List.length_cons, Nat.add_right_cancel_iff, Nat.add_lt_add_iff_right]
    have e : ∀ (l : List UInt8) (k : Nat), at8 (x :: l) (k + 1) = at8 l k := fun l k => by unfold at8; rfl
    simp only [e]
  · rw [if_neg h]
    have hc : commonB (x :: a) (y :: b) = 0 := by simp [commonB, h]
    by_cases hlt : x.toNat < y.toNat
    · rw [if_pos hlt, cmpB_at_lt hc (by simp) (by show ((x.toNat : Nat) : Int) < (y.toNat : Nat); omega) (by simp)]
    · rw [if_neg hlt, cmpB_at_ge hc (by simp) (by show ¬ ((x.toNat : Nat) : Int) < (y.toNat : Nat); omega)]
theorem cmpB_nil : cmpB [] [] = 0 := rfl
theorem cmpB_nil_cons (y : UInt8) (b : List UInt8) : cmpB [] (y :: b) = -1 := cmpB_lt (n := 0) (by simp [commonB]) rfl (by simp)
theorem cmpB_cons_nil (x : UInt8) (a : List UInt8) : cmpB (x :: a) [] = 1 := cmpB_gt (n := 0) (by simp [commonB]) (by simp) (by simp)
theorem cmpB_symm : ∀ a b : List UInt8, cmpB b a = - cmpB a b
  | x :: a, y :: b => by
    rw [cmpB_cons, cmpB_cons]
    by_cases h : x = y
    · rw [if_pos h, if_pos h.symm, cmpB_symm a b]
    · have hn : x.toNat ≠ y.toNat := fun e => h (UInt8.toNat_inj.1 e)
      rw [if_neg h, if_neg (fun e => h e.symm)]
      by_cases hlt : x.toNat < y.toNat
      · rw [if_pos hlt, if_neg (by omega)]; rfl
      · rw [if_neg hlt, if_pos (by omega)]
  | [], [] => rfl
  | [], _ :: _ => by rw [cmpB_nil_cons, cmpB_cons_nil]; rfl
  | _ :: _, [] => by rw [cmpB_nil_cons, cmpB_cons_nil]
theorem cmpB_ofB : ∀ a b : List UInt8, cmpB (ofB a) (ofB b) = cmpB a b
  | x :: a, y :: b => by
    rw [ofB_cons, ofB_cons, cmpB_cons, cmpB_cons, cmpB_cons, cmpB_ofB a b]
    have hx := x.toNat_lt
    have hy := y.toNat_lt
    by_cases h : x = y
    · subst h; simp
    · rw [if_neg h]
      by_cases h1 : x / 16 = y / 16
      · have h2 : ¬ x % 16 = y % 16 := fun e => h (half_eq x y h1 e)
        have e1 : x.toNat / 16 = y.toNat / 16 := by have := congrArg UInt8.toNat h1; simpa [UInt8.toNat_div] using this
        rw [if_pos h1, if_neg h2, UInt8.toNat_mod, UInt8.toNat_mod]
        simp only [show (16 : UInt8).toNat = 16 from rfl]
        by_cases hlt : x.toNat < y.toNat
        · rw [if_pos hlt, if_pos (by omega)]
        · rw [if_neg hlt, if_neg (by omega)]
      · have e1 : x.toNat / 16 ≠ y.toNat / 16 := fun e => h1 (UInt8.toNat_inj.1 (by simpa [UInt8.toNat_div] using e))
        rw [if_neg h1, UInt8.toNat_div, UInt8.toNat_div]
        simp only [show (16 : UInt8).toNat = 16 from rfl]
        by_cases hlt : x.toNat < y.toNat
        · rw [if_pos hlt, if_pos (by omega)]
        · rw [if_neg hlt, if_neg (by omega)]
  | [], [] => rfl
  | [], y :: b => by rw [ofB_cons, cmpB_nil_cons]; exact cmpB_nil_cons _ _
  | x :: a, [] => by rw [ofB_cons, cmpB_cons_nil]; exact cmpB_cons_nil _ _
end Go.Proofs.YtojjfkbffjkojaaDoor
namespace Go.Proofs.YtojjfkbffjkojaaDoor
open Go.RowKit
/-- A byte of what is read. -/
theorem St.at8c {w W : World} {gs : List (Option Nat)} {L : Lc} {R : List Row} {fs : List Fact} (M : St w gs W L R fs) {l : List UInt8} {A : Option Addr} {n c : Nat} (h : RdD W (Fd W (own L R gs)) (dB l) (.slice A n c)) {i : Nat} (hi : i < n) :
    ∃ b o, A = some ⟨b, o, none⟩ ∧ St w gs W L R (.loc ((⟨b, o, none⟩ : Addr).add (i * 1)) [.int .u8 (at8 l i)] :: fs) := by
  obtain ⟨b, o, rfl, hcell⟩ := (h.rd Fd.lt).2.2.at_ (k := i) hi
  refine ⟨b, o, rfl, M.addC (by rw [block_of_add]; exact RdD.blk0 h (by omega)) (fun j x hx => ?_)⟩
  match j, hx with
  | 0, hx =>
    injection hx with hx
    subst hx
    rw [Addr.add_lit, Addr.add_lit, Nat.mul_one, Nat.add_zero]
    exact hcell
  | j + 1, hx => cases hx
theorem u_ints : (Tryd.prog.underlying 3).isSome = true := by kernel_rfl
end Go.Proofs.YtojjfkbffjkojaaDoor
namespace Go.Proofs.YtojjfkbffjkojaaDoor
open Go.RowKit
def atF : Nat → Nd → List UInt8 → Option Nd
  | 0, _, _ => none
  | N + 1, t, w =>
    if w = [] then some t
    else if t.kind = 2 ∧ t.path <+: w ∧ t.kids.length = 1 then atF N (t.kids.getD 0 noneN) (w.drop t.path.length)
    else if t.kind = 3 ∧ (w.getD 0 0).toNat < t.kids.length ∧ (t.kids.getD (w.getD 0 0).toNat noneN).kind ≠ 0 then atF N (t.kids.getD (w.getD 0 0).toNat noneN) (w.drop 1)
    else none
/-- The node at the end of halves. -/
def atP (t : Nd) (w : List UInt8) : Option Nd := atF (sz t + 1) t w
theorem sz_kidD (t : Nd) {i : Nat} (h : i < t.kids.length) : sz (t.kids.getD i noneN) < sz t := by
  have h1 := sz_eq t
  have h2 : t.kids.getD i noneN ∈ t.kids := by
    rw [List.getD_eq_getElem?_getD, List.getElem?_eq_getElem h]
    exact List.getElem_mem h
  have := szs_mem h2
  omega
theorem atF_eq : ∀ (N M : Nat) (t : Nd) (w : List UInt8), sz t < N → sz t < M → atF N t w = atF M t w
  | 0, _, _, _, h, _ => by omega
  | _, 0, _, _, _, h => by omega
  | N + 1, M + 1, t, w, h, k => by
    rw [atF, atF]
    by_cases h0 : w = []
    · rw [if_pos h0, if_pos h0]
    rw [if_neg h0, if_neg h0]
    by_cases h1 : t.kind = 2 ∧ t.path <+: w ∧ t.kids.length = 1
    · have := sz_kidD t (i := 0) (by omega)
      rw [if_pos h1, if_pos h1, atF_eq N M _ _ (by omega) (by omega)]
    rw [if_neg h1, if_neg h1]
    by_cases h2 : t.kind = 3 ∧ (w.getD 0 0).toNat < t.kids.length ∧ (t.kids.getD (w.getD 0 0).toNat noneN).kind ≠ 0
    · have := sz_kidD t h2.2.1
      rw [if_pos h2, if_pos h2, atF_eq N M _ _ (by omega) (by omega)]
    rw [if_neg h2, if_neg h2]
theorem atP_eq (t : Nd) (w : List UInt8) : atP t w = if w = [] then some t
    else if t.kind = 2 ∧ t.path <+: w ∧ t.kids.length = 1 then atP (t.kids.getD 0 noneN) (w.drop t.path.length)
    else if t.kind = 3 ∧ (w.getD 0 0).toNat < t.kids.length ∧ (t.kids.getD (w.getD 0 0).toNat noneN).kind ≠ 0 then atP (t.kids.getD (w.getD 0 0).toNat noneN) (w.drop 1)
    else none := by
  unfold atP
  rw [atF]
  by_cases h0 : w = []
  · rw [if_pos h0, if_pos h0]
  rw [if_neg h0, if_neg h0]
  by_cases h1 : t.kind = 2 ∧ t.path <+: w ∧ t.kids.length = 1
  · have := sz_kidD t (i := 0) (by omega)
    rw [if_pos h1, if_pos h1, atF_eq (sz t) _ _ _ (by omega) (Nat.lt_succ_self _)]
  rw [if_neg h1, if_neg h1]
  by_cases h2 : t.kind = 3 ∧ (w.getD 0 0).toNat < t.kids.length ∧ (t.kids.getD (w.getD 0 0).toNat noneN).kind ≠ 0
  · have := sz_kidD t h2.2.1
    rw [if_pos h2, if_pos h2, atF_eq (sz t) _ _ _ (by omega) (Nat.lt_succ_self _)]
  rw [if_neg h2, if_neg h2]
theorem atP_way {t : Nd} {w : List UInt8} (h0 : w ≠ []) (h1 : t.kind = 2) (h2 : t.path <+: w) (h3 : t.kids.length = 1) : atP t w = atP (t.kids.getD 0 noneN) (w.drop t.path.length) := by
  rw [atP_eq, if_neg h0, if_pos ⟨h1, h2, h3⟩]
theorem atP_br {t : Nd} {w : List UInt8} (h0 : w ≠ []) (h1 : t.kind = 3) (h2 : (w.getD 0 0).toNat < t.kids.length) (h3 : (t.kids.getD (w.getD 0 0).toNat noneN).kind ≠ 0) : atP t w = atP (t.kids.getD (w.getD 0 0).toNat noneN) (w.drop 1) := by
  rw [atP_eq, if_neg h0, if_neg (fun h => by have := h.1; omega), if_pos ⟨h1, h2, h3⟩]
theorem atP_no {t : Nd} {w : List UInt8} (h0 : w ≠ []) (h1 : ¬ (t.kind = 2 ∧ t.path <+: w ∧ t.kids.length = 1)) (h2 : ¬ (t.kind = 3 ∧ (w.getD 0 0).toNat < t.kids.length ∧ (t.kids.getD (w.getD 0 0).toNat noneN).kind ≠ 0)) : atP t w = none := by
  rw [atP_eq, if_neg h0, if_neg h1, if_neg h2]
theorem is_vat : isFn Tryd.prog 20 = true := by kernel_rfl
set_option maxRecDepth 100000 in
set_option maxHeartbeats 4000000 in
theorem vat_any (t : Nd) (ht : sz t < 10000000) (l : List UInt8) (gs : List (Option Nat)) (w : World) (cs : List Value) (hr : RdL w (Fd w gs) (dN t) cs) {A : Option Addr} {n c : Nat} (hw : RdD w (Fd w gs) (dB l) (.slice A n c)) (hgs : ∀ b, some b ∈ gs → b < w.heap.size) (hn : n ≤ 100000000) :
    Calls Tryd.prog 20 #[.agg cs.toArray, .slice A n c] w fun e w' => ∃ cs', e = .returned (.tuple #[.agg cs'.toArray, .bool (atP t l).isSome]) ∧ RdL w' (Fr w w') (dN ((atP t l).getD noneN)) cs' ∧ Below w.heap.size w w' := by
  refine calls_ev (args := [.agg cs.toArray, .slice A n c]) mixed Tryd.func20 rfl (by kernel_rfl) ?_
  have hl0 := hr.len
  rw [dN_len] at hl0
  have M := ((St.start hgs).addD hw).addL hr
  clear hr hw
  refine s_box (cs) M rfl ?_
  clear M
  rintro g2 W M
  refine s_alloc (zN) M al_nd ?_
  clear M
  rintro g4 W M
  obtain ⟨R, hR⟩ : ∃ R, R = atP t l := ⟨_, rfl⟩
  rw [← hR]
  refine lp (Nd × List Value × List UInt8 × Option Addr × Nat × Nat) (fun s W => sz s.1 < 10000000 ∧ s.2.2.2.2.1 ≤ 100000000 ∧ R = atP s.1 s.2.2.1 ∧ St w gs W [(g4, 26, zN), (g2, 26, s.2.1)] [] [.dat false (dN s.1) s.2.1, .dat false [dB s.2.2.1] [.slice s.2.2.2.1 s.2.2.2.2.1 s.2.2.2.2.2]])
    (fun s => [(1, .slice s.2.2.2.1 s.2.2.2.2.1 s.2.2.2.2.2), (2, .pointer (some ⟨g2, 0, none⟩)), (4, .pointer (some ⟨g4, 0, none⟩))]) (fun s => sz s.1) (t, cs, l, A, n, c) ⟨ht, hn, hR, M⟩ (by repeat (first | exact trivial | refine ⟨rfl, ?_⟩)) ?_
  clear M hR
  rintro ⟨t, cs, l, A, n, c⟩ E1 W1 ⟨ht, hn, hR, M⟩
  dsimp only at ht hn hR M
  obtain ⟨Ap, cp, Av, cv, Ak, ck, Ah, ch, rfl, r1, -, r4, -⟩ := (M.da 0 rfl).node
  replace M := (M.addD r1).addD r4
  clear r1 r4
  have en := (M.d1 3 rfl).slen
  have hcap := (M.d1 3 rfl).scap
  have hsz := sz_eq t
  have hsl := szs_len t.kids
  refine p_len slb rfl ?_
  refine p_eq rfl rfl (fun h0 => ?_) (fun h0 => ?_)
  · have h0 : l = [] := List.eq_nil_of_length_eq_zero (by have h : ((n : Nat) : Int) = 0 := h0; omega)
    have hR2 : R = some t := by rw [hR, atP_eq, if_pos h0]
    rw [hR2]
    refine v_loadN (ncs t Ap cp Av cv Ak ck Ah ch) agg_nd rfl rfl (M.run 1 rfl) ?_
    refine cc is_ncopy (ncopy_any 10000000 (Nat.le_refl _) t ht _ _ _ (M.da 2 rfl) M.olt) ?_
    rintro e W ⟨cs9, rfl, r9, hb⟩
    have hc9 := r9.len
    rw [dN_len] at hc9
    replace M := M.callF hb r9
    clear r9 hb
    refine ⟨_, rfl, ?_⟩
    refine s_storeA 0 cs9 M rfl sz_nd rfl rfl hc9 ((M.da 0 rfl).ones (dN_one _)) rfl ?_
    clear M; rintro W M
    dsimp only [setL] at M
    refine c_loadN cs9 agg_nd rfl hc9 (M.run 0 rfl) ?_
    exact ⟨cs9, rfl, M.finF 0 rfl, M.below⟩
  have hn0 : 0 < n := by
    rcases Nat.eq_zero_or_pos n with h | h
    · exact absurd (show ((n : Nat) : Int) = 0 by omega) h0
    · exact h
  have hl0 : l ≠ [] := fun e => by rw [e] at en; exact absurd en (by simp; omega)
  clear h0
  obtain ⟨x, hx⟩ : ∃ x, x = (l.getD 0 0).toNat := ⟨_, rfl⟩
  have e8 : at8 l 0 = (x : Int) := by rw [hx]; rfl
  have hx256 : x < 256 := by rw [hx]; exact (l.getD 0 0).toNat_lt
  obtain ⟨b0, o0, hA0, M'⟩ := M.at8c (M.d1 3 rfl) hn0
  replace M := M'; clear M'
  subst hA0
  rw [e8] at M
  refine p_fld fN0 rfl ?_
  refine v_load agg_int rfl ((M.B 1 rfl).at_ rfl) ?_
  refine p_eq rfl rfl (fun h2 => ?_) (fun h2 => ?_)
  rotate_left
  · have hno1 : ¬ (t.kind = 2 ∧ t.path <+: l ∧ t.kids.length = 1) := fun h => h2 h.1
    clear h2
    by_cases hb : t.kind = 3 ∧ x < t.kids.length
    · obtain ⟨kd, hkd⟩ : ∃ kd, t.kids[x]? = some kd := ⟨_, List.getElem?_eq_getElem hb.2⟩
      have hgd : t.kids.getD x noneN = kd := by rw [List.getD_eq_getElem?_getD, hkd]; rfl
      have hkz := szs_mem (List.mem_of_getElem? hkd)
      obtain ⟨b1, o1, es, e1, hel, M'⟩ := M.kid (M.d1 1 rfl) hkd
      replace M := M'; clear M'
      obtain ⟨Kp', fp, Kv, fv, Kk, fk, Kh, fh, rfl, -⟩ := (M.da 1 rfl).node
      replace M := M.drew
      refine drT (Kp w gs [(g2, 26, ncs t Ap cp Av cv Ak ck Ah ch)] [.loc ((⟨b1, o1, none⟩ : Addr).add (x * 6)) (ncs kd Kp' fp Kv fv Kk fk Kh fh), .loc ((⟨b0, o0, none⟩ : Addr).add (0 * 1)) [.int .u8 (x : Int)]]) (.take 0 (.take 1 (.take 2 (.take 3 (.take 4 (.take 5 (.take 6 (.take 7 (.take 8 (.take 9 (.take 10 (.take 11 (.take 12 (.take 13 (.take 14 (.take 15 (.take 16 (.take 17 (.take 18 (.take 19 (.take 20 (.take 21 (.take 22 (.take 23 (.take 24 (.nil)))))))))))))))))))))))))) (by kernel_rfl) (M.kp (by simp) (by simp)) ?_
      refine p_fld fN0 rfl ?_
      refine t_load agg_int rfl (fun W K => (K.B 0 rfl).at_ rfl) ?_
      refine p_eq rfl rfl (fun _ => ?_) (fun h => absurd hb.1 h)
      refine p_at (i := 0) slb rfl rfl rfl hn0 ?_
      refine t_load agg_by' rfl (fun W K => K.lc 1 rfl 0 _ rfl) ?_
      refine t_cvt u_u8r u_intr rfl (r := ((x : Nat) : Int)) (w64 (by omega)) ?_
      refine p_fld fN4 rfl ?_
      refine t_load agg_ns rfl (fun W K => (K.B 0 rfl).at_ rfl) ?_
      refine p_len sln rfl ?_
      refine p_lt rfl rfl (fun _ => ?_) (fun h => absurd (show (x : Int) < (t.kids.length : Int) by have := hb.2; omega) h)
      refine p_fld fN4 rfl ?_
      refine t_load agg_ns rfl (fun W K => (K.B 0 rfl).at_ rfl) ?_
      refine p_at (i := 0) slb rfl rfl rfl hn0 ?_
      refine t_load agg_by' rfl (fun W K => K.lc 1 rfl 0 _ rfl) ?_
      refine p_at (i := x) sln (by show (Value.slice Ak t.kids.length ck) = _; rw [e1]) rfl rfl hb.2 ?_
      refine p_fld fN0 rfl ?_
      refine t_load agg_int rfl (fun W K => K.lc 0 rfl 0 _ rfl) ?_
      refine p_ne rfl rfl (fun hk0 => ?_) (fun hk0 => ?_)
      · have hk0 : kd.kind = 0 := hk0
        have hno2 : ¬ (t.kind = 3 ∧ (l.getD 0 0).toNat < t.kids.length ∧ (t.kids.getD (l.getD 0 0).toNat noneN).kind ≠ 0) := fun h => by rw [← hx, hgd] at h; exact h.2.2 hk0
        have hR2 : R = none := by rw [hR]; exact atP_no hl0 hno1 hno2
        rw [hR2]
        refine p_build (vs := zN) pl_nd z_nd rfl ?_
        refine s_storeA 0 zN M rfl sz_nd rfl rfl rfl (all1 rfl) rfl ?_
        clear M; rintro W M
        dsimp only [setL] at M
        refine c_loadN zN agg_nd rfl rfl (M.run 0 rfl) ?_
        exact ⟨zN, rfl, RdL.znone, M.below⟩
      · have hk0 : kd.kind ≠ 0 := hk0
        have hcut := (M.d1 6 rfl).cutB (i := 1) (j := n) (m := c) (by omega) (Nat.le_refl _) hcap
        rw [List.take_of_length_le (by rw [List.length_drop]; omega)] at hcut
        replace M := (M.addD hcut).drew
        clear hcut
        refine drT (Kp w gs [] [.loc ((⟨b1, o1, none⟩ : Addr).add (x * 6)) (ncs kd Kp' fp Kv fv Kk fk Kh fh), .loc ((⟨b0, o0, none⟩ : Addr).add (0 * 1)) [.int .u8 (x : Int)]]) (.take 0 (.take 2 (.take 3 (.take 4 (.take 7 (.take 8 (.one 1 (.take 5 (.take 6 (.one 9 (.take 10 (.nil)))))))))))) (by kernel_rfl) (M.kp (by simp) (by simp)) ?_
        refine p_fld fN4 rfl ?_
        refine p_at (i := 0) slb rfl rfl rfl hn0 ?_
        refine t_load agg_by' rfl (fun W K => K.lc 1 rfl 0 _ rfl) ?_
        refine p_slice (i := 1) (j := n) (m := c) slb rfl (bnd_i rfl) rfl rfl rfl (by omega) hcap (Nat.le_refl _) ?_
        refine v_load agg_ns rfl ((M.B 1 rfl).at_ rfl) ?_
        refine ⟨(M.kp (by simp) (by simp)), ?_⟩
        refine p_at (i := x) sln (by show (Value.slice Ak t.kids.length ck) = _; rw [e1]) rfl rfl hb.2 ?_
        refine t_loadN (ncs kd Kp' fp Kv fv Kk fk Kh fh) agg_nd rfl rfl (fun W K => K.lc 0 rfl) ?_
        refine s_storeA 1 (ncs kd Kp' fp Kv fv Kk fk Kh fh) M rfl sz_nd rfl rfl rfl (all1 rfl) rfl ?_
        clear M; rintro W M
        dsimp only [setL] at M
        refine ⟨(M.kp (by simp) (by simp)), ?_⟩
        exact ⟨(kd, ncs kd Kp' fp Kv fv Kk fk Kh fh, l.drop 1, slA (some ⟨b0, o0, none⟩) c 1 1, n - 1, c - 1), ⟨by dsimp only; omega, by dsimp only; omega, by dsimp only; rw [hR, atP_br hl0 hb.1 (by rw [← hx]; exact hb.2) (by rw [← hx, hgd]; exact hk0), ← hx, hgd], M.fsub _ (by simp)⟩, (by repeat (first | exact trivial | refine ⟨rfl, ?_⟩)), by dsimp only; omega⟩
    · have hno2 : ¬ (t.kind = 3 ∧ (l.getD 0 0).toNat < t.kids.length ∧ (t.kids.getD (l.getD 0 0).toNat noneN).kind ≠ 0) := fun h => by rw [← hx] at h; exact hb ⟨h.1, h.2.1⟩
      replace M := M.drew
      refine drT (Kp w gs [(g2, 26, ncs t Ap cp Av cv Ak ck Ah ch)] [.loc ((⟨b0, o0, none⟩ : Addr).add (0 * 1)) [.int .u8 (x : Int)]]) (.take 0 (.take 1 (.take 2 (.take 3 (.take 4 (.take 5 (.take 6 (.take 7 (.take 8 (.take 9 (.take 10 (.take 11 (.take 12 (.take 13 (.take 14 (.take 15 (.take 16 (.take 17 (.take 18 (.take 19 (.take 20 (.take 21 (.take 22 (.take 23 (.take 24 (.nil)))))))))))))))))))))))))) (by kernel_rfl) (M.kp (by simp) (by simp)) ?_
      refine p_fld fN0 rfl ?_
      refine t_load agg_int rfl (fun W K => (K.B 0 rfl).at_ rfl) ?_
      refine p_eq rfl rfl (fun h3 => ?_) (fun h3 => ?_)
      · refine p_at (i := 0) slb rfl rfl rfl hn0 ?_
        refine t_load agg_by' rfl (fun W K => K.lc 0 rfl 0 _ rfl) ?_
        refine t_cvt u_u8r u_intr rfl (r := ((x : Nat) : Int)) (w64 (by omega)) ?_
        refine p_fld fN4 rfl ?_
        refine t_load agg_ns rfl (fun W K => (K.B 0 rfl).at_ rfl) ?_
        refine p_len sln rfl ?_
        refine p_lt rfl rfl (fun h => absurd ⟨h3, by have h : (x : Int) < (t.kids.length : Int) := h; omega⟩ hb) (fun _ => ?_)
        have hR2 : R = none := by rw [hR]; exact atP_no hl0 hno1 hno2
        rw [hR2]
        refine p_build (vs := zN) pl_nd z_nd rfl ?_
        refine s_storeA 0 zN M rfl sz_nd rfl rfl rfl (all1 rfl) rfl ?_
        clear M; rintro W M
        dsimp only [setL] at M
        refine c_loadN zN agg_nd rfl rfl (M.run 0 rfl) ?_
        exact ⟨zN, rfl, RdL.znone, M.below⟩
      ·
        have hR2 : R = none := by rw [hR]; exact atP_no hl0 hno1 hno2
        rw [hR2]
        refine p_build (vs := zN) pl_nd z_nd rfl ?_
        refine s_storeA 0 zN M rfl sz_nd rfl rfl rfl (all1 rfl) rfl ?_
        clear M; rintro W M
        dsimp only [setL] at M
        refine c_loadN zN agg_nd rfl rfl (M.run 0 rfl) ?_
        exact ⟨zN, rfl, RdL.znone, M.below⟩
  have h2 : t.kind = 2 := h2
  refine p_fld fN1 rfl ?_
  refine v_load agg_b rfl ((M.B 1 rfl).at_ rfl) ?_
  have cb := bpre_any _ _ _ _ c cp _ _ l t.path _ (M.rdb 4 rfl).2.2 hcap (M.rdb 2 rfl).2.2
  obtain ⟨q, hq⟩ : ∃ q, q = decide (t.path <+: l) := ⟨_, rfl⟩
  rw [← hq] at cb
  refine cc is_bpre cb ?_
  rintro e W' ⟨rfl, rfl⟩
  refine ⟨_, rfl, ?_⟩
  clear cb
  cases q with
  | false =>
    have hno1 : ¬ (t.kind = 2 ∧ t.path <+: l ∧ t.kids.length = 1) := fun h => (of_decide_eq_false hq.symm) h.2.1
    clear h2
    by_cases hb : t.kind = 3 ∧ x < t.kids.length
    · obtain ⟨kd, hkd⟩ : ∃ kd, t.kids[x]? = some kd := ⟨_, List.getElem?_eq_getElem hb.2⟩
      have hgd : t.kids.getD x noneN = kd := by rw [List.getD_eq_getElem?_getD, hkd]; rfl
      have hkz := szs_mem (List.mem_of_getElem? hkd)
      obtain ⟨b1, o1, es, e1, hel, M'⟩ := M.kid (M.d1 1 rfl) hkd
      replace M := M'; clear M'
      obtain ⟨Kp', fp, Kv, fv, Kk, fk, Kh, fh, rfl, -⟩ := (M.da 1 rfl).node
      replace M := M.drew
      refine drT (Kp w gs [(g2, 26, ncs t Ap cp Av cv Ak ck Ah ch)] [.loc ((⟨b1, o1, none⟩ : Addr).add (x * 6)) (ncs kd Kp' fp Kv fv Kk fk Kh fh), .loc ((⟨b0, o0, none⟩ : Addr).add (0 * 1)) [.int .u8 (x : Int)]]) (.take 0 (.take 1 (.take 2 (.take 3 (.take 4 (.take 5 (.take 6 (.take 7 (.take 8 (.take 9 (.take 10 (.take 11 (.take 12 (.take 13 (.take 14 (.take 15 (.take 16 (.take 17 (.take 18 (.take 19 (.take 20 (.take 21 (.take 22 (.take 23 (.take 24 (.nil)))))))))))))))))))))))))) (by kernel_rfl) (M.kp (by simp) (by simp)) ?_
      refine p_fld fN0 rfl ?_
      refine t_load agg_int rfl (fun W K => (K.B 0 rfl).at_ rfl) ?_
      refine p_eq rfl rfl (fun _ => ?_) (fun h => absurd hb.1 h)
      refine p_at (i := 0) slb rfl rfl rfl hn0 ?_
      refine t_load agg_by' rfl (fun W K => K.lc 1 rfl 0 _ rfl) ?_
      refine t_cvt u_u8r u_intr rfl (r := ((x : Nat) : Int)) (w64 (by omega)) ?_
      refine p_fld fN4 rfl ?_
      refine t_load agg_ns rfl (fun W K => (K.B 0 rfl).at_ rfl) ?_
      refine p_len sln rfl ?_
      refine p_lt rfl rfl (fun _ => ?_) (fun h => absurd (show (x : Int) < (t.kids.length : Int) by have := hb.2; omega) h)
      refine p_fld fN4 rfl ?_
      refine t_load agg_ns rfl (fun W K => (K.B 0 rfl).at_ rfl) ?_
      refine p_at (i := 0) slb rfl rfl rfl hn0 ?_
      refine t_load agg_by' rfl (fun W K => K.lc 1 rfl 0 _ rfl) ?_
      refine p_at (i := x) sln (by show (Value.slice Ak t.kids.length ck) = _; rw [e1]) rfl rfl hb.2 ?_
      refine p_fld fN0 rfl ?_
      refine t_load agg_int rfl (fun W K => K.lc 0 rfl 0 _ rfl) ?_
      refine p_ne rfl rfl (fun hk0 => ?_) (fun hk0 => ?_)
      · have hk0 : kd.kind = 0 := hk0
        have hno2 : ¬ (t.kind = 3 ∧ (l.getD 0 0).toNat < t.kids.length ∧ (t.kids.getD (l.getD 0 0).toNat noneN).kind ≠ 0) := fun h => by rw [← hx, hgd] at h; exact h.2.2 hk0
        have hR2 : R = none := by rw [hR]; exact atP_no hl0 hno1 hno2
        rw [hR2]
        refine p_build (vs := zN) pl_nd z_nd rfl ?_
        refine s_storeA 0 zN M rfl sz_nd rfl rfl rfl (all1 rfl) rfl ?_
        clear M; rintro W M
        dsimp only [setL] at M
        refine c_loadN zN agg_nd rfl rfl (M.run 0 rfl) ?_
        exact ⟨zN, rfl, RdL.znone, M.below⟩
      · have hk0 : kd.kind ≠ 0 := hk0
        have hcut := (M.d1 6 rfl).cutB (i := 1) (j := n) (m := c) (by omega) (Nat.le_refl _) hcap
        rw [List.take_of_length_le (by rw [List.length_drop]; omega)] at hcut
        replace M := (M.addD hcut).drew
        clear hcut
        refine drT (Kp w gs [] [.loc ((⟨b1, o1, none⟩ : Addr).add (x * 6)) (ncs kd Kp' fp Kv fv Kk fk Kh fh), .loc ((⟨b0, o0, none⟩ : Addr).add (0 * 1)) [.int .u8 (x : Int)]]) (.take 0 (.take 2 (.take 3 (.take 4 (.take 7 (.take 8 (.one 1 (.take 5 (.take 6 (.one 9 (.take 10 (.nil)))))))))))) (by kernel_rfl) (M.kp (by simp) (by simp)) ?_
        refine p_fld fN4 rfl ?_
        refine p_at (i := 0) slb rfl rfl rfl hn0 ?_
        refine t_load agg_by' rfl (fun W K => K.lc 1 rfl 0 _ rfl) ?_
        refine p_slice (i := 1) (j := n) (m := c) slb rfl (bnd_i rfl) rfl rfl rfl (by omega) hcap (Nat.le_refl _) ?_
        refine v_load agg_ns rfl ((M.B 1 rfl).at_ rfl) ?_
        refine ⟨(M.kp (by simp) (by simp)), ?_⟩
        refine p_at (i := x) sln (by show (Value.slice Ak t.kids.length ck) = _; rw [e1]) rfl rfl hb.2 ?_
        refine t_loadN (ncs kd Kp' fp Kv fv Kk fk Kh fh) agg_nd rfl rfl (fun W K => K.lc 0 rfl) ?_
        refine s_storeA 1 (ncs kd Kp' fp Kv fv Kk fk Kh fh) M rfl sz_nd rfl rfl rfl (all1 rfl) rfl ?_
        clear M; rintro W M
        dsimp only [setL] at M
        refine ⟨(M.kp (by simp) (by simp)), ?_⟩
        exact ⟨(kd, ncs kd Kp' fp Kv fv Kk fk Kh fh, l.drop 1, slA (some ⟨b0, o0, none⟩) c 1 1, n - 1, c - 1), ⟨by dsimp only; omega, by dsimp only; omega, by dsimp only; rw [hR, atP_br hl0 hb.1 (by rw [← hx]; exact hb.2) (by rw [← hx, hgd]; exact hk0), ← hx, hgd], M.fsub _ (by simp)⟩, (by repeat (first | exact trivial | refine ⟨rfl, ?_⟩)), by dsimp only; omega⟩
    · have hno2 : ¬ (t.kind = 3 ∧ (l.getD 0 0).toNat < t.kids.length ∧ (t.kids.getD (l.getD 0 0).toNat noneN).kind ≠ 0) := fun h => by rw [← hx] at h; exact hb ⟨h.1, h.2.1⟩
      replace M := M.drew
      refine drT (Kp w gs [(g2, 26, ncs t Ap cp Av cv Ak ck Ah ch)] [.loc ((⟨b0, o0, none⟩ : Addr).add (0 * 1)) [.int .u8 (x : Int)]]) (.take 0 (.take 1 (.take 2 (.take 3 (.take 4 (.take 5 (.take 6 (.take 7 (.take 8 (.take 9 (.take 10 (.take 11 (.take 12 (.take 13 (.take 14 (.take 15 (.take 16 (.take 17 (.take 18 (.take 19 (.take 20 (.take 21 (.take 22 (.take 23 (.take 24 (.nil)))))))))))))))))))))))))) (by kernel_rfl) (M.kp (by simp) (by simp)) ?_
      refine p_fld fN0 rfl ?_
      refine t_load agg_int rfl (fun W K => (K.B 0 rfl).at_ rfl) ?_
      refine p_eq rfl rfl (fun h3 => ?_) (fun h3 => ?_)
      · refine p_at (i := 0) slb rfl rfl rfl hn0 ?_
        refine t_load agg_by' rfl (fun W K => K.lc 0 rfl 0 _ rfl) ?_
        refine t_cvt u_u8r u_intr rfl (r := ((x : Nat) : Int)) (w64 (by omega)) ?_
        refine p_fld fN4 rfl ?_
        refine t_load agg_ns rfl (fun W K => (K.B 0 rfl).at_ rfl) ?_
        refine p_len sln rfl ?_
        refine p_lt rfl rfl (fun h => absurd ⟨h3, by have h : (x : Int) < (t.kids.length : Int) := h; omega⟩ hb) (fun _ => ?_)
        have hR2 : R = none := by rw [hR]; exact atP_no hl0 hno1 hno2
        rw [hR2]
        refine p_build (vs := zN) pl_nd z_nd rfl ?_
        refine s_storeA 0 zN M rfl sz_nd rfl rfl rfl (all1 rfl) rfl ?_
        clear M; rintro W M
        dsimp only [setL] at M
        refine c_loadN zN agg_nd rfl rfl (M.run 0 rfl) ?_
        exact ⟨zN, rfl, RdL.znone, M.below⟩
      ·
        have hR2 : R = none := by rw [hR]; exact atP_no hl0 hno1 hno2
        rw [hR2]
        refine p_build (vs := zN) pl_nd z_nd rfl ?_
        refine s_storeA 0 zN M rfl sz_nd rfl rfl rfl (all1 rfl) rfl ?_
        clear M; rintro W M
        dsimp only [setL] at M
        refine c_loadN zN agg_nd rfl rfl (M.run 0 rfl) ?_
        exact ⟨zN, rfl, RdL.znone, M.below⟩
  | true =>
    have hq := of_decide_eq_true hq.symm
    refine p_fld fN4 rfl ?_
    refine v_load agg_ns rfl ((M.B 1 rfl).at_ rfl) ?_
    refine p_len sln rfl ?_
    refine p_eq rfl rfl (fun h1 => ?_) (fun h1 => ?_)
    rotate_left
    · have h1 : ¬ t.kids.length = 1 := fun e => h1 (by show ((t.kids.length : Nat) : Int) = 1; omega)
      have hno1 : ¬ (t.kind = 2 ∧ t.path <+: l ∧ t.kids.length = 1) := fun h => h1 h.2.2
      clear h2
      by_cases hb : t.kind = 3 ∧ x < t.kids.length
      · obtain ⟨kd, hkd⟩ : ∃ kd, t.kids[x]? = some kd := ⟨_, List.getElem?_eq_getElem hb.2⟩
        have hgd : t.kids.getD x noneN = kd := by rw [List.getD_eq_getElem?_getD, hkd]; rfl
        have hkz := szs_mem (List.mem_of_getElem? hkd)
        obtain ⟨b1, o1, es, e1, hel, M'⟩ := M.kid (M.d1 1 rfl) hkd
        replace M := M'; clear M'
        obtain ⟨Kp', fp, Kv, fv, Kk, fk, Kh, fh, rfl, -⟩ := (M.da 1 rfl).node
        replace M := M.drew
        refine drT (Kp w gs [(g2, 26, ncs t Ap cp Av cv Ak ck Ah ch)] [.loc ((⟨b1, o1, none⟩ : Addr).add (x * 6)) (ncs kd Kp' fp Kv fv Kk fk Kh fh), .loc ((⟨b0, o0, none⟩ : Addr).add (0 * 1)) [.int .u8 (x : Int)]]) (.take 0 (.take 1 (.take 2 (.take 3 (.take 4 (.take 5 (.take 6 (.take 7 (.take 8 (.take 9 (.take 10 (.take 11 (.take 12 (.take 13 (.take 14 (.take 15 (.take 16 (.take 17 (.take 18 (.take 19 (.take 20 (.take 21 (.take 22 (.take 23 (.take 24 (.nil)))))))))))))))))))))))))) (by kernel_rfl) (M.kp (by simp) (by simp)) ?_
        refine p_fld fN0 rfl ?_
        refine t_load agg_int rfl (fun W K => (K.B 0 rfl).at_ rfl) ?_
        refine p_eq rfl rfl (fun _ => ?_) (fun h => absurd hb.1 h)
        refine p_at (i := 0) slb rfl rfl rfl hn0 ?_
        refine t_load agg_by' rfl (fun W K => K.lc 1 rfl 0 _ rfl) ?_
        refine t_cvt u_u8r u_intr rfl (r := ((x : Nat) : Int)) (w64 (by omega)) ?_
        refine p_fld fN4 rfl ?_
        refine t_load agg_ns rfl (fun W K => (K.B 0 rfl).at_ rfl) ?_
        refine p_len sln rfl ?_
        refine p_lt rfl rfl (fun _ => ?_) (fun h => absurd (show (x : Int) < (t.kids.length : Int) by have := hb.2; omega) h)
        refine p_fld fN4 rfl ?_
        refine t_load agg_ns rfl (fun W K => (K.B 0 rfl).at_ rfl) ?_
        refine p_at (i := 0) slb rfl rfl rfl hn0 ?_
        refine t_load agg_by' rfl (fun W K => K.lc 1 rfl 0 _ rfl) ?_
        refine p_at (i := x) sln (by show (Value.slice Ak t.kids.length ck) = _; rw [e1]) rfl rfl hb.2 ?_
        refine p_fld fN0 rfl ?_
        refine t_load agg_int rfl (fun W K => K.lc 0 rfl 0 _ rfl) ?_
        refine p_ne rfl rfl (fun hk0 => ?_) (fun hk0 => ?_)
        · have hk0 : kd.kind = 0 := hk0
          have hno2 : ¬ (t.kind = 3 ∧ (l.getD 0 0).toNat < t.kids.length ∧ (t.kids.getD (l.getD 0 0).toNat noneN).kind ≠ 0) := fun h => by rw [← hx, hgd] at h; exact h.2.2 hk0
          have hR2 : R = none := by rw [hR]; exact atP_no hl0 hno1 hno2
          rw [hR2]
          refine p_build (vs := zN) pl_nd z_nd rfl ?_
          refine s_storeA 0 zN M rfl sz_nd rfl rfl rfl (all1 rfl) rfl ?_
          clear M; rintro W M
          dsimp only [setL] at M
          refine c_loadN zN agg_nd rfl rfl (M.run 0 rfl) ?_
          exact ⟨zN, rfl, RdL.znone, M.below⟩
        · have hk0 : kd.kind ≠ 0 := hk0
          have hcut := (M.d1 6 rfl).cutB (i := 1) (j := n) (m := c) (by omega) (Nat.le_refl _) hcap
          rw [List.take_of_length_le (by rw [List.length_drop]; omega)] at hcut
          replace M := (M.addD hcut).drew
          clear hcut
          refine drT (Kp w gs [] [.loc ((⟨b1, o1, none⟩ : Addr).add (x * 6)) (ncs kd Kp' fp Kv fv Kk fk Kh fh), .loc ((⟨b0, o0, none⟩ : Addr).add (0 * 1)) [.int .u8 (x : Int)]]) (.take 0 (.take 2 (.take 3 (.take 4 (.take 7 (.take 8 (.one 1 (.take 5 (.take 6 (.one 9 (.take 10 (.nil)))))))))))) (by kernel_rfl) (M.kp (by simp) (by simp)) ?_
          refine p_fld fN4 rfl ?_
          refine p_at (i := 0) slb rfl rfl rfl hn0 ?_
          refine t_load agg_by' rfl (fun W K => K.lc 1 rfl 0 _ rfl) ?_
          refine p_slice (i := 1) (j := n) (m := c) slb rfl (bnd_i rfl) rfl rfl rfl (by omega) hcap (Nat.le_refl _) ?_
          refine v_load agg_ns rfl ((M.B 1 rfl).at_ rfl) ?_
          refine ⟨(M.kp (by simp) (by simp)), ?_⟩
          refine p_at (i := x) sln (by show (Value.slice Ak t.kids.length ck) = _; rw [e1]) rfl rfl hb.2 ?_
          refine t_loadN (ncs kd Kp' fp Kv fv Kk fk Kh fh) agg_nd rfl rfl (fun W K => K.lc 0 rfl) ?_
          refine s_storeA 1 (ncs kd Kp' fp Kv fv Kk fk Kh fh) M rfl sz_nd rfl rfl rfl (all1 rfl) rfl ?_
          clear M; rintro W M
          dsimp only [setL] at M
          refine ⟨(M.kp (by simp) (by simp)), ?_⟩
          exact ⟨(kd, ncs kd Kp' fp Kv fv Kk fk Kh fh, l.drop 1, slA (some ⟨b0, o0, none⟩) c 1 1, n - 1, c - 1), ⟨by dsimp only; omega, by dsimp only; omega, by dsimp only; rw [hR, atP_br hl0 hb.1 (by rw [← hx]; exact hb.2) (by rw [← hx, hgd]; exact hk0), ← hx, hgd], M.fsub _ (by simp)⟩, (by repeat (first | exact trivial | refine ⟨rfl, ?_⟩)), by dsimp only; omega⟩
      · have hno2 : ¬ (t.kind = 3 ∧ (l.getD 0 0).toNat < t.kids.length ∧ (t.kids.getD (l.getD 0 0).toNat noneN).kind ≠ 0) := fun h => by rw [← hx] at h; exact hb ⟨h.1, h.2.1⟩
        replace M := M.drew
        refine drT (Kp w gs [(g2, 26, ncs t Ap cp Av cv Ak ck Ah ch)] [.loc ((⟨b0, o0, none⟩ : Addr).add (0 * 1)) [.int .u8 (x : Int)]]) (.take 0 (.take 1 (.take 2 (.take 3 (.take 4 (.take 5 (.take 6 (.take 7 (.take 8 (.take 9 (.take 10 (.take 11 (.take 12 (.take 13 (.take 14 (.take 15 (.take 16 (.take 17 (.take 18 (.take 19 (.take 20 (.take 21 (.take 22 (.take 23 (.take 24 (.nil)))))))))))))))))))))))))) (by kernel_rfl) (M.kp (by simp) (by simp)) ?_
        refine p_fld fN0 rfl ?_
        refine t_load agg_int rfl (fun W K => (K.B 0 rfl).at_ rfl) ?_
        refine p_eq rfl rfl (fun h3 => ?_) (fun h3 => ?_)
        · refine p_at (i := 0) slb rfl rfl rfl hn0 ?_
          refine t_load agg_by' rfl (fun W K => K.lc 0 rfl 0 _ rfl) ?_
          refine t_cvt u_u8r u_intr rfl (r := ((x : Nat) : Int)) (w64 (by omega)) ?_
          refine p_fld fN4 rfl ?_
          refine t_load agg_ns rfl (fun W K => (K.B 0 rfl).at_ rfl) ?_
          refine p_len sln rfl ?_
          refine p_lt rfl rfl (fun h => absurd ⟨h3, by have h : (x : Int) < (t.kids.length : Int) := h; omega⟩ hb) (fun _ => ?_)
          have hR2 : R = none := by rw [hR]; exact atP_no hl0 hno1 hno2
          rw [hR2]
          refine p_build (vs := zN) pl_nd z_nd rfl ?_
          refine s_storeA 0 zN M rfl sz_nd rfl rfl rfl (all1 rfl) rfl ?_
          clear M; rintro W M
          dsimp only [setL] at M
          refine c_loadN zN agg_nd rfl rfl (M.run 0 rfl) ?_
          exact ⟨zN, rfl, RdL.znone, M.below⟩
        ·
          have hR2 : R = none := by rw [hR]; exact atP_no hl0 hno1 hno2
          rw [hR2]
          refine p_build (vs := zN) pl_nd z_nd rfl ?_
          refine s_storeA 0 zN M rfl sz_nd rfl rfl rfl (all1 rfl) rfl ?_
          clear M; rintro W M
          dsimp only [setL] at M
          refine c_loadN zN agg_nd rfl rfl (M.run 0 rfl) ?_
          exact ⟨zN, rfl, RdL.znone, M.below⟩
    have h1 : t.kids.length = 1 := by have h : ((t.kids.length : Nat) : Int) = 1 := h1; omega
    have hpl := hq.length_le
    obtain ⟨kd, hkd⟩ : ∃ kd, t.kids[0]? = some kd := ⟨_, List.getElem?_eq_getElem (by omega)⟩
    have hgd : t.kids.getD 0 noneN = kd := by rw [List.getD_eq_getElem?_getD, hkd]; rfl
    have hkz := szs_mem (List.mem_of_getElem? hkd)
    have hcut := (M.d1 4 rfl).cutB (i := t.path.length) (j := n) (m := c) (by omega) (Nat.le_refl _) hcap
    rw [List.take_of_length_le (by rw [List.length_drop]; omega)] at hcut
    replace M := M.addD hcut
    clear hcut
    obtain ⟨b1, o1, es, e1, hel, M'⟩ := M.kid (M.d1 2 rfl) hkd
    replace M := M'.drew; clear M'
    refine drT (Kp w gs [] [.loc ((⟨b1, o1, none⟩ : Addr).add (0 * 6)) es]) (.take 0 (.take 4 (.take 5 (.two 1 (.take 2 (.take 3 (.one 6 (.take 7 (.take 8 (.one 9 (.take 10 .nil))))))) 6 (.take 7 (.take 8 (.one 1 (.take 2 (.take 3 (.one 9 (.take 10 .nil))))))))))) (by kernel_rfl) (M.kp (by simp) (by simp)) ?_
    refine p_fld fN4 rfl ?_
    refine p_fld fN1 rfl ?_
    refine ⟨?_, ?_⟩
    ·
      refine v_load agg_ns rfl ((M.B 1 rfl).at_ rfl) ?_
      refine ⟨(M.kp (by simp) (by simp)), ?_⟩
      refine p_at (i := 0) sln (by show (Value.slice Ak t.kids.length ck) = _; rw [e1]) rfl rfl (by omega) ?_
      refine t_loadN es agg_nd rfl hel (fun W K => K.lc 0 rfl) ?_
      refine v_load agg_b rfl ((M.B 1 rfl).at_ rfl) ?_
      refine ⟨(M.kp (by simp) (by simp)), ?_⟩
      refine p_len slb rfl ?_
      refine p_slice (i := t.path.length) (j := n) (m := c) slb rfl (bnd_i rfl) rfl rfl rfl (by omega) hcap (Nat.le_refl _) ?_
      refine s_storeA 1 es M rfl sz_nd rfl rfl hel ((M.da 1 rfl).ones (dN_one _)) rfl ?_
      clear M; rintro W M
      dsimp only [setL] at M
      refine ⟨(M.kp (by simp) (by simp)), ?_⟩
      exact ⟨(kd, es, l.drop t.path.length, slA (some ⟨b0, o0, none⟩) c t.path.length 1, n - t.path.length, c - t.path.length), ⟨by dsimp only; omega, by dsimp only; omega, by dsimp only; rw [hR, atP_way hl0 h2 hq h1, hgd], M.fsub _ (by simp)⟩, (by repeat (first | exact trivial | refine ⟨rfl, ?_⟩)), by dsimp only; omega⟩
    ·
      refine v_load agg_b rfl ((M.B 1 rfl).at_ rfl) ?_
      refine ⟨(M.kp (by simp) (by simp)), ?_⟩
      refine p_len slb rfl ?_
      refine p_slice (i := t.path.length) (j := n) (m := c) slb rfl (bnd_i rfl) rfl rfl rfl (by omega) hcap (Nat.le_refl _) ?_
      refine v_load agg_ns rfl ((M.B 1 rfl).at_ rfl) ?_
      refine ⟨(M.kp (by simp) (by simp)), ?_⟩
      refine p_at (i := 0) sln (by show (Value.slice Ak t.kids.length ck) = _; rw [e1]) rfl rfl (by omega) ?_
      refine t_loadN es agg_nd rfl hel (fun W K => K.lc 0 rfl) ?_
      refine s_storeA 1 es M rfl sz_nd rfl rfl hel ((M.da 1 rfl).ones (dN_one _)) rfl ?_
      clear M; rintro W M
      dsimp only [setL] at M
      refine ⟨(M.kp (by simp) (by simp)), ?_⟩
      exact ⟨(kd, es, l.drop t.path.length, slA (some ⟨b0, o0, none⟩) c t.path.length 1, n - t.path.length, c - t.path.length), ⟨by dsimp only; omega, by dsimp only; omega, by dsimp only; rw [hR, atP_way hl0 h2 hq h1, hgd], M.fsub _ (by simp)⟩, (by repeat (first | exact trivial | refine ⟨rfl, ?_⟩)), by dsimp only; omega⟩
end Go.Proofs.YtojjfkbffjkojaaDoor
