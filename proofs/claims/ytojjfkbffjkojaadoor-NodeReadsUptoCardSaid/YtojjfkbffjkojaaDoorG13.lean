/- From a walk that returns true and writes nothing that was there to the row; arguments opened to lists. Halves of bytes: what the chapter's examples fix. Halves of bytes: plain laws of the functions: there and back, order, what is joined. The walks of the laws NibsBack, NibsOrder, NibsJoin, NibsCuts. The walk of the law NibsBack. Package node: Decode. The walks of slices.EqualFunc over nodes, for any function; of node.Same. The walk of node.Count (a function that calls itself through a variable); what it counts. Tries without stubs, plainly. The walks of trie.Of, pairs and Pairs. law08: what the chapter's example fixes. law07: known, much. Reference 08: the walks of right, stub, Get. Reference 08: the walks of Put and Drop. Reference 08: the walks of SamePairs, Pairs, Rising, Of. Tries, plainly: what is built of what a trie holds, in whichever order, is that trie. No walk here. -/
import Derived.Test.YtojjfkbffjkojaaDoorRows
import Derived.Test.YtojjfkbffjkojaaDoorG03
import Derived.ProofKit
import Derived.OpenShut
import Derived.ChangeOld
import Derived.WideKeyArgs
import Derived.JoinedCond
import Derived.Test.YtojjfkbffjkojaaDoorG09
import Derived.Test.YtojjfkbffjkojaaDoorG12
import Derived.Test.YtojjfkbffjkojaaDoorG08
import Derived.Test.YtojjfkbffjkojaaDoorG05
import Derived.Test.YtojjfkbffjkojaaDoorG06
import Derived.Test.YtojjfkbffjkojaaDoorG07
import Derived.Test.YtojjfkbffjkojaaDoorG11
namespace Go.Proofs.YtojjfkbffjkojaaDoor
open Go.ChangeShapes Go.WideShapes Go.ChangeAt Go.RowKit

theorem own_ : ownKnob Tryd.prog.godebug = none := by kernel_rfl
theorem laidOut : laidOutB Tryd.prog = true := by kernel_rfl

/-- A call returns true, and below the heap's old size all is as it was. -/
def RetTrue (w : World) (e : Ending) (w' : World) : Prop := e = .returned (.bool true) ∧ Below w.heap.size w w'

section
variable {H : Type} {enc : TypeId × Value → H} {P : Program}
theorem trodAll_stays (hl : laidOutB P = true) {W W' : World} (hb : Below W.heap.size W W') {sp : Nat → Bool} : ∀ (ts : List TypeId) (vs : List Value) (ds : List (DataW H)) (p : List MemPlace),
    (ts.all fun t => P.readableRec t && decide (t < P.types.size)) = true → DataW.TrodAll enc P W 0 (fun _ => true) true ts vs ds p → (∀ x ∈ p, x.block < W.heap.size) → (∀ x ∈ p, sp x.block = true) → DataW.TrodAll enc P W' 0 sp true ts vs ds p
  | [], vs, ds, p, _, h, _, _ => by
    obtain ⟨rfl, rfl, rfl⟩ := trodAll_nil h
    exact trodAll_mk0
  | t :: ts, vs, ds, p, ht, h, hlt, hsp => by
    obtain ⟨v, vs', d, ds', p0, q0, rfl, rfl, rfl, h0, r0⟩ := trodAll_cons h
    rw [List.all_cons, Bool.and_eq_true, Bool.and_eq_true, decide_eq_true_eq] at ht
    refine trodAll_cons_mk (WideElems.Trod_stays hl ht.1.1 ht.1.2 h0 (fun x hx => hb.same (hlt x (by simp [hx]))) (fun x hx => hsp x (by simp [hx]))) (trodAll_stays hl hb ts vs' ds' q0 ht.2 r0 (fun x hx => hlt x (by simp [hx])) (fun x hx => hsp x (by simp [hx])))

theorem post_of_below {f : Func} {s : ChangeSpec} {apart fresh handsOn again : Bool} {W W' : World} {args : Array Value} {v : Value} {ds gs : List (DataW H)} {before pa pv : List MemPlace}
    (hW : DataW.Whole enc P f.params.toList s.vars apart W args.toList ds gs before)
    (hres : ∀ (b : Nat) (sp : Nat → Bool) (hd : Bool), DataW.TrodAll enc P W' b sp hd f.resultTypes.toList (v.resultList f.resultTypes.size) (s.fn H (ds ++ gs)).results [])
    (hargs : ∀ sp : Nat → Bool, (∀ p ∈ before, sp p.block = true) → DataW.TrodAll enc P W' 0 sp true f.params.toList args.toList (s.fn H (ds ++ gs)).args pa)
    (hvars : ∀ sp : Nat → Bool, (∀ p ∈ before, sp p.block = true) → DataW.TrodVars enc P W' sp s.vars (s.fn H (ds ++ gs)).vars pv)
    (hps : before = pa ++ pv) (hb : Below W.heap.size W W')
    (hok : ∀ (j : Nat) (t : TypeId) (r : Value), f.resultTypes[j]? = some t → (v.resultList f.resultTypes.size)[j]? = some r → Value.okWide P W' .any 0 t r) :
    s.post enc P f apart fresh handsOn again W args v W' := by
  have hlt : ∀ p ∈ before, p.block < W.heap.size := fun p hp => hW.lt p hp
  have hold : ∀ p ∈ before, (fun b => decide (b < W.heap.size)) p.block = true := fun p hp => by simpa using hlt p hp
  refine ⟨ds, gs, before, [], pa, pv, hW, hres _ _ _, hargs _ hold, hvars _ hold, World.keptBut_mono (fun p hp => ⟨hp, ?_⟩) (hb.frame (· ∈ before)), fun _ => ?_⟩
  · rw [hps, List.mem_append] at hp
    exact Or.inr hp
  · obtain ⟨_, _, _, _, _, hz, hn⟩ := hW
    refine ⟨hok, _, _, ([] ++ pa) ++ pv, ⟨[] ++ pa, pv, trodAll_append (hargs _ (fun _ _ => rfl)) (hres _ _ _), hvars _ (fun _ _ => rfl), rfl, ?_, ?_⟩, ?_⟩
    · intro b off hp
      have hin : MemPlace.cell b off ∈ before := by rw [hps]; simpa using hp
      rw [hb.frozen (hlt _ hin)]
      exact hz b off hin
    · intro ha
      have := hn ha
      rw [hps] at this
      simpa using this
    · intro p hp _
      rw [hps]
      simpa using hp

/-- THE ROW'S LAST STEP: the law has returned true, nothing that was there has turned. -/
theorem law_post (hl : laidOutB P = true) {tb : TypeId} (hbool : P.underlying tb = some .bool) {f : Func} {s : ChangeSpec} {W W' : World} {args : Array Value} {ds gs : List (DataW H)} {before : List MemPlace}
    (hvars : s.vars = []) (hW : DataW.Whole enc P f.params.toList s.vars false W args.toList ds gs before)
    (hts : (f.params.toList.all fun t => P.readableRec t && decide (t < P.types.size)) = true) (hrt : f.resultTypes = #[tb])
    (hres : (s.fn H (ds ++ gs)).results = [.lit (.bool true)]) (hargs : (s.fn H (ds ++ gs)).args = ds) (hvs : (s.fn H (ds ++ gs)).vars = []) (hb : Below W.heap.size W W') :
    s.post enc P f false true false false W args (.bool true) W' := by
  have hW' := hW
  obtain ⟨p, q, hA, hV, rfl, hfz, hnd⟩ := hW
  rw [hvars] at hV
  obtain ⟨rfl, rfl⟩ := trodVars_none hV
  have hlt : ∀ x ∈ p, x.block < W.heap.size := fun x hx => hW'.lt x (by simp [hx])
  refine post_of_below (pa := p) (pv := []) hW' ?_ ?_ ?_ rfl hb ?_
  · intro b sp hd
    rw [hres, hrt]
    exact trodAll_cons_mk (shut_bool hbool _) trodAll_mk0
  · intro sp hsp
    rw [hargs]
    exact trodAll_stays hl hb _ _ _ _ hts hA hlt (fun x hx => hsp x (by simp [hx]))
  · intro sp hsp
    rw [hvars, hvs]
    rfl
  · exact ok_one hrt rfl (okWide_bool_mk hbool _)
end

end Go.Proofs.YtojjfkbffjkojaaDoor
namespace Go.Proofs.YtojjfkbffjkojaaDoor

theorem ofB_cons (c : UInt8) (l : List UInt8) : ofB (c :: l) = c / 16 :: c % 16 :: ofB l := rfl
theorem div_mod (c : UInt8) : 16 * (c / 16) + c % 16 = c := by
  apply UInt8.toNat_inj.1
  rw [UInt8.toNat_add, UInt8.toNat_mul, UInt8.toNat_div, UInt8.toNat_mod]
  have := c.toNat_lt
  simp; omega
theorem joinB_ofB (l : List UInt8) : joinB (ofB l) = l := by
  induction l with
  | nil => rfl
  | cons c l ih => rw [ofB_cons, joinB, ih, div_mod]
theorem up (a b : UInt8) (ha : a ≤ 15) (hb : b ≤ 15) : (16 * a + b) / 16 = a ∧ (16 * a + b) % 16 = b := by
  have h1 := UInt8.le_iff_toNat_le.1 ha
  have h2 := UInt8.le_iff_toNat_le.1 hb
  constructor <;> apply UInt8.toNat_inj.1
  · rw [UInt8.toNat_div, UInt8.toNat_add, UInt8.toNat_mul]; simp at *; omega
  · rw [UInt8.toNat_mod, UInt8.toNat_add, UInt8.toNat_mul]; simp at *; omega
theorem ofB_joinB : ∀ (l : List UInt8), halvesB l = true → l.length % 2 = 0 → ofB (joinB l) = l
  | a :: b :: r, h, k => by
    have ha := halvesB_le _ h a (by simp)
    have hb := halvesB_le _ h b (by simp)
    have hr : halvesB r = true := halvesB_dropP (l := a :: b :: r) h 2
    rw [joinB, ofB_cons, (up a b ha hb).1, (up a b ha hb).2, ofB_joinB r hr (by simp at k; omega)]
  | [a], _, k => by simp at k
  | [], _, _ => rfl
theorem at8_b8 (x : Int) (h0 : 0 ≤ x) (h1 : x ≤ 255) (l : List UInt8) : at8 (b8 x :: l) 0 = x := by
  show (((b8 x).toNat : Nat) : Int) = x
  unfold b8; rw [UInt8.toNat_ofNat']; omega
theorem b8_at0 (c : UInt8) (l : List UInt8) : b8 (at8 (c :: l) 0) = c := b8_nat c

/-- What is packed is unpacked as it was. -/
theorem unpack_pack (l : List UInt8) (leaf : Bool) (h : halvesB l = true) : unpackE (packL l leaf) = 0 ∧ unpackB (packL l leaf) = leaf ∧ unpackL (packL l leaf) = l ∧ (packL l leaf).length = l.length / 2 + 1 := by
  by_cases hodd : l.length % 2 = 1
  · have e := packL_odd h hodd leaf _ rfl
    have a0 := at8_lo l 0
    have a1 := halvesB_at l h 0
    obtain ⟨x, hx⟩ : ∃ x : Int, x = (if leaf = true then 32 else 0) + 16 + at8 l 0 := ⟨_, rfl⟩
    have hx' : 0 ≤ x ∧ x ≤ 63 ∧ x / 16 % 2 = 1 ∧ x % 16 = at8 l 0 ∧ (x / 32 % 2 = 1 ↔ leaf = true) := by subst hx; cases leaf <;> simp <;> omega
    rw [← hx] at e
    rw [e, List.singleton_append]
    have hat := at8_b8 x (by omega) (by omega) (joinB (l.drop 1))
    have hok : unpackOk (b8 x :: joinB (l.drop 1)) = true := by unfold unpackOk; rw [hat]; simp [hx'.2.2.1]; omega
    obtain ⟨u1, u2, u3⟩ := unpack_ok (b := b8 x :: joinB (l.drop 1)) (by simp) hok
    rw [hat] at u2 u3
    refine ⟨u1, ?_, ?_, ?_⟩
    · rw [u2, Bool.eq_iff_iff]; simp [hx'.2.2.2.2]
    · rw [u3, if_pos hx'.2.2.1, hx'.2.2.2.1]
      rw [show (b8 x :: joinB (l.drop 1)).drop 1 = joinB (l.drop 1) from rfl, ofB_joinB _ (halvesB_dropP h 1) (by rw [List.length_drop]; omega)]
      rcases l with _ | ⟨c, l⟩
      · simp at hodd
      · rw [b8_at0]; rfl
    · rw [List.length_cons, joinB_length, List.length_drop]; omega
  · have e := packL_even h (by omega) leaf _ rfl
    obtain ⟨x, hx⟩ : ∃ x : Int, x = if leaf = true then 32 else 0 := ⟨_, rfl⟩
    have hx' : 0 ≤ x ∧ x ≤ 63 ∧ x / 16 % 2 = 0 ∧ x % 16 = 0 ∧ (x / 32 % 2 = 1 ↔ leaf = true) := by subst hx; cases leaf <;> simp
    rw [← hx] at e
    rw [e, List.singleton_append]
    have hat := at8_b8 x (by omega) (by omega) (joinB l)
    have hok : unpackOk (b8 x :: joinB l) = true := by unfold unpackOk; rw [hat]; simp [hx'.2.2.2.1]; omega
    obtain ⟨u1, u2, u3⟩ := unpack_ok (b := b8 x :: joinB l) (by simp) hok
    rw [hat] at u2 u3
    refine ⟨u1, ?_, ?_, ?_⟩
    · rw [u2, Bool.eq_iff_iff]; simp [hx'.2.2.2.2]
    · rw [u3, if_neg (by omega)]
      rw [show (b8 x :: joinB l).drop 1 = joinB l from rfl, ofB_joinB _ h (by omega)]; rfl
    · rw [List.length_cons, joinB_length]

/-- What is unpacked is packed as it was. -/
theorem pack_unpack (b : List UInt8) (h : unpackE b = 0) : packE (unpackL b) = 0 ∧ packL (unpackL b) (unpackB b) = b := by
  by_cases hl : b.length = 0
  · simp [unpackE, hl] at h
  · have hok : unpackOk b = true := by
      by_cases hk : unpackOk b = true
      · exact hk
      · simp [unpackE, hl, hk] at h
    obtain ⟨_, u2, u3⟩ := unpack_ok hl hok
    rcases b with _ | ⟨c, r⟩
    · simp at hl
    · have e0 : at8 (c :: r) 0 = (c.toNat : Int) := rfl
      have c1 := c.toNat_lt
      unfold unpackOk at hok
      rw [e0] at u2 u3 hok
      simp only [Bool.and_eq_true, Bool.or_eq_true, decide_eq_true_eq] at hok
      rw [show (c :: r).drop 1 = r from rfl] at u3
      have hr := halvesB_ofB r
      by_cases hodd : (c.toNat : Int) / 16 % 2 = 1
      · rw [if_pos hodd] at u3
        have hm : 0 ≤ (c.toNat : Int) % 16 ∧ (c.toNat : Int) % 16 ≤ 15 := by omega
        have hh : halvesB ([b8 ((c.toNat : Int) % 16)] ++ ofB r) = true := halvesB_cons _ _ (b8_le _ hm.1 hm.2) hr
        rw [u3, u2]
        refine ⟨packE_ok hh, ?_⟩
        rw [packL_odd hh (by rw [List.length_append, ofB_length]; simp) _ _ rfl]
        simp only [List.singleton_append]
        rw [at8_b8 _ hm.1 (by omega)]
        rw [show (b8 ((c.toNat : Int) % 16) :: ofB r).drop 1 = ofB r from rfl, joinB_ofB]
        congr 1
        rw [← b8_nat c]
        congr 1
        rw [b8_nat c]
        by_cases h32 : (c.toNat : Int) / 32 % 2 = 1 <;> simp [h32] <;> omega
      · rw [if_neg hodd, List.nil_append] at u3
        rw [u3, u2]
        refine ⟨packE_ok hr, ?_⟩
        rw [packL_even hr (by rw [ofB_length]; omega) _ _ rfl, joinB_ofB, List.singleton_append]
        congr 1
        rw [← b8_nat c]
        congr 1
        rw [b8_nat c]
        by_cases h32 : (c.toNat : Int) / 32 % 2 = 1 <;> simp [h32] <;> omega
end Go.Proofs.YtojjfkbffjkojaaDoor
namespace Go.Proofs.YtojjfkbffjkojaaDoor
open Go.RowKit

theorem unpackL_len (b : List UInt8) : (unpackL b).length ≤ 2 * b.length := by
  unfold unpackL
  split
  · simp
  · split
    · rw [List.length_append, ofB_length, List.length_drop]
      split <;> simp <;> omega
    · simp
end Go.Proofs.YtojjfkbffjkojaaDoor
namespace Go.Proofs.YtojjfkbffjkojaaDoor
open Go.RowKit
theorem sz_stubN (h : List UInt8) : sz (stubN h) = 6 + h.length := by unfold stubN; rw [sz, szs]; simp
theorem cut32_len (s : RS) : (cutP 32 s).1.length ≤ 32 := by
  unfold cutP
  split
  · simp
  · dsimp only; rw [List.length_take]; omega
theorem kidsR_sz (set : List UInt8) : ∀ (n i : Nat) (s : RS), szs (kidsR set n i s).1 ≤ 38 * n
  | 0, i, s => by rw [kidsR, szs]; exact Nat.zero_le _
  | n + 1, i, s => by
    rw [kidsR]
    split
    · have h1 := kidsR_sz set n (i + 1) (cutP 32 s).2
      have h2 := cut32_len s
      rw [szs, sz_stubN]; omega
    · have h1 := kidsR_sz set n (i + 1) s
      have h2 : sz noneN = 6 := rfl
      rw [szs]; omega
theorem nodeR_sz (b : List UInt8) : sz (nodeR ⟨b, false⟩).1 ≤ 2000 + 4 * b.length := by
  unfold nodeR
  have hle := cutP_le 1 ⟨b, false⟩
  obtain ⟨C, hC⟩ : ∃ C, C = cutP 1 ⟨b, false⟩ := ⟨_, rfl⟩
  rw [← hC] at hle
  rw [← hC]
  dsimp only at hle ⊢
  have e0 : sz noneN = 6 := rfl
  split
  · show sz noneN ≤ _; omega
  split
  · unfold leafR
    have h1 := textP_le C.2
    dsimp only
    obtain ⟨T, hT⟩ : ∃ T, T = textP C.2 := ⟨_, rfl⟩
    rw [← hT] at h1
    rw [← hT]
    have h2 := unpackL_len T.1
    split
    · have h3 := cut32_len ⟨T.2.l, T.2.bad || (decide (unpackE T.1 ≠ 0) || decide (unpackB T.1 ≠ decide (at8 C.1 0 = 1)))⟩
      rw [sz, szs, szs, sz_stubN]
      simp only [List.length_nil]
      omega
    · have h3 := textP_le ⟨T.2.l, T.2.bad || (decide (unpackE T.1 ≠ 0) || decide (unpackB T.1 ≠ decide (at8 C.1 0 = 1)))⟩
      dsimp only at h3
      rw [sz, szs]
      simp only [List.length_nil]
      omega
  split
  · unfold brR
    dsimp only
    have h1 := cutP_le 1 C.2
    obtain ⟨H, hH⟩ : ∃ H, H = cutP 1 C.2 := ⟨_, rfl⟩
    rw [← hH] at h1
    rw [← hH]
    have h2 : (valR (hasR H.1) H.2).1.length ≤ H.2.l.length := by
      unfold valR
      split
      · exact (textP_le H.2).2
      · simp
    have h3 := kidsR_sz (cutP 2 (valR (hasR H.1) H.2).2).1 16 0 (cutP 2 (valR (hasR H.1) H.2).2).2
    rw [sz]
    simp only [List.length_nil]
    omega
  · rw [sz, szs]
    simp only [List.length_nil]
    omega
/-- What node.Decode answers. -/
def decP (b : List UInt8) : Nd × Int :=
  if (nodeR ⟨b, false⟩).2.bad = true ∨ 0 < (nodeR ⟨b, false⟩).2.l.length then (noneN, 11)
  else if encR (nodeR ⟨b, false⟩).1 = (b, 0) then ((nodeR ⟨b, false⟩).1, 0) else (noneN, 11)
theorem is_ndec : isFn Tryd.prog 31 = true := by kernel_rfl
set_option maxRecDepth 100000 in
set_option maxHeartbeats 2000000 in
theorem ndec_any (l : List UInt8) (gs : List (Option Nat)) (w : World) (A : Option Addr) (n c : Nat) (hG : GL w gs) (h : RdD w (Fd w gs) (dB l) (.slice A n c)) (hgs : ∀ b, some b ∈ gs → b < w.heap.size) (hz : n ≤ 10000000) :
    Calls Tryd.prog 31 #[.slice A n c] w fun e w' => ∃ cs, e = .returned (.tuple #[.agg cs.toArray, .int .i64 (decP l).2]) ∧ RdL w' (Fr w w') (dN (decP l).1) cs ∧ Below w.heap.size w w' := by
  refine calls_ev (args := [.slice A n c]) mixed Tryd.func31 rfl (by kernel_rfl) ?_
  have en := h.slen
  have hsz := nodeR_sz l
  have M := (St.start hgs).addD h
  clear h
  refine s_alloc (zN) M al_nd ?_
  clear M
  rintro g2 W M
  refine p_build (vs := [.slice A n c, .bool false]) pl_rd z_rd rfl ?_
  refine s_box ([.slice A n c, .bool false]) M rfl ?_
  clear M
  rintro g10 W M
  refine cc is_rnode (rnode_any M (M.d1 0 rfl) (by omega)) ?_
  clear M
  rintro e W ⟨cs, A2, n2, c2, he, M⟩
  unfold decP
  obtain ⟨N, hN⟩ : ∃ N, N = nodeR ⟨l, false⟩ := ⟨_, rfl⟩
  rw [← hN] at M hsz ⊢
  obtain ⟨t, ⟨l2, b2⟩⟩ := N
  dsimp only at M hsz ⊢
  subst he
  refine ⟨_, rfl, ?_⟩
  have hcl := (M.da 0 rfl).len
  rw [dN_len] at hcl
  have e2 := (M.d1 1 rfl).slen
  refine s_alloc (zN) M al_nd ?_
  clear M
  rintro g5 W M
  refine s_storeA 0 cs M rfl sz_nd rfl rfl hcl ((M.da 0 rfl).ones (dN_one _)) rfl ?_
  clear M; rintro W M
  dsimp only [setL] at M
  refine p_nil rfl ?_
  refine p_fld fr1 rfl ?_
  refine v_load agg_bo rfl ((M.B 1 rfl).at_ rfl) ?_
  cases b2 with
  | true =>
    rw [if_pos (.inl rfl)]
    refine p_build (vs := zN) pl_nd z_nd rfl ?_
    refine s_storeA 2 zN M rfl sz_nd rfl rfl rfl (all1 rfl) rfl ?_
    clear M; rintro W M
    dsimp only [setL] at M
    refine c_loadN zN agg_nd rfl rfl (M.run 2 rfl) ?_
    exact ⟨zN, rfl, RdL.znone, M.below⟩
  | false =>
  refine p_nil rfl ?_
  refine p_fld fr0 rfl ?_
  refine v_load agg_b rfl ((M.B 1 rfl).at_ rfl) ?_
  refine p_len slb rfl ?_
  refine p_gt rfl rfl (fun hgt => ?_) (fun hgt => ?_)
  · rw [if_pos (.inr (by omega))]
    refine p_build (vs := zN) pl_nd z_nd rfl ?_
    refine s_storeA 2 zN M rfl sz_nd rfl rfl rfl (all1 rfl) rfl ?_
    clear M; rintro W M
    dsimp only [setL] at M
    refine c_loadN zN agg_nd rfl rfl (M.run 2 rfl) ?_
    exact ⟨zN, rfl, RdL.znone, M.below⟩
  rw [if_neg (by rintro (h | h); cases h; omega)]
  refine v_loadN cs agg_nd rfl hcl (M.run 0 rfl) ?_
  refine cc is_nEnc (nEnc_any t (by omega) _ _ cs (M.gl hG) (M.da 0 rfl) M.olt) ?_
  rintro e W ⟨A6, n6, c6, rfl, o6, hb⟩
  replace M := M.callO hb o6
  clear o6 hb
  refine ⟨_, rfl, ?_⟩
  obtain ⟨E, hE⟩ : ∃ E, E = encR t := ⟨_, rfl⟩
  rw [← hE] at M ⊢
  obtain ⟨eb, ee⟩ := E
  dsimp only at M ⊢
  refine p_ne rfl rfl (fun he0 => ?_) (fun he0 => ?_)
  · refine cc is_beq (beq_any _ _ _ _ _ c _ _ eb l _ (M.rdb 0 rfl).2.2 (M.rdb 3 rfl).2.2) ?_
    rintro e W' ⟨rfl, rfl⟩
    refine ⟨_, rfl, ?_⟩
    refine p_not rfl ?_
    have he0 : ee = 0 := he0
    by_cases heq : eb = l
    · rw [decide_eq_true heq, if_pos (by rw [heq, he0])]
      refine v_loadN cs agg_nd rfl hcl (M.run 0 rfl) ?_
      refine s_storeA 2 cs M rfl sz_nd rfl rfl hcl ((M.da 1 rfl).ones (dN_one _)) rfl ?_
      clear M; rintro W M
      dsimp only [setL] at M
      refine c_loadN cs agg_nd rfl hcl (M.run 2 rfl) ?_
      exact ⟨cs, rfl, M.finF 1 rfl, M.below⟩
    · rw [decide_eq_false heq, if_neg (fun e => heq (congrArg Prod.fst e))]
      refine p_build (vs := zN) pl_nd z_nd rfl ?_
      refine s_storeA 2 zN M rfl sz_nd rfl rfl rfl (all1 rfl) rfl ?_
      clear M; rintro W M
      dsimp only [setL] at M
      refine c_loadN zN agg_nd rfl rfl (M.run 2 rfl) ?_
      exact ⟨zN, rfl, RdL.znone, M.below⟩
  · rw [if_neg (fun e => he0 (congrArg Prod.snd e))]
    refine p_build (vs := zN) pl_nd z_nd rfl ?_
    refine s_storeA 2 zN M rfl sz_nd rfl rfl rfl (all1 rfl) rfl ?_
    clear M; rintro W M
    dsimp only [setL] at M
    refine c_loadN zN agg_nd rfl rfl (M.run 2 rfl) ?_
    exact ⟨zN, rfl, RdL.znone, M.below⟩
end Go.Proofs.YtojjfkbffjkojaaDoor
namespace Go.Proofs.YtojjfkbffjkojaaDoor
open Go.RowKit
def fv (g4 g5 g6 : Nat) : Value := .func (.func 77) #[] #[.pointer (some ⟨g4, 0, none⟩), .pointer (some ⟨g5, 0, none⟩), .pointer (some ⟨g6, 0, none⟩)]
end Go.Proofs.YtojjfkbffjkojaaDoor
namespace Go.Proofs.YtojjfkbffjkojaaDoor
theorem sum_mem {α : Type} (f : α → Nat) : ∀ {l : List α} {x : α}, x ∈ l → f x ≤ (l.map f).sum
  | y :: l, x, h => by
    rw [List.map_cons, List.sum_cons]
    rcases List.mem_cons.1 h with rfl | h
    · omega
    · have := sum_mem f h; omega
end Go.Proofs.YtojjfkbffjkojaaDoor
namespace Go.Proofs.YtojjfkbffjkojaaDoor
open Go.RowKit
structure PairsR where
  l : List Pr
  miss : Option (List UInt8)
  e : Int
end Go.Proofs.YtojjfkbffjkojaaDoor
namespace Go.Proofs.YtojjfkbffjkojaaDoor
open Go.RowKit
/-- A block that is marked as a string's. -/
theorem St.mark {w W W' : World} {gs : List (Option Nat)} {L : Lc} {R : List Row} {fs : List Fact} {g n c : Nat} {T : TypeId} {cs : List Value} {l : List UInt8} (M : St w gs W ((g, T, cs) :: L) R fs) (hg : W.grownBy W' (some g)) (hr : Rd W' W'.heap.size (some ⟨g, 0, none⟩) n l) (hc : n ≤ c) : St w gs W' L R (.dat false [dB l] [.slice (some ⟨g, 0, none⟩) n c] :: fs) := by
  have hgw := (M.blk _ (List.mem_cons_self ..)).2
  have hap := M.ap
  rw [List.map_cons, List.cons_append, List.pairwise_cons] at hap
  have kept : ∀ o : Option Nat, o ∈ L.map (fun x => some x.1) ++ R.map (fun r => bk r.A) → o = none ∨ o ≠ some g := fun o ho => apart_comm (hap.1 o ho)
  have hn : some g ∉ own L R gs := fun e => by
    unfold own at e
    rw [← List.append_assoc] at e
    rcases List.mem_append.1 e with e | e
    · rcases hap.1 _ e with h | h
      · cases h
      · exact h rfl
    · have := M.lt g e
      have : w.heap.size ≤ g := hgw
      omega
  have M' : St w gs W' L R fs := by
    refine ⟨M.below.grown hg M.size (fun b e => by injection e with e; omega), M.lt, fun y hy => ⟨(M.blk y (by simp [hy])).1.grown hg ?_, (M.blk y (by simp [hy])).2⟩, fun r hr => ?_, hap.2, fun f hf => ((M.fct f hf).up (Stp.wrote hg (by unfold own; simp))).up ⟨Nat.le_refl _, fun _ _ _ => rfl, fun b _ e => by unfold own at *; simp only [List.map_cons, List.cons_append, List.mem_cons]; right; exact e⟩⟩
    · rcases kept (some y.1) (List.mem_append_left _ (List.mem_map.2 ⟨y, hy, rfl⟩)) with h | h
      · cases h
      · exact fun e => h e.symm
    · exact row_kept' (M.row r hr) hg (kept _ (List.mem_append_right _ (List.mem_map.2 ⟨r, hr, rfl⟩)))
  refine M'.addT (RdL.one (RdD.ofbytes hr hc (fun b off e hb => ?_)))
  injection e with e
  injection e with e1 e2
  subst e1
  exact ⟨hb, hn, fun e => by cases e⟩
theorem s_cvtB {E : Env} {d : Option Nat} {ty : TypeId} {p : String} {af : Array Edge} {gd : Option (Nat × Bool)} {x : Operand} {kw : Value → World → Prop} {w W : World} {gs : List (Option Nat)} {L : Lc} {R : List Row} {fs : List Fact} {g n c : Nat} (l : List UInt8) (M : St w gs W ((g, 5, bvs l) :: L) R fs) (hx : val E x = .slice (some ⟨g, 0, none⟩) n c) (hn : n = l.length) (hc : n ≤ c)
    (h : ∀ W', St w gs W' L R (.dat false [dB l] [.slice (some ⟨g, 0, none⟩) n c] :: fs) → kw (.slice (some ⟨g, 0, none⟩) n c) W') :
    VVal Tryd.prog E { dst := d, op := .convert 23 23 x, type := ty, pos := p, after := af, guard := gd } W kw :=
  v_cvtB hx (M.B 0 rfl) hn fun W' hr hg _ => h W' (M.mark hg hr hc)
end Go.Proofs.YtojjfkbffjkojaaDoor
namespace Go.Proofs.YtojjfkbffjkojaaDoor
open Go.RowKit
theorem is_kn7 : isFn Tryd.prog 30 = true := by kernel_rfl
def kb7 : List UInt8 := [1, 2, 32, 18, 1, 120]
def kd7 : Nd := (decP kb7).1
theorem k7_0 : encR noneN = ([0], 0) ∧ encR (.mk 1 [1, 2] false [120] [] []) = (kb7, 0) := by decide +kernel
theorem k7_1 : (decP kb7).2 = 0 ∧ kd7.kind = 1 ∧ kd7.val.length = 1 ∧ checkE kd7 = 0 ∧ rightP false kd7 0 = true ∧ sz kd7 ≤ 1000 := by decide +kernel
theorem k7_2 : (decP [0, 0]).2 = 11 := by decide +kernel
set_option maxRecDepth 100000 in
set_option maxHeartbeats 4000000 in
theorem known7_any (gs : List (Option Nat)) (w : World) (hG : GL w gs) (hgs : ∀ b, some b ∈ gs → b < w.heap.size) : Calls Tryd.prog 30 #[] w fun e w' => e = .returned (.bool true) ∧ Below w.heap.size w w' := by
  refine calls_ev (args := []) mixed Tryd.func30 rfl (by kernel_rfl) ?_
  have M := St.start (w := w) (gs := gs) hgs
  refine p_build (vs := zN) pl_nd z_nd rfl ?_
  refine cc is_nEnc (nEnc_any noneN (by decide) _ _ zN (M.gl hG) RdL.znone M.olt) ?_
  rintro e W ⟨A1, n1, c1, he, o, hb⟩
  rw [k7_0.1] at he o
  subst he
  replace M := M.callO hb o
  clear o hb
  refine ⟨_, rfl, ?_⟩
  refine s_bslice (bvs [1, 2]) (fr := true) (ds := (bvs [1, 2]).map D.v) M slb (zs := [.int .u8 0]) (by kernel_rfl) rfl (by decide) rfl (RdL.ofvals _) rfl ?_
  clear M; rintro g1 W M
  refine s_bsliceB (bvs [120]) M slb (zs := [.int .u8 0]) (by kernel_rfl) rfl (by decide) rfl ?_
  clear M; rintro g2 W M
  refine s_cvtB [120] M rfl rfl (Nat.le_refl _) ?_
  clear M; rintro W M
  refine p_build (vs := ncs (.mk 1 [1, 2] false [120] [] []) (some ⟨g1, 0, none⟩) 2 (some ⟨g2, 0, none⟩) 1 none 0 none 0) pl_nd z_nd rfl ?_
  refine cc is_nEnc (nEnc_any (.mk 1 [1, 2] false [120] [] []) (by decide) _ _ _ (M.gl hG) (RdL.ofnode (t := .mk 1 [1, 2] false [120] [] []) (M.d1 1 rfl) (M.d1 0 rfl) (RdD.nil_ (s := 6) none 0) (RdD.nil_ (s := 1) none 0)) M.olt) ?_
  rintro e W ⟨A2, n2, c2, he, o, hb⟩
  rw [k7_0.2] at he o
  subst he
  have hn2 : 6 = n2 := o.len
  subst hn2
  replace M := M.callO hb o
  clear o hb
  refine ⟨_, rfl, ?_⟩
  refine cc is_ndec (ndec_any kb7 _ _ _ _ c2 (M.gl hG) (M.d1 0 rfl) M.olt (by decide)) ?_
  rintro e W ⟨cs3, he, r3, hb⟩
  obtain ⟨e1, e2, e3, e4, e5, e6⟩ := k7_1
  rw [e1] at he
  subst he
  replace r3 : RdL W _ (dN kd7) cs3 := r3
  obtain ⟨t, ht⟩ : ∃ t, t = kd7 := ⟨_, rfl⟩
  rw [← ht] at r3 e2 e3 e4 e5 e6
  clear ht
  obtain ⟨Ap, cp, Av, cv, Ak, ck, Ah, ch, rfl, -⟩ := id r3.node
  replace M := M.callF hb r3
  clear r3 hb
  refine ⟨_, rfl, ?_⟩
  refine s_alloc (zN) M al_nd ?_
  clear M
  rintro g5 W M
  first | refine s_storeA 0 (ncs t Ap cp Av cv Ak ck Ah ch) M rfl (by kernel_rfl) rfl rfl rfl (all1 rfl) rfl ?_ | refine s_storeA 1 (ncs t Ap cp Av cv Ak ck Ah ch) M rfl (by kernel_rfl) rfl rfl rfl (all1 rfl) rfl ?_ | refine s_storeA 2 (ncs t Ap cp Av cv Ak ck Ah ch) M rfl (by kernel_rfl) rfl rfl rfl (all1 rfl) rfl ?_ | refine s_storeA 3 (ncs t Ap cp Av cv Ak ck Ah ch) M rfl (by kernel_rfl) rfl rfl rfl (all1 rfl) rfl ?_
  clear M
  rintro W M
  dsimp only [setL] at M
  refine s_bslice (bvs [0, 0]) (fr := true) (ds := (bvs [0, 0]).map D.v) M slb (zs := [.int .u8 0]) (by kernel_rfl) rfl (by decide) rfl (RdL.ofvals _) rfl ?_
  clear M; rintro g6 W M
  refine cc is_ndec (ndec_any [0, 0] _ _ _ _ _ (M.gl hG) (M.d1 0 rfl) M.olt (by decide)) ?_
  rintro e W ⟨cs4, he, r4, hb⟩
  rw [k7_2] at he
  subst he
  have hc4 := r4.len
  rw [dN_len] at hc4
  replace M := M.callF hb r4
  clear r4 hb
  refine ⟨_, rfl, ?_⟩
  refine s_alloc (zN) M al_nd ?_
  clear M
  rintro g7 W M
  refine s_storeA 0 cs4 M rfl sz_nd rfl rfl hc4 ((M.da 0 rfl).ones (dN_one _)) rfl ?_
  clear M; rintro W M
  dsimp only [setL] at M
  refine s_bslice (bvs [0]) (fr := true) (ds := (bvs [0]).map D.v) M slb (zs := [.int .u8 0]) (by kernel_rfl) rfl (by decide) rfl (RdL.ofvals _) rfl ?_
  clear M; rintro g8 W M
  obtain ⟨q, hq, hc⟩ := same_tf (c1 := c1) (c2 := 1) (M.rdb (l := [0]) 7 rfl).2.2 (M.rdb (l := [0]) 0 rfl).2.2
  obtain rfl := hq.2 rfl
  refine cc is_same0 hc ?_
  rintro e W' ⟨rfl, rfl⟩
  refine ⟨_, rfl, ?_⟩
  clear hq hc
  refine p_eq rfl rfl (fun _ => ?_) (fun e => absurd rfl e)
  refine s_bslice (bvs [1, 2, 32, 18, 1, 120]) (fr := true) (ds := (bvs [1, 2, 32, 18, 1, 120]).map D.v) M slb (zs := [.int .u8 0]) (by kernel_rfl) rfl (by decide) rfl (RdL.ofvals _) rfl ?_
  clear M; rintro g9 W M
  obtain ⟨q, hq, hc⟩ := same_tf (c1 := c2) (c2 := 6) (M.rdb (l := [1, 2, 32, 18, 1, 120]) 5 rfl).2.2 (M.rdb (l := [1, 2, 32, 18, 1, 120]) 0 rfl).2.2
  obtain rfl := hq.2 rfl
  refine cc is_same0 hc ?_
  rintro e W' ⟨rfl, rfl⟩
  refine ⟨_, rfl, ?_⟩
  clear hq hc
  refine p_eq rfl rfl (fun _ => ?_) (fun e => absurd rfl e)
  refine p_eq rfl rfl (fun _ => ?_) (fun e => absurd rfl e)
  refine p_fld fN0 rfl ?_
  refine v_load agg_int rfl ((M.B 1 rfl).at_ rfl) ?_
  refine p_eq rfl rfl (fun _ => ?_) (fun e => absurd e2 e)
  refine p_fld fN3 rfl ?_
  refine v_load agg_b rfl ((M.B 1 rfl).at_ rfl) ?_
  refine p_len slb rfl ?_
  refine p_eq rfl rfl (fun _ => ?_) (fun e => absurd (by rw [e3]; rfl) e)
  refine p_eq rfl rfl (fun _ => ?_) (fun e => absurd rfl e)
  refine v_loadN (ncs t Ap cp Av cv Ak ck Ah ch) agg_nd rfl rfl (M.run 1 rfl) ?_
  refine cc is_ncheck (ncheck_any t (by omega) _ _ _ (M.da 4 rfl) M.olt) ?_
  rintro e W ⟨he, hb⟩
  rw [e4] at he
  subst he
  replace M := M.call hb
  clear hb
  refine ⟨_, rfl, ?_⟩
  refine p_eq rfl rfl (fun _ => ?_) (fun e => absurd rfl e)
  refine v_loadN (ncs t Ap cp Av cv Ak ck Ah ch) agg_nd rfl rfl (M.run 1 rfl) ?_
  refine cc is_nHash (nHash_any t (by omega) _ _ _ (M.gl hG) (M.da 4 rfl) M.olt) ?_
  rintro e W ⟨A9, n9, c9, rfl, o, hb⟩
  have hn9 : (hashR t).length = n9 := o.len
  have h32 : (hashR t).length = 32 := by
    unfold hashR
    rw [if_pos e5]
    exact hashP_len (val_of_right false _ t 0 (Nat.lt_succ_self _) e5)
  replace M := M.callO hb o
  clear o hb
  refine ⟨_, rfl, ?_⟩
  refine p_len slb rfl ?_
  refine p_eq rfl rfl (fun _ => ?_) (fun e => absurd (by rw [← hn9, h32]; rfl) e)
  exact ⟨rfl, M.below⟩
end Go.Proofs.YtojjfkbffjkojaaDoor
namespace Go.Proofs.YtojjfkbffjkojaaDoor
open Go.RowKit
def keepI (q : List UInt8) (x : It) : Bool := x.stub || !decide (x.path = q)
end Go.Proofs.YtojjfkbffjkojaaDoor
namespace Go.Proofs.YtojjfkbffjkojaaDoor
open Go.RowKit
theorem dPrs_drop : ∀ (l : List Pr) (k : Nat), (dPrs l).drop (k * 2) = dPrs (l.drop k)
  | l, 0 => by simp
  | [], k + 1 => by simp [dPrs]
  | p :: l, k + 1 => by
    rw [show (k + 1) * 2 = (dPr p).length + k * 2 by rw [dPr_len]; omega, List.drop_succ_cons, ← dPrs_drop l k]
    show (dPr p ++ dPrs l).drop _ = _
    rw [← List.drop_drop, List.drop_left]
theorem RdD.cutP {W : World} {F : Nat → Prop} {l : List Pr} {A : Option Addr} {n c k : Nat} (h : RdD W F (dPl l) (.slice A n c)) (hk : k ≤ n) : RdD W F (dPl (l.drop k)) (.slice (slA A c k 2) (n - k) (c - k)) := by
  have hn := h.slen
  have h2 := h.cut (i := k) (j := n) (m := c) hk (Nat.le_refl _) h.scap
  have e1 : (dPrs l).drop (k * 2) = dPrs (l.drop k) := dPrs_drop l k
  have e2 : (l.drop k).length = n - k := by rw [List.length_drop]; omega
  rw [e1, List.take_of_length_le (by unfold dPrs; rw [flat_len dPr_len, e2]; omega)] at h2
  show RdD W F (.sl 2 (l.drop k).length (dPrs (l.drop k))) _
  rw [e2]
  exact h2
end Go.Proofs.YtojjfkbffjkojaaDoor
namespace Go.Proofs.YtojjfkbffjkojaaDoor
/-- The same, or known where it was not. -/
def Up (x y : It) : Prop := y.path = x.path ∧ y.val = x.val ∧ y.stub = x.stub ∧ y.hash = x.hash ∧ (x.known = true → y.known = true)
theorem Up.refl (x : It) : Up x x := ⟨rfl, rfl, rfl, rfl, id⟩
theorem Up.trans {x y z : It} (h : Up x y) (k : Up y z) : Up x z := ⟨k.1.trans h.1, k.2.1.trans h.2.1, k.2.2.1.trans h.2.2.1, k.2.2.2.1.trans h.2.2.2.1, fun e => k.2.2.2.2 (h.2.2.2.2 e)⟩
/-- The same in another order, some of it known that was not. -/
inductive Like : List It → List It → Prop
  | nil : Like [] []
  | cons {x y : It} {l m : List It} (h : Up x y) (t : Like l m) : Like (x :: l) (y :: m)
  | swap (x y : It) (l : List It) : Like (x :: y :: l) (y :: x :: l)
  | trans {a b c : List It} (h : Like a b) (t : Like b c) : Like a c
theorem Like.refl : ∀ l, Like l l
  | [] => .nil
  | x :: l => .cons (.refl x) (Like.refl l)
theorem Like.len {l m : List It} (h : Like l m) : m.length = l.length := by
  induction h with
  | nil => rfl
  | cons _ _ ih => rw [List.length_cons, List.length_cons, ih]
  | swap x y l => rfl
  | trans _ _ a b => exact b.trans a
theorem Like.filter {l m : List It} (p : It → Bool) (hp : ∀ x y, Up x y → p y = p x) (h : Like l m) : Like (l.filter p) (m.filter p) := by
  induction h with
  | nil => exact .nil
  | @cons x y l m hu _ ih =>
    rw [List.filter_cons, List.filter_cons, hp x y hu]
    split
    · exact .cons hu ih
    · exact ih
  | swap x y l =>
    rw [List.filter_cons, List.filter_cons, List.filter_cons, List.filter_cons]
    split <;> split <;> first | exact .swap _ _ _ | exact .refl _
  | trans _ _ a b => exact .trans a b
theorem Like.appl : ∀ (k : List It) {l m : List It}, Like l m → Like (k ++ l) (k ++ m)
  | [], _, _, h => h
  | x :: k, _, _, h => .cons (.refl x) (Like.appl k h)
theorem Like.appr {l m : List It} (k : List It) (h : Like l m) : Like (l ++ k) (m ++ k) := by
  induction h with
  | nil => exact .refl _
  | cons hu _ ih => exact .cons hu ih
  | swap x y l => exact .swap _ _ _
  | trans _ _ a b => exact .trans a b
theorem Like.app {l m l' m' : List It} (h : Like l m) (h' : Like l' m') : Like (l ++ l') (m ++ m') := .trans (h.appr l') (h'.appl m)
theorem Like.mem_r {l m : List It} (h : Like l m) : ∀ y ∈ m, ∃ x ∈ l, Up x y := by
  induction h with
  | nil => intro y h; cases h
  | @cons x y l m hu _ ih =>
    intro z hz
    rcases List.mem_cons.1 hz with rfl | hz
    · exact ⟨x, by simp, hu⟩
    · obtain ⟨x', h1, h2⟩ := ih z hz; exact ⟨x', by simp [h1], h2⟩
  | swap x y l => intro z hz; exact ⟨z, by simp only [List.mem_cons] at hz ⊢; rcases hz with h | h | h <;> simp [h], .refl z⟩
  | trans _ _ a b =>
    intro z hz
    obtain ⟨y, h1, h2⟩ := b z hz
    obtain ⟨x, h3, h4⟩ := a y h1
    exact ⟨x, h3, h4.trans h2⟩
theorem Like.mem_l {l m : List It} (h : Like l m) : ∀ x ∈ l, ∃ y ∈ m, Up x y := by
  induction h with
  | nil => intro y h; cases h
  | @cons x y l m hu _ ih =>
    intro z hz
    rcases List.mem_cons.1 hz with rfl | hz
    · exact ⟨y, by simp, hu⟩
    · obtain ⟨x', h1, h2⟩ := ih z hz; exact ⟨x', by simp [h1], h2⟩
  | swap x y l => intro z hz; exact ⟨z, by simp only [List.mem_cons] at hz ⊢; rcases hz with h | h | h <;> simp [h], .refl z⟩
  | trans _ _ a b =>
    intro z hz
    obtain ⟨y, h1, h2⟩ := a z hz
    obtain ⟨x, h3, h4⟩ := b y h1
    exact ⟨x, h3, h2.trans h4⟩
/-- All begin alike with so many, from a place on. -/
def Sh (l : List It) (at_ K : Nat) : Prop := ∃ c : List UInt8, c.length = K ∧ ∀ x ∈ l, c <+: x.path.drop at_
theorem Sh.mono {l : List It} {at_ K K' : Nat} (h : Sh l at_ K) (hk : K' ≤ K) : Sh l at_ K' := by
  obtain ⟨c, h1, h2⟩ := h
  exact ⟨c.take K', by rw [List.length_take]; omega, fun x hx => (List.take_prefix _ _).trans (h2 x hx)⟩
theorem common_pre : ∀ {c a b : List UInt8}, c <+: a → c <+: b → c.length ≤ commonB a b
  | [], _, _, _, _ => Nat.zero_le _
  | x :: c, a, b, ha, hb => by
    obtain ⟨a', rfl⟩ := ha
    obtain ⟨b', rfl⟩ := hb
    rw [List.cons_append, List.cons_append, commonB, if_pos rfl, List.length_cons]
    have := common_pre (List.prefix_append c a') (List.prefix_append c b')
    omega
theorem take_common {a b : List UInt8} {n : Nat} (h : n ≤ commonB a b) : a.take n <+: b := by
  have h1 := (common_split a b).1
  have : a.take n = (a.take (commonB a b)).take n := by rw [List.take_take]; congr 1; omega
  rw [this, h1, List.take_take]
  exact List.take_prefix _ _
theorem alikef_le {x : It} {at_ : Nat} : ∀ {r : List It} {n : Nat} {y : It}, y ∈ r → r.foldl (alikeF x at_) n ≤ commonB (x.path.drop at_) (y.path.drop at_)
  | z :: r, n, y, h => by
    rw [List.foldl_cons]
    rcases List.mem_cons.1 h with rfl | h
    · exact Nat.le_trans (alike_le r x at_ _) (Nat.min_le_right _ _)
    · exact alikef_le h
theorem alikef_ge {x : It} {at_ K : Nat} : ∀ {r : List It} {n : Nat}, K ≤ n → (∀ y ∈ r, K ≤ commonB (x.path.drop at_) (y.path.drop at_)) → K ≤ r.foldl (alikeF x at_) n
  | [], n, h, _ => h
  | z :: r, n, h, hy => by
    rw [List.foldl_cons]
    exact alikef_ge (Nat.le_min.2 ⟨h, hy z (by simp)⟩) (fun y hm => hy y (by simp [hm]))
theorem alike_sh {l : List It} (at_ : Nat) (h0 : l ≠ []) : Sh l at_ (alikeP l at_) := by
  cases l with
  | nil => exact absurd rfl h0
  | cons x r =>
    have hle := alike_le r x at_ (x.path.length - at_)
    refine ⟨(x.path.drop at_).take (alikeP (x :: r) at_), by rw [List.length_take, List.length_drop]; have e : alikeP (x :: r) at_ = r.foldl (alikeF x at_) (x.path.length - at_) := rfl; omega, fun y hy => ?_⟩
    rcases List.mem_cons.1 hy with rfl | hy
    · exact List.take_prefix _ _
    · exact take_common (alikef_le hy)
theorem alike_max {l : List It} {at_ K : Nat} (h0 : l ≠ []) (h : Sh l at_ K) : K ≤ alikeP l at_ := by
  cases l with
  | nil => exact absurd rfl h0
  | cons x r =>
    obtain ⟨c, rfl, hc⟩ := h
    have hx := hc x (by simp)
    exact alikef_ge (by have := hx.length_le; rw [List.length_drop] at this; exact this) fun y hy => common_pre hx (hc y (by simp [hy]))
theorem alike_eq {l : List It} {at_ K : Nat} (h0 : l ≠ []) (h : Sh l at_ K) (h1 : ¬ Sh l at_ (K + 1)) : alikeP l at_ = K := by
  have := alike_max h0 h
  rcases Nat.lt_or_ge K (alikeP l at_) with h2 | h2
  · exact absurd ((alike_sh at_ h0).mono h2) h1
  · omega
theorem build_way {n at_ : Nat} {l : List It} {c : List UInt8} (h2 : 2 ≤ l.length) (hc : ∀ x ∈ l, c <+: x.path.drop at_) (hK : alikeP l at_ = c.length) (h0 : c ≠ []) :
    buildA (n + 1) l at_ = (.mk 2 c false [] [(buildA n l (at_ + c.length)).1] [], (buildA n l (at_ + c.length)).2) := by
  match l, h2 with
  | x :: y :: r, _ =>
    have hl : 0 < c.length := List.length_pos_iff.2 h0
    rw [buildA, if_neg (fun h => by cases h.1), hK, if_pos hl, if_neg (fun h => by cases h.1)]
    obtain ⟨z, hz⟩ := hc x (by simp)
    rw [← hz, List.take_left' rfl]
theorem build_br {n at_ : Nat} {l : List It} (h2 : 2 ≤ l.length) (hK : alikeP l at_ = 0) : buildA (n + 1) l at_ = match badF (fun h => buildA n (groupA l at_ h) (at_ + 1)) 0 16 with
      | some m => (noneN, some m)
      | none => (.mk 3 [] (lastV l at_).1 (lastV l at_).2 (kidsF fun h => buildA n (groupA l at_ h) (at_ + 1)) [], none) := by
  match l, h2 with
  | x :: y :: r, _ => rw [buildA, if_neg (fun h => by cases h.1), hK, if_neg (by omega), if_neg (fun h => by cases h)]; cases badF (fun h => buildA n (groupA (x :: y :: r) at_ h) (at_ + 1)) 0 16 <;> rfl
theorem build_one {n at_ : Nat} {x : It} : buildA (n + 1) [x] at_ = if x.stub = false then (leafN (x.path.drop at_) x.val, none)
    else if 0 < x.path.length - at_ then (if x.known = false then (noneN, some x.path)
       else (.mk 2 (x.path.drop at_) false [] [(buildA n [x] (at_ + (x.path.length - at_))).1] [], (buildA n [x] (at_ + (x.path.length - at_))).2))
    else (.mk 4 [] false [] [] x.hash, none) := by
  have e : alikeP [x] at_ = x.path.length - at_ := rfl
  rw [buildA, e]
  simp only [true_and, if_pos]
  split
  · rfl
  · split
    · rw [show (x.path.drop at_).take (x.path.length - at_) = x.path.drop at_ from List.take_of_length_le (by rw [List.length_drop]; omega)]
    · rfl
theorem bad_none {f : Nat → Nd × Option (List UInt8)} : ∀ {j h : Nat}, (∀ i, h ≤ i → i < h + j → (f i).2 = none) → badF f h j = none
  | 0, _, _ => rfl
  | j + 1, h, hf => by
    rw [badF, hf h (Nat.le_refl _) (by omega)]
    exact bad_none fun i h1 h2 => hf i (by omega) (by omega)
theorem bad_some {f : Nat → Nd × Option (List UInt8)} {x : Nat} {m : List UInt8} : ∀ {j h : Nat}, (∀ i, h ≤ i → i < x → (f i).2 = none) → h ≤ x → x < h + j → (f x).2 = some m → badF f h j = some m
  | 0, _, _, _, _, _ => by omega
  | j + 1, h, hf, h1, h2, hm => by
    rw [badF]
    rcases Nat.lt_or_ge h x with h3 | h3
    · rw [hf h (Nat.le_refl _) h3]
      exact bad_some (fun i a b => hf i (by omega) b) (by omega) (by omega) hm
    · have : h = x := by omega
      subst this
      rw [hm]
theorem kids_eq {f : Nat → Nd × Option (List UInt8)} {ks : List Nd} (h16 : ks.length = 16) (h : ∀ i k, ks[i]? = some k → (f i).1 = k) : kidsF f = ks := by
  unfold kidsF
  refine List.ext_getElem? fun i => ?_
  rw [List.getElem?_map]
  rcases Nat.lt_or_ge i 16 with hi | hi
  · rw [List.getElem?_range hi, List.getElem?_eq_getElem (by omega)]
    exact congrArg some (h i _ (List.getElem?_eq_getElem (by omega)))
  · rw [List.getElem?_eq_none (by rw [List.length_range]; omega), List.getElem?_eq_none (by omega)]
    rfl
theorem last_eq {l : List It} {at_ : Nat} {has : Bool} {v : List UInt8} (h1 : ∀ x ∈ l, x.path.length = at_ → x.val = v) (h2 : has = true ↔ ∃ x ∈ l, x.path.length = at_) (h3 : has = false → v = []) : lastV l at_ = (has, v) := by
  have key : ∀ (l : List It) (s : Bool × List UInt8), (∀ x ∈ l, x.path.length = at_ → x.val = v) → l.foldl (fun s x => if x.path.length = at_ then (true, x.val) else s) s = if (∃ x ∈ l, x.path.length = at_) then (true, v) else s := by
    intro l
    induction l with
    | nil => intro s _; simp
    | cons y l ih =>
      intro s hv
      rw [List.foldl_cons, ih _ (fun x hx => hv x (by simp [hx]))]
      by_cases hy : y.path.length = at_
      · have e := hv y (by simp) hy
        rw [if_pos hy, e]
        have : ∃ x ∈ y :: l, x.path.length = at_ := ⟨y, by simp, hy⟩
        rw [if_pos this]
        split <;> rfl
      · rw [if_neg hy]
        have : (∃ x ∈ l, x.path.length = at_) ↔ ∃ x ∈ y :: l, x.path.length = at_ := by
          constructor
          · rintro ⟨x, a, b⟩; exact ⟨x, by simp [a], b⟩
          · rintro ⟨x, a, b⟩
            rcases List.mem_cons.1 a with rfl | a
            · exact absurd b hy
            · exact ⟨x, a, b⟩
        simp only [this]
  unfold lastV
  rw [key l _ h1]
  cases has with
  | true => rw [if_pos (h2.1 rfl)]
  | false => rw [if_neg (fun h => by have := h2.2 h; cases this), h3 rfl]
theorem itemsK_mem {y : It} {br kn : Bool} {at_ : List UInt8} : ∀ {ks : List Nd} {i : Nat}, y ∈ itemsK ks br kn i at_ → ∃ j k, ks[j]? = some k ∧ y ∈ itemsP k (if br then at_ ++ [UInt8.ofNat (i + j)] else at_) kn
  | [], i, h => by rw [itemsK] at h; cases h
  | t :: ts, i, h => by
    rw [itemsK] at h
    rcases List.mem_append.1 h with h | h
    · exact ⟨0, t, rfl, h⟩
    · obtain ⟨j, k, h1, h2⟩ := itemsK_mem h
      exact ⟨j + 1, k, h1, by rw [show i + (j + 1) = i + 1 + j by omega]; exact h2⟩
theorem itemsK_of {y : It} {br kn : Bool} {at_ : List UInt8} : ∀ {ks : List Nd} {i j : Nat} {k : Nd}, ks[j]? = some k → y ∈ itemsP k (if br then at_ ++ [UInt8.ofNat (i + j)] else at_) kn → y ∈ itemsK ks br kn i at_
  | t :: ts, i, 0, k, h, hy => by
    simp at h; subst h
    rw [itemsK]; exact List.mem_append_left _ hy
  | t :: ts, i, j + 1, k, h, hy => by
    rw [itemsK]
    refine List.mem_append_right _ (itemsK_of (j := j) (k := k) (by simpa using h) ?_)
    rw [show i + 1 + j = i + (j + 1) by omega]; exact hy
mutual
theorem items_pre : ∀ (t : Nd) (way : List UInt8) (kn : Bool), ∀ y ∈ itemsP t way kn, way ++ t.path <+: y.path
  | .mk k p has v ks h, way, kn => by
    intro y hy
    rw [itemsP] at hy
    show way ++ p <+: y.path
    split at hy
    · simp only [List.mem_singleton] at hy
      subst hy; exact List.prefix_refl _
    · rcases List.mem_append.1 hy with hy | hy
      · split at hy
        · simp only [List.mem_singleton] at hy
          subst hy; exact List.prefix_refl _
        · cases hy
      · exact itemsK_pre ks _ _ _ _ y hy
theorem itemsK_pre : ∀ (ks : List Nd) (br kn : Bool) (i : Nat) (at_ : List UInt8), ∀ y ∈ itemsK ks br kn i at_, at_ <+: y.path
  | [], _, _, _, _ => by intro y hy; rw [itemsK] at hy; cases hy
  | t :: ts, br, kn, i, at_ => by
    intro y hy
    rw [itemsK] at hy
    rcases List.mem_append.1 hy with hy | hy
    · have := items_pre t _ _ y hy
      have h2 : at_ <+: (if br then at_ ++ [UInt8.ofNat i] else at_) := by split; exact List.prefix_append _ _; exact List.prefix_refl _
      exact h2.trans ((List.prefix_append _ _).trans this)
    · exact itemsK_pre ts br kn (i + 1) at_ y hy
end
theorem items_none (way : List UInt8) (kn : Bool) : itemsP noneN way kn = [] := by unfold noneN; rw [itemsP]; rfl
theorem items_leaf (p v way : List UInt8) (kn : Bool) : itemsP (.mk 1 p false v [] []) way kn = [⟨way ++ p, v, false, false, []⟩] := by rw [itemsP]; rfl
theorem items_stub (h way : List UInt8) (kn : Bool) : itemsP (.mk 4 [] false [] [] h) way kn = [⟨way, [], true, kn, h⟩] := by rw [itemsP, List.append_nil]; rfl
theorem items_way (p : List UInt8) (k : Nd) (way : List UInt8) (kn : Bool) : itemsP (.mk 2 p false [] [k] []) way kn = itemsP k (way ++ p) true := by
  rw [itemsP]
  rw [if_neg (by decide), if_neg (by decide), List.nil_append, itemsK, itemsK, List.append_nil]; rfl
def ownI (has : Bool) (v way : List UInt8) : List It := if has then [⟨way, v, false, false, []⟩] else []
theorem items_br (has : Bool) (v : List UInt8) (ks : List Nd) (way : List UInt8) (kn : Bool) : itemsP (.mk 3 [] has v ks []) way kn = ownI has v way ++ itemsK ks true false 0 way := by
  rw [itemsP]
  rw [if_neg (by decide), List.append_nil]
  unfold ownI
  cases has <;> rfl
theorem ofNat_half {j : Nat} (h : j < 16) : (UInt8.ofNat j).toNat = j := by simp; omega
theorem kid_mem {y : It} {kn : Bool} {at_ : List UInt8} {ks : List Nd} (h : y ∈ itemsK ks true kn 0 at_) : ∃ j k, ks[j]? = some k ∧ y ∈ itemsP k (at_ ++ [UInt8.ofNat j]) kn := by
  obtain ⟨j, k, h1, h2⟩ := itemsK_mem h
  rw [Nat.zero_add] at h2
  exact ⟨j, k, h1, h2⟩
theorem kid_of {y : It} {kn : Bool} {at_ : List UInt8} {ks : List Nd} {j : Nat} {k : Nd} (h : ks[j]? = some k) (hy : y ∈ itemsP k (at_ ++ [UInt8.ofNat j]) kn) : y ∈ itemsK ks true kn 0 at_ :=
  itemsK_of h (by rw [Nat.zero_add]; exact hy)
theorem kid_pre {y : It} {kn : Bool} {at_ : List UInt8} {j : Nat} {k : Nd} (hy : y ∈ itemsP k (at_ ++ [UInt8.ofNat j]) kn) : at_ ++ [UInt8.ofNat j] <+: y.path := (List.prefix_append _ _).trans (items_pre k _ kn y hy)
theorem items_ne {even : Bool} {t : Nd} {d : Nat} (h : Val even t d) : t.kind ≠ 0 → ∀ (way : List UInt8) (kn : Bool), itemsP t way kn ≠ [] := by
  induction h with
  | none => intro h; exact absurd rfl h
  | leaf => intro _ way kn; rw [items_leaf]; exact List.cons_ne_nil _ _
  | stub => intro _ way kn; rw [items_stub]; exact List.cons_ne_nil _ _
  | way d p k hd hp h0 hk hr ih => intro _ way kn; rw [items_way]; exact ih (by rcases hk with h | h <;> rw [h] <;> decide) _ _
  | branch d has v ks hd hv hv0 he h16 hr hm ih =>
    intro _ way kn e
    rw [items_br, List.append_eq_nil_iff] at e
    obtain ⟨e1, e2⟩ := e
    have : manyN ks = 0 := by
      unfold manyN
      rw [List.length_eq_zero_iff, List.filter_eq_nil_iff]
      intro k hk h
      obtain ⟨j, hj⟩ := List.getElem?_of_mem hk
      obtain ⟨y, r, hy⟩ := List.exists_cons_of_ne_nil (ih k hk (of_decide_eq_true h) (way ++ [UInt8.ofNat j]) false)
      have := kid_of (kn := false) (at_ := way) hj (show y ∈ _ by rw [hy]; simp)
      rw [e2] at this; cases this
    cases has with
    | true => cases e1
    | false => simp only [this] at hm; exact absurd hm (by decide)
theorem many_le {ks : List Nd} {even : Bool} {d : Nat} (hr : ∀ k ∈ ks, Val even k d) (kn : Bool) (at_ : List UInt8) : ∀ i, manyN ks ≤ (itemsK ks true kn i at_).length := by
  induction ks with
  | nil => intro i; exact Nat.zero_le _
  | cons t ks ih =>
    intro i
    have := ih (fun k hk => hr k (by simp [hk])) (i + 1)
    rw [itemsK, List.length_append]
    unfold manyN at *
    rw [List.filter_cons]
    split
    · rename_i h
      have := List.length_pos_iff.2 (items_ne (hr t (by simp)) (of_decide_eq_true h) (if true = true then at_ ++ [UInt8.ofNat i] else at_) kn)
      rw [List.length_cons]; omega
    · omega
theorem many0 {ks : List Nd} (h : ∀ k ∈ ks, k.kind = 0) : manyN ks = 0 := by
  unfold manyN
  rw [List.length_eq_zero_iff, List.filter_eq_nil_iff]
  intro k hk h'
  exact (of_decide_eq_true h') (h k hk)
theorem many1 : ∀ {ks : List Nd} {c : Nat}, (∀ j k, ks[j]? = some k → k.kind ≠ 0 → j = c) → manyN ks ≤ 1
  | [], _, _ => Nat.zero_le _
  | t :: ks, c, h => by
    by_cases ht : t.kind = 0
    · have : manyN (t :: ks) = manyN ks := by unfold manyN; rw [List.filter_cons, if_neg (by simp [ht])]
      rw [this]
      refine many1 (c := c - 1) fun j k hj hk => ?_
      have := h (j + 1) k (by simpa using hj) hk
      omega
    · have h0 := h 0 t rfl ht
      have e : manyN (t :: ks) = manyN ks + 1 := by unfold manyN; rw [List.filter_cons, if_pos (by simp [ht]), List.length_cons]
      rw [e, many0 (ks := ks) fun k hk => ?_]
      · exact Nat.le_refl _
      · obtain ⟨j, hj⟩ := List.getElem?_of_mem hk
        rcases Classical.em (k.kind = 0) with hk0 | hk0
        · exact hk0
        · have := h (j + 1) k (by simpa using hj) hk0
          omega
theorem pre_cons {way : List UInt8} {a : UInt8} {p : List UInt8} (h : way ++ [a] <+: p) : ∃ r, p.drop way.length = a :: r := by
  obtain ⟨r, rfl⟩ := h
  exact ⟨r, by rw [List.append_assoc, List.drop_left]; rfl⟩
theorem branch_nsh {even : Bool} {d : Nat} {has : Bool} {v : List UInt8} {ks : List Nd} (h16 : ks.length = 16) (hr : ∀ k ∈ ks, Val even k d) (hm : 2 ≤ (if has then 1 else 0) + manyN ks) (way : List UInt8) {l : List It}
    (hl : ∀ x ∈ ownI has v way ++ itemsK ks true false 0 way, ∃ y ∈ l, y.path = x.path) : ¬ Sh l way.length 1 := by
  rintro ⟨c, hc, hs⟩
  obtain ⟨a, rfl⟩ : ∃ a, c = [a] := by
    match c, hc with
    | [a], _ => exact ⟨a, rfl⟩
  cases has with
  | true =>
    obtain ⟨y, hy, hp⟩ := hl ⟨way, v, false, false, []⟩ (List.mem_append_left _ (by unfold ownI; simp))
    have := hs y hy
    rw [hp, List.drop_of_length_le (Nat.le_refl _)] at this
    have := this.length_le
    simp at this
  | false =>
    have := many1 (ks := ks) (c := a.toNat) fun j k hj hk => ?_
    · simp only [Bool.false_eq_true, if_false] at hm; omega
    have hj16 : j < 16 := by have := (List.getElem?_eq_some_iff.1 hj).1; omega
    obtain ⟨x, r, hx⟩ := List.exists_cons_of_ne_nil (items_ne (hr k (List.mem_of_getElem? hj)) hk (way ++ [UInt8.ofNat j]) false)
    have hxm : x ∈ itemsP k (way ++ [UInt8.ofNat j]) false := by rw [hx]; simp
    obtain ⟨y, hy, hp⟩ := hl x (List.mem_append_right _ (kid_of hj hxm))
    obtain ⟨r2, h2⟩ := pre_cons (kid_pre hxm)
    have := hs y hy
    rw [hp, h2] at this
    have := (List.cons_prefix_cons.1 this).1
    rw [this, ofNat_half hj16]
theorem filterK {pr : It → Bool} {kn : Bool} {at_ : List UInt8} : ∀ {ks : List Nd} {i x : Nat} {kx : Nd}, (∀ j k, ks[j]? = some k → j ≠ x → ∀ y ∈ itemsP k (at_ ++ [UInt8.ofNat (i + j)]) kn, pr y = false) → ks[x]? = some kx → (itemsK ks true kn i at_).filter pr = (itemsP kx (at_ ++ [UInt8.ofNat (i + x)]) kn).filter pr
  | t :: ts, i, 0, kx, h, hx => by
    simp at hx; subst hx
    rw [itemsK, List.filter_append]
    have : (itemsK ts true kn (i + 1) at_).filter pr = [] := by
      rw [List.filter_eq_nil_iff]
      intro y hy
      obtain ⟨j, k, h1, h2⟩ := itemsK_mem hy
      have := h (j + 1) k (by simpa using h1) (by omega) y (by rw [show i + (j + 1) = i + 1 + j by omega]; exact h2)
      simp [this]
    rw [this, List.append_nil]; rfl
  | t :: ts, i, x + 1, kx, h, hx => by
    rw [itemsK, List.filter_append]
    have : (itemsP t (if true = true then at_ ++ [UInt8.ofNat i] else at_) kn).filter pr = [] := by
      rw [List.filter_eq_nil_iff]
      intro y hy
      have := h 0 t rfl (by omega) y hy
      simp [this]
    rw [this, List.nil_append]
    have := filterK (pr := pr) (kn := kn) (at_ := at_) (ks := ts) (i := i + 1) (x := x) (kx := kx) (fun j k hj hne y hy => h (j + 1) k (by simpa using hj) (by omega) y (by rw [show i + (j + 1) = i + 1 + j by omega]; exact hy)) (by simpa using hx)
    rw [this, show i + 1 + x = i + (x + 1) by omega]
theorem group_up (at_ h : Nat) : ∀ x y, Up x y → (fun x : It => decide (at_ < x.path.length ∧ (x.path.getD at_ 0).toNat = h)) y = (fun x : It => decide (at_ < x.path.length ∧ (x.path.getD at_ 0).toNat = h)) x := by
  intro x y hu
  dsimp only
  rw [hu.1]
theorem pre_at {way p : List UInt8} {a : UInt8} (h : way ++ [a] <+: p) : way.length < p.length ∧ p.getD way.length 0 = a := by
  obtain ⟨r, rfl⟩ := h
  refine ⟨by simp, ?_⟩
  rw [List.getD_eq_getElem?_getD, List.append_assoc, List.getElem?_append_right (Nat.le_refl _), Nat.sub_self]; rfl
theorem group_items {has : Bool} {v : List UInt8} {ks : List Nd} {way : List UInt8} (h16 : ks.length = 16) {h : Nat} {kh : Nd} (hk : ks[h]? = some kh) : groupA (ownI has v way ++ itemsK ks true false 0 way) way.length h = itemsP kh (way ++ [UInt8.ofNat h]) false := by
  have hh : h < 16 := by have := (List.getElem?_eq_some_iff.1 hk).1; omega
  unfold groupA
  rw [List.filter_append]
  have e1 : (ownI has v way).filter (fun x => decide (way.length < x.path.length ∧ (x.path.getD way.length 0).toNat = h)) = [] := by
    unfold ownI; cases has <;> simp
  have e2 := filterK (pr := fun x => decide (way.length < x.path.length ∧ (x.path.getD way.length 0).toNat = h)) (kn := false) (at_ := way) (ks := ks) (i := 0) (x := h) (kx := kh) (fun j k hj hne y hy => by
    have hj16 : j < 16 := by have := (List.getElem?_eq_some_iff.1 hj).1; omega
    rw [Nat.zero_add] at hy
    have := (pre_at (kid_pre hy)).2
    refine decide_eq_false fun h' => hne ?_
    rw [← h'.2, this, ofNat_half hj16]) hk
  rw [Nat.zero_add] at e2
  rw [e1, e2, List.nil_append, List.filter_eq_self]
  intro y hy
  obtain ⟨h1, h2⟩ := pre_at (kid_pre hy)
  exact decide_eq_true ⟨h1, by rw [h2, ofNat_half hh]⟩
theorem own_len (has : Bool) (v way : List UInt8) : (ownI has v way).length = if has then 1 else 0 := by unfold ownI; cases has <;> rfl
theorem Like.paths {l m : List It} (h : Like l m) : ∀ x ∈ l, ∃ y ∈ m, y.path = x.path := fun x hx => by
  obtain ⟨y, h1, h2⟩ := h.mem_l x hx
  exact ⟨y, h1, h2.1⟩
theorem build_like {even : Bool} {t : Nd} {d : Nat} (hv : Val even t d) : ∀ (way : List UInt8) (kn : Bool) (l : List It) (N : Nat), Like (itemsP t way kn) l → (∀ x ∈ l, x.path.length < way.length + N) → buildA N l way.length = (t, none) := by
  induction hv with
  | none d hd =>
    intro way kn l N hl hN
    rw [items_none] at hl
    have := hl.len
    have : l = [] := List.eq_nil_of_length_eq_zero this
    subst this
    cases N <;> rw [buildA]
  | leaf d p v hd hp hv he =>
    intro way kn l N hl hN
    rw [items_leaf] at hl
    have h1 := hl.len
    obtain ⟨y, rfl⟩ : ∃ y, l = [y] := by match l, h1 with | [y], _ => exact ⟨y, rfl⟩
    obtain ⟨x, hx, hu⟩ := hl.mem_r y (by simp)
    simp only [List.mem_singleton] at hx
    subst hx
    obtain ⟨u1, u2, u3, u4, u5⟩ := hu
    have := hN y (by simp)
    rw [u1, List.length_append] at this
    obtain ⟨n, rfl⟩ : ∃ n, N = n + 1 := ⟨N - 1, by omega⟩
    rw [build_one, if_pos u3, u1, u2]
    simp only [List.drop_left]; rfl
  | stub d h hd hh =>
    intro way kn l N hl hN
    rw [items_stub] at hl
    have h1 := hl.len
    obtain ⟨y, rfl⟩ : ∃ y, l = [y] := by match l, h1 with | [y], _ => exact ⟨y, rfl⟩
    obtain ⟨x, hx, hu⟩ := hl.mem_r y (by simp)
    simp only [List.mem_singleton] at hx
    subst hx
    obtain ⟨u1, u2, u3, u4, u5⟩ := hu
    dsimp only at u1 u3 u4
    have := hN y (by simp)
    rw [u1] at this
    obtain ⟨n, rfl⟩ : ∃ n, N = n + 1 := ⟨N - 1, by omega⟩
    rw [build_one, if_neg (by rw [u3]; decide), u1, if_neg (by omega), u4]
  | way d p k hd hp h0 hk hr ih =>
    intro way kn l N hl hN
    rw [items_way] at hl
    have hp0 : 0 < p.length := List.length_pos_iff.2 h0
    have hk0 : k.kind ≠ 0 := by rcases hk with h | h <;> rw [h] <;> decide
    have hlne : l ≠ [] := fun e => by
      have := hl.len
      rw [e] at this
      exact items_ne hr hk0 (way ++ p) true (List.eq_nil_of_length_eq_zero this.symm)
    have hpre : ∀ y ∈ l, way ++ p <+: y.path := fun y hy => by
      obtain ⟨x, hx, hu⟩ := hl.mem_r y hy
      rw [hu.1]
      exact (List.prefix_append _ _).trans (items_pre k _ _ x hx)
    have hc : ∀ y ∈ l, p <+: y.path.drop way.length := fun y hy => by
      obtain ⟨r, hr⟩ := hpre y hy
      rw [← hr, List.append_assoc, List.drop_left]
      exact List.prefix_append _ _
    obtain ⟨y0, r0, hy0⟩ := List.exists_cons_of_ne_nil hlne
    have hlen0 := hN y0 (by rw [hy0]; simp)
    have hlen1 := (hpre y0 (by rw [hy0]; simp)).length_le
    rw [List.length_append] at hlen1
    obtain ⟨n, rfl⟩ : ∃ n, N = n + 1 := ⟨N - 1, by omega⟩
    have hb := ih (way ++ p) true l n hl (fun x hx => by have := hN x hx; rw [List.length_append]; omega)
    rw [List.length_append] at hb
    cases hr with
    | stub d' h hd' hh =>
      rw [items_stub] at hl
      have h1 := hl.len
      obtain ⟨y, rfl⟩ : ∃ y, l = [y] := by match l, h1 with | [y], _ => exact ⟨y, rfl⟩
      obtain ⟨x, hx, hu⟩ := hl.mem_r y (by simp)
      simp only [List.mem_singleton] at hx
      subst hx
      obtain ⟨u1, u2, u3, u4, u5⟩ := hu
      dsimp only at u1 u3 u4
      have e : y.path.length - way.length = p.length := by rw [u1, List.length_append]; omega
      rw [build_one, if_neg (by rw [u3]; decide), e, if_pos hp0, if_neg (by rw [u5 rfl]; decide), hb, u1, List.drop_left]
    | branch d' has v ks hd' hv hv0 he h16 hr hm =>
      rw [items_br] at hl
      have hl2 : 2 ≤ l.length := by
        have := hl.len
        rw [List.length_append, own_len] at this
        have := many_le hr false (way ++ p) 0
        omega
      have hns := branch_nsh h16 hr hm (way ++ p) hl.paths
      rw [build_way hl2 hc ?_ h0, hb]
      refine alike_eq hlne ⟨p, rfl, hc⟩ fun h => hns ?_
      obtain ⟨c, h1, h2⟩ := h
      obtain ⟨a, ha⟩ : ∃ a, c.drop p.length = [a] := by
        have : (c.drop p.length).length = 1 := by rw [List.length_drop]; omega
        match hq : c.drop p.length, this with
        | [a], _ => exact ⟨a, rfl⟩
      refine ⟨[a], rfl, fun y hy => ?_⟩
      obtain ⟨z, hz⟩ := h2 y hy
      refine ⟨z, ?_⟩
      rw [List.length_append, ← List.drop_drop, ← hz, List.drop_append_of_le_length (by omega), ha]
    | none => rcases hk with h | h <;> cases h
    | leaf => rcases hk with h | h <;> cases h
    | way => rcases hk with h | h <;> cases h
  | branch d has v ks hd hv hv0 he h16 hr hm ih =>
    intro way kn l N hl hN
    rw [items_br] at hl
    have hl2 : 2 ≤ l.length := by
      have := hl.len
      rw [List.length_append, own_len] at this
      have := many_le hr false way 0
      omega
    have hlne : l ≠ [] := fun e => by rw [e] at hl2; exact absurd hl2 (by decide)
    have hns := branch_nsh h16 hr hm way hl.paths
    have hal : alikeP l way.length = 0 := alike_eq hlne ⟨[], rfl, fun x _ => List.nil_prefix⟩ hns
    have hpre : ∀ y ∈ l, way <+: y.path := fun y hy => by
      obtain ⟨x, hx, hu⟩ := hl.mem_r y hy
      rw [hu.1]
      rcases List.mem_append.1 hx with hx | hx
      · unfold ownI at hx
        cases has with
        | true => simp only [if_pos, List.mem_singleton] at hx; subst hx; exact List.prefix_refl _
        | false => cases hx
      · exact itemsK_pre ks _ _ _ _ x hx
    obtain ⟨y0, r0, hy0⟩ := List.exists_cons_of_ne_nil hlne
    have hlen0 := hN y0 (by rw [hy0]; simp)
    have hlen1 := (hpre y0 (by rw [hy0]; simp)).length_le
    obtain ⟨n, rfl⟩ : ∃ n, N = n + 1 := ⟨N - 1, by omega⟩
    have hf : ∀ h k, ks[h]? = some k → buildA n (groupA l way.length h) (way.length + 1) = (k, none) := fun h k hk => by
      have e := ih k (List.mem_of_getElem? hk) (way ++ [UInt8.ofNat h]) false (groupA l way.length h) n (by
        rw [← group_items (has := has) (v := v) h16 hk]
        exact hl.filter _ (group_up _ _)) (fun x hx => by
          have := hN x (List.mem_filter.1 hx).1
          rw [List.length_append, List.length_cons, List.length_nil]; omega)
      rw [List.length_append] at e
      exact e
    have hbad : badF (fun h => buildA n (groupA l way.length h) (way.length + 1)) 0 16 = none := bad_none fun i _ hi => by
      show (buildA n (groupA l way.length i) (way.length + 1)).2 = none
      rw [hf i _ (List.getElem?_eq_getElem (by omega))]
    have hkids : (kidsF fun h => buildA n (groupA l way.length h) (way.length + 1)) = ks := kids_eq h16 fun i k hk => by
      show (buildA n (groupA l way.length i) (way.length + 1)).1 = k
      rw [hf i k hk]
    have kid_long : ∀ x ∈ itemsK ks true false 0 way, way.length < x.path.length := fun x hx => by
      obtain ⟨j, k, _, h2⟩ := kid_mem hx
      exact (pre_at (kid_pre h2)).1
    have hlast : lastV l way.length = (has, v) := by
      refine last_eq (fun y hy hyl => ?_) ⟨fun e => ?_, ?_⟩ (fun e => ?_)
      · obtain ⟨x, hx, hu⟩ := hl.mem_r y hy
        rcases List.mem_append.1 hx with hx | hx
        · unfold ownI at hx
          cases has with
          | true => simp only [if_pos, List.mem_singleton] at hx; subst hx; exact hu.2.1
          | false => cases hx
        · have := kid_long x hx
          rw [hu.1] at hyl; omega
      · subst e
        obtain ⟨y, hy, hu⟩ := hl.mem_l ⟨way, v, false, false, []⟩ (List.mem_append_left _ (by unfold ownI; simp))
        exact ⟨y, hy, by rw [hu.1]⟩
      · rintro ⟨y, hy, hyl⟩
        obtain ⟨x, hx, hu⟩ := hl.mem_r y hy
        rcases List.mem_append.1 hx with hx | hx
        · cases has with
          | true => rfl
          | false => cases hx
        · have := kid_long x hx
          rw [hu.1] at hyl; omega
      · rcases hv0 with h | h
        · rw [h] at e; cases e
        · exact h
    rw [build_br hl2 hal, hbad, hkids, hlast]
end Go.Proofs.YtojjfkbffjkojaaDoor
