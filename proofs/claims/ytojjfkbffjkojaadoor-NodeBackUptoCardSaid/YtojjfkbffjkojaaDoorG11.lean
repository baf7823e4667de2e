/- From a walk that returns true and writes nothing that was there to the row; arguments opened to lists. Halves of bytes: what the chapter's examples fix. Halves of bytes: plain laws of the functions: there and back, order, what is joined. The walks of the laws NibsBack, NibsOrder, NibsJoin, NibsCuts. The walk of the law NibsBack. Package node: Decode. The walks of slices.EqualFunc over nodes, for any function; of node.Same. The walk of node.Count (a function that calls itself through a variable); what it counts. Tries without stubs, plainly. The walks of trie.Of, pairs and Pairs. law08: what the chapter's example fixes. law07: known, much. Reference 08: the walks of right, stub, Get. Reference 08: the walks of Put and Drop. Reference 08: the walks of SamePairs, Pairs, Rising, Of. -/
import Derived.Test.YtojjfkbffjkojaaDoorRows
import Derived.Test.YtojjfkbffjkojaaDoorG03
import Derived.ProofKit
import Derived.OpenShut
import Derived.ChangeOld
import Derived.WideKeyArgs
import Derived.JoinedCond
import Derived.Test.YtojjfkbffjkojaaDoorG07
import Derived.Test.YtojjfkbffjkojaaDoorG10
import Derived.Test.YtojjfkbffjkojaaDoorG06
import Derived.Test.YtojjfkbffjkojaaDoorG04
import Derived.Test.YtojjfkbffjkojaaDoorG09
namespace Go.Proofs.YtojjfkbffjkojaaDoor
open Go.ChangeShapes Go.WideShapes Go.ChangeAt Go.RowKit

theorem own_ : ownKnob Tryd.prog.godebug = none := by kernel_rfl
theorem laidOut : laidOutB Tryd.prog = true := by kernel_rfl

/-- A call returns true, and below the heap's old size all is as it was. -/
def RetTrue (w : World) (e : Ending) (w' : World) : Prop := e = .returned (.bool true) ∧ Below w.heap.size w w'

section
variable {H : Type} {enc : TypeId × Value → H} {P : Program}
theorem trodAll_stays (hl : laidOutB P = true) {W W' : World} (hb : Below W.heap.size W W') {sp : Nat → Bool} : ∀ (ts : List TypeId) (vs : List Value) (ds : List (DataW H)) (p : List MemPlace),
    (ts.all fun t => P.readableRec t && decide (t < P.types.size)) = true → DataW.TrodAll enc P W 0 (fun _ => true) true ts vs ds p → (∀ x ∈ p, x.block < W.heap.size) → (∀ x ∈ p, sp x.block = true) → DataW.TrodAll enc P W' 0 sp true ts vs ds p
  | [], vs, ds, p, _, h, _, _ => by
    obtain ⟨rfl, rfl, rfl⟩ := trodAll_nil h
    exact trodAll_mk0
  | t :: ts, vs, ds, p, ht, h, hlt, hsp => by
    obtain ⟨v, vs', d, ds', p0, q0, rfl, rfl, rfl, h0, r0⟩ := trodAll_cons h
    rw [List.all_cons, Bool.and_eq_true, Bool.and_eq_true, decide_eq_true_eq] at ht
    refine trodAll_cons_mk (WideElems.Trod_stays hl ht.1.1 ht.1.2 h0 (fun x hx => hb.same (hlt x (by simp [hx]))) (fun x hx => hsp x (by simp [hx]))) (trodAll_stays hl hb ts vs' ds' q0 ht.2 r0 (fun x hx => hlt x (by simp [hx])) (fun x hx => hsp x (by simp [hx])))

theorem post_of_below {f : Func} {s : ChangeSpec} {apart fresh handsOn again : Bool} {W W' : World} {args : Array Value} {v : Value} {ds gs : List (DataW H)} {before pa pv : List MemPlace}
    (hW : DataW.Whole enc P f.params.toList s.vars apart W args.toList ds gs before)
    (hres : ∀ (b : Nat) (sp : Nat → Bool) (hd : Bool), DataW.TrodAll enc P W' b sp hd f.resultTypes.toList (v.resultList f.resultTypes.size) (s.fn H (ds ++ gs)).results [])
    (hargs : ∀ sp : Nat → Bool, (∀ p ∈ before, sp p.block = true) → DataW.TrodAll enc P W' 0 sp true f.params.toList args.toList (s.fn H (ds ++ gs)).args pa)
    (hvars : ∀ sp : Nat → Bool, (∀ p ∈ before, sp p.block = true) → DataW.TrodVars enc P W' sp s.vars (s.fn H (ds ++ gs)).vars pv)
    (hps : before = pa ++ pv) (hb : Below W.heap.size W W')
    (hok : ∀ (j : Nat) (t : TypeId) (r : Value), f.resultTypes[j]? = some t → (v.resultList f.resultTypes.size)[j]? = some r → Value.okWide P W' .any 0 t r) :
    s.post enc P f apart fresh handsOn again W args v W' := by
  have hlt : ∀ p ∈ before, p.block < W.heap.size := fun p hp => hW.lt p hp
  have hold : ∀ p ∈ before, (fun b => decide (b < W.heap.size)) p.block = true := fun p hp => by simpa using hlt p hp
  refine ⟨ds, gs, before, [], pa, pv, hW, hres _ _ _, hargs _ hold, hvars _ hold, World.keptBut_mono (fun p hp => ⟨hp, ?_⟩) (hb.frame (· ∈ before)), fun _ => ?_⟩
  · rw [hps, List.mem_append] at hp
    exact Or.inr hp
  · obtain ⟨_, _, _, _, _, hz, hn⟩ := hW
    refine ⟨hok, _, _, ([] ++ pa) ++ pv, ⟨[] ++ pa, pv, trodAll_append (hargs _ (fun _ _ => rfl)) (hres _ _ _), hvars _ (fun _ _ => rfl), rfl, ?_, ?_⟩, ?_⟩
    · intro b off hp
      have hin : MemPlace.cell b off ∈ before := by rw [hps]; simpa using hp
      rw [hb.frozen (hlt _ hin)]
      exact hz b off hin
    · intro ha
      have := hn ha
      rw [hps] at this
      simpa using this
    · intro p hp _
      rw [hps]
      simpa using hp

/-- THE ROW'S LAST STEP: the law has returned true, nothing that was there has turned. -/
theorem law_post (hl : laidOutB P = true) {tb : TypeId} (hbool : P.underlying tb = some .bool) {f : Func} {s : ChangeSpec} {W W' : World} {args : Array Value} {ds gs : List (DataW H)} {before : List MemPlace}
    (hvars : s.vars = []) (hW : DataW.Whole enc P f.params.toList s.vars false W args.toList ds gs before)
    (hts : (f.params.toList.all fun t => P.readableRec t && decide (t < P.types.size)) = true) (hrt : f.resultTypes = #[tb])
    (hres : (s.fn H (ds ++ gs)).results = [.lit (.bool true)]) (hargs : (s.fn H (ds ++ gs)).args = ds) (hvs : (s.fn H (ds ++ gs)).vars = []) (hb : Below W.heap.size W W') :
    s.post enc P f false true false false W args (.bool true) W' := by
  have hW' := hW
  obtain ⟨p, q, hA, hV, rfl, hfz, hnd⟩ := hW
  rw [hvars] at hV
  obtain ⟨rfl, rfl⟩ := trodVars_none hV
  have hlt : ∀ x ∈ p, x.block < W.heap.size := fun x hx => hW'.lt x (by simp [hx])
  refine post_of_below (pa := p) (pv := []) hW' ?_ ?_ ?_ rfl hb ?_
  · intro b sp hd
    rw [hres, hrt]
    exact trodAll_cons_mk (shut_bool hbool _) trodAll_mk0
  · intro sp hsp
    rw [hargs]
    exact trodAll_stays hl hb _ _ _ _ hts hA hlt (fun x hx => hsp x (by simp [hx]))
  · intro sp hsp
    rw [hvars, hvs]
    rfl
  · exact ok_one hrt rfl (okWide_bool_mk hbool _)
end

end Go.Proofs.YtojjfkbffjkojaaDoor
namespace Go.Proofs.YtojjfkbffjkojaaDoor

theorem ofB_cons (c : UInt8) (l : List UInt8) : ofB (c :: l) = c / 16 :: c % 16 :: ofB l := rfl
theorem up (a b : UInt8) (ha : a ≤ 15) (hb : b ≤ 15) : (16 * a + b) / 16 = a ∧ (16 * a + b) % 16 = b := by
  have h1 := UInt8.le_iff_toNat_le.1 ha
  have h2 := UInt8.le_iff_toNat_le.1 hb
  constructor <;> apply UInt8.toNat_inj.1
  · rw [UInt8.toNat_div, UInt8.toNat_add, UInt8.toNat_mul]; simp at *; omega
  · rw [UInt8.toNat_mod, UInt8.toNat_add, UInt8.toNat_mul]; simp at *; omega
theorem ofB_joinB : ∀ (l : List UInt8), halvesB l = true → l.length % 2 = 0 → ofB (joinB l) = l
  | a :: b :: r, h, k => by
    have ha := halvesB_le _ h a (by simp)
    have hb := halvesB_le _ h b (by simp)
    have hr : halvesB r = true := halvesB_dropP (l := a :: b :: r) h 2
    rw [joinB, ofB_cons, (up a b ha hb).1, (up a b ha hb).2, ofB_joinB r hr (by simp at k; omega)]
  | [a], _, k => by simp at k
  | [], _, _ => rfl
theorem at8_b8 (x : Int) (h0 : 0 ≤ x) (h1 : x ≤ 255) (l : List UInt8) : at8 (b8 x :: l) 0 = x := by
  show (((b8 x).toNat : Nat) : Int) = x
  unfold b8; rw [UInt8.toNat_ofNat']; omega
theorem b8_at0 (c : UInt8) (l : List UInt8) : b8 (at8 (c :: l) 0) = c := b8_nat c

/-- What is packed is unpacked as it was. -/
theorem unpack_pack (l : List UInt8) (leaf : Bool) (h : halvesB l = true) : unpackE (packL l leaf) = 0 ∧ unpackB (packL l leaf) = leaf ∧ unpackL (packL l leaf) = l ∧ (packL l leaf).length = l.length / 2 + 1 := by
  by_cases hodd : l.length % 2 = 1
  · have e := packL_odd h hodd leaf _ rfl
    have a0 := at8_lo l 0
    have a1 := halvesB_at l h 0
    obtain ⟨x, hx⟩ : ∃ x : Int, x = (if leaf = true then 32 else 0) + 16 + at8 l 0 := ⟨_, rfl⟩
    have hx' : 0 ≤ x ∧ x ≤ 63 ∧ x / 16 % 2 = 1 ∧ x % 16 = at8 l 0 ∧ (x / 32 % 2 = 1 ↔ leaf = true) := by subst hx; cases leaf <;> simp <;> omega
    rw [← hx] at e
    rw [e, List.singleton_append]
    have hat := at8_b8 x (by omega) (by omega) (joinB (l.drop 1))
    have hok : unpackOk (b8 x :: joinB (l.drop 1)) = true := by unfold unpackOk; rw [hat]; simp [hx'.2.2.1]; omega
    obtain ⟨u1, u2, u3⟩ := unpack_ok (b := b8 x :: joinB (l.drop 1)) (by simp) hok
    rw [hat] at u2 u3
    refine ⟨u1, ?_, ?_, ?_⟩
    · rw [u2, Bool.eq_iff_iff]; simp [hx'.2.2.2.2]
    · rw [u3, if_pos hx'.2.2.1, hx'.2.2.2.1]
      rw [show (b8 x :: joinB (l.drop 1)).drop 1 = joinB (l.drop 1) from rfl, ofB_joinB _ (halvesB_dropP h 1) (by rw [List.length_drop]; omega)]
      rcases l with _ | ⟨c, l⟩
      · simp at hodd
      · rw [b8_at0]; rfl
    · rw [List.length_cons, joinB_length, List.length_drop]; omega
  · have e := packL_even h (by omega) leaf _ rfl
    obtain ⟨x, hx⟩ : ∃ x : Int, x = if leaf = true then 32 else 0 := ⟨_, rfl⟩
    have hx' : 0 ≤ x ∧ x ≤ 63 ∧ x / 16 % 2 = 0 ∧ x % 16 = 0 ∧ (x / 32 % 2 = 1 ↔ leaf = true) := by subst hx; cases leaf <;> simp
    rw [← hx] at e
    rw [e, List.singleton_append]
    have hat := at8_b8 x (by omega) (by omega) (joinB l)
    have hok : unpackOk (b8 x :: joinB l) = true := by unfold unpackOk; rw [hat]; simp [hx'.2.2.2.1]; omega
    obtain ⟨u1, u2, u3⟩ := unpack_ok (b := b8 x :: joinB l) (by simp) hok
    rw [hat] at u2 u3
    refine ⟨u1, ?_, ?_, ?_⟩
    · rw [u2, Bool.eq_iff_iff]; simp [hx'.2.2.2.2]
    · rw [u3, if_neg (by omega)]
      rw [show (b8 x :: joinB l).drop 1 = joinB l from rfl, ofB_joinB _ h (by omega)]; rfl
    · rw [List.length_cons, joinB_length]

end Go.Proofs.YtojjfkbffjkojaaDoor
namespace Go.Proofs.YtojjfkbffjkojaaDoor
open Go.RowKit

theorem unpackL_len (b : List UInt8) : (unpackL b).length ≤ 2 * b.length := by
  unfold unpackL
  split
  · simp
  · split
    · rw [List.length_append, ofB_length, List.length_drop]
      split <;> simp <;> omega
    · simp
end Go.Proofs.YtojjfkbffjkojaaDoor
namespace Go.Proofs.YtojjfkbffjkojaaDoor
open Go.RowKit
theorem sz_stubN (h : List UInt8) : sz (stubN h) = 6 + h.length := by unfold stubN; rw [sz, szs]; simp
theorem cut32_len (s : RS) : (cutP 32 s).1.length ≤ 32 := by
  unfold cutP
  split
  · simp
  · dsimp only; rw [List.length_take]; omega
theorem kidsR_sz (set : List UInt8) : ∀ (n i : Nat) (s : RS), szs (kidsR set n i s).1 ≤ 38 * n
  | 0, i, s => by rw [kidsR, szs]; exact Nat.zero_le _
  | n + 1, i, s => by
    rw [kidsR]
    split
    · have h1 := kidsR_sz set n (i + 1) (cutP 32 s).2
      have h2 := cut32_len s
      rw [szs, sz_stubN]; omega
    · have h1 := kidsR_sz set n (i + 1) s
      have h2 : sz noneN = 6 := rfl
      rw [szs]; omega
theorem nodeR_sz (b : List UInt8) : sz (nodeR ⟨b, false⟩).1 ≤ 2000 + 4 * b.length := by
  unfold nodeR
  have hle := cutP_le 1 ⟨b, false⟩
  obtain ⟨C, hC⟩ : ∃ C, C = cutP 1 ⟨b, false⟩ := ⟨_, rfl⟩
  rw [← hC] at hle
  rw [← hC]
  dsimp only at hle ⊢
  have e0 : sz noneN = 6 := rfl
  split
  · show sz noneN ≤ _; omega
  split
  · unfold leafR
    have h1 := textP_le C.2
    dsimp only
    obtain ⟨T, hT⟩ : ∃ T, T = textP C.2 := ⟨_, rfl⟩
    rw [← hT] at h1
    rw [← hT]
    have h2 := unpackL_len T.1
    split
    · have h3 := cut32_len ⟨T.2.l, T.2.bad || (decide (unpackE T.1 ≠ 0) || decide (unpackB T.1 ≠ decide (at8 C.1 0 = 1)))⟩
      rw [sz, szs, szs, sz_stubN]
      simp only [List.length_nil]
      omega
    · have h3 := textP_le ⟨T.2.l, T.2.bad || (decide (unpackE T.1 ≠ 0) || decide (unpackB T.1 ≠ decide (at8 C.1 0 = 1)))⟩
      dsimp only at h3
      rw [sz, szs]
      simp only [List.length_nil]
      omega
  split
  · unfold brR
    dsimp only
    have h1 := cutP_le 1 C.2
    obtain ⟨H, hH⟩ : ∃ H, H = cutP 1 C.2 := ⟨_, rfl⟩
    rw [← hH] at h1
    rw [← hH]
    have h2 : (valR (hasR H.1) H.2).1.length ≤ H.2.l.length := by
      unfold valR
      split
      · exact (textP_le H.2).2
      · simp
    have h3 := kidsR_sz (cutP 2 (valR (hasR H.1) H.2).2).1 16 0 (cutP 2 (valR (hasR H.1) H.2).2).2
    rw [sz]
    simp only [List.length_nil]
    omega
  · rw [sz, szs]
    simp only [List.length_nil]
    omega
/-- What node.Decode answers. -/
def decP (b : List UInt8) : Nd × Int :=
  if (nodeR ⟨b, false⟩).2.bad = true ∨ 0 < (nodeR ⟨b, false⟩).2.l.length then (noneN, 11)
  else if encR (nodeR ⟨b, false⟩).1 = (b, 0) then ((nodeR ⟨b, false⟩).1, 0) else (noneN, 11)
theorem is_ndec : isFn Tryd.prog 31 = true := by kernel_rfl
set_option maxRecDepth 100000 in
set_option maxHeartbeats 2000000 in
theorem ndec_any (l : List UInt8) (gs : List (Option Nat)) (w : World) (A : Option Addr) (n c : Nat) (hG : GL w gs) (h : RdD w (Fd w gs) (dB l) (.slice A n c)) (hgs : ∀ b, some b ∈ gs → b < w.heap.size) (hz : n ≤ 10000000) :
    Calls Tryd.prog 31 #[.slice A n c] w fun e w' => ∃ cs, e = .returned (.tuple #[.agg cs.toArray, .int .i64 (decP l).2]) ∧ RdL w' (Fr w w') (dN (decP l).1) cs ∧ Below w.heap.size w w' := by
  refine calls_ev (args := [.slice A n c]) mixed Tryd.func31 rfl (by kernel_rfl) ?_
  have en := h.slen
  have hsz := nodeR_sz l
  have M := (St.start hgs).addD h
  clear h
  refine s_alloc (zN) M al_nd ?_
  clear M
  rintro g2 W M
  refine p_build (vs := [.slice A n c, .bool false]) pl_rd z_rd rfl ?_
  refine s_box ([.slice A n c, .bool false]) M rfl ?_
  clear M
  rintro g10 W M
  refine cc is_rnode (rnode_any M (M.d1 0 rfl) (by omega)) ?_
  clear M
  rintro e W ⟨cs, A2, n2, c2, he, M⟩
  unfold decP
  obtain ⟨N, hN⟩ : ∃ N, N = nodeR ⟨l, false⟩ := ⟨_, rfl⟩
  rw [← hN] at M hsz ⊢
  obtain ⟨t, ⟨l2, b2⟩⟩ := N
  dsimp only at M hsz ⊢
  subst he
  refine ⟨_, rfl, ?_⟩
  have hcl := (M.da 0 rfl).len
  rw [dN_len] at hcl
  have e2 := (M.d1 1 rfl).slen
  refine s_alloc (zN) M al_nd ?_
  clear M
  rintro g5 W M
  refine s_storeA 0 cs M rfl sz_nd rfl rfl hcl ((M.da 0 rfl).ones (dN_one _)) rfl ?_
  clear M; rintro W M
  dsimp only [setL] at M
  refine p_nil rfl ?_
  refine p_fld fr1 rfl ?_
  refine v_load agg_bo rfl ((M.B 1 rfl).at_ rfl) ?_
  cases b2 with
  | true =>
    rw [if_pos (.inl rfl)]
    refine p_build (vs := zN) pl_nd z_nd rfl ?_
    refine s_storeA 2 zN M rfl sz_nd rfl rfl rfl (all1 rfl) rfl ?_
    clear M; rintro W M
    dsimp only [setL] at M
    refine c_loadN zN agg_nd rfl rfl (M.run 2 rfl) ?_
    exact ⟨zN, rfl, RdL.znone, M.below⟩
  | false =>
  refine p_nil rfl ?_
  refine p_fld fr0 rfl ?_
  refine v_load agg_b rfl ((M.B 1 rfl).at_ rfl) ?_
  refine p_len slb rfl ?_
  refine p_gt rfl rfl (fun hgt => ?_) (fun hgt => ?_)
  · rw [if_pos (.inr (by omega))]
    refine p_build (vs := zN) pl_nd z_nd rfl ?_
    refine s_storeA 2 zN M rfl sz_nd rfl rfl rfl (all1 rfl) rfl ?_
    clear M; rintro W M
    dsimp only [setL] at M
    refine c_loadN zN agg_nd rfl rfl (M.run 2 rfl) ?_
    exact ⟨zN, rfl, RdL.znone, M.below⟩
  rw [if_neg (by rintro (h | h); cases h; omega)]
  refine v_loadN cs agg_nd rfl hcl (M.run 0 rfl) ?_
  refine cc is_nEnc (nEnc_any t (by omega) _ _ cs (M.gl hG) (M.da 0 rfl) M.olt) ?_
  rintro e W ⟨A6, n6, c6, rfl, o6, hb⟩
  replace M := M.callO hb o6
  clear o6 hb
  refine ⟨_, rfl, ?_⟩
  obtain ⟨E, hE⟩ : ∃ E, E = encR t := ⟨_, rfl⟩
  rw [← hE] at M ⊢
  obtain ⟨eb, ee⟩ := E
  dsimp only at M ⊢
  refine p_ne rfl rfl (fun he0 => ?_) (fun he0 => ?_)
  · refine cc is_beq (beq_any _ _ _ _ _ c _ _ eb l _ (M.rdb 0 rfl).2.2 (M.rdb 3 rfl).2.2) ?_
    rintro e W' ⟨rfl, rfl⟩
    refine ⟨_, rfl, ?_⟩
    refine p_not rfl ?_
    have he0 : ee = 0 := he0
    by_cases heq : eb = l
    · rw [decide_eq_true heq, if_pos (by rw [heq, he0])]
      refine v_loadN cs agg_nd rfl hcl (M.run 0 rfl) ?_
      refine s_storeA 2 cs M rfl sz_nd rfl rfl hcl ((M.da 1 rfl).ones (dN_one _)) rfl ?_
      clear M; rintro W M
      dsimp only [setL] at M
      refine c_loadN cs agg_nd rfl hcl (M.run 2 rfl) ?_
      exact ⟨cs, rfl, M.finF 1 rfl, M.below⟩
    · rw [decide_eq_false heq, if_neg (fun e => heq (congrArg Prod.fst e))]
      refine p_build (vs := zN) pl_nd z_nd rfl ?_
      refine s_storeA 2 zN M rfl sz_nd rfl rfl rfl (all1 rfl) rfl ?_
      clear M; rintro W M
      dsimp only [setL] at M
      refine c_loadN zN agg_nd rfl rfl (M.run 2 rfl) ?_
      exact ⟨zN, rfl, RdL.znone, M.below⟩
  · rw [if_neg (fun e => he0 (congrArg Prod.snd e))]
    refine p_build (vs := zN) pl_nd z_nd rfl ?_
    refine s_storeA 2 zN M rfl sz_nd rfl rfl rfl (all1 rfl) rfl ?_
    clear M; rintro W M
    dsimp only [setL] at M
    refine c_loadN zN agg_nd rfl rfl (M.run 2 rfl) ?_
    exact ⟨zN, rfl, RdL.znone, M.below⟩
end Go.Proofs.YtojjfkbffjkojaaDoor
namespace Go.Proofs.YtojjfkbffjkojaaDoor
open Go.RowKit
theorem is_eqfn : isFn Tryd.prog 78 = true := by kernel_rfl
/-- Pair by pair. -/
def All2 (P : Nd → Nd → Prop) (a b : List Nd) : Prop := a.length = b.length ∧ ∀ (i : Nat) (x y : Nd), a[i]? = some x → b[i]? = some y → P x y
theorem all2_eq {a b : List Nd} : All2 (fun x y => x = y) a b ↔ a = b := by
  constructor
  · rintro ⟨h1, h2⟩
    refine List.ext_getElem? fun i => ?_
    by_cases hi : i < a.length
    · have e1 := List.getElem?_eq_getElem hi
      have e2 := List.getElem?_eq_getElem (l := b) (i := i) (by omega)
      rw [e1, e2, h2 i _ _ e1 e2]
    · rw [List.getElem?_eq_none (by omega), List.getElem?_eq_none (by omega)]
  · rintro rfl
    exact ⟨rfl, fun i x y h1 h2 => by rw [h1] at h2; injection h2⟩
set_option maxRecDepth 100000 in
set_option maxHeartbeats 1000000 in
theorem eqfn_any (F : Nat) (hF : isFn Tryd.prog F = true) (P : Nd → Nd → Prop) (Q : World → List (Option Nat) → Prop) (ks ls : List Nd) (gs : List (Option Nat)) (w : World) (A B : Option Addr) (n c m d : Nat)
    (hQ : ∀ W L R fs, St w gs W L R fs → Q W (own L R gs))
    (ih : ∀ (i : Nat) (a b : Nd), ks[i]? = some a → ls[i]? = some b → ∀ (gs : List (Option Nat)) (w : World) (ca cb : List Value), Q w gs → RdL w (Fd w gs) (dN a) ca → RdL w (Fd w gs) (dN b) cb → (∀ b, some b ∈ gs → b < w.heap.size) → Calls Tryd.prog F #[.agg ca.toArray, .agg cb.toArray] w fun e w' => ∃ q : Bool, e = .returned (.bool q) ∧ (q = true ↔ P a b) ∧ Below w.heap.size w w')
    (ha : RdD w (Fd w gs) (dKs ks) (.slice A n c)) (hb : RdD w (Fd w gs) (dKs ls) (.slice B m d)) (hgs : ∀ b, some b ∈ gs → b < w.heap.size) (hz : n ≤ 1000000000 ∧ m ≤ 1000000000) :
    Calls Tryd.prog 78 #[.slice A n c, .slice B m d, .func (.func F) #[] #[]] w fun e w' => ∃ q : Bool, e = .returned (.bool q) ∧ (q = true ↔ All2 P ks ls) ∧ Below w.heap.size w w' := by
  refine calls_ev (args := [.slice A n c, .slice B m d, .func (.func F) #[] #[]]) mixed Tryd.func78 rfl (by kernel_rfl) ?_
  have en := ha.slen
  have em := hb.slen
  subst en; subst em
  have M := ((St.start hgs).addD hb).addD ha
  clear ha hb
  refine p_len sln rfl ?_
  refine p_len sln rfl ?_
  refine p_ne rfl rfl (fun hl => ?_) (fun hl => ?_)
  rotate_left
  · exact ⟨false, rfl, ⟨(fun h => by cases h), fun h => absurd (by rw [h.1]) hl⟩, M.below⟩
  have hl' : ks.length = ls.length := by omega
  refine p_len sln rfl ?_
  refine lp Nat (fun i W => i ≤ ks.length ∧ (∀ (j : Nat) (x y : Nd), j < i → ks[j]? = some x → ls[j]? = some y → P x y) ∧ St w gs W [] [] [.dat false [dKs ks] [.slice A ks.length c], .dat false [dKs ls] [.slice B ls.length d]])
    (fun i => [(1, .slice B ls.length d), (2, .func (.func F) #[] #[]), (15, .slice A ks.length c), (16, .int .i64 ks.length), (17, .int .i64 i)]) (fun i => ks.length - i) 0 ⟨Nat.zero_le _, (fun j x y h => absurd h (by omega)), M⟩ (by repeat (first | exact trivial | refine ⟨rfl, ?_⟩)) ?_
  clear M
  rintro i E W ⟨hi, hP, M⟩
  refine p_lt rfl rfl (fun hlt => ?_) (fun hge => ?_)
  · have hlt' : i < ks.length := by omega
    obtain ⟨x, hx⟩ : ∃ x, ks[i]? = some x := ⟨_, List.getElem?_eq_getElem hlt'⟩
    obtain ⟨y, hy⟩ : ∃ y, ls[i]? = some y := ⟨_, List.getElem?_eq_getElem (by omega)⟩
    obtain ⟨b1, o1, xs, rfl, hxl, M'⟩ := M.kid (M.d1 0 rfl) hx
    replace M := M'; clear M'
    obtain ⟨b2, o2, ys, rfl, hyl, M'⟩ := M.kid (M.d1 3 rfl) hy
    replace M := M'; clear M'
    obtain ⟨Ap5, cp5, Av5, cv5, Ak5, ck5, Ah5, ch5, rfl, -⟩ := (M.da 3 rfl).node
    obtain ⟨Ap6, cp6, Av6, cv6, Ak6, ck6, Ah6, ch6, rfl, -⟩ := (M.da 1 rfl).node
    refine p_at sln rfl rfl rfl (by omega) ?_
    refine v_loadN (ncs x Ap5 cp5 Av5 cv5 Ak5 ck5 Ah5 ch5) agg_nd rfl hxl (M.lc 2 rfl) ?_
    refine s_alloc (zN) M al_nd ?_
    clear M
    rintro g8 W M
    first | refine s_storeA 0 (ncs x Ap5 cp5 Av5 cv5 Ak5 ck5 Ah5 ch5) M rfl (by kernel_rfl) rfl rfl rfl (all1 rfl) rfl ?_ | refine s_storeA 1 (ncs x Ap5 cp5 Av5 cv5 Ak5 ck5 Ah5 ch5) M rfl (by kernel_rfl) rfl rfl rfl (all1 rfl) rfl ?_ | refine s_storeA 2 (ncs x Ap5 cp5 Av5 cv5 Ak5 ck5 Ah5 ch5) M rfl (by kernel_rfl) rfl rfl rfl (all1 rfl) rfl ?_ | refine s_storeA 3 (ncs x Ap5 cp5 Av5 cv5 Ak5 ck5 Ah5 ch5) M rfl (by kernel_rfl) rfl rfl rfl (all1 rfl) rfl ?_
    clear M
    rintro W M
    dsimp only [setL] at M
    refine p_at sln rfl rfl rfl (by omega) ?_
    refine v_loadN (ncs y Ap6 cp6 Av6 cv6 Ak6 ck6 Ah6 ch6) agg_nd rfl hyl (M.lc 0 rfl) ?_
    refine s_alloc (zN) M al_nd ?_
    clear M
    rintro g9 W M
    first | refine s_storeA 0 (ncs y Ap6 cp6 Av6 cv6 Ak6 ck6 Ah6 ch6) M rfl (by kernel_rfl) rfl rfl rfl (all1 rfl) rfl ?_ | refine s_storeA 1 (ncs y Ap6 cp6 Av6 cv6 Ak6 ck6 Ah6 ch6) M rfl (by kernel_rfl) rfl rfl rfl (all1 rfl) rfl ?_ | refine s_storeA 2 (ncs y Ap6 cp6 Av6 cv6 Ak6 ck6 Ah6 ch6) M rfl (by kernel_rfl) rfl rfl rfl (all1 rfl) rfl ?_ | refine s_storeA 3 (ncs y Ap6 cp6 Av6 cv6 Ak6 ck6 Ah6 ch6) M rfl (by kernel_rfl) rfl rfl rfl (all1 rfl) rfl ?_
    clear M
    rintro W M
    dsimp only [setL] at M
    refine v_loadN (ncs x Ap5 cp5 Av5 cv5 Ak5 ck5 Ah5 ch5) agg_nd rfl hxl (M.run 1 rfl) ?_
    refine v_loadN (ncs y Ap6 cp6 Av6 cv6 Ak6 ck6 Ah6 ch6) agg_nd rfl hyl (M.run 0 rfl) ?_
    refine cc hF (ih i x y hx hy _ _ _ _ (hQ _ _ _ _ M) (M.da 3 rfl) (M.da 1 rfl) M.olt) ?_
    rintro e W ⟨q, rfl, hq, hb⟩
    replace M := M.call hb
    refine ⟨_, rfl, ?_⟩
    refine p_not rfl ?_
    cases q with
    | false =>
      exact ⟨false, rfl, ⟨(fun h => by cases h), fun h => absurd (hq.2 (h.2 i x y hx hy)) (by decide)⟩, M.below⟩
    | true =>
      refine p_addN (b := 1) rfl rfl (by omega) ?_
      refine ⟨i + 1, ⟨by omega, fun j a b hj ha hb => ?_, (M.dropL.dropL).fsub _ (by simp)⟩, (by repeat (first | exact trivial | refine ⟨rfl, ?_⟩)), by omega⟩
      by_cases e : j = i
      · subst e
        rw [hx] at ha; rw [hy] at hb
        injection ha with ha; injection hb with hb
        subst ha; subst hb
        exact hq.1 rfl
      · exact hP j a b (by omega) ha hb
  · exact ⟨true, rfl, ⟨fun _ => ⟨hl', fun j x y hx hy => hP j x y (by have := (List.getElem?_eq_some_iff.1 hx).1; omega) hx hy⟩, fun _ => rfl⟩, M.below⟩
theorem is_nsame : isFn Tryd.prog 45 = true := by kernel_rfl
def NSameOk (a : Nd) : Prop := ∀ (b : Nd) (gs : List (Option Nat)) (w : World) (ca cb : List Value), RdL w (Fd w gs) (dN a) ca → RdL w (Fd w gs) (dN b) cb → (∀ b, some b ∈ gs → b < w.heap.size) → sz b ≤ 1000000000 →
  Calls Tryd.prog 45 #[.agg ca.toArray, .agg cb.toArray] w fun e w' => ∃ q : Bool, e = .returned (.bool q) ∧ (q = true ↔ a = b) ∧ Below w.heap.size w w'
set_option maxRecDepth 100000 in
set_option maxHeartbeats 1000000 in
theorem nsame_step (N : Nat) (ih : ∀ k : Nd, sz k < N → NSameOk k) (a : Nd) (ht : sz a ≤ N) (hN : N ≤ 1000000000) : NSameOk a := by
  intro b gs w ca cb hra hrb hgs hzb
  refine calls_ev (args := [.agg ca.toArray, .agg cb.toArray]) mixed Tryd.func45 rfl (by kernel_rfl) ?_
  obtain ⟨Ap, cp, Av, cv, Ak, ck, Ah, ch, rfl, r1, r3, r4, r5⟩ := hra.node
  obtain ⟨Bp, dp, Bv, dv, Bk, dk, Bh, dh, rfl, s1, s3, s4, s5⟩ := hrb.node
  have hsz := sz_eq a
  have hsl := szs_len a.kids
  have hsz' := sz_eq b
  have hsl' := szs_len b.kids
  have M := ((((((((St.start hgs).addD r5).addD r3).addD r1).addD s5).addD s3).addD s1).addD s4).addD r4
  clear r1 r3 r4 r5 hra s1 s3 s4 s5 hrb
  refine s_box (ncs a Ap cp Av cv Ak ck Ah ch) M rfl ?_
  clear M
  rintro g2 W M
  refine s_box (ncs b Bp dp Bv dv Bk dk Bh dh) M rfl ?_
  clear M
  rintro g3 W M
  have hB := M.B 0 rfl
  have hC := M.B 1 rfl
  unfold ncs at hB hC
  repeat' first
    | (refine p_fld fN0 rfl ?_)
    | (refine v_load agg_int rfl (hB.at_ rfl) ?_)
    | (refine v_load agg_int rfl (hC.at_ rfl) ?_)
  refine p_eq rfl rfl (fun hk => ?_) (fun hk => ?_)
  rotate_left
  ·
    exact ⟨false, rfl, ⟨(fun h => by cases h), fun h => absurd (by rw [h]) hk⟩, M.below⟩
  repeat' first
    | (refine p_fld fN2 rfl ?_)
    | (refine v_load agg_bo rfl (hB.at_ rfl) ?_)
    | (refine v_load agg_bo rfl (hC.at_ rfl) ?_)
  refine p_beqC u_bool rfl rfl (fun hh => ?_) (fun hh => ?_)
  rotate_left
  ·
    exact ⟨false, rfl, ⟨(fun h => by cases h), fun h => absurd (by rw [h]) hh⟩, M.below⟩
  repeat' first
    | (refine p_fld fN1 rfl ?_)
    | (refine v_load agg_b rfl (hB.at_ rfl) ?_)
    | (refine v_load agg_b rfl (hC.at_ rfl) ?_)
  refine cc is_beq (beq_any _ _ _ _ cp dp _ _ a.path b.path _ (M.rdb 5 rfl).2.2 (M.rdb 2 rfl).2.2) ?_
  rintro e W' ⟨rfl, rfl⟩
  refine ⟨_, rfl, ?_⟩
  by_cases hp : a.path = b.path
  rotate_left
  · rw [decide_eq_false hp]
    exact ⟨false, rfl, ⟨(fun h => by cases h), fun h => absurd (by rw [h]) hp⟩, M.below⟩
  rw [decide_eq_true hp]
  repeat' first
    | (refine p_fld fN3 rfl ?_)
    | (refine v_load agg_b rfl (hB.at_ rfl) ?_)
    | (refine v_load agg_b rfl (hC.at_ rfl) ?_)
  refine cc is_beq (beq_any _ _ _ _ cv dv _ _ a.val b.val _ (M.rdb 6 rfl).2.2 (M.rdb 3 rfl).2.2) ?_
  rintro e W' ⟨rfl, rfl⟩
  refine ⟨_, rfl, ?_⟩
  by_cases hv : a.val = b.val
  rotate_left
  · rw [decide_eq_false hv]
    exact ⟨false, rfl, ⟨(fun h => by cases h), fun h => absurd (by rw [h]) hv⟩, M.below⟩
  rw [decide_eq_true hv]
  repeat' first
    | (refine p_fld fN5 rfl ?_)
    | (refine v_load agg_b rfl (hB.at_ rfl) ?_)
    | (refine v_load agg_b rfl (hC.at_ rfl) ?_)
  refine cc is_beq (beq_any _ _ _ _ ch dh _ _ a.hash b.hash _ (M.rdb 7 rfl).2.2 (M.rdb 4 rfl).2.2) ?_
  rintro e W' ⟨rfl, rfl⟩
  refine ⟨_, rfl, ?_⟩
  by_cases hhs : a.hash = b.hash
  rotate_left
  · rw [decide_eq_false hhs]
    exact ⟨false, rfl, ⟨(fun h => by cases h), fun h => absurd (by rw [h]) hhs⟩, M.below⟩
  rw [decide_eq_true hhs]
  repeat' first
    | (refine p_fld fN4 rfl ?_)
    | (refine v_load agg_ns rfl (hB.at_ rfl) ?_)
    | (refine v_load agg_ns rfl (hC.at_ rfl) ?_)
  refine cc is_eqfn (eqfn_any _ is_nsame (fun x y => x = y) (fun _ _ => True) a.kids b.kids _ _ Ak Bk _ ck _ dk (fun _ _ _ _ _ => trivial) (fun i x y hx hy gs w ca cb _ h1 h2 h3 => ?_) (M.d1 0 rfl) (M.d1 1 rfl) M.olt ⟨by omega, by omega⟩) ?_
  · have hxz := szs_mem (List.mem_of_getElem? hx)
    have hyz := szs_mem (List.mem_of_getElem? hy)
    exact ih x (by omega) y gs w ca cb h1 h2 h3 (by omega)
  · rintro e W ⟨q, rfl, hq, hb⟩
    replace M := M.call hb
    refine ⟨_, rfl, ?_⟩
    refine ⟨q, rfl, ⟨fun e => ?_, fun e => hq.2 (all2_eq.2 (by rw [e]))⟩, M.below⟩
    have hks := all2_eq.1 (hq.1 e)
    cases a; cases b
    simp only [Nd.kind, Nd.has, Nd.path, Nd.val, Nd.hash, Nd.kids] at hk hh hp hv hhs hks
    rw [hk, hh, hp, hv, hhs, hks]
theorem nsame_any : ∀ (N : Nat), N ≤ 1000000000 → ∀ t : Nd, sz t < N → NSameOk t
  | 0, _, t, h => by omega
  | N + 1, hN, t, h => nsame_step N (fun k hk => nsame_any N (by omega) k hk) t (by omega) (by omega)
end Go.Proofs.YtojjfkbffjkojaaDoor
namespace Go.Proofs.YtojjfkbffjkojaaDoor
theorem sum_mem {α : Type} (f : α → Nat) : ∀ {l : List α} {x : α}, x ∈ l → f x ≤ (l.map f).sum
  | y :: l, x, h => by
    rw [List.map_cons, List.sum_cons]
    rcases List.mem_cons.1 h with rfl | h
    · omega
    · have := sum_mem f h; omega
end Go.Proofs.YtojjfkbffjkojaaDoor
namespace Go.Proofs.YtojjfkbffjkojaaDoor
open Go.RowKit
structure PairsR where
  l : List Pr
  miss : Option (List UInt8)
  e : Int
end Go.Proofs.YtojjfkbffjkojaaDoor
namespace Go.Proofs.YtojjfkbffjkojaaDoor
open Go.RowKit
/-- A block that is marked as a string's. -/
theorem St.mark {w W W' : World} {gs : List (Option Nat)} {L : Lc} {R : List Row} {fs : List Fact} {g n c : Nat} {T : TypeId} {cs : List Value} {l : List UInt8} (M : St w gs W ((g, T, cs) :: L) R fs) (hg : W.grownBy W' (some g)) (hr : Rd W' W'.heap.size (some ⟨g, 0, none⟩) n l) (hc : n ≤ c) : St w gs W' L R (.dat false [dB l] [.slice (some ⟨g, 0, none⟩) n c] :: fs) := by
  have hgw := (M.blk _ (List.mem_cons_self ..)).2
  have hap := M.ap
  rw [List.map_cons, List.cons_append, List.pairwise_cons] at hap
  have kept : ∀ o : Option Nat, o ∈ L.map (fun x => some x.1) ++ R.map (fun r => bk r.A) → o = none ∨ o ≠ some g := fun o ho => apart_comm (hap.1 o ho)
  have hn : some g ∉ own L R gs := fun e => by
    unfold own at e
    rw [← List.append_assoc] at e
    rcases List.mem_append.1 e with e | e
    · rcases hap.1 _ e with h | h
      · cases h
      · exact h rfl
    · have := M.lt g e
      have : w.heap.size ≤ g := hgw
      omega
  have M' : St w gs W' L R fs := by
    refine ⟨M.below.grown hg M.size (fun b e => by injection e with e; omega), M.lt, fun y hy => ⟨(M.blk y (by simp [hy])).1.grown hg ?_, (M.blk y (by simp [hy])).2⟩, fun r hr => ?_, hap.2, fun f hf => ((M.fct f hf).up (Stp.wrote hg (by unfold own; simp))).up ⟨Nat.le_refl _, fun _ _ _ => rfl, fun b _ e => by unfold own at *; simp only [List.map_cons, List.cons_append, List.mem_cons]; right; exact e⟩⟩
    · rcases kept (some y.1) (List.mem_append_left _ (List.mem_map.2 ⟨y, hy, rfl⟩)) with h | h
      · cases h
      · exact fun e => h e.symm
    · exact row_kept' (M.row r hr) hg (kept _ (List.mem_append_right _ (List.mem_map.2 ⟨r, hr, rfl⟩)))
  refine M'.addT (RdL.one (RdD.ofbytes hr hc (fun b off e hb => ?_)))
  injection e with e
  injection e with e1 e2
  subst e1
  exact ⟨hb, hn, fun e => by cases e⟩
theorem s_cvtB {E : Env} {d : Option Nat} {ty : TypeId} {p : String} {af : Array Edge} {gd : Option (Nat × Bool)} {x : Operand} {kw : Value → World → Prop} {w W : World} {gs : List (Option Nat)} {L : Lc} {R : List Row} {fs : List Fact} {g n c : Nat} (l : List UInt8) (M : St w gs W ((g, 5, bvs l) :: L) R fs) (hx : val E x = .slice (some ⟨g, 0, none⟩) n c) (hn : n = l.length) (hc : n ≤ c)
    (h : ∀ W', St w gs W' L R (.dat false [dB l] [.slice (some ⟨g, 0, none⟩) n c] :: fs) → kw (.slice (some ⟨g, 0, none⟩) n c) W') :
    VVal Tryd.prog E { dst := d, op := .convert 23 23 x, type := ty, pos := p, after := af, guard := gd } W kw :=
  v_cvtB hx (M.B 0 rfl) hn fun W' hr hg _ => h W' (M.mark hg hr hc)
end Go.Proofs.YtojjfkbffjkojaaDoor
namespace Go.Proofs.YtojjfkbffjkojaaDoor
open Go.RowKit
theorem is_kn7 : isFn Tryd.prog 30 = true := by kernel_rfl
theorem is_much7 : isFn Tryd.prog 34 = true := by kernel_rfl
set_option maxRecDepth 100000 in
set_option maxHeartbeats 1000000 in
theorem much7_any (t : Nd) (ht : sz t ≤ 900000000) (gs : List (Option Nat)) (w : World) (cs : List Value) (hr : RdL w (Fd w gs) (dN t) cs) (hgs : ∀ b, some b ∈ gs → b < w.heap.size) :
    Calls Tryd.prog 34 #[.agg cs.toArray] w fun e w' => e = .returned (.bool (decide (900 ≤ muchP t 900))) ∧ Below w.heap.size w w' := by
  refine calls_ev (args := [.agg cs.toArray]) mixed Tryd.func34 rfl (by kernel_rfl) ?_
  have hcl := hr.len
  rw [dN_len] at hcl
  have M := (St.start hgs).addL hr
  refine s_box (cs) M rfl ?_
  clear M
  rintro g1 W M
  refine v_loadN cs agg_nd rfl hcl (M.run 0 rfl) ?_
  refine cc is_r7much (much_any 1000000000 (Nat.le_refl _) t (by omega) _ _ cs 900 (by first | with_reducible exact M.da_0 | with_reducible exact M.da_1 | with_reducible exact M.da_2 | with_reducible exact M.da_3 | with_reducible exact M.da_4 | with_reducible exact M.da_5 | with_reducible exact M.da_6 | with_reducible exact M.da_7 | with_reducible exact M.da_8 | with_reducible exact M.da_9 | with_reducible exact M.da_10 | with_reducible exact M.da_11) M.olt (by decide)) ?_
  rintro e W ⟨rfl, hb⟩
  replace M := M.call hb
  refine ⟨_, rfl, ?_⟩
  refine p_ge rfl rfl (fun h => ?_) (fun h => ?_)
  · rw [decide_eq_true (show 900 ≤ muchP t 900 by omega)]
    exact ⟨rfl, M.below⟩
  · rw [decide_eq_false (show ¬ 900 ≤ muchP t 900 by omega)]
    exact ⟨rfl, M.below⟩
theorem much7_no {t : Nd} (h : decide (900 ≤ muchP t 900) = false) : sz t ≤ 49500 := by
  rw [decide_eq_false_iff_not] at h
  have := much_sz t 900 (by omega)
  omega
def kb7 : List UInt8 := [1, 2, 32, 18, 1, 120]
def kd7 : Nd := (decP kb7).1
theorem k7_0 : encR noneN = ([0], 0) ∧ encR (.mk 1 [1, 2] false [120] [] []) = (kb7, 0) := by decide +kernel
theorem k7_1 : (decP kb7).2 = 0 ∧ kd7.kind = 1 ∧ kd7.val.length = 1 ∧ checkE kd7 = 0 ∧ rightP false kd7 0 = true ∧ sz kd7 ≤ 1000 := by decide +kernel
theorem k7_2 : (decP [0, 0]).2 = 11 := by decide +kernel
set_option maxRecDepth 100000 in
set_option maxHeartbeats 4000000 in
theorem known7_any (gs : List (Option Nat)) (w : World) (hG : GL w gs) (hgs : ∀ b, some b ∈ gs → b < w.heap.size) : Calls Tryd.prog 30 #[] w fun e w' => e = .returned (.bool true) ∧ Below w.heap.size w w' := by
  refine calls_ev (args := []) mixed Tryd.func30 rfl (by kernel_rfl) ?_
  have M := St.start (w := w) (gs := gs) hgs
  refine p_build (vs := zN) pl_nd z_nd rfl ?_
  refine cc is_nEnc (nEnc_any noneN (by decide) _ _ zN (M.gl hG) RdL.znone M.olt) ?_
  rintro e W ⟨A1, n1, c1, he, o, hb⟩
  rw [k7_0.1] at he o
  subst he
  replace M := M.callO hb o
  clear o hb
  refine ⟨_, rfl, ?_⟩
  refine s_bslice (bvs [1, 2]) (fr := true) (ds := (bvs [1, 2]).map D.v) M slb (zs := [.int .u8 0]) (by kernel_rfl) rfl (by decide) rfl (RdL.ofvals _) rfl ?_
  clear M; rintro g1 W M
  refine s_bsliceB (bvs [120]) M slb (zs := [.int .u8 0]) (by kernel_rfl) rfl (by decide) rfl ?_
  clear M; rintro g2 W M
  refine s_cvtB [120] M rfl rfl (Nat.le_refl _) ?_
  clear M; rintro W M
  refine p_build (vs := ncs (.mk 1 [1, 2] false [120] [] []) (some ⟨g1, 0, none⟩) 2 (some ⟨g2, 0, none⟩) 1 none 0 none 0) pl_nd z_nd rfl ?_
  refine cc is_nEnc (nEnc_any (.mk 1 [1, 2] false [120] [] []) (by decide) _ _ _ (M.gl hG) (RdL.ofnode (t := .mk 1 [1, 2] false [120] [] []) (M.d1 1 rfl) (M.d1 0 rfl) (RdD.nil_ (s := 6) none 0) (RdD.nil_ (s := 1) none 0)) M.olt) ?_
  rintro e W ⟨A2, n2, c2, he, o, hb⟩
  rw [k7_0.2] at he o
  subst he
  have hn2 : 6 = n2 := o.len
  subst hn2
  replace M := M.callO hb o
  clear o hb
  refine ⟨_, rfl, ?_⟩
  refine cc is_ndec (ndec_any kb7 _ _ _ _ c2 (M.gl hG) (M.d1 0 rfl) M.olt (by decide)) ?_
  rintro e W ⟨cs3, he, r3, hb⟩
  obtain ⟨e1, e2, e3, e4, e5, e6⟩ := k7_1
  rw [e1] at he
  subst he
  replace r3 : RdL W _ (dN kd7) cs3 := r3
  obtain ⟨t, ht⟩ : ∃ t, t = kd7 := ⟨_, rfl⟩
  rw [← ht] at r3 e2 e3 e4 e5 e6
  clear ht
  obtain ⟨Ap, cp, Av, cv, Ak, ck, Ah, ch, rfl, -⟩ := id r3.node
  replace M := M.callF hb r3
  clear r3 hb
  refine ⟨_, rfl, ?_⟩
  refine s_alloc (zN) M al_nd ?_
  clear M
  rintro g5 W M
  first | refine s_storeA 0 (ncs t Ap cp Av cv Ak ck Ah ch) M rfl (by kernel_rfl) rfl rfl rfl (all1 rfl) rfl ?_ | refine s_storeA 1 (ncs t Ap cp Av cv Ak ck Ah ch) M rfl (by kernel_rfl) rfl rfl rfl (all1 rfl) rfl ?_ | refine s_storeA 2 (ncs t Ap cp Av cv Ak ck Ah ch) M rfl (by kernel_rfl) rfl rfl rfl (all1 rfl) rfl ?_ | refine s_storeA 3 (ncs t Ap cp Av cv Ak ck Ah ch) M rfl (by kernel_rfl) rfl rfl rfl (all1 rfl) rfl ?_
  clear M
  rintro W M
  dsimp only [setL] at M
  refine s_bslice (bvs [0, 0]) (fr := true) (ds := (bvs [0, 0]).map D.v) M slb (zs := [.int .u8 0]) (by kernel_rfl) rfl (by decide) rfl (RdL.ofvals _) rfl ?_
  clear M; rintro g6 W M
  refine cc is_ndec (ndec_any [0, 0] _ _ _ _ _ (M.gl hG) (M.d1 0 rfl) M.olt (by decide)) ?_
  rintro e W ⟨cs4, he, r4, hb⟩
  rw [k7_2] at he
  subst he
  have hc4 := r4.len
  rw [dN_len] at hc4
  replace M := M.callF hb r4
  clear r4 hb
  refine ⟨_, rfl, ?_⟩
  refine s_alloc (zN) M al_nd ?_
  clear M
  rintro g7 W M
  refine s_storeA 0 cs4 M rfl sz_nd rfl rfl hc4 ((M.da 0 rfl).ones (dN_one _)) rfl ?_
  clear M; rintro W M
  dsimp only [setL] at M
  refine s_bslice (bvs [0]) (fr := true) (ds := (bvs [0]).map D.v) M slb (zs := [.int .u8 0]) (by kernel_rfl) rfl (by decide) rfl (RdL.ofvals _) rfl ?_
  clear M; rintro g8 W M
  obtain ⟨q, hq, hc⟩ := same_tf (c1 := c1) (c2 := 1) (M.rdb (l := [0]) 7 rfl).2.2 (M.rdb (l := [0]) 0 rfl).2.2
  obtain rfl := hq.2 rfl
  refine cc is_same0 hc ?_
  rintro e W' ⟨rfl, rfl⟩
  refine ⟨_, rfl, ?_⟩
  clear hq hc
  refine p_eq rfl rfl (fun _ => ?_) (fun e => absurd rfl e)
  refine s_bslice (bvs [1, 2, 32, 18, 1, 120]) (fr := true) (ds := (bvs [1, 2, 32, 18, 1, 120]).map D.v) M slb (zs := [.int .u8 0]) (by kernel_rfl) rfl (by decide) rfl (RdL.ofvals _) rfl ?_
  clear M; rintro g9 W M
  obtain ⟨q, hq, hc⟩ := same_tf (c1 := c2) (c2 := 6) (M.rdb (l := [1, 2, 32, 18, 1, 120]) 5 rfl).2.2 (M.rdb (l := [1, 2, 32, 18, 1, 120]) 0 rfl).2.2
  obtain rfl := hq.2 rfl
  refine cc is_same0 hc ?_
  rintro e W' ⟨rfl, rfl⟩
  refine ⟨_, rfl, ?_⟩
  clear hq hc
  refine p_eq rfl rfl (fun _ => ?_) (fun e => absurd rfl e)
  refine p_eq rfl rfl (fun _ => ?_) (fun e => absurd rfl e)
  refine p_fld fN0 rfl ?_
  refine v_load agg_int rfl ((M.B 1 rfl).at_ rfl) ?_
  refine p_eq rfl rfl (fun _ => ?_) (fun e => absurd e2 e)
  refine p_fld fN3 rfl ?_
  refine v_load agg_b rfl ((M.B 1 rfl).at_ rfl) ?_
  refine p_len slb rfl ?_
  refine p_eq rfl rfl (fun _ => ?_) (fun e => absurd (by rw [e3]; rfl) e)
  refine p_eq rfl rfl (fun _ => ?_) (fun e => absurd rfl e)
  refine v_loadN (ncs t Ap cp Av cv Ak ck Ah ch) agg_nd rfl rfl (M.run 1 rfl) ?_
  refine cc is_ncheck (ncheck_any t (by omega) _ _ _ (M.da 4 rfl) M.olt) ?_
  rintro e W ⟨he, hb⟩
  rw [e4] at he
  subst he
  replace M := M.call hb
  clear hb
  refine ⟨_, rfl, ?_⟩
  refine p_eq rfl rfl (fun _ => ?_) (fun e => absurd rfl e)
  refine v_loadN (ncs t Ap cp Av cv Ak ck Ah ch) agg_nd rfl rfl (M.run 1 rfl) ?_
  refine cc is_nHash (nHash_any t (by omega) _ _ _ (M.gl hG) (M.da 4 rfl) M.olt) ?_
  rintro e W ⟨A9, n9, c9, rfl, o, hb⟩
  have hn9 : (hashR t).length = n9 := o.len
  have h32 : (hashR t).length = 32 := by
    unfold hashR
    rw [if_pos e5]
    exact hashP_len (val_of_right false _ t 0 (Nat.lt_succ_self _) e5)
  replace M := M.callO hb o
  clear o hb
  refine ⟨_, rfl, ?_⟩
  refine p_len slb rfl ?_
  refine p_eq rfl rfl (fun _ => ?_) (fun e => absurd (by rw [← hn9, h32]; rfl) e)
  exact ⟨rfl, M.below⟩
end Go.Proofs.YtojjfkbffjkojaaDoor
namespace Go.Proofs.YtojjfkbffjkojaaDoor
open Go.RowKit
def keepI (q : List UInt8) (x : It) : Bool := x.stub || !decide (x.path = q)
end Go.Proofs.YtojjfkbffjkojaaDoor
namespace Go.Proofs.YtojjfkbffjkojaaDoor
open Go.RowKit
theorem dPrs_drop : ∀ (l : List Pr) (k : Nat), (dPrs l).drop (k * 2) = dPrs (l.drop k)
  | l, 0 => by simp
  | [], k + 1 => by simp [dPrs]
  | p :: l, k + 1 => by
    rw [show (k + 1) * 2 = (dPr p).length + k * 2 by rw [dPr_len]; omega, List.drop_succ_cons, ← dPrs_drop l k]
    show (dPr p ++ dPrs l).drop _ = _
    rw [← List.drop_drop, List.drop_left]
theorem RdD.cutP {W : World} {F : Nat → Prop} {l : List Pr} {A : Option Addr} {n c k : Nat} (h : RdD W F (dPl l) (.slice A n c)) (hk : k ≤ n) : RdD W F (dPl (l.drop k)) (.slice (slA A c k 2) (n - k) (c - k)) := by
  have hn := h.slen
  have h2 := h.cut (i := k) (j := n) (m := c) hk (Nat.le_refl _) h.scap
  have e1 : (dPrs l).drop (k * 2) = dPrs (l.drop k) := dPrs_drop l k
  have e2 : (l.drop k).length = n - k := by rw [List.length_drop]; omega
  rw [e1, List.take_of_length_le (by unfold dPrs; rw [flat_len dPr_len, e2]; omega)] at h2
  show RdD W F (.sl 2 (l.drop k).length (dPrs (l.drop k))) _
  rw [e2]
  exact h2
end Go.Proofs.YtojjfkbffjkojaaDoor
