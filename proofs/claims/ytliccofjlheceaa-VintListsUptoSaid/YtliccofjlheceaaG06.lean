/- Lists of bytes as bytes: the reference's Join and Split. From a walk that returns true and writes nothing that was there to the row; arguments opened to lists. Numbers, bytes, lists: what the chapter's examples fix. Numbers and bytes in one way: plain laws of what stands at a place. Lists of bytes as bytes: plain laws: what is joined is split as it was, what is split is joined as it was, one byte more, one byte less. The walk of the law VintSplit. Are lists of lists the same? The walk of SameLists. The walk of the law VintLists. A [][]byte that came in, opened to lists. -/
import Derived.Test.YtliccofjlheceaaG05
import Derived.Test.YtliccofjlheceaaRows
import Derived.Test.YtliccofjlheceaaG02
import Derived.ProofKit
import Derived.OpenShut
import Derived.ChangeOld
import Derived.WideKeyArgs
import Derived.JoinedCond
import Derived.Test.YtliccofjlheceaaG04
import Derived.Test.YtliccofjlheceaaG03
import Derived.ChangeArms
namespace Go.Proofs.Ytliccofjlheceaa
open Go.RowKit

set_option maxRecDepth 100000 in
set_option maxHeartbeats 800000 in
theorem refJoin_any (A : Option Addr) (n c : Nat) (ll : List (List UInt8)) (w : World) (hr : RdS w w.heap.size A n ll) (hn : n ≤ 10000000000) (hsz : (joinL ll).length ≤ 10000000000) :
    Calls Try.prog 15 #[.slice A n c] w fun e w' => ∃ A' n' c', e = .returned (.slice A' n' c') ∧ Own w' w.heap.size A' n' c' (joinL ll) ∧ Below w.heap.size w w' := by
  have hln := Lib.hid hr.len
  have hw : IntKind.u64.wrap (n : Int) = n := IntWalk.u64_in _ (by omega)
  have hlen := putN_len10 (n := n) (by omega)
  have Hsz := Lib.hid hsz
  clear hsz
  go_enter Try.func15, Try.ntmps15
  go_wp2_with fail
  refine (refPut_any _ _ (by omega)).mono ?_
  rintro e w1 ⟨A1, c1, rfl, o1, b1⟩
  go_wp2_with fail
  go_loopw [3, 4] (fun v i wr => ∃ (k m : Nat) (A' : Option Addr) (c' : Nat), k ≤ n ∧ i = .int .i64 k ∧ v = .slice A' m c' ∧ Own wr w.heap.size A' m c' (putN n ++ (ll.take k).flatMap putB) ∧ Below w.heap.size w wr) (fun _ i _ => n - (intOf i).toNat)
  case atStart => exact ⟨0, _, A1, c1, Nat.zero_le _, rfl, rfl, by simpa using o1, b1⟩
  case round =>
    obtain ⟨k, m, A', c', hk, rfl, rfl, hown, hb⟩ := hrel
    by_cases hlt : k < n
    · obtain ⟨bb, off, A2, m2, c2, rfl, _, hc, _, r2⟩ := (hr.below hb).at_ hlt
      have hfs := Lib.hid (flat_snoc ll k (by rw [hln.out]; exact hlt))
      have hm : Hid (m + ((putN m2).length + m2) ≤ 10000000000) := Lib.hid (by
        have e1 := hown.len
        have e2 := flat_le ll (k + 1)
        have e3 := Hsz.out
        have e4 := r2.len
        unfold joinL at e3
        rw [hln.out, List.length_append] at e3
        rw [List.length_append] at e1
        rw [hfs.out, List.length_append, putB_len, e4] at e2
        omega)
      have hm2 := hm.out
      go_wp2_with fail
      refine (refPutBytes_any _ _ _ _ _ (r2.more hb.size) (by omega)).mono ?_
      rintro e w2 ⟨A3, c3, rfl, o3, b3⟩
      have hb3 := hb.trans (b3.mono hb.size)
      have hown' := hown.below b3
      go_wp2_with (at_builtin; refine wpList_app rfl _ _ rfl rfl hown' rfl o3.rd (by omega) hb3.size ?_; intro A4 c4 w4 o4 g4)
      have hb4 := below_own hb3 hown' g4
      clear hown hown' o3
      go_roundw
      case rel => exact ⟨k + 1, _, A4, c4, by omega, by go_num, rfl, by rw [hfs.out, ← List.append_assoc]; exact o4, hb4⟩
      case measure => simp [intOf]; omega
    · go_wp2_with fail
      go_ret
      refine ⟨A', m, c', rfl, ?_, hb⟩
      unfold joinL
      rw [List.take_of_length_le (by rw [hln.out]; omega)] at hown
      rw [hln.out]; exact hown

set_option maxRecDepth 100000 in
set_option maxHeartbeats 1600000 in
theorem refSplit_any (A : Option Addr) (n c : Nat) (l : List UInt8) (w : World) (hr : Rd w w.heap.size A n l) (hn : n ≤ 100000000000) (hnc : n ≤ c) :
    Calls Try.prog 13 #[.slice A n c] w (GotSplit .i64 w l) := by
  have hln := Lib.hid hr.len
  by_cases h : gE l 0 = 0
  · have H := Lib.hid h
    obtain ⟨N, hN⟩ := Int.eq_ofNat_of_zero_le (gN_nonneg l 0)
    have hNlt := gN_lt l 0
    obtain ⟨T, hT, hle⟩ := g_to h
    rw [hln.out] at hle
    have HS := Lib.hid (show splitF l N (T : Int) = spR l by unfold spR; rw [hN, hT]; rfl)
    rw [hN] at hNlt
    have HT := Lib.hid hT
    have HN := Lib.hid hN
    clear h hT hN
    go_enter Try.func13, Try.ntmps13
    go_wp2_with fail
    refine (refGet_any _ _ _ _ _ _ _ hr hn).mono ?_
    rintro e w1 ⟨rfl, rfl⟩
    rw [H.out, HT.out, HN.out]
    go_wp2_with fail
    go_loopw [5, 7] (fun i v wr => ∃ (m a : Nat) (pre : List (List UInt8)) (A' : Option Addr) (c' : Nat), m + pre.length = N ∧ a ≤ n ∧ pre.length ≤ a ∧ i = .int .i64 a ∧ v = .slice A' pre.length c' ∧ OwnS wr w.heap.size A' pre.length c' pre ∧ Below w.heap.size w wr ∧ Hid (spR l = (pre ++ (splitF l m a).1, (splitF l m a).2))) (fun i _ _ => n - (intOf i).toNat)
    case atStart => exact ⟨N, T, [], none, 0, rfl, hle, Nat.zero_le _, rfl, rfl, OwnS.nil_ _ _, Below.refl _ _, Lib.hid (by rw [HS.out]; rfl)⟩
    case round =>
      obtain ⟨m, a, pre, A', c', hm, ha, hpre, rfl, rfl, hown, hb, hF⟩ := hrel
      cases m with
      | zero =>
        have hw : IntKind.u64.wrap (pre.length : Int) = pre.length := IntWalk.u64_in _ (by omega)
        have hlt1 : ¬ (pre.length : Int) < N := by omega
        by_cases hlt : a < n
        · have F := Lib.hid (sp_err3 H.out (by rw [hF.out]; rfl) (by rw [hF.out, splitF_zero, hln.out]; show (a : Int) < n; omega))
          have hbn : ((a : Int) != (n : Int)) = true := by rw [bne_iff_ne]; omega
          go_wp2_with fail
          go_ret2
          exact gotSplit_none F.out hb
        · have F := Lib.hid (sp_ok H.out (by rw [hF.out]; rfl) (by rw [hF.out, splitF_zero, hln.out]; show ¬ (a : Int) < n; omega))
          have hbn : ((a : Int) != (n : Int)) = false := by rw [bne_eq_false_iff_eq]; omega
          go_wp2_with fail
          go_ret2
          refine ⟨A', _, c', ret_si rfl F.out.1.symm, ?_, hb⟩
          rw [F.out.2, hF.out, splitF_zero, List.append_nil]
          exact hown
      | succ m =>
        have hw : IntKind.u64.wrap (pre.length : Int) = pre.length := IntWalk.u64_in _ (by omega)
        have hlt1 : (pre.length : Int) < N := by omega
        go_wp2_with fail
        refine (refGetBytes_any _ _ _ _ _ _ ((hr.below hb).more hb.size) hn hnc).mono ?_
        rintro e w2 ⟨A2, n2, c2, rfl, o2, b2⟩
        by_cases he : gbE l a = 0
        · have hF2 := Lib.hid (show spR l = (pre ++ gbL l a :: (splitF l m (gbTo l a)).1, (splitF l m (gbTo l a)).2) by rw [hF.out, splitF_step he])
          obtain ⟨g1, g2, g3⟩ := gb_to he
          obtain ⟨a2, ha2⟩ := Int.eq_ofNat_of_zero_le (show 0 ≤ gbTo l a by omega)
          rw [hln.out] at g2
          rw [ha2] at g1 g2
          have Ha2 := Lib.hid ha2
          have He := Lib.hid he
          clear he ha2
          rw [He.out, Ha2.out]
          have hb2 := hb.trans (b2.mono hb.size)
          obtain ⟨vs, hrow0, hels0⟩ := hown
          have hlt : ∀ v ∈ vs, ∀ g, v.ownBlock = some g → g < wr.heap.size := fun v hv g hg => (hels0.lt v hv g hg).2
          obtain ⟨hrow, hels⟩ := own_below hrow0 hels0 b2
          clear hrow0 hels0
          have hN := fun g hg => (World.ownsRow.lt o2 g hg).1
          have hrow2 := hrow.alloc (.cells #[.slice A2 n2 c2] 23)
          have hels2 := hels.below ((Below.refl _ _).alloc (Nat.le_refl _) (.cells #[.slice A2 n2 c2] 23))
          have o22 := (o2.less hb.size).alloc (.cells #[.slice A2 n2 c2] 23)
          go_wp2_with (at_builtin; refine wpList_appS rfl _ _ rfl rfl hrow2 hels2 o22 hlt hN rfl (Reads.lit1 _ _ rfl _ _) (by omega) (by have := hb2.size; simp; omega) ?_; intro A4 c4 w4 o4 g4)
          have hb4 := below_ownS (hb2.trans ((Below.refl _ _).alloc hb2.size _)) hrow2 g4
          go_roundw
          case rel => exact ⟨m, a2, pre ++ [gbL l a], A4, c4, by simp; omega, by omega, by simp; omega, rfl, by simp, by simpa using o4, hb4, Lib.hid (by rw [hF2.out, Ha2.out]; simp)⟩
          case measure => simp [intOf]; omega
        · have F := Lib.hid (sp_err2 H.out (by rw [hF.out, splitF_err he]; exact he))
          have F2 := Lib.hid (show (spR l).2.2 = gbE l a by rw [hF.out, splitF_err he])
          have hne : (gbE l a != 0) = true := by simp [he]
          clear he
          go_wp2_with fail
          go_ret2
          exact gotSplit_none (by rw [← F2.out]; exact F.out) (hb.trans (b2.mono hb.size))
  · have F := Lib.hid (sp_err1 h)
    have hne : (gE l 0 != 0) = true := by simp [h]
    clear h
    go_enter Try.func13, Try.ntmps13
    go_wp2_with fail
    refine (refGet_any _ _ _ _ _ _ _ hr hn).mono ?_
    rintro e w1 ⟨rfl, rfl⟩
    go_wp2_with fail
    go_ret2
    exact gotSplit_none F.out (Below.refl _ _)
end Go.Proofs.Ytliccofjlheceaa
namespace Go.Proofs.Ytliccofjlheceaa
open Go.ChangeShapes Go.WideShapes Go.ChangeAt Go.RowKit

theorem own_ : ownKnob Try.prog.godebug = none := by kernel_rfl
theorem laidOut : laidOutB Try.prog = true := by kernel_rfl

/-- A call returns true, and below the heap's old size all is as it was. -/
def RetTrue (w : World) (e : Ending) (w' : World) : Prop := e = .returned (.bool true) ∧ Below w.heap.size w w'

section
variable {H : Type} {enc : TypeId × Value → H} {P : Program}
theorem trodAll_stays (hl : laidOutB P = true) {W W' : World} (hb : Below W.heap.size W W') {sp : Nat → Bool} : ∀ (ts : List TypeId) (vs : List Value) (ds : List (DataW H)) (p : List MemPlace),
    (ts.all fun t => P.readableRec t && decide (t < P.types.size)) = true → DataW.TrodAll enc P W 0 (fun _ => true) true ts vs ds p → (∀ x ∈ p, x.block < W.heap.size) → (∀ x ∈ p, sp x.block = true) → DataW.TrodAll enc P W' 0 sp true ts vs ds p
  | [], vs, ds, p, _, h, _, _ => by
    obtain ⟨rfl, rfl, rfl⟩ := trodAll_nil h
    exact trodAll_mk0
  | t :: ts, vs, ds, p, ht, h, hlt, hsp => by
    obtain ⟨v, vs', d, ds', p0, q0, rfl, rfl, rfl, h0, r0⟩ := trodAll_cons h
    rw [List.all_cons, Bool.and_eq_true, Bool.and_eq_true, decide_eq_true_eq] at ht
    refine trodAll_cons_mk (WideElems.Trod_stays hl ht.1.1 ht.1.2 h0 (fun x hx => hb.same (hlt x (by simp [hx]))) (fun x hx => hsp x (by simp [hx]))) (trodAll_stays hl hb ts vs' ds' q0 ht.2 r0 (fun x hx => hlt x (by simp [hx])) (fun x hx => hsp x (by simp [hx])))

theorem post_of_below {f : Func} {s : ChangeSpec} {apart fresh handsOn again : Bool} {W W' : World} {args : Array Value} {v : Value} {ds gs : List (DataW H)} {before pa pv : List MemPlace}
    (hW : DataW.Whole enc P f.params.toList s.vars apart W args.toList ds gs before)
    (hres : ∀ (b : Nat) (sp : Nat → Bool) (hd : Bool), DataW.TrodAll enc P W' b sp hd f.resultTypes.toList (v.resultList f.resultTypes.size) (s.fn H (ds ++ gs)).results [])
    (hargs : ∀ sp : Nat → Bool, (∀ p ∈ before, sp p.block = true) → DataW.TrodAll enc P W' 0 sp true f.params.toList args.toList (s.fn H (ds ++ gs)).args pa)
    (hvars : ∀ sp : Nat → Bool, (∀ p ∈ before, sp p.block = true) → DataW.TrodVars enc P W' sp s.vars (s.fn H (ds ++ gs)).vars pv)
    (hps : before = pa ++ pv) (hb : Below W.heap.size W W')
    (hok : ∀ (j : Nat) (t : TypeId) (r : Value), f.resultTypes[j]? = some t → (v.resultList f.resultTypes.size)[j]? = some r → Value.okWide P W' .any 0 t r) :
    s.post enc P f apart fresh handsOn again W args v W' := by
  have hlt : ∀ p ∈ before, p.block < W.heap.size := fun p hp => hW.lt p hp
  have hold : ∀ p ∈ before, (fun b => decide (b < W.heap.size)) p.block = true := fun p hp => by simpa using hlt p hp
  refine ⟨ds, gs, before, [], pa, pv, hW, hres _ _ _, hargs _ hold, hvars _ hold, World.keptBut_mono (fun p hp => ⟨hp, ?_⟩) (hb.frame (· ∈ before)), fun _ => ?_⟩
  · rw [hps, List.mem_append] at hp
    exact Or.inr hp
  · obtain ⟨_, _, _, _, _, hz, hn⟩ := hW
    refine ⟨hok, _, _, ([] ++ pa) ++ pv, ⟨[] ++ pa, pv, trodAll_append (hargs _ (fun _ _ => rfl)) (hres _ _ _), hvars _ (fun _ _ => rfl), rfl, ?_, ?_⟩, ?_⟩
    · intro b off hp
      have hin : MemPlace.cell b off ∈ before := by rw [hps]; simpa using hp
      rw [hb.frozen (hlt _ hin)]
      exact hz b off hin
    · intro ha
      have := hn ha
      rw [hps] at this
      simpa using this
    · intro p hp _
      rw [hps]
      simpa using hp

/-- THE ROW'S LAST STEP: the law has returned true, nothing that was there has turned. -/
theorem law_post (hl : laidOutB P = true) {tb : TypeId} (hbool : P.underlying tb = some .bool) {f : Func} {s : ChangeSpec} {W W' : World} {args : Array Value} {ds gs : List (DataW H)} {before : List MemPlace}
    (hvars : s.vars = []) (hW : DataW.Whole enc P f.params.toList s.vars false W args.toList ds gs before)
    (hts : (f.params.toList.all fun t => P.readableRec t && decide (t < P.types.size)) = true) (hrt : f.resultTypes = #[tb])
    (hres : (s.fn H (ds ++ gs)).results = [.lit (.bool true)]) (hargs : (s.fn H (ds ++ gs)).args = ds) (hvs : (s.fn H (ds ++ gs)).vars = []) (hb : Below W.heap.size W W') :
    s.post enc P f false true false false W args (.bool true) W' := by
  have hW' := hW
  obtain ⟨p, q, hA, hV, rfl, hfz, hnd⟩ := hW
  rw [hvars] at hV
  obtain ⟨rfl, rfl⟩ := trodVars_none hV
  have hlt : ∀ x ∈ p, x.block < W.heap.size := fun x hx => hW'.lt x (by simp [hx])
  refine post_of_below (pa := p) (pv := []) hW' ?_ ?_ ?_ rfl hb ?_
  · intro b sp hd
    rw [hres, hrt]
    exact trodAll_cons_mk (shut_bool hbool _) trodAll_mk0
  · intro sp hsp
    rw [hargs]
    exact trodAll_stays hl hb _ _ _ _ hts hA hlt (fun x hx => hsp x (by simp [hx]))
  · intro sp hsp
    rw [hvars, hvs]
    rfl
  · exact ok_one hrt rfl (okWide_bool_mk hbool _)
end

set_option maxRecDepth 100000 in
/-- A []byte that came in: it reads as a list. -/
theorem rd_open {H : Type} {enc : TypeId × Value → H} {W : World} {base : Nat} {v : Value} {d : DataW H} {p : List MemPlace} (hv : Value.okWide Try.prog W .any base 23 v)
    (h : DataW.Trod enc Try.prog W 0 (fun _ => true) true 23 v d p) : ∃ A n c l, v = .slice A n c ∧ Rd W W.heap.size A n l ∧ n ≤ c ∧ c ≤ maxLen := by
  obtain ⟨a0, len, cap, rfl⟩ := okWide_slice Try.underlying23 hv
  have hlt : ∀ x ∈ p, x.block < W.heap.size := by obtain ⟨m, hm⟩ := h; exact DataW.trod_lt m _ _ _ hm
  obtain ⟨fuel, hf⟩ := h
  rcases open_ints Try.underlying23 Try.underlying5 (by kernel_rfl) hf with ⟨hcs, hx⟩ | ⟨x, l, c, zs, hcs, _, hl, hm, hz, hx, hcell, hwz⟩
  · simp [Value.cells] at hcs
    obtain ⟨rfl, rfl, rfl⟩ := hcs
    exact ⟨none, 0, 0, [], rfl, Rd.nil_, Nat.le_refl _, Nat.zero_le _⟩
  · simp [Value.cells] at hcs
    obtain ⟨rfl, rfl, rfl⟩ := hcs
    simp only [if_true] at hz
    simp only [Prod.mk.injEq] at hx
    obtain ⟨rfl, rfl⟩ := hx
    refine ⟨some x, len, cap, (zs.take len).map b8, rfl, ⟨by rw [bvs_length]; simp; omega, fun hn => ?_⟩, hl, hm⟩
    obtain ⟨b, off, spot⟩ := x
    have hspot : spot = none := by simpa [Addr.add] using World.cell?_spot (hcell 0 (by omega))
    subst hspot
    have hbW : b < W.heap.size := hlt (.cell b off) (MemPlace.mem_row.2 ⟨0, by omega, by simp⟩)
    refine ⟨b, off, rfl, hbW, fun j u hu => ?_⟩
    have e : bvs ((zs.take len).map b8) = (zs.take len).map (Value.int .u8) := by
      unfold bvs
      rw [List.map_map]
      refine List.map_congr_left fun z hz => ?_
      have := hwz z (List.mem_of_mem_take hz)
      have hr : 0 ≤ z ∧ z ≤ 255 := by simpa [Lit.wf, IntKind.min, IntKind.max, IntKind.signed, IntKind.bits] using this
      exact u8v_b8 z hr.1 hr.2
    rw [e, List.getElem?_map] at hu
    obtain ⟨z, hz1, rfl⟩ := Option.map_eq_some_iff.1 hu
    have hj : j < len := by
      rw [List.getElem?_take] at hz1
      split at hz1
      · assumption
      · cases hz1
    have hc := hcell j (by omega)
    rw [Addr.add_lit] at hc
    rw [hc]
    rw [List.getElem?_take, if_pos hj] at hz1
    rw [List.getD_eq_getElem?_getD, hz1]
    rfl
end Go.Proofs.Ytliccofjlheceaa
namespace Go.Proofs.Ytliccofjlheceaa
open Go.RowKit

/-- A row of two lists, of which the second is empty. -/
theorem pair_rd (w : World) (H : Nat) (hH : w.heap.size = H) {A : Option Addr} {n c : Nat} {l : List UInt8} (h : Rd w H A n l) (hc : n ≤ c) :
    RdS (w.alloc (.cells #[.slice A n c, .slice none 0 0] 23)) (w.alloc (.cells #[.slice A n c, .slice none 0 0] 23)).heap.size (some ⟨H, 0, none⟩) 2 [l, []] := by
  subst hH
  refine ⟨[.slice A n c, .slice none 0 0], ⟨rfl, fun _ => ⟨_, 0, rfl, by simp, fun j u hu => ?_⟩⟩, rfl, fun k v l' h1 h2 => ?_⟩
  · rw [Nat.zero_add, World.cell?_alloc_at _ _ _ _ rfl]
    simpa using hu
  · rcases k with _ | _ | k
    · simp at h1 h2; subst h1; subst h2; exact ⟨A, n, c, rfl, hc, h.upA _⟩
    · simp at h1 h2; subst h1; subst h2; exact ⟨none, 0, 0, rfl, Nat.le_refl _, Rd.nil_⟩
    · simp at h1
set_option maxRecDepth 100000 in
set_option maxHeartbeats 1600000 in
theorem known01_any (w : World) : Calls Try.prog 10 #[] w (RetTrue w) := by
  have p1 := Lib.hid (show gN (List.map b8 [172, 2, 7]) 0 = 300 ∧ gTo (List.map b8 [172, 2, 7]) 0 = 2 ∧ gE (List.map b8 [172, 2, 7]) 0 = 0 by decide +kernel)
  have p2 := Lib.hid (show gE (List.map b8 [128, 0]) 0 = 11 by decide +kernel)
  have p3 := Lib.hid (show gE (List.map b8 [128]) 0 = 10 by decide +kernel)
  have p4 := Lib.hid (show spE (List.map b8 [2, 1, 97, 0]) = 0 ∧ (spL (List.map b8 [2, 1, 97, 0])).length = 2 by decide +kernel)
  have p5 := Lib.hid (show putN 300 = List.map b8 [172, 2] by decide +kernel)
  have p6 := Lib.hid (show putN (zig (-1)) = List.map b8 [1] by decide +kernel)
  have p7 := Lib.hid (show joinL [List.map b8 [97], []] = List.map b8 [2, 1, 97, 0] by decide +kernel)
  go_enter Try.func10, Try.ntmps10
  go_wp2_with fail
  refine (get_any _ _ _ _ _ _ _ (Rd.litH _ _ rfl [172, 2, 7] 3 rfl (by decide)) (by omega) (by omega)).mono ?_
  rintro e w1 ⟨rfl, rfl⟩
  rw [p1.out.1, p1.out.2.1, p1.out.2.2]
  go_wp2_with fail
  refine (get_any _ _ _ _ _ _ _ (Rd.litH _ _ (by simp) [128, 0] 2 rfl (by decide)) (by omega) (by omega)).mono ?_
  rintro e w1 ⟨rfl, rfl⟩
  rw [p2.out]
  go_wp2_with fail
  refine (get_any _ _ _ _ _ _ _ (Rd.litH _ _ (by simp) [128] 1 rfl (by decide)) (by omega) (by omega)).mono ?_
  rintro e w1 ⟨rfl, rfl⟩
  rw [p3.out]
  go_wp2_with fail
  refine (split_any _ _ _ _ _ (Rd.litH _ _ (by simp) [2, 1, 97, 0] 4 rfl (by decide) |>.more (by simp)) (by omega) (by omega)).mono ?_
  rintro e w1 ⟨A1, n1, c1, rfl, o1, b1⟩
  rw [p4.out.1]
  have e1 := o1.len
  rw [p4.out.2] at e1
  subst e1
  have B1 := below_new _ (below_new _ (below_new _ (below_new _ b1)))
  go_wp2_with fail
  refine (put_any 300 _ (putN_len10 (by omega))).mono ?_
  rintro e w2 ⟨A2, c2, rfl, o2, b2⟩
  rw [p5.out] at o2 ⊢
  have B2 := B1.trans (b2.mono B1.size)
  go_wp2_with fail
  refine (same_yes _ _ _ _ _ _ _ _ _ _ _ ((o2.alloc _).rd) (Rd.litH _ _ rfl [172, 2] 2 rfl (by decide)) rfl).mono ?_
  rintro e w3 ⟨rfl, rfl⟩
  have B3 := belowA B2 (.cells #[.int .u8 172, .int .u8 2] 5)
  clear B1 B2 b1 b2 o1 o2
  go_wp2_with fail
  refine (putInt_any (-1) _ (by omega) (by omega)).mono ?_
  rintro e w4 ⟨A4, c4, rfl, o4, b4⟩
  rw [p6.out] at o4 ⊢
  have B4 := B3.trans (b4.mono B3.size)
  go_wp2_with fail
  refine (same_yes _ _ _ _ _ _ _ _ _ _ _ ((o4.alloc _).rd) (Rd.litH _ _ rfl [1] 1 rfl (by decide)) rfl).mono ?_
  rintro e w5 ⟨rfl, rfl⟩
  have B5 := belowA B4 (.cells (List.map (Value.int .u8) [1]).toArray 5)
  generalize w4.alloc (.cells (List.map (Value.int .u8) [1]).toArray 5) = W5 at B5 ⊢
  clear B3 B4 b4 o4
  go_wp2_with fail
  refine (join_any _ _ _ [List.map b8 [97], []] _ (pair_rd _ _ (by simp) (Rd.litH _ _ rfl [97] 1 rfl (by decide)) (Nat.le_refl _)) (by omega) (by rw [p7.out]; simp)).mono ?_
  rintro e w6 ⟨A6, n6, c6, rfl, o6, b6⟩
  rw [p7.out] at o6
  have e6 := o6.len
  subst e6
  have B6 := (belowA (belowA B5 _) _).trans (b6.mono (by have := B5.size; simp; omega))
  clear B5 b6
  go_wp2_with fail
  refine (same_yes _ _ _ _ _ _ _ _ _ _ _ ((o6.alloc _).rd) (Rd.litH _ _ rfl [2, 1, 97, 0] 4 rfl (by decide)) rfl).mono ?_
  rintro e w7 ⟨rfl, rfl⟩
  go_wp2_with fail
  go_ret
  exact ⟨rfl, belowA B6 _⟩
end Go.Proofs.Ytliccofjlheceaa
namespace Go.Proofs.Ytliccofjlheceaa

/-- What is read at a place stands there; the bytes up to behind it. -/
theorem g_split {l : List UInt8} {a : Nat} (h : gE l (a : Int) = 0) : ∃ N t : Nat, gN l (a : Int) = N ∧ N < 18446744073709551616 ∧ gTo l (a : Int) = ((a + t : Nat) : Int) ∧ t = (putN N).length ∧ 1 ≤ t ∧ a + t ≤ l.length ∧ (l.drop a).take t = putN N ∧ l.take (a + t) = l.take a ++ putN N := by
  obtain ⟨x, t, hx, hxl, ht, hT, h1, hle, htk, hlt⟩ := g_ok h
  have hax : a = x := by omega
  subst hax
  obtain ⟨N, hN⟩ := Int.eq_ofNat_of_zero_le (gN_nonneg l (a : Int))
  rw [hN] at ht htk hlt
  refine ⟨N, t, hN, by omega, hT, ht, h1, hle, htk, ?_⟩
  rw [Int.toNat_natCast] at htk
  rw [← htk, List.take_add]
/-- Bytes that are read are written as they stand there. -/
theorem gb_same {l : List UInt8} {a : Nat} (h : gbE l (a : Int) = 0) : ∃ E : Nat, gbTo l (a : Int) = (E : Int) ∧ E ≤ l.length ∧ gTo l (a : Int) ≤ (E : Int) ∧ a ≤ E ∧ (l.drop a).take (E - a) = putB (gbL l (a : Int)) ∧ gbL l (a : Int) = (l.drop (gTo l (a : Int)).toNat).take (gN l (a : Int)).toNat ∧ (gbL l (a : Int)).length ≤ 1048576 := by
  rcases gb_cases l (a : Int) with e | ⟨e, k⟩ | ⟨e, k, m⟩ | ⟨e, k, m⟩
  · rw [(gb_err1 e).1] at h; exact absurd h e
  · rw [(gb_err2 e k).1] at h; cases h
  · rw [(gb_err3 e k m).1] at h; cases h
  · obtain ⟨_, hL, hTo⟩ := gb_ok e k m
    obtain ⟨N, t, hN, hN1, hT, ht, h1, hle, htk, _⟩ := g_split e
    rw [hN, hT] at hL hTo m
    rw [hN] at k
    rw [hT, hN]
    rw [Int.toNat_natCast, Int.toNat_natCast] at hL
    have hlen : (gbL l (a : Int)).length = N := by rw [hL, List.length_take, List.length_drop]; omega
    refine ⟨a + t + N, by rw [hTo]; omega, by omega, by omega, by omega, ?_, by rw [hL, Int.toNat_natCast, Int.toNat_natCast], by omega⟩
    unfold putB
    rw [hlen, hL, show a + t + N - a = t + N by omega, List.take_add, htk, List.drop_drop]
end Go.Proofs.Ytliccofjlheceaa
namespace Go.Proofs.Ytliccofjlheceaa

/-- Bytes that were written are read, wherever they stand. -/
theorem gb_put (p s r : List UInt8) (h : s.length ≤ 1048576) : gbE (p ++ (putB s ++ r)) (p.length : Int) = 0 ∧ gbL (p ++ (putB s ++ r)) (p.length : Int) = s ∧ gbTo (p ++ (putB s ++ r)) (p.length : Int) = ((p.length + (putB s).length : Nat) : Int) := by
  have e : putB s ++ r = putN s.length ++ (s ++ r) := by unfold putB; rw [List.append_assoc]
  rw [e]
  obtain ⟨g1, g2, g3⟩ := g_put p s.length (s ++ r) (by omega)
  obtain ⟨k1, k2, k3⟩ := gb_ok g1 (by rw [g2]; omega) (by rw [g2, g3]; simp only [List.length_append]; omega)
  refine ⟨k1, ?_, ?_⟩
  · rw [k2, g2, g3, Int.toNat_natCast, Int.toNat_natCast, ← List.append_assoc, List.drop_append_of_le_length (by simp), List.drop_of_length_le (by simp), List.nil_append, List.take_append_of_le_length (Nat.le_refl _), List.take_length]
  · rw [k3, g2, g3, putB_len]; omega
def short (ll : List (List UInt8)) : Prop := ∀ s ∈ ll, s.length ≤ 1048576
theorem splitF_join : ∀ (ll : List (List UInt8)) (p r : List UInt8), short ll → splitF (p ++ (ll.flatMap putB ++ r)) ll.length (p.length : Int) = (ll, ((p.length + (ll.flatMap putB).length : Nat) : Int), 0)
  | [], p, r, _ => by simp [splitF_zero]
  | s :: ll, p, r, h => by
    obtain ⟨g1, g2, g3⟩ := gb_put p s (ll.flatMap putB ++ r) (h s (by simp))
    rw [List.flatMap_cons, List.append_assoc, List.length_cons, splitF_step g1, g2, g3]
    have ih := splitF_join ll (p ++ putB s) r (fun x hx => h x (by simp [hx]))
    rw [List.append_assoc, List.length_append] at ih
    rw [ih]
    simp [Nat.add_assoc]
theorem join_parts (ll : List (List UInt8)) (hn : ll.length < 18446744073709551616) (r : List UInt8) : gE (joinL ll ++ r) 0 = 0 ∧ spR (joinL ll ++ r) = splitF (putN ll.length ++ (ll.flatMap putB ++ r)) ll.length ((putN ll.length).length : Int) := by
  have e : joinL ll ++ r = putN ll.length ++ (ll.flatMap putB ++ r) := by unfold joinL; rw [List.append_assoc]
  obtain ⟨g1, g2, g3⟩ := g_put [] ll.length (ll.flatMap putB ++ r) hn
  rw [List.nil_append, List.length_nil, Int.natCast_zero] at g1 g2 g3
  rw [Nat.zero_add] at g3
  rw [e]
  refine ⟨g1, ?_⟩
  unfold spR
  rw [g2, g3, Int.toNat_natCast]
theorem split_join (ll : List (List UInt8)) (hn : ll.length < 18446744073709551616) (h : short ll) : spE (joinL ll) = 0 ∧ spL (joinL ll) = ll := by
  obtain ⟨h1, h2⟩ := join_parts ll hn []
  rw [splitF_join ll _ [] h, List.append_nil] at h2
  rw [List.append_nil] at h1
  obtain ⟨k1, k2⟩ := sp_ok h1 (by rw [h2]) (by rw [h2]; unfold joinL; simp)
  exact ⟨k1, by rw [k2, h2]⟩
theorem splitF_ok : ∀ (l : List UInt8) (m A : Nat) (xs : List (List UInt8)) (T : Int), A ≤ l.length → splitF l m (A : Int) = (xs, T, 0) → xs.length = m ∧ ∃ E : Nat, T = (E : Int) ∧ A ≤ E ∧ E ≤ l.length ∧ (l.drop A).take (E - A) = xs.flatMap putB ∧ short xs
  | l, 0, A, xs, T, hA, h => by
    rw [splitF_zero] at h
    injection h with h1 h2
    injection h2 with h2 h3
    subst h1; subst h2
    exact ⟨rfl, A, rfl, Nat.le_refl _, hA, by simp, fun x hx => by simp at hx⟩
  | l, m + 1, A, xs, T, hA, h => by
    by_cases hg : gbE l (A : Int) = 0
    · obtain ⟨E, hE, hEl, _, hAE, htk, _, hlen⟩ := gb_same hg
      rw [splitF_step hg, hE] at h
      injection h with h1 h2
      obtain ⟨h3, E2, h4, h5, h6, h7, h8⟩ := splitF_ok l m E (splitF l m (E : Int)).1 T hEl (by rw [← h2])
      refine ⟨by rw [← h1, List.length_cons, h3], E2, h4, by omega, h6, ?_, ?_⟩
      · rw [← h1, List.flatMap_cons, ← htk, ← h7, show E2 - A = (E - A) + (E2 - E) by omega, List.take_add, List.drop_drop, show A + (E - A) = E by omega]
      · rw [← h1]
        intro x hx
        rcases List.mem_cons.1 hx with rfl | hx
        · exact hlen
        · exact h8 x hx
    · rw [splitF_err hg] at h
      injection h with h1 h2
      injection h2 with h2 h3
      exact absurd h3 hg
theorem join_split (l : List UInt8) (h : spE l = 0) : joinL (spL l) = l ∧ short (spL l) := by
  have hg : gE l 0 = 0 := by
    by_cases hg : gE l 0 = 0
    · exact hg
    · rw [(sp_err1 hg).1] at h; exact absurd h hg
  have hr : (spR l).2.2 = 0 := by
    by_cases hr : (spR l).2.2 = 0
    · exact hr
    · rw [(sp_err2 hg hr).1] at h; exact absurd h hr
  have hm : ¬ (spR l).2.1 < (l.length : Int) := by
    intro hm
    rw [(sp_err3 hg hr hm).1] at h; cases h
  rw [(sp_ok hg hr hm).2]
  obtain ⟨N, t, hN, hN1, hT, ht, h1, hle, htk, hcat⟩ := g_split (a := 0) (by simpa using hg)
  have hN' : gN l 0 = (N : Int) := by simpa using hN
  have hT' : gTo l 0 = (t : Int) := by simpa using hT
  have hF : splitF l N (t : Int) = spR l := by unfold spR; rw [hN', hT', Int.toNat_natCast]
  obtain ⟨k1, E, k2, k3, k4, k5, k6⟩ := splitF_ok l N t (spR l).1 (spR l).2.1 (by omega) (by rw [hF, ← hr])
  refine ⟨?_, k6⟩
  rw [k2] at hm
  have hE : E = l.length := by omega
  unfold joinL
  rw [k1, ← k5, hE, ← htk, List.drop_zero, List.take_of_length_le (l := l.drop t) (by rw [List.length_drop]; omega), List.take_append_drop]
end Go.Proofs.Ytliccofjlheceaa
namespace Go.Proofs.Ytliccofjlheceaa
open Go.RowKit

/-- The bulk that the laws reckon: so many bytes, and one for each list. -/
def tot (ll : List (List UInt8)) : Nat := (ll.map fun x => x.length + 1).sum
theorem tot_snoc (ll : List (List UInt8)) (k : Nat) (h : k < ll.length) : tot (ll.take (k + 1)) = tot (ll.take k) + ((ll.getD k []).length + 1) := by
  unfold tot
  rw [List.take_succ_eq_append_getElem h, List.map_append, List.sum_append, List.getD_eq_getElem?_getD, List.getElem?_eq_getElem h]
  simp
theorem tot_le (ll : List (List UInt8)) (k : Nat) : tot (ll.take k) ≤ tot ll := by
  conv => rhs; rw [← List.take_append_drop k ll]
  unfold tot
  rw [List.map_append, List.sum_append]; omega
theorem tot_len : ∀ (ll : List (List UInt8)), ll.length ≤ tot ll
  | [] => Nat.zero_le _
  | x :: ll => by have := tot_len ll; unfold tot at *; simp; omega
theorem tot_mem : ∀ (ll : List (List UInt8)), ∀ x ∈ ll, x.length ≤ tot ll
  | [], x, h => by simp at h
  | y :: ll, x, h => by
    unfold tot
    rw [List.map_cons, List.sum_cons]
    rcases List.mem_cons.1 h with rfl | h
    · omega
    · have := tot_mem ll x h; unfold tot at this; omega
theorem tot_flat : ∀ (ll : List (List UInt8)), (∀ x ∈ ll, x.length < 18446744073709551616) → (ll.flatMap putB).length ≤ 10 * tot ll
  | [], _ => Nat.zero_le _
  | x :: ll, h => by
    have h1 := tot_flat ll (fun y hy => h y (by simp [hy]))
    have h2 := putN_len10 (h x (by simp))
    unfold tot at *
    rw [List.flatMap_cons, List.length_append, putB_len, List.map_cons, List.sum_cons]
    omega
theorem join_cnt (ll : List (List UInt8)) : ll.length ≤ (joinL ll).length := by
  have h : ∀ ll : List (List UInt8), ll.length ≤ (ll.flatMap putB).length := by
    intro ll
    induction ll with
    | nil => exact Nat.zero_le _
    | cons x ll ih =>
      have := putN_pos x.length
      rw [List.flatMap_cons, List.length_append, putB_len, List.length_cons]; omega
  have := h ll
  unfold joinL
  rw [List.length_append]; omega
theorem tot_join (ll : List (List UInt8)) (h : tot ll ≤ 4000) : (joinL ll).length ≤ 40010 ∧ 1 ≤ (joinL ll).length ∧ ll.length ≤ 4000 ∧ short ll := by
  have h1 := tot_len ll
  have h2 := tot_flat ll (fun x hx => by have := tot_mem ll x hx; omega)
  have h3 := putN_len10 (n := ll.length) (by omega)
  have h4 := putN_pos ll.length
  refine ⟨?_, ?_, by omega, fun x hx => by have := tot_mem ll x hx; omega⟩
  · unfold joinL; rw [List.length_append]; omega
  · unfold joinL; rw [List.length_append]; omega

end Go.Proofs.Ytliccofjlheceaa
namespace Go.Proofs.Ytliccofjlheceaa
open Go.RowKit

set_option maxHeartbeats 800000 in
theorem sameLists_yes (A1 A2 : Option Addr) (n m c1 c2 B1 B2 : Nat) (a b : List (List UInt8)) (w : World) (h1 : RdS w B1 A1 n a) (h2 : RdS w B2 A2 m b) (hn : n ≤ 100000000000) (h : a = b) :
    Calls Try.prog 16 #[.slice A1 n c1, .slice A2 m c2] w fun e w' => e = .returned (.bool true) ∧ ∃ d, w' = w.drewN d := by
  subst h
  have hnm : m = n := by rw [← h1.len, ← h2.len]
  subst hnm
  go_enter Try.func16, Try.ntmps16
  go_wp2
  go_loopw [5] (fun i wr => ∃ (k d : Nat), k ≤ m ∧ i = .int .i64 k ∧ wr = w.drewN d) (fun i _ => m - (intOf i).toNat)
  case atStart => exact ⟨0, 0, Nat.zero_le _, rfl, rfl⟩
  case round =>
    obtain ⟨k, d, hk, rfl, rfl⟩ := hrel
    by_cases hlt : k < m
    · obtain ⟨b1, o1, A3, m3, c3, rfl, _, hc1, _, r1⟩ := h1.at_ hlt
      obtain ⟨b2, o2, A4, m4, c4, rfl, _, hc2, _, r2⟩ := h2.at_ hlt
      have e1 : ∀ x, (convert 23 9 (.slice A3 m3 c3)).run Try.prog (w.drewN x) = .ok (.string ⟨(a.getD k []).toArray⟩) (w.drewN x) := fun x => run_str (r1.drewN x) c3
      have e2 : ∀ x, (convert 23 9 (.slice A4 m4 c4)).run Try.prog (w.drewN x) = .ok (.string ⟨(a.getD k []).toArray⟩) (w.drewN x) := fun x => run_str (r2.drewN x) c4
      have hlst := RdS.len h1
      obtain ⟨L, hL⟩ : ∃ L, a.getD k [] = L := ⟨_, rfl⟩
      rw [hL] at e1 e2
      clear hL hlst
      go_wp2
      go_quiet (fail)
      go_wp2
      go_roundw
      case rel => exact ⟨k + 1, _, by omega, by go_num, rfl⟩
      case measure => simp [intOf]; omega
    · go_wp2
      go_ret
      exact ⟨rfl, _, rfl⟩
end Go.Proofs.Ytliccofjlheceaa
namespace Go.Proofs.Ytliccofjlheceaa
open Go.RowKit
theorem is_kn01 : isFn Try.prog 10 = true := by kernel_rfl
theorem is_joinV : isFn Try.prog 11 = true := by kernel_rfl
theorem is_splitV : isFn Try.prog 12 = true := by kernel_rfl
theorem is_rjoinV : isFn Try.prog 15 = true := by kernel_rfl
theorem is_rsplitV : isFn Try.prog 13 = true := by kernel_rfl
theorem is_sameV : isFn Try.prog 14 = true := by kernel_rfl
theorem is_sameLV : isFn Try.prog 16 = true := by kernel_rfl
theorem spL_lenV (l : List UInt8) : (spL l).length ≤ l.length := by
  by_cases h : spE l = 0
  · have h1 := (join_split l h).1
    have h2 := join_cnt (spL l)
    rw [h1] at h2; exact h2
  · have hn : spL l = [] := by
      by_cases h1 : gE l 0 = 0
      · by_cases h2 : (spR l).2.2 = 0
        · by_cases h3 : (spR l).2.1 < (l.length : Int)
          · exact (sp_err3 h1 h2 h3).2
          · exact absurd (sp_ok h1 h2 h3).1 h
        · exact (sp_err2 h1 h2).2
      · exact (sp_err1 h1).2
    rw [hn]; exact Nat.zero_le _
set_option maxRecDepth 100000 in
set_option maxHeartbeats 8000000 in
theorem vintLists_walk (w : World) {A0 A1 : Option Addr} {n0 c0 n1 c1 : Nat} {ll : List (List UInt8)} {b : List UInt8} (r0 : RdS w w.heap.size A0 n0 ll) (_k0 : n0 ≤ c0) (b0 : (ll.map fun x => x.length + 1).sum ≤ 1048576) (r1 : Rd w w.heap.size A1 n1 b) (k1 : n1 ≤ c1) :
    Calls Try.prog 3 #[.slice A0 n0 c0, .slice A1 n1 c1] w (RetTrue w) := by
  refine calls_ev (args := [.slice A0 n0 c0, .slice A1 n1 c1]) mixed Try.func3 rfl (by kernel_rfl) ?_
  have hln := r0.len
  have htot : tot ll ≤ 1048576 := b0
  have htl := tot_len ll
  have hl1 := r1.len
  have hsp := spL_lenV b
  refine lp Nat (fun i W => i ≤ n0 ∧ W = w) (fun i => [(0, .slice A0 n0 c0), (1, .slice A1 n1 c1), (5, .int .i64 (tot (ll.take i) : Nat)), (6, .int .i64 (i : Nat))]) (fun i => n0 - i) 0 ⟨Nat.zero_le _, rfl⟩ (by repeat (first | exact trivial | refine ⟨rfl, ?_⟩)) ?_
  rintro i E W ⟨hi, rfl⟩
  refine p_len slbb rfl ?_
  refine p_lt rfl rfl (fun hlt => ?_) (fun hge => ?_)
  · have hlt : i < n0 := by have h : (i : Int) < (n0 : Int) := hlt; omega
    obtain ⟨bb, off, A2, m2, c2, e0, hbB, hc, _, r2⟩ := r0.at_ hlt
    have hts := tot_snoc ll i (by omega)
    have hle := tot_le ll (i + 1)
    have e2 := r2.len
    refine p_atM (i := i) slbb (by show (Value.slice A0 n0 c0) = _; rw [e0]) rfl rfl hlt (by rw [Nat.mul_one]) ?_
    refine v_load agg_b rfl hc ?_
    refine p_len slb rfl ?_
    refine p_addN rfl rfl (by omega) ?_
    refine p_addN (b := 1) rfl rfl (by omega) ?_
    refine p_addN (b := 1) rfl rfl (by omega) ?_
    exact ⟨i + 1, ⟨by omega, rfl⟩, ⟨rfl, rfl, (by show Value.int .i64 ((tot (ll.take i) + m2 + 1 : Nat) : Int) = _; rw [hts, e2]; rfl), rfl, trivial⟩, by omega⟩
  have hie : i = n0 := by have h : ¬ (i : Int) < (n0 : Int) := hge; omega
  subst hie
  rw [List.take_of_length_le (by omega : ll.length ≤ i)]
  refine p_gt rfl rfl (fun hg => ?_) (fun hg => ?_)
  ·
    refine cc is_kn01 (known01_any _) ?_
    rintro e W' ⟨rfl, hbk⟩
    exact ⟨_, rfl, rfl, hbk⟩
  have hT4 : tot ll ≤ 4000 := by have h : ¬ (4000 : Int) < ((tot ll : Nat) : Int) := hg; omega
  refine p_len slb rfl ?_
  refine p_gt rfl rfl (fun hg2 => ?_) (fun hg2 => ?_)
  ·
    refine cc is_kn01 (known01_any _) ?_
    rintro e W' ⟨rfl, hbk⟩
    exact ⟨_, rfl, rfl, hbk⟩
  have hn1 : n1 ≤ 4000 := by have h : ¬ (4000 : Int) < (n1 : Int) := hg2; omega
  obtain ⟨j1, j2, j3, j4⟩ := tot_join ll hT4
  obtain ⟨s1, s2⟩ := split_join ll (by omega) j4
  refine cc is_joinV (join_any _ _ _ _ _ r0 (by omega) (by omega)) ?_
  rintro e W1 ⟨A7, n7, c7, rfl, o7, hb1⟩
  have e7 := o7.len
  have q7 := o7.rd
  have k7 := o7.cap_
  refine ⟨_, rfl, ?_⟩
  refine cc is_splitV (split_any _ _ _ _ _ q7 (by omega) k7) ?_
  rintro e W2 ⟨A8, n8, c8, rfl, o8, hb2⟩
  rw [s2] at o8
  have B2 := hb1.trans (hb2.mono hb1.size)
  refine ⟨_, rfl, ?_⟩
  refine cc is_splitV (split_any _ _ _ _ _ (r1.up B2) (by omega) k1) ?_
  rintro e W3 ⟨A10, n10, c10, rfl, o10, hb3⟩
  have B3 := B2.trans (hb3.mono B2.size)
  refine ⟨_, rfl, ?_⟩
  refine cc is_rsplitV (refSplit_any _ _ _ _ _ (r1.up B3) (by omega) k1) ?_
  rintro e W4 ⟨A12, n12, c12, rfl, o12, hb4⟩
  have B4 := B3.trans (hb4.mono B3.size)
  refine ⟨_, rfl, ?_⟩
  refine cc is_rjoinV (refJoin_any _ _ _ _ _ (r0.up B4) (by omega) (by omega)) ?_
  rintro e W5 ⟨A6, n6, c6, rfl, o6, hb5⟩
  have B5 := B4.trans (hb5.mono B4.size)
  have o8' := (((o8.below hb3).below hb4).below hb5)
  have o10' := ((o10.below hb4).below hb5)
  have o12' := (o12.below hb5)
  refine ⟨_, rfl, ?_⟩
  refine cc is_sameV (same_yes _ _ _ _ c7 c6 _ _ _ _ W5 ((((q7.up hb2).up hb3).up hb4).up hb5) o6.rd rfl) ?_
  rintro e W6 ⟨rfl, rfl⟩
  refine ⟨_, rfl, ?_⟩
  rw [s1]
  refine p_eq rfl rfl (fun _ => ?_) (fun h => absurd rfl h)
  refine cc is_sameLV (sameLists_yes _ _ _ _ c8 c0 _ _ _ _ W5 o8'.rd (r0.up B5) (by have := o8.len; omega) rfl) ?_
  rintro e W6 ⟨rfl, d6, rfl⟩
  refine ⟨_, rfl, ?_⟩
  have D6 : Below W5.heap.size W5 (W5.drewN d6) := below_drewN (Below.refl _ _) _
  refine cc is_sameLV (sameLists_yes _ _ _ _ c10 c12 _ _ _ _ _ (o10'.below D6).rd (o12'.below D6).rd (by have := o10.len; omega) rfl) ?_
  rintro e W7 ⟨rfl, d7, rfl⟩
  refine ⟨_, rfl, ?_⟩
  refine p_eq rfl rfl (fun _ => ?_) (fun h => absurd rfl h)
  have D7 : Below W5.heap.size W5 ((W5.drewN d6).drewN d7) := below_drewN D6 _
  refine cc (show isFn Try.prog 17 = true from is_own00) (own00_lists (w := W) ((B5.trans (D7.mono B5.size))) (o8'.below D7) hb1.size (by have := o8.len; omega) (fun x hx => by have := j4 x hx; omega)) ?_
  rintro e W8 ⟨rfl, hb8⟩
  refine ⟨_, rfl, ?_⟩
  refine cc is_kn01 (known01_any _) ?_
  rintro e W' ⟨rfl, hbk⟩
  exact ⟨_, rfl, rfl, hb8.trans (hbk.mono hb8.size)⟩
end Go.Proofs.Ytliccofjlheceaa
namespace Go.Proofs.Ytliccofjlheceaa
open Go.ChangeShapes Go.WideShapes Go.ChangeAt Go.RowKit

section
variable {H : Type} {enc : TypeId × Value → H} {W : World}
theorem lits_bulk (k : IntKind) : ∀ zs : List Int, Rows.uptoBulkAll (lits (H := H) k zs) = zs.length
  | [] => rfl
  | z :: zs => by
    have := lits_bulk k zs
    show Rows.uptoBulk (DataW.lit (.int k z)) + Rows.uptoBulkAll (lits k zs) = _
    rw [this, List.length_cons]
    show 1 + zs.length = _
    omega
set_option maxRecDepth 100000 in
theorem rd_trod {fuel : Nat} {cs : List Value} {d : DataW H} {p : List MemPlace} (hf : DataW.trod enc Try.prog W 0 (fun _ => true) true fuel 23 cs = some (d, p)) (hlt : ∀ x ∈ p, x.block < W.heap.size) :
    ∃ A n c l, cs = [.slice A n c] ∧ Rd W W.heap.size A n l ∧ n ≤ c ∧ c ≤ maxLen ∧ l.length + 1 ≤ Rows.uptoBulk d ∧ ∀ R, (∀ x ∈ d.weights Try.prog 23, x ≤ R) → l.length ≤ R := by
  rcases open_ints Try.underlying23 Try.underlying5 (by kernel_rfl) hf with ⟨hcs, hx⟩ | ⟨x, l, c, zs, hcs, _, hl, hm, hz, hx, hcell, hwz⟩
  · simp only [Prod.mk.injEq] at hx
    obtain ⟨rfl, rfl⟩ := hx
    exact ⟨none, 0, 0, [], hcs, Rd.nil_, Nat.le_refl _, Nat.zero_le _, Nat.le_refl _, fun _ _ => Nat.zero_le _⟩
  · simp only [if_true] at hz
    simp only [Prod.mk.injEq] at hx
    obtain ⟨rfl, rfl⟩ := hx
    refine ⟨some x, l, c, (zs.take l).map b8, hcs, ⟨by rw [bvs_length]; simp; omega, fun hn => ?_⟩, hl, hm, ?_, ?_⟩
    · obtain ⟨b, off, spot⟩ := x
      have hspot : spot = none := by simpa [Addr.add] using World.cell?_spot (hcell 0 (by omega))
      subst hspot
      have hbW : b < W.heap.size := hlt (.cell b off) (MemPlace.mem_row.2 ⟨0, by omega, by simp⟩)
      refine ⟨b, off, rfl, hbW, fun j u hu => ?_⟩
      have e : bvs ((zs.take l).map b8) = (zs.take l).map (Value.int .u8) := by
        unfold bvs
        rw [List.map_map]
        refine List.map_congr_left fun z hz => ?_
        have := hwz z (List.mem_of_mem_take hz)
        have hr : 0 ≤ z ∧ z ≤ 255 := by simpa [Lit.wf, IntKind.min, IntKind.max, IntKind.signed, IntKind.bits] using this
        exact u8v_b8 z hr.1 hr.2
      rw [e, List.getElem?_map] at hu
      obtain ⟨z, hz1, rfl⟩ := Option.map_eq_some_iff.1 hu
      have hj : j < l := by
        rw [List.getElem?_take] at hz1
        split at hz1
        · assumption
        · cases hz1
      have hc := hcell j (by omega)
      rw [Addr.add_lit] at hc
      rw [hc]
      rw [List.getElem?_take, if_pos hj] at hz1
      rw [List.getD_eq_getElem?_getD, hz1]
      rfl
    · show _ ≤ Rows.uptoBulkAll (lits .u8 (zs.take l)) + Rows.uptoBulkAll (lits .u8 (zs.drop l)) + 1
      rw [lits_bulk, lits_bulk]
      simp
    · intro R hR
      have hb : Try.prog.bytesOf 5 = 1 := by kernel_rfl
      have := hR (((lits (H := H) .u8 (zs.take l)).length + (lits (H := H) .u8 (zs.drop l)).length) * Try.prog.bytesOf 5) (by
        unfold DataW.weights; rw [Try.underlying23]; simp)
      rw [hb] at this
      have h3 : (lits (H := H) .u8 (zs.take l)).length = (zs.take l).length := by simp [lits]
      rw [List.length_map, ← h3]; omega
end

/-- Of each number below n two things that fit: two lists of them. -/
theorem gather {α β : Type} {P : Nat → α → β → Prop} : ∀ n, (∀ i, i < n → ∃ a b, P i a b) → ∃ (us : List α) (bs : List β), us.length = n ∧ bs.length = n ∧ ∀ i a b, us[i]? = some a → bs[i]? = some b → P i a b
  | 0, _ => ⟨[], [], rfl, rfl, fun i a b h => by simp at h⟩
  | n + 1, h => by
    obtain ⟨us, bs, h1, h2, h3⟩ := gather n (fun i hi => h i (by omega))
    obtain ⟨a, b, hab⟩ := h n (by omega)
    refine ⟨us ++ [a], bs ++ [b], by simp [h1], by simp [h2], fun i a' b' ha hb => ?_⟩
    by_cases hi : i < n
    · rw [List.getElem?_append_left (by omega)] at ha hb
      exact h3 i a' b' ha hb
    · have hin : i = n := by
        have := (List.getElem?_eq_some_iff.1 ha).1
        simp [h1] at this; omega
      subst hin
      rw [List.getElem?_append_right (by omega)] at ha hb
      rw [h1, Nat.sub_self] at ha
      rw [h2, Nat.sub_self] at hb
      simp at ha hb
      subst ha; subst hb
      exact hab
theorem bulk_sum {H : Type} : ∀ (ll : List (List UInt8)) (ds : List (DataW H)), ll.length = ds.length → (∀ (i : Nat) (l : List UInt8) (d : DataW H), ll[i]? = some l → ds[i]? = some d → l.length + 1 ≤ Rows.uptoBulk d) → (ll.map fun x => x.length + 1).sum ≤ Rows.uptoBulkAll ds
  | [], ds, h, _ => Nat.zero_le _
  | l :: ll, [], h, _ => by simp at h
  | l :: ll, d :: ds, h, k => by
    have h0 := k 0 l d rfl rfl
    have := bulk_sum ll ds (by simpa using h) (fun i l' d' h1 h2 => k (i + 1) l' d' (by simpa using h1) (by simpa using h2))
    show _ ≤ Rows.uptoBulk d + Rows.uptoBulkAll ds
    rw [List.map_cons, List.sum_cons]; omega

theorem weights_mem {H : Type} {P : Program} {e : TypeId} : ∀ {ds : List (DataW H)} {d : DataW H} {x : Nat}, d ∈ ds → x ∈ d.weights P e → x ∈ DataW.weightsAll P e ds
  | [], d, x, h, _ => by cases h
  | d0 :: ds, d, x, h, hx => by
    unfold DataW.weightsAll
    rcases List.mem_cons.1 h with rfl | h
    · exact List.mem_append_left _ hx
    · exact List.mem_append_right _ (weights_mem h hx)
set_option maxRecDepth 100000 in
/-- A [][]byte that came in: it reads as lists. -/
theorem rds_openW {H : Type} {enc : TypeId × Value → H} {W : World} {base : Nat} {v : Value} {d : DataW H} {p : List MemPlace} (hv : Value.okWide Try.prog W .any base 22 v)
    (h : DataW.Trod enc Try.prog W 0 (fun _ => true) true 22 v d p) : ∃ A n c ll, v = .slice A n c ∧ RdS W W.heap.size A n ll ∧ n ≤ c ∧ c ≤ maxLen ∧ (ll.map fun x => x.length + 1).sum + 1 ≤ Rows.uptoBulk d ∧ ∀ R, (∀ x ∈ d.weights Try.prog 22, x ≤ R) → ∀ l ∈ ll, l.length ≤ R := by
  obtain ⟨a0, len, cap, rfl⟩ := okWide_slice Try.underlying22 hv
  have hlt : ∀ x ∈ p, x.block < W.heap.size := by obtain ⟨m, hm⟩ := h; exact DataW.trod_lt m _ _ _ hm
  obtain ⟨fuel, hf⟩ := h
  rcases DataW.trod_slice Try.underlying22 hf with ⟨hcs, hx⟩ | ⟨x, l, c, elems, rest, m, _, hcs, hx, _, hl, hm, hlen, hel, _⟩
  · simp [Value.cells] at hcs
    obtain ⟨rfl, rfl, rfl⟩ := hcs
    simp only [Prod.mk.injEq] at hx
    obtain ⟨rfl, rfl⟩ := hx
    exact ⟨none, 0, 0, [], rfl, RdS.nil_, Nat.le_refl _, Nat.zero_le _, Nat.le_refl _, fun _ _ l hl => by cases hl⟩
  · simp [Value.cells] at hcs
    obtain ⟨rfl, rfl, rfl⟩ := hcs
    simp only [Prod.mk.injEq] at hx
    obtain ⟨rfl, rfl⟩ := hx
    have hc1 : Program.cellsOf Try.prog 23 = 1 := by kernel_rfl
    have each : ∀ i, i < len → ∃ (v : Value) (l : List UInt8), W.cell? (x.add i) = some v ∧ (∃ A n c, v = .slice A n c ∧ n ≤ c ∧ Rd W W.heap.size A n l) ∧ ∀ y, elems[i]? = some y → l.length + 1 ≤ Rows.uptoBulk y.1 ∧ ∀ R, (∀ x ∈ y.1.weights Try.prog 23, x ≤ R) → l.length ≤ R := by
      intro i hi
      have hE := hel i hi
      rw [hc1, Nat.mul_one, List.getElem?_eq_getElem (by omega), Option.bind_eq_some_iff] at hE
      obtain ⟨cs, hcs, hy⟩ := hE
      obtain ⟨A, n, c, l, rfl, hr, hn, _, hb, hb2⟩ := rd_trod hy (fun q hq => hlt q (List.mem_append_right _ (List.mem_flatMap.2 ⟨elems[i]'(by omega), List.mem_append_left _ (List.getElem_mem _), hq⟩)))
      refine ⟨_, l, cell_of_cells?_one hcs, ⟨A, n, c, rfl, hn, hr⟩, fun y hy2 => ?_⟩
      rw [List.getElem?_eq_getElem (by omega)] at hy2
      injection hy2 with hy2
      subst hy2
      exact ⟨hb, hb2⟩
    obtain ⟨vs, ll, hvs, hll, hall⟩ := gather len each
    refine ⟨some x, len, cap, ll, rfl, ⟨vs, ⟨by omega, fun hn => ?_⟩, by omega, fun k v l h1 h2 => ?_⟩, hl, hm, ?_, ?_⟩
    · obtain ⟨b, off, spot⟩ := x
      obtain ⟨v0, l0, h0, _⟩ := each 0 (by omega)
      have hspot : spot = none := by simpa [Addr.add] using World.cell?_spot h0
      subst hspot
      have hbW : b < W.heap.size := hlt (.cell b off) (List.mem_append_left _ (MemPlace.mem_row.2 ⟨0, by rw [hc1]; omega, by simp⟩))
      refine ⟨b, off, rfl, hbW, fun j u hu => ?_⟩
      have hj := (List.getElem?_eq_some_iff.1 hu).1
      have hl2 : ll[j]? = some (ll[j]'(by omega)) := List.getElem?_eq_getElem (by omega)
      have := (hall j u _ hu hl2).1
      rw [Addr.add_lit] at this
      exact this
    · obtain ⟨_, ⟨A, n, c, h3, h4, h5⟩, _⟩ := hall k v l h1 h2
      exact ⟨A, n, c, h3, h4, h5⟩
    · have := bulk_sum ll (elems.map (·.1)) (by simp [hll, hlen]) (fun i l d h1 h2 => by
        rw [List.getElem?_map] at h2
        obtain ⟨y, hy, rfl⟩ := Option.map_eq_some_iff.1 h2
        have hi := (List.getElem?_eq_some_iff.1 h1).1
        exact ((hall i (vs[i]'(by omega)) l (List.getElem?_eq_getElem (by omega)) h1).2.2 y hy).1)
      show _ ≤ Rows.uptoBulkAll (elems.map (·.1)) + Rows.uptoBulkAll (rest.map (·.1)) + 1
      omega
    · intro R hR l hl
      obtain ⟨i, hi⟩ := List.getElem?_of_mem hl
      have hil := (List.getElem?_eq_some_iff.1 hi).1
      have hie : elems[i]? = some (elems[i]'(by omega)) := List.getElem?_eq_getElem (by omega)
      refine ((hall i (vs[i]'(by omega)) l (List.getElem?_eq_getElem (by omega)) hi).2.2 _ hie).2 R fun x hx => hR x ?_
      unfold DataW.weights
      rw [Try.underlying22]
      refine List.mem_cons_of_mem _ (List.mem_append_left _ ?_)
      exact weights_mem (List.mem_map_of_mem (List.mem_of_getElem? hie)) hx
set_option maxRecDepth 100000 in
/-- The same without weights. -/
theorem rds_open {H : Type} {enc : TypeId × Value → H} {W : World} {base : Nat} {v : Value} {d : DataW H} {p : List MemPlace} (hv : Value.okWide Try.prog W .any base 22 v)
    (h : DataW.Trod enc Try.prog W 0 (fun _ => true) true 22 v d p) : ∃ A n c ll, v = .slice A n c ∧ RdS W W.heap.size A n ll ∧ n ≤ c ∧ c ≤ maxLen ∧ (ll.map fun x => x.length + 1).sum + 1 ≤ Rows.uptoBulk d := by
  obtain ⟨A, n, c, ll, h1, h2, h3, h4, h5, _⟩ := rds_openW hv h
  exact ⟨A, n, c, ll, h1, h2, h3, h4, h5⟩
end Go.Proofs.Ytliccofjlheceaa
