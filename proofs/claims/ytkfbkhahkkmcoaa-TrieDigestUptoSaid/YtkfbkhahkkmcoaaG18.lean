/- Reference 08: the walks of Put and Drop. Tries without stubs, plainly. -/
import Derived.Test.YtkfbkhahkkmcoaaG17
import Derived.Test.YtkfbkhahkkmcoaaG13
namespace Go.Proofs.Ytkfbkhahkkmcoaa
open Go.RowKit
theorem is_r8put : isFn Try.prog 46 = true := by kernel_rfl
theorem is_r8drop : isFn Try.prog 48 = true := by kernel_rfl
def keepI (q : List UInt8) (x : It) : Bool := x.stub || !decide (x.path = q)
def rPut (N : Nat) (t : Nd) (key val : List UInt8) : Nd × Option (List UInt8) × Int :=
  if tri t key.length val.length then (match stubL (itemsP t [] true) (ofB key) with
    | some r => (noneN, some r, 80)
    | none => ((buildA N (⟨ofB key, val, false, false, []⟩ :: (itemsP t [] true).filter (keepI (ofB key))) 0).1, none, 0))
  else (noneN, none, 2)
def rDrop (N : Nat) (t : Nd) (key : List UInt8) : DropR :=
  if (rGet t key).e = 0 then (if (rGet t key).has then (match (buildA N ((itemsP t [] true).filter (keepI (ofB key))) 0).2 with
    | some r => ⟨noneN, false, some r, 80⟩
    | none => ⟨(buildA N ((itemsP t [] true).filter (keepI (ofB key))) 0).1, true, none, 0⟩) else ⟨t, false, none, 0⟩)
  else ⟨noneN, false, (rGet t key).miss, (rGet t key).e⟩
theorem itBig_cons {x : It} {l : List It} (h : itBig l) (hl : l.length ≤ 9999999) (h1 : x.path.length ≤ 100000000) (h2 : x.val.length ≤ 100000000) (h3 : x.hash.length ≤ 100000000) : itBig (x :: l) :=
  ⟨by rw [List.length_cons]; omega, fun y hy => by
    rcases List.mem_cons.1 hy with rfl | hy
    · exact ⟨h1, h2, h3⟩
    · exact h.2 y hy⟩
theorem itBig_filter {l : List It} (p : It → Bool) (h : itBig l) : itBig (l.filter p) :=
  ⟨Nat.le_trans (List.length_filter_le _ _) h.1, fun y hy => h.2 y (List.mem_filter.1 hy).1⟩
set_option maxRecDepth 100000 in
set_option maxHeartbeats 2000000 in
theorem r8put_any (N : Nat) (t : Nd) (ht : sz t ≤ 1000000) (key val : List UInt8) (hN : sz t + 401 ≤ N) (gs : List (Option Nat)) (w : World) (cs : List Value) (A1 A2 : Option Addr) (n c m d : Nat) (hr : RdL w (Fd w gs) (dN t) cs) (hk : RdD w (Fd w gs) (dB key) (.slice A1 n c)) (hv : RdD w (Fd w gs) (dB val) (.slice A2 m d)) (hgs : ∀ b, some b ∈ gs → b < w.heap.size) :
    Calls Try.prog 46 #[.agg cs.toArray, .slice A1 n c, .slice A2 m d] w fun e w' => ∃ cs' Am nm cm, e = .returned (.tuple #[.agg cs'.toArray, .slice Am nm cm, .int .i64 (rPut N t key val).2.2]) ∧ RdL w' (Fd w' gs) (dN (rPut N t key val).1) cs' ∧ RdD w' (Fd w' gs) (dB ((rPut N t key val).2.1.getD [])) (.slice Am nm cm) ∧ Below w.heap.size w w' := by
  refine calls_ev (args := [.agg cs.toArray, .slice A1 n c, .slice A2 m d]) mixed Try.func46 rfl (by kernel_rfl) ?_
  have hl := hr.len
  rw [dN_len] at hl
  have en := hk.slen
  have em := hv.slen
  subst en; subst em
  have M := (((St.start hgs).addD hv).addD hk).addL hr
  refine s_box (cs) M rfl ?_
  clear M
  rintro g3 W M
  refine s_alloc (zN) M al_nd ?_
  clear M
  rintro g6 W M
  refine v_loadN cs agg_nd rfl hl (M.run 1 rfl) ?_
  refine cc is_r8right (r8right_any t (by omega) _ _ cs A1 A2 _ c _ d (by first | with_reducible exact M.da_0 | with_reducible exact M.da_1 | with_reducible exact M.da_2 | with_reducible exact M.da_3 | with_reducible exact M.da_4 | with_reducible exact M.da_5 | with_reducible exact M.da_6 | with_reducible exact M.da_7 | with_reducible exact M.da_8 | with_reducible exact M.da_9 | with_reducible exact M.da_10 | with_reducible exact M.da_11) M.olt) ?_
  rintro e W ⟨rfl, hb⟩
  refine ⟨_, rfl, ?_⟩
  replace M := M.call hb
  refine p_not rfl ?_
  unfold rPut
  cases htri : tri t key.length val.length with
  | false =>
    refine p_build (vs := zN) pl_nd z_nd rfl ?_
    first | refine s_storeA 0 (zN) M rfl (by kernel_rfl) rfl rfl rfl (all1 rfl) rfl ?_ | refine s_storeA 1 (zN) M rfl (by kernel_rfl) rfl rfl rfl (all1 rfl) rfl ?_ | refine s_storeA 2 (zN) M rfl (by kernel_rfl) rfl rfl rfl (all1 rfl) rfl ?_ | refine s_storeA 3 (zN) M rfl (by kernel_rfl) rfl rfl rfl (all1 rfl) rfl ?_
    clear M
    rintro W M
    dsimp only [setL] at M
    refine c_loadN (zN) agg_nd rfl rfl (by first | exact M.run 0 rfl | exact M.run 1 rfl | exact M.run 2 rfl | exact M.run 3 rfl | exact M.run 4 rfl | exact M.lc 0 rfl | exact M.lc 1 rfl | exact M.lc 2 rfl | exact M.lc 3 rfl | exact M.lc 4 rfl | exact M.lc 5 rfl | exact M.lc 6 rfl | exact M.lc 7 rfl) ?_
    exact ⟨zN, none, 0, 0, rfl, RdL.znone, RdD.nil_ _ _, M.below⟩
  | true =>
  rw [if_pos rfl]
  have hkl : key.length ≤ 200 ∧ val.length ≤ 4000 := by
    unfold tri at htri
    simp only [Bool.and_eq_true, decide_eq_true_eq] at htri
    exact htri.2
  refine cc is_rof (rof_any A1 _ c key _ (M.rdb 1 rfl).2.2 (by omega)) ?_
  rintro e W ⟨A5, c5, rfl, o5, hb⟩
  replace M := M.callO hb o5
  refine ⟨_, rfl, ?_⟩
  refine v_loadN cs agg_nd rfl hl (M.run 1 rfl) ?_
  refine cc is_items (items_any (sz t + 1) t (by omega) _ _ cs [] none 0 0 true (by first | with_reducible exact M.da_0 | with_reducible exact M.da_1 | with_reducible exact M.da_2 | with_reducible exact M.da_3 | with_reducible exact M.da_4 | with_reducible exact M.da_5 | with_reducible exact M.da_6 | with_reducible exact M.da_7 | with_reducible exact M.da_8 | with_reducible exact M.da_9 | with_reducible exact M.da_10 | with_reducible exact M.da_11) (RdD.nil_ _ _) M.olt (by omega)) ?_
  rintro e W ⟨A1, n1, c1, rfl, h1, hb⟩
  refine ⟨_, rfl, ?_⟩
  replace M := (M.call hb).addD h1
  have en1 := h1.slen
  obtain ⟨l, hlI⟩ : ∃ l, l = itemsP t [] true := ⟨_, rfl⟩
  have hbig := items_itBig (t := t) (by omega) true
  have hlen := itemsP_len t [] true
  have hpl := itemsP_big t [] true
  rw [← hlI] at M en1 hbig hlen hpl ⊢
  clear h1 o5
  refine cc is_r8stub (r8stub_any l (ofB key) _ _ _ _ _ _ _ _ (by first | with_reducible exact M.d1_0 | with_reducible exact M.d1_1 | with_reducible exact M.d1_2 | with_reducible exact M.d1_3 | with_reducible exact M.d1_4 | with_reducible exact M.d1_5 | with_reducible exact M.d1_6 | with_reducible exact M.d1_7 | with_reducible exact M.d1_8 | with_reducible exact M.d1_9 | with_reducible exact M.d1_10 | with_reducible exact M.d1_11) (by first | with_reducible exact M.d1_0 | with_reducible exact M.d1_1 | with_reducible exact M.d1_2 | with_reducible exact M.d1_3 | with_reducible exact M.d1_4 | with_reducible exact M.d1_5 | with_reducible exact M.d1_6 | with_reducible exact M.d1_7 | with_reducible exact M.d1_8 | with_reducible exact M.d1_9 | with_reducible exact M.d1_10 | with_reducible exact M.d1_11) M.olt hbig (by omega)) ?_
  rintro e W ⟨A6, n6, c6, rfl, h6, hb⟩
  replace M := (M.call hb).addD h6
  refine ⟨_, rfl, ?_⟩
  clear h6
  cases hsl : stubL l (ofB key) with
  | some r =>
    rw [hsl] at M
    refine p_build (vs := zN) pl_nd z_nd rfl ?_
    first | refine s_storeA 0 (zN) M rfl (by kernel_rfl) rfl rfl rfl (all1 rfl) rfl ?_ | refine s_storeA 1 (zN) M rfl (by kernel_rfl) rfl rfl rfl (all1 rfl) rfl ?_ | refine s_storeA 2 (zN) M rfl (by kernel_rfl) rfl rfl rfl (all1 rfl) rfl ?_ | refine s_storeA 3 (zN) M rfl (by kernel_rfl) rfl rfl rfl (all1 rfl) rfl ?_
    clear M
    rintro W M
    dsimp only [setL] at M
    refine c_loadN (zN) agg_nd rfl rfl (by first | exact M.run 0 rfl | exact M.run 1 rfl | exact M.run 2 rfl | exact M.run 3 rfl | exact M.run 4 rfl | exact M.lc 0 rfl | exact M.lc 1 rfl | exact M.lc 2 rfl | exact M.lc 3 rfl | exact M.lc 4 rfl | exact M.lc 5 rfl | exact M.lc 6 rfl | exact M.lc 7 rfl) ?_
    exact ⟨zN, A6, n6, c6, rfl, RdL.znone, M.fin1 0 rfl, M.below⟩
  | none =>
    obtain ⟨hb1, hb2⟩ := id hbig
    obtain ⟨H, hH⟩ : ∃ H, H = 2 * key.length := ⟨_, rfl⟩
    rw [← hH] at M ⊢
    have hal : (ofB key).length = H := by rw [ofB_length]; omega
    have hI := RdL.cons (M.w1_2) (RdL.cons (M.w1_5) (RdL.cons (RdD.ofv (.bool false)) (RdL.cons (RdD.ofv (.bool false)) (RdL.cons (d := dB []) (RdD.nil_ none 0) RdL.nil_))))
    refine p_build (vs := [.slice A5 H c5, .slice A2 val.length d, .bool false, .bool false, .slice none 0 0]) pl_it z_it rfl ?_
    refine s_bsliceR [.slice A5 H c5, .slice A2 val.length d, .bool false, .bool false, .slice none 0 0] (M.addT hI) sli z_it rfl (by decide) rfl rfl (by decide) ?_
    clear M hI; rintro g9 W M
    obtain ⟨pre, hpre⟩ : ∃ pre : List It, pre = [⟨ofB key, val, false, false, []⟩] := ⟨_, rfl⟩
    have hprel : pre.length = 1 := by rw [hpre]; rfl
    have hpred : [dB (ofB key), dB val, .v (.bool false), .v (.bool false), dB []] = dIs pre := by rw [hpre]; unfold dIs; simp [dI]
    rw [hpred] at M
    replace M : St w gs W [(g6, 25, zN), (g3, 25, cs)] [⟨90, 5, some ⟨g9, 0, none⟩, 1, 1, [.slice A5 H c5, .slice A2 val.length d, .bool false, .bool false, .slice none 0 0]⟩] [.dat false (dIs (pre ++ (l.take 0).filter (keepI (ofB key)))) [.slice A5 H c5, .slice A2 val.length d, .bool false, .bool false, .slice none 0 0], .dat false [dIl l] [.slice A1 n1 c1], .dat true [dB (ofB key)] [.slice A5 H c5]] := by
      rw [List.take_zero, List.filter_nil, List.append_nil]
      exact M.fsub _ (by simp)
    have hn9 : 1 = (pre ++ (l.take 0).filter (keepI (ofB key))).length := by rw [List.take_zero, List.filter_nil, List.append_nil, hprel]
    refine lp (Nat × Option Addr × Nat × Nat × List Value) (fun s W => s.1 ≤ n1 ∧ St w gs W [(g6, 25, zN), (g3, 25, cs)] [⟨90, 5, s.2.1, s.2.2.1, s.2.2.2.1, s.2.2.2.2⟩] [.dat false (dIs (pre ++ (l.take s.1).filter (keepI (ofB key)))) s.2.2.2.2, .dat false [dIl l] [.slice A1 n1 c1], .dat true [dB (ofB key)] [.slice A5 H c5]] ∧ s.2.2.1 = (pre ++ (l.take s.1).filter (keepI (ofB key))).length)
      (fun s => [(3, .pointer (some ⟨g3, 0, none⟩)), (6, .pointer (some ⟨g6, 0, none⟩)), (9, .slice A5 H c5), (10, .slice A1 n1 c1), (13, .slice s.2.1 s.2.2.1 s.2.2.2.1), (14, .int .i64 s.1)]) (fun s => n1 - s.1) (0, some ⟨g9, 0, none⟩, 1, 1, [.slice A5 H c5, .slice A2 val.length d, .bool false, .bool false, .slice none 0 0]) ⟨Nat.zero_le _, M, hn9⟩ (by repeat (first | exact trivial | refine ⟨rfl, ?_⟩)) ?_
    clear M hn9
    rintro ⟨i, A7, n7, c7, xs7⟩ E5 W5 ⟨hi, M, hn7⟩
    dsimp only at hi M hn7
    refine p_len sli rfl ?_
    refine p_lt rfl rfl (fun hlt => ?_) (fun hge => ?_)
    · dsimp only at hlt
      obtain ⟨x, hxi⟩ : ∃ x, l[i]? = some x := ⟨_, List.getElem?_eq_getElem (by omega)⟩
      have hbx := hb2 x (List.mem_of_getElem? hxi)
      have hft := filter_take (p := keepI (ofB key)) hxi
      have hfl : (pre ++ (l.take i).filter (keepI (ofB key))).length ≤ 10000001 := by
        rw [List.length_append]
        have := List.length_filter_le (keepI (ofB key)) (l.take i)
        rw [List.length_take] at this
        omega
      obtain ⟨b, off, Ap, cp, Av, cv, Ah, ch, rfl, M'⟩ := M.item (i := i) (M.d1 1 rfl) hxi
      replace M := M'; clear M'
      refine p_at sli rfl rfl rfl (by omega) ?_
      refine p_fld fI2 rfl ?_
      refine v_load agg_bo rfl (by first | exact (M.B 0 rfl).at_ rfl | exact (M.B 1 rfl).at_ rfl | exact (M.B 2 rfl).at_ rfl | exact (M.B 3 rfl).at_ rfl | exact (M.B 4 rfl).at_ rfl | exact M.lc 0 rfl _ _ rfl | exact M.lc 1 rfl _ _ rfl | exact M.lc 2 rfl _ _ rfl | exact M.lc 3 rfl _ _ rfl | exact M.lc 4 rfl _ _ rfl | exact M.lc 5 rfl _ _ rfl | exact M.lc 6 rfl _ _ rfl | exact M.lc 7 rfl _ _ rfl) ?_
      cases hst : x.stub with
      | true =>
        rw [if_pos (by unfold keepI; rw [hst]; rfl)] at hft
        refine p_at sli rfl rfl rfl (by omega) ?_
        refine v_loadN (ics x Ap cp Av cv Ah ch) agg_it rfl rfl (by first | exact M.run 0 rfl | exact M.run 1 rfl | exact M.run 2 rfl | exact M.run 3 rfl | exact M.run 4 rfl | exact M.lc 0 rfl | exact M.lc 1 rfl | exact M.lc 2 rfl | exact M.lc 3 rfl | exact M.lc 4 rfl | exact M.lc 5 rfl | exact M.lc 6 rfl | exact M.lc 7 rfl) ?_
        refine s_bsliceB (ics x Ap cp Av cv Ah ch) M sli z_it rfl (by decide) rfl ?_
        clear M; rintro g19 W M
        refine s_app M Try.underlying87 itinfo rfl (by decide) rfl rfl (Reads.blk (M.B 0 rfl) rfl) (all1 rfl) ⟨by omega, by decide⟩ ?_
        clear M; rintro A10 c10 W M -
        have hX := (M.dw 5 rfl).app (M.dw 1 rfl)
        rw [show dI x = dIs [x] by unfold dIs; simp, ← dIs_app, List.append_assoc, ← hft] at hX
        refine p_addN (b := 1) rfl rfl (by omega) ?_
        exact ⟨(i + 1, A10, n7 + 1, c10, xs7 ++ ics x Ap cp Av cv Ah ch), ⟨by dsimp only; omega, (M.addT hX).dropL.fsub _ (by simp), by dsimp only; rw [hft, ← List.append_assoc, List.length_append, ← hn7]; rfl⟩, (by repeat (first | exact trivial | refine ⟨rfl, ?_⟩)), by dsimp only; omega⟩
      | false =>
        refine p_at sli rfl rfl rfl (by omega) ?_
        refine p_fld fI0 rfl ?_
        refine v_load agg_b rfl (by first | exact (M.B 0 rfl).at_ rfl | exact (M.B 1 rfl).at_ rfl | exact (M.B 2 rfl).at_ rfl | exact (M.B 3 rfl).at_ rfl | exact (M.B 4 rfl).at_ rfl | exact M.lc 0 rfl _ _ rfl | exact M.lc 1 rfl _ _ rfl | exact M.lc 2 rfl _ _ rfl | exact M.lc 3 rfl _ _ rfl | exact M.lc 4 rfl _ _ rfl | exact M.lc 5 rfl _ _ rfl | exact M.lc 6 rfl _ _ rfl | exact M.lc 7 rfl _ _ rfl) ?_
        obtain ⟨q, hq, hc⟩ := same_tf (c1 := cp) (c2 := c5) (M.rdb 2 rfl).2.2 (M.rdb 7 rfl).2.2
        cases q with
        | false =>
          refine cc is_same0 hc ?_
          rintro e W' ⟨rfl, rfl⟩
          refine ⟨_, rfl, ?_⟩
          refine p_not rfl ?_
          have hne : ¬ x.path = ofB key := fun h => absurd (hq.2 h) (by decide)
          clear hq hc
          rw [if_pos (by unfold keepI; rw [decide_eq_false hne]; simp)] at hft
          refine p_at sli rfl rfl rfl (by omega) ?_
          refine v_loadN (ics x Ap cp Av cv Ah ch) agg_it rfl rfl (by first | exact M.run 0 rfl | exact M.run 1 rfl | exact M.run 2 rfl | exact M.run 3 rfl | exact M.run 4 rfl | exact M.lc 0 rfl | exact M.lc 1 rfl | exact M.lc 2 rfl | exact M.lc 3 rfl | exact M.lc 4 rfl | exact M.lc 5 rfl | exact M.lc 6 rfl | exact M.lc 7 rfl) ?_
          refine s_bsliceB (ics x Ap cp Av cv Ah ch) M sli z_it rfl (by decide) rfl ?_
          clear M; rintro g19 W M
          refine s_app M Try.underlying87 itinfo rfl (by decide) rfl rfl (Reads.blk (M.B 0 rfl) rfl) (all1 rfl) ⟨by omega, by decide⟩ ?_
          clear M; rintro A10 c10 W M -
          have hX := (M.dw 5 rfl).app (M.dw 1 rfl)
          rw [show dI x = dIs [x] by unfold dIs; simp, ← dIs_app, List.append_assoc, ← hft] at hX
          refine p_addN (b := 1) rfl rfl (by omega) ?_
          exact ⟨(i + 1, A10, n7 + 1, c10, xs7 ++ ics x Ap cp Av cv Ah ch), ⟨by dsimp only; omega, (M.addT hX).dropL.fsub _ (by simp), by dsimp only; rw [hft, ← List.append_assoc, List.length_append, ← hn7]; rfl⟩, (by repeat (first | exact trivial | refine ⟨rfl, ?_⟩)), by dsimp only; omega⟩
        | true =>
          refine cc is_same0 hc ?_
          rintro e W' ⟨rfl, rfl⟩
          refine ⟨_, rfl, ?_⟩
          refine p_not rfl ?_
          rw [if_neg (by unfold keepI; rw [hst, decide_eq_true (hq.1 rfl)]; simp), List.append_nil] at hft
          refine p_addN (b := 1) rfl rfl (by omega) ?_
          exact ⟨(i + 1, A7, n7, c7, xs7), ⟨by dsimp only; omega, by dsimp only; rw [hft]; exact M.fsub _ (by simp), by dsimp only; rw [hft]; exact hn7⟩, (by repeat (first | exact trivial | refine ⟨rfl, ?_⟩)), by dsimp only; omega⟩
    · dsimp only at hge
      rw [List.take_of_length_le (by omega)] at M hn7
      subst hn7
      have hat : ∀ y ∈ pre ++ l.filter (keepI (ofB key)), 0 ≤ y.path.length ∧ y.path.length < 0 + N := fun y hy => by
        refine ⟨Nat.zero_le _, ?_⟩
        rcases List.mem_append.1 hy with hy | hy
        · rw [hpre, List.mem_singleton] at hy
          rw [hy]; simp only; omega
        · have := hpl y (List.mem_filter.1 hy).1
          simp only [List.length_nil] at this
          omega
      have hbigp : itBig (pre ++ l.filter (keepI (ofB key))) := by
        rw [hpre]
        refine itBig_cons (itBig_filter _ hbig) ?_ (by simp only; omega) (by simp only; omega) (by simp)
        have := List.length_filter_le (keepI (ofB key)) l
        show (l.filter (keepI (ofB key))).length ≤ 9999999
        omega
      replace M := M.frzR (fr := false) (M.dt 0 rfl)
      refine cc is_build (build_any N (pre ++ l.filter (keepI (ofB key))) 0 _ _ _ _ c7 (M.d1 0 rfl) M.olt hat hbigp) ?_
      rintro e W ⟨cs5, Am, nm, cm, rfl, hres, hm5, hbel⟩
      replace M := ((M.call hbel).addD hm5).addL hres
      have hl5 := hres.len
      rw [dN_len] at hl5
      have hones := hres.ones (dN_one _)
      clear hbel hm5 hres
      refine ⟨_, rfl, ?_⟩
      refine s_alloc (zN) M al_nd ?_
      clear M
      rintro g15 W M
      refine s_storeA 0 cs5 M rfl sz_nd rfl rfl hl5 hones rfl ?_
      clear M; rintro W M
      dsimp only [setL] at M
      refine v_loadN cs5 agg_nd rfl hl5 (M.run 0 rfl) ?_
      refine s_storeA 1 cs5 M rfl sz_nd rfl rfl hl5 hones rfl ?_
      clear M; rintro W M
      dsimp only [setL] at M
      refine c_loadN cs5 agg_nd rfl hl5 (M.run 1 rfl) ?_
      have e : (⟨ofB key, val, false, false, []⟩ :: l.filter (keepI (ofB key)) : List It) = pre ++ l.filter (keepI (ofB key)) := by rw [hpre]; rfl
      rw [e]
      exact ⟨cs5, none, 0, 0, rfl, M.fin 0 rfl, RdD.nil_ _ _, M.below⟩
set_option maxRecDepth 100000 in
set_option maxHeartbeats 2000000 in
theorem r8drop_any (N : Nat) (t : Nd) (ht : sz t ≤ 1000000) (key : List UInt8) (hN : sz t + 401 ≤ N) (gs : List (Option Nat)) (w : World) (cs : List Value) (A1 : Option Addr) (n c : Nat) (hr : RdL w (Fd w gs) (dN t) cs) (hk : RdD w (Fd w gs) (dB key) (.slice A1 n c)) (hgs : ∀ b, some b ∈ gs → b < w.heap.size) :
    Calls Try.prog 48 #[.agg cs.toArray, .slice A1 n c] w fun e w' => ∃ cs' Am nm cm, e = .returned (.tuple #[.agg cs'.toArray, .bool (rDrop N t key).has, .slice Am nm cm, .int .i64 (rDrop N t key).e]) ∧ RdL w' (Fd w' gs) (dN (rDrop N t key).t) cs' ∧ RdD w' (Fd w' gs) (dB ((rDrop N t key).miss.getD [])) (.slice Am nm cm) ∧ Below w.heap.size w w' := by
  refine calls_ev (args := [.agg cs.toArray, .slice A1 n c]) mixed Try.func48 rfl (by kernel_rfl) ?_
  have hl := hr.len
  rw [dN_len] at hl
  have en := hk.slen
  subst en
  have M := ((St.start hgs).addD hk).addL hr
  refine s_box (cs) M rfl ?_
  clear M
  rintro g2 W M
  refine s_alloc (zN) M al_nd ?_
  clear M
  rintro g4 W M
  refine v_loadN cs agg_nd rfl hl (M.run 1 rfl) ?_
  refine cc is_r8get (r8get_any t (by omega) key _ _ cs A1 _ c (by first | with_reducible exact M.da_0 | with_reducible exact M.da_1 | with_reducible exact M.da_2 | with_reducible exact M.da_3 | with_reducible exact M.da_4 | with_reducible exact M.da_5 | with_reducible exact M.da_6 | with_reducible exact M.da_7 | with_reducible exact M.da_8 | with_reducible exact M.da_9 | with_reducible exact M.da_10 | with_reducible exact M.da_11) (by first | with_reducible exact M.d1_0 | with_reducible exact M.d1_1 | with_reducible exact M.d1_2 | with_reducible exact M.d1_3 | with_reducible exact M.d1_4 | with_reducible exact M.d1_5 | with_reducible exact M.d1_6 | with_reducible exact M.d1_7 | with_reducible exact M.d1_8 | with_reducible exact M.d1_9 | with_reducible exact M.d1_10 | with_reducible exact M.d1_11) M.olt) ?_
  rintro e W3 ⟨A', n', c', Am, nm, cm, rfl, -, hm, hb⟩
  refine ⟨_, rfl, ?_⟩
  replace M := (M.call hb).addD hm
  unfold rDrop
  refine p_ne rfl rfl (fun he => ?_) (fun he => ?_)
  · rw [if_pos he]
    have hkl : key.length ≤ 200 := by
      unfold rGet at he
      cases htri : tri t key.length 0 with
      | false => rw [htri] at he; exact absurd (show (2 : Int) = 0 from he) (by decide)
      | true =>
        unfold tri at htri
        simp only [Bool.and_eq_true, decide_eq_true_eq] at htri
        exact htri.2.1
    refine p_not rfl ?_
    cases hh : (rGet t key).has with
    | false =>
      rw [if_neg (by simp)]
      refine v_loadN cs agg_nd rfl hl (M.run 1 rfl) ?_
      refine s_storeA 0 cs M rfl sz_nd rfl rfl hl ((M.da 1 rfl).ones (dN_one _)) rfl ?_
      clear M; rintro W M
      dsimp only [setL] at M
      refine c_loadN cs agg_nd rfl hl (M.run 0 rfl) ?_
      exact ⟨cs, none, 0, 0, rfl, M.fin 1 rfl, RdD.nil_ _ _, M.below⟩
    | true =>
      rw [if_pos rfl]
      refine cc is_rof (rof_any A1 _ c key _ (M.rdb 2 rfl).2.2 (by omega)) ?_
      rintro e W ⟨A5, c5, rfl, o5, hb⟩
      replace M := M.callO hb o5
      refine ⟨_, rfl, ?_⟩
      refine v_loadN cs agg_nd rfl hl (M.run 1 rfl) ?_
      refine cc is_items (items_any (sz t + 1) t (by omega) _ _ cs [] none 0 0 true (by first | with_reducible exact M.da_0 | with_reducible exact M.da_1 | with_reducible exact M.da_2 | with_reducible exact M.da_3 | with_reducible exact M.da_4 | with_reducible exact M.da_5 | with_reducible exact M.da_6 | with_reducible exact M.da_7 | with_reducible exact M.da_8 | with_reducible exact M.da_9 | with_reducible exact M.da_10 | with_reducible exact M.da_11) (RdD.nil_ _ _) M.olt (by omega)) ?_
      rintro e W ⟨A1, n1, c1, rfl, h1, hb⟩
      refine ⟨_, rfl, ?_⟩
      replace M := (M.call hb).addD h1
      have en1 := h1.slen
      obtain ⟨l, hlI⟩ : ∃ l, l = itemsP t [] true := ⟨_, rfl⟩
      have hbig := items_itBig (t := t) (by omega) true
      have hlen := itemsP_len t [] true
      have hpl := itemsP_big t [] true
      rw [← hlI] at M en1 hbig hlen hpl ⊢
      clear h1 o5
      obtain ⟨hb1, hb2⟩ := id hbig
      obtain ⟨H, hH⟩ : ∃ H, H = 2 * key.length := ⟨_, rfl⟩
      rw [← hH] at M ⊢
      have hal : (ofB key).length = H := by rw [ofB_length]; omega
      obtain ⟨pre, hpre⟩ : ∃ pre : List It, pre = [] := ⟨_, rfl⟩
      have hprel : pre.length = 0 := by rw [hpre]; rfl
      replace M := (M.nilR 90 5).addT (fr := false) (ds := dIs []) (cs := []) RdL.nil_
      replace M := M.fsub [.dat false (dIs []) [], .dat false [dIl l] [.slice A1 n1 c1], .dat true [dB (ofB key)] [.slice A5 H c5]] (by simp)
      replace M : St w gs W [(g4, 25, zN), (g2, 25, cs)] [⟨90, 5, none, 0, 0, []⟩] [.dat false (dIs (pre ++ (l.take 0).filter (keepI (ofB key)))) [], .dat false [dIl l] [.slice A1 n1 c1], .dat true [dB (ofB key)] [.slice A5 H c5]] := by
        rw [List.take_zero, List.filter_nil, List.append_nil, hpre]
        exact M
      have hn9 : 0 = (pre ++ (l.take 0).filter (keepI (ofB key))).length := by rw [List.take_zero, List.filter_nil, List.append_nil, hprel]
      have e : l.filter (keepI (ofB key)) = pre ++ l.filter (keepI (ofB key)) := by rw [hpre]; rfl
      rw [e]
      clear e
      refine lp (Nat × Option Addr × Nat × Nat × List Value) (fun s W => s.1 ≤ n1 ∧ St w gs W [(g4, 25, zN), (g2, 25, cs)] [⟨90, 5, s.2.1, s.2.2.1, s.2.2.2.1, s.2.2.2.2⟩] [.dat false (dIs (pre ++ (l.take s.1).filter (keepI (ofB key)))) s.2.2.2.2, .dat false [dIl l] [.slice A1 n1 c1], .dat true [dB (ofB key)] [.slice A5 H c5]] ∧ s.2.2.1 = (pre ++ (l.take s.1).filter (keepI (ofB key))).length)
        (fun s => [(2, .pointer (some ⟨g2, 0, none⟩)), (4, .pointer (some ⟨g4, 0, none⟩)), (12, .slice A5 H c5), (13, .slice A1 n1 c1), (14, .slice s.2.1 s.2.2.1 s.2.2.2.1), (15, .int .i64 s.1)]) (fun s => n1 - s.1) (0, none, 0, 0, []) ⟨Nat.zero_le _, M, hn9⟩ (by repeat (first | exact trivial | refine ⟨rfl, ?_⟩)) ?_
      clear M hn9
      rintro ⟨i, A7, n7, c7, xs7⟩ E5 W5 ⟨hi, M, hn7⟩
      dsimp only at hi M hn7
      refine p_len sli rfl ?_
      refine p_lt rfl rfl (fun hlt => ?_) (fun hge => ?_)
      · dsimp only at hlt
        obtain ⟨x, hxi⟩ : ∃ x, l[i]? = some x := ⟨_, List.getElem?_eq_getElem (by omega)⟩
        have hbx := hb2 x (List.mem_of_getElem? hxi)
        have hft := filter_take (p := keepI (ofB key)) hxi
        have hfl : (pre ++ (l.take i).filter (keepI (ofB key))).length ≤ 10000001 := by
          rw [List.length_append]
          have := List.length_filter_le (keepI (ofB key)) (l.take i)
          rw [List.length_take] at this
          omega
        obtain ⟨b, off, Ap, cp, Av, cv, Ah, ch, rfl, M'⟩ := M.item (i := i) (M.d1 1 rfl) hxi
        replace M := M'; clear M'
        refine p_at sli rfl rfl rfl (by omega) ?_
        refine p_fld fI2 rfl ?_
        refine v_load agg_bo rfl (by first | exact (M.B 0 rfl).at_ rfl | exact (M.B 1 rfl).at_ rfl | exact (M.B 2 rfl).at_ rfl | exact (M.B 3 rfl).at_ rfl | exact (M.B 4 rfl).at_ rfl | exact M.lc 0 rfl _ _ rfl | exact M.lc 1 rfl _ _ rfl | exact M.lc 2 rfl _ _ rfl | exact M.lc 3 rfl _ _ rfl | exact M.lc 4 rfl _ _ rfl | exact M.lc 5 rfl _ _ rfl | exact M.lc 6 rfl _ _ rfl | exact M.lc 7 rfl _ _ rfl) ?_
        cases hst : x.stub with
        | true =>
          rw [if_pos (by unfold keepI; rw [hst]; rfl)] at hft
          refine p_at sli rfl rfl rfl (by omega) ?_
          refine v_loadN (ics x Ap cp Av cv Ah ch) agg_it rfl rfl (by first | exact M.run 0 rfl | exact M.run 1 rfl | exact M.run 2 rfl | exact M.run 3 rfl | exact M.run 4 rfl | exact M.lc 0 rfl | exact M.lc 1 rfl | exact M.lc 2 rfl | exact M.lc 3 rfl | exact M.lc 4 rfl | exact M.lc 5 rfl | exact M.lc 6 rfl | exact M.lc 7 rfl) ?_
          refine s_bsliceB (ics x Ap cp Av cv Ah ch) M sli z_it rfl (by decide) rfl ?_
          clear M; rintro g19 W M
          refine s_app M Try.underlying87 itinfo rfl (by decide) rfl rfl (Reads.blk (M.B 0 rfl) rfl) (all1 rfl) ⟨by omega, by decide⟩ ?_
          clear M; rintro A10 c10 W M -
          have hX := (M.dw 5 rfl).app (M.dw 1 rfl)
          rw [show dI x = dIs [x] by unfold dIs; simp, ← dIs_app, List.append_assoc, ← hft] at hX
          refine p_addN (b := 1) rfl rfl (by omega) ?_
          exact ⟨(i + 1, A10, n7 + 1, c10, xs7 ++ ics x Ap cp Av cv Ah ch), ⟨by dsimp only; omega, (M.addT hX).dropL.fsub _ (by simp), by dsimp only; rw [hft, ← List.append_assoc, List.length_append, ← hn7]; rfl⟩, (by repeat (first | exact trivial | refine ⟨rfl, ?_⟩)), by dsimp only; omega⟩
        | false =>
          refine p_at sli rfl rfl rfl (by omega) ?_
          refine p_fld fI0 rfl ?_
          refine v_load agg_b rfl (by first | exact (M.B 0 rfl).at_ rfl | exact (M.B 1 rfl).at_ rfl | exact (M.B 2 rfl).at_ rfl | exact (M.B 3 rfl).at_ rfl | exact (M.B 4 rfl).at_ rfl | exact M.lc 0 rfl _ _ rfl | exact M.lc 1 rfl _ _ rfl | exact M.lc 2 rfl _ _ rfl | exact M.lc 3 rfl _ _ rfl | exact M.lc 4 rfl _ _ rfl | exact M.lc 5 rfl _ _ rfl | exact M.lc 6 rfl _ _ rfl | exact M.lc 7 rfl _ _ rfl) ?_
          obtain ⟨q, hq, hc⟩ := same_tf (c1 := cp) (c2 := c5) (M.rdb 2 rfl).2.2 (M.rdb 7 rfl).2.2
          cases q with
          | false =>
            refine cc is_same0 hc ?_
            rintro e W' ⟨rfl, rfl⟩
            refine ⟨_, rfl, ?_⟩
            refine p_not rfl ?_
            have hne : ¬ x.path = ofB key := fun h => absurd (hq.2 h) (by decide)
            clear hq hc
            rw [if_pos (by unfold keepI; rw [decide_eq_false hne]; simp)] at hft
            refine p_at sli rfl rfl rfl (by omega) ?_
            refine v_loadN (ics x Ap cp Av cv Ah ch) agg_it rfl rfl (by first | exact M.run 0 rfl | exact M.run 1 rfl | exact M.run 2 rfl | exact M.run 3 rfl | exact M.run 4 rfl | exact M.lc 0 rfl | exact M.lc 1 rfl | exact M.lc 2 rfl | exact M.lc 3 rfl | exact M.lc 4 rfl | exact M.lc 5 rfl | exact M.lc 6 rfl | exact M.lc 7 rfl) ?_
            refine s_bsliceB (ics x Ap cp Av cv Ah ch) M sli z_it rfl (by decide) rfl ?_
            clear M; rintro g19 W M
            refine s_app M Try.underlying87 itinfo rfl (by decide) rfl rfl (Reads.blk (M.B 0 rfl) rfl) (all1 rfl) ⟨by omega, by decide⟩ ?_
            clear M; rintro A10 c10 W M -
            have hX := (M.dw 5 rfl).app (M.dw 1 rfl)
            rw [show dI x = dIs [x] by unfold dIs; simp, ← dIs_app, List.append_assoc, ← hft] at hX
            refine p_addN (b := 1) rfl rfl (by omega) ?_
            exact ⟨(i + 1, A10, n7 + 1, c10, xs7 ++ ics x Ap cp Av cv Ah ch), ⟨by dsimp only; omega, (M.addT hX).dropL.fsub _ (by simp), by dsimp only; rw [hft, ← List.append_assoc, List.length_append, ← hn7]; rfl⟩, (by repeat (first | exact trivial | refine ⟨rfl, ?_⟩)), by dsimp only; omega⟩
          | true =>
            refine cc is_same0 hc ?_
            rintro e W' ⟨rfl, rfl⟩
            refine ⟨_, rfl, ?_⟩
            refine p_not rfl ?_
            rw [if_neg (by unfold keepI; rw [hst, decide_eq_true (hq.1 rfl)]; simp), List.append_nil] at hft
            refine p_addN (b := 1) rfl rfl (by omega) ?_
            exact ⟨(i + 1, A7, n7, c7, xs7), ⟨by dsimp only; omega, by dsimp only; rw [hft]; exact M.fsub _ (by simp), by dsimp only; rw [hft]; exact hn7⟩, (by repeat (first | exact trivial | refine ⟨rfl, ?_⟩)), by dsimp only; omega⟩
      · dsimp only at hge
        rw [List.take_of_length_le (by omega)] at M hn7
        subst hn7
        have hat : ∀ y ∈ pre ++ l.filter (keepI (ofB key)), 0 ≤ y.path.length ∧ y.path.length < 0 + N := fun y hy => by
          refine ⟨Nat.zero_le _, ?_⟩
          rcases List.mem_append.1 hy with hy | hy
          · rw [hpre] at hy; cases hy
          · have := hpl y (List.mem_filter.1 hy).1
            simp only [List.length_nil] at this
            omega
        have hbigp : itBig (pre ++ l.filter (keepI (ofB key))) := by
          rw [hpre]
          exact itBig_filter _ hbig
        replace M := M.frzR (fr := false) (M.dt 0 rfl)
        refine cc is_build (build_any N (pre ++ l.filter (keepI (ofB key))) 0 _ _ _ _ c7 (M.d1 0 rfl) M.olt hat hbigp) ?_
        rintro e W ⟨cs5, Am, nm, cm, rfl, hres, hm5, hbel⟩
        replace M := ((M.call hbel).addD hm5).addL hres
        have hl5 := hres.len
        rw [dN_len] at hl5
        have hones := hres.ones (dN_one _)
        clear hbel hm5 hres
        refine ⟨_, rfl, ?_⟩
        refine s_alloc (zN) M al_nd ?_
        clear M
        rintro g15 W M
        refine s_storeA 0 cs5 M rfl sz_nd rfl rfl hl5 hones rfl ?_
        clear M; rintro W M
        dsimp only [setL] at M
        cases hbad : (buildA N (pre ++ l.filter (keepI (ofB key))) 0).2 with
        | some mm =>
          rw [hbad] at M
          refine p_build (vs := zN) pl_nd z_nd rfl ?_
          refine s_storeA 1 zN M rfl sz_nd rfl rfl rfl (all1 rfl) rfl ?_
          clear M; rintro W M
          dsimp only [setL] at M
          refine c_loadN zN agg_nd rfl rfl (M.run 1 rfl) ?_
          exact ⟨zN, Am, nm, cm, rfl, RdL.znone, M.fin1 1 rfl, M.below⟩
        | none =>
          refine v_loadN cs5 agg_nd rfl hl5 (M.run 0 rfl) ?_
          refine s_storeA 1 cs5 M rfl sz_nd rfl rfl hl5 hones rfl ?_
          clear M; rintro W M
          dsimp only [setL] at M
          refine c_loadN cs5 agg_nd rfl hl5 (M.run 1 rfl) ?_
          exact ⟨cs5, none, 0, 0, rfl, M.fin 0 rfl, RdD.nil_ _ _, M.below⟩
  · rw [if_neg he]
    refine p_build (vs := zN) pl_nd z_nd rfl ?_
    refine s_storeA 0 zN M rfl sz_nd rfl rfl rfl (all1 rfl) rfl ?_
    clear M; rintro W M
    dsimp only [setL] at M
    refine c_loadN zN agg_nd rfl rfl (M.run 0 rfl) ?_
    exact ⟨zN, Am, nm, cm, rfl, RdL.znone, M.fin1 0 rfl, M.below⟩
end Go.Proofs.Ytkfbkhahkkmcoaa
namespace Go.Proofs.Ytkfbkhahkkmcoaa
mutual
def sfB : Nd → Bool
  | .mk k _ _ _ ks _ => decide (k ≠ 4) && sfsB ks
def sfsB : List Nd → Bool
  | [] => true
  | t :: ts => sfB t && sfsB ts
end
theorem sfB_mk (k : Int) (p : List UInt8) (h : Bool) (v : List UInt8) (ks : List Nd) (hs : List UInt8) : sfB (.mk k p h v ks hs) = (decide (k ≠ 4) && sfsB ks) := by rw [sfB]
theorem sfsB_all : ∀ {ks : List Nd}, sfsB ks = true ↔ ∀ k ∈ ks, sfB k = true
  | [] => by simp [sfsB]
  | t :: ts => by rw [sfsB, Bool.and_eq_true, sfsB_all (ks := ts)]; simp
theorem sf_none : sfB noneN = true := by decide
theorem sf_leaf (p v : List UInt8) : sfB (leafN p v) = true := by unfold leafN; rw [sfB_mk]; rfl
theorem sf_along {p : List UInt8} {t : Nd} (h : sfB t = true) : sfB (alongN p t) = true := by
  unfold alongN; split
  · exact h
  · rw [sfB_mk, sfsB, sfsB, h]; rfl
theorem sf_set {ks : List Nd} {i : Nat} {k : Nd} (h : sfsB ks = true) (hk : sfB k = true) : sfsB (ks.set i k) = true :=
  sfsB_all.2 fun x hx => by
    rcases List.mem_or_eq_of_mem_set hx with hx | rfl
    · exact sfsB_all.1 h x hx
    · exact hk
theorem sf_hold {has : Bool} {v : List UInt8} {ks : List Nd} (p val : List UInt8) (h : sfsB ks = true) : sfsB (holdK has v ks p val).2.2 = true := by
  cases p with
  | nil => exact h
  | cons x q => exact sf_set h (sf_leaf _ _)
theorem sf_nones (n : Nat) : sfsB (noneNs n) = true := sfsB_all.2 fun x hx => by rw [noneNs_mem hx]; exact sf_none
theorem sf_fork {t : Nd} (p val : List UInt8) (h : sfB t = true) : sfB (forkN t p val) = true := by
  unfold forkN
  refine sf_along ?_
  rw [sfB_mk]
  rw [Bool.and_eq_true]
  refine ⟨rfl, sf_hold _ _ ?_⟩
  split
  · exact sf_hold _ _ (sf_nones _)
  · refine sf_set (sf_nones _) (sf_along ?_)
    obtain ⟨k, p, hh, v, ks, hs⟩ := t
    rw [sfB_mk, Bool.and_eq_true] at h
    show sfB (ks.headD noneN) = true
    cases ks with
    | nil => exact sf_none
    | cons k0 ks => exact sfsB_all.1 h.2 k0 (by simp)
theorem sf_put {even : Bool} {t : Nd} {d : Nat} (h : Val even t d) : sfB t = true → ∀ (q val : List UInt8), halvesB q = true → (putP t q val).2 = none ∧ sfB (putP t q val).1 = true := by
  induction h with
  | none d hd => intro _ q val _; rw [putP_none]; exact ⟨rfl, sf_leaf _ _⟩
  | leaf d p v hd hp hv' he' =>
    intro hs q val hq
    rw [putP_leaf]
    refine ⟨rfl, ?_⟩
    show sfB (if p = q then leafN q val else forkN (.mk 1 p false v [] []) q val) = true
    split
    · exact sf_leaf _ _
    · exact sf_fork _ _ hs
  | stub d h hd hh => intro hs; rw [sfB_mk] at hs; cases hs
  | way d p k hd hp h0 hk hr ih =>
    intro hs q val hq
    have hs' := hs
    rw [sfB_mk, Bool.and_eq_true] at hs'
    by_cases hpq : p <+: q
    · rw [putP_way hpq]
      obtain ⟨h1, h2⟩ := ih (sfsB_all.1 hs'.2 k (by simp)) (q.drop p.length) val (halvesB_drop hq)
      rw [h1]
      exact ⟨rfl, by rw [sfB_mk, sfsB, sfsB, h2]; rfl⟩
    · rw [putP_way0 hpq]; exact ⟨rfl, sf_fork _ _ hs⟩
  | branch d has v ks hd hv' hv0 he' h16 hr hm ih =>
    intro hs q val hq
    have hs' := hs
    rw [sfB_mk, Bool.and_eq_true] at hs'
    match q, hq with
    | [], _ => rw [putP_br0]; exact ⟨rfl, by rw [sfB_mk, hs'.2]; rfl⟩
    | x :: q', hq =>
      have hx := halves_hd hq
      obtain ⟨k, hki⟩ : ∃ k, ks[x.toNat]? = some k := ⟨_, List.getElem?_eq_getElem (by omega)⟩
      rw [putP_br hki]
      obtain ⟨h1, h2⟩ := ih k (List.mem_of_getElem? hki) (sfsB_all.1 hs'.2 k (List.mem_of_getElem? hki)) q' val (by have := halvesB_drop (n := 1) hq; simpa using this)
      rw [h1]
      exact ⟨rfl, by rw [sfB_mk, sf_set hs'.2 h2]; rfl⟩
theorem sf_get {even : Bool} {t : Nd} {d : Nat} (h : Val even t d) : sfB t = true → ∀ q, halvesB q = true → (getP t q).miss = none := by
  induction h with
  | none d hd => intro _ q _; rw [getP_none]
  | leaf d p v => intro _ q _; unfold getP; simp
  | stub d h hd hh => intro hs; rw [sfB_mk] at hs; cases hs
  | way d p k hd hp h0 hk hr ih =>
    intro hs q hq
    rw [sfB_mk, Bool.and_eq_true] at hs
    by_cases hpq : p <+: q
    · rw [getP_way hpq, ih (sfsB_all.1 hs.2 k (by simp)) _ (halvesB_drop hq)]; rfl
    · rw [getP_way0 hpq]
  | branch d has v ks hd hv' hv0 he' h16 hr hm ih =>
    intro hs q hq
    rw [sfB_mk, Bool.and_eq_true] at hs
    match q, hq with
    | [], _ => rw [getP_br0]
    | x :: q', hq =>
      have hx := halves_hd hq
      obtain ⟨k, hki⟩ : ∃ k, ks[x.toNat]? = some k := ⟨_, List.getElem?_eq_getElem (by omega)⟩
      rw [getP_br hki, ih k (List.mem_of_getElem? hki) (sfsB_all.1 hs.2 k (List.mem_of_getElem? hki)) q' (by have := halvesB_drop (n := 1) hq; simpa using this)]; rfl
theorem sum_mem {α : Type} (f : α → Nat) : ∀ {l : List α} {x : α}, x ∈ l → f x ≤ (l.map f).sum
  | y :: l, x, h => by
    rw [List.map_cons, List.sum_cons]
    rcases List.mem_cons.1 h with rfl | h
    · omega
    · have := sum_mem f h; omega
/-- What trie.Of comes to. -/
def tOfF : List Pr → Nd → Nd × Int
  | [], n => (n, 0)
  | p :: l, n => if p.k.length > 200 ∨ p.v.length > 4000 then (noneN, 2) else tOfF l (putP n (ofB p.k) p.v).1
def tOf (l : List Pr) : Nd × Int := tOfF l noneN
def prBulk (l : List Pr) : Nat := (l.map fun p => 140 + 2 * p.k.length + p.v.length).sum
theorem prBulk_len : ∀ l : List Pr, 140 * l.length ≤ prBulk l
  | [] => Nat.zero_le _
  | p :: l => by have := prBulk_len l; unfold prBulk at *; rw [List.map_cons, List.sum_cons, List.length_cons]; omega
end Go.Proofs.Ytkfbkhahkkmcoaa
