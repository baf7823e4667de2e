/- Reference 07: Decode. -/
import Derived.Test.YtojjfkbffjkojaaDoorG15
namespace Go.Proofs.YtojjfkbffjkojaaDoor
open Go.RowKit
def leafF (b : List UInt8) : Nd × Bool :=
  let T := textF (b.drop 1)
  if (T.2.2 && (decide (unpackE T.1 = 0) && decide (unpackB T.1 = decide (at8 b 0 = 1)))) = true then
    if unpackB T.1 = true then (.mk (at8 b 0) (unpackL T.1) false (textF T.2.1).1 [] [], (textF T.2.1).2.2 && decide ((textF T.2.1).2.1.length = 0))
    else (.mk (at8 b 0) (unpackL T.1) false [] (if (stubsF 32768 T.2.1).2 = true then (stubsF 32768 T.2.1).1.take 1 else (stubsF 32768 T.2.1).1) [], (stubsF 32768 T.2.1).2)
  else (.mk (at8 b 0) (unpackL T.1) false [] [] [], false)
def setF (r : List UInt8) : Nat := 256 * (r.getD 0 0).toNat + (r.getD 1 0).toNat
def brG (has : Bool) (v r : List UInt8) (ok : Bool) : Nd × Bool :=
  if (ok && decide (2 ≤ r.length)) = true then (.mk 3 [] has v (stubsF (setF r) (r.drop 2)).1 [], (stubsF (setF r) (r.drop 2)).2) else (.mk 3 [] has v [] [], false)
def brF (b : List UInt8) : Nd × Bool :=
  if at8 b 1 = 1 then brG true (textF (b.drop 2)).1 (textF (b.drop 2)).2.1 (textF (b.drop 2)).2.2 else brG false [] (b.drop 2) (decide (at8 b 1 ≤ 1))
def startF (b : List UInt8) : Nd × Bool :=
  if 1 < b.length ∧ (at8 b 0 = 1 ∨ at8 b 0 = 2) then leafF b else (noneN, decide (b.length = 1) && decide (at8 b 0 = 0))
def decF (b : List UInt8) : Nd × Bool := if 1 < b.length ∧ at8 b 0 = 3 then brF b else startF b
/-- What the reference's Decode answers. -/
def decQ (b : List UInt8) : Nd × Int := if (decF b).2 = true ∧ rightP false (decF b).1 0 = true then ((decF b).1, 0) else (noneN, 11)
theorem stubK_sz (set : Nat) : ∀ (n i : Nat) (l : List UInt8) (r : List Nd × List UInt8), stubK set n i l = some r → szs r.1 ≤ 38 * n
  | 0, i, l, r, h => by rw [stubK] at h; injection h with h; rw [← h, szs]; exact Nat.zero_le _
  | n + 1, i, l, r, h => by
    rw [stubK] at h
    split at h
    · obtain ⟨q, hq, rfl⟩ := Option.map_eq_some_iff.1 h
      have := stubK_sz set n (i + 1) l q hq
      have e : sz noneN = 6 := rfl
      dsimp only
      rw [szs]; omega
    · split at h
      · cases h
      · obtain ⟨q, hq, rfl⟩ := Option.map_eq_some_iff.1 h
        have := stubK_sz set n (i + 1) _ q hq
        dsimp only
        rw [szs, sz_stubN, List.length_take]; omega
theorem stubsF_sz (set : Nat) (l : List UInt8) : szs (stubsF set l).1 ≤ 608 := by
  unfold stubsF
  split
  · rw [szs]; exact Nat.zero_le _
  · rename_i r h
    have := stubK_sz set 16 0 l r h
    omega
theorem szs_take (ks : List Nd) (n : Nat) : szs (ks.take n) ≤ szs ks := by
  induction ks generalizing n with
  | nil => simp
  | cons k ks ih =>
    cases n with
    | zero => rw [List.take_zero, szs]; exact Nat.zero_le _
    | succ n => have := ih n; rw [List.take_succ_cons, szs, szs]; omega
theorem leafF_sz (b : List UInt8) : sz (leafF b).1 ≤ 2000 + 4 * b.length := by
  unfold leafF
  dsimp only
  have h1 := textF_le (b.drop 1)
  rw [List.length_drop] at h1
  have h2 := unpackL_len (textF (b.drop 1)).1
  have h3 := textF_le (textF (b.drop 1)).2.1
  have h4 := stubsF_sz 32768 (textF (b.drop 1)).2.1
  have h5 := szs_take (stubsF 32768 (textF (b.drop 1)).2.1).1 1
  split
  · split
    · rw [sz, szs]; simp only [List.length_nil]; omega
    · rw [sz]
      simp only [List.length_nil]
      split <;> omega
  · rw [sz, szs]; simp only [List.length_nil]; omega
theorem brG_sz (has : Bool) (v r : List UInt8) (ok : Bool) : sz (brG has v r ok).1 ≤ 2000 + v.length := by
  unfold brG
  have h4 := stubsF_sz (setF r) (r.drop 2)
  split
  · rw [sz]; simp only [List.length_nil]; omega
  · rw [sz, szs]; simp only [List.length_nil]; omega
theorem decF_sz (b : List UInt8) : sz (decF b).1 ≤ 2000 + 4 * b.length := by
  unfold decF
  split
  · unfold brF
    have h1 := textF_le (b.drop 2)
    rw [List.length_drop] at h1
    split
    · have := brG_sz true (textF (b.drop 2)).1 (textF (b.drop 2)).2.1 (textF (b.drop 2)).2.2; omega
    · have := brG_sz false [] (b.drop 2) (decide (at8 b 1 ≤ 1)); rw [List.length_nil] at this; omega
  · unfold startF
    split
    · exact leafF_sz b
    · have e : sz noneN = 6 := rfl
      dsimp only; omega
theorem setF_lt (r : List UInt8) : setF r < 65536 := by
  unfold setF
  have h1 := (r.getD 0 0).toNat_lt
  have h2 := (r.getD 1 0).toNat_lt
  omega
theorem stubK_len (set : Nat) : ∀ (n i : Nat) (l : List UInt8) (r : List Nd × List UInt8), stubK set n i l = some r → r.1.length = n
  | 0, i, l, r, h => by rw [stubK] at h; injection h with h; rw [← h]; rfl
  | n + 1, i, l, r, h => by
    rw [stubK] at h
    split at h
    · obtain ⟨q, hq, rfl⟩ := Option.map_eq_some_iff.1 h
      have := stubK_len set n (i + 1) l q hq
      dsimp only
      rw [List.length_cons, this]
    · split at h
      · cases h
      · obtain ⟨q, hq, rfl⟩ := Option.map_eq_some_iff.1 h
        have := stubK_len set n (i + 1) _ q hq
        dsimp only
        rw [List.length_cons, this]
theorem stubsF_len {set : Nat} {l : List UInt8} (h : (stubsF set l).2 = true) : (stubsF set l).1.length = 16 := by
  unfold stubsF at h ⊢
  split at h
  · cases h
  · rename_i r hr
    exact stubK_len set 16 0 l r hr
theorem RdD.firstN {W : World} {F : Nat → Prop} {ks : List Nd} {A : Option Addr} {c : Nat} (h : RdD W F (dKs ks) (.slice A ks.length c)) (hl : 0 < ks.length) : RdD W F (dKs (ks.take 1)) (.slice (slA A c 0 6) (1 - 0) (c - 0)) := by
  match ks, hl with
  | k :: ks, _ =>
    have h2 := RdD.cut h (i := 0) (j := 1) (m := c) (Nat.zero_le _) (by simp) (by have := h.scap; simp at this; omega)
    have e : (((dNs (k :: ks)).drop (0 * 6)).take ((1 - 0) * 6)) = dNs [k] := by
      rw [Nat.zero_mul, List.drop_zero, dNs, List.take_left' (dN_len k), dNs, dNs, List.append_nil]
    rw [e] at h2
    exact h2
theorem sz_intN : (Tryd.prog.info? 3).map (·.size) = some 1 := by kernel_rfl
set_option maxRecDepth 100000 in
set_option maxHeartbeats 8000000 in
theorem r7dec_any (l : List UInt8) (gs : List (Option Nat)) (w : World) (A : Option Addr) (n c : Nat) (h : RdD w (Fd w gs) (dB l) (.slice A n c)) (hgs : ∀ b, some b ∈ gs → b < w.heap.size) (hz : n ≤ 10000000) :
    Calls Tryd.prog 32 #[.slice A n c] w fun e w' => ∃ cs, e = .returned (.tuple #[.agg cs.toArray, .int .i64 (decQ l).2]) ∧ RdL w' (Fr w w') (dN (decQ l).1) cs ∧ Below w.heap.size w w' := by
  refine calls_ev (args := [.slice A n c]) mixed Tryd.func32 rfl (by kernel_rfl) ?_
  have en := h.slen
  have hcap := h.scap
  subst en
  have hsz := decF_sz l
  have M := (St.start hgs).addD h
  clear h
  refine s_alloc (zN) M al_nd ?_
  clear M
  rintro g2 W M
  refine p_build (vs := zN) pl_nd z_nd rfl ?_
  refine s_alloc (zN) M al_nd ?_
  clear M
  rintro g4 W M
  first | refine s_storeA 0 (zN) M rfl (by kernel_rfl) rfl rfl rfl (all1 rfl) rfl ?_ | refine s_storeA 1 (zN) M rfl (by kernel_rfl) rfl rfl rfl (all1 rfl) rfl ?_ | refine s_storeA 2 (zN) M rfl (by kernel_rfl) rfl rfl rfl (all1 rfl) rfl ?_ | refine s_storeA 3 (zN) M rfl (by kernel_rfl) rfl rfl rfl (all1 rfl) rfl ?_
  clear M
  rintro W M
  dsimp only [setL] at M
  replace M := M.addT (fr := true) (ds := dN noneN) (cs := zN) RdL.znone
  -- whether it is nothing
  refine cutS Unit (fun _ W => St w gs W [(g4, 26, zN), (g2, 26, zN)] [] [.dat true (dN noneN) zN, .dat false [dB l] [.slice A l.length c]])
    (fun _ => [(0, .slice A l.length c), (2, .pointer (some ⟨g2, 0, none⟩)), (4, .pointer (some ⟨g4, 0, none⟩)), (5, .bool (decide (l.length = 1) && decide (at8 l 0 = 0)))]) ?_ ?_
  · refine p_len slb rfl ?_
    refine p_eq rfl rfl (fun h1 => ?_) (fun h1 => ?_)
    · have h1 : l.length = 1 := by have h : ((l.length : Nat) : Int) = 1 := h1; omega
      obtain ⟨b, o, hA, hcell⟩ := (M.rdb 1 rfl).2.2.at_ (k := 0) (by omega)
      subst hA
      refine p_at (i := 0) slb rfl rfl rfl (by omega) ?_
      refine v_load agg_by' rfl (by rw [Addr.add_lit, Nat.zero_mul]; exact hcell) ?_
      refine p_eqD rfl rfl ?_
      rw [decide_eq_true h1, Bool.true_and]
      exact ⟨(), M, (by repeat (first | exact trivial | refine ⟨rfl, ?_⟩))⟩
    · have h1 : ¬ l.length = 1 := fun e => h1 (by show ((l.length : Nat) : Int) = 1; omega)
      rw [decide_eq_false h1, Bool.false_and]
      exact ⟨(), M, (by repeat (first | exact trivial | refine ⟨rfl, ?_⟩))⟩
  clear M
  rintro - E0 W0 M
  obtain ⟨X, hX⟩ : ∃ X, X = startF l := ⟨_, rfl⟩
  refine cutS (Option Addr × Nat × Option Addr × Nat × Option Addr × Nat × Option Addr × Nat) (fun s W => St w gs W [(g4, 26, ncs X.1 s.1 s.2.1 s.2.2.1 s.2.2.2.1 s.2.2.2.2.1 s.2.2.2.2.2.1 s.2.2.2.2.2.2.1 s.2.2.2.2.2.2.2), (g2, 26, zN)] [] [.dat true (dN X.1) (ncs X.1 s.1 s.2.1 s.2.2.1 s.2.2.2.1 s.2.2.2.2.1 s.2.2.2.2.2.1 s.2.2.2.2.2.2.1 s.2.2.2.2.2.2.2), .dat false [dB l] [.slice A l.length c]])
    (fun _ => [(0, .slice A l.length c), (2, .pointer (some ⟨g2, 0, none⟩)), (4, .pointer (some ⟨g4, 0, none⟩)), (5, .bool X.2)]) ?_ ?_
  · refine p_len slb rfl ?_
    refine p_gt rfl rfl (fun h1 => ?_) (fun h1 => ?_)
    rotate_left
    · have h1 : ¬ 1 < l.length := fun e => h1 (by show (1 : Int) < ((l.length : Nat) : Int); omega)
      have e : X = (noneN, decide (l.length = 1) && decide (at8 l 0 = 0)) := by rw [hX]; unfold startF; rw [if_neg (fun h => h1 h.1)]
      rw [e]
      exact ⟨(none, 0, none, 0, none, 0, none, 0), M, (by repeat (first | exact trivial | refine ⟨rfl, ?_⟩))⟩
    have h1 : 1 < l.length := by have h : (1 : Int) < ((l.length : Nat) : Int) := h1; omega
    obtain ⟨b, o, hA, hcell⟩ := (M.rdb 1 rfl).2.2.at_ (k := 0) (by omega)
    subst hA
    have hk0 : 0 ≤ at8 l 0 ∧ at8 l 0 ≤ 255 := by unfold at8; have := (l.getD 0 0).toNat_lt; omega
    obtain ⟨k, hk⟩ : ∃ k : Int, k = at8 l 0 := ⟨_, rfl⟩
    rw [← hk] at hcell hk0
    refine p_at (i := 0) slb rfl rfl rfl (by omega) ?_
    refine v_load agg_by' rfl (by rw [Addr.add_lit, Nat.zero_mul]; exact hcell) ?_
    refine p_eq rfl rfl (fun hk1 => ?_) (fun hk1 => ?_)
    · have hk12 : k = 1 ∨ k = 2 := .inl hk1
      clear hk1
      have hX' : X = leafF l := by rw [hX]; unfold startF; rw [if_pos ⟨h1, by rw [← hk]; exact hk12⟩]
      unfold leafF at hX'
      rw [← hk] at hX'
      have hcut := (M.d1 1 rfl).cutB (i := 1) (j := l.length) (m := c) (by omega) (Nat.le_refl _) hcap
      rw [List.take_of_length_le (by rw [List.length_drop]; omega)] at hcut
      replace M := M.addD hcut
      clear hcut
      refine p_at (i := 0) slb rfl rfl rfl (by omega) ?_
      refine v_load agg_by' rfl (by rw [Addr.add_lit, Nat.zero_mul]; exact hcell) ?_
      refine v_cvt u_u8r u_intr rfl (r := k) (w64 (by omega)) ?_
      refine p_fld fN0 rfl ?_
      refine s_set 0 (off := 0) (.int .i64 k) (ncs (.mk k [] false [] [] []) none 0 none 0 none 0 none 0) M rfl sz_intN rfl rfl rfl (Nat.le_of_ble_eq_true rfl) rfl ?_
      clear M hcell; rintro W M
      dsimp only [setL] at M
      refine p_slice (i := 1) (j := l.length) (m := c) slb rfl (bnd_i rfl) rfl rfl rfl (by omega) hcap (Nat.le_refl _) ?_
      have ct := r7text_any (l.drop 1) _ _ _ _ _ (M.d1 0 rfl) M.olt (by omega)
      have hT1 := textF_le (l.drop 1)
      rw [List.length_drop] at hT1
      obtain ⟨T, hT⟩ : ∃ T, T = textF (l.drop 1) := ⟨_, rfl⟩
      rw [← hT] at ct hX' hT1
      clear hT
      obtain ⟨T1, T2, Tq⟩ := T
      dsimp only at ct hX' hT1
      refine cc is_r7text ct ?_
      clear ct
      rintro e W ⟨A1, n1, c1, A2, n2, c2, rfl, r1, r2, hb⟩
      replace M := (M.callF1 hb r1).addD r2
      clear r1 r2 hb
      refine ⟨_, rfl, ?_⟩
      have e1 := (M.d1 1 rfl).slen
      have e2 := (M.d1 0 rfl).slen
      have cu := rup_any T1 _ _ _ _ _ (M.d1 1 rfl) M.olt (by omega)
      obtain ⟨ub, hub⟩ : ∃ ub, ub = unpackB T1 := ⟨_, rfl⟩
      obtain ⟨ue, hue⟩ : ∃ ue, ue = unpackE T1 := ⟨_, rfl⟩
      rw [← hub, ← hue] at cu hX'
      clear hub hue
      refine cc is_rup6 cu ?_
      clear cu
      rintro e W ⟨A3, n3, c3, rfl, r3, hb⟩
      have e3 := r3.slen
      subst e3
      replace M := (M.callF1 hb r3).fsub [.dat true [dB (unpackL T1)] [.slice A3 (unpackL T1).length c3], .dat false [dB T2] [.slice A2 n2 c2], .dat false [dB l] [.slice (some ⟨b, o, none⟩) l.length c]] (by simp)
      clear r3 hb
      refine ⟨_, rfl, ?_⟩
      refine p_fld fN1 rfl ?_
      refine s_set 0 (off := 1) (.slice A3 (unpackL T1).length c3) (ncs (.mk k (unpackL T1) false [] [] []) A3 c3 none 0 none 0 none 0) M rfl sz_slR rfl rfl rfl (Nat.le_of_ble_eq_true rfl) rfl ?_
      clear M; rintro W M
      dsimp only [setL] at M
      cases Tq with
      | false =>
        have e : X = (.mk k (unpackL T1) false [] [] [], false) := by rw [hX', if_neg (by simp)]
        rw [e]
        have hn := RdL.ofnode (t := (.mk k (unpackL T1) false [] [] [])) (M.dt 0 rfl).hd ((RdD.nil_ (s := 1) none 0)) ((RdD.nil_ (s := 6) none 0)) (RdD.nil_ (s := 1) none 0)
        exact ⟨(A3, c3, none, 0, none, 0, none, 0), (M.addT hn).fsub _ (by intro f hf; simp only [List.mem_cons, List.not_mem_nil, or_false] at hf ⊢; rcases hf with h | h <;> simp [h]), (by repeat (first | exact trivial | refine ⟨rfl, ?_⟩))⟩
      | true =>
      refine p_eq rfl rfl (fun hu => ?_) (fun hu => ?_)
      rotate_left
      · have hu : ue ≠ 0 := hu
        have e : X = (.mk k (unpackL T1) false [] [] [], false) := by rw [hX', if_neg (by simp [hu])]
        rw [e]
        have hn := RdL.ofnode (t := (.mk k (unpackL T1) false [] [] [])) (M.dt 0 rfl).hd ((RdD.nil_ (s := 1) none 0)) ((RdD.nil_ (s := 6) none 0)) (RdD.nil_ (s := 1) none 0)
        exact ⟨(A3, c3, none, 0, none, 0, none, 0), (M.addT hn).fsub _ (by intro f hf; simp only [List.mem_cons, List.not_mem_nil, or_false] at hf ⊢; rcases hf with h | h <;> simp [h]), (by repeat (first | exact trivial | refine ⟨rfl, ?_⟩))⟩
      have hu : ue = 0 := hu
      refine p_fld fN0 rfl ?_
      refine v_load agg_int rfl ((M.B 0 rfl).at_ rfl) ?_
      refine p_eqD rfl rfl ?_
      refine p_beqC u_bool rfl rfl (fun hb1 => ?_) (fun hb1 => ?_)
      rotate_left
      · have hb1 : ub ≠ decide (k = 1) := hb1
        have e : X = (.mk k (unpackL T1) false [] [] [], false) := by rw [hX', if_neg (by simp [hb1])]
        rw [e]
        have hn := RdL.ofnode (t := (.mk k (unpackL T1) false [] [] [])) (M.dt 0 rfl).hd ((RdD.nil_ (s := 1) none 0)) ((RdD.nil_ (s := 6) none 0)) (RdD.nil_ (s := 1) none 0)
        exact ⟨(A3, c3, none, 0, none, 0, none, 0), (M.addT hn).fsub _ (by intro f hf; simp only [List.mem_cons, List.not_mem_nil, or_false] at hf ⊢; rcases hf with h | h <;> simp [h]), (by repeat (first | exact trivial | refine ⟨rfl, ?_⟩))⟩
      have hb1 : ub = decide (k = 1) := hb1
      rw [if_pos (by simp [hu, hb1])] at hX'
      clear hb1
      cases ub with
      | true =>
        rw [if_pos rfl] at hX'
        have ct := r7text_any T2 _ _ _ _ _ (M.d1 1 rfl) M.olt (by omega)
        have hV1 := textF_le T2
        obtain ⟨V, hV⟩ : ∃ V, V = textF T2 := ⟨_, rfl⟩
        rw [← hV] at ct hX' hV1
        clear hV
        obtain ⟨V1, V2, Vq⟩ := V
        dsimp only at ct hX' hV1
        refine cc is_r7text ct ?_
        clear ct
        rintro e W ⟨A4, n4, c4, A5, n5, c5, rfl, r1, r2, hb⟩
        have e4 := r1.slen
        subst e4
        have e5 := r2.slen
        replace M := (M.callF1 hb r1).addD r2
        clear r1 r2 hb
        refine ⟨_, rfl, ?_⟩
        refine p_fld fN3 rfl ?_
        refine s_set 0 (off := 3) (.slice A4 V1.length c4) (ncs (.mk k (unpackL T1) false V1 [] []) A3 c3 A4 c4 none 0 none 0) M rfl sz_slR rfl rfl rfl (Nat.le_of_ble_eq_true rfl) rfl ?_
        clear M; rintro W M
        dsimp only [setL] at M
        cases Vq with
        | false =>
          have e : X = (.mk k (unpackL T1) false V1 [] [], false) := hX'
          rw [e]
          have hn := RdL.ofnode (t := (.mk k (unpackL T1) false V1 [] [])) (M.dt 2 rfl).hd ((M.dt 1 rfl).hd) ((RdD.nil_ (s := 6) none 0)) (RdD.nil_ (s := 1) none 0)
          exact ⟨(A3, c3, A4, c4, none, 0, none, 0), (M.addT hn).fsub _ (by intro f hf; simp only [List.mem_cons, List.not_mem_nil, or_false] at hf ⊢; rcases hf with h | h <;> simp [h]), (by repeat (first | exact trivial | refine ⟨rfl, ?_⟩))⟩
        | true =>
          refine p_len slb rfl ?_
          refine p_eq rfl rfl (fun h5 => ?_) (fun h5 => ?_)
          · have h5 : V2.length = 0 := by have h : ((n5 : Nat) : Int) = 0 := h5; omega
            refine p_not rfl ?_
            have e : X = (.mk k (unpackL T1) false V1 [] [], true) := by rw [hX', decide_eq_true h5]; rfl
            rw [e]
            have hn := RdL.ofnode (t := (.mk k (unpackL T1) false V1 [] [])) (M.dt 2 rfl).hd ((M.dt 1 rfl).hd) ((RdD.nil_ (s := 6) none 0)) (RdD.nil_ (s := 1) none 0)
            exact ⟨(A3, c3, A4, c4, none, 0, none, 0), (M.addT hn).fsub _ (by intro f hf; simp only [List.mem_cons, List.not_mem_nil, or_false] at hf ⊢; rcases hf with h | h <;> simp [h]), (by repeat (first | exact trivial | refine ⟨rfl, ?_⟩))⟩
          · have h5 : V2.length ≠ 0 := fun q => h5 (by show ((n5 : Nat) : Int) = 0; omega)
            have e : X = (.mk k (unpackL T1) false V1 [] [], false) := by rw [hX', decide_eq_false h5]; rfl
            rw [e]
            have hn := RdL.ofnode (t := (.mk k (unpackL T1) false V1 [] [])) (M.dt 2 rfl).hd ((M.dt 1 rfl).hd) ((RdD.nil_ (s := 6) none 0)) (RdD.nil_ (s := 1) none 0)
            exact ⟨(A3, c3, A4, c4, none, 0, none, 0), (M.addT hn).fsub _ (by intro f hf; simp only [List.mem_cons, List.not_mem_nil, or_false] at hf ⊢; rcases hf with h | h <;> simp [h]), (by repeat (first | exact trivial | refine ⟨rfl, ?_⟩))⟩
      | false =>
        rw [if_neg (by decide)] at hX'
        refine p_not rfl ?_
        have ct := r7stubs_any 32768 (by decide) T2 _ _ _ _ _ (M.d1 1 rfl) M.olt (by omega)
        have hS := stubsF_len (set := 32768) (l := T2)
        obtain ⟨S, hS1⟩ : ∃ S, S = stubsF 32768 T2 := ⟨_, rfl⟩
        rw [← hS1] at ct hX' hS
        clear hS1
        obtain ⟨S1, Sq⟩ := S
        dsimp only at ct hX' hS
        refine cc is_r7stubs ct ?_
        clear ct
        rintro e W ⟨A4, c4, rfl, r1, hb⟩
        have hcap4 := r1.scap
        replace M := M.callF1 hb r1
        clear r1 hb
        refine ⟨_, rfl, ?_⟩
        refine p_fld fN4 rfl ?_
        refine s_set 0 (off := 4) (.slice A4 S1.length c4) (ncs (.mk k (unpackL T1) false [] S1 []) A3 c3 none 0 A4 c4 none 0) M rfl sz_nsR rfl rfl rfl (Nat.le_of_ble_eq_true rfl) rfl ?_
        clear M; rintro W M
        dsimp only [setL] at M
        cases Sq with
        | false =>
          have e : X = (.mk k (unpackL T1) false [] S1 [], false) := hX'
          rw [e]
          have hn := RdL.ofnode (t := (.mk k (unpackL T1) false [] S1 [])) (M.dt 1 rfl).hd ((RdD.nil_ (s := 1) none 0)) ((M.dt 0 rfl).hd) (RdD.nil_ (s := 1) none 0)
          exact ⟨(A3, c3, none, 0, A4, c4, none, 0), (M.addT hn).fsub _ (by intro f hf; simp only [List.mem_cons, List.not_mem_nil, or_false] at hf ⊢; rcases hf with h | h <;> simp [h]), (by repeat (first | exact trivial | refine ⟨rfl, ?_⟩))⟩
        | true =>
          have hS := hS rfl
          refine p_fld fN4 rfl ?_
          refine v_load agg_ns rfl ((M.B 0 rfl).at_ rfl) ?_
          refine p_slice (i := 0) (j := 1) (m := c4) sln rfl rfl (bnd_i rfl) rfl rfl (Nat.zero_le _) (by omega) (Nat.le_refl _) ?_
          have hf := (M.dt 0 rfl).hd.firstN (by omega)
          replace M := M.addT (RdL.one hf)
          clear hf
          have hl1 : (S1.take 1).length = 1 - 0 := by rw [List.length_take]; omega
          refine p_fld fN4 rfl ?_
          refine s_set 0 (off := 4) (.slice (slA A4 c4 0 6) (1 - 0) (c4 - 0)) [.int .i64 k, .slice A3 (unpackL T1).length c3, .bool false, .slice none 0 0, .slice (slA A4 c4 0 6) (1 - 0) (c4 - 0), .slice none 0 0] M rfl sz_nsR rfl rfl rfl (Nat.le_of_ble_eq_true rfl) rfl ?_
          clear M; rintro W M
          dsimp only [setL] at M
          have hnc : ([.int .i64 k, .slice A3 (unpackL T1).length c3, .bool false, .slice none 0 0, .slice (slA A4 c4 0 6) (1 - 0) (c4 - 0), .slice none 0 0] : List Value) = ncs (.mk k (unpackL T1) false [] (S1.take 1) []) A3 c3 none 0 (slA A4 c4 0 6) (c4 - 0) none 0 := by unfold ncs; rw [← hl1]; rfl
          rw [hnc] at M
          rw [← hl1] at M
          have e : X = (.mk k (unpackL T1) false [] (S1.take 1) [], true) := hX'
          rw [e]
          have hn := RdL.ofnode (t := (.mk k (unpackL T1) false [] (S1.take 1) [])) (M.dt 2 rfl).hd ((RdD.nil_ (s := 1) none 0)) ((M.dt 0 rfl).hd) (RdD.nil_ (s := 1) none 0)
          exact ⟨(A3, c3, none, 0, (slA A4 c4 0 6), (c4 - 0), none, 0), (M.addT hn).fsub _ (by intro f hf; simp only [List.mem_cons, List.not_mem_nil, or_false] at hf ⊢; rcases hf with h | h <;> simp [h]), (by repeat (first | exact trivial | refine ⟨rfl, ?_⟩))⟩
    · refine p_at (i := 0) slb rfl rfl rfl (by omega) ?_
      refine v_load agg_by' rfl (by rw [Addr.add_lit, Nat.zero_mul]; exact hcell) ?_
      refine p_eq rfl rfl (fun hk2 => ?_) (fun hk2 => ?_)
      · have hk12 : k = 1 ∨ k = 2 := .inr hk2
        clear hk1 hk2
        have hX' : X = leafF l := by rw [hX]; unfold startF; rw [if_pos ⟨h1, by rw [← hk]; exact hk12⟩]
        unfold leafF at hX'
        rw [← hk] at hX'
        have hcut := (M.d1 1 rfl).cutB (i := 1) (j := l.length) (m := c) (by omega) (Nat.le_refl _) hcap
        rw [List.take_of_length_le (by rw [List.length_drop]; omega)] at hcut
        replace M := M.addD hcut
        clear hcut
        refine p_at (i := 0) slb rfl rfl rfl (by omega) ?_
        refine v_load agg_by' rfl (by rw [Addr.add_lit, Nat.zero_mul]; exact hcell) ?_
        refine v_cvt u_u8r u_intr rfl (r := k) (w64 (by omega)) ?_
        refine p_fld fN0 rfl ?_
        refine s_set 0 (off := 0) (.int .i64 k) (ncs (.mk k [] false [] [] []) none 0 none 0 none 0 none 0) M rfl sz_intN rfl rfl rfl (Nat.le_of_ble_eq_true rfl) rfl ?_
        clear M hcell; rintro W M
        dsimp only [setL] at M
        refine p_slice (i := 1) (j := l.length) (m := c) slb rfl (bnd_i rfl) rfl rfl rfl (by omega) hcap (Nat.le_refl _) ?_
        have ct := r7text_any (l.drop 1) _ _ _ _ _ (M.d1 0 rfl) M.olt (by omega)
        have hT1 := textF_le (l.drop 1)
        rw [List.length_drop] at hT1
        obtain ⟨T, hT⟩ : ∃ T, T = textF (l.drop 1) := ⟨_, rfl⟩
        rw [← hT] at ct hX' hT1
        clear hT
        obtain ⟨T1, T2, Tq⟩ := T
        dsimp only at ct hX' hT1
        refine cc is_r7text ct ?_
        clear ct
        rintro e W ⟨A1, n1, c1, A2, n2, c2, rfl, r1, r2, hb⟩
        replace M := (M.callF1 hb r1).addD r2
        clear r1 r2 hb
        refine ⟨_, rfl, ?_⟩
        have e1 := (M.d1 1 rfl).slen
        have e2 := (M.d1 0 rfl).slen
        have cu := rup_any T1 _ _ _ _ _ (M.d1 1 rfl) M.olt (by omega)
        obtain ⟨ub, hub⟩ : ∃ ub, ub = unpackB T1 := ⟨_, rfl⟩
        obtain ⟨ue, hue⟩ : ∃ ue, ue = unpackE T1 := ⟨_, rfl⟩
        rw [← hub, ← hue] at cu hX'
        clear hub hue
        refine cc is_rup6 cu ?_
        clear cu
        rintro e W ⟨A3, n3, c3, rfl, r3, hb⟩
        have e3 := r3.slen
        subst e3
        replace M := (M.callF1 hb r3).fsub [.dat true [dB (unpackL T1)] [.slice A3 (unpackL T1).length c3], .dat false [dB T2] [.slice A2 n2 c2], .dat false [dB l] [.slice (some ⟨b, o, none⟩) l.length c]] (by simp)
        clear r3 hb
        refine ⟨_, rfl, ?_⟩
        refine p_fld fN1 rfl ?_
        refine s_set 0 (off := 1) (.slice A3 (unpackL T1).length c3) (ncs (.mk k (unpackL T1) false [] [] []) A3 c3 none 0 none 0 none 0) M rfl sz_slR rfl rfl rfl (Nat.le_of_ble_eq_true rfl) rfl ?_
        clear M; rintro W M
        dsimp only [setL] at M
        cases Tq with
        | false =>
          have e : X = (.mk k (unpackL T1) false [] [] [], false) := by rw [hX', if_neg (by simp)]
          rw [e]
          have hn := RdL.ofnode (t := (.mk k (unpackL T1) false [] [] [])) (M.dt 0 rfl).hd ((RdD.nil_ (s := 1) none 0)) ((RdD.nil_ (s := 6) none 0)) (RdD.nil_ (s := 1) none 0)
          exact ⟨(A3, c3, none, 0, none, 0, none, 0), (M.addT hn).fsub _ (by intro f hf; simp only [List.mem_cons, List.not_mem_nil, or_false] at hf ⊢; rcases hf with h | h <;> simp [h]), (by repeat (first | exact trivial | refine ⟨rfl, ?_⟩))⟩
        | true =>
        refine p_eq rfl rfl (fun hu => ?_) (fun hu => ?_)
        rotate_left
        · have hu : ue ≠ 0 := hu
          have e : X = (.mk k (unpackL T1) false [] [] [], false) := by rw [hX', if_neg (by simp [hu])]
          rw [e]
          have hn := RdL.ofnode (t := (.mk k (unpackL T1) false [] [] [])) (M.dt 0 rfl).hd ((RdD.nil_ (s := 1) none 0)) ((RdD.nil_ (s := 6) none 0)) (RdD.nil_ (s := 1) none 0)
          exact ⟨(A3, c3, none, 0, none, 0, none, 0), (M.addT hn).fsub _ (by intro f hf; simp only [List.mem_cons, List.not_mem_nil, or_false] at hf ⊢; rcases hf with h | h <;> simp [h]), (by repeat (first | exact trivial | refine ⟨rfl, ?_⟩))⟩
        have hu : ue = 0 := hu
        refine p_fld fN0 rfl ?_
        refine v_load agg_int rfl ((M.B 0 rfl).at_ rfl) ?_
        refine p_eqD rfl rfl ?_
        refine p_beqC u_bool rfl rfl (fun hb1 => ?_) (fun hb1 => ?_)
        rotate_left
        · have hb1 : ub ≠ decide (k = 1) := hb1
          have e : X = (.mk k (unpackL T1) false [] [] [], false) := by rw [hX', if_neg (by simp [hb1])]
          rw [e]
          have hn := RdL.ofnode (t := (.mk k (unpackL T1) false [] [] [])) (M.dt 0 rfl).hd ((RdD.nil_ (s := 1) none 0)) ((RdD.nil_ (s := 6) none 0)) (RdD.nil_ (s := 1) none 0)
          exact ⟨(A3, c3, none, 0, none, 0, none, 0), (M.addT hn).fsub _ (by intro f hf; simp only [List.mem_cons, List.not_mem_nil, or_false] at hf ⊢; rcases hf with h | h <;> simp [h]), (by repeat (first | exact trivial | refine ⟨rfl, ?_⟩))⟩
        have hb1 : ub = decide (k = 1) := hb1
        rw [if_pos (by simp [hu, hb1])] at hX'
        clear hb1
        cases ub with
        | true =>
          rw [if_pos rfl] at hX'
          have ct := r7text_any T2 _ _ _ _ _ (M.d1 1 rfl) M.olt (by omega)
          have hV1 := textF_le T2
          obtain ⟨V, hV⟩ : ∃ V, V = textF T2 := ⟨_, rfl⟩
          rw [← hV] at ct hX' hV1
          clear hV
          obtain ⟨V1, V2, Vq⟩ := V
          dsimp only at ct hX' hV1
          refine cc is_r7text ct ?_
          clear ct
          rintro e W ⟨A4, n4, c4, A5, n5, c5, rfl, r1, r2, hb⟩
          have e4 := r1.slen
          subst e4
          have e5 := r2.slen
          replace M := (M.callF1 hb r1).addD r2
          clear r1 r2 hb
          refine ⟨_, rfl, ?_⟩
          refine p_fld fN3 rfl ?_
          refine s_set 0 (off := 3) (.slice A4 V1.length c4) (ncs (.mk k (unpackL T1) false V1 [] []) A3 c3 A4 c4 none 0 none 0) M rfl sz_slR rfl rfl rfl (Nat.le_of_ble_eq_true rfl) rfl ?_
          clear M; rintro W M
          dsimp only [setL] at M
          cases Vq with
          | false =>
            have e : X = (.mk k (unpackL T1) false V1 [] [], false) := hX'
            rw [e]
            have hn := RdL.ofnode (t := (.mk k (unpackL T1) false V1 [] [])) (M.dt 2 rfl).hd ((M.dt 1 rfl).hd) ((RdD.nil_ (s := 6) none 0)) (RdD.nil_ (s := 1) none 0)
            exact ⟨(A3, c3, A4, c4, none, 0, none, 0), (M.addT hn).fsub _ (by intro f hf; simp only [List.mem_cons, List.not_mem_nil, or_false] at hf ⊢; rcases hf with h | h <;> simp [h]), (by repeat (first | exact trivial | refine ⟨rfl, ?_⟩))⟩
          | true =>
            refine p_len slb rfl ?_
            refine p_eq rfl rfl (fun h5 => ?_) (fun h5 => ?_)
            · have h5 : V2.length = 0 := by have h : ((n5 : Nat) : Int) = 0 := h5; omega
              refine p_not rfl ?_
              have e : X = (.mk k (unpackL T1) false V1 [] [], true) := by rw [hX', decide_eq_true h5]; rfl
              rw [e]
              have hn := RdL.ofnode (t := (.mk k (unpackL T1) false V1 [] [])) (M.dt 2 rfl).hd ((M.dt 1 rfl).hd) ((RdD.nil_ (s := 6) none 0)) (RdD.nil_ (s := 1) none 0)
              exact ⟨(A3, c3, A4, c4, none, 0, none, 0), (M.addT hn).fsub _ (by intro f hf; simp only [List.mem_cons, List.not_mem_nil, or_false] at hf ⊢; rcases hf with h | h <;> simp [h]), (by repeat (first | exact trivial | refine ⟨rfl, ?_⟩))⟩
            · have h5 : V2.length ≠ 0 := fun q => h5 (by show ((n5 : Nat) : Int) = 0; omega)
              have e : X = (.mk k (unpackL T1) false V1 [] [], false) := by rw [hX', decide_eq_false h5]; rfl
              rw [e]
              have hn := RdL.ofnode (t := (.mk k (unpackL T1) false V1 [] [])) (M.dt 2 rfl).hd ((M.dt 1 rfl).hd) ((RdD.nil_ (s := 6) none 0)) (RdD.nil_ (s := 1) none 0)
              exact ⟨(A3, c3, A4, c4, none, 0, none, 0), (M.addT hn).fsub _ (by intro f hf; simp only [List.mem_cons, List.not_mem_nil, or_false] at hf ⊢; rcases hf with h | h <;> simp [h]), (by repeat (first | exact trivial | refine ⟨rfl, ?_⟩))⟩
        | false =>
          rw [if_neg (by decide)] at hX'
          refine p_not rfl ?_
          have ct := r7stubs_any 32768 (by decide) T2 _ _ _ _ _ (M.d1 1 rfl) M.olt (by omega)
          have hS := stubsF_len (set := 32768) (l := T2)
          obtain ⟨S, hS1⟩ : ∃ S, S = stubsF 32768 T2 := ⟨_, rfl⟩
          rw [← hS1] at ct hX' hS
          clear hS1
          obtain ⟨S1, Sq⟩ := S
          dsimp only at ct hX' hS
          refine cc is_r7stubs ct ?_
          clear ct
          rintro e W ⟨A4, c4, rfl, r1, hb⟩
          have hcap4 := r1.scap
          replace M := M.callF1 hb r1
          clear r1 hb
          refine ⟨_, rfl, ?_⟩
          refine p_fld fN4 rfl ?_
          refine s_set 0 (off := 4) (.slice A4 S1.length c4) (ncs (.mk k (unpackL T1) false [] S1 []) A3 c3 none 0 A4 c4 none 0) M rfl sz_nsR rfl rfl rfl (Nat.le_of_ble_eq_true rfl) rfl ?_
          clear M; rintro W M
          dsimp only [setL] at M
          cases Sq with
          | false =>
            have e : X = (.mk k (unpackL T1) false [] S1 [], false) := hX'
            rw [e]
            have hn := RdL.ofnode (t := (.mk k (unpackL T1) false [] S1 [])) (M.dt 1 rfl).hd ((RdD.nil_ (s := 1) none 0)) ((M.dt 0 rfl).hd) (RdD.nil_ (s := 1) none 0)
            exact ⟨(A3, c3, none, 0, A4, c4, none, 0), (M.addT hn).fsub _ (by intro f hf; simp only [List.mem_cons, List.not_mem_nil, or_false] at hf ⊢; rcases hf with h | h <;> simp [h]), (by repeat (first | exact trivial | refine ⟨rfl, ?_⟩))⟩
          | true =>
            have hS := hS rfl
            refine p_fld fN4 rfl ?_
            refine v_load agg_ns rfl ((M.B 0 rfl).at_ rfl) ?_
            refine p_slice (i := 0) (j := 1) (m := c4) sln rfl rfl (bnd_i rfl) rfl rfl (Nat.zero_le _) (by omega) (Nat.le_refl _) ?_
            have hf := (M.dt 0 rfl).hd.firstN (by omega)
            replace M := M.addT (RdL.one hf)
            clear hf
            have hl1 : (S1.take 1).length = 1 - 0 := by rw [List.length_take]; omega
            refine p_fld fN4 rfl ?_
            refine s_set 0 (off := 4) (.slice (slA A4 c4 0 6) (1 - 0) (c4 - 0)) [.int .i64 k, .slice A3 (unpackL T1).length c3, .bool false, .slice none 0 0, .slice (slA A4 c4 0 6) (1 - 0) (c4 - 0), .slice none 0 0] M rfl sz_nsR rfl rfl rfl (Nat.le_of_ble_eq_true rfl) rfl ?_
            clear M; rintro W M
            dsimp only [setL] at M
            have hnc : ([.int .i64 k, .slice A3 (unpackL T1).length c3, .bool false, .slice none 0 0, .slice (slA A4 c4 0 6) (1 - 0) (c4 - 0), .slice none 0 0] : List Value) = ncs (.mk k (unpackL T1) false [] (S1.take 1) []) A3 c3 none 0 (slA A4 c4 0 6) (c4 - 0) none 0 := by unfold ncs; rw [← hl1]; rfl
            rw [hnc] at M
            rw [← hl1] at M
            have e : X = (.mk k (unpackL T1) false [] (S1.take 1) [], true) := hX'
            rw [e]
            have hn := RdL.ofnode (t := (.mk k (unpackL T1) false [] (S1.take 1) [])) (M.dt 2 rfl).hd ((RdD.nil_ (s := 1) none 0)) ((M.dt 0 rfl).hd) (RdD.nil_ (s := 1) none 0)
            exact ⟨(A3, c3, none, 0, (slA A4 c4 0 6), (c4 - 0), none, 0), (M.addT hn).fsub _ (by intro f hf; simp only [List.mem_cons, List.not_mem_nil, or_false] at hf ⊢; rcases hf with h | h <;> simp [h]), (by repeat (first | exact trivial | refine ⟨rfl, ?_⟩))⟩
      · have hk1 : ¬ k = 1 := hk1
        have hk2 : ¬ k = 2 := hk2
        have e : X = (noneN, decide (l.length = 1) && decide (at8 l 0 = 0)) := by rw [hX]; unfold startF; rw [if_neg (fun h => by rcases h.2 with h | h; exact hk1 (hk.trans h); exact hk2 (hk.trans h))]
        rw [e]
        exact ⟨(none, 0, none, 0, none, 0, none, 0), M, (by repeat (first | exact trivial | refine ⟨rfl, ?_⟩))⟩
  clear M
  rintro ⟨Ap, cp, Av, cv, Ak, ck, Ah, ch⟩ E1 W1 M
  dsimp only at M
  obtain ⟨Y, hY⟩ : ∃ Y, Y = decF l := ⟨_, rfl⟩
  rw [← hY] at hsz
  unfold decQ
  rw [← hY]
  refine cutS (Option Addr × Nat × Option Addr × Nat × Option Addr × Nat × Option Addr × Nat) (fun s W => St w gs W [(g4, 26, ncs Y.1 s.1 s.2.1 s.2.2.1 s.2.2.2.1 s.2.2.2.2.1 s.2.2.2.2.2.1 s.2.2.2.2.2.2.1 s.2.2.2.2.2.2.2), (g2, 26, zN)] [] [.dat true (dN Y.1) (ncs Y.1 s.1 s.2.1 s.2.2.1 s.2.2.2.1 s.2.2.2.2.1 s.2.2.2.2.2.1 s.2.2.2.2.2.2.1 s.2.2.2.2.2.2.2)])
    (fun _ => [(2, .pointer (some ⟨g2, 0, none⟩)), (4, .pointer (some ⟨g4, 0, none⟩)), (5, .bool Y.2)]) ?_ ?_
  · refine p_len slb rfl ?_
    refine p_gt rfl rfl (fun h1 => ?_) (fun h1 => ?_)
    rotate_left
    · have h1 : ¬ 1 < l.length := fun e => h1 (by show (1 : Int) < ((l.length : Nat) : Int); omega)
      have e : Y = X := by rw [hY, hX]; unfold decF; rw [if_neg (fun h => h1 h.1)]
      rw [e]
      exact ⟨(Ap, cp, Av, cv, Ak, ck, Ah, ch), M.fsub _ (by simp), (by repeat (first | exact trivial | refine ⟨rfl, ?_⟩))⟩
    have h1 : 1 < l.length := by have h : (1 : Int) < ((l.length : Nat) : Int) := h1; omega
    obtain ⟨b, o, hA, hcell⟩ := (M.rdb 1 rfl).2.2.at_ (k := 0) (by omega)
    subst hA
    refine p_at (i := 0) slb rfl rfl rfl (by omega) ?_
    refine v_load agg_by' rfl (by rw [Addr.add_lit, Nat.zero_mul]; exact hcell) ?_
    refine p_eq rfl rfl (fun h3 => ?_) (fun h3 => ?_)
    rotate_left
    · have h3 : ¬ at8 l 0 = 3 := h3
      have e : Y = X := by rw [hY, hX]; unfold decF; rw [if_neg (fun h => h3 h.2)]
      rw [e]
      exact ⟨(Ap, cp, Av, cv, Ak, ck, Ah, ch), M.fsub _ (by simp), (by repeat (first | exact trivial | refine ⟨rfl, ?_⟩))⟩
    have h3 : at8 l 0 = 3 := h3
    have hXn : X = (noneN, decide (l.length = 1) && decide (at8 l 0 = 0)) := by rw [hX]; unfold startF; rw [if_neg (by rw [h3]; rintro ⟨-, h | h⟩ <;> cases h)]
    have hYb : Y = brF l := by rw [hY]; unfold decF; rw [if_pos ⟨h1, h3⟩]
    rw [hXn] at M
    dsimp only at M
    clear hX hXn hY h3 hcell
    refine p_fld fN0 rfl ?_
    refine s_set 0 (off := 0) (.int .i64 3) (ncs (.mk 3 [] false [] [] []) Ap cp Av cv Ak ck Ah ch) M rfl sz_intN rfl rfl rfl (Nat.le_of_ble_eq_true rfl) rfl ?_
    clear M; rintro W M
    dsimp only [setL] at M
    obtain ⟨b', o', hA, hcell⟩ := (M.rdb 1 rfl).2.2.at_ (k := 1) (by omega)
    injection hA with hA
    injection hA with hA hA'
    subst hA
    subst hA'
    obtain ⟨k, hk⟩ : ∃ k : Int, k = at8 l 1 := ⟨_, rfl⟩
    unfold brF at hYb
    rw [← hk] at hcell hYb
    refine p_at (i := 1) slb rfl rfl rfl (by omega) ?_
    refine v_load agg_by' rfl (by rw [Addr.add_lit, Nat.mul_one]; exact hcell) ?_
    have hcut := (M.d1 1 rfl).cutB (i := 2) (j := l.length) (m := c) (by omega) (Nat.le_refl _) hcap
    rw [List.take_of_length_le (by rw [List.length_drop]; omega)] at hcut
    replace M := M.addD hcut
    clear hcut
    refine p_eq rfl rfl (fun hh => ?_) (fun hh => ?_)
    · have hh : k = 1 := hh
      rw [if_pos hh] at hYb
      refine p_fld fN2 rfl ?_
      refine s_set 0 (off := 2) (.bool true) (ncs (.mk 3 [] true [] [] []) Ap cp Av cv Ak ck Ah ch) M rfl sz_boR rfl rfl rfl (Nat.le_of_ble_eq_true rfl) rfl ?_
      clear M hcell; rintro W M
      dsimp only [setL] at M
      refine p_slice (i := 2) (j := l.length) (m := c) slb rfl (bnd_i rfl) rfl rfl rfl (by omega) hcap (Nat.le_refl _) ?_
      obtain ⟨b', o', hA, hcell⟩ := (M.rdb 2 rfl).2.2.at_ (k := 1) (by omega)
      injection hA with hA
      injection hA with hA hA'
      subst hA
      subst hA'
      rw [← hk] at hcell
      refine p_at (i := 1) slb rfl rfl rfl (by omega) ?_
      refine v_load agg_by' rfl (by rw [Addr.add_lit, Nat.mul_one]; exact hcell) ?_
      refine p_le rfl rfl (fun _ => ?_) (fun h => absurd (show k ≤ 1 by omega) h)
      refine p_fld fN2 rfl ?_
      refine v_load agg_bo rfl ((M.B 0 rfl).at_ rfl) ?_
      have e0 := (M.d1 0 rfl).slen
      have ct := r7text_any (l.drop 2) _ _ _ _ _ (M.d1 0 rfl) M.olt (by omega)
      have hV1 := textF_le (l.drop 2)
      rw [List.length_drop] at hV1
      obtain ⟨V, hV⟩ : ∃ V, V = textF (l.drop 2) := ⟨_, rfl⟩
      rw [← hV] at ct hYb hV1
      clear hV
      obtain ⟨V1, V2, Vq⟩ := V
      dsimp only at ct hYb hV1
      refine cc is_r7text ct ?_
      clear ct
      rintro e W ⟨A4, n4, c4, A5, n5, c5, rfl, r1, r2, hb⟩
      have e4 := r1.slen
      subst e4
      have e5 := r2.slen
      replace M := (M.callF1 hb r1).addD r2
      clear r1 r2 hb
      refine ⟨_, rfl, ?_⟩
      refine p_fld fN3 rfl ?_
      refine s_set 0 (off := 3) (.slice A4 V1.length c4) (ncs (.mk 3 [] true V1 [] []) Ap cp A4 c4 Ak ck Ah ch) M rfl sz_slR rfl rfl rfl (Nat.le_of_ble_eq_true rfl) rfl ?_
      clear M; rintro W M
      dsimp only [setL] at M
      cases Vq with
      | false =>
        rw [hYb]
        unfold brG
        rw [Bool.false_and, if_neg (by decide)]
        exact ⟨(Ap, cp, A4, c4, Ak, ck, Ah, ch), (M.addT (RdL.ofnode (t := .mk 3 [] true V1 [] []) (M.dt 3 rfl).node6.1 (M.dt 1 rfl).hd (M.dt 3 rfl).node6.2.2.1 (M.dt 3 rfl).node6.2.2.2)).fsub _ (by simp), (by repeat (first | exact trivial | refine ⟨rfl, ?_⟩))⟩
      | true =>
        have hr0 := (M.d1 0 rfl).scap
        refine p_len slb rfl ?_
        refine p_ge rfl rfl (fun h2 => ?_) (fun h2 => ?_)
        rotate_left
        · have h2 : ¬ 2 ≤ (V2).length := fun e => h2 (by show (2 : Int) ≤ ((_ : Nat) : Int); have := (M.d1 0 rfl).slen; omega)
          rw [hYb]
          unfold brG
          rw [decide_eq_false h2, Bool.and_false, if_neg (by decide)]
          exact ⟨(Ap, cp, A4, c4, Ak, ck, Ah, ch), (M.addT (RdL.ofnode (t := .mk 3 [] true V1 [] []) (M.dt 3 rfl).node6.1 (M.dt 1 rfl).hd (M.dt 3 rfl).node6.2.2.1 (M.dt 3 rfl).node6.2.2.2)).fsub _ (by simp), (by repeat (first | exact trivial | refine ⟨rfl, ?_⟩))⟩
        have hrl := (M.d1 0 rfl).slen
        have h2 : 2 ≤ (V2).length := by have h : (2 : Int) ≤ ((_ : Nat) : Int) := h2; omega
        have hYc : Y = (.mk 3 [] true V1 (stubsF (setF (V2)) ((V2).drop 2)).1 [], (stubsF (setF (V2)) ((V2).drop 2)).2) := by
          rw [hYb]; unfold brG; rw [decide_eq_true h2, Bool.true_and, if_pos rfl]
        clear hYb
        have hst := setF_lt (V2)
        have hcut := (M.d1 0 rfl).cutB (i := 2) (j := n5) (m := c5) (by omega) (Nat.le_refl _) hr0
        rw [List.take_of_length_le (by rw [List.length_drop]; omega)] at hcut
        replace M := M.addD hcut
        clear hcut
        obtain ⟨b2, o2, hA2, M'⟩ := M.at8c (M.d1 (0 + 1) rfl) (i := 0) (by omega)
        replace M := M'; clear M'
        obtain ⟨b3, o3, hA3, M'⟩ := M.at8c (M.d1 (0 + 2) rfl) (i := 1) (by omega)
        replace M := M'; clear M'
        have hbo := hA2.symm.trans hA3
        injection hbo with hbo
        injection hbo with hbo hbo'
        subst hbo
        subst hbo'
        replace M := M.drew
        have e80 : at8 (V2) 0 = (((V2).getD 0 0).toNat : Int) := rfl
        have e81 : at8 (V2) 1 = (((V2).getD 1 0).toNat : Int) := rfl
        have l80 := ((V2).getD 0 0).toNat_lt
        have l81 := ((V2).getD 1 0).toNat_lt
        refine drT (Kp w gs [] [.loc ((⟨b2, o2, none⟩ : Addr).add (1 * 1)) [.int .u8 (at8 (V2) 1)], .loc ((⟨b2, o2, none⟩ : Addr).add (0 * 1)) [.int .u8 (at8 (V2) 0)]]) (.take 0 (.take 1 (.take 2 (.take 3 (.take 4 (.take 5 (.take 6 (.take 7 (.take 8 (.take 9 (.take 10 (.take 11 (.one 12 (.take 13 (.take 14 (.take 15 (.take 16 (.one 17 (.take 18 (.nil)))))))))))))))))))) (by kernel_rfl) (M.kp (by simp) (by simp)) ?_
        refine p_at (i := 0) slb (by show (Value.slice (A5) (n5) (c5)) = _; rw [hA2]) rfl rfl (by omega) ?_
        refine t_load agg_by' rfl (fun W K => K.lc 1 rfl 0 _ rfl) ?_
        refine t_cvt u_u8r u_intr rfl (r := at8 (V2) 0) (w64 (by omega)) ?_
        refine p_mul rfl rfl (r := 256 * at8 (V2) 0) (w64 (by omega)) ?_
        refine p_at (i := 1) slb (by show (Value.slice (A5) (n5) (c5)) = _; rw [hA2]) rfl rfl (by omega) ?_
        refine t_load agg_by' rfl (fun W K => K.lc 0 rfl 0 _ rfl) ?_
        refine t_cvt u_u8r u_intr rfl (r := at8 (V2) 1) (w64 (by omega)) ?_
        refine p_add rfl rfl (r := ((setF (V2) : Nat) : Int)) ((w64 (by omega)).trans (by unfold setF; omega)) ?_
        refine p_slice (i := 2) (j := n5) (m := c5) slb rfl (bnd_i rfl) rfl rfl rfl (by omega) hr0 (Nat.le_refl _) ?_
        have ct := r7stubs_any (setF (V2)) hst ((V2).drop 2) _ _ _ _ _ (M.d1 2 rfl) M.olt (by omega)
        obtain ⟨S, hS1⟩ : ∃ S, S = stubsF (setF (V2)) ((V2).drop 2) := ⟨_, rfl⟩
        rw [← hS1] at ct hYc
        clear hS1
        obtain ⟨S1, Sq⟩ := S
        dsimp only at ct hYc
        refine cc is_r7stubs ct ?_
        clear ct
        rintro e W ⟨A6, c6, rfl, r1, hb⟩
        replace M := M.callF1 hb r1
        clear r1 hb
        refine ⟨_, rfl, (M.kp (by simp) (by simp)), ?_⟩
        refine p_fld fN4 rfl ?_
        refine s_set 0 (off := 4) (.slice A6 S1.length c6) (ncs (.mk 3 [] true V1 S1 []) Ap cp A4 c4 A6 c6 Ah ch) M rfl sz_nsR rfl rfl rfl (Nat.le_of_ble_eq_true rfl) rfl ?_
        clear M; rintro W M
        dsimp only [setL] at M
        refine ⟨(M.kp (by simp) (by simp)), ?_⟩
        rw [hYc]
        exact ⟨(Ap, cp, A4, c4, A6, c6, Ah, ch), (M.addT (RdL.ofnode (t := .mk 3 [] true V1 S1 []) (M.dt 7 rfl).node6.1 (M.dt 5 rfl).hd (M.dt 0 rfl).hd (M.dt 7 rfl).node6.2.2.2)).fsub _ (by simp), (by repeat (first | exact trivial | refine ⟨rfl, ?_⟩))⟩
    · have hh : ¬ k = 1 := hh
      rw [if_neg hh] at hYb
      refine p_fld fN2 rfl ?_
      refine s_set 0 (off := 2) (.bool false) (ncs (.mk 3 [] false [] [] []) Ap cp Av cv Ak ck Ah ch) M rfl sz_boR rfl rfl rfl (Nat.le_of_ble_eq_true rfl) rfl ?_
      clear M hcell; rintro W M
      dsimp only [setL] at M
      refine p_slice (i := 2) (j := l.length) (m := c) slb rfl (bnd_i rfl) rfl rfl rfl (by omega) hcap (Nat.le_refl _) ?_
      obtain ⟨b', o', hA, hcell⟩ := (M.rdb 2 rfl).2.2.at_ (k := 1) (by omega)
      injection hA with hA
      injection hA with hA hA'
      subst hA
      subst hA'
      rw [← hk] at hcell
      refine p_at (i := 1) slb rfl rfl rfl (by omega) ?_
      refine v_load agg_by' rfl (by rw [Addr.add_lit, Nat.mul_one]; exact hcell) ?_
      have e0 := (M.d1 0 rfl).slen
      refine p_le rfl rfl (fun h => ?_) (fun h => ?_)
      · have h : k ≤ 1 := h
        rw [decide_eq_true h] at hYb
        refine p_fld fN2 rfl ?_
        refine v_load agg_bo rfl ((M.B 0 rfl).at_ rfl) ?_
        have hr0 := (M.d1 0 rfl).scap
        refine p_len slb rfl ?_
        refine p_ge rfl rfl (fun h2 => ?_) (fun h2 => ?_)
        rotate_left
        · have h2 : ¬ 2 ≤ ((l.drop 2)).length := fun e => h2 (by show (2 : Int) ≤ ((_ : Nat) : Int); have := (M.d1 0 rfl).slen; omega)
          rw [hYb]
          unfold brG
          rw [decide_eq_false h2, Bool.and_false, if_neg (by decide)]
          exact ⟨(Ap, cp, Av, cv, Ak, ck, Ah, ch), (M.addT (RdL.ofnode (t := .mk 3 [] false [] [] []) (M.dt 1 rfl).node6.1 (M.dt 1 rfl).node6.2.1 (M.dt 1 rfl).node6.2.2.1 (M.dt 1 rfl).node6.2.2.2)).fsub _ (by simp), (by repeat (first | exact trivial | refine ⟨rfl, ?_⟩))⟩
        have hrl := (M.d1 0 rfl).slen
        have h2 : 2 ≤ ((l.drop 2)).length := by have h : (2 : Int) ≤ ((_ : Nat) : Int) := h2; omega
        have hYc : Y = (.mk 3 [] false [] (stubsF (setF ((l.drop 2))) (((l.drop 2)).drop 2)).1 [], (stubsF (setF ((l.drop 2))) (((l.drop 2)).drop 2)).2) := by
          rw [hYb]; unfold brG; rw [decide_eq_true h2, Bool.true_and, if_pos rfl]
        clear hYb
        have hst := setF_lt ((l.drop 2))
        have hcut := (M.d1 0 rfl).cutB (i := 2) (j := (l.length - 2)) (m := (c - 2)) (by omega) (Nat.le_refl _) hr0
        rw [List.take_of_length_le (by rw [List.length_drop]; omega)] at hcut
        replace M := M.addD hcut
        clear hcut
        obtain ⟨b2, o2, hA2, M'⟩ := M.at8c (M.d1 (0 + 1) rfl) (i := 0) (by omega)
        replace M := M'; clear M'
        obtain ⟨b3, o3, hA3, M'⟩ := M.at8c (M.d1 (0 + 2) rfl) (i := 1) (by omega)
        replace M := M'; clear M'
        have hbo := hA2.symm.trans hA3
        injection hbo with hbo
        injection hbo with hbo hbo'
        subst hbo
        subst hbo'
        replace M := M.drew
        have e80 : at8 ((l.drop 2)) 0 = ((((l.drop 2)).getD 0 0).toNat : Int) := rfl
        have e81 : at8 ((l.drop 2)) 1 = ((((l.drop 2)).getD 1 0).toNat : Int) := rfl
        have l80 := (((l.drop 2)).getD 0 0).toNat_lt
        have l81 := (((l.drop 2)).getD 1 0).toNat_lt
        refine drT (Kp w gs [] [.loc ((⟨b2, o2, none⟩ : Addr).add (1 * 1)) [.int .u8 (at8 ((l.drop 2)) 1)], .loc ((⟨b2, o2, none⟩ : Addr).add (0 * 1)) [.int .u8 (at8 ((l.drop 2)) 0)]]) (.take 0 (.take 1 (.take 2 (.take 3 (.take 4 (.take 5 (.take 6 (.take 7 (.take 8 (.take 9 (.take 10 (.take 11 (.one 12 (.take 13 (.take 14 (.take 15 (.take 16 (.one 17 (.take 18 (.nil)))))))))))))))))))) (by kernel_rfl) (M.kp (by simp) (by simp)) ?_
        refine p_at (i := 0) slb (by show (Value.slice ((slA (some ⟨b, o, none⟩) c 2 1)) ((l.length - 2)) ((c - 2))) = _; rw [hA2]) rfl rfl (by omega) ?_
        refine t_load agg_by' rfl (fun W K => K.lc 1 rfl 0 _ rfl) ?_
        refine t_cvt u_u8r u_intr rfl (r := at8 ((l.drop 2)) 0) (w64 (by omega)) ?_
        refine p_mul rfl rfl (r := 256 * at8 ((l.drop 2)) 0) (w64 (by omega)) ?_
        refine p_at (i := 1) slb (by show (Value.slice ((slA (some ⟨b, o, none⟩) c 2 1)) ((l.length - 2)) ((c - 2))) = _; rw [hA2]) rfl rfl (by omega) ?_
        refine t_load agg_by' rfl (fun W K => K.lc 0 rfl 0 _ rfl) ?_
        refine t_cvt u_u8r u_intr rfl (r := at8 ((l.drop 2)) 1) (w64 (by omega)) ?_
        refine p_add rfl rfl (r := ((setF ((l.drop 2)) : Nat) : Int)) ((w64 (by omega)).trans (by unfold setF; omega)) ?_
        refine p_slice (i := 2) (j := (l.length - 2)) (m := (c - 2)) slb rfl (bnd_i rfl) rfl rfl rfl (by omega) hr0 (Nat.le_refl _) ?_
        have ct := r7stubs_any (setF ((l.drop 2))) hst (((l.drop 2)).drop 2) _ _ _ _ _ (M.d1 2 rfl) M.olt (by omega)
        obtain ⟨S, hS1⟩ : ∃ S, S = stubsF (setF ((l.drop 2))) (((l.drop 2)).drop 2) := ⟨_, rfl⟩
        rw [← hS1] at ct hYc
        clear hS1
        obtain ⟨S1, Sq⟩ := S
        dsimp only at ct hYc
        refine cc is_r7stubs ct ?_
        clear ct
        rintro e W ⟨A6, c6, rfl, r1, hb⟩
        replace M := M.callF1 hb r1
        clear r1 hb
        refine ⟨_, rfl, (M.kp (by simp) (by simp)), ?_⟩
        refine p_fld fN4 rfl ?_
        refine s_set 0 (off := 4) (.slice A6 S1.length c6) (ncs (.mk 3 [] false [] S1 []) Ap cp Av cv A6 c6 Ah ch) M rfl sz_nsR rfl rfl rfl (Nat.le_of_ble_eq_true rfl) rfl ?_
        clear M; rintro W M
        dsimp only [setL] at M
        refine ⟨(M.kp (by simp) (by simp)), ?_⟩
        rw [hYc]
        exact ⟨(Ap, cp, Av, cv, A6, c6, Ah, ch), (M.addT (RdL.ofnode (t := .mk 3 [] false [] S1 []) (M.dt 5 rfl).node6.1 (M.dt 5 rfl).node6.2.1 (M.dt 0 rfl).hd (M.dt 5 rfl).node6.2.2.2)).fsub _ (by simp), (by repeat (first | exact trivial | refine ⟨rfl, ?_⟩))⟩
      · have h : ¬ k ≤ 1 := h
        rw [decide_eq_false h] at hYb
        rw [hYb]
        unfold brG
        rw [Bool.false_and, if_neg (by decide)]
        exact ⟨(Ap, cp, Av, cv, Ak, ck, Ah, ch), (M.addT (RdL.ofnode (t := .mk 3 [] false [] [] []) (M.dt 1 rfl).node6.1 (M.dt 1 rfl).node6.2.1 (M.dt 1 rfl).node6.2.2.1 (M.dt 1 rfl).node6.2.2.2)).fsub _ (by simp), (by repeat (first | exact trivial | refine ⟨rfl, ?_⟩))⟩
  clear M
  rintro ⟨Bp, dp, Bv, dv, Bk, dk, Bh, dh⟩ E2 W2 M
  dsimp only at M
  clear hY hX
  obtain ⟨Yt, Yq⟩ := Y
  dsimp only at M hsz ⊢
  refine p_not rfl ?_
  cases Yq with
  | false =>
    rw [if_neg (fun h => by cases h.1)]
    refine p_build (vs := zN) pl_nd z_nd rfl ?_
    refine s_storeA 1 zN M rfl sz_nd rfl rfl rfl (all1 rfl) rfl ?_
    clear M; rintro W M
    dsimp only [setL] at M
    refine c_loadN zN agg_nd rfl rfl (M.run 1 rfl) ?_
    exact ⟨zN, rfl, RdL.znone, M.below⟩
  | true =>
  refine v_loadN (ncs Yt Bp dp Bv dv Bk dk Bh dh) agg_nd rfl rfl (M.run 0 rfl) ?_
  have cr := rright_any 1000000000 (Nat.le_refl _) Yt (by omega) _ _ _ 0 false (M.da 0 rfl) M.olt (by omega)
  obtain ⟨rq, hrq⟩ : ∃ rq, rq = rightP false Yt 0 := ⟨_, rfl⟩
  rw [← hrq] at cr ⊢
  refine cc is_r7right cr ?_
  rintro e W ⟨rfl, hb⟩
  replace M := M.call hb
  clear hb cr
  refine ⟨_, rfl, ?_⟩
  refine p_not rfl ?_
  cases rq with
  | false =>
    rw [if_neg (fun h => by cases h.2)]
    refine p_build (vs := zN) pl_nd z_nd rfl ?_
    refine s_storeA 1 zN M rfl sz_nd rfl rfl rfl (all1 rfl) rfl ?_
    clear M; rintro W M
    dsimp only [setL] at M
    refine c_loadN zN agg_nd rfl rfl (M.run 1 rfl) ?_
    exact ⟨zN, rfl, RdL.znone, M.below⟩
  | true =>
  rw [if_pos ⟨rfl, rfl⟩]
  refine v_loadN (ncs Yt Bp dp Bv dv Bk dk Bh dh) agg_nd rfl rfl (M.run 0 rfl) ?_
  refine s_storeA 1 (ncs Yt Bp dp Bv dv Bk dk Bh dh) M rfl sz_nd rfl rfl rfl ((M.da 0 rfl).ones (dN_one _)) rfl ?_
  clear M; rintro W M
  dsimp only [setL] at M
  refine c_loadN (ncs Yt Bp dp Bv dv Bk dk Bh dh) agg_nd rfl rfl (M.run 1 rfl) ?_
  exact ⟨_, rfl, M.finF 0 rfl, M.below⟩
end Go.Proofs.YtojjfkbffjkojaaDoor
