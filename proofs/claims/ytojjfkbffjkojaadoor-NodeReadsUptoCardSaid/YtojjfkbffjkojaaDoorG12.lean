/- Package node: the reader's methods. -/
import Derived.Test.YtojjfkbffjkojaaDoorG11
import Derived.Test.YtojjfkbffjkojaaDoorG09
namespace Go.Proofs.YtojjfkbffjkojaaDoor
open Go.RowKit
/-- What a reader has left, and whether something was wrong. -/
structure RS where
  l : List UInt8
  bad : Bool
def cutP (k : Nat) (s : RS) : List UInt8 × RS := if s.l.length < k then ([], ⟨[], true⟩) else (s.l.take k, ⟨s.l.drop k, s.bad⟩)
def textP (s : RS) : List UInt8 × RS := (gbL s.l 0, ⟨s.l.drop (gbTo s.l 0).toNat, s.bad || decide (gbE s.l 0 ≠ 0)⟩)
def stubN (h : List UInt8) : Nd := .mk 4 [] false [] [] h
def bitB (set : List UInt8) (i : Nat) : Bool := decide ((set.getD (i / 8) 0).toNat / 2 ^ (7 - i % 8) % 2 = 1)
def kidsR (set : List UInt8) : Nat → Nat → RS → List Nd × RS
  | 0, _, s => ([], s)
  | n + 1, i, s => if s.bad = false ∧ bitB set i = true then (stubN (cutP 32 s).1 :: (kidsR set n (i + 1) (cutP 32 s).2).1, (kidsR set n (i + 1) (cutP 32 s).2).2)
    else (noneN :: (kidsR set n (i + 1) s).1, (kidsR set n (i + 1) s).2)
def leafR (c : List UInt8 × RS) (k : Int) : Nd × RS :=
  let t := textP c.2
  let s3 : RS := ⟨t.2.l, t.2.bad || (decide (unpackE t.1 ≠ 0) || decide (unpackB t.1 ≠ decide (k = 1)))⟩
  if k = 2 then (.mk k (unpackL t.1) false [] [stubN (cutP 32 s3).1] [], (cutP 32 s3).2)
  else (.mk k (unpackL t.1) false (textP s3).1 [] [], (textP s3).2)
def hasR (h : List UInt8) : Bool := decide (h.length = 1) && decide (at8 h 0 = 1)
def valR (has : Bool) (s : RS) : List UInt8 × RS := if has = true then textP s else ([], s)
def brR (c : List UInt8 × RS) (k : Int) : Nd × RS :=
  let h := cutP 1 c.2
  let v := valR (hasR h.1) h.2
  let st := cutP 2 v.2
  let ks := kidsR st.1 16 0 st.2
  (.mk k [] (hasR h.1) v.1 ks.1 [], ks.2)
def nodeR (s : RS) : Nd × RS :=
  let c := cutP 1 s
  if c.2.bad = true then (noneN, c.2) else
  if at8 c.1 0 = 1 ∨ at8 c.1 0 = 2 then leafR c (at8 c.1 0) else if at8 c.1 0 = 3 then brR c (at8 c.1 0) else (.mk (at8 c.1 0) [] false [] [] [], c.2)
theorem cutP_ok {k : Nat} {s : RS} (h : (cutP k s).2.bad = false) : (cutP k s).1.length = k := by
  unfold cutP at h ⊢
  split at h
  · cases h
  · rename_i hl
    rw [if_neg hl]
    dsimp only
    rw [List.length_take]; omega
theorem cutP_le (k : Nat) (s : RS) : (cutP k s).2.l.length ≤ s.l.length ∧ (cutP k s).1.length ≤ s.l.length := by
  unfold cutP
  split
  · simp
  · simp [List.length_drop, List.length_take]; omega
theorem gbTo_le (l : List UInt8) : 0 ≤ gbTo l 0 ∧ gbTo l 0 ≤ (l.length : Int) := by
  by_cases h : gbE l 0 = 0
  · have := gb_to h; omega
  · unfold gbTo; rw [if_neg h]; omega
theorem textP_le (s : RS) : (textP s).2.l.length ≤ s.l.length ∧ (textP s).1.length ≤ s.l.length := by
  unfold textP
  dsimp only
  rw [List.length_drop]
  refine ⟨by omega, ?_⟩
  unfold gbL
  split
  · rw [List.length_take, List.length_drop]; omega
  · simp
theorem pl_rd : placesOf Tryd.prog 85 = some [(0, 1), (1, 1)] := by kernel_rfl
theorem z_rd : zeroOf Tryd.prog 85 = some [.slice none 0 0, .bool false] := by kernel_rfl
theorem fr0 : fieldOff Tryd.prog 85 0 = some 0 := by kernel_rfl
theorem fr1 : fieldOff Tryd.prog 85 1 = some 1 := by kernel_rfl
theorem sz_boR : (Tryd.prog.info? 4).map (·.size) = some 1 := by kernel_rfl
theorem sz_slR : (Tryd.prog.info? 23).map (·.size) = some 1 := by kernel_rfl
theorem sz_nsR : (Tryd.prog.info? 24).map (·.size) = some 1 := by kernel_rfl
theorem is_rcut : isFn Tryd.prog 86 = true := by kernel_rfl
theorem is_rtext : isFn Tryd.prog 88 = true := by kernel_rfl
theorem is_rstub : isFn Tryd.prog 89 = true := by kernel_rfl
theorem is_rnode : isFn Tryd.prog 67 = true := by kernel_rfl
theorem is_ngb : isFn Tryd.prog 106 = true := by kernel_rfl
theorem is_nup : isFn Tryd.prog 87 = true := by kernel_rfl
section
variable {w W : World} {gs : List (Option Nat)} {g : Nat} {L : Lc} {R : List Row} {fs : List Fact} {A : Option Addr} {n c : Nat} {l : List UInt8} {bad : Bool}
set_option maxRecDepth 100000 in
set_option maxHeartbeats 2000000 in
theorem rcut_any (k : Nat) (M : St w gs W ((g, 85, [.slice A n c, .bool bad]) :: L) R fs) (h : RdD W (Fd W (own ((g, 85, [.slice A n c, .bool bad]) :: L) R gs)) (dB l) (.slice A n c)) (hz : n ≤ 1000000000) :
    Calls Tryd.prog 86 #[.pointer (some ⟨g, 0, none⟩), .int .i64 k] W fun e W' => ∃ A1 n1 c1 A2 n2 c2, e = .returned (.slice A1 n1 c1) ∧
      St w gs W' ((g, 85, [.slice A2 n2 c2, .bool (cutP k ⟨l, bad⟩).2.bad]) :: L) R (.dat false [dB (cutP k ⟨l, bad⟩).1] [.slice A1 n1 c1] :: .dat false [dB (cutP k ⟨l, bad⟩).2.l] [.slice A2 n2 c2] :: fs) := by
  refine calls_ev (args := [.pointer (some ⟨g, 0, none⟩), .int .i64 k]) mixed Tryd.func86 rfl (by kernel_rfl) ?_
  have en := h.slen
  have hcap := h.scap
  replace M := M.addD h
  refine p_nil rfl ?_
  refine p_fld fr0 rfl ?_
  refine v_load agg_b rfl ((M.B 0 rfl).at_ rfl) ?_
  refine p_len slb rfl ?_
  refine p_gt rfl rfl (fun hgt => ?_) (fun hgt => ?_)
  · have e : cutP k ⟨l, bad⟩ = ([], ⟨[], true⟩) := by unfold cutP; rw [if_pos (by dsimp only; omega)]
    rw [e]
    refine p_nil rfl ?_
    refine p_fld fr1 rfl ?_
    refine s_set 0 (off := 1) (.bool true) [.slice A n c, .bool true] M rfl sz_boR rfl rfl rfl (Nat.le_of_ble_eq_true rfl) rfl ?_
    clear M; rintro W M
    dsimp only [setL] at M
    refine p_nil rfl ?_
    refine p_fld fr0 rfl ?_
    refine s_set 0 (off := 0) (.slice none 0 0) [.slice none 0 0, .bool true] M rfl sz_slR rfl rfl rfl (Nat.le_of_ble_eq_true rfl) rfl ?_
    clear M; rintro W M
    dsimp only [setL] at M
    exact ⟨none, 0, 0, none, 0, 0, rfl, ((M.addD (d := dB []) (RdD.nil_ (s := 1) none 0)).addD (d := dB []) (RdD.nil_ (s := 1) none 0)).fsub _ (by intro f hf; simp only [List.mem_cons] at hf ⊢; rcases hf with h | h | h <;> simp [h])⟩
  · have e : cutP k ⟨l, bad⟩ = (l.take k, ⟨l.drop k, bad⟩) := by unfold cutP; rw [if_neg (by dsimp only; omega)]
    rw [e]
    have hkn : k ≤ n := by omega
    have h1 := (M.d1 0 rfl).cutB (i := 0) (j := k) (m := k) (Nat.zero_le _) hkn (Nat.le_refl _)
    have h2 := (M.d1 0 rfl).cutB (i := k) (j := n) (m := c) hkn (Nat.le_refl _) hcap
    rw [List.drop_zero, Nat.sub_zero] at h1
    rw [List.take_of_length_le (by rw [List.length_drop]; omega)] at h2
    refine p_nil rfl ?_
    refine p_fld fr0 rfl ?_
    refine v_load agg_b rfl ((M.B 0 rfl).at_ rfl) ?_
    refine p_slice (i := 0) (j := k) (m := k) slb rfl rfl (bnd_i rfl) (bnd_i rfl) rfl (Nat.zero_le _) (Nat.le_refl _) (by omega) ?_
    rw [Nat.sub_zero]
    replace M := (M.addD h2).addD h1
    refine p_nil rfl ?_
    refine p_fld fr0 rfl ?_
    refine v_load agg_b rfl ((M.B 0 rfl).at_ rfl) ?_
    refine p_slice (i := k) (j := n) (m := c) slb rfl (bnd_i rfl) rfl rfl rfl hkn hcap (Nat.le_refl _) ?_
    refine p_nil rfl ?_
    refine p_fld fr0 rfl ?_
    refine s_set 0 (off := 0) (.slice (slA A c k 1) (n - k) (c - k)) [.slice (slA A c k 1) (n - k) (c - k), .bool bad] M rfl sz_slR rfl rfl rfl (Nat.le_of_ble_eq_true rfl) rfl ?_
    clear M; rintro W M
    dsimp only [setL] at M
    exact ⟨_, _, _, _, _, _, rfl, M.fsub _ (by intro f hf; simp only [List.mem_cons] at hf ⊢; rcases hf with h | h | h <;> simp [h])⟩
set_option maxRecDepth 100000 in
set_option maxHeartbeats 2000000 in
theorem rtext_any (M : St w gs W ((g, 85, [.slice A n c, .bool bad]) :: L) R fs) (h : RdD W (Fd W (own ((g, 85, [.slice A n c, .bool bad]) :: L) R gs)) (dB l) (.slice A n c)) (hz : n ≤ 1000000000) :
    Calls Tryd.prog 88 #[.pointer (some ⟨g, 0, none⟩)] W fun e W' => ∃ A1 n1 c1 A2 n2 c2, e = .returned (.slice A1 n1 c1) ∧
      St w gs W' ((g, 85, [.slice A2 n2 c2, .bool (textP ⟨l, bad⟩).2.bad]) :: L) R (.dat true [dB (textP ⟨l, bad⟩).1] [.slice A1 n1 c1] :: .dat false [dB (textP ⟨l, bad⟩).2.l] [.slice A2 n2 c2] :: fs) := by
  refine calls_ev (args := [.pointer (some ⟨g, 0, none⟩)]) mixed Tryd.func88 rfl (by kernel_rfl) ?_
  have en := h.slen
  have hcap := h.scap
  have hto := gbTo_le l
  obtain ⟨K, hK⟩ : ∃ K : Nat, gbTo l 0 = (K : Int) := ⟨(gbTo l 0).toNat, by omega⟩
  replace M := M.addD h
  refine p_nil rfl ?_
  refine p_fld fr0 rfl ?_
  refine v_load agg_b rfl ((M.B 0 rfl).at_ rfl) ?_
  refine cc is_ngb (getBytes_any A n c 0 l _ (M.rdb 0 rfl).2.2 (by omega) hcap) ?_
  rintro e W ⟨A1, n1, c1, rfl, o, hb⟩
  replace M := M.callO hb o
  clear o hb
  rw [hK]
  refine ⟨_, rfl, ?_⟩
  have e1 : textP ⟨l, bad⟩ = (gbL l 0, ⟨l.drop K, bad || decide (gbE l 0 ≠ 0)⟩) := by unfold textP; rw [hK, Int.toNat_natCast]
  rw [e1]
  have hkn : K ≤ n := by omega
  have h2 := (M.d1 1 rfl).cutB (i := K) (j := n) (m := c) hkn (Nat.le_refl _) hcap
  rw [List.take_of_length_le (by rw [List.length_drop]; omega)] at h2
  replace M := (M.addD h2).fsub (.dat true [dB (gbL l 0)] [.slice A1 n1 c1] :: .dat false [dB (l.drop K)] [.slice (slA A c K 1) (n - K) (c - K)] :: fs) (by intro f hf; simp only [List.mem_cons] at hf ⊢; rcases hf with h | h | h <;> simp [h])
  refine p_nil rfl ?_
  refine p_fld fr1 rfl ?_
  refine v_load agg_bo rfl ((M.B 0 rfl).at_ rfl) ?_
  cases bad with
  | true =>
    dsimp only [Bool.true_or]
    refine p_nil rfl ?_
    refine p_fld fr1 rfl ?_
    refine s_set 0 (off := 1) (.bool true) [.slice A n c, .bool true] M rfl sz_boR rfl rfl rfl (Nat.le_of_ble_eq_true rfl) rfl ?_
    clear M; rintro W M
    dsimp only [setL] at M
    refine p_nil rfl ?_
    refine p_fld fr0 rfl ?_
    refine v_load agg_b rfl ((M.B 0 rfl).at_ rfl) ?_
    refine p_slice (i := K) (j := n) (m := c) slb rfl (bnd_i rfl) rfl rfl rfl hkn hcap (Nat.le_refl _) ?_
    refine p_nil rfl ?_
    refine p_fld fr0 rfl ?_
    refine s_set 0 (off := 0) (.slice (slA A c K 1) (n - K) (c - K)) [.slice (slA A c K 1) (n - K) (c - K), .bool true] M rfl sz_slR rfl rfl rfl (Nat.le_of_ble_eq_true rfl) rfl ?_
    clear M; rintro W M
    dsimp only [setL] at M
    exact ⟨_, _, _, _, _, _, rfl, M⟩
  | false =>
    dsimp only [Bool.false_or]
    refine p_ne rfl rfl (fun h0 => ?_) (fun h0 => ?_)
    · rw [decide_eq_false (fun h => h h0)]
      refine p_nil rfl ?_
      refine p_fld fr1 rfl ?_
      refine s_set 0 (off := 1) (.bool false) [.slice A n c, .bool false] M rfl sz_boR rfl rfl rfl (Nat.le_of_ble_eq_true rfl) rfl ?_
      clear M; rintro W M
      dsimp only [setL] at M
      refine p_nil rfl ?_
      refine p_fld fr0 rfl ?_
      refine v_load agg_b rfl ((M.B 0 rfl).at_ rfl) ?_
      refine p_slice (i := K) (j := n) (m := c) slb rfl (bnd_i rfl) rfl rfl rfl hkn hcap (Nat.le_refl _) ?_
      refine p_nil rfl ?_
      refine p_fld fr0 rfl ?_
      refine s_set 0 (off := 0) (.slice (slA A c K 1) (n - K) (c - K)) [.slice (slA A c K 1) (n - K) (c - K), .bool false] M rfl sz_slR rfl rfl rfl (Nat.le_of_ble_eq_true rfl) rfl ?_
      clear M; rintro W M
      dsimp only [setL] at M
      exact ⟨_, _, _, _, _, _, rfl, M⟩
    · rw [decide_eq_true h0]
      refine p_nil rfl ?_
      refine p_fld fr1 rfl ?_
      refine s_set 0 (off := 1) (.bool true) [.slice A n c, .bool true] M rfl sz_boR rfl rfl rfl (Nat.le_of_ble_eq_true rfl) rfl ?_
      clear M; rintro W M
      dsimp only [setL] at M
      refine p_nil rfl ?_
      refine p_fld fr0 rfl ?_
      refine v_load agg_b rfl ((M.B 0 rfl).at_ rfl) ?_
      refine p_slice (i := K) (j := n) (m := c) slb rfl (bnd_i rfl) rfl rfl rfl hkn hcap (Nat.le_refl _) ?_
      refine p_nil rfl ?_
      refine p_fld fr0 rfl ?_
      refine s_set 0 (off := 0) (.slice (slA A c K 1) (n - K) (c - K)) [.slice (slA A c K 1) (n - K) (c - K), .bool true] M rfl sz_slR rfl rfl rfl (Nat.le_of_ble_eq_true rfl) rfl ?_
      clear M; rintro W M
      dsimp only [setL] at M
      exact ⟨_, _, _, _, _, _, rfl, M⟩
theorem St.drop2 {x y : Nat × TypeId × List Value} (M : St w gs W (x :: y :: L) R fs) : St w gs W (x :: L) R fs := M.swp.dropL
set_option maxRecDepth 100000 in
set_option maxHeartbeats 2000000 in
theorem rstub_any (M : St w gs W ((g, 85, [.slice A n c, .bool bad]) :: L) R fs) (h : RdD W (Fd W (own ((g, 85, [.slice A n c, .bool bad]) :: L) R gs)) (dB l) (.slice A n c)) (hz : n ≤ 100000000) :
    Calls Tryd.prog 89 #[.pointer (some ⟨g, 0, none⟩)] W fun e W' => ∃ As cs A2 n2 c2, e = .returned (.agg (ncs (stubN (cutP 32 ⟨l, bad⟩).1) none 0 none 0 none 0 As cs).toArray) ∧
      St w gs W' ((g, 85, [.slice A2 n2 c2, .bool (cutP 32 ⟨l, bad⟩).2.bad]) :: L) R (.dat true (dN (stubN (cutP 32 ⟨l, bad⟩).1)) (ncs (stubN (cutP 32 ⟨l, bad⟩).1) none 0 none 0 none 0 As cs) :: .dat false [dB (cutP 32 ⟨l, bad⟩).2.l] [.slice A2 n2 c2] :: fs) := by
  refine calls_ev (args := [.pointer (some ⟨g, 0, none⟩)]) mixed Tryd.func89 rfl (by kernel_rfl) ?_
  have en := h.slen
  have hle := cutP_le 32 ⟨l, bad⟩
  replace M := M.addD h
  refine s_alloc (zN) M al_nd ?_
  clear M
  rintro g2 W M
  replace M := M.swp
  refine cc is_rcut (rcut_any 32 M (M.d1 0 rfl) (by omega)) ?_
  clear M
  rintro e W ⟨A1, n1, c1, A2, n2, c2, rfl, M⟩
  refine ⟨_, rfl, ?_⟩
  have e1 := (M.d1 0 rfl).slen
  obtain ⟨H, hH⟩ : ∃ H, H = cutP 32 ⟨l, bad⟩ := ⟨_, rfl⟩
  rw [← hH] at M e1 hle ⊢
  dsimp only at hle
  refine cc is_bclone (bclone_any _ _ _ _ H.1 _ (M.d1 0 rfl) (by omega)) ?_
  rintro e W ⟨A7, c7, rfl, o7, -, hb⟩
  have e7 := o7.len
  replace M := M.callO hb o7
  clear o7 hb
  refine ⟨_, rfl, ?_⟩
  subst e7
  refine p_build (vs := ncs (stubN H.1) none 0 none 0 none 0 A7 c7) pl_nd z_nd rfl ?_
  refine s_storeA 1 (ncs (stubN H.1) none 0 none 0 none 0 A7 c7) M rfl sz_nd rfl rfl rfl (all1 rfl) rfl ?_
  clear M; rintro W M
  dsimp only [setL] at M
  refine c_loadN (ncs (stubN H.1) none 0 none 0 none 0 A7 c7) agg_nd rfl rfl (M.run 1 rfl) ?_
  have hn : RdL W (Ft w W (own ((g, 85, [.slice A2 n2 c2, .bool H.2.bad]) :: (g2, 26, ncs (stubN H.1) none 0 none 0 none 0 A7 c7) :: L) R gs) true) (dN (stubN H.1)) (ncs (stubN H.1) none 0 none 0 none 0 A7 c7) := RdL.ofnode (t := stubN H.1) (RdD.nil_ _ _) (RdD.nil_ _ _) (RdD.nil_ _ _) (M.dt 0 rfl).hd
  exact ⟨A7, c7, A2, n2, c2, rfl, ((M.addT hn).drop2).fsub _ (by intro f hf; simp only [List.mem_cons] at hf ⊢; rcases hf with h | h | h <;> simp [h])⟩
theorem and1 {x : Nat} (h : x < 256) : bits .and .u8 (x : Int) 1 = ((x % 2 : Nat) : Int) := by
  have key : ∀ y : Fin 256, bits .and .u8 ((y.val : Nat) : Int) 1 = ((y.val % 2 : Nat) : Int) := by decide +kernel
  exact key ⟨x, h⟩
theorem shr7 {x j : Nat} (hj : j ≤ 7) : (x : Int).fdiv (2 ^ (min ((j : Nat) : Int).toNat IntKind.u8.bits)) = ((x / 2 ^ j : Nat) : Int) := by
  rw [Int.toNat_natCast, show min j IntKind.u8.bits = j from Nat.min_eq_left (show j ≤ 8 by omega), Int.fdiv_eq_ediv_of_nonneg _ (Int.le_of_lt (Int.pow_pos (by decide))), Int.natCast_ediv, Int.natCast_pow]
  rfl
theorem u_u8r : (Tryd.prog.underlying 5).isSome = true := by kernel_rfl
theorem u_intr : Tryd.prog.underlying 3 = some (.int .i64) := by kernel_rfl
set_option maxRecDepth 100000 in
set_option maxHeartbeats 8000000 in
theorem rnode_any (M : St w gs W ((g, 85, [.slice A n c, .bool bad]) :: L) R fs) (h : RdD W (Fd W (own ((g, 85, [.slice A n c, .bool bad]) :: L) R gs)) (dB l) (.slice A n c)) (hz : n ≤ 100000000) :
    Calls Tryd.prog 67 #[.pointer (some ⟨g, 0, none⟩)] W fun e W' => ∃ cs A2 n2 c2, e = .returned (.agg cs.toArray) ∧
      St w gs W' ((g, 85, [.slice A2 n2 c2, .bool (nodeR ⟨l, bad⟩).2.bad]) :: L) R (.dat true (dN (nodeR ⟨l, bad⟩).1) cs :: .dat false [dB (nodeR ⟨l, bad⟩).2.l] [.slice A2 n2 c2] :: fs) := by
  refine calls_ev (args := [.pointer (some ⟨g, 0, none⟩)]) mixed Tryd.func67 rfl (by kernel_rfl) ?_
  have en := h.slen
  replace M := M.addD h
  refine s_alloc (zN) M al_nd ?_
  clear M
  rintro g2 W M
  replace M := M.swp
  refine cc is_rcut (rcut_any 1 M (M.d1 0 rfl) (by omega)) ?_
  clear M
  rintro e W ⟨A1, n1, c1, A2, n2, c2, rfl, M⟩
  refine ⟨_, rfl, ?_⟩
  have hle := cutP_le 1 ⟨l, bad⟩
  have hok := cutP_ok (k := 1) (s := ⟨l, bad⟩)
  have e1 := (M.d1 0 rfl).slen
  have e2 := (M.d1 1 rfl).slen
  unfold nodeR
  obtain ⟨C, hC⟩ : ∃ C, C = cutP 1 ⟨l, bad⟩ := ⟨_, rfl⟩
  rw [← hC] at M e1 e2 hle hok ⊢
  obtain ⟨c0, ⟨l1, b1⟩⟩ := C
  dsimp only at M e1 e2 hle hok ⊢
  refine p_nil rfl ?_
  refine p_fld fr1 rfl ?_
  refine v_load agg_bo rfl ((M.B 0 rfl).at_ rfl) ?_
  cases b1 with
  | true =>
    rw [if_pos rfl]
    refine p_build (vs := zN) pl_nd z_nd rfl ?_
    refine s_storeA 1 (zN) M rfl sz_nd rfl rfl rfl (all1 rfl) rfl ?_
    clear M; rintro W M
    dsimp only [setL] at M
    refine c_loadN (zN) agg_nd rfl rfl (M.run 1 rfl) ?_
    exact ⟨zN, A2, n2, c2, rfl, ((M.addT (fr := true) (ds := dN noneN) (cs := zN) RdL.znone).drop2).fsub _ (by intro f hf; simp only [List.mem_cons] at hf ⊢; rcases hf with h | h | h <;> simp [h])⟩
  | false =>
  rw [if_neg (by decide)]
  have hc1 := hok rfl
  obtain ⟨q, rfl⟩ : ∃ q, c0 = [q] := by
    match c0, hc1 with
    | [q], _ => exact ⟨q, rfl⟩
  obtain ⟨b, off, hA, hcell⟩ := (M.rdb 0 rfl).2.2.at_ (k := 0) (by rw [e1]; exact Nat.one_pos)
  subst hA
  obtain ⟨k, hk⟩ : ∃ k : Int, k = at8 [q] 0 := ⟨_, rfl⟩
  rw [← hk] at hcell ⊢
  have hk0 : 0 ≤ k ∧ k ≤ 255 := by rw [hk]; unfold at8; have := ([q].getD 0 0).toNat_lt; omega
  refine p_at (i := 0) slb rfl rfl rfl (by rw [e1]; exact Nat.one_pos) ?_
  refine v_load agg_by' rfl (by rw [Addr.add_lit, Nat.zero_mul]; exact hcell) ?_
  refine v_cvt u_u8r u_intr rfl (r := k) (w64 (by omega)) ?_
  refine p_build (vs := ncs (.mk k [] false [] [] []) none 0 none 0 none 0 none 0) pl_nd z_nd rfl ?_
  refine s_alloc (zN) M al_nd ?_
  clear M
  rintro g4 W M
  refine s_storeA 0 (ncs (.mk k [] false [] [] []) none 0 none 0 none 0 none 0) M rfl sz_nd rfl rfl rfl (all1 rfl) rfl ?_
  clear M; rintro W M
  dsimp only [setL] at M
  replace M := M.swp
  replace M := M.fsub (.dat false [dB l1] [.slice A2 n2 c2] :: fs) (by intro f hf; simp only [List.mem_cons] at hf ⊢; rcases hf with h | h <;> simp [h])
  have hl1 : l1.length ≤ n := by omega
  clear hcell hC hle hok hc1
  refine p_fld fN0 rfl ?_
  refine v_load agg_int rfl ((M.B 1 rfl).at_ rfl) ?_
  refine p_eq rfl rfl (fun hk1 => ?_) (fun hk1 => ?_)
  · have hk1 : k = 1 := hk1
    rw [if_pos (.inl hk1)]
    refine cc is_rtext (rtext_any M (M.d1 0 rfl) (by omega)) ?_
    clear M
    rintro e W ⟨A5, n5, c5, A6, n6, c6, rfl, M⟩
    refine ⟨_, rfl, ?_⟩
    have e5 := (M.d1 0 rfl).slen
    have e6 := (M.d1 1 rfl).slen
    have hle := textP_le ⟨l1, false⟩
    unfold leafR
    dsimp only
    obtain ⟨TT, hTT⟩ : ∃ TT, TT = textP ⟨l1, false⟩ := ⟨_, rfl⟩
    rw [← hTT] at M e5 e6 hle ⊢
    obtain ⟨T, ⟨l2, b2⟩⟩ := TT
    dsimp only at M e5 e6 hle ⊢
    refine cc is_nup (unpack_any _ _ _ T _ (M.rdb 0 rfl).2.2 (by omega) (M.rdb 0 rfl).2.1) ?_
    rintro e W ⟨A8, n8, c8, rfl, o8, hb⟩
    have e8 := o8.len
    subst e8
    replace M := (M.callO hb o8).fsub (.dat true [dB (unpackL T)] [.slice A8 (unpackL T).length c8] :: .dat false [dB l2] [.slice A6 n6 c6] :: fs) (by intro f hf; simp only [List.mem_cons] at hf ⊢; rcases hf with h | h | h <;> simp [h])
    clear o8 hb
    refine ⟨_, rfl, ?_⟩
    refine p_nil rfl ?_
    refine p_fld fr1 rfl ?_
    refine v_load agg_bo rfl ((M.B 0 rfl).at_ rfl) ?_
    cases b2 with
    | true =>
      rw [Bool.true_or]
      refine p_nil rfl ?_
      refine p_fld fr1 rfl ?_
      refine s_set 0 (off := 1) (.bool true) [.slice A6 n6 c6, .bool true] M rfl sz_boR rfl rfl rfl (Nat.le_of_ble_eq_true rfl) rfl ?_
      clear M; rintro W M
      dsimp only [setL] at M
      refine p_fld fN1 rfl ?_
      refine s_set 1 (off := 1) (.slice A8 (unpackL T).length c8) (ncs (.mk k (unpackL T) false [] [] []) A8 c8 none 0 none 0 none 0) M rfl sz_slR rfl rfl rfl (Nat.le_of_ble_eq_true rfl) rfl ?_
      clear M; rintro W M
      dsimp only [setL] at M
      refine p_fld fN0 rfl ?_
      refine v_load agg_int rfl ((M.B 1 rfl).at_ rfl) ?_
      refine p_eq rfl rfl (fun h2 => absurd (show k = 2 from h2) (by omega)) (fun _ => ?_)
      rw [if_neg (show ¬ k = 2 by omega)]
      refine cc is_rtext (rtext_any M (M.d1 1 rfl) (by omega)) ?_
      clear M
      rintro e W ⟨A9, n9, c9, A10, n10, c10, rfl, M⟩
      refine ⟨_, rfl, ?_⟩
      have e9 := (M.d1 0 rfl).slen
      subst e9
      refine p_fld fN3 rfl ?_
      refine s_set 1 (off := 3) (.slice A9 (textP ⟨l2, true⟩).1.length c9) (ncs (.mk k (unpackL T) false (textP ⟨l2, true⟩).1 [] []) A8 c8 A9 c9 none 0 none 0) M rfl sz_slR rfl rfl rfl (Nat.le_of_ble_eq_true rfl) rfl ?_
      clear M; rintro W M
      dsimp only [setL] at M
      refine v_loadN (ncs (.mk k (unpackL T) false (textP ⟨l2, true⟩).1 [] []) A8 c8 A9 c9 none 0 none 0) agg_nd rfl rfl (M.run 1 rfl) ?_
      refine s_storeA 2 (ncs (.mk k (unpackL T) false (textP ⟨l2, true⟩).1 [] []) A8 c8 A9 c9 none 0 none 0) M rfl sz_nd rfl rfl rfl (all1 rfl) rfl ?_
      clear M; rintro W M
      dsimp only [setL] at M
      refine c_loadN (ncs (.mk k (unpackL T) false (textP ⟨l2, true⟩).1 [] []) A8 c8 A9 c9 none 0 none 0) agg_nd rfl rfl (M.run 2 rfl) ?_
      have hn := RdL.ofnode (t := .mk k (unpackL T) false (textP ⟨l2, true⟩).1 [] []) (M.dt 2 rfl).hd (M.dt 0 rfl).hd (RdD.nil_ (s := 6) none 0) (RdD.nil_ (s := 1) none 0)
      exact ⟨_, A10, n10, c10, rfl, ((M.addT hn).drop2.drop2).fsub _ (by intro f hf; simp only [List.mem_cons] at hf ⊢; rcases hf with h | h | h <;> simp [h])⟩
    | false =>
      rw [Bool.false_or]
      refine p_ne rfl rfl (fun h0 => ?_) (fun h0 => ?_)
      rotate_left
      · rw [decide_eq_true h0, Bool.true_or]
        refine p_nil rfl ?_
        refine p_fld fr1 rfl ?_
        refine s_set 0 (off := 1) (.bool true) [.slice A6 n6 c6, .bool true] M rfl sz_boR rfl rfl rfl (Nat.le_of_ble_eq_true rfl) rfl ?_
        clear M; rintro W M
        dsimp only [setL] at M
        refine p_fld fN1 rfl ?_
        refine s_set 1 (off := 1) (.slice A8 (unpackL T).length c8) (ncs (.mk k (unpackL T) false [] [] []) A8 c8 none 0 none 0 none 0) M rfl sz_slR rfl rfl rfl (Nat.le_of_ble_eq_true rfl) rfl ?_
        clear M; rintro W M
        dsimp only [setL] at M
        refine p_fld fN0 rfl ?_
        refine v_load agg_int rfl ((M.B 1 rfl).at_ rfl) ?_
        refine p_eq rfl rfl (fun h2 => absurd (show k = 2 from h2) (by omega)) (fun _ => ?_)
        rw [if_neg (show ¬ k = 2 by omega)]
        refine cc is_rtext (rtext_any M (M.d1 1 rfl) (by omega)) ?_
        clear M
        rintro e W ⟨A9, n9, c9, A10, n10, c10, rfl, M⟩
        refine ⟨_, rfl, ?_⟩
        have e9 := (M.d1 0 rfl).slen
        subst e9
        refine p_fld fN3 rfl ?_
        refine s_set 1 (off := 3) (.slice A9 (textP ⟨l2, true⟩).1.length c9) (ncs (.mk k (unpackL T) false (textP ⟨l2, true⟩).1 [] []) A8 c8 A9 c9 none 0 none 0) M rfl sz_slR rfl rfl rfl (Nat.le_of_ble_eq_true rfl) rfl ?_
        clear M; rintro W M
        dsimp only [setL] at M
        refine v_loadN (ncs (.mk k (unpackL T) false (textP ⟨l2, true⟩).1 [] []) A8 c8 A9 c9 none 0 none 0) agg_nd rfl rfl (M.run 1 rfl) ?_
        refine s_storeA 2 (ncs (.mk k (unpackL T) false (textP ⟨l2, true⟩).1 [] []) A8 c8 A9 c9 none 0 none 0) M rfl sz_nd rfl rfl rfl (all1 rfl) rfl ?_
        clear M; rintro W M
        dsimp only [setL] at M
        refine c_loadN (ncs (.mk k (unpackL T) false (textP ⟨l2, true⟩).1 [] []) A8 c8 A9 c9 none 0 none 0) agg_nd rfl rfl (M.run 2 rfl) ?_
        have hn := RdL.ofnode (t := .mk k (unpackL T) false (textP ⟨l2, true⟩).1 [] []) (M.dt 2 rfl).hd (M.dt 0 rfl).hd (RdD.nil_ (s := 6) none 0) (RdD.nil_ (s := 1) none 0)
        exact ⟨_, A10, n10, c10, rfl, ((M.addT hn).drop2.drop2).fsub _ (by intro f hf; simp only [List.mem_cons] at hf ⊢; rcases hf with h | h | h <;> simp [h])⟩
      rw [decide_eq_false (fun h => h h0), Bool.false_or]
      refine p_fld fN0 rfl ?_
      refine v_load agg_int rfl ((M.B 1 rfl).at_ rfl) ?_
      refine p_eqD rfl rfl ?_
      refine p_bneC u_bool rfl rfl (fun h0 => ?_) (fun h0 => ?_)
      · have h0 : unpackB T = decide (k = 1) := h0
        rw [decide_eq_false (fun h => h h0)]
        refine p_nil rfl ?_
        refine p_fld fr1 rfl ?_
        refine s_set 0 (off := 1) (.bool false) [.slice A6 n6 c6, .bool false] M rfl sz_boR rfl rfl rfl (Nat.le_of_ble_eq_true rfl) rfl ?_
        clear M; rintro W M
        dsimp only [setL] at M
        refine p_fld fN1 rfl ?_
        refine s_set 1 (off := 1) (.slice A8 (unpackL T).length c8) (ncs (.mk k (unpackL T) false [] [] []) A8 c8 none 0 none 0 none 0) M rfl sz_slR rfl rfl rfl (Nat.le_of_ble_eq_true rfl) rfl ?_
        clear M; rintro W M
        dsimp only [setL] at M
        refine p_fld fN0 rfl ?_
        refine v_load agg_int rfl ((M.B 1 rfl).at_ rfl) ?_
        refine p_eq rfl rfl (fun h2 => absurd (show k = 2 from h2) (by omega)) (fun _ => ?_)
        rw [if_neg (show ¬ k = 2 by omega)]
        refine cc is_rtext (rtext_any M (M.d1 1 rfl) (by omega)) ?_
        clear M
        rintro e W ⟨A9, n9, c9, A10, n10, c10, rfl, M⟩
        refine ⟨_, rfl, ?_⟩
        have e9 := (M.d1 0 rfl).slen
        subst e9
        refine p_fld fN3 rfl ?_
        refine s_set 1 (off := 3) (.slice A9 (textP ⟨l2, false⟩).1.length c9) (ncs (.mk k (unpackL T) false (textP ⟨l2, false⟩).1 [] []) A8 c8 A9 c9 none 0 none 0) M rfl sz_slR rfl rfl rfl (Nat.le_of_ble_eq_true rfl) rfl ?_
        clear M; rintro W M
        dsimp only [setL] at M
        refine v_loadN (ncs (.mk k (unpackL T) false (textP ⟨l2, false⟩).1 [] []) A8 c8 A9 c9 none 0 none 0) agg_nd rfl rfl (M.run 1 rfl) ?_
        refine s_storeA 2 (ncs (.mk k (unpackL T) false (textP ⟨l2, false⟩).1 [] []) A8 c8 A9 c9 none 0 none 0) M rfl sz_nd rfl rfl rfl (all1 rfl) rfl ?_
        clear M; rintro W M
        dsimp only [setL] at M
        refine c_loadN (ncs (.mk k (unpackL T) false (textP ⟨l2, false⟩).1 [] []) A8 c8 A9 c9 none 0 none 0) agg_nd rfl rfl (M.run 2 rfl) ?_
        have hn := RdL.ofnode (t := .mk k (unpackL T) false (textP ⟨l2, false⟩).1 [] []) (M.dt 2 rfl).hd (M.dt 0 rfl).hd (RdD.nil_ (s := 6) none 0) (RdD.nil_ (s := 1) none 0)
        exact ⟨_, A10, n10, c10, rfl, ((M.addT hn).drop2.drop2).fsub _ (by intro f hf; simp only [List.mem_cons] at hf ⊢; rcases hf with h | h | h <;> simp [h])⟩
      · have h0 : unpackB T ≠ decide (k = 1) := h0
        rw [decide_eq_true h0]
        refine p_nil rfl ?_
        refine p_fld fr1 rfl ?_
        refine s_set 0 (off := 1) (.bool true) [.slice A6 n6 c6, .bool true] M rfl sz_boR rfl rfl rfl (Nat.le_of_ble_eq_true rfl) rfl ?_
        clear M; rintro W M
        dsimp only [setL] at M
        refine p_fld fN1 rfl ?_
        refine s_set 1 (off := 1) (.slice A8 (unpackL T).length c8) (ncs (.mk k (unpackL T) false [] [] []) A8 c8 none 0 none 0 none 0) M rfl sz_slR rfl rfl rfl (Nat.le_of_ble_eq_true rfl) rfl ?_
        clear M; rintro W M
        dsimp only [setL] at M
        refine p_fld fN0 rfl ?_
        refine v_load agg_int rfl ((M.B 1 rfl).at_ rfl) ?_
        refine p_eq rfl rfl (fun h2 => absurd (show k = 2 from h2) (by omega)) (fun _ => ?_)
        rw [if_neg (show ¬ k = 2 by omega)]
        refine cc is_rtext (rtext_any M (M.d1 1 rfl) (by omega)) ?_
        clear M
        rintro e W ⟨A9, n9, c9, A10, n10, c10, rfl, M⟩
        refine ⟨_, rfl, ?_⟩
        have e9 := (M.d1 0 rfl).slen
        subst e9
        refine p_fld fN3 rfl ?_
        refine s_set 1 (off := 3) (.slice A9 (textP ⟨l2, true⟩).1.length c9) (ncs (.mk k (unpackL T) false (textP ⟨l2, true⟩).1 [] []) A8 c8 A9 c9 none 0 none 0) M rfl sz_slR rfl rfl rfl (Nat.le_of_ble_eq_true rfl) rfl ?_
        clear M; rintro W M
        dsimp only [setL] at M
        refine v_loadN (ncs (.mk k (unpackL T) false (textP ⟨l2, true⟩).1 [] []) A8 c8 A9 c9 none 0 none 0) agg_nd rfl rfl (M.run 1 rfl) ?_
        refine s_storeA 2 (ncs (.mk k (unpackL T) false (textP ⟨l2, true⟩).1 [] []) A8 c8 A9 c9 none 0 none 0) M rfl sz_nd rfl rfl rfl (all1 rfl) rfl ?_
        clear M; rintro W M
        dsimp only [setL] at M
        refine c_loadN (ncs (.mk k (unpackL T) false (textP ⟨l2, true⟩).1 [] []) A8 c8 A9 c9 none 0 none 0) agg_nd rfl rfl (M.run 2 rfl) ?_
        have hn := RdL.ofnode (t := .mk k (unpackL T) false (textP ⟨l2, true⟩).1 [] []) (M.dt 2 rfl).hd (M.dt 0 rfl).hd (RdD.nil_ (s := 6) none 0) (RdD.nil_ (s := 1) none 0)
        exact ⟨_, A10, n10, c10, rfl, ((M.addT hn).drop2.drop2).fsub _ (by intro f hf; simp only [List.mem_cons] at hf ⊢; rcases hf with h | h | h <;> simp [h])⟩
  refine p_eq rfl rfl (fun hk2 => ?_) (fun hk2 => ?_)
  · have hk2 : k = 2 := hk2
    rw [if_pos (.inr hk2)]
    refine cc is_rtext (rtext_any M (M.d1 0 rfl) (by omega)) ?_
    clear M
    rintro e W ⟨A5, n5, c5, A6, n6, c6, rfl, M⟩
    refine ⟨_, rfl, ?_⟩
    have e5 := (M.d1 0 rfl).slen
    have e6 := (M.d1 1 rfl).slen
    have hle := textP_le ⟨l1, false⟩
    unfold leafR
    dsimp only
    obtain ⟨TT, hTT⟩ : ∃ TT, TT = textP ⟨l1, false⟩ := ⟨_, rfl⟩
    rw [← hTT] at M e5 e6 hle ⊢
    obtain ⟨T, ⟨l2, b2⟩⟩ := TT
    dsimp only at M e5 e6 hle ⊢
    refine cc is_nup (unpack_any _ _ _ T _ (M.rdb 0 rfl).2.2 (by omega) (M.rdb 0 rfl).2.1) ?_
    rintro e W ⟨A8, n8, c8, rfl, o8, hb⟩
    have e8 := o8.len
    subst e8
    replace M := (M.callO hb o8).fsub (.dat true [dB (unpackL T)] [.slice A8 (unpackL T).length c8] :: .dat false [dB l2] [.slice A6 n6 c6] :: fs) (by intro f hf; simp only [List.mem_cons] at hf ⊢; rcases hf with h | h | h <;> simp [h])
    clear o8 hb
    refine ⟨_, rfl, ?_⟩
    refine p_nil rfl ?_
    refine p_fld fr1 rfl ?_
    refine v_load agg_bo rfl ((M.B 0 rfl).at_ rfl) ?_
    cases b2 with
    | true =>
      rw [Bool.true_or]
      refine p_nil rfl ?_
      refine p_fld fr1 rfl ?_
      refine s_set 0 (off := 1) (.bool true) [.slice A6 n6 c6, .bool true] M rfl sz_boR rfl rfl rfl (Nat.le_of_ble_eq_true rfl) rfl ?_
      clear M; rintro W M
      dsimp only [setL] at M
      refine p_fld fN1 rfl ?_
      refine s_set 1 (off := 1) (.slice A8 (unpackL T).length c8) (ncs (.mk k (unpackL T) false [] [] []) A8 c8 none 0 none 0 none 0) M rfl sz_slR rfl rfl rfl (Nat.le_of_ble_eq_true rfl) rfl ?_
      clear M; rintro W M
      dsimp only [setL] at M
      refine p_fld fN0 rfl ?_
      refine v_load agg_int rfl ((M.B 1 rfl).at_ rfl) ?_
      refine p_eq rfl rfl (fun _ => ?_) (fun h2 => absurd hk2 h2)
      rw [if_pos hk2]
      refine cc is_rstub (rstub_any M (M.d1 1 rfl) (by omega)) ?_
      clear M
      rintro e W ⟨A9, c9, A10, n10, c10, rfl, M⟩
      refine ⟨_, rfl, ?_⟩
      refine s_bslice (ncs (stubN (cutP 32 ⟨l2, true⟩).1) none 0 none 0 none 0 A9 c9) (fr := true) (ds := dN (stubN (cutP 32 ⟨l2, true⟩).1)) M sln z_nd rfl (by decide) rfl (M.dt 0 rfl) rfl ?_
      clear M; rintro g11 W M
      refine p_fld fN4 rfl ?_
      refine s_set 1 (off := 4) (.slice (some ⟨g11, 0, none⟩) 1 1) (ncs (.mk k (unpackL T) false [] [stubN (cutP 32 ⟨l2, true⟩).1] []) A8 c8 none 0 (some ⟨g11, 0, none⟩) 1 none 0) M rfl sz_nsR rfl rfl rfl (Nat.le_of_ble_eq_true rfl) rfl ?_
      clear M; rintro W M
      dsimp only [setL] at M
      refine v_loadN (ncs (.mk k (unpackL T) false [] [stubN (cutP 32 ⟨l2, true⟩).1] []) A8 c8 none 0 (some ⟨g11, 0, none⟩) 1 none 0) agg_nd rfl rfl (M.run 1 rfl) ?_
      refine s_storeA 2 (ncs (.mk k (unpackL T) false [] [stubN (cutP 32 ⟨l2, true⟩).1] []) A8 c8 none 0 (some ⟨g11, 0, none⟩) 1 none 0) M rfl sz_nd rfl rfl rfl (all1 rfl) rfl ?_
      clear M; rintro W M
      dsimp only [setL] at M
      refine c_loadN (ncs (.mk k (unpackL T) false [] [stubN (cutP 32 ⟨l2, true⟩).1] []) A8 c8 none 0 (some ⟨g11, 0, none⟩) 1 none 0) agg_nd rfl rfl (M.run 2 rfl) ?_
      have hks : RdD W _ (dKs [stubN (cutP 32 ⟨l2, true⟩).1]) (.slice (some ⟨g11, 0, none⟩) 1 1) := (by have h := (M.dt 0 rfl).hd; unfold dKs dNs dNs; rw [List.append_nil]; exact h)
      have hn := RdL.ofnode (t := .mk k (unpackL T) false [] [stubN (cutP 32 ⟨l2, true⟩).1] []) (M.dt 3 rfl).hd (RdD.nil_ (s := 1) none 0) hks (RdD.nil_ (s := 1) none 0)
      exact ⟨_, A10, n10, c10, rfl, ((M.addT hn).drop2.drop2).fsub _ (by intro f hf; simp only [List.mem_cons] at hf ⊢; rcases hf with h | h | h <;> simp [h])⟩
    | false =>
      rw [Bool.false_or]
      refine p_ne rfl rfl (fun h0 => ?_) (fun h0 => ?_)
      rotate_left
      · rw [decide_eq_true h0, Bool.true_or]
        refine p_nil rfl ?_
        refine p_fld fr1 rfl ?_
        refine s_set 0 (off := 1) (.bool true) [.slice A6 n6 c6, .bool true] M rfl sz_boR rfl rfl rfl (Nat.le_of_ble_eq_true rfl) rfl ?_
        clear M; rintro W M
        dsimp only [setL] at M
        refine p_fld fN1 rfl ?_
        refine s_set 1 (off := 1) (.slice A8 (unpackL T).length c8) (ncs (.mk k (unpackL T) false [] [] []) A8 c8 none 0 none 0 none 0) M rfl sz_slR rfl rfl rfl (Nat.le_of_ble_eq_true rfl) rfl ?_
        clear M; rintro W M
        dsimp only [setL] at M
        refine p_fld fN0 rfl ?_
        refine v_load agg_int rfl ((M.B 1 rfl).at_ rfl) ?_
        refine p_eq rfl rfl (fun _ => ?_) (fun h2 => absurd hk2 h2)
        rw [if_pos hk2]
        refine cc is_rstub (rstub_any M (M.d1 1 rfl) (by omega)) ?_
        clear M
        rintro e W ⟨A9, c9, A10, n10, c10, rfl, M⟩
        refine ⟨_, rfl, ?_⟩
        refine s_bslice (ncs (stubN (cutP 32 ⟨l2, true⟩).1) none 0 none 0 none 0 A9 c9) (fr := true) (ds := dN (stubN (cutP 32 ⟨l2, true⟩).1)) M sln z_nd rfl (by decide) rfl (M.dt 0 rfl) rfl ?_
        clear M; rintro g11 W M
        refine p_fld fN4 rfl ?_
        refine s_set 1 (off := 4) (.slice (some ⟨g11, 0, none⟩) 1 1) (ncs (.mk k (unpackL T) false [] [stubN (cutP 32 ⟨l2, true⟩).1] []) A8 c8 none 0 (some ⟨g11, 0, none⟩) 1 none 0) M rfl sz_nsR rfl rfl rfl (Nat.le_of_ble_eq_true rfl) rfl ?_
        clear M; rintro W M
        dsimp only [setL] at M
        refine v_loadN (ncs (.mk k (unpackL T) false [] [stubN (cutP 32 ⟨l2, true⟩).1] []) A8 c8 none 0 (some ⟨g11, 0, none⟩) 1 none 0) agg_nd rfl rfl (M.run 1 rfl) ?_
        refine s_storeA 2 (ncs (.mk k (unpackL T) false [] [stubN (cutP 32 ⟨l2, true⟩).1] []) A8 c8 none 0 (some ⟨g11, 0, none⟩) 1 none 0) M rfl sz_nd rfl rfl rfl (all1 rfl) rfl ?_
        clear M; rintro W M
        dsimp only [setL] at M
        refine c_loadN (ncs (.mk k (unpackL T) false [] [stubN (cutP 32 ⟨l2, true⟩).1] []) A8 c8 none 0 (some ⟨g11, 0, none⟩) 1 none 0) agg_nd rfl rfl (M.run 2 rfl) ?_
        have hks : RdD W _ (dKs [stubN (cutP 32 ⟨l2, true⟩).1]) (.slice (some ⟨g11, 0, none⟩) 1 1) := (by have h := (M.dt 0 rfl).hd; unfold dKs dNs dNs; rw [List.append_nil]; exact h)
        have hn := RdL.ofnode (t := .mk k (unpackL T) false [] [stubN (cutP 32 ⟨l2, true⟩).1] []) (M.dt 3 rfl).hd (RdD.nil_ (s := 1) none 0) hks (RdD.nil_ (s := 1) none 0)
        exact ⟨_, A10, n10, c10, rfl, ((M.addT hn).drop2.drop2).fsub _ (by intro f hf; simp only [List.mem_cons] at hf ⊢; rcases hf with h | h | h <;> simp [h])⟩
      rw [decide_eq_false (fun h => h h0), Bool.false_or]
      refine p_fld fN0 rfl ?_
      refine v_load agg_int rfl ((M.B 1 rfl).at_ rfl) ?_
      refine p_eqD rfl rfl ?_
      refine p_bneC u_bool rfl rfl (fun h0 => ?_) (fun h0 => ?_)
      · have h0 : unpackB T = decide (k = 1) := h0
        rw [decide_eq_false (fun h => h h0)]
        refine p_nil rfl ?_
        refine p_fld fr1 rfl ?_
        refine s_set 0 (off := 1) (.bool false) [.slice A6 n6 c6, .bool false] M rfl sz_boR rfl rfl rfl (Nat.le_of_ble_eq_true rfl) rfl ?_
        clear M; rintro W M
        dsimp only [setL] at M
        refine p_fld fN1 rfl ?_
        refine s_set 1 (off := 1) (.slice A8 (unpackL T).length c8) (ncs (.mk k (unpackL T) false [] [] []) A8 c8 none 0 none 0 none 0) M rfl sz_slR rfl rfl rfl (Nat.le_of_ble_eq_true rfl) rfl ?_
        clear M; rintro W M
        dsimp only [setL] at M
        refine p_fld fN0 rfl ?_
        refine v_load agg_int rfl ((M.B 1 rfl).at_ rfl) ?_
        refine p_eq rfl rfl (fun _ => ?_) (fun h2 => absurd hk2 h2)
        rw [if_pos hk2]
        refine cc is_rstub (rstub_any M (M.d1 1 rfl) (by omega)) ?_
        clear M
        rintro e W ⟨A9, c9, A10, n10, c10, rfl, M⟩
        refine ⟨_, rfl, ?_⟩
        refine s_bslice (ncs (stubN (cutP 32 ⟨l2, false⟩).1) none 0 none 0 none 0 A9 c9) (fr := true) (ds := dN (stubN (cutP 32 ⟨l2, false⟩).1)) M sln z_nd rfl (by decide) rfl (M.dt 0 rfl) rfl ?_
        clear M; rintro g11 W M
        refine p_fld fN4 rfl ?_
        refine s_set 1 (off := 4) (.slice (some ⟨g11, 0, none⟩) 1 1) (ncs (.mk k (unpackL T) false [] [stubN (cutP 32 ⟨l2, false⟩).1] []) A8 c8 none 0 (some ⟨g11, 0, none⟩) 1 none 0) M rfl sz_nsR rfl rfl rfl (Nat.le_of_ble_eq_true rfl) rfl ?_
        clear M; rintro W M
        dsimp only [setL] at M
        refine v_loadN (ncs (.mk k (unpackL T) false [] [stubN (cutP 32 ⟨l2, false⟩).1] []) A8 c8 none 0 (some ⟨g11, 0, none⟩) 1 none 0) agg_nd rfl rfl (M.run 1 rfl) ?_
        refine s_storeA 2 (ncs (.mk k (unpackL T) false [] [stubN (cutP 32 ⟨l2, false⟩).1] []) A8 c8 none 0 (some ⟨g11, 0, none⟩) 1 none 0) M rfl sz_nd rfl rfl rfl (all1 rfl) rfl ?_
        clear M; rintro W M
        dsimp only [setL] at M
        refine c_loadN (ncs (.mk k (unpackL T) false [] [stubN (cutP 32 ⟨l2, false⟩).1] []) A8 c8 none 0 (some ⟨g11, 0, none⟩) 1 none 0) agg_nd rfl rfl (M.run 2 rfl) ?_
        have hks : RdD W _ (dKs [stubN (cutP 32 ⟨l2, false⟩).1]) (.slice (some ⟨g11, 0, none⟩) 1 1) := (by have h := (M.dt 0 rfl).hd; unfold dKs dNs dNs; rw [List.append_nil]; exact h)
        have hn := RdL.ofnode (t := .mk k (unpackL T) false [] [stubN (cutP 32 ⟨l2, false⟩).1] []) (M.dt 3 rfl).hd (RdD.nil_ (s := 1) none 0) hks (RdD.nil_ (s := 1) none 0)
        exact ⟨_, A10, n10, c10, rfl, ((M.addT hn).drop2.drop2).fsub _ (by intro f hf; simp only [List.mem_cons] at hf ⊢; rcases hf with h | h | h <;> simp [h])⟩
      · have h0 : unpackB T ≠ decide (k = 1) := h0
        rw [decide_eq_true h0]
        refine p_nil rfl ?_
        refine p_fld fr1 rfl ?_
        refine s_set 0 (off := 1) (.bool true) [.slice A6 n6 c6, .bool true] M rfl sz_boR rfl rfl rfl (Nat.le_of_ble_eq_true rfl) rfl ?_
        clear M; rintro W M
        dsimp only [setL] at M
        refine p_fld fN1 rfl ?_
        refine s_set 1 (off := 1) (.slice A8 (unpackL T).length c8) (ncs (.mk k (unpackL T) false [] [] []) A8 c8 none 0 none 0 none 0) M rfl sz_slR rfl rfl rfl (Nat.le_of_ble_eq_true rfl) rfl ?_
        clear M; rintro W M
        dsimp only [setL] at M
        refine p_fld fN0 rfl ?_
        refine v_load agg_int rfl ((M.B 1 rfl).at_ rfl) ?_
        refine p_eq rfl rfl (fun _ => ?_) (fun h2 => absurd hk2 h2)
        rw [if_pos hk2]
        refine cc is_rstub (rstub_any M (M.d1 1 rfl) (by omega)) ?_
        clear M
        rintro e W ⟨A9, c9, A10, n10, c10, rfl, M⟩
        refine ⟨_, rfl, ?_⟩
        refine s_bslice (ncs (stubN (cutP 32 ⟨l2, true⟩).1) none 0 none 0 none 0 A9 c9) (fr := true) (ds := dN (stubN (cutP 32 ⟨l2, true⟩).1)) M sln z_nd rfl (by decide) rfl (M.dt 0 rfl) rfl ?_
        clear M; rintro g11 W M
        refine p_fld fN4 rfl ?_
        refine s_set 1 (off := 4) (.slice (some ⟨g11, 0, none⟩) 1 1) (ncs (.mk k (unpackL T) false [] [stubN (cutP 32 ⟨l2, true⟩).1] []) A8 c8 none 0 (some ⟨g11, 0, none⟩) 1 none 0) M rfl sz_nsR rfl rfl rfl (Nat.le_of_ble_eq_true rfl) rfl ?_
        clear M; rintro W M
        dsimp only [setL] at M
        refine v_loadN (ncs (.mk k (unpackL T) false [] [stubN (cutP 32 ⟨l2, true⟩).1] []) A8 c8 none 0 (some ⟨g11, 0, none⟩) 1 none 0) agg_nd rfl rfl (M.run 1 rfl) ?_
        refine s_storeA 2 (ncs (.mk k (unpackL T) false [] [stubN (cutP 32 ⟨l2, true⟩).1] []) A8 c8 none 0 (some ⟨g11, 0, none⟩) 1 none 0) M rfl sz_nd rfl rfl rfl (all1 rfl) rfl ?_
        clear M; rintro W M
        dsimp only [setL] at M
        refine c_loadN (ncs (.mk k (unpackL T) false [] [stubN (cutP 32 ⟨l2, true⟩).1] []) A8 c8 none 0 (some ⟨g11, 0, none⟩) 1 none 0) agg_nd rfl rfl (M.run 2 rfl) ?_
        have hks : RdD W _ (dKs [stubN (cutP 32 ⟨l2, true⟩).1]) (.slice (some ⟨g11, 0, none⟩) 1 1) := (by have h := (M.dt 0 rfl).hd; unfold dKs dNs dNs; rw [List.append_nil]; exact h)
        have hn := RdL.ofnode (t := .mk k (unpackL T) false [] [stubN (cutP 32 ⟨l2, true⟩).1] []) (M.dt 3 rfl).hd (RdD.nil_ (s := 1) none 0) hks (RdD.nil_ (s := 1) none 0)
        exact ⟨_, A10, n10, c10, rfl, ((M.addT hn).drop2.drop2).fsub _ (by intro f hf; simp only [List.mem_cons] at hf ⊢; rcases hf with h | h | h <;> simp [h])⟩
  have hk1 : ¬ k = 1 := hk1
  have hk2 : ¬ k = 2 := hk2
  rw [if_neg (by rintro (h | h); exact hk1 h; exact hk2 h)]
  refine p_eq rfl rfl (fun hk3 => ?_) (fun hk3 => ?_)
  rotate_left
  · have hk3 : ¬ k = 3 := hk3
    rw [if_neg hk3]
    refine v_loadN (ncs (.mk k [] false [] [] []) none 0 none 0 none 0 none 0) agg_nd rfl rfl (M.run 1 rfl) ?_
    refine s_storeA 2 (ncs (.mk k [] false [] [] []) none 0 none 0 none 0 none 0) M rfl sz_nd rfl rfl rfl (all1 rfl) rfl ?_
    clear M; rintro W M
    dsimp only [setL] at M
    refine c_loadN (ncs (.mk k [] false [] [] []) none 0 none 0 none 0 none 0) agg_nd rfl rfl (M.run 2 rfl) ?_
    have hn : RdL W (Ft w W (own ((g, 85, [.slice A2 n2 c2, .bool false]) :: (g4, 26, ncs (.mk k [] false [] [] []) none 0 none 0 none 0 none 0) :: (g2, 26, ncs (.mk k [] false [] [] []) none 0 none 0 none 0 none 0) :: L) R gs) true) _ _ := RdL.ofnode (t := .mk k [] false [] [] []) (RdD.nil_ (s := 1) none 0) (RdD.nil_ (s := 1) none 0) (RdD.nil_ (s := 6) none 0) (RdD.nil_ (s := 1) none 0)
    exact ⟨_, A2, n2, c2, rfl, ((M.addT hn).drop2.drop2).fsub _ (by intro f hf; simp only [List.mem_cons] at hf ⊢; rcases hf with h | h | h <;> simp [h])⟩
  have hk3 : k = 3 := hk3
  rw [if_pos hk3]
  unfold brR
  dsimp only
  obtain ⟨H1, hH1⟩ : ∃ H, H = cutP 1 ⟨l1, false⟩ := ⟨_, rfl⟩
  have hle1 := cutP_le 1 ⟨l1, false⟩
  have hok1 := cutP_ok (k := 1) (s := ⟨l1, false⟩)
  rw [← hH1] at hle1 hok1 ⊢
  dsimp only at hle1
  obtain ⟨V, hV⟩ : ∃ V, V = valR (hasR H1.1) H1.2 := ⟨_, rfl⟩
  have hVl : V.2.l.length ≤ l1.length ∧ V.1.length ≤ l1.length := by
    have h2 := textP_le H1.2
    rw [hV]
    unfold valR
    split
    · omega
    · dsimp only; simp; omega
  rw [← hV]
  refine ev_assoc (ev_assoc ?_)
  refine cutS (Nat × Option Addr × Nat × Nat × Option Addr × Nat) (fun s W => St w gs W ((g, 85, [.slice s.2.1 s.2.2.1 s.2.2.2.1, .bool V.2.bad]) :: (s.1, 26, zNs 16) :: (g4, 26, [.int .i64 k, .slice none 0 0, .bool (hasR H1.1), .slice s.2.2.2.2.1 V.1.length s.2.2.2.2.2, .slice (some ⟨s.1, 0, none⟩) 16 16, .slice none 0 0]) :: (g2, 26, zN) :: L) R (.dat true [dB V.1] [.slice s.2.2.2.2.1 V.1.length s.2.2.2.2.2] :: .dat false [dB V.2.l] [.slice s.2.1 s.2.2.1 s.2.2.2.1] :: fs))
    (fun s => [(0, .pointer (some ⟨g, 0, none⟩)), (2, .pointer (some ⟨g2, 0, none⟩)), (4, .pointer (some ⟨g4, 0, none⟩))]) ?_ ?_
  · refine cc is_rcut (rcut_any 1 M (M.d1 0 rfl) (by omega)) ?_
    clear M
    rintro e W ⟨A3, n3, c3, A4, n4, c4', rfl, M⟩
    refine ⟨_, rfl, ?_⟩
    rw [← hH1] at M
    have e3 := (M.d1 0 rfl).slen
    subst e3
    refine p_len slb rfl ?_
    refine p_eq rfl rfl (fun hl => ?_) (fun hl => ?_)
    · have hl' : H1.1.length = 1 := by omega
      obtain ⟨b, off, hA, hcell⟩ := (M.rdb 0 rfl).2.2.at_ (k := 0) (by rw [hl']; exact Nat.one_pos)
      subst hA
      refine p_at (i := 0) slb rfl rfl rfl (by rw [hl']; exact Nat.one_pos) ?_
      refine v_load agg_by' rfl (by rw [Addr.add_lit, Nat.zero_mul]; exact hcell) ?_
      refine p_eq rfl rfl (fun hq => ?_) (fun hq => ?_)
      · have hyes : hasR H1.1 = true := by unfold hasR; rw [decide_eq_true hl', decide_eq_true hq]; rfl
        refine p_fld fN2 rfl ?_
        refine s_set 1 (off := 2) (.bool true) [.int .i64 k, .slice none 0 0, .bool true, .slice none 0 0, .slice none 0 0, .slice none 0 0] M rfl sz_boR rfl rfl rfl (Nat.le_of_ble_eq_true rfl) rfl ?_
        clear M; rintro W M
        dsimp only [setL] at M
        refine p_fld fN2 rfl ?_
        refine v_load agg_bo rfl ((M.B 1 rfl).at_ rfl) ?_
        have e4 := (M.d1 1 rfl).slen
        refine cc is_rtext (rtext_any M (M.d1 1 rfl) (by omega)) ?_
        clear M
        rintro e W ⟨A5, n5, c5, A6, n6, c6, rfl, M⟩
        refine ⟨_, rfl, ?_⟩
        have hVe : V = textP H1.2 := by rw [hV, hyes]; rfl
        replace M : St w gs W ((g, 85, [.slice A6 n6 c6, .bool (textP H1.2).2.bad]) :: _) R (.dat true [dB (textP H1.2).1] [.slice A5 n5 c5] :: .dat false [dB (textP H1.2).2.l] [.slice A6 n6 c6] :: _) := M
        rw [← hVe] at M
        have e5 := (M.d1 0 rfl).slen
        subst e5
        refine p_fld fN3 rfl ?_
        refine s_set 1 (off := 3) (.slice A5 V.1.length c5) [.int .i64 k, .slice none 0 0, .bool true, .slice A5 V.1.length c5, .slice none 0 0, .slice none 0 0] M rfl sz_slR rfl rfl rfl (Nat.le_of_ble_eq_true rfl) rfl ?_
        clear M; rintro W M
        dsimp only [setL] at M
        refine s_mkN M rfl rfl ?_
        clear M; rintro gk W M
        refine p_fld fN4 rfl ?_
        refine s_set 2 (off := 4) (.slice (some ⟨gk, 0, none⟩) 16 16) [.int .i64 k, .slice none 0 0, .bool true, .slice A5 V.1.length c5, .slice (some ⟨gk, 0, none⟩) 16 16, .slice none 0 0] M rfl sz_nsR rfl rfl rfl (Nat.le_of_ble_eq_true rfl) rfl ?_
        clear M; rintro W M
        dsimp only [setL] at M
        replace M := M.swp
        rw [hyes]
        exact ⟨(gk, A6, n6, c6, A5, c5), M.fsub _ (by intro f hf; simp only [List.mem_cons] at hf ⊢; rcases hf with h | h | h <;> simp [h]), (by repeat (first | exact trivial | refine ⟨rfl, ?_⟩))⟩
      · have hno : hasR H1.1 = false := by unfold hasR; rw [decide_eq_false hq, Bool.and_false]
        refine p_fld fN2 rfl ?_
        refine s_set 1 (off := 2) (.bool false) [.int .i64 k, .slice none 0 0, .bool false, .slice none 0 0, .slice none 0 0, .slice none 0 0] M rfl sz_boR rfl rfl rfl (Nat.le_of_ble_eq_true rfl) rfl ?_
        clear M; rintro W M
        dsimp only [setL] at M
        refine p_fld fN2 rfl ?_
        refine v_load agg_bo rfl ((M.B 1 rfl).at_ rfl) ?_
        refine s_mkN M rfl rfl ?_
        clear M; rintro gk W M
        refine p_fld fN4 rfl ?_
        refine s_set 2 (off := 4) (.slice (some ⟨gk, 0, none⟩) 16 16) [.int .i64 k, .slice none 0 0, .bool false, .slice none 0 0, .slice (some ⟨gk, 0, none⟩) 16 16, .slice none 0 0] M rfl sz_nsR rfl rfl rfl (Nat.le_of_ble_eq_true rfl) rfl ?_
        clear M; rintro W M
        dsimp only [setL] at M
        replace M := M.swp
        have hVe : V = ([], H1.2) := by rw [hV, hno]; rfl
        rw [hVe, hno]
        exact ⟨(gk, A4, n4, c4', none, 0), (M.addT (fr := true) (ds := [dB []]) (cs := [.slice none 0 0]) (RdL.one (RdD.nil_ (s := 1) none 0))).fsub _ (by intro f hf; simp only [List.mem_cons] at hf ⊢; rcases hf with h | h | h <;> simp [h]), (by repeat (first | exact trivial | refine ⟨rfl, ?_⟩))⟩
    · have hno : hasR H1.1 = false := by unfold hasR; rw [decide_eq_false (show ¬ H1.1.length = 1 by omega), Bool.false_and]
      refine p_fld fN2 rfl ?_
      refine s_set 1 (off := 2) (.bool false) [.int .i64 k, .slice none 0 0, .bool false, .slice none 0 0, .slice none 0 0, .slice none 0 0] M rfl sz_boR rfl rfl rfl (Nat.le_of_ble_eq_true rfl) rfl ?_
      clear M; rintro W M
      dsimp only [setL] at M
      refine p_fld fN2 rfl ?_
      refine v_load agg_bo rfl ((M.B 1 rfl).at_ rfl) ?_
      refine s_mkN M rfl rfl ?_
      clear M; rintro gk W M
      refine p_fld fN4 rfl ?_
      refine s_set 2 (off := 4) (.slice (some ⟨gk, 0, none⟩) 16 16) [.int .i64 k, .slice none 0 0, .bool false, .slice none 0 0, .slice (some ⟨gk, 0, none⟩) 16 16, .slice none 0 0] M rfl sz_nsR rfl rfl rfl (Nat.le_of_ble_eq_true rfl) rfl ?_
      clear M; rintro W M
      dsimp only [setL] at M
      replace M := M.swp
      have hVe : V = ([], H1.2) := by rw [hV, hno]; rfl
      rw [hVe, hno]
      exact ⟨(gk, A4, n4, c4', none, 0), (M.addT (fr := true) (ds := [dB []]) (cs := [.slice none 0 0]) (RdL.one (RdD.nil_ (s := 1) none 0))).fsub _ (by intro f hf; simp only [List.mem_cons] at hf ⊢; rcases hf with h | h | h <;> simp [h]), (by repeat (first | exact trivial | refine ⟨rfl, ?_⟩))⟩
  · clear M
    rintro ⟨gk, A6, n6, c6, Av, cv⟩ B0 W0 M
    dsimp only at M
    clear hV hH1 hok1
    generalize hasR H1.1 = hs at M ⊢
    obtain ⟨v, ⟨l3, b3⟩⟩ := V
    dsimp only at M hVl ⊢
    have e6 := (M.d1 1 rfl).slen
    refine cc is_rcut (rcut_any 2 M (M.d1 1 rfl) (by omega)) ?_
    clear M
    rintro e W ⟨A9, n9, c9, A10, n10, c10, rfl, M⟩
    refine ⟨_, rfl, ?_⟩
    have hle2 := cutP_le 2 ⟨l3, b3⟩
    have hok2 := cutP_ok (k := 2) (s := ⟨l3, b3⟩)
    obtain ⟨S, hS⟩ : ∃ S, S = cutP 2 ⟨l3, b3⟩ := ⟨_, rfl⟩
    rw [← hS] at M hle2 hok2 ⊢
    obtain ⟨set, ⟨l4, b4⟩⟩ := S
    dsimp only at M hle2 hok2 ⊢
    have e9 := (M.d1 0 rfl).slen
    subst e9
    obtain ⟨KR, hKR⟩ : ∃ KR, KR = kidsR set 16 0 ⟨l4, b4⟩ := ⟨_, rfl⟩
    rw [← hKR]
    refine p_fld fN4 rfl ?_
    refine v_load agg_ns rfl ((M.B 2 rfl).at_ rfl) ?_
    refine p_len sln rfl ?_
    replace M := M.addT (fr := true) (ds := dNs (noneNs 16)) (cs := zNs 16) (RdL.znones 16)
    refine lp (Nat × List Value × List Nd × Option Addr × Nat × Nat × List UInt8 × Bool) (fun s W => s.1 ≤ 16 ∧ s.2.2.1.length = s.1 ∧ St w gs W ((g, 85, [.slice s.2.2.2.1 s.2.2.2.2.1 s.2.2.2.2.2.1, .bool s.2.2.2.2.2.2.2]) :: (gk, 26, s.2.1) :: (g4, 26, [.int .i64 k, .slice none 0 0, .bool hs, .slice Av v.length cv, .slice (some ⟨gk, 0, none⟩) 16 16, .slice none 0 0]) :: (g2, 26, zN) :: L) R (.dat true (dNs (s.2.2.1 ++ noneNs (16 - s.1))) s.2.1 :: .dat false [dB set] [.slice A9 set.length c9] :: .dat false [dB s.2.2.2.2.2.2.1] [.slice s.2.2.2.1 s.2.2.2.2.1 s.2.2.2.2.2.1] :: .dat true [dB v] [.slice Av v.length cv] :: fs) ∧
        KR = (s.2.2.1 ++ (kidsR set (16 - s.1) s.1 ⟨s.2.2.2.2.2.2.1, s.2.2.2.2.2.2.2⟩).1, (kidsR set (16 - s.1) s.1 ⟨s.2.2.2.2.2.2.1, s.2.2.2.2.2.2.2⟩).2) ∧ (s.2.2.2.2.2.2.2 = false → set.length = 2) ∧ s.2.2.2.2.2.2.1.length ≤ l1.length)
      (fun s => [(0, .pointer (some ⟨g, 0, none⟩)), (2, .pointer (some ⟨g2, 0, none⟩)), (4, .pointer (some ⟨g4, 0, none⟩)), (9, .slice A9 set.length c9), (90, .int .i64 ((16 : Nat) : Int)), (91, .int .i64 s.1)]) (fun s => 16 - s.1) (0, zNs 16, [], A10, n10, c10, l4, b4) ⟨Nat.zero_le _, rfl, M.fsub _ (by intro f hf; simp only [List.mem_cons, List.nil_append, Nat.sub_zero] at hf ⊢; rcases hf with h | h | h | h | h <;> simp [h]), by rw [hKR]; simp, hok2, by dsimp only at hVl ⊢; omega⟩ (by repeat (first | exact trivial | refine ⟨rfl, ?_⟩)) ?_
    clear M
    rintro ⟨i, xs, dn, A7, n7, c7, ls, bs⟩ E5 W5 ⟨hi, hdl, M, hkr, hset, hlsl⟩
    dsimp only at hi hdl M hkr hset hlsl
    refine p_lt rfl rfl (fun hlt => ?_) (fun hge => ?_)
    · dsimp only at hlt
      have hi16 : i < 16 := by omega
      have hnn : noneNs (16 - i) = noneN :: noneNs (16 - (i + 1)) := by unfold noneNs; rw [show 16 - i = (16 - (i + 1)) + 1 by omega, List.replicate_succ]
      rw [show 16 - i = (16 - (i + 1)) + 1 by omega, kidsR] at hkr
      refine p_nil rfl ?_
      refine p_fld fr1 rfl ?_
      refine v_load agg_bo rfl ((M.B 0 rfl).at_ rfl) ?_
      refine p_not rfl ?_
      cases hbs : bs with
      | true =>
        obtain ⟨bs', hbs'⟩ : ∃ b, b = bs := ⟨_, rfl⟩
        have hno : ¬ (bs' = false ∧ bitB set i = true) := fun h => by rw [hbs', hbs] at h; cases h.1
        rw [← hbs'] at hkr M hset
        rw [if_neg (show ¬ (bs' = false ∧ bitB set i = true) from hno)] at hkr
        refine p_addN (b := 1) rfl rfl (by dsimp only; omega) ?_
        refine ⟨(i + 1, xs, dn ++ [noneN], A7, n7, c7, ls, bs'), ⟨by dsimp only; omega, by dsimp only; rw [List.length_append, hdl]; rfl, ?_, by rw [hkr]; simp, hset, hlsl⟩, (by repeat (first | exact trivial | refine ⟨rfl, ?_⟩)), by dsimp only; omega⟩
        rw [hnn] at M
        dsimp only
        rw [List.append_assoc]
        exact M
      | false =>
        have hsl := hset hbs
        have hi8 : i / 8 < set.length := by omega
        obtain ⟨b, off, hA, hcell⟩ := (M.rdb 1 rfl).2.2.at_ (k := i / 8) hi8
        subst hA
        refine p_quoN (b := 8) rfl rfl (by decide) (by dsimp only; omega) ?_
        refine p_at (i := i / 8) slb rfl rfl rfl hi8 ?_
        refine v_load agg_by' rfl (by rw [Addr.add_lit, Nat.mul_one]; exact hcell) ?_
        refine p_remN (b := 8) rfl rfl (by decide) ?_
        refine p_subN (a := 7) (b := i % 8) rfl rfl (by omega) (by omega) ?_
        have hq256 := (set.getD (i / 8) 0).toNat_lt
        refine p_shr rfl rfl (by omega) (r := (((set.getD (i / 8) 0).toNat / 2 ^ (7 - i % 8) : Nat) : Int)) (shr7 (by omega)) ?_
        refine p_and rfl rfl (r := ((((set.getD (i / 8) 0).toNat / 2 ^ (7 - i % 8)) % 2 : Nat) : Int)) (and1 (Nat.lt_of_le_of_lt (Nat.div_le_self _ _) hq256)) ?_
        refine p_eq rfl rfl (fun hbit => ?_) (fun hbit => ?_)
        · have hyes : bs = false ∧ bitB set i = true := ⟨hbs, by unfold bitB; rw [decide_eq_true]; omega⟩
          rw [if_pos hyes] at hkr
          replace M := M.drew
          refine drT (Kp w gs [(g4, 26, [.int .i64 k, .slice none 0 0, .bool hs, .slice Av v.length cv, .slice (some ⟨gk, 0, none⟩) 16 16, .slice none 0 0])] []) (.take 0 (.take 1 (.take 2 (.take 3 (.one 4 (.take 5 (.one 6 (.nil)))))))) (by kernel_rfl) (M.kp (by simp) (by simp)) ?_
          refine p_fld fN4 rfl ?_
          refine t_load agg_ns rfl (fun W K => (K.B 0 rfl).at_ rfl) ?_
          have e7 := (M.d1 2 rfl).slen
          have hxl := (M.da 0 rfl).len
          rw [dNs_len, List.length_append, hdl, noneNs_len] at hxl
          refine cc is_rstub (rstub_any M (M.d1 2 rfl) (by omega)) ?_
          clear M
          rintro e W ⟨A8, c8, A11, n11, c11, he, M⟩
          have hle3 := cutP_le 32 ⟨ls, bs⟩
          obtain ⟨H, hH⟩ : ∃ H, H = cutP 32 ⟨ls, bs⟩ := ⟨_, rfl⟩
          have hbad : H.2.bad = false → bs = false := fun _ => hbs
          rw [← hH] at M hle3 hkr he
          subst he
          refine ⟨_, rfl, (M.kp (by simp) (by simp)), ?_⟩
          refine p_atL (i := i) (q := i * 6) sln rfl rfl rfl hi16 (by omega) ?_
          refine s_storeP 1 (n := 6) (off := i * 6) (ncs (stubN H.1) none 0 none 0 none 0 A8 c8) _ M rfl sz_nd rfl rfl rfl (all1 rfl) (by omega) rfl ?_
          clear M; rintro W M
          dsimp only [setL] at M
          refine ⟨(M.kp (by simp) (by simp)), ?_⟩
          have hX := M.dt 2 rfl
          have hX2 := ((hX.take (i * 6)).app (M.dt 0 rfl)).app (hX.drop (i * 6 + 6))
          rw [← dNs_set (stubN H.1) (by rw [List.length_append, hdl, noneNs_len]; omega)] at hX2
          have hst : (dn ++ noneNs (16 - i)).set i (stubN H.1) = (dn ++ [stubN H.1]) ++ noneNs (16 - (i + 1)) := by
            rw [hnn, List.set_append_right _ _ (by omega), hdl, Nat.sub_self, List.set_cons_zero, List.append_assoc]; rfl
          rw [hst] at hX2
          replace M := M.addT hX2
          refine p_addN (b := 1) rfl rfl (by dsimp only; omega) ?_
          exact ⟨(i + 1, _, dn ++ [stubN H.1], A11, n11, c11, H.2.l, H.2.bad), ⟨by dsimp only; omega, by dsimp only; rw [List.length_append, hdl]; rfl, M.fsub _ (by intro f hf; simp only [List.mem_cons] at hf ⊢; rcases hf with h | h | h | h | h <;> simp [h]), by rw [hkr]; simp, fun h => hset (hbad h), by dsimp only at hle3 ⊢; omega⟩, (by repeat (first | exact trivial | refine ⟨rfl, ?_⟩)), by dsimp only; omega⟩
        · obtain ⟨bs', hbs'⟩ : ∃ b, b = bs := ⟨_, rfl⟩
          have hno : ¬ (bs' = false ∧ bitB set i = true) := fun h => by
            have h2 := h.2
            unfold bitB at h2
            rw [decide_eq_true_eq] at h2
            omega
          rw [← hbs'] at hkr M hset
          rw [if_neg (show ¬ (bs' = false ∧ bitB set i = true) from hno)] at hkr
          refine p_addN (b := 1) rfl rfl (by dsimp only; omega) ?_
          refine ⟨(i + 1, xs, dn ++ [noneN], A7, n7, c7, ls, bs'), ⟨by dsimp only; omega, by dsimp only; rw [List.length_append, hdl]; rfl, ?_, by rw [hkr]; simp, hset, hlsl⟩, (by repeat (first | exact trivial | refine ⟨rfl, ?_⟩)), by dsimp only; omega⟩
          rw [hnn] at M
          dsimp only
          rw [List.append_assoc]
          exact M
    · dsimp only at hge
      have hie : i = 16 := by omega
      subst hie
      rw [Nat.sub_self] at M hkr
      rw [show kidsR set 0 16 ⟨ls, bs⟩ = ([], ⟨ls, bs⟩) from rfl] at hkr
      rw [show noneNs 0 = [] from rfl, List.append_nil] at M
      dsimp only at hkr
      rw [List.append_nil] at hkr
      rw [hkr]
      dsimp only
      replace M := M.swp
      replace M := M.frzB (fr := true) (s := 6) (n := 16) (c := 16) (M.dt 0 rfl) (by rw [dNs_len, hdl]) (Nat.le_refl _)
      have hnc : ([.int .i64 k, .slice none 0 0, .bool hs, .slice Av v.length cv, .slice (some ⟨gk, 0, none⟩) 16 16, .slice none 0 0] : List Value) = ncs (.mk k [] hs v dn []) none 0 Av cv (some ⟨gk, 0, none⟩) 16 none 0 := by simp only [ncs, Nd.kids, Nd.kind, Nd.path, Nd.has, Nd.val, Nd.hash, hdl, List.length_nil]
      rw [hnc] at M
      refine v_loadN (ncs (.mk k [] hs v dn []) none 0 Av cv (some ⟨gk, 0, none⟩) 16 none 0) agg_nd rfl rfl (M.run 1 rfl) ?_
      refine s_storeA 2 (ncs (.mk k [] hs v dn []) none 0 Av cv (some ⟨gk, 0, none⟩) 16 none 0) M rfl sz_nd rfl rfl rfl (all1 rfl) rfl ?_
      clear M; rintro W M
      dsimp only [setL] at M
      refine c_loadN (ncs (.mk k [] hs v dn []) none 0 Av cv (some ⟨gk, 0, none⟩) 16 none 0) agg_nd rfl rfl (M.run 2 rfl) ?_
      have hks := (M.dt 0 rfl).hd
      have key : ∀ F, RdD W F (.sl 6 16 (dNs dn)) (.slice (some ⟨gk, 0, none⟩) 16 16) → RdD W F (dKs dn) (.slice (some ⟨gk, 0, none⟩) dn.length 16) := fun F h => by unfold dKs; rw [hdl]; exact h
      have hks2 := key _ hks
      have hn := RdL.ofnode (t := .mk k [] hs v dn []) (RdD.nil_ (s := 1) none 0) (M.dt 4 rfl).hd hks2 (RdD.nil_ (s := 1) none 0)
      exact ⟨_, A7, n7, c7, rfl, ((M.addT hn).drop2.drop2).fsub _ (by intro f hf; simp only [List.mem_cons] at hf ⊢; rcases hf with h | h | h <;> simp [h])⟩
end
end Go.Proofs.YtojjfkbffjkojaaDoor
