/- Package node: the walks of encode, hash, Encode, Hash, Fold. -/
import Derived.Test.YtojjfkbffjkojaaDoorG12
import Derived.Test.YtojjfkbffjkojaaDoorG13
import Derived.Test.YtojjfkbffjkojaaDoorG06
import Derived.Test.YtojjfkbffjkojaaDoorG09
import Derived.Test.YtojjfkbffjkojaaDoorG07
namespace Go.Proofs.YtojjfkbffjkojaaDoor
open Go.RowKit
theorem St.gl {w W : World} {gs : List (Option Nat)} {L : Lc} {R : List Row} {fs : List Fact} (M : St w gs W L R fs) (hG : GL w gs) : GL W (own L R gs) := hG.up ⟨M.size, fun b h _ => M.below.block b h, fun b hlt e => by
  unfold own at e
  rcases List.mem_append.1 e with e | e
  · obtain ⟨y, hy, he⟩ := List.mem_map.1 e
    injection he with he
    have := (M.blk y hy).2; omega
  rcases List.mem_append.1 e with e | e
  · obtain ⟨r, hr, he⟩ := List.mem_map.1 e
    have := (row_bklo (M.row r hr) b he).1; omega
  · exact e⟩
theorem orN {a b : Nat} (ha : a < 2 ^ 62) (hb : b < 2 ^ 62) : bits .or .i64 (a : Int) (b : Int) = ((a ||| b : Nat) : Int) := by
  have h := Nat.or_lt_two_pow ha hb
  have e : (BitVec.ofInt IntKind.i64.bits (a : Int) ||| BitVec.ofInt IntKind.i64.bits (b : Int)).toNat = a ||| b := by
    rw [BitVec.toNat_or, BitVec.ofInt_natCast, BitVec.ofInt_natCast, BitVec.toNat_ofNat, BitVec.toNat_ofNat, Nat.mod_eq_of_lt (by show a < 2 ^ 64; omega), Nat.mod_eq_of_lt (by show b < 2 ^ 64; omega)]
  show IntKind.i64.wrap ((BitVec.ofInt IntKind.i64.bits (a : Int) ||| BitVec.ofInt IntKind.i64.bits (b : Int)).toNat : Int) = _
  rw [e]
  exact w64 (by omega)
def setN (ks : List Nd) (i : Nat) : Nat := 256 * (kbits ks i).1 + (kbits ks i).2
theorem setN_bit : ∀ i, i < 16 → (if i < 8 then 256 * (128 / 2 ^ (i % 8)) else 128 / 2 ^ (i % 8)) = 2 ^ (15 - i) := by decide
theorem setN_yes {ks : List Nd} {i : Nat} (h : i < 16) (hk : (ks.getD i noneN).kind ≠ 0) : setN ks (i + 1) = setN ks i + 2 ^ (15 - i) := by
  have h1 := setN_bit i h
  unfold setN
  rw [kbits_succ]
  unfold kbit
  rw [if_pos hk]
  by_cases h8 : i < 8
  · rw [if_pos h8] at h1 ⊢
    dsimp only; omega
  · rw [if_neg h8] at h1 ⊢
    dsimp only; omega
theorem setN_no {ks : List Nd} {i : Nat} (hk : (ks.getD i noneN).kind = 0) : setN ks (i + 1) = setN ks i := by
  have hb : kbit ks i = 0 := by unfold kbit; rw [if_neg (fun h => h hk)]
  unfold setN
  rw [kbits_succ, hb]
  split <;> rfl
theorem setN_dvd (ks : List Nd) : ∀ i, i ≤ 16 → 2 ^ (16 - i) ∣ setN ks i
  | 0, _ => ⟨0, rfl⟩
  | i + 1, h => by
    have ih := setN_dvd ks i (by omega)
    have h1 : 2 ^ (16 - i) = 2 ^ (16 - (i + 1)) * 2 := by rw [← Nat.pow_succ]; congr 1; omega
    have h2 : 2 ^ (16 - (i + 1)) ∣ setN ks i := Nat.dvd_trans ⟨2, h1⟩ ih
    by_cases hk : (ks.getD i noneN).kind = 0
    · rw [setN_no hk]; exact h2
    · rw [setN_yes (by omega) hk]
      exact Nat.dvd_add h2 (by rw [show 16 - (i + 1) = 15 - i by omega]; exact Nat.dvd_refl _)
theorem setN_lt (ks : List Nd) {i : Nat} (h : i ≤ 16) : setN ks i < 65536 := by
  have := kbits_le ks i h
  unfold setN; omega
theorem setN_or {ks : List Nd} {i : Nat} (h : i < 16) (hk : (ks.getD i noneN).kind ≠ 0) : bits .or .i64 (setN ks i : Int) ((2 ^ (15 - i) : Nat) : Int) = (setN ks (i + 1) : Int) := by
  have hp : 2 ^ (15 - i) < 2 ^ 62 := Nat.pow_lt_pow_right (by decide) (by omega)
  rw [orN (by have := setN_lt ks (Nat.le_of_lt h); omega) hp, setN_yes h hk]
  obtain ⟨a, ha⟩ := setN_dvd ks i (by omega)
  rw [ha, Nat.two_pow_add_eq_or_of_lt (Nat.pow_lt_pow_right (by decide) (by omega))]
theorem shl15 {i : Nat} (h : i < 16) : IntKind.i64.wrap (1 * 2 ^ (min (((15 - i : Nat) : Int)).toNat IntKind.i64.bits)) = ((2 ^ (15 - i) : Nat) : Int) := by
  have key : ∀ i, i < 16 → IntKind.i64.wrap (1 * 2 ^ (min (((15 - i : Nat) : Int)).toNat IntKind.i64.bits)) = ((2 ^ (15 - i) : Nat) : Int) := by decide
  exact key i h
def NHashOk (t : Nd) : Prop := ∀ (d : Nat) (gs : List (Option Nat)) (w : World) (cs : List Value), Val false t d → GL w gs → RdL w (Fd w gs) (dN t) cs → (∀ b, some b ∈ gs → b < w.heap.size) →
  Calls Tryd.prog 72 #[.agg cs.toArray] w fun e w' => ∃ A n c, e = .returned (.slice A n c) ∧ Own w' w.heap.size A n c (hashP t) ∧ Below w.heap.size w w'
def NEncOk (t : Nd) : Prop := ∀ (d : Nat) (gs : List (Option Nat)) (w : World) (cs : List Value), Val false t d → GL w gs → RdL w (Fd w gs) (dN t) cs → (∀ b, some b ∈ gs → b < w.heap.size) →
  Calls Tryd.prog 73 #[.agg cs.toArray] w fun e w' => ∃ A n c, e = .returned (.slice A n c) ∧ Own w' w.heap.size A n c (if t.kind = 4 then [4] else encP t) ∧ Below w.heap.size w w'
theorem is_nenc : isFn Tryd.prog 73 = true := by kernel_rfl
theorem is_nhash : isFn Tryd.prog 72 = true := by kernel_rfl
theorem is_nHash : isFn Tryd.prog 36 = true := by kernel_rfl
theorem is_nFold : isFn Tryd.prog 46 = true := by kernel_rfl
theorem is_npack : isFn Tryd.prog 96 = true := by kernel_rfl
theorem is_npb : isFn Tryd.prog 97 = true := by kernel_rfl
theorem is_dgsum : isFn Tryd.prog 95 = true := by kernel_rfl
set_option maxRecDepth 100000 in
set_option maxHeartbeats 4000000 in
theorem nenc_step (N : Nat) (ih : ∀ k : Nd, sz k < N → NHashOk k) (t : Nd) (ht : sz t ≤ N) (hN : N ≤ 100000000) : NEncOk t := by
  intro d0 gs w cs hval hG hr hgs
  refine calls_ev (args := [.agg cs.toArray]) mixed Tryd.func73 rfl (by kernel_rfl) ?_
  obtain ⟨Ap, cp, Av, cv, Ak, ck, Ah, ch, rfl, r1, r3, r4, r5⟩ := hr.node
  have hsz := sz_eq t
  have hsl := szs_len t.kids
  have hpl := packL_len t.path (decide (t.kind = 1))
  have hvn := putN_len10 (n := t.val.length) (by omega)
  have M := (((St.start hgs).addD r4).addD r3).addD r1
  clear r1 r3 r4 r5 hr
  refine s_box (ncs t Ap cp Av cv Ak ck Ah ch) M rfl ?_
  clear M
  rintro g1 W M
  refine p_fld fN0 rfl ?_
  refine v_load agg_int rfl (by first | exact (M.B 0 rfl).at_ rfl | exact (M.B 1 rfl).at_ rfl | exact (M.B 2 rfl).at_ rfl | exact (M.B 3 rfl).at_ rfl | exact (M.B 4 rfl).at_ rfl | exact M.lc 0 rfl _ _ rfl | exact M.lc 1 rfl _ _ rfl | exact M.lc 2 rfl _ _ rfl | exact M.lc 3 rfl _ _ rfl | exact M.lc 4 rfl _ _ rfl | exact M.lc 5 rfl _ _ rfl | exact M.lc 6 rfl _ _ rfl | exact M.lc 7 rfl _ _ rfl) ?_
  refine v_cvt u_int u_u8 rfl (r := t.kind % 256) (by rw [IntKind.wrap_u8']) ?_
  refine s_litB [.int .u8 (t.kind % 256)] [b8 (t.kind % 256)] M (by decide) rfl (one_blk (by omega)) rfl ?_
  clear M; rintro g4 W M
  refine p_fld fN0 rfl ?_
  refine v_load agg_int rfl (by first | exact (M.B 0 rfl).at_ rfl | exact (M.B 1 rfl).at_ rfl | exact (M.B 2 rfl).at_ rfl | exact (M.B 3 rfl).at_ rfl | exact (M.B 4 rfl).at_ rfl | exact M.lc 0 rfl _ _ rfl | exact M.lc 1 rfl _ _ rfl | exact M.lc 2 rfl _ _ rfl | exact M.lc 3 rfl _ _ rfl | exact M.lc 4 rfl _ _ rfl | exact M.lc 5 rfl _ _ rfl | exact M.lc 6 rfl _ _ rfl | exact M.lc 7 rfl _ _ rfl) ?_
  refine p_eq rfl rfl (fun hk1 => ?_) (fun hk1 => ?_)
  · rw [if_neg (show ¬ t.kind = 4 by omega)]
    unfold encP encF
    rw [if_pos hk1]
    refine p_fld fN1 rfl ?_
    refine v_load agg_b rfl (by first | exact (M.B 0 rfl).at_ rfl | exact (M.B 1 rfl).at_ rfl | exact (M.B 2 rfl).at_ rfl | exact (M.B 3 rfl).at_ rfl | exact (M.B 4 rfl).at_ rfl | exact M.lc 0 rfl _ _ rfl | exact M.lc 1 rfl _ _ rfl | exact M.lc 2 rfl _ _ rfl | exact M.lc 3 rfl _ _ rfl | exact M.lc 4 rfl _ _ rfl | exact M.lc 5 rfl _ _ rfl | exact M.lc 6 rfl _ _ rfl | exact M.lc 7 rfl _ _ rfl) ?_
    refine p_fld fN0 rfl ?_
    refine v_load agg_int rfl (by first | exact (M.B 0 rfl).at_ rfl | exact (M.B 1 rfl).at_ rfl | exact (M.B 2 rfl).at_ rfl | exact (M.B 3 rfl).at_ rfl | exact (M.B 4 rfl).at_ rfl | exact M.lc 0 rfl _ _ rfl | exact M.lc 1 rfl _ _ rfl | exact M.lc 2 rfl _ _ rfl | exact M.lc 3 rfl _ _ rfl | exact M.lc 4 rfl _ _ rfl | exact M.lc 5 rfl _ _ rfl | exact M.lc 6 rfl _ _ rfl | exact M.lc 7 rfl _ _ rfl) ?_
    refine p_eqD rfl rfl ?_
    refine cc is_npack (pack_any Ap _ cp (decide (t.kind = 1)) t.path _ (M.rdb 0 rfl).2.2 (by omega) (M.rdb 0 rfl).2.1) ?_
    rintro e W ⟨A5, n5, c5, rfl, o5, hb⟩
    have e5 := o5.len
    replace M := M.callO hb o5
    clear o5 hb
    refine ⟨_, rfl, ?_⟩
    have hpn := putN_len10 (n := n5) (by omega)
    rw [decide_eq_true hk1] at M
    refine cc is_npb (putBytes_any _ _ _ (packL t.path true) _ (M.rdb 0 rfl).2.2 (by omega)) ?_
    rintro e W ⟨A7, c7, rfl, o7, hb⟩
    replace M := M.callO hb o7
    clear o7 hb
    refine ⟨_, rfl, ?_⟩
    refine s_appB M rfl rfl (M.rdb 0 rfl).2.2 (by omega) ?_
    clear M; rintro A8 c8 W M -
    refine p_fld fN0 rfl ?_
    refine v_load agg_int rfl (by first | exact (M.B 0 rfl).at_ rfl | exact (M.B 1 rfl).at_ rfl | exact (M.B 2 rfl).at_ rfl | exact (M.B 3 rfl).at_ rfl | exact (M.B 4 rfl).at_ rfl | exact M.lc 0 rfl _ _ rfl | exact M.lc 1 rfl _ _ rfl | exact M.lc 2 rfl _ _ rfl | exact M.lc 3 rfl _ _ rfl | exact M.lc 4 rfl _ _ rfl | exact M.lc 5 rfl _ _ rfl | exact M.lc 6 rfl _ _ rfl | exact M.lc 7 rfl _ _ rfl) ?_
    refine p_eq rfl rfl (fun h2 => absurd h2 (by omega)) (fun _ => ?_)
    refine p_fld fN3 rfl ?_
    refine v_load agg_b rfl (by first | exact (M.B 0 rfl).at_ rfl | exact (M.B 1 rfl).at_ rfl | exact (M.B 2 rfl).at_ rfl | exact (M.B 3 rfl).at_ rfl | exact (M.B 4 rfl).at_ rfl | exact M.lc 0 rfl _ _ rfl | exact M.lc 1 rfl _ _ rfl | exact M.lc 2 rfl _ _ rfl | exact M.lc 3 rfl _ _ rfl | exact M.lc 4 rfl _ _ rfl | exact M.lc 5 rfl _ _ rfl | exact M.lc 6 rfl _ _ rfl | exact M.lc 7 rfl _ _ rfl) ?_
    refine cc is_npb (putBytes_any _ _ _ t.val _ (M.rdb 3 rfl).2.2 (by omega)) ?_
    rintro e W ⟨A7, c7, rfl, o7, hb⟩
    replace M := M.callO hb o7
    clear o7 hb
    refine ⟨_, rfl, ?_⟩
    refine s_appB M rfl rfl (M.rdb 0 rfl).2.2 (by omega) ?_
    clear M; rintro A8 c8 W M -
    rw [List.singleton_append, List.cons_append] at M
    exact ⟨A8, _, c8, rfl, M.row _ (List.mem_cons_self ..), M.below⟩
  refine p_eq rfl rfl (fun hk2 => ?_) (fun hk2 => ?_)
  · rw [if_neg (show ¬ t.kind = 4 by omega)]
    unfold encP encF
    rw [if_neg hk1, if_pos hk2]
    refine p_fld fN1 rfl ?_
    refine v_load agg_b rfl (by first | exact (M.B 0 rfl).at_ rfl | exact (M.B 1 rfl).at_ rfl | exact (M.B 2 rfl).at_ rfl | exact (M.B 3 rfl).at_ rfl | exact (M.B 4 rfl).at_ rfl | exact M.lc 0 rfl _ _ rfl | exact M.lc 1 rfl _ _ rfl | exact M.lc 2 rfl _ _ rfl | exact M.lc 3 rfl _ _ rfl | exact M.lc 4 rfl _ _ rfl | exact M.lc 5 rfl _ _ rfl | exact M.lc 6 rfl _ _ rfl | exact M.lc 7 rfl _ _ rfl) ?_
    refine p_fld fN0 rfl ?_
    refine v_load agg_int rfl (by first | exact (M.B 0 rfl).at_ rfl | exact (M.B 1 rfl).at_ rfl | exact (M.B 2 rfl).at_ rfl | exact (M.B 3 rfl).at_ rfl | exact (M.B 4 rfl).at_ rfl | exact M.lc 0 rfl _ _ rfl | exact M.lc 1 rfl _ _ rfl | exact M.lc 2 rfl _ _ rfl | exact M.lc 3 rfl _ _ rfl | exact M.lc 4 rfl _ _ rfl | exact M.lc 5 rfl _ _ rfl | exact M.lc 6 rfl _ _ rfl | exact M.lc 7 rfl _ _ rfl) ?_
    refine p_eqD rfl rfl ?_
    refine cc is_npack (pack_any Ap _ cp (decide (t.kind = 1)) t.path _ (M.rdb 0 rfl).2.2 (by omega) (M.rdb 0 rfl).2.1) ?_
    rintro e W ⟨A5, n5, c5, rfl, o5, hb⟩
    have e5 := o5.len
    replace M := M.callO hb o5
    clear o5 hb
    refine ⟨_, rfl, ?_⟩
    have hpn := putN_len10 (n := n5) (by omega)
    rw [decide_eq_false hk1] at M
    refine cc is_npb (putBytes_any _ _ _ (packL t.path false) _ (M.rdb 0 rfl).2.2 (by omega)) ?_
    rintro e W ⟨A7, c7, rfl, o7, hb⟩
    replace M := M.callO hb o7
    clear o7 hb
    refine ⟨_, rfl, ?_⟩
    refine s_appB M rfl rfl (M.rdb 0 rfl).2.2 (by omega) ?_
    clear M; rintro A8 c8 W M -
    refine p_fld fN0 rfl ?_
    refine v_load agg_int rfl (by first | exact (M.B 0 rfl).at_ rfl | exact (M.B 1 rfl).at_ rfl | exact (M.B 2 rfl).at_ rfl | exact (M.B 3 rfl).at_ rfl | exact (M.B 4 rfl).at_ rfl | exact M.lc 0 rfl _ _ rfl | exact M.lc 1 rfl _ _ rfl | exact M.lc 2 rfl _ _ rfl | exact M.lc 3 rfl _ _ rfl | exact M.lc 4 rfl _ _ rfl | exact M.lc 5 rfl _ _ rfl | exact M.lc 6 rfl _ _ rfl | exact M.lc 7 rfl _ _ rfl) ?_
    refine p_eq rfl rfl (fun _ => ?_) (fun h2 => absurd hk2 h2)
    obtain ⟨k, hks, hvk, hk0⟩ := hval.way_kid hk2
    have hkl : t.kids.length = 1 := by rw [hks]; rfl
    have hkz : szs t.kids = sz k := by rw [hks, szs, szs]; omega
    have hki : t.kids[0]? = some k := by rw [hks]; rfl
    refine p_fld fN4 rfl ?_
    refine v_load agg_ns rfl (by first | exact (M.B 0 rfl).at_ rfl | exact (M.B 1 rfl).at_ rfl | exact (M.B 2 rfl).at_ rfl | exact (M.B 3 rfl).at_ rfl | exact (M.B 4 rfl).at_ rfl | exact M.lc 0 rfl _ _ rfl | exact M.lc 1 rfl _ _ rfl | exact M.lc 2 rfl _ _ rfl | exact M.lc 3 rfl _ _ rfl | exact M.lc 4 rfl _ _ rfl | exact M.lc 5 rfl _ _ rfl | exact M.lc 6 rfl _ _ rfl | exact M.lc 7 rfl _ _ rfl) ?_
    obtain ⟨b, off, es, e0, hel, M'⟩ := M.kid (M.d1 4 rfl) hki
    replace M := M'; clear M'
    refine p_at (i := 0) sln (by show (Value.slice Ak t.kids.length ck) = _; rw [e0]) rfl rfl (by omega) ?_
    refine v_loadN es agg_nd rfl hel (M.lc 0 rfl) ?_
    refine cc is_nhash (ih k (by omega) _ _ _ es hvk (M.gl hG) (M.da 1 rfl) M.olt) ?_
    rintro e W ⟨A9, n9, c9, rfl, o9, hb⟩
    have e9 := o9.len
    have l9 := hashP_len hvk
    replace M := M.callO hb o9
    refine ⟨_, rfl, ?_⟩
    refine s_appB M rfl rfl (M.rdb 0 rfl).2.2 (by omega) ?_
    clear M; rintro A10 c10 W M -
    rw [List.singleton_append, List.cons_append] at M
    have ehs : hashesP t.kids = hashP k := by rw [hks, hashesP, hashesP, if_pos hk0, List.append_nil]
    rw [ehs]
    exact ⟨A10, _, c10, rfl, M.row _ (List.mem_cons_self ..), M.below⟩
  refine p_eq rfl rfl (fun hk3 => ?_) (fun hk3 => ?_)
  rotate_left
  · by_cases hk4 : t.kind = 4
    · rw [if_pos hk4]
      rw [show b8 (t.kind % 256) = 4 by rw [hk4]; rfl] at M
      exact ⟨_, 1, _, rfl, M.row _ (List.mem_cons_self ..), M.below⟩
    · rw [if_neg hk4]
      unfold encP encF
      rw [if_neg hk1, if_neg hk2, if_neg hk3]
      exact ⟨_, 1, _, rfl, M.row _ (List.mem_cons_self ..), M.below⟩
  rw [if_neg (show ¬ t.kind = 4 by omega)]
  unfold encP encF
  rw [if_neg hk1, if_neg hk2, if_pos hk3]
  obtain ⟨h16, hvk⟩ := hval.br_kids hk3
  have hvk' : ∀ k ∈ t.kids, Val false k 0 := fun k hk => (hvk k hk).mono 0 (Nat.zero_le _)
  have htk : ∀ i, (hashesP (t.kids.take i)).length ≤ 512 := fun i => by
    have := hashesP_len (ks := t.kids.take i) (fun k hk => hvk' k (List.mem_of_mem_take hk))
    rw [List.length_take] at this
    omega
  obtain ⟨P, hP⟩ : ∃ P, P = b8 (t.kind % 256) :: (if t.has then (1 : UInt8) :: putB t.val else [0]) := ⟨_, rfl⟩
  have hPl : P.length ≤ 12 + t.val.length := by
    rw [hP, List.length_cons]
    split
    · rw [List.length_cons, putB_lenE]; omega
    · simp only [List.length_cons, List.length_nil]; omega
  have hgoal : b8 (t.kind % 256) :: ((if t.has = true then (1 : UInt8) :: putB t.val else [0]) ++ (UInt8.ofNat (kbits t.kids 16).1 :: UInt8.ofNat (kbits t.kids 16).2 :: hashesP t.kids)) = P ++ (UInt8.ofNat (kbits t.kids 16).1 :: UInt8.ofNat (kbits t.kids 16).2 :: hashesP t.kids) := by rw [hP]; rfl
  rw [hgoal]
  refine ev_assoc ?_
  refine cutS (Option Addr × Nat) (fun s W => St w gs W [(g1, 26, ncs t Ap cp Av cv Ak ck Ah ch)] [⟨5, 1, s.1, P.length, s.2, bvs P⟩] [.dat false [dKs t.kids] [.slice Ak t.kids.length ck]]) (fun s => [(1, .pointer (some ⟨g1, 0, none⟩)), (3, .slice s.1 P.length s.2), (6, .int .i64 0), (7, .slice none 0 0)]) ?_ ?_
  · refine p_fld fN2 rfl ?_
    refine v_load agg_bo rfl (by first | exact (M.B 0 rfl).at_ rfl | exact (M.B 1 rfl).at_ rfl | exact (M.B 2 rfl).at_ rfl | exact (M.B 3 rfl).at_ rfl | exact (M.B 4 rfl).at_ rfl | exact M.lc 0 rfl _ _ rfl | exact M.lc 1 rfl _ _ rfl | exact M.lc 2 rfl _ _ rfl | exact M.lc 3 rfl _ _ rfl | exact M.lc 4 rfl _ _ rfl | exact M.lc 5 rfl _ _ rfl | exact M.lc 6 rfl _ _ rfl | exact M.lc 7 rfl _ _ rfl) ?_
    cases hh : t.has with
    | true =>
      rw [hh, if_pos rfl] at hP
      replace M := M.drew
      refine drT (Kp w gs [(g1, 26, ncs t Ap cp Av cv Ak ck Ah ch)] []) (.take 0 (.take 3 (.take 4 (.one 1 (.one 2 (.one 5 (.one 6 (.take 7 (.nil))))))))) (by kernel_rfl) (M.kp (by simp) (by simp)) ?_
      refine p_fld fN3 rfl ?_
      refine t_load agg_b rfl (fun W K => by first | exact (K.B 0 rfl).at_ rfl | exact (K.B 1 rfl).at_ rfl | exact (K.B 2 rfl).at_ rfl | exact (K.B 3 rfl).at_ rfl | exact K.lc 0 rfl _ _ rfl | exact K.lc 1 rfl _ _ rfl | exact K.lc 2 rfl _ _ rfl | exact K.lc 3 rfl _ _ rfl) ?_
      refine s_litB [.int .u8 1] [1] M (by decide) rfl rfl rfl ?_
      clear M; rintro g9 W M
      replace M := M.frzO
      refine ⟨(M.kp (by simp) (by simp)), ?_⟩
      refine s_appB M rfl rfl (M.rdb 0 rfl).2.2 (by decide) ?_
      clear M; rintro A6 c6 W M -
      refine ⟨(M.kp (by simp) (by simp)), ?_⟩
      refine cc is_npb (putBytes_any _ _ _ t.val _ (M.rdb 2 rfl).2.2 (by omega)) ?_
      rintro e W ⟨A7, c7, rfl, o7, hb⟩
      replace M := M.callO hb o7
      clear o7 hb
      refine ⟨_, rfl, (M.kp (by simp) (by simp)), ?_⟩
      refine s_appB M rfl rfl (M.rdb 0 rfl).2.2 (by omega) ?_
      clear M; rintro A8 c8 W M -
      refine ⟨(M.kp (by simp) (by simp)), ?_⟩
      have e : [b8 (t.kind % 256)] ++ [1] ++ putB t.val = P := by rw [hP]; rfl
      rw [e] at M
      have hl : 1 + 1 + ((putN t.val.length).length + t.val.length) = P.length := by rw [hP, List.length_cons, List.length_cons, putB_lenE]; omega
      rw [hl] at M
      exact ⟨(A8, c8), M.fsub _ (by simp), ⟨rfl, (by show Value.slice A8 (1 + 1 + ((putN t.val.length).length + t.val.length)) c8 = _; rw [hl]), rfl, rfl, trivial⟩⟩
    | false =>
      rw [hh, if_neg (by simp)] at hP
      refine s_litB [.int .u8 0] [0] M (by decide) rfl rfl rfl ?_
      clear M; rintro g9 W M
      replace M := M.frzO
      refine s_appB M rfl rfl (M.rdb 0 rfl).2.2 (by decide) ?_
      clear M; rintro A8 c8 W M -
      have e : ([b8 (t.kind % 256)] ++ [0] : List UInt8) = P := by rw [hP]; rfl
      have hl : P.length = 2 := by rw [hP]; rfl
      rw [e] at M
      exact ⟨(A8, c8), by dsimp only; rw [hl]; exact M.fsub _ (by simp), ⟨rfl, (by show Value.slice A8 (1 + 1) c8 = _; rw [hl]), rfl, rfl, trivial⟩⟩
  · clear M
    rintro ⟨A0, c0⟩ B0 W0 M
    dsimp only at M
    replace M := M.nilR 5 1
    refine p_fld fN4 rfl ?_
    refine v_load agg_ns rfl (by first | exact (M.B 0 rfl).at_ rfl | exact (M.B 1 rfl).at_ rfl | exact (M.B 2 rfl).at_ rfl | exact (M.B 3 rfl).at_ rfl | exact (M.B 4 rfl).at_ rfl | exact M.lc 0 rfl _ _ rfl | exact M.lc 1 rfl _ _ rfl | exact M.lc 2 rfl _ _ rfl | exact M.lc 3 rfl _ _ rfl | exact M.lc 4 rfl _ _ rfl | exact M.lc 5 rfl _ _ rfl | exact M.lc 6 rfl _ _ rfl | exact M.lc 7 rfl _ _ rfl) ?_
    refine p_len sln rfl ?_
    obtain ⟨F, hF⟩ : ∃ F : Nat → List UInt8, F = fun i => hashesP (t.kids.take i) := ⟨_, rfl⟩
    have hF0 : F 0 = [] := by rw [hF]; rfl
    have hFl : ∀ i, (F i).length ≤ 512 := fun i => by rw [hF]; exact htk i
    have hF16 : F 16 = hashesP t.kids := by rw [hF]; simp only; rw [List.take_of_length_le (by omega)]
    refine lp (Nat × Option Addr × Nat) (fun s W => s.1 ≤ 16 ∧ St w gs W [(g1, 26, ncs t Ap cp Av cv Ak ck Ah ch)] [⟨5, 1, s.2.1, (F s.1).length, s.2.2, bvs (F s.1)⟩, ⟨5, 1, A0, P.length, c0, bvs P⟩] [.dat false [dKs t.kids] [.slice Ak t.kids.length ck]])
      (fun s => [(1, .pointer (some ⟨g1, 0, none⟩)), (3, .slice A0 P.length c0), (6, .int .i64 (setN t.kids s.1)), (7, .slice s.2.1 (F s.1).length s.2.2), (62, .slice Ak t.kids.length ck), (63, .int .i64 t.kids.length), (64, .int .i64 s.1)]) (fun s => 16 - s.1) (0, none, 0) ⟨Nat.zero_le _, by dsimp only; rw [hF0]; exact M⟩ (by dsimp only; rw [hF0]; exact ⟨rfl, rfl, rfl, rfl, rfl, rfl, rfl, trivial⟩) ?_
    clear M
    rintro ⟨i, A3, c3⟩ E5 W5 ⟨hi, M⟩
    dsimp only at hi M
    refine p_lt rfl rfl (fun hlt => ?_) (fun hge => ?_)
    · dsimp only at hlt
      have hi16 : i < 16 := by omega
      obtain ⟨k, hki⟩ : ∃ k, t.kids[i]? = some k := ⟨_, List.getElem?_eq_getElem (by omega)⟩
      have hki1 := List.getElem?_eq_some_iff.1 hki
      have hkd : t.kids.getD i noneN = k := by rw [List.getD_eq_getElem?_getD, hki]; rfl
      have hkz := szs_mem (List.mem_of_getElem? hki)
      have hvkk := hvk k (List.mem_of_getElem? hki)
      have htk1 : t.kids.take (i + 1) = t.kids.take i ++ [k] := by rw [List.take_succ_eq_append_getElem hki1.1, hki1.2]
      have hFs : F (i + 1) = F i ++ (if k.kind ≠ 0 then hashP k else []) := by rw [hF]; simp only; rw [htk1, hashesP_snoc]
      obtain ⟨b, off, es, e0, hel, M'⟩ := M.kid (M.d1 0 rfl) hki
      replace M := M'; clear M'
      obtain ⟨Ap5, cp5, Av5, cv5, Ak5, ck5, Ah5, ch5, rfl, -⟩ := (M.da 1 rfl).node
      refine p_at sln (by show (Value.slice Ak t.kids.length ck) = _; rw [e0]) rfl rfl (by omega) ?_
      refine v_loadN (ncs k Ap5 cp5 Av5 cv5 Ak5 ck5 Ah5 ch5) agg_nd rfl hel (M.lc 0 rfl) ?_
      refine s_alloc (zN) M al_nd ?_
      clear M
      rintro g9 W M
      first | refine s_storeA 0 (ncs k Ap5 cp5 Av5 cv5 Ak5 ck5 Ah5 ch5) M rfl (by kernel_rfl) rfl rfl rfl (all1 rfl) rfl ?_ | refine s_storeA 1 (ncs k Ap5 cp5 Av5 cv5 Ak5 ck5 Ah5 ch5) M rfl (by kernel_rfl) rfl rfl rfl (all1 rfl) rfl ?_ | refine s_storeA 2 (ncs k Ap5 cp5 Av5 cv5 Ak5 ck5 Ah5 ch5) M rfl (by kernel_rfl) rfl rfl rfl (all1 rfl) rfl ?_ | refine s_storeA 3 (ncs k Ap5 cp5 Av5 cv5 Ak5 ck5 Ah5 ch5) M rfl (by kernel_rfl) rfl rfl rfl (all1 rfl) rfl ?_
      clear M
      rintro W M
      dsimp only [setL] at M
      refine p_fld fN0 rfl ?_
      refine v_load agg_int rfl ((M.B 0 rfl).at_ rfl) ?_
      refine p_ne rfl rfl (fun hk0 => ?_) (fun hk0 => ?_)
      · rw [if_neg (by simp [hk0]), List.append_nil] at hFs
        have hsn := setN_no (ks := t.kids) (i := i) (by rw [hkd]; exact hk0)
        refine p_addN (b := 1) rfl rfl (by omega) ?_
        exact ⟨(i + 1, A3, c3), ⟨by dsimp only; omega, by dsimp only; rw [hFs]; exact M.dropL.fsub _ (by simp)⟩, (by dsimp only; rw [hFs, hsn]; exact ⟨rfl, rfl, rfl, rfl, rfl, rfl, rfl, trivial⟩), by dsimp only; omega⟩
      · rw [if_pos hk0] at hFs
        have hso := setN_or (ks := t.kids) hi16 (by rw [hkd]; exact hk0)
        refine p_subN (a := 15) (b := i) rfl rfl (by omega) (by omega) ?_
        refine p_shl rfl rfl (by omega) (shl15 hi16) ?_
        refine p_or rfl rfl hso ?_
        refine v_loadN (ncs k Ap5 cp5 Av5 cv5 Ak5 ck5 Ah5 ch5) agg_nd rfl hel (M.run 0 rfl) ?_
        refine cc is_nhash (ih k (by omega) _ _ _ _ hvkk (M.gl hG) (M.da 1 rfl) M.olt) ?_
        rintro e W ⟨A9, n9, c9, rfl, o9, hb⟩
        have e9 := o9.len
        have l9 := hashP_len hvkk
        replace M := M.callO hb o9
        refine ⟨_, rfl, ?_⟩
        have hFi := hFl i
        refine s_appB M rfl rfl (M.rdb 0 rfl).2.2 (by omega) ?_
        clear M; rintro A10 c10 W M -
        have hl10 : (F i).length + n9 = (F (i + 1)).length := by rw [hFs, List.length_append, e9]
        rw [← hFs, hl10] at M
        refine p_addN (b := 1) rfl rfl (by omega) ?_
        exact ⟨(i + 1, A10, c10), ⟨by dsimp only; omega, M.dropL.fsub _ (by simp)⟩, ⟨rfl, rfl, rfl, (by show Value.slice A10 ((F i).length + n9) c10 = _; rw [hl10]), rfl, rfl, rfl, trivial⟩, by dsimp only; omega⟩
    · dsimp only at hge
      have : i = 16 := by omega
      subst this
      have hF9 := hFl 16
      have hkb := kbits_le t.kids 16 (Nat.le_refl _)
      rw [hF16] at M hF9 ⊢
      replace M := M.frzO
      refine p_shr rfl rfl (by decide) (r := (((kbits t.kids 16).1 : Nat) : Int)) (by show ((setN t.kids 16 : Nat) : Int).fdiv 256 = _; rw [Int.fdiv_eq_ediv_of_nonneg _ (by decide)]; unfold setN; omega) ?_
      refine v_cvt u_int u_u8 rfl (r := (((kbits t.kids 16).1 : Nat) : Int)) (by rw [IntKind.wrap_u8']; omega) ?_
      refine v_cvt u_int u_u8 rfl (r := (((kbits t.kids 16).2 : Nat) : Int)) (by rw [IntKind.wrap_u8']; show ((setN t.kids 16 : Nat) : Int) % 256 = _; unfold setN; omega) ?_
      refine s_litB [.int .u8 (((kbits t.kids 16).1 : Nat) : Int), .int .u8 (((kbits t.kids 16).2 : Nat) : Int)] [UInt8.ofNat (kbits t.kids 16).1, UInt8.ofNat (kbits t.kids 16).2] M (by decide) rfl (by
        have e1 := bvs1 (kbits t.kids 16).1
        have e2 := bvs1 (kbits t.kids 16).2
        rw [Nat.mod_eq_of_lt (by omega)] at e1 e2
        show [Value.int .u8 _] ++ [Value.int .u8 _] = bvs ([UInt8.ofNat (kbits t.kids 16).1] ++ [UInt8.ofNat (kbits t.kids 16).2])
        rw [bvs_append, ← e1, ← e2]) rfl ?_
      clear M; rintro g10 W M
      replace M := M.frzO
      refine s_appB M rfl rfl (M.rdb 0 rfl).2.2 (by omega) ?_
      clear M; rintro A11 c11 W M -
      refine s_appB M rfl rfl (M.rdb 1 rfl).2.2 (by omega) ?_
      clear M; rintro A12 c12 W M -
      rw [List.append_assoc] at M
      exact ⟨A12, _, c12, rfl, M.row _ (List.mem_cons_self ..), M.below⟩
set_option maxRecDepth 100000 in
set_option maxHeartbeats 2000000 in
theorem nhash_step (t : Nd) (henc : NEncOk t) (hN : sz t ≤ 100000000) : NHashOk t := by
  intro d gs w cs hval hG hr hgs
  refine calls_ev (args := [.agg cs.toArray]) mixed Tryd.func72 rfl (by kernel_rfl) ?_
  obtain ⟨Ap, cp, Av, cv, Ak, ck, Ah, ch, rfl, r1, r3, r4, r5⟩ := hr.node
  have hsz := sz_eq t
  have M := ((St.start hgs).addD r5).addL hr
  clear r1 r3 r4 r5 hr
  refine s_box (ncs t Ap cp Av cv Ak ck Ah ch) M rfl ?_
  clear M
  rintro g1 W M
  refine p_fld fN0 rfl ?_
  refine v_load agg_int rfl (by first | exact (M.B 0 rfl).at_ rfl | exact (M.B 1 rfl).at_ rfl | exact (M.B 2 rfl).at_ rfl | exact (M.B 3 rfl).at_ rfl | exact (M.B 4 rfl).at_ rfl | exact M.lc 0 rfl _ _ rfl | exact M.lc 1 rfl _ _ rfl | exact M.lc 2 rfl _ _ rfl | exact M.lc 3 rfl _ _ rfl | exact M.lc 4 rfl _ _ rfl | exact M.lc 5 rfl _ _ rfl | exact M.lc 6 rfl _ _ rfl | exact M.lc 7 rfl _ _ rfl) ?_
  refine p_eq rfl rfl (fun h4 => ?_) (fun h4 => ?_)
  · refine p_fld fN5 rfl ?_
    refine v_load agg_b rfl (by first | exact (M.B 0 rfl).at_ rfl | exact (M.B 1 rfl).at_ rfl | exact (M.B 2 rfl).at_ rfl | exact (M.B 3 rfl).at_ rfl | exact (M.B 4 rfl).at_ rfl | exact M.lc 0 rfl _ _ rfl | exact M.lc 1 rfl _ _ rfl | exact M.lc 2 rfl _ _ rfl | exact M.lc 3 rfl _ _ rfl | exact M.lc 4 rfl _ _ rfl | exact M.lc 5 rfl _ _ rfl | exact M.lc 6 rfl _ _ rfl | exact M.lc 7 rfl _ _ rfl) ?_
    refine cc is_bclone (bclone_any _ _ _ _ t.hash _ (M.d1 1 rfl) (by omega)) ?_
    rintro e W ⟨A7, c7, rfl, o7, -, hb⟩
    replace M := M.callR (r := ⟨5, 1, A7, _, c7, bvs t.hash⟩) hb o7
    refine ⟨_, rfl, ?_⟩
    rw [show hashP t = t.hash by rw [hashP_eq, if_pos h4]]
    exact ⟨A7, _, c7, rfl, M.row _ (List.mem_cons_self ..), M.below⟩
  ·
    refine v_loadN (ncs t Ap cp Av cv Ak ck Ah ch) agg_nd rfl rfl (by first | exact M.run 0 rfl | exact M.run 1 rfl | exact M.run 2 rfl | exact M.run 3 rfl | exact M.run 4 rfl | exact M.lc 0 rfl | exact M.lc 1 rfl | exact M.lc 2 rfl | exact M.lc 3 rfl | exact M.lc 4 rfl | exact M.lc 5 rfl | exact M.lc 6 rfl | exact M.lc 7 rfl) ?_
    refine cc is_nenc (henc _ _ _ _ hval (M.gl hG) (by first | with_reducible exact M.da_0 | with_reducible exact M.da_1 | with_reducible exact M.da_2 | with_reducible exact M.da_3 | with_reducible exact M.da_4 | with_reducible exact M.da_5 | with_reducible exact M.da_6 | with_reducible exact M.da_7 | with_reducible exact M.da_8 | with_reducible exact M.da_9 | with_reducible exact M.da_10 | with_reducible exact M.da_11) M.olt) ?_
    rintro e W ⟨A5, n5, c5, rfl, o5, hb⟩
    rw [if_neg h4] at o5
    have e5 := o5.len
    have hel := encP_len (hval.mono 0 (Nat.zero_le _)) hN
    replace M := M.callO hb o5
    refine ⟨_, rfl, ?_⟩
    refine s_bslice [.slice A5 n5 c5] (fr := true) (ds := [dB (encP t)]) M slbb zls2 rfl (by decide) rfl (M.dt 0 rfl) rfl ?_
    clear M; rintro g3 W M
    refine cc is_dgsum (sum_any _ _ 1 1 [encP t] _ M.olt (M.gl hG) (M.d1 0 rfl) (by rw [List.flatten_cons, List.flatten_nil, List.append_nil]; omega) (by decide)) ?_
    rintro e W ⟨A7, c7, rfl, o7, hb⟩
    rw [List.flatten_cons, List.flatten_nil, List.append_nil] at o7
    replace M := M.callR (r := ⟨5, 1, A7, 32, c7, bvs (sha (encP t))⟩) hb o7
    refine ⟨_, rfl, ?_⟩
    rw [show hashP t = sha (encP t) by rw [hashP_eq, if_neg h4]]
    exact ⟨A7, 32, c7, rfl, M.row _ (List.mem_cons_self ..), M.below⟩
theorem nenc_all : ∀ (N : Nat), N ≤ 100000000 → ∀ t : Nd, sz t < N → NEncOk t ∧ NHashOk t
  | 0, _, t, h => by omega
  | N + 1, hN, t, h =>
    have e := nenc_step N (fun k hk => (nenc_all N (by omega) k hk).2) t (by omega) (by omega)
    ⟨e, nhash_step t e (by omega)⟩
set_option maxRecDepth 100000 in
set_option maxHeartbeats 2000000 in
theorem nHash_any (t : Nd) (ht : sz t ≤ 90000000) (gs : List (Option Nat)) (w : World) (cs : List Value) (hG : GL w gs) (hr : RdL w (Fd w gs) (dN t) cs) (hgs : ∀ b, some b ∈ gs → b < w.heap.size) :
    Calls Tryd.prog 36 #[.agg cs.toArray] w fun e w' => ∃ A n c, e = .returned (.slice A n c) ∧ Own w' w.heap.size A n c (hashR t) ∧ Below w.heap.size w w' := by
  refine calls_ev (args := [.agg cs.toArray]) mixed Tryd.func36 rfl (by kernel_rfl) ?_
  obtain ⟨Ap, cp, Av, cv, Ak, ck, Ah, ch, rfl, -⟩ := id hr.node
  have M := (St.start hgs).addL hr
  clear hr
  refine s_box (ncs t Ap cp Av cv Ak ck Ah ch) M rfl ?_
  clear M
  rintro g1 W M
  refine v_loadN (ncs t Ap cp Av cv Ak ck Ah ch) agg_nd rfl rfl (by first | exact M.run 0 rfl | exact M.run 1 rfl | exact M.run 2 rfl | exact M.run 3 rfl | exact M.run 4 rfl | exact M.lc 0 rfl | exact M.lc 1 rfl | exact M.lc 2 rfl | exact M.lc 3 rfl | exact M.lc 4 rfl | exact M.lc 5 rfl | exact M.lc 6 rfl | exact M.lc 7 rfl) ?_
  refine cc is_nright (nright_any 100000000 (Nat.le_refl _) t (by omega) _ _ _ 0 false (by first | with_reducible exact M.da_0 | with_reducible exact M.da_1 | with_reducible exact M.da_2 | with_reducible exact M.da_3 | with_reducible exact M.da_4 | with_reducible exact M.da_5 | with_reducible exact M.da_6 | with_reducible exact M.da_7 | with_reducible exact M.da_8 | with_reducible exact M.da_9 | with_reducible exact M.da_10 | with_reducible exact M.da_11) M.olt (by decide)) ?_
  rintro e W ⟨rfl, hb⟩
  refine ⟨_, rfl, ?_⟩
  replace M := M.call hb
  refine p_not rfl ?_
  unfold hashR
  cases hrt : rightP false t 0 with
  | false =>
    rw [if_neg (by decide)]
    exact ⟨none, 0, 0, rfl, World.ownsRow_nil _ _ _ _, M.below⟩
  | true =>
    rw [if_pos rfl]
    have hval := val_of_right false _ t 0 (Nat.lt_succ_self _) hrt
    refine v_loadN (ncs t Ap cp Av cv Ak ck Ah ch) agg_nd rfl rfl (by first | exact M.run 0 rfl | exact M.run 1 rfl | exact M.run 2 rfl | exact M.run 3 rfl | exact M.run 4 rfl | exact M.lc 0 rfl | exact M.lc 1 rfl | exact M.lc 2 rfl | exact M.lc 3 rfl | exact M.lc 4 rfl | exact M.lc 5 rfl | exact M.lc 6 rfl | exact M.lc 7 rfl) ?_
    refine cc is_nhash ((nenc_all 100000000 (Nat.le_refl _) t (by omega)).2 _ _ _ _ hval (M.gl hG) (by first | with_reducible exact M.da_0 | with_reducible exact M.da_1 | with_reducible exact M.da_2 | with_reducible exact M.da_3 | with_reducible exact M.da_4 | with_reducible exact M.da_5 | with_reducible exact M.da_6 | with_reducible exact M.da_7 | with_reducible exact M.da_8 | with_reducible exact M.da_9 | with_reducible exact M.da_10 | with_reducible exact M.da_11) M.olt) ?_
    rintro e W ⟨A5, n5, c5, rfl, o5, hb⟩
    replace M := M.callR (r := ⟨5, 1, A5, n5, c5, bvs (hashP t)⟩) hb o5
    refine ⟨_, rfl, ?_⟩
    exact ⟨A5, n5, c5, rfl, M.row _ (List.mem_cons_self ..), M.below⟩
set_option maxRecDepth 100000 in
set_option maxHeartbeats 2000000 in
theorem nFold_any (t : Nd) (ht : sz t ≤ 90000000) (gs : List (Option Nat)) (w : World) (cs : List Value) (hG : GL w gs) (hr : RdL w (Fd w gs) (dN t) cs) (hgs : ∀ b, some b ∈ gs → b < w.heap.size) :
    Calls Tryd.prog 46 #[.agg cs.toArray] w fun e w' => ∃ cs', e = .returned (.agg cs'.toArray) ∧ RdL w' (Fr w w') (dN (foldN t)) cs' ∧ Below w.heap.size w w' := by
  refine calls_ev (args := [.agg cs.toArray]) mixed Tryd.func46 rfl (by kernel_rfl) ?_
  obtain ⟨Ap, cp, Av, cv, Ak, ck, Ah, ch, rfl, r1, r3, r4, r5⟩ := hr.node
  have M := (St.start hgs).addL hr
  clear r1 r3 r4 r5 hr
  refine s_box (ncs t Ap cp Av cv Ak ck Ah ch) M rfl ?_
  clear M
  rintro g1 W M
  refine s_alloc (zN) M al_nd ?_
  clear M
  rintro g2 W M
  refine p_fld fN0 rfl ?_
  refine v_load agg_int rfl (by first | exact (M.B 0 rfl).at_ rfl | exact (M.B 1 rfl).at_ rfl | exact (M.B 2 rfl).at_ rfl | exact (M.B 3 rfl).at_ rfl | exact (M.B 4 rfl).at_ rfl | exact M.lc 0 rfl _ _ rfl | exact M.lc 1 rfl _ _ rfl | exact M.lc 2 rfl _ _ rfl | exact M.lc 3 rfl _ _ rfl | exact M.lc 4 rfl _ _ rfl | exact M.lc 5 rfl _ _ rfl | exact M.lc 6 rfl _ _ rfl | exact M.lc 7 rfl _ _ rfl) ?_
  unfold foldN
  refine p_eq rfl rfl (fun h0 => ?_) (fun h0 => ?_)
  · rw [if_pos h0]
    refine p_build (vs := zN) pl_nd z_nd rfl ?_
    first | refine s_storeA 0 (zN) M rfl (by kernel_rfl) rfl rfl rfl (all1 rfl) rfl ?_ | refine s_storeA 1 (zN) M rfl (by kernel_rfl) rfl rfl rfl (all1 rfl) rfl ?_ | refine s_storeA 2 (zN) M rfl (by kernel_rfl) rfl rfl rfl (all1 rfl) rfl ?_ | refine s_storeA 3 (zN) M rfl (by kernel_rfl) rfl rfl rfl (all1 rfl) rfl ?_
    clear M
    rintro W M
    dsimp only [setL] at M
    refine c_loadN (zN) agg_nd rfl rfl (by first | exact M.run 0 rfl | exact M.run 1 rfl | exact M.run 2 rfl | exact M.run 3 rfl | exact M.run 4 rfl | exact M.lc 0 rfl | exact M.lc 1 rfl | exact M.lc 2 rfl | exact M.lc 3 rfl | exact M.lc 4 rfl | exact M.lc 5 rfl | exact M.lc 6 rfl | exact M.lc 7 rfl) ?_
    exact ⟨_, rfl, RdL.znone, M.below⟩
  · rw [if_neg h0]
    refine v_loadN (ncs t Ap cp Av cv Ak ck Ah ch) agg_nd rfl rfl (by first | exact M.run 0 rfl | exact M.run 1 rfl | exact M.run 2 rfl | exact M.run 3 rfl | exact M.run 4 rfl | exact M.lc 0 rfl | exact M.lc 1 rfl | exact M.lc 2 rfl | exact M.lc 3 rfl | exact M.lc 4 rfl | exact M.lc 5 rfl | exact M.lc 6 rfl | exact M.lc 7 rfl) ?_
    refine cc is_nHash (nHash_any t ht _ _ _ (M.gl hG) (by first | with_reducible exact M.da_0 | with_reducible exact M.da_1 | with_reducible exact M.da_2 | with_reducible exact M.da_3 | with_reducible exact M.da_4 | with_reducible exact M.da_5 | with_reducible exact M.da_6 | with_reducible exact M.da_7 | with_reducible exact M.da_8 | with_reducible exact M.da_9 | with_reducible exact M.da_10 | with_reducible exact M.da_11) M.olt) ?_
    rintro e W ⟨A5, n5, c5, rfl, o5, hb⟩
    have e5 := o5.len
    replace M := M.callO hb o5
    refine ⟨_, rfl, ?_⟩
    subst e5
    refine p_build (vs := ncs (.mk 4 [] false [] [] (hashR t)) none 0 none 0 none 0 A5 c5) pl_nd z_nd rfl ?_
    first | refine s_storeA 0 (ncs (.mk 4 [] false [] [] (hashR t)) none 0 none 0 none 0 A5 c5) M rfl (by kernel_rfl) rfl rfl rfl (all1 rfl) rfl ?_ | refine s_storeA 1 (ncs (.mk 4 [] false [] [] (hashR t)) none 0 none 0 none 0 A5 c5) M rfl (by kernel_rfl) rfl rfl rfl (all1 rfl) rfl ?_ | refine s_storeA 2 (ncs (.mk 4 [] false [] [] (hashR t)) none 0 none 0 none 0 A5 c5) M rfl (by kernel_rfl) rfl rfl rfl (all1 rfl) rfl ?_ | refine s_storeA 3 (ncs (.mk 4 [] false [] [] (hashR t)) none 0 none 0 none 0 A5 c5) M rfl (by kernel_rfl) rfl rfl rfl (all1 rfl) rfl ?_
    clear M
    rintro W M
    dsimp only [setL] at M
    refine c_loadN (ncs (.mk 4 [] false [] [] (hashR t)) none 0 none 0 none 0 A5 c5) agg_nd rfl rfl (by first | exact M.run 0 rfl | exact M.run 1 rfl | exact M.run 2 rfl | exact M.run 3 rfl | exact M.run 4 rfl | exact M.lc 0 rfl | exact M.lc 1 rfl | exact M.lc 2 rfl | exact M.lc 3 rfl | exact M.lc 4 rfl | exact M.lc 5 rfl | exact M.lc 6 rfl | exact M.lc 7 rfl) ?_
    exact ⟨_, rfl, RdL.ofnode (t := .mk 4 [] false [] [] (hashR t)) (RdD.nil_ _ _) (RdD.nil_ _ _) (RdD.nil_ _ _) (M.finF1 0 rfl), M.below⟩
end Go.Proofs.YtojjfkbffjkojaaDoor
