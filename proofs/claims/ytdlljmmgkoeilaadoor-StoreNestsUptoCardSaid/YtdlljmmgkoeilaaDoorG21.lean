/- Package node: the walks of encode, hash, Encode, Hash, Fold. A state's own blocks and rows, in another order. law08: what the chapter's example fixes. law08: long, much. law08: copied. From a walk that returns true and writes nothing that was there to the row; arguments opened to lists. A [][]byte that came in, opened to lists. A node, a pair, and rows of them, that came in, opened. No walk here. The walks of the laws TrieGets and TriePuts. Numbers and bytes in one way: the reference's Get, GetInt, GetBytes. Lists of bytes as bytes: Join and Split, the program's and the reference's. Package node: the reader's methods. Halves of bytes: what the chapter's examples fix. The walks of the laws NibsBack, NibsOrder, NibsJoin, NibsCuts. The walk of the law NibsBack. Package node: Decode. Reference 07: text, stubs, Decode; reference 06: Unpack (what it makes is its caller's). Package reveal: At. -/
import Derived.Test.YtdlljmmgkoeilaaDoorG19
import Derived.Test.YtdlljmmgkoeilaaDoorG20
import Derived.Test.YtdlljmmgkoeilaaDoorG06
import Derived.Test.YtdlljmmgkoeilaaDoorG18
import Derived.Test.YtdlljmmgkoeilaaDoorG07
import Derived.Test.YtdlljmmgkoeilaaDoorG04
import Derived.Test.YtdlljmmgkoeilaaDoorG13
import Derived.Test.YtdlljmmgkoeilaaDoorG12
import Derived.Test.YtdlljmmgkoeilaaDoorRows
import Derived.Test.YtdlljmmgkoeilaaDoorG03
import Derived.ProofKit
import Derived.OpenShut
import Derived.ChangeOld
import Derived.WideKeyArgs
import Derived.JoinedCond
import Derived.Test.YtdlljmmgkoeilaaDoorG05
import Derived.ChangeArms
import Derived.Test.YtdlljmmgkoeilaaDoorG14
namespace Go.Proofs.YtdlljmmgkoeilaaDoor
open Go.RowKit
theorem St.gl {w W : World} {gs : List (Option Nat)} {L : Lc} {R : List Row} {fs : List Fact} (M : St w gs W L R fs) (hG : GL w gs) : GL W (own L R gs) := hG.up ⟨M.size, fun b h _ => M.below.block b h, fun b hlt e => by
  unfold own at e
  rcases List.mem_append.1 e with e | e
  · obtain ⟨y, hy, he⟩ := List.mem_map.1 e
    injection he with he
    have := (M.blk y hy).2; omega
  rcases List.mem_append.1 e with e | e
  · obtain ⟨r, hr, he⟩ := List.mem_map.1 e
    have := (row_bklo (M.row r hr) b he).1; omega
  · exact e⟩
theorem orN {a b : Nat} (ha : a < 2 ^ 62) (hb : b < 2 ^ 62) : bits .or .i64 (a : Int) (b : Int) = ((a ||| b : Nat) : Int) := by
  have h := Nat.or_lt_two_pow ha hb
  have e : (BitVec.ofInt IntKind.i64.bits (a : Int) ||| BitVec.ofInt IntKind.i64.bits (b : Int)).toNat = a ||| b := by
    rw [BitVec.toNat_or, BitVec.ofInt_natCast, BitVec.ofInt_natCast, BitVec.toNat_ofNat, BitVec.toNat_ofNat, Nat.mod_eq_of_lt (by show a < 2 ^ 64; omega), Nat.mod_eq_of_lt (by show b < 2 ^ 64; omega)]
  show IntKind.i64.wrap ((BitVec.ofInt IntKind.i64.bits (a : Int) ||| BitVec.ofInt IntKind.i64.bits (b : Int)).toNat : Int) = _
  rw [e]
  exact w64 (by omega)
def setN (ks : List Nd) (i : Nat) : Nat := 256 * (kbits ks i).1 + (kbits ks i).2
theorem setN_bit : ∀ i, i < 16 → (if i < 8 then 256 * (128 / 2 ^ (i % 8)) else 128 / 2 ^ (i % 8)) = 2 ^ (15 - i) := by decide
theorem setN_yes {ks : List Nd} {i : Nat} (h : i < 16) (hk : (ks.getD i noneN).kind ≠ 0) : setN ks (i + 1) = setN ks i + 2 ^ (15 - i) := by
  have h1 := setN_bit i h
  unfold setN
  rw [kbits_succ]
  unfold kbit
  rw [if_pos hk]
  by_cases h8 : i < 8
  · rw [if_pos h8] at h1 ⊢
    dsimp only; omega
  · rw [if_neg h8] at h1 ⊢
    dsimp only; omega
theorem setN_no {ks : List Nd} {i : Nat} (hk : (ks.getD i noneN).kind = 0) : setN ks (i + 1) = setN ks i := by
  have hb : kbit ks i = 0 := by unfold kbit; rw [if_neg (fun h => h hk)]
  unfold setN
  rw [kbits_succ, hb]
  split <;> rfl
theorem setN_dvd (ks : List Nd) : ∀ i, i ≤ 16 → 2 ^ (16 - i) ∣ setN ks i
  | 0, _ => ⟨0, rfl⟩
  | i + 1, h => by
    have ih := setN_dvd ks i (by omega)
    have h1 : 2 ^ (16 - i) = 2 ^ (16 - (i + 1)) * 2 := by rw [← Nat.pow_succ]; congr 1; omega
    have h2 : 2 ^ (16 - (i + 1)) ∣ setN ks i := Nat.dvd_trans ⟨2, h1⟩ ih
    by_cases hk : (ks.getD i noneN).kind = 0
    · rw [setN_no hk]; exact h2
    · rw [setN_yes (by omega) hk]
      exact Nat.dvd_add h2 (by rw [show 16 - (i + 1) = 15 - i by omega]; exact Nat.dvd_refl _)
theorem setN_lt (ks : List Nd) {i : Nat} (h : i ≤ 16) : setN ks i < 65536 := by
  have := kbits_le ks i h
  unfold setN; omega
theorem setN_or {ks : List Nd} {i : Nat} (h : i < 16) (hk : (ks.getD i noneN).kind ≠ 0) : bits .or .i64 (setN ks i : Int) ((2 ^ (15 - i) : Nat) : Int) = (setN ks (i + 1) : Int) := by
  have hp : 2 ^ (15 - i) < 2 ^ 62 := Nat.pow_lt_pow_right (by decide) (by omega)
  rw [orN (by have := setN_lt ks (Nat.le_of_lt h); omega) hp, setN_yes h hk]
  obtain ⟨a, ha⟩ := setN_dvd ks i (by omega)
  rw [ha, Nat.two_pow_add_eq_or_of_lt (Nat.pow_lt_pow_right (by decide) (by omega))]
theorem shl15 {i : Nat} (h : i < 16) : IntKind.i64.wrap (1 * 2 ^ (min (((15 - i : Nat) : Int)).toNat IntKind.i64.bits)) = ((2 ^ (15 - i) : Nat) : Int) := by
  have key : ∀ i, i < 16 → IntKind.i64.wrap (1 * 2 ^ (min (((15 - i : Nat) : Int)).toNat IntKind.i64.bits)) = ((2 ^ (15 - i) : Nat) : Int) := by decide
  exact key i h
def NHashOk (t : Nd) : Prop := ∀ (d : Nat) (gs : List (Option Nat)) (w : World) (cs : List Value), Val false t d → GL w gs → RdL w (Fd w gs) (dN t) cs → (∀ b, some b ∈ gs → b < w.heap.size) →
  Calls Tryd.prog 43 #[.agg cs.toArray] w fun e w' => ∃ A n c, e = .returned (.slice A n c) ∧ Own w' w.heap.size A n c (hashP t) ∧ Below w.heap.size w w'
def NEncOk (t : Nd) : Prop := ∀ (d : Nat) (gs : List (Option Nat)) (w : World) (cs : List Value), Val false t d → GL w gs → RdL w (Fd w gs) (dN t) cs → (∀ b, some b ∈ gs → b < w.heap.size) →
  Calls Tryd.prog 58 #[.agg cs.toArray] w fun e w' => ∃ A n c, e = .returned (.slice A n c) ∧ Own w' w.heap.size A n c (if t.kind = 4 then [4] else encP t) ∧ Below w.heap.size w w'
theorem is_nenc : isFn Tryd.prog 58 = true := by kernel_rfl
theorem is_nhash : isFn Tryd.prog 43 = true := by kernel_rfl
theorem is_nHash : isFn Tryd.prog 30 = true := by kernel_rfl
theorem is_npack : isFn Tryd.prog 74 = true := by kernel_rfl
theorem is_npb : isFn Tryd.prog 75 = true := by kernel_rfl
theorem is_dgsum : isFn Tryd.prog 57 = true := by kernel_rfl
set_option maxRecDepth 100000 in
set_option maxHeartbeats 4000000 in
theorem nenc_step (N : Nat) (ih : ∀ k : Nd, sz k < N → NHashOk k) (t : Nd) (ht : sz t ≤ N) (hN : N ≤ 100000000) : NEncOk t := by
  intro d0 gs w cs hval hG hr hgs
  refine calls_ev (args := [.agg cs.toArray]) mixed Tryd.func58 rfl (by kernel_rfl) ?_
  obtain ⟨Ap, cp, Av, cv, Ak, ck, Ah, ch, rfl, r1, r3, r4, r5⟩ := hr.node
  have hsz := sz_eq t
  have hsl := szs_len t.kids
  have hpl := packL_len t.path (decide (t.kind = 1))
  have hvn := putN_len10 (n := t.val.length) (by omega)
  have M := (((St.start hgs).addD r4).addD r3).addD r1
  clear r1 r3 r4 r5 hr
  refine s_box (ncs t Ap cp Av cv Ak ck Ah ch) M rfl ?_
  clear M
  rintro g1 W M
  refine p_fld fN0 rfl ?_
  refine v_load agg_int rfl (by first | exact (M.B 0 rfl).at_ rfl | exact (M.B 1 rfl).at_ rfl | exact (M.B 2 rfl).at_ rfl | exact (M.B 3 rfl).at_ rfl | exact (M.B 4 rfl).at_ rfl | exact M.lc 0 rfl _ _ rfl | exact M.lc 1 rfl _ _ rfl | exact M.lc 2 rfl _ _ rfl | exact M.lc 3 rfl _ _ rfl | exact M.lc 4 rfl _ _ rfl | exact M.lc 5 rfl _ _ rfl | exact M.lc 6 rfl _ _ rfl | exact M.lc 7 rfl _ _ rfl) ?_
  refine v_cvt u_int u_u8 rfl (r := t.kind % 256) (by rw [IntKind.wrap_u8']) ?_
  refine s_litB [.int .u8 (t.kind % 256)] [b8 (t.kind % 256)] M (by decide) rfl (one_blk (by omega)) rfl ?_
  clear M; rintro g4 W M
  refine p_fld fN0 rfl ?_
  refine v_load agg_int rfl (by first | exact (M.B 0 rfl).at_ rfl | exact (M.B 1 rfl).at_ rfl | exact (M.B 2 rfl).at_ rfl | exact (M.B 3 rfl).at_ rfl | exact (M.B 4 rfl).at_ rfl | exact M.lc 0 rfl _ _ rfl | exact M.lc 1 rfl _ _ rfl | exact M.lc 2 rfl _ _ rfl | exact M.lc 3 rfl _ _ rfl | exact M.lc 4 rfl _ _ rfl | exact M.lc 5 rfl _ _ rfl | exact M.lc 6 rfl _ _ rfl | exact M.lc 7 rfl _ _ rfl) ?_
  refine p_eq rfl rfl (fun hk1 => ?_) (fun hk1 => ?_)
  · rw [if_neg (show ¬ t.kind = 4 by omega)]
    unfold encP encF
    rw [if_pos hk1]
    refine p_fld fN1 rfl ?_
    refine v_load agg_b rfl (by first | exact (M.B 0 rfl).at_ rfl | exact (M.B 1 rfl).at_ rfl | exact (M.B 2 rfl).at_ rfl | exact (M.B 3 rfl).at_ rfl | exact (M.B 4 rfl).at_ rfl | exact M.lc 0 rfl _ _ rfl | exact M.lc 1 rfl _ _ rfl | exact M.lc 2 rfl _ _ rfl | exact M.lc 3 rfl _ _ rfl | exact M.lc 4 rfl _ _ rfl | exact M.lc 5 rfl _ _ rfl | exact M.lc 6 rfl _ _ rfl | exact M.lc 7 rfl _ _ rfl) ?_
    refine p_fld fN0 rfl ?_
    refine v_load agg_int rfl (by first | exact (M.B 0 rfl).at_ rfl | exact (M.B 1 rfl).at_ rfl | exact (M.B 2 rfl).at_ rfl | exact (M.B 3 rfl).at_ rfl | exact (M.B 4 rfl).at_ rfl | exact M.lc 0 rfl _ _ rfl | exact M.lc 1 rfl _ _ rfl | exact M.lc 2 rfl _ _ rfl | exact M.lc 3 rfl _ _ rfl | exact M.lc 4 rfl _ _ rfl | exact M.lc 5 rfl _ _ rfl | exact M.lc 6 rfl _ _ rfl | exact M.lc 7 rfl _ _ rfl) ?_
    refine p_eqD rfl rfl ?_
    refine cc is_npack (pack_any Ap _ cp (decide (t.kind = 1)) t.path _ (M.rdb 0 rfl).2.2 (by omega) (M.rdb 0 rfl).2.1) ?_
    rintro e W ⟨A5, n5, c5, rfl, o5, hb⟩
    have e5 := o5.len
    replace M := M.callO hb o5
    clear o5 hb
    refine ⟨_, rfl, ?_⟩
    have hpn := putN_len10 (n := n5) (by omega)
    rw [decide_eq_true hk1] at M
    refine cc is_npb (putBytes_any _ _ _ (packL t.path true) _ (M.rdb 0 rfl).2.2 (by omega)) ?_
    rintro e W ⟨A7, c7, rfl, o7, hb⟩
    replace M := M.callO hb o7
    clear o7 hb
    refine ⟨_, rfl, ?_⟩
    refine s_appB M rfl rfl (M.rdb 0 rfl).2.2 (by omega) ?_
    clear M; rintro A8 c8 W M -
    refine p_fld fN0 rfl ?_
    refine v_load agg_int rfl (by first | exact (M.B 0 rfl).at_ rfl | exact (M.B 1 rfl).at_ rfl | exact (M.B 2 rfl).at_ rfl | exact (M.B 3 rfl).at_ rfl | exact (M.B 4 rfl).at_ rfl | exact M.lc 0 rfl _ _ rfl | exact M.lc 1 rfl _ _ rfl | exact M.lc 2 rfl _ _ rfl | exact M.lc 3 rfl _ _ rfl | exact M.lc 4 rfl _ _ rfl | exact M.lc 5 rfl _ _ rfl | exact M.lc 6 rfl _ _ rfl | exact M.lc 7 rfl _ _ rfl) ?_
    refine p_eq rfl rfl (fun h2 => absurd h2 (by omega)) (fun _ => ?_)
    refine p_fld fN3 rfl ?_
    refine v_load agg_b rfl (by first | exact (M.B 0 rfl).at_ rfl | exact (M.B 1 rfl).at_ rfl | exact (M.B 2 rfl).at_ rfl | exact (M.B 3 rfl).at_ rfl | exact (M.B 4 rfl).at_ rfl | exact M.lc 0 rfl _ _ rfl | exact M.lc 1 rfl _ _ rfl | exact M.lc 2 rfl _ _ rfl | exact M.lc 3 rfl _ _ rfl | exact M.lc 4 rfl _ _ rfl | exact M.lc 5 rfl _ _ rfl | exact M.lc 6 rfl _ _ rfl | exact M.lc 7 rfl _ _ rfl) ?_
    refine cc is_npb (putBytes_any _ _ _ t.val _ (M.rdb 3 rfl).2.2 (by omega)) ?_
    rintro e W ⟨A7, c7, rfl, o7, hb⟩
    replace M := M.callO hb o7
    clear o7 hb
    refine ⟨_, rfl, ?_⟩
    refine s_appB M rfl rfl (M.rdb 0 rfl).2.2 (by omega) ?_
    clear M; rintro A8 c8 W M -
    rw [List.singleton_append, List.cons_append] at M
    exact ⟨A8, _, c8, rfl, M.row _ (List.mem_cons_self ..), M.below⟩
  refine p_eq rfl rfl (fun hk2 => ?_) (fun hk2 => ?_)
  · rw [if_neg (show ¬ t.kind = 4 by omega)]
    unfold encP encF
    rw [if_neg hk1, if_pos hk2]
    refine p_fld fN1 rfl ?_
    refine v_load agg_b rfl (by first | exact (M.B 0 rfl).at_ rfl | exact (M.B 1 rfl).at_ rfl | exact (M.B 2 rfl).at_ rfl | exact (M.B 3 rfl).at_ rfl | exact (M.B 4 rfl).at_ rfl | exact M.lc 0 rfl _ _ rfl | exact M.lc 1 rfl _ _ rfl | exact M.lc 2 rfl _ _ rfl | exact M.lc 3 rfl _ _ rfl | exact M.lc 4 rfl _ _ rfl | exact M.lc 5 rfl _ _ rfl | exact M.lc 6 rfl _ _ rfl | exact M.lc 7 rfl _ _ rfl) ?_
    refine p_fld fN0 rfl ?_
    refine v_load agg_int rfl (by first | exact (M.B 0 rfl).at_ rfl | exact (M.B 1 rfl).at_ rfl | exact (M.B 2 rfl).at_ rfl | exact (M.B 3 rfl).at_ rfl | exact (M.B 4 rfl).at_ rfl | exact M.lc 0 rfl _ _ rfl | exact M.lc 1 rfl _ _ rfl | exact M.lc 2 rfl _ _ rfl | exact M.lc 3 rfl _ _ rfl | exact M.lc 4 rfl _ _ rfl | exact M.lc 5 rfl _ _ rfl | exact M.lc 6 rfl _ _ rfl | exact M.lc 7 rfl _ _ rfl) ?_
    refine p_eqD rfl rfl ?_
    refine cc is_npack (pack_any Ap _ cp (decide (t.kind = 1)) t.path _ (M.rdb 0 rfl).2.2 (by omega) (M.rdb 0 rfl).2.1) ?_
    rintro e W ⟨A5, n5, c5, rfl, o5, hb⟩
    have e5 := o5.len
    replace M := M.callO hb o5
    clear o5 hb
    refine ⟨_, rfl, ?_⟩
    have hpn := putN_len10 (n := n5) (by omega)
    rw [decide_eq_false hk1] at M
    refine cc is_npb (putBytes_any _ _ _ (packL t.path false) _ (M.rdb 0 rfl).2.2 (by omega)) ?_
    rintro e W ⟨A7, c7, rfl, o7, hb⟩
    replace M := M.callO hb o7
    clear o7 hb
    refine ⟨_, rfl, ?_⟩
    refine s_appB M rfl rfl (M.rdb 0 rfl).2.2 (by omega) ?_
    clear M; rintro A8 c8 W M -
    refine p_fld fN0 rfl ?_
    refine v_load agg_int rfl (by first | exact (M.B 0 rfl).at_ rfl | exact (M.B 1 rfl).at_ rfl | exact (M.B 2 rfl).at_ rfl | exact (M.B 3 rfl).at_ rfl | exact (M.B 4 rfl).at_ rfl | exact M.lc 0 rfl _ _ rfl | exact M.lc 1 rfl _ _ rfl | exact M.lc 2 rfl _ _ rfl | exact M.lc 3 rfl _ _ rfl | exact M.lc 4 rfl _ _ rfl | exact M.lc 5 rfl _ _ rfl | exact M.lc 6 rfl _ _ rfl | exact M.lc 7 rfl _ _ rfl) ?_
    refine p_eq rfl rfl (fun _ => ?_) (fun h2 => absurd hk2 h2)
    obtain ⟨k, hks, hvk, hk0⟩ := hval.way_kid hk2
    have hkl : t.kids.length = 1 := by rw [hks]; rfl
    have hkz : szs t.kids = sz k := by rw [hks, szs, szs]; omega
    have hki : t.kids[0]? = some k := by rw [hks]; rfl
    refine p_fld fN4 rfl ?_
    refine v_load agg_ns rfl (by first | exact (M.B 0 rfl).at_ rfl | exact (M.B 1 rfl).at_ rfl | exact (M.B 2 rfl).at_ rfl | exact (M.B 3 rfl).at_ rfl | exact (M.B 4 rfl).at_ rfl | exact M.lc 0 rfl _ _ rfl | exact M.lc 1 rfl _ _ rfl | exact M.lc 2 rfl _ _ rfl | exact M.lc 3 rfl _ _ rfl | exact M.lc 4 rfl _ _ rfl | exact M.lc 5 rfl _ _ rfl | exact M.lc 6 rfl _ _ rfl | exact M.lc 7 rfl _ _ rfl) ?_
    obtain ⟨b, off, es, e0, hel, M'⟩ := M.kid (M.d1 4 rfl) hki
    replace M := M'; clear M'
    refine p_at (i := 0) sln (by show (Value.slice Ak t.kids.length ck) = _; rw [e0]) rfl rfl (by omega) ?_
    refine v_loadN es agg_nd rfl hel (M.lc 0 rfl) ?_
    refine cc is_nhash (ih k (by omega) _ _ _ es hvk (M.gl hG) (M.da 1 rfl) M.olt) ?_
    rintro e W ⟨A9, n9, c9, rfl, o9, hb⟩
    have e9 := o9.len
    have l9 := hashP_len hvk
    replace M := M.callO hb o9
    refine ⟨_, rfl, ?_⟩
    refine s_appB M rfl rfl (M.rdb 0 rfl).2.2 (by omega) ?_
    clear M; rintro A10 c10 W M -
    rw [List.singleton_append, List.cons_append] at M
    have ehs : hashesP t.kids = hashP k := by rw [hks, hashesP, hashesP, if_pos hk0, List.append_nil]
    rw [ehs]
    exact ⟨A10, _, c10, rfl, M.row _ (List.mem_cons_self ..), M.below⟩
  refine p_eq rfl rfl (fun hk3 => ?_) (fun hk3 => ?_)
  rotate_left
  · by_cases hk4 : t.kind = 4
    · rw [if_pos hk4]
      rw [show b8 (t.kind % 256) = 4 by rw [hk4]; rfl] at M
      exact ⟨_, 1, _, rfl, M.row _ (List.mem_cons_self ..), M.below⟩
    · rw [if_neg hk4]
      unfold encP encF
      rw [if_neg hk1, if_neg hk2, if_neg hk3]
      exact ⟨_, 1, _, rfl, M.row _ (List.mem_cons_self ..), M.below⟩
  rw [if_neg (show ¬ t.kind = 4 by omega)]
  unfold encP encF
  rw [if_neg hk1, if_neg hk2, if_pos hk3]
  obtain ⟨h16, hvk⟩ := hval.br_kids hk3
  have hvk' : ∀ k ∈ t.kids, Val false k 0 := fun k hk => (hvk k hk).mono 0 (Nat.zero_le _)
  have htk : ∀ i, (hashesP (t.kids.take i)).length ≤ 512 := fun i => by
    have := hashesP_len (ks := t.kids.take i) (fun k hk => hvk' k (List.mem_of_mem_take hk))
    rw [List.length_take] at this
    omega
  obtain ⟨P, hP⟩ : ∃ P, P = b8 (t.kind % 256) :: (if t.has then (1 : UInt8) :: putB t.val else [0]) := ⟨_, rfl⟩
  have hPl : P.length ≤ 12 + t.val.length := by
    rw [hP, List.length_cons]
    split
    · rw [List.length_cons, putB_lenE]; omega
    · simp only [List.length_cons, List.length_nil]; omega
  have hgoal : b8 (t.kind % 256) :: ((if t.has = true then (1 : UInt8) :: putB t.val else [0]) ++ (UInt8.ofNat (kbits t.kids 16).1 :: UInt8.ofNat (kbits t.kids 16).2 :: hashesP t.kids)) = P ++ (UInt8.ofNat (kbits t.kids 16).1 :: UInt8.ofNat (kbits t.kids 16).2 :: hashesP t.kids) := by rw [hP]; rfl
  rw [hgoal]
  refine ev_assoc ?_
  refine cutS (Option Addr × Nat) (fun s W => St w gs W [(g1, 28, ncs t Ap cp Av cv Ak ck Ah ch)] [⟨5, 1, s.1, P.length, s.2, bvs P⟩] [.dat false [dKs t.kids] [.slice Ak t.kids.length ck]]) (fun s => [(1, .pointer (some ⟨g1, 0, none⟩)), (3, .slice s.1 P.length s.2), (6, .int .i64 0), (7, .slice none 0 0)]) ?_ ?_
  · refine p_fld fN2 rfl ?_
    refine v_load agg_bo rfl (by first | exact (M.B 0 rfl).at_ rfl | exact (M.B 1 rfl).at_ rfl | exact (M.B 2 rfl).at_ rfl | exact (M.B 3 rfl).at_ rfl | exact (M.B 4 rfl).at_ rfl | exact M.lc 0 rfl _ _ rfl | exact M.lc 1 rfl _ _ rfl | exact M.lc 2 rfl _ _ rfl | exact M.lc 3 rfl _ _ rfl | exact M.lc 4 rfl _ _ rfl | exact M.lc 5 rfl _ _ rfl | exact M.lc 6 rfl _ _ rfl | exact M.lc 7 rfl _ _ rfl) ?_
    cases hh : t.has with
    | true =>
      rw [hh, if_pos rfl] at hP
      replace M := M.drew
      refine drT (Kp w gs [(g1, 28, ncs t Ap cp Av cv Ak ck Ah ch)] []) (.take 0 (.take 3 (.take 4 (.one 1 (.one 2 (.one 5 (.one 6 (.take 7 (.nil))))))))) (by kernel_rfl) (M.kp (by simp) (by simp)) ?_
      refine p_fld fN3 rfl ?_
      refine t_load agg_b rfl (fun W K => by first | exact (K.B 0 rfl).at_ rfl | exact (K.B 1 rfl).at_ rfl | exact (K.B 2 rfl).at_ rfl | exact (K.B 3 rfl).at_ rfl | exact K.lc 0 rfl _ _ rfl | exact K.lc 1 rfl _ _ rfl | exact K.lc 2 rfl _ _ rfl | exact K.lc 3 rfl _ _ rfl) ?_
      refine s_litB [.int .u8 1] [1] M (by decide) rfl rfl rfl ?_
      clear M; rintro g9 W M
      replace M := M.frzO
      refine ⟨(M.kp (by simp) (by simp)), ?_⟩
      refine s_appB M rfl rfl (M.rdb 0 rfl).2.2 (by decide) ?_
      clear M; rintro A6 c6 W M -
      refine ⟨(M.kp (by simp) (by simp)), ?_⟩
      refine cc is_npb (putBytes_any _ _ _ t.val _ (M.rdb 2 rfl).2.2 (by omega)) ?_
      rintro e W ⟨A7, c7, rfl, o7, hb⟩
      replace M := M.callO hb o7
      clear o7 hb
      refine ⟨_, rfl, (M.kp (by simp) (by simp)), ?_⟩
      refine s_appB M rfl rfl (M.rdb 0 rfl).2.2 (by omega) ?_
      clear M; rintro A8 c8 W M -
      refine ⟨(M.kp (by simp) (by simp)), ?_⟩
      have e : [b8 (t.kind % 256)] ++ [1] ++ putB t.val = P := by rw [hP]; rfl
      rw [e] at M
      have hl : 1 + 1 + ((putN t.val.length).length + t.val.length) = P.length := by rw [hP, List.length_cons, List.length_cons, putB_lenE]; omega
      rw [hl] at M
      exact ⟨(A8, c8), M.fsub _ (by simp), ⟨rfl, (by show Value.slice A8 (1 + 1 + ((putN t.val.length).length + t.val.length)) c8 = _; rw [hl]), rfl, rfl, trivial⟩⟩
    | false =>
      rw [hh, if_neg (by simp)] at hP
      refine s_litB [.int .u8 0] [0] M (by decide) rfl rfl rfl ?_
      clear M; rintro g9 W M
      replace M := M.frzO
      refine s_appB M rfl rfl (M.rdb 0 rfl).2.2 (by decide) ?_
      clear M; rintro A8 c8 W M -
      have e : ([b8 (t.kind % 256)] ++ [0] : List UInt8) = P := by rw [hP]; rfl
      have hl : P.length = 2 := by rw [hP]; rfl
      rw [e] at M
      exact ⟨(A8, c8), by dsimp only; rw [hl]; exact M.fsub _ (by simp), ⟨rfl, (by show Value.slice A8 (1 + 1) c8 = _; rw [hl]), rfl, rfl, trivial⟩⟩
  · clear M
    rintro ⟨A0, c0⟩ B0 W0 M
    dsimp only at M
    replace M := M.nilR 5 1
    refine p_fld fN4 rfl ?_
    refine v_load agg_ns rfl (by first | exact (M.B 0 rfl).at_ rfl | exact (M.B 1 rfl).at_ rfl | exact (M.B 2 rfl).at_ rfl | exact (M.B 3 rfl).at_ rfl | exact (M.B 4 rfl).at_ rfl | exact M.lc 0 rfl _ _ rfl | exact M.lc 1 rfl _ _ rfl | exact M.lc 2 rfl _ _ rfl | exact M.lc 3 rfl _ _ rfl | exact M.lc 4 rfl _ _ rfl | exact M.lc 5 rfl _ _ rfl | exact M.lc 6 rfl _ _ rfl | exact M.lc 7 rfl _ _ rfl) ?_
    refine p_len sln rfl ?_
    obtain ⟨F, hF⟩ : ∃ F : Nat → List UInt8, F = fun i => hashesP (t.kids.take i) := ⟨_, rfl⟩
    have hF0 : F 0 = [] := by rw [hF]; rfl
    have hFl : ∀ i, (F i).length ≤ 512 := fun i => by rw [hF]; exact htk i
    have hF16 : F 16 = hashesP t.kids := by rw [hF]; simp only; rw [List.take_of_length_le (by omega)]
    refine lp (Nat × Option Addr × Nat) (fun s W => s.1 ≤ 16 ∧ St w gs W [(g1, 28, ncs t Ap cp Av cv Ak ck Ah ch)] [⟨5, 1, s.2.1, (F s.1).length, s.2.2, bvs (F s.1)⟩, ⟨5, 1, A0, P.length, c0, bvs P⟩] [.dat false [dKs t.kids] [.slice Ak t.kids.length ck]])
      (fun s => [(1, .pointer (some ⟨g1, 0, none⟩)), (3, .slice A0 P.length c0), (6, .int .i64 (setN t.kids s.1)), (7, .slice s.2.1 (F s.1).length s.2.2), (62, .slice Ak t.kids.length ck), (63, .int .i64 t.kids.length), (64, .int .i64 s.1)]) (fun s => 16 - s.1) (0, none, 0) ⟨Nat.zero_le _, by dsimp only; rw [hF0]; exact M⟩ (by dsimp only; rw [hF0]; exact ⟨rfl, rfl, rfl, rfl, rfl, rfl, rfl, trivial⟩) ?_
    clear M
    rintro ⟨i, A3, c3⟩ E5 W5 ⟨hi, M⟩
    dsimp only at hi M
    refine p_lt rfl rfl (fun hlt => ?_) (fun hge => ?_)
    · dsimp only at hlt
      have hi16 : i < 16 := by omega
      obtain ⟨k, hki⟩ : ∃ k, t.kids[i]? = some k := ⟨_, List.getElem?_eq_getElem (by omega)⟩
      have hki1 := List.getElem?_eq_some_iff.1 hki
      have hkd : t.kids.getD i noneN = k := by rw [List.getD_eq_getElem?_getD, hki]; rfl
      have hkz := szs_mem (List.mem_of_getElem? hki)
      have hvkk := hvk k (List.mem_of_getElem? hki)
      have htk1 : t.kids.take (i + 1) = t.kids.take i ++ [k] := by rw [List.take_succ_eq_append_getElem hki1.1, hki1.2]
      have hFs : F (i + 1) = F i ++ (if k.kind ≠ 0 then hashP k else []) := by rw [hF]; simp only; rw [htk1, hashesP_snoc]
      obtain ⟨b, off, es, e0, hel, M'⟩ := M.kid (M.d1 0 rfl) hki
      replace M := M'; clear M'
      obtain ⟨Ap5, cp5, Av5, cv5, Ak5, ck5, Ah5, ch5, rfl, -⟩ := (M.da 1 rfl).node
      refine p_at sln (by show (Value.slice Ak t.kids.length ck) = _; rw [e0]) rfl rfl (by omega) ?_
      refine v_loadN (ncs k Ap5 cp5 Av5 cv5 Ak5 ck5 Ah5 ch5) agg_nd rfl hel (M.lc 0 rfl) ?_
      refine s_alloc (zN) M al_nd ?_
      clear M
      rintro g9 W M
      first | refine s_storeA 0 (ncs k Ap5 cp5 Av5 cv5 Ak5 ck5 Ah5 ch5) M rfl (by kernel_rfl) rfl rfl rfl (all1 rfl) rfl ?_ | refine s_storeA 1 (ncs k Ap5 cp5 Av5 cv5 Ak5 ck5 Ah5 ch5) M rfl (by kernel_rfl) rfl rfl rfl (all1 rfl) rfl ?_ | refine s_storeA 2 (ncs k Ap5 cp5 Av5 cv5 Ak5 ck5 Ah5 ch5) M rfl (by kernel_rfl) rfl rfl rfl (all1 rfl) rfl ?_ | refine s_storeA 3 (ncs k Ap5 cp5 Av5 cv5 Ak5 ck5 Ah5 ch5) M rfl (by kernel_rfl) rfl rfl rfl (all1 rfl) rfl ?_
      clear M
      rintro W M
      dsimp only [setL] at M
      refine p_fld fN0 rfl ?_
      refine v_load agg_int rfl ((M.B 0 rfl).at_ rfl) ?_
      refine p_ne rfl rfl (fun hk0 => ?_) (fun hk0 => ?_)
      · rw [if_neg (by simp [hk0]), List.append_nil] at hFs
        have hsn := setN_no (ks := t.kids) (i := i) (by rw [hkd]; exact hk0)
        refine p_addN (b := 1) rfl rfl (by omega) ?_
        exact ⟨(i + 1, A3, c3), ⟨by dsimp only; omega, by dsimp only; rw [hFs]; exact M.dropL.fsub _ (by simp)⟩, (by dsimp only; rw [hFs, hsn]; exact ⟨rfl, rfl, rfl, rfl, rfl, rfl, rfl, trivial⟩), by dsimp only; omega⟩
      · rw [if_pos hk0] at hFs
        have hso := setN_or (ks := t.kids) hi16 (by rw [hkd]; exact hk0)
        refine p_subN (a := 15) (b := i) rfl rfl (by omega) (by omega) ?_
        refine p_shl rfl rfl (by omega) (shl15 hi16) ?_
        refine p_or rfl rfl hso ?_
        refine v_loadN (ncs k Ap5 cp5 Av5 cv5 Ak5 ck5 Ah5 ch5) agg_nd rfl hel (M.run 0 rfl) ?_
        refine cc is_nhash (ih k (by omega) _ _ _ _ hvkk (M.gl hG) (M.da 1 rfl) M.olt) ?_
        rintro e W ⟨A9, n9, c9, rfl, o9, hb⟩
        have e9 := o9.len
        have l9 := hashP_len hvkk
        replace M := M.callO hb o9
        refine ⟨_, rfl, ?_⟩
        have hFi := hFl i
        refine s_appB M rfl rfl (M.rdb 0 rfl).2.2 (by omega) ?_
        clear M; rintro A10 c10 W M -
        have hl10 : (F i).length + n9 = (F (i + 1)).length := by rw [hFs, List.length_append, e9]
        rw [← hFs, hl10] at M
        refine p_addN (b := 1) rfl rfl (by omega) ?_
        exact ⟨(i + 1, A10, c10), ⟨by dsimp only; omega, M.dropL.fsub _ (by simp)⟩, ⟨rfl, rfl, rfl, (by show Value.slice A10 ((F i).length + n9) c10 = _; rw [hl10]), rfl, rfl, rfl, trivial⟩, by dsimp only; omega⟩
    · dsimp only at hge
      have : i = 16 := by omega
      subst this
      have hF9 := hFl 16
      have hkb := kbits_le t.kids 16 (Nat.le_refl _)
      rw [hF16] at M hF9 ⊢
      replace M := M.frzO
      refine p_shr rfl rfl (by decide) (r := (((kbits t.kids 16).1 : Nat) : Int)) (by show ((setN t.kids 16 : Nat) : Int).fdiv 256 = _; rw [Int.fdiv_eq_ediv_of_nonneg _ (by decide)]; unfold setN; omega) ?_
      refine v_cvt u_int u_u8 rfl (r := (((kbits t.kids 16).1 : Nat) : Int)) (by rw [IntKind.wrap_u8']; omega) ?_
      refine v_cvt u_int u_u8 rfl (r := (((kbits t.kids 16).2 : Nat) : Int)) (by rw [IntKind.wrap_u8']; show ((setN t.kids 16 : Nat) : Int) % 256 = _; unfold setN; omega) ?_
      refine s_litB [.int .u8 (((kbits t.kids 16).1 : Nat) : Int), .int .u8 (((kbits t.kids 16).2 : Nat) : Int)] [UInt8.ofNat (kbits t.kids 16).1, UInt8.ofNat (kbits t.kids 16).2] M (by decide) rfl (by
        have e1 := bvs1 (kbits t.kids 16).1
        have e2 := bvs1 (kbits t.kids 16).2
        rw [Nat.mod_eq_of_lt (by omega)] at e1 e2
        show [Value.int .u8 _] ++ [Value.int .u8 _] = bvs ([UInt8.ofNat (kbits t.kids 16).1] ++ [UInt8.ofNat (kbits t.kids 16).2])
        rw [bvs_append, ← e1, ← e2]) rfl ?_
      clear M; rintro g10 W M
      replace M := M.frzO
      refine s_appB M rfl rfl (M.rdb 0 rfl).2.2 (by omega) ?_
      clear M; rintro A11 c11 W M -
      refine s_appB M rfl rfl (M.rdb 1 rfl).2.2 (by omega) ?_
      clear M; rintro A12 c12 W M -
      rw [List.append_assoc] at M
      exact ⟨A12, _, c12, rfl, M.row _ (List.mem_cons_self ..), M.below⟩
set_option maxRecDepth 100000 in
set_option maxHeartbeats 2000000 in
theorem nhash_step (t : Nd) (henc : NEncOk t) (hN : sz t ≤ 100000000) : NHashOk t := by
  intro d gs w cs hval hG hr hgs
  refine calls_ev (args := [.agg cs.toArray]) mixed Tryd.func43 rfl (by kernel_rfl) ?_
  obtain ⟨Ap, cp, Av, cv, Ak, ck, Ah, ch, rfl, r1, r3, r4, r5⟩ := hr.node
  have hsz := sz_eq t
  have M := ((St.start hgs).addD r5).addL hr
  clear r1 r3 r4 r5 hr
  refine s_box (ncs t Ap cp Av cv Ak ck Ah ch) M rfl ?_
  clear M
  rintro g1 W M
  refine p_fld fN0 rfl ?_
  refine v_load agg_int rfl (by first | exact (M.B 0 rfl).at_ rfl | exact (M.B 1 rfl).at_ rfl | exact (M.B 2 rfl).at_ rfl | exact (M.B 3 rfl).at_ rfl | exact (M.B 4 rfl).at_ rfl | exact M.lc 0 rfl _ _ rfl | exact M.lc 1 rfl _ _ rfl | exact M.lc 2 rfl _ _ rfl | exact M.lc 3 rfl _ _ rfl | exact M.lc 4 rfl _ _ rfl | exact M.lc 5 rfl _ _ rfl | exact M.lc 6 rfl _ _ rfl | exact M.lc 7 rfl _ _ rfl) ?_
  refine p_eq rfl rfl (fun h4 => ?_) (fun h4 => ?_)
  · refine p_fld fN5 rfl ?_
    refine v_load agg_b rfl (by first | exact (M.B 0 rfl).at_ rfl | exact (M.B 1 rfl).at_ rfl | exact (M.B 2 rfl).at_ rfl | exact (M.B 3 rfl).at_ rfl | exact (M.B 4 rfl).at_ rfl | exact M.lc 0 rfl _ _ rfl | exact M.lc 1 rfl _ _ rfl | exact M.lc 2 rfl _ _ rfl | exact M.lc 3 rfl _ _ rfl | exact M.lc 4 rfl _ _ rfl | exact M.lc 5 rfl _ _ rfl | exact M.lc 6 rfl _ _ rfl | exact M.lc 7 rfl _ _ rfl) ?_
    refine cc is_bclone (bclone_any _ _ _ _ t.hash _ (M.d1 1 rfl) (by omega)) ?_
    rintro e W ⟨A7, c7, rfl, o7, -, hb⟩
    replace M := M.callR (r := ⟨5, 1, A7, _, c7, bvs t.hash⟩) hb o7
    refine ⟨_, rfl, ?_⟩
    rw [show hashP t = t.hash by rw [hashP_eq, if_pos h4]]
    exact ⟨A7, _, c7, rfl, M.row _ (List.mem_cons_self ..), M.below⟩
  ·
    refine v_loadN (ncs t Ap cp Av cv Ak ck Ah ch) agg_nd rfl rfl (by first | exact M.run 0 rfl | exact M.run 1 rfl | exact M.run 2 rfl | exact M.run 3 rfl | exact M.run 4 rfl | exact M.lc 0 rfl | exact M.lc 1 rfl | exact M.lc 2 rfl | exact M.lc 3 rfl | exact M.lc 4 rfl | exact M.lc 5 rfl | exact M.lc 6 rfl | exact M.lc 7 rfl) ?_
    refine cc is_nenc (henc _ _ _ _ hval (M.gl hG) (by first | with_reducible exact M.da_0 | with_reducible exact M.da_1 | with_reducible exact M.da_2 | with_reducible exact M.da_3 | with_reducible exact M.da_4 | with_reducible exact M.da_5 | with_reducible exact M.da_6 | with_reducible exact M.da_7 | with_reducible exact M.da_8 | with_reducible exact M.da_9 | with_reducible exact M.da_10 | with_reducible exact M.da_11) M.olt) ?_
    rintro e W ⟨A5, n5, c5, rfl, o5, hb⟩
    rw [if_neg h4] at o5
    have e5 := o5.len
    have hel := encP_len (hval.mono 0 (Nat.zero_le _)) hN
    replace M := M.callO hb o5
    refine ⟨_, rfl, ?_⟩
    refine s_bslice [.slice A5 n5 c5] (fr := true) (ds := [dB (encP t)]) M slbb zls2 rfl (by decide) rfl (M.dt 0 rfl) rfl ?_
    clear M; rintro g3 W M
    refine cc is_dgsum (sum_any _ _ 1 1 [encP t] _ M.olt (M.gl hG) (M.d1 0 rfl) (by rw [List.flatten_cons, List.flatten_nil, List.append_nil]; omega) (by decide)) ?_
    rintro e W ⟨A7, c7, rfl, o7, hb⟩
    rw [List.flatten_cons, List.flatten_nil, List.append_nil] at o7
    replace M := M.callR (r := ⟨5, 1, A7, 32, c7, bvs (sha (encP t))⟩) hb o7
    refine ⟨_, rfl, ?_⟩
    rw [show hashP t = sha (encP t) by rw [hashP_eq, if_neg h4]]
    exact ⟨A7, 32, c7, rfl, M.row _ (List.mem_cons_self ..), M.below⟩
theorem nenc_all : ∀ (N : Nat), N ≤ 100000000 → ∀ t : Nd, sz t < N → NEncOk t ∧ NHashOk t
  | 0, _, t, h => by omega
  | N + 1, hN, t, h =>
    have e := nenc_step N (fun k hk => (nenc_all N (by omega) k hk).2) t (by omega) (by omega)
    ⟨e, nhash_step t e (by omega)⟩
set_option maxRecDepth 100000 in
set_option maxHeartbeats 2000000 in
theorem nHash_any (t : Nd) (ht : sz t ≤ 90000000) (gs : List (Option Nat)) (w : World) (cs : List Value) (hG : GL w gs) (hr : RdL w (Fd w gs) (dN t) cs) (hgs : ∀ b, some b ∈ gs → b < w.heap.size) :
    Calls Tryd.prog 30 #[.agg cs.toArray] w fun e w' => ∃ A n c, e = .returned (.slice A n c) ∧ Own w' w.heap.size A n c (hashR t) ∧ Below w.heap.size w w' := by
  refine calls_ev (args := [.agg cs.toArray]) mixed Tryd.func30 rfl (by kernel_rfl) ?_
  obtain ⟨Ap, cp, Av, cv, Ak, ck, Ah, ch, rfl, -⟩ := id hr.node
  have M := (St.start hgs).addL hr
  clear hr
  refine s_box (ncs t Ap cp Av cv Ak ck Ah ch) M rfl ?_
  clear M
  rintro g1 W M
  refine v_loadN (ncs t Ap cp Av cv Ak ck Ah ch) agg_nd rfl rfl (by first | exact M.run 0 rfl | exact M.run 1 rfl | exact M.run 2 rfl | exact M.run 3 rfl | exact M.run 4 rfl | exact M.lc 0 rfl | exact M.lc 1 rfl | exact M.lc 2 rfl | exact M.lc 3 rfl | exact M.lc 4 rfl | exact M.lc 5 rfl | exact M.lc 6 rfl | exact M.lc 7 rfl) ?_
  refine cc is_nright (nright_any 100000000 (by decide) t (by omega) _ _ _ 0 false (by first | with_reducible exact M.da_0 | with_reducible exact M.da_1 | with_reducible exact M.da_2 | with_reducible exact M.da_3 | with_reducible exact M.da_4 | with_reducible exact M.da_5 | with_reducible exact M.da_6 | with_reducible exact M.da_7 | with_reducible exact M.da_8 | with_reducible exact M.da_9 | with_reducible exact M.da_10 | with_reducible exact M.da_11) M.olt (by decide)) ?_
  rintro e W ⟨rfl, hb⟩
  refine ⟨_, rfl, ?_⟩
  replace M := M.call hb
  refine p_not rfl ?_
  unfold hashR
  cases hrt : rightP false t 0 with
  | false =>
    rw [if_neg (by decide)]
    exact ⟨none, 0, 0, rfl, World.ownsRow_nil _ _ _ _, M.below⟩
  | true =>
    rw [if_pos rfl]
    have hval := val_of_right false _ t 0 (Nat.lt_succ_self _) hrt
    refine v_loadN (ncs t Ap cp Av cv Ak ck Ah ch) agg_nd rfl rfl (by first | exact M.run 0 rfl | exact M.run 1 rfl | exact M.run 2 rfl | exact M.run 3 rfl | exact M.run 4 rfl | exact M.lc 0 rfl | exact M.lc 1 rfl | exact M.lc 2 rfl | exact M.lc 3 rfl | exact M.lc 4 rfl | exact M.lc 5 rfl | exact M.lc 6 rfl | exact M.lc 7 rfl) ?_
    refine cc is_nhash ((nenc_all 100000000 (Nat.le_refl _) t (by omega)).2 _ _ _ _ hval (M.gl hG) (by first | with_reducible exact M.da_0 | with_reducible exact M.da_1 | with_reducible exact M.da_2 | with_reducible exact M.da_3 | with_reducible exact M.da_4 | with_reducible exact M.da_5 | with_reducible exact M.da_6 | with_reducible exact M.da_7 | with_reducible exact M.da_8 | with_reducible exact M.da_9 | with_reducible exact M.da_10 | with_reducible exact M.da_11) M.olt) ?_
    rintro e W ⟨A5, n5, c5, rfl, o5, hb⟩
    replace M := M.callR (r := ⟨5, 1, A5, n5, c5, bvs (hashP t)⟩) hb o5
    refine ⟨_, rfl, ?_⟩
    exact ⟨A5, n5, c5, rfl, M.row _ (List.mem_cons_self ..), M.below⟩
end Go.Proofs.YtdlljmmgkoeilaaDoor
namespace Go.Proofs.YtdlljmmgkoeilaaDoor
open Go.RowKit
section
variable {w W : World} {gs : List (Option Nat)} {L L' : Lc} {R R' : List Row} {fs : List Fact}
theorem own_perm (hL : L.Perm L') (hR : R.Perm R') (gs : List (Option Nat)) {b : Option Nat} : b ∈ own L' R' gs → b ∈ own L R gs := by
  unfold own
  intro h
  rcases List.mem_append.1 h with h | h
  · exact List.mem_append_left _ ((hL.map _).mem_iff.2 h)
  · rcases List.mem_append.1 h with h | h
    · exact List.mem_append_right _ (List.mem_append_left _ ((hR.map _).mem_iff.2 h))
    · exact List.mem_append_right _ (List.mem_append_right _ h)
theorem St.perm (M : St w gs W L R fs) (hL : L.Perm L') (hR : R.Perm R') : St w gs W L' R' fs :=
  ⟨M.below, M.lt, fun x hx => M.blk x (hL.mem_iff.2 hx), fun r hr => M.row r (hR.mem_iff.2 hr), List.Perm.pairwise ((hL.map _).append (hR.map _)) M.ap (fun h => apart_comm h),
    fun f hf => (M.fct f hf).up ⟨Nat.le_refl _, fun _ _ _ => rfl, fun _ _ e => own_perm hL hR gs e⟩⟩
end
end Go.Proofs.YtdlljmmgkoeilaaDoor
namespace Go.Proofs.YtdlljmmgkoeilaaDoor
open Go.RowKit
theorem getD_some {α : Type} {l : List α} {i : Nat} {d : α} (h : i < l.length) : l[i]? = some (l.getD i d) := by rw [List.getD_eq_getElem?_getD, List.getElem?_eq_getElem h]; rfl
end Go.Proofs.YtdlljmmgkoeilaaDoor
namespace Go.Proofs.YtdlljmmgkoeilaaDoor
open Go.RowKit
theorem dNs_appN (a b : List Nd) : dNs (a ++ b) = dNs a ++ dNs b := by
  induction a with
  | nil => rw [dNs]; rfl
  | cons x a ih => rw [List.cons_append, dNs, dNs, ih, List.append_assoc]
end Go.Proofs.YtdlljmmgkoeilaaDoor
namespace Go.Proofs.YtdlljmmgkoeilaaDoor
open Go.ChangeShapes Go.WideShapes Go.ChangeAt Go.RowKit

theorem own_ : ownKnob Tryd.prog.godebug = none := by kernel_rfl
theorem laidOut : laidOutB Tryd.prog = true := by kernel_rfl

/-- A call returns true, and below the heap's old size all is as it was. -/
def RetTrue (w : World) (e : Ending) (w' : World) : Prop := e = .returned (.bool true) ∧ Below w.heap.size w w'

section
variable {H : Type} {enc : TypeId × Value → H} {P : Program}
theorem trodAll_stays (hl : laidOutB P = true) {W W' : World} (hb : Below W.heap.size W W') {sp : Nat → Bool} : ∀ (ts : List TypeId) (vs : List Value) (ds : List (DataW H)) (p : List MemPlace),
    (ts.all fun t => P.readableRec t && decide (t < P.types.size)) = true → DataW.TrodAll enc P W 0 (fun _ => true) true ts vs ds p → (∀ x ∈ p, x.block < W.heap.size) → (∀ x ∈ p, sp x.block = true) → DataW.TrodAll enc P W' 0 sp true ts vs ds p
  | [], vs, ds, p, _, h, _, _ => by
    obtain ⟨rfl, rfl, rfl⟩ := trodAll_nil h
    exact trodAll_mk0
  | t :: ts, vs, ds, p, ht, h, hlt, hsp => by
    obtain ⟨v, vs', d, ds', p0, q0, rfl, rfl, rfl, h0, r0⟩ := trodAll_cons h
    rw [List.all_cons, Bool.and_eq_true, Bool.and_eq_true, decide_eq_true_eq] at ht
    refine trodAll_cons_mk (WideElems.Trod_stays hl ht.1.1 ht.1.2 h0 (fun x hx => hb.same (hlt x (by simp [hx]))) (fun x hx => hsp x (by simp [hx]))) (trodAll_stays hl hb ts vs' ds' q0 ht.2 r0 (fun x hx => hlt x (by simp [hx])) (fun x hx => hsp x (by simp [hx])))

theorem post_of_below {f : Func} {s : ChangeSpec} {apart fresh handsOn again : Bool} {W W' : World} {args : Array Value} {v : Value} {ds gs : List (DataW H)} {before pa pv : List MemPlace}
    (hW : DataW.Whole enc P f.params.toList s.vars apart W args.toList ds gs before)
    (hres : ∀ (b : Nat) (sp : Nat → Bool) (hd : Bool), DataW.TrodAll enc P W' b sp hd f.resultTypes.toList (v.resultList f.resultTypes.size) (s.fn H (ds ++ gs)).results [])
    (hargs : ∀ sp : Nat → Bool, (∀ p ∈ before, sp p.block = true) → DataW.TrodAll enc P W' 0 sp true f.params.toList args.toList (s.fn H (ds ++ gs)).args pa)
    (hvars : ∀ sp : Nat → Bool, (∀ p ∈ before, sp p.block = true) → DataW.TrodVars enc P W' sp s.vars (s.fn H (ds ++ gs)).vars pv)
    (hps : before = pa ++ pv) (hb : Below W.heap.size W W')
    (hok : ∀ (j : Nat) (t : TypeId) (r : Value), f.resultTypes[j]? = some t → (v.resultList f.resultTypes.size)[j]? = some r → Value.okWide P W' .any 0 t r) :
    s.post enc P f apart fresh handsOn again W args v W' := by
  have hlt : ∀ p ∈ before, p.block < W.heap.size := fun p hp => hW.lt p hp
  have hold : ∀ p ∈ before, (fun b => decide (b < W.heap.size)) p.block = true := fun p hp => by simpa using hlt p hp
  refine ⟨ds, gs, before, [], pa, pv, hW, hres _ _ _, hargs _ hold, hvars _ hold, World.keptBut_mono (fun p hp => ⟨hp, ?_⟩) (hb.frame (· ∈ before)), fun _ => ?_⟩
  · rw [hps, List.mem_append] at hp
    exact Or.inr hp
  · obtain ⟨_, _, _, _, _, hz, hn⟩ := hW
    refine ⟨hok, _, _, ([] ++ pa) ++ pv, ⟨[] ++ pa, pv, trodAll_append (hargs _ (fun _ _ => rfl)) (hres _ _ _), hvars _ (fun _ _ => rfl), rfl, ?_, ?_⟩, ?_⟩
    · intro b off hp
      have hin : MemPlace.cell b off ∈ before := by rw [hps]; simpa using hp
      rw [hb.frozen (hlt _ hin)]
      exact hz b off hin
    · intro ha
      have := hn ha
      rw [hps] at this
      simpa using this
    · intro p hp _
      rw [hps]
      simpa using hp

/-- THE ROW'S LAST STEP: the law has returned true, nothing that was there has turned. -/
theorem law_post (hl : laidOutB P = true) {tb : TypeId} (hbool : P.underlying tb = some .bool) {f : Func} {s : ChangeSpec} {W W' : World} {args : Array Value} {ds gs : List (DataW H)} {before : List MemPlace}
    (hvars : s.vars = []) (hW : DataW.Whole enc P f.params.toList s.vars false W args.toList ds gs before)
    (hts : (f.params.toList.all fun t => P.readableRec t && decide (t < P.types.size)) = true) (hrt : f.resultTypes = #[tb])
    (hres : (s.fn H (ds ++ gs)).results = [.lit (.bool true)]) (hargs : (s.fn H (ds ++ gs)).args = ds) (hvs : (s.fn H (ds ++ gs)).vars = []) (hb : Below W.heap.size W W') :
    s.post enc P f false true false false W args (.bool true) W' := by
  have hW' := hW
  obtain ⟨p, q, hA, hV, rfl, hfz, hnd⟩ := hW
  rw [hvars] at hV
  obtain ⟨rfl, rfl⟩ := trodVars_none hV
  have hlt : ∀ x ∈ p, x.block < W.heap.size := fun x hx => hW'.lt x (by simp [hx])
  refine post_of_below (pa := p) (pv := []) hW' ?_ ?_ ?_ rfl hb ?_
  · intro b sp hd
    rw [hres, hrt]
    exact trodAll_cons_mk (shut_bool hbool _) trodAll_mk0
  · intro sp hsp
    rw [hargs]
    exact trodAll_stays hl hb _ _ _ _ hts hA hlt (fun x hx => hsp x (by simp [hx]))
  · intro sp hsp
    rw [hvars, hvs]
    rfl
  · exact ok_one hrt rfl (okWide_bool_mk hbool _)
end

end Go.Proofs.YtdlljmmgkoeilaaDoor
namespace Go.Proofs.YtdlljmmgkoeilaaDoor
open Go.ChangeShapes Go.WideShapes Go.ChangeAt Go.RowKit

section
variable {H : Type} {enc : TypeId × Value → H} {W : World}
theorem lits_bulk (k : IntKind) : ∀ zs : List Int, Rows.uptoBulkAll (lits (H := H) k zs) = zs.length
  | [] => rfl
  | z :: zs => by
    have := lits_bulk k zs
    show Rows.uptoBulk (DataW.lit (.int k z)) + Rows.uptoBulkAll (lits k zs) = _
    rw [this, List.length_cons]
    show 1 + zs.length = _
    omega
set_option maxRecDepth 100000 in
theorem rd_trod {fuel : Nat} {cs : List Value} {d : DataW H} {p : List MemPlace} (hf : DataW.trod enc Tryd.prog W 0 (fun _ => true) true fuel 23 cs = some (d, p)) (hlt : ∀ x ∈ p, x.block < W.heap.size) :
    ∃ A n c l, cs = [.slice A n c] ∧ Rd W W.heap.size A n l ∧ n ≤ c ∧ c ≤ maxLen ∧ l.length + 1 ≤ Rows.uptoBulk d ∧ ∀ R, (∀ x ∈ d.weights Tryd.prog 23, x ≤ R) → l.length ≤ R := by
  rcases open_ints Tryd.underlying23 Tryd.underlying5 (by kernel_rfl) hf with ⟨hcs, hx⟩ | ⟨x, l, c, zs, hcs, _, hl, hm, hz, hx, hcell, hwz⟩
  · simp only [Prod.mk.injEq] at hx
    obtain ⟨rfl, rfl⟩ := hx
    exact ⟨none, 0, 0, [], hcs, Rd.nil_, Nat.le_refl _, Nat.zero_le _, Nat.le_refl _, fun _ _ => Nat.zero_le _⟩
  · simp only [if_true] at hz
    simp only [Prod.mk.injEq] at hx
    obtain ⟨rfl, rfl⟩ := hx
    refine ⟨some x, l, c, (zs.take l).map b8, hcs, ⟨by rw [bvs_length]; simp; omega, fun hn => ?_⟩, hl, hm, ?_, ?_⟩
    · obtain ⟨b, off, spot⟩ := x
      have hspot : spot = none := by simpa [Addr.add] using World.cell?_spot (hcell 0 (by omega))
      subst hspot
      have hbW : b < W.heap.size := hlt (.cell b off) (MemPlace.mem_row.2 ⟨0, by omega, by simp⟩)
      refine ⟨b, off, rfl, hbW, fun j u hu => ?_⟩
      have e : bvs ((zs.take l).map b8) = (zs.take l).map (Value.int .u8) := by
        unfold bvs
        rw [List.map_map]
        refine List.map_congr_left fun z hz => ?_
        have := hwz z (List.mem_of_mem_take hz)
        have hr : 0 ≤ z ∧ z ≤ 255 := by simpa [Lit.wf, IntKind.min, IntKind.max, IntKind.signed, IntKind.bits] using this
        exact u8v_b8 z hr.1 hr.2
      rw [e, List.getElem?_map] at hu
      obtain ⟨z, hz1, rfl⟩ := Option.map_eq_some_iff.1 hu
      have hj : j < l := by
        rw [List.getElem?_take] at hz1
        split at hz1
        · assumption
        · cases hz1
      have hc := hcell j (by omega)
      rw [Addr.add_lit] at hc
      rw [hc]
      rw [List.getElem?_take, if_pos hj] at hz1
      rw [List.getD_eq_getElem?_getD, hz1]
      rfl
    · show _ ≤ Rows.uptoBulkAll (lits .u8 (zs.take l)) + Rows.uptoBulkAll (lits .u8 (zs.drop l)) + 1
      rw [lits_bulk, lits_bulk]
      simp
    · intro R hR
      have hb : Tryd.prog.bytesOf 5 = 1 := by kernel_rfl
      have := hR (((lits (H := H) .u8 (zs.take l)).length + (lits (H := H) .u8 (zs.drop l)).length) * Tryd.prog.bytesOf 5) (by
        unfold DataW.weights; rw [Tryd.underlying23]; simp)
      rw [hb] at this
      have h3 : (lits (H := H) .u8 (zs.take l)).length = (zs.take l).length := by simp [lits]
      rw [List.length_map, ← h3]; omega
end

end Go.Proofs.YtdlljmmgkoeilaaDoor
namespace Go.Proofs.YtdlljmmgkoeilaaDoor
open Go.ChangeShapes Go.WideShapes Go.ChangeAt Go.RowKit
section
variable {H : Type} {enc : TypeId × Value → H} {W : World}
theorem rdD_elts {α : Type} (dE : α → List D) (s : Nat) (hd : ∀ a, (dE a).length = s) {P : Nat → α → Prop} {F : Nat → Prop} {b off : Nat} : ∀ (n : Nat), (∀ i, i < n → ∃ a es, P i a ∧ RdL W F (dE a) es ∧ ∀ j u, es[j]? = some u → W.cell? ⟨b, off + i * s + j, none⟩ = some u) →
    ∃ (l : List α) (cs : List Value), l.length = n ∧ (∀ i a, l[i]? = some a → P i a) ∧ RdL W F (l.flatMap dE) cs ∧ ∀ j u, cs[j]? = some u → W.cell? ⟨b, off + j, none⟩ = some u
  | 0, _ => ⟨[], [], rfl, (fun i a h => by simp at h), RdL.nil_, fun j u h => by simp at h⟩
  | n + 1, h => by
    obtain ⟨l, cs, h1, h2, h3, h4⟩ := rdD_elts dE s hd n (fun i hi => h i (by omega))
    obtain ⟨a, es, k1, k2, k3⟩ := h n (by omega)
    have hl : cs.length = n * s := by
      rw [h3.len, ← h1]
      clear h1 h2 h3 h4
      induction l with
      | nil => simp
      | cons x l ih => rw [List.flatMap_cons, List.length_append, ih, hd, List.length_cons, Nat.succ_mul]; omega
    refine ⟨l ++ [a], cs ++ es, by simp [h1], fun i x hx => ?_, by rw [List.flatMap_append]; simp only [List.flatMap_cons, List.flatMap_nil, List.append_nil]; exact h3.app k2, fun j u hu => ?_⟩
    · by_cases hi : i < n
      · rw [List.getElem?_append_left (by omega)] at hx; exact h2 i x hx
      · have hin : i = n := by
          have := (List.getElem?_eq_some_iff.1 hx).1
          simp [h1] at this; omega
        subst hin
        rw [List.getElem?_append_right (by omega), h1, Nat.sub_self] at hx
        simp at hx
        subst hx
        exact k1
    · by_cases hj : j < n * s
      · rw [List.getElem?_append_left (by omega)] at hu; exact h4 j u hu
      · rw [List.getElem?_append_right (by omega), hl] at hu
        have := k3 _ u hu
        rw [show off + n * s + (j - n * s) = off + j by omega] at this
        exact this
/-- A row whose elements read as data. -/
theorem trod_elts {α : Type} (dE : α → List D) (s : Nat) (hd : ∀ a, (dE a).length = s) (hs : 0 < s) {P : DataW H → α → Prop} {ts te : TypeId} (hT : Tryd.prog.underlying ts = some (.slice te)) (hc : Program.cellsOf Tryd.prog te = s) {fuel : Nat} {cs : List Value} {x : DataW H × List MemPlace}
    (hf : DataW.trod enc Tryd.prog W 0 (fun _ => true) true fuel ts cs = some x) (hlt : ∀ q ∈ x.2, q.block < W.heap.size)
    (he : ∀ m cs' y, m < fuel → DataW.trod enc Tryd.prog W 0 (fun _ => true) true m te cs' = some y → (∀ q ∈ y.2, q.block < W.heap.size) → ∃ a, P y.1 a ∧ RdL W (Fd W []) (dE a) cs') :
    ∃ (A : Option Addr) (n c : Nat) (l : List α) (ds rest : List (DataW H)), cs = [.slice A n c] ∧ (x.1 = .slice ds rest ∨ (x.1 = .nil ∧ ds = [])) ∧ l.length = n ∧ l.length = ds.length ∧ (∀ (i : Nat) (a : α) (d : DataW H), l[i]? = some a → ds[i]? = some d → P d a) ∧ RdD W (Fd W []) (.sl s n (l.flatMap dE)) (.slice A n c) := by
  rcases DataW.trod_slice hT hf with ⟨hcs, hx⟩ | ⟨a, l, c, elems, rest, m, hm0, hcs, hx, _, hl, hm, hlen, hel, _⟩
  · subst hx
    exact ⟨none, 0, 0, [], [], [], hcs, .inr ⟨rfl, rfl⟩, rfl, rfl, (fun i a d h => by cases h), RdD.nil_ _ _⟩
  · subst hx
    dsimp only at hlt ⊢
    have each : ∀ i, i < l → ∃ (u : α) (es : List Value), (∀ y, elems[i]? = some y → P y.1 u) ∧ RdL W (Fd W []) (dE u) es ∧ es.length = s ∧ ∀ j, j < s → W.cell? ((a.add (i * s)).add j) = es[j]? := by
      intro i hi
      have hE := hel i hi
      rw [hc, List.getElem?_eq_getElem (by omega), Option.bind_eq_some_iff] at hE
      obtain ⟨cs', hcs', hy⟩ := hE
      obtain ⟨u, h1, h2⟩ := he m cs' _ (by omega) hy (fun q hq => hlt q (List.mem_append_right _ (List.mem_flatMap.2 ⟨elems[i]'(by omega), List.mem_append_left _ (List.getElem_mem _), hq⟩)))
      obtain ⟨_, hc1, hc2⟩ := World.cells?_some hcs'
      have hcl : cs'.length = s := by rw [h2.len, hd]
      refine ⟨u, cs', fun y hy2 => ?_, h2, hcl, fun j hj => ?_⟩
      · rw [List.getElem?_eq_getElem (by omega)] at hy2
        injection hy2 with hy2
        subst hy2
        exact h1
      · exact hc2 j (by omega)
    by_cases h0 : l = 0
    · subst h0
      refine ⟨some a, 0, c, [], [], rest.map (·.1), hcs, .inl ?_, rfl, rfl, (fun i a d h => by cases h), RdD.nil_ _ _⟩
      rw [List.eq_nil_of_length_eq_zero hlen]; rfl
    · obtain ⟨b, off, spot⟩ := a
      obtain ⟨u0, es0, _, k2, k3, k4⟩ := each 0 (by omega)
      have hspot : spot = none := by
        have := k4 0 hs
        rw [List.getElem?_eq_getElem (by omega)] at this
        simpa [Addr.add] using World.cell?_spot this
      subst hspot
      have hbW : b < W.heap.size := hlt (.cell b off) (List.mem_append_left _ (MemPlace.mem_row.2 ⟨0, by rw [hc, hlen]; exact Nat.mul_pos (by omega) hs, by simp⟩))
      obtain ⟨ul, us, e1, e2, e3, e4⟩ := rdD_elts (P := fun i u => ∀ y, elems[i]? = some y → P y.1 u) (F := Fd W []) (b := b) (off := off) dE s hd l (fun i hi => by
        obtain ⟨u, es, f1, f2, f3, f4⟩ := each i hi
        refine ⟨u, es, f1, f2, fun j v hv => ?_⟩
        have := f4 j (by have := (List.getElem?_eq_some_iff.1 hv).1; omega)
        rw [Addr.add_lit, Addr.add_lit, hv] at this
        exact this)
      refine ⟨some ⟨b, off, none⟩, l, c, ul, elems.map (·.1), rest.map (·.1), hcs, .inl rfl, e1, by simp [e1, hlen], fun i u d h1 h2 => ?_, ?_⟩
      · rw [List.getElem?_map] at h2
        obtain ⟨y, hy, rfl⟩ := Option.map_eq_some_iff.1 h2
        exact e2 i u h1 y hy
      · refine RdD.sl_iff.2 ⟨_, c, us, rfl, hl, ?_, e3, fun _ => ⟨b, off, rfl, ⟨hbW, by simp⟩, e4⟩⟩
        rw [← e1]
        clear e1 e2 e3 e4
        induction ul with
        | nil => simp
        | cons x ul ih => rw [List.flatMap_cons, List.length_append, ih, hd, List.length_cons, Nat.succ_mul]; omega
theorem bulk_sums {α : Type} (f : α → Nat) : ∀ (ll : List α) (ds : List (DataW H)), ll.length = ds.length → (∀ (i : Nat) (l : α) (d : DataW H), ll[i]? = some l → ds[i]? = some d → f l ≤ Rows.uptoBulk d) → (ll.map f).sum ≤ Rows.uptoBulkAll ds
  | [], ds, h, _ => Nat.zero_le _
  | l :: ll, [], h, _ => by simp at h
  | l :: ll, d :: ds, h, k => by
    have h0 := k 0 l d rfl rfl
    have := bulk_sums f ll ds (by simpa using h) (fun i l' d' h1 h2 => k (i + 1) l' d' (by simpa using h1) (by simpa using h2))
    show _ ≤ Rows.uptoBulk d + Rows.uptoBulkAll ds
    rw [List.map_cons, List.sum_cons]; omega
set_option maxRecDepth 100000 in
theorem bytes_trod {fuel : Nat} {cs : List Value} {x : DataW H × List MemPlace} (hf : DataW.trod enc Tryd.prog W 0 (fun _ => true) true fuel 23 cs = some x) (hlt : ∀ q ∈ x.2, q.block < W.heap.size) :
    ∃ l u, cs = [u] ∧ RdD W (Fd W []) (dB l) u ∧ l.length + 1 ≤ Rows.uptoBulk x.1 := by
  obtain ⟨A, n, c, l, rfl, hr, hc, _, hb, _⟩ := rd_trod (d := x.1) (p := x.2) hf hlt
  exact ⟨l, _, rfl, RdD.ofbytes hr hc (fun b off _ h => ⟨h, by simp⟩), hb⟩
theorem list6 {α : Type} {l : List α} (h : l.length = 6) : ∃ a b c d e f, l = [a, b, c, d, e, f] := by
  match l, h with
  | [a, b, c, d, e, f], _ => exact ⟨a, b, c, d, e, f, rfl⟩
theorem c1int : Program.cellsOf Tryd.prog 3 = 1 := by kernel_rfl
theorem c1bool : Program.cellsOf Tryd.prog 4 = 1 := by kernel_rfl
theorem c1bytes : Program.cellsOf Tryd.prog 23 = 1 := by kernel_rfl
theorem c1nodes : Program.cellsOf Tryd.prog 26 = 1 := by kernel_rfl
theorem c6node : Program.cellsOf Tryd.prog 28 = 6 := by kernel_rfl
theorem dNs_flat : ∀ ks : List Nd, dNs ks = ks.flatMap dN
  | [] => rfl
  | t :: ts => by rw [dNs, List.flatMap_cons, dNs_flat ts]
theorem szs_sum : ∀ ks : List Nd, szs ks = (ks.map sz).sum
  | [] => rfl
  | t :: ts => by rw [szs, List.map_cons, List.sum_cons, szs_sum ts]
set_option maxRecDepth 100000 in
theorem node_trod : ∀ (fuel : Nat) (cs : List Value) (x : DataW H × List MemPlace), DataW.trod enc Tryd.prog W 0 (fun _ => true) true fuel 28 cs = some x → (∀ q ∈ x.2, q.block < W.heap.size) →
    ∃ t, sz t ≤ Rows.uptoBulk x.1 ∧ RdL W (Fd W []) (dN t) cs := by
  intro fuel
  induction fuel using Nat.strongRecOn with
  | ind fuel ih =>
  intro cs x hf hlt
  obtain ⟨xs, n, rfl, rfl, hl, hlen, hfs⟩ := DataW.trod_struct Tryd.underlying28 hf
  rw [c6node] at hl
  obtain ⟨a0, a1, a2, a3, a4, a5, rfl⟩ := list6 hl
  obtain ⟨y0, y1, y2, y3, y4, y5, rfl⟩ := list6 (show xs.length = 6 from hlen)
  have h0 : DataW.trod enc Tryd.prog W 0 (fun _ => true) true n 3 [a0] = some y0 := by have := (show DataW.trod enc Tryd.prog W 0 (fun _ => true) true n 3 (([a0, a1, a2, a3, a4, a5].drop 0).take (Program.cellsOf Tryd.prog 3)) = some y0 from hfs 0 _ rfl); rw [c1int] at this; exact this
  have h1 : DataW.trod enc Tryd.prog W 0 (fun _ => true) true n 23 [a1] = some y1 := by have := (show DataW.trod enc Tryd.prog W 0 (fun _ => true) true n 23 (([a0, a1, a2, a3, a4, a5].drop 1).take (Program.cellsOf Tryd.prog 23)) = some y1 from hfs 1 _ rfl); rw [c1bytes] at this; exact this
  have h2 : DataW.trod enc Tryd.prog W 0 (fun _ => true) true n 4 [a2] = some y2 := by have := (show DataW.trod enc Tryd.prog W 0 (fun _ => true) true n 4 (([a0, a1, a2, a3, a4, a5].drop 2).take (Program.cellsOf Tryd.prog 4)) = some y2 from hfs 2 _ rfl); rw [c1bool] at this; exact this
  have h3 : DataW.trod enc Tryd.prog W 0 (fun _ => true) true n 23 [a3] = some y3 := by have := (show DataW.trod enc Tryd.prog W 0 (fun _ => true) true n 23 (([a0, a1, a2, a3, a4, a5].drop 3).take (Program.cellsOf Tryd.prog 23)) = some y3 from hfs 3 _ rfl); rw [c1bytes] at this; exact this
  have h4 : DataW.trod enc Tryd.prog W 0 (fun _ => true) true n 26 [a4] = some y4 := by have := (show DataW.trod enc Tryd.prog W 0 (fun _ => true) true n 26 (([a0, a1, a2, a3, a4, a5].drop 4).take (Program.cellsOf Tryd.prog 26)) = some y4 from hfs 4 _ rfl); rw [c1nodes] at this; exact this
  have h5 : DataW.trod enc Tryd.prog W 0 (fun _ => true) true n 23 [a5] = some y5 := by have := (show DataW.trod enc Tryd.prog W 0 (fun _ => true) true n 23 (([a0, a1, a2, a3, a4, a5].drop 5).take (Program.cellsOf Tryd.prog 23)) = some y5 from hfs 5 _ rfl); rw [c1bytes] at this; exact this
  have hq : ∀ y ∈ [y0, y1, y2, y3, y4, y5], ∀ q ∈ y.2, q.block < W.heap.size := fun y hy q hq => hlt q (List.mem_flatMap.2 ⟨y, hy, hq⟩)
  obtain ⟨k, e0, rfl, _⟩ := DataW.trod_int Tryd.underlying3 h0
  obtain ⟨hs, e2, rfl⟩ := DataW.trod_bool Tryd.underlying4 h2
  obtain ⟨p, u1, e1, r1, b1⟩ := bytes_trod h1 (hq y1 (by simp))
  obtain ⟨v, u3, e3, r3, b3⟩ := bytes_trod h3 (hq y3 (by simp))
  obtain ⟨h, u5, e5, r5, b5⟩ := bytes_trod h5 (hq y5 (by simp))
  obtain ⟨A, m, c, ks, ds, rest, e4, hd4, l1, l2, hP, r4⟩ := trod_elts dN 6 dN_len (by decide) (P := fun d t => sz t ≤ Rows.uptoBulk d) Tryd.underlying26 c6node h4 (hq y4 (by simp)) (fun m cs' y hm hy hyq => ih m (by omega) cs' y hy hyq)
  injection e0 with e0
  injection e1 with e1
  injection e2 with e2
  injection e3 with e3
  injection e4 with e4
  injection e5 with e5
  subst e0; subst e1; subst e2; subst e3; subst e4; subst e5
  have hks := bulk_sums sz ks ds l2 (fun i l d a b => hP i l d a b)
  rw [← szs_sum] at hks
  have b4 : szs ks + 1 ≤ Rows.uptoBulk y4.1 := by
    rcases hd4 with h | ⟨h, e⟩
    · rw [h]
      show _ ≤ Rows.uptoBulkAll ds + Rows.uptoBulkAll rest + 1
      omega
    · rw [h]
      rw [e] at hks
      have : Rows.uptoBulkAll ([] : List (DataW H)) = 0 := rfl
      show _ ≤ 1
      omega
  refine ⟨.mk k p hs v ks h, ?_, ?_⟩
  · rw [sz]
    show _ ≤ 1 + (Rows.uptoBulk y1.1 + (1 + (Rows.uptoBulk y3.1 + (Rows.uptoBulk y4.1 + (Rows.uptoBulk y5.1 + 0))))) + 1
    omega
  · rw [dN]
    rw [← l1, ← dNs_flat] at r4
    rw [← l1]
    exact RdL.cons (RdD.ofv _) (RdL.cons r1 (RdL.cons (RdD.ofv _) (RdL.cons r3 (RdL.cons r4 (RdL.cons r5 RdL.nil_)))))
set_option maxRecDepth 100000 in
/-- A node that came in. -/
theorem nd_open {base : Nat} {v : Value} {d : DataW H} {p : List MemPlace} (hv : Value.okWide Tryd.prog W .any base 28 v)
    (h : DataW.Trod enc Tryd.prog W 0 (fun _ => true) true 28 v d p) : ∃ t cs, v = .agg cs.toArray ∧ RdL W (Fd W []) (dN t) cs ∧ sz t ≤ Rows.uptoBulk d := by
  obtain ⟨cs, rfl, _⟩ := okWide_struct Tryd.underlying28 hv
  have hlt : ∀ x ∈ p, x.block < W.heap.size := by obtain ⟨m, hm⟩ := h; exact DataW.trod_lt m _ _ _ hm
  obtain ⟨fuel, hf⟩ := h
  obtain ⟨t, h1, h2⟩ := node_trod fuel cs.toList (d, p) hf hlt
  exact ⟨t, cs.toList, by simp, h2, h1⟩
end
end Go.Proofs.YtdlljmmgkoeilaaDoor
namespace Go.Proofs.YtdlljmmgkoeilaaDoor
open Go.RowKit
section
variable {w W W' : World} {gs : List (Option Nat)} {L : Lc} {R : List Row} {fs : List Fact} {d d' : D} {u u' : Value}
theorem St.callF2 (M : St w gs W L R fs) (hb : Below W.heap.size W W') (h1 : RdD W' (Fr W W') d u) (h2 : RdD W' (Fr W W') d' u') : St w gs W' L R (.dat true [d] [u] :: .dat true [d'] [u'] :: fs) :=
  (M.callF1 hb h2).addT (RdL.one (h1.to fun b hb' => ⟨rfl, hb'.2.1, fun e => by have := M.olt b e; have := hb'.1; omega, fun _ => ⟨Nat.le_trans M.size hb'.1, hb'.2.2⟩⟩))
theorem St.callFD (M : St w gs W L R fs) (hb : Below W.heap.size W W') {ds : List D} {cs : List Value} (h1 : RdL W' (Fd W' (own L R gs)) ds cs) (h2 : RdD W' (Fr W W') d' u') : St w gs W' L R (.dat false ds cs :: .dat true [d'] [u'] :: fs) :=
  (M.callF1 hb h2).addL h1
theorem missOk.toD {F : Nat → Prop} {m : Option (List UInt8)} {A : Option Addr} {n c : Nat} (h : missOk W F [] m A n c) : RdD W F (dB (m.getD [])) (.slice A n c) := by
  unfold missOk at h
  cases m with
  | none =>
    obtain ⟨rfl, rfl, rfl⟩ := h
    exact RdD.nil_ _ _
  | some r => exact h.2
end
end Go.Proofs.YtdlljmmgkoeilaaDoor
namespace Go.Proofs.YtdlljmmgkoeilaaDoor
open Go.RowKit
/-- What a reader has left, and whether something was wrong. -/
structure RS where
  l : List UInt8
  bad : Bool
section
variable {w W : World} {gs : List (Option Nat)} {g : Nat} {L : Lc} {R : List Row} {fs : List Fact} {A : Option Addr} {n c : Nat} {l : List UInt8} {bad : Bool}
end
end Go.Proofs.YtdlljmmgkoeilaaDoor
