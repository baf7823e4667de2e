/- Reference 05: the walks of right, word, round, constants, Sum: they come to SHA-256 as it stands in ShaH. Reference 05: the walks of constants and Sum: SHA-256. -/
import Derived.Test.YtejbljopighenaaDoorG11
import Derived.Test.YtejbljopighenaaDoorG16
namespace Go.Proofs.YtejbljopighenaaDoor
open Go.RowKit
theorem is_r5right : isFn Tryd.prog 68 = true := by kernel_rfl
theorem is_r5word : isFn Tryd.prog 67 = true := by kernel_rfl
theorem is_r5round : isFn Tryd.prog 58 = true := by kernel_rfl
theorem is_r5con : isFn Tryd.prog 57 = true := by kernel_rfl
theorem slw : slOf Tryd.prog 105 = some (104, 1) := by kernel_rfl
theorem zw : zeroOf Tryd.prog 104 = some [cu 0] := by kernel_rfl
theorem winfo : (Tryd.prog.info? 104).map (fun i => (i.zero, i.size, i.bytes)) = some (some (.int .u32 0), 1, 4) := by kernel_rfl
theorem dd_int : (Tryd.prog.underlying 3).isSome = true := by kernel_rfl
theorem dd_uint : Tryd.prog.underlying 46 = some (.int .u64) := by kernel_rfl
set_option maxRecDepth 100000 in
theorem r5right_any (x n : Nat) (w : World) (hx : x < 4294967296) (h1 : 1 ≤ n) (h2 : n ≤ 31) :
    Calls Tryd.prog 68 #[.int .u32 x, .int .i64 n] w fun e w' => e = .returned (.int .u32 (rotr x n : Nat)) ∧ w = w' := by
  refine calls_ev (args := [.int .u32 x, .int .i64 n]) mixed Tryd.func68 rfl (by kernel_rfl) ?_
  have hs : IntKind.u32.wrap ((x : Int) * 2 ^ (min (((32 - n : Nat) : Int)).toNat 32)) = ((x <<< (32 - n)) % 4294967296 : Nat) := by
    rw [Int.toNat_natCast, Nat.min_eq_left (by omega), IntKind.wrap_u32', Nat.shiftLeft_eq, Int.natCast_emod, Int.natCast_mul, Int.natCast_pow]
    rfl
  have hr := shr32 (x := x) (n := n) (by omega)
  have ho : bits .or .u32 ((x >>> n : Nat) : Int) (((x <<< (32 - n)) % 4294967296 : Nat) : Int) = ((rotr x n : Nat) : Int) := by
    rw [u32_or_nat _ _ (shr_lt n hx) (Nat.mod_lt _ (by decide)), Nat.or_comm]; rfl
  refine v_cvt dd_int dd_uint rfl (r := ((n : Nat) : Int)) (by rw [IntKind.wrap_u64]; omega) ?_
  refine p_shr rfl rfl (by omega) hr ?_
  refine p_sub rfl rfl (r := ((32 - n : Nat) : Int)) ((w64 (by omega)).trans (by omega)) ?_
  refine v_cvt dd_int dd_uint rfl (r := ((32 - n : Nat) : Int)) (by rw [IntKind.wrap_u64]; omega) ?_
  refine p_shl rfl rfl (by omega) hs ?_
  refine p_or rfl rfl ho ?_
  exact ⟨rfl, rfl⟩
theorem wordB_add (b : List UInt8) (i : Nat) : wordB b i = byt b (4 * i) * 16777216 + byt b (4 * i + 1) * 65536 + byt b (4 * i + 2) * 256 + byt b (4 * i + 3) := by
  have h0 := byt_lt b (4 * i)
  have h1 := byt_lt b (4 * i + 1)
  have h2 := byt_lt b (4 * i + 2)
  have h3 := byt_lt b (4 * i + 3)
  unfold wordB
  rw [Nat.or_assoc, Nat.or_assoc]
  rw [← Nat.shiftLeft_add_eq_or_of_lt (i := 8) (by omega) (byt b (4 * i + 2))]
  have e2 : byt b (4 * i + 2) <<< 8 + byt b (4 * i + 3) = byt b (4 * i + 2) * 256 + byt b (4 * i + 3) := by rw [Nat.shiftLeft_eq]
  rw [e2, ← Nat.shiftLeft_add_eq_or_of_lt (i := 16) (by omega) (byt b (4 * i + 1))]
  have e1 : byt b (4 * i + 1) <<< 16 = byt b (4 * i + 1) * 65536 := by rw [Nat.shiftLeft_eq]
  rw [e1, ← Nat.shiftLeft_add_eq_or_of_lt (i := 24) (by omega) (byt b (4 * i))]
  rw [Nat.shiftLeft_eq]; omega
set_option maxRecDepth 100000 in
theorem r5word_any (A : Option Addr) (c B : Nat) (b : List UInt8) (w : World) (hr : Rd w B A 4 b) :
    Calls Tryd.prog 67 #[.slice A 4 c] w fun e w' => e = .returned (.int .u32 (wordB b 0 : Nat)) ∧ Below w.heap.size w w' := by
  refine calls_ev (args := [.slice A 4 c]) mixed Tryd.func67 rfl (by kernel_rfl) ?_
  obtain ⟨b0, o0, rfl, _⟩ := hr.at_ (k := 0) (by omega)
  have h0 := byt_lt b 0
  have h1 := byt_lt b 1
  have h2 := byt_lt b 2
  have h3 := byt_lt b 3
  have hw : wordB b 0 = byt b 0 * 16777216 + byt b 1 * 65536 + byt b 2 * 256 + byt b 3 := wordB_add b 0
  refine drT (fun W => Rd W B (some ⟨b0, o0, none⟩) 4 b) (.take 0 (.take 1 (.take 2 (.take 3 (.take 4 (.take 5 (.take 6 (.take 7 (.take 8 (.take 9 (.take 10 (.take 11 (.take 12 (.take 13 (.take 14 (.take 15 (.take 16 (.take 17 (.take 18 (.take 19 (.take 20 (.take 21 (.take 22 (.nil)))))))))))))))))))))))) (by kernel_rfl) hr.drew ?_
  refine p_at (i := 0) sl_by rfl rfl rfl (by decide) ?_
  refine t_load agg_by rfl (fun W h => Rd.get h (j := 0) (by decide)) ?_
  refine t_cvt u_byt u_u32 rfl (wu32 (by omega)) ?_
  refine p_mul rfl rfl (r := ((byt b 0 * 16777216 : Nat) : Int)) ((wu32 (by omega)).trans (by omega)) ?_
  refine p_at (i := 1) sl_by rfl rfl rfl (by decide) ?_
  refine t_load agg_by rfl (fun W h => Rd.get h (j := 1) (by decide)) ?_
  refine t_cvt u_byt u_u32 rfl (wu32 (by omega)) ?_
  refine p_mul rfl rfl (r := ((byt b 1 * 65536 : Nat) : Int)) ((wu32 (by omega)).trans (by omega)) ?_
  refine p_add rfl rfl (r := ((byt b 0 * 16777216 + byt b 1 * 65536 : Nat) : Int)) ((wu32 (by omega)).trans (by omega)) ?_
  refine p_at (i := 2) sl_by rfl rfl rfl (by decide) ?_
  refine t_load agg_by rfl (fun W h => Rd.get h (j := 2) (by decide)) ?_
  refine t_cvt u_byt u_u32 rfl (wu32 (by omega)) ?_
  refine p_mul rfl rfl (r := ((byt b 2 * 256 : Nat) : Int)) ((wu32 (by omega)).trans (by omega)) ?_
  refine p_add rfl rfl (r := ((byt b 0 * 16777216 + byt b 1 * 65536 + byt b 2 * 256 : Nat) : Int)) ((wu32 (by omega)).trans (by omega)) ?_
  refine p_at (i := 3) sl_by rfl rfl rfl (by decide) ?_
  refine t_load agg_by rfl (fun W h => Rd.get h (j := 3) (by decide)) ?_
  refine t_cvt u_byt u_u32 rfl (wu32 (by omega)) ?_
  refine p_add rfl rfl (r := ((wordB b 0 : Nat) : Int)) ((wu32 (by omega)).trans (by omega)) ?_
  exact ⟨rfl, (Below.refl _ _).drew⟩
def dW (l : List Nat) : D := .sl 1 l.length ((l.map cu).map D.v)
theorem dW_open {W : World} {F : Nat → Prop} {l : List Nat} {A : Option Addr} {n c : Nat} (h : RdD W F (dW l) (.slice A n c)) (hn : 0 < n) : ∃ b off, A = some ⟨b, off, none⟩ ∧ F b ∧ ∀ j x, (l.map cu)[j]? = some x → W.cell? ((⟨b, off, none⟩ : Addr).add j) = some x := by
  have hs := h.slen
  obtain ⟨A', c2, cs, h1, h2, h3, h4, h5⟩ := RdD.sl_iff.1 h
  rw [h4.vals] at h5
  injection h1 with e1 _ _
  subst e1; subst hs
  obtain ⟨b, off, h6, h7, h8⟩ := h5 hn
  exact ⟨b, off, h6, h7, fun j x hx => by rw [Addr.add_lit]; exact h8 j x hx⟩
theorem cu_at {l : List Nat} {j : Nat} (hj : j < l.length) : (l.map cu)[j * 1]? = some (.int .u32 (l.getD j 0 : Nat)) := by
  rw [Nat.mul_one, List.getElem?_map, List.getD_eq_getElem?_getD, List.getElem?_eq_getElem hj]; rfl
def h8l (v : H8) : List Nat := [v.a, v.b, v.c, v.d, v.e, v.f, v.g, v.h]
theorem maj_or (a b c : Nat) : ((a &&& b) ||| (a &&& c)) ||| (b &&& c) = maj a b c := by
  unfold maj
  apply Nat.eq_of_testBit_eq
  intro i
  simp only [Nat.testBit_or, Nat.testBit_xor, Nat.testBit_and]
  cases a.testBit i <;> cases b.testBit i <;> cases c.testBit i <;> rfl
theorem nextW_sum (w : List Nat) (i : Nat) : (((w.getD (i - 16) 0 + sg0 (w.getD (i - 15) 0)) % 4294967296 + w.getD (i - 7) 0) % 4294967296 + sg1 (w.getD (i - 2) 0)) % 4294967296 = nextW w i := by
  unfold nextW; omega
theorem quo32 {x c : Nat} (hx : x < 4294967296) (hc : 0 < c) : IntKind.u32.wrap ((x : Int).tdiv (c : Int)) = ((x / c : Nat) : Int) := by
  have h1 : x / c ≤ x := Nat.div_le_self _ _
  have e : (x : Int).tdiv (c : Int) = ((x / c : Nat) : Int) := by rw [Int.tdiv_eq_ediv_of_nonneg (by omega)]; exact (Int.natCast_ediv x c).symm
  rw [e]
  obtain ⟨q, hq⟩ : ∃ q, q = x / c := ⟨_, rfl⟩
  rw [← hq] at h1 ⊢
  rw [IntKind.wrap_u32']; omega
theorem rem32 {x c : Nat} : (x : Int).tmod (c : Int) = ((x % c : Nat) : Int) := by rw [Int.tmod_eq_emod_of_nonneg (by omega)]; omega
set_option maxRecDepth 100000 in
theorem made8 : (madeCells (Value.int .u32 0).cells (8 * 1)).toList = List.replicate 8 (cu 0) := by kernel_rfl
set_option maxRecDepth 100000 in
theorem s_mk8 {E : Env} {d : Option Nat} {ty : TypeId} {p : String} {af : Array Edge} {gd : Option (Nat × Bool)} {l c : Operand} {kw : Value → World → Prop} {w W : World} {gs : List (Option Nat)} {L : Lc} {R : List Row} {fs : List Fact} (M : St w gs W L R fs) (hl : val E l = .int .i64 ((8 : Nat) : Int)) (hc : val E c = .int .i64 ((8 : Nat) : Int))
    (h : ∀ g W', St w gs W' ((g, 104, List.replicate 8 (cu 0)) :: L) R fs → kw (.slice (some ⟨g, 0, none⟩) 8 8) W') :
    VVal Tryd.prog E { dst := d, op := .makeSlice 105 l c, type := ty, pos := p, after := af, guard := gd } W kw := by
  obtain ⟨i, hi0, hz0, hz1, hz2⟩ := info_parts winfo
  obtain ⟨w', hrun, hrow, hg⟩ := run_make_full (P := Tryd.prog) (w := W) W.heap.size 105 104 i _ 1 Tryd.underlying105 hi0 hz0 hz1 .i64 .i64 8 (by rw [hz2]; decide) (by unfold maxLen; decide) (Nat.le_refl _)
  have hB : Blk w' W.heap.size 104 (List.replicate 8 (cu 0)) := by
    rcases hrow.2 with ⟨_, h0⟩ | ⟨g', cap, cur, hv, hbg, hh, hnc, _, hcs, htk⟩
    · exact absurd h0 (by decide)
    · injection hv with hA _ hc'
      injection hA with hA
      injection hA with hA
      subst hA; subst hc'
      have e : cur.toList = List.replicate 8 (cu 0) := by
        rw [← made8, ← htk]
        refine (List.take_of_length_le ?_).symm
        simp at hcs ⊢
        omega
      rw [← e]
      unfold Blk
      rw [hh]
  refine vv (v := .slice (some ⟨W.heap.size, 0, none⟩) 8 8) (w' := w') ?_ (h _ _ (M.newB rfl hB ⟨hg.os, hg.tape, hg.output, hg.size, fun b hb => hg.block b hb (by simp)⟩))
  have hrun' : (Instr.makeSlice 105 (.int .i64 (8 : Int)) (.int .i64 (8 : Int))).run Tryd.prog W = _ := hrun
  simp [execOp, hl, hc, hrun']
theorem words_len (b : List UInt8) : (words b).length = 64 := by unfold words; exact wsF_len b 64
theorem words_lt (b : List UInt8) : ∀ x ∈ words b, x < 4294967296 := by unfold words; exact wsF_lt b 64
theorem part8_set {xs : List Value} {z : Value} {i : Nat} {x : Value} (hx : xs[i]? = some x) (hl : xs.length = 8) (hi : i < 8) : (xs.take i ++ List.replicate (8 - i) z).set i x = xs.take (i + 1) ++ List.replicate (8 - (i + 1)) z := by
  have h1 := List.getElem?_eq_some_iff.1 hx
  rw [List.set_append_right _ _ (by rw [List.length_take]; omega), List.length_take, Nat.min_eq_left (by omega), Nat.sub_self, show 8 - i = (8 - (i + 1)) + 1 by omega, List.replicate_succ, List.set_cons_zero, List.take_succ_eq_append_getElem h1.1, h1.2, List.append_assoc]
  rfl
def shl8 (l : List Value) (j : Nat) : List Value := l.take (j + 1) ++ (l.drop j).take (7 - j)
theorem shl8_set (x0 x1 x2 x3 x4 x5 x6 x7 : Value) : ∀ j, 1 ≤ j → j ≤ 7 → ∃ y, (shl8 [x0, x1, x2, x3, x4, x5, x6, x7] j)[j - 1]? = some y ∧ (shl8 [x0, x1, x2, x3, x4, x5, x6, x7] j).set j y = shl8 [x0, x1, x2, x3, x4, x5, x6, x7] (j - 1) ∧ (y = x0 ∨ y = x1 ∨ y = x2 ∨ y = x3 ∨ y = x4 ∨ y = x5 ∨ y = x6)
  | 1, _, _ => ⟨_, rfl, rfl, by simp⟩
  | 2, _, _ => ⟨_, rfl, rfl, by simp⟩
  | 3, _, _ => ⟨_, rfl, rfl, by simp⟩
  | 4, _, _ => ⟨_, rfl, rfl, by simp⟩
  | 5, _, _ => ⟨_, rfl, rfl, by simp⟩
  | 6, _, _ => ⟨_, rfl, rfl, by simp⟩
  | 7, _, _ => ⟨_, rfl, rfl, by simp⟩
  | 0, h, _ => by omega
  | j + 8, _, h => by omega
theorem shl8_len {l : List Value} (h : l.length = 8) {j : Nat} (hj : j ≤ 7) : (shl8 l j).length = 8 := by unfold shl8; rw [List.length_append, List.length_take, List.length_take, List.length_drop]; omega
theorem mix8_set {xs ys : List Value} {i : Nat} {x : Value} (hx : xs[i]? = some x) (hl : xs.length = 8) (hy : ys.length = 8) (hi : i < 8) : (xs.take i ++ ys.drop i).set i x = xs.take (i + 1) ++ ys.drop (i + 1) := by
  have h1 := List.getElem?_eq_some_iff.1 hx
  rw [List.set_append_right _ _ (by rw [List.length_take]; omega), List.length_take, Nat.min_eq_left (by omega), Nat.sub_self, List.drop_eq_getElem_cons (show i < ys.length by omega), List.set_cons_zero, List.take_succ_eq_append_getElem h1.1, h1.2, List.append_assoc]
  rfl
theorem tt1_ref (v : H8) (k w : Nat) : ((((v.h + ((rotr v.e 6 ^^^ rotr v.e 11) ^^^ rotr v.e 25)) % 4294967296 + ((v.e &&& v.f) ^^^ ((v.e ^^^ 4294967295) &&& v.g))) % 4294967296 + k) % 4294967296 + w) % 4294967296 = tt1 v k w := by
  unfold tt1 bs1 chs; rw [Nat.xor_comm 4294967295 v.e]
theorem tt2_ref (v : H8) : (((rotr v.a 2 ^^^ rotr v.a 13) ^^^ rotr v.a 22) + maj v.a v.b v.c) % 4294967296 = tt2 v := rfl
theorem byt_mid {b : List UInt8} {i : Nat} (hb : 4 * i + 4 ≤ b.length) : wordB ((b.drop (4 * i)).take 4) 0 = wordB b i := by
  rw [wordB_add, wordB_add]
  have e : ∀ k, k < 4 → byt ((b.drop (4 * i)).take 4) k = byt b (4 * i + k) := fun k hk => by
    unfold byt
    rw [List.getD_eq_getElem?_getD, List.getD_eq_getElem?_getD, List.getElem?_take, if_pos hk, List.getElem?_drop]
  rw [Nat.mul_zero, e 0 (by omega), e 1 (by omega), e 2 (by omega), e 3 (by omega)]; rfl
set_option maxRecDepth 100000 in
set_option maxHeartbeats 2000000 in
theorem r5round_any (h : H8) (hok : h.Ok) (b : List UInt8) (gs : List (Option Nat)) (w : World) (A0 A1 A2 : Option Addr) (c0 c1 c2 : Nat) (h0 : RdD w (Fd w gs) (dW (h8l h)) (.slice A0 8 c0)) (h1 : RdD w (Fd w gs) (dB b) (.slice A1 64 c1)) (h2 : RdD w (Fd w gs) (dW roots) (.slice A2 64 c2)) (hgs : ∀ b, some b ∈ gs → b < w.heap.size) :
    Calls Tryd.prog 58 #[.slice A0 8 c0, .slice A1 64 c1, .slice A2 64 c2] w fun e w' => ∃ A' c', e = .returned (.slice A' 8 c') ∧ RdD w' (Fr w w') (dW (h8l (take8 h b))) (.slice A' 8 c') ∧ Below w.heap.size w w' := by
  refine calls_ev (args := [.slice A0 8 c0, .slice A1 64 c1, .slice A2 64 c2]) mixed Tryd.func58 rfl (by kernel_rfl) ?_
  have hbl := h1.slen
  obtain ⟨b0, o0, rfl, F0, hc0⟩ := dW_open h0 (by decide)
  obtain ⟨b2, o2, rfl, F2, hc2⟩ := dW_open h2 (by decide)
  have hcb := h1.scap
  have M := (((St.start hgs).addD h1).addC (a := ⟨b2, o2, none⟩) F2 hc2).addC (a := ⟨b0, o0, none⟩) F0 hc0
  clear h0 h1 h2 F0 F2 hc0 hc2
  -- the words
  refine ev_assoc (ev_assoc (ev_assoc ?_))
  refine cutS (Option Addr × Nat × List Value) (fun s W => St w gs W [] [⟨104, 1, s.1, 64, s.2.1, (words b).map cu⟩] [.loc ⟨b0, o0, none⟩ ((h8l h).map cu), .loc ⟨b2, o2, none⟩ (roots.map cu)]) (fun s => [(0, .slice (some ⟨b0, o0, none⟩) 8 c0), (2, .slice (some ⟨b2, o2, none⟩) 64 c2), (7, .slice s.1 64 s.2.1)]) ?_ ?_
  · replace M := M.nilR 104 1
    refine cutS (Option Addr × Nat × List Value) (fun s W => St w gs W [] [⟨104, 1, s.1, 16, s.2.1, (wsF b 16).map cu⟩] [.loc ⟨b0, o0, none⟩ ((h8l h).map cu), .loc ⟨b2, o2, none⟩ (roots.map cu)]) (fun s => [(0, .slice (some ⟨b0, o0, none⟩) 8 c0), (2, .slice (some ⟨b2, o2, none⟩) 64 c2), (7, .slice s.1 16 s.2.1)]) ?_ ?_
    · refine lp (Nat × Option Addr × Nat) (fun s W => s.1 ≤ 16 ∧ St w gs W [] [⟨104, 1, s.2.1, s.1, s.2.2, (wsF b s.1).map cu⟩] [.loc ⟨b0, o0, none⟩ ((h8l h).map cu), .loc ⟨b2, o2, none⟩ (roots.map cu), .dat false [dB b] [.slice A1 64 c1]]) (fun s => [(0, .slice (some ⟨b0, o0, none⟩) 8 c0), (1, .slice A1 64 c1), (2, .slice (some ⟨b2, o2, none⟩) 64 c2), (7, .slice s.2.1 s.1 s.2.2), (8, .int .i64 s.1)]) (fun s => 16 - s.1) (0, none, 0) ⟨Nat.zero_le _, M.fsub _ (by simp)⟩ (by repeat (first | exact trivial | refine ⟨rfl, ?_⟩)) ?_
      clear M
      rintro ⟨i, A, c⟩ E5 W5 ⟨hi, M⟩
      dsimp only at hi M
      refine p_lt rfl rfl (fun hlt => ?_) (fun hge => ?_)
      · dsimp only at hlt
        refine p_mul rfl rfl (r := ((4 * i : Nat) : Int)) ((w64 (by omega)).trans (by omega)) ?_
        refine p_mul rfl rfl (r := ((4 * i : Nat) : Int)) ((w64 (by omega)).trans (by omega)) ?_
        refine p_addN (b := 4) rfl rfl (by omega) ?_
        refine p_slice (i := 4 * i) (j := 4 * i + 4) (m := c1) slb rfl (bnd_i rfl) (bnd_i rfl) rfl rfl (by omega) (by omega) (Nat.le_refl _) ?_
        have hrd := (M.rdb 2 rfl).2.2.sl (i := 4 * i) (j := 4) (m := c1) (by omega) (by omega)
        rw [show 4 * i + 4 - 4 * i = 4 by omega]
        refine cc is_r5word (r5word_any _ _ _ _ _ hrd) ?_
        rintro e W ⟨rfl, hbel⟩
        replace M := M.call hbel
        refine ⟨_, rfl, ?_⟩
        rw [byt_mid (by omega)]
        refine s_bsliceB [cu (wordB b i)] M slw zw rfl (by decide) rfl ?_
        clear M; rintro g9 W M
        refine s_app M Tryd.underlying105 winfo rfl (by decide) rfl rfl (Reads.blk (M.B 0 rfl) rfl) (all1 rfl) ⟨by omega, by decide⟩ ?_
        clear M; rintro A5 c5 W M -
        have e : (wsF b i).map cu ++ [cu (wordB b i)] = (wsF b (i + 1)).map cu := by
          conv => rhs; unfold wsF
          rw [if_pos (by omega), List.map_append]; rfl
        rw [e] at M
        refine p_addN (b := 1) rfl rfl (by omega) ?_
        exact ⟨(i + 1, A5, c5), ⟨by dsimp only; omega, M.dropL⟩, (by repeat (first | exact trivial | refine ⟨rfl, ?_⟩)), by dsimp only; omega⟩
      · dsimp only at hge
        have : i = 16 := by omega
        subst this
        exact ⟨(A, c, []), M.fsub _ (by simp), (by repeat (first | exact trivial | refine ⟨rfl, ?_⟩))⟩
    · clear M
      rintro ⟨A, c, x0⟩ B5 W5 M
      dsimp only at M
      refine lp (Nat × Option Addr × Nat) (fun s W => 16 ≤ s.1 ∧ s.1 ≤ 64 ∧ St w gs W [] [⟨104, 1, s.2.1, s.1, s.2.2, (wsF b s.1).map cu⟩] [.loc ⟨b0, o0, none⟩ ((h8l h).map cu), .loc ⟨b2, o2, none⟩ (roots.map cu)]) (fun s => [(0, .slice (some ⟨b0, o0, none⟩) 8 c0), (2, .slice (some ⟨b2, o2, none⟩) 64 c2), (7, .slice s.2.1 s.1 s.2.2), (9, .int .i64 s.1)]) (fun s => 64 - s.1) (16, A, c) ⟨Nat.le_refl _, (show 16 ≤ 64 by decide), M⟩ (by repeat (first | exact trivial | refine ⟨rfl, ?_⟩)) ?_
      clear M
      rintro ⟨i, A, c⟩ E6 W6 ⟨hi1, hi, M⟩
      dsimp only at hi1 hi M
      refine p_lt rfl rfl (fun hlt => ?_) (fun hge => ?_)
      · dsimp only at hlt
        have hwl := wsF_len b i
        have hrow := M.row _ (List.mem_cons_self ..)
        obtain ⟨bw, ow, rfl, -, -⟩ := (Reads.of_own hrow).2 (show 0 < i by omega)
        have hcw := row_cells hrow _ rfl
        clear hrow
        have hx := getD_lt (wsF_lt b i) (i - 15)
        have hy := getD_lt (wsF_lt b i) (i - 2)
        have hu := getD_lt (wsF_lt b i) (i - 16)
        have hv := getD_lt (wsF_lt b i) (i - 7)
        refine p_subN (b := 15) rfl rfl (by omega) (by omega) ?_
        refine p_at slw rfl rfl rfl (by omega) ?_
        refine v_load agg_u32 rfl (hcw _ _ (cu_at (j := i - 15) (by omega))) ?_
        refine p_subN (b := 2) rfl rfl (by omega) (by omega) ?_
        refine p_at slw rfl rfl rfl (by omega) ?_
        refine v_load agg_u32 rfl (hcw _ _ (cu_at (j := i - 2) (by omega))) ?_
        refine cc is_r5right (r5right_any _ 7 _ hx (by decide) (by decide)) ?_
        rintro e W' ⟨rfl, rfl⟩
        refine ⟨_, rfl, ?_⟩
        refine cc is_r5right (r5right_any _ 18 _ hx (by decide) (by decide)) ?_
        rintro e W' ⟨rfl, rfl⟩
        refine ⟨_, rfl, ?_⟩
        refine p_xor rfl rfl (u32_xor_nat _ _ (rotr_lt _ hx) (rotr_lt _ hx)) ?_
        refine p_quo rfl rfl (by decide) (quo32 (c := 8) hx (by decide)) ?_
        refine p_xor rfl rfl (u32_xor_nat _ _ (xor_lt (rotr_lt _ hx) (rotr_lt _ hx)) (Nat.lt_of_le_of_lt (Nat.div_le_self _ _) hx)) ?_
        refine cc is_r5right (r5right_any _ 17 _ hy (by decide) (by decide)) ?_
        rintro e W' ⟨rfl, rfl⟩
        refine ⟨_, rfl, ?_⟩
        refine cc is_r5right (r5right_any _ 19 _ hy (by decide) (by decide)) ?_
        rintro e W' ⟨rfl, rfl⟩
        refine ⟨_, rfl, ?_⟩
        refine p_xor rfl rfl (u32_xor_nat _ _ (rotr_lt _ hy) (rotr_lt _ hy)) ?_
        refine p_quo rfl rfl (by decide) (quo32 (c := 1024) hy (by decide)) ?_
        refine p_xor rfl rfl (u32_xor_nat _ _ (xor_lt (rotr_lt _ hy) (rotr_lt _ hy)) (Nat.lt_of_le_of_lt (Nat.div_le_self _ _) hy)) ?_
        have es0 : sg0 ((wsF b i).getD (i - 15) 0) = (rotr ((wsF b i).getD (i - 15) 0) 7 ^^^ rotr ((wsF b i).getD (i - 15) 0) 18) ^^^ ((wsF b i).getD (i - 15) 0) / 8 := by unfold sg0; rw [Nat.shiftRight_eq_div_pow]
        have es1 : sg1 ((wsF b i).getD (i - 2) 0) = (rotr ((wsF b i).getD (i - 2) 0) 17 ^^^ rotr ((wsF b i).getD (i - 2) 0) 19) ^^^ ((wsF b i).getD (i - 2) 0) / 1024 := by unfold sg1; rw [Nat.shiftRight_eq_div_pow]
        have hnx := nextW_sum (wsF b i) i
        rw [← es0, ← es1]
        obtain ⟨s0, hs0⟩ : ∃ s0, s0 = sg0 ((wsF b i).getD (i - 15) 0) := ⟨_, rfl⟩
        obtain ⟨s1, hs1⟩ : ∃ s1, s1 = sg1 ((wsF b i).getD (i - 2) 0) := ⟨_, rfl⟩
        rw [← hs0, ← hs1] at hnx ⊢
        clear es0 es1
        replace M := M.drew
        refine drT (fun W => ∀ j u, ((wsF b i).map cu)[j]? = some u → W.cell? ((⟨bw, ow, none⟩ : Addr).add j) = some u) (.take 0 (.take 1 (.take 2 (.take 3 (.take 4 (.take 5 (.take 6 (.take 7 (.take 8 (.take 9 (.take 10 (.take 11 (.take 12 (.take 13 (.take 14 (.take 15 (.one 16 (.one 17 (.take 18 (.nil)))))))))))))))))))) (by kernel_rfl) hcw ?_
        refine p_subN (b := 16) rfl rfl (by omega) (by omega) ?_
        refine p_at slw rfl rfl rfl (by omega) ?_
        refine t_load agg_u32 rfl (fun W h => h _ _ (cu_at (j := i - 16) (by omega))) ?_
        refine p_add rfl rfl (add32 _ s0) ?_
        refine p_subN (b := 7) rfl rfl (by omega) (by omega) ?_
        refine p_at slw rfl rfl rfl (by omega) ?_
        refine t_load agg_u32 rfl (fun W h => h _ _ (cu_at (j := i - 7) (by omega))) ?_
        refine p_add rfl rfl (add32 _ _) ?_
        refine p_add rfl rfl (add32 _ s1) ?_
        rw [hnx]
        refine s_bsliceB [cu (nextW (wsF b i) i)] M slw zw rfl (by decide) rfl ?_
        clear M; rintro g9 W M
        have hcw2 := row_cells (M.row _ (List.mem_cons_self ..)) _ rfl
        refine ⟨hcw2, ?_⟩
        refine s_appK M Tryd.underlying105 winfo rfl (by decide) rfl rfl (Reads.blk (M.B 0 rfl) rfl) (by decide) (all1 rfl) ⟨by omega, by decide⟩ ?_
        clear M; rintro A5 c5 W M hkeep
        refine ⟨hkeep _ rfl, ?_⟩
        have e : (wsF b i).map cu ++ [cu (nextW (wsF b i) i)] = (wsF b (i + 1)).map cu := by
          conv => rhs; unfold wsF
          rw [if_neg (by omega), List.map_append]; rfl
        rw [e] at M
        refine p_addN (b := 1) rfl rfl (by omega) ?_
        exact ⟨(i + 1, A5, c5), ⟨by dsimp only; omega, by dsimp only; omega, M.dropL⟩, (by repeat (first | exact trivial | refine ⟨rfl, ?_⟩)), by dsimp only; omega⟩
      · dsimp only at hge
        have : i = 64 := by omega
        subst this
        exact ⟨(A, c, []), M, (by repeat (first | exact trivial | refine ⟨rfl, ?_⟩))⟩
  · clear M
    rintro ⟨A, c, x0⟩ B5 W5 M
    dsimp only at M
    have hwl := words_len b
    have hwlt := words_lt b
    have htk : take8 h b = add8 h (rndF roots (words b) h 64) := rfl
    rw [htk]
    obtain ⟨ws, hws⟩ : ∃ ws, ws = words b := ⟨_, rfl⟩
    rw [← hws] at M hwl hwlt ⊢
    clear hws htk
    have hW := RdL.ofvals (W := W5) (F := Ft w W5 (own [] [⟨104, 1, A, 64, c, ws.map cu⟩] gs) true) (ws.map cu)
    replace M := M.frzR (fr := true) hW
    clear hW
    have hdw : dW ws = D.sl 1 64 ((ws.map cu).map D.v) := by unfold dW; rw [hwl]
    dsimp only at M
    rw [← hdw] at M
    have hW := M.d1 0 rfl
    obtain ⟨bw, ow, rfl, Fw, hcw⟩ := dW_open hW (by decide)
    replace M := (M.addC (a := ⟨bw, ow, none⟩) Fw hcw).fsub [.loc ⟨bw, ow, none⟩ (ws.map cu), .loc ⟨b0, o0, none⟩ ((h8l h).map cu), .loc ⟨b2, o2, none⟩ (roots.map cu)] (by intro f hf; simp only [List.mem_cons, List.not_mem_nil, or_false] at hf ⊢; rcases hf with h | h | h <;> simp only [h, true_or, or_true])
    clear hW Fw hcw
    refine ev_assoc ?_
    refine cutS Nat (fun gv W => St w gs W [(gv, 104, hc h)] [] [.loc ⟨bw, ow, none⟩ (ws.map cu), .loc ⟨b0, o0, none⟩ ((h8l h).map cu), .loc ⟨b2, o2, none⟩ (roots.map cu)]) (fun gv => [(0, .slice (some ⟨b0, o0, none⟩) 8 c0), (2, .slice (some ⟨b2, o2, none⟩) 64 c2), (7, .slice (some ⟨bw, ow, none⟩) 64 c), (14, .slice (some ⟨gv, 0, none⟩) 8 8)]) ?_ ?_
    · refine s_mk8 M rfl rfl ?_
      clear M; rintro gv W M
      refine lp Nat (fun i W => i ≤ 8 ∧ St w gs W [(gv, 104, (hc h).take i ++ List.replicate (8 - i) (cu 0))] [] [.loc ⟨bw, ow, none⟩ (ws.map cu), .loc ⟨b0, o0, none⟩ ((h8l h).map cu), .loc ⟨b2, o2, none⟩ (roots.map cu)]) (fun i => [(0, .slice (some ⟨b0, o0, none⟩) 8 c0), (2, .slice (some ⟨b2, o2, none⟩) 64 c2), (7, .slice (some ⟨bw, ow, none⟩) 64 c), (14, .slice (some ⟨gv, 0, none⟩) 8 8), (15, .int .i64 i)]) (fun i => 8 - i) 0 ⟨Nat.zero_le _, M⟩ (by repeat (first | exact trivial | refine ⟨rfl, ?_⟩)) ?_
      clear M
      rintro i E6 W6 ⟨hi, M⟩
      refine p_lt rfl rfl (fun hlt => ?_) (fun hge => ?_)
      · have hi8 : i < 8 := by omega
        obtain ⟨y, hy⟩ : ∃ y, (hc h)[i]? = some y := ⟨_, List.getElem?_eq_getElem (by exact hi8)⟩
        have hy1 : y.oneCell' = true := by
          have := List.mem_of_getElem? hy
          simp only [hc, List.mem_cons, List.not_mem_nil, or_false] at this
          rcases this with h | h | h | h | h | h | h | h <;> rw [h] <;> rfl
        refine p_at slw rfl rfl rfl hi8 ?_
        refine v_load agg_u32 rfl (M.lc 1 rfl (i * 1) y (by rw [Nat.mul_one]; exact hy)) ?_
        refine p_atM (i := i) (q := i) slw rfl rfl rfl hi8 (by omega) ?_
        refine s_set 0 (off := i) y _ M rfl sz_u32 rfl rfl hy1 (by rw [List.length_append, List.length_take, List.length_replicate]; show i < min i 8 + (8 - i); omega) (part8_set hy rfl hi8) ?_
        clear M; rintro W M
        dsimp only [setL] at M
        refine p_addN (b := 1) rfl rfl (by omega) ?_
        exact ⟨i + 1, ⟨by omega, M⟩, (by repeat (first | exact trivial | refine ⟨rfl, ?_⟩)), by omega⟩
      · have : i = 8 := by omega
        subst this
        exact ⟨gv, M, (by repeat (first | exact trivial | refine ⟨rfl, ?_⟩))⟩
    · clear M
      rintro gv B6 W6 M
      refine cutS Unit (fun _ W => St w gs W [(gv, 104, hc (rndF roots ws h 64))] [] [.loc ⟨bw, ow, none⟩ (ws.map cu), .loc ⟨b0, o0, none⟩ ((h8l h).map cu), .loc ⟨b2, o2, none⟩ (roots.map cu)]) (fun _ => [(0, .slice (some ⟨b0, o0, none⟩) 8 c0), (14, .slice (some ⟨gv, 0, none⟩) 8 8)]) ?_ ?_
      · refine lp Nat (fun i W => i ≤ 64 ∧ St w gs W [(gv, 104, hc (rndF roots ws h i))] [] [.loc ⟨bw, ow, none⟩ (ws.map cu), .loc ⟨b0, o0, none⟩ ((h8l h).map cu), .loc ⟨b2, o2, none⟩ (roots.map cu)]) (fun i => [(0, .slice (some ⟨b0, o0, none⟩) 8 c0), (2, .slice (some ⟨b2, o2, none⟩) 64 c2), (7, .slice (some ⟨bw, ow, none⟩) 64 c), (14, .slice (some ⟨gv, 0, none⟩) 8 8), (16, .int .i64 i)]) (fun i => 64 - i) 0 ⟨Nat.zero_le _, M⟩ (by repeat (first | exact trivial | refine ⟨rfl, ?_⟩)) ?_
        clear M
        rintro i E7 W7 ⟨hi, M⟩
        refine p_lt rfl rfl (fun hlt => ?_) (fun hge => ?_)
        · have hi64 : i < 64 := by omega
          have hrn : rndF roots ws h (i + 1) = rnd (rndF roots ws h i) (roots.getD i 0) (ws.getD i 0) := rfl
          have hv := rndF_ok roots ws hok i
          obtain ⟨v, hvv⟩ : ∃ v, v = rndF roots ws h i := ⟨_, rfl⟩
          rw [← hvv] at M hv hrn
          clear hvv
          obtain ⟨kk, hkk⟩ : ∃ kk, kk = roots.getD i 0 := ⟨_, rfl⟩
          obtain ⟨wk, hwk⟩ : ∃ wk, wk = ws.getD i 0 := ⟨_, rfl⟩
          have hck : (roots.map cu)[i * 1]? = some (.int .u32 (kk : Nat)) := by rw [hkk]; exact cu_at (show i < 64 from hi64)
          have hcw : (ws.map cu)[i * 1]? = some (.int .u32 (wk : Nat)) := by rw [hwk]; exact cu_at (by omega)
          rw [← hkk, ← hwk] at hrn
          clear hkk hwk
          replace M := M.drew
          refine drT (Kp w gs [(gv, 104, hc v)] []) (.take 0 (.take 1 (.take 2 (.take 3 (.take 4 (.take 5 (.take 6 (.take 7 (.take 8 (.take 9 (.take 10 (.take 11 (.take 12 (.take 13 (.take 14 (.take 15 (.take 16 (.nil)))))))))))))))))) (by kernel_rfl) (M.kp (by simp) (by simp)) ?_
          refine p_at (i := 4) slw rfl rfl rfl (by decide) ?_
          refine t_load agg_u32 rfl (fun W K => (K.B 0 rfl).at_ rfl) ?_
          refine p_at (i := 5) slw rfl rfl rfl (by decide) ?_
          refine t_load agg_u32 rfl (fun W K => (K.B 0 rfl).at_ rfl) ?_
          refine p_and rfl rfl (u32_and_nat _ _ hv.e hv.f) ?_
          refine p_at (i := 4) slw rfl rfl rfl (by decide) ?_
          refine t_load agg_u32 rfl (fun W K => (K.B 0 rfl).at_ rfl) ?_
          refine p_xor rfl rfl (u32_xor_nat _ 4294967295 hv.e (by decide)) ?_
          refine p_at (i := 6) slw rfl rfl rfl (by decide) ?_
          refine t_load agg_u32 rfl (fun W K => (K.B 0 rfl).at_ rfl) ?_
          refine p_and rfl rfl (u32_and_nat _ _ (xor_lt hv.e (by decide)) hv.g) ?_
          refine p_xor rfl rfl (u32_xor_nat _ _ (and_lt hv.e) (and_lt (xor_lt hv.e (by decide)))) ?_
          replace M := M.drew
          refine drT (Kp w gs [(gv, 104, hc v)] []) (.take 0 (.take 1 (.take 2 (.take 3 (.take 4 (.take 5 (.take 6 (.take 7 (.take 8 (.take 9 (.take 10 (.take 11 (.take 12 (.take 13 (.take 14 (.take 15 (.take 16 (.take 17 (.take 18 (.take 19 (.take 20 (.take 21 (.take 22 (.take 23 (.nil))))))))))))))))))))))))) (by kernel_rfl) (M.kp (by simp) (by simp)) ?_
          refine p_at (i := 0) slw rfl rfl rfl (by decide) ?_
          refine t_load agg_u32 rfl (fun W K => (K.B 0 rfl).at_ rfl) ?_
          refine p_at (i := 1) slw rfl rfl rfl (by decide) ?_
          refine t_load agg_u32 rfl (fun W K => (K.B 0 rfl).at_ rfl) ?_
          refine p_and rfl rfl (u32_and_nat _ _ hv.a hv.b) ?_
          refine p_at (i := 0) slw rfl rfl rfl (by decide) ?_
          refine t_load agg_u32 rfl (fun W K => (K.B 0 rfl).at_ rfl) ?_
          refine p_at (i := 2) slw rfl rfl rfl (by decide) ?_
          refine t_load agg_u32 rfl (fun W K => (K.B 0 rfl).at_ rfl) ?_
          refine p_and rfl rfl (u32_and_nat _ _ hv.a hv.c) ?_
          refine p_or rfl rfl (u32_or_nat _ _ (and_lt hv.a) (and_lt hv.a)) ?_
          refine p_at (i := 1) slw rfl rfl rfl (by decide) ?_
          refine t_load agg_u32 rfl (fun W K => (K.B 0 rfl).at_ rfl) ?_
          refine p_at (i := 2) slw rfl rfl rfl (by decide) ?_
          refine t_load agg_u32 rfl (fun W K => (K.B 0 rfl).at_ rfl) ?_
          refine p_and rfl rfl (u32_and_nat _ _ hv.b hv.c) ?_
          refine p_or rfl rfl (u32_or_nat _ _ (or_lt (and_lt hv.a) (and_lt hv.a)) (and_lt hv.b)) ?_
          rw [maj_or]
          replace M := M.drew
          refine drT (Kp w gs [(gv, 104, hc v)] [.loc ⟨b2, o2, none⟩ (roots.map cu), .loc ⟨bw, ow, none⟩ (ws.map cu)]) (.take 0 (.take 1 (.take 2 (.take 3 (.take 4 (.take 5 (.take 7 (.take 8 (.take 9 (.take 12 (.take 13 (.take 14 (.take 18 (.take 20 (.take 21 (.take 22 (.take 23 (.take 25 (.take 26 (.take 27 (.take 28 (.one 6 (.one 10 (.take 11 (.one 15 (.take 16 (.take 17 (.take 19 (.take 24 (.take 29 (.take 30 (.nil)))))))))))))))))))))))))))))))) (by kernel_rfl) (M.kp (by simp) (by simp)) ?_
          refine p_at (i := 7) slw rfl rfl rfl (by decide) ?_
          refine t_load agg_u32 rfl (fun W K => (K.B 0 rfl).at_ rfl) ?_
          refine p_at (i := 4) slw rfl rfl rfl (by decide) ?_
          refine t_load agg_u32 rfl (fun W K => (K.B 0 rfl).at_ rfl) ?_
          refine p_at (i := 4) slw rfl rfl rfl (by decide) ?_
          refine t_load agg_u32 rfl (fun W K => (K.B 0 rfl).at_ rfl) ?_
          refine p_at (i := 4) slw rfl rfl rfl (by decide) ?_
          refine t_load agg_u32 rfl (fun W K => (K.B 0 rfl).at_ rfl) ?_
          refine p_at slw rfl rfl rfl hi64 ?_
          refine t_load agg_u32 rfl (fun W K => K.lc 0 rfl (i * 1) _ hck) ?_
          refine p_at slw rfl rfl rfl hi64 ?_
          refine t_load agg_u32 rfl (fun W K => K.lc 1 rfl (i * 1) _ hcw) ?_
          refine cc is_r5right (r5right_any _ 6 _ hv.e (by decide) (by decide)) ?_
          rintro e W' ⟨rfl, rfl⟩
          refine ⟨_, rfl, (M.kp (by simp) (by simp)), ?_⟩
          refine cc is_r5right (r5right_any _ 11 _ hv.e (by decide) (by decide)) ?_
          rintro e W' ⟨rfl, rfl⟩
          refine ⟨_, rfl, (M.kp (by simp) (by simp)), ?_⟩
          refine p_xor rfl rfl (u32_xor_nat _ _ (rotr_lt _ hv.e) (rotr_lt _ hv.e)) ?_
          refine cc is_r5right (r5right_any _ 25 _ hv.e (by decide) (by decide)) ?_
          rintro e W' ⟨rfl, rfl⟩
          refine ⟨_, rfl, (M.kp (by simp) (by simp)), ?_⟩
          refine p_xor rfl rfl (u32_xor_nat _ _ (xor_lt (rotr_lt _ hv.e) (rotr_lt _ hv.e)) (rotr_lt _ hv.e)) ?_
          refine p_add rfl rfl (add32 _ _) ?_
          refine p_add rfl rfl (add32 _ _) ?_
          refine p_add rfl rfl (add32 _ kk) ?_
          refine p_add rfl rfl (add32 _ wk) ?_
          rw [tt1_ref]
          obtain ⟨one, hone⟩ : ∃ one, one = tt1 v kk wk := ⟨_, rfl⟩
          rw [← hone]
          replace M := M.drew
          refine drT (Kp w gs [(gv, 104, hc v)] []) (.take 0 (.take 1 (.take 2 (.take 4 (.take 5 (.take 6 (.take 9 (.take 10 (.take 11 (.take 14 (.one 3 (.one 7 (.take 8 (.one 12 (.take 13 (.take 15 (.take 16 (.nil)))))))))))))))))) (by kernel_rfl) (M.kp (by simp) (by simp)) ?_
          refine p_at (i := 0) slw rfl rfl rfl (by decide) ?_
          refine t_load agg_u32 rfl (fun W K => (K.B 0 rfl).at_ rfl) ?_
          refine p_at (i := 0) slw rfl rfl rfl (by decide) ?_
          refine t_load agg_u32 rfl (fun W K => (K.B 0 rfl).at_ rfl) ?_
          refine p_at (i := 0) slw rfl rfl rfl (by decide) ?_
          refine t_load agg_u32 rfl (fun W K => (K.B 0 rfl).at_ rfl) ?_
          refine cc is_r5right (r5right_any _ 2 _ hv.a (by decide) (by decide)) ?_
          rintro e W' ⟨rfl, rfl⟩
          refine ⟨_, rfl, (M.kp (by simp) (by simp)), ?_⟩
          refine cc is_r5right (r5right_any _ 13 _ hv.a (by decide) (by decide)) ?_
          rintro e W' ⟨rfl, rfl⟩
          refine ⟨_, rfl, (M.kp (by simp) (by simp)), ?_⟩
          refine p_xor rfl rfl (u32_xor_nat _ _ (rotr_lt _ hv.a) (rotr_lt _ hv.a)) ?_
          refine cc is_r5right (r5right_any _ 22 _ hv.a (by decide) (by decide)) ?_
          rintro e W' ⟨rfl, rfl⟩
          refine ⟨_, rfl, (M.kp (by simp) (by simp)), ?_⟩
          refine p_xor rfl rfl (u32_xor_nat _ _ (xor_lt (rotr_lt _ hv.a) (rotr_lt _ hv.a)) (rotr_lt _ hv.a)) ?_
          refine p_add rfl rfl (add32 _ _) ?_
          rw [tt2_ref]
          obtain ⟨two, htwo⟩ : ∃ two, two = tt2 v := ⟨_, rfl⟩
          rw [← htwo]
          refine cutS Unit (fun _ W => St w gs W [(gv, 104, shl8 (hc v) 0)] [] [.loc ⟨bw, ow, none⟩ (ws.map cu), .loc ⟨b0, o0, none⟩ ((h8l h).map cu), .loc ⟨b2, o2, none⟩ (roots.map cu)]) (fun _ => [(0, .slice (some ⟨b0, o0, none⟩) 8 c0), (2, .slice (some ⟨b2, o2, none⟩) 64 c2), (7, .slice (some ⟨bw, ow, none⟩) 64 c), (14, .slice (some ⟨gv, 0, none⟩) 8 8), (16, .int .i64 i), (19, .int .u32 one), (20, .int .u32 two)]) ?_ ?_
          · refine lp Nat (fun j W => j ≤ 7 ∧ St w gs W [(gv, 104, shl8 (hc v) j)] [] [.loc ⟨bw, ow, none⟩ (ws.map cu), .loc ⟨b0, o0, none⟩ ((h8l h).map cu), .loc ⟨b2, o2, none⟩ (roots.map cu)]) (fun j => [(0, .slice (some ⟨b0, o0, none⟩) 8 c0), (2, .slice (some ⟨b2, o2, none⟩) 64 c2), (7, .slice (some ⟨bw, ow, none⟩) 64 c), (14, .slice (some ⟨gv, 0, none⟩) 8 8), (16, .int .i64 i), (19, .int .u32 one), (20, .int .u32 two), (21, .int .i64 j)]) (fun j => j) 7 ⟨Nat.le_refl _, M⟩ (by repeat (first | exact trivial | refine ⟨rfl, ?_⟩)) ?_
            clear M
            rintro j E8 W8 ⟨hj, M⟩
            refine p_gt rfl rfl (fun hj0 => ?_) (fun hj0 => ?_)
            · obtain ⟨y, hy1, hy2, hy3⟩ := shl8_set (cu v.a) (cu v.b) (cu v.c) (cu v.d) (cu v.e) (cu v.f) (cu v.g) (cu v.h) j (by omega) hj
              have hyo : y.oneCell' = true := by rcases hy3 with h | h | h | h | h | h | h <;> rw [h] <;> rfl
              refine p_subN (b := 1) rfl rfl (by omega) (by omega) ?_
              refine p_atM (i := j - 1) (q := j - 1) slw rfl rfl rfl (by omega) (by omega) ?_
              refine v_load agg_u32 rfl ((M.B 0 rfl).at_ hy1) ?_
              refine p_atM (i := j) (q := j) slw rfl rfl rfl (by omega) (by omega) ?_
              refine s_set 0 (off := j) y _ M rfl sz_u32 rfl rfl hyo (by rw [shl8_len rfl hj]; omega) hy2 ?_
              clear M; rintro W M
              dsimp only [setL] at M
              refine p_subN (b := 1) rfl rfl (by omega) (by omega) ?_
              exact ⟨j - 1, ⟨by omega, M⟩, (by repeat (first | exact trivial | refine ⟨rfl, ?_⟩)), by omega⟩
            · have : j = 0 := by omega
              subst this
              exact ⟨(), M, (by repeat (first | exact trivial | refine ⟨rfl, ?_⟩))⟩
          · clear M
            rintro - B8 W8 M
            replace M : St w gs W8 [(gv, 104, [cu v.a, cu v.a, cu v.b, cu v.c, cu v.d, cu v.e, cu v.f, cu v.g])] [] [.loc ⟨bw, ow, none⟩ (ws.map cu), .loc ⟨b0, o0, none⟩ ((h8l h).map cu), .loc ⟨b2, o2, none⟩ (roots.map cu)] := M
            refine p_at (i := 4) slw rfl rfl rfl (by decide) ?_
            refine v_load agg_u32 rfl ((M.B 0 rfl).at_ rfl) ?_
            refine p_add rfl rfl (add32 v.d one) ?_
            refine p_atM (i := 4) (q := 4) slw rfl rfl rfl (by decide) (by decide) ?_
            refine s_set 0 (off := 4) (cu ((v.d + one) % 4294967296)) _ M rfl sz_u32 rfl rfl rfl (Nat.le_of_ble_eq_true rfl) rfl ?_
            clear M; rintro W M
            dsimp only [setL, List.set] at M
            refine p_add rfl rfl (add32 one two) ?_
            refine p_atM (i := 0) (q := 0) slw rfl rfl rfl (by decide) (by decide) ?_
            refine s_set 0 (off := 0) (cu ((one + two) % 4294967296)) _ M rfl sz_u32 rfl rfl rfl (Nat.le_of_ble_eq_true rfl) rfl ?_
            clear M; rintro W M
            dsimp only [setL, List.set] at M
            refine p_addN (b := 1) rfl rfl (by omega) ?_
            refine ⟨i + 1, ⟨by omega, ?_⟩, (by repeat (first | exact trivial | refine ⟨rfl, ?_⟩)), by omega⟩
            rw [hrn]
            unfold rnd hc
            rw [← hone, ← htwo]
            exact M
        · have : i = 64 := by omega
          subst this
          exact ⟨(), M, (by repeat (first | exact trivial | refine ⟨rfl, ?_⟩))⟩
      · clear M
        rintro - B7 W7 M
        obtain ⟨v, hvv⟩ : ∃ v, v = rndF roots ws h 64 := ⟨_, rfl⟩
        rw [← hvv] at M ⊢
        clear hvv
        refine lp Nat (fun i W => i ≤ 8 ∧ St w gs W [(gv, 104, (hc (add8 h v)).take i ++ (hc v).drop i)] [] [.loc ⟨b0, o0, none⟩ ((h8l h).map cu)]) (fun i => [(0, .slice (some ⟨b0, o0, none⟩) 8 c0), (14, .slice (some ⟨gv, 0, none⟩) 8 8), (22, .int .i64 i)]) (fun i => 8 - i) 0 ⟨Nat.zero_le _, M.fsub _ (by intro f hf; simp only [List.mem_cons, List.not_mem_nil, or_false] at hf ⊢; simp only [hf, true_or, or_true])⟩ (by repeat (first | exact trivial | refine ⟨rfl, ?_⟩)) ?_
        clear M
        rintro i E8 W8 ⟨hi, M⟩
        refine p_lt rfl rfl (fun hlt => ?_) (fun hge => ?_)
        · have hi8 : i < 8 := by omega
          have hx : ((hc (add8 h v)).take i ++ (hc v).drop i)[i]? = some (cu ((h8l v).getD i 0)) := by
            rw [List.getElem?_append_right (by rw [List.length_take]; omega), List.length_take, Nat.min_eq_left (by exact Nat.le_of_lt hi8), Nat.sub_self, List.getElem?_drop, Nat.add_zero]
            have : hc v = (h8l v).map cu := rfl
            rw [this, List.getElem?_map, List.getD_eq_getElem?_getD, List.getElem?_eq_getElem (by exact hi8)]; rfl
          have hs : (hc (add8 h v))[i]? = some (cu (((h8l v).getD i 0 + (h8l h).getD i 0) % 4294967296)) := by
            have : ∀ i, i < 8 → (hc (add8 h v))[i]? = some (cu (((h8l v).getD i 0 + (h8l h).getD i 0) % 4294967296)) := by
              intro i hi
              match i, hi with
              | 0, _ => simp [hc, add8, h8l, Nat.add_comm]
              | 1, _ => simp [hc, add8, h8l, Nat.add_comm]
              | 2, _ => simp [hc, add8, h8l, Nat.add_comm]
              | 3, _ => simp [hc, add8, h8l, Nat.add_comm]
              | 4, _ => simp [hc, add8, h8l, Nat.add_comm]
              | 5, _ => simp [hc, add8, h8l, Nat.add_comm]
              | 6, _ => simp [hc, add8, h8l, Nat.add_comm]
              | 7, _ => simp [hc, add8, h8l, Nat.add_comm]
            exact this i hi8
          replace M := M.drew
          refine drZ 12 (Kp w gs [(gv, 104, (hc (add8 h v)).take i ++ (hc v).drop i)] [.loc ⟨b0, o0, none⟩ ((h8l h).map cu)]) [(0, true), (1, true), (2, true), (3, true), (4, true), (5, true), (6, true), (7, true), (8, true), (9, true), (10, true), (11, true)] (by kernel_rfl) (M.kp (by simp) (by simp)) ?_
          refine p_atM (i := i) (q := i) slw rfl rfl rfl hi8 (by omega) ?_
          refine t_load agg_u32 rfl (fun W K => (K.B 0 rfl).at_ hx) ?_
          refine p_at (i := i) slw rfl rfl rfl hi8 ?_
          refine t_load agg_u32 rfl (fun W K => K.lc 0 rfl (i * 1) _ (cu_at (l := h8l h) (j := i) (by exact hi8))) ?_
          refine p_add rfl rfl (add32 _ _) ?_
          refine p_atM (i := i) (q := i) slw rfl rfl rfl hi8 (by omega) ?_
          refine s_set 0 (off := i) (cu (((h8l v).getD i 0 + (h8l h).getD i 0) % 4294967296)) _ M rfl sz_u32 rfl rfl rfl (by rw [List.length_append, List.length_take, List.length_drop]; show i < min i 8 + (8 - i); omega) (mix8_set hs rfl rfl hi8) ?_
          clear M; rintro W M
          dsimp only [setL] at M
          refine p_addN (b := 1) rfl rfl (by omega) ?_
          exact ⟨i + 1, ⟨by omega, M⟩, (by repeat (first | exact trivial | refine ⟨rfl, ?_⟩)), by omega⟩
        · have : i = 8 := by omega
          subst this
          replace M := M.frzB (fr := true) (s := 1) (n := 8) (c := 8) (ds := (hc (add8 h v)).map D.v) (RdL.ofvals (hc (add8 h v))) rfl (Nat.le_refl _)
          exact ⟨some ⟨gv, 0, none⟩, 8, rfl, M.finF1 0 rfl, M.below⟩
end Go.Proofs.YtejbljopighenaaDoor
namespace Go.Proofs.YtejbljopighenaaDoor
open Go.RowKit
set_option maxRecDepth 100000 in
set_option maxHeartbeats 2000000 in
theorem r5con_any (w : World) :
    Calls Tryd.prog 57 #[] w fun e w' => ∃ A c, e = .returned (.slice A 64 c) ∧ RdD w' (Fr w w') (dW roots) (.slice A 64 c) ∧ Below w.heap.size w w' := by
  refine calls_ev (args := []) mixed Tryd.func57 rfl (by kernel_rfl) ?_
  have M := St.start (w := w) (gs := []) (by intro b h; cases h)
  refine s_bslice (fr := true) (ds := (roots.map cu).map D.v) (roots.map cu) M slw zw rfl (by decide) rfl (RdL.ofvals _) rfl ?_
  clear M; rintro g W M
  exact ⟨_, 64, rfl, M.finF1 0 rfl, M.below⟩
def tailG (n i : Nat) : List UInt8 := (List.range i).reverse.map fun j => UInt8.ofNat (n / 256 ^ j)
theorem tailF_succ (n i : Nat) : tailG n (i + 1) = UInt8.ofNat (n / 256 ^ i) :: tailG n i := by unfold tailG; rw [List.range_succ, List.reverse_append]; rfl
theorem tailF_len (n i : Nat) : (tailG n i).length = i := by unfold tailG; simp
theorem tailF_8 (n : Nat) : tailG n 8 = [UInt8.ofNat (n >>> 56), UInt8.ofNat (n >>> 48), UInt8.ofNat (n >>> 40), UInt8.ofNat (n >>> 32), UInt8.ofNat (n >>> 24), UInt8.ofNat (n >>> 16), UInt8.ofNat (n >>> 8), UInt8.ofNat n] := by
  simp only [tailF_succ, Nat.shiftRight_eq_div_pow]
  simp [tailG]
theorem out8_flat (h : H8) : out8 h = (h8l h).flatMap put4 := by unfold out8 h8l; simp
theorem put4_vals {x : Nat} (hx : x < 4294967296) : [Value.int .u8 ((x / 16777216 : Nat) : Int), .int .u8 ((x / 65536 % 256 : Nat) : Int), .int .u8 ((x / 256 % 256 : Nat) : Int), .int .u8 ((x % 256 : Nat) : Int)] = bvs (put4 x) := by
  unfold bvs put4 u8v
  simp only [List.map_cons, List.map_nil, Nat.shiftRight_eq_div_pow, UInt8.toNat_ofNat']
  have e : x / 2 ^ 24 % 2 ^ 8 = x / 16777216 := by omega
  rw [e]
theorem h8_ok_lt {h : H8} (hok : h.Ok) : ∀ x ∈ h8l h, x < 4294967296 := by
  intro x hx
  simp only [h8l, List.mem_cons, List.not_mem_nil, or_false] at hx
  rcases hx with rfl | rfl | rfl | rfl | rfl | rfl | rfl | rfl
  · exact hok.a
  · exact hok.b
  · exact hok.c
  · exact hok.d
  · exact hok.e
  · exact hok.f
  · exact hok.g
  · exact hok.h
theorem begin8_ok6 : begin8.Ok := ⟨by decide, by decide, by decide, by decide, by decide, by decide, by decide, by decide⟩
theorem take8_ok {h : H8} (hok : h.Ok) (b : List UInt8) : (take8 h b).Ok := add8_ok _ _
def zerosN (n : Nat) : Nat := (119 - n % 64) % 64
theorem padL_eq (n : Nat) : padL n = (128 : UInt8) :: (List.replicate (zerosN n) (0 : UInt8) ++ tailG (8 * n) 8) := by rw [tailF_8]; rfl
theorem sha_def (b : List UInt8) : sha b = out8 (blocksF begin8 ((b ++ padL b.length).length / 64) (b ++ padL b.length)) := rfl
set_option maxRecDepth 100000 in
set_option maxHeartbeats 2000000 in
theorem r5sum_any (b : List UInt8) (gs : List (Option Nat)) (w : World) (A : Option Addr) (n c : Nat) (hr : RdD w (Fd w gs) (dB b) (.slice A n c)) (hgs : ∀ b, some b ∈ gs → b < w.heap.size) (hb : n ≤ 900000000) :
    Calls Tryd.prog 40 #[.slice A n c] w fun e w' => ∃ A' c', e = .returned (.slice A' 32 c') ∧ Own w' w.heap.size A' 32 c' (sha b) ∧ Below w.heap.size w w' := by
  refine calls_ev (args := [.slice A n c]) mixed Tryd.func40 rfl (by kernel_rfl) ?_
  have en := hr.slen
  have M := (St.start hgs).addD hr
  rw [sha_def]
  obtain ⟨z0, hz0⟩ : ∃ z0, z0 = zerosN n := ⟨_, rfl⟩
  have hz64 : z0 < 64 ∧ (n + 1 + z0) % 64 = 56 := by rw [hz0]; unfold zerosN; omega
  have hpad : padL b.length = (128 : UInt8) :: (List.replicate z0 (0 : UInt8) ++ tailG (8 * n) 8) := by rw [padL_eq, hz0, en]
  obtain ⟨al, hal⟩ : ∃ al, al = b ++ padL b.length := ⟨_, rfl⟩
  have hall : al.length = n + 1 + z0 + 8 := by rw [hal, hpad]; simp only [List.length_append, List.length_cons, List.length_replicate, tailF_len]; omega
  rw [← hal]
  refine ev_assoc (ev_assoc (ev_assoc (ev_assoc ?_)))
  refine cutS (Option Addr × Nat) (fun s W => St w gs W [] [⟨5, 1, s.1, n + 1 + z0, s.2, bvs (b ++ (128 : UInt8) :: List.replicate z0 0)⟩] []) (fun s => [(0, .slice A n c), (3, .slice s.1 (n + 1 + z0) s.2)]) ?_ ?_
  · replace M := M.nilR 5 1
    refine s_appB (l := []) M rfl rfl (M.rdb 0 rfl).2.2 (by omega) ?_
    clear M; rintro A2 c2 W M -
    rw [List.nil_append, Nat.zero_add] at M
    rw [Nat.zero_add]
    refine s_litB [.int .u8 128] [128] M (by decide) rfl rfl rfl ?_
    clear M; rintro g9 W M
    have M1 := M
    replace M := M.frzO
    refine s_appB M rfl rfl (M.rdb 0 rfl).2.2 (by omega) ?_
    clear M M1; rintro A3 c3 W M -
    refine lp (Nat × Option Addr × Nat) (fun s W => s.1 ≤ z0 ∧ St w gs W [] [⟨5, 1, s.2.1, n + 1 + s.1, s.2.2, bvs (b ++ (128 : UInt8) :: List.replicate s.1 0)⟩] []) (fun s => [(0, .slice A n c), (3, .slice s.2.1 (n + 1 + s.1) s.2.2)]) (fun s => z0 - s.1) (0, A3, c3) ⟨Nat.zero_le _, M.fsub _ (by simp)⟩ (by repeat (first | exact trivial | refine ⟨rfl, ?_⟩)) ?_
    clear M
    rintro ⟨k, A4, c4⟩ E5 W5 ⟨hk, M⟩
    dsimp only at hk M
    refine p_len slb rfl ?_
    refine p_remN (b := 64) rfl rfl (by decide) ?_
    refine p_ne rfl rfl (fun h56 => ?_) (fun h56 => ?_)
    · dsimp only at h56
      have : k = z0 := by omega
      subst this
      exact ⟨(A4, c4), M, (by repeat (first | exact trivial | refine ⟨rfl, ?_⟩))⟩
    · dsimp only at h56
      refine s_litB [.int .u8 0] [0] M (by decide) rfl rfl rfl ?_
      clear M; rintro g9 W M
      replace M := M.frzO
      refine s_appB M rfl rfl (M.rdb 0 rfl).2.2 (by omega) ?_
      clear M; rintro A6 c6 W M -
      have e : (b ++ (128 : UInt8) :: List.replicate k 0) ++ [0] = b ++ (128 : UInt8) :: List.replicate (k + 1) 0 := by
        rw [List.replicate_succ']; simp
      rw [e] at M
      exact ⟨(k + 1, A6, c6), ⟨by dsimp only; omega, M.fsub _ (by simp)⟩, (by repeat (first | exact trivial | refine ⟨rfl, ?_⟩)), by dsimp only; omega⟩
  · clear M
    rintro ⟨A4, c4⟩ B5 W5 M
    dsimp only at M
    refine ev_assoc (ev_assoc ?_)
    refine cutS (Option Addr × Nat) (fun s W => St w gs W [] [⟨5, 1, A4, n + 1 + z0, c4, bvs (b ++ (128 : UInt8) :: List.replicate z0 0)⟩] [.dat true [dB (tailG (8 * n) 8)] [.slice s.1 8 s.2]]) (fun s => [(3, .slice A4 (n + 1 + z0) c4), (5, .slice s.1 8 s.2)]) ?_ ?_
    · refine p_len slb rfl ?_
      refine v_cvt dd_int u_u64 rfl (r := ((n : Nat) : Int)) (by rw [IntKind.wrap_u64]; omega) ?_
      refine p_mul rfl rfl (r := ((8 * n : Nat) : Int)) (by rw [IntKind.wrap_u64]; omega) ?_
      obtain ⟨N8, hN8⟩ : ∃ N8, N8 = 8 * n := ⟨_, rfl⟩
      rw [← hN8]
      have hN8b : N8 ≤ 8000000000 := by omega
      replace M := M.addT (fr := true) (ds := [dB []]) (cs := [.slice none 0 0]) (RdL.one (RdD.nil_ _ _))
      refine lp (Nat × Option Addr × Nat) (fun s W => s.1 ≤ 8 ∧ St w gs W [] [⟨5, 1, A4, n + 1 + z0, c4, bvs (b ++ (128 : UInt8) :: List.replicate z0 0)⟩] [.dat true [dB (tailG N8 s.1)] [.slice s.2.1 s.1 s.2.2]]) (fun s => [(3, .slice A4 (n + 1 + z0) c4), (4, .int .u64 ((N8 / 256 ^ s.1 : Nat) : Int)), (5, .slice s.2.1 s.1 s.2.2), (6, .int .i64 s.1)]) (fun s => 8 - s.1) (0, none, 0) ⟨Nat.zero_le _, M⟩ ⟨rfl, (by show Value.int .u64 ((N8 : Nat) : Int) = _; rw [Nat.pow_zero, Nat.div_one]), rfl, rfl, trivial⟩ ?_
      clear M
      rintro ⟨i, A5, c5⟩ E6 W6 ⟨hi, M⟩
      dsimp only at hi M
      refine p_lt rfl rfl (fun hlt => ?_) (fun hge => ?_)
      · dsimp only at hlt
        have hq : N8 / 256 ^ i ≤ N8 := Nat.div_le_self _ _
        have htl := tailF_len N8 i
        have htn := tailF_succ N8 i
        obtain ⟨q, hqq⟩ : ∃ q, q = N8 / 256 ^ i := ⟨_, rfl⟩
        have hq2 : q / 256 = N8 / 256 ^ (i + 1) := by rw [hqq, Nat.div_div_eq_div_mul, Nat.pow_succ]
        rw [← hqq] at hq htn
        have hv4 : (.int .u64 ((N8 / 256 ^ (i, A5, c5).1 : Nat) : Int) : Value) = .int .u64 (q : Int) := by rw [hqq]
        rw [hv4]
        refine p_rem rfl rfl (by decide) (rem32 (x := q) (c := 256)) ?_
        refine v_cvt (by kernel_rfl) u_u8 rfl (r := ((q % 256 : Nat) : Int)) (by rw [IntKind.wrap_u8']; omega) ?_
        refine s_litB [.int .u8 ((q % 256 : Nat) : Int)] [UInt8.ofNat q] M (by decide) rfl (bvs1 q) rfl ?_
        clear M; rintro g9 W M
        refine s_appB M rfl rfl (M.rdb 0 rfl).2.2 (by omega) ?_
        clear M; rintro A6 c6 W M -
        replace M := M.frzO
        rw [List.singleton_append, ← htn, Nat.add_comm 1 i] at M
        refine p_quo rfl rfl (by decide) (r := ((q / 256 : Nat) : Int)) ?_ ?_
        · have e : (q : Int).tdiv 256 = ((q / 256 : Nat) : Int) := by rw [Int.tdiv_eq_ediv_of_nonneg (by omega)]; omega
          rw [e, IntKind.wrap_u64]; omega
        · refine p_addN (b := 1) rfl rfl (by omega) ?_
          refine ⟨(i + 1, A6, c6), ⟨by dsimp only; omega, M.fsub _ (by simp)⟩, ⟨rfl, (by show Value.int .u64 ((q / 256 : Nat) : Int) = _; rw [hq2]), (by show Value.slice A6 (1 + i) c6 = _; rw [Nat.add_comm]), rfl, trivial⟩, by dsimp only; omega⟩
      · dsimp only at hge
        have : i = 8 := by omega
        subst this
        exact ⟨(A5, c5), M, (by repeat (first | exact trivial | refine ⟨rfl, ?_⟩))⟩
    · clear M
      rintro ⟨A5, c5⟩ B6 W6 M
      dsimp only at M
      refine ev_assoc (ev_assoc (ev_assoc ?_))
      refine cutS (Option Addr × Nat × H8) (fun s W => St w gs W [] [] [.dat true [dW (h8l s.2.2)] [.slice s.1 8 s.2.1]] ∧ s.2.2.Ok ∧ blocksF begin8 (al.length / 64) al = s.2.2) (fun s => [(8, .slice s.1 8 s.2.1)]) ?_ ?_
      · refine s_appB M rfl rfl (M.rdb 0 rfl).2.2 (by omega) ?_
        clear M; rintro A7 c7 W M -
        replace M := M.frzO
        have e : (b ++ (128 : UInt8) :: List.replicate z0 0) ++ tailG (8 * n) 8 = al := by rw [hal, hpad]; simp
        rw [e] at M
        refine s_bslice (fr := true) (ds := (hc begin8).map D.v) (hc begin8) M slw zw rfl (by decide) rfl (RdL.ofvals _) rfl ?_
        clear M; rintro g8 W M
        refine cc is_r5con (r5con_any _) ?_
        rintro e W ⟨A9, c9, rfl, h9, hbel⟩
        replace M := M.callF1 hbel h9
        refine ⟨_, rfl, ?_⟩
        have hm64 : al.length = 64 * (al.length / 64) := by omega
        obtain ⟨m, hm⟩ : ∃ m, m = al.length / 64 := ⟨_, rfl⟩
        rw [← hm] at hm64 ⊢
        obtain ⟨BB, hBB⟩ : ∃ BB, BB = blocksF begin8 m al := ⟨_, rfl⟩
        rw [← hBB]
        have hnn : n + 1 + z0 + 8 = al.length := hall.symm
        refine lp (Nat × Option Addr × Nat × H8) (fun s W => s.1 ≤ m ∧ St w gs W [] [] [.dat true [dW (h8l s.2.2.2)] [.slice s.2.1 8 s.2.2.1], .dat true [dB al] [.slice A7 (n + 1 + z0 + 8) c7], .dat true [dW roots] [.slice A9 64 c9]] ∧ s.2.2.2.Ok ∧ BB = blocksF s.2.2.2 (m - s.1) (al.drop (64 * s.1))) (fun s => [(3, .slice A7 (n + 1 + z0 + 8) c7), (8, .slice s.2.1 8 s.2.2.1), (9, .slice A9 64 c9), (10, .int .i64 ((64 * s.1 : Nat) : Int))]) (fun s => m - s.1) (0, some ⟨g8, 0, none⟩, 8, begin8) ⟨Nat.zero_le _, M.fsub _ (by intro f hf; simp only [List.mem_cons, List.not_mem_nil, or_false] at hf ⊢; rcases hf with h | h | h <;> simp only [h, true_or, or_true]; exact .inr (.inl rfl)), begin8_ok6, hBB⟩ (by repeat (first | exact trivial | refine ⟨rfl, ?_⟩)) ?_
        clear M hBB h9
        rintro ⟨j, A5, c5, hh⟩ E7 W7 ⟨hj, M, hok, hBB⟩
        dsimp only at hj M hok hBB
        refine p_len slb rfl ?_
        refine p_lt rfl rfl (fun hlt => ?_) (fun hge => ?_)
        · dsimp only at hlt
          have hjm : j < m := by omega
          refine p_addN (b := 64) rfl rfl (by omega) ?_
          have hcap := (M.d1 1 rfl).scap
          refine p_slice (i := 64 * j) (j := 64 * j + 64) (m := c7) slb rfl (bnd_i rfl) (bnd_i rfl) rfl rfl (by omega) (by omega) (Nat.le_refl _) ?_
          have hcut := (M.d1 1 rfl).cutB (i := 64 * j) (j := 64 * j + 64) (m := c7) (by omega) (by omega) (by omega)
          rw [show 64 * j + 64 - 64 * j = 64 by omega] at hcut ⊢
          refine cc is_r5round (r5round_any hh hok _ _ _ _ _ _ c5 _ c9 (M.d1 0 rfl) hcut (M.d1 2 rfl) M.olt) ?_
          rintro e W ⟨A8, c8, rfl, h8, hbel⟩
          replace M := M.callF1 hbel h8
          refine ⟨_, rfl, ?_⟩
          rw [show m - j = (m - (j + 1)) + 1 by omega] at hBB
          unfold blocksF at hBB
          rw [List.drop_drop] at hBB
          refine p_addN (b := 64) rfl rfl (by omega) ?_
          exact ⟨(j + 1, A8, c8, take8 hh ((al.drop (64 * j)).take 64)), ⟨by dsimp only; omega, M.fsub _ (by intro f hf; simp only [List.mem_cons, List.not_mem_nil, or_false] at hf ⊢; rcases hf with h | h | h <;> simp only [h, true_or, or_true]), take8_ok hok _, by dsimp only; rw [Nat.mul_add, Nat.mul_one]; exact hBB⟩, ⟨rfl, rfl, rfl, (by show Value.int .i64 ((64 * j + 64 : Nat) : Int) = _; rw [Nat.mul_add, Nat.mul_one]), trivial⟩, by dsimp only; omega⟩
        · dsimp only at hge
          have : j = m := by omega
          subst this
          rw [Nat.sub_self] at hBB
          unfold blocksF at hBB
          exact ⟨(A5, c5, hh), ⟨M.fsub _ (by simp), hok, hBB⟩, (by repeat (first | exact trivial | refine ⟨rfl, ?_⟩))⟩
      · clear M
        rintro ⟨A5, c5, hh⟩ B7 W7 ⟨M, hok, hBB⟩
        dsimp only at M hok hBB
        rw [hBB, out8_flat]
        have hlt := h8_ok_lt hok
        obtain ⟨b1, o1, rfl, F1, hcw⟩ := dW_open (M.d1 0 rfl) (by decide)
        replace M := (M.addC (a := ⟨b1, o1, none⟩) F1 hcw).fsub [.loc ⟨b1, o1, none⟩ ((h8l hh).map cu)] (by simp)
        replace M := M.nilR 5 1
        refine lp (Nat × Option Addr × Nat) (fun s W => s.1 ≤ 8 ∧ St w gs W [] [⟨5, 1, s.2.1, 4 * s.1, s.2.2, bvs (((h8l hh).take s.1).flatMap put4)⟩] [.loc ⟨b1, o1, none⟩ ((h8l hh).map cu)]) (fun s => [(8, .slice (some ⟨b1, o1, none⟩) 8 c5), (11, .slice s.2.1 (4 * s.1) s.2.2), (12, .int .i64 s.1)]) (fun s => 8 - s.1) (0, none, 0) ⟨Nat.zero_le _, M⟩ (by repeat (first | exact trivial | refine ⟨rfl, ?_⟩)) ?_
        clear M
        rintro ⟨i, A6, c6⟩ E8 W8 ⟨hi, M⟩
        dsimp only at hi M
        refine p_lt rfl rfl (fun hlt2 => ?_) (fun hge => ?_)
        · dsimp only at hlt2
          have hi8 : i < 8 := by omega
          have hi8' : i < (h8l hh).length := hi8
          have hx := hlt _ (List.getElem_mem hi8')
          have hxe : (h8l hh).getD i 0 = (h8l hh)[i] := by rw [List.getD_eq_getElem?_getD, List.getElem?_eq_getElem hi8']; rfl
          obtain ⟨x, hxx⟩ : ∃ x, x = (h8l hh).getD i 0 := ⟨_, rfl⟩
          have hcx : ((h8l hh).map cu)[i * 1]? = some (.int .u32 (x : Nat)) := by rw [hxx]; exact cu_at hi8'
          rw [← hxe, ← hxx] at hx
          replace M := M.drew
          refine drT (Kp w gs [] [.loc ⟨b1, o1, none⟩ ((h8l hh).map cu)]) (.take 0 (.take 1 (.take 2 (.take 3 (.take 4 (.take 5 (.take 6 (.take 7 (.take 8 (.take 9 (.take 10 (.take 11 (.take 12 (.take 13 (.take 14 (.take 15 (.take 16 (.take 17 (.take 18 (.take 19 (.take 20 (.take 21 (.take 22 (.take 23 (.take 24 (.take 25 (.take 26 (.one 27 (.one 28 (.take 29 (.nil))))))))))))))))))))))))))))))) (by kernel_rfl) (M.kp (by simp) (by simp)) ?_
          have hq : ∀ c, x / c < 4294967296 := fun c => Nat.lt_of_le_of_lt (Nat.div_le_self _ _) hx
          refine p_at (i := i) slw rfl rfl rfl hi8 ?_
          refine t_load agg_u32 rfl (fun W K => K.lc 0 rfl (i * 1) _ hcx) ?_
          refine p_quo rfl rfl (by decide) (quo32 (c := 16777216) hx (by decide)) ?_
          refine t_cvt (by kernel_rfl) u_u8 rfl (wu8 (by omega)) ?_
          refine p_at (i := i) slw rfl rfl rfl hi8 ?_
          refine t_load agg_u32 rfl (fun W K => K.lc 0 rfl (i * 1) _ hcx) ?_
          refine p_quo rfl rfl (by decide) (quo32 (c := 65536) hx (by decide)) ?_
          refine p_rem rfl rfl (by decide) (rem32 (c := 256)) ?_
          refine t_cvt (by kernel_rfl) u_u8 rfl (wu8 (by omega)) ?_
          refine p_at (i := i) slw rfl rfl rfl hi8 ?_
          refine t_load agg_u32 rfl (fun W K => K.lc 0 rfl (i * 1) _ hcx) ?_
          refine p_quo rfl rfl (by decide) (quo32 (c := 256) hx (by decide)) ?_
          refine p_rem rfl rfl (by decide) (rem32 (c := 256)) ?_
          refine t_cvt (by kernel_rfl) u_u8 rfl (wu8 (by omega)) ?_
          refine p_at (i := i) slw rfl rfl rfl hi8 ?_
          refine t_load agg_u32 rfl (fun W K => K.lc 0 rfl (i * 1) _ hcx) ?_
          refine p_rem rfl rfl (by decide) (rem32 (c := 256)) ?_
          refine t_cvt (by kernel_rfl) u_u8 rfl (wu8 (by omega)) ?_
          refine s_litB [Value.int .u8 ((x / 16777216 : Nat) : Int), .int .u8 ((x / 65536 % 256 : Nat) : Int), .int .u8 ((x / 256 % 256 : Nat) : Int), .int .u8 ((x % 256 : Nat) : Int)] (put4 x) M (by decide) rfl (put4_vals hx) rfl ?_
          clear M; rintro g9 W M
          replace M := M.frzO
          refine ⟨(M.kp (by simp) (by simp)), ?_⟩
          refine s_appB M rfl rfl (M.rdb 0 rfl).2.2 (by omega) ?_
          clear M; rintro A7 c7 W M -
          refine ⟨(M.kp (by simp) (by simp)), ?_⟩
          have e : ((h8l hh).take i).flatMap put4 ++ put4 x = ((h8l hh).take (i + 1)).flatMap put4 := by
            rw [List.take_succ_eq_append_getElem hi8', List.flatMap_append, ← hxe, ← hxx]; simp
          rw [e, show 4 * i + 4 = 4 * (i + 1) by omega] at M
          refine p_addN (b := 1) rfl rfl (by omega) ?_
          exact ⟨(i + 1, A7, c7), ⟨by dsimp only; omega, M.fsub _ (by simp)⟩, ⟨rfl, (by show Value.slice A7 (4 * i + 4) c7 = _; rw [Nat.mul_add]), rfl, trivial⟩, by dsimp only; omega⟩
        · dsimp only at hge
          have : i = 8 := by omega
          subst this
          rw [List.take_of_length_le (by exact Nat.le_refl 8)] at M
          exact ⟨A6, c6, rfl, M.row _ (List.mem_cons_self ..), M.below⟩
end Go.Proofs.YtejbljopighenaaDoor
