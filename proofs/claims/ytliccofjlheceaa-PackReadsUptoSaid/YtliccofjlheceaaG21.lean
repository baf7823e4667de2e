/- Reference 11: Unpack. The walk of the law PackBack. The walk of the law PackReads. -/
import Derived.Test.YtliccofjlheceaaG20
import Derived.Test.YtliccofjlheceaaG17
namespace Go.Proofs.Ytliccofjlheceaa
open Go.RowKit
theorem is_runp : isFn Try.prog 24 = true := by kernel_rfl
set_option maxRecDepth 100000 in
set_option maxHeartbeats 4000000 in
theorem runp_any (b : List UInt8) (gs : List (Option Nat)) (w : World) (A : Option Addr) (n c : Nat) (h : RdD w (Fd w gs) (dB b) (.slice A n c)) (hgs : ∀ b, some b ∈ gs → b < w.heap.size) (hn : n ≤ 1000000000) :
    Calls Try.prog 24 #[.slice A n c] w fun e w' => ∃ cs, e = .returned (.tuple #[.agg cs.toArray, .int .i64 (unpP b).2]) ∧ RdL w' (Fr w w') (dN (unpP b).1) cs ∧ Below w.heap.size w w' := by
  refine calls_ev (args := [.slice A n c]) mixed Try.func24 rfl (by kernel_rfl) ?_
  have en := h.slen
  have M := (St.start hgs).addD h
  clear h
  refine s_alloc (zN) M al_nd ?_
  clear M
  rintro g2 W M
  unfold unpP
  refine p_len slb rfl ?_
  refine p_gt rfl rfl (fun hl => ?_) (fun hl => ?_)
  · have hl : (1048576 : Int) < (n : Int) := hl
    rw [if_pos (by omega)]
    refine p_build (vs := zN) pl_nd z_nd rfl ?_
    refine s_storeA 0 zN M rfl sz_nd rfl rfl rfl (all1 rfl) rfl ?_
    clear M; rintro W M
    dsimp only [setL] at M
    refine c_loadN zN agg_nd rfl rfl (M.run 0 rfl) ?_
    exact ⟨zN, rfl, RdL.znone, M.below⟩
  have hl : ¬ (1048576 : Int) < (n : Int) := hl
  rw [if_neg (by omega)]
  refine p_build (vs := rc A n c none 0 0 5000 0) pl_got z_got rfl ?_
  replace M := (M.nilR 38 6).addT (fr := true) (ds := dNs []) (cs := []) RdL.nil_
  have hsz := one_sz (B := 3 * b.length + 32) 403 b [] 5000 (by decide) (by decide) (fun x hx => by cases hx) (Nat.le_refl _)
  refine cc is_rone (r1_any 403 (3 * b.length + 32) 0 rfl (by omega) w _ gs A n c none 0 0 5000 b [] [] _ [] [.dat false [dB b] [.slice A n c]] (oneF 403 b [] 5000) (by decide) (by decide) (fun x hx => by cases hx) (Nat.le_refl _) (by rw [List.length_nil]; omega) rfl (M.fsub _ (by simp))) ?_
  clear M
  rintro e W ⟨cs, A1, n1, c1, Ad, nd, cd, left1, e1, tn, b1, done1, xs, rfl, M, hP⟩
  refine ⟨_, rfl, ?_⟩
  have hcl := (M.da 0 rfl).len
  rw [dN_len] at hcl
  have en1 := (M.d1 2 rfl).slen
  refine s_alloc (zN) M al_nd ?_
  clear M
  rintro g4 W M
  refine s_alloc (zG) M al_got ?_
  clear M
  rintro g5 W M
  refine s_storeA 1 cs M rfl sz_nd rfl rfl hcl ((M.da 0 rfl).ones (dN_one _)) rfl ?_
  clear M; rintro W M
  dsimp only [setL] at M
  refine s_storeA 0 (rc A1 n1 c1 Ad nd cd left1 e1) M rfl sz_got rfl rfl rfl (all1 rfl) rfl ?_
  clear M; rintro W M
  dsimp only [setL] at M
  refine p_fld fG3 rfl ?_
  refine v_load agg_int rfl ((M.B 0 rfl).at_ rfl) ?_
  cases hr : oneF 403 b [] 5000 with
  | bad x =>
    rw [hr] at hP hsz
    obtain ⟨p1, p2⟩ := hP
    have hx0 : x ≠ 0 := by rcases hsz with h | h <;> rw [h] <;> decide
    subst p1
    dsimp only
    refine p_ne rfl rfl (fun h => absurd h hx0) (fun _ => ?_)
    replace M := M.drew
    refine drT (Kp w gs [(g5, 90, rc A1 n1 c1 Ad nd cd left1 e1)] []) (.take 0 (.take 1 (.take 2 (.one 3 (.take 4 (.nil)))))) (by kernel_rfl) (M.kp (by simp) (by simp)) ?_
    refine p_build (vs := zN) pl_nd z_nd rfl ?_
    refine p_fld fG3 rfl ?_
    refine t_load agg_int rfl (fun W K => (K.B 0 rfl).at_ rfl) ?_
    refine s_storeA 2 zN M rfl sz_nd rfl rfl rfl (all1 rfl) rfl ?_
    clear M; rintro W M
    dsimp only [setL] at M
    refine ⟨(M.kp (by simp) (by simp)), ?_⟩
    refine c_loadN zN agg_nd rfl rfl (M.run 2 rfl) ?_
    exact ⟨zN, rfl, RdL.znone, M.below⟩
  | got n' b' d' l' =>
    rw [hr] at hP hsz
    obtain ⟨rfl, rfl, rfl, rfl, rfl⟩ := hP
    have htz : sz tn ≤ 999999999998 := by
      have h1 := sm_sz (3 * b.length + 32) tn hsz.1.1
      have h2 : (102 + (3 * b.length + 32)) * (cntP tn).1 ≤ 3200102 * 5000 := Nat.mul_le_mul (by omega) hsz.1.2
      omega
    clear hsz
    dsimp only
    refine p_ne rfl rfl (fun _ => ?_) (fun h => absurd rfl h)
    refine v_loadN cs agg_nd rfl hcl (M.run 1 rfl) ?_
    refine cc is_rPk (rPk_any tn htz _ _ cs (M.da 0 rfl) M.olt) ?_
    rintro e W ⟨A5, n5, c5, rfl, o, hb⟩
    replace M := M.callO hb o
    clear o hb
    refine ⟨_, rfl, ?_⟩
    refine p_fld fG0 rfl ?_
    refine v_load agg_b rfl ((M.B 0 rfl).at_ rfl) ?_
    refine p_len slb rfl ?_
    refine p_gt rfl rfl (fun h1 => ?_) (fun h1 => ?_)
    · have h1 : (0 : Int) < ((n1 : Nat) : Int) := h1
      rw [if_pos (.inl (by omega))]
      refine p_build (vs := zN) pl_nd z_nd rfl ?_
      refine s_storeA 2 zN M rfl sz_nd rfl rfl rfl (all1 rfl) rfl ?_
      clear M; rintro W M
      dsimp only [setL] at M
      refine c_loadN zN agg_nd rfl rfl (M.run 2 rfl) ?_
      exact ⟨zN, rfl, RdL.znone, M.below⟩
    have h1 : ¬ (0 : Int) < ((n1 : Nat) : Int) := h1
    refine p_ne rfl rfl (fun h2 => ?_) (fun h2 => ?_)
    rotate_left
    · have h2 : ¬ (packP tn).2 = 0 := h2
      rw [if_pos (.inr (fun h => h2 (by rw [h])))]
      refine p_build (vs := zN) pl_nd z_nd rfl ?_
      refine s_storeA 2 zN M rfl sz_nd rfl rfl rfl (all1 rfl) rfl ?_
      clear M; rintro W M
      dsimp only [setL] at M
      refine c_loadN zN agg_nd rfl rfl (M.run 2 rfl) ?_
      exact ⟨zN, rfl, RdL.znone, M.below⟩
    have h2 : (packP tn).2 = 0 := h2
    obtain ⟨q, hq, hc⟩ := same_tf (c1 := c5) (c2 := c) (M.rdb 0 rfl).2.2 (M.rdb 4 rfl).2.2
    refine cc is_same0 hc ?_
    rintro e W' ⟨rfl, rfl⟩
    refine ⟨_, rfl, ?_⟩
    clear hc
    cases q with
    | false =>
      refine p_not rfl ?_
      rw [if_pos (.inr (fun h => absurd (hq.2 (by rw [h])) (by decide)))]
      refine p_build (vs := zN) pl_nd z_nd rfl ?_
      refine s_storeA 2 zN M rfl sz_nd rfl rfl rfl (all1 rfl) rfl ?_
      clear M; rintro W M
      dsimp only [setL] at M
      refine c_loadN zN agg_nd rfl rfl (M.run 2 rfl) ?_
      exact ⟨zN, rfl, RdL.znone, M.below⟩
    | true =>
      have hpe : packP tn = (b, 0) := Prod.ext (hq.1 rfl) h2
      rw [if_neg (by rintro (h | h); · omega
                     · exact h hpe)]
      refine p_not rfl ?_
      refine v_loadN cs agg_nd rfl hcl (M.run 1 rfl) ?_
      refine s_storeA 2 cs M rfl sz_nd rfl rfl hcl ((M.da 1 rfl).ones (dN_one _)) rfl ?_
      clear M; rintro W M
      dsimp only [setL] at M
      refine c_loadN cs agg_nd rfl hcl (M.run 2 rfl) ?_
      exact ⟨cs, rfl, M.finF 1 rfl, M.below⟩
end Go.Proofs.Ytliccofjlheceaa
namespace Go.Proofs.Ytliccofjlheceaa
open Go.RowKit


theorem unpP_bad {b : List UInt8} (h : (unpP b).2 ≠ 0) : (unpP b).1 = noneN := by
  unfold unpP at h ⊢
  split
  · rfl
  · next hl =>
    rw [if_neg hl] at h
    split
    · rfl
    · next hr =>
      rw [hr] at h
      dsimp only at h ⊢
      split
      · rfl
      · next h2 => rw [if_neg h2] at h; exact absurd rfl h
theorem unpP_ok {b : List UInt8} (h : (unpP b).2 = 0) : packP (unpP b).1 = (b, 0) := by
  unfold unpP at h ⊢
  by_cases hl : 1048576 < b.length
  · rw [if_pos hl] at h; cases h
  rw [if_neg hl] at h ⊢
  cases hr : oneF 403 b [] 5000 with
  | bad e =>
    rw [hr] at h
    have hsz := one_sz (B := 3 * b.length + 32) 403 b [] 5000 (by decide) (by decide) (fun x hx => by cases hx) (Nat.le_refl _)
    rw [hr] at hsz
    rcases hsz with h1 | h1 <;> rw [h1] at h <;> cases h
  | got n r d l =>
    rw [hr] at h
    dsimp only at h ⊢
    by_cases h2 : 0 < r.length ∨ packP n ≠ (b, 0)
    · rw [if_pos h2] at h; cases h
    · rw [if_neg h2]
      exact Classical.not_not.1 fun h3 => h2 (Or.inr h3)
theorem unpP_sz {b : List UInt8} (h : (unpP b).2 = 0) : sz (unpP b).1 ≤ 22670006 := by
  have h1 := unpP_ok h
  obtain ⟨h0, hc, -⟩ := packP_ok (t := (unpP b).1) (by rw [h1])
  exact val_szc (check_valK h0) hc
end Go.Proofs.Ytliccofjlheceaa
namespace Go.Proofs.Ytliccofjlheceaa
open Go.RowKit


/-- What was made is between two sizes. -/
theorem St.toG {w W : World} {gs : List (Option Nat)} {L : Lc} {R : List Row} {fs : List Fact} {ds : List D} {cs : List Value} (M : St w gs W L R fs) (i : Nat) (h : nth fs i = some (.dat true ds cs)) : St w gs W L R (.rng w.heap.size W.heap.size ds cs :: fs) :=
  M.add (f := .rng w.heap.size W.heap.size ds cs) ((M.dt i h).to fun b hb => ⟨rfl, hb, (hb.2.2 rfl).1, hb.1⟩)
/-- Behind what is written over, while new blocks came. -/
theorem St.tame2 {w W W' : World} {gs : List (Option Nat)} {L : Lc} {R : List Row} {fs fs' : List Fact} {B : Nat → Prop} {s0 s1 : Nat} (M : St w gs W L R fs) (t : Tame2 B W W') (hB : ∀ b, B b → s0 ≤ b ∧ b < s1 ∧ some b ∉ own L R gs) (hs : w.heap.size ≤ s0)
    (hf : ∀ f ∈ fs', f ∈ fs ∧ ∃ lo hi ds cs, f = .rng lo hi ds cs ∧ (hi ≤ s0 ∨ s1 ≤ lo)) : St w gs W' L R fs' := by
  have hown : ∀ b, some b ∈ own L R gs → W'.heap[b]? = W.heap[b]? := fun b e => t.out b (M.olt b e) (fun h => (hB b h).2.2 e)
  refine ⟨M.below.trans (t.low _ M.size (fun b hb => Nat.le_trans hs (hB b hb).1)), M.lt, fun x hx => ⟨(hown x.1 (by unfold own; exact List.mem_append_left _ (List.mem_map.2 ⟨x, hx, rfl⟩))).trans (M.blk x hx).1, (M.blk x hx).2⟩, fun r hr => ?_, M.ap, fun f hfm => ?_⟩
  · obtain ⟨h1, h2⟩ := M.row r hr
    refine ⟨h1, ?_⟩
    rcases h2 with h2 | ⟨g, cap, cur, hv, hb, hh, h3⟩
    · exact .inl h2
    · refine .inr ⟨g, cap, cur, hv, hb, ?_, h3⟩
      rw [hown g (by
        unfold own
        refine List.mem_append_right _ (List.mem_append_left _ (List.mem_map.2 ⟨r, hr, ?_⟩))
        injection hv with e1
        rw [e1]; rfl)]
      exact hh
  · obtain ⟨hm, lo, hi, ds, cs, rfl, hor⟩ := hf f hfm
    have h := M.fct _ hm
    refine RdL.to (fun b hb => ?_) (show RdL W (fun b => Ft w W (own L R gs) true b ∧ lo ≤ b ∧ b < hi) ds cs from h)
    have e : W'.heap[b]? = W.heap[b]? := t.out b hb.1.1 (fun h => by have := hB b h; have := hb.2; omega)
    exact ⟨e, ⟨Nat.lt_of_lt_of_le hb.1.1 t.size, hb.1.2.1, fun q => ⟨(hb.1.2.2 q).1, (hb.1.2.2 q).2.same e⟩⟩, hb.2⟩
set_option maxRecDepth 100000 in
set_option maxHeartbeats 8000000 in
theorem packReads_walk (w : World) {A1 : Option Addr} {n1 c1 : Nat} {b : List UInt8} (g1 : RdD w (Fd w []) (dB b) (.slice A1 n1 c1)) (_b1 : b.length ≤ 1048576) :
    Calls Try.prog 5 #[.slice A1 n1 c1] w (RetTrue w) := by
  refine calls_ev (args := [.slice A1 n1 c1]) mixed Try.func5 rfl (by kernel_rfl) ?_
  have en1 := g1.slen
  subst en1
  have M := (St.start (w := w) (gs := []) (fun b h => by cases h)).addD g1
  refine p_len slb rfl ?_
  refine p_gt rfl rfl (fun k1 => ?_) (fun k1 => ?_)
  ·
    refine cc is_kn11 (known11_any _ _ M.olt) ?_
    rintro e W ⟨rfl, hb⟩
    replace M := M.call hb
    clear hb
    exact ⟨_, rfl, rfl, M.below⟩
  have k1 : b.length ≤ 3000 := by have h : ¬ (3000 : Int) < ((b.length : Nat) : Int) := k1; omega
  have hsz : sz (unpP b).1 ≤ 22670006 := by
    by_cases he : (unpP b).2 = 0
    · exact unpP_sz he
    · rw [unpP_bad he]; decide
  have cn := punpack_any b _ _ _ _ c1 (M.d1 0 rfl) M.olt (by omega)
  have cm := fun W gs h hgs => runp_any b gs W A1 b.length c1 h hgs (by omega)
  have cp := fun W gs h hgs => punpack_any b gs W A1 b.length c1 h hgs (by omega)
  obtain ⟨D, hD⟩ : ∃ D, D = unpP b := ⟨_, rfl⟩
  rw [← hD] at cn cm cp hsz
  obtain ⟨t, er⟩ := D
  dsimp only at cn cm cp hsz
  refine cc is_pUnpack cn ?_
  clear cn
  rintro e W ⟨cs3, rfl, r3, hb⟩
  replace M := M.callF hb r3
  clear r3 hb
  obtain ⟨Bp, dp, Bv, dv, Bk, dk, Bh, dh, rfl, -⟩ := (M.da 0 rfl).node
  refine ⟨_, rfl, ?_⟩
  refine s_alloc (zN) M al_nd ?_
  clear M
  rintro g3 W M
  first | refine s_storeA 0 (ncs t Bp dp Bv dv Bk dk Bh dh) M rfl (by kernel_rfl) rfl rfl rfl (all1 rfl) rfl ?_ | refine s_storeA 1 (ncs t Bp dp Bv dv Bk dk Bh dh) M rfl (by kernel_rfl) rfl rfl rfl (all1 rfl) rfl ?_ | refine s_storeA 2 (ncs t Bp dp Bv dv Bk dk Bh dh) M rfl (by kernel_rfl) rfl rfl rfl (all1 rfl) rfl ?_ | refine s_storeA 3 (ncs t Bp dp Bv dv Bk dk Bh dh) M rfl (by kernel_rfl) rfl rfl rfl (all1 rfl) rfl ?_
  clear M
  rintro W M
  dsimp only [setL] at M
  replace M := M.toG 0 rfl
  obtain ⟨s1, hs1⟩ : ∃ s1, s1 = W.heap.size := ⟨_, rfl⟩
  refine cc is_runp (cm _ _ (M.d1 2 rfl) M.olt) ?_
  clear cm
  rintro e W ⟨cs5, rfl, r5, hb⟩
  replace M := M.callG hb r5
  obtain ⟨s2, hs2⟩ : ∃ s2, s2 = W.heap.size := ⟨_, rfl⟩
  rw [← hs1, ← hs2] at M
  clear r5 hb
  have hc5 := (M.rda 0 rfl).len
  rw [dN_len] at hc5
  refine ⟨_, rfl, ?_⟩
  refine s_alloc (zN) M al_nd ?_
  clear M
  rintro g5 W M
  refine s_storeA 0 cs5 M rfl sz_nd rfl rfl hc5 ((M.rda 0 rfl).ones (dN_one _)) rfl ?_
  clear M; rintro W M
  dsimp only [setL] at M
  refine v_loadN (ncs t Bp dp Bv dv Bk dk Bh dh) agg_nd rfl rfl (M.run 1 rfl) ?_
  refine v_loadN cs5 agg_nd rfl hc5 (M.run 0 rfl) ?_
  refine cc is_r7same (rsame_any 30000000 (by decide) t (by omega) t _ _ _ _ ((M.rda 1 rfl)) (M.rda 0 rfl) M.olt (by omega)) ?_
  rintro e W ⟨q, rfl, hq, hb⟩
  obtain rfl := hq.2 rfl
  replace M := M.call hb
  clear hb hq
  refine ⟨_, rfl, ?_⟩
  refine p_not rfl ?_
  refine p_ne rfl rfl (fun _ => ?_) (fun e => absurd rfl e)
  -- what was read is written over
  replace M := M.fsub [.rng w.heap.size s1 (dN t) (ncs t Bp dp Bv dv Bk dk Bh dh), .rng s1 s2 (dN t) cs5] (by simp)
  obtain ⟨L0, hL0⟩ : ∃ L0, L0 = [(g5, 38, cs5), (g3, 38, ncs t Bp dp Bv dv Bk dk Bh dh)] := ⟨_, rfl⟩
  rw [← hL0] at M
  obtain ⟨B, hB⟩ : ∃ B : Nat → Prop, B = fun b => Ft w W (own L0 [] []) true b ∧ w.heap.size ≤ b ∧ b < s1 := ⟨_, rfl⟩
  have hrg := M.rg 0 rfl
  rw [← hB] at hrg
  have hBlt : ∀ b, B b → b < W.heap.size := fun b hb => by rw [hB] at hb; exact hb.1.1
  have hBt : ∀ b, B b → Thaw W b := fun b hb => by rw [hB] at hb; exact (hb.1.2.2 rfl).2
  have hBo : ∀ b, B b → w.heap.size ≤ b ∧ b < s1 ∧ some b ∉ own L0 [] [] := fun b hb => by rw [hB] at hb; exact ⟨hb.2.1, hb.2.2, hb.1.2.1⟩
  have M0 := M
  rw [hL0] at M0
  refine v_loadN (ncs t Bp dp Bv dv Bk dk Bh dh) agg_nd rfl rfl (M0.run 1 rfl) ?_
  clear M0
  refine cc is_spl (spl_any 30000000 (by decide) t (by omega) B W _ hrg hBlt hBt W _ (Tame2.refl _ _) rfl (fun j v h => ⟨v, h, .inl rfl⟩)) ?_
  rintro e W1 ⟨⟨u, rfl⟩, t1⟩
  refine ⟨_, rfl, ?_⟩
  replace M : St w [] W1 L0 [] [.rng s1 s2 (dN t) cs5] := M.tame2 t1 hBo (Nat.le_refl _) (fun f hf => ⟨by simp only [List.mem_cons, List.not_mem_nil, or_false] at hf ⊢; exact .inr hf, by
    rw [List.mem_singleton.1 hf]; exact ⟨_, _, _, _, rfl, .inr (Nat.le_refl _)⟩⟩)
  clear t1 hBo hBt hBlt hrg hB B
  rw [hL0] at M
  clear hL0 L0
  replace M := M.arg (RdL.one g1)
  refine cc is_pUnpack (cp _ _ (M.d1 0 rfl) M.olt) ?_
  clear cp
  rintro e W ⟨cs8, rfl, r8, hb⟩
  replace M := M.callF hb r8
  clear r8 hb
  have hc8 := (M.da 0 rfl).len
  rw [dN_len] at hc8
  refine ⟨_, rfl, ?_⟩
  refine s_alloc (zN) M al_nd ?_
  clear M
  rintro g8 W M
  refine s_storeA 0 cs8 M rfl sz_nd rfl rfl hc8 ((M.da 0 rfl).ones (dN_one _)) rfl ?_
  clear M; rintro W M
  dsimp only [setL] at M
  refine v_loadN cs8 agg_nd rfl hc8 (M.run 0 rfl) ?_
  refine v_loadN cs5 agg_nd rfl hc5 (M.run 1 rfl) ?_
  refine cc is_r7same (rsame_any 30000000 (by decide) t (by omega) t _ _ _ _ ((M.da 0 rfl)) (M.rda 2 rfl) M.olt (by omega)) ?_
  rintro e W ⟨q, rfl, hq, hb⟩
  obtain rfl := hq.2 rfl
  replace M := M.call hb
  clear hb hq
  refine ⟨_, rfl, ?_⟩
  refine cc is_kn11 (known11_any _ _ M.olt) ?_
  rintro e W ⟨rfl, hb⟩
  replace M := M.call hb
  clear hb
  exact ⟨_, rfl, rfl, M.below⟩
end Go.Proofs.Ytliccofjlheceaa
