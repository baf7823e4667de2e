/- law21: known. The walk of the law BlockWrites. The walk of the law BlockLinks. The walk of the law BlockBack. A store into a row of bytes. -/
import Derived.Test.YtejbljopighenaaDoorG15
import Derived.Test.YtejbljopighenaaDoorG01
import Derived.Test.YtejbljopighenaaDoorG08
namespace Go.Proofs.YtejbljopighenaaDoor
open Go.RowKit
theorem is_kn21 : isFn Tryd.prog 8 = true := by kernel_rfl
theorem is_bDecK : isFn Tryd.prog 11 = true := by kernel_rfl
theorem is_bSameK : isFn Tryd.prog 21 = true := by kernel_rfl
theorem is_r21SameK : isFn Tryd.prog 18 = true := by kernel_rfl
theorem is_bLinksK : isFn Tryd.prog 19 = true := by kernel_rfl
theorem is_bEncK : isFn Tryd.prog 9 = true := by kernel_rfl
theorem is_bCheckK : isFn Tryd.prog 14 = true := by kernel_rfl
def z32 : List UInt8 := List.replicate 32 0
def a21 : Bk := ⟨0, z32, z32, z32, [], [], []⟩
def b21 : Bk := ⟨1, hashBk a21, z32, z32, [], [], []⟩
theorem z32_len : z32.length = 32 := by decide
/-- A block with nothing in it is one. -/
theorem bare_ok {b : Bk} (h0 : 0 ≤ b.num) (hn : b.num ≤ 9223372036854775807) (h1 : b.last.length = 32) (h2 : b.prev.length = 32) (h3 : b.next.length = 32) (ht : b.txs = []) (ho : b.outs = []) (hp : b.proof = []) : FitsB b ∧ encBk b = (blockB b, 0) ∧ (blockB b).length ≤ 100000 := by
  have hw : WfB b := ⟨by omega, hn, fun o h => by rw [ho] at h; cases h⟩
  have hr : rightBk b = true := right_iff.2 ⟨⟨h0, h1, h2, h3, by rw [ht]; decide, by rw [ht, ho]; rfl⟩, (fun t h => by rw [ht] at h; cases h), fun o h => by rw [ho] at h; cases h⟩
  have hb : bigN b = 0 := by unfold bigN baseN; rw [ht, ho, hp]; rfl
  have hl := block_sm hw hr (by omega)
  exact ⟨fits_bare hn (by omega) (by omega) (by omega) ht ho hp, encBk_0 hr (by omega), hl⟩
theorem a21_ok : FitsB a21 ∧ encBk a21 = (blockB a21, 0) ∧ (blockB a21).length ≤ 100000 := bare_ok (by decide) (by decide) z32_len z32_len z32_len rfl rfl rfl
theorem sha_len32 (b : List UInt8) : (sha b).length = 32 := by rw [sha_def]; unfold out8 put4; rfl
theorem hash_len {b : Bk} (h : (encBk b).2 = 0) : (hashBk b).length = 32 := by unfold hashBk; rw [if_pos h, sha_len32]
theorem a21_hash : (hashBk a21).length = 32 := hash_len (by rw [a21_ok.2.1])
theorem b21_ok : FitsB b21 ∧ encBk b21 = (blockB b21, 0) ∧ (blockB b21).length ≤ 100000 := bare_ok (by decide) (by decide) a21_hash z32_len z32_len rfl rfl rfl
theorem a21_dec : decBk (blockB a21) = (a21, 0) := dec_encBk a21_ok.2.1 a21_ok.1
theorem link_ab : LinkN [a21, b21] 2 := by
  refine ⟨Nat.le_refl _, fun i hi => ?_, fun h => absurd h (Nat.lt_irrefl _)⟩
  have : i = 0 ∨ i = 1 := by omega
  rcases this with rfl | rfl
  · exact ⟨a21, rfl, by rw [a21_ok.2.1], fun a h => absurd h (Nat.lt_irrefl _)⟩
  · refine ⟨b21, rfl, by rw [b21_ok.2.1], fun a _ ha => ?_⟩
    have ha : some a21 = some a := ha
    injection ha with ha
    subst ha
    exact ⟨rfl, rfl, rfl⟩
theorem link_ba : LinkN [b21, a21] 1 := by
  refine ⟨by decide, fun i hi => ?_, fun _ => ?_⟩
  · have : i = 0 := by omega
    subst this
    exact ⟨b21, rfl, by rw [b21_ok.2.1], fun a h => absurd h (Nat.lt_irrefl _)⟩
  · rintro ⟨b, hb, -, h⟩
    have hb : some a21 = some b := hb
    injection hb with hb
    subst hb
    have := (h b21 (by decide) rfl).1
    exact absurd this (by decide)
theorem chk_z : checkBk bkZ = 2 := by decide +kernel
theorem fits_z : FitsB bkZ := fits_bare (by decide) (by decide) (by decide) (by decide) rfl rfl rfl
theorem ab_ne : a21 ≠ b21 := fun h => absurd (congrArg Bk.num h) (by decide)
theorem s_mk32 {E : Env} {d : Option Nat} {ty : TypeId} {p : String} {af : Array Edge} {gd : Option (Nat × Bool)} {l c : Operand} {kw : Value → World → Prop} {w W : World} {gs : List (Option Nat)} {L : Lc} {R : List Row} {fs : List Fact} (M : St w gs W L R fs) (hl : val E l = .int .i64 ((32 : Nat) : Int)) (hc : val E c = .int .i64 ((32 : Nat) : Int))
    (h : ∀ g W', St w gs W' L R (.dat true [dB z32] [.slice (some ⟨g, 0, none⟩) 32 32] :: fs) → kw (.slice (some ⟨g, 0, none⟩) 32 32) W') :
    VVal Tryd.prog E { dst := d, op := .makeSlice 22 l c, type := ty, pos := p, after := af, guard := gd } W kw := s_mkBy 32 (by decide) M hl hc h
theorem sz_slK : (Tryd.prog.info? 22).map (·.size) = some 1 := by kernel_rfl
theorem rd_z (W : World) (F : Nat → Prop) : RdL W F (dBk bkZ) zBk := RdL.ofbk (b := bkZ) (p := ⟨none, 0, none, 0, none, 0, none, 0, none, 0, none, 0⟩) (RdD.nil_ (s := 1) none 0) (RdD.nil_ (s := 1) none 0) (RdD.nil_ (s := 1) none 0) (RdD.nil_ none 0) (RdD.nil_ none 0) (RdD.nil_ (s := 1) none 0)
theorem two_bks (a b : Bk) : D.sl 7 2 (dBk a ++ dBk b) = dBks [a, b] := rfl
def c21 (g7 g8 g9 : Nat) : List Value := [.int .i64 0, .slice (some ⟨g7, 0, none⟩) 32 32, .slice (some ⟨g8, 0, none⟩) 32 32, .slice (some ⟨g9, 0, none⟩) 32 32, .slice none 0 0, .slice none 0 0, .slice none 0 0]
set_option maxRecDepth 100000 in
set_option maxHeartbeats 8000000 in
theorem known21_any (gs : List (Option Nat)) (w : World) (hG : GL w gs) (hgs : ∀ b, some b ∈ gs → b < w.heap.size) : Calls Tryd.prog 8 #[] w fun e w' => e = .returned (.bool true) ∧ Below w.heap.size w w' := by
  refine calls_ev (args := []) mixed Tryd.func8 rfl (by kernel_rfl) ?_
  have M := (St.start hgs).drew
  refine cutV (Nat × Bp) (fun z W => St w gs W [(z.1, 26, bkcs a21 z.2)] [] [.dat false (dBk a21) (bkcs a21 z.2)]) (fun z => [(1, .pointer (some ⟨z.1, 0, none⟩))]) ?_ ?_
  · refine drT (fun _ => True) (Sch.graft (.four 0 (.three 1 (.two 2 (.take 3 (.one 4 (.nil))) 4 (.one 2 (.take 3 (.nil)))) 2 (.two 1 (.take 3 (.one 4 (.nil))) 4 (.one 1 (.take 3 (.nil)))) 4 (.two 1 (.one 2 (.take 3 (.nil))) 2 (.one 1 (.take 3 (.nil))))) 1 (.three 0 (.two 2 (.take 3 (.one 4 (.nil))) 4 (.one 2 (.take 3 (.nil)))) 2 (.two 0 (.take 3 (.one 4 (.nil))) 4 (.one 0 (.take 3 (.nil)))) 4 (.two 0 (.one 2 (.take 3 (.nil))) 2 (.one 0 (.take 3 (.nil))))) 2 (.three 0 (.two 1 (.take 3 (.one 4 (.nil))) 4 (.one 1 (.take 3 (.nil)))) 1 (.two 0 (.take 3 (.one 4 (.nil))) 4 (.one 0 (.take 3 (.nil)))) 4 (.two 0 (.one 1 (.take 3 (.nil))) 1 (.one 0 (.take 3 (.nil))))) 4 (.three 0 (.two 1 (.one 2 (.take 3 (.nil))) 2 (.one 1 (.take 3 (.nil)))) 1 (.two 0 (.one 2 (.take 3 (.nil))) 2 (.one 0 (.take 3 (.nil)))) 2 (.two 0 (.one 1 (.take 3 (.nil))) 1 (.one 0 (.take 3 (.nil)))))) (.one 5 .nil)) (by kernel_rfl) trivial ?_
    refine cutT (Nat × Nat × Nat × Nat) (fun z W => St w gs W [(z.1, 26, zBk)] [] [.dat true [dB z32] [.slice (some ⟨z.2.1, 0, none⟩) 32 32], .dat true [dB z32] [.slice (some ⟨z.2.2.1, 0, none⟩) 32 32], .dat true [dB z32] [.slice (some ⟨z.2.2.2, 0, none⟩) 32 32]])
      (fun z => [(1, .pointer (some ⟨z.1, 0, none⟩)), (10, .agg (c21 z.2.1 z.2.2.1 z.2.2.2).toArray)]) ?_ ?_
    rotate_left
    · rintro ⟨g1, g7, g8, g9⟩ E W M
      dsimp only at M
      refine s_storeA 0 (c21 g7 g8 g9) M rfl sz_bk rfl rfl rfl (all1 rfl) rfl ?_
      clear M; rintro W M
      dsimp only [setL] at M
      refine ⟨trivial, ?_⟩
      have hrd : RdL W (Fd W (own [(g1, 26, c21 g7 g8 g9)] [] gs)) (dBk a21) (bkcs a21 ⟨some ⟨g7, 0, none⟩, 32, some ⟨g8, 0, none⟩, 32, some ⟨g9, 0, none⟩, 32, none, 0, none, 0, none, 0⟩) := RdL.ofbk (M.d1 0 rfl) (M.d1 1 rfl) (M.d1 2 rfl) (RdD.nil_ none 0) (RdD.nil_ none 0) (RdD.nil_ (s := 1) none 0)
      exact ⟨(g1, ⟨some ⟨g7, 0, none⟩, 32, some ⟨g8, 0, none⟩, 32, some ⟨g9, 0, none⟩, 32, none, 0, none, 0, none, 0⟩), (M.addL hrd).fsub _ (by simp), (by repeat (first | exact trivial | refine ⟨rfl, ?_⟩))⟩
    refine ⟨?_, ?_, ?_, ?_⟩
    · refine s_mk32 M rfl rfl ?_
      clear M; rintro g7 W M
      refine ⟨trivial, ?_⟩
      refine ⟨?_, ?_, ?_⟩
      · refine s_mk32 M rfl rfl ?_
        clear M; rintro g8 W M
        refine ⟨trivial, ?_⟩
        refine ⟨?_, ?_⟩
        · refine s_mk32 M rfl rfl ?_
          clear M; rintro g9 W M
          refine ⟨trivial, ?_⟩
          refine p_build (vs := c21 g7 g8 g9) pl_bk z_bk rfl ?_
          refine s_alloc (zBk) M al_bk ?_
          clear M
          rintro g1 W M
          refine ⟨trivial, ?_⟩
          exact ⟨(g1, g7, g8, g9), M.fsub _ (by simp), (by repeat (first | exact trivial | refine ⟨rfl, ?_⟩))⟩
        · skip
          refine s_alloc (zBk) M al_bk ?_
          clear M
          rintro g1 W M
          refine ⟨trivial, ?_⟩
          refine s_mk32 M rfl rfl ?_
          clear M; rintro g9 W M
          refine ⟨trivial, ?_⟩
          refine p_build (vs := c21 g7 g8 g9) pl_bk z_bk rfl ?_
          exact ⟨(g1, g7, g8, g9), M.fsub _ (by simp), (by repeat (first | exact trivial | refine ⟨rfl, ?_⟩))⟩
      · refine s_mk32 M rfl rfl ?_
        clear M; rintro g9 W M
        refine ⟨trivial, ?_⟩
        refine ⟨?_, ?_⟩
        · refine s_mk32 M rfl rfl ?_
          clear M; rintro g8 W M
          refine ⟨trivial, ?_⟩
          refine p_build (vs := c21 g7 g8 g9) pl_bk z_bk rfl ?_
          refine s_alloc (zBk) M al_bk ?_
          clear M
          rintro g1 W M
          refine ⟨trivial, ?_⟩
          exact ⟨(g1, g7, g8, g9), M.fsub _ (by simp), (by repeat (first | exact trivial | refine ⟨rfl, ?_⟩))⟩
        · skip
          refine s_alloc (zBk) M al_bk ?_
          clear M
          rintro g1 W M
          refine ⟨trivial, ?_⟩
          refine s_mk32 M rfl rfl ?_
          clear M; rintro g8 W M
          refine ⟨trivial, ?_⟩
          refine p_build (vs := c21 g7 g8 g9) pl_bk z_bk rfl ?_
          exact ⟨(g1, g7, g8, g9), M.fsub _ (by simp), (by repeat (first | exact trivial | refine ⟨rfl, ?_⟩))⟩
      · skip
        refine s_alloc (zBk) M al_bk ?_
        clear M
        rintro g1 W M
        refine ⟨trivial, ?_⟩
        refine ⟨?_, ?_⟩
        · refine s_mk32 M rfl rfl ?_
          clear M; rintro g8 W M
          refine ⟨trivial, ?_⟩
          refine s_mk32 M rfl rfl ?_
          clear M; rintro g9 W M
          refine ⟨trivial, ?_⟩
          refine p_build (vs := c21 g7 g8 g9) pl_bk z_bk rfl ?_
          exact ⟨(g1, g7, g8, g9), M.fsub _ (by simp), (by repeat (first | exact trivial | refine ⟨rfl, ?_⟩))⟩
        · refine s_mk32 M rfl rfl ?_
          clear M; rintro g9 W M
          refine ⟨trivial, ?_⟩
          refine s_mk32 M rfl rfl ?_
          clear M; rintro g8 W M
          refine ⟨trivial, ?_⟩
          refine p_build (vs := c21 g7 g8 g9) pl_bk z_bk rfl ?_
          exact ⟨(g1, g7, g8, g9), M.fsub _ (by simp), (by repeat (first | exact trivial | refine ⟨rfl, ?_⟩))⟩
    · refine s_mk32 M rfl rfl ?_
      clear M; rintro g8 W M
      refine ⟨trivial, ?_⟩
      refine ⟨?_, ?_, ?_⟩
      · refine s_mk32 M rfl rfl ?_
        clear M; rintro g7 W M
        refine ⟨trivial, ?_⟩
        refine ⟨?_, ?_⟩
        · refine s_mk32 M rfl rfl ?_
          clear M; rintro g9 W M
          refine ⟨trivial, ?_⟩
          refine p_build (vs := c21 g7 g8 g9) pl_bk z_bk rfl ?_
          refine s_alloc (zBk) M al_bk ?_
          clear M
          rintro g1 W M
          refine ⟨trivial, ?_⟩
          exact ⟨(g1, g7, g8, g9), M.fsub _ (by simp), (by repeat (first | exact trivial | refine ⟨rfl, ?_⟩))⟩
        · skip
          refine s_alloc (zBk) M al_bk ?_
          clear M
          rintro g1 W M
          refine ⟨trivial, ?_⟩
          refine s_mk32 M rfl rfl ?_
          clear M; rintro g9 W M
          refine ⟨trivial, ?_⟩
          refine p_build (vs := c21 g7 g8 g9) pl_bk z_bk rfl ?_
          exact ⟨(g1, g7, g8, g9), M.fsub _ (by simp), (by repeat (first | exact trivial | refine ⟨rfl, ?_⟩))⟩
      · refine s_mk32 M rfl rfl ?_
        clear M; rintro g9 W M
        refine ⟨trivial, ?_⟩
        refine ⟨?_, ?_⟩
        · refine s_mk32 M rfl rfl ?_
          clear M; rintro g7 W M
          refine ⟨trivial, ?_⟩
          refine p_build (vs := c21 g7 g8 g9) pl_bk z_bk rfl ?_
          refine s_alloc (zBk) M al_bk ?_
          clear M
          rintro g1 W M
          refine ⟨trivial, ?_⟩
          exact ⟨(g1, g7, g8, g9), M.fsub _ (by simp), (by repeat (first | exact trivial | refine ⟨rfl, ?_⟩))⟩
        · skip
          refine s_alloc (zBk) M al_bk ?_
          clear M
          rintro g1 W M
          refine ⟨trivial, ?_⟩
          refine s_mk32 M rfl rfl ?_
          clear M; rintro g7 W M
          refine ⟨trivial, ?_⟩
          refine p_build (vs := c21 g7 g8 g9) pl_bk z_bk rfl ?_
          exact ⟨(g1, g7, g8, g9), M.fsub _ (by simp), (by repeat (first | exact trivial | refine ⟨rfl, ?_⟩))⟩
      · skip
        refine s_alloc (zBk) M al_bk ?_
        clear M
        rintro g1 W M
        refine ⟨trivial, ?_⟩
        refine ⟨?_, ?_⟩
        · refine s_mk32 M rfl rfl ?_
          clear M; rintro g7 W M
          refine ⟨trivial, ?_⟩
          refine s_mk32 M rfl rfl ?_
          clear M; rintro g9 W M
          refine ⟨trivial, ?_⟩
          refine p_build (vs := c21 g7 g8 g9) pl_bk z_bk rfl ?_
          exact ⟨(g1, g7, g8, g9), M.fsub _ (by simp), (by repeat (first | exact trivial | refine ⟨rfl, ?_⟩))⟩
        · refine s_mk32 M rfl rfl ?_
          clear M; rintro g9 W M
          refine ⟨trivial, ?_⟩
          refine s_mk32 M rfl rfl ?_
          clear M; rintro g7 W M
          refine ⟨trivial, ?_⟩
          refine p_build (vs := c21 g7 g8 g9) pl_bk z_bk rfl ?_
          exact ⟨(g1, g7, g8, g9), M.fsub _ (by simp), (by repeat (first | exact trivial | refine ⟨rfl, ?_⟩))⟩
    · refine s_mk32 M rfl rfl ?_
      clear M; rintro g9 W M
      refine ⟨trivial, ?_⟩
      refine ⟨?_, ?_, ?_⟩
      · refine s_mk32 M rfl rfl ?_
        clear M; rintro g7 W M
        refine ⟨trivial, ?_⟩
        refine ⟨?_, ?_⟩
        · refine s_mk32 M rfl rfl ?_
          clear M; rintro g8 W M
          refine ⟨trivial, ?_⟩
          refine p_build (vs := c21 g7 g8 g9) pl_bk z_bk rfl ?_
          refine s_alloc (zBk) M al_bk ?_
          clear M
          rintro g1 W M
          refine ⟨trivial, ?_⟩
          exact ⟨(g1, g7, g8, g9), M.fsub _ (by simp), (by repeat (first | exact trivial | refine ⟨rfl, ?_⟩))⟩
        · skip
          refine s_alloc (zBk) M al_bk ?_
          clear M
          rintro g1 W M
          refine ⟨trivial, ?_⟩
          refine s_mk32 M rfl rfl ?_
          clear M; rintro g8 W M
          refine ⟨trivial, ?_⟩
          refine p_build (vs := c21 g7 g8 g9) pl_bk z_bk rfl ?_
          exact ⟨(g1, g7, g8, g9), M.fsub _ (by simp), (by repeat (first | exact trivial | refine ⟨rfl, ?_⟩))⟩
      · refine s_mk32 M rfl rfl ?_
        clear M; rintro g8 W M
        refine ⟨trivial, ?_⟩
        refine ⟨?_, ?_⟩
        · refine s_mk32 M rfl rfl ?_
          clear M; rintro g7 W M
          refine ⟨trivial, ?_⟩
          refine p_build (vs := c21 g7 g8 g9) pl_bk z_bk rfl ?_
          refine s_alloc (zBk) M al_bk ?_
          clear M
          rintro g1 W M
          refine ⟨trivial, ?_⟩
          exact ⟨(g1, g7, g8, g9), M.fsub _ (by simp), (by repeat (first | exact trivial | refine ⟨rfl, ?_⟩))⟩
        · skip
          refine s_alloc (zBk) M al_bk ?_
          clear M
          rintro g1 W M
          refine ⟨trivial, ?_⟩
          refine s_mk32 M rfl rfl ?_
          clear M; rintro g7 W M
          refine ⟨trivial, ?_⟩
          refine p_build (vs := c21 g7 g8 g9) pl_bk z_bk rfl ?_
          exact ⟨(g1, g7, g8, g9), M.fsub _ (by simp), (by repeat (first | exact trivial | refine ⟨rfl, ?_⟩))⟩
      · skip
        refine s_alloc (zBk) M al_bk ?_
        clear M
        rintro g1 W M
        refine ⟨trivial, ?_⟩
        refine ⟨?_, ?_⟩
        · refine s_mk32 M rfl rfl ?_
          clear M; rintro g7 W M
          refine ⟨trivial, ?_⟩
          refine s_mk32 M rfl rfl ?_
          clear M; rintro g8 W M
          refine ⟨trivial, ?_⟩
          refine p_build (vs := c21 g7 g8 g9) pl_bk z_bk rfl ?_
          exact ⟨(g1, g7, g8, g9), M.fsub _ (by simp), (by repeat (first | exact trivial | refine ⟨rfl, ?_⟩))⟩
        · refine s_mk32 M rfl rfl ?_
          clear M; rintro g8 W M
          refine ⟨trivial, ?_⟩
          refine s_mk32 M rfl rfl ?_
          clear M; rintro g7 W M
          refine ⟨trivial, ?_⟩
          refine p_build (vs := c21 g7 g8 g9) pl_bk z_bk rfl ?_
          exact ⟨(g1, g7, g8, g9), M.fsub _ (by simp), (by repeat (first | exact trivial | refine ⟨rfl, ?_⟩))⟩
    · skip
      refine s_alloc (zBk) M al_bk ?_
      clear M
      rintro g1 W M
      refine ⟨trivial, ?_⟩
      refine ⟨?_, ?_, ?_⟩
      · refine s_mk32 M rfl rfl ?_
        clear M; rintro g7 W M
        refine ⟨trivial, ?_⟩
        refine ⟨?_, ?_⟩
        · refine s_mk32 M rfl rfl ?_
          clear M; rintro g8 W M
          refine ⟨trivial, ?_⟩
          refine s_mk32 M rfl rfl ?_
          clear M; rintro g9 W M
          refine ⟨trivial, ?_⟩
          refine p_build (vs := c21 g7 g8 g9) pl_bk z_bk rfl ?_
          exact ⟨(g1, g7, g8, g9), M.fsub _ (by simp), (by repeat (first | exact trivial | refine ⟨rfl, ?_⟩))⟩
        · refine s_mk32 M rfl rfl ?_
          clear M; rintro g9 W M
          refine ⟨trivial, ?_⟩
          refine s_mk32 M rfl rfl ?_
          clear M; rintro g8 W M
          refine ⟨trivial, ?_⟩
          refine p_build (vs := c21 g7 g8 g9) pl_bk z_bk rfl ?_
          exact ⟨(g1, g7, g8, g9), M.fsub _ (by simp), (by repeat (first | exact trivial | refine ⟨rfl, ?_⟩))⟩
      · refine s_mk32 M rfl rfl ?_
        clear M; rintro g8 W M
        refine ⟨trivial, ?_⟩
        refine ⟨?_, ?_⟩
        · refine s_mk32 M rfl rfl ?_
          clear M; rintro g7 W M
          refine ⟨trivial, ?_⟩
          refine s_mk32 M rfl rfl ?_
          clear M; rintro g9 W M
          refine ⟨trivial, ?_⟩
          refine p_build (vs := c21 g7 g8 g9) pl_bk z_bk rfl ?_
          exact ⟨(g1, g7, g8, g9), M.fsub _ (by simp), (by repeat (first | exact trivial | refine ⟨rfl, ?_⟩))⟩
        · refine s_mk32 M rfl rfl ?_
          clear M; rintro g9 W M
          refine ⟨trivial, ?_⟩
          refine s_mk32 M rfl rfl ?_
          clear M; rintro g7 W M
          refine ⟨trivial, ?_⟩
          refine p_build (vs := c21 g7 g8 g9) pl_bk z_bk rfl ?_
          exact ⟨(g1, g7, g8, g9), M.fsub _ (by simp), (by repeat (first | exact trivial | refine ⟨rfl, ?_⟩))⟩
      · refine s_mk32 M rfl rfl ?_
        clear M; rintro g9 W M
        refine ⟨trivial, ?_⟩
        refine ⟨?_, ?_⟩
        · refine s_mk32 M rfl rfl ?_
          clear M; rintro g7 W M
          refine ⟨trivial, ?_⟩
          refine s_mk32 M rfl rfl ?_
          clear M; rintro g8 W M
          refine ⟨trivial, ?_⟩
          refine p_build (vs := c21 g7 g8 g9) pl_bk z_bk rfl ?_
          exact ⟨(g1, g7, g8, g9), M.fsub _ (by simp), (by repeat (first | exact trivial | refine ⟨rfl, ?_⟩))⟩
        · refine s_mk32 M rfl rfl ?_
          clear M; rintro g8 W M
          refine ⟨trivial, ?_⟩
          refine s_mk32 M rfl rfl ?_
          clear M; rintro g7 W M
          refine ⟨trivial, ?_⟩
          refine p_build (vs := c21 g7 g8 g9) pl_bk z_bk rfl ?_
          exact ⟨(g1, g7, g8, g9), M.fsub _ (by simp), (by repeat (first | exact trivial | refine ⟨rfl, ?_⟩))⟩
  clear M
  rintro ⟨g1, p⟩ E W M
  dsimp only at M
  refine v_loadN (bkcs a21 p) agg_bk rfl rfl (M.run 0 rfl) ?_
  refine s_alloc (zBk) M al_bk ?_
  clear M
  rintro g2 W M
  refine s_storeA 0 (bkcs a21 p) M rfl sz_bk rfl rfl rfl (all1 rfl) rfl ?_
  clear M; rintro W M
  dsimp only [setL] at M
  refine p_fld fB0 rfl ?_
  refine s_set 0 (off := 0) (.int .i64 1) [.int .i64 1, .slice p.A1 32 p.c1, .slice p.A2 32 p.c2, .slice p.A3 32 p.c3, .slice p.A4 0 p.c4, .slice p.A5 0 p.c5, .slice p.A6 0 p.c6] M rfl sz_int rfl rfl rfl (Nat.le_of_ble_eq_true rfl) rfl ?_
  clear M; rintro W M
  dsimp only [setL] at M
  refine v_loadN (bkcs a21 p) agg_bk rfl rfl (M.run 1 rfl) ?_
  refine cc is_bHashL (bHash_any a21 _ _ _ (M.glB hG) (M.da 0 rfl) M.olt a21_ok.1) ?_
  rintro e W ⟨A14, n14, c14, rfl, o14, -, -, -, hbw⟩
  have en14 : (hashBk a21).length = n14 := o14.len
  subst en14
  replace M := M.callO hbw o14
  clear hbw o14
  refine ⟨_, rfl, ?_⟩
  refine p_fld fB1 rfl ?_
  refine s_set 0 (off := 1) (.slice A14 (hashBk a21).length c14) (bkcs b21 ⟨A14, c14, p.A2, p.c2, p.A3, p.c3, p.A4, p.c4, p.A5, p.c5, p.A6, p.c6⟩) M rfl sz_slK rfl rfl rfl (Nat.le_of_ble_eq_true rfl) rfl ?_
  clear M; rintro W M
  dsimp only [setL] at M
  obtain ⟨r, hr⟩ : ∃ r : Bp, r = ⟨A14, c14, p.A2, p.c2, p.A3, p.c3, p.A4, p.c4, p.A5, p.c5, p.A6, p.c6⟩ := ⟨_, rfl⟩
  rw [← hr] at M
  have hbd : RdL W (Fd W (own [(g2, 26, bkcs b21 r), (g1, 26, bkcs a21 p)] [] gs)) (dBk b21) (bkcs b21 r) := by
    obtain ⟨p', hp', k1, k2, k3, k4, k5, k6⟩ := (M.da 1 rfl).bk
    have e : p' = p := by
      unfold bkcs at hp'
      simp only [List.cons.injEq, Value.slice.injEq, and_true, true_and] at hp'
      obtain ⟨⟨q1, q2⟩, ⟨q3, q4⟩, ⟨q5, q6⟩, ⟨q7, q8⟩, ⟨q9, q10⟩, ⟨q11, q12⟩⟩ := hp'
      cases p; cases p'; simp only at q1 q2 q3 q4 q5 q6 q7 q8 q9 q10 q11 q12
      rw [q1, q2, q3, q4, q5, q6, q7, q8, q9, q10, q11, q12]
    subst e
    rw [hr]
    exact RdL.ofbk (M.d1 0 rfl) k2 k3 k4 k5 k6
  replace M := (M.addL hbd).fsub [.dat false (dBk b21) (bkcs b21 r), .dat false (dBk a21) (bkcs a21 p)] (by simp)
  clear hbd
  refine v_loadN (bkcs a21 p) agg_bk rfl rfl (M.run 1 rfl) ?_
  refine cc is_bEncK (bEnc_any a21 _ _ _ (M.da 1 rfl) M.olt a21_ok.1) ?_
  rintro e W ⟨A3, n3, c3, rfl, o3, hbw⟩
  rw [a21_ok.2.1] at o3 ⊢
  have en3 : (blockB a21).length = n3 := o3.len
  subst en3
  replace M := M.callO hbw o3
  clear hbw o3
  refine ⟨_, rfl, ?_⟩
  refine cc is_bDecK (bDec_any (blockB a21) _ _ _ _ _ (M.d1 0 rfl) M.olt (Nat.le_trans a21_ok.2.2 (by decide))) ?_
  rintro e W ⟨q, rfl, hq, hbw⟩
  rw [a21_dec] at hq ⊢
  replace M := (M.call hbw).addL hq
  clear hq hbw
  refine ⟨_, rfl, ?_⟩
  refine s_alloc (zBk) M al_bk ?_
  clear M
  rintro g5 W M
  refine s_storeA 0 (bkcs a21 q) M rfl sz_bk rfl rfl rfl (all1 rfl) rfl ?_
  clear M; rintro W M
  dsimp only [setL] at M
  refine v_loadN (bkcs a21 p) agg_bk rfl rfl (M.run 2 rfl) ?_
  refine cc is_bHashL (bHash_any a21 _ _ _ (M.glB hG) (M.da 3 rfl) M.olt a21_ok.1) ?_
  rintro e W ⟨A27, n27, c27, rfl, o27, -, -, hn27, hbw⟩
  have en27 : n27 = 32 := hn27 (by rw [a21_ok.2.1])
  subst en27
  replace M := M.call hbw
  clear hbw o27
  refine ⟨_, rfl, ?_⟩
  refine p_len slb rfl ?_
  refine p_eq rfl rfl (fun _ => ?_) (fun h => absurd rfl h)
  have hFab : ∀ b ∈ [a21, b21], FitsB b := fun b hb => by
    rcases List.mem_cons.1 hb with rfl | hb
    · exact a21_ok.1
    · rw [List.mem_singleton.1 hb]; exact b21_ok.1
  have hFba : ∀ b ∈ [b21, a21], FitsB b := fun b hb => by
    rcases List.mem_cons.1 hb with rfl | hb
    · exact b21_ok.1
    · rw [List.mem_singleton.1 hb]; exact a21_ok.1
  refine v_loadN (bkcs a21 p) agg_bk rfl rfl (M.run 2 rfl) ?_
  refine v_loadN (bkcs b21 r) agg_bk rfl rfl (M.run 1 rfl) ?_
  refine s_bslice (fr := false) (ds := dBk a21 ++ dBk b21) (bkcs a21 p ++ bkcs b21 r) M slbks z_bk rfl (by decide) rfl ((M.dw 3 rfl).app (M.dw 2 rfl)) rfl ?_
  clear M; rintro gq W M
  rw [two_bks] at M
  refine cc is_bLinksK (bLinks_any [a21, b21] _ _ _ _ _ (M.glB hG) (M.d1 0 rfl) M.olt hFab (by decide)) ?_
  rintro e W ⟨k, rfl, hk, hbw⟩
  have hk := link_inj hk link_ab
  subst hk
  replace M := (M.call hbw).fsub [.dat false (dBk a21) (bkcs a21 q), .dat true [dB (blockB a21)] [.slice A3 (blockB a21).length c3], .dat false (dBk b21) (bkcs b21 r), .dat false (dBk a21) (bkcs a21 p)] (by simp)
  clear hbw
  refine ⟨_, rfl, ?_⟩
  refine p_eq rfl rfl (fun _ => ?_) (fun h => absurd rfl h)
  refine v_loadN (bkcs b21 r) agg_bk rfl rfl (M.run 1 rfl) ?_
  refine v_loadN (bkcs a21 p) agg_bk rfl rfl (M.run 2 rfl) ?_
  refine s_bslice (fr := false) (ds := dBk b21 ++ dBk a21) (bkcs b21 r ++ bkcs a21 p) M slbks z_bk rfl (by decide) rfl ((M.dw 2 rfl).app (M.dw 3 rfl)) rfl ?_
  clear M; rintro gq W M
  rw [two_bks] at M
  refine cc is_bLinksK (bLinks_any [b21, a21] _ _ _ _ _ (M.glB hG) (M.d1 0 rfl) M.olt hFba (by decide)) ?_
  rintro e W ⟨k, rfl, hk, hbw⟩
  have hk := link_inj hk link_ba
  subst hk
  replace M := (M.call hbw).fsub [.dat false (dBk a21) (bkcs a21 q), .dat true [dB (blockB a21)] [.slice A3 (blockB a21).length c3], .dat false (dBk b21) (bkcs b21 r), .dat false (dBk a21) (bkcs a21 p)] (by simp)
  clear hbw
  refine ⟨_, rfl, ?_⟩
  refine p_eq rfl rfl (fun _ => ?_) (fun h => absurd rfl h)
  refine p_eq rfl rfl (fun _ => ?_) (fun h => absurd rfl h)
  refine p_eq rfl rfl (fun _ => ?_) (fun h => absurd rfl h)
  refine v_loadN (bkcs a21 q) agg_bk rfl rfl (M.run 0 rfl) ?_
  refine v_loadN (bkcs a21 p) agg_bk rfl rfl (M.run 2 rfl) ?_
  refine cc is_r21SameK (r21Same_any a21 a21 _ _ _ _ (M.da 0 rfl) (M.da 3 rfl) M.olt (lenB_of a21_ok.1) (lenB_of a21_ok.1)) ?_
  rintro e W ⟨z, rfl, hz, hbw⟩
  have hz := hz.2 rfl
  subst hz
  replace M := M.call hbw
  clear hbw
  refine ⟨_, rfl, ?_⟩
  refine p_build (vs := zBk) pl_bk z_bk rfl ?_
  refine cc is_bCheckK (bcheck_any bkZ _ _ _ (rd_z _ _) M.olt fits_z) ?_
  rintro e W ⟨rfl, hbw⟩
  replace M := M.call hbw
  clear hbw
  rw [chk_z]
  refine ⟨_, rfl, ?_⟩
  refine p_eq rfl rfl (fun _ => ?_) (fun h => absurd rfl h)
  refine v_loadN (bkcs a21 p) agg_bk rfl rfl (M.run 2 rfl) ?_
  refine v_loadN (bkcs a21 p) agg_bk rfl rfl (M.run 2 rfl) ?_
  refine cc is_bSameK (bSame_any a21 a21 _ _ _ _ (M.da 3 rfl) (M.da 3 rfl) M.olt (lenB_of a21_ok.1)) ?_
  rintro e W ⟨z, rfl, hz, hbw⟩
  have hz := hz.2 rfl
  subst hz
  replace M := M.call hbw
  clear hbw
  refine ⟨_, rfl, ?_⟩
  refine v_loadN (bkcs a21 p) agg_bk rfl rfl (M.run 2 rfl) ?_
  refine v_loadN (bkcs b21 r) agg_bk rfl rfl (M.run 1 rfl) ?_
  refine cc is_bSameK (bSame_any a21 b21 _ _ _ _ (M.da 3 rfl) (M.da 2 rfl) M.olt (lenB_of a21_ok.1)) ?_
  rintro e W ⟨z, rfl, hz, hbw⟩
  have hz : z = false := by
    cases z with
    | false => rfl
    | true => exact absurd (hz.1 rfl) ab_ne
  subst hz
  replace M := M.call hbw
  clear hbw
  refine ⟨_, rfl, ?_⟩
  refine p_not rfl ?_
  exact ⟨rfl, M.below⟩
end Go.Proofs.YtejbljopighenaaDoor
namespace Go.Proofs.YtejbljopighenaaDoor
open Go.RowKit

theorem u_inyB : Tryd.prog.underlying 3 = some (.int .i64) := by kernel_rfl
theorem tmodNB (a b : Nat) : ((a : Nat) : Int).tmod (b : Nat) = ((a % b : Nat) : Int) := by rw [Int.tmod_eq_emod_of_nonneg (by omega)]; omega
end Go.Proofs.YtejbljopighenaaDoor
namespace Go.Proofs.YtejbljopighenaaDoor
open Go.RowKit

theorem is_copy21 : isFn Tryd.prog 22 = true := by kernel_rfl
end Go.Proofs.YtejbljopighenaaDoor
namespace Go.Proofs.YtejbljopighenaaDoor
open Go.RowKit
theorem sz_u8 : (Tryd.prog.info? 5).map (·.size) = some 1 := by kernel_rfl
/-- A row that is written at one place. -/
theorem St.wroteR {w W W' : World} {gs : List (Option Nat)} {L : Lc} {R : List Row} {fs : List Fact} {e : TypeId} {s n c : Nat} {A : Option Addr} {xs xs' : List Value} (M : St w gs W L (⟨e, s, A, n, c, xs⟩ :: R) fs) (hg : W.grownBy W' (bk A)) (hrow' : W'.ownsRow w.heap.size e s (.slice A n c) n xs') : St w gs W' L (⟨e, s, A, n, c, xs'⟩ :: R) fs := by
  have hrow := M.row _ (List.mem_cons_self ..)
  have hlo := row_bklo hrow
  have hp := List.Perm.pairwise (l' := bk A :: (L.map (fun x => some x.1) ++ R.map (fun r => bk r.A))) (by rw [List.map_cons]; exact List.perm_middle) M.ap (fun h => apart_comm h)
  rw [List.pairwise_cons] at hp
  have kept : ∀ o : Option Nat, o ∈ L.map (fun x => some x.1) ++ R.map (fun r => bk r.A) → o = none ∨ o ≠ bk A := fun o ho => apart_comm (hp.1 o ho)
  refine ⟨M.below.grown hg M.size (fun b e => (hlo b e).1), M.lt, fun y hy => ⟨(M.blk y hy).1.grown hg ?_, (M.blk y hy).2⟩, fun r hr => ?_, M.ap, fun f hf => (M.fct f hf).up (Stp.wrote hg ?_)⟩
  · rcases kept (some y.1) (List.mem_append_left _ (List.mem_map.2 ⟨y, hy, rfl⟩)) with h | h
    · cases h
    · exact fun e => h e.symm
  · rcases List.mem_cons.1 hr with rfl | hr
    · exact hrow'
    · exact row_kept' (M.row r (by simp [hr])) hg (kept _ (List.mem_append_right _ (List.mem_map.2 ⟨r, hr, rfl⟩)))
  · unfold own
    exact List.mem_append_right _ (List.mem_append_left _ (List.mem_map.2 ⟨_, List.mem_cons_self .., rfl⟩))
theorem s_setRow {E : Env} {d : Option Nat} {ty : TypeId} {p : String} {af : Array Edge} {gd : Option (Nat × Bool)} {x y : Operand} {kw : Value → World → Prop} {w W : World} {gs : List (Option Nat)} {L : Lc} {R : List Row} {fs : List Fact} {g n c : Nat} {l : List UInt8} (j : Nat) (v : Int) (M : St w gs W L (⟨5, 1, some ⟨g, 0, none⟩, n, c, bvs l⟩ :: R) fs) (hx : val E x = .pointer (some ⟨g, j, none⟩)) (hy : val E y = .int .u8 v) (hj : j < n) (hv : 0 ≤ v ∧ v ≤ 255)
    (h : ∀ W', St w gs W' L (⟨5, 1, some ⟨g, 0, none⟩, n, c, bvs (l.set j (b8 v))⟩ :: R) fs → kw undef W') : VSkip Tryd.prog E { dst := d, op := .store 5 x y, type := ty, pos := p, after := af, guard := gd } W kw := by
  have hrow : Own W w.heap.size (some ⟨g, 0, none⟩) n c l := M.row _ (List.mem_cons_self ..)
  refine v_store sz_u8 hx hy rfl (hrow.cell hj) (hrow.free j) (h _ (M.wroteR ⟨rfl, rfl, rfl, by simp, fun k _ hk => Below.heap_setCell _ _ _ _ (fun e => hk (by rw [e]; rfl))⟩ (hrow.set hv.1 hv.2)))
theorem row_addr {w W : World} {gs : List (Option Nat)} {L : Lc} {R : List Row} {fs : List Fact} {e : TypeId} {s n c : Nat} {A : Option Addr} {xs : List Value} (M : St w gs W L (⟨e, s, A, n, c, xs⟩ :: R) fs) (hn : 0 < n) : ∃ g, A = some ⟨g, 0, none⟩ := by
  rcases (M.row _ (List.mem_cons_self ..)).2 with ⟨hv, h0⟩ | ⟨g, cap, cur, hv, _⟩
  · simp only at h0; omega
  · injection hv with e1 e2 e3
    exact ⟨g, e1⟩
end Go.Proofs.YtejbljopighenaaDoor
