/- law21: known. The walk of the law BlockWrites. The walk of the law BlockLinks. The walk of the law BlockBack. What the rows' list of package variables gives: the tables of digest. -/
import Derived.Test.YtejbljopighenaaDoorG15
import Derived.Test.YtejbljopighenaaDoorG01
import Derived.Test.YtejbljopighenaaDoorG13
import Derived.Test.YtejbljopighenaaDoorRows
import Derived.Lib.LaidTab
import Derived.MakeChecks
namespace Go.Proofs.YtejbljopighenaaDoor
open Go.RowKit
theorem is_kn21 : isFn Tryd.prog 8 = true := by kernel_rfl
theorem is_bDecK : isFn Tryd.prog 11 = true := by kernel_rfl
theorem is_bSameK : isFn Tryd.prog 21 = true := by kernel_rfl
theorem is_r21SameK : isFn Tryd.prog 18 = true := by kernel_rfl
theorem is_bLinksK : isFn Tryd.prog 19 = true := by kernel_rfl
theorem is_bEncK : isFn Tryd.prog 9 = true := by kernel_rfl
theorem is_bCheckK : isFn Tryd.prog 14 = true := by kernel_rfl
def z32 : List UInt8 := List.replicate 32 0
def a21 : Bk := ⟨0, z32, z32, z32, [], [], []⟩
def b21 : Bk := ⟨1, hashBk a21, z32, z32, [], [], []⟩
theorem z32_len : z32.length = 32 := by decide
/-- A block with nothing in it is one. -/
theorem bare_ok {b : Bk} (h0 : 0 ≤ b.num) (hn : b.num ≤ 9223372036854775807) (h1 : b.last.length = 32) (h2 : b.prev.length = 32) (h3 : b.next.length = 32) (ht : b.txs = []) (ho : b.outs = []) (hp : b.proof = []) : FitsB b ∧ encBk b = (blockB b, 0) ∧ (blockB b).length ≤ 100000 := by
  have hw : WfB b := ⟨by omega, hn, fun o h => by rw [ho] at h; cases h⟩
  have hr : rightBk b = true := right_iff.2 ⟨⟨h0, h1, h2, h3, by rw [ht]; decide, by rw [ht, ho]; rfl⟩, (fun t h => by rw [ht] at h; cases h), fun o h => by rw [ho] at h; cases h⟩
  have hb : bigN b = 0 := by unfold bigN baseN; rw [ht, ho, hp]; rfl
  have hl := block_sm hw hr (by omega)
  exact ⟨fits_bare hn (by omega) (by omega) (by omega) ht ho hp, encBk_0 hr (by omega), hl⟩
theorem a21_ok : FitsB a21 ∧ encBk a21 = (blockB a21, 0) ∧ (blockB a21).length ≤ 100000 := bare_ok (by decide) (by decide) z32_len z32_len z32_len rfl rfl rfl
theorem sha_len32 (b : List UInt8) : (sha b).length = 32 := by rw [sha_def]; unfold out8 put4; rfl
theorem hash_len {b : Bk} (h : (encBk b).2 = 0) : (hashBk b).length = 32 := by unfold hashBk; rw [if_pos h, sha_len32]
theorem a21_hash : (hashBk a21).length = 32 := hash_len (by rw [a21_ok.2.1])
theorem b21_ok : FitsB b21 ∧ encBk b21 = (blockB b21, 0) ∧ (blockB b21).length ≤ 100000 := bare_ok (by decide) (by decide) a21_hash z32_len z32_len rfl rfl rfl
theorem a21_dec : decBk (blockB a21) = (a21, 0) := dec_encBk a21_ok.2.1 a21_ok.1
theorem link_ab : LinkN [a21, b21] 2 := by
  refine ⟨Nat.le_refl _, fun i hi => ?_, fun h => absurd h (Nat.lt_irrefl _)⟩
  have : i = 0 ∨ i = 1 := by omega
  rcases this with rfl | rfl
  · exact ⟨a21, rfl, by rw [a21_ok.2.1], fun a h => absurd h (Nat.lt_irrefl _)⟩
  · refine ⟨b21, rfl, by rw [b21_ok.2.1], fun a _ ha => ?_⟩
    have ha : some a21 = some a := ha
    injection ha with ha
    subst ha
    exact ⟨rfl, rfl, rfl⟩
theorem link_ba : LinkN [b21, a21] 1 := by
  refine ⟨by decide, fun i hi => ?_, fun _ => ?_⟩
  · have : i = 0 := by omega
    subst this
    exact ⟨b21, rfl, by rw [b21_ok.2.1], fun a h => absurd h (Nat.lt_irrefl _)⟩
  · rintro ⟨b, hb, -, h⟩
    have hb : some a21 = some b := hb
    injection hb with hb
    subst hb
    have := (h b21 (by decide) rfl).1
    exact absurd this (by decide)
theorem chk_z : checkBk bkZ = 2 := by decide +kernel
theorem fits_z : FitsB bkZ := fits_bare (by decide) (by decide) (by decide) (by decide) rfl rfl rfl
theorem ab_ne : a21 ≠ b21 := fun h => absurd (congrArg Bk.num h) (by decide)
theorem s_mk32 {E : Env} {d : Option Nat} {ty : TypeId} {p : String} {af : Array Edge} {gd : Option (Nat × Bool)} {l c : Operand} {kw : Value → World → Prop} {w W : World} {gs : List (Option Nat)} {L : Lc} {R : List Row} {fs : List Fact} (M : St w gs W L R fs) (hl : val E l = .int .i64 ((32 : Nat) : Int)) (hc : val E c = .int .i64 ((32 : Nat) : Int))
    (h : ∀ g W', St w gs W' L R (.dat true [dB z32] [.slice (some ⟨g, 0, none⟩) 32 32] :: fs) → kw (.slice (some ⟨g, 0, none⟩) 32 32) W') :
    VVal Tryd.prog E { dst := d, op := .makeSlice 22 l c, type := ty, pos := p, after := af, guard := gd } W kw := s_mkBy 32 (by decide) M hl hc h
theorem sz_slK : (Tryd.prog.info? 22).map (·.size) = some 1 := by kernel_rfl
theorem rd_z (W : World) (F : Nat → Prop) : RdL W F (dBk bkZ) zBk := RdL.ofbk (b := bkZ) (p := ⟨none, 0, none, 0, none, 0, none, 0, none, 0, none, 0⟩) (RdD.nil_ (s := 1) none 0) (RdD.nil_ (s := 1) none 0) (RdD.nil_ (s := 1) none 0) (RdD.nil_ none 0) (RdD.nil_ none 0) (RdD.nil_ (s := 1) none 0)
theorem two_bks (a b : Bk) : D.sl 7 2 (dBk a ++ dBk b) = dBks [a, b] := rfl
def c21 (g7 g8 g9 : Nat) : List Value := [.int .i64 0, .slice (some ⟨g7, 0, none⟩) 32 32, .slice (some ⟨g8, 0, none⟩) 32 32, .slice (some ⟨g9, 0, none⟩) 32 32, .slice none 0 0, .slice none 0 0, .slice none 0 0]
set_option maxRecDepth 100000 in
set_option maxHeartbeats 8000000 in
theorem known21_any (gs : List (Option Nat)) (w : World) (hG : GL w gs) (hgs : ∀ b, some b ∈ gs → b < w.heap.size) : Calls Tryd.prog 8 #[] w fun e w' => e = .returned (.bool true) ∧ Below w.heap.size w w' := by
  refine calls_ev (args := []) mixed Tryd.func8 rfl (by kernel_rfl) ?_
  have M := (St.start hgs).drew
  refine cutV (Nat × Bp) (fun z W => St w gs W [(z.1, 26, bkcs a21 z.2)] [] [.dat false (dBk a21) (bkcs a21 z.2)]) (fun z => [(1, .pointer (some ⟨z.1, 0, none⟩))]) ?_ ?_
  · refine drT (fun _ => True) (Sch.graft (.four 0 (.three 1 (.two 2 (.take 3 (.one 4 (.nil))) 4 (.one 2 (.take 3 (.nil)))) 2 (.two 1 (.take 3 (.one 4 (.nil))) 4 (.one 1 (.take 3 (.nil)))) 4 (.two 1 (.one 2 (.take 3 (.nil))) 2 (.one 1 (.take 3 (.nil))))) 1 (.three 0 (.two 2 (.take 3 (.one 4 (.nil))) 4 (.one 2 (.take 3 (.nil)))) 2 (.two 0 (.take 3 (.one 4 (.nil))) 4 (.one 0 (.take 3 (.nil)))) 4 (.two 0 (.one 2 (.take 3 (.nil))) 2 (.one 0 (.take 3 (.nil))))) 2 (.three 0 (.two 1 (.take 3 (.one 4 (.nil))) 4 (.one 1 (.take 3 (.nil)))) 1 (.two 0 (.take 3 (.one 4 (.nil))) 4 (.one 0 (.take 3 (.nil)))) 4 (.two 0 (.one 1 (.take 3 (.nil))) 1 (.one 0 (.take 3 (.nil))))) 4 (.three 0 (.two 1 (.one 2 (.take 3 (.nil))) 2 (.one 1 (.take 3 (.nil)))) 1 (.two 0 (.one 2 (.take 3 (.nil))) 2 (.one 0 (.take 3 (.nil)))) 2 (.two 0 (.one 1 (.take 3 (.nil))) 1 (.one 0 (.take 3 (.nil)))))) (.one 5 .nil)) (by kernel_rfl) trivial ?_
    refine cutT (Nat × Nat × Nat × Nat) (fun z W => St w gs W [(z.1, 26, zBk)] [] [.dat true [dB z32] [.slice (some ⟨z.2.1, 0, none⟩) 32 32], .dat true [dB z32] [.slice (some ⟨z.2.2.1, 0, none⟩) 32 32], .dat true [dB z32] [.slice (some ⟨z.2.2.2, 0, none⟩) 32 32]])
      (fun z => [(1, .pointer (some ⟨z.1, 0, none⟩)), (10, .agg (c21 z.2.1 z.2.2.1 z.2.2.2).toArray)]) ?_ ?_
    rotate_left
    · rintro ⟨g1, g7, g8, g9⟩ E W M
      dsimp only at M
      refine s_storeA 0 (c21 g7 g8 g9) M rfl sz_bk rfl rfl rfl (all1 rfl) rfl ?_
      clear M; rintro W M
      dsimp only [setL] at M
      refine ⟨trivial, ?_⟩
      have hrd : RdL W (Fd W (own [(g1, 26, c21 g7 g8 g9)] [] gs)) (dBk a21) (bkcs a21 ⟨some ⟨g7, 0, none⟩, 32, some ⟨g8, 0, none⟩, 32, some ⟨g9, 0, none⟩, 32, none, 0, none, 0, none, 0⟩) := RdL.ofbk (M.d1 0 rfl) (M.d1 1 rfl) (M.d1 2 rfl) (RdD.nil_ none 0) (RdD.nil_ none 0) (RdD.nil_ (s := 1) none 0)
      exact ⟨(g1, ⟨some ⟨g7, 0, none⟩, 32, some ⟨g8, 0, none⟩, 32, some ⟨g9, 0, none⟩, 32, none, 0, none, 0, none, 0⟩), (M.addL hrd).fsub _ (by simp), (by repeat (first | exact trivial | refine ⟨rfl, ?_⟩))⟩
    refine ⟨?_, ?_, ?_, ?_⟩
    · refine s_mk32 M rfl rfl ?_
      clear M; rintro g7 W M
      refine ⟨trivial, ?_⟩
      refine ⟨?_, ?_, ?_⟩
      · refine s_mk32 M rfl rfl ?_
        clear M; rintro g8 W M
        refine ⟨trivial, ?_⟩
        refine ⟨?_, ?_⟩
        · refine s_mk32 M rfl rfl ?_
          clear M; rintro g9 W M
          refine ⟨trivial, ?_⟩
          refine p_build (vs := c21 g7 g8 g9) pl_bk z_bk rfl ?_
          refine s_alloc (zBk) M al_bk ?_
          clear M
          rintro g1 W M
          refine ⟨trivial, ?_⟩
          exact ⟨(g1, g7, g8, g9), M.fsub _ (by simp), (by repeat (first | exact trivial | refine ⟨rfl, ?_⟩))⟩
        · skip
          refine s_alloc (zBk) M al_bk ?_
          clear M
          rintro g1 W M
          refine ⟨trivial, ?_⟩
          refine s_mk32 M rfl rfl ?_
          clear M; rintro g9 W M
          refine ⟨trivial, ?_⟩
          refine p_build (vs := c21 g7 g8 g9) pl_bk z_bk rfl ?_
          exact ⟨(g1, g7, g8, g9), M.fsub _ (by simp), (by repeat (first | exact trivial | refine ⟨rfl, ?_⟩))⟩
      · refine s_mk32 M rfl rfl ?_
        clear M; rintro g9 W M
        refine ⟨trivial, ?_⟩
        refine ⟨?_, ?_⟩
        · refine s_mk32 M rfl rfl ?_
          clear M; rintro g8 W M
          refine ⟨trivial, ?_⟩
          refine p_build (vs := c21 g7 g8 g9) pl_bk z_bk rfl ?_
          refine s_alloc (zBk) M al_bk ?_
          clear M
          rintro g1 W M
          refine ⟨trivial, ?_⟩
          exact ⟨(g1, g7, g8, g9), M.fsub _ (by simp), (by repeat (first | exact trivial | refine ⟨rfl, ?_⟩))⟩
        · skip
          refine s_alloc (zBk) M al_bk ?_
          clear M
          rintro g1 W M
          refine ⟨trivial, ?_⟩
          refine s_mk32 M rfl rfl ?_
          clear M; rintro g8 W M
          refine ⟨trivial, ?_⟩
          refine p_build (vs := c21 g7 g8 g9) pl_bk z_bk rfl ?_
          exact ⟨(g1, g7, g8, g9), M.fsub _ (by simp), (by repeat (first | exact trivial | refine ⟨rfl, ?_⟩))⟩
      · skip
        refine s_alloc (zBk) M al_bk ?_
        clear M
        rintro g1 W M
        refine ⟨trivial, ?_⟩
        refine ⟨?_, ?_⟩
        · refine s_mk32 M rfl rfl ?_
          clear M; rintro g8 W M
          refine ⟨trivial, ?_⟩
          refine s_mk32 M rfl rfl ?_
          clear M; rintro g9 W M
          refine ⟨trivial, ?_⟩
          refine p_build (vs := c21 g7 g8 g9) pl_bk z_bk rfl ?_
          exact ⟨(g1, g7, g8, g9), M.fsub _ (by simp), (by repeat (first | exact trivial | refine ⟨rfl, ?_⟩))⟩
        · refine s_mk32 M rfl rfl ?_
          clear M; rintro g9 W M
          refine ⟨trivial, ?_⟩
          refine s_mk32 M rfl rfl ?_
          clear M; rintro g8 W M
          refine ⟨trivial, ?_⟩
          refine p_build (vs := c21 g7 g8 g9) pl_bk z_bk rfl ?_
          exact ⟨(g1, g7, g8, g9), M.fsub _ (by simp), (by repeat (first | exact trivial | refine ⟨rfl, ?_⟩))⟩
    · refine s_mk32 M rfl rfl ?_
      clear M; rintro g8 W M
      refine ⟨trivial, ?_⟩
      refine ⟨?_, ?_, ?_⟩
      · refine s_mk32 M rfl rfl ?_
        clear M; rintro g7 W M
        refine ⟨trivial, ?_⟩
        refine ⟨?_, ?_⟩
        · refine s_mk32 M rfl rfl ?_
          clear M; rintro g9 W M
          refine ⟨trivial, ?_⟩
          refine p_build (vs := c21 g7 g8 g9) pl_bk z_bk rfl ?_
          refine s_alloc (zBk) M al_bk ?_
          clear M
          rintro g1 W M
          refine ⟨trivial, ?_⟩
          exact ⟨(g1, g7, g8, g9), M.fsub _ (by simp), (by repeat (first | exact trivial | refine ⟨rfl, ?_⟩))⟩
        · skip
          refine s_alloc (zBk) M al_bk ?_
          clear M
          rintro g1 W M
          refine ⟨trivial, ?_⟩
          refine s_mk32 M rfl rfl ?_
          clear M; rintro g9 W M
          refine ⟨trivial, ?_⟩
          refine p_build (vs := c21 g7 g8 g9) pl_bk z_bk rfl ?_
          exact ⟨(g1, g7, g8, g9), M.fsub _ (by simp), (by repeat (first | exact trivial | refine ⟨rfl, ?_⟩))⟩
      · refine s_mk32 M rfl rfl ?_
        clear M; rintro g9 W M
        refine ⟨trivial, ?_⟩
        refine ⟨?_, ?_⟩
        · refine s_mk32 M rfl rfl ?_
          clear M; rintro g7 W M
          refine ⟨trivial, ?_⟩
          refine p_build (vs := c21 g7 g8 g9) pl_bk z_bk rfl ?_
          refine s_alloc (zBk) M al_bk ?_
          clear M
          rintro g1 W M
          refine ⟨trivial, ?_⟩
          exact ⟨(g1, g7, g8, g9), M.fsub _ (by simp), (by repeat (first | exact trivial | refine ⟨rfl, ?_⟩))⟩
        · skip
          refine s_alloc (zBk) M al_bk ?_
          clear M
          rintro g1 W M
          refine ⟨trivial, ?_⟩
          refine s_mk32 M rfl rfl ?_
          clear M; rintro g7 W M
          refine ⟨trivial, ?_⟩
          refine p_build (vs := c21 g7 g8 g9) pl_bk z_bk rfl ?_
          exact ⟨(g1, g7, g8, g9), M.fsub _ (by simp), (by repeat (first | exact trivial | refine ⟨rfl, ?_⟩))⟩
      · skip
        refine s_alloc (zBk) M al_bk ?_
        clear M
        rintro g1 W M
        refine ⟨trivial, ?_⟩
        refine ⟨?_, ?_⟩
        · refine s_mk32 M rfl rfl ?_
          clear M; rintro g7 W M
          refine ⟨trivial, ?_⟩
          refine s_mk32 M rfl rfl ?_
          clear M; rintro g9 W M
          refine ⟨trivial, ?_⟩
          refine p_build (vs := c21 g7 g8 g9) pl_bk z_bk rfl ?_
          exact ⟨(g1, g7, g8, g9), M.fsub _ (by simp), (by repeat (first | exact trivial | refine ⟨rfl, ?_⟩))⟩
        · refine s_mk32 M rfl rfl ?_
          clear M; rintro g9 W M
          refine ⟨trivial, ?_⟩
          refine s_mk32 M rfl rfl ?_
          clear M; rintro g7 W M
          refine ⟨trivial, ?_⟩
          refine p_build (vs := c21 g7 g8 g9) pl_bk z_bk rfl ?_
          exact ⟨(g1, g7, g8, g9), M.fsub _ (by simp), (by repeat (first | exact trivial | refine ⟨rfl, ?_⟩))⟩
    · refine s_mk32 M rfl rfl ?_
      clear M; rintro g9 W M
      refine ⟨trivial, ?_⟩
      refine ⟨?_, ?_, ?_⟩
      · refine s_mk32 M rfl rfl ?_
        clear M; rintro g7 W M
        refine ⟨trivial, ?_⟩
        refine ⟨?_, ?_⟩
        · refine s_mk32 M rfl rfl ?_
          clear M; rintro g8 W M
          refine ⟨trivial, ?_⟩
          refine p_build (vs := c21 g7 g8 g9) pl_bk z_bk rfl ?_
          refine s_alloc (zBk) M al_bk ?_
          clear M
          rintro g1 W M
          refine ⟨trivial, ?_⟩
          exact ⟨(g1, g7, g8, g9), M.fsub _ (by simp), (by repeat (first | exact trivial | refine ⟨rfl, ?_⟩))⟩
        · skip
          refine s_alloc (zBk) M al_bk ?_
          clear M
          rintro g1 W M
          refine ⟨trivial, ?_⟩
          refine s_mk32 M rfl rfl ?_
          clear M; rintro g8 W M
          refine ⟨trivial, ?_⟩
          refine p_build (vs := c21 g7 g8 g9) pl_bk z_bk rfl ?_
          exact ⟨(g1, g7, g8, g9), M.fsub _ (by simp), (by repeat (first | exact trivial | refine ⟨rfl, ?_⟩))⟩
      · refine s_mk32 M rfl rfl ?_
        clear M; rintro g8 W M
        refine ⟨trivial, ?_⟩
        refine ⟨?_, ?_⟩
        · refine s_mk32 M rfl rfl ?_
          clear M; rintro g7 W M
          refine ⟨trivial, ?_⟩
          refine p_build (vs := c21 g7 g8 g9) pl_bk z_bk rfl ?_
          refine s_alloc (zBk) M al_bk ?_
          clear M
          rintro g1 W M
          refine ⟨trivial, ?_⟩
          exact ⟨(g1, g7, g8, g9), M.fsub _ (by simp), (by repeat (first | exact trivial | refine ⟨rfl, ?_⟩))⟩
        · skip
          refine s_alloc (zBk) M al_bk ?_
          clear M
          rintro g1 W M
          refine ⟨trivial, ?_⟩
          refine s_mk32 M rfl rfl ?_
          clear M; rintro g7 W M
          refine ⟨trivial, ?_⟩
          refine p_build (vs := c21 g7 g8 g9) pl_bk z_bk rfl ?_
          exact ⟨(g1, g7, g8, g9), M.fsub _ (by simp), (by repeat (first | exact trivial | refine ⟨rfl, ?_⟩))⟩
      · skip
        refine s_alloc (zBk) M al_bk ?_
        clear M
        rintro g1 W M
        refine ⟨trivial, ?_⟩
        refine ⟨?_, ?_⟩
        · refine s_mk32 M rfl rfl ?_
          clear M; rintro g7 W M
          refine ⟨trivial, ?_⟩
          refine s_mk32 M rfl rfl ?_
          clear M; rintro g8 W M
          refine ⟨trivial, ?_⟩
          refine p_build (vs := c21 g7 g8 g9) pl_bk z_bk rfl ?_
          exact ⟨(g1, g7, g8, g9), M.fsub _ (by simp), (by repeat (first | exact trivial | refine ⟨rfl, ?_⟩))⟩
        · refine s_mk32 M rfl rfl ?_
          clear M; rintro g8 W M
          refine ⟨trivial, ?_⟩
          refine s_mk32 M rfl rfl ?_
          clear M; rintro g7 W M
          refine ⟨trivial, ?_⟩
          refine p_build (vs := c21 g7 g8 g9) pl_bk z_bk rfl ?_
          exact ⟨(g1, g7, g8, g9), M.fsub _ (by simp), (by repeat (first | exact trivial | refine ⟨rfl, ?_⟩))⟩
    · skip
      refine s_alloc (zBk) M al_bk ?_
      clear M
      rintro g1 W M
      refine ⟨trivial, ?_⟩
      refine ⟨?_, ?_, ?_⟩
      · refine s_mk32 M rfl rfl ?_
        clear M; rintro g7 W M
        refine ⟨trivial, ?_⟩
        refine ⟨?_, ?_⟩
        · refine s_mk32 M rfl rfl ?_
          clear M; rintro g8 W M
          refine ⟨trivial, ?_⟩
          refine s_mk32 M rfl rfl ?_
          clear M; rintro g9 W M
          refine ⟨trivial, ?_⟩
          refine p_build (vs := c21 g7 g8 g9) pl_bk z_bk rfl ?_
          exact ⟨(g1, g7, g8, g9), M.fsub _ (by simp), (by repeat (first | exact trivial | refine ⟨rfl, ?_⟩))⟩
        · refine s_mk32 M rfl rfl ?_
          clear M; rintro g9 W M
          refine ⟨trivial, ?_⟩
          refine s_mk32 M rfl rfl ?_
          clear M; rintro g8 W M
          refine ⟨trivial, ?_⟩
          refine p_build (vs := c21 g7 g8 g9) pl_bk z_bk rfl ?_
          exact ⟨(g1, g7, g8, g9), M.fsub _ (by simp), (by repeat (first | exact trivial | refine ⟨rfl, ?_⟩))⟩
      · refine s_mk32 M rfl rfl ?_
        clear M; rintro g8 W M
        refine ⟨trivial, ?_⟩
        refine ⟨?_, ?_⟩
        · refine s_mk32 M rfl rfl ?_
          clear M; rintro g7 W M
          refine ⟨trivial, ?_⟩
          refine s_mk32 M rfl rfl ?_
          clear M; rintro g9 W M
          refine ⟨trivial, ?_⟩
          refine p_build (vs := c21 g7 g8 g9) pl_bk z_bk rfl ?_
          exact ⟨(g1, g7, g8, g9), M.fsub _ (by simp), (by repeat (first | exact trivial | refine ⟨rfl, ?_⟩))⟩
        · refine s_mk32 M rfl rfl ?_
          clear M; rintro g9 W M
          refine ⟨trivial, ?_⟩
          refine s_mk32 M rfl rfl ?_
          clear M; rintro g7 W M
          refine ⟨trivial, ?_⟩
          refine p_build (vs := c21 g7 g8 g9) pl_bk z_bk rfl ?_
          exact ⟨(g1, g7, g8, g9), M.fsub _ (by simp), (by repeat (first | exact trivial | refine ⟨rfl, ?_⟩))⟩
      · refine s_mk32 M rfl rfl ?_
        clear M; rintro g9 W M
        refine ⟨trivial, ?_⟩
        refine ⟨?_, ?_⟩
        · refine s_mk32 M rfl rfl ?_
          clear M; rintro g7 W M
          refine ⟨trivial, ?_⟩
          refine s_mk32 M rfl rfl ?_
          clear M; rintro g8 W M
          refine ⟨trivial, ?_⟩
          refine p_build (vs := c21 g7 g8 g9) pl_bk z_bk rfl ?_
          exact ⟨(g1, g7, g8, g9), M.fsub _ (by simp), (by repeat (first | exact trivial | refine ⟨rfl, ?_⟩))⟩
        · refine s_mk32 M rfl rfl ?_
          clear M; rintro g8 W M
          refine ⟨trivial, ?_⟩
          refine s_mk32 M rfl rfl ?_
          clear M; rintro g7 W M
          refine ⟨trivial, ?_⟩
          refine p_build (vs := c21 g7 g8 g9) pl_bk z_bk rfl ?_
          exact ⟨(g1, g7, g8, g9), M.fsub _ (by simp), (by repeat (first | exact trivial | refine ⟨rfl, ?_⟩))⟩
  clear M
  rintro ⟨g1, p⟩ E W M
  dsimp only at M
  refine v_loadN (bkcs a21 p) agg_bk rfl rfl (M.run 0 rfl) ?_
  refine s_alloc (zBk) M al_bk ?_
  clear M
  rintro g2 W M
  refine s_storeA 0 (bkcs a21 p) M rfl sz_bk rfl rfl rfl (all1 rfl) rfl ?_
  clear M; rintro W M
  dsimp only [setL] at M
  refine p_fld fB0 rfl ?_
  refine s_set 0 (off := 0) (.int .i64 1) [.int .i64 1, .slice p.A1 32 p.c1, .slice p.A2 32 p.c2, .slice p.A3 32 p.c3, .slice p.A4 0 p.c4, .slice p.A5 0 p.c5, .slice p.A6 0 p.c6] M rfl sz_int rfl rfl rfl (Nat.le_of_ble_eq_true rfl) rfl ?_
  clear M; rintro W M
  dsimp only [setL] at M
  refine v_loadN (bkcs a21 p) agg_bk rfl rfl (M.run 1 rfl) ?_
  refine cc is_bHashL (bHash_any a21 _ _ _ (M.glB hG) (M.da 0 rfl) M.olt a21_ok.1) ?_
  rintro e W ⟨A14, n14, c14, rfl, o14, -, -, -, hbw⟩
  have en14 : (hashBk a21).length = n14 := o14.len
  subst en14
  replace M := M.callO hbw o14
  clear hbw o14
  refine ⟨_, rfl, ?_⟩
  refine p_fld fB1 rfl ?_
  refine s_set 0 (off := 1) (.slice A14 (hashBk a21).length c14) (bkcs b21 ⟨A14, c14, p.A2, p.c2, p.A3, p.c3, p.A4, p.c4, p.A5, p.c5, p.A6, p.c6⟩) M rfl sz_slK rfl rfl rfl (Nat.le_of_ble_eq_true rfl) rfl ?_
  clear M; rintro W M
  dsimp only [setL] at M
  obtain ⟨r, hr⟩ : ∃ r : Bp, r = ⟨A14, c14, p.A2, p.c2, p.A3, p.c3, p.A4, p.c4, p.A5, p.c5, p.A6, p.c6⟩ := ⟨_, rfl⟩
  rw [← hr] at M
  have hbd : RdL W (Fd W (own [(g2, 26, bkcs b21 r), (g1, 26, bkcs a21 p)] [] gs)) (dBk b21) (bkcs b21 r) := by
    obtain ⟨p', hp', k1, k2, k3, k4, k5, k6⟩ := (M.da 1 rfl).bk
    have e : p' = p := by
      unfold bkcs at hp'
      simp only [List.cons.injEq, Value.slice.injEq, and_true, true_and] at hp'
      obtain ⟨⟨q1, q2⟩, ⟨q3, q4⟩, ⟨q5, q6⟩, ⟨q7, q8⟩, ⟨q9, q10⟩, ⟨q11, q12⟩⟩ := hp'
      cases p; cases p'; simp only at q1 q2 q3 q4 q5 q6 q7 q8 q9 q10 q11 q12
      rw [q1, q2, q3, q4, q5, q6, q7, q8, q9, q10, q11, q12]
    subst e
    rw [hr]
    exact RdL.ofbk (M.d1 0 rfl) k2 k3 k4 k5 k6
  replace M := (M.addL hbd).fsub [.dat false (dBk b21) (bkcs b21 r), .dat false (dBk a21) (bkcs a21 p)] (by simp)
  clear hbd
  refine v_loadN (bkcs a21 p) agg_bk rfl rfl (M.run 1 rfl) ?_
  refine cc is_bEncK (bEnc_any a21 _ _ _ (M.da 1 rfl) M.olt a21_ok.1) ?_
  rintro e W ⟨A3, n3, c3, rfl, o3, hbw⟩
  rw [a21_ok.2.1] at o3 ⊢
  have en3 : (blockB a21).length = n3 := o3.len
  subst en3
  replace M := M.callO hbw o3
  clear hbw o3
  refine ⟨_, rfl, ?_⟩
  refine cc is_bDecK (bDec_any (blockB a21) _ _ _ _ _ (M.d1 0 rfl) M.olt (Nat.le_trans a21_ok.2.2 (by decide))) ?_
  rintro e W ⟨q, rfl, hq, hbw⟩
  rw [a21_dec] at hq ⊢
  replace M := (M.call hbw).addL hq
  clear hq hbw
  refine ⟨_, rfl, ?_⟩
  refine s_alloc (zBk) M al_bk ?_
  clear M
  rintro g5 W M
  refine s_storeA 0 (bkcs a21 q) M rfl sz_bk rfl rfl rfl (all1 rfl) rfl ?_
  clear M; rintro W M
  dsimp only [setL] at M
  refine v_loadN (bkcs a21 p) agg_bk rfl rfl (M.run 2 rfl) ?_
  refine cc is_bHashL (bHash_any a21 _ _ _ (M.glB hG) (M.da 3 rfl) M.olt a21_ok.1) ?_
  rintro e W ⟨A27, n27, c27, rfl, o27, -, -, hn27, hbw⟩
  have en27 : n27 = 32 := hn27 (by rw [a21_ok.2.1])
  subst en27
  replace M := M.call hbw
  clear hbw o27
  refine ⟨_, rfl, ?_⟩
  refine p_len slb rfl ?_
  refine p_eq rfl rfl (fun _ => ?_) (fun h => absurd rfl h)
  have hFab : ∀ b ∈ [a21, b21], FitsB b := fun b hb => by
    rcases List.mem_cons.1 hb with rfl | hb
    · exact a21_ok.1
    · rw [List.mem_singleton.1 hb]; exact b21_ok.1
  have hFba : ∀ b ∈ [b21, a21], FitsB b := fun b hb => by
    rcases List.mem_cons.1 hb with rfl | hb
    · exact b21_ok.1
    · rw [List.mem_singleton.1 hb]; exact a21_ok.1
  refine v_loadN (bkcs a21 p) agg_bk rfl rfl (M.run 2 rfl) ?_
  refine v_loadN (bkcs b21 r) agg_bk rfl rfl (M.run 1 rfl) ?_
  refine s_bslice (fr := false) (ds := dBk a21 ++ dBk b21) (bkcs a21 p ++ bkcs b21 r) M slbks z_bk rfl (by decide) rfl ((M.dw 3 rfl).app (M.dw 2 rfl)) rfl ?_
  clear M; rintro gq W M
  rw [two_bks] at M
  refine cc is_bLinksK (bLinks_any [a21, b21] _ _ _ _ _ (M.glB hG) (M.d1 0 rfl) M.olt hFab (by decide)) ?_
  rintro e W ⟨k, rfl, hk, hbw⟩
  have hk := link_inj hk link_ab
  subst hk
  replace M := (M.call hbw).fsub [.dat false (dBk a21) (bkcs a21 q), .dat true [dB (blockB a21)] [.slice A3 (blockB a21).length c3], .dat false (dBk b21) (bkcs b21 r), .dat false (dBk a21) (bkcs a21 p)] (by simp)
  clear hbw
  refine ⟨_, rfl, ?_⟩
  refine p_eq rfl rfl (fun _ => ?_) (fun h => absurd rfl h)
  refine v_loadN (bkcs b21 r) agg_bk rfl rfl (M.run 1 rfl) ?_
  refine v_loadN (bkcs a21 p) agg_bk rfl rfl (M.run 2 rfl) ?_
  refine s_bslice (fr := false) (ds := dBk b21 ++ dBk a21) (bkcs b21 r ++ bkcs a21 p) M slbks z_bk rfl (by decide) rfl ((M.dw 2 rfl).app (M.dw 3 rfl)) rfl ?_
  clear M; rintro gq W M
  rw [two_bks] at M
  refine cc is_bLinksK (bLinks_any [b21, a21] _ _ _ _ _ (M.glB hG) (M.d1 0 rfl) M.olt hFba (by decide)) ?_
  rintro e W ⟨k, rfl, hk, hbw⟩
  have hk := link_inj hk link_ba
  subst hk
  replace M := (M.call hbw).fsub [.dat false (dBk a21) (bkcs a21 q), .dat true [dB (blockB a21)] [.slice A3 (blockB a21).length c3], .dat false (dBk b21) (bkcs b21 r), .dat false (dBk a21) (bkcs a21 p)] (by simp)
  clear hbw
  refine ⟨_, rfl, ?_⟩
  refine p_eq rfl rfl (fun _ => ?_) (fun h => absurd rfl h)
  refine p_eq rfl rfl (fun _ => ?_) (fun h => absurd rfl h)
  refine p_eq rfl rfl (fun _ => ?_) (fun h => absurd rfl h)
  refine v_loadN (bkcs a21 q) agg_bk rfl rfl (M.run 0 rfl) ?_
  refine v_loadN (bkcs a21 p) agg_bk rfl rfl (M.run 2 rfl) ?_
  refine cc is_r21SameK (r21Same_any a21 a21 _ _ _ _ (M.da 0 rfl) (M.da 3 rfl) M.olt (lenB_of a21_ok.1) (lenB_of a21_ok.1)) ?_
  rintro e W ⟨z, rfl, hz, hbw⟩
  have hz := hz.2 rfl
  subst hz
  replace M := M.call hbw
  clear hbw
  refine ⟨_, rfl, ?_⟩
  refine p_build (vs := zBk) pl_bk z_bk rfl ?_
  refine cc is_bCheckK (bcheck_any bkZ _ _ _ (rd_z _ _) M.olt fits_z) ?_
  rintro e W ⟨rfl, hbw⟩
  replace M := M.call hbw
  clear hbw
  rw [chk_z]
  refine ⟨_, rfl, ?_⟩
  refine p_eq rfl rfl (fun _ => ?_) (fun h => absurd rfl h)
  refine v_loadN (bkcs a21 p) agg_bk rfl rfl (M.run 2 rfl) ?_
  refine v_loadN (bkcs a21 p) agg_bk rfl rfl (M.run 2 rfl) ?_
  refine cc is_bSameK (bSame_any a21 a21 _ _ _ _ (M.da 3 rfl) (M.da 3 rfl) M.olt (lenB_of a21_ok.1)) ?_
  rintro e W ⟨z, rfl, hz, hbw⟩
  have hz := hz.2 rfl
  subst hz
  replace M := M.call hbw
  clear hbw
  refine ⟨_, rfl, ?_⟩
  refine v_loadN (bkcs a21 p) agg_bk rfl rfl (M.run 2 rfl) ?_
  refine v_loadN (bkcs b21 r) agg_bk rfl rfl (M.run 1 rfl) ?_
  refine cc is_bSameK (bSame_any a21 b21 _ _ _ _ (M.da 3 rfl) (M.da 2 rfl) M.olt (lenB_of a21_ok.1)) ?_
  rintro e W ⟨z, rfl, hz, hbw⟩
  have hz : z = false := by
    cases z with
    | false => rfl
    | true => exact absurd (hz.1 rfl) ab_ne
  subst hz
  replace M := M.call hbw
  clear hbw
  refine ⟨_, rfl, ?_⟩
  refine p_not rfl ?_
  exact ⟨rfl, M.below⟩
end Go.Proofs.YtejbljopighenaaDoor
namespace Go.Proofs.YtejbljopighenaaDoor
open Go.RowKit
theorem decBk_fits {s : List UInt8} (hs : s.length ≤ 1000000) : FitsB (decBk s).1 := by
  unfold decBk
  split
  · exact fits_z
  · cases h : parseBk s with
    | none => exact fits_z
    | some b =>
      show FitsB (if encBk b = (s, 0) then (b, 0) else (bkZ, 11) : Bk × Int).1
      split
      · exact parse_fitsB h hs
      · exact fits_z

end Go.Proofs.YtejbljopighenaaDoor
namespace Go.Proofs.YtejbljopighenaaDoor
open Go.RowKit

theorem u_uixB : (Tryd.prog.underlying 46).isSome = true := by kernel_rfl
theorem u_uiyB : Tryd.prog.underlying 46 = some (.int .u64) := by kernel_rfl
theorem u_inxB : (Tryd.prog.underlying 3).isSome = true := by kernel_rfl
theorem u_inyB : Tryd.prog.underlying 3 = some (.int .i64) := by kernel_rfl
theorem tmodNB (a b : Nat) : ((a : Nat) : Int).tmod (b : Nat) = ((a % b : Nat) : Int) := by rw [Int.tmod_eq_emod_of_nonneg (by omega)]; omega
end Go.Proofs.YtejbljopighenaaDoor
namespace Go.Proofs.YtejbljopighenaaDoor
open Go.RowKit

theorem is_copy21 : isFn Tryd.prog 22 = true := by kernel_rfl
set_option maxRecDepth 100000 in
set_option maxHeartbeats 8000000 in
theorem blockBack_walk (w : World) (hG : GL w []) {b : Bk} {cs : List Value} (hr : RdL w (Fd w []) (dBk b) cs) (hw : WfB b) (hk : bkbk b ≤ 1048576) {A1 : Option Addr} {n1 c1 : Nat} {l : List UInt8} (g1 : Rd w w.heap.size A1 n1 l) (k1 : n1 ≤ c1)
    (cut : Int) (_hc : -9223372036854775808 ≤ cut ∧ cut ≤ 9223372036854775807) (more : Int) (hm : 0 ≤ more ∧ more ≤ 255) :
    Calls Tryd.prog 5 #[.agg cs.toArray, .slice A1 n1 c1, .int .i64 cut, .int .u8 more] w (RetTrue w) := by
  refine calls_ev (args := [.agg cs.toArray, .slice A1 n1 c1, .int .i64 cut, .int .u8 more]) mixed Tryd.func5 rfl (by kernel_rfl) ?_
  have en1 : n1 = l.length := g1.len.symm
  subst en1
  obtain ⟨x, hx⟩ : ∃ x : UInt8, more = (x.toNat : Nat) := ⟨UInt8.ofNat more.toNat, by rw [UInt8.toNat_ofNat']; omega⟩
  subst hx
  obtain ⟨p, rfl, -⟩ := id hr.bk
  have g1' : RdD w (Fd w []) (dB l) (.slice A1 l.length c1) := RdD.ofbytes g1 k1 (fun b off _ h => ⟨h, by simp⟩)
  have M := ((St.start (w := w) (gs := []) (fun b h => by cases h)).addD g1').addL hr
  clear g1 g1' hr
  refine s_box (bkcs b p) M rfl ?_
  clear M
  rintro g4 W M
  refine v_loadN (bkcs b p) agg_bk rfl rfl (M.run 0 rfl) ?_
  refine cc is_big21 (big21_any b _ _ _ (M.da 0 rfl) M.olt (Nat.le_trans hk (by decide))) ?_
  rintro e W ⟨q, rfl, hq, hbw⟩
  replace M := M.call hbw
  clear hbw
  refine ⟨_, rfl, ?_⟩
  cases q with
  | true =>
    refine cc is_kn21 (known21_any _ _ (M.glB hG) M.olt) ?_
    rintro e W ⟨rfl, hbw⟩
    replace M := M.call hbw
    clear hbw
    exact ⟨_, rfl, rfl, M.below⟩
  | false =>
  have hbig := hq rfl
  refine p_len slb rfl ?_
  refine p_gt rfl rfl (fun h => ?_) (fun h => ?_)
  ·
    refine cc is_kn21 (known21_any _ _ (M.glB hG) M.olt) ?_
    rintro e W ⟨rfl, hbw⟩
    replace M := M.call hbw
    clear hbw
    exact ⟨_, rfl, rfl, M.below⟩
  have hl : l.length ≤ 9000 := by have h : ¬ (9000 : Int) < (l.length : Int) := h; omega
  have hf := fits_small hw hk hbig
  refine v_loadN (bkcs b p) agg_bk rfl rfl (M.run 0 rfl) ?_
  refine cc is_bEncK (bEnc_any b _ _ _ (M.da 0 rfl) M.olt hf) ?_
  rintro e W ⟨A3, n3, c3, rfl, o3, hbw⟩
  have en3 : (encBk b).1.length = n3 := o3.len
  subst en3
  have hcap := row_cap' o3
  replace M := M.callO hbw o3
  clear hbw o3
  refine ⟨_, rfl, ?_⟩
  refine cutS Unit (fun _ W => St w [] W [] [] [.dat false [dB l] [.slice A1 l.length c1]]) (fun _ => [(1, .slice A1 l.length c1)]) ?_ ?_
  · refine p_eq rfl rfl (fun q => ?_) (fun q => ?_)
    rotate_left
    · exact ⟨(), M.dropL.fsub _ (by simp), (by repeat (first | exact trivial | refine ⟨rfl, ?_⟩))⟩
    have q : (encBk b).2 = 0 := q
    have hb0 := encBk_full q
    have hsm := block_sm hw (encBk_ok hb0).1 hbig
    have hpos : 0 < (blockB b).length := by have := (bk_txs b).1; omega
    rw [hb0] at M hcap ⊢
    dsimp only at M hcap ⊢
    obtain ⟨X, hX⟩ : ∃ X, X = blockB b := ⟨_, rfl⟩
    rw [← hX] at M hcap hb0 hsm hpos ⊢
    refine p_len slb rfl ?_
    refine p_eq rfl rfl (fun h => absurd (show (X.length : Int) = 0 from h) (by omega)) (fun _ => ?_)
    refine cc is_bDecK (bDec_any X _ _ _ _ _ (M.d1 0 rfl) M.olt (by omega)) ?_
    rintro e W ⟨q1, rfl, hq1, hbw⟩
    rw [dec_encBk hb0 hf] at hq1 ⊢
    replace M := (M.call hbw).addL hq1
    clear hq1 hbw
    refine ⟨_, rfl, ?_⟩
    refine s_alloc (zBk) M al_bk ?_
    clear M
    rintro g11 W M
    refine s_storeA 0 (bkcs b q1) M rfl sz_bk rfl rfl rfl (all1 rfl) rfl ?_
    clear M; rintro W M
    dsimp only [setL] at M
    obtain ⟨u, hu2⟩ : ∃ u : Nat, IntKind.u64.wrap cut = (u : Int) := ⟨(IntKind.u64.wrap cut).toNat, by rw [IntKind.wrap_u64]; omega⟩
    have hlt := Nat.mod_lt u (y := X.length) (by omega)
    refine v_cvt u_inxB u_uiyB rfl hu2 ?_
    refine p_len slb rfl ?_
    refine v_cvt u_inxB u_uiyB rfl (wu64 (by omega)) ?_
    refine p_rem rfl rfl (by omega) (r := ((u % X.length : Nat) : Int)) (by rw [tmodNB]) ?_
    refine v_cvt u_uixB u_inyB rfl (r := ((u % X.length : Nat) : Int)) (w64 (by omega)) ?_
    obtain ⟨k, hkk⟩ : ∃ k, k = u % X.length := ⟨_, rfl⟩
    rw [← hkk] at hlt ⊢
    refine p_slice (i := 0) (j := k) (m := c3) slb rfl rfl (bnd_i rfl) rfl rfl (Nat.zero_le _) (by omega) (Nat.le_refl _) ?_
    have hcut := (M.d1 1 rfl).cutB (i := 0) (j := k) (m := c3) (Nat.zero_le _) (by omega) (by omega)
    rw [List.drop_zero, Nat.sub_zero] at hcut
    refine cc is_bDecK (bDec_any (X.take k) _ _ _ _ _ hcut M.olt (by rw [List.length_take]; omega)) ?_
    rintro e W ⟨q2, rfl, hq2, hbw⟩
    rw [decBk_less hb0 k hlt] at hq2 ⊢
    replace M := (M.call hbw).addL hq2
    clear hq2 hbw hcut
    refine ⟨_, rfl, ?_⟩
    refine s_alloc (zBk) M al_bk ?_
    clear M
    rintro g13 W M
    refine s_storeA 0 (bkcs bkZ q2) M rfl sz_bk rfl rfl rfl (all1 rfl) rfl ?_
    clear M; rintro W M
    dsimp only [setL] at M
    refine cc is_copy21 (copy_any A3 X.length c3 X W (M.rdb 2 rfl).2.2 (by omega)) ?_
    rintro e W ⟨A6, c6, rfl, o, hb⟩
    replace M := M.callR (r := ⟨5, 1, A6, X.length, c6, bvs X⟩) hb o
    clear o hb
    refine ⟨_, rfl, ?_⟩
    refine s_litB [.int .u8 (x.toNat : Nat)] [x] M (by decide) rfl rfl rfl ?_
    clear M; rintro g12 W M
    replace M := M.frzO
    refine s_appB M rfl rfl (M.rdb 0 rfl).2.2 (by omega) ?_
    clear M; rintro A7 c7 W M -
    replace M := M.frzO
    refine cc is_bDecK (bDec_any (X ++ [x]) _ _ _ _ _ (M.d1 0 rfl) M.olt (by rw [List.length_append, List.length_singleton]; omega)) ?_
    rintro e W ⟨q3, rfl, hq3, hbw⟩
    rw [decBk_more hb0 (by simp) (by rw [List.length_append, List.length_singleton]; omega)] at hq3 ⊢
    replace M := (M.call hbw).addL hq3
    clear hq3 hbw
    refine ⟨_, rfl, ?_⟩
    refine s_alloc (zBk) M al_bk ?_
    clear M
    rintro g16 W M
    refine s_storeA 0 (bkcs bkZ q3) M rfl sz_bk rfl rfl rfl (all1 rfl) rfl ?_
    clear M; rintro W M
    dsimp only [setL] at M
    refine p_ne rfl rfl (fun _ => ?_) (fun h => absurd rfl h)
    refine v_loadN (bkcs b q1) agg_bk rfl rfl (M.run 2 rfl) ?_
    refine v_loadN (bkcs b p) agg_bk rfl rfl (M.run 3 rfl) ?_
    refine cc is_r21SameK (r21Same_any b b _ _ _ _ (M.da 4 rfl) (M.da 6 rfl) M.olt (lenB_of hf) (lenB_of hf)) ?_
    rintro e W ⟨z, rfl, hz, hbw⟩
    have hz := hz.2 rfl
    subst hz
    replace M := M.call hbw
    clear hbw
    refine ⟨_, rfl, ?_⟩
    refine p_not rfl ?_
    refine p_ne rfl rfl (fun _ => ?_) (fun h => absurd rfl h)
    refine p_ne rfl rfl (fun _ => ?_) (fun h => absurd rfl h)
    exact ⟨(), M.dropL.dropL.dropL.dropL.fsub _ (by simp), (by repeat (first | exact trivial | refine ⟨rfl, ?_⟩))⟩
  clear M
  rintro - E W M
  refine cc is_bDecK (bDec_any l _ _ _ _ _ (M.d1 0 rfl) M.olt (by omega)) ?_
  rintro e W ⟨q, rfl, hq, hbw⟩
  replace M := (M.call hbw).addL hq
  clear hq hbw
  have hfd := decBk_fits (s := l) (by omega)
  have hcs := decBk_cases l
  obtain ⟨d, hd⟩ : ∃ d, d = decBk l := ⟨_, rfl⟩
  rw [← hd] at M hfd hcs ⊢
  refine ⟨_, rfl, ?_⟩
  refine s_alloc (zBk) M al_bk ?_
  clear M
  rintro g18 W M
  refine s_storeA 0 (bkcs d.1 q) M rfl sz_bk rfl rfl rfl (all1 rfl) rfl ?_
  clear M; rintro W M
  dsimp only [setL] at M
  refine p_ne rfl rfl (fun h0 => ?_) (fun h0 => ?_)
  rotate_left
  · have h0 : ¬ d.2 = 0 := h0
    have hz : d = (bkZ, 11) := by
      rcases hcs with ⟨-, h⟩ | h | ⟨h, -⟩
      · omega
      · exact h
      · exact absurd h h0
    have M : St w [] W [(g18, 26, bkcs bkZ q)] [] [.dat false [dB l] [.slice A1 l.length c1]] := by rw [hz] at M; exact M.fsub _ (by simp)
    refine p_fld fB0 rfl ?_
    refine v_load agg_i rfl ((M.B 0 rfl).at_ rfl) ?_
    refine p_eq rfl rfl (fun _ => ?_) (fun h => absurd rfl h)
    refine p_fld fB1 rfl ?_
    refine v_load agg_b rfl ((M.B 0 rfl).at_ rfl) ?_
    refine p_len slb rfl ?_
    refine p_eq rfl rfl (fun _ => ?_) (fun h => absurd rfl h)
    refine cc is_kn21 (known21_any _ _ (M.glB hG) M.olt) ?_
    rintro e W ⟨rfl, hbw⟩
    replace M := M.call hbw
    clear hbw
    exact ⟨_, rfl, rfl, M.below⟩
  have h0 : d.2 = 0 := h0
  have he : encBk d.1 = (l, 0) := by
    rcases hcs with ⟨h, -⟩ | h | ⟨-, h⟩
    · rw [h0] at h; exact absurd h (by decide)
    · rw [h] at h0; exact absurd h0 (by decide)
    · exact h
  refine v_loadN (bkcs d.1 q) agg_bk rfl rfl (M.run 0 rfl) ?_
  refine cc is_bEncK (bEnc_any d.1 _ _ _ (M.da 0 rfl) M.olt hfd) ?_
  rintro e W ⟨A20, n20, c20, rfl, o20, hbw⟩
  rw [he] at o20 ⊢
  have en20 : l.length = n20 := o20.len
  subst en20
  replace M := M.callO hbw o20
  clear hbw o20
  refine ⟨_, rfl, ?_⟩
  refine p_eq rfl rfl (fun _ => ?_) (fun h => absurd rfl h)
  obtain ⟨z, hz, hc⟩ := same_tf (c1 := c20) (c2 := c1) (M.rdb 0 rfl).2.2 (M.rdb 2 rfl).2.2
  refine cc is_same0B hc ?_
  rintro e W' ⟨rfl, rfl⟩
  have hz := hz.2 rfl
  subst hz
  clear hc
  refine ⟨_, rfl, ?_⟩
  refine cc is_kn21 (known21_any _ _ (M.glB hG) M.olt) ?_
  rintro e W ⟨rfl, hbw⟩
  replace M := M.call hbw
  clear hbw
  exact ⟨_, rfl, rfl, M.below⟩
end Go.Proofs.YtejbljopighenaaDoor
namespace Go.Proofs.YtejbljopighenaaDoor
open Go.RowKit Go.ChangeShapes
theorem gBegin : Tryd.prog.globalNamed "exchequer/digest.begin" = some 0 := by kernel_rfl
theorem gRoots : Tryd.prog.globalNamed "exchequer/digest.roots" = some 1 := by kernel_rfl
theorem tBegin : (Tryd.prog.globals[0]?).map (·.type) = some 118 := by kernel_rfl
theorem tRoots : (Tryd.prog.globals[1]?).map (·.type) = some 132 := by kernel_rfl
theorem cB : Tryd.prog.cellsOf 118 = 8 := by kernel_rfl
theorem cR : Tryd.prog.cellsOf 132 = 64 := by kernel_rfl
theorem cU : Tryd.prog.cellsOf 104 = 1 := by kernel_rfl
def laidL : List (String × DataW Unit) := [("exchequer/digest.begin", Rows.laid_exchequer_digest_begin), ("exchequer/digest.roots", Rows.laid_exchequer_digest_roots)]
theorem gl_of {W : World} (h : laidMetH Tryd.prog laidL W) : GL W [] := by
  rw [MakeChecks.laidMetH_plain _ _ _ (by kernel_rfl)] at h
  have hb : Lib.TabIs Tryd.prog W "exchequer/digest.begin" .u32 [1779033703, 3144134277, 1013904242, 2773480762, 1359893119, 2600822924, 528734635, 1541459225] :=
    Lib.tabIs_of_head (rest := [("exchequer/digest.roots", Rows.laid_exchequer_digest_roots)]) gBegin tBegin Tryd.underlying118 Tryd.underlying104 cU cB h
  obtain ⟨ps, ⟨g0, t0, cs0, f0, p0, q0, hg0, ht0, hv0, hd0, ⟨g1, t1, cs1, f1, p1, q1, hg1, ht1, hv1, hd1, _, _⟩, _⟩, _, _⟩ := h
  obtain rfl := Option.some.inj (gRoots.symm.trans hg1)
  obtain rfl := Option.some.inj (tRoots.symm.trans ht1)
  have hr : Lib.TabIs Tryd.prog W "exchequer/digest.roots" .u32 (List.map (fun (n : Nat) => (n : Int)) roots) := by
    unfold Lib.TabIs
    rw [hv1, ← Lib.cells_of_tab Tryd.underlying132 Tryd.underlying104 cU cR hd1]
  refine ⟨fun j hj => ?_, fun j v hv => ?_, ?_, by simp, by simp⟩
  · have := hr.cell gRoots j (by rw [List.length_map]; exact hj)
    rw [this]
    unfold cu
    congr 2
    rw [List.getD_eq_getElem?_getD, List.getD_eq_getElem?_getD, List.getElem?_map]
    have : j < roots.length := hj
    rw [List.getElem?_eq_getElem this]; rfl
  · have hj := (List.getElem?_eq_some_iff.1 hv).1
    have := hb.cell gBegin j hj
    rw [this]
    have hj8 : j = 0 ∨ j = 1 ∨ j = 2 ∨ j = 3 ∨ j = 4 ∨ j = 5 ∨ j = 6 ∨ j = 7 := by have : j < 8 := hj; omega
    rcases hj8 with rfl | rfl | rfl | rfl | rfl | rfl | rfl | rfl <;> exact hv
  · have := hr.cell gRoots 0 (by decide)
    have := World.block_lt_of_cell? W _ this
    exact this
/-- A world for the witness: the tables hold what their initialisers lay. -/
def layAt (cs : List Value) : Obj → Obj
  | .cells _ t frozen => .cells cs.toArray t frozen
  | o => o
noncomputable def laidWorld (os : Os) : World :=
  { World.holding Tryd.prog os ⟨#[], #[], []⟩ with heap := ((World.holding Tryd.prog os ⟨#[], #[], []⟩).heap.modify 0 (layAt (hc begin8))).modify 1 (layAt (roots.map cu)) }
end Go.Proofs.YtejbljopighenaaDoor
