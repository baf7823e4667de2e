/- The walk of the law BlockHurt. What the rows' list of package variables gives: the tables of digest. -/
import Derived.Test.YtejbljopighenaaDoorG16
import Derived.Test.YtejbljopighenaaDoorG13
import Derived.Test.YtejbljopighenaaDoorRows
import Derived.Lib.LaidTab
import Derived.MakeChecks
namespace Go.Proofs.YtejbljopighenaaDoor
open Go.RowKit

theorem flip_all (m : Nat) (hm : m = 1 ∨ m = 128) : ∀ n : Nat, n < 256 → (0 ≤ bits .xor .u8 (n : Int) (m : Int) ∧ bits .xor .u8 (n : Int) (m : Int) ≤ 255 ∧ b8 (bits .xor .u8 (n : Int) (m : Int)) ≠ UInt8.ofNat n) := by
  rcases hm with rfl | rfl
  · decide +kernel
  · decide +kernel
theorem flip_ne (m : Nat) (hm : m = 1 ∨ m = 128) {l : List UInt8} {k : Nat} (hk : k < l.length) : ∃ r, bits .xor .u8 (at8 l k) (m : Int) = r ∧ (0 ≤ r ∧ r ≤ 255) ∧ l.set k (b8 r) ≠ l := by
  have hx : l.getD k 0 = l[k] := by rw [List.getD_eq_getElem?_getD, List.getElem?_eq_getElem hk]; rfl
  obtain ⟨h1, h2, h3⟩ := flip_all m hm (l.getD k 0).toNat (l.getD k 0).toNat_lt
  refine ⟨_, rfl, ⟨h1, h2⟩, fun e => h3 ?_⟩
  have e2 := congrArg (fun z : List UInt8 => z[k]?) e
  simp only [List.getElem?_set_self hk, List.getElem?_eq_getElem hk] at e2
  injection e2 with e2
  unfold at8 at e2
  rw [UInt8.ofNat_toNat, e2, hx]
theorem link_two {a b : Bk} (ha : (encBk a).2 = 0) (hb : (encBk b).2 = 0) (h1 : b.num = a.num + 1) (h2 : b.last = hashBk a) (h3 : b.prev = a.next) : LinkN [a, b] 2 := by
  refine ⟨Nat.le_refl _, fun i hi => ?_, fun h => absurd h (Nat.lt_irrefl _)⟩
  have : i = 0 ∨ i = 1 := by omega
  rcases this with rfl | rfl
  · exact ⟨a, rfl, ha, fun a h => absurd h (Nat.lt_irrefl _)⟩
  · refine ⟨b, rfl, hb, fun x _ hx => ?_⟩
    have hx : some a = some x := hx
    injection hx with hx
    subst hx
    exact ⟨h1, h2, h3⟩
theorem link_one {a b : Bk} (ha : (encBk a).2 = 0) (h : ¬ ((encBk b).2 = 0 ∧ b.num = a.num + 1 ∧ b.last = hashBk a ∧ b.prev = a.next)) : LinkN [a, b] 1 := by
  refine ⟨by show 1 ≤ 2; decide, fun i hi => ?_, fun _ => ?_⟩
  · have : i = 0 := by omega
    subst this
    exact ⟨a, rfl, ha, fun a h => absurd h (Nat.lt_irrefl _)⟩
  · rintro ⟨x, hx, h1, h2⟩
    have hx : some b = some x := hx
    injection hx with hx
    subst hx
    exact h ⟨h1, h2 a (by decide) rfl⟩
section
variable {w W : World} {L : Lc} {R : List Row} {fs : List Fact}
theorem St.gl0 (M : St w [] W L R fs) (hG : GL w []) : GL W [] := hG.up ⟨M.size, fun b h _ => M.below.block b h, fun b hlt e => by cases e⟩
theorem St.row_rd (M : St w [] W L R fs) (i : Nat) {A : Option Addr} {n c : Nat} {l : List UInt8} (h : nth R i = some ⟨5, 1, A, n, c, bvs l⟩) (hn : n = l.length) : RdD W (Fd W []) (dB l) (.slice A n c) := by
  subst hn
  exact rdD_row (M.row _ (nth_mem h)) (RdL.ofvals _) fun b q1 q2 q3 => ⟨q2, by simp⟩
theorem St.two_rd {g : Nat} {T : TypeId} {a b : Bk} {ca cb : List Value} (M : St w [] W ((g, T, ca ++ cb) :: L) R fs) (ha : RdL W (Fd W []) (dBk a) ca) (hb : RdL W (Fd W []) (dBk b) cb) : RdD W (Fd W []) (dBks [a, b]) (.slice (some ⟨g, 0, none⟩) 2 2) := by
  refine RdD.sl_iff.2 ⟨_, 2, ca ++ cb, rfl, Nat.le_refl _, rfl, by show RdL W _ (dBk a ++ (dBk b ++ [])) (ca ++ cb); rw [List.append_nil]; exact ha.app hb, fun _ => ⟨g, 0, rfl, ⟨M.olt g (by simp [own]), by simp⟩, fun j x hj => ?_⟩⟩
  have := M.run 0 rfl j x hj
  rw [Addr.add_lit] at this
  exact this
end
def c8 (a : Bk) (A32 : Option Addr) (c32 : Nat) (A35 : Option Addr) (c35 g36 : Nat) : List Value := [.int .i64 (a.num + 1), .slice A32 (hashBk a).length c32, .slice A35 a.next.length c35, .slice (some ⟨g36, 0, none⟩) 32 32, .slice none 0 0, .slice none 0 0, .slice none 0 0]
theorem u_u8sB : (Tryd.prog.underlying 5).isSome = true := by kernel_rfl
def d8 (n : Int) (B n1 c1 A n2 c2 g m c3 : Nat) : List Value := [.int .i64 n, .slice (some ⟨B, 0, none⟩) n1 c1, .slice (some ⟨A, 0, none⟩) n2 c2, .slice (some ⟨g, 0, none⟩) m c3, .slice none 0 0, .slice none 0 0, .slice none 0 0]
set_option maxRecDepth 100000 in
set_option maxHeartbeats 8000000 in
theorem blockHurt_walk (w : World) (hG : GL w []) {a : Bk} {cs : List Value} (hr : RdL w (Fd w []) (dBk a) cs) (hw : WfB a) (hk : bkbk a ≤ 1048576) (how : Int) (hh : 0 ≤ how ∧ how ≤ 255) (bit : Int) (hb : 0 ≤ bit ∧ bit ≤ 255) :
    Calls Tryd.prog 6 #[.agg cs.toArray, .int .u8 how, .int .u8 bit] w (RetTrue w) := by
  refine calls_ev (args := [.agg cs.toArray, .int .u8 how, .int .u8 bit]) mixed Tryd.func6 rfl (by kernel_rfl) ?_
  obtain ⟨p, rfl, -, -, h3, -⟩ := id hr.bk
  have M := ((St.start (w := w) (gs := []) (fun b h => by cases h)).addD h3).addL hr
  clear hr h3
  refine s_box (bkcs a p) M rfl ?_
  clear M
  rintro g3 W M
  refine v_loadN (bkcs a p) agg_bk rfl rfl (M.run 0 rfl) ?_
  refine cc is_big21 (big21_any a _ _ _ (M.da 0 rfl) M.olt (Nat.le_trans hk (by decide))) ?_
  rintro e W ⟨q, rfl, hq, hbw⟩
  replace M := M.call hbw
  clear hbw
  refine ⟨_, rfl, ?_⟩
  cases q with
  | true =>
    refine cc is_kn21 (known21_any _ _ (M.glB hG) M.olt) ?_
    rintro e W ⟨rfl, hbw⟩
    replace M := M.call hbw
    clear hbw
    exact ⟨_, rfl, rfl, M.below⟩
  | false =>
  have hbig := hq rfl
  have hf := fits_small hw hk hbig
  refine v_loadN (bkcs a p) agg_bk rfl rfl (M.run 0 rfl) ?_
  refine cc is_bCheckK (bcheck_any a _ _ _ (M.da 0 rfl) M.olt hf) ?_
  rintro e W ⟨rfl, hbw⟩
  replace M := M.call hbw
  clear hbw
  refine ⟨_, rfl, ?_⟩
  refine p_ne rfl rfl (fun q1 => ?_) (fun q1 => ?_)
  rotate_left
  ·
    refine cc is_kn21 (known21_any _ _ (M.glB hG) M.olt) ?_
    rintro e W ⟨rfl, hbw⟩
    replace M := M.call hbw
    clear hbw
    exact ⟨_, rfl, rfl, M.below⟩
  refine p_fld fB0 rfl ?_
  refine v_load agg_i rfl ((M.B 0 rfl).at_ rfl) ?_
  refine p_eq rfl rfl (fun q2 => ?_) (fun q2 => ?_)
  ·
    refine cc is_kn21 (known21_any _ _ (M.glB hG) M.olt) ?_
    rintro e W ⟨rfl, hbw⟩
    replace M := M.call hbw
    clear hbw
    exact ⟨_, rfl, rfl, M.below⟩
  have q2 : ¬ a.num = 9223372036854775807 := q2
  refine v_loadN (bkcs a p) agg_bk rfl rfl (M.run 0 rfl) ?_
  refine cc is_bHashL (bHash_any a _ _ _ (M.glB hG) (M.da 0 rfl) M.olt hf) ?_
  rintro e W ⟨A9, n9, c9, rfl, o9, hA, hA2, hn9, hbw⟩
  replace M := M.call hbw
  clear hbw o9
  refine ⟨_, rfl, ?_⟩
  refine p_len slb rfl ?_
  refine p_ne rfl rfl (fun q3 => ?_) (fun q3 => ?_)
  rotate_left
  ·
    refine cc is_kn21 (known21_any _ _ (M.glB hG) M.olt) ?_
    rintro e W ⟨rfl, hbw⟩
    replace M := M.call hbw
    clear hbw
    exact ⟨_, rfl, rfl, M.below⟩
  have q3 : (n9 : Int) = 32 := q3
  have qok : (encBk a).2 = 0 := Classical.byContradiction fun h => by
    have := (hA2 (hA.2 h)).1
    omega
  obtain ⟨⟨r1, r2, r3, r4, r5, r6⟩, r7, r8⟩ := right_iff.1 (encBk_ok (encBk_full qok)).1
  have hmx := hf.1
  have hh32 := hash_len qok
  refine cutS Unit (fun _ W => St w [] W [(g3, 26, bkcs a p)] [] [.dat false (dBk a) (bkcs a p), .dat false [dB a.next] [.slice p.A3 a.next.length p.c3]]) (fun _ => [(1, .int .u8 how), (2, .int .u8 bit), (3, .pointer (some ⟨g3, 0, none⟩))]) ?_ ?_
  · exact ⟨(), M, (by repeat (first | exact trivial | refine ⟨rfl, ?_⟩))⟩
  clear M
  rintro - E W M
  replace M := M.drew
  refine cutV (Nat × Option Addr × Nat × Option Addr × Nat × Nat) (fun z W => St w [] W [(z.1, 26, c8 a z.2.1 z.2.2.1 z.2.2.2.1 z.2.2.2.2.1 z.2.2.2.2.2), (g3, 26, bkcs a p)] [⟨5, 1, z.2.2.2.1, a.next.length, z.2.2.2.2.1, bvs a.next⟩, ⟨5, 1, z.2.1, (hashBk a).length, z.2.2.1, bvs (hashBk a)⟩] [.dat true [dB z32] [.slice (some ⟨z.2.2.2.2.2, 0, none⟩) 32 32], .dat false (dBk a) (bkcs a p), .dat false [dB a.next] [.slice p.A3 a.next.length p.c3]])
    (fun z => [(1, .int .u8 how), (2, .int .u8 bit), (3, .pointer (some ⟨g3, 0, none⟩)), (7, .pointer (some ⟨z.1, 0, none⟩))]) ?_ ?_
  · refine drT (Kp w [] [(g3, 26, bkcs a p)] []) (Sch.graft (.take 0 (.take 1 (.take 2 (.take 3 (.take 5 (.take 6 (.three 4 (.three 7 (.two 8 (.take 9 (.one 10 (.nil))) 10 (.one 8 (.take 9 (.nil)))) 8 (.two 7 (.take 9 (.one 10 (.nil))) 10 (.one 7 (.take 9 (.nil)))) 10 (.two 7 (.one 8 (.take 9 (.nil))) 8 (.one 7 (.take 9 (.nil))))) 8 (.two 4 (.two 7 (.take 9 (.one 10 (.nil))) 10 (.one 7 (.take 9 (.nil)))) 10 (.one 4 (.one 7 (.take 9 (.nil))))) 10 (.two 4 (.two 7 (.one 8 (.take 9 (.nil))) 8 (.one 7 (.take 9 (.nil)))) 8 (.one 4 (.one 7 (.take 9 (.nil)))))))))))) (.one 11 .nil)) (by kernel_rfl) (M.kp (by simp) (by simp)) ?_
    refine cutT (Nat × Option Addr × Nat × Option Addr × Nat × Nat) (fun z W => St w [] W [(z.1, 26, zBk), (g3, 26, bkcs a p)] [⟨5, 1, z.2.2.2.1, a.next.length, z.2.2.2.2.1, bvs a.next⟩, ⟨5, 1, z.2.1, (hashBk a).length, z.2.2.1, bvs (hashBk a)⟩] [.dat true [dB z32] [.slice (some ⟨z.2.2.2.2.2, 0, none⟩) 32 32], .dat false (dBk a) (bkcs a p), .dat false [dB a.next] [.slice p.A3 a.next.length p.c3]])
      (fun z => [(1, .int .u8 how), (2, .int .u8 bit), (3, .pointer (some ⟨g3, 0, none⟩)), (7, .pointer (some ⟨z.1, 0, none⟩)), (37, .agg (c8 a z.2.1 z.2.2.1 z.2.2.2.1 z.2.2.2.2.1 z.2.2.2.2.2).toArray)]) ?_ ?_
    rotate_left
    · rintro ⟨g7, A32, c32, A35, c35, g36⟩ E W M
      dsimp only at M
      refine s_storeA 0 (c8 a A32 c32 A35 c35 g36) M rfl sz_bk rfl rfl rfl (all1 rfl) rfl ?_
      clear M; rintro W M
      dsimp only [setL] at M
      refine ⟨(M.kp (by simp) (by simp)), ?_⟩
      exact ⟨(g7, A32, c32, A35, c35, g36), M, (by repeat (first | exact trivial | refine ⟨rfl, ?_⟩))⟩
    refine p_fld fB0 rfl ?_
    refine t_load agg_i rfl (fun W K => (K.B 0 rfl).at_ rfl) ?_
    refine p_add rfl rfl (w64 (by omega)) ?_
    refine t_loadN (bkcs a p) agg_bk rfl rfl (fun W K => K.run 0 rfl) ?_
    refine p_fld fB3 rfl ?_
    refine t_load agg_b rfl (fun W K => (K.B 0 rfl).at_ rfl) ?_
    refine ⟨?_, ?_, ?_⟩
    · skip
      refine cc is_bHashL (bHash_any a _ _ _ (M.glB hG) (M.da 0 rfl) M.olt hf) ?_
      rintro e W ⟨A32, n32, c32, rfl, o32, -, -, -, hbw⟩
      have en32 : (hashBk a).length = n32 := o32.len
      subst en32
      replace M := M.callR (r := ⟨5, 1, A32, (hashBk a).length, c32, bvs (hashBk a)⟩) hbw o32
      clear o32 hbw
      refine ⟨_, rfl, (M.kp (by simp) (by simp)), ?_⟩
      refine ⟨?_, ?_, ?_⟩
      · skip
        refine cc is_copy21 (copy_any p.A3 a.next.length p.c3 a.next _ (M.rdb 1 rfl).2.2 (by omega)) ?_
        rintro e W ⟨A35, c35, rfl, o35, hbw⟩
        replace M := M.callR (r := ⟨5, 1, A35, a.next.length, c35, bvs a.next⟩) hbw o35
        clear o35 hbw
        refine ⟨_, rfl, (M.kp (by simp) (by simp)), ?_⟩
        refine ⟨?_, ?_⟩
        · skip
          refine s_mk32 M rfl rfl ?_
          clear M; rintro g36 W M
          refine ⟨(M.kp (by simp) (by simp)), ?_⟩
          refine p_build (vs := c8 a A32 c32 A35 c35 g36) pl_bk z_bk rfl ?_
          refine s_alloc (zBk) M al_bk ?_
          clear M
          rintro g7 W M
          refine ⟨(M.kp (by simp) (by simp)), ?_⟩
          exact ⟨(g7, A32, c32, A35, c35, g36), M.fsub _ (by simp), (by repeat (first | exact trivial | refine ⟨rfl, ?_⟩))⟩
        · skip
          refine s_alloc (zBk) M al_bk ?_
          clear M
          rintro g7 W M
          refine ⟨(M.kp (by simp) (by simp)), ?_⟩
          refine s_mk32 M rfl rfl ?_
          clear M; rintro g36 W M
          refine ⟨(M.kp (by simp) (by simp)), ?_⟩
          refine p_build (vs := c8 a A32 c32 A35 c35 g36) pl_bk z_bk rfl ?_
          exact ⟨(g7, A32, c32, A35, c35, g36), M.fsub _ (by simp), (by repeat (first | exact trivial | refine ⟨rfl, ?_⟩))⟩
      · skip
        refine s_mk32 M rfl rfl ?_
        clear M; rintro g36 W M
        refine ⟨(M.kp (by simp) (by simp)), ?_⟩
        refine ⟨?_, ?_⟩
        · skip
          refine cc is_copy21 (copy_any p.A3 a.next.length p.c3 a.next _ (M.rdb 2 rfl).2.2 (by omega)) ?_
          rintro e W ⟨A35, c35, rfl, o35, hbw⟩
          replace M := M.callR (r := ⟨5, 1, A35, a.next.length, c35, bvs a.next⟩) hbw o35
          clear o35 hbw
          refine ⟨_, rfl, (M.kp (by simp) (by simp)), ?_⟩
          refine p_build (vs := c8 a A32 c32 A35 c35 g36) pl_bk z_bk rfl ?_
          refine s_alloc (zBk) M al_bk ?_
          clear M
          rintro g7 W M
          refine ⟨(M.kp (by simp) (by simp)), ?_⟩
          exact ⟨(g7, A32, c32, A35, c35, g36), M.fsub _ (by simp), (by repeat (first | exact trivial | refine ⟨rfl, ?_⟩))⟩
        · skip
          refine s_alloc (zBk) M al_bk ?_
          clear M
          rintro g7 W M
          refine ⟨(M.kp (by simp) (by simp)), ?_⟩
          refine cc is_copy21 (copy_any p.A3 a.next.length p.c3 a.next _ (M.rdb 2 rfl).2.2 (by omega)) ?_
          rintro e W ⟨A35, c35, rfl, o35, hbw⟩
          replace M := M.callR (r := ⟨5, 1, A35, a.next.length, c35, bvs a.next⟩) hbw o35
          clear o35 hbw
          refine ⟨_, rfl, (M.kp (by simp) (by simp)), ?_⟩
          refine p_build (vs := c8 a A32 c32 A35 c35 g36) pl_bk z_bk rfl ?_
          exact ⟨(g7, A32, c32, A35, c35, g36), M.fsub _ (by simp), (by repeat (first | exact trivial | refine ⟨rfl, ?_⟩))⟩
      · skip
        refine s_alloc (zBk) M al_bk ?_
        clear M
        rintro g7 W M
        refine ⟨(M.kp (by simp) (by simp)), ?_⟩
        refine ⟨?_, ?_⟩
        · skip
          refine cc is_copy21 (copy_any p.A3 a.next.length p.c3 a.next _ (M.rdb 1 rfl).2.2 (by omega)) ?_
          rintro e W ⟨A35, c35, rfl, o35, hbw⟩
          replace M := M.callR (r := ⟨5, 1, A35, a.next.length, c35, bvs a.next⟩) hbw o35
          clear o35 hbw
          refine ⟨_, rfl, (M.kp (by simp) (by simp)), ?_⟩
          refine s_mk32 M rfl rfl ?_
          clear M; rintro g36 W M
          refine ⟨(M.kp (by simp) (by simp)), ?_⟩
          refine p_build (vs := c8 a A32 c32 A35 c35 g36) pl_bk z_bk rfl ?_
          exact ⟨(g7, A32, c32, A35, c35, g36), M.fsub _ (by simp), (by repeat (first | exact trivial | refine ⟨rfl, ?_⟩))⟩
        · skip
          refine s_mk32 M rfl rfl ?_
          clear M; rintro g36 W M
          refine ⟨(M.kp (by simp) (by simp)), ?_⟩
          refine cc is_copy21 (copy_any p.A3 a.next.length p.c3 a.next _ (M.rdb 2 rfl).2.2 (by omega)) ?_
          rintro e W ⟨A35, c35, rfl, o35, hbw⟩
          replace M := M.callR (r := ⟨5, 1, A35, a.next.length, c35, bvs a.next⟩) hbw o35
          clear o35 hbw
          refine ⟨_, rfl, (M.kp (by simp) (by simp)), ?_⟩
          refine p_build (vs := c8 a A32 c32 A35 c35 g36) pl_bk z_bk rfl ?_
          exact ⟨(g7, A32, c32, A35, c35, g36), M.fsub _ (by simp), (by repeat (first | exact trivial | refine ⟨rfl, ?_⟩))⟩
    · skip
      refine s_mk32 M rfl rfl ?_
      clear M; rintro g36 W M
      refine ⟨(M.kp (by simp) (by simp)), ?_⟩
      refine ⟨?_, ?_⟩
      · skip
        refine cc is_bHashL (bHash_any a _ _ _ (M.glB hG) (M.da 1 rfl) M.olt hf) ?_
        rintro e W ⟨A32, n32, c32, rfl, o32, -, -, -, hbw⟩
        have en32 : (hashBk a).length = n32 := o32.len
        subst en32
        replace M := M.callR (r := ⟨5, 1, A32, (hashBk a).length, c32, bvs (hashBk a)⟩) hbw o32
        clear o32 hbw
        refine ⟨_, rfl, (M.kp (by simp) (by simp)), ?_⟩
        refine ⟨?_, ?_⟩
        · skip
          refine cc is_copy21 (copy_any p.A3 a.next.length p.c3 a.next _ (M.rdb 2 rfl).2.2 (by omega)) ?_
          rintro e W ⟨A35, c35, rfl, o35, hbw⟩
          replace M := M.callR (r := ⟨5, 1, A35, a.next.length, c35, bvs a.next⟩) hbw o35
          clear o35 hbw
          refine ⟨_, rfl, (M.kp (by simp) (by simp)), ?_⟩
          refine p_build (vs := c8 a A32 c32 A35 c35 g36) pl_bk z_bk rfl ?_
          refine s_alloc (zBk) M al_bk ?_
          clear M
          rintro g7 W M
          refine ⟨(M.kp (by simp) (by simp)), ?_⟩
          exact ⟨(g7, A32, c32, A35, c35, g36), M.fsub _ (by simp), (by repeat (first | exact trivial | refine ⟨rfl, ?_⟩))⟩
        · skip
          refine s_alloc (zBk) M al_bk ?_
          clear M
          rintro g7 W M
          refine ⟨(M.kp (by simp) (by simp)), ?_⟩
          refine cc is_copy21 (copy_any p.A3 a.next.length p.c3 a.next _ (M.rdb 2 rfl).2.2 (by omega)) ?_
          rintro e W ⟨A35, c35, rfl, o35, hbw⟩
          replace M := M.callR (r := ⟨5, 1, A35, a.next.length, c35, bvs a.next⟩) hbw o35
          clear o35 hbw
          refine ⟨_, rfl, (M.kp (by simp) (by simp)), ?_⟩
          refine p_build (vs := c8 a A32 c32 A35 c35 g36) pl_bk z_bk rfl ?_
          exact ⟨(g7, A32, c32, A35, c35, g36), M.fsub _ (by simp), (by repeat (first | exact trivial | refine ⟨rfl, ?_⟩))⟩
      · skip
        refine s_alloc (zBk) M al_bk ?_
        clear M
        rintro g7 W M
        refine ⟨(M.kp (by simp) (by simp)), ?_⟩
        refine cc is_bHashL (bHash_any a _ _ _ (M.glB hG) (M.da 1 rfl) M.olt hf) ?_
        rintro e W ⟨A32, n32, c32, rfl, o32, -, -, -, hbw⟩
        have en32 : (hashBk a).length = n32 := o32.len
        subst en32
        replace M := M.callR (r := ⟨5, 1, A32, (hashBk a).length, c32, bvs (hashBk a)⟩) hbw o32
        clear o32 hbw
        refine ⟨_, rfl, (M.kp (by simp) (by simp)), ?_⟩
        refine cc is_copy21 (copy_any p.A3 a.next.length p.c3 a.next _ (M.rdb 2 rfl).2.2 (by omega)) ?_
        rintro e W ⟨A35, c35, rfl, o35, hbw⟩
        replace M := M.callR (r := ⟨5, 1, A35, a.next.length, c35, bvs a.next⟩) hbw o35
        clear o35 hbw
        refine ⟨_, rfl, (M.kp (by simp) (by simp)), ?_⟩
        refine p_build (vs := c8 a A32 c32 A35 c35 g36) pl_bk z_bk rfl ?_
        exact ⟨(g7, A32, c32, A35, c35, g36), M.fsub _ (by simp), (by repeat (first | exact trivial | refine ⟨rfl, ?_⟩))⟩
    · skip
      refine s_alloc (zBk) M al_bk ?_
      clear M
      rintro g7 W M
      refine ⟨(M.kp (by simp) (by simp)), ?_⟩
      refine ⟨?_, ?_⟩
      · skip
        refine cc is_bHashL (bHash_any a _ _ _ (M.glB hG) (M.da 0 rfl) M.olt hf) ?_
        rintro e W ⟨A32, n32, c32, rfl, o32, -, -, -, hbw⟩
        have en32 : (hashBk a).length = n32 := o32.len
        subst en32
        replace M := M.callR (r := ⟨5, 1, A32, (hashBk a).length, c32, bvs (hashBk a)⟩) hbw o32
        clear o32 hbw
        refine ⟨_, rfl, (M.kp (by simp) (by simp)), ?_⟩
        refine ⟨?_, ?_⟩
        · skip
          refine cc is_copy21 (copy_any p.A3 a.next.length p.c3 a.next _ (M.rdb 1 rfl).2.2 (by omega)) ?_
          rintro e W ⟨A35, c35, rfl, o35, hbw⟩
          replace M := M.callR (r := ⟨5, 1, A35, a.next.length, c35, bvs a.next⟩) hbw o35
          clear o35 hbw
          refine ⟨_, rfl, (M.kp (by simp) (by simp)), ?_⟩
          refine s_mk32 M rfl rfl ?_
          clear M; rintro g36 W M
          refine ⟨(M.kp (by simp) (by simp)), ?_⟩
          refine p_build (vs := c8 a A32 c32 A35 c35 g36) pl_bk z_bk rfl ?_
          exact ⟨(g7, A32, c32, A35, c35, g36), M.fsub _ (by simp), (by repeat (first | exact trivial | refine ⟨rfl, ?_⟩))⟩
        · skip
          refine s_mk32 M rfl rfl ?_
          clear M; rintro g36 W M
          refine ⟨(M.kp (by simp) (by simp)), ?_⟩
          refine cc is_copy21 (copy_any p.A3 a.next.length p.c3 a.next _ (M.rdb 2 rfl).2.2 (by omega)) ?_
          rintro e W ⟨A35, c35, rfl, o35, hbw⟩
          replace M := M.callR (r := ⟨5, 1, A35, a.next.length, c35, bvs a.next⟩) hbw o35
          clear o35 hbw
          refine ⟨_, rfl, (M.kp (by simp) (by simp)), ?_⟩
          refine p_build (vs := c8 a A32 c32 A35 c35 g36) pl_bk z_bk rfl ?_
          exact ⟨(g7, A32, c32, A35, c35, g36), M.fsub _ (by simp), (by repeat (first | exact trivial | refine ⟨rfl, ?_⟩))⟩
      · skip
        refine s_mk32 M rfl rfl ?_
        clear M; rintro g36 W M
        refine ⟨(M.kp (by simp) (by simp)), ?_⟩
        refine cc is_bHashL (bHash_any a _ _ _ (M.glB hG) (M.da 1 rfl) M.olt hf) ?_
        rintro e W ⟨A32, n32, c32, rfl, o32, -, -, -, hbw⟩
        have en32 : (hashBk a).length = n32 := o32.len
        subst en32
        replace M := M.callR (r := ⟨5, 1, A32, (hashBk a).length, c32, bvs (hashBk a)⟩) hbw o32
        clear o32 hbw
        refine ⟨_, rfl, (M.kp (by simp) (by simp)), ?_⟩
        refine cc is_copy21 (copy_any p.A3 a.next.length p.c3 a.next _ (M.rdb 2 rfl).2.2 (by omega)) ?_
        rintro e W ⟨A35, c35, rfl, o35, hbw⟩
        replace M := M.callR (r := ⟨5, 1, A35, a.next.length, c35, bvs a.next⟩) hbw o35
        clear o35 hbw
        refine ⟨_, rfl, (M.kp (by simp) (by simp)), ?_⟩
        refine p_build (vs := c8 a A32 c32 A35 c35 g36) pl_bk z_bk rfl ?_
        exact ⟨(g7, A32, c32, A35, c35, g36), M.fsub _ (by simp), (by repeat (first | exact trivial | refine ⟨rfl, ?_⟩))⟩
  clear M
  rintro ⟨g7, A32, c32, A35, c35, g36⟩ E W M
  dsimp only at M
  obtain ⟨b0, hb0⟩ : ∃ b0 : Bk, b0 = ⟨a.num + 1, hashBk a, a.next, z32, [], [], []⟩ := ⟨_, rfl⟩
  have hok := bare_ok (b := b0) (by rw [hb0]; show 0 ≤ a.num + 1; omega) (by rw [hb0]; show a.num + 1 ≤ _; omega) (by rw [hb0]; exact hh32) (by rw [hb0]; exact r4) (by rw [hb0]; exact z32_len) (by rw [hb0]) (by rw [hb0]) (by rw [hb0])
  refine v_loadN (bkcs a p) agg_bk rfl rfl (M.run 1 rfl) ?_
  refine v_loadN (c8 a A32 c32 A35 c35 g36) agg_bk rfl rfl (M.run 0 rfl) ?_
  refine s_bsliceB (bkcs a p ++ c8 a A32 c32 A35 c35 g36) M slbks z_bk rfl (by decide) rfl ?_
  clear M; rintro gq W M
  have hrb : RdL W (Fd W []) (dBk b0) (c8 a A32 c32 A35 c35 g36) := by
    rw [hb0]
    exact RdL.ofbk (b := ⟨a.num + 1, hashBk a, a.next, z32, [], [], []⟩) (p := ⟨A32, c32, A35, c35, some ⟨g36, 0, none⟩, 32, none, 0, none, 0, none, 0⟩) (M.row_rd 1 rfl rfl) (M.row_rd 0 rfl rfl) ((M.da 0 rfl).to (fun b hb => ⟨rfl, hb.1, by simp⟩)).hd (RdD.nil_ none 0) (RdD.nil_ none 0) (RdD.nil_ (s := 1) none 0)
  have hra : RdL W (Fd W []) (dBk a) (bkcs a p) := (M.da 1 rfl).to fun b hb => ⟨rfl, hb.1, by simp⟩
  have hrd := M.two_rd hra hrb
  refine cc is_bLinksK (bLinks_any [a, b0] [] _ _ _ _ (M.gl0 hG) hrd (fun b h => by cases h) (fun x hx => by
    rcases List.mem_cons.1 hx with rfl | hx
    · exact hf
    · rw [List.mem_singleton.1 hx]; exact hok.1) (by show 2 ≤ 1000000; decide)) ?_
  rintro e W ⟨k2, rfl, hk2, hbw⟩
  have hk2 := link_inj hk2 (link_two qok (by rw [hok.2.1]) (by rw [hb0]) (by rw [hb0]) (by rw [hb0]))
  subst hk2
  replace M := (M.call hbw).dropL
  clear hbw hrd hra hrb
  refine ⟨_, rfl, ?_⟩
  refine p_ne rfl rfl (fun _ => ?_) (fun h => absurd rfl h)
  obtain ⟨y, hy⟩ : ∃ y : Nat, bit = (y : Int) := ⟨bit.toNat, by omega⟩
  subst hy
  obtain ⟨h, hhe⟩ : ∃ h : Nat, how = (h : Int) := ⟨how.toNat, by omega⟩
  subst hhe
  refine v_cvt u_u8sB u_inyB rfl (w64 (by omega)) ?_
  refine p_rem rfl rfl (by decide) (r := ((y % 32 : Nat) : Int)) (by show ((y : Nat) : Int).tmod ((32 : Nat) : Int) = _; rw [tmodNB]) ?_
  refine p_rem rfl rfl (by decide) (r := ((h % 4 : Nat) : Int)) (by show ((h : Nat) : Int).tmod ((4 : Nat) : Int) = _; rw [tmodNB]) ?_
  obtain ⟨k, hkk⟩ : ∃ k, k = y % 32 := ⟨_, rfl⟩
  have hk32 : k < 32 := by omega
  rw [← hkk]
  obtain ⟨A, rfl⟩ := row_addr M (by omega)
  replace M := M.swpR
  obtain ⟨B, rfl⟩ := row_addr M (by omega)
  have hc8 : c8 a (some ⟨B, 0, none⟩) c32 (some ⟨A, 0, none⟩) c35 g36 = d8 (a.num + 1) B (hashBk a).length c32 A a.next.length c35 g36 32 32 := rfl
  rw [hc8] at M
  obtain ⟨n1, hn1⟩ : ∃ n1, n1 = (hashBk a).length := ⟨_, rfl⟩
  obtain ⟨n2, hn2⟩ : ∃ n2, n2 = a.next.length := ⟨_, rfl⟩
  rw [← hn1] at hh32
  rw [← hn2] at r4
  rw [← hn1, ← hn2] at M
  refine cutS (Int × List UInt8 × List UInt8 × Nat × Nat) (fun z W => (z.2.1.length = n1 ∧ z.2.2.1.length = n2 ∧ z.2.2.2.1 ≤ 32 ∧ (0 ≤ z.1 ∧ z.1 ≤ 9223372036854775807) ∧ ¬ ((encBk ⟨z.1, z.2.1, z.2.2.1, z32.take z.2.2.2.1, [], [], []⟩).2 = 0 ∧ z.1 = a.num + 1 ∧ z.2.1 = hashBk a ∧ z.2.2.1 = a.next)) ∧ z.2.2.2.2 = 32 ∧ St w [] W [(g7, 26, d8 z.1 B n1 c32 A n2 c35 g36 z.2.2.2.1 z.2.2.2.2), (g3, 26, bkcs a p)] [⟨5, 1, some ⟨B, 0, none⟩, n1, c32, bvs z.2.1⟩, ⟨5, 1, some ⟨A, 0, none⟩, n2, c35, bvs z.2.2.1⟩] [.dat true [dB z32] [.slice (some ⟨g36, 0, none⟩) 32 32], .dat false (dBk a) (bkcs a p)]) (fun _ => [(3, .pointer (some ⟨g3, 0, none⟩)), (7, .pointer (some ⟨g7, 0, none⟩))]) ?_ ?_
  · refine p_eq rfl rfl (fun e0 => ?_) (fun e0 => ?_)
    · refine p_fld fB0 rfl ?_
      refine v_load agg_i rfl ((M.B 1 rfl).at_ rfl) ?_
      refine p_fld fB0 rfl ?_
      refine s_set 0 (off := 0) (.int .i64 a.num) (d8 a.num B n1 c32 A n2 c35 g36 32 32) M rfl sz_int rfl rfl rfl (Nat.le_of_ble_eq_true rfl) rfl ?_
      clear M; rintro W M
      dsimp only [setL] at M
      exact ⟨(a.num, hashBk a, a.next, 32, 32), ⟨⟨hn1.symm, hn2.symm, by dsimp only; omega, by dsimp only; omega, fun h => by have h := h.2.1; dsimp only at h; omega⟩, rfl, M.fsub _ (by simp)⟩, (by repeat (first | exact trivial | refine ⟨rfl, ?_⟩))⟩
    refine p_eq rfl rfl (fun e1 => ?_) (fun e1 => ?_)
    · replace M := M.drew
      obtain ⟨r, hr1, hr2, hr3⟩ := flip_ne 1 (.inl rfl) (l := hashBk a) (k := k) (by omega)
      have hrow : Own _ w.heap.size (some ⟨B, 0, none⟩) n1 c32 (hashBk a) := M.row _ (List.mem_cons_self ..)
      refine drZ 10 (fun W => Kp w [] [(g7, 26, d8 (a.num + 1) B n1 c32 A n2 c35 g36 32 32)] [] W ∧ W.cell? ⟨B, k, none⟩ = some (.int .u8 (at8 (hashBk a) k))) [(0, true), (1, true), (2, true), (3, true), (4, true), (5, true), (6, true), (7, true), (8, true), (9, true)] (by kernel_rfl) ⟨(M.kp (by simp) (by simp)), hrow.cell (by omega)⟩ ?_
      refine p_fld fB1 rfl ?_
      refine t_load agg_b rfl (fun W K => (K.1.B 0 rfl).at_ rfl) ?_
      refine p_fld fB1 rfl ?_
      refine t_load agg_b rfl (fun W K => (K.1.B 0 rfl).at_ rfl) ?_
      refine p_atM (i := k) (q := k) slb rfl rfl rfl (by omega) (by omega) ?_
      refine t_load agg_u8 rfl (fun W K => K.2) ?_
      refine p_xor rfl rfl hr1 ?_
      refine p_atM (i := k) (q := k) slb rfl rfl rfl (by omega) (by omega) ?_
      refine s_setRow k r M rfl rfl (by omega) hr2 ?_
      clear M hrow; rintro W M
      exact ⟨(a.num + 1, (hashBk a).set k (b8 r), a.next, 32, 32), ⟨⟨by dsimp only; rw [List.length_set]; exact hn1.symm, hn2.symm, by dsimp only; omega, by dsimp only; omega, fun h => hr3 h.2.2.1⟩, rfl, M.fsub _ (by simp)⟩, (by repeat (first | exact trivial | refine ⟨rfl, ?_⟩))⟩
    refine p_eq rfl rfl (fun e2 => ?_) (fun e2 => ?_)
    · replace M := M.drew.swpR
      obtain ⟨r, hr1, hr2, hr3⟩ := flip_ne 128 (.inr rfl) (l := a.next) (k := k) (by omega)
      have hrow : Own _ w.heap.size (some ⟨A, 0, none⟩) n2 c35 a.next := M.row _ (List.mem_cons_self ..)
      refine drZ 10 (fun W => Kp w [] [(g7, 26, d8 (a.num + 1) B n1 c32 A n2 c35 g36 32 32)] [] W ∧ W.cell? ⟨A, k, none⟩ = some (.int .u8 (at8 a.next k))) [(0, true), (1, true), (2, true), (3, true), (4, true), (5, true), (6, true), (7, true), (8, true), (9, true)] (by kernel_rfl) ⟨(M.kp (by simp) (by simp)), hrow.cell (by omega)⟩ ?_
      refine p_fld fB2 rfl ?_
      refine t_load agg_b rfl (fun W K => (K.1.B 0 rfl).at_ rfl) ?_
      refine p_fld fB2 rfl ?_
      refine t_load agg_b rfl (fun W K => (K.1.B 0 rfl).at_ rfl) ?_
      refine p_atM (i := k) (q := k) slb rfl rfl rfl (by omega) (by omega) ?_
      refine t_load agg_u8 rfl (fun W K => K.2) ?_
      refine p_xor rfl rfl hr1 ?_
      refine p_atM (i := k) (q := k) slb rfl rfl rfl (by omega) (by omega) ?_
      refine s_setRow k r M rfl rfl (by omega) hr2 ?_
      clear M hrow; rintro W M
      replace M := M.swpR
      exact ⟨(a.num + 1, hashBk a, a.next.set k (b8 r), 32, 32), ⟨⟨hn1.symm, by dsimp only; rw [List.length_set]; exact hn2.symm, by dsimp only; omega, by dsimp only; omega, fun h => hr3 h.2.2.2⟩, rfl, M.fsub _ (by simp)⟩, (by repeat (first | exact trivial | refine ⟨rfl, ?_⟩))⟩
    refine p_fld fB3 rfl ?_
    refine v_load agg_b rfl ((M.B 0 rfl).at_ rfl) ?_
    refine p_slice (i := 0) (j := k) (m := 32) slb rfl rfl (bnd_i rfl) rfl rfl (Nat.zero_le _) (by omega) (Nat.le_refl _) ?_
    refine p_fld fB3 rfl ?_
    refine s_set 0 (off := 3) (.slice (some ⟨g36, 0, none⟩) k 32) (d8 (a.num + 1) B n1 c32 A n2 c35 g36 k 32) M rfl sz_slK rfl rfl rfl (Nat.le_of_ble_eq_true rfl) rfl ?_
    clear M; rintro W M
    dsimp only [setL] at M
    refine ⟨(a.num + 1, hashBk a, a.next, k, 32), ⟨⟨hn1.symm, hn2.symm, by dsimp only; omega, by dsimp only; omega, fun h => ?_⟩, rfl, M.fsub _ (by simp)⟩, (by repeat (first | exact trivial | refine ⟨rfl, ?_⟩))⟩
    have h1 := (right_iff.1 (encBk_ok (encBk_full h.1)).1).1.2.2.2.1
    dsimp only at h1
    rw [List.length_take, z32_len] at h1
    omega
  clear M
  rintro ⟨num, l1, l2, m, c3⟩ E W ⟨⟨i1, i2, i3, i4, i5⟩, i6, M⟩
  dsimp only at i1 i2 i3 i4 i5 i6 M
  obtain ⟨b1, hb1⟩ : ∃ b1 : Bk, b1 = ⟨num, l1, l2, z32.take m, [], [], []⟩ := ⟨_, rfl⟩
  have hzt : (z32.take m).length = m := by rw [List.length_take, z32_len]; omega
  have hfb : FitsB b1 := fits_bare (by rw [hb1]; exact i4.2) (by rw [hb1]; show l1.length ≤ _; omega) (by rw [hb1]; show l2.length ≤ _; omega) (by rw [hb1]; show (z32.take m).length ≤ _; omega) (by rw [hb1]) (by rw [hb1]) (by rw [hb1])
  subst i1; subst i2; subst i6
  refine v_loadN (bkcs a p) agg_bk rfl rfl (M.run 1 rfl) ?_
  refine v_loadN (d8 num B l1.length c32 A l2.length c35 g36 m 32) agg_bk rfl rfl (M.run 0 rfl) ?_
  refine s_bsliceB (bkcs a p ++ d8 num B l1.length c32 A l2.length c35 g36 m 32) M slbks z_bk rfl (by decide) rfl ?_
  clear M; rintro gq W M
  have hz : RdD W (Fd W []) (dB (z32.take m)) (.slice (some ⟨g36, 0, none⟩) (z32.take m).length 32) := by
    have h1 : RdD W (Fd W []) (dB z32) (.slice (some ⟨g36, 0, none⟩) 32 32) := ((M.da 0 rfl).to (fun b hb => ⟨rfl, hb.1, by simp⟩)).hd
    have h2 := RdD.cutB h1 (i := 0) (j := m) (m := 32) (Nat.zero_le _) (by omega) (by omega)
    rw [List.drop_zero, Nat.sub_zero, Nat.sub_zero] at h2
    rw [hzt]
    exact h2
  have hrb : RdL W (Fd W []) (dBk b1) (d8 num B l1.length c32 A l2.length c35 g36 m 32) := by
    have e : d8 num B l1.length c32 A l2.length c35 g36 m 32 = bkcs ⟨num, l1, l2, z32.take m, [], [], []⟩ ⟨some ⟨B, 0, none⟩, c32, some ⟨A, 0, none⟩, c35, some ⟨g36, 0, none⟩, 32, none, 0, none, 0, none, 0⟩ := by unfold d8 bkcs; rw [hzt]; rfl
    rw [hb1, e]
    exact RdL.ofbk (M.row_rd 0 rfl rfl) (M.row_rd 1 rfl rfl) hz (RdD.nil_ none 0) (RdD.nil_ none 0) (RdD.nil_ (s := 1) none 0)
  have hra : RdL W (Fd W []) (dBk a) (bkcs a p) := (M.da 1 rfl).to fun b hb => ⟨rfl, hb.1, by simp⟩
  have hrd := M.two_rd hra hrb
  refine cc is_bLinksK (bLinks_any [a, b1] [] _ _ _ _ (M.gl0 hG) hrd (fun b h => by cases h) (fun x hx => by
    rcases List.mem_cons.1 hx with rfl | hx
    · exact hf
    · rw [List.mem_singleton.1 hx]; exact hfb) (by show 2 ≤ 1000000; decide)) ?_
  rintro e W ⟨k2, rfl, hk2, hbw⟩
  have hk2 := link_inj hk2 (link_one qok (by rw [hb1]; exact i5))
  subst hk2
  replace M := (M.call hbw).dropL
  clear hbw hrd hra hrb hz
  refine ⟨_, rfl, ?_⟩
  refine p_eq rfl rfl (fun _ => ?_) (fun h => absurd rfl h)
  refine cc is_kn21 (known21_any _ _ (M.glB hG) M.olt) ?_
  rintro e W ⟨rfl, hbw⟩
  replace M := M.call hbw
  clear hbw
  exact ⟨_, rfl, rfl, M.below⟩
end Go.Proofs.YtejbljopighenaaDoor
namespace Go.Proofs.YtejbljopighenaaDoor
open Go.RowKit Go.ChangeShapes
theorem gBegin : Tryd.prog.globalNamed "exchequer/digest.begin" = some 0 := by kernel_rfl
theorem gRoots : Tryd.prog.globalNamed "exchequer/digest.roots" = some 1 := by kernel_rfl
theorem tBegin : (Tryd.prog.globals[0]?).map (·.type) = some 118 := by kernel_rfl
theorem tRoots : (Tryd.prog.globals[1]?).map (·.type) = some 132 := by kernel_rfl
theorem cB : Tryd.prog.cellsOf 118 = 8 := by kernel_rfl
theorem cR : Tryd.prog.cellsOf 132 = 64 := by kernel_rfl
theorem cU : Tryd.prog.cellsOf 104 = 1 := by kernel_rfl
def laidL : List (String × DataW Unit) := [("exchequer/digest.begin", Rows.laid_exchequer_digest_begin), ("exchequer/digest.roots", Rows.laid_exchequer_digest_roots)]
theorem gl_of {W : World} (h : laidMetH Tryd.prog laidL W) : GL W [] := by
  rw [MakeChecks.laidMetH_plain _ _ _ (by kernel_rfl)] at h
  have hb : Lib.TabIs Tryd.prog W "exchequer/digest.begin" .u32 [1779033703, 3144134277, 1013904242, 2773480762, 1359893119, 2600822924, 528734635, 1541459225] :=
    Lib.tabIs_of_head (rest := [("exchequer/digest.roots", Rows.laid_exchequer_digest_roots)]) gBegin tBegin Tryd.underlying118 Tryd.underlying104 cU cB h
  obtain ⟨ps, ⟨g0, t0, cs0, f0, p0, q0, hg0, ht0, hv0, hd0, ⟨g1, t1, cs1, f1, p1, q1, hg1, ht1, hv1, hd1, _, _⟩, _⟩, _, _⟩ := h
  obtain rfl := Option.some.inj (gRoots.symm.trans hg1)
  obtain rfl := Option.some.inj (tRoots.symm.trans ht1)
  have hr : Lib.TabIs Tryd.prog W "exchequer/digest.roots" .u32 (List.map (fun (n : Nat) => (n : Int)) roots) := by
    unfold Lib.TabIs
    rw [hv1, ← Lib.cells_of_tab Tryd.underlying132 Tryd.underlying104 cU cR hd1]
  refine ⟨fun j hj => ?_, fun j v hv => ?_, ?_, by simp, by simp⟩
  · have := hr.cell gRoots j (by rw [List.length_map]; exact hj)
    rw [this]
    unfold cu
    congr 2
    rw [List.getD_eq_getElem?_getD, List.getD_eq_getElem?_getD, List.getElem?_map]
    have : j < roots.length := hj
    rw [List.getElem?_eq_getElem this]; rfl
  · have hj := (List.getElem?_eq_some_iff.1 hv).1
    have := hb.cell gBegin j hj
    rw [this]
    have hj8 : j = 0 ∨ j = 1 ∨ j = 2 ∨ j = 3 ∨ j = 4 ∨ j = 5 ∨ j = 6 ∨ j = 7 := by have : j < 8 := hj; omega
    rcases hj8 with rfl | rfl | rfl | rfl | rfl | rfl | rfl | rfl <;> exact hv
  · have := hr.cell gRoots 0 (by decide)
    have := World.block_lt_of_cell? W _ this
    exact this
/-- A world for the witness: the tables hold what their initialisers lay. -/
def layAt (cs : List Value) : Obj → Obj
  | .cells _ t frozen => .cells cs.toArray t frozen
  | o => o
noncomputable def laidWorld (os : Os) : World :=
  { World.holding Tryd.prog os ⟨#[], #[], []⟩ with heap := ((World.holding Tryd.prog os ⟨#[], #[], []⟩).heap.modify 0 (layAt (hc begin8))).modify 1 (layAt (roots.map cu)) }
end Go.Proofs.YtejbljopighenaaDoor
