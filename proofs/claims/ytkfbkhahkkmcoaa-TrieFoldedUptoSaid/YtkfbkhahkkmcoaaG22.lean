/- law08: folded. Tries of which something is folded, plainly. No walk here. The walk of the law TrieFolded. -/
import Derived.Test.YtkfbkhahkkmcoaaG21
namespace Go.Proofs.Ytkfbkhahkkmcoaa
open Go.RowKit
/-- A row as a block. -/
theorem St.rowBlk {w W : World} {gs : List (Option Nat)} {L : Lc} {R : List Row} {fs : List Fact} {e : TypeId} {s n c : Nat} {A : Option Addr} {xs : List Value} (M : St w gs W L (⟨e, s, A, n, c, xs⟩ :: R) fs) (hn : 0 < n) : ∃ g rest, A = some ⟨g, 0, none⟩ ∧ n ≤ c ∧ St w gs W ((g, e, xs ++ rest) :: L) R fs := by
  have hrow := M.row _ (List.mem_cons_self ..)
  rcases hrow.2 with ⟨hv, h0⟩ | ⟨g, cap, cur, hv, hb, hh, h1, h2, h3, h4⟩
  · simp only at h0; omega
  · injection hv with e1 e2 e3
    simp only at e1 e3 h4
    subst e1
    have hx : xs ++ cur.toList.drop (n * s) = cur.toList := by rw [← h4, List.take_append_drop]
    refine ⟨g, cur.toList.drop (n * s), rfl, by dsimp only at h1; omega, ⟨M.below, M.lt, fun y hy => ?_, fun r hr => M.row r (by simp [hr]), ?_, fun f hf => ?_⟩⟩
    · rcases List.mem_cons.1 hy with rfl | hy
      · exact ⟨by show Blk W g e (xs ++ cur.toList.drop (n * s)); rw [hx]; exact hh, hb⟩
      · exact M.blk y hy
    · have hp := List.Perm.pairwise (l' := bk (some ⟨g, 0, none⟩) :: (L.map (fun x => some x.1) ++ R.map (fun r => bk r.A))) (by rw [List.map_cons]; exact List.perm_middle) M.ap (fun h => apart_comm h)
      exact hp
    · refine (M.fct f hf).up ⟨Nat.le_refl _, fun _ _ _ => rfl, fun b _ e => ?_⟩
      unfold own at *
      simp only [List.map_cons, List.cons_append, List.mem_append, List.mem_cons] at e ⊢
      rcases e with e | e | e | e
      · exact .inr (.inl (by rw [e]; rfl))
      · exact .inl e
      · exact .inr (.inr (.inl e))
      · exact .inr (.inr (.inr e))
def foldedP : List UInt8 → Nd → Nd
  | [], t => foldN t
  | x :: w, t => if t.kids = [] then foldN t else .mk t.kind t.path t.has t.val (t.kids.set (x.toNat % t.kids.length) (foldedP w (t.kids.getD (x.toNat % t.kids.length) noneN))) t.hash
theorem u_u8x : (Try.prog.underlying 5).isSome = true := by kernel_rfl
--BEGIN
theorem is_fo8 : isFn Try.prog 49 = true := by kernel_rfl
def Fo8Ok (way : List UInt8) : Prop := ∀ (t : Nd) (gs : List (Option Nat)) (w : World) (cs : List Value) (A1 : Option Addr) (n1 c1 : Nat), sz t ≤ 1000000 → RdL w (Fd w gs) (dN t) cs → RdD w (Fd w gs) (dB way) (.slice A1 n1 c1) → (∀ b, some b ∈ gs → b < w.heap.size) →
  Calls Try.prog 49 #[.agg cs.toArray, .slice A1 n1 c1] w fun e w' => ∃ cs', e = .returned (.agg cs'.toArray) ∧ RdL w' (Fd w' gs) (dN (foldedP way t)) cs' ∧ Below w.heap.size w w'
set_option maxRecDepth 100000 in
set_option maxHeartbeats 2000000 in
theorem folded8_any : ∀ way : List UInt8, Fo8Ok way := by
  intro way
  induction way with
  | nil =>
    intro t gs w cs A1 n1 c1 hz hr hw hgs
    refine calls_ev (args := [.agg cs.toArray, .slice A1 n1 c1]) mixed Try.func49 rfl (by kernel_rfl) ?_
    have en := hw.slen
    obtain ⟨Ap, cp, Av, cv, Ak, ck, Ah, ch, rfl, -⟩ := hr.node
    have M := (St.start hgs).addL hr
    clear hr
    refine s_box (ncs t Ap cp Av cv Ak ck Ah ch) M rfl ?_
    clear M
    rintro g2 W M
    refine s_alloc (zN) M al_nd ?_
    clear M
    rintro g4 W M
    refine p_len slb rfl ?_
    refine p_eq rfl rfl (fun _ => ?_) (fun h => absurd (by rw [en]; rfl) h)
    unfold foldedP
    refine v_loadN (ncs t Ap cp Av cv Ak ck Ah ch) agg_nd rfl rfl (by first | exact M.run 0 rfl | exact M.run 1 rfl | exact M.run 2 rfl | exact M.run 3 rfl | exact M.run 4 rfl | exact M.lc 0 rfl | exact M.lc 1 rfl | exact M.lc 2 rfl | exact M.lc 3 rfl | exact M.lc 4 rfl | exact M.lc 5 rfl | exact M.lc 6 rfl | exact M.lc 7 rfl) ?_
    refine cc is_r7fold (rfold_any t (by omega) _ _ _ (M.da 0 rfl) M.olt) ?_
    rintro e W ⟨cs9, rfl, r9, hb⟩
    have hc9 := r9.len
    rw [dN_len] at hc9
    replace M := M.callF hb r9
    clear r9 hb
    refine ⟨_, rfl, ?_⟩
    refine s_storeA 0 cs9 M rfl sz_nd rfl rfl hc9 ((M.da 0 rfl).ones (dN_one _)) rfl ?_
    clear M; rintro W M
    dsimp only [setL] at M
    refine c_loadN cs9 agg_nd rfl hc9 (M.run 0 rfl) ?_
    exact ⟨cs9, rfl, M.fin 0 rfl, M.below⟩
  | cons x way ih =>
    intro t gs w cs A1 n1 c1 hz hr hw hgs
    refine calls_ev (args := [.agg cs.toArray, .slice A1 n1 c1]) mixed Try.func49 rfl (by kernel_rfl) ?_
    have en := hw.slen
    rw [List.length_cons] at en
    obtain ⟨Ap, cp, Av, cv, Ak, ck, Ah, ch, rfl, r1, r3, r4, r5⟩ := id hr.node
    have M := ((((((St.start hgs).addD r5).addD r3).addD r1).addD hw).addD r4).addL hr
    clear hr hw r1 r3 r4 r5
    refine s_box (ncs t Ap cp Av cv Ak ck Ah ch) M rfl ?_
    clear M
    rintro g2 W M
    refine s_alloc (zN) M al_nd ?_
    clear M
    rintro g4 W M
    refine p_len slb rfl ?_
    refine p_eq rfl rfl (fun h => absurd h (by rw [en]; omega)) (fun _ => ?_)
    refine p_fld fN4 rfl ?_
    refine v_load agg_ns rfl ((M.B 1 rfl).at_ rfl) ?_
    refine p_len sln rfl ?_
    unfold foldedP
    refine p_eq rfl rfl (fun h0 => ?_) (fun h0 => ?_)
    · have hk0 : t.kids = [] := List.eq_nil_of_length_eq_zero (by omega)
      rw [if_pos hk0]
      refine v_loadN (ncs t Ap cp Av cv Ak ck Ah ch) agg_nd rfl rfl (by first | exact M.run 0 rfl | exact M.run 1 rfl | exact M.run 2 rfl | exact M.run 3 rfl | exact M.run 4 rfl | exact M.lc 0 rfl | exact M.lc 1 rfl | exact M.lc 2 rfl | exact M.lc 3 rfl | exact M.lc 4 rfl | exact M.lc 5 rfl | exact M.lc 6 rfl | exact M.lc 7 rfl) ?_
      refine cc is_r7fold (rfold_any t (by omega) _ _ _ (M.da 0 rfl) M.olt) ?_
      rintro e W ⟨cs9, rfl, r9, hb⟩
      have hc9 := r9.len
      rw [dN_len] at hc9
      replace M := M.callF hb r9
      clear r9 hb
      refine ⟨_, rfl, ?_⟩
      refine s_storeA 0 cs9 M rfl sz_nd rfl rfl hc9 ((M.da 0 rfl).ones (dN_one _)) rfl ?_
      clear M; rintro W M
      dsimp only [setL] at M
      refine c_loadN cs9 agg_nd rfl hc9 (M.run 0 rfl) ?_
      exact ⟨cs9, rfl, M.fin 0 rfl, M.below⟩
    have hkl : 0 < t.kids.length := by omega
    rw [if_neg (fun e => by rw [e] at hkl; exact absurd hkl (by decide))]
    have hzs := sz_eq t
    have hsl := szs_len t.kids
    obtain ⟨k, hk⟩ : ∃ k, k = x.toNat % t.kids.length := ⟨_, rfl⟩
    have hkk : k < t.kids.length := by rw [hk]; exact Nat.mod_lt _ hkl
    obtain ⟨kd, hkd⟩ : ∃ kd, t.kids[k]? = some kd := ⟨_, List.getElem?_eq_getElem hkk⟩
    have hgd : t.kids.getD k noneN = kd := by rw [List.getD_eq_getElem?_getD, hkd]; rfl
    rw [← hk, hgd]
    have hkz := szs_mem (List.mem_of_getElem? hkd)
    obtain ⟨b1, o1, es, rfl, hF, hes, hel, hcg⟩ := (M.d1 2 rfl).at_ (i := 0) (by omega)
    have hes2 : es = [.int .u8 (x.toNat : Nat)] := by
      have e1 : ((((bvs (x :: way)).map D.v).drop (0 * 1)).take 1) = [D.v (.int .u8 (x.toNat : Nat))] := rfl
      rw [e1] at hes
      exact hes.vals (xs := [.int .u8 (x.toNat : Nat)])
    subst hes2
    replace M := M.addC (a := (⟨b1, o1, none⟩ : Addr).add (0 * 1)) (cs := [.int .u8 (x.toNat : Nat)]) (by rw [block_of_add]; exact hF) (fun j x hx => by rw [Addr.add_lit, Addr.add_lit]; exact hcg j x hx)
    replace M := M.drew
    refine drT (Kp w gs [(g2, 25, ncs t Ap cp Av cv Ak ck Ah ch)] [.loc ((⟨b1, o1, none⟩ : Addr).add (0 * 1)) [.int .u8 (x.toNat : Nat)]]) (.take 0 (.take 1 (.take 2 (.take 3 (.take 4 (.take 5 (.take 6 (.take 7 (.take 8 (.nil)))))))))) (by kernel_rfl) (M.kp (by simp) (by simp)) ?_
    refine p_at (i := 0) slb rfl rfl rfl (by omega) ?_
    refine t_load agg_by' rfl (fun W K => K.lc 0 rfl 0 _ rfl) ?_
    refine t_cvt u_u8x u_inty rfl (r := ((x.toNat : Nat) : Int)) (w64 (by have := x.toNat_lt; omega)) ?_
    refine p_fld fN4 rfl ?_
    refine t_load agg_ns rfl (fun W K => (K.B 0 rfl).at_ rfl) ?_
    refine p_len sln rfl ?_
    refine p_remN rfl rfl hkl ?_
    rw [← hk]
    refine p_fld fN4 rfl ?_
    refine v_load agg_ns rfl ((M.B 1 rfl).at_ rfl) ?_
    replace M := M.nilR 25 6
    obtain ⟨ys, hrd, hys⟩ := (M.d1 2 rfl).reads Fd.lt
    replace M := M.addL hys
    refine s_app M Try.underlying23 inf_nd rfl (by decide) rfl rfl hrd (hys.ones (dNs_one _)) ⟨by omega, by decide⟩ ?_
    clear M hrd hys; rintro A5 c5 W M -
    rw [Nat.zero_add, List.nil_append] at M
    obtain ⟨g, rest, rfl, hgc, M'⟩ := M.rowBlk hkl
    replace M := M'; clear M'
    have hyl := (M.da 0 rfl).len
    rw [dNs_len] at hyl
    obtain ⟨b, off, es, e0, hel2, M'⟩ := M.kid (M.d1 3 rfl) hkd
    replace M := M'; clear M'
    have hcut := (M.d1 6 rfl).cutB (i := 1) (j := n1) (m := c1) (by omega) (Nat.le_refl _) (M.d1 6 rfl).scap
    rw [List.drop_succ_cons, List.drop_zero, List.take_of_length_le (by omega)] at hcut
    have hcap := (M.d1 6 rfl).scap
    replace M := (M.addD hcut).drew
    clear hcut
    refine drT (Kp w gs [(g2, 25, ncs t Ap cp Av cv Ak ck Ah ch)] [.loc ((⟨b, off, none⟩ : Addr).add (k * 6)) es]) (.take 0 (.take 1 (.take 2 (.take 3 (.take 4 (.take 5 (.take 6 (.take 7 (.take 8 (.one 9 (.take 10 (.one 11 (.nil))))))))))))) (by kernel_rfl) (M.kp (by simp) (by simp)) ?_
    refine p_fld fN4 rfl ?_
    refine t_load agg_ns rfl (fun W K => (K.B 0 rfl).at_ rfl) ?_
    refine p_at (i := k) sln (by show (Value.slice Ak t.kids.length ck) = _; rw [e0]) rfl rfl hkk ?_
    refine t_loadN es agg_nd rfl hel2 (fun W K => K.lc 0 rfl) ?_
    refine p_slice (i := 1) (j := n1) (m := c1) slb rfl (bnd_i rfl) rfl rfl rfl (by omega) hcap (Nat.le_refl _) ?_
    refine cc is_fo8 (ih kd _ _ es _ _ _ (by omega) (M.da 2 rfl) (M.d1 0 rfl) M.olt) ?_
    rintro e W ⟨cs9, rfl, r9, hb⟩
    obtain ⟨Ap9, cp9, Av9, cv9, Ak9, ck9, Ah9, ch9, rfl, -⟩ := r9.node
    replace M := (M.call hb).addL r9
    clear r9 hb
    refine ⟨_, rfl, (M.kp (by simp) (by simp)), ?_⟩
    refine p_atL (i := k) (q := k * 6) sln rfl rfl rfl (by omega) (by omega) ?_
    refine s_storeP 0 (n := 6) (off := k * 6) (ncs (foldedP way kd) Ap9 cp9 Av9 cv9 Ak9 ck9 Ah9 ch9) _ M rfl sz_nd rfl rfl rfl (all1 rfl) (by rw [List.length_append, hyl]; omega) rfl ?_
    clear M; rintro W M
    dsimp only [setL] at M
    refine ⟨(M.kp (by simp) (by simp)), ?_⟩
    have e1 : (ys ++ rest).take (k * 6) = ys.take (k * 6) := List.take_append_of_le_length (by omega)
    have e2 : (ys ++ rest).drop (k * 6 + 6) = ys.drop (k * 6 + 6) ++ rest := List.drop_append_of_le_length (by omega)
    rw [e1, e2, ← List.append_assoc] at M
    have hX := M.dw 4 rfl
    have hX2 := ((hX.take (k * 6)).app (M.dw 0 rfl)).app (hX.drop (k * 6 + 6))
    rw [← dNs_set _ (by omega)] at hX2
    replace M := M.addT hX2
    obtain ⟨ks', hks'⟩ : ∃ ks', ks' = t.kids.set k (foldedP way kd) := ⟨_, rfl⟩
    have hkl' : ks'.length = t.kids.length := by rw [hks', List.length_set]
    rw [← hks'] at M ⊢
    replace M := M.frzB' (fr := false) (s := 6) (n := ks'.length) (c := c5) (M.dt 0 rfl) (dNs_len ks') (by omega)
    refine p_fld fN4 rfl ?_
    refine s_set 1 (.slice (some ⟨g, 0, none⟩) (0 + t.kids.length) c5) [.int .i64 t.kind, .slice Ap t.path.length cp, .bool t.has, .slice Av t.val.length cv, .slice (some ⟨g, 0, none⟩) (0 + t.kids.length) c5, .slice Ah t.hash.length ch] M rfl (by kernel_rfl) rfl rfl rfl (Nat.le_of_ble_eq_true rfl) rfl ?_
    clear M; rintro W M
    dsimp only [setL] at M
    refine v_loadN [.int .i64 t.kind, .slice Ap t.path.length cp, .bool t.has, .slice Av t.val.length cv, .slice (some ⟨g, 0, none⟩) (0 + t.kids.length) c5, .slice Ah t.hash.length ch] agg_nd rfl rfl (M.run 1 rfl) ?_
    refine s_storeA 0 [.int .i64 t.kind, .slice Ap t.path.length cp, .bool t.has, .slice Av t.val.length cv, .slice (some ⟨g, 0, none⟩) (0 + t.kids.length) c5, .slice Ah t.hash.length ch] M rfl sz_nd rfl rfl rfl (all1 rfl) rfl ?_
    clear M; rintro W M
    dsimp only [setL] at M
    refine c_loadN [.int .i64 t.kind, .slice Ap t.path.length cp, .bool t.has, .slice Av t.val.length cv, .slice (some ⟨g, 0, none⟩) (0 + t.kids.length) c5, .slice Ah t.hash.length ch] agg_nd rfl rfl (M.run 0 rfl) ?_
    refine ⟨_, rfl, ?_, M.below⟩
    rw [Nat.zero_add, ← hkl']
    exact RdL.ofnode (t := .mk t.kind t.path t.has t.val ks' t.hash) (M.fin1 11 rfl) (M.fin1 12 rfl) (M.fin1 0 rfl) (M.fin1 13 rfl)
--END
end Go.Proofs.Ytkfbkhahkkmcoaa
namespace Go.Proofs.Ytkfbkhahkkmcoaa
/-- The second one, with something folded. -/
inductive Fo : Nd → Nd → Prop
  | refl (t : Nd) : Fo t t
  | stub (t : Nd) (h0 : t.kind ≠ 0) : Fo (.mk 4 [] false [] [] (hashP t)) t
  | way (p : List UInt8) {k k' : Nd} (h : Fo k k') : Fo (.mk 2 p false [] [k] []) (.mk 2 p false [] [k'] [])
  | branch (has : Bool) (v : List UInt8) (ks ks' : List Nd) (hl : ks.length = ks'.length) (h : ∀ (i : Nat) (k k' : Nd), ks[i]? = some k → ks'[i]? = some k' → Fo k k') : Fo (.mk 3 [] has v ks []) (.mk 3 [] has v ks' [])
theorem Fo.kind {m n : Nd} (h : Fo m n) : (m.kind = 0 ↔ n.kind = 0) ∧ (m.kind ≠ 4 → m.kind = n.kind) := by
  cases h with
  | refl => exact ⟨Iff.rfl, fun _ => rfl⟩
  | stub _ h0 => exact ⟨⟨fun e => absurd (show (4 : Int) = 0 from e) (by decide), fun e => absurd e h0⟩, fun e => absurd rfl e⟩
  | way => exact ⟨⟨fun e => absurd (show (2 : Int) = 0 from e) (by decide), fun e => absurd (show (2 : Int) = 0 from e) (by decide)⟩, fun _ => rfl⟩
  | branch => exact ⟨⟨fun e => absurd (show (3 : Int) = 0 from e) (by decide), fun e => absurd (show (3 : Int) = 0 from e) (by decide)⟩, fun _ => rfl⟩
/-- Kids, each the other's or folded. -/
def Fos (ks ks' : List Nd) : Prop := ks.length = ks'.length ∧ ∀ (i : Nat) (k k' : Nd), ks[i]? = some k → ks'[i]? = some k' → Fo k k'
theorem Fos.refl (ks : List Nd) : Fos ks ks := ⟨rfl, fun i k k' h h' => by rw [h] at h'; injection h' with h'; rw [h']; exact .refl _⟩
theorem Fos.set {ks ks' : List Nd} (h : Fos ks ks') {a b : Nd} (hab : Fo a b) (i : Nat) : Fos (ks.set i a) (ks'.set i b) := by
  refine ⟨by rw [List.length_set, List.length_set]; exact h.1, fun j k k' hk hk' => ?_⟩
  by_cases e : i = j
  · subst e
    have h1 := (List.getElem?_eq_some_iff.1 hk).1
    have h2 := (List.getElem?_eq_some_iff.1 hk').1
    rw [List.length_set] at h1 h2
    rw [List.getElem?_set_self h1] at hk
    rw [List.getElem?_set_self h2] at hk'
    injection hk with hk; injection hk' with hk'
    rw [← hk, ← hk']; exact hab
  · rw [List.getElem?_set_ne e] at hk hk'
    exact h.2 j k k' hk hk'
theorem Fos.tail {k k' : Nd} {ks ks' : List Nd} (h : Fos (k :: ks) (k' :: ks')) : Fo k k' ∧ Fos ks ks' :=
  ⟨h.2 0 k k' rfl rfl, by have := h.1; simpa using this, fun i a b h1 h2 => h.2 (i + 1) a b (by simpa using h1) (by simpa using h2)⟩
theorem Fos.many : ∀ {ks ks' : List Nd}, Fos ks ks' → manyN ks = manyN ks'
  | [], [], _ => rfl
  | [], _ :: _, h => by have := h.1; simp at this
  | _ :: _, [], h => by have := h.1; simp at this
  | k :: ks, k' :: ks', h => by
    obtain ⟨h1, h2⟩ := h.tail
    rw [many_cons, many_cons, Fos.many h2]
    by_cases e : k.kind = 0
    · rw [if_pos e, if_pos (h1.kind.1.1 e)]
    · rw [if_neg e, if_neg (fun e' => e (h1.kind.1.2 e'))]
theorem Fos.scan {has : Bool} : ∀ {ks ks' : List Nd} {i : Nat} {o : Option Nat}, Fos ks ks' → scanK has ks i o = scanK has ks' i o
  | [], [], _, _, _ => rfl
  | [], _ :: _, _, _, h => by have := h.1; simp at this
  | _ :: _, [], _, _, h => by have := h.1; simp at this
  | k :: ks, k' :: ks', i, o, h => by
    obtain ⟨h1, h2⟩ := h.tail
    rw [scanK, scanK]
    by_cases e : k.kind = 0
    · rw [if_pos e, if_pos (h1.kind.1.1 e), Fos.scan h2]
    · rw [if_neg e, if_neg (fun e' => e (h1.kind.1.2 e')), Fos.scan h2]
theorem Fo.val {even : Bool} {m n : Nd} (h : Fo m n) : ∀ d, Val even n d → Val even m d := by
  induction h with
  | refl => exact fun d h => h
  | stub t h0 => exact fun d h => .stub d _ h.le (hashP_len h)
  | way p h ih =>
    intro d hv
    cases hv with
    | way _ _ _ hd hp h0 hk hr =>
      refine .way d p _ hd hp h0 ?_ (ih _ hr)
      rename_i k k'
      by_cases h4 : k.kind = 4
      · exact .inr h4
      · rw [h.kind.2 h4]; exact hk
  | branch has v ks ks' hl h ih =>
    intro d hv
    cases hv with
    | branch _ _ _ _ hd hv hv0 he h16 hr hm =>
      refine .branch d has v ks hd hv hv0 he (hl.trans h16) (fun k hk => ?_) (by rw [Fos.many ⟨hl, h⟩]; exact hm)
      obtain ⟨i, hi⟩ := List.getElem?_of_mem hk
      have hi' := (List.getElem?_eq_some_iff.1 hi).1
      have hk' : ks'[i]? = some (ks'[i]'(by omega)) := List.getElem?_eq_getElem (by omega)
      exact ih i k _ hi hk' _ (hr _ (List.mem_of_getElem? hk'))
theorem hashes_eq : ∀ {ks ks' : List Nd}, ks.length = ks'.length → (∀ (i : Nat) (k k' : Nd), ks[i]? = some k → ks'[i]? = some k' → (k.kind = 0 ↔ k'.kind = 0) ∧ hashP k = hashP k') → hashesP ks = hashesP ks'
  | [], [], _, _ => rfl
  | [], _ :: _, h, _ => by simp at h
  | _ :: _, [], h, _ => by simp at h
  | k :: ks, k' :: ks', h, hh => by
    obtain ⟨h1, h2⟩ := hh 0 k k' rfl rfl
    rw [hashesP, hashesP, hashes_eq (by simpa using h) (fun i a b ha hb => hh (i + 1) a b (by simpa using ha) (by simpa using hb)), h2]
    by_cases e : k.kind = 0
    · rw [if_neg (fun x => x e), if_neg (fun x => x (h1.1 e))]
    · rw [if_pos e, if_pos (fun x => e (h1.2 x))]
theorem kbit_eq {ks ks' : List Nd} (h : Fos ks ks') (i : Nat) : kbit ks i = kbit ks' i := by
  unfold kbit
  have : ((ks.getD i noneN).kind ≠ 0) ↔ ((ks'.getD i noneN).kind ≠ 0) := by
    rw [List.getD_eq_getElem?_getD, List.getD_eq_getElem?_getD]
    rcases Nat.lt_or_ge i ks.length with hi | hi
    · have h1 : ks[i]? = some (ks[i]'hi) := List.getElem?_eq_getElem hi
      have h2 : ks'[i]? = some (ks'[i]'(by have := h.1; omega)) := List.getElem?_eq_getElem (by have := h.1; omega)
      rw [h1, h2]
      exact not_congr (h.2 i _ _ h1 h2).kind.1
    · rw [List.getElem?_eq_none hi, List.getElem?_eq_none (by have := h.1; omega)]
  by_cases e : (ks.getD i noneN).kind ≠ 0
  · rw [if_pos e, if_pos (this.1 e)]
  · rw [if_neg e, if_neg (fun x => e (this.2 x))]
theorem kbits_eq {ks ks' : List Nd} (h : Fos ks ks') : ∀ i, kbits ks i = kbits ks' i
  | 0 => rfl
  | i + 1 => by rw [kbits, kbits, kbits_eq h i, kbit_eq h i]
theorem Fo.hash {m n : Nd} (h : Fo m n) : hashP m = hashP n := by
  induction h with
  | refl => rfl
  | stub t h0 => rw [hashP_eq]; exact if_pos rfl
  | @way p k k' h ih =>
    rw [hashP, hashP, if_neg (by decide), if_neg (by decide), hashes_eq (ks := [k]) (ks' := [k']) rfl (fun i a b ha hb => by
      match i, ha, hb with
      | 0, ha, hb =>
        simp at ha hb
        subst ha; subst hb
        exact ⟨h.kind.1, ih⟩)]
    rfl
  | branch has v ks ks' hl h ih =>
    rw [hashP, hashP, if_neg (by decide), if_neg (by decide), hashes_eq hl (fun i a b ha hb => ⟨(h i a b ha hb).kind.1, ih i a b ha hb⟩)]
    unfold encF
    rw [kbits_eq ⟨hl, h⟩ 16]
theorem ends_down {even : Bool} {d e : Nat} (h : endsP d even = true) (he : e ≤ d) : endsP e false = true := by
  have := endsP_le h
  unfold endsP
  rw [decide_eq_true (show e ≤ 400 by omega)]; rfl
theorem val_down {even : Bool} {t : Nd} {d : Nat} (h : Val even t d) : ∀ e, e ≤ d → Val false t e := by
  induction h with
  | none d hd => exact fun e he => .none e (by omega)
  | leaf d p v hd hp hv hend => exact fun e he => .leaf e p v (by omega) hp hv (ends_down hend (by omega))
  | stub d h hd hh => exact fun e he => .stub e h (by omega) hh
  | way d p k hd hp h0 hk hr ih => exact fun e he => .way e p k (by omega) hp h0 hk (ih _ (by omega))
  | branch d has v ks hd hv hv0 hend h16 hr hm ih => exact fun e he => .branch e has v ks (by omega) hv hv0 (fun x => ends_down (hend x) he) h16 (fun k hk => ih k hk _ (by omega)) hm
theorem hashR_val {even : Bool} {t : Nd} {d : Nat} (h : Val even t d) : hashR t = hashP t := by
  unfold hashR
  rw [right_of_val (val_down h 0 (Nat.zero_le _)), if_pos rfl]
theorem fold_fo {even : Bool} {t : Nd} {d : Nat} (h : Val even t d) : Fo (foldN t) t := by
  unfold foldN
  by_cases e : t.kind = 0
  · rw [if_pos e, kind0 h e]; exact .refl _
  · rw [if_neg e, hashR_val h]; exact .stub t e
theorem folded_fo : ∀ (way : List UInt8) {even : Bool} {t : Nd} {d : Nat}, Val even t d → Fo (foldedP way t) t
  | [], _, _, _, h => fold_fo h
  | x :: w, even, t, d, h => by
    rw [foldedP]
    cases h with
    | none d hd => rw [if_pos (show noneN.kids = [] from rfl)]; exact fold_fo (.none (even := even) d hd)
    | leaf d p v hd hp hv he => rw [if_pos (show (Nd.mk 1 p false v [] []).kids = [] from rfl)]; exact fold_fo (.leaf d p v hd hp hv he)
    | stub d h hd hh => rw [if_pos (show (Nd.mk 4 [] false [] [] h).kids = [] from rfl)]; exact fold_fo (.stub (even := even) d h hd hh)
    | way d p k hd hp h0 hk hr =>
      rw [if_neg (fun e => by cases e)]
      have e : x.toNat % ([k] : List Nd).length = 0 := Nat.mod_one _
      simp only [Nd.kids, Nd.kind, Nd.path, Nd.has, Nd.val, Nd.hash, e]
      exact .way p (folded_fo w hr)
    | branch d has v ks hd hv hv0 he h16 hr hm =>
      have hne : (Nd.mk 3 [] has v ks []).kids ≠ [] := fun e => by
        have e2 : ks = [] := e
        rw [e2] at h16; cases h16
      rw [if_neg hne]
      simp only [Nd.kids, Nd.kind, Nd.path, Nd.has, Nd.val, Nd.hash]
      have hlt : x.toNat % ks.length < ks.length := Nat.mod_lt _ (by omega)
      obtain ⟨k, hk⟩ : ∃ k, ks[x.toNat % ks.length]? = some k := ⟨_, List.getElem?_eq_getElem hlt⟩
      have hg : ks.getD (x.toNat % ks.length) noneN = k := by rw [List.getD_eq_getElem?_getD, hk]; rfl
      rw [hg]
      have hs := (Fos.refl ks).set (folded_fo w (hr k (List.mem_of_getElem? hk))) (x.toNat % ks.length)
      have e : ks.set (x.toNat % ks.length) k = ks := by
        refine List.ext_getElem? fun i => ?_
        by_cases e : x.toNat % ks.length = i
        · subst e
          rw [List.getElem?_set_self hlt, hk]
        · rw [List.getElem?_set_ne e]
      rw [e] at hs
      exact .branch has v _ ks hs.1 hs.2
theorem Fo.get {even : Bool} {m n : Nd} (h : Fo m n) : ∀ d, Val even n d → ∀ q, halvesB q = true → getP m q = getP n q ∨ ∃ r, (getP m q).miss = some r ∧ r <+: q := by
  induction h with
  | refl => exact fun _ _ _ _ => .inl rfl
  | stub t h0 => exact fun _ _ q _ => .inr ⟨[], by rw [getP_stub], List.nil_prefix⟩
  | way p h ih =>
    intro d hv q hq
    cases hv with
    | way _ _ _ hd hp h0 hk hr =>
      by_cases hpq : p <+: q
      · rw [getP_way hpq, getP_way hpq]
        rcases ih _ hr (q.drop p.length) (halvesB_drop hq) with e | ⟨r, e1, e2⟩
        · exact .inl (by rw [e])
        · refine .inr ⟨p ++ r, by simp only [e1]; rfl, ?_⟩
          obtain ⟨s, rfl⟩ := hpq
          rw [List.drop_left] at e2
          exact (List.prefix_append_right_inj _).2 e2
      · exact .inl (by rw [getP_way0 hpq, getP_way0 hpq])
  | branch has v ks ks' hl h ih =>
    intro d hv q hq
    cases hv with
    | branch _ _ _ _ hd hv hv0 he h16 hr hm =>
      match q, hq with
      | [], _ => exact .inl (by rw [getP_br0, getP_br0])
      | x :: q', hq =>
        have hx := halves_hd hq
        obtain ⟨k, hk⟩ : ∃ k, ks[x.toNat]? = some k := ⟨_, List.getElem?_eq_getElem (by omega)⟩
        obtain ⟨k', hk'⟩ : ∃ k', ks'[x.toNat]? = some k' := ⟨_, List.getElem?_eq_getElem (by omega)⟩
        rw [getP_br hk, getP_br hk']
        rcases ih _ k k' hk hk' _ (hr k' (List.mem_of_getElem? hk')) q' (by have := halvesB_drop (n := 1) hq; simpa using this) with e | ⟨r, e1, e2⟩
        · exact .inl (by rw [e])
        · exact .inr ⟨x :: r, by simp only [e1]; rfl, List.cons_prefix_cons.2 ⟨rfl, e2⟩⟩
theorem Fo.along {a b : Nd} (h : Fo a b) (p : List UInt8) : Fo (alongN p a) (alongN p b) := by
  unfold alongN
  split
  · exact h
  · exact .way p h
theorem Fos.hold {ks ks' : List Nd} (h : Fos ks ks') (has : Bool) (v p val : List UInt8) : (holdK has v ks p val).1 = (holdK has v ks' p val).1 ∧ (holdK has v ks p val).2.1 = (holdK has v ks' p val).2.1 ∧ Fos (holdK has v ks p val).2.2 (holdK has v ks' p val).2.2 := by
  cases p with
  | nil => exact ⟨rfl, rfl, h⟩
  | cons x r => exact ⟨rfl, rfl, h.set (.refl _) _⟩
theorem Fo.fork {k k' : Nd} (h : Fo k k') (p q val : List UInt8) : Fo (forkN (.mk 2 p false [] [k] []) q val) (forkN (.mk 2 p false [] [k'] []) q val) := by
  unfold forkN
  simp only [Nd.path, Nd.kind, Nd.val, Nd.kids, List.headD_cons, Int.reduceEq, if_false]
  refine Fo.along ?_ _
  obtain ⟨h1, h2, h3⟩ := ((Fos.refl (noneNs 16)).set (h.along (p.drop (commonB p q + 1))) (p.getD (commonB p q) 0).toNat).hold false [] (q.drop (commonB p q)) val
  rw [h1, h2]
  exact .branch _ _ _ _ h3.1 h3.2
theorem Fo.put {even : Bool} {m n : Nd} (h : Fo m n) : ∀ d, Val even n d → ∀ q val, halvesB q = true → (getP m q).miss = none → Fo (putP m q val).1 (putP n q val).1 := by
  induction h with
  | refl => exact fun _ _ _ _ _ _ => .refl _
  | stub t h0 => intro _ _ q _ _ hm; rw [getP_stub] at hm; cases hm
  | way p h ih =>
    intro d hv q val hq hm
    cases hv with
    | way _ _ _ hd hp h0 hk hr =>
      by_cases hpq : p <+: q
      · rw [getP_way hpq] at hm
        rw [putP_way hpq, putP_way hpq]
        exact .way p (ih _ hr _ val (halvesB_drop hq) (by simpa using hm))
      · rw [putP_way0 hpq, putP_way0 hpq]
        exact h.fork p q val
  | branch has v ks ks' hl h ih =>
    intro d hv q val hq hm
    cases hv with
    | branch _ _ _ _ hd hv hv0 he h16 hr hm' =>
      match q, hq, hm with
      | [], _, _ => rw [putP_br0, putP_br0]; exact .branch _ _ _ _ hl h
      | x :: q', hq, hm =>
        have hx := halves_hd hq
        obtain ⟨k, hk⟩ : ∃ k, ks[x.toNat]? = some k := ⟨_, List.getElem?_eq_getElem (by omega)⟩
        obtain ⟨k', hk'⟩ : ∃ k', ks'[x.toNat]? = some k' := ⟨_, List.getElem?_eq_getElem (by omega)⟩
        rw [getP_br hk] at hm
        rw [putP_br hk, putP_br hk']
        have := Fos.set (ks := ks) (ks' := ks') ⟨hl, h⟩ (ih _ k k' hk hk' _ (hr k' (List.mem_of_getElem? hk')) q' val (by have := halvesB_drop (n := 1) hq; simpa using this) (by simpa using hm)) x.toNat
        exact .branch _ _ _ _ this.1 this.2
theorem Fo.behind {a b : Nd} (h : Fo a b) (h4 : a.kind ≠ 4) (p : List UInt8) : Fo (behindN p a) (behindN p b) := by
  cases h with
  | refl => exact .refl _
  | stub => exact absurd rfl h4
  | way p' h => rw [behind_way, behind_way]; exact .way _ h
  | branch has v ks ks' hl h => rw [behind_br, behind_br]; exact (Fo.branch has v ks ks' hl h).along p
theorem Fos.settle {ks ks' : List Nd} (h : Fos ks ks') (h16 : ks.length = 16) (has : Bool) (v : List UInt8) (hm : (settleP (.mk 3 [] has v ks [])).2 = none) : Fo (settleP (.mk 3 [] has v ks [])).1 (settleP (.mk 3 [] has v ks' [])).1 := by
  unfold settleP at hm ⊢
  dsimp only [Nd.has, Nd.kids, Nd.val] at hm ⊢
  rw [← Fos.scan h]
  cases hs : scanK has ks 0 none with
  | none => exact .branch _ _ _ _ h.1 h.2
  | some o =>
    cases o with
    | none => exact .refl _
    | some i =>
      rw [hs] at hm
      dsimp only at hm ⊢
      have hi : i < ks.length := by
        rcases scan_lt hs with h | h
        · cases h
        · omega
      have h1 : ks[i]? = some (ks[i]'hi) := List.getElem?_eq_getElem hi
      have h2 : ks'[i]? = some (ks'[i]'(by have := h.1; omega)) := List.getElem?_eq_getElem (by have := h.1; omega)
      have e1 : ks.getD i noneN = ks[i]'hi := by rw [List.getD_eq_getElem?_getD, h1]; rfl
      have e2 : ks'.getD i noneN = ks'[i]'(by have := h.1; omega) := by rw [List.getD_eq_getElem?_getD, h2]; rfl
      simp only [e1, e2] at hm ⊢
      have hf := h.2 i _ _ h1 h2
      by_cases h4 : (ks[i]'hi).kind = 4
      · rw [if_pos h4] at hm; cases hm
      · rw [if_neg h4, if_neg (by rw [← hf.kind.2 h4]; exact h4)]
        exact hf.behind h4 _
theorem Fo.drop {even : Bool} {m n : Nd} (h : Fo m n) : ∀ d, Val even n d → ∀ q, halvesB q = true → (getP m q).has = true → (dropP m q).2 = none → (dropP n q).2 = none → Fo (dropP m q).1 (dropP n q).1 := by
  induction h with
  | refl => exact fun _ _ _ _ _ _ _ => .refl _
  | stub t h0 => intro _ _ q _ hm; rw [getP_stub] at hm; cases hm
  | @way p k k' h ih =>
    intro d hv q hq hg hm hn
    have hvm := (Fo.way p h).val d hv
    cases hv with
    | way _ _ _ hd hp h0 hk hr =>
      have hpre : p <+: q := by
        rcases Classical.em (p <+: q) with h | h
        · exact h
        · rw [getP_way0 h] at hg; cases hg
      rw [getP_way hpre] at hg
      rw [dropP_way] at hm
      rw [dropP_way, dropP_way]
      have hm' : (dropP k (q.drop p.length)).2 = none := by simpa using hm
      rw [dropP_way] at hn
      have := ih _ hr _ (halvesB_drop hq) hg hm' (by simpa using hn)
      refine this.behind ?_ p
      cases hvm with
      | way _ _ _ _ _ _ _ hr2 => exact ((drop_items hr2 _ (halvesB_drop hq) hg).1 hm').2.1
  | branch has v ks ks' hl h ih =>
    intro d hv q hq hg hmm hn
    have hvm := (Fo.branch has v ks ks' hl h).val d hv
    cases hv with
    | branch _ _ _ _ hd hv hv0 he h16 hr hm =>
      match q, hq, hg, hmm, hn with
      | [], _, _, hmm, _ =>
        rw [dropP_br0] at hmm
        rw [dropP_br0, dropP_br0]
        exact Fos.settle ⟨hl, h⟩ (by omega) _ _ hmm
      | x :: q', hq, hg, hmm, hn =>
        have hx := halves_hd hq
        obtain ⟨k, hk⟩ : ∃ k, ks[x.toNat]? = some k := ⟨_, List.getElem?_eq_getElem (by omega)⟩
        obtain ⟨k', hk'⟩ : ∃ k', ks'[x.toNat]? = some k' := ⟨_, List.getElem?_eq_getElem (by omega)⟩
        rw [getP_br hk] at hg
        rw [dropP_br hk] at hmm
        rw [dropP_br hk'] at hn
        rw [dropP_br hk, dropP_br hk']
        cases hd2 : (dropP k q').2 with
        | some r => rw [hd2] at hmm; simp at hmm
        | none =>
          have hd3 : (dropP k' q').2 = none := by
            cases hd3 : (dropP k' q').2 with
            | none => rfl
            | some r => rw [hd3] at hn; simp at hn
          have hq' : halvesB q' = true := by have := halvesB_drop (n := 1) hq; simpa using this
          have hF := ih _ k k' hk hk' _ (hr k' (List.mem_of_getElem? hk')) q' hq' hg hd2 hd3
          rw [hd2] at hmm
          rw [hd3]
          simp only [Option.isSome_none, Bool.false_eq_true, if_false] at hmm ⊢
          exact Fos.settle (Fos.set ⟨hl, h⟩ hF x.toNat) (by rw [List.length_set]; omega) _ _ hmm
theorem fold_full {m n : Nd} (h : Fo m n) (hn : Full n) : Val true m 0 := h.val 0 hn.1
theorem fold_get {m n : Nd} (h : Fo m n) (hn : Full n) {k : List UInt8} (hk : k.length ≤ 200) :
    (∃ r, (getP m (ofB k)).miss = some r ∧ r <+: ofB k ∧ tGet m k = ⟨[], false, some r, 80⟩) ∨ ((getP m (ofB k)).miss = none ∧ tGet m k = tGet n k ∧ (tGet n k).e = 0) := by
  have hv := fold_full h hn
  have ht := tri_of (nk := k.length) (nv := 0) hv hk (by decide)
  obtain ⟨v, has, e, _, _⟩ := tGet_full hn hk
  rcases h.get 0 hn.1 (ofB k) (halvesB_ofB k) with e2 | ⟨r, e2, e3⟩
  · right
    have hm := (get_prs hn k).1
    refine ⟨by rw [e2]; exact hm, ?_, by rw [e]⟩
    unfold tGet
    rw [ht, full_tri hn hk (by decide), e2]
  · left
    refine ⟨r, e2, e3, ?_⟩
    unfold tGet
    rw [ht, if_pos rfl, e2]
theorem fold_put {m n : Nd} (h : Fo m n) (hn : Full n) {k v : List UInt8} (hk : k.length ≤ 200) (hl : v.length ≤ 4000) :
    (∀ r, (getP m (ofB k)).miss = some r → tPut m k v = (noneN, some r, 80)) ∧ ((getP m (ofB k)).miss = none → ∃ c, tPut m k v = (c, none, 0) ∧ hashR c = hashR (tPut n k v).1) := by
  have hv := fold_full h hn
  have ht := tri_of (nk := k.length) (nv := v.length) hv hk hl
  have he := put_get_miss hv (ofB k) v (halvesB_ofB k)
  obtain ⟨t', e, f, _, _⟩ := tPut_full hn hk hl
  have ed : (putP n (ofB k) v).1 = t' := by
    have e2 := e
    unfold tPut at e2
    rw [full_tri hn hk hl, if_pos rfl, (put_prs hn hk hl).1] at e2
    exact congrArg Prod.fst e2
  refine ⟨fun r hr => ?_, fun hm => ?_⟩
  · unfold tPut
    rw [ht, if_pos rfl, he, hr]
  · refine ⟨(putP m (ofB k) v).1, ?_, ?_⟩
    · unfold tPut
      rw [ht, if_pos rfl, he, hm]
    · have hF := h.put 0 hn.1 (ofB k) v (halvesB_ofB k) hm
      rw [e]
      dsimp only
      rw [ed] at hF
      rw [hashR_val (hF.val 0 f.1), hashR_val f.1, hF.hash]
theorem fold_drop {m n : Nd} (h : Fo m n) (hn : Full n) {k : List UInt8} (hk : k.length ≤ 200) :
    (∀ r, (getP m (ofB k)).miss = some r → tDrop m k = ⟨noneN, false, some r, 80⟩) ∧
    ((getP m (ofB k)).miss = none → tGet m k = tGet n k → (∃ r, tDrop m k = ⟨noneN, false, some r, 80⟩) ∨ ∃ x gone, tDrop m k = ⟨x, gone, none, 0⟩ ∧ (tDrop n k).has = gone ∧ hashR x = hashR (tDrop n k).t) := by
  have hv := fold_full h hn
  have ht := tri_of (nk := k.length) (nv := 0) hv hk (by decide)
  refine ⟨fun r hr => ?_, fun hm hg => ?_⟩
  · have : tGet m k = ⟨[], false, some r, 80⟩ := by
      unfold tGet
      rw [ht, if_pos rfl, hr]
    unfold tDrop
    rw [this]; rfl
  · obtain ⟨v, has, e, _, _⟩ := tGet_full hn hk
    rw [e] at hg
    have hgm : (getP m (ofB k)).has = has := by
      have h2 := hg
      unfold tGet at h2
      rw [ht, if_pos rfl, hm] at h2
      dsimp only at h2
      split at h2
      · rename_i hh
        have := congrArg GotE.has h2
        rw [hh]; exact this
      · rename_i hh
        have := congrArg GotE.has h2
        have h3 : (getP m (ofB k)).has = false := by cases hq : (getP m (ofB k)).has with | true => exact absurd hq hh | false => rfl
        rw [h3]; exact this
    have hgn : (getP n (ofB k)).has = has := by
      have h2 := e
      unfold tGet at h2
      rw [full_tri hn hk (by decide), if_pos rfl, (get_prs hn k).1] at h2
      dsimp only at h2
      split at h2
      · rename_i hh
        have := congrArg GotE.has h2
        rw [hh]; exact this
      · rename_i hh
        have := congrArg GotE.has h2
        have h3 : (getP n (ofB k)).has = false := by cases hq : (getP n (ofB k)).has with | true => exact absurd hq hh | false => rfl
        rw [h3]; exact this
    unfold tDrop
    rw [e, hg]
    dsimp only
    rw [if_pos rfl, if_pos rfl]
    cases has with
    | false =>
      rw [if_neg (by decide), if_neg (by decide)]
      exact .inr ⟨_, _, rfl, rfl, by rw [hashR_val hv, hashR_val hn.1, h.hash]⟩
    | true =>
      rw [if_pos rfl, if_pos rfl]
      obtain ⟨d1, d2, _⟩ := drop_prs hn hgn
      rw [d1]
      cases hd : (dropP m (ofB k)).2 with
      | some r => exact .inl ⟨r, rfl⟩
      | none =>
        have hF := h.drop 0 hn.1 (ofB k) (halvesB_ofB k) hgm hd d1
        refine .inr ⟨_, _, rfl, rfl, ?_⟩
        dsimp only
        rw [hashR_val (hF.val 0 d2.1), hashR_val d2.1, hF.hash]
theorem fold_stub {m n : Nd} (h : Fo m n) (hn : Full n) (h4 : m.kind = 4) (q : List UInt8) : (getP m q).miss = some [] := by
  have hv := fold_full h hn
  cases hv with
  | stub => rw [getP_stub]
  | none => cases h4
  | leaf => cases h4
  | way => cases h4
  | branch => cases h4
mutual
theorem sz_foldN {even : Bool} {t : Nd} {d : Nat} (h : Val even t d) : sz (foldN t) ≤ sz t + 38 := by
  unfold foldN
  split
  · have e : sz noneN = 6 := rfl
    rw [e]; omega
  · rw [sz, hashR_val h, szs]
    have := hashP_len h
    simp only [List.length_nil]; omega
end
theorem sz_folded : ∀ (way : List UInt8) {even : Bool} {t : Nd} {d : Nat}, Val even t d → sz (foldedP way t) ≤ sz t + 38
  | [], _, _, _, h => sz_foldN h
  | x :: w, even, t, d, h => by
    rw [foldedP]
    split
    · exact sz_foldN h
    · rename_i hne
      have hlt : x.toNat % t.kids.length < t.kids.length := Nat.mod_lt _ (by cases hq : t.kids with | nil => exact absurd hq hne | cons a b => simp)
      obtain ⟨k, hk⟩ : ∃ k, t.kids[x.toNat % t.kids.length]? = some k := ⟨_, List.getElem?_eq_getElem hlt⟩
      have hg : t.kids.getD (x.toNat % t.kids.length) noneN = k := by rw [List.getD_eq_getElem?_getD, hk]; rfl
      rw [hg]
      have hkv : ∃ e, Val even k e := by
        have hm := List.mem_of_getElem? hk
        cases h with
        | none => cases hm
        | leaf => cases hm
        | stub => cases hm
        | way _ _ k' _ _ _ _ hr =>
          have : k = k' := List.mem_singleton.1 (show k ∈ [k'] from hm)
          rw [this]; exact ⟨_, hr⟩
        | branch _ _ _ ks _ _ _ _ _ hr => exact ⟨_, hr k hm⟩
      obtain ⟨e, hv⟩ := hkv
      have h1 := sz_folded w hv
      have h2 := szs_set_eq (k' := foldedP w k) hk
      have h3 := sz_eq t
      rw [sz]
      omega
end Go.Proofs.Ytkfbkhahkkmcoaa
namespace Go.Proofs.Ytkfbkhahkkmcoaa
open Go.RowKit

set_option maxRecDepth 100000 in
set_option maxHeartbeats 8000000 in
theorem trieFolded_walk (w : World) {A0 : Option Addr} {n0 c0 : Nat} {l : List Pr} (g0 : RdD w (Fd w []) (dPl l) (.slice A0 n0 c0)) (b0 : (l.map fun t => t.k.length + t.v.length + 3).sum ≤ 1048576) {A1 : Option Addr} {n1 c1 : Nat} {way : List UInt8} (g1 : RdD w (Fd w []) (dB way) (.slice A1 n1 c1)) (_b1 : way.length ≤ 1048576)
    {A2 : Option Addr} {n2 c2 : Nat} {key : List UInt8} (g2 : RdD w (Fd w []) (dB key) (.slice A2 n2 c2)) (_b2 : key.length ≤ 1048576) {A3 : Option Addr} {n3 c3 : Nat} {val : List UInt8} (g3 : RdD w (Fd w []) (dB val) (.slice A3 n3 c3)) (_b3 : val.length ≤ 1048576) :
    Calls Try.prog 14 #[.slice A0 n0 c0, .slice A1 n1 c1, .slice A2 n2 c2, .slice A3 n3 c3] w (RetTrue w) := by
  refine calls_ev (args := [.slice A0 n0 c0, .slice A1 n1 c1, .slice A2 n2 c2, .slice A3 n3 c3]) mixed Try.func14 rfl (by kernel_rfl) ?_
  have hu := longN_up l
  have en1 := g1.slen
  have en2 := g2.slen
  have en3 := g3.slen
  have M := ((((St.start (w := w) (gs := []) (fun b h => by cases h)).addD g3).addD g2).addD g1).addD g0
  clear g0 g1 g2 g3
  refine cc is_long8 (long8_any l _ _ A0 _ _ (M.d1 0 rfl) M.olt (by omega)) ?_
  rintro e W ⟨he, hb⟩
  obtain ⟨q, hq⟩ : ∃ q, q = decide (longN l > 9000) := ⟨_, rfl⟩
  rw [← hq] at he
  subst he
  replace M := M.call hb
  clear hb
  refine ⟨_, rfl, ?_⟩
  cases q with
  | true =>
    refine cc is_kn8 (known8_any _) ?_
    rintro e W ⟨rfl, hb⟩
    replace M := M.call hb
    clear hb
    exact ⟨_, rfl, rfl, M.below⟩
  | false =>
  have hlong : ¬ longN l > 9000 := of_decide_eq_false hq.symm
  clear hq
  refine p_len slb rfl ?_
  refine p_gt rfl rfl (fun k1 => ?_) (fun k1 => ?_)
  ·
    refine cc is_kn8 (known8_any _) ?_
    rintro e W ⟨rfl, hb⟩
    replace M := M.call hb
    clear hb
    exact ⟨_, rfl, rfl, M.below⟩
  refine p_len slb rfl ?_
  refine p_gt rfl rfl (fun k2 => ?_) (fun k2 => ?_)
  ·
    refine cc is_kn8 (known8_any _) ?_
    rintro e W ⟨rfl, hb⟩
    replace M := M.call hb
    clear hb
    exact ⟨_, rfl, rfl, M.below⟩
  refine p_len slb rfl ?_
  refine p_gt rfl rfl (fun k3 => ?_) (fun k3 => ?_)
  ·
    refine cc is_kn8 (known8_any _) ?_
    rintro e W ⟨rfl, hb⟩
    replace M := M.call hb
    clear hb
    exact ⟨_, rfl, rfl, M.below⟩
  have hk : key.length ≤ 200 := by omega
  have hv : val.length ≤ 4000 := by omega
  have hbl := prBulk_up l
  obtain ⟨T, hT⟩ : ∃ T, T = tOf l := ⟨_, rfl⟩
  have hTz : sz T.1 ≤ 200000 := by
    have h1 := tOf_sz l
    rw [← hT] at h1
    omega
  refine cc is_r8of (r8of_any 401 (Nat.le_refl _) l _ _ _ _ _ (M.d1 0 rfl) M.olt (longN_big (by omega))) ?_
  rintro e W ⟨cs9, he, hres, hb⟩
  rw [← tOf_eq (Nat.le_refl _), ← hT] at he hres
  subst he
  have hc9 := hres.len
  rw [dN_len] at hc9
  replace M := (M.call hb).addL hres
  clear hres hb
  refine ⟨_, rfl, ?_⟩
  refine s_alloc (zN) M al_nd ?_
  clear M
  rintro g9 W M
  refine s_storeA 0 cs9 M rfl sz_nd rfl rfl hc9 ((M.da 0 rfl).ones (dN_one _)) rfl ?_
  clear M; rintro W M
  dsimp only [setL] at M
  refine p_ne rfl rfl (fun hT2 => ?_) (fun _ => ?_)
  rotate_left
  ·
    refine cc is_kn8 (known8_any _) ?_
    rintro e W ⟨rfl, hb⟩
    replace M := M.call hb
    clear hb
    exact ⟨_, rfl, rfl, M.below⟩
  obtain ⟨hlp, hF, hr⟩ := of_ok hT hT2
  have hFo := folded_fo way hF.1
  have hmz := sz_folded way hF.1
  obtain ⟨m, hm⟩ : ∃ m, m = foldedP way T.1 := ⟨_, rfl⟩
  refine v_loadN cs9 agg_nd rfl hc9 (M.run 0 rfl) ?_
  refine cc is_fo8 (folded8_any way T.1 _ _ cs9 _ _ _ (by omega) (M.da 0 rfl) (M.d1 2 rfl) M.olt) ?_
  rintro e W ⟨cs11, rfl, hres, hb⟩
  rw [← hm] at hres hFo hmz
  have hc11 := hres.len
  rw [dN_len] at hc11
  replace M := (M.call hb).addL hres
  clear hres hb
  refine ⟨_, rfl, ?_⟩
  refine s_alloc (zN) M al_nd ?_
  clear M
  rintro g11 W M
  refine s_storeA 0 cs11 M rfl sz_nd rfl rfl hc11 ((M.da 0 rfl).ones (dN_one _)) rfl ?_
  clear M; rintro W M
  dsimp only [setL] at M
  obtain ⟨G1, hG1⟩ : ∃ G, G = tGet m key := ⟨_, rfl⟩
  obtain ⟨G2, hG2⟩ : ∃ G, G = tGet T.1 key := ⟨_, rfl⟩
  obtain ⟨P1, hP1⟩ : ∃ G, tPut m key val = G := ⟨_, rfl⟩
  obtain ⟨P2, hP2⟩ : ∃ G, tPut T.1 key val = G := ⟨_, rfl⟩
  obtain ⟨D1, hD1⟩ : ∃ G, G = tDrop m key := ⟨_, rfl⟩
  obtain ⟨D2, hD2⟩ : ∃ G, G = tDrop T.1 key := ⟨_, rfl⟩
  have zp1 : sz P1.1 ≤ 1000000 := by rw [← hP1]; have := tPut_sz' (t := m) (k := key) (v := val); omega
  have zp2 : sz P2.1 ≤ 1000000 := by rw [← hP2]; have := tPut_sz' (t := T.1) (k := key) (v := val); omega
  have zd1 : sz D1.t ≤ 1000000 := by rw [hD1]; have := tDrop_sz' (t := m) (k := key); omega
  have zd2 : sz D2.t ≤ 1000000 := by rw [hD2]; have := tDrop_sz' (t := T.1) (k := key); omega
  refine v_loadN cs11 agg_nd rfl hc11 (M.run 0 rfl) ?_
  refine cc is_tGet (tGet_any m (by omega) _ _ _ key _ _ _ (M.da 0 rfl) (M.d1 4 rfl) M.olt) ?_
  rintro e W ⟨Av, nv, c12, Am1, nm1, cm1, he, rv, rm, hb⟩
  rw [← hG1] at he rv rm
  try dsimp only at he rv rm
  subst he
  replace M := M.callF2 hb rv rm.toD
  clear rv rm hb
  refine ⟨_, rfl, ?_⟩
  refine v_loadN cs9 agg_nd rfl hc9 (M.run 1 rfl) ?_
  refine cc is_tGet (tGet_any T.1 (by omega) _ _ _ key _ _ _ (M.da 3 rfl) (M.d1 6 rfl) M.olt) ?_
  rintro e W ⟨Av, nv, c16, Am, nm, cm, he, rv, rm, hb⟩
  rw [← hG2] at he rv rm
  try dsimp only at he rv rm
  subst he
  replace M := M.callF2 hb rv rm.toD
  clear rv rm hb
  refine ⟨_, rfl, ?_⟩
  refine v_loadN cs11 agg_nd rfl hc11 (M.run 0 rfl) ?_
  refine cc is_tPut (tPut_any m (by omega) key val _ _ _ _ _ _ _ _ _ (M.da 4 rfl) (M.d1 8 rfl) (M.d1 9 rfl) M.olt) ?_
  rintro e W ⟨cs20, Am3, nm3, cm3, he, rv, rm, hb⟩
  rw [hP1] at he rv rm
  subst he
  have hc20 := rv.len
  rw [dN_len] at hc20
  replace M := M.callFD hb rv rm.toD
  clear rv rm hb
  refine ⟨_, rfl, ?_⟩
  refine s_alloc (zN) M al_nd ?_
  clear M
  rintro g20 W M
  refine s_storeA 0 cs20 M rfl sz_nd rfl rfl hc20 ((M.da 0 rfl).ones (dN_one _)) rfl ?_
  clear M; rintro W M
  dsimp only [setL] at M
  refine v_loadN cs9 agg_nd rfl hc9 (M.run 2 rfl) ?_
  refine cc is_tPut (tPut_any T.1 (by omega) key val _ _ _ _ _ _ _ _ _ (M.da 7 rfl) (M.d1 10 rfl) (M.d1 11 rfl) M.olt) ?_
  rintro e W ⟨cs23, Am4, nm4, cm4, he, rv, rm, hb⟩
  rw [hP2] at he rv
  subst he
  have hc23 := rv.len
  rw [dN_len] at hc23
  replace M := (M.call hb).addL rv
  clear rv rm hb
  refine ⟨_, rfl, ?_⟩
  refine s_alloc (zN) M al_nd ?_
  clear M
  rintro g23 W M
  refine s_storeA 0 cs23 M rfl sz_nd rfl rfl hc23 ((M.da 0 rfl).ones (dN_one _)) rfl ?_
  clear M; rintro W M
  dsimp only [setL] at M
  refine v_loadN cs11 agg_nd rfl hc11 (M.run 2 rfl) ?_
  refine cc is_tDrop (tDrop_any m (by omega) key _ _ _ _ _ _ (M.da 7 rfl) (M.d1 11 rfl) M.olt) ?_
  rintro e W ⟨cs26, Am5, nm5, cm5, he, rv, rm, hb⟩
  rw [← hD1] at he rv rm
  subst he
  have hc26 := rv.len
  rw [dN_len] at hc26
  replace M := M.callFD hb rv rm.toD
  clear rv rm hb
  refine ⟨_, rfl, ?_⟩
  refine s_alloc (zN) M al_nd ?_
  clear M
  rintro g26 W M
  refine s_storeA 0 cs26 M rfl sz_nd rfl rfl hc26 ((M.da 0 rfl).ones (dN_one _)) rfl ?_
  clear M; rintro W M
  dsimp only [setL] at M
  refine v_loadN cs9 agg_nd rfl hc9 (M.run 4 rfl) ?_
  refine cc is_tDrop (tDrop_any T.1 (by omega) key _ _ _ _ _ _ (M.da 10 rfl) (M.d1 13 rfl) M.olt) ?_
  rintro e W ⟨cs30, Am6, nm6, cm6, he, rv, rm, hb⟩
  rw [← hD2] at he rv
  subst he
  have hc30 := rv.len
  rw [dN_len] at hc30
  replace M := (M.call hb).addL rv
  clear rv rm hb
  refine ⟨_, rfl, ?_⟩
  refine s_alloc (zN) M al_nd ?_
  clear M
  rintro g30 W M
  refine s_storeA 0 cs30 M rfl sz_nd rfl rfl hc30 ((M.da 0 rfl).ones (dN_one _)) rfl ?_
  clear M; rintro W M
  dsimp only [setL] at M
  have zp1' : sz P1.1 ≤ 90000000 := by omega
  have zp2' : sz P2.1 ≤ 90000000 := by omega
  have zd1' : sz D1.t ≤ 90000000 := by omega
  have zd2' : sz D2.t ≤ 90000000 := by omega
  have hn2a : n2 ≤ 100000000000 := by omega
  have hn2b : 2 * n2 ≤ 1000000000 := by omega
  clear zp1 zp2 zd1 zd2 hmz hTz hu hbl
  obtain ⟨fp1, fp2⟩ := fold_put hFo hF hk hv
  obtain ⟨fd1, fd2⟩ := fold_drop hFo hF hk
  replace M := M.drew
  refine drT (Kp w [] [(g30, 25, cs30), (g26, 25, cs26), (g23, 25, cs23), (g20, 25, cs20)] []) (.take 0 (.take 1 (.take 2 (.take 3 (.take 4 (.take 5 (.take 6 (.take 7 (.take 8 (.one 9 (.take 10 (.take 11 (.take 12 (.take 13 (.take 14 (.take 15 (.take 16 (.take 17 (.take 19 (.one 18 (.one 20 (.one 21 (.take 22 (.take 23 (.take 24 (.take 25 (.take 26 (.take 27 (.take 28 (.take 29 (.take 30 (.take 31 (.take 32 (.take 33 (.take 35 (.one 34 (.one 36 (.one 37 (.take 38 (.take 39 (.take 40 (.take 41 (.nil))))))))))))))))))))))))))))))))))))))))))) (by kernel_rfl) (M.kp (by simp) (by simp)) ?_
  rcases fold_get hFo hF hk with ⟨r, e1, e2, e3⟩ | ⟨e1, e2, e3⟩
  · rw [e3] at hG1
    rw [fp1 r e1] at hP1
    rw [fd1 r e1] at hD1
    subst hG1; subst hP1; subst hD1
    dsimp only at M
    refine p_eq rfl rfl (fun e => absurd (show (80 : Int) = 0 from e) (by decide)) (fun _ => ?_)
    refine p_eq rfl rfl (fun e => absurd (show (80 : Int) = 0 from e) (by decide)) (fun _ => ?_)
    refine p_eq rfl rfl (fun e => absurd (show (80 : Int) = 0 from e) (by decide)) (fun _ => ?_)
    refine cc is_rof (rof_any _ _ _ key _ (M.rdb 14 rfl).2.2 hn2a) ?_
    rintro e W ⟨A34, c34, rfl, o6, hb⟩
    replace M := M.callO hb o6
    clear o6 hb
    refine ⟨_, rfl, ?_⟩
    refine p_ne rfl rfl (fun _ => ?_) (fun e => absurd rfl e)
    refine p_eq rfl rfl (fun _ => ?_) (fun e => absurd rfl e)
    refine cc is_begins (begins_any _ _ _ _ _ _ (ofB key) r _ (M.rdb 0 rfl).2.2 (M.rdb 0 rfl).2.1 (M.rdb 10 rfl).2.2 hn2b (by have := (M.rdb 10 rfl).1; rw [this]; exact Nat.le_trans e2.length_le (by rw [ofB_length]; exact Nat.le_trans (Nat.mul_le_mul_left 2 hk) (by decide)))) ?_
    rintro e W ⟨q, rfl, hq, hb⟩
    obtain rfl := hq.2 e2
    replace M := M.call hb
    clear hb hq
    refine ⟨_, rfl, ?_⟩
    refine p_not rfl ?_
    obtain ⟨q, hq, hc⟩ := same_tf (c1 := cm1) (c2 := cm3) (M.rdb 10 rfl).2.2 (M.rdb 6 rfl).2.2
    obtain rfl := hq.2 rfl
    refine cc is_same0 hc ?_
    rintro e W' ⟨rfl, rfl⟩
    refine ⟨_, rfl, ?_⟩
    clear hq hc
    refine p_not rfl ?_
    refine p_ne rfl rfl (fun _ => ?_) (fun e => absurd rfl e)
    obtain ⟨q, hq, hc⟩ := same_tf (c1 := cm5) (c2 := cm1) (M.rdb 3 rfl).2.2 (M.rdb 10 rfl).2.2
    obtain rfl := hq.2 rfl
    refine cc is_same0 hc ?_
    rintro e W' ⟨rfl, rfl⟩
    refine ⟨_, rfl, ?_⟩
    clear hq hc
    refine p_not rfl ?_
    refine p_eq rfl rfl (fun e => absurd (show (80 : Int) = 0 from e) (by decide)) (fun _ => ?_)
    refine p_eq rfl rfl (fun _ => ?_) (fun e => absurd rfl e)
    refine p_eq rfl rfl (fun e => absurd (show (80 : Int) = 0 from e) (by decide)) (fun _ => ?_)
    refine p_eq rfl rfl (fun _ => ?_) (fun e => absurd rfl e)
    obtain ⟨Ap, cp, Av, cv, Ak, ck, Ah, ch, rfl, -⟩ := (M.da 11 rfl).node
    refine p_fld fN0 rfl ?_
    refine v_load agg_int rfl ((M.B 4 rfl).at_ rfl) ?_
    refine p_ne rfl rfl (fun _ => ?_) (fun _ => ?_)
    ·
      refine p_eq rfl rfl (fun _ => ?_) (fun e => absurd rfl e)
      refine cc is_kn8 (known8_any _) ?_
      rintro e W ⟨rfl, hb⟩
      replace M := M.call hb
      clear hb
      exact ⟨_, rfl, rfl, M.below⟩
    ·
      refine cc is_kn8 (known8_any _) ?_
      rintro e W ⟨rfl, hb⟩
      replace M := M.call hb
      clear hb
      exact ⟨_, rfl, rfl, M.below⟩
  · rw [e2, ← hG2] at hG1
    rw [← hG2] at e3
    subst hG1
    obtain ⟨c, e4, e5⟩ := fp2 e1
    rw [e4] at hP1
    subst hP1
    rw [hP2] at e5
    have zc : sz c ≤ 90000000 := zp1'
    refine p_eq rfl rfl (fun _ => ?_) (fun e => absurd e3 e)
    refine p_bneC u_bool rfl rfl (fun _ => ?_) (fun e => absurd rfl e)
    obtain ⟨q, hq, hc⟩ := same_tf (c1 := c12) (c2 := c16) (M.rdb 8 rfl).2.2 (M.rdb 6 rfl).2.2
    obtain rfl := hq.2 rfl
    refine cc is_same0 hc ?_
    rintro e W' ⟨rfl, rfl⟩
    refine ⟨_, rfl, (M.kp (by simp) (by simp)), ?_⟩
    clear hq hc
    refine p_not rfl ?_
    refine p_eq rfl rfl (fun _ => ?_) (fun e => absurd rfl e)
    refine t_loadN cs20 agg_nd rfl hc20 (fun W K => K.run 3 rfl) ?_
    refine t_loadN cs23 agg_nd rfl hc23 (fun W K => K.run 2 rfl) ?_
    refine cc is_r7hash (rhash_any c zc _ _ _ (M.da 4 rfl) M.olt) ?_
    rintro e W ⟨Ah1, nh1, ch1, rfl, o6, hb⟩
    have hn6 := o6.len
    replace M := M.callO hb o6
    clear o6 hb hn6
    refine ⟨_, rfl, (M.kp (by simp) (by simp)), ?_⟩
    refine cc is_r7hash (rhash_any P2.1 zp2' _ _ _ (M.da 4 rfl) M.olt) ?_
    rintro e W ⟨Ah2, nh2, ch2, rfl, o6, hb⟩
    have hn6 := o6.len
    replace M := M.callO hb o6
    clear o6 hb hn6
    refine ⟨_, rfl, (M.kp (by simp) (by simp)), ?_⟩
    obtain ⟨q, hq, hc⟩ := same_tf (c1 := ch1) (c2 := ch2) (M.rdb 1 rfl).2.2 (M.rdb 0 rfl).2.2
    obtain rfl := hq.2 e5
    refine cc is_same0 hc ?_
    rintro e W' ⟨rfl, rfl⟩
    refine ⟨_, rfl, (M.kp (by simp) (by simp)), ?_⟩
    clear hq hc
    refine p_not rfl ?_
    rcases fd2 e1 (by rw [← hG2]; exact e2.trans hG2.symm) with ⟨r, h1⟩ | ⟨x, gone, h1, h2, h3⟩
    · rw [h1] at hD1
      subst hD1
      refine p_eq rfl rfl (fun e => absurd (show (80 : Int) = 0 from e) (by decide)) (fun _ => ?_)
      refine cc is_rof (rof_any _ _ _ key _ (M.rdb 16 rfl).2.2 hn2a) ?_
      rintro e W ⟨A34, c34, rfl, o6, hb⟩
      replace M := M.callO hb o6
      clear o6 hb
      refine ⟨_, rfl, ?_⟩
      refine p_ne rfl rfl (fun _ => ?_) (fun e => absurd e3 e)
      refine p_eq rfl rfl (fun e => absurd (e3.symm.trans e) (by decide)) (fun _ => ?_)
      refine p_eq rfl rfl (fun _ => ?_) (fun e => absurd e3 e)
      obtain ⟨Ap, cp, Av, cv, Ak, ck, Ah, ch, rfl, -⟩ := (M.da 13 rfl).node
      refine p_eq rfl rfl (fun e => absurd (show (80 : Int) = 0 from e) (by decide)) (fun _ => ?_)
      refine p_eq rfl rfl (fun _ => ?_) (fun e => absurd rfl e)
      refine p_fld fN0 rfl ?_
      refine v_load agg_int rfl ((M.B 4 rfl).at_ rfl) ?_
      refine p_ne rfl rfl (fun h4 => absurd (fold_stub hFo hF h4 (ofB key)) (by rw [e1]; intro h; cases h)) (fun _ => ?_)
      refine cc is_kn8 (known8_any _) ?_
      rintro e W ⟨rfl, hb⟩
      replace M := M.call hb
      clear hb
      exact ⟨_, rfl, rfl, M.below⟩
    · rw [h1] at hD1
      rw [← hD2] at h2 h3
      subst hD1
      have zx : sz x ≤ 90000000 := zd1'
      refine p_eq rfl rfl (fun _ => ?_) (fun e => absurd rfl e)
      refine p_bneC u_bool rfl rfl (fun _ => ?_) (fun e => absurd h2.symm e)
      refine t_loadN cs26 agg_nd rfl hc26 (fun W K => K.run 1 rfl) ?_
      refine t_loadN cs30 agg_nd rfl hc30 (fun W K => K.run 0 rfl) ?_
      refine cc is_r7hash (rhash_any x zx _ _ _ (M.da 3 rfl) M.olt) ?_
      rintro e W ⟨Ah3, nh3, ch3, rfl, o6, hb⟩
      have hn6 := o6.len
      replace M := M.callO hb o6
      clear o6 hb hn6
      refine ⟨_, rfl, (M.kp (by simp) (by simp)), ?_⟩
      refine cc is_r7hash (rhash_any D2.t zd2' _ _ _ (M.da 3 rfl) M.olt) ?_
      rintro e W ⟨Ah4, nh4, ch4, rfl, o6, hb⟩
      have hn6 := o6.len
      replace M := M.callO hb o6
      clear o6 hb hn6
      refine ⟨_, rfl, (M.kp (by simp) (by simp)), ?_⟩
      obtain ⟨q, hq, hc⟩ := same_tf (c1 := ch3) (c2 := ch4) (M.rdb 1 rfl).2.2 (M.rdb 0 rfl).2.2
      obtain rfl := hq.2 h3
      refine cc is_same0 hc ?_
      rintro e W' ⟨rfl, rfl⟩
      refine ⟨_, rfl, (M.kp (by simp) (by simp)), ?_⟩
      clear hq hc
      refine p_not rfl ?_
      refine cc is_rof (rof_any _ _ _ key _ (M.rdb 18 rfl).2.2 hn2a) ?_
      rintro e W ⟨A34, c34, rfl, o6, hb⟩
      replace M := M.callO hb o6
      clear o6 hb
      refine ⟨_, rfl, ?_⟩
      refine p_ne rfl rfl (fun _ => ?_) (fun e => absurd e3 e)
      refine p_eq rfl rfl (fun e => absurd (e3.symm.trans e) (by decide)) (fun _ => ?_)
      refine p_eq rfl rfl (fun _ => ?_) (fun e => absurd e3 e)
      obtain ⟨Ap, cp, Av, cv, Ak, ck, Ah, ch, rfl, -⟩ := (M.da 15 rfl).node
      refine p_eq rfl rfl (fun _ => ?_) (fun e => absurd rfl e)
      refine p_fld fN0 rfl ?_
      refine v_load agg_int rfl ((M.B 4 rfl).at_ rfl) ?_
      refine p_ne rfl rfl (fun h4 => absurd (fold_stub hFo hF h4 (ofB key)) (by rw [e1]; intro h; cases h)) (fun _ => ?_)
      refine cc is_kn8 (known8_any _) ?_
      rintro e W ⟨rfl, hb⟩
      replace M := M.call hb
      clear hb
      exact ⟨_, rfl, rfl, M.below⟩
end Go.Proofs.Ytkfbkhahkkmcoaa
