/- Reference 11: one. -/
import Derived.Test.YtliccofjlheceaaG19
namespace Go.Proofs.Ytliccofjlheceaa
open Go.RowKit
theorem is_rone : isFn Try.prog 51 = true := by kernel_rfl
theorem is_rgetK : isFn Try.prog 38 = true := by kernel_rfl
/-- What a node's body comes to, by what is told of it. -/
def bodyQ (f : List UInt8 → List Nd → Int → Rr) (c : UInt8) (done : List Nd) (left : Int) : Option (Nd × List UInt8 × List UInt8) → Rr
  | none => .bad 11
  | some (tn, bits, r) => if c = 2 then (match f r done left with
      | .bad e => .bad e
      | .got k b2 d2 l2 => .got (.mk 2 tn.path false [] [k] []) b2 (d2 ++ [.mk 2 tn.path false [] [k] []]) l2)
    else if c = 3 then (match kidsA f bits 16 0 [] r done left with
      | .bad e => .bad e
      | .got ks b3 d3 l3 => .got (.mk 3 [] tn.has tn.val ks []) b3 (d3 ++ [.mk 3 [] tn.has tn.val ks []]) l3)
    else .got tn r (done ++ [tn]) left
theorem body_own (f : List UInt8 → List Nd → Int → Rr) (c : UInt8) (b : List UInt8) (done : List Nd) (left : Int) : bodyX f c b done left = bodyQ f c done left (ownQ c b) := by
  unfold bodyX ownQ
  by_cases h12 : c = 1 ∨ c = 2
  · rw [if_pos h12, if_pos h12]
    cases htx : textX b with
    | none => rfl
    | some pr =>
      obtain ⟨p, b1⟩ := pr
      dsimp only
      by_cases hbad : unpackE p ≠ 0 ∨ unpackB p ≠ decide (c = 1)
      · rw [if_pos hbad, if_pos hbad]; rfl
      · rw [if_neg hbad, if_neg hbad]
        by_cases h1 : c = 1
        · rw [if_pos h1, if_pos h1]
          cases htx2 : textX b1 with
          | none => rfl
          | some pr =>
            obtain ⟨v, b2⟩ := pr
            dsimp only
            unfold bodyQ
            dsimp only
            rw [if_neg (by rw [h1]; decide), if_neg (by rw [h1]; decide)]
        · have h2 : c = 2 := h12.resolve_left h1
          rw [if_neg h1, if_neg h1]
          unfold bodyQ
          dsimp only
          rw [if_pos h2]
          rfl
  · rw [if_neg h12, if_neg h12]
    by_cases h3 : c = 3
    · rw [if_pos h3, if_pos h3]
      match b with
      | [] => rfl
      | h :: b1 =>
        dsimp only
        cases htx : (if h = 1 then textX b1 else some ([], b1)) with
        | none => rfl
        | some pr =>
          obtain ⟨v, b2⟩ := pr
          dsimp only
          by_cases hl : b2.length < 2
          · rw [if_pos hl, if_pos hl]; rfl
          · rw [if_neg hl, if_neg hl]
            unfold bodyQ
            dsimp only
            rw [if_neg (by rw [h3]; decide), if_pos h3]
            rfl
    · rw [if_neg h3, if_neg h3]
      have h2 : ¬ c = 2 := fun h => h12 (.inr h)
      by_cases h4 : c = 4
      · rw [if_pos h4, if_pos h4]
        by_cases hl : b.length < 32
        · rw [if_pos hl, if_pos hl]; rfl
        · rw [if_neg hl, if_neg hl]
          unfold bodyQ
          dsimp only
          rw [if_neg h2, if_neg h3]
      · rw [if_neg h4, if_neg h4]
        unfold bodyQ
        dsimp only
        rw [if_neg h2, if_neg h3]
theorem St.rowC {w W : World} {gs : List (Option Nat)} {L : Lc} {R : List Row} {fs : List Fact} {e : TypeId} {g n c : Nat} {xs : List Value} (M : St w gs W L (⟨e, 6, some ⟨g, 0, none⟩, n, c, xs⟩ :: R) fs) (i : Nat) : ∀ j v, ((xs.drop (i * 6)).take 6)[j]? = some v → W.cell? (((⟨g, 0, none⟩ : Addr).add (i * 6)).add j) = some v := by
  intro j v hj
  have hcells := row_cells (M.row _ (List.mem_cons_self ..))
  have hj6 : j < 6 := by
    have := (List.getElem?_eq_some_iff.1 hj).1
    rw [List.length_take] at this; omega
  rw [List.getElem?_take_of_lt hj6, List.getElem?_drop] at hj
  have := hcells ⟨g, 0, none⟩ rfl (i * 6 + j) v hj
  rw [Addr.add_lit] at this
  rw [Addr.add_lit, Addr.add_lit]
  rw [← Nat.add_assoc] at this
  exact this
theorem u_inxK : (Try.prog.underlying 3).isSome = true := by kernel_rfl
theorem u_uiyK : Try.prog.underlying 54 = some (.int .u64) := by kernel_rfl
theorem tmod2K (a : Nat) : ((a : Nat) : Int).tmod 2 = ((a % 2 : Nat) : Int) := by rw [Int.tmod_eq_emod_of_nonneg (by omega)]; omega
theorem own_shape {k : UInt8} {b bits r : List UInt8} {tn : Nd} (h : ownQ k b = some (tn, bits, r)) : (k = 2 → tn = .mk 2 tn.path false [] [] []) ∧ (k = 3 → tn = .mk 3 [] tn.has tn.val [] [] ∧ bits.length = 2) ∧ r.length ≤ b.length := by
  unfold ownQ at h
  by_cases h12 : k = 1 ∨ k = 2
  · rw [if_pos h12] at h
    cases htx : textX b with
    | none => rw [htx] at h; cases h
    | some pr =>
      obtain ⟨p, b1⟩ := pr
      have hl := textX_le htx
      rw [htx] at h
      dsimp only at h
      by_cases hbad : unpackE p ≠ 0 ∨ unpackB p ≠ decide (k = 1)
      · rw [if_pos hbad] at h; cases h
      rw [if_neg hbad] at h
      by_cases h1 : k = 1
      · rw [if_pos h1] at h
        cases htx2 : textX b1 with
        | none => rw [htx2] at h; cases h
        | some pr =>
          obtain ⟨v, b2⟩ := pr
          have hl2 := textX_le htx2
          rw [htx2] at h
          injection h with h
          injection h with e1 h
          injection h with e2 e3
          subst e1 e2 e3
          exact ⟨fun h => absurd (h1.symm.trans h) (by decide), fun h => absurd (h1.symm.trans h) (by decide), by omega⟩
      · rw [if_neg h1] at h
        injection h with h
        injection h with e1 h
        injection h with e2 e3
        subst e1 e2 e3
        exact ⟨fun _ => rfl, fun h => absurd ((h12.resolve_left h1).symm.trans h) (by decide), hl.2⟩
  rw [if_neg h12] at h
  have hn2 : k ≠ 2 := fun e => h12 (.inr e)
  by_cases h3 : k = 3
  · rw [if_pos h3] at h
    match b, h with
    | [], h => cases h
    | x :: b1, h =>
      dsimp only at h
      cases htx : (if x = 1 then textX b1 else some ([], b1)) with
      | none => rw [htx] at h; cases h
      | some pr =>
        obtain ⟨v, b2⟩ := pr
        have hl2 : b2.length ≤ b1.length := by
          split at htx
          · exact (textX_le htx).2
          · injection htx with htx
            injection htx with _ e
            rw [e]; exact Nat.le_refl _
        rw [htx] at h
        dsimp only at h
        by_cases hl : b2.length < 2
        · rw [if_pos hl] at h; cases h
        rw [if_neg hl] at h
        injection h with h
        injection h with e1 h
        injection h with e2 e3
        subst e1 e2 e3
        exact ⟨fun h => absurd h hn2, fun _ => ⟨rfl, by rw [List.length_take]; omega⟩, by rw [List.length_drop, List.length_cons]; omega⟩
  rw [if_neg h3] at h
  by_cases h4 : k = 4
  · rw [if_pos h4] at h
    by_cases hl : b.length < 32
    · rw [if_pos hl] at h; cases h
    rw [if_neg hl] at h
    injection h with h
    injection h with e1 h
    injection h with e2 e3
    subst e1 e2 e3
    exact ⟨fun h => absurd h hn2, fun h => absurd h h3, by rw [List.length_drop]; omega⟩
  · rw [if_neg h4] at h
    injection h with h
    injection h with e1 h
    injection h with e2 e3
    subst e1 e2 e3
    exact ⟨fun h => absurd h hn2, fun h => absurd h h3, Nat.le_refl _⟩
def Pq (D : Nat) (r : Rr) (tn : Nd) (b' : List UInt8) (done' : List Nd) (left' e' : Int) : Prop := match r with
  | .got n b1 d1 l1 => e' = 0 ∧ tn = n ∧ b' = b1 ∧ done' = d1 ∧ left' = l1
  | .bad x => e' = x ∧ done'.length ≤ D
def R1Ok (F : Nat) : Prop := ∀ (B deep : Nat), deep + F = 403 → B ≤ 3200000 → ∀ (w W : World) (gs : List (Option Nat)) (A : Option Addr) (n c : Nat) (Ad : Option Addr) (nd cd : Nat) (left : Int) (b : List UInt8) (done : List Nd) (xs : List Value) (L : Lc) (R : List Row) (fs : List Fact) (S0 : Rr),
  0 ≤ left → left ≤ 5000 → (∀ x ∈ done, smC B x) → 3 * b.length + 32 ≤ B → done.length + b.length ≤ 2000000 → oneF F b done left = S0 →
  St w gs W L (⟨38, 6, Ad, nd, cd, xs⟩ :: R) (.dat true (dNs done) xs :: .dat false [dB b] [.slice A n c] :: fs) →
  Calls Try.prog 51 #[.agg (rc A n c Ad nd cd left 0).toArray, .int .i64 (deep : Nat)] W fun en W' => ∃ cs A' n' c' Ad' nd' cd' left' e' tn b' done' xs', en = .returned (.tuple #[.agg cs.toArray, .agg (rc A' n' c' Ad' nd' cd' left' e').toArray]) ∧
    St w gs W' L (⟨38, 6, Ad', nd', cd', xs'⟩ :: R) (.dat true (dN tn) cs :: .dat true (dNs done') xs' :: .dat false [dB b'] [.slice A' n' c'] :: fs) ∧ Pq (done.length + b.length + F) S0 tn b' done' left' e'
set_option maxRecDepth 100000 in
set_option maxHeartbeats 8000000 in
theorem r1_step (F : Nat) (ih : ∀ G, F = G + 1 → R1Ok G) : R1Ok F := by
  intro B deep hdF hB w W gs A n c Ad nd cd left b done xs L R fs S0 hl0 hl5 hds hbB hdb hS M
  refine calls_ev (args := [.agg (rc A n c Ad nd cd left 0).toArray, .int .i64 (deep : Nat)]) mixed Try.func51 rfl (by kernel_rfl) ?_
  have en := (M.d1 1 rfl).slen
  have hcap := (M.d1 1 rfl).scap
  have end_ : nd = done.length := by
    have h1 := (M.dt 0 rfl).len
    have h2 := (M.row _ (List.mem_cons_self ..)).1
    rw [dNs_len] at h1
    dsimp only at h2
    omega
  subst end_
  refine s_box (rc A n c Ad done.length cd left 0) M rfl ?_
  clear M
  rintro g2 W M
  refine s_alloc (zN) M al_nd ?_
  clear M
  rintro g4 W M
  refine s_alloc (zG) M al_got ?_
  clear M
  rintro g5 W M
  refine p_fld fG0 rfl ?_
  refine v_load agg_b rfl ((M.B 2 rfl).at_ rfl) ?_
  refine p_len slb rfl ?_
  match b, hS, hbB, hdb, en, M with
  | [], hS, hbB, hdb, en, M =>
    have en : n = 0 := en
    subst en
    rw [oneF_nil] at hS
    subst hS
    refine p_eq rfl rfl (fun _ => ?_) (fun h => absurd rfl h)
    refine p_build (vs := zN) pl_nd z_nd rfl ?_
    refine v_loadN (rc A 0 c Ad done.length cd left 0) agg_got rfl rfl (M.run 2 rfl) ?_
    refine cc is_rwrong (rwrong_any _ _ _ _ _ _ _ _ 0 11) ?_
    rintro en W ⟨rfl, hb⟩
    replace M := M.call hb
    clear hb
    refine ⟨_, rfl, ?_⟩
    refine s_storeA 1 zN M rfl sz_nd rfl rfl rfl (all1 rfl) rfl ?_
    clear M; rintro W M
    dsimp only [setL] at M
    refine s_storeA 0 (rc A 0 c Ad done.length cd left 11) M rfl sz_got rfl rfl rfl (all1 rfl) rfl ?_
    clear M; rintro W M
    dsimp only [setL] at M
    refine c_loadN zN agg_nd rfl rfl (M.run 1 rfl) ?_
    refine c_loadN (rc A 0 c Ad done.length cd left 11) agg_got rfl rfl (M.run 0 rfl) ?_
    exact ⟨zN, _, _, _, _, _, _, _, 11, noneN, _, done, xs, rfl, M.dropL.dropL.dropL.addT (fr := true) RdL.znone, rfl, by omega⟩
  | k :: b, hS, hbB, hdb, en, M =>
  have en : n = b.length + 1 := en
  rw [List.length_cons] at hbB hdb
  refine p_eq rfl rfl (fun h => absurd (show ((n : Nat) : Int) = 0 from h) (by omega)) (fun _ => ?_)
  obtain ⟨gb, ob, rfl, M'⟩ := M.at8c (M.d1 1 rfl) (i := 0) (by omega)
  replace M := M'; clear M'
  have h2 := (M.d1 2 rfl).cutB (i := 1) (j := n) (m := c) (by omega) (Nat.le_refl _) hcap
  rw [List.drop_succ_cons, List.drop_zero, List.take_of_length_le (by omega)] at h2
  obtain ⟨A2, hA2⟩ : ∃ A2, A2 = slA (some ⟨gb, ob, none⟩) c 1 1 := ⟨_, rfl⟩
  rw [← hA2] at h2
  replace M := M.addD h2
  clear h2
  refine p_fld fG0 rfl ?_
  refine v_load agg_b rfl ((M.B 2 rfl).at_ rfl) ?_
  refine p_at (i := 0) slb rfl rfl rfl (by omega) ?_
  refine v_load agg_u8 rfl (M.lc 1 rfl 0 _ rfl) ?_
  rw [show at8 (k :: b) 0 = ((k.toNat : Nat) : Int) from rfl]
  have hk256 := k.toNat_lt
  refine v_cvt u_u8s u_int' rfl (r := ((k.toNat : Nat) : Int)) (w64 (by omega)) ?_
  refine p_fld fG0 rfl ?_
  refine v_load agg_b rfl ((M.B 2 rfl).at_ rfl) ?_
  refine p_slice (i := 1) (j := n) (m := c) slb rfl (bnd_i rfl) rfl rfl rfl (by omega) hcap (Nat.le_refl _) ?_
  rw [← hA2]
  refine p_fld fG0 rfl ?_
  refine s_set 2 (off := 0) (.slice A2 (n - 1) (c - 1)) (rc A2 (n - 1) (c - 1) Ad done.length cd left 0) M rfl sz_slP rfl rfl rfl (by show 0 < 4; decide) rfl ?_
  clear M; rintro W M
  dsimp only [setL] at M
  have hn1 : n - 1 = b.length := by omega
  rw [hn1] at M
  obtain ⟨m, hm⟩ : ∃ m, m = c - 1 := ⟨_, rfl⟩
  rw [← hm] at M
  replace M := M.fsub (.dat true (dNs done) xs :: .dat false [dB b] [.slice A2 b.length m] :: fs) (by intro f hf; simp only [List.mem_cons] at hf ⊢; rcases hf with h | h | h <;> simp [h])
  have hcm := (M.d1 1 rfl).scap
  -- has it come before?
  refine p_eq rfl rfl (fun hk5 => ?_) (fun hk5 => ?_)
  · have hk5 : k = 5 := by
      have h : ((k.toNat : Nat) : Int) = 5 := hk5
      exact UInt8.toNat_inj.1 (show k.toNat = 5 by omega)
    subst hk5
    have hS5 : S0 = againX b done left := by
      rw [← hS]
      cases F with
      | zero => rw [oneF, if_pos rfl]
      | succ F => rw [oneF_cons, if_pos rfl]
    unfold againX at hS5
    refine p_fld fG0 rfl ?_
    refine v_load agg_b rfl ((M.B 2 rfl).at_ rfl) ?_
    refine cc is_rgetK (refGet_any _ _ _ _ 0 b _ (M.rdb 1 rfl).2.2 (by omega)) ?_
    rintro e W' ⟨rfl, rfl⟩
    refine ⟨_, rfl, ?_⟩
    refine p_ne rfl rfl (fun hE => ?_) (fun hE => ?_)
    rotate_left
    · have hE : ¬ gE b 0 = 0 := hE
      rw [if_neg (fun h => hE h.1)] at hS5
      subst hS5
      refine p_build (vs := zN) pl_nd z_nd rfl ?_
      refine v_loadN (rc A2 b.length m Ad done.length cd left 0) agg_got rfl rfl (M.run 2 rfl) ?_
      refine cc is_rwrong (rwrong_any _ _ _ _ _ _ _ _ 0 11) ?_
      rintro en W ⟨rfl, hb⟩
      replace M := M.call hb
      clear hb
      refine ⟨_, rfl, ?_⟩
      refine s_storeA 1 zN M rfl sz_nd rfl rfl rfl (all1 rfl) rfl ?_
      clear M; rintro W M
      dsimp only [setL] at M
      refine s_storeA 0 (rc A2 b.length m Ad done.length cd left 11) M rfl sz_got rfl rfl rfl (all1 rfl) rfl ?_
      clear M; rintro W M
      dsimp only [setL] at M
      refine c_loadN zN agg_nd rfl rfl (M.run 1 rfl) ?_
      refine c_loadN (rc A2 b.length m Ad done.length cd left 11) agg_got rfl rfl (M.run 0 rfl) ?_
      exact ⟨zN, _, _, _, _, _, _, _, 11, noneN, _, done, xs, rfl, M.dropL.dropL.dropL.addT (fr := true) RdL.znone, rfl, by omega⟩
    have hE : gE b 0 = 0 := hE
    obtain ⟨N, t, h1, h2, h3, h4, h5, h6, h7, h8⟩ := g_split (l := b) (a := 0) hE
    have h1 : gN b 0 = (N : Int) := h1
    have h3 : gTo b 0 = (t : Int) := by have := h3; simpa using this
    refine p_fld fG1 rfl ?_
    refine v_load agg_ns rfl ((M.B 2 rfl).at_ rfl) ?_
    refine p_len sln rfl ?_
    refine v_cvt u_int u_u64q rfl (r := ((done.length : Nat) : Int)) (by rw [IntKind.wrap_u64]; omega) ?_
    refine p_ge rfl rfl (fun hge => ?_) (fun hge => ?_)
    · have hge : ((done.length : Nat) : Int) ≤ gN b 0 := hge
      rw [if_neg (fun h => by have := h.2; omega)] at hS5
      subst hS5
      refine p_build (vs := zN) pl_nd z_nd rfl ?_
      refine v_loadN (rc A2 b.length m Ad done.length cd left 0) agg_got rfl rfl (M.run 2 rfl) ?_
      refine cc is_rwrong (rwrong_any _ _ _ _ _ _ _ _ 0 11) ?_
      rintro en W ⟨rfl, hb⟩
      replace M := M.call hb
      clear hb
      refine ⟨_, rfl, ?_⟩
      refine s_storeA 1 zN M rfl sz_nd rfl rfl rfl (all1 rfl) rfl ?_
      clear M; rintro W M
      dsimp only [setL] at M
      refine s_storeA 0 (rc A2 b.length m Ad done.length cd left 11) M rfl sz_got rfl rfl rfl (all1 rfl) rfl ?_
      clear M; rintro W M
      dsimp only [setL] at M
      refine c_loadN zN agg_nd rfl rfl (M.run 1 rfl) ?_
      refine c_loadN (rc A2 b.length m Ad done.length cd left 11) agg_got rfl rfl (M.run 0 rfl) ?_
      exact ⟨zN, _, _, _, _, _, _, _, 11, noneN, _, done, xs, rfl, M.dropL.dropL.dropL.addT (fr := true) RdL.znone, rfl, by omega⟩
    have hge : ¬ ((done.length : Nat) : Int) ≤ gN b 0 := hge
    rw [if_pos ⟨hE, by omega⟩, h1, h3, Int.toNat_natCast, Int.toNat_natCast] at hS5
    have hN : N < done.length := by omega
    obtain ⟨x, hx⟩ : ∃ x, done[N]? = some x := ⟨_, List.getElem?_eq_getElem hN⟩
    have hxd : done.getD N noneN = x := by rw [List.getD_eq_getElem?_getD, hx]; rfl
    rw [hxd] at hS5
    have hkm := hds x (List.mem_of_getElem? hx)
    have hksz := sm_sz B x hkm.1
    have hkc := hkm.2
    have hxz : sz x ≤ 100000000000 := by
      have : (102 + B) * (cntP x).1 ≤ 3200102 * 5000 := Nat.mul_le_mul (by omega) hkc
      omega
    have ht : t ≤ b.length := by omega
    have h2 := (M.d1 1 rfl).cutB (i := t) (j := b.length) (m := m) ht (Nat.le_refl _) hcm
    rw [List.take_of_length_le (by rw [List.length_drop]; omega)] at h2
    obtain ⟨A3, hA3⟩ : ∃ A3, A3 = slA A2 m t 1 := ⟨_, rfl⟩
    rw [← hA3] at h2
    replace M := (M.addD h2).fsub (.dat true (dNs done) xs :: .dat false [dB (b.drop t)] [.slice A3 (b.length - t) (m - t)] :: fs) (by intro f hf; simp only [List.mem_cons] at hf ⊢; rcases hf with h | h | h <;> simp [h])
    clear h2
    rw [h1, h3]
    refine p_fld fG0 rfl ?_
    refine v_load agg_b rfl ((M.B 2 rfl).at_ rfl) ?_
    refine p_slice (i := t) (j := b.length) (m := m) slb rfl (bnd_i rfl) rfl rfl rfl ht hcm (Nat.le_refl _) ?_
    rw [← hA3]
    refine p_fld fG0 rfl ?_
    refine s_set 2 (off := 0) (.slice A3 (b.length - t) (m - t)) (rc A3 (b.length - t) (m - t) Ad done.length cd left 0) M rfl sz_slP rfl rfl rfl (by show 0 < 4; decide) rfl ?_
    clear M; rintro W M
    dsimp only [setL] at M
    obtain ⟨gd, es, e1, -, hel, hxr, hcell⟩ := M.rowN 0 0 rfl rfl hx
    refine p_fld fG1 rfl ?_
    refine v_load agg_ns rfl ((M.B 2 rfl).at_ rfl) ?_
    refine p_at (i := N) sln (by show (Value.slice Ad done.length cd) = _; rw [e1]) rfl rfl hN ?_
    refine v_loadN es agg_nd rfl hel hcell ?_
    refine cc is_rcnt (rcnt_any 1000000000000 (by decide) x (by omega) [] _ es (hxr.to fun b hb => ⟨rfl, hb.1, fun h => by cases h⟩) (fun b h => by cases h)) ?_
    rintro e W ⟨rfl, hb⟩
    replace M := M.call hb
    clear hb hxr hcell
    refine ⟨_, rfl, ?_⟩
    replace M := M.drew
    subst e1
    obtain ⟨es, hes⟩ : ∃ es, es = (xs.drop (N * 6)).take 6 := ⟨_, rfl⟩
    have hxr := ((M.dt 0 rfl).drop (N * 6)).take 6
    rw [dNs_at hx, ← hes] at hxr
    have hel : es.length = 6 := by have := hxr.len; rw [dN_len] at this; exact this
    have hone := hxr.ones (dN_one _)
    replace M := M.addT hxr
    clear hxr
    obtain ⟨al, hal⟩ : ∃ al : Nat, al = (cntP x).1 := ⟨_, rfl⟩
    rw [← hal] at hS5 hkc ⊢
    refine drT (fun W => Kp w gs [(g2, 90, rc A3 (b.length - t) (m - t) (some ⟨gd, 0, none⟩) done.length cd left 0)] [] W ∧ ∃ L2 fs2, St w gs W L2 (⟨38, 6, some ⟨gd, 0, none⟩, done.length, cd, xs⟩ :: R) fs2) (.take 0 (.take 1 (.take 2 (.take 3 (.take 4 (.take 5 (.take 6 (.one 7 (.one 8 (.one 9 (.nil))))))))))) (by kernel_rfl) ⟨(M.kp (by simp) (by simp)), _, _, M⟩ ?_
    refine p_fld fG1 rfl ?_
    refine t_load agg_ns rfl (fun W K => (K.1.B 0 rfl).at_ rfl) ?_
    refine p_at (i := N) sln rfl rfl rfl hN ?_
    refine t_loadN es agg_nd rfl hel (fun W K => by
      obtain ⟨-, L2, fs2, M2⟩ := K
      rw [hes]
      exact M2.rowC N) ?_
    refine t_loadN (rc A3 (b.length - t) (m - t) (some ⟨gd, 0, none⟩) done.length cd left 0) agg_got rfl rfl (fun W K => K.1.run 0 rfl) ?_
    refine cc is_rless (rless_any _ _ _ _ _ _ _ left 0 (al : Int) (by omega)) ?_
    rintro e W ⟨rfl, hb⟩
    replace M := M.call hb
    clear hb
    refine ⟨_, rfl, ⟨(M.kp (by simp) (by simp)), _, _, M⟩, ?_⟩
    obtain ⟨e', he'⟩ : ∃ e', e' = (if left - (al : Int) < 0 then fe 0 3 else 0) := ⟨_, rfl⟩
    rw [← he']
    refine s_storeA 1 es M rfl sz_nd rfl rfl hel hone rfl ?_
    clear M; rintro W M
    dsimp only [setL] at M
    refine ⟨⟨(M.kp (by simp) (by simp)), _, _, M⟩, ?_⟩
    refine s_storeA 0 (rc A3 (b.length - t) (m - t) (some ⟨gd, 0, none⟩) done.length cd (left - (al : Int)) e') M rfl sz_got rfl rfl rfl (all1 rfl) rfl ?_
    clear M; rintro W M
    dsimp only [setL] at M
    refine ⟨⟨(M.kp (by simp) (by simp)), _, _, M⟩, ?_⟩
    refine c_loadN es agg_nd rfl hel (M.run 1 rfl) ?_
    refine c_loadN (rc A3 (b.length - t) (m - t) (some ⟨gd, 0, none⟩) done.length cd (left - (al : Int)) e') agg_got rfl rfl (M.run 0 rfl) ?_
    refine ⟨es, _, _, _, _, _, _, _, e', x, _, done, xs, rfl, M.dropL.dropL.dropL, ?_⟩
    subst hS5
    by_cases hlt : left - (al : Int) < 0
    · rw [if_pos hlt] at he' ⊢
      exact ⟨he', by omega⟩
    · rw [if_neg hlt] at he' ⊢
      exact ⟨he', rfl, rfl, rfl, rfl⟩
  have hk5 : k ≠ 5 := fun e => hk5 (by rw [e]; rfl)
  refine p_gt rfl rfl (fun h4 => ?_) (fun h4 => ?_)
  · have h4 : 4 < k.toNat := by have h : (4 : Int) < ((k.toNat : Nat) : Int) := h4; omega
    have hS5 : S0 = .bad 11 := by
      rw [← hS]
      cases F with
      | zero => rw [oneF, if_neg hk5]
      | succ F => rw [oneF_cons, if_neg hk5, if_pos h4]
    subst hS5
    refine p_build (vs := zN) pl_nd z_nd rfl ?_
    refine v_loadN (rc A2 b.length m Ad done.length cd left 0) agg_got rfl rfl (M.run 2 rfl) ?_
    refine cc is_rwrong (rwrong_any _ _ _ _ _ _ _ _ 0 11) ?_
    rintro en W ⟨rfl, hb⟩
    replace M := M.call hb
    clear hb
    refine ⟨_, rfl, ?_⟩
    refine s_storeA 1 zN M rfl sz_nd rfl rfl rfl (all1 rfl) rfl ?_
    clear M; rintro W M
    dsimp only [setL] at M
    refine s_storeA 0 (rc A2 b.length m Ad done.length cd left 11) M rfl sz_got rfl rfl rfl (all1 rfl) rfl ?_
    clear M; rintro W M
    dsimp only [setL] at M
    refine c_loadN zN agg_nd rfl rfl (M.run 1 rfl) ?_
    refine c_loadN (rc A2 b.length m Ad done.length cd left 11) agg_got rfl rfl (M.run 0 rfl) ?_
    exact ⟨zN, _, _, _, _, _, _, _, 11, noneN, _, done, xs, rfl, M.dropL.dropL.dropL.addT (fr := true) RdL.znone, rfl, by omega⟩
  have h4 : k.toNat ≤ 4 := by have h : ¬ (4 : Int) < ((k.toNat : Nat) : Int) := h4; omega
  refine p_gt rfl rfl (fun hd => ?_) (fun hd => ?_)
  · have hd : (402 : Int) < ((deep : Nat) : Int) := hd
    have hF0 : F = 0 := by omega
    subst hF0
    have hS5 : S0 = .bad 11 := by rw [← hS, oneF, if_neg hk5]
    subst hS5
    refine p_build (vs := zN) pl_nd z_nd rfl ?_
    refine v_loadN (rc A2 b.length m Ad done.length cd left 0) agg_got rfl rfl (M.run 2 rfl) ?_
    refine cc is_rwrong (rwrong_any _ _ _ _ _ _ _ _ 0 11) ?_
    rintro en W ⟨rfl, hb⟩
    replace M := M.call hb
    clear hb
    refine ⟨_, rfl, ?_⟩
    refine s_storeA 1 zN M rfl sz_nd rfl rfl rfl (all1 rfl) rfl ?_
    clear M; rintro W M
    dsimp only [setL] at M
    refine s_storeA 0 (rc A2 b.length m Ad done.length cd left 11) M rfl sz_got rfl rfl rfl (all1 rfl) rfl ?_
    clear M; rintro W M
    dsimp only [setL] at M
    refine c_loadN zN agg_nd rfl rfl (M.run 1 rfl) ?_
    refine c_loadN (rc A2 b.length m Ad done.length cd left 11) agg_got rfl rfl (M.run 0 rfl) ?_
    exact ⟨zN, _, _, _, _, _, _, _, 11, noneN, _, done, xs, rfl, M.dropL.dropL.dropL.addT (fr := true) RdL.znone, rfl, by omega⟩
  have hd : ¬ (402 : Int) < ((deep : Nat) : Int) := hd
  obtain ⟨G, rfl⟩ : ∃ G, F = G + 1 := ⟨F - 1, by omega⟩
  rw [oneF_cons, if_neg hk5, if_neg (by omega)] at hS
  refine cutO Unit (fun _ W => St w gs W ((g5, 90, zG) :: (g4, 38, zN) :: (g2, 90, rc A2 b.length m Ad done.length cd left 0) :: L) (⟨38, 6, Ad, done.length, cd, xs⟩ :: R) (.dat true (dNs done) xs :: .dat false [dB b] [.slice A2 b.length m] :: fs))
    (fun _ => [(1, .int .i64 (deep : Nat)), (2, .pointer (some ⟨g2, 0, none⟩)), (4, .pointer (some ⟨g4, 0, none⟩)), (5, .pointer (some ⟨g5, 0, none⟩)), (6, .int .i64 (k.toNat : Nat)), (83, .bool false)]) ⟨(), M, (by repeat (first | exact trivial | refine ⟨rfl, ?_⟩))⟩ ?_
  clear M
  rintro - E0 W0 M
  refine nx ?_
  refine ev_iff rfl ?_
  refine ev_skp ?_
  refine nx ?_
  refine cutS Unit (fun _ W => ¬ (k ≠ 0 ∧ left - 1 < 0) ∧ St w gs W ((g5, 90, zG) :: (g4, 38, zN) :: (g2, 90, rc A2 b.length m Ad done.length cd (if k = 0 then left else left - 1) 0) :: L) (⟨38, 6, Ad, done.length, cd, xs⟩ :: R) (.dat true (dNs done) xs :: .dat false [dB b] [.slice A2 b.length m] :: fs))
    (fun _ => [(1, .int .i64 (deep : Nat)), (2, .pointer (some ⟨g2, 0, none⟩)), (4, .pointer (some ⟨g4, 0, none⟩)), (5, .pointer (some ⟨g5, 0, none⟩)), (6, .int .i64 (k.toNat : Nat))]) ?_ ?_
  · refine p_gt rfl rfl (fun h0 => ?_) (fun h0 => ?_)
    rotate_left
    · have h0 : k = 0 := by
        have h : ¬ (0 : Int) < ((k.toNat : Nat) : Int) := h0
        exact UInt8.toNat_inj.1 (show k.toNat = 0 by omega)
      exact ⟨(), ⟨fun h => h.1 h0, by rw [if_pos h0]; exact M⟩, (by repeat (first | exact trivial | refine ⟨rfl, ?_⟩))⟩
    have h0 : k ≠ 0 := fun e => by
      have h : (0 : Int) < ((k.toNat : Nat) : Int) := h0
      rw [e] at h
      exact absurd h (by decide)
    refine v_loadN (rc A2 b.length m Ad done.length cd left 0) agg_got rfl rfl (M.run 2 rfl) ?_
    refine cc is_rless (rless_any _ _ _ _ _ _ _ left 0 1 (by omega)) ?_
    rintro e W ⟨rfl, hb⟩
    replace M := M.call hb
    clear hb
    refine ⟨_, rfl, ?_⟩
    by_cases hl1 : left - 1 < 0
    · rw [if_pos hl1]
      refine s_storeA 2 (rc A2 b.length m Ad done.length cd (left - 1) 3) M rfl sz_got rfl rfl rfl (all1 rfl) rfl ?_
      clear M; rintro W M
      dsimp only [setL] at M
      refine p_fld fG3 rfl ?_
      refine v_load agg_int rfl ((M.B 2 rfl).at_ rfl) ?_
      refine p_ne rfl rfl (fun h => absurd (show (3 : Int) = 0 from h) (by decide)) (fun _ => ?_)
      rw [if_pos ⟨h0, hl1⟩] at hS
      subst hS
      replace M := M.drew
      refine drT (Kp w gs [(g2, 90, rc A2 b.length m Ad done.length cd (left - 1) 3)] []) (.take 0 (.take 1 (.one 2 (.one 3 (.nil))))) (by kernel_rfl) (M.kp (by simp) (by simp)) ?_
      refine p_build (vs := zN) pl_nd z_nd rfl ?_
      refine t_loadN (rc A2 b.length m Ad done.length cd (left - 1) 3) agg_got rfl rfl (fun W K => K.run 0 rfl) ?_
      refine s_storeA 1 zN M rfl sz_nd rfl rfl rfl (all1 rfl) rfl ?_
      clear M; rintro W M
      dsimp only [setL] at M
      refine ⟨(M.kp (by simp) (by simp)), ?_⟩
      refine s_storeA 0 (rc A2 b.length m Ad done.length cd (left - 1) 3) M rfl sz_got rfl rfl rfl (all1 rfl) rfl ?_
      clear M; rintro W M
      dsimp only [setL] at M
      refine ⟨(M.kp (by simp) (by simp)), ?_⟩
      refine c_loadN zN agg_nd rfl rfl (M.run 1 rfl) ?_
      refine c_loadN (rc A2 b.length m Ad done.length cd (left - 1) 3) agg_got rfl rfl (M.run 0 rfl) ?_
      exact ⟨zN, _, _, _, _, _, _, _, 3, noneN, _, done, xs, rfl, M.dropL.dropL.dropL.addT (fr := true) RdL.znone, rfl, by omega⟩
    · rw [if_neg hl1]
      refine s_storeA 2 (rc A2 b.length m Ad done.length cd (left - 1) 0) M rfl sz_got rfl rfl rfl (all1 rfl) rfl ?_
      clear M; rintro W M
      dsimp only [setL] at M
      refine p_fld fG3 rfl ?_
      refine v_load agg_int rfl ((M.B 2 rfl).at_ rfl) ?_
      refine p_ne rfl rfl (fun _ => ?_) (fun h => absurd rfl h)
      exact ⟨(), ⟨fun h => hl1 h.2, by rw [if_neg h0]; exact M⟩, (by repeat (first | exact trivial | refine ⟨rfl, ?_⟩))⟩
  clear M
  rintro ⟨⟩ E1 W1 ⟨hkl, M⟩
  rw [if_neg hkl, body_own] at hS
  obtain ⟨left2, hl2⟩ : ∃ left2, left2 = (if k = 0 then left else left - 1) := ⟨_, rfl⟩
  rw [← hl2] at hS M
  have hl20 : 0 ≤ left2 ∧ left2 ≤ 5000 := by
    rw [hl2]
    split
    · omega
    · next h0 => exact ⟨Int.not_lt.1 fun h => hkl ⟨h0, h⟩, by omega⟩
  obtain ⟨Q, hQ⟩ : ∃ Q, Q = ownQ k b := ⟨_, rfl⟩
  rw [← hQ] at hS
  refine p_build (vs := n0 k) pl_nd z_nd rfl ?_
  refine v_loadN (rc A2 b.length m Ad done.length cd left2 0) agg_got rfl rfl (M.run 2 rfl) ?_
  refine cc is_rown (rown_any k h4 Ad done.length cd left2 Q hQ.symm (by omega) _ (M.d1 1 rfl) M.olt) ?_
  rintro e W ⟨cs, Ab, nb, cb, A3, n3, c3, e3, rfl, hcl, hone, hb, hP⟩
  refine ⟨_, rfl, ?_⟩
  cases Q with
  | none =>
    replace M := M.call hb
    obtain ⟨hP, bx, hbx⟩ := hP
    subst hP
    replace M := M.addD hbx
    clear hbx
    refine s_alloc (zN) M al_nd ?_
    clear M
    rintro g12 W M
    refine s_alloc (zG) M al_got ?_
    clear M
    rintro g14 W M
    refine s_storeA 1 cs M rfl sz_nd rfl rfl hcl hone rfl ?_
    clear M; rintro W M
    dsimp only [setL] at M
    refine s_storeA 0 (rc A3 n3 c3 Ad done.length cd left2 11) M rfl sz_got rfl rfl rfl (all1 rfl) rfl ?_
    clear M; rintro W M
    dsimp only [setL] at M
    refine v_loadN (rc A3 n3 c3 Ad done.length cd left2 11) agg_got rfl rfl (M.run 0 rfl) ?_
    refine s_storeA 4 (rc A3 n3 c3 Ad done.length cd left2 11) M rfl sz_got rfl rfl rfl (all1 rfl) rfl ?_
    clear M; rintro W M
    dsimp only [setL] at M
    refine p_fld fG3 rfl ?_
    refine v_load agg_int rfl ((M.B 4 rfl).at_ rfl) ?_
    refine p_ne rfl rfl (fun h => absurd (show (11 : Int) = 0 from h) (by decide)) (fun _ => ?_)
    have hS : S0 = .bad 11 := hS.symm
    subst hS
    replace M := M.drew
    refine drT (Kp w gs [(g2, 90, rc A3 n3 c3 Ad done.length cd left2 11)] []) (.take 0 (.take 1 (.one 2 (.one 3 (.nil))))) (by kernel_rfl) (M.kp (by simp) (by simp)) ?_
    refine p_build (vs := zN) pl_nd z_nd rfl ?_
    refine t_loadN (rc A3 n3 c3 Ad done.length cd left2 11) agg_got rfl rfl (fun W K => K.run 0 rfl) ?_
    refine s_storeA 3 zN M rfl sz_nd rfl rfl rfl (all1 rfl) rfl ?_
    clear M; rintro W M
    dsimp only [setL] at M
    refine ⟨(M.kp (by simp) (by simp)), ?_⟩
    refine s_storeA 2 (rc A3 n3 c3 Ad done.length cd left2 11) M rfl sz_got rfl rfl rfl (all1 rfl) rfl ?_
    clear M; rintro W M
    dsimp only [setL] at M
    refine ⟨(M.kp (by simp) (by simp)), ?_⟩
    refine c_loadN zN agg_nd rfl rfl (M.run 3 rfl) ?_
    refine c_loadN (rc A3 n3 c3 Ad done.length cd left2 11) agg_got rfl rfl (M.run 2 rfl) ?_
    exact ⟨zN, _, _, _, _, _, _, _, 11, noneN, bx, done, xs, rfl, (M.dropL.dropL.dropL.dropL.dropL.addT (fr := true) (ds := dN noneN) (cs := zN) RdL.znone).fsub _ (by intro f hf; simp only [List.mem_cons] at hf ⊢; rcases hf with h | h | h | h <;> simp [h]), rfl, by omega⟩
  | some pr =>
  obtain ⟨tn, bits, r⟩ := pr
  obtain ⟨he3, hcs, hbits, hr⟩ := hP
  subst he3
  obtain ⟨hs2, hs3, hsr⟩ := own_shape hQ.symm
  have er := hr.slen
  subst er
  replace M := M.callF hb hcs
  obtain ⟨Bp, dp, Bv, dv, Bk, dk, Bh, dh, rfl, g1, g3, g4', g5'⟩ := id (M.dt 0 rfl).node
  replace M := ((((M.addT (RdL.one g3)).addT (RdL.one g1)).addD hbits).addD hr).fsub (.dat true (dNs done) xs :: .dat false [dB r] [.slice A3 r.length c3] :: .dat true (dN tn) (ncs tn Bp dp Bv dv Bk dk Bh dh) :: .dat false [dB bits] [.slice Ab nb cb] :: .dat true [dB tn.path] [.slice Bp tn.path.length dp] :: .dat true [dB tn.val] [.slice Bv tn.val.length dv] :: fs) (by intro f hf; simp only [List.mem_cons] at hf ⊢; rcases hf with h | h | h | h | h | h | h <;> simp [h])
  clear g1 g3 g4' g5' hbits hcs hr hone hcl hb
  refine s_alloc (zN) M al_nd ?_
  clear M
  rintro g12 W M
  refine s_alloc (zG) M al_got ?_
  clear M
  rintro g14 W M
  refine s_storeA 1 (ncs tn Bp dp Bv dv Bk dk Bh dh) M rfl sz_nd rfl rfl rfl (all1 rfl) rfl ?_
  clear M; rintro W M
  dsimp only [setL] at M
  refine s_storeA 0 (rc A3 r.length c3 Ad done.length cd left2 0) M rfl sz_got rfl rfl rfl (all1 rfl) rfl ?_
  clear M; rintro W M
  dsimp only [setL] at M
  refine v_loadN (rc A3 r.length c3 Ad done.length cd left2 0) agg_got rfl rfl (M.run 0 rfl) ?_
  refine s_storeA 4 (rc A3 r.length c3 Ad done.length cd left2 0) M rfl sz_got rfl rfl rfl (all1 rfl) rfl ?_
  clear M; rintro W M
  dsimp only [setL] at M
  refine p_fld fG3 rfl ?_
  refine v_load agg_int rfl ((M.B 4 rfl).at_ rfl) ?_
  refine p_ne rfl rfl (fun _ => ?_) (fun h => absurd rfl h)
  refine p_eq rfl rfl (fun hk2 => ?_) (fun hk2 => ?_)
  · have hk2 : k = 2 := by
      have h : ((k.toNat : Nat) : Int) = 2 := hk2
      exact UInt8.toNat_inj.1 (show k.toNat = 2 by omega)
    obtain ⟨p, hp⟩ : ∃ p, tn = .mk 2 p false [] [] [] := ⟨_, hs2 hk2⟩
    subst hp
    clear hs2 hs3
    unfold bodyQ at hS
    dsimp only at hS
    rw [if_pos hk2] at hS
    refine v_loadN (rc A3 r.length c3 Ad done.length cd left2 0) agg_got rfl rfl (M.run 4 rfl) ?_
    refine p_addN (b := 1) rfl rfl (by omega) ?_
    refine cc is_rone (ih G rfl B (deep + 1) (by omega) hB w _ gs A3 _ c3 Ad _ cd left2 r done xs _ R _ (oneF G r done left2) hl20.1 hl20.2 hds (by omega) (by omega) rfl M) ?_
    clear M
    rintro e W ⟨cs9, A4, n4, c4, Ad4, nd4, cd4, left4, e4, tn4, b4, done4, xs4, rfl, M, hP⟩
    refine ⟨_, rfl, ?_⟩
    have hnd4 : nd4 = done4.length := by
      have h1 := (M.dt 1 rfl).len
      have h2 := (M.row _ (List.mem_cons_self ..)).1
      rw [dNs_len] at h1
      dsimp only at h2
      omega
    have hsz := one_sz (B := B) G r done left2 hl20.1 hl20.2 hds (by omega)
    have hd4 : done4.length ≤ done.length + r.length + G := by
      cases hr : oneF G r done left2 with
      | bad x => rw [hr] at hP; exact hP.2
      | got n' b' d' l' =>
        rw [hr] at hP hsz
        obtain ⟨-, -, -, rfl, -⟩ := hP
        have := hsz.2.2.2.2.1
        omega
    obtain ⟨Cp, ep, Cv, ev, Ck, ek, Ch, eh, rfl, -⟩ := (M.da 0 rfl).node
    refine s_alloc (zN) M al_nd ?_
    clear M
    rintro g15 W M
    refine s_alloc (zG) M al_got ?_
    clear M
    rintro g16 W M
    refine s_storeA 1 (ncs tn4 Cp ep Cv ev Ck ek Ch eh) M rfl sz_nd rfl rfl rfl (all1 rfl) rfl ?_
    clear M; rintro W M
    dsimp only [setL] at M
    refine s_storeA 0 (rc A4 n4 c4 Ad4 nd4 cd4 left4 e4) M rfl sz_got rfl rfl rfl (all1 rfl) rfl ?_
    clear M; rintro W M
    dsimp only [setL] at M
    refine v_loadN (ncs tn4 Cp ep Cv ev Ck ek Ch eh) agg_nd rfl rfl (M.run 1 rfl) ?_
    refine s_bsliceB (ncs tn4 Cp ep Cv ev Ck ek Ch eh) M sln z_nd rfl (by decide) rfl ?_
    clear M; rintro gk W M
    have h1 : dNs [tn4] = dN tn4 := by rw [dNs, dNs, List.append_nil]
    replace M := M.frzB (fr := true) (s := 6) (n := 1) (c := 1) (ds := dNs [tn4]) (by rw [h1]; exact M.dt 0 rfl) (by rw [dNs_len]; rfl) (Nat.le_refl _)
    refine p_fld fN4 rfl ?_
    refine s_set 3 (off := 4) (.slice (some ⟨gk, 0, none⟩) 1 1) (ncs (.mk 2 p false [] [tn4] []) Bp dp Bv dv (some ⟨gk, 0, none⟩) 1 Bh dh) M rfl sz_nsP rfl rfl rfl (by show 4 < 6; decide) rfl ?_
    clear M; rintro W M
    dsimp only [setL] at M
    refine v_loadN (rc A4 n4 c4 Ad4 nd4 cd4 left4 e4) agg_got rfl rfl (M.run 0 rfl) ?_
    refine s_storeA 6 (rc A4 n4 c4 Ad4 nd4 cd4 left4 e4) M rfl sz_got rfl rfl rfl (all1 rfl) rfl ?_
    clear M; rintro W M
    dsimp only [setL] at M
    refine p_eq rfl rfl (fun h => absurd (show ((k.toNat : Nat) : Int) = 3 from h) (by rw [hk2]; decide)) (fun _ => ?_)
    replace M := M.dropL.dropL
    replace M := M.addT (fr := true) (RdL.ofnode (t := .mk 2 p false [] [tn4] []) (Ap := Bp) (M.dt 6 rfl).hd (RdD.nil_ (s := 1) Bv dv) (M.dt 0 rfl).hd (RdD.nil_ (s := 1) Bh dh))
    replace M := M.fsub (.dat true (dN (.mk 2 p false [] [tn4] [])) (ncs (.mk 2 p false [] [tn4] []) Bp dp Bv dv (some ⟨gk, 0, none⟩) 1 Bh dh) :: .dat true (dNs done4) xs4 :: .dat false [dB b4] [.slice A4 n4 c4] :: fs) (by intro f hf; simp only [List.mem_cons] at hf ⊢; rcases hf with h | h | h | h <;> simp [h])
    refine p_fld fG1 rfl ?_
    refine v_load agg_ns rfl ((M.B 4 rfl).at_ rfl) ?_
    refine v_loadN ((ncs (.mk 2 p false [] [tn4] []) Bp dp Bv dv (some ⟨gk, 0, none⟩) 1 Bh dh)) agg_nd rfl rfl (M.run 1 rfl) ?_
    refine s_bsliceB ((ncs (.mk 2 p false [] [tn4] []) Bp dp Bv dv (some ⟨gk, 0, none⟩) 1 Bh dh)) M sln z_nd rfl (by decide) rfl ?_
    clear M; rintro gz W M
    refine s_app M Try.underlying36 inf_nd rfl (by decide) rfl rfl (Reads.blk (M.B 0 rfl) rfl) (all1 rfl) ⟨by omega, by decide⟩ ?_
    clear M; rintro A9 c9 W M -
    replace M := M.dropL
    refine p_fld fG1 rfl ?_
    refine s_set 4 (off := 1) (.slice A9 (nd4 + 1) c9) (rc A4 n4 c4 A9 (nd4 + 1) c9 left4 e4) M rfl sz_nsP rfl rfl rfl (by show 1 < 4; decide) rfl ?_
    clear M; rintro W M
    dsimp only [setL] at M
    have hX := (M.dt 1 rfl).app (M.dt 0 rfl)
    rw [show dNs done4 ++ dN (.mk 2 p false [] [tn4] []) = dNs (done4 ++ [(.mk 2 p false [] [tn4] [])]) by rw [dNs_app, dNs, dNs, List.append_nil]] at hX
    replace M := (M.addT hX).drew
    clear hX
    refine drT (Kp w gs [(g12, 38, (ncs (.mk 2 p false [] [tn4] []) Bp dp Bv dv (some ⟨gk, 0, none⟩) 1 Bh dh)), (g2, 90, rc A4 n4 c4 A9 (nd4 + 1) c9 left4 e4)] []) (.take 0 (.take 1 (.one 2 (.one 3 (.nil))))) (by kernel_rfl) (M.kp (by simp) (by simp)) ?_
    refine t_loadN ((ncs (.mk 2 p false [] [tn4] []) Bp dp Bv dv (some ⟨gk, 0, none⟩) 1 Bh dh)) agg_nd rfl rfl (fun W K => K.run 0 rfl) ?_
    refine t_loadN (rc A4 n4 c4 A9 (nd4 + 1) c9 left4 e4) agg_got rfl rfl (fun W K => K.run 1 rfl) ?_
    refine s_storeA 3 ((ncs (.mk 2 p false [] [tn4] []) Bp dp Bv dv (some ⟨gk, 0, none⟩) 1 Bh dh)) M rfl sz_nd rfl rfl rfl (all1 rfl) rfl ?_
    clear M; rintro W M
    dsimp only [setL] at M
    refine ⟨(M.kp (by simp) (by simp)), ?_⟩
    refine s_storeA 2 (rc A4 n4 c4 A9 (nd4 + 1) c9 left4 e4) M rfl sz_got rfl rfl rfl (all1 rfl) rfl ?_
    clear M; rintro W M
    dsimp only [setL] at M
    refine ⟨(M.kp (by simp) (by simp)), ?_⟩
    refine c_loadN ((ncs (.mk 2 p false [] [tn4] []) Bp dp Bv dv (some ⟨gk, 0, none⟩) 1 Bh dh)) agg_nd rfl rfl (M.run 3 rfl) ?_
    refine c_loadN (rc A4 n4 c4 A9 (nd4 + 1) c9 left4 e4) agg_got rfl rfl (M.run 2 rfl) ?_
    refine ⟨(ncs (.mk 2 p false [] [tn4] []) Bp dp Bv dv (some ⟨gk, 0, none⟩) 1 Bh dh), _, _, _, _, _, _, _, e4, (.mk 2 p false [] [tn4] []), b4, done4 ++ [(.mk 2 p false [] [tn4] [])], _, rfl, (M.dropL.dropL.dropL.dropL.dropL).fsub _ (by intro f hf; simp only [List.mem_cons] at hf ⊢; rcases hf with h | h | h | h <;> simp [h]), ?_⟩
    cases hr : oneF G r done left2 with
    | bad x =>
      rw [hr] at hP hS
      subst hS
      exact ⟨hP.1, by rw [List.length_append]; show done4.length + 1 ≤ _; omega⟩
    | got n' b' d' l' =>
      rw [hr] at hP hS
      obtain ⟨rfl, rfl, rfl, rfl, rfl⟩ := hP
      subst hS
      exact ⟨rfl, rfl, rfl, rfl, rfl⟩
  have hk2 : k ≠ 2 := fun e => hk2 (by rw [e]; rfl)
  refine p_eq rfl rfl (fun hk3 => ?_) (fun hk3 => ?_)
  · have hk3 : k = 3 := by
      have h : ((k.toNat : Nat) : Int) = 3 := hk3
      exact UInt8.toNat_inj.1 (show k.toNat = 3 by omega)
    obtain ⟨has, hhas⟩ : ∃ has, has = tn.has := ⟨_, rfl⟩
    obtain ⟨v, hv⟩ : ∃ v, v = tn.val := ⟨_, rfl⟩
    have hp := hs3 hk3
    rw [← hhas, ← hv] at hp
    obtain ⟨hp, hb2⟩ := hp
    clear hhas hv hs2 hs3
    subst hp
    unfold bodyQ at hS
    dsimp only at hS
    rw [if_neg hk2, if_pos hk3] at hS
    have enb := (M.d1 3 rfl).slen
    rw [hb2] at enb
    subst enb
    refine s_mkN M rfl rfl ?_
    clear M; rintro gk W M
    refine p_fld fN4 rfl ?_
    obtain ⟨N0, hN0⟩ : ∃ N0 : List Value, N0 = [.int .i64 3, .slice Bp 0 dp, .bool has, .slice Bv v.length dv, .slice (some ⟨gk, 0, none⟩) 16 16, .slice Bh 0 dh] := ⟨_, rfl⟩
    refine s_set 2 (off := 4) (.slice (some ⟨gk, 0, none⟩) 16 16) [.int .i64 3, .slice Bp 0 dp, .bool has, .slice Bv v.length dv, .slice (some ⟨gk, 0, none⟩) 16 16, .slice Bh 0 dh] M rfl sz_nsP rfl rfl rfl (by show 4 < 6; decide) rfl ?_
    clear M; rintro W M
    dsimp only [setL] at M
    rw [← hN0] at M
    replace M := M.addT (fr := true) (ds := dNs (noneNs 16)) (cs := zNs 16) (RdL.znones 16)
    replace M := M.addT (fr := true) (RdL.one (show RdD W _ (dB v) (.slice Bv v.length dv) from (M.dt 6 rfl).hd))
    obtain ⟨T, hT⟩ : ∃ T, T = kidsA (oneF G) bits 16 0 [] r done left2 := ⟨_, rfl⟩
    rw [← hT] at hS
    refine lp (Nat × List Nd × List Value × (Option Addr × Nat × Nat) × (Option Addr × Nat × Nat) × Int × Int × List UInt8 × List Nd × List Value) (fun s W => s.1 ≤ 16 ∧ s.2.1.length = s.1 ∧ St w gs W ((gk, 38, s.2.2.1) :: (g14, 90, rc A3 r.length c3 Ad done.length cd left2 0) :: (g12, 38, N0) :: (g5, 90, zG) :: (g4, 38, zN) :: (g2, 90, rc s.2.2.2.1.1 s.2.2.2.1.2.1 s.2.2.2.1.2.2 s.2.2.2.2.1.1 s.2.2.2.2.1.2.1 s.2.2.2.2.1.2.2 s.2.2.2.2.2.1 s.2.2.2.2.2.2.1) :: L) (⟨38, 6, s.2.2.2.2.1.1, s.2.2.2.2.1.2.1, s.2.2.2.2.1.2.2, s.2.2.2.2.2.2.2.2.2⟩ :: R) (.dat true (dNs s.2.2.2.2.2.2.2.2.1) s.2.2.2.2.2.2.2.2.2 :: .dat false [dB s.2.2.2.2.2.2.2.1] [.slice s.2.2.2.1.1 s.2.2.2.1.2.1 s.2.2.2.1.2.2] :: .dat true (dNs (s.2.1 ++ noneNs (16 - s.1))) s.2.2.1 :: .dat false [dB bits] [.slice Ab 2 cb] :: .dat true [dB v] [.slice Bv v.length dv] :: fs) ∧ s.2.2.2.2.2.2.2.2.1.length ≤ done.length + r.length + G ∧
      ((s.2.2.2.2.2.2.1 = 0 ∧ T = kidsA (oneF G) bits (16 - s.1) s.1 s.2.1 s.2.2.2.2.2.2.2.1 s.2.2.2.2.2.2.2.2.1 s.2.2.2.2.2.1 ∧ 0 ≤ s.2.2.2.2.2.1 ∧ s.2.2.2.2.2.1 ≤ 5000 ∧ (∀ x ∈ s.2.2.2.2.2.2.2.2.1, smC B x) ∧ s.2.2.2.2.2.2.2.1.length ≤ r.length ∧ s.2.2.2.2.2.2.2.2.1.length + s.2.2.2.2.2.2.2.1.length ≤ done.length + r.length) ∨ (s.2.2.2.2.2.2.1 ≠ 0 ∧ T = .bad s.2.2.2.2.2.2.1)))
      (fun s => [(1, .int .i64 (deep : Nat)), (2, .pointer (some ⟨g2, 0, none⟩)), (4, .pointer (some ⟨g4, 0, none⟩)), (5, .pointer (some ⟨g5, 0, none⟩)), (12, .pointer (some ⟨g12, 0, none⟩)), (13, .slice Ab 2 cb), (17, .int .i64 (s.1 : Nat))]) (fun s => 16 - s.1) (0, [], zNs 16, (A3, r.length, c3), (Ad, done.length, cd), left2, 0, r, done, xs) ⟨Nat.zero_le _, rfl, M.fsub _ (by intro f hf; simp only [List.mem_cons, List.nil_append, Nat.sub_zero] at hf ⊢; rcases hf with h | h | h | h | h | h <;> simp [h]), by dsimp only; omega, .inl ⟨rfl, hT, hl20.1, hl20.2, hds, Nat.le_refl _, Nat.le_refl _⟩⟩ (by repeat (first | exact trivial | refine ⟨rfl, ?_⟩)) ?_
    clear M
    rintro ⟨i, dn, xk, ⟨A4, n4, c4⟩, ⟨Ad4, nd4, cd4⟩, left4, e4, b4, done4, xs4⟩ E5 W5 ⟨hi, hdn, M, hd4, hK⟩
    dsimp only at hi hdn M hd4 hK
    have hnd4 : nd4 = done4.length := by
      have h1 := (M.dt 0 rfl).len
      have h2 := (M.row _ (List.mem_cons_self ..)).1
      rw [dNs_len] at h1
      dsimp only at h2
      omega
    refine p_lt rfl rfl (fun hlt => ?_) (fun hge => ?_)
    rotate_left
    · have hge : i = 16 := by have h : ¬ (i : Int) < 16 := hge; omega
      subst hge
      obtain ⟨Kt, hKt⟩ : ∃ Kt, Kt = dn ++ noneNs (16 - 16) := ⟨_, rfl⟩
      have hK16 : Kt.length = 16 := by
        have h1 := noneNs_len (16 - 16)
        have h2 := congrArg List.length hKt
        rw [List.length_append] at h2
        omega
      rw [← hKt] at M
      replace M := M.frzB (fr := true) (s := 6) (n := 16) (c := 16) (M.dt 2 rfl) (by rw [dNs_len, hK16]) (Nat.le_refl _)
      have hks := (M.dt 0 rfl).hd
      have key : ∀ (V : World) F, RdD V F (.sl 6 16 (dNs Kt)) (.slice (some ⟨gk, 0, none⟩) 16 16) → RdD V F (dKs Kt) (.slice (some ⟨gk, 0, none⟩) Kt.length 16) := fun V F h => by unfold dKs; rw [hK16]; exact h
      have hn := RdL.ofnode (t := .mk 3 [] has v Kt []) (RdD.nil_ (s := 1) Bp dp) (M.dt 5 rfl).hd (key _ _ hks) (RdD.nil_ (s := 1) Bh dh)
      have hnc : N0 = ncs (.mk 3 [] has v Kt []) Bp dp Bv dv (some ⟨gk, 0, none⟩) 16 Bh dh := by rw [hN0]; simp only [ncs, Nd.kids, Nd.kind, Nd.path, Nd.has, Nd.val, Nd.hash, hK16, List.length_nil]
      rw [hnc] at M
      replace M := (M.addT hn).fsub (.dat true (dN (.mk 3 [] has v Kt [])) (ncs (.mk 3 [] has v Kt []) Bp dp Bv dv (some ⟨gk, 0, none⟩) 16 Bh dh) :: .dat true (dNs done4) xs4 :: .dat false [dB b4] [.slice A4 n4 c4] :: fs) (by intro f hf; simp only [List.mem_cons] at hf ⊢; rcases hf with h | h | h | h <;> simp [h])
      clear hks key hn
      refine p_fld fG1 rfl ?_
      refine v_load agg_ns rfl ((M.B 4 rfl).at_ rfl) ?_
      refine v_loadN ((ncs (.mk 3 [] has v Kt []) Bp dp Bv dv (some ⟨gk, 0, none⟩) 16 Bh dh)) agg_nd rfl rfl (M.run 1 rfl) ?_
      refine s_bsliceB ((ncs (.mk 3 [] has v Kt []) Bp dp Bv dv (some ⟨gk, 0, none⟩) 16 Bh dh)) M sln z_nd rfl (by decide) rfl ?_
      clear M; rintro gz W M
      refine s_app M Try.underlying36 inf_nd rfl (by decide) rfl rfl (Reads.blk (M.B 0 rfl) rfl) (all1 rfl) ⟨by omega, by decide⟩ ?_
      clear M; rintro A9 c9 W M -
      replace M := M.dropL
      refine p_fld fG1 rfl ?_
      refine s_set 4 (off := 1) (.slice A9 (nd4 + 1) c9) (rc A4 n4 c4 A9 (nd4 + 1) c9 left4 e4) M rfl sz_nsP rfl rfl rfl (by show 1 < 4; decide) rfl ?_
      clear M; rintro W M
      dsimp only [setL] at M
      have hX := (M.dt 1 rfl).app (M.dt 0 rfl)
      rw [show dNs done4 ++ dN (.mk 3 [] has v Kt []) = dNs (done4 ++ [(.mk 3 [] has v Kt [])]) by rw [dNs_app, dNs, dNs, List.append_nil]] at hX
      replace M := (M.addT hX).drew
      clear hX
      refine drT (Kp w gs [(g12, 38, (ncs (.mk 3 [] has v Kt []) Bp dp Bv dv (some ⟨gk, 0, none⟩) 16 Bh dh)), (g2, 90, rc A4 n4 c4 A9 (nd4 + 1) c9 left4 e4)] []) (.take 0 (.take 1 (.one 2 (.one 3 (.nil))))) (by kernel_rfl) (M.kp (by simp) (by simp)) ?_
      refine t_loadN ((ncs (.mk 3 [] has v Kt []) Bp dp Bv dv (some ⟨gk, 0, none⟩) 16 Bh dh)) agg_nd rfl rfl (fun W K => K.run 0 rfl) ?_
      refine t_loadN (rc A4 n4 c4 A9 (nd4 + 1) c9 left4 e4) agg_got rfl rfl (fun W K => K.run 1 rfl) ?_
      refine s_storeA 3 ((ncs (.mk 3 [] has v Kt []) Bp dp Bv dv (some ⟨gk, 0, none⟩) 16 Bh dh)) M rfl sz_nd rfl rfl rfl (all1 rfl) rfl ?_
      clear M; rintro W M
      dsimp only [setL] at M
      refine ⟨(M.kp (by simp) (by simp)), ?_⟩
      refine s_storeA 2 (rc A4 n4 c4 A9 (nd4 + 1) c9 left4 e4) M rfl sz_got rfl rfl rfl (all1 rfl) rfl ?_
      clear M; rintro W M
      dsimp only [setL] at M
      refine ⟨(M.kp (by simp) (by simp)), ?_⟩
      refine c_loadN ((ncs (.mk 3 [] has v Kt []) Bp dp Bv dv (some ⟨gk, 0, none⟩) 16 Bh dh)) agg_nd rfl rfl (M.run 3 rfl) ?_
      refine c_loadN (rc A4 n4 c4 A9 (nd4 + 1) c9 left4 e4) agg_got rfl rfl (M.run 2 rfl) ?_
      refine ⟨(ncs (.mk 3 [] has v Kt []) Bp dp Bv dv (some ⟨gk, 0, none⟩) 16 Bh dh), _, _, _, _, _, _, _, e4, (.mk 3 [] has v Kt []), b4, done4 ++ [(.mk 3 [] has v Kt [])], _, rfl, (M.dropL.dropL.dropL.dropL.dropL).fsub _ (by intro f hf; simp only [List.mem_cons] at hf ⊢; rcases hf with h | h | h | h <;> simp [h]), ?_⟩
      rcases hK with ⟨k1, k2, k3, k4, k5, k6, k7⟩ | ⟨k1, k2⟩
      · rw [show 16 - 16 = 0 from rfl, kidsA] at k2
        rw [k2] at hS
        dsimp only at hS
        rw [show noneNs (16 - 16) = [] from rfl, List.append_nil] at hKt
        subst hS hKt
        exact ⟨k1, rfl, rfl, rfl, rfl⟩
      · rw [k2] at hS
        subst hS
        exact ⟨rfl, by rw [List.length_append]; show done4.length + 1 ≤ _; omega⟩
    have hi16 : i < 16 := by have h : (i : Int) < 16 := hlt; omega
    refine p_fld fG3 rfl ?_
    refine v_load agg_int rfl ((M.B 5 rfl).at_ rfl) ?_
    refine p_eq rfl rfl (fun he => ?_) (fun he => ?_)
    rotate_left
    · have he : ¬ e4 = 0 := he
      obtain ⟨k1, k2⟩ := hK.resolve_left fun h => he h.1
      obtain ⟨Kt, hKt⟩ : ∃ Kt, Kt = dn ++ noneNs (16 - i) := ⟨_, rfl⟩
      have hK16 : Kt.length = 16 := by
        have h1 := noneNs_len (16 - i)
        have h2 := congrArg List.length hKt
        rw [List.length_append] at h2
        omega
      rw [← hKt] at M
      replace M := M.frzB (fr := true) (s := 6) (n := 16) (c := 16) (M.dt 2 rfl) (by rw [dNs_len, hK16]) (Nat.le_refl _)
      have hks := (M.dt 0 rfl).hd
      have key : ∀ (V : World) F, RdD V F (.sl 6 16 (dNs Kt)) (.slice (some ⟨gk, 0, none⟩) 16 16) → RdD V F (dKs Kt) (.slice (some ⟨gk, 0, none⟩) Kt.length 16) := fun V F h => by unfold dKs; rw [hK16]; exact h
      have hn := RdL.ofnode (t := .mk 3 [] has v Kt []) (RdD.nil_ (s := 1) Bp dp) (M.dt 5 rfl).hd (key _ _ hks) (RdD.nil_ (s := 1) Bh dh)
      have hnc : N0 = ncs (.mk 3 [] has v Kt []) Bp dp Bv dv (some ⟨gk, 0, none⟩) 16 Bh dh := by rw [hN0]; simp only [ncs, Nd.kids, Nd.kind, Nd.path, Nd.has, Nd.val, Nd.hash, hK16, List.length_nil]
      rw [hnc] at M
      replace M := (M.addT hn).fsub (.dat true (dN (.mk 3 [] has v Kt [])) (ncs (.mk 3 [] has v Kt []) Bp dp Bv dv (some ⟨gk, 0, none⟩) 16 Bh dh) :: .dat true (dNs done4) xs4 :: .dat false [dB b4] [.slice A4 n4 c4] :: fs) (by intro f hf; simp only [List.mem_cons] at hf ⊢; rcases hf with h | h | h | h <;> simp [h])
      clear hks key hn
      refine p_fld fG1 rfl ?_
      refine v_load agg_ns rfl ((M.B 4 rfl).at_ rfl) ?_
      refine v_loadN ((ncs (.mk 3 [] has v Kt []) Bp dp Bv dv (some ⟨gk, 0, none⟩) 16 Bh dh)) agg_nd rfl rfl (M.run 1 rfl) ?_
      refine s_bsliceB ((ncs (.mk 3 [] has v Kt []) Bp dp Bv dv (some ⟨gk, 0, none⟩) 16 Bh dh)) M sln z_nd rfl (by decide) rfl ?_
      clear M; rintro gz W M
      refine s_app M Try.underlying36 inf_nd rfl (by decide) rfl rfl (Reads.blk (M.B 0 rfl) rfl) (all1 rfl) ⟨by omega, by decide⟩ ?_
      clear M; rintro A9 c9 W M -
      replace M := M.dropL
      refine p_fld fG1 rfl ?_
      refine s_set 4 (off := 1) (.slice A9 (nd4 + 1) c9) (rc A4 n4 c4 A9 (nd4 + 1) c9 left4 e4) M rfl sz_nsP rfl rfl rfl (by show 1 < 4; decide) rfl ?_
      clear M; rintro W M
      dsimp only [setL] at M
      have hX := (M.dt 1 rfl).app (M.dt 0 rfl)
      rw [show dNs done4 ++ dN (.mk 3 [] has v Kt []) = dNs (done4 ++ [(.mk 3 [] has v Kt [])]) by rw [dNs_app, dNs, dNs, List.append_nil]] at hX
      replace M := (M.addT hX).drew
      clear hX
      refine drT (Kp w gs [(g12, 38, (ncs (.mk 3 [] has v Kt []) Bp dp Bv dv (some ⟨gk, 0, none⟩) 16 Bh dh)), (g2, 90, rc A4 n4 c4 A9 (nd4 + 1) c9 left4 e4)] []) (.take 0 (.take 1 (.one 2 (.one 3 (.nil))))) (by kernel_rfl) (M.kp (by simp) (by simp)) ?_
      refine t_loadN ((ncs (.mk 3 [] has v Kt []) Bp dp Bv dv (some ⟨gk, 0, none⟩) 16 Bh dh)) agg_nd rfl rfl (fun W K => K.run 0 rfl) ?_
      refine t_loadN (rc A4 n4 c4 A9 (nd4 + 1) c9 left4 e4) agg_got rfl rfl (fun W K => K.run 1 rfl) ?_
      refine s_storeA 3 ((ncs (.mk 3 [] has v Kt []) Bp dp Bv dv (some ⟨gk, 0, none⟩) 16 Bh dh)) M rfl sz_nd rfl rfl rfl (all1 rfl) rfl ?_
      clear M; rintro W M
      dsimp only [setL] at M
      refine ⟨(M.kp (by simp) (by simp)), ?_⟩
      refine s_storeA 2 (rc A4 n4 c4 A9 (nd4 + 1) c9 left4 e4) M rfl sz_got rfl rfl rfl (all1 rfl) rfl ?_
      clear M; rintro W M
      dsimp only [setL] at M
      refine ⟨(M.kp (by simp) (by simp)), ?_⟩
      refine c_loadN ((ncs (.mk 3 [] has v Kt []) Bp dp Bv dv (some ⟨gk, 0, none⟩) 16 Bh dh)) agg_nd rfl rfl (M.run 3 rfl) ?_
      refine c_loadN (rc A4 n4 c4 A9 (nd4 + 1) c9 left4 e4) agg_got rfl rfl (M.run 2 rfl) ?_
      refine ⟨(ncs (.mk 3 [] has v Kt []) Bp dp Bv dv (some ⟨gk, 0, none⟩) 16 Bh dh), _, _, _, _, _, _, _, e4, (.mk 3 [] has v Kt []), b4, done4 ++ [(.mk 3 [] has v Kt [])], _, rfl, (M.dropL.dropL.dropL.dropL.dropL).fsub _ (by intro f hf; simp only [List.mem_cons] at hf ⊢; rcases hf with h | h | h | h <;> simp [h]), ?_⟩
      rw [k2] at hS
      subst hS
      exact ⟨rfl, by rw [List.length_append]; show done4.length + 1 ≤ _; omega⟩
    have he : e4 = 0 := he
    obtain ⟨k1, k2, k3, k4, k5, k6, k7⟩ := hK.resolve_right fun h => h.1 he
    subst k1
    have hnn : noneNs (16 - i) = noneN :: noneNs (16 - (i + 1)) := by unfold noneNs; rw [show 16 - i = (16 - (i + 1)) + 1 by omega, List.replicate_succ]
    have hi8 : i / 8 < bits.length := by omega
    obtain ⟨bb, off, hA, hcell⟩ := (M.rdb 3 rfl).2.2.at_ (k := i / 8) (by omega)
    subst hA
    refine p_quoN (b := 8) rfl rfl (by decide) (by omega) ?_
    refine p_at (i := i / 8) slb rfl rfl rfl (by omega) ?_
    refine v_load agg_by' rfl (by rw [Addr.add_lit, Nat.mul_one]; exact hcell) ?_
    refine p_remN (b := 8) rfl rfl (by decide) ?_
    refine p_subN (a := 7) (b := i % 8) rfl rfl (by omega) (by omega) ?_
    refine v_cvt u_inxK u_uiyK rfl (r := ((7 - i % 8 : Nat) : Int)) (wu64 (by omega)) ?_
    have hq256 := (bits.getD (i / 8) 0).toNat_lt
    refine p_shr rfl rfl (by omega) (r := (((bits.getD (i / 8) 0).toNat / 2 ^ (7 - i % 8) : Nat) : Int)) (shr7 (by omega)) ?_
    refine p_rem rfl rfl (by decide) (r := ((((bits.getD (i / 8) 0).toNat / 2 ^ (7 - i % 8)) % 2 : Nat) : Int)) (tmod2K _) ?_
    rw [show 16 - i = (16 - (i + 1)) + 1 by omega, kidsA] at k2
    refine p_eq rfl rfl (fun hbit => ?_) (fun hbit => ?_)
    rotate_left
    · have hbit : ¬ ((((bits.getD (i / 8) 0).toNat / 2 ^ (7 - i % 8)) % 2 : Nat) : Int) = 1 := hbit
      have hno : ¬ bitB bits i = true := fun h => by
        unfold bitB at h
        rw [decide_eq_true_eq] at h
        omega
      rw [if_neg hno] at k2
      refine p_addN (b := 1) rfl rfl (by omega) ?_
      refine ⟨(i + 1, dn ++ [noneN], xk, (A4, n4, c4), (Ad4, nd4, cd4), left4, 0, b4, done4, xs4), ⟨by dsimp only; omega, by dsimp only; rw [List.length_append, hdn]; rfl, ?_, hd4, .inl ⟨rfl, k2, k3, k4, k5, k6, k7⟩⟩, (by repeat (first | exact trivial | refine ⟨rfl, ?_⟩)), by dsimp only; omega⟩
      rw [hnn] at M
      dsimp only
      rw [List.append_assoc]
      exact M
    have hbit : ((((bits.getD (i / 8) 0).toNat / 2 ^ (7 - i % 8)) % 2 : Nat) : Int) = 1 := hbit
    have hyes : bitB bits i = true := by unfold bitB; rw [decide_eq_true]; omega
    rw [if_pos hyes] at k2
    subst hN0
    have hsz := one_sz (B := B) G b4 done4 left4 k3 k4 k5 (by omega)
    have hxl := (M.da 2 rfl).len
    rw [dNs_len, List.length_append, hdn, noneNs_len] at hxl
    replace M := M.drew
    refine drZ 12 (Kp w gs [(g12, 38, [.int .i64 3, .slice Bp 0 dp, .bool has, .slice Bv v.length dv, .slice (some ⟨gk, 0, none⟩) 16 16, .slice Bh 0 dh]), (g2, 90, rc A4 n4 c4 Ad4 nd4 cd4 left4 0)] []) [(0, true), (1, true), (2, true), (3, true), (4, true), (5, true), (6, false), (7, true), (8, true), (9, true), (10, true), (11, false)] (by kernel_rfl) (M.kp (by simp) (by simp)) ?_
    refine p_fld fN4 rfl ?_
    refine t_load agg_ns rfl (fun W K => (K.B 0 rfl).at_ rfl) ?_
    refine t_loadN (rc A4 n4 c4 Ad4 nd4 cd4 left4 0) agg_got rfl rfl (fun W K => K.run 1 rfl) ?_
    refine p_addN (b := 1) rfl rfl (by omega) ?_
    refine cc is_rone (ih G rfl B (deep + 1) (by omega) hB w _ gs A4 n4 c4 Ad4 nd4 cd4 left4 b4 done4 xs4 _ R _ (oneF G b4 done4 left4) k3 k4 k5 (by omega) (by omega) rfl M) ?_
    clear M
    rintro e W ⟨cs9, A5, n5, c5, Ad5, nd5, cd5, left5, e5, tn5, b5, done5, xs5, rfl, M, hP⟩
    refine ⟨_, rfl, (M.kp (by simp) (by simp)), ?_⟩
    have hcl9 := (M.da 0 rfl).len
    rw [dN_len] at hcl9
    refine p_atL (i := i) (q := i * 6) sln rfl rfl rfl hi16 (by omega) ?_
    refine s_storeP 0 (n := 6) (off := i * 6) cs9 _ M rfl sz_nd rfl rfl hcl9 ((M.da 0 rfl).ones (dN_one _)) (by omega) rfl ?_
    clear M; rintro W M
    dsimp only [setL] at M
    refine ⟨(M.kp (by simp) (by simp)), ?_⟩
    have hX := M.dt 3 rfl
    have hX2 := ((hX.take (i * 6)).app (M.dt 0 rfl)).app (hX.drop (i * 6 + 6))
    rw [← dNs_set tn5 (by rw [List.length_append, hdn, noneNs_len]; omega)] at hX2
    have hst : (dn ++ noneNs (16 - i)).set i tn5 = (dn ++ [tn5]) ++ noneNs (16 - (i + 1)) := by
      rw [hnn, List.set_append_right _ _ (by omega), hdn, Nat.sub_self, List.set_cons_zero, List.append_assoc]; rfl
    rw [hst] at hX2
    replace M := M.addT hX2
    refine s_storeA 5 (rc A5 n5 c5 Ad5 nd5 cd5 left5 e5) M rfl sz_got rfl rfl rfl (all1 rfl) rfl ?_
    clear M; rintro W M
    dsimp only [setL] at M
    refine p_addN (b := 1) rfl rfl (by omega) ?_
    refine ⟨(i + 1, dn ++ [tn5], _, (A5, n5, c5), (Ad5, nd5, cd5), left5, e5, b5, done5, xs5), ⟨by dsimp only; omega, by dsimp only; rw [List.length_append, hdn]; rfl, M.fsub _ (by intro f hf; simp only [List.mem_cons] at hf ⊢; rcases hf with h | h | h | h | h | h <;> simp [h]), ?_⟩, (by repeat (first | exact trivial | refine ⟨rfl, ?_⟩)), by dsimp only; omega⟩
    cases hr : oneF G b4 done4 left4 with
    | bad x =>
      rw [hr] at hP hsz k2
      have hx0 : x ≠ 0 := by rcases hsz with h | h <;> rw [h] <;> decide
      exact ⟨by have := hP.2; dsimp only; omega, .inr ⟨fun h => hx0 (hP.1.symm.trans h), by dsimp only; rw [hP.1]; exact k2⟩⟩
    | got nn bb1 d1 l1 =>
      rw [hr] at hP hsz k2
      obtain ⟨p1, p2, p3, p4, p5⟩ := hP
      obtain ⟨s1, s2, s3, s4, s5, s6⟩ := hsz
      subst p1; subst p2; subst p3; subst p4; subst p5
      exact ⟨by dsimp only; omega, .inl ⟨rfl, k2, s3, by dsimp only; omega, s2, by dsimp only; omega, by dsimp only; omega⟩⟩
  have hk3 : k ≠ 3 := fun e => hk3 (by rw [e]; rfl)
  unfold bodyQ at hS
  dsimp only at hS
  rw [if_neg hk2, if_neg hk3] at hS
  subst hS
  replace M := M.fsub (.dat true (dN tn) (ncs tn Bp dp Bv dv Bk dk Bh dh) :: .dat true (dNs done) xs :: .dat false [dB r] [.slice A3 r.length c3] :: fs) (by intro f hf; simp only [List.mem_cons] at hf ⊢; rcases hf with h | h | h | h <;> simp [h])
  refine p_fld fG1 rfl ?_
  refine v_load agg_ns rfl ((M.B 4 rfl).at_ rfl) ?_
  refine v_loadN ((ncs tn Bp dp Bv dv Bk dk Bh dh)) agg_nd rfl rfl (M.run 1 rfl) ?_
  refine s_bsliceB ((ncs tn Bp dp Bv dv Bk dk Bh dh)) M sln z_nd rfl (by decide) rfl ?_
  clear M; rintro gz W M
  refine s_app M Try.underlying36 inf_nd rfl (by decide) rfl rfl (Reads.blk (M.B 0 rfl) rfl) (all1 rfl) ⟨by omega, by decide⟩ ?_
  clear M; rintro A9 c9 W M -
  replace M := M.dropL
  refine p_fld fG1 rfl ?_
  refine s_set 4 (off := 1) (.slice A9 (done.length + 1) c9) (rc A3 r.length c3 A9 (done.length + 1) c9 left2 0) M rfl sz_nsP rfl rfl rfl (by show 1 < 4; decide) rfl ?_
  clear M; rintro W M
  dsimp only [setL] at M
  have hX := (M.dt 1 rfl).app (M.dt 0 rfl)
  rw [show dNs done ++ dN tn = dNs (done ++ [tn]) by rw [dNs_app, dNs, dNs, List.append_nil]] at hX
  replace M := (M.addT hX).drew
  clear hX
  refine drT (Kp w gs [(g12, 38, (ncs tn Bp dp Bv dv Bk dk Bh dh)), (g2, 90, rc A3 r.length c3 A9 (done.length + 1) c9 left2 0)] []) (.take 0 (.take 1 (.one 2 (.one 3 (.nil))))) (by kernel_rfl) (M.kp (by simp) (by simp)) ?_
  refine t_loadN ((ncs tn Bp dp Bv dv Bk dk Bh dh)) agg_nd rfl rfl (fun W K => K.run 0 rfl) ?_
  refine t_loadN (rc A3 r.length c3 A9 (done.length + 1) c9 left2 0) agg_got rfl rfl (fun W K => K.run 1 rfl) ?_
  refine s_storeA 3 ((ncs tn Bp dp Bv dv Bk dk Bh dh)) M rfl sz_nd rfl rfl rfl (all1 rfl) rfl ?_
  clear M; rintro W M
  dsimp only [setL] at M
  refine ⟨(M.kp (by simp) (by simp)), ?_⟩
  refine s_storeA 2 (rc A3 r.length c3 A9 (done.length + 1) c9 left2 0) M rfl sz_got rfl rfl rfl (all1 rfl) rfl ?_
  clear M; rintro W M
  dsimp only [setL] at M
  refine ⟨(M.kp (by simp) (by simp)), ?_⟩
  refine c_loadN ((ncs tn Bp dp Bv dv Bk dk Bh dh)) agg_nd rfl rfl (M.run 3 rfl) ?_
  refine c_loadN (rc A3 r.length c3 A9 (done.length + 1) c9 left2 0) agg_got rfl rfl (M.run 2 rfl) ?_
  refine ⟨(ncs tn Bp dp Bv dv Bk dk Bh dh), _, _, _, _, _, _, _, 0, tn, r, done ++ [tn], _, rfl, (M.dropL.dropL.dropL.dropL.dropL).fsub _ (by intro f hf; simp only [List.mem_cons] at hf ⊢; rcases hf with h | h | h | h <;> simp [h]), ?_⟩
  exact ⟨rfl, rfl, rfl, rfl, rfl⟩
theorem r1_any : ∀ F, R1Ok F
  | 0 => r1_step 0 (fun G h => by omega)
  | F + 1 => r1_step (F + 1) (fun G h => by
    have : G = F := by omega
    subst this
    exact r1_any G)
end Go.Proofs.Ytliccofjlheceaa
