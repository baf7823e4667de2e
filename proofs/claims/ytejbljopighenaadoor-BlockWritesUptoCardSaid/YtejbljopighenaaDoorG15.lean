/- Package block: Encode. Reference 21: Check, fits, Encode. Reference 21: Encode. -/
import Derived.Test.YtejbljopighenaaDoorG14
namespace Go.Proofs.YtejbljopighenaaDoor
open Go.RowKit
theorem is_vjoin : isFn Tryd.prog 24 = true := by kernel_rfl
theorem u_lss : Tryd.prog.underlying 62 = some (.slice 22) := by kernel_rfl
theorem al_bool : (Tryd.prog.info? 4).map (fun i => i.zero.map fun z => z.cells.toList) = some (some [.bool false]) := by kernel_rfl
section
variable {E : Env} {d : Option Nat} {ty : TypeId} {p : String} {af : Array Edge} {gd : Option (Nat × Bool)} {x : Operand} {kw : Value → World → Prop} {w W : World} {gs : List (Option Nat)} {L : Lc} {R : List Row} {fs : List Fact}
/-- A text's bytes. -/
theorem s_s2b {l : List UInt8} (M : St w gs W L R fs) (hx : val E x = .string (sb l)) (h : ∀ A c W', St w gs W' L R (.dat false [dB l] [.slice A l.length c] :: fs) → kw (.slice A l.length c) W') :
    VVal Tryd.prog E { dst := d, op := .convert 9 22 x, type := ty, pos := p, after := af, guard := gd } W kw :=
  v_s2b hx fun g c W' hg hr hc hb _ => h _ c W' (by
    subst hg
    refine (M.call hb).addD (RdD.ofbytes hr hc fun b off e hb2 => ⟨hb2, fun e2 => ?_⟩)
    injection e with e
    injection e with e
    have := M.olt b e2
    omega)
theorem RdD.rds {W : World} {F : Nat → Prop} {A : Option Addr} {n c : Nat} {ll : List (List UInt8)} (h : RdD W F (dLs ll) (.slice A n c)) (hF : ∀ b, F b → b < W.heap.size) : n = ll.length ∧ n ≤ c ∧ RdS W W.heap.size A n ll := by
  obtain ⟨cs, h1, h2⟩ := h.reads hF
  obtain ⟨A', c', e, h3, -⟩ := h.open_
  injection e with _ e2 e3
  subst e3
  refine ⟨h.slen, by omega, RdN.lists ⟨cs, h1, by rw [h2.len]; simp, fun k v xs e1 e2 => ?_⟩⟩
  rw [List.getElem?_map] at e2
  obtain ⟨l, hl, rfl⟩ := Option.map_eq_some_iff.1 e2
  obtain ⟨v', hv', hd⟩ : ∃ v', cs[k]? = some v' ∧ RdD W F (dB l) v' := h2.get (by rw [List.getElem?_map, hl]; rfl)
  rw [e1] at hv'
  injection hv' with hv'
  subst hv'
  obtain ⟨A2, c2, rfl, h4, -⟩ := hd.open_
  obtain ⟨cs2, h5, h6⟩ := hd.reads hF
  have := h6.vals
  subst this
  exact ⟨A2, l.length, c2, rfl, h4, h5⟩
set_option maxRecDepth 100000 in
/-- Is it short enough? -/
theorem fit_any {g : Nat} {lg : Bool} (M : St w gs W ((g, 4, [.bool lg]) :: L) R fs) (A : Option Addr) (n c : Nat) :
    Calls Tryd.prog 23 #[.slice A n c, .pointer (some ⟨g, 0, none⟩)] W fun e W' => e = .returned (.slice A n c) ∧ St w gs W' ((g, 4, [.bool (lg || decide (1048576 < n))]) :: L) R fs := by
  refine calls_ev (args := [.slice A n c, .pointer (some ⟨g, 0, none⟩)]) mixed Tryd.func23 rfl (by kernel_rfl) ?_
  refine v_load agg_bl rfl ((M.B 0 rfl).at_ rfl) ?_
  cases lg with
  | true =>
    refine s_set 0 (off := 0) (.bool true) [.bool true] M rfl sz_bln rfl rfl rfl (by show 0 < 1; decide) rfl ?_
    clear M; rintro W M
    dsimp only [setL] at M
    exact ⟨rfl, M⟩
  | false =>
    refine p_len slb rfl ?_
    refine p_gt rfl rfl (fun q => ?_) (fun q => ?_)
    · have q : 1048576 < n := by have h : (1048576 : Int) < (n : Int) := q; omega
      refine s_set 0 (off := 0) (.bool true) [.bool true] M rfl sz_bln rfl rfl rfl (by show 0 < 1; decide) rfl ?_
      clear M; rintro W M
      dsimp only [setL] at M
      rw [Bool.false_or, decide_eq_true q]
      exact ⟨rfl, M⟩
    · have q : ¬ 1048576 < n := by have h : ¬ (1048576 : Int) < (n : Int) := q; omega
      refine s_set 0 (off := 0) (.bool false) [.bool false] M rfl sz_bln rfl rfl rfl (by show 0 < 1; decide) rfl ?_
      clear M; rintro W M
      dsimp only [setL] at M
      rw [Bool.false_or, decide_eq_false q]
      exact ⟨rfl, M⟩
end
theorem encO_full {o : Out} (h : (encO o).2 = 0) : encO o = (outB o, 0) := by
  unfold encO at h ⊢
  split at h
  · next h1 =>
    split at h
    · exact absurd h (by decide)
    · next h2 => rw [if_pos h1, if_neg h2]
  · exact absurd h (by decide)
theorem take_map_snoc {α β : Type} (f : α → β) {l : List α} {i : Nat} {x : α} (h : l[i]? = some x) : (l.take (i + 1)).map f = (l.take i).map f ++ [f x] := by rw [List.take_add_one, h, List.map_append]; rfl
set_option maxRecDepth 100000 in
set_option maxHeartbeats 8000000 in
theorem bEnc_any (b : Bk) (gs : List (Option Nat)) (w : World) (cs : List Value) (hr : RdL w (Fd w gs) (dBk b) cs) (hgs : ∀ b, some b ∈ gs → b < w.heap.size) (hf : FitsB b) :
    Calls Tryd.prog 9 #[.agg cs.toArray] w (EncG w (encBk b)) := by
  refine calls_ev (args := [.agg cs.toArray]) mixed Tryd.func9 rfl (by kernel_rfl) ?_
  obtain ⟨p, rfl, h1, h2, h3, h4, h5, h6⟩ := id hr.bk
  obtain ⟨t1, t2, t3, t4, t5, t6, t7, t8, t9⟩ := bk_txs b
  have M := ((((((St.start hgs).addD h6).addD h3).addD h2).addD h1).addD h5).addD h4
  have M := M.addL hr
  clear h1 h2 h3 h4 h5 h6 hr
  refine s_box (bkcs b p) M rfl ?_
  clear M
  rintro g1 W M
  refine v_loadN (bkcs b p) agg_bk rfl rfl (M.run 0 rfl) ?_
  refine cc is_bcheck (bcheck_any b _ _ _ (M.da 0 rfl) M.olt hf) ?_
  rintro e W ⟨rfl, hb⟩
  replace M := M.call hb
  clear hb
  obtain ⟨hf0, hf1, hf2⟩ := hf
  refine ⟨_, rfl, ?_⟩
  refine p_ne rfl rfl (fun q => ?_) (fun q => ?_)
  rotate_left
  · have q : ¬ checkBk b = 0 := q
    have he : encBk b = ([], checkBk b) := by
      unfold checkBk at q ⊢
      split
      · next h1 =>
        rw [if_pos h1] at q
        split
        · rw [encBk_3 h1 (by omega)]
        · next h2 => rw [if_neg h2] at q; exact absurd rfl q
      · next h1 => rw [encBk_2 (by simpa using h1)]
    exact ⟨none, 0, 0, by rw [he]; rfl, by rw [he]; exact World.ownsRow_nil _ _ _ _, M.below⟩
  have q : checkBk b = 0 := q
  have hrt : rightBk b = true := by
    unfold checkBk at q
    split at q
    · next h => exact h
    · exact absurd q (by decide)
  obtain ⟨⟨r1, r2, r3, r4, r5, r6⟩, r7, r8⟩ := right_iff.1 hrt
  refine s_alloc [.bool false] M al_bool ?_
  clear M; rintro g5 W M
  refine s_set 0 (off := 0) (.bool false) [.bool false] M rfl sz_bln rfl rfl rfl (by show 0 < 1; decide) rfl ?_
  clear M; rintro W M
  dsimp only [setL] at M
  refine p_fun (#[] : Array Operand) _ ?_
  refine p_fld fB4 rfl ?_
  refine v_load agg_tss rfl ((M.B 1 rfl).at_ rfl) ?_
  refine p_len sltss rfl ?_
  obtain ⟨FX, hFX⟩ : ∃ FX : List Fact, FX = [.dat false [dTxs b.txs] [.slice p.A4 b.txs.length p.c4], .dat false [dOuts b.outs] [.slice p.A5 b.outs.length p.c5], .dat false [dB b.last] [.slice p.A1 b.last.length p.c1], .dat false [dB b.prev] [.slice p.A2 b.prev.length p.c2], .dat false [dB b.next] [.slice p.A3 b.next.length p.c3], .dat false [dB b.proof] [.slice p.A6 b.proof.length p.c6]] := ⟨_, rfl⟩
  refine cutS (List Value × Option Addr × Nat × List Value × Option Addr × Nat × Bool) (fun s W => (s.2.2.2.2.2.2 = true → 1048576 < (blockB b).length) ∧ St w gs W [(g5, 4, [.bool s.2.2.2.2.2.2]), (g1, 26, bkcs b p)] [⟨22, 1, s.2.1, b.txs.length, s.2.2.1, s.1⟩, ⟨22, 1, s.2.2.2.2.1, b.txs.length, s.2.2.2.2.2.1, s.2.2.2.1⟩] (.dat false ((outsB b).map dB) s.1 :: .dat false ((txsB b).map dB) s.2.2.2.1 :: FX))
    (fun s => [(1, .pointer (some ⟨g1, 0, none⟩)), (5, .pointer (some ⟨g5, 0, none⟩)), (6, .func (.func 23) #[] #[.pointer (some ⟨g5, 0, none⟩)]), (7, .slice s.2.2.2.2.1 b.txs.length s.2.2.2.2.2.1), (8, .slice s.2.1 b.txs.length s.2.2.1)]) ?_ ?_
  · refine lp (Nat × List Value × Option Addr × Nat × List Value × Option Addr × Nat × Bool) (fun s W => s.1 ≤ b.txs.length ∧ (s.2.2.2.2.2.2.2 = true → 1048576 < (blockB b).length) ∧ St w gs W [(g5, 4, [.bool s.2.2.2.2.2.2.2]), (g1, 26, bkcs b p)] [⟨22, 1, s.2.2.1, s.1, s.2.2.2.1, s.2.1⟩, ⟨22, 1, s.2.2.2.2.2.1, s.1, s.2.2.2.2.2.2.1, s.2.2.2.2.1⟩] (.dat false (((b.outs.take s.1).map outB).map dB) s.2.1 :: .dat false (((b.txs.take s.1).map joinL).map dB) s.2.2.2.2.1 :: FX))
      (fun s => [(1, .pointer (some ⟨g1, 0, none⟩)), (5, .pointer (some ⟨g5, 0, none⟩)), (6, .func (.func 23) #[] #[.pointer (some ⟨g5, 0, none⟩)]), (7, .slice s.2.2.2.2.2.1 s.1 s.2.2.2.2.2.2.1), (8, .slice s.2.2.1 s.1 s.2.2.2.1), (24, .slice p.A4 b.txs.length p.c4), (25, .int .i64 (b.txs.length : Nat)), (26, .int .i64 s.1)]) (fun s => b.txs.length - s.1) (0, [], none, 0, [], none, 0, false) ⟨Nat.zero_le _, (fun h => by cases h), ?_⟩ (by repeat (first | exact trivial | refine ⟨rfl, ?_⟩)) ?_
    · have M2 := (((M.nilR 22 1).nilR 22 1).addL (ds := []) (cs := []) RdL.nil_).addL (ds := []) (cs := []) RdL.nil_
      subst hFX
      exact M2.fsub _ (by simp)
    clear M
    rintro ⟨i, xs8, A8, c8, xs7, A7, c7, lg⟩ E W ⟨hi, hlg, M⟩
    dsimp only at hi hlg M
    refine p_lt rfl rfl (fun hlt => ?_) (fun hge => ?_)
    rotate_left
    · have hi : i = b.txs.length := by have h : ¬ (i : Int) < (b.txs.length : Int) := hge; omega
      subst hi
      rw [List.take_of_length_le (Nat.le_refl _), List.take_of_length_le (by omega)] at M
      exact ⟨(xs8, A8, c8, xs7, A7, c7, lg), ⟨hlg, M⟩, (by repeat (first | exact trivial | refine ⟨rfl, ?_⟩))⟩
    have hil : i < b.txs.length := by have h : (i : Int) < (b.txs.length : Int) := hlt; omega
    obtain ⟨t, ht⟩ : ∃ t, b.txs[i]? = some t := ⟨_, List.getElem?_eq_getElem hil⟩
    obtain ⟨o, ho⟩ : ∃ o, b.outs[i]? = some o := ⟨_, List.getElem?_eq_getElem (by omega)⟩
    obtain ⟨u1, u2, u3⟩ := bk_tx (List.mem_of_getElem? ht)
    have hfo := hf1 o (List.mem_of_getElem? ho)
    have hol := bk_out (List.mem_of_getElem? ho)
    have heo := encO_full (r8 o (List.mem_of_getElem? ho))
    have hFt : ∀ f ∈ [Fact.dat false [dTxs b.txs] [.slice p.A4 b.txs.length p.c4], .dat false [dOuts b.outs] [.slice p.A5 b.outs.length p.c5]], f ∈ FX := by rw [hFX]; intro f hf; simp only [List.mem_cons, List.not_mem_nil, or_false] at hf ⊢; rcases hf with h | h <;> simp [h]
    have dtx : RdD W (Fd W (own [(g5, 4, [.bool lg]), (g1, 26, bkcs b p)] [⟨22, 1, A8, i, c8, xs8⟩, ⟨22, 1, A7, i, c7, xs7⟩] gs)) (dTxs b.txs) (.slice p.A4 b.txs.length p.c4) := by
      have h : RdL W (Ft w W _ false) [dTxs b.txs] [.slice p.A4 b.txs.length p.c4] := M.fct (.dat false [dTxs b.txs] [.slice p.A4 b.txs.length p.c4]) (List.mem_cons_of_mem _ (List.mem_cons_of_mem _ (hFt _ (by simp))))
      exact (h.to fun b hb => ⟨rfl, hb.1, hb.2.1⟩).hd
    obtain ⟨b1, o1, At, ct, e1, M'⟩ := M.txe dtx ht
    replace M := M'; clear M' dtx
    refine p_at (i := i) sltss (by show Value.slice p.A4 b.txs.length p.c4 = _; rw [e1]) rfl rfl hil ?_
    refine v_load agg_ts rfl (M.lc 0 rfl 0 _ rfl) ?_
    refine p_len slts rfl ?_
    refine lp (Nat × List Value × Option Addr × Nat) (fun s W => s.1 ≤ t.length ∧ St w gs W [(g5, 4, [.bool lg]), (g1, 26, bkcs b p)] [⟨22, 1, s.2.2.1, s.1, s.2.2.2, s.2.1⟩, ⟨22, 1, A8, i, c8, xs8⟩, ⟨22, 1, A7, i, c7, xs7⟩] (.dat false ((t.take s.1).map dB) s.2.1 :: .dat false [dTx t] [.slice At t.length ct] :: .dat false (((b.outs.take i).map outB).map dB) xs8 :: .dat false (((b.txs.take i).map joinL).map dB) xs7 :: FX))
      (fun s => [(1, .pointer (some ⟨g1, 0, none⟩)), (5, .pointer (some ⟨g5, 0, none⟩)), (6, .func (.func 23) #[] #[.pointer (some ⟨g5, 0, none⟩)]), (7, .slice A7 i c7), (8, .slice A8 i c8), (9, .int .i64 i), (11, .slice s.2.2.1 s.1 s.2.2.2), (24, .slice p.A4 b.txs.length p.c4), (25, .int .i64 (b.txs.length : Nat)), (26, .int .i64 i), (31, .slice At t.length ct), (32, .int .i64 (t.length : Nat)), (33, .int .i64 s.1)]) (fun s => t.length - s.1) (0, [], none, 0) ⟨Nat.zero_le _, ?_⟩ (by repeat (first | exact trivial | refine ⟨rfl, ?_⟩)) ?_
    · have M2 := (M.nilR 22 1).addL (ds := []) (cs := []) RdL.nil_
      exact M2.fsub _ (by intro f hf; simp only [List.mem_cons, List.take_zero, List.map_nil] at hf ⊢; rcases hf with h | h | h | h | h <;> simp [h])
    clear M
    rintro ⟨k, ys, A11, c11⟩ E W ⟨hk, M⟩
    dsimp only at hk M
    refine p_lt rfl rfl (fun hlt2 => ?_) (fun hge => ?_)
    · have hkl : k < t.length := by have h : (k : Int) < (t.length : Int) := hlt2; omega
      obtain ⟨x, hxi⟩ : ∃ x, t[k]? = some x := ⟨_, List.getElem?_eq_getElem hkl⟩
      have hxl := u3 x (List.mem_of_getElem? hxi)
      obtain ⟨b2, o2, rfl, M'⟩ := M.stre (M.d1 1 rfl) hxi
      replace M := M'; clear M'
      refine p_at (i := k) slts rfl rfl rfl hkl ?_
      refine v_load agg_st rfl (M.lc 0 rfl 0 _ rfl) ?_
      refine s_s2b M rfl ?_
      clear M; rintro A39 c39 W M
      refine s_bslice (fr := false) (ds := [dB x]) [.slice A39 x.length c39] M sls zls rfl (by decide) rfl (M.dw 0 rfl) rfl ?_
      clear M; rintro gq W M
      obtain ⟨news, hrd, hnd⟩ := (M.d1 0 rfl).reads Fd.lt
      replace M := M.addL hnd
      refine s_app (z := .slice none 0 0) (news := news) M u_lss lsinfo rfl (by decide) rfl rfl hrd (hnd.ones (fun d hd => by rcases List.mem_singleton.1 hd with rfl; exact trivial)) ⟨by omega, by decide⟩ ?_
      clear M hrd hnd
      rintro A41 c41 W M -
      refine p_addN (b := 1) rfl rfl (by omega) ?_
      have hx := (M.da 4 rfl).app (M.da 0 rfl)
      rw [← take_map_snoc dB hxi] at hx
      replace M := M.addL hx
      exact ⟨(k + 1, ys ++ news, A41, c41), ⟨by dsimp only; omega, M.fsub _ (by intro f hf; simp only [List.mem_cons] at hf ⊢; rcases hf with h | h | h | h | h <;> simp [h])⟩, (by repeat (first | exact trivial | refine ⟨rfl, ?_⟩)), by dsimp only; omega⟩
    have hk : k = t.length := by have h : ¬ (k : Int) < (t.length : Int) := hge; omega
    subst hk
    rw [List.take_of_length_le (Nat.le_refl _)] at M
    replace M := M.frzR (fr := false) (M.dt 0 rfl)
    obtain ⟨-, -, hrs⟩ := RdD.rds (ll := t) (M.d1 0 rfl) Fd.lt
    refine cc is_vjoin (join_any _ _ _ t _ hrs (by omega) (by omega)) ?_
    clear hrs
    rintro e W ⟨A46, n46, c46, rfl, o46, hb⟩
    have en46 := o46.len
    replace M := M.callO hb o46
    clear hb o46
    refine ⟨_, rfl, ?_⟩
    refine cc is_fit (fit_any M _ _ _) ?_
    clear M
    rintro e W ⟨rfl, M⟩
    refine ⟨_, rfl, ?_⟩
    have hlg2 : (lg || decide (1048576 < n46)) = true → 1048576 < (blockB b).length := by
      intro h
      rw [Bool.or_eq_true, decide_eq_true_eq] at h
      rcases h with h | h
      · exact hlg h
      · omega
    obtain ⟨lg2, hl2⟩ : ∃ q, q = (lg || decide (1048576 < n46)) := ⟨_, rfl⟩
    rw [← hl2] at M hlg2
    replace M := M.swpR
    refine s_bslice (fr := false) (ds := [dB (joinL t)]) [.slice A46 n46 c46] M sls zls rfl (by decide) rfl (M.dw 0 rfl) rfl ?_
    clear M; rintro gq W M
    obtain ⟨news, hrd, hnd⟩ := (M.d1 0 rfl).reads Fd.lt
    replace M := M.addL hnd
    refine s_app (z := .slice none 0 0) (news := news) M u_lss lsinfo rfl (by decide) rfl rfl hrd (hnd.ones (fun d hd => by rcases List.mem_singleton.1 hd with rfl; exact trivial)) ⟨by omega, by decide⟩ ?_
    clear M hrd hnd
    rintro A49 c49 W M -
    have hx := (M.da 7 rfl).app (M.da 0 rfl)
    have em : ((b.txs.take (i + 1)).map joinL).map dB = ((b.txs.take i).map joinL).map dB ++ [dB (joinL t)] := by rw [take_map_snoc joinL ht, List.map_append]; rfl
    rw [← em] at hx
    replace M := (M.addL hx).fsub (.dat false (((b.txs.take (i + 1)).map joinL).map dB) (xs7 ++ news) :: .dat false (((b.outs.take i).map outB).map dB) xs8 :: FX) (by intro f hf; simp only [List.mem_cons] at hf ⊢; rcases hf with h | h | h <;> simp [h])
    clear hx
    obtain ⟨xs9, hx9⟩ : ∃ x, x = xs7 ++ news := ⟨_, rfl⟩
    rw [← hx9] at M
    have dos : RdD W (Fd W (own [(g5, 4, [.bool lg2]), (g1, 26, bkcs b p)] [⟨22, 1, A49, i + 1, c49, xs9⟩, ⟨22, 1, A8, i, c8, xs8⟩] gs)) (dOuts b.outs) (.slice p.A5 b.outs.length p.c5) := by
      have h : RdL W (Ft w W (own [(g5, 4, [.bool lg2]), (g1, 26, bkcs b p)] [⟨22, 1, A49, i + 1, c49, xs7 ++ news⟩, ⟨22, 1, A8, i, c8, xs8⟩] gs) false) [dOuts b.outs] [.slice p.A5 b.outs.length p.c5] := by
        have := M.fct (.dat false [dOuts b.outs] [.slice p.A5 b.outs.length p.c5]) (List.mem_cons_of_mem _ (List.mem_cons_of_mem _ (hFt _ (by simp))))
        exact this
      exact (h.to fun b hb => ⟨rfl, hb.1, hb.2.1⟩).hd
    obtain ⟨b3, o3, es, e3, M'⟩ := M.oute dos ho
    replace M := M'; clear M' dos
    have hel := (M.da 1 rfl).len
    rw [dOut_len] at hel
    refine p_fld fB5 rfl ?_
    refine v_load agg_os rfl ((M.B 1 rfl).at_ rfl) ?_
    refine p_at (i := i) slos (by show Value.slice p.A5 b.outs.length p.c5 = _; rw [e3]) rfl rfl (by omega) ?_
    refine v_loadN es agg_out rfl hel (M.lc 0 rfl) ?_
    have cx := xEnc_any o _ _ _ (M.da 1 rfl) M.olt hfo
    rw [heo] at cx
    refine cc is_xEnc cx ?_
    clear cx
    rintro e W ⟨A57, n57, c57, rfl, o57, hb⟩
    have en57 : (outB o).length = n57 := o57.len
    replace M := M.callO hb o57
    clear hb o57
    refine ⟨_, rfl, ?_⟩
    refine cc is_fit (fit_any M _ _ _) ?_
    clear M
    rintro e W ⟨rfl, M⟩
    refine ⟨_, rfl, ?_⟩
    have hlg3 : (lg2 || decide (1048576 < n57)) = true → 1048576 < (blockB b).length := by
      intro h
      rw [Bool.or_eq_true, decide_eq_true_eq] at h
      rcases h with h | h
      · exact hlg2 h
      · omega
    obtain ⟨lg3, hl3⟩ : ∃ q, q = (lg2 || decide (1048576 < n57)) := ⟨_, rfl⟩
    rw [← hl3] at M hlg3
    replace M := M.swpR
    refine s_bslice (fr := false) (ds := [dB (outB o)]) [.slice A57 n57 c57] M sls zls rfl (by decide) rfl (M.dw 0 rfl) rfl ?_
    clear M; rintro gq W M
    obtain ⟨news, hrd, hnd⟩ := (M.d1 0 rfl).reads Fd.lt
    replace M := M.addL hnd
    refine s_app (z := .slice none 0 0) (news := news) M u_lss lsinfo rfl (by decide) rfl rfl hrd (hnd.ones (fun d hd => by rcases List.mem_singleton.1 hd with rfl; exact trivial)) ⟨by omega, by decide⟩ ?_
    clear M hrd hnd
    rintro A64 c64 W M -
    have hx := (M.da 6 rfl).app (M.da 0 rfl)
    have em2 : ((b.outs.take (i + 1)).map outB).map dB = ((b.outs.take i).map outB).map dB ++ [dB (outB o)] := by rw [take_map_snoc outB ho, List.map_append]; rfl
    rw [← em2] at hx
    replace M := (M.addL hx).fsub (.dat false (((b.outs.take (i + 1)).map outB).map dB) (xs8 ++ news) :: .dat false (((b.txs.take (i + 1)).map joinL).map dB) xs9 :: FX) (by intro f hf; simp only [List.mem_cons] at hf ⊢; rcases hf with h | h | h <;> simp [h])
    refine p_addN (b := 1) rfl rfl (by omega) ?_
    exact ⟨(i + 1, _, A64, c64, xs9, A49, c49, lg3), ⟨by dsimp only; omega, hlg3, M⟩, (by repeat (first | exact trivial | refine ⟨rfl, ?_⟩)), by dsimp only; omega⟩
  clear M
  rintro ⟨xs8, A8, c8, xs7, A7, c7, lg⟩ E W ⟨hlg, M⟩
  dsimp only at hlg M
  have hlo : (outsB b).length = b.txs.length := by unfold outsB; rw [List.length_map]; omega
  have hlt : (txsB b).length = b.txs.length := by unfold txsB; rw [List.length_map]
  replace M := M.frzR (fr := false) (M.dt 0 rfl)
  have hdo : RdD W (Fd W (own [(g5, 4, [.bool lg]), (g1, 26, bkcs b p)] [⟨22, 1, A7, b.txs.length, c7, xs7⟩] gs)) (dLs (outsB b)) (.slice A8 b.txs.length c8) := by unfold dLs; rw [hlo]; exact M.d1 0 rfl
  replace M := M.addD hdo
  clear hdo
  replace M := M.frzR (fr := false) (M.dt 3 rfl)
  have hdt : RdD W (Fd W (own [(g5, 4, [.bool lg]), (g1, 26, bkcs b p)] [] gs)) (dLs (txsB b)) (.slice A7 b.txs.length c7) := by unfold dLs; rw [hlt]; exact M.d1 0 rfl
  replace M := M.addD hdt
  clear hdt
  replace M := (M.fsub [.dat false [dLs (txsB b)] [.slice A7 b.txs.length c7], .dat false [dLs (outsB b)] [.slice A8 b.txs.length c8], .dat false [dB b.last] [.slice p.A1 b.last.length p.c1], .dat false [dB b.prev] [.slice p.A2 b.prev.length p.c2], .dat false [dB b.next] [.slice p.A3 b.next.length p.c3], .dat false [dB b.proof] [.slice p.A6 b.proof.length p.c6]] (by subst hFX; simp)).drew
  clear hFX FX
  refine cutV (Option Addr × Nat) (fun s W => St w gs W [(g5, 4, [.bool (decide (1048576 < (blockB b).length))]), (g1, 26, bkcs b p)] [⟨5, 1, s.1, (blockB b).length, s.2, bvs (blockB b)⟩] []) (fun s => [(5, .pointer (some ⟨g5, 0, none⟩)), (16, .slice s.1 (blockB b).length s.2)]) ?_ ?_
  · refine drT (Kp w gs [(g1, 26, bkcs b p)] []) (.take 0 (.take 1 (.take 2 (.take 3 (.take 5 (.take 6 (.take 7 (.take 8 (.take 9 (.take 10 (.take 11 (.take 12 (.take 15 (.take 16 (.take 19 (.take 20 (.one 4 (.one 13 (.one 14 (.one 17 (.one 18 (.one 21 (.one 22 (.one 23 (.take 24 (.nil)))))))))))))))))))))))))) (by kernel_rfl) (M.kp (by simp) (by simp)) ?_
    refine p_fld fB0 rfl ?_
    refine t_load agg_i rfl (fun W K => (K.B 0 rfl).at_ rfl) ?_
    refine t_cvt u_i64t u_u64t rfl (cv64 r1 hf0) ?_
    refine p_fld fB1 rfl ?_
    refine t_load agg_b rfl (fun W K => (K.B 0 rfl).at_ rfl) ?_
    refine p_fld fB2 rfl ?_
    refine t_load agg_b rfl (fun W K => (K.B 0 rfl).at_ rfl) ?_
    refine p_fld fB3 rfl ?_
    refine t_load agg_b rfl (fun W K => (K.B 0 rfl).at_ rfl) ?_
    refine p_fld fB6 rfl ?_
    refine t_load agg_b rfl (fun W K => (K.B 0 rfl).at_ rfl) ?_
    refine cc is_vput (put_any b.num.toNat _ (putN_len10 (by omega))) ?_
    rintro e W ⟨A70, c70, rfl, o70, hb⟩
    replace M := M.callO hb o70
    clear hb o70
    refine ⟨_, rfl, (M.kp (by simp) (by simp)), ?_⟩
    obtain ⟨-, -, hrs⟩ := RdD.rds (ll := txsB b) (M.d1 1 rfl) Fd.lt
    refine cc is_vjoin (join_any _ _ _ (txsB b) _ hrs (by omega) (by omega)) ?_
    clear hrs
    rintro e W ⟨A79, n79, c79, rfl, o79, hb⟩
    have en79 : (joinL (txsB b)).length = n79 := o79.len
    replace M := M.callO hb o79
    clear hb o79
    refine ⟨_, rfl, (M.kp (by simp) (by simp)), ?_⟩
    refine cc is_fit (fit_any M _ _ _) ?_
    clear M
    rintro e W ⟨rfl, M⟩
    refine ⟨_, rfl, (M.kp (by simp) (by simp)), ?_⟩
    obtain ⟨-, -, hrs⟩ := RdD.rds (ll := outsB b) (M.d1 3 rfl) Fd.lt
    refine cc is_vjoin (join_any _ _ _ (outsB b) _ hrs (by omega) (by omega)) ?_
    clear hrs
    rintro e W ⟨A83, n83, c83, rfl, o83, hb⟩
    have en83 : (joinL (outsB b)).length = n83 := o83.len
    replace M := M.callO hb o83
    clear hb o83
    refine ⟨_, rfl, (M.kp (by simp) (by simp)), ?_⟩
    refine cc is_fit (fit_any M _ _ _) ?_
    clear M
    rintro e W ⟨rfl, M⟩
    refine ⟨_, rfl, (M.kp (by simp) (by simp)), ?_⟩
    refine s_bslice (fr := false) (ds := (partsB b).map dB) [.slice A70 (putN b.num.toNat).length c70, .slice p.A1 b.last.length p.c1, .slice p.A2 b.prev.length p.c2, .slice p.A3 b.next.length p.c3, .slice A79 n79 c79, .slice A83 n83 c83, .slice p.A6 b.proof.length p.c6] M sls zls rfl (by decide) rfl (RdL.cons (M.dw 2 rfl).hd (RdL.cons (M.dw 5 rfl).hd (RdL.cons (M.dw 6 rfl).hd (RdL.cons (M.dw 7 rfl).hd (RdL.cons (M.dw 1 rfl).hd (RdL.cons (M.dw 0 rfl).hd (RdL.cons (M.dw 8 rfl).hd RdL.nil_))))))) rfl ?_
    clear M; rintro g87 W M
    refine ⟨(M.kp (by simp) (by simp)), ?_⟩
    obtain ⟨-, -, hrs⟩ := RdD.rds (ll := partsB b) (M.d1 0 rfl) Fd.lt
    refine cc is_vjoin (join_any _ _ _ (partsB b) _ hrs (by decide) (by show (blockB b).length ≤ _; omega)) ?_
    clear hrs
    rintro e W ⟨A88, n88, c88, rfl, o88, hb⟩
    have en88 : (blockB b).length = n88 := o88.len
    subst en88
    replace M := M.callR (r := ⟨5, 1, A88, (blockB b).length, c88, bvs (blockB b)⟩) hb o88
    clear hb o88
    refine ⟨_, rfl, (M.kp (by simp) (by simp)), ?_⟩
    refine cc is_fit (fit_any M _ _ _) ?_
    clear M
    rintro e W ⟨rfl, M⟩
    refine ⟨_, rfl, (M.kp (by simp) (by simp)), ?_⟩
    have eq : (((lg || decide (1048576 < n79)) || decide (1048576 < n83)) || decide (1048576 < (blockB b).length)) = decide (1048576 < (blockB b).length) := by
      by_cases hB : 1048576 < (blockB b).length
      · rw [decide_eq_true hB, Bool.or_true]
      · have h1 : lg = false := by cases lg with
          | false => rfl
          | true => exact absurd (hlg rfl) hB
        rw [h1, decide_eq_false hB, decide_eq_false (show ¬ 1048576 < n79 by omega), decide_eq_false (show ¬ 1048576 < n83 by omega)]
        rfl
    rw [eq] at M
    exact ⟨(A88, c88), M.fsub _ (by simp), (by repeat (first | exact trivial | refine ⟨rfl, ?_⟩))⟩
  clear M
  rintro ⟨A88, c88⟩ E W M
  dsimp only at M
  refine v_load agg_bl rfl ((M.B 0 rfl).at_ rfl) ?_
  by_cases hB : 1048576 < (blockB b).length
  · rw [decide_eq_true hB]
    rw [encBk_3 hrt hB]
    exact ⟨none, 0, 0, rfl, World.ownsRow_nil _ _ _ _, M.below⟩
  · rw [decide_eq_false hB]
    rw [encBk_0 hrt hB]
    exact ⟨A88, _, c88, rfl, M.row _ (List.mem_cons_self ..), M.below⟩
end Go.Proofs.YtejbljopighenaaDoor
namespace Go.Proofs.YtejbljopighenaaDoor
open Go.RowKit
theorem is_r21check : isFn Tryd.prog 15 = true := by kernel_rfl
theorem is_r21fits : isFn Tryd.prog 30 = true := by kernel_rfl
theorem is_r21Enc : isFn Tryd.prog 10 = true := by kernel_rfl
theorem is_r1join : isFn Tryd.prog 28 = true := by kernel_rfl
theorem check_2 {b : Bk} (h : ¬ ((0 ≤ b.num ∧ b.last.length = 32 ∧ b.prev.length = 32 ∧ b.next.length = 32 ∧ b.txs.length ≤ 50 ∧ b.txs.length = b.outs.length) ∧ (∀ tx ∈ b.txs, tx.length ≤ 51 ∧ ∀ s ∈ tx, s.length ≤ 20000) ∧ ∀ o ∈ b.outs, (encO o).2 = 0)) : checkBk b = 2 := by unfold checkBk; rw [right_false h]; rfl
set_option maxRecDepth 100000 in
set_option maxHeartbeats 4000000 in
theorem r21check_any (b : Bk) (gs : List (Option Nat)) (w : World) (cs : List Value) (hr : RdL w (Fd w gs) (dBk b) cs) (hgs : ∀ b, some b ∈ gs → b < w.heap.size) (hf : FitsB b) :
    Calls Tryd.prog 15 #[.agg cs.toArray] w fun e w' => e = .returned (.int .i64 (checkBk b)) ∧ Below w.heap.size w w' := by
  refine calls_ev (args := [.agg cs.toArray]) mixed Tryd.func15 rfl (by kernel_rfl) ?_
  obtain ⟨p, rfl, -, -, -, h4, h5, -⟩ := hr.bk
  obtain ⟨hf0, hf1, hf2⟩ := hf
  obtain ⟨t1, t2, t3, t4, t5, t6, t7, t8, t9⟩ := bk_txs b
  have M := ((St.start hgs).addD h5).addD h4
  clear h4 h5 hr
  refine s_box (bkcs b p) M rfl ?_
  clear M
  rintro g1 W M
  refine p_fld fB0 rfl ?_
  refine v_load agg_i rfl ((M.B 0 rfl).at_ rfl) ?_
  refine p_lt rfl rfl (fun q1 => ?_) (fun q1 => ?_)
  · have q1 : b.num < 0 := q1
    exact ⟨by rw [check_2 (b := b) (fun h => by have := h.1; omega)]; rfl, M.below⟩
  refine p_fld fB1 rfl ?_
  refine v_load agg_b rfl ((M.B 0 rfl).at_ rfl) ?_
  refine p_len slb rfl ?_
  refine p_ne rfl rfl (fun q2 => ?_) (fun q2 => ?_)
  rotate_left
  · have q2 : ¬ (b.last.length : Int) = 32 := q2
    exact ⟨by rw [check_2 (b := b) (fun h => by have := h.1; omega)]; rfl, M.below⟩
  refine p_fld fB2 rfl ?_
  refine v_load agg_b rfl ((M.B 0 rfl).at_ rfl) ?_
  refine p_len slb rfl ?_
  refine p_ne rfl rfl (fun q3 => ?_) (fun q3 => ?_)
  rotate_left
  · have q3 : ¬ (b.prev.length : Int) = 32 := q3
    exact ⟨by rw [check_2 (b := b) (fun h => by have := h.1; omega)]; rfl, M.below⟩
  refine p_fld fB3 rfl ?_
  refine v_load agg_b rfl ((M.B 0 rfl).at_ rfl) ?_
  refine p_len slb rfl ?_
  refine p_ne rfl rfl (fun q4 => ?_) (fun q4 => ?_)
  rotate_left
  · have q4 : ¬ (b.next.length : Int) = 32 := q4
    exact ⟨by rw [check_2 (b := b) (fun h => by have := h.1; omega)]; rfl, M.below⟩
  refine p_fld fB4 rfl ?_
  refine v_load agg_tss rfl ((M.B 0 rfl).at_ rfl) ?_
  refine p_len sltss rfl ?_
  refine p_gt rfl rfl (fun q5 => ?_) (fun q5 => ?_)
  · have q5 : (50 : Int) < (b.txs.length : Int) := q5
    exact ⟨by rw [check_2 (b := b) (fun h => by have := h.1; omega)]; rfl, M.below⟩
  refine p_fld fB4 rfl ?_
  refine v_load agg_tss rfl ((M.B 0 rfl).at_ rfl) ?_
  refine p_len sltss rfl ?_
  refine p_fld fB5 rfl ?_
  refine v_load agg_os rfl ((M.B 0 rfl).at_ rfl) ?_
  refine p_len slos rfl ?_
  refine p_ne rfl rfl (fun q6 => ?_) (fun q6 => ?_)
  rotate_left
  · have q6 : ¬ (b.txs.length : Int) = (b.outs.length : Int) := q6
    exact ⟨by rw [check_2 (b := b) (fun h => by have := h.1; omega)]; rfl, M.below⟩
  have q1 : ¬ b.num < 0 := q1
  have q2 : (b.last.length : Int) = 32 := q2
  have q3 : (b.prev.length : Int) = 32 := q3
  have q4 : (b.next.length : Int) = 32 := q4
  have q5 : ¬ (50 : Int) < (b.txs.length : Int) := q5
  have q6 : (b.txs.length : Int) = (b.outs.length : Int) := q6
  have hhd : 0 ≤ b.num ∧ b.last.length = 32 ∧ b.prev.length = 32 ∧ b.next.length = 32 ∧ b.txs.length ≤ 50 ∧ b.txs.length = b.outs.length := ⟨by omega, by omega, by omega, by omega, by omega, by omega⟩
  have q7 : b.txs.length = b.outs.length := by omega
  refine lp Nat (fun i W => i ≤ b.txs.length ∧ (∀ t ∈ b.txs.take i, t.length ≤ 51 ∧ ∀ s ∈ t, s.length ≤ 20000) ∧ (∀ o ∈ b.outs.take i, (encO o).2 = 0) ∧ St w gs W [(g1, 26, bkcs b p)] [] [.dat false [dTxs b.txs] [.slice p.A4 b.txs.length p.c4], .dat false [dOuts b.outs] [.slice p.A5 b.outs.length p.c5]])
    (fun i => [(1, .pointer (some ⟨g1, 0, none⟩)), (3, .int .i64 i)]) (fun i => b.txs.length - i) 0 ⟨Nat.zero_le _, (fun t h => by rw [List.take_zero] at h; cases h), (fun t h => by rw [List.take_zero] at h; cases h), M⟩ (by repeat (first | exact trivial | refine ⟨rfl, ?_⟩)) ?_
  clear M
  rintro i E W ⟨hi, ha, hb', M⟩
  refine p_fld fB4 rfl ?_
  refine v_load agg_tss rfl ((M.B 0 rfl).at_ rfl) ?_
  refine p_len sltss rfl ?_
  refine p_lt rfl rfl (fun hlt => ?_) (fun hge => ?_)
  rotate_left
  · have hi : i = b.txs.length := by have h : ¬ (i : Int) < (b.txs.length : Int) := hge; omega
    subst hi
    rw [List.take_of_length_le (Nat.le_refl _)] at ha
    rw [List.take_of_length_le (by omega)] at hb'
    have hrt := right_iff.2 ⟨hhd, ha, hb'⟩
    have hck : checkBk b = if 1048576 < b.proof.length then 3 else 0 := by unfold checkBk; rw [if_pos hrt]
    refine p_fld fB6 rfl ?_
    refine v_load agg_b rfl ((M.B 0 rfl).at_ rfl) ?_
    refine p_len slb rfl ?_
    refine p_gt rfl rfl (fun q => ?_) (fun q => ?_)
    · have q : 1048576 < b.proof.length := by have h : (1048576 : Int) < (b.proof.length : Int) := q; omega
      rw [hck, if_pos q]; exact ⟨rfl, M.below⟩
    · have q : ¬ 1048576 < b.proof.length := by have h : ¬ (1048576 : Int) < (b.proof.length : Int) := q; omega
      rw [hck, if_neg q]; exact ⟨rfl, M.below⟩
  have hil : i < b.txs.length := by have h : (i : Int) < (b.txs.length : Int) := hlt; omega
  obtain ⟨t, ht⟩ : ∃ t, b.txs[i]? = some t := ⟨_, List.getElem?_eq_getElem hil⟩
  obtain ⟨o, ho⟩ : ∃ o, b.outs[i]? = some o := ⟨_, List.getElem?_eq_getElem (by omega)⟩
  obtain ⟨u1, u2, u3⟩ := bk_tx (List.mem_of_getElem? ht)
  have hfo := hf1 o (List.mem_of_getElem? ho)
  obtain ⟨b3, o3, es, e3, M'⟩ := M.oute (M.d1 1 rfl) ho
  replace M := M'; clear M'
  have hel := (M.da 1 rfl).len
  rw [dOut_len] at hel
  refine p_fld fB5 rfl ?_
  refine v_load agg_os rfl ((M.B 0 rfl).at_ rfl) ?_
  refine p_at (i := i) slos (by show Value.slice p.A5 b.outs.length p.c5 = _; rw [e3]) rfl rfl (by omega) ?_
  refine v_loadN es agg_out rfl hel (M.lc 0 rfl) ?_
  refine cc is_r20Enc (r20Enc_any o _ _ _ (M.da 1 rfl) M.olt hfo) ?_
  rintro e W ⟨A7, n7, c7, rfl, o7, hb⟩
  replace M := M.call hb
  clear hb o7
  refine ⟨_, rfl, ?_⟩
  refine p_ne rfl rfl (fun q9 => ?_) (fun q9 => ?_)
  rotate_left
  · have q9 : ¬ (encO o).2 = 0 := q9
    exact ⟨by rw [check_2 (b := b) (fun h => q9 (h.2.2 o (List.mem_of_getElem? ho)))]; rfl, M.below⟩
  have q9 : (encO o).2 = 0 := q9
  obtain ⟨b1, o1, At, ct, e1, M'⟩ := M.txe (M.d1 2 rfl) ht
  replace M := M'; clear M'
  refine p_fld fB4 rfl ?_
  refine v_load agg_tss rfl ((M.B 0 rfl).at_ rfl) ?_
  refine p_at (i := i) sltss (by show Value.slice p.A4 b.txs.length p.c4 = _; rw [e1]) rfl rfl hil ?_
  refine v_load agg_ts rfl (M.lc 0 rfl 0 _ rfl) ?_
  refine p_len slts rfl ?_
  refine p_gt rfl rfl (fun q8 => ?_) (fun q8 => ?_)
  · have q8 : (51 : Int) < (t.length : Int) := q8
    exact ⟨by rw [check_2 (b := b) (fun h => by have := (h.2.1 t (List.mem_of_getElem? ht)).1; omega)]; rfl, M.below⟩
  have q8 : ¬ (51 : Int) < (t.length : Int) := q8
  refine lp Nat (fun k W => k ≤ t.length ∧ (∀ s ∈ t.take k, s.length ≤ 20000) ∧ St w gs W [(g1, 26, bkcs b p)] [] [.loc ((⟨b1, o1, none⟩ : Addr).add (i * 1)) [.slice At t.length ct], .dat false [dTx t] [.slice At t.length ct], .dat false [dTxs b.txs] [.slice p.A4 b.txs.length p.c4], .dat false [dOuts b.outs] [.slice p.A5 b.outs.length p.c5]])
    (fun k => [(1, .pointer (some ⟨g1, 0, none⟩)), (3, .int .i64 i), (6, .int .i64 k)]) (fun k => t.length - k) 0 ⟨Nat.zero_le _, (fun s h => by rw [List.take_zero] at h; cases h), M.fsub _ (by simp)⟩ (by repeat (first | exact trivial | refine ⟨rfl, ?_⟩)) ?_
  clear M
  rintro k E W ⟨hk, hs, M⟩
  refine p_fld fB4 rfl ?_
  refine v_load agg_tss rfl ((M.B 0 rfl).at_ rfl) ?_
  refine p_at (i := i) sltss (by show Value.slice p.A4 b.txs.length p.c4 = _; rw [e1]) rfl rfl hil ?_
  refine v_load agg_ts rfl (M.lc 0 rfl 0 _ rfl) ?_
  refine p_len slts rfl ?_
  refine p_lt rfl rfl (fun hlt2 => ?_) (fun hge => ?_)
  · have hkl : k < t.length := by have h : (k : Int) < (t.length : Int) := hlt2; omega
    obtain ⟨s, hsi⟩ : ∃ s, t[k]? = some s := ⟨_, List.getElem?_eq_getElem hkl⟩
    obtain ⟨b2, o2, rfl, M'⟩ := M.stre (M.d1 1 rfl) hsi
    replace M := M'; clear M'
    refine p_fld fB4 rfl ?_
    refine v_load agg_tss rfl ((M.B 0 rfl).at_ rfl) ?_
    refine p_at (i := i) sltss (by show Value.slice p.A4 b.txs.length p.c4 = _; rw [e1]) rfl rfl hil ?_
    refine v_load agg_ts rfl (M.lc 1 rfl 0 _ rfl) ?_
    refine p_at (i := k) slts rfl rfl rfl hkl ?_
    refine v_load agg_st rfl (M.lc 0 rfl 0 _ rfl) ?_
    refine p_lenS u_str rfl ?_
    refine p_gt rfl rfl (fun q9 => ?_) (fun q9 => ?_)
    · have q9 : (20000 : Int) < ((sb s).size : Int) := q9
      rw [sb_size] at q9
      exact ⟨by rw [check_2 (b := b) (fun h => by have := (h.2.1 t (List.mem_of_getElem? ht)).2 s (List.mem_of_getElem? hsi); omega)]; rfl, M.below⟩
    have q9 : ¬ (20000 : Int) < ((sb s).size : Int) := q9
    rw [sb_size] at q9
    refine p_addN (b := 1) rfl rfl (by omega) ?_
    refine ⟨k + 1, ⟨by omega, fun x hx => ?_, M.fsub _ (by simp)⟩, (by repeat (first | exact trivial | refine ⟨rfl, ?_⟩)), by omega⟩
    rw [List.take_add_one, hsi, List.mem_append] at hx
    rcases hx with hx | hx
    · exact hs x hx
    · have : x = s := by simpa using hx
      rw [this]; omega
  have hk : k = t.length := by have h : ¬ (k : Int) < (t.length : Int) := hge; omega
  subst hk
  rw [List.take_of_length_le (Nat.le_refl _)] at hs
  refine p_addN (b := 1) rfl rfl (by omega) ?_
  refine ⟨i + 1, ⟨by omega, fun x hx => ?_, fun x hx => ?_, M.fsub _ (by simp)⟩, (by repeat (first | exact trivial | refine ⟨rfl, ?_⟩)), by omega⟩
  · rw [List.take_add_one, ht, List.mem_append] at hx
    rcases hx with hx | hx
    · exact ha x hx
    · have : x = t := by simpa using hx
      rw [this]; exact ⟨by omega, hs⟩
  · rw [List.take_add_one, ho, List.mem_append] at hx
    rcases hx with hx | hx
    · exact hb' x hx
    · have : x = o := by simpa using hx
      rw [this]; exact q9
theorem St.lse {w W : World} {gs : List (Option Nat)} {L : Lc} {R : List Row} {fs : List Fact} (M : St w gs W L R fs) {ll : List (List UInt8)} {A : Option Addr} {n c i : Nat} {l : List UInt8} (h : RdD W (Fd W (own L R gs)) (dLs ll) (.slice A n c)) (hi : ll[i]? = some l) :
    ∃ b off A' c', A = some ⟨b, off, none⟩ ∧ St w gs W L R (.loc ((⟨b, off, none⟩ : Addr).add (i * 1)) [.slice A' l.length c'] :: .dat false [dB l] [.slice A' l.length c'] :: fs) := by
  have h : RdD W (Fd W (own L R gs)) (.sl 1 ll.length (ll.flatMap fun l => [dB l])) (.slice A n c) := by unfold dLs at h; rw [List.map_eq_flatMap] at h; exact h
  obtain ⟨b, off, es, e, hF, hes, hel, hc⟩ := RdD.eltO (fun l => [dB l]) 1 (fun _ => rfl) h hi
  obtain ⟨u, us, rfl, h1, h2⟩ := hes.uncons
  rw [h2.isnil] at hc
  obtain ⟨A', c', e2, -⟩ := h1.open_
  subst e2
  exact ⟨b, off, A', c', e, (M.addD h1).addC (by rw [block_of_add]; exact hF) hc⟩
set_option maxRecDepth 100000 in
set_option maxHeartbeats 1000000 in
theorem r21fits_any (ll : List (List UInt8)) (gs : List (Option Nat)) (w : World) (A : Option Addr) (n c : Nat) (hr : RdD w (Fd w gs) (dLs ll) (.slice A n c)) (hgs : ∀ b, some b ∈ gs → b < w.heap.size) (hl : ll.length ≤ 1000000000) :
    Calls Tryd.prog 30 #[.slice A n c] w fun e w' => ∃ q : Bool, e = .returned (.bool q) ∧ (q = true ↔ ∀ s ∈ ll, s.length ≤ 1048576) ∧ Below w.heap.size w w' := by
  refine calls_ev (args := [.slice A n c]) mixed Tryd.func30 rfl (by kernel_rfl) ?_
  have en : n = ll.length := hr.slen
  subst en
  have M := (St.start hgs).addD hr
  clear hr
  refine lp Nat (fun i W => i ≤ ll.length ∧ (∀ s ∈ ll.take i, s.length ≤ 1048576) ∧ St w gs W [] [] [.dat false [dLs ll] [.slice A ll.length c]]) (fun i => [(0, .slice A ll.length c), (3, .int .i64 i)]) (fun i => ll.length - i) 0 ⟨Nat.zero_le _, (fun s h => by rw [List.take_zero] at h; cases h), M⟩ (by repeat (first | exact trivial | refine ⟨rfl, ?_⟩)) ?_
  clear M
  rintro i E W ⟨hi, ha, M⟩
  refine p_len sls rfl ?_
  refine p_lt rfl rfl (fun hlt => ?_) (fun hge => ?_)
  rotate_left
  · have hi : i = ll.length := by have h : ¬ (i : Int) < (ll.length : Int) := hge; omega
    subst hi
    rw [List.take_of_length_le (Nat.le_refl _)] at ha
    exact ⟨true, rfl, ⟨fun _ => ha, fun _ => rfl⟩, M.below⟩
  have hil : i < ll.length := by have h : (i : Int) < (ll.length : Int) := hlt; omega
  obtain ⟨l, hl2⟩ : ∃ l, ll[i]? = some l := ⟨_, List.getElem?_eq_getElem hil⟩
  obtain ⟨b1, o1, A1, c1, rfl, M'⟩ := M.lse (M.d1 0 rfl) hl2
  replace M := M'; clear M'
  refine p_at (i := i) sls rfl rfl rfl hil ?_
  refine v_load agg_b rfl (M.lc 0 rfl 0 _ rfl) ?_
  refine p_len slb rfl ?_
  refine p_gt rfl rfl (fun q => ?_) (fun q => ?_)
  · have q : (1048576 : Int) < (l.length : Int) := q
    exact ⟨false, rfl, ⟨(fun h => by cases h), fun h => by have := h l (List.mem_of_getElem? hl2); omega⟩, M.below⟩
  have q : ¬ (1048576 : Int) < (l.length : Int) := q
  refine p_addN (b := 1) rfl rfl (by omega) ?_
  refine ⟨i + 1, ⟨by omega, fun x hx => ?_, M.fsub _ (by simp)⟩, (by repeat (first | exact trivial | refine ⟨rfl, ?_⟩)), by omega⟩
  rw [List.take_add_one, hl2, List.mem_append] at hx
  rcases hx with hx | hx
  · exact ha x hx
  · have : x = l := by simpa using hx
    rw [this]; omega
end Go.Proofs.YtejbljopighenaaDoor
namespace Go.Proofs.YtejbljopighenaaDoor
open Go.RowKit
set_option maxRecDepth 100000 in
set_option maxHeartbeats 8000000 in
theorem r21Enc_any (b : Bk) (gs : List (Option Nat)) (w : World) (cs : List Value) (hr : RdL w (Fd w gs) (dBk b) cs) (hgs : ∀ b, some b ∈ gs → b < w.heap.size) (hf : FitsB b) :
    Calls Tryd.prog 10 #[.agg cs.toArray] w (EncG w (encBk b)) := by
  refine calls_ev (args := [.agg cs.toArray]) mixed Tryd.func10 rfl (by kernel_rfl) ?_
  obtain ⟨p, rfl, h1, h2, h3, h4, h5, h6⟩ := id hr.bk
  obtain ⟨t1, t2, t3, t4, t5, t6, t7, t8, t9⟩ := bk_txs b
  have M := ((((((St.start hgs).addD h6).addD h3).addD h2).addD h1).addD h5).addD h4
  have M := M.addL hr
  clear h1 h2 h3 h4 h5 h6 hr
  refine s_box (bkcs b p) M rfl ?_
  clear M
  rintro g1 W M
  refine v_loadN (bkcs b p) agg_bk rfl rfl (M.run 0 rfl) ?_
  refine cc is_r21check (r21check_any b _ _ _ (M.da 0 rfl) M.olt hf) ?_
  rintro e W ⟨rfl, hb⟩
  replace M := M.call hb
  clear hb
  obtain ⟨hf0, hf1, hf2⟩ := hf
  refine ⟨_, rfl, ?_⟩
  refine p_ne rfl rfl (fun q => ?_) (fun q => ?_)
  rotate_left
  · have q : ¬ checkBk b = 0 := q
    have he : encBk b = ([], checkBk b) := by
      unfold checkBk at q ⊢
      split
      · next h1 =>
        rw [if_pos h1] at q
        split
        · rw [encBk_3 h1 (by omega)]
        · next h2 => rw [if_neg h2] at q; exact absurd rfl q
      · next h1 => rw [encBk_2 (by simpa using h1)]
    exact ⟨none, 0, 0, by rw [he]; rfl, by rw [he]; exact World.ownsRow_nil _ _ _ _, M.below⟩
  have q : checkBk b = 0 := q
  have hrt : rightBk b = true := by
    unfold checkBk at q
    split at q
    · next h => exact h
    · exact absurd q (by decide)
  obtain ⟨⟨r1, r2, r3, r4, r5, r6⟩, r7, r8⟩ := right_iff.1 hrt
  obtain ⟨FX, hFX⟩ : ∃ FX : List Fact, FX = [.dat false [dTxs b.txs] [.slice p.A4 b.txs.length p.c4], .dat false [dOuts b.outs] [.slice p.A5 b.outs.length p.c5], .dat false [dB b.last] [.slice p.A1 b.last.length p.c1], .dat false [dB b.prev] [.slice p.A2 b.prev.length p.c2], .dat false [dB b.next] [.slice p.A3 b.next.length p.c3], .dat false [dB b.proof] [.slice p.A6 b.proof.length p.c6]] := ⟨_, rfl⟩
  have hFt : ∀ f ∈ [Fact.dat false [dTxs b.txs] [.slice p.A4 b.txs.length p.c4], .dat false [dOuts b.outs] [.slice p.A5 b.outs.length p.c5]], f ∈ FX := by rw [hFX]; intro f hf; simp only [List.mem_cons, List.not_mem_nil, or_false] at hf ⊢; rcases hf with h | h <;> simp [h]
  refine cutS Unit (fun _ W => St w gs W [(g1, 26, bkcs b p)] [] FX) (fun _ => [(1, .pointer (some ⟨g1, 0, none⟩))]) ?_ ?_
  · exact ⟨(), M.fsub _ (by subst hFX; simp), (by repeat (first | exact trivial | refine ⟨rfl, ?_⟩))⟩
  clear M
  rintro - E W M
  refine ev_assoc ?_
  refine ev_assoc ?_
  refine cutS (List Value × Option Addr × Nat × List Value × Option Addr × Nat) (fun s W => St w gs W [(g1, 26, bkcs b p)] [⟨22, 1, s.2.1, b.txs.length, s.2.2.1, s.1⟩, ⟨22, 1, s.2.2.2.2.1, b.txs.length, s.2.2.2.2.2, s.2.2.2.1⟩] (.dat false ((outsB b).map dB) s.1 :: .dat false ((txsB b).map dB) s.2.2.2.1 :: FX))
    (fun s => [(1, .pointer (some ⟨g1, 0, none⟩)), (5, .slice s.2.2.2.2.1 b.txs.length s.2.2.2.2.2), (6, .slice s.2.1 b.txs.length s.2.2.1)]) ?_ ?_
  · refine lp (Nat × List Value × Option Addr × Nat × List Value × Option Addr × Nat) (fun s W => s.1 ≤ b.txs.length ∧ St w gs W [(g1, 26, bkcs b p)] [⟨22, 1, s.2.2.1, s.1, s.2.2.2.1, s.2.1⟩, ⟨22, 1, s.2.2.2.2.2.1, s.1, s.2.2.2.2.2.2, s.2.2.2.2.1⟩] (.dat false (((b.outs.take s.1).map outB).map dB) s.2.1 :: .dat false (((b.txs.take s.1).map joinL).map dB) s.2.2.2.2.1 :: FX))
      (fun s => [(1, .pointer (some ⟨g1, 0, none⟩)), (5, .slice s.2.2.2.2.2.1 s.1 s.2.2.2.2.2.2), (6, .slice s.2.2.1 s.1 s.2.2.2.1), (7, .int .i64 s.1)]) (fun s => b.txs.length - s.1) (0, [], none, 0, [], none, 0) ⟨Nat.zero_le _, ?_⟩ (by repeat (first | exact trivial | refine ⟨rfl, ?_⟩)) ?_
    · have M2 := (((M.nilR 22 1).nilR 22 1).addL (ds := []) (cs := []) RdL.nil_).addL (ds := []) (cs := []) RdL.nil_
      exact M2.fsub _ (by intro f hf; simp only [List.mem_cons, List.take_zero, List.map_nil] at hf ⊢; rcases hf with h | h | h <;> simp [h])
    clear M
    rintro ⟨i, xs8, A8, c8, xs7, A7, c7⟩ E W ⟨hi, M⟩
    dsimp only at hi M
    refine p_fld fB4 rfl ?_
    refine v_load agg_tss rfl ((M.B 0 rfl).at_ rfl) ?_
    refine p_len sltss rfl ?_
    refine p_lt rfl rfl (fun hlt => ?_) (fun hge => ?_)
    rotate_left
    · have hi : i = b.txs.length := by have h : ¬ (i : Int) < (b.txs.length : Int) := hge; omega
      subst hi
      rw [List.take_of_length_le (Nat.le_refl _), List.take_of_length_le (by omega)] at M
      exact ⟨(xs8, A8, c8, xs7, A7, c7), M, (by repeat (first | exact trivial | refine ⟨rfl, ?_⟩))⟩
    have hil : i < b.txs.length := by have h : (i : Int) < (b.txs.length : Int) := hlt; omega
    obtain ⟨t, ht⟩ : ∃ t, b.txs[i]? = some t := ⟨_, List.getElem?_eq_getElem hil⟩
    obtain ⟨o, ho⟩ : ∃ o, b.outs[i]? = some o := ⟨_, List.getElem?_eq_getElem (by omega)⟩
    obtain ⟨u1, u2, u3⟩ := bk_tx (List.mem_of_getElem? ht)
    have hfo := hf1 o (List.mem_of_getElem? ho)
    have hol := bk_out (List.mem_of_getElem? ho)
    have heo := encO_full (r8 o (List.mem_of_getElem? ho))
    have dtx : RdD W (Fd W (own [(g1, 26, bkcs b p)] [⟨22, 1, A8, i, c8, xs8⟩, ⟨22, 1, A7, i, c7, xs7⟩] gs)) (dTxs b.txs) (.slice p.A4 b.txs.length p.c4) := by
      have h : RdL W (Ft w W _ false) [dTxs b.txs] [.slice p.A4 b.txs.length p.c4] := M.fct (.dat false [dTxs b.txs] [.slice p.A4 b.txs.length p.c4]) (List.mem_cons_of_mem _ (List.mem_cons_of_mem _ (hFt _ (by simp))))
      exact (h.to fun b hb => ⟨rfl, hb.1, hb.2.1⟩).hd
    obtain ⟨b1, o1, At, ct, e1, M'⟩ := M.txe dtx ht
    replace M := M'; clear M' dtx
    refine lp (Nat × List Value × Option Addr × Nat) (fun s W => s.1 ≤ t.length ∧ St w gs W [(g1, 26, bkcs b p)] [⟨22, 1, s.2.2.1, s.1, s.2.2.2, s.2.1⟩, ⟨22, 1, A8, i, c8, xs8⟩, ⟨22, 1, A7, i, c7, xs7⟩] (.dat false ((t.take s.1).map dB) s.2.1 :: .loc ((⟨b1, o1, none⟩ : Addr).add (i * 1)) [.slice At t.length ct] :: .dat false [dTx t] [.slice At t.length ct] :: .dat false (((b.outs.take i).map outB).map dB) xs8 :: .dat false (((b.txs.take i).map joinL).map dB) xs7 :: FX))
      (fun s => [(1, .pointer (some ⟨g1, 0, none⟩)), (5, .slice A7 i c7), (6, .slice A8 i c8), (7, .int .i64 i), (8, .slice s.2.2.1 s.1 s.2.2.2), (9, .int .i64 s.1)]) (fun s => t.length - s.1) (0, [], none, 0) ⟨Nat.zero_le _, ?_⟩ (by repeat (first | exact trivial | refine ⟨rfl, ?_⟩)) ?_
    · have M2 := (M.nilR 22 1).addL (ds := []) (cs := []) RdL.nil_
      exact M2.fsub _ (by intro f hf; simp only [List.mem_cons, List.take_zero, List.map_nil] at hf ⊢; rcases hf with h | h | h | h | h | h <;> simp [h])
    clear M
    rintro ⟨k, ys, A11, c11⟩ E W ⟨hk, M⟩
    dsimp only at hk M
    refine p_fld fB4 rfl ?_
    refine v_load agg_tss rfl ((M.B 0 rfl).at_ rfl) ?_
    refine p_at (i := i) sltss (by show Value.slice p.A4 b.txs.length p.c4 = _; rw [e1]) rfl rfl hil ?_
    refine v_load agg_ts rfl (M.lc 1 rfl 0 _ rfl) ?_
    refine p_len slts rfl ?_
    refine p_lt rfl rfl (fun hlt2 => ?_) (fun hge => ?_)
    · have hkl : k < t.length := by have h : (k : Int) < (t.length : Int) := hlt2; omega
      obtain ⟨x, hxi⟩ : ∃ x, t[k]? = some x := ⟨_, List.getElem?_eq_getElem hkl⟩
      have hxl := u3 x (List.mem_of_getElem? hxi)
      obtain ⟨b2, o2, rfl, M'⟩ := M.stre (M.d1 2 rfl) hxi
      replace M := M'; clear M'
      refine p_fld fB4 rfl ?_
      refine v_load agg_tss rfl ((M.B 0 rfl).at_ rfl) ?_
      refine p_at (i := i) sltss (by show Value.slice p.A4 b.txs.length p.c4 = _; rw [e1]) rfl rfl hil ?_
      refine v_load agg_ts rfl (M.lc 2 rfl 0 _ rfl) ?_
      refine p_at (i := k) slts rfl rfl rfl hkl ?_
      refine v_load agg_st rfl (M.lc 0 rfl 0 _ rfl) ?_
      refine s_s2b M rfl ?_
      clear M; rintro A39 c39 W M
      refine s_bslice (fr := false) (ds := [dB x]) [.slice A39 x.length c39] M sls zls rfl (by decide) rfl (M.dw 0 rfl) rfl ?_
      clear M; rintro gq W M
      obtain ⟨news, hrd, hnd⟩ := (M.d1 0 rfl).reads Fd.lt
      replace M := M.addL hnd
      refine s_app (z := .slice none 0 0) (news := news) M u_lss lsinfo rfl (by decide) rfl rfl hrd (hnd.ones (fun d hd => by rcases List.mem_singleton.1 hd with rfl; exact trivial)) ⟨by omega, by decide⟩ ?_
      clear M hrd hnd
      rintro A41 c41 W M -
      refine p_addN (b := 1) rfl rfl (by omega) ?_
      have hx := (M.da 4 rfl).app (M.da 0 rfl)
      rw [← take_map_snoc dB hxi] at hx
      replace M := M.addL hx
      exact ⟨(k + 1, ys ++ news, A41, c41), ⟨by dsimp only; omega, M.fsub _ (by intro f hf; simp only [List.mem_cons] at hf ⊢; rcases hf with h | h | h | h | h | h <;> simp [h])⟩, (by repeat (first | exact trivial | refine ⟨rfl, ?_⟩)), by dsimp only; omega⟩
    have hk : k = t.length := by have h : ¬ (k : Int) < (t.length : Int) := hge; omega
    subst hk
    rw [List.take_of_length_le (Nat.le_refl _)] at M
    replace M := M.frzR (fr := false) (M.dt 0 rfl)
    have dos : RdD W (Fd W (own [(g1, 26, bkcs b p)] [⟨22, 1, A8, i, c8, xs8⟩, ⟨22, 1, A7, i, c7, xs7⟩] gs)) (dOuts b.outs) (.slice p.A5 b.outs.length p.c5) := by
      have h : RdL W (Ft w W (own [(g1, 26, bkcs b p)] [⟨22, 1, A8, i, c8, xs8⟩, ⟨22, 1, A7, i, c7, xs7⟩] gs) false) [dOuts b.outs] [.slice p.A5 b.outs.length p.c5] := by
        have := M.fct (.dat false [dOuts b.outs] [.slice p.A5 b.outs.length p.c5]) (List.mem_cons_of_mem _ (List.mem_cons_of_mem _ (List.mem_cons_of_mem _ (List.mem_cons_of_mem _ (List.mem_cons_of_mem _ (List.mem_cons_of_mem _ (hFt _ (by simp))))))))
        exact this
      exact (h.to fun b hb => ⟨rfl, hb.1, hb.2.1⟩).hd
    obtain ⟨b3, o3, es, e3, M'⟩ := M.oute dos ho
    replace M := M'; clear M' dos
    have hel := (M.da 1 rfl).len
    rw [dOut_len] at hel
    refine p_fld fB5 rfl ?_
    refine v_load agg_os rfl ((M.B 0 rfl).at_ rfl) ?_
    refine p_at (i := i) slos (by show Value.slice p.A5 b.outs.length p.c5 = _; rw [e3]) rfl rfl (by omega) ?_
    refine v_loadN es agg_out rfl hel (M.lc 0 rfl) ?_
    have cx := r20Enc_any o _ _ _ (M.da 1 rfl) M.olt hfo
    rw [heo] at cx
    refine cc is_r20Enc cx ?_
    clear cx
    rintro e W ⟨A57, n57, c57, rfl, o57, hb⟩
    have en57 : (outB o).length = n57 := o57.len
    replace M := M.callO hb o57
    clear hb o57
    refine ⟨_, rfl, ?_⟩
    obtain ⟨-, -, hrs⟩ := RdD.rds (ll := t) (M.d1 3 rfl) Fd.lt
    refine cc is_r1join (refJoin_any _ _ _ t _ hrs (by omega) (by omega)) ?_
    clear hrs
    rintro e W ⟨A46, n46, c46, rfl, o46, hb⟩
    have en46 := o46.len
    replace M := M.callO hb o46
    clear hb o46
    refine ⟨_, rfl, ?_⟩
    replace M := M.swpR
    refine s_bslice (fr := false) (ds := [dB (joinL t)]) [.slice A46 n46 c46] M sls zls rfl (by decide) rfl (M.dw 0 rfl) rfl ?_
    clear M; rintro gq W M
    obtain ⟨news, hrd, hnd⟩ := (M.d1 0 rfl).reads Fd.lt
    replace M := M.addL hnd
    refine s_app (z := .slice none 0 0) (news := news) M u_lss lsinfo rfl (by decide) rfl rfl hrd (hnd.ones (fun d hd => by rcases List.mem_singleton.1 hd with rfl; exact trivial)) ⟨by omega, by decide⟩ ?_
    clear M hrd hnd
    rintro A49 c49 W M -
    have hx := (M.da 11 rfl).app (M.da 0 rfl)
    have em : ((b.txs.take (i + 1)).map joinL).map dB = ((b.txs.take i).map joinL).map dB ++ [dB (joinL t)] := by rw [take_map_snoc joinL ht, List.map_append]; rfl
    rw [← em] at hx
    replace M := (M.addL hx).fsub (.dat true [dB (outB o)] [.slice A57 n57 c57] :: .dat false (((b.txs.take (i + 1)).map joinL).map dB) (xs7 ++ news) :: .dat false (((b.outs.take i).map outB).map dB) xs8 :: FX) (by intro f hf; simp only [List.mem_cons] at hf ⊢; rcases hf with h | h | h | h <;> simp [h])
    clear hx
    obtain ⟨xs9, hx9⟩ : ∃ x, x = xs7 ++ news := ⟨_, rfl⟩
    rw [← hx9] at M
    replace M := M.swpR
    refine s_bslice (fr := false) (ds := [dB (outB o)]) [.slice A57 n57 c57] M sls zls rfl (by decide) rfl (M.dw 0 rfl) rfl ?_
    clear M; rintro gq W M
    obtain ⟨news, hrd, hnd⟩ := (M.d1 0 rfl).reads Fd.lt
    replace M := M.addL hnd
    refine s_app (z := .slice none 0 0) (news := news) M u_lss lsinfo rfl (by decide) rfl rfl hrd (hnd.ones (fun d hd => by rcases List.mem_singleton.1 hd with rfl; exact trivial)) ⟨by omega, by decide⟩ ?_
    clear M hrd hnd
    rintro A64 c64 W M -
    have hx := (M.da 4 rfl).app (M.da 0 rfl)
    have em2 : ((b.outs.take (i + 1)).map outB).map dB = ((b.outs.take i).map outB).map dB ++ [dB (outB o)] := by rw [take_map_snoc outB ho, List.map_append]; rfl
    rw [← em2] at hx
    replace M := (M.addL hx).fsub (.dat false (((b.outs.take (i + 1)).map outB).map dB) (xs8 ++ news) :: .dat false (((b.txs.take (i + 1)).map joinL).map dB) xs9 :: FX) (by intro f hf; simp only [List.mem_cons] at hf ⊢; rcases hf with h | h | h <;> simp [h])
    refine p_addN (b := 1) rfl rfl (by omega) ?_
    exact ⟨(i + 1, _, A64, c64, xs9, A49, c49), ⟨by dsimp only; omega, M⟩, (by repeat (first | exact trivial | refine ⟨rfl, ?_⟩)), by dsimp only; omega⟩
  clear M
  rintro ⟨xs8, A8, c8, xs7, A7, c7⟩ E W M
  dsimp only at M
  have hlo : (outsB b).length = b.txs.length := by unfold outsB; rw [List.length_map]; omega
  have hlt : (txsB b).length = b.txs.length := by unfold txsB; rw [List.length_map]
  replace M := M.frzR (fr := false) (M.dt 0 rfl)
  have hdo : RdD W (Fd W (own [(g1, 26, bkcs b p)] [⟨22, 1, A7, b.txs.length, c7, xs7⟩] gs)) (dLs (outsB b)) (.slice A8 b.txs.length c8) := by unfold dLs; rw [hlo]; exact M.d1 0 rfl
  replace M := M.addD hdo
  clear hdo
  replace M := M.frzR (fr := false) (M.dt 3 rfl)
  have hdt : RdD W (Fd W (own [(g1, 26, bkcs b p)] [] gs)) (dLs (txsB b)) (.slice A7 b.txs.length c7) := by unfold dLs; rw [hlt]; exact M.d1 0 rfl
  replace M := M.addD hdt
  clear hdt
  replace M := (M.fsub [.dat false [dLs (txsB b)] [.slice A7 b.txs.length c7], .dat false [dLs (outsB b)] [.slice A8 b.txs.length c8], .dat false [dB b.last] [.slice p.A1 b.last.length p.c1], .dat false [dB b.prev] [.slice p.A2 b.prev.length p.c2], .dat false [dB b.next] [.slice p.A3 b.next.length p.c3], .dat false [dB b.proof] [.slice p.A6 b.proof.length p.c6]] (by subst hFX; simp)).drew
  clear hFt hFX FX
  refine cutV (Option Addr × Nat) (fun s W => St w gs W [(g1, 26, bkcs b p)] [] [.dat false [dLs (partsB b)] [.slice s.1 7 s.2], .dat false [dLs (txsB b)] [.slice A7 b.txs.length c7], .dat false [dLs (outsB b)] [.slice A8 b.txs.length c8]]) (fun s => [(5, .slice A7 b.txs.length c7), (6, .slice A8 b.txs.length c8), (12, .slice s.1 7 s.2)]) ?_ ?_
  · refine drT (Kp w gs [(g1, 26, bkcs b p)] []) (.take 0 (.take 1 (.take 2 (.take 4 (.take 5 (.take 6 (.take 7 (.take 8 (.take 9 (.take 10 (.take 12 (.take 14 (.take 15 (.one 3 (.one 11 (.one 13 (.one 16 (.take 17 (.nil))))))))))))))))))) (by kernel_rfl) (M.kp (by simp) (by simp)) ?_
    refine p_fld fB0 rfl ?_
    refine t_load agg_i rfl (fun W K => (K.B 0 rfl).at_ rfl) ?_
    refine t_cvt u_i64t u_u64t rfl (cv64 r1 hf0) ?_
    refine p_fld fB1 rfl ?_
    refine t_load agg_b rfl (fun W K => (K.B 0 rfl).at_ rfl) ?_
    refine p_fld fB2 rfl ?_
    refine t_load agg_b rfl (fun W K => (K.B 0 rfl).at_ rfl) ?_
    refine p_fld fB3 rfl ?_
    refine t_load agg_b rfl (fun W K => (K.B 0 rfl).at_ rfl) ?_
    refine p_fld fB6 rfl ?_
    refine t_load agg_b rfl (fun W K => (K.B 0 rfl).at_ rfl) ?_
    refine cc is_r1put (refPut_any b.num.toNat _ (by omega)) ?_
    rintro e W ⟨A70, c70, rfl, o70, hb⟩
    replace M := M.callO hb o70
    clear hb o70
    refine ⟨_, rfl, (M.kp (by simp) (by simp)), ?_⟩
    obtain ⟨-, -, hrs⟩ := RdD.rds (ll := txsB b) (M.d1 1 rfl) Fd.lt
    refine cc is_r1join (refJoin_any _ _ _ (txsB b) _ hrs (by omega) (by omega)) ?_
    clear hrs
    rintro e W ⟨A79, n79, c79, rfl, o79, hb⟩
    replace M := M.callO hb o79
    clear hb o79
    refine ⟨_, rfl, (M.kp (by simp) (by simp)), ?_⟩
    obtain ⟨-, -, hrs⟩ := RdD.rds (ll := outsB b) (M.d1 3 rfl) Fd.lt
    refine cc is_r1join (refJoin_any _ _ _ (outsB b) _ hrs (by omega) (by omega)) ?_
    clear hrs
    rintro e W ⟨A83, n83, c83, rfl, o83, hb⟩
    replace M := M.callO hb o83
    clear hb o83
    refine ⟨_, rfl, (M.kp (by simp) (by simp)), ?_⟩
    refine s_bslice (fr := false) (ds := (partsB b).map dB) [.slice A70 (putN b.num.toNat).length c70, .slice p.A1 b.last.length p.c1, .slice p.A2 b.prev.length p.c2, .slice p.A3 b.next.length p.c3, .slice A79 n79 c79, .slice A83 n83 c83, .slice p.A6 b.proof.length p.c6] M sls zls rfl (by decide) rfl (RdL.cons (M.dw 2 rfl).hd (RdL.cons (M.dw 5 rfl).hd (RdL.cons (M.dw 6 rfl).hd (RdL.cons (M.dw 7 rfl).hd (RdL.cons (M.dw 1 rfl).hd (RdL.cons (M.dw 0 rfl).hd (RdL.cons (M.dw 8 rfl).hd RdL.nil_))))))) rfl ?_
    clear M; rintro g87 W M
    refine ⟨(M.kp (by simp) (by simp)), ?_⟩
    refine ⟨(some ⟨g87, 0, none⟩, 7), ?_, (by repeat (first | exact trivial | refine ⟨rfl, ?_⟩))⟩
    have hd : RdD W (Fd W (own [(g1, 26, bkcs b p)] [] gs)) (dLs (partsB b)) (.slice (some ⟨g87, 0, none⟩) 7 7) := M.d1 0 rfl
    exact (M.addD hd).fsub _ (by simp)
  clear M
  rintro ⟨A12, c12⟩ E W M
  dsimp only at M
  obtain ⟨-, -, hrs⟩ := RdD.rds (ll := partsB b) (M.d1 0 rfl) Fd.lt
  refine cc is_r1join (refJoin_any _ _ _ (partsB b) _ hrs (by decide) (by show (blockB b).length ≤ _; omega)) ?_
  clear hrs
  rintro e W ⟨A88, n88, c88, rfl, o88, hb⟩
  have en88 : (blockB b).length = n88 := o88.len
  subst en88
  replace M := M.callR (r := ⟨5, 1, A88, (blockB b).length, c88, bvs (blockB b)⟩) hb o88
  clear hb o88
  refine ⟨_, rfl, ?_⟩
  refine cc is_r21fits (r21fits_any (txsB b) _ _ _ _ _ (M.d1 1 rfl) M.olt (by omega)) ?_
  rintro e W ⟨q, rfl, hq, hb⟩
  replace M := M.call hb
  clear hb
  refine ⟨_, rfl, ?_⟩
  refine p_not rfl ?_
  cases q with
  | false =>
    have hB : 1048576 < (blockB b).length := by
      apply Classical.byContradiction
      intro hB
      have : false = true := hq.2 fun s hs => by have := (show s.length < (blockB b).length from Nat.lt_trans (join_mem hs) t3); omega
      cases this
    rw [encBk_3 hrt hB]
    exact ⟨none, 0, 0, rfl, World.ownsRow_nil _ _ _ _, M.below⟩
  | true =>
  clear hq
  refine cc is_r21fits (r21fits_any (outsB b) _ _ _ _ _ (M.d1 2 rfl) M.olt (by omega)) ?_
  rintro e W ⟨q, rfl, hq, hb⟩
  replace M := M.call hb
  clear hb
  refine ⟨_, rfl, ?_⟩
  refine p_not rfl ?_
  cases q with
  | false =>
    have hB : 1048576 < (blockB b).length := by
      apply Classical.byContradiction
      intro hB
      have : false = true := hq.2 fun s hs => by have := (show s.length < (blockB b).length from Nat.lt_trans (join_mem hs) t4); omega
      cases this
    rw [encBk_3 hrt hB]
    exact ⟨none, 0, 0, rfl, World.ownsRow_nil _ _ _ _, M.below⟩
  | true =>
  clear hq
  refine cc is_r21fits (r21fits_any (partsB b) _ _ _ _ _ (M.d1 0 rfl) M.olt (by (show 7 ≤ 1000000000; decide))) ?_
  rintro e W ⟨q, rfl, hq, hb⟩
  replace M := M.call hb
  clear hb
  refine ⟨_, rfl, ?_⟩
  refine p_not rfl ?_
  cases q with
  | false =>
    have hB : 1048576 < (blockB b).length := by
      apply Classical.byContradiction
      intro hB
      have : false = true := hq.2 fun s hs => by have := (parts_mem hs); omega
      cases this
    rw [encBk_3 hrt hB]
    exact ⟨none, 0, 0, rfl, World.ownsRow_nil _ _ _ _, M.below⟩
  | true =>
  clear hq
  refine p_len slb rfl ?_
  refine p_gt rfl rfl (fun hB => ?_) (fun hB => ?_)
  · have hB : 1048576 < (blockB b).length := by have h : (1048576 : Int) < ((blockB b).length : Int) := hB; omega
    rw [encBk_3 hrt hB]
    exact ⟨none, 0, 0, rfl, World.ownsRow_nil _ _ _ _, M.below⟩
  · have hB : ¬ 1048576 < (blockB b).length := by have h : ¬ (1048576 : Int) < ((blockB b).length : Int) := hB; omega
    rw [encBk_0 hrt hB]
    exact ⟨A88, _, c88, rfl, M.row _ (List.mem_cons_self ..), M.below⟩
end Go.Proofs.YtejbljopighenaaDoor
