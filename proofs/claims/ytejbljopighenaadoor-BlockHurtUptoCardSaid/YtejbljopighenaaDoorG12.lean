/- Package block: Encode. Reference 21: Check, fits, Encode. Reference 21: Encode. Package block: txs, outs. Operations on arrays. No program in sight. Words turned to the right: the walks of bits.RotateLeft32 and of digest's turn. SHA-256, plainly. Words of 32 bits: single operations. -/
import Derived.Test.YtejbljopighenaaDoorG11
import Derived.Test.YtejbljopighenaaDoorG05
import Derived.Test.YtejbljopighenaaDoorG04
import Derived.Laws.BitsAllLaws
namespace Go.Proofs.YtejbljopighenaaDoor
open Go.RowKit
theorem is_vjoin : isFn Tryd.prog 24 = true := by kernel_rfl
theorem u_lss : Tryd.prog.underlying 62 = some (.slice 22) := by kernel_rfl
theorem al_bool : (Tryd.prog.info? 4).map (fun i => i.zero.map fun z => z.cells.toList) = some (some [.bool false]) := by kernel_rfl
section
variable {E : Env} {d : Option Nat} {ty : TypeId} {p : String} {af : Array Edge} {gd : Option (Nat × Bool)} {x : Operand} {kw : Value → World → Prop} {w W : World} {gs : List (Option Nat)} {L : Lc} {R : List Row} {fs : List Fact}
/-- A text's bytes. -/
theorem s_s2b {l : List UInt8} (M : St w gs W L R fs) (hx : val E x = .string (sb l)) (h : ∀ A c W', St w gs W' L R (.dat false [dB l] [.slice A l.length c] :: fs) → kw (.slice A l.length c) W') :
    VVal Tryd.prog E { dst := d, op := .convert 9 22 x, type := ty, pos := p, after := af, guard := gd } W kw :=
  v_s2b hx fun g c W' hg hr hc hb _ => h _ c W' (by
    subst hg
    refine (M.call hb).addD (RdD.ofbytes hr hc fun b off e hb2 => ⟨hb2, fun e2 => ?_⟩)
    injection e with e
    injection e with e
    have := M.olt b e2
    omega)
theorem RdD.rds {W : World} {F : Nat → Prop} {A : Option Addr} {n c : Nat} {ll : List (List UInt8)} (h : RdD W F (dLs ll) (.slice A n c)) (hF : ∀ b, F b → b < W.heap.size) : n = ll.length ∧ n ≤ c ∧ RdS W W.heap.size A n ll := by
  obtain ⟨cs, h1, h2⟩ := h.reads hF
  obtain ⟨A', c', e, h3, -⟩ := h.open_
  injection e with _ e2 e3
  subst e3
  refine ⟨h.slen, by omega, RdN.lists ⟨cs, h1, by rw [h2.len]; simp, fun k v xs e1 e2 => ?_⟩⟩
  rw [List.getElem?_map] at e2
  obtain ⟨l, hl, rfl⟩ := Option.map_eq_some_iff.1 e2
  obtain ⟨v', hv', hd⟩ : ∃ v', cs[k]? = some v' ∧ RdD W F (dB l) v' := h2.get (by rw [List.getElem?_map, hl]; rfl)
  rw [e1] at hv'
  injection hv' with hv'
  subst hv'
  obtain ⟨A2, c2, rfl, h4, -⟩ := hd.open_
  obtain ⟨cs2, h5, h6⟩ := hd.reads hF
  have := h6.vals
  subst this
  exact ⟨A2, l.length, c2, rfl, h4, h5⟩
set_option maxRecDepth 100000 in
/-- Is it short enough? -/
theorem fit_any {g : Nat} {lg : Bool} (M : St w gs W ((g, 4, [.bool lg]) :: L) R fs) (A : Option Addr) (n c : Nat) :
    Calls Tryd.prog 23 #[.slice A n c, .pointer (some ⟨g, 0, none⟩)] W fun e W' => e = .returned (.slice A n c) ∧ St w gs W' ((g, 4, [.bool (lg || decide (1048576 < n))]) :: L) R fs := by
  refine calls_ev (args := [.slice A n c, .pointer (some ⟨g, 0, none⟩)]) mixed Tryd.func23 rfl (by kernel_rfl) ?_
  refine v_load agg_bl rfl ((M.B 0 rfl).at_ rfl) ?_
  cases lg with
  | true =>
    refine s_set 0 (off := 0) (.bool true) [.bool true] M rfl sz_bln rfl rfl rfl (by show 0 < 1; decide) rfl ?_
    clear M; rintro W M
    dsimp only [setL] at M
    exact ⟨rfl, M⟩
  | false =>
    refine p_len slb rfl ?_
    refine p_gt rfl rfl (fun q => ?_) (fun q => ?_)
    · have q : 1048576 < n := by have h : (1048576 : Int) < (n : Int) := q; omega
      refine s_set 0 (off := 0) (.bool true) [.bool true] M rfl sz_bln rfl rfl rfl (by show 0 < 1; decide) rfl ?_
      clear M; rintro W M
      dsimp only [setL] at M
      rw [Bool.false_or, decide_eq_true q]
      exact ⟨rfl, M⟩
    · have q : ¬ 1048576 < n := by have h : ¬ (1048576 : Int) < (n : Int) := q; omega
      refine s_set 0 (off := 0) (.bool false) [.bool false] M rfl sz_bln rfl rfl rfl (by show 0 < 1; decide) rfl ?_
      clear M; rintro W M
      dsimp only [setL] at M
      rw [Bool.false_or, decide_eq_false q]
      exact ⟨rfl, M⟩
end
theorem encO_full {o : Out} (h : (encO o).2 = 0) : encO o = (outB o, 0) := by
  unfold encO at h ⊢
  split at h
  · next h1 =>
    split at h
    · exact absurd h (by decide)
    · next h2 => rw [if_pos h1, if_neg h2]
  · exact absurd h (by decide)
theorem take_map_snoc {α β : Type} (f : α → β) {l : List α} {i : Nat} {x : α} (h : l[i]? = some x) : (l.take (i + 1)).map f = (l.take i).map f ++ [f x] := by rw [List.take_add_one, h, List.map_append]; rfl
set_option maxRecDepth 100000 in
set_option maxHeartbeats 8000000 in
theorem bEnc_any (b : Bk) (gs : List (Option Nat)) (w : World) (cs : List Value) (hr : RdL w (Fd w gs) (dBk b) cs) (hgs : ∀ b, some b ∈ gs → b < w.heap.size) (hf : FitsB b) :
    Calls Tryd.prog 9 #[.agg cs.toArray] w (EncG w (encBk b)) := by
  refine calls_ev (args := [.agg cs.toArray]) mixed Tryd.func9 rfl (by kernel_rfl) ?_
  obtain ⟨p, rfl, h1, h2, h3, h4, h5, h6⟩ := id hr.bk
  obtain ⟨t1, t2, t3, t4, t5, t6, t7, t8, t9⟩ := bk_txs b
  have M := ((((((St.start hgs).addD h6).addD h3).addD h2).addD h1).addD h5).addD h4
  have M := M.addL hr
  clear h1 h2 h3 h4 h5 h6 hr
  refine s_box (bkcs b p) M rfl ?_
  clear M
  rintro g1 W M
  refine v_loadN (bkcs b p) agg_bk rfl rfl (M.run 0 rfl) ?_
  refine cc is_bcheck (bcheck_any b _ _ _ (M.da 0 rfl) M.olt hf) ?_
  rintro e W ⟨rfl, hb⟩
  replace M := M.call hb
  clear hb
  obtain ⟨hf0, hf1, hf2⟩ := hf
  refine ⟨_, rfl, ?_⟩
  refine p_ne rfl rfl (fun q => ?_) (fun q => ?_)
  rotate_left
  · have q : ¬ checkBk b = 0 := q
    have he : encBk b = ([], checkBk b) := by
      unfold checkBk at q ⊢
      split
      · next h1 =>
        rw [if_pos h1] at q
        split
        · rw [encBk_3 h1 (by omega)]
        · next h2 => rw [if_neg h2] at q; exact absurd rfl q
      · next h1 => rw [encBk_2 (by simpa using h1)]
    exact ⟨none, 0, 0, by rw [he]; rfl, by rw [he]; exact World.ownsRow_nil _ _ _ _, M.below⟩
  have q : checkBk b = 0 := q
  have hrt : rightBk b = true := by
    unfold checkBk at q
    split at q
    · next h => exact h
    · exact absurd q (by decide)
  obtain ⟨⟨r1, r2, r3, r4, r5, r6⟩, r7, r8⟩ := right_iff.1 hrt
  refine s_alloc [.bool false] M al_bool ?_
  clear M; rintro g5 W M
  refine s_set 0 (off := 0) (.bool false) [.bool false] M rfl sz_bln rfl rfl rfl (by show 0 < 1; decide) rfl ?_
  clear M; rintro W M
  dsimp only [setL] at M
  refine p_fun (#[] : Array Operand) _ ?_
  refine p_fld fB4 rfl ?_
  refine v_load agg_tss rfl ((M.B 1 rfl).at_ rfl) ?_
  refine p_len sltss rfl ?_
  obtain ⟨FX, hFX⟩ : ∃ FX : List Fact, FX = [.dat false [dTxs b.txs] [.slice p.A4 b.txs.length p.c4], .dat false [dOuts b.outs] [.slice p.A5 b.outs.length p.c5], .dat false [dB b.last] [.slice p.A1 b.last.length p.c1], .dat false [dB b.prev] [.slice p.A2 b.prev.length p.c2], .dat false [dB b.next] [.slice p.A3 b.next.length p.c3], .dat false [dB b.proof] [.slice p.A6 b.proof.length p.c6]] := ⟨_, rfl⟩
  refine cutS (List Value × Option Addr × Nat × List Value × Option Addr × Nat × Bool) (fun s W => (s.2.2.2.2.2.2 = true → 1048576 < (blockB b).length) ∧ St w gs W [(g5, 4, [.bool s.2.2.2.2.2.2]), (g1, 26, bkcs b p)] [⟨22, 1, s.2.1, b.txs.length, s.2.2.1, s.1⟩, ⟨22, 1, s.2.2.2.2.1, b.txs.length, s.2.2.2.2.2.1, s.2.2.2.1⟩] (.dat false ((outsB b).map dB) s.1 :: .dat false ((txsB b).map dB) s.2.2.2.1 :: FX))
    (fun s => [(1, .pointer (some ⟨g1, 0, none⟩)), (5, .pointer (some ⟨g5, 0, none⟩)), (6, .func (.func 23) #[] #[.pointer (some ⟨g5, 0, none⟩)]), (7, .slice s.2.2.2.2.1 b.txs.length s.2.2.2.2.2.1), (8, .slice s.2.1 b.txs.length s.2.2.1)]) ?_ ?_
  · refine lp (Nat × List Value × Option Addr × Nat × List Value × Option Addr × Nat × Bool) (fun s W => s.1 ≤ b.txs.length ∧ (s.2.2.2.2.2.2.2 = true → 1048576 < (blockB b).length) ∧ St w gs W [(g5, 4, [.bool s.2.2.2.2.2.2.2]), (g1, 26, bkcs b p)] [⟨22, 1, s.2.2.1, s.1, s.2.2.2.1, s.2.1⟩, ⟨22, 1, s.2.2.2.2.2.1, s.1, s.2.2.2.2.2.2.1, s.2.2.2.2.1⟩] (.dat false (((b.outs.take s.1).map outB).map dB) s.2.1 :: .dat false (((b.txs.take s.1).map joinL).map dB) s.2.2.2.2.1 :: FX))
      (fun s => [(1, .pointer (some ⟨g1, 0, none⟩)), (5, .pointer (some ⟨g5, 0, none⟩)), (6, .func (.func 23) #[] #[.pointer (some ⟨g5, 0, none⟩)]), (7, .slice s.2.2.2.2.2.1 s.1 s.2.2.2.2.2.2.1), (8, .slice s.2.2.1 s.1 s.2.2.2.1), (24, .slice p.A4 b.txs.length p.c4), (25, .int .i64 (b.txs.length : Nat)), (26, .int .i64 s.1)]) (fun s => b.txs.length - s.1) (0, [], none, 0, [], none, 0, false) ⟨Nat.zero_le _, (fun h => by cases h), ?_⟩ (by repeat (first | exact trivial | refine ⟨rfl, ?_⟩)) ?_
    · have M2 := (((M.nilR 22 1).nilR 22 1).addL (ds := []) (cs := []) RdL.nil_).addL (ds := []) (cs := []) RdL.nil_
      subst hFX
      exact M2.fsub _ (by simp)
    clear M
    rintro ⟨i, xs8, A8, c8, xs7, A7, c7, lg⟩ E W ⟨hi, hlg, M⟩
    dsimp only at hi hlg M
    refine p_lt rfl rfl (fun hlt => ?_) (fun hge => ?_)
    rotate_left
    · have hi : i = b.txs.length := by have h : ¬ (i : Int) < (b.txs.length : Int) := hge; omega
      subst hi
      rw [List.take_of_length_le (Nat.le_refl _), List.take_of_length_le (by omega)] at M
      exact ⟨(xs8, A8, c8, xs7, A7, c7, lg), ⟨hlg, M⟩, (by repeat (first | exact trivial | refine ⟨rfl, ?_⟩))⟩
    have hil : i < b.txs.length := by have h : (i : Int) < (b.txs.length : Int) := hlt; omega
    obtain ⟨t, ht⟩ : ∃ t, b.txs[i]? = some t := ⟨_, List.getElem?_eq_getElem hil⟩
    obtain ⟨o, ho⟩ : ∃ o, b.outs[i]? = some o := ⟨_, List.getElem?_eq_getElem (by omega)⟩
    obtain ⟨u1, u2, u3⟩ := bk_tx (List.mem_of_getElem? ht)
    have hfo := hf1 o (List.mem_of_getElem? ho)
    have hol := bk_out (List.mem_of_getElem? ho)
    have heo := encO_full (r8 o (List.mem_of_getElem? ho))
    have hFt : ∀ f ∈ [Fact.dat false [dTxs b.txs] [.slice p.A4 b.txs.length p.c4], .dat false [dOuts b.outs] [.slice p.A5 b.outs.length p.c5]], f ∈ FX := by rw [hFX]; intro f hf; simp only [List.mem_cons, List.not_mem_nil, or_false] at hf ⊢; rcases hf with h | h <;> simp [h]
    have dtx : RdD W (Fd W (own [(g5, 4, [.bool lg]), (g1, 26, bkcs b p)] [⟨22, 1, A8, i, c8, xs8⟩, ⟨22, 1, A7, i, c7, xs7⟩] gs)) (dTxs b.txs) (.slice p.A4 b.txs.length p.c4) := by
      have h : RdL W (Ft w W _ false) [dTxs b.txs] [.slice p.A4 b.txs.length p.c4] := M.fct (.dat false [dTxs b.txs] [.slice p.A4 b.txs.length p.c4]) (List.mem_cons_of_mem _ (List.mem_cons_of_mem _ (hFt _ (by simp))))
      exact (h.to fun b hb => ⟨rfl, hb.1, hb.2.1⟩).hd
    obtain ⟨b1, o1, At, ct, e1, M'⟩ := M.txe dtx ht
    replace M := M'; clear M' dtx
    refine p_at (i := i) sltss (by show Value.slice p.A4 b.txs.length p.c4 = _; rw [e1]) rfl rfl hil ?_
    refine v_load agg_ts rfl (M.lc 0 rfl 0 _ rfl) ?_
    refine p_len slts rfl ?_
    refine lp (Nat × List Value × Option Addr × Nat) (fun s W => s.1 ≤ t.length ∧ St w gs W [(g5, 4, [.bool lg]), (g1, 26, bkcs b p)] [⟨22, 1, s.2.2.1, s.1, s.2.2.2, s.2.1⟩, ⟨22, 1, A8, i, c8, xs8⟩, ⟨22, 1, A7, i, c7, xs7⟩] (.dat false ((t.take s.1).map dB) s.2.1 :: .dat false [dTx t] [.slice At t.length ct] :: .dat false (((b.outs.take i).map outB).map dB) xs8 :: .dat false (((b.txs.take i).map joinL).map dB) xs7 :: FX))
      (fun s => [(1, .pointer (some ⟨g1, 0, none⟩)), (5, .pointer (some ⟨g5, 0, none⟩)), (6, .func (.func 23) #[] #[.pointer (some ⟨g5, 0, none⟩)]), (7, .slice A7 i c7), (8, .slice A8 i c8), (9, .int .i64 i), (11, .slice s.2.2.1 s.1 s.2.2.2), (24, .slice p.A4 b.txs.length p.c4), (25, .int .i64 (b.txs.length : Nat)), (26, .int .i64 i), (31, .slice At t.length ct), (32, .int .i64 (t.length : Nat)), (33, .int .i64 s.1)]) (fun s => t.length - s.1) (0, [], none, 0) ⟨Nat.zero_le _, ?_⟩ (by repeat (first | exact trivial | refine ⟨rfl, ?_⟩)) ?_
    · have M2 := (M.nilR 22 1).addL (ds := []) (cs := []) RdL.nil_
      exact M2.fsub _ (by intro f hf; simp only [List.mem_cons, List.take_zero, List.map_nil] at hf ⊢; rcases hf with h | h | h | h | h <;> simp [h])
    clear M
    rintro ⟨k, ys, A11, c11⟩ E W ⟨hk, M⟩
    dsimp only at hk M
    refine p_lt rfl rfl (fun hlt2 => ?_) (fun hge => ?_)
    · have hkl : k < t.length := by have h : (k : Int) < (t.length : Int) := hlt2; omega
      obtain ⟨x, hxi⟩ : ∃ x, t[k]? = some x := ⟨_, List.getElem?_eq_getElem hkl⟩
      have hxl := u3 x (List.mem_of_getElem? hxi)
      obtain ⟨b2, o2, rfl, M'⟩ := M.stre (M.d1 1 rfl) hxi
      replace M := M'; clear M'
      refine p_at (i := k) slts rfl rfl rfl hkl ?_
      refine v_load agg_st rfl (M.lc 0 rfl 0 _ rfl) ?_
      refine s_s2b M rfl ?_
      clear M; rintro A39 c39 W M
      refine s_bslice (fr := false) (ds := [dB x]) [.slice A39 x.length c39] M sls zls rfl (by decide) rfl (M.dw 0 rfl) rfl ?_
      clear M; rintro gq W M
      obtain ⟨news, hrd, hnd⟩ := (M.d1 0 rfl).reads Fd.lt
      replace M := M.addL hnd
      refine s_app (z := .slice none 0 0) (news := news) M u_lss lsinfo rfl (by decide) rfl rfl hrd (hnd.ones (fun d hd => by rcases List.mem_singleton.1 hd with rfl; exact trivial)) ⟨by omega, by decide⟩ ?_
      clear M hrd hnd
      rintro A41 c41 W M -
      refine p_addN (b := 1) rfl rfl (by omega) ?_
      have hx := (M.da 4 rfl).app (M.da 0 rfl)
      rw [← take_map_snoc dB hxi] at hx
      replace M := M.addL hx
      exact ⟨(k + 1, ys ++ news, A41, c41), ⟨by dsimp only; omega, M.fsub _ (by intro f hf; simp only [List.mem_cons] at hf ⊢; rcases hf with h | h | h | h | h <;> simp [h])⟩, (by repeat (first | exact trivial | refine ⟨rfl, ?_⟩)), by dsimp only; omega⟩
    have hk : k = t.length := by have h : ¬ (k : Int) < (t.length : Int) := hge; omega
    subst hk
    rw [List.take_of_length_le (Nat.le_refl _)] at M
    replace M := M.frzR (fr := false) (M.dt 0 rfl)
    obtain ⟨-, -, hrs⟩ := RdD.rds (ll := t) (M.d1 0 rfl) Fd.lt
    refine cc is_vjoin (join_any _ _ _ t _ hrs (by omega) (by omega)) ?_
    clear hrs
    rintro e W ⟨A46, n46, c46, rfl, o46, hb⟩
    have en46 := o46.len
    replace M := M.callO hb o46
    clear hb o46
    refine ⟨_, rfl, ?_⟩
    refine cc is_fit (fit_any M _ _ _) ?_
    clear M
    rintro e W ⟨rfl, M⟩
    refine ⟨_, rfl, ?_⟩
    have hlg2 : (lg || decide (1048576 < n46)) = true → 1048576 < (blockB b).length := by
      intro h
      rw [Bool.or_eq_true, decide_eq_true_eq] at h
      rcases h with h | h
      · exact hlg h
      · omega
    obtain ⟨lg2, hl2⟩ : ∃ q, q = (lg || decide (1048576 < n46)) := ⟨_, rfl⟩
    rw [← hl2] at M hlg2
    replace M := M.swpR
    refine s_bslice (fr := false) (ds := [dB (joinL t)]) [.slice A46 n46 c46] M sls zls rfl (by decide) rfl (M.dw 0 rfl) rfl ?_
    clear M; rintro gq W M
    obtain ⟨news, hrd, hnd⟩ := (M.d1 0 rfl).reads Fd.lt
    replace M := M.addL hnd
    refine s_app (z := .slice none 0 0) (news := news) M u_lss lsinfo rfl (by decide) rfl rfl hrd (hnd.ones (fun d hd => by rcases List.mem_singleton.1 hd with rfl; exact trivial)) ⟨by omega, by decide⟩ ?_
    clear M hrd hnd
    rintro A49 c49 W M -
    have hx := (M.da 7 rfl).app (M.da 0 rfl)
    have em : ((b.txs.take (i + 1)).map joinL).map dB = ((b.txs.take i).map joinL).map dB ++ [dB (joinL t)] := by rw [take_map_snoc joinL ht, List.map_append]; rfl
    rw [← em] at hx
    replace M := (M.addL hx).fsub (.dat false (((b.txs.take (i + 1)).map joinL).map dB) (xs7 ++ news) :: .dat false (((b.outs.take i).map outB).map dB) xs8 :: FX) (by intro f hf; simp only [List.mem_cons] at hf ⊢; rcases hf with h | h | h <;> simp [h])
    clear hx
    obtain ⟨xs9, hx9⟩ : ∃ x, x = xs7 ++ news := ⟨_, rfl⟩
    rw [← hx9] at M
    have dos : RdD W (Fd W (own [(g5, 4, [.bool lg2]), (g1, 26, bkcs b p)] [⟨22, 1, A49, i + 1, c49, xs9⟩, ⟨22, 1, A8, i, c8, xs8⟩] gs)) (dOuts b.outs) (.slice p.A5 b.outs.length p.c5) := by
      have h : RdL W (Ft w W (own [(g5, 4, [.bool lg2]), (g1, 26, bkcs b p)] [⟨22, 1, A49, i + 1, c49, xs7 ++ news⟩, ⟨22, 1, A8, i, c8, xs8⟩] gs) false) [dOuts b.outs] [.slice p.A5 b.outs.length p.c5] := by
        have := M.fct (.dat false [dOuts b.outs] [.slice p.A5 b.outs.length p.c5]) (List.mem_cons_of_mem _ (List.mem_cons_of_mem _ (hFt _ (by simp))))
        exact this
      exact (h.to fun b hb => ⟨rfl, hb.1, hb.2.1⟩).hd
    obtain ⟨b3, o3, es, e3, M'⟩ := M.oute dos ho
    replace M := M'; clear M' dos
    have hel := (M.da 1 rfl).len
    rw [dOut_len] at hel
    refine p_fld fB5 rfl ?_
    refine v_load agg_os rfl ((M.B 1 rfl).at_ rfl) ?_
    refine p_at (i := i) slos (by show Value.slice p.A5 b.outs.length p.c5 = _; rw [e3]) rfl rfl (by omega) ?_
    refine v_loadN es agg_out rfl hel (M.lc 0 rfl) ?_
    have cx := xEnc_any o _ _ _ (M.da 1 rfl) M.olt hfo
    rw [heo] at cx
    refine cc is_xEnc cx ?_
    clear cx
    rintro e W ⟨A57, n57, c57, rfl, o57, hb⟩
    have en57 : (outB o).length = n57 := o57.len
    replace M := M.callO hb o57
    clear hb o57
    refine ⟨_, rfl, ?_⟩
    refine cc is_fit (fit_any M _ _ _) ?_
    clear M
    rintro e W ⟨rfl, M⟩
    refine ⟨_, rfl, ?_⟩
    have hlg3 : (lg2 || decide (1048576 < n57)) = true → 1048576 < (blockB b).length := by
      intro h
      rw [Bool.or_eq_true, decide_eq_true_eq] at h
      rcases h with h | h
      · exact hlg2 h
      · omega
    obtain ⟨lg3, hl3⟩ : ∃ q, q = (lg2 || decide (1048576 < n57)) := ⟨_, rfl⟩
    rw [← hl3] at M hlg3
    replace M := M.swpR
    refine s_bslice (fr := false) (ds := [dB (outB o)]) [.slice A57 n57 c57] M sls zls rfl (by decide) rfl (M.dw 0 rfl) rfl ?_
    clear M; rintro gq W M
    obtain ⟨news, hrd, hnd⟩ := (M.d1 0 rfl).reads Fd.lt
    replace M := M.addL hnd
    refine s_app (z := .slice none 0 0) (news := news) M u_lss lsinfo rfl (by decide) rfl rfl hrd (hnd.ones (fun d hd => by rcases List.mem_singleton.1 hd with rfl; exact trivial)) ⟨by omega, by decide⟩ ?_
    clear M hrd hnd
    rintro A64 c64 W M -
    have hx := (M.da 6 rfl).app (M.da 0 rfl)
    have em2 : ((b.outs.take (i + 1)).map outB).map dB = ((b.outs.take i).map outB).map dB ++ [dB (outB o)] := by rw [take_map_snoc outB ho, List.map_append]; rfl
    rw [← em2] at hx
    replace M := (M.addL hx).fsub (.dat false (((b.outs.take (i + 1)).map outB).map dB) (xs8 ++ news) :: .dat false (((b.txs.take (i + 1)).map joinL).map dB) xs9 :: FX) (by intro f hf; simp only [List.mem_cons] at hf ⊢; rcases hf with h | h | h <;> simp [h])
    refine p_addN (b := 1) rfl rfl (by omega) ?_
    exact ⟨(i + 1, _, A64, c64, xs9, A49, c49, lg3), ⟨by dsimp only; omega, hlg3, M⟩, (by repeat (first | exact trivial | refine ⟨rfl, ?_⟩)), by dsimp only; omega⟩
  clear M
  rintro ⟨xs8, A8, c8, xs7, A7, c7, lg⟩ E W ⟨hlg, M⟩
  dsimp only at hlg M
  have hlo : (outsB b).length = b.txs.length := by unfold outsB; rw [List.length_map]; omega
  have hlt : (txsB b).length = b.txs.length := by unfold txsB; rw [List.length_map]
  replace M := M.frzR (fr := false) (M.dt 0 rfl)
  have hdo : RdD W (Fd W (own [(g5, 4, [.bool lg]), (g1, 26, bkcs b p)] [⟨22, 1, A7, b.txs.length, c7, xs7⟩] gs)) (dLs (outsB b)) (.slice A8 b.txs.length c8) := by unfold dLs; rw [hlo]; exact M.d1 0 rfl
  replace M := M.addD hdo
  clear hdo
  replace M := M.frzR (fr := false) (M.dt 3 rfl)
  have hdt : RdD W (Fd W (own [(g5, 4, [.bool lg]), (g1, 26, bkcs b p)] [] gs)) (dLs (txsB b)) (.slice A7 b.txs.length c7) := by unfold dLs; rw [hlt]; exact M.d1 0 rfl
  replace M := M.addD hdt
  clear hdt
  replace M := (M.fsub [.dat false [dLs (txsB b)] [.slice A7 b.txs.length c7], .dat false [dLs (outsB b)] [.slice A8 b.txs.length c8], .dat false [dB b.last] [.slice p.A1 b.last.length p.c1], .dat false [dB b.prev] [.slice p.A2 b.prev.length p.c2], .dat false [dB b.next] [.slice p.A3 b.next.length p.c3], .dat false [dB b.proof] [.slice p.A6 b.proof.length p.c6]] (by subst hFX; simp)).drew
  clear hFX FX
  refine cutV (Option Addr × Nat) (fun s W => St w gs W [(g5, 4, [.bool (decide (1048576 < (blockB b).length))]), (g1, 26, bkcs b p)] [⟨5, 1, s.1, (blockB b).length, s.2, bvs (blockB b)⟩] []) (fun s => [(5, .pointer (some ⟨g5, 0, none⟩)), (16, .slice s.1 (blockB b).length s.2)]) ?_ ?_
  · refine drT (Kp w gs [(g1, 26, bkcs b p)] []) (.take 0 (.take 1 (.take 2 (.take 3 (.take 5 (.take 6 (.take 7 (.take 8 (.take 9 (.take 10 (.take 11 (.take 12 (.take 15 (.take 16 (.take 19 (.take 20 (.one 4 (.one 13 (.one 14 (.one 17 (.one 18 (.one 21 (.one 22 (.one 23 (.take 24 (.nil)))))))))))))))))))))))))) (by kernel_rfl) (M.kp (by simp) (by simp)) ?_
    refine p_fld fB0 rfl ?_
    refine t_load agg_i rfl (fun W K => (K.B 0 rfl).at_ rfl) ?_
    refine t_cvt u_i64t u_u64t rfl (cv64 r1 hf0) ?_
    refine p_fld fB1 rfl ?_
    refine t_load agg_b rfl (fun W K => (K.B 0 rfl).at_ rfl) ?_
    refine p_fld fB2 rfl ?_
    refine t_load agg_b rfl (fun W K => (K.B 0 rfl).at_ rfl) ?_
    refine p_fld fB3 rfl ?_
    refine t_load agg_b rfl (fun W K => (K.B 0 rfl).at_ rfl) ?_
    refine p_fld fB6 rfl ?_
    refine t_load agg_b rfl (fun W K => (K.B 0 rfl).at_ rfl) ?_
    refine cc is_vput (put_any b.num.toNat _ (putN_len10 (by omega))) ?_
    rintro e W ⟨A70, c70, rfl, o70, hb⟩
    replace M := M.callO hb o70
    clear hb o70
    refine ⟨_, rfl, (M.kp (by simp) (by simp)), ?_⟩
    obtain ⟨-, -, hrs⟩ := RdD.rds (ll := txsB b) (M.d1 1 rfl) Fd.lt
    refine cc is_vjoin (join_any _ _ _ (txsB b) _ hrs (by omega) (by omega)) ?_
    clear hrs
    rintro e W ⟨A79, n79, c79, rfl, o79, hb⟩
    have en79 : (joinL (txsB b)).length = n79 := o79.len
    replace M := M.callO hb o79
    clear hb o79
    refine ⟨_, rfl, (M.kp (by simp) (by simp)), ?_⟩
    refine cc is_fit (fit_any M _ _ _) ?_
    clear M
    rintro e W ⟨rfl, M⟩
    refine ⟨_, rfl, (M.kp (by simp) (by simp)), ?_⟩
    obtain ⟨-, -, hrs⟩ := RdD.rds (ll := outsB b) (M.d1 3 rfl) Fd.lt
    refine cc is_vjoin (join_any _ _ _ (outsB b) _ hrs (by omega) (by omega)) ?_
    clear hrs
    rintro e W ⟨A83, n83, c83, rfl, o83, hb⟩
    have en83 : (joinL (outsB b)).length = n83 := o83.len
    replace M := M.callO hb o83
    clear hb o83
    refine ⟨_, rfl, (M.kp (by simp) (by simp)), ?_⟩
    refine cc is_fit (fit_any M _ _ _) ?_
    clear M
    rintro e W ⟨rfl, M⟩
    refine ⟨_, rfl, (M.kp (by simp) (by simp)), ?_⟩
    refine s_bslice (fr := false) (ds := (partsB b).map dB) [.slice A70 (putN b.num.toNat).length c70, .slice p.A1 b.last.length p.c1, .slice p.A2 b.prev.length p.c2, .slice p.A3 b.next.length p.c3, .slice A79 n79 c79, .slice A83 n83 c83, .slice p.A6 b.proof.length p.c6] M sls zls rfl (by decide) rfl (RdL.cons (M.dw 2 rfl).hd (RdL.cons (M.dw 5 rfl).hd (RdL.cons (M.dw 6 rfl).hd (RdL.cons (M.dw 7 rfl).hd (RdL.cons (M.dw 1 rfl).hd (RdL.cons (M.dw 0 rfl).hd (RdL.cons (M.dw 8 rfl).hd RdL.nil_))))))) rfl ?_
    clear M; rintro g87 W M
    refine ⟨(M.kp (by simp) (by simp)), ?_⟩
    obtain ⟨-, -, hrs⟩ := RdD.rds (ll := partsB b) (M.d1 0 rfl) Fd.lt
    refine cc is_vjoin (join_any _ _ _ (partsB b) _ hrs (by decide) (by show (blockB b).length ≤ _; omega)) ?_
    clear hrs
    rintro e W ⟨A88, n88, c88, rfl, o88, hb⟩
    have en88 : (blockB b).length = n88 := o88.len
    subst en88
    replace M := M.callR (r := ⟨5, 1, A88, (blockB b).length, c88, bvs (blockB b)⟩) hb o88
    clear hb o88
    refine ⟨_, rfl, (M.kp (by simp) (by simp)), ?_⟩
    refine cc is_fit (fit_any M _ _ _) ?_
    clear M
    rintro e W ⟨rfl, M⟩
    refine ⟨_, rfl, (M.kp (by simp) (by simp)), ?_⟩
    have eq : (((lg || decide (1048576 < n79)) || decide (1048576 < n83)) || decide (1048576 < (blockB b).length)) = decide (1048576 < (blockB b).length) := by
      by_cases hB : 1048576 < (blockB b).length
      · rw [decide_eq_true hB, Bool.or_true]
      · have h1 : lg = false := by cases lg with
          | false => rfl
          | true => exact absurd (hlg rfl) hB
        rw [h1, decide_eq_false hB, decide_eq_false (show ¬ 1048576 < n79 by omega), decide_eq_false (show ¬ 1048576 < n83 by omega)]
        rfl
    rw [eq] at M
    exact ⟨(A88, c88), M.fsub _ (by simp), (by repeat (first | exact trivial | refine ⟨rfl, ?_⟩))⟩
  clear M
  rintro ⟨A88, c88⟩ E W M
  dsimp only at M
  refine v_load agg_bl rfl ((M.B 0 rfl).at_ rfl) ?_
  by_cases hB : 1048576 < (blockB b).length
  · rw [decide_eq_true hB]
    rw [encBk_3 hrt hB]
    exact ⟨none, 0, 0, rfl, World.ownsRow_nil _ _ _ _, M.below⟩
  · rw [decide_eq_false hB]
    rw [encBk_0 hrt hB]
    exact ⟨A88, _, c88, rfl, M.row _ (List.mem_cons_self ..), M.below⟩
end Go.Proofs.YtejbljopighenaaDoor
namespace Go.Proofs.YtejbljopighenaaDoor
open Go.RowKit
theorem St.lse {w W : World} {gs : List (Option Nat)} {L : Lc} {R : List Row} {fs : List Fact} (M : St w gs W L R fs) {ll : List (List UInt8)} {A : Option Addr} {n c i : Nat} {l : List UInt8} (h : RdD W (Fd W (own L R gs)) (dLs ll) (.slice A n c)) (hi : ll[i]? = some l) :
    ∃ b off A' c', A = some ⟨b, off, none⟩ ∧ St w gs W L R (.loc ((⟨b, off, none⟩ : Addr).add (i * 1)) [.slice A' l.length c'] :: .dat false [dB l] [.slice A' l.length c'] :: fs) := by
  have h : RdD W (Fd W (own L R gs)) (.sl 1 ll.length (ll.flatMap fun l => [dB l])) (.slice A n c) := by unfold dLs at h; rw [List.map_eq_flatMap] at h; exact h
  obtain ⟨b, off, es, e, hF, hes, hel, hc⟩ := RdD.eltO (fun l => [dB l]) 1 (fun _ => rfl) h hi
  obtain ⟨u, us, rfl, h1, h2⟩ := hes.uncons
  rw [h2.isnil] at hc
  obtain ⟨A', c', e2, -⟩ := h1.open_
  subst e2
  exact ⟨b, off, A', c', e, (M.addD h1).addC (by rw [block_of_add]; exact hF) hc⟩
end Go.Proofs.YtejbljopighenaaDoor
namespace Go.Proofs.YtejbljopighenaaDoor
open Go.RowKit
theorem is_btxs : isFn Tryd.prog 33 = true := by kernel_rfl
theorem is_bouts : isFn Tryd.prog 34 = true := by kernel_rfl
theorem is_vsplit : isFn Tryd.prog 31 = true := by kernel_rfl
theorem u_tst : Tryd.prog.underlying 52 = some (.slice 9) := by kernel_rfl
theorem u_tsst : Tryd.prog.underlying 23 = some (.slice 52) := by kernel_rfl
theorem u_ost : Tryd.prog.underlying 24 = some (.slice 55) := by kernel_rfl
theorem zstr : zeroOf Tryd.prog 9 = some [.string (sb [])] := by kernel_rfl
theorem ztst : zeroOf Tryd.prog 52 = some [.slice none 0 0] := by kernel_rfl
theorem stinfo : (Tryd.prog.info? 9).map (fun i => (i.zero, i.size, i.bytes)) = some (some (.string (sb [])), 1, 16) := by kernel_rfl
theorem tsinfo : (Tryd.prog.info? 52).map (fun i => (i.zero, i.size, i.bytes)) = some (some (.slice none 0 0), 1, 24) := by kernel_rfl
theorem outinfo : (Tryd.prog.info? 55).map (fun i => (i.zero, i.size, i.bytes)) = some (some (.agg zOut.toArray), 3, 40) := by kernel_rfl
theorem OwnS.rdLs {W : World} {base n c : Nat} {A : Option Addr} {ll : List (List UInt8)} {F : Nat → Prop} (h : OwnS W base A n c ll) (hF : ∀ b, base ≤ b → b < W.heap.size → Thaw W b → F b) : RdD W F (dLs ll) (.slice A n c) := by
  obtain ⟨vs, h1, h2⟩ := h
  have hn : n = ll.length := by have := h1.1; have := h2.len; omega
  have key : RdL W F (ll.map dB) vs := RdL.ofall dB ll vs h2.len fun k v l hv hl => by
    obtain ⟨A', m, c', rfl, ho⟩ := h2.own k v l hv hl
    have em : m = l.length := ho.len.symm
    subst em
    exact rdD_row ho (RdL.ofvals _) fun b q1 q2 q3 => hF b q1 q2 (row_thaw ho (by rw [← own_bk]; exact q3))
  subst hn
  exact rdD_row h1 key fun b q1 q2 q3 => hF b q1 q2 (row_thaw h1 (by rw [← own_bk]; exact q3))
theorem sp_bound {l x : List UInt8} (h : x ∈ spL l) : x.length ≤ l.length ∧ (spL l).length ≤ l.length := by
  by_cases h0 : spE l = 0
  · obtain ⟨j1, -⟩ := join_split l h0
    have h1 := join_mem h
    have h2 := join_len (spL l)
    rw [j1] at h1 h2
    omega
  · have : spL l = [] := by unfold spL; rw [if_neg h0]
    rw [this] at h; cases h
theorem sp_cnt (l : List UInt8) : (spL l).length ≤ l.length := by
  by_cases h0 : spE l = 0
  · have h2 := join_len (spL l)
    rw [(join_split l h0).1] at h2
    omega
  · have : spL l = [] := by unfold spL; rw [if_neg h0]
    rw [this]; exact Nat.zero_le _
theorem txsP_some {l : List UInt8} (h : spE l = 0) (h2 : ∀ x ∈ spL l, spE x = 0) : txsP l = some ((spL l).map spL) := by unfold txsP; rw [if_pos ⟨h, h2⟩]
theorem txsP_none {l : List UInt8} (h : ¬ (spE l = 0 ∧ ∀ x ∈ spL l, spE x = 0)) : txsP l = none := by unfold txsP; rw [if_neg h]
theorem outsP_some {l : List UInt8} (h : spE l = 0) (h2 : ∀ x ∈ spL l, (decO x).2 = 0) : outsP l = some ((spL l).map fun x => (decO x).1) := by unfold outsP; rw [if_pos ⟨h, h2⟩]
theorem outsP_none {l : List UInt8} (h : ¬ (spE l = 0 ∧ ∀ x ∈ spL l, (decO x).2 = 0)) : outsP l = none := by unfold outsP; rw [if_neg h]
set_option maxRecDepth 100000 in
set_option maxHeartbeats 4000000 in
theorem btxs_any (l : List UInt8) (gs : List (Option Nat)) (w : World) (A : Option Addr) (n c : Nat) (hr : RdD w (Fd w gs) (dB l) (.slice A n c)) (hgs : ∀ b, some b ∈ gs → b < w.heap.size) (hl : l.length ≤ 100000000) :
    Calls Tryd.prog 33 #[.slice A n c] w fun e w' => ∃ A' n' c', e = .returned (.tuple #[.slice A' n' c', .bool (txsP l).isSome]) ∧ RdD w' (Fd w' gs) (dTxs ((txsP l).getD [])) (.slice A' n' c') ∧ Below w.heap.size w w' := by
  refine calls_ev (args := [.slice A n c]) mixed Tryd.func33 rfl (by kernel_rfl) ?_
  obtain ⟨en, enc, hrd⟩ := hr.rd Fd.lt
  have M := (St.start hgs).addD hr
  clear hr
  refine cc is_vsplit (split_any _ _ _ l _ hrd (by omega) enc) ?_
  rintro e W ⟨A4, n4, c4, rfl, o4, hb⟩
  have h4 : RdD W (Fr w W) (dLs (spL l)) (.slice A4 n4 c4) := o4.rdLs fun b q1 q2 q3 => ⟨q1, q2, q3⟩
  have en4 : n4 = (spL l).length := h4.slen
  subst en4
  replace M := M.callF1 hb h4
  clear hb h4 o4 hrd
  refine ⟨_, rfl, ?_⟩
  refine p_ne rfl rfl (fun q => ?_) (fun q => ?_)
  rotate_left
  · have q : ¬ spE l = 0 := q
    have hno := txsP_none (l := l) (fun h => q h.1)
    rw [hno]
    exact ⟨none, 0, 0, rfl, RdD.nil_ none 0, M.below⟩
  have q : spE l = 0 := q
  have hcnt := sp_cnt l
  refine p_len sls rfl ?_
  refine lp (Nat × List Value × Option Addr × Nat) (fun s W => s.1 ≤ (spL l).length ∧ (∀ x ∈ (spL l).take s.1, spE x = 0) ∧ St w gs W [] [⟨52, 1, s.2.2.1, s.1, s.2.2.2, s.2.1⟩] [.dat false ((((spL l).take s.1).map spL).map dTx) s.2.1, .dat true [dLs (spL l)] [.slice A4 (spL l).length c4]])
    (fun s => [(6, .slice s.2.2.1 s.1 s.2.2.2), (21, .slice A4 (spL l).length c4), (22, .int .i64 ((spL l).length : Nat)), (23, .int .i64 s.1)]) (fun s => (spL l).length - s.1) (0, [], none, 0) ⟨Nat.zero_le _, (fun x h => by rw [List.take_zero] at h; cases h), ?_⟩ (by repeat (first | exact trivial | refine ⟨rfl, ?_⟩)) ?_
  · have M2 := (M.nilR 52 1).addL (ds := []) (cs := []) RdL.nil_
    exact M2.fsub _ (by simp)
  clear M
  rintro ⟨i, xs, A6, c6⟩ E W ⟨hi, ha, M⟩
  dsimp only at hi ha M
  refine p_lt rfl rfl (fun hlt => ?_) (fun hge => ?_)
  rotate_left
  · have hi : i = (spL l).length := by have h : ¬ (i : Int) < ((spL l).length : Int) := hge; omega
    subst hi
    rw [List.take_of_length_le (Nat.le_refl _)] at ha M
    have hso := txsP_some q ha
    replace M := M.frzR (fr := false) (M.dt 0 rfl)
    rw [hso]
    refine ⟨A6, _, c6, rfl, ?_, M.below⟩
    have h := M.fin1 0 rfl
    show RdD W (Fd W gs) (dTxs ((spL l).map spL)) _
    unfold dTxs
    rw [List.length_map]
    exact h
  have hil : i < (spL l).length := by have h : (i : Int) < ((spL l).length : Int) := hlt; omega
  obtain ⟨x, hx⟩ : ∃ x, (spL l)[i]? = some x := ⟨_, List.getElem?_eq_getElem hil⟩
  have hxl := (sp_bound (List.mem_of_getElem? hx)).1
  have hcx := sp_cnt x
  obtain ⟨b1, o1, A8, c8, rfl, M'⟩ := M.lse (M.d1 1 rfl) hx
  replace M := M'; clear M'
  refine p_at (i := i) sls rfl rfl rfl hil ?_
  refine v_load agg_b rfl (M.lc 0 rfl 0 _ rfl) ?_
  obtain ⟨-, enc8, hrd8⟩ := M.rdb 1 rfl
  refine cc is_vsplit (split_any _ _ _ x _ hrd8 (by omega) enc8) ?_
  rintro e W ⟨A9, n9, c9, rfl, o9, hb⟩
  have h9 : RdD W (Fr _ W) (dLs (spL x)) (.slice A9 n9 c9) := o9.rdLs fun b q1 q2 q3 => ⟨q1, q2, q3⟩
  have en9 : n9 = (spL x).length := h9.slen
  subst en9
  replace M := M.callF1 hb h9
  clear hb h9 o9 hrd8
  refine ⟨_, rfl, ?_⟩
  refine p_ne rfl rfl (fun q2 => ?_) (fun q2 => ?_)
  rotate_left
  · have q2 : ¬ spE x = 0 := q2
    have hno := txsP_none (l := l) (fun h => q2 (h.2 x (List.mem_of_getElem? hx)))
    rw [hno]
    exact ⟨none, 0, 0, rfl, RdD.nil_ none 0, M.below⟩
  have q2 : spE x = 0 := q2
  refine p_len sls rfl ?_
  refine lp (Nat × List Value × Option Addr × Nat) (fun s W => s.1 ≤ (spL x).length ∧ St w gs W [] [⟨9, 1, s.2.2.1, s.1, s.2.2.2, s.2.1⟩, ⟨52, 1, A6, i, c6, xs⟩] [.dat false (((spL x).take s.1).map fun s => .v (.string (sb s))) s.2.1, .dat true [dLs (spL x)] [.slice A9 (spL x).length c9], .dat false ((((spL l).take i).map spL).map dTx) xs, .dat true [dLs (spL l)] [.slice (some ⟨b1, o1, none⟩) (spL l).length c4]])
    (fun s => [(6, .slice A6 i c6), (11, .slice s.2.2.1 s.1 s.2.2.2), (21, .slice (some ⟨b1, o1, none⟩) (spL l).length c4), (22, .int .i64 ((spL l).length : Nat)), (23, .int .i64 i), (34, .slice A9 (spL x).length c9), (35, .int .i64 ((spL x).length : Nat)), (36, .int .i64 s.1)]) (fun s => (spL x).length - s.1) (0, [], none, 0) ⟨Nat.zero_le _, ?_⟩ (by repeat (first | exact trivial | refine ⟨rfl, ?_⟩)) ?_
  · have M2 := (M.nilR 9 1).addL (ds := []) (cs := []) RdL.nil_
    exact M2.fsub _ (by simp)
  clear M
  rintro ⟨k, ys, A11, c11⟩ E W ⟨hk, M⟩
  dsimp only at hk M
  refine p_lt rfl rfl (fun hlt2 => ?_) (fun hge => ?_)
  · have hkl : k < (spL x).length := by have h : (k : Int) < ((spL x).length : Int) := hlt2; omega
    obtain ⟨y, hy⟩ : ∃ y, (spL x)[k]? = some y := ⟨_, List.getElem?_eq_getElem hkl⟩
    obtain ⟨b2, o2, A13, c13, rfl, M'⟩ := M.lse (M.d1 1 rfl) hy
    replace M := M'; clear M'
    refine p_at (i := k) sls rfl rfl rfl hkl ?_
    refine v_load agg_b rfl (M.lc 0 rfl 0 _ rfl) ?_
    refine v_str rfl (M.rdb 1 rfl).2.2 ?_
    refine s_bslice (fr := false) (ds := [.v (.string (sb y))]) [.string (sb y)] M slts zstr rfl (by decide) rfl (RdL.cons (RdD.ofv _) RdL.nil_) rfl ?_
    clear M; rintro gq W M
    obtain ⟨news, hrd, hnd⟩ := (M.d1 0 rfl).reads Fd.lt
    replace M := M.addL hnd
    refine s_app (z := .string (sb [])) (news := news) M u_tst stinfo rfl (by decide) rfl rfl hrd (hnd.ones (fun d hd => by rcases List.mem_singleton.1 hd with rfl; rfl)) ⟨by omega, by decide⟩ ?_
    clear M hrd hnd
    rintro A44 c44 W M -
    refine p_addN (b := 1) rfl rfl (by omega) ?_
    have hx2 := (M.da 4 rfl).app (M.da 0 rfl)
    have em := take_map_snoc (fun s => D.v (.string (sb s))) hy
    rw [← em] at hx2
    replace M := M.addL hx2
    exact ⟨(k + 1, ys ++ news, A44, c44), ⟨by dsimp only; omega, M.fsub _ (by simp)⟩, (by repeat (first | exact trivial | refine ⟨rfl, ?_⟩)), by dsimp only; omega⟩
  have hk : k = (spL x).length := by have h : ¬ (k : Int) < ((spL x).length : Int) := hge; omega
  subst hk
  rw [List.take_of_length_le (Nat.le_refl _)] at M
  replace M := M.frzR (fr := false) (M.dt 0 rfl)
  have hdx : RdD W (Fd W (own [] [⟨52, 1, A6, i, c6, xs⟩] gs)) (dTx (spL x)) (.slice A11 (spL x).length c11) := M.d1 0 rfl
  replace M := M.addD hdx
  refine s_bslice (fr := false) (ds := [dTx (spL x)]) [.slice A11 (spL x).length c11] M sltss ztst rfl (by decide) rfl (M.dw 0 rfl) rfl ?_
  clear M hdx; rintro gq W M
  obtain ⟨news, hrd, hnd⟩ := (M.d1 0 rfl).reads Fd.lt
  replace M := M.addL hnd
  refine s_app (z := .slice none 0 0) (news := news) M u_tsst tsinfo rfl (by decide) rfl rfl hrd (hnd.ones (fun d hd => by rcases List.mem_singleton.1 hd with rfl; exact trivial)) ⟨by omega, by decide⟩ ?_
  clear M hrd hnd
  rintro A49 c49 W M -
  refine p_addN (b := 1) rfl rfl (by omega) ?_
  have hx2 := (M.da 6 rfl).app (M.da 0 rfl)
  have em : (((spL l).take (i + 1)).map spL).map dTx = (((spL l).take i).map spL).map dTx ++ [dTx (spL x)] := by rw [take_map_snoc spL hx, List.map_append]; rfl
  rw [← em] at hx2
  replace M := M.addL hx2
  refine ⟨(i + 1, xs ++ news, A49, c49), ⟨by dsimp only; omega, fun y hy => ?_, M.fsub _ (by simp)⟩, (by repeat (first | exact trivial | refine ⟨rfl, ?_⟩)), by dsimp only; omega⟩
  rw [List.take_add_one, hx, List.mem_append] at hy
  rcases hy with hy | hy
  · exact ha y hy
  · have : y = x := by simpa using hy
    rw [this]; exact q2
set_option maxRecDepth 100000 in
set_option maxHeartbeats 4000000 in
theorem bouts_any (l : List UInt8) (gs : List (Option Nat)) (w : World) (A : Option Addr) (n c : Nat) (hr : RdD w (Fd w gs) (dB l) (.slice A n c)) (hgs : ∀ b, some b ∈ gs → b < w.heap.size) (hl : l.length ≤ 1000000) :
    Calls Tryd.prog 34 #[.slice A n c] w fun e w' => ∃ A' n' c', e = .returned (.tuple #[.slice A' n' c', .bool (outsP l).isSome]) ∧ RdD w' (Fd w' gs) (dOuts ((outsP l).getD [])) (.slice A' n' c') ∧ Below w.heap.size w w' := by
  refine calls_ev (args := [.slice A n c]) mixed Tryd.func34 rfl (by kernel_rfl) ?_
  obtain ⟨en, enc, hrd⟩ := hr.rd Fd.lt
  have M := (St.start hgs).addD hr
  clear hr
  refine cc is_vsplit (split_any _ _ _ l _ hrd (by omega) enc) ?_
  rintro e W ⟨A4, n4, c4, rfl, o4, hb⟩
  have h4 : RdD W (Fr w W) (dLs (spL l)) (.slice A4 n4 c4) := o4.rdLs fun b q1 q2 q3 => ⟨q1, q2, q3⟩
  have en4 : n4 = (spL l).length := h4.slen
  subst en4
  replace M := M.callF1 hb h4
  clear hb h4 o4 hrd
  refine ⟨_, rfl, ?_⟩
  refine p_ne rfl rfl (fun q => ?_) (fun q => ?_)
  rotate_left
  · have q : ¬ spE l = 0 := q
    have hno := outsP_none (l := l) (fun h => q h.1)
    rw [hno]
    exact ⟨none, 0, 0, rfl, RdD.nil_ none 0, M.below⟩
  have q : spE l = 0 := q
  have hcnt := sp_cnt l
  refine p_len sls rfl ?_
  refine lp (Nat × List Value × Option Addr × Nat) (fun s W => s.1 ≤ (spL l).length ∧ (∀ x ∈ (spL l).take s.1, (decO x).2 = 0) ∧ St w gs W [] [⟨55, 3, s.2.2.1, s.1, s.2.2.2, s.2.1⟩] [.dat false (((spL l).take s.1).flatMap fun x => dOut (decO x).1) s.2.1, .dat true [dLs (spL l)] [.slice A4 (spL l).length c4]])
    (fun s => [(6, .slice s.2.2.1 s.1 s.2.2.2), (18, .slice A4 (spL l).length c4), (19, .int .i64 ((spL l).length : Nat)), (20, .int .i64 s.1)]) (fun s => (spL l).length - s.1) (0, [], none, 0) ⟨Nat.zero_le _, (fun x h => by rw [List.take_zero] at h; cases h), ?_⟩ (by repeat (first | exact trivial | refine ⟨rfl, ?_⟩)) ?_
  · have M2 := (M.nilR 55 3).addL (ds := []) (cs := []) RdL.nil_
    exact M2.fsub _ (by simp)
  clear M
  rintro ⟨i, xs, A6, c6⟩ E W ⟨hi, ha, M⟩
  dsimp only at hi ha M
  refine p_lt rfl rfl (fun hlt => ?_) (fun hge => ?_)
  rotate_left
  · have hi : i = (spL l).length := by have h : ¬ (i : Int) < ((spL l).length : Int) := hge; omega
    subst hi
    rw [List.take_of_length_le (Nat.le_refl _)] at ha M
    have hso := outsP_some q ha
    replace M := M.frzR (fr := false) (M.dt 0 rfl)
    rw [hso]
    refine ⟨A6, _, c6, rfl, ?_, M.below⟩
    have h := M.fin1 0 rfl
    show RdD W (Fd W gs) (dOuts ((spL l).map fun x => (decO x).1)) _
    unfold dOuts
    rw [List.length_map, List.flatMap_map]
    exact h
  have hil : i < (spL l).length := by have h : (i : Int) < ((spL l).length : Int) := hlt; omega
  obtain ⟨x, hx⟩ : ∃ x, (spL l)[i]? = some x := ⟨_, List.getElem?_eq_getElem hil⟩
  have hxl := (sp_bound (List.mem_of_getElem? hx)).1
  obtain ⟨b1, o1, A8, c8, rfl, M'⟩ := M.lse (M.d1 1 rfl) hx
  replace M := M'; clear M'
  refine p_at (i := i) sls rfl rfl rfl hil ?_
  refine v_load agg_b rfl (M.lc 0 rfl 0 _ rfl) ?_
  refine cc is_xDec (xDec_any x _ _ _ _ _ (M.d1 1 rfl) M.olt (by omega)) ?_
  rintro e W ⟨A9, c9, rfl, h9, hb⟩
  replace M := M.callF hb h9
  clear hb h9
  refine ⟨_, rfl, ?_⟩
  obtain ⟨D, hD⟩ : ∃ D, D = decO x := ⟨_, rfl⟩
  rw [← hD] at M
  rw [← hD]
  refine s_alloc (zOut) M al_out ?_
  clear M
  rintro g9 W M
  refine s_storeA 0 (outcs D.1 A9 c9) M rfl sz_out rfl rfl rfl (all1 rfl) rfl ?_
  clear M; rintro W M
  dsimp only [setL] at M
  refine p_ne rfl rfl (fun q2 => ?_) (fun q2 => ?_)
  rotate_left
  · have q2 : ¬ D.2 = 0 := q2
    have hno := outsP_none (l := l) (fun h => q2 (by rw [hD]; exact h.2 x (List.mem_of_getElem? hx)))
    rw [hno]
    exact ⟨none, 0, 0, rfl, RdD.nil_ none 0, M.below⟩
  have q2 : D.2 = 0 := q2
  refine v_loadN (outcs D.1 A9 c9) agg_out rfl rfl (M.run 0 rfl) ?_
  refine s_bslice (fr := true) (ds := dOut D.1) (outcs D.1 A9 c9) M slos z_out rfl (by decide) rfl (M.dt 0 rfl) rfl ?_
  clear M; rintro gq W M
  obtain ⟨news, hrd, hnd⟩ := (M.d1 0 rfl).reads Fd.lt
  replace M := M.addL hnd
  refine s_app (z := .agg zOut.toArray) (news := news) M u_ost outinfo rfl (by decide) rfl rfl hrd (hnd.ones (fun d hd => by
    rcases List.mem_cons.1 hd with rfl | hd
    · rfl
    rcases List.mem_cons.1 hd with rfl | hd
    · rfl
    rcases List.mem_singleton.1 hd with rfl
    exact trivial)) ⟨by omega, by decide⟩ ?_
  clear M hrd hnd
  rintro A34 c34 W M -
  refine p_addN (b := 1) rfl rfl (by omega) ?_
  have hx2 := (M.da 5 rfl).app (M.da 0 rfl)
  have em : ((spL l).take (i + 1)).flatMap (fun x => dOut (decO x).1) = ((spL l).take i).flatMap (fun x => dOut (decO x).1) ++ dOut D.1 := by rw [List.take_add_one, hx, List.flatMap_append, hD]; simp
  rw [← em] at hx2
  replace M := M.addL hx2
  refine ⟨(i + 1, xs ++ news, A34, c34), ⟨by dsimp only; omega, fun y hy => ?_, M.dropL.fsub _ (by simp)⟩, (by repeat (first | exact trivial | refine ⟨rfl, ?_⟩)), by dsimp only; omega⟩
  rw [List.take_add_one, hx, List.mem_append] at hy
  rcases hy with hy | hy
  · exact ha y hy
  · have : y = x := by simpa using hy
    rw [this, ← hD]; exact q2
end Go.Proofs.YtejbljopighenaaDoor
namespace Go.Proofs.YtejbljopighenaaDoor
open Go.RowKit
/-- An array's length, its elements' type, their cells. -/
def arrOf (P : Program) (t : TypeId) : Option (Nat × TypeId × Nat) :=
  match P.underlying t with
  | some (.array n e) => (P.info? e).map fun i => (n, e, i.size)
  | _ => none
section
variable {P : Program} {E : Env} {d : Option Nat} {ty : TypeId} {p : String} {af : Array Edge} {g : Option (Nat × Bool)} {x y : Operand} {t : TypeId} {k : Value → Prop} {kd : IntKind}
theorem arrOf_spec {n : Nat} {e : TypeId} {s : Nat} (h : arrOf P t = some (n, e, s)) : P.underlying t = some (.array n e) ∧ ∃ i, P.info? e = some i ∧ i.size = s := by
  unfold arrOf at h
  split at h
  · rename_i n' e' hu
    obtain ⟨i, hi, he⟩ := Option.map_eq_some_iff.1 h
    simp only [Prod.mk.injEq] at he
    obtain ⟨rfl, rfl, he⟩ := he
    exact ⟨hu, i, hi, he⟩
  · cases h
theorem p_atA {ad : Addr} {n i : Nat} {e : TypeId} {s : Nat} {j : Int} (hT : arrOf P t = some (n, e, s)) (hx : val E x = .pointer (some ad)) (hy : val E y = .int kd j) (hj : j = (i : Int)) (hi : i < n)
    (h : k (.pointer (some (ad.add (i * s))))) : VPure P E { dst := d, op := .indexAddr t x y, type := ty, pos := p, after := af, guard := g } k :=
  pp (fun w => by
    obtain ⟨hu, info, hi1, hi2⟩ := arrOf_spec hT
    subst hj
    have h0 : 0 ≤ (i : Int) ∧ (i : Int) < (n : Int) := by omega
    simp [execOp, hx, hy, Instr.indexAt, Instr.sureAddr, run_underlying hu, asIntOf, hi, sizeOf, typeInfo, hi1, hi2]) h
/-- An element of one cell of an array's value. -/
theorem p_idxA {cs : List Value} {n i : Nat} {e : TypeId} {j : Int} {v : Value} (hT : arrOf P t = some (n, e, 1)) (ha : aggOf P e = some (false, 1)) (hx : val E x = .agg cs.toArray) (hy : val E y = .int kd j) (hj : j = (i : Int)) (hi : i < n) (hv : cs[i]? = some v)
    (h : k v) : VPure P E { dst := d, op := .index t x y, type := ty, pos := p, after := af, guard := g } k :=
  pp (fun w => by
    obtain ⟨hu, info, hi1, hi2⟩ := arrOf_spec hT
    subst hj
    have ag := (aggOf_run ha w).1
    simp [execOp, hx, hy, Instr.index, run_underlying hu, asIntOf, hi, sizeOf, typeInfo, hi1, hi2, part, ag, hv]) h
theorem p_buildA {parts : Array (Nat × Operand)} {n s : Nat} {e : TypeId} {zs vs : List Value} (hT : arrOf P t = some (n, e, s)) (hz : zeroOf P t = some zs) (hv : fillL (fun i => some (i * s, s)) zs (parts.toList.map fun x => (x.1, val E x.2)) = some vs) (h : k (.agg vs.toArray)) :
    VPure P E { dst := d, op := .build t parts, type := ty, pos := p, after := af, guard := g } k := by
  refine pp (fun w => ?_) h
  obtain ⟨hu, info, hi1, hi2⟩ := arrOf_spec hT
  obtain ⟨z, hzr, hzc⟩ := zero_run hz w
  have hf := fill_eq _ _ _ _ hv
  have e1 : (parts.map fun x => (x.1, val E x.2)).toList = parts.toList.map fun x => (x.1, val E x.2) := by simp
  rw [← hzc] at hf
  have e3 : z.cells = z.cells.toList.toArray := by simp
  have hs : (sizeOf e).run P w = .ok s w := by simp [sizeOf, typeInfo, hi1, hi2]
  simp only [execOp, Instr.build, Sem.run_bind, hzr, Result.andThen_ok, run_underlying hu, hs, e1]
  rw [e3, hf]
  simp
end
end Go.Proofs.YtejbljopighenaaDoor
namespace Go.Proofs.YtejbljopighenaaDoor
open Go.RowKit
/-- Turned to the right. -/
def rotr (x n : Nat) : Nat := ((x <<< (32 - n)) % 4294967296) ||| (x >>> n)
theorem rotr_lt {x : Nat} (n : Nat) (h : x < 4294967296) : rotr x n < 4294967296 := by
  unfold rotr
  have h1 : x >>> n < 2 ^ 32 := by
    rw [Nat.shiftRight_eq_div_pow]
    exact Nat.lt_of_le_of_lt (Nat.div_le_self _ _) h
  exact Nat.or_lt_two_pow (n := 32) (Nat.mod_lt _ (by decide)) h1
theorem d_int : (Tryd.prog.underlying 3).isSome = true := by kernel_rfl
theorem d_uint : Tryd.prog.underlying 46 = some (.int .u64) := by kernel_rfl
theorem is_rot : isFn Tryd.prog 84 = true := by kernel_rfl
theorem is_turn : isFn Tryd.prog 77 = true := by kernel_rfl
set_option maxRecDepth 100000 in
theorem rot_any (x n : Nat) (w : World) (hx : x < 4294967296) (h1 : 1 ≤ n) (h2 : n ≤ 31) :
    Calls Tryd.prog 84 #[.int .u32 x, .int .i64 (-(n : Int))] w fun e w' => e = .returned (.int .u32 (rotr x n : Nat)) ∧ w = w' := by
  refine calls_ev (args := [.int .u32 x, .int .i64 (-(n : Int))]) mixed Tryd.func84 rfl (by kernel_rfl) ?_
  have hb : bits .and .u64 ((18446744073709551616 - n : Nat) : Int) ((31 : Nat) : Int) = ((32 - n : Nat) : Int) := by
    rw [u64_and_nat _ _ (by omega) (by omega), show (31 : Nat) = 2 ^ 5 - 1 by rfl, Nat.and_two_pow_sub_one_eq_mod]
    congr 1
    omega
  have hs : IntKind.u32.wrap ((x : Int) * 2 ^ (min (((32 - n : Nat) : Int)).toNat 32)) = ((x <<< (32 - n)) % 4294967296 : Nat) := by
    rw [Int.toNat_natCast, Nat.min_eq_left (by omega), IntKind.wrap_u32', Nat.shiftLeft_eq, Int.natCast_emod, Int.natCast_mul, Int.natCast_pow]
    rfl
  have hr : (x : Int).fdiv (2 ^ (min ((n : Nat) : Int).toNat 32)) = ((x >>> n : Nat) : Int) := by
    rw [Int.toNat_natCast, Nat.min_eq_left (by omega), Nat.shiftRight_eq_div_pow, Int.fdiv_eq_ediv_of_nonneg _ (Int.le_of_lt (Int.pow_pos (by decide))), Int.natCast_ediv, Int.natCast_pow]
    rfl
  have ho : bits .or .u32 (((x <<< (32 - n)) % 4294967296 : Nat) : Int) ((x >>> n : Nat) : Int) = ((rotr x n : Nat) : Int) := by
    refine u32_or_nat _ _ (Nat.mod_lt _ (by decide)) ?_
    rw [Nat.shiftRight_eq_div_pow]
    exact Nat.lt_of_le_of_lt (Nat.div_le_self _ _) hx
  refine v_cvt d_int d_uint rfl (r := ((18446744073709551616 - n : Nat) : Int)) (by rw [IntKind.wrap_u64]; omega) ?_
  refine p_and rfl rfl hb ?_
  refine p_shl rfl rfl (by omega) hs ?_
  refine p_sub rfl rfl (r := ((n : Nat) : Int)) (by rw [IntKind.wrap_u64]; omega) ?_
  refine p_shr rfl rfl (by omega) hr ?_
  refine p_or rfl rfl ho ?_
  exact ⟨rfl, rfl⟩
set_option maxRecDepth 100000 in
theorem turn_any (x n : Nat) (w : World) (hx : x < 4294967296) (h1 : 1 ≤ n) (h2 : n ≤ 31) :
    Calls Tryd.prog 77 #[.int .u32 x, .int .i64 n] w fun e w' => e = .returned (.int .u32 (rotr x n : Nat)) ∧ w = w' := by
  refine calls_ev (args := [.int .u32 x, .int .i64 n]) mixed Tryd.func77 rfl (by kernel_rfl) ?_
  refine p_neg rfl (r := -(n : Int)) (w64 (by omega) |>.trans (by omega)) ?_
  refine cc is_rot (rot_any x n _ hx h1 h2) ?_
  rintro e w' ⟨rfl, rfl⟩
  exact ⟨_, rfl, rfl, rfl⟩
end Go.Proofs.YtejbljopighenaaDoor
namespace Go.Proofs.YtejbljopighenaaDoor
def byt (b : List UInt8) (k : Nat) : Nat := (b.getD k 0).toNat
theorem byt_lt (b : List UInt8) (k : Nat) : byt b k < 256 := (b.getD k 0).toNat_lt
/-- Four bytes, the highest first. -/
def wordB (b : List UInt8) (i : Nat) : Nat := (((byt b (4 * i) <<< 24) ||| (byt b (4 * i + 1) <<< 16)) ||| (byt b (4 * i + 2) <<< 8)) ||| byt b (4 * i + 3)
def sg0 (x : Nat) : Nat := (rotr x 7 ^^^ rotr x 18) ^^^ (x >>> 3)
def sg1 (x : Nat) : Nat := (rotr x 17 ^^^ rotr x 19) ^^^ (x >>> 10)
def nextW (w : List Nat) (i : Nat) : Nat := (((sg1 (w.getD (i - 2) 0) + w.getD (i - 7) 0) % 4294967296 + sg0 (w.getD (i - 15) 0)) % 4294967296 + w.getD (i - 16) 0) % 4294967296
/-- The first i of the words of 64 bytes. -/
def wsF (b : List UInt8) : Nat → List Nat
  | 0 => []
  | i + 1 => wsF b i ++ [if i < 16 then wordB b i else nextW (wsF b i) i]
theorem wsF_len (b : List UInt8) : ∀ i, (wsF b i).length = i
  | 0 => rfl
  | i + 1 => by unfold wsF; rw [List.length_append, wsF_len b i]; rfl
theorem shl_lt {x n : Nat} (h : x < 256) (hn : n ≤ 24) : x <<< n < 4294967296 := by
  rw [Nat.shiftLeft_eq]
  have : 2 ^ n ≤ 2 ^ 24 := Nat.pow_le_pow_right (by decide) hn
  have h2 : x * 2 ^ n ≤ 255 * 2 ^ 24 := Nat.mul_le_mul (by omega) this
  exact Nat.lt_of_le_of_lt h2 (by decide)
theorem or_lt {x y : Nat} (hx : x < 4294967296) (hy : y < 4294967296) : x ||| y < 4294967296 := Nat.or_lt_two_pow (n := 32) hx hy
theorem xor_lt {x y : Nat} (hx : x < 4294967296) (hy : y < 4294967296) : x ^^^ y < 4294967296 := Nat.xor_lt_two_pow (n := 32) hx hy
theorem and_lt {x y : Nat} (hx : x < 4294967296) : x &&& y < 4294967296 := Nat.lt_of_le_of_lt Nat.and_le_left hx
theorem shr_lt {x : Nat} (n : Nat) (hx : x < 4294967296) : x >>> n < 4294967296 := by
  rw [Nat.shiftRight_eq_div_pow]; exact Nat.lt_of_le_of_lt (Nat.div_le_self _ _) hx
theorem wordB_lt (b : List UInt8) (i : Nat) : wordB b i < 4294967296 :=
  or_lt (or_lt (or_lt (shl_lt (byt_lt _ _) (by decide)) (shl_lt (byt_lt _ _) (by decide))) (shl_lt (byt_lt _ _) (by decide))) (Nat.lt_trans (byt_lt _ _) (by decide))
theorem wsF_lt (b : List UInt8) : ∀ (i : Nat), ∀ x ∈ wsF b i, x < 4294967296
  | 0, x, h => by cases h
  | i + 1, x, h => by
    unfold wsF at h
    rcases List.mem_append.1 h with h | h
    · exact wsF_lt b i x h
    · simp only [List.mem_singleton] at h
      subst h
      split
      · exact wordB_lt b i
      · exact Nat.mod_lt _ (by decide)
theorem getD_lt {l : List Nat} (h : ∀ x ∈ l, x < 4294967296) (j : Nat) : l.getD j 0 < 4294967296 := by
  rw [List.getD_eq_getElem?_getD]
  cases hx : l[j]? with
  | none => decide
  | some x => exact h x (List.mem_of_getElem? hx)
def words (b : List UInt8) : List Nat := wsF b 64
/-- A cell of a word. -/
def cu (n : Nat) : Value := .int .u32 (n : Int)
theorem cu_set {L : List Nat} {i : Nat} (hL : L.length = i) (hi : i < 64) (v : Nat) : (L.map cu ++ List.replicate (64 - i) (cu 0)).set i (cu v) = (L ++ [v]).map cu ++ List.replicate (64 - (i + 1)) (cu 0) := by
  rw [List.set_append_right _ _ (by simp [hL]), List.length_map, hL, Nat.sub_self, show 64 - i = (64 - (i + 1)) + 1 by omega, List.replicate_succ, List.set_cons_zero, List.map_append, List.append_assoc]
  rfl
theorem cu_get {L : List Nat} {R : List Value} {j : Nat} (hj : j < L.length) : (L.map cu ++ R)[j]? = some (cu (L.getD j 0)) := by
  rw [List.getElem?_append_left (by simpa using hj), List.getElem?_map, List.getD_eq_getElem?_getD, List.getElem?_eq_getElem hj]; rfl
end Go.Proofs.YtejbljopighenaaDoor
namespace Go.Proofs.YtejbljopighenaaDoor
open Go.RowKit
section
variable {P : Program} {E : Env} {d : Option Nat} {ty : TypeId} {p : String} {af : Array Edge} {g : Option (Nat × Bool)} {x y : Operand} {t : TypeId} {k : Value → Prop} {kd : IntKind}
/-- The place of an element in a block. -/
theorem p_atB {b o q : Nat} {n i : Nat} {e : TypeId} {s : Nat} {j : Int} (hT : arrOf P t = some (n, e, s)) (hx : val E x = .pointer (some ⟨b, o, none⟩)) (hy : val E y = .int kd j) (hj : j = (i : Int)) (hi : i < n) (hq : o + i * s = q)
    (h : k (.pointer (some ⟨b, q, none⟩))) : VPure P E { dst := d, op := .indexAddr t x y, type := ty, pos := p, after := af, guard := g } k :=
  p_atA hT hx hy hj hi (by rw [Addr.add_lit, hq]; exact h)
end
theorem Rd.get {w : World} {B n : Nat} {ad : Addr} {l : List UInt8} (h : Rd w B (some ad) n l) {j : Nat} (hj : j < n) : w.cell? (ad.add (j * 1)) = some (.int .u8 (byt l j : Nat)) := by
  obtain ⟨b, off, e, hc⟩ := h.at_ hj
  injection e with e
  subst e
  rw [Nat.mul_one, Addr.add_lit]; exact hc
theorem agg_u32 : aggOf Tryd.prog 104 = some (false, 1) := by kernel_rfl
theorem agg_by : aggOf Tryd.prog 5 = some (false, 1) := by kernel_rfl
theorem sz_u32 : (Tryd.prog.info? 104).map (·.size) = some 1 := by kernel_rfl
theorem u_byt : (Tryd.prog.underlying 5).isSome = true := by kernel_rfl
theorem u_u32 : Tryd.prog.underlying 104 = some (.int .u32) := by kernel_rfl
theorem sl_by : slOf Tryd.prog 22 = some (5, 1) := by kernel_rfl
theorem shl32 {x n : Nat} (h : x < 256) (hn : n ≤ 24) : IntKind.u32.wrap ((x : Int) * 2 ^ (min ((n : Nat) : Int).toNat 32)) = ((x <<< n : Nat) : Int) := by
  have := shl_lt h hn
  rw [Nat.shiftLeft_eq] at this ⊢
  rw [Int.toNat_natCast, Nat.min_eq_left (by omega), IntKind.wrap_u32']
  have e : ((x * 2 ^ n : Nat) : Int) = (x : Int) * 2 ^ n := by rw [Int.natCast_mul, Int.natCast_pow]; rfl
  rw [← e]; omega
theorem add32 (x y : Nat) : IntKind.u32.wrap ((x : Int) + (y : Int)) = (((x + y) % 4294967296 : Nat) : Int) := by
  rw [IntKind.wrap_u32']; omega
theorem shr32 {x n : Nat} (hn : n ≤ 32) : (x : Int).fdiv (2 ^ (min ((n : Nat) : Int).toNat 32)) = ((x >>> n : Nat) : Int) := by
  rw [Int.toNat_natCast, Nat.min_eq_left (by omega), Nat.shiftRight_eq_div_pow, Int.fdiv_eq_ediv_of_nonneg _ (Int.le_of_lt (Int.pow_pos (by decide))), Int.natCast_ediv, Int.natCast_pow]
  rfl
end Go.Proofs.YtejbljopighenaaDoor
