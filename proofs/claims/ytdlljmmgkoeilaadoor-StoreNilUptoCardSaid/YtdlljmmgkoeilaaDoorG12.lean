/- The walk of trie.drop. -/
import Derived.Test.YtdlljmmgkoeilaaDoorG11
import Derived.Test.YtdlljmmgkoeilaaDoorG05
namespace Go.Proofs.YtdlljmmgkoeilaaDoor
open Go.RowKit
theorem is_tdrop : isFn Tryd.prog 50 = true := by kernel_rfl
/-- A way to a stub, or nil, as a datum. -/
def missD (way : List UInt8) : Option (List UInt8) → D
  | none => .v (.slice none 0 0)
  | some r => dB (way ++ r)
theorem missD_pre (way p : List UInt8) (m : Option (List UInt8)) : missD (way ++ p) m = missD way (m.map (p ++ ·)) := by
  cases m with
  | none => rfl
  | some r => show dB (way ++ p ++ r) = dB (way ++ (p ++ r)); rw [List.append_assoc]
theorem missOk.mk {W : World} {F : Nat → Prop} {way : List UInt8} {m : Option (List UInt8)} {A : Option Addr} {n c : Nat} (h : RdD W F (missD way m) (.slice A n c)) (h0 : m.isSome = true → A ≠ none) : missOk W F way m A n c := by
  cases m with
  | none => have := RdD.val.1 h; injection this with e1 e2 e3; exact ⟨e1, e2, e3⟩
  | some r => exact ⟨h0 rfl, h⟩
theorem missOk.un {W : World} {F : Nat → Prop} {way : List UInt8} {m : Option (List UInt8)} {A : Option Addr} {n c : Nat} (h : missOk W F way m A n c) : RdD W F (missD way m) (.slice A n c) ∧ (m.isSome = true → A ≠ none) := by
  cases m with
  | none => obtain ⟨rfl, rfl, rfl⟩ := h; exact ⟨RdD.ofv _, fun e => by cases e⟩
  | some r => exact ⟨h.2, fun _ => h.1⟩
theorem missD_none {W : World} {F : Nat → Prop} {way : List UInt8} {m : Option (List UInt8)} {A : Option Addr} {n c : Nat} (h : RdD W F (missD way m) (.slice A n c)) (hm : m = none) : A = none ∧ n = 0 ∧ c = 0 := by
  subst hm
  have := RdD.val.1 h
  injection this with e1 e2 e3
  exact ⟨e1, e2, e3⟩
theorem St.kid {w W : World} {gs : List (Option Nat)} {L : Lc} {R : List Row} {fs : List Fact} (M : St w gs W L R fs) {ks : List Nd} {A : Option Addr} {n c i : Nat} {k : Nd} (h : RdD W (Fd W (own L R gs)) (dKs ks) (.slice A n c)) (hk : ks[i]? = some k) :
    ∃ b off es, A = some ⟨b, off, none⟩ ∧ es.length = 6 ∧ St w gs W L R (.loc ((⟨b, off, none⟩ : Addr).add (i * 6)) es :: .dat false (dN k) es :: fs) := by
  obtain ⟨b, off, es, e, hF, hes, hel, hc⟩ := h.kid hk
  exact ⟨b, off, es, e, hel, (M.addL hes).addC (by rw [block_of_add]; exact hF) hc⟩
def schDrop : Sch := .take 0 (.take 1 (.take 2 (.take 3 (.take 4 (.take 5 (.take 6 (.take 7 (.take 8 (.take 9 (.take 10 (.take 11 (.two 12 (.two 13 (.two 14 (.take 15 (.take 16 (.take 17 (.one 18 .nil)))) 18 (.one 14 (.take 15 (.take 16 (.take 17 .nil))))) 18 (.one 13 (.one 14 (.take 15 (.take 16 (.take 17 .nil)))))) 18 (.one 12 (.one 13 (.one 14 (.take 15 (.take 16 (.take 17 .nil))))))))))))))))))
/-- What trie.drop answers of this node. -/
def DropOk (t : Nd) : Prop := ∀ (gs : List (Option Nat)) (w : World) (cs : List Value) (q way : List UInt8) (Aq : Option Addr) (nq cq : Nat) (Aw : Option Addr) (nw cw d : Nat) (even : Bool), RdL w (Fd w gs) (dN t) cs → RdD w (Fd w gs) (dB q) (.slice Aq nq cq) → RdD w (Fd w gs) (dB way) (.slice Aw nw cw) →
  (∀ b, some b ∈ gs → b < w.heap.size) → halvesB q = true → Val even t d → (getP t q).has = true → way.length + q.length ≤ 50000 →
  Calls Tryd.prog 50 #[.agg cs.toArray, .slice Aq nq cq, .slice Aw nw cw] w fun e w' => ∃ cs' Am nm cm, e = .returned (.tuple #[.agg cs'.toArray, .slice Am nm cm]) ∧ RdL w' (Fd w' gs) (dN (dropP t q).1) cs' ∧ missOk w' (Fr w w') way (dropP t q).2 Am nm cm ∧ Below w.heap.size w w'
set_option maxRecDepth 100000 in
set_option maxHeartbeats 1000000 in
theorem tdrop_step (N : Nat) (ih : ∀ k : Nd, sz k < N → DropOk k) (t : Nd) (ht : sz t ≤ N) (hN : N ≤ 500000) : DropOk t := by
  intro gs w cs q way Aq nq cq Aw nw cw d even hr hq hw hgs hhq hval hhas hlen
  refine calls_ev (args := [.agg cs.toArray, .slice Aq nq cq, .slice Aw nw cw]) mixed Tryd.func50 rfl (by kernel_rfl) ?_
  have hsd := sz_drop hval q hhq hhas
  obtain ⟨Ap, cp, Av, cv, Ak, ck, Ah, ch, rfl, r1, r3, r4, r5⟩ := hr.node
  have hsz := sz_eq t
  have hsl := szs_len t.kids
  have enq := hq.slen
  have enw := hw.slen
  have M := ((((((St.start hgs).addD r3).addD r4).addD r1).addD hw).addD hq).addL hr
  refine s_box (ncs t Ap cp Av cv Ak ck Ah ch) M rfl ?_
  clear M
  rintro g3 W M
  refine s_alloc (zN) M al_nd ?_
  clear M
  rintro g6 W M
  refine p_fld fN0 rfl ?_
  refine v_load agg_int rfl (by first | exact (M.B 0 rfl).at_ rfl | exact (M.B 1 rfl).at_ rfl | exact (M.B 2 rfl).at_ rfl | exact (M.B 3 rfl).at_ rfl | exact (M.B 4 rfl).at_ rfl | exact M.lc 0 rfl _ _ rfl | exact M.lc 1 rfl _ _ rfl | exact M.lc 2 rfl _ _ rfl | exact M.lc 3 rfl _ _ rfl | exact M.lc 4 rfl _ _ rfl | exact M.lc 5 rfl _ _ rfl | exact M.lc 6 rfl _ _ rfl | exact M.lc 7 rfl _ _ rfl) ?_
  cases hval with
  | stub d hsh hd hh => rw [getP_stub] at hhas; cases hhas
  | none d hd => rw [getP_none] at hhas; cases hhas
  | leaf d p v hd hp hv' he =>
    rw [dropP_leaf]
    refine p_eq rfl rfl (fun _ => ?_) (fun h => absurd rfl h)
    refine p_build (vs := zN) pl_nd z_nd rfl ?_
    first | refine s_storeA 0 (zN) M rfl (by kernel_rfl) rfl rfl rfl (all1 rfl) rfl ?_ | refine s_storeA 1 (zN) M rfl (by kernel_rfl) rfl rfl rfl (all1 rfl) rfl ?_ | refine s_storeA 2 (zN) M rfl (by kernel_rfl) rfl rfl rfl (all1 rfl) rfl ?_ | refine s_storeA 3 (zN) M rfl (by kernel_rfl) rfl rfl rfl (all1 rfl) rfl ?_
    clear M
    rintro W M
    dsimp only [setL] at M
    refine c_loadN (zN) agg_nd rfl rfl (by first | exact M.run 0 rfl | exact M.run 1 rfl | exact M.run 2 rfl | exact M.run 3 rfl | exact M.run 4 rfl | exact M.lc 0 rfl | exact M.lc 1 rfl | exact M.lc 2 rfl | exact M.lc 3 rfl | exact M.lc 4 rfl | exact M.lc 5 rfl | exact M.lc 6 rfl | exact M.lc 7 rfl) ?_
    exact ⟨zN, none, 0, 0, rfl, RdL.znone, ⟨rfl, rfl, rfl⟩, M.below⟩
  | way d p k hd hp h0 hk hrk =>
    refine p_eq rfl rfl (fun h => absurd (show (2 : Int) = 1 from h) (by decide)) (fun _ => ?_)
    refine p_eq rfl rfl (fun _ => ?_) (fun h => absurd rfl h)
    simp only [Nd.path, Nd.val, Nd.hash, Nd.kids] at hsz M
    have hkz : sz k < N := by have : szs [k] = sz k := by rw [szs, szs]; omega
                              omega
    have hpre : p <+: q := by
      rcases Classical.em (p <+: q) with h | h
      · exact h
      · rw [getP_way0 h] at hhas; cases hhas
    rw [getP_way hpre] at hhas
    have hpl := hpre.length_le
    have hcq := (M.d1 1 rfl).scap
    rw [dropP_way]
    replace M := M.drew
    obtain ⟨b, off, es, rfl, hel, M'⟩ := M.kid (i := 0) (k := k) (ks := [k]) (by first | with_reducible exact M.d1_0 | with_reducible exact M.d1_1 | with_reducible exact M.d1_2 | with_reducible exact M.d1_3 | with_reducible exact M.d1_4 | with_reducible exact M.d1_5 | with_reducible exact M.d1_6 | with_reducible exact M.d1_7 | with_reducible exact M.d1_8 | with_reducible exact M.d1_9 | with_reducible exact M.d1_10 | with_reducible exact M.d1_11) rfl
    replace M := M'; clear M'
    have hcut := (M.d1 3 rfl).cutB (i := p.length) (j := nq) (m := cq) (by omega) (Nat.le_refl _) (by omega)
    rw [List.take_of_length_le (by rw [List.length_drop]; omega)] at hcut
    replace M := M.addD hcut
    clear hcut r1 r3 r4 r5 hr hq hw
    refine drT (Kp w gs [(g3, 28, ncs (.mk 2 p false [] [k] []) Ap cp Av cv (some ⟨b, off, none⟩) ck Ah ch)] [.loc ((⟨b, off, none⟩ : Addr).add (0 * 6)) es]) (Sch.graft schDrop (.one 19 (.take 20 .nil))) (by kernel_rfl) (M.kp (by simp) (by simp)) ?_
    refine cutT (List Value × Option Addr × Nat × Nat × Nat) (fun s W => St w gs W [(s.2.2.2.2, 28, zN), (g6, 28, zN), (g3, 28, ncs (.mk 2 p false [] [k] []) Ap cp Av cv (some ⟨b, off, none⟩) ck Ah ch)] []
        [.dat false (dN (dropP k (q.drop p.length)).1) s.1, .dat true [missD way ((dropP k (q.drop p.length)).2.map (p ++ ·))] [.slice s.2.1 s.2.2.1 s.2.2.2.1], .dat false [dB p] [.slice Ap p.length cp], .loc ((⟨b, off, none⟩ : Addr).add (0 * 6)) es] ∧ (((dropP k (q.drop p.length)).2.map (p ++ ·)).isSome = true → s.2.1 ≠ none))
      (fun s => [(3, .pointer (some ⟨g3, 0, none⟩)), (6, .pointer (some ⟨g6, 0, none⟩)), (8, .pointer (some ⟨s.2.2.2.2, 0, none⟩)), (35, .agg s.1.toArray), (36, .slice s.2.1 s.2.2.1 s.2.2.2.1)]) ?_ ?_
    · refine p_fld fN4 rfl ?_
      refine t_load agg_ns rfl (fun W K => by first | exact (K.B 0 rfl).at_ rfl | exact (K.B 1 rfl).at_ rfl | exact (K.B 2 rfl).at_ rfl | exact (K.B 3 rfl).at_ rfl | exact K.lc 0 rfl _ _ rfl | exact K.lc 1 rfl _ _ rfl | exact K.lc 2 rfl _ _ rfl | exact K.lc 3 rfl _ _ rfl) ?_
      refine p_at (i := 0) sln rfl rfl rfl (by show 0 < 1; decide) ?_
      refine t_loadN es agg_nd rfl hel (fun W K => by first | exact K.run 0 rfl | exact K.run 1 rfl | exact K.run 2 rfl | exact K.run 3 rfl | exact K.lc 0 rfl | exact K.lc 1 rfl | exact K.lc 2 rfl | exact K.lc 3 rfl) ?_
      refine p_fld fN1 rfl ?_
      refine t_load agg_b rfl (fun W K => by first | exact (K.B 0 rfl).at_ rfl | exact (K.B 1 rfl).at_ rfl | exact (K.B 2 rfl).at_ rfl | exact (K.B 3 rfl).at_ rfl | exact K.lc 0 rfl _ _ rfl | exact K.lc 1 rfl _ _ rfl | exact K.lc 2 rfl _ _ rfl | exact K.lc 3 rfl _ _ rfl) ?_
      refine p_len slb rfl ?_
      refine p_slice (i := p.length) (j := nq) (m := cq) slb rfl (bnd_i rfl) rfl rfl rfl (by show p.length ≤ nq; omega) (by omega) (Nat.le_refl _) ?_
      refine p_fld fN1 rfl ?_
      refine t_load agg_b rfl (fun W K => by first | exact (K.B 0 rfl).at_ rfl | exact (K.B 1 rfl).at_ rfl | exact (K.B 2 rfl).at_ rfl | exact (K.B 3 rfl).at_ rfl | exact K.lc 0 rfl _ _ rfl | exact K.lc 1 rfl _ _ rfl | exact K.lc 2 rfl _ _ rfl | exact K.lc 3 rfl _ _ rfl) ?_
      have hhq' : halvesB (q.drop p.length) = true := halvesB_drop hhq
      have hrk' := hrk
      have hhas' := hhas
      have hlen' : (way ++ p).length + (q.drop p.length).length ≤ 50000 := by rw [List.length_append, List.length_drop]; omega
      refine ⟨?_, ?_⟩
      ·
        refine s_bslice (fr := false) (ds := [dB way, dB p]) [.slice Aw nw cw, .slice Ap p.length cp] M sl_ls' zls2 rfl (by decide) rfl (RdL.cons (by first | with_reducible exact M.w1_0 | with_reducible exact M.w1_1 | with_reducible exact M.w1_2 | with_reducible exact M.w1_3 | with_reducible exact M.w1_4 | with_reducible exact M.w1_5 | with_reducible exact M.w1_6 | with_reducible exact M.w1_7 | with_reducible exact M.w1_8 | with_reducible exact M.w1_9 | with_reducible exact M.w1_10 | with_reducible exact M.w1_11) (by first | with_reducible exact M.dw_0 | with_reducible exact M.dw_1 | with_reducible exact M.dw_2 | with_reducible exact M.dw_3 | with_reducible exact M.dw_4 | with_reducible exact M.dw_5 | with_reducible exact M.dw_6 | with_reducible exact M.dw_7 | with_reducible exact M.dw_8 | with_reducible exact M.dw_9 | with_reducible exact M.dw_10 | with_reducible exact M.dw_11)) rfl ?_
        clear M; rintro g2 W M
        refine ⟨(M.kp (by simp) (by simp)), ?_⟩
        refine ⟨?_, ?_⟩
        ·
          have hfl : [way, p].flatten = way ++ p := by simp
          have hcall := concat_any _ (some ⟨g2, 0, none⟩) 2 2 [way, p] _ M.olt (M.d1 0 rfl) (by rw [hfl, List.length_append]; simp only [List.length_cons, List.length_nil] at *; omega) (by decide)
          rw [hfl] at hcall
          refine cc is_concat hcall ?_
          clear hcall
          rintro e W ⟨A3, c3, rfl, o3, hb⟩
          replace M := M.callO hb o3
          clear hb o3
          refine ⟨_, rfl, (M.kp (by simp) (by simp)), ?_⟩
          refine ⟨?_, ?_⟩
          ·
            refine cc is_tdrop (ih k hkz _ _ es (q.drop p.length) (way ++ p) _ _ _ A3 _ c3 (d+p.length) even (by first | with_reducible exact M.da_0 | with_reducible exact M.da_1 | with_reducible exact M.da_2 | with_reducible exact M.da_3 | with_reducible exact M.da_4 | with_reducible exact M.da_5 | with_reducible exact M.da_6 | with_reducible exact M.da_7 | with_reducible exact M.da_8 | with_reducible exact M.da_9 | with_reducible exact M.da_10 | with_reducible exact M.da_11) (by first | with_reducible exact M.d1_0 | with_reducible exact M.d1_1 | with_reducible exact M.d1_2 | with_reducible exact M.d1_3 | with_reducible exact M.d1_4 | with_reducible exact M.d1_5 | with_reducible exact M.d1_6 | with_reducible exact M.d1_7 | with_reducible exact M.d1_8 | with_reducible exact M.d1_9 | with_reducible exact M.d1_10 | with_reducible exact M.d1_11) (by first | with_reducible exact M.d1_0 | with_reducible exact M.d1_1 | with_reducible exact M.d1_2 | with_reducible exact M.d1_3 | with_reducible exact M.d1_4 | with_reducible exact M.d1_5 | with_reducible exact M.d1_6 | with_reducible exact M.d1_7 | with_reducible exact M.d1_8 | with_reducible exact M.d1_9 | with_reducible exact M.d1_10 | with_reducible exact M.d1_11) M.olt hhq' hrk' hhas' hlen') ?_
            rintro e W ⟨cs5, Am, nm, cm, rfl, hres, hm5, hb⟩
            obtain ⟨hm5, hAm⟩ := hm5.un
            rw [missD_pre] at hm5
            replace M := (M.callF1 hb hm5).addL hres
            clear hb hm5 hres
            refine ⟨_, rfl, (M.kp (by simp) (by simp)), ?_⟩
            refine s_alloc (zN) M al_nd ?_
            clear M
            rintro gn W M
            refine ⟨(M.kp (by simp) (by simp)), ?_⟩
            refine ⟨(cs5, Am, nm, cm, gn), ⟨M.fsub _ (by simp), fun e => hAm (by simpa using e)⟩, (by repeat (first | exact trivial | refine ⟨rfl, ?_⟩))⟩
          ·
            refine s_alloc (zN) M al_nd ?_
            clear M
            rintro gn W M
            refine ⟨(M.kp (by simp) (by simp)), ?_⟩
            refine cc is_tdrop (ih k hkz _ _ es (q.drop p.length) (way ++ p) _ _ _ A3 _ c3 (d+p.length) even (by first | with_reducible exact M.da_0 | with_reducible exact M.da_1 | with_reducible exact M.da_2 | with_reducible exact M.da_3 | with_reducible exact M.da_4 | with_reducible exact M.da_5 | with_reducible exact M.da_6 | with_reducible exact M.da_7 | with_reducible exact M.da_8 | with_reducible exact M.da_9 | with_reducible exact M.da_10 | with_reducible exact M.da_11) (by first | with_reducible exact M.d1_0 | with_reducible exact M.d1_1 | with_reducible exact M.d1_2 | with_reducible exact M.d1_3 | with_reducible exact M.d1_4 | with_reducible exact M.d1_5 | with_reducible exact M.d1_6 | with_reducible exact M.d1_7 | with_reducible exact M.d1_8 | with_reducible exact M.d1_9 | with_reducible exact M.d1_10 | with_reducible exact M.d1_11) (by first | with_reducible exact M.d1_0 | with_reducible exact M.d1_1 | with_reducible exact M.d1_2 | with_reducible exact M.d1_3 | with_reducible exact M.d1_4 | with_reducible exact M.d1_5 | with_reducible exact M.d1_6 | with_reducible exact M.d1_7 | with_reducible exact M.d1_8 | with_reducible exact M.d1_9 | with_reducible exact M.d1_10 | with_reducible exact M.d1_11) M.olt hhq' hrk' hhas' hlen') ?_
            rintro e W ⟨cs5, Am, nm, cm, rfl, hres, hm5, hb⟩
            obtain ⟨hm5, hAm⟩ := hm5.un
            rw [missD_pre] at hm5
            replace M := (M.callF1 hb hm5).addL hres
            clear hb hm5 hres
            refine ⟨_, rfl, (M.kp (by simp) (by simp)), ?_⟩
            refine ⟨(cs5, Am, nm, cm, gn), ⟨M.fsub _ (by simp), fun e => hAm (by simpa using e)⟩, (by repeat (first | exact trivial | refine ⟨rfl, ?_⟩))⟩
        ·
          refine s_alloc (zN) M al_nd ?_
          clear M
          rintro gn W M
          refine ⟨(M.kp (by simp) (by simp)), ?_⟩
          have hfl : [way, p].flatten = way ++ p := by simp
          have hcall := concat_any _ (some ⟨g2, 0, none⟩) 2 2 [way, p] _ M.olt (M.d1 0 rfl) (by rw [hfl, List.length_append]; simp only [List.length_cons, List.length_nil] at *; omega) (by decide)
          rw [hfl] at hcall
          refine cc is_concat hcall ?_
          clear hcall
          rintro e W ⟨A3, c3, rfl, o3, hb⟩
          replace M := M.callO hb o3
          clear hb o3
          refine ⟨_, rfl, (M.kp (by simp) (by simp)), ?_⟩
          refine cc is_tdrop (ih k hkz _ _ es (q.drop p.length) (way ++ p) _ _ _ A3 _ c3 (d+p.length) even (by first | with_reducible exact M.da_0 | with_reducible exact M.da_1 | with_reducible exact M.da_2 | with_reducible exact M.da_3 | with_reducible exact M.da_4 | with_reducible exact M.da_5 | with_reducible exact M.da_6 | with_reducible exact M.da_7 | with_reducible exact M.da_8 | with_reducible exact M.da_9 | with_reducible exact M.da_10 | with_reducible exact M.da_11) (by first | with_reducible exact M.d1_0 | with_reducible exact M.d1_1 | with_reducible exact M.d1_2 | with_reducible exact M.d1_3 | with_reducible exact M.d1_4 | with_reducible exact M.d1_5 | with_reducible exact M.d1_6 | with_reducible exact M.d1_7 | with_reducible exact M.d1_8 | with_reducible exact M.d1_9 | with_reducible exact M.d1_10 | with_reducible exact M.d1_11) (by first | with_reducible exact M.d1_0 | with_reducible exact M.d1_1 | with_reducible exact M.d1_2 | with_reducible exact M.d1_3 | with_reducible exact M.d1_4 | with_reducible exact M.d1_5 | with_reducible exact M.d1_6 | with_reducible exact M.d1_7 | with_reducible exact M.d1_8 | with_reducible exact M.d1_9 | with_reducible exact M.d1_10 | with_reducible exact M.d1_11) M.olt hhq' hrk' hhas' hlen') ?_
          rintro e W ⟨cs5, Am, nm, cm, rfl, hres, hm5, hb⟩
          obtain ⟨hm5, hAm⟩ := hm5.un
          rw [missD_pre] at hm5
          replace M := (M.callF1 hb hm5).addL hres
          clear hb hm5 hres
          refine ⟨_, rfl, (M.kp (by simp) (by simp)), ?_⟩
          refine ⟨(cs5, Am, nm, cm, gn), ⟨M.fsub _ (by simp), fun e => hAm (by simpa using e)⟩, (by repeat (first | exact trivial | refine ⟨rfl, ?_⟩))⟩
      ·
        refine s_alloc (zN) M al_nd ?_
        clear M
        rintro gn W M
        refine ⟨(M.kp (by simp) (by simp)), ?_⟩
        refine s_bslice (fr := false) (ds := [dB way, dB p]) [.slice Aw nw cw, .slice Ap p.length cp] M sl_ls' zls2 rfl (by decide) rfl (RdL.cons (by first | with_reducible exact M.w1_0 | with_reducible exact M.w1_1 | with_reducible exact M.w1_2 | with_reducible exact M.w1_3 | with_reducible exact M.w1_4 | with_reducible exact M.w1_5 | with_reducible exact M.w1_6 | with_reducible exact M.w1_7 | with_reducible exact M.w1_8 | with_reducible exact M.w1_9 | with_reducible exact M.w1_10 | with_reducible exact M.w1_11) (by first | with_reducible exact M.dw_0 | with_reducible exact M.dw_1 | with_reducible exact M.dw_2 | with_reducible exact M.dw_3 | with_reducible exact M.dw_4 | with_reducible exact M.dw_5 | with_reducible exact M.dw_6 | with_reducible exact M.dw_7 | with_reducible exact M.dw_8 | with_reducible exact M.dw_9 | with_reducible exact M.dw_10 | with_reducible exact M.dw_11)) rfl ?_
        clear M; rintro g2 W M
        refine ⟨(M.kp (by simp) (by simp)), ?_⟩
        have hfl : [way, p].flatten = way ++ p := by simp
        have hcall := concat_any _ (some ⟨g2, 0, none⟩) 2 2 [way, p] _ M.olt (M.d1 0 rfl) (by rw [hfl, List.length_append]; simp only [List.length_cons, List.length_nil] at *; omega) (by decide)
        rw [hfl] at hcall
        refine cc is_concat hcall ?_
        clear hcall
        rintro e W ⟨A3, c3, rfl, o3, hb⟩
        replace M := M.callO hb o3
        clear hb o3
        refine ⟨_, rfl, (M.kp (by simp) (by simp)), ?_⟩
        refine cc is_tdrop (ih k hkz _ _ es (q.drop p.length) (way ++ p) _ _ _ A3 _ c3 (d+p.length) even (by first | with_reducible exact M.da_0 | with_reducible exact M.da_1 | with_reducible exact M.da_2 | with_reducible exact M.da_3 | with_reducible exact M.da_4 | with_reducible exact M.da_5 | with_reducible exact M.da_6 | with_reducible exact M.da_7 | with_reducible exact M.da_8 | with_reducible exact M.da_9 | with_reducible exact M.da_10 | with_reducible exact M.da_11) (by first | with_reducible exact M.d1_0 | with_reducible exact M.d1_1 | with_reducible exact M.d1_2 | with_reducible exact M.d1_3 | with_reducible exact M.d1_4 | with_reducible exact M.d1_5 | with_reducible exact M.d1_6 | with_reducible exact M.d1_7 | with_reducible exact M.d1_8 | with_reducible exact M.d1_9 | with_reducible exact M.d1_10 | with_reducible exact M.d1_11) (by first | with_reducible exact M.d1_0 | with_reducible exact M.d1_1 | with_reducible exact M.d1_2 | with_reducible exact M.d1_3 | with_reducible exact M.d1_4 | with_reducible exact M.d1_5 | with_reducible exact M.d1_6 | with_reducible exact M.d1_7 | with_reducible exact M.d1_8 | with_reducible exact M.d1_9 | with_reducible exact M.d1_10 | with_reducible exact M.d1_11) M.olt hhq' hrk' hhas' hlen') ?_
        rintro e W ⟨cs5, Am, nm, cm, rfl, hres, hm5, hb⟩
        obtain ⟨hm5, hAm⟩ := hm5.un
        rw [missD_pre] at hm5
        replace M := (M.callF1 hb hm5).addL hres
        clear hb hm5 hres
        refine ⟨_, rfl, (M.kp (by simp) (by simp)), ?_⟩
        refine ⟨(cs5, Am, nm, cm, gn), ⟨M.fsub _ (by simp), fun e => hAm (by simpa using e)⟩, (by repeat (first | exact trivial | refine ⟨rfl, ?_⟩))⟩
    · clear M
      rintro ⟨cs5, Am, nm, cm, gn⟩ B5 W5 ⟨M, hAm⟩
      dsimp only at M hAm
      obtain ⟨Ap5, cp5, Av5, cv5, Ak5, ck5, Ah5, ch5, rfl, -⟩ := (M.da 0 rfl).node
      first | refine s_storeA 0 (ncs (dropP k (q.drop p.length)).1 Ap5 cp5 Av5 cv5 Ak5 ck5 Ah5 ch5) M rfl (by kernel_rfl) rfl rfl rfl (all1 rfl) rfl ?_ | refine s_storeA 1 (ncs (dropP k (q.drop p.length)).1 Ap5 cp5 Av5 cv5 Ak5 ck5 Ah5 ch5) M rfl (by kernel_rfl) rfl rfl rfl (all1 rfl) rfl ?_ | refine s_storeA 2 (ncs (dropP k (q.drop p.length)).1 Ap5 cp5 Av5 cv5 Ak5 ck5 Ah5 ch5) M rfl (by kernel_rfl) rfl rfl rfl (all1 rfl) rfl ?_ | refine s_storeA 3 (ncs (dropP k (q.drop p.length)).1 Ap5 cp5 Av5 cv5 Ak5 ck5 Ah5 ch5) M rfl (by kernel_rfl) rfl rfl rfl (all1 rfl) rfl ?_
      clear M
      rintro W M
      dsimp only [setL] at M
      refine ⟨(M.kp (by simp) (by simp)), ?_⟩
      refine p_fld fN1 rfl ?_
      refine v_load agg_b rfl (by first | exact (M.B 0 rfl).at_ rfl | exact (M.B 1 rfl).at_ rfl | exact (M.B 2 rfl).at_ rfl | exact (M.B 3 rfl).at_ rfl | exact (M.B 4 rfl).at_ rfl | exact M.lc 0 rfl _ _ rfl | exact M.lc 1 rfl _ _ rfl | exact M.lc 2 rfl _ _ rfl | exact M.lc 3 rfl _ _ rfl | exact M.lc 4 rfl _ _ rfl | exact M.lc 5 rfl _ _ rfl | exact M.lc 6 rfl _ _ rfl | exact M.lc 7 rfl _ _ rfl) ?_
      refine v_loadN (ncs (dropP k (q.drop p.length)).1 Ap5 cp5 Av5 cv5 Ak5 ck5 Ah5 ch5) agg_nd rfl rfl (by first | exact M.run 0 rfl | exact M.run 1 rfl | exact M.run 2 rfl | exact M.run 3 rfl | exact M.run 4 rfl | exact M.lc 0 rfl | exact M.lc 1 rfl | exact M.lc 2 rfl | exact M.lc 3 rfl | exact M.lc 4 rfl | exact M.lc 5 rfl | exact M.lc 6 rfl | exact M.lc 7 rfl) ?_
      have hdz := sz_drop hrk (q.drop p.length) (halvesB_drop hhq) hhas
      have hdp := sz_eq (dropP k (q.drop p.length)).1
      refine cc is_behind (behind_any p _ _ _ Ap p.length cp _ (by first | with_reducible exact M.d1_0 | with_reducible exact M.d1_1 | with_reducible exact M.d1_2 | with_reducible exact M.d1_3 | with_reducible exact M.d1_4 | with_reducible exact M.d1_5 | with_reducible exact M.d1_6 | with_reducible exact M.d1_7 | with_reducible exact M.d1_8 | with_reducible exact M.d1_9 | with_reducible exact M.d1_10 | with_reducible exact M.d1_11) (by first | with_reducible exact M.da_0 | with_reducible exact M.da_1 | with_reducible exact M.da_2 | with_reducible exact M.da_3 | with_reducible exact M.da_4 | with_reducible exact M.da_5 | with_reducible exact M.da_6 | with_reducible exact M.da_7 | with_reducible exact M.da_8 | with_reducible exact M.da_9 | with_reducible exact M.da_10 | with_reducible exact M.da_11) M.olt (by omega)) ?_
      rintro e W7 ⟨cs7, rfl, h7, hb⟩
      refine ⟨_, rfl, ?_⟩
      replace M := M.callD hb h7
      have hl7 := h7.len
      rw [dN_len] at hl7
      refine s_storeA 1 cs7 M rfl sz_nd rfl rfl hl7 (h7.ones (dN_one _)) rfl ?_
      clear M; rintro W M
      dsimp only [setL] at M
      refine c_loadN cs7 agg_nd rfl hl7 (M.run 1 rfl) ?_
      exact ⟨_, Am, nm, cm, rfl, (by first | with_reducible exact M.fin_0 | with_reducible exact M.fin_1 | with_reducible exact M.fin_2 | with_reducible exact M.fin_3 | with_reducible exact M.fin_4 | with_reducible exact M.fin_5 | with_reducible exact M.fin_6 | with_reducible exact M.fin_7 | with_reducible exact M.fin_8 | with_reducible exact M.fin_9 | with_reducible exact M.fin_10 | with_reducible exact M.fin_11), missOk.mk (by first | with_reducible exact M.finF1_0 | with_reducible exact M.finF1_1 | with_reducible exact M.finF1_2 | with_reducible exact M.finF1_3 | with_reducible exact M.finF1_4 | with_reducible exact M.finF1_5 | with_reducible exact M.finF1_6 | with_reducible exact M.finF1_7 | with_reducible exact M.finF1_8 | with_reducible exact M.finF1_9 | with_reducible exact M.finF1_10 | with_reducible exact M.finF1_11) hAm, M.below⟩
  | branch d has v ks hd hv' hv0 he h16 hrk hm =>
    refine p_eq rfl rfl (fun h => absurd (show (3 : Int) = 1 from h) (by decide)) (fun _ => ?_)
    refine p_eq rfl rfl (fun h => absurd (show (3 : Int) = 2 from h) (by decide)) (fun _ => ?_)
    simp only [Nd.path, Nd.val, Nd.hash, Nd.kids] at hsz hsl M
    refine p_fld fN4 rfl ?_
    refine v_load agg_ns rfl (by first | exact (M.B 0 rfl).at_ rfl | exact (M.B 1 rfl).at_ rfl | exact (M.B 2 rfl).at_ rfl | exact (M.B 3 rfl).at_ rfl | exact (M.B 4 rfl).at_ rfl | exact M.lc 0 rfl _ _ rfl | exact M.lc 1 rfl _ _ rfl | exact M.lc 2 rfl _ _ rfl | exact M.lc 3 rfl _ _ rfl | exact M.lc 4 rfl _ _ rfl | exact M.lc 5 rfl _ _ rfl | exact M.lc 6 rfl _ _ rfl | exact M.lc 7 rfl _ _ rfl) ?_
    refine cc is_kclone (kclone_any _ Ak ks.length ck ks _ (by first | with_reducible exact M.d1_0 | with_reducible exact M.d1_1 | with_reducible exact M.d1_2 | with_reducible exact M.d1_3 | with_reducible exact M.d1_4 | with_reducible exact M.d1_5 | with_reducible exact M.d1_6 | with_reducible exact M.d1_7 | with_reducible exact M.d1_8 | with_reducible exact M.d1_9 | with_reducible exact M.d1_10 | with_reducible exact M.d1_11) M.olt (by omega) (by omega)) ?_
    rintro e W3 ⟨gk, ck', xs, rest, rfl, hgk, hck, hK, hX, hb⟩
    refine ⟨_, rfl, ?_⟩
    replace M := (M.callB hb hgk hK).addL (ds := dNs ks) (cs := xs) hX
    have hxl := hX.len
    rw [dNs_len, h16] at hxl
    clear hr hq hw r1 r3 r4 r5 hb hgk hK hX
    refine p_fld fN4 rfl ?_
    first | refine s_set 0 (.slice (some ⟨gk, 0, none⟩) ks.length ck') (ncs (.mk 3 [] has v ks []) Ap cp Av cv (some ⟨gk, 0, none⟩) ck' Ah ch) M rfl (by kernel_rfl) rfl rfl rfl (Nat.le_of_ble_eq_true rfl) rfl ?_ | refine s_set 1 (.slice (some ⟨gk, 0, none⟩) ks.length ck') (ncs (.mk 3 [] has v ks []) Ap cp Av cv (some ⟨gk, 0, none⟩) ck' Ah ch) M rfl (by kernel_rfl) rfl rfl rfl (Nat.le_of_ble_eq_true rfl) rfl ?_ | refine s_set 2 (.slice (some ⟨gk, 0, none⟩) ks.length ck') (ncs (.mk 3 [] has v ks []) Ap cp Av cv (some ⟨gk, 0, none⟩) ck' Ah ch) M rfl (by kernel_rfl) rfl rfl rfl (Nat.le_of_ble_eq_true rfl) rfl ?_ | refine s_set 3 (.slice (some ⟨gk, 0, none⟩) ks.length ck') (ncs (.mk 3 [] has v ks []) Ap cp Av cv (some ⟨gk, 0, none⟩) ck' Ah ch) M rfl (by kernel_rfl) rfl rfl rfl (Nat.le_of_ble_eq_true rfl) rfl ?_
    clear M
    rintro W M
    dsimp only [setL] at M
    refine p_len slb rfl ?_
    match q, hhq, hlen, enq, hhas, hsd, M with
    | [], hhq, hlen, enq, hhas, hsd, M =>
      rw [dropP_br0]
      subst enq
      refine p_eq rfl rfl (fun _ => ?_) (fun h => absurd rfl h)
      refine p_fld fN2 rfl ?_
      first | refine s_set 0 (.bool false) (ncs (.mk 3 [] false v ks []) Ap cp Av cv (some ⟨gk, 0, none⟩) ck' Ah ch) M rfl (by kernel_rfl) rfl rfl rfl (Nat.le_of_ble_eq_true rfl) rfl ?_ | refine s_set 1 (.bool false) (ncs (.mk 3 [] false v ks []) Ap cp Av cv (some ⟨gk, 0, none⟩) ck' Ah ch) M rfl (by kernel_rfl) rfl rfl rfl (Nat.le_of_ble_eq_true rfl) rfl ?_ | refine s_set 2 (.bool false) (ncs (.mk 3 [] false v ks []) Ap cp Av cv (some ⟨gk, 0, none⟩) ck' Ah ch) M rfl (by kernel_rfl) rfl rfl rfl (Nat.le_of_ble_eq_true rfl) rfl ?_ | refine s_set 3 (.bool false) (ncs (.mk 3 [] false v ks []) Ap cp Av cv (some ⟨gk, 0, none⟩) ck' Ah ch) M rfl (by kernel_rfl) rfl rfl rfl (Nat.le_of_ble_eq_true rfl) rfl ?_
      clear M
      rintro W M
      dsimp only [setL] at M
      refine p_fld fN3 rfl ?_
      first | refine s_set 0 (.slice none 0 0) (ncs (.mk 3 [] false [] ks []) Ap cp none 0 (some ⟨gk, 0, none⟩) ck' Ah ch) M rfl (by kernel_rfl) rfl rfl rfl (Nat.le_of_ble_eq_true rfl) rfl ?_ | refine s_set 1 (.slice none 0 0) (ncs (.mk 3 [] false [] ks []) Ap cp none 0 (some ⟨gk, 0, none⟩) ck' Ah ch) M rfl (by kernel_rfl) rfl rfl rfl (Nat.le_of_ble_eq_true rfl) rfl ?_ | refine s_set 2 (.slice none 0 0) (ncs (.mk 3 [] false [] ks []) Ap cp none 0 (some ⟨gk, 0, none⟩) ck' Ah ch) M rfl (by kernel_rfl) rfl rfl rfl (Nat.le_of_ble_eq_true rfl) rfl ?_ | refine s_set 3 (.slice none 0 0) (ncs (.mk 3 [] false [] ks []) Ap cp none 0 (some ⟨gk, 0, none⟩) ck' Ah ch) M rfl (by kernel_rfl) rfl rfl rfl (Nat.le_of_ble_eq_true rfl) rfl ?_
      clear M
      rintro W M
      dsimp only [setL] at M
      refine v_loadN (ncs (.mk 3 [] false [] ks []) Ap cp none 0 (some ⟨gk, 0, none⟩) ck' Ah ch) agg_nd rfl rfl (by first | exact M.run 0 rfl | exact M.run 1 rfl | exact M.run 2 rfl | exact M.run 3 rfl | exact M.run 4 rfl | exact M.lc 0 rfl | exact M.lc 1 rfl | exact M.lc 2 rfl | exact M.lc 3 rfl | exact M.lc 4 rfl | exact M.lc 5 rfl | exact M.lc 6 rfl | exact M.lc 7 rfl) ?_
      replace M := M.frzB' (rest := rest) (s := 6) (n := ks.length) (c := ck') (by first | with_reducible exact M.dw_0 | with_reducible exact M.dw_1 | with_reducible exact M.dw_2 | with_reducible exact M.dw_3 | with_reducible exact M.dw_4 | with_reducible exact M.dw_5 | with_reducible exact M.dw_6 | with_reducible exact M.dw_7 | with_reducible exact M.dw_8 | with_reducible exact M.dw_9 | with_reducible exact M.dw_10 | with_reducible exact M.dw_11) (dNs_len ks) hck
      have hT := RdL.ofnode (t := (.mk 3 [] false [] ks [])) (Ap := Ap) (cp := cp) (Ah := Ah) (ch := ch) (Av := none) (cv := 0) (RdD.nil_ _ _) (RdD.nil_ _ _) (M.d1 0 rfl) (RdD.nil_ _ _)
      have hsz2 := sz_eq (.mk 3 [] false [] ks [])
      simp only [Nd.path, Nd.val, Nd.hash, Nd.kids, List.length_nil] at hsz2
      refine cc is_settle (settle_any (.mk 3 [] false [] ks []) way _ _ Aw nw cw _ hT (by first | with_reducible exact M.d1_0 | with_reducible exact M.d1_1 | with_reducible exact M.d1_2 | with_reducible exact M.d1_3 | with_reducible exact M.d1_4 | with_reducible exact M.d1_5 | with_reducible exact M.d1_6 | with_reducible exact M.d1_7 | with_reducible exact M.d1_8 | with_reducible exact M.d1_9 | with_reducible exact M.d1_10 | with_reducible exact M.d1_11) M.olt (by show ks.length ≤ 16; omega) (by omega) (by omega)) ?_
      rintro e W7 ⟨cs7, Am, nm, cm, rfl, h7, hm7, hb⟩
      refine ⟨_, rfl, ?_⟩
      obtain ⟨hm7, hAm⟩ := hm7.un
      replace M := (M.callF1 hb hm7).addL h7
      have hl7 := h7.len
      rw [dN_len] at hl7
      refine s_storeA 0 cs7 M rfl sz_nd rfl rfl hl7 (h7.ones (dN_one _)) rfl ?_
      clear M; rintro W M
      dsimp only [setL] at M
      refine c_loadN cs7 agg_nd rfl hl7 (M.run 0 rfl) ?_
      exact ⟨_, Am, nm, cm, rfl, (by first | with_reducible exact M.fin_0 | with_reducible exact M.fin_1 | with_reducible exact M.fin_2 | with_reducible exact M.fin_3 | with_reducible exact M.fin_4 | with_reducible exact M.fin_5 | with_reducible exact M.fin_6 | with_reducible exact M.fin_7 | with_reducible exact M.fin_8 | with_reducible exact M.fin_9 | with_reducible exact M.fin_10 | with_reducible exact M.fin_11), missOk.mk (by first | with_reducible exact M.finF1_0 | with_reducible exact M.finF1_1 | with_reducible exact M.finF1_2 | with_reducible exact M.finF1_3 | with_reducible exact M.finF1_4 | with_reducible exact M.finF1_5 | with_reducible exact M.finF1_6 | with_reducible exact M.finF1_7 | with_reducible exact M.finF1_8 | with_reducible exact M.finF1_9 | with_reducible exact M.finF1_10 | with_reducible exact M.finF1_11) hAm, M.below⟩
    | x :: q', hhq, hlen, enq, hhas, hsd, M =>
      have hx := halves_hd hhq
      obtain ⟨k, hki⟩ : ∃ k, ks[x.toNat]? = some k := ⟨_, List.getElem?_eq_getElem (by omega)⟩
      have hkm := List.mem_of_getElem? hki
      have hkz : sz k < N := by have := szs_mem hkm; omega
      rw [dropP_br hki]
      rw [getP_br hki] at hhas
      rw [List.length_cons] at enq hlen
      refine p_eq rfl rfl (fun h => by omega) (fun _ => ?_)
      replace M := M.drew
      have hq : RdD _ _ (dB (x :: q')) (.slice Aq nq cq) := (by first | with_reducible exact M.d1_0 | with_reducible exact M.d1_1 | with_reducible exact M.d1_2 | with_reducible exact M.d1_3 | with_reducible exact M.d1_4 | with_reducible exact M.d1_5 | with_reducible exact M.d1_6 | with_reducible exact M.d1_7 | with_reducible exact M.d1_8 | with_reducible exact M.d1_9 | with_reducible exact M.d1_10 | with_reducible exact M.d1_11)
      obtain ⟨_, hcq, hqr⟩ := hq.rd Fd.lt
      obtain ⟨bq, oq, eAq, hcx⟩ := hqr.at_ (k := 0) (by omega)
      subst eAq
      have hFq := hq.blk0 (by omega)
      have hcut := hq.cutB (i := 1) (j := nq) (m := cq) (by omega) (Nat.le_refl _) (by omega)
      rw [List.drop_succ_cons, List.drop_zero, List.take_of_length_le (by omega)] at hcut
      have hpw := hq.cutB (i := 0) (j := 1) (m := cq) (by omega) (by omega) (by omega)
      rw [Nat.sub_zero, Nat.sub_zero, List.drop_zero, List.take_succ_cons, List.take_zero] at hpw
      obtain ⟨es, hese⟩ : ∃ es, es = (xs.drop (x.toNat * 6)).take 6 := ⟨_, rfl⟩
      have hes := ((M.da 0 rfl).drop (x.toNat * 6)).take 6
      rw [dNs_at hki, ← hese] at hes
      have hel : es.length = 6 := by rw [hes.len, dN_len]
      have hrun : ∀ j v, es[j]? = some v → (xs ++ rest)[x.toNat * 6 + j]? = some v := by
        intro j y hy
        have hj := (List.getElem?_eq_some_iff.1 hy).1
        rw [List.getElem?_append_left (by omega)]
        rw [hese, List.getElem?_take_of_lt (by omega), List.getElem?_drop] at hy
        exact hy
      replace M := (((M.addD hcut).addD hpw).addL hes).addC (a := Addr.add ⟨bq, oq, none⟩ (0 * 1)) (cs := [.int .u8 (x.toNat : Nat)]) (by rw [block_of_add]; exact hFq) (by
        intro j y hy
        match j, hy with
        | 0, hy => injection hy with hy; subst hy; rw [Addr.add_lit]; exact hcx)
      clear hcut hpw hes hqr hcx hese hq
      refine drT (Kp w gs [(g3, 28, ncs (.mk 3 [] has v ks []) Ap cp Av cv (some ⟨gk, 0, none⟩) ck' Ah ch), (gk, 28, xs ++ rest)] [.loc (Addr.add ⟨bq, oq, none⟩ (0 * 1)) [.int .u8 (x.toNat : Nat)]]) (Sch.graft schDrop (.one 19 (.take 20 .nil))) (by kernel_rfl) (M.kp (by simp) (by simp)) ?_
      refine cutT (List Value × Option Addr × Nat × Nat × Nat) (fun s W => St w gs W [(s.2.2.2.2, 28, zN), (gk, 28, xs ++ rest), (g6, 28, zN), (g3, 28, ncs (.mk 3 [] has v ks []) Ap cp Av cv (some ⟨gk, 0, none⟩) ck' Ah ch)] []
          [.dat false (dN (dropP k q').1) s.1, .dat true [missD way ((dropP k q').2.map ([x] ++ ·))] [.slice s.2.1 s.2.2.1 s.2.2.2.1], .dat false (dNs ks) xs, .dat false [dB v] [.slice Av v.length cv], .dat false [dB way] [.slice Aw nw cw], .loc (Addr.add ⟨bq, oq, none⟩ (0 * 1)) [.int .u8 (x.toNat : Nat)]] ∧ (((dropP k q').2.map ([x] ++ ·)).isSome = true → s.2.1 ≠ none))
        (fun s => [(1, .slice (some ⟨bq, oq, none⟩) nq cq), (2, .slice Aw nw cw), (3, .pointer (some ⟨g3, 0, none⟩)), (6, .pointer (some ⟨g6, 0, none⟩)), (10, .pointer (some ⟨s.2.2.2.2, 0, none⟩)), (72, .agg s.1.toArray), (73, .slice s.2.1 s.2.2.1 s.2.2.2.1)]) ?_ ?_
      · refine p_fld fN4 rfl ?_
        refine t_load agg_ns rfl (fun W K => by first | exact (K.B 0 rfl).at_ rfl | exact (K.B 1 rfl).at_ rfl | exact (K.B 2 rfl).at_ rfl | exact (K.B 3 rfl).at_ rfl | exact K.lc 0 rfl _ _ rfl | exact K.lc 1 rfl _ _ rfl | exact K.lc 2 rfl _ _ rfl | exact K.lc 3 rfl _ _ rfl) ?_
        refine p_at (i := 0) slb rfl rfl rfl (by omega) ?_
        refine t_load agg_by' rfl (fun W K => by first | exact (K.B 0 rfl).at_ rfl | exact (K.B 1 rfl).at_ rfl | exact (K.B 2 rfl).at_ rfl | exact (K.B 3 rfl).at_ rfl | exact K.lc 0 rfl _ _ rfl | exact K.lc 1 rfl _ _ rfl | exact K.lc 2 rfl _ _ rfl | exact K.lc 3 rfl _ _ rfl) ?_
        refine p_atL (i := x.toNat) (q := x.toNat * 6) sln rfl rfl rfl (by show _ < ks.length; omega) (by omega) ?_
        refine t_loadN es agg_nd rfl hel (fun W K => (K.B 1 rfl).run _ es hrun) ?_
        refine p_slice (i := 1) (j := nq) (m := cq) slb rfl (bnd_i (kd := .i64) rfl) rfl rfl rfl (by omega) (by omega) (Nat.le_refl _) ?_
        refine p_slice (i := 0) (j := 1) (m := cq) slb rfl rfl (bnd_i (kd := .i64) rfl) rfl rfl (by omega) (by omega) (Nat.le_refl _) ?_
        have hhq' : halvesB q' = true := by have := halvesB_drop (n := 1) hhq; simpa using this
        have hrk' := hrk k hkm
        have hhas' := hhas
        have hlen' : (way ++ [x]).length + q'.length ≤ 50000 := by rw [List.length_append, List.length_cons, List.length_nil]; omega
        refine ⟨?_, ?_⟩
        ·
          refine s_bslice (fr := false) (ds := [dB way, dB [x]]) [.slice Aw nw cw, .slice (slA (some ⟨bq,oq,none⟩) cq 0 1) 1 cq] M sl_ls' zls2 rfl (by decide) rfl (RdL.cons (by first | with_reducible exact M.w1_0 | with_reducible exact M.w1_1 | with_reducible exact M.w1_2 | with_reducible exact M.w1_3 | with_reducible exact M.w1_4 | with_reducible exact M.w1_5 | with_reducible exact M.w1_6 | with_reducible exact M.w1_7 | with_reducible exact M.w1_8 | with_reducible exact M.w1_9 | with_reducible exact M.w1_10 | with_reducible exact M.w1_11) (by first | with_reducible exact M.dw_0 | with_reducible exact M.dw_1 | with_reducible exact M.dw_2 | with_reducible exact M.dw_3 | with_reducible exact M.dw_4 | with_reducible exact M.dw_5 | with_reducible exact M.dw_6 | with_reducible exact M.dw_7 | with_reducible exact M.dw_8 | with_reducible exact M.dw_9 | with_reducible exact M.dw_10 | with_reducible exact M.dw_11)) rfl ?_
          clear M; rintro g2 W M
          refine ⟨(M.kp (by simp) (by simp)), ?_⟩
          refine ⟨?_, ?_⟩
          ·
            have hfl : [way, [x]].flatten = way ++ [x] := by simp
            have hcall := concat_any _ (some ⟨g2, 0, none⟩) 2 2 [way, [x]] _ M.olt (M.d1 0 rfl) (by rw [hfl, List.length_append]; simp only [List.length_cons, List.length_nil] at *; omega) (by decide)
            rw [hfl] at hcall
            refine cc is_concat hcall ?_
            clear hcall
            rintro e W ⟨A3, c3, rfl, o3, hb⟩
            replace M := M.callO hb o3
            clear hb o3
            refine ⟨_, rfl, (M.kp (by simp) (by simp)), ?_⟩
            refine ⟨?_, ?_⟩
            ·
              refine cc is_tdrop (ih k hkz _ _ es q' (way ++ [x]) _ _ _ A3 _ c3 (d+1) even (by first | with_reducible exact M.da_0 | with_reducible exact M.da_1 | with_reducible exact M.da_2 | with_reducible exact M.da_3 | with_reducible exact M.da_4 | with_reducible exact M.da_5 | with_reducible exact M.da_6 | with_reducible exact M.da_7 | with_reducible exact M.da_8 | with_reducible exact M.da_9 | with_reducible exact M.da_10 | with_reducible exact M.da_11) (by first | with_reducible exact M.d1_0 | with_reducible exact M.d1_1 | with_reducible exact M.d1_2 | with_reducible exact M.d1_3 | with_reducible exact M.d1_4 | with_reducible exact M.d1_5 | with_reducible exact M.d1_6 | with_reducible exact M.d1_7 | with_reducible exact M.d1_8 | with_reducible exact M.d1_9 | with_reducible exact M.d1_10 | with_reducible exact M.d1_11) (by first | with_reducible exact M.d1_0 | with_reducible exact M.d1_1 | with_reducible exact M.d1_2 | with_reducible exact M.d1_3 | with_reducible exact M.d1_4 | with_reducible exact M.d1_5 | with_reducible exact M.d1_6 | with_reducible exact M.d1_7 | with_reducible exact M.d1_8 | with_reducible exact M.d1_9 | with_reducible exact M.d1_10 | with_reducible exact M.d1_11) M.olt hhq' hrk' hhas' hlen') ?_
              rintro e W ⟨cs5, Am, nm, cm, rfl, hres, hm5, hb⟩
              obtain ⟨hm5, hAm⟩ := hm5.un
              rw [missD_pre] at hm5
              replace M := (M.callF1 hb hm5).addL hres
              clear hb hm5 hres
              refine ⟨_, rfl, (M.kp (by simp) (by simp)), ?_⟩
              refine s_alloc (zN) M al_nd ?_
              clear M
              rintro gn W M
              refine ⟨(M.kp (by simp) (by simp)), ?_⟩
              refine ⟨(cs5, Am, nm, cm, gn), ⟨M.fsub _ (by simp), fun e => hAm (by simpa using e)⟩, (by repeat (first | exact trivial | refine ⟨rfl, ?_⟩))⟩
            ·
              refine s_alloc (zN) M al_nd ?_
              clear M
              rintro gn W M
              refine ⟨(M.kp (by simp) (by simp)), ?_⟩
              refine cc is_tdrop (ih k hkz _ _ es q' (way ++ [x]) _ _ _ A3 _ c3 (d+1) even (by first | with_reducible exact M.da_0 | with_reducible exact M.da_1 | with_reducible exact M.da_2 | with_reducible exact M.da_3 | with_reducible exact M.da_4 | with_reducible exact M.da_5 | with_reducible exact M.da_6 | with_reducible exact M.da_7 | with_reducible exact M.da_8 | with_reducible exact M.da_9 | with_reducible exact M.da_10 | with_reducible exact M.da_11) (by first | with_reducible exact M.d1_0 | with_reducible exact M.d1_1 | with_reducible exact M.d1_2 | with_reducible exact M.d1_3 | with_reducible exact M.d1_4 | with_reducible exact M.d1_5 | with_reducible exact M.d1_6 | with_reducible exact M.d1_7 | with_reducible exact M.d1_8 | with_reducible exact M.d1_9 | with_reducible exact M.d1_10 | with_reducible exact M.d1_11) (by first | with_reducible exact M.d1_0 | with_reducible exact M.d1_1 | with_reducible exact M.d1_2 | with_reducible exact M.d1_3 | with_reducible exact M.d1_4 | with_reducible exact M.d1_5 | with_reducible exact M.d1_6 | with_reducible exact M.d1_7 | with_reducible exact M.d1_8 | with_reducible exact M.d1_9 | with_reducible exact M.d1_10 | with_reducible exact M.d1_11) M.olt hhq' hrk' hhas' hlen') ?_
              rintro e W ⟨cs5, Am, nm, cm, rfl, hres, hm5, hb⟩
              obtain ⟨hm5, hAm⟩ := hm5.un
              rw [missD_pre] at hm5
              replace M := (M.callF1 hb hm5).addL hres
              clear hb hm5 hres
              refine ⟨_, rfl, (M.kp (by simp) (by simp)), ?_⟩
              refine ⟨(cs5, Am, nm, cm, gn), ⟨M.fsub _ (by simp), fun e => hAm (by simpa using e)⟩, (by repeat (first | exact trivial | refine ⟨rfl, ?_⟩))⟩
          ·
            refine s_alloc (zN) M al_nd ?_
            clear M
            rintro gn W M
            refine ⟨(M.kp (by simp) (by simp)), ?_⟩
            have hfl : [way, [x]].flatten = way ++ [x] := by simp
            have hcall := concat_any _ (some ⟨g2, 0, none⟩) 2 2 [way, [x]] _ M.olt (M.d1 0 rfl) (by rw [hfl, List.length_append]; simp only [List.length_cons, List.length_nil] at *; omega) (by decide)
            rw [hfl] at hcall
            refine cc is_concat hcall ?_
            clear hcall
            rintro e W ⟨A3, c3, rfl, o3, hb⟩
            replace M := M.callO hb o3
            clear hb o3
            refine ⟨_, rfl, (M.kp (by simp) (by simp)), ?_⟩
            refine cc is_tdrop (ih k hkz _ _ es q' (way ++ [x]) _ _ _ A3 _ c3 (d+1) even (by first | with_reducible exact M.da_0 | with_reducible exact M.da_1 | with_reducible exact M.da_2 | with_reducible exact M.da_3 | with_reducible exact M.da_4 | with_reducible exact M.da_5 | with_reducible exact M.da_6 | with_reducible exact M.da_7 | with_reducible exact M.da_8 | with_reducible exact M.da_9 | with_reducible exact M.da_10 | with_reducible exact M.da_11) (by first | with_reducible exact M.d1_0 | with_reducible exact M.d1_1 | with_reducible exact M.d1_2 | with_reducible exact M.d1_3 | with_reducible exact M.d1_4 | with_reducible exact M.d1_5 | with_reducible exact M.d1_6 | with_reducible exact M.d1_7 | with_reducible exact M.d1_8 | with_reducible exact M.d1_9 | with_reducible exact M.d1_10 | with_reducible exact M.d1_11) (by first | with_reducible exact M.d1_0 | with_reducible exact M.d1_1 | with_reducible exact M.d1_2 | with_reducible exact M.d1_3 | with_reducible exact M.d1_4 | with_reducible exact M.d1_5 | with_reducible exact M.d1_6 | with_reducible exact M.d1_7 | with_reducible exact M.d1_8 | with_reducible exact M.d1_9 | with_reducible exact M.d1_10 | with_reducible exact M.d1_11) M.olt hhq' hrk' hhas' hlen') ?_
            rintro e W ⟨cs5, Am, nm, cm, rfl, hres, hm5, hb⟩
            obtain ⟨hm5, hAm⟩ := hm5.un
            rw [missD_pre] at hm5
            replace M := (M.callF1 hb hm5).addL hres
            clear hb hm5 hres
            refine ⟨_, rfl, (M.kp (by simp) (by simp)), ?_⟩
            refine ⟨(cs5, Am, nm, cm, gn), ⟨M.fsub _ (by simp), fun e => hAm (by simpa using e)⟩, (by repeat (first | exact trivial | refine ⟨rfl, ?_⟩))⟩
        ·
          refine s_alloc (zN) M al_nd ?_
          clear M
          rintro gn W M
          refine ⟨(M.kp (by simp) (by simp)), ?_⟩
          refine s_bslice (fr := false) (ds := [dB way, dB [x]]) [.slice Aw nw cw, .slice (slA (some ⟨bq,oq,none⟩) cq 0 1) 1 cq] M sl_ls' zls2 rfl (by decide) rfl (RdL.cons (by first | with_reducible exact M.w1_0 | with_reducible exact M.w1_1 | with_reducible exact M.w1_2 | with_reducible exact M.w1_3 | with_reducible exact M.w1_4 | with_reducible exact M.w1_5 | with_reducible exact M.w1_6 | with_reducible exact M.w1_7 | with_reducible exact M.w1_8 | with_reducible exact M.w1_9 | with_reducible exact M.w1_10 | with_reducible exact M.w1_11) (by first | with_reducible exact M.dw_0 | with_reducible exact M.dw_1 | with_reducible exact M.dw_2 | with_reducible exact M.dw_3 | with_reducible exact M.dw_4 | with_reducible exact M.dw_5 | with_reducible exact M.dw_6 | with_reducible exact M.dw_7 | with_reducible exact M.dw_8 | with_reducible exact M.dw_9 | with_reducible exact M.dw_10 | with_reducible exact M.dw_11)) rfl ?_
          clear M; rintro g2 W M
          refine ⟨(M.kp (by simp) (by simp)), ?_⟩
          have hfl : [way, [x]].flatten = way ++ [x] := by simp
          have hcall := concat_any _ (some ⟨g2, 0, none⟩) 2 2 [way, [x]] _ M.olt (M.d1 0 rfl) (by rw [hfl, List.length_append]; simp only [List.length_cons, List.length_nil] at *; omega) (by decide)
          rw [hfl] at hcall
          refine cc is_concat hcall ?_
          clear hcall
          rintro e W ⟨A3, c3, rfl, o3, hb⟩
          replace M := M.callO hb o3
          clear hb o3
          refine ⟨_, rfl, (M.kp (by simp) (by simp)), ?_⟩
          refine cc is_tdrop (ih k hkz _ _ es q' (way ++ [x]) _ _ _ A3 _ c3 (d+1) even (by first | with_reducible exact M.da_0 | with_reducible exact M.da_1 | with_reducible exact M.da_2 | with_reducible exact M.da_3 | with_reducible exact M.da_4 | with_reducible exact M.da_5 | with_reducible exact M.da_6 | with_reducible exact M.da_7 | with_reducible exact M.da_8 | with_reducible exact M.da_9 | with_reducible exact M.da_10 | with_reducible exact M.da_11) (by first | with_reducible exact M.d1_0 | with_reducible exact M.d1_1 | with_reducible exact M.d1_2 | with_reducible exact M.d1_3 | with_reducible exact M.d1_4 | with_reducible exact M.d1_5 | with_reducible exact M.d1_6 | with_reducible exact M.d1_7 | with_reducible exact M.d1_8 | with_reducible exact M.d1_9 | with_reducible exact M.d1_10 | with_reducible exact M.d1_11) (by first | with_reducible exact M.d1_0 | with_reducible exact M.d1_1 | with_reducible exact M.d1_2 | with_reducible exact M.d1_3 | with_reducible exact M.d1_4 | with_reducible exact M.d1_5 | with_reducible exact M.d1_6 | with_reducible exact M.d1_7 | with_reducible exact M.d1_8 | with_reducible exact M.d1_9 | with_reducible exact M.d1_10 | with_reducible exact M.d1_11) M.olt hhq' hrk' hhas' hlen') ?_
          rintro e W ⟨cs5, Am, nm, cm, rfl, hres, hm5, hb⟩
          obtain ⟨hm5, hAm⟩ := hm5.un
          rw [missD_pre] at hm5
          replace M := (M.callF1 hb hm5).addL hres
          clear hb hm5 hres
          refine ⟨_, rfl, (M.kp (by simp) (by simp)), ?_⟩
          refine ⟨(cs5, Am, nm, cm, gn), ⟨M.fsub _ (by simp), fun e => hAm (by simpa using e)⟩, (by repeat (first | exact trivial | refine ⟨rfl, ?_⟩))⟩
      · clear M
        rintro ⟨cs5, Am, nm, cm, gn⟩ B5 W5 ⟨M, hAm⟩
        dsimp only at M hAm
        obtain ⟨Ap5, cp5, Av5, cv5, Ak5, ck5, Ah5, ch5, rfl, -⟩ := (M.da 0 rfl).node
        first | refine s_storeA 0 (ncs (dropP k q').1 Ap5 cp5 Av5 cv5 Ak5 ck5 Ah5 ch5) M rfl (by kernel_rfl) rfl rfl rfl (all1 rfl) rfl ?_ | refine s_storeA 1 (ncs (dropP k q').1 Ap5 cp5 Av5 cv5 Ak5 ck5 Ah5 ch5) M rfl (by kernel_rfl) rfl rfl rfl (all1 rfl) rfl ?_ | refine s_storeA 2 (ncs (dropP k q').1 Ap5 cp5 Av5 cv5 Ak5 ck5 Ah5 ch5) M rfl (by kernel_rfl) rfl rfl rfl (all1 rfl) rfl ?_ | refine s_storeA 3 (ncs (dropP k q').1 Ap5 cp5 Av5 cv5 Ak5 ck5 Ah5 ch5) M rfl (by kernel_rfl) rfl rfl rfl (all1 rfl) rfl ?_
        clear M
        rintro W M
        dsimp only [setL] at M
        refine ⟨(M.kp (by simp) (by simp)), ?_⟩
        have hmd := M.d1 1 rfl
        refine p_slnn isSlb rfl rfl (fun hA0 => ?_) (fun hA1 => ?_)
        · have hnone : (dropP k q').2 = none := by
            cases h : (dropP k q').2 with
            | none => rfl
            | some r => exact absurd hA0 (hAm (by rw [h]; rfl))
          rw [hnone, if_neg (by simp)]
          have hqh : halvesB q' = true := by have := halvesB_drop (n := 1) hhq; simpa using this
          have hks := szs_set hki (sz_drop (hrk k hkm) q' hqh hhas)
          replace M := M.drew
          clear hmd
          refine drZ 7 (Kp w gs [(g3, 28, ncs (.mk 3 [] has v ks []) Ap cp Av cv (some ⟨gk, 0, none⟩) ck' Ah ch), (gn, 28, ncs (dropP k q').1 Ap5 cp5 Av5 cv5 Ak5 ck5 Ah5 ch5)] [.loc (Addr.add ⟨bq, oq, none⟩ (0 * 1)) [.int .u8 (x.toNat : Nat)]]) [(0, true), (1, true), (2, true), (3, true), (4, true), (5, true), (6, true)] (by kernel_rfl) (M.kp (by simp) (by simp)) ?_
          refine p_fld fN4 rfl ?_
          refine t_load agg_ns rfl (fun W K => by first | exact (K.B 0 rfl).at_ rfl | exact (K.B 1 rfl).at_ rfl | exact (K.B 2 rfl).at_ rfl | exact (K.B 3 rfl).at_ rfl | exact K.lc 0 rfl _ _ rfl | exact K.lc 1 rfl _ _ rfl | exact K.lc 2 rfl _ _ rfl | exact K.lc 3 rfl _ _ rfl) ?_
          refine p_at (i := 0) slb rfl rfl rfl (by omega) ?_
          refine t_load agg_by' rfl (fun W K => by first | exact (K.B 0 rfl).at_ rfl | exact (K.B 1 rfl).at_ rfl | exact (K.B 2 rfl).at_ rfl | exact (K.B 3 rfl).at_ rfl | exact K.lc 0 rfl _ _ rfl | exact K.lc 1 rfl _ _ rfl | exact K.lc 2 rfl _ _ rfl | exact K.lc 3 rfl _ _ rfl) ?_
          refine t_loadN (ncs (dropP k q').1 Ap5 cp5 Av5 cv5 Ak5 ck5 Ah5 ch5) agg_nd rfl rfl (fun W K => by first | exact K.run 0 rfl | exact K.run 1 rfl | exact K.run 2 rfl | exact K.run 3 rfl | exact K.lc 0 rfl | exact K.lc 1 rfl | exact K.lc 2 rfl | exact K.lc 3 rfl) ?_
          refine p_atL (i := x.toNat) (q := x.toNat * 6) sln rfl rfl rfl (by show _ < ks.length; omega) (by omega) ?_
          refine s_storeP 1 (n := 6) (off := x.toNat * 6) (ncs (dropP k q').1 Ap5 cp5 Av5 cv5 Ak5 ck5 Ah5 ch5) _ M rfl sz_nd rfl rfl rfl (all1 rfl) (by rw [List.length_append, hxl]; omega) rfl ?_
          clear M; rintro W M
          dsimp only [setL] at M
          have e1 : (xs ++ rest).take (x.toNat * 6) = xs.take (x.toNat * 6) := List.take_append_of_le_length (by omega)
          have e2 : (xs ++ rest).drop (x.toNat * 6 + 6) = xs.drop (x.toNat * 6 + 6) ++ rest := List.drop_append_of_le_length (by omega)
          rw [e1, e2, ← List.append_assoc] at M
          have ek : ncs (.mk 3 [] has v ks []) Ap cp Av cv (some ⟨gk, 0, none⟩) ck' Ah ch = ncs (.mk 3 [] has v (ks.set x.toNat (dropP k q').1) []) Ap cp Av cv (some ⟨gk, 0, none⟩) ck' Ah ch := by
            simp only [ncs, Nd.kids, Nd.kind, Nd.path, Nd.has, Nd.val, Nd.hash, List.length_set]
          rw [ek] at M
          refine v_loadN (ncs (.mk 3 [] has v (ks.set x.toNat (dropP k q').1) []) Ap cp Av cv (some ⟨gk, 0, none⟩) ck' Ah ch) agg_nd rfl rfl (by first | exact M.run 0 rfl | exact M.run 1 rfl | exact M.run 2 rfl | exact M.run 3 rfl | exact M.run 4 rfl | exact M.lc 0 rfl | exact M.lc 1 rfl | exact M.lc 2 rfl | exact M.lc 3 rfl | exact M.lc 4 rfl | exact M.lc 5 rfl | exact M.lc 6 rfl | exact M.lc 7 rfl) ?_
          have hX := M.dw 2 rfl
          have hX2 := ((hX.take (x.toNat * 6)).app (M.dw 0 rfl)).app (hX.drop (x.toNat * 6 + 6))
          rw [← dNs_set _ (by omega)] at hX2
          replace M := M.addT hX2
          clear hX hX2
          replace M := M.swp.frzB' (rest := rest) (s := 6) (n := (ks.set x.toNat (dropP k q').1).length) (c := ck') (M.swp.dw 0 rfl) (by rw [dNs_len]) (by rw [List.length_set]; exact hck)
          have hT := RdL.ofnode (t := (.mk 3 [] has v (ks.set x.toNat (dropP k q').1) [])) (Ap := Ap) (cp := cp) (Ah := Ah) (ch := ch) (Av := Av) (cv := cv) (RdD.nil_ _ _) (M.d1 5 rfl) (M.d1 0 rfl) (RdD.nil_ _ _)
          have hsz2 := sz_eq (.mk 3 [] has v (ks.set x.toNat (dropP k q').1) [])
          simp only [Nd.path, Nd.val, Nd.hash, Nd.kids, List.length_nil] at hsz2
          refine cc is_settle (settle_any (.mk 3 [] has v (ks.set x.toNat (dropP k q').1) []) way _ _ Aw nw cw _ hT (by first | with_reducible exact M.d1_0 | with_reducible exact M.d1_1 | with_reducible exact M.d1_2 | with_reducible exact M.d1_3 | with_reducible exact M.d1_4 | with_reducible exact M.d1_5 | with_reducible exact M.d1_6 | with_reducible exact M.d1_7 | with_reducible exact M.d1_8 | with_reducible exact M.d1_9 | with_reducible exact M.d1_10 | with_reducible exact M.d1_11) M.olt (by show (ks.set _ _).length ≤ 16; rw [List.length_set]; omega) (by omega) (by omega)) ?_
          rintro e W7 ⟨cs7, Am, nm, cm, rfl, h7, hm7, hb⟩
          refine ⟨_, rfl, ?_⟩
          obtain ⟨hm7, hAm⟩ := hm7.un
          replace M := (M.callF1 hb hm7).addL h7
          have hl7 := h7.len
          rw [dN_len] at hl7
          refine s_storeA 1 cs7 M rfl sz_nd rfl rfl hl7 (h7.ones (dN_one _)) rfl ?_
          clear M; rintro W M
          dsimp only [setL] at M
          refine c_loadN cs7 agg_nd rfl hl7 (M.run 1 rfl) ?_
          exact ⟨_, Am, nm, cm, rfl, (by first | with_reducible exact M.fin_0 | with_reducible exact M.fin_1 | with_reducible exact M.fin_2 | with_reducible exact M.fin_3 | with_reducible exact M.fin_4 | with_reducible exact M.fin_5 | with_reducible exact M.fin_6 | with_reducible exact M.fin_7 | with_reducible exact M.fin_8 | with_reducible exact M.fin_9 | with_reducible exact M.fin_10 | with_reducible exact M.fin_11), missOk.mk (by first | with_reducible exact M.finF1_0 | with_reducible exact M.finF1_1 | with_reducible exact M.finF1_2 | with_reducible exact M.finF1_3 | with_reducible exact M.finF1_4 | with_reducible exact M.finF1_5 | with_reducible exact M.finF1_6 | with_reducible exact M.finF1_7 | with_reducible exact M.finF1_8 | with_reducible exact M.finF1_9 | with_reducible exact M.finF1_10 | with_reducible exact M.finF1_11) hAm, M.below⟩
        · have hsome : (dropP k q').2.isSome = true := by
            cases h : (dropP k q').2 with
            | none => rw [h] at hmd; exact absurd (missD_none (way := way) hmd rfl).1 hA1
            | some r => rfl
          rw [if_pos hsome]
          clear hmd
          refine v_loadN (ncs (.mk 3 [] has v ks []) Ap cp Av cv (some ⟨gk, 0, none⟩) ck' Ah ch) agg_nd rfl rfl (by first | exact M.run 0 rfl | exact M.run 1 rfl | exact M.run 2 rfl | exact M.run 3 rfl | exact M.run 4 rfl | exact M.lc 0 rfl | exact M.lc 1 rfl | exact M.lc 2 rfl | exact M.lc 3 rfl | exact M.lc 4 rfl | exact M.lc 5 rfl | exact M.lc 6 rfl | exact M.lc 7 rfl) ?_
          first | refine s_storeA 0 (ncs (.mk 3 [] has v ks []) Ap cp Av cv (some ⟨gk, 0, none⟩) ck' Ah ch) M rfl (by kernel_rfl) rfl rfl rfl (all1 rfl) rfl ?_ | refine s_storeA 1 (ncs (.mk 3 [] has v ks []) Ap cp Av cv (some ⟨gk, 0, none⟩) ck' Ah ch) M rfl (by kernel_rfl) rfl rfl rfl (all1 rfl) rfl ?_ | refine s_storeA 2 (ncs (.mk 3 [] has v ks []) Ap cp Av cv (some ⟨gk, 0, none⟩) ck' Ah ch) M rfl (by kernel_rfl) rfl rfl rfl (all1 rfl) rfl ?_ | refine s_storeA 3 (ncs (.mk 3 [] has v ks []) Ap cp Av cv (some ⟨gk, 0, none⟩) ck' Ah ch) M rfl (by kernel_rfl) rfl rfl rfl (all1 rfl) rfl ?_
          clear M
          rintro W M
          dsimp only [setL] at M
          refine c_loadN (ncs (.mk 3 [] has v ks []) Ap cp Av cv (some ⟨gk, 0, none⟩) ck' Ah ch) agg_nd rfl rfl (by first | exact M.run 0 rfl | exact M.run 1 rfl | exact M.run 2 rfl | exact M.run 3 rfl | exact M.run 4 rfl | exact M.lc 0 rfl | exact M.lc 1 rfl | exact M.lc 2 rfl | exact M.lc 3 rfl | exact M.lc 4 rfl | exact M.lc 5 rfl | exact M.lc 6 rfl | exact M.lc 7 rfl) ?_
          replace M := M.swp.frzB' (rest := rest) (s := 6) (n := ks.length) (c := ck') (ds := dNs ks) (M.swp.dw 2 rfl) (dNs_len ks) hck
          refine ⟨_, Am, nm, cm, rfl, RdL.ofnode (t := .mk 3 [] has v ks []) (RdD.nil_ _ _) (M.fin1 4 rfl) (M.fin1 0 rfl) (RdD.nil_ _ _), missOk.mk (m := (dropP k q').2.map ([x] ++ ·)) (by first | with_reducible exact M.finF1_0 | with_reducible exact M.finF1_1 | with_reducible exact M.finF1_2 | with_reducible exact M.finF1_3 | with_reducible exact M.finF1_4 | with_reducible exact M.finF1_5 | with_reducible exact M.finF1_6 | with_reducible exact M.finF1_7 | with_reducible exact M.finF1_8 | with_reducible exact M.finF1_9 | with_reducible exact M.finF1_10 | with_reducible exact M.finF1_11) hAm, M.below⟩
theorem tdrop_any : ∀ (N : Nat), N ≤ 500000 → ∀ t : Nd, sz t < N → DropOk t
  | 0, _, t, h => by omega
  | N + 1, hN, t, h => tdrop_step N (fun k hk => tdrop_any N (by omega) k hk) t (by omega) (by omega)
end Go.Proofs.YtdlljmmgkoeilaaDoor
