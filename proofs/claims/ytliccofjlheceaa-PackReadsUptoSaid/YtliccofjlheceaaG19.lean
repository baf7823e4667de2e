/- Reference 11: own. -/
import Derived.Test.YtliccofjlheceaaG18
namespace Go.Proofs.Ytliccofjlheceaa
open Go.RowKit
theorem is_rown : isFn Try.prog 79 = true := by kernel_rfl
theorem sz_boK : (Try.prog.info? 4).map (·.size) = some 1 := by kernel_rfl
/-- What is told of a node itself; which kids; what is left. -/
def ownQ (c : UInt8) (b : List UInt8) : Option (Nd × List UInt8 × List UInt8) :=
  if c = 1 ∨ c = 2 then (match textX b with
    | none => none
    | some (p, b1) => if unpackE p ≠ 0 ∨ unpackB p ≠ decide (c = 1) then none
      else if c = 1 then (match textX b1 with
        | none => none
        | some (v, b2) => some (.mk 1 (unpackL p) false v [] [], [], b2))
      else some (.mk 2 (unpackL p) false [] [] [], [], b1))
  else if c = 3 then (match b with
    | [] => none
    | h :: b1 => (match (if h = 1 then textX b1 else some ([], b1)) with
      | none => none
      | some (v, b2) => if b2.length < 2 then none else some (.mk 3 [] (decide (h = 1)) v [] [], b2.take 2, b2.drop 2)))
  else if c = 4 then (if b.length < 32 then none else some (.mk 4 [] false [] [] (b.take 32), [], b.drop 32))
  else some (noneN, [], b)
def n0 (c : UInt8) : List Value := [.int .i64 (c.toNat : Nat), .slice none 0 0, .bool false, .slice none 0 0, .slice none 0 0, .slice none 0 0]
def OwnPost (gs : List (Option Nat)) (w w' : World) (cs : List Value) (Ab : Option Addr) (nb cb : Nat) (A2 : Option Addr) (n2 c2 : Nat) (e' : Int) : Option (Nd × List UInt8 × List UInt8) → Prop
  | none => e' = 11 ∧ ∃ b', RdD w' (Fd w' gs) (dB b') (.slice A2 n2 c2)
  | some (tn, bits, r) => e' = 0 ∧ RdL w' (Fr w w') (dN tn) cs ∧ RdD w' (Fd w' gs) (dB bits) (.slice Ab nb cb) ∧ RdD w' (Fd w' gs) (dB r) (.slice A2 n2 c2)
set_option maxRecDepth 100000 in
set_option maxHeartbeats 8000000 in
theorem rown_any (k : UInt8) (h4 : k.toNat ≤ 4) {gs : List (Option Nat)} {A : Option Addr} {n c : Nat} {b : List UInt8} (Ad : Option Addr) (nd cd : Nat) (left : Int) (Q : Option (Nd × List UInt8 × List UInt8)) (hQ : ownQ k b = Q) (hz : n ≤ 1000000000) (w : World) (h : RdD w (Fd w gs) (dB b) (.slice A n c)) (hgs : ∀ b, some b ∈ gs → b < w.heap.size) :
    Calls Try.prog 79 #[.agg (n0 k).toArray, .agg (rc A n c Ad nd cd left 0).toArray] w fun en w' => ∃ cs Ab nb cb A2 n2 c2 e', en = .returned (.tuple #[.agg cs.toArray, .slice Ab nb cb, .agg (rc A2 n2 c2 Ad nd cd left e').toArray]) ∧
      cs.length = 6 ∧ (∀ u ∈ cs, u.oneCell' = true) ∧ Below w.heap.size w w' ∧ OwnPost gs w w' cs Ab nb cb A2 n2 c2 e' Q := by
  refine calls_ev (args := [.agg (n0 k).toArray, .agg (rc A n c Ad nd cd left 0).toArray]) mixed Try.func79 rfl (by kernel_rfl) ?_
  have en := h.slen
  have hcap := h.scap
  have M := (St.start hgs).addD h
  refine s_box (n0 k) M rfl ?_
  clear M
  rintro g2 W M
  refine s_box (rc A n c Ad nd cd left 0) M rfl ?_
  clear M
  rintro g3 W M
  refine s_alloc (zN) M al_nd ?_
  clear M
  rintro g4 W M
  refine s_alloc (zG) M al_got ?_
  clear M
  rintro g6 W M
  refine p_fld fN0 rfl ?_
  refine v_load agg_int rfl ((M.B 3 rfl).at_ rfl) ?_
  refine p_eq rfl rfl (fun hk1 => ?_) (fun hk1 => ?_)
  · have hk1 : k = 1 := by
      have h : ((k.toNat : Nat) : Int) = 1 := hk1
      exact UInt8.toNat_inj.1 (show k.toNat = 1 by omega)
    subst hk1
    refine v_loadN (rc A n c Ad nd cd left 0) agg_got rfl rfl (M.run 2 rfl) ?_
    cases htx : textX b with
    | none =>
      have hq : Q = none := by rw [← hQ]; unfold ownQ; rw [if_pos (by decide), htx]
      subst hq
      refine cc is_rtx (rtx_none htx hz _ (M.d1 0 rfl)) ?_
      rintro en W ⟨rfl, hb⟩
      replace M := M.call hb
      clear hb
      refine ⟨_, rfl, ?_⟩
      refine s_alloc (zG) M al_got ?_
      clear M
      rintro g8 W M
      refine s_storeA 0 (rc A n c Ad nd cd left 11) M rfl sz_got rfl rfl rfl (all1 rfl) rfl ?_
      clear M; rintro W M
      dsimp only [setL] at M
      replace M := M.addD (d := dB []) (RdD.nil_ (s := 1) none 0)
      refine cc is_rup6 (rup_any [] _ _ none 0 0 (M.d1 0 rfl) M.olt (by decide)) ?_
      rintro e W ⟨A9, n9, c9, rfl, r9, hb⟩
      replace M := M.call hb
      clear r9 hb
      refine ⟨_, rfl, ?_⟩
      refine p_fld fG3 rfl ?_
      refine v_load agg_int rfl ((M.B 0 rfl).at_ rfl) ?_
      refine p_ne rfl rfl (fun h => absurd (show (11 : Int) = 0 from h) (by decide)) (fun _ => ?_)
      replace M := M.drew
      refine drT (Kp w gs [(g2, 38, (n0 1)), (g8, 90, rc A n c Ad nd cd left 11)] []) (.take 0 (.take 1 (.one 2 (.one 3 (.take 4 (.one 5 (.nil))))))) (by kernel_rfl) (M.kp (by simp) (by simp)) ?_
      refine t_loadN ((n0 1)) agg_nd rfl rfl (fun W K => K.run 0 rfl) ?_
      refine t_loadN (rc A n c Ad nd cd left 11) agg_got rfl rfl (fun W K => K.run 1 rfl) ?_
      refine cc is_rwrong (rwrong_any _ _ _ _ _ _ _ _ 11 11) ?_
      rintro en W ⟨rfl, hb⟩
      replace M := M.call hb
      clear hb
      refine ⟨_, rfl, (M.kp (by simp) (by simp)), ?_⟩
      refine s_storeA 2 ((n0 1)) M rfl sz_nd rfl rfl rfl (all1 rfl) rfl ?_
      clear M; rintro W M
      dsimp only [setL] at M
      refine ⟨(M.kp (by simp) (by simp)), ?_⟩
      refine s_storeA 1 (rc A n c Ad nd cd left 11) M rfl sz_got rfl rfl rfl (all1 rfl) rfl ?_
      clear M; rintro W M
      dsimp only [setL] at M
      refine ⟨(M.kp (by simp) (by simp)), ?_⟩
      refine c_loadN ((n0 1)) agg_nd rfl rfl (M.run 2 rfl) ?_
      refine c_loadN (rc A n c Ad nd cd left 11) agg_got rfl rfl (M.run 1 rfl) ?_
      exact ⟨_, none, 0, 0, _, _, _, 11, rfl, rfl, (all1 rfl), M.below, rfl, _, M.fin1 1 rfl⟩
    | some pr =>
    obtain ⟨p, b1⟩ := pr
    obtain ⟨ebb, hpl⟩ := textX_same htx
    have hlb := textX_le htx
    refine cc is_rtx (rtx_some htx hz _ (M.d1 0 rfl) M.olt) ?_
    rintro en W ⟨A1, c1, A2, n2, c2, rfl, o, r2, hb⟩
    have e2 := r2.slen
    replace M := (M.callO hb o).addD r2
    clear o r2 hb
    refine ⟨_, rfl, ?_⟩
    refine s_alloc (zG) M al_got ?_
    clear M
    rintro g8 W M
    refine s_storeA 0 (rc A2 n2 c2 Ad nd cd left 0) M rfl sz_got rfl rfl rfl (all1 rfl) rfl ?_
    clear M; rintro W M
    dsimp only [setL] at M
    obtain ⟨q, hq⟩ : ∃ q, q = unpackB p := ⟨_, rfl⟩
    obtain ⟨ue, hue⟩ : ∃ ue, ue = unpackE p := ⟨_, rfl⟩
    have cu := rup_any p _ _ A1 _ c1 (M.d1 1 rfl) M.olt (by omega)
    rw [← hq, ← hue] at cu
    refine cc is_rup6 cu ?_
    clear cu
    rintro e W ⟨A9, n9, c9, rfl, r9, hb⟩
    have e9 := r9.slen
    subst e9
    replace M := M.callF1 hb r9
    clear r9 hb
    refine ⟨_, rfl, ?_⟩
    refine p_fld fG3 rfl ?_
    refine v_load agg_int rfl ((M.B 0 rfl).at_ rfl) ?_
    refine p_ne rfl rfl (fun _ => ?_) (fun h => absurd rfl h)
    refine p_ne rfl rfl (fun hE => ?_) (fun hE => ?_)
    rotate_left
    · have hE : ¬ ue = 0 := hE
      have hn : Q = none := by rw [← hQ]; unfold ownQ; rw [if_pos (by decide), htx]; dsimp only; rw [if_pos (.inl (by rw [← hue]; exact hE))]
      subst hn
      replace M := M.drew
      refine drT (Kp w gs [(g2, 38, (n0 1)), (g8, 90, rc A2 n2 c2 Ad nd cd left 0)] []) (.take 0 (.take 1 (.one 2 (.one 3 (.take 4 (.one 5 (.nil))))))) (by kernel_rfl) (M.kp (by simp) (by simp)) ?_
      refine t_loadN ((n0 1)) agg_nd rfl rfl (fun W K => K.run 0 rfl) ?_
      refine t_loadN (rc A2 n2 c2 Ad nd cd left 0) agg_got rfl rfl (fun W K => K.run 1 rfl) ?_
      refine cc is_rwrong (rwrong_any _ _ _ _ _ _ _ _ 0 11) ?_
      rintro en W ⟨rfl, hb⟩
      replace M := M.call hb
      clear hb
      refine ⟨_, rfl, (M.kp (by simp) (by simp)), ?_⟩
      refine s_storeA 2 ((n0 1)) M rfl sz_nd rfl rfl rfl (all1 rfl) rfl ?_
      clear M; rintro W M
      dsimp only [setL] at M
      refine ⟨(M.kp (by simp) (by simp)), ?_⟩
      refine s_storeA 1 (rc A2 n2 c2 Ad nd cd left 11) M rfl sz_got rfl rfl rfl (all1 rfl) rfl ?_
      clear M; rintro W M
      dsimp only [setL] at M
      refine ⟨(M.kp (by simp) (by simp)), ?_⟩
      refine c_loadN ((n0 1)) agg_nd rfl rfl (M.run 2 rfl) ?_
      refine c_loadN (rc A2 n2 c2 Ad nd cd left 11) agg_got rfl rfl (M.run 1 rfl) ?_
      exact ⟨_, none, 0, 0, _, _, _, 11, rfl, rfl, (all1 rfl), M.below, rfl, _, M.fin1 1 rfl⟩
    have hE : ue = 0 := hE
    refine p_fld fN0 rfl ?_
    refine v_load agg_int rfl ((M.B 4 rfl).at_ rfl) ?_
    refine p_eq rfl rfl (fun _ => ?_) (fun h => absurd rfl h)
    cases q with
    | false =>
      have hn : Q = none := by rw [← hQ]; unfold ownQ; rw [if_pos (by decide), htx]; dsimp only; rw [if_pos (.inr (by rw [← hq]; decide))]
      subst hn
      refine p_bneC u_bool rfl rfl (fun h => absurd h (by decide)) (fun _ => ?_)
      replace M := M.drew
      refine drT (Kp w gs [(g2, 38, (n0 1)), (g8, 90, rc A2 n2 c2 Ad nd cd left 0)] []) (.take 0 (.take 1 (.one 2 (.one 3 (.take 4 (.one 5 (.nil))))))) (by kernel_rfl) (M.kp (by simp) (by simp)) ?_
      refine t_loadN ((n0 1)) agg_nd rfl rfl (fun W K => K.run 0 rfl) ?_
      refine t_loadN (rc A2 n2 c2 Ad nd cd left 0) agg_got rfl rfl (fun W K => K.run 1 rfl) ?_
      refine cc is_rwrong (rwrong_any _ _ _ _ _ _ _ _ 0 11) ?_
      rintro en W ⟨rfl, hb⟩
      replace M := M.call hb
      clear hb
      refine ⟨_, rfl, (M.kp (by simp) (by simp)), ?_⟩
      refine s_storeA 2 ((n0 1)) M rfl sz_nd rfl rfl rfl (all1 rfl) rfl ?_
      clear M; rintro W M
      dsimp only [setL] at M
      refine ⟨(M.kp (by simp) (by simp)), ?_⟩
      refine s_storeA 1 (rc A2 n2 c2 Ad nd cd left 11) M rfl sz_got rfl rfl rfl (all1 rfl) rfl ?_
      clear M; rintro W M
      dsimp only [setL] at M
      refine ⟨(M.kp (by simp) (by simp)), ?_⟩
      refine c_loadN ((n0 1)) agg_nd rfl rfl (M.run 2 rfl) ?_
      refine c_loadN (rc A2 n2 c2 Ad nd cd left 11) agg_got rfl rfl (M.run 1 rfl) ?_
      exact ⟨_, none, 0, 0, _, _, _, 11, rfl, rfl, (all1 rfl), M.below, rfl, _, M.fin1 1 rfl⟩
    | true =>
    refine p_bneC u_bool rfl rfl (fun _ => ?_) (fun h => absurd rfl h)
    refine p_fld fN1 rfl ?_
    refine s_set 4 (off := 1) (.slice A9 (unpackL p).length c9) [.int .i64 1, .slice A9 (unpackL p).length c9, .bool false, .slice none 0 0, .slice none 0 0, .slice none 0 0] M rfl sz_slP rfl rfl rfl (by show 1 < 6; decide) rfl ?_
    clear M; rintro W M
    dsimp only [setL] at M
    refine v_loadN (rc A2 n2 c2 Ad nd cd left 0) agg_got rfl rfl (M.run 0 rfl) ?_
    refine s_storeA 3 (rc A2 n2 c2 Ad nd cd left 0) M rfl sz_got rfl rfl rfl (all1 rfl) rfl ?_
    clear M; rintro W M
    dsimp only [setL] at M
    refine v_loadN (rc A2 n2 c2 Ad nd cd left 0) agg_got rfl rfl (M.run 3 rfl) ?_
    cases htx2 : textX b1 with
    | none =>
      have hn : Q = none := by rw [← hQ]; unfold ownQ; rw [if_pos (by decide), htx]; dsimp only; rw [if_neg (by rw [← hue, ← hq, hE]; decide), if_pos rfl, htx2]
      subst hn
      refine cc is_rtx (rtx_none htx2 (by omega) _ (M.d1 1 rfl)) ?_
      rintro en W ⟨rfl, hb⟩
      replace M := M.call hb
      clear hb
      refine ⟨_, rfl, ?_⟩
      refine p_fld fN3 rfl ?_
      refine s_set 4 (off := 3) (.slice none 0 0) [.int .i64 1, .slice A9 (unpackL p).length c9, .bool false, .slice none 0 0, .slice none 0 0, .slice none 0 0] M rfl sz_slP rfl rfl rfl (by show 3 < 6; decide) rfl ?_
      clear M; rintro W M
      dsimp only [setL] at M
      refine s_storeA 3 (rc A2 n2 c2 Ad nd cd left 11) M rfl sz_got rfl rfl rfl (all1 rfl) rfl ?_
      clear M; rintro W M
      dsimp only [setL] at M
      replace M := M.drew
      refine drT (Kp w gs [(g2, 38, [.int .i64 1, .slice A9 (unpackL p).length c9, .bool false, .slice none 0 0, .slice none 0 0, .slice none 0 0]), (g3, 90, rc A2 n2 c2 Ad nd cd left 11)] []) (.take 0 (.take 1 (.one 2 (.take 3 (.one 4 (.nil)))))) (by kernel_rfl) (M.kp (by simp) (by simp)) ?_
      refine t_loadN ([.int .i64 1, .slice A9 (unpackL p).length c9, .bool false, .slice none 0 0, .slice none 0 0, .slice none 0 0]) agg_nd rfl rfl (fun W K => K.run 0 rfl) ?_
      refine t_loadN (rc A2 n2 c2 Ad nd cd left 11) agg_got rfl rfl (fun W K => K.run 1 rfl) ?_
      refine s_storeA 2 ([.int .i64 1, .slice A9 (unpackL p).length c9, .bool false, .slice none 0 0, .slice none 0 0, .slice none 0 0]) M rfl sz_nd rfl rfl rfl (all1 rfl) rfl ?_
      clear M; rintro W M
      dsimp only [setL] at M
      refine ⟨(M.kp (by simp) (by simp)), ?_⟩
      refine s_storeA 1 (rc A2 n2 c2 Ad nd cd left 11) M rfl sz_got rfl rfl rfl (all1 rfl) rfl ?_
      clear M; rintro W M
      dsimp only [setL] at M
      refine ⟨(M.kp (by simp) (by simp)), ?_⟩
      refine c_loadN ([.int .i64 1, .slice A9 (unpackL p).length c9, .bool false, .slice none 0 0, .slice none 0 0, .slice none 0 0]) agg_nd rfl rfl (M.run 2 rfl) ?_
      refine c_loadN (rc A2 n2 c2 Ad nd cd left 11) agg_got rfl rfl (M.run 1 rfl) ?_
      exact ⟨_, none, 0, 0, _, _, _, 11, rfl, rfl, (all1 rfl), M.below, rfl, _, M.fin1 1 rfl⟩
    | some pr =>
    obtain ⟨v, b2⟩ := pr
    have hn : Q = some (.mk 1 (unpackL p) false v [] [], [], b2) := by rw [← hQ]; unfold ownQ; rw [if_pos (by decide), htx]; dsimp only; rw [if_neg (by rw [← hue, ← hq, hE]; decide), if_pos rfl, htx2]
    subst hn
    refine cc is_rtx (rtx_some htx2 (by omega) _ (M.d1 1 rfl) M.olt) ?_
    rintro en W ⟨A5, c5, A6, n6, c6, rfl, o, r2, hb⟩
    replace M := (M.callO hb o).addD r2
    clear o r2 hb
    refine ⟨_, rfl, ?_⟩
    refine p_fld fN3 rfl ?_
    refine s_set 4 (off := 3) (.slice A5 v.length c5) [.int .i64 1, .slice A9 (unpackL p).length c9, .bool false, .slice A5 v.length c5, .slice none 0 0, .slice none 0 0] M rfl sz_slP rfl rfl rfl (by show 3 < 6; decide) rfl ?_
    clear M; rintro W M
    dsimp only [setL] at M
    refine s_storeA 3 (rc A6 n6 c6 Ad nd cd left 0) M rfl sz_got rfl rfl rfl (all1 rfl) rfl ?_
    clear M; rintro W M
    dsimp only [setL] at M
    replace M := M.drew
    refine drT (Kp w gs [(g2, 38, [.int .i64 1, .slice A9 (unpackL p).length c9, .bool false, .slice A5 v.length c5, .slice none 0 0, .slice none 0 0]), (g3, 90, rc A6 n6 c6 Ad nd cd left 0)] []) (.take 0 (.take 1 (.one 2 (.take 3 (.one 4 (.nil)))))) (by kernel_rfl) (M.kp (by simp) (by simp)) ?_
    refine t_loadN ([.int .i64 1, .slice A9 (unpackL p).length c9, .bool false, .slice A5 v.length c5, .slice none 0 0, .slice none 0 0]) agg_nd rfl rfl (fun W K => K.run 0 rfl) ?_
    refine t_loadN (rc A6 n6 c6 Ad nd cd left 0) agg_got rfl rfl (fun W K => K.run 1 rfl) ?_
    refine s_storeA 2 ([.int .i64 1, .slice A9 (unpackL p).length c9, .bool false, .slice A5 v.length c5, .slice none 0 0, .slice none 0 0]) M rfl sz_nd rfl rfl rfl (all1 rfl) rfl ?_
    clear M; rintro W M
    dsimp only [setL] at M
    refine ⟨(M.kp (by simp) (by simp)), ?_⟩
    refine s_storeA 1 (rc A6 n6 c6 Ad nd cd left 0) M rfl sz_got rfl rfl rfl (all1 rfl) rfl ?_
    clear M; rintro W M
    dsimp only [setL] at M
    refine ⟨(M.kp (by simp) (by simp)), ?_⟩
    refine c_loadN ([.int .i64 1, .slice A9 (unpackL p).length c9, .bool false, .slice A5 v.length c5, .slice none 0 0, .slice none 0 0]) agg_nd rfl rfl (M.run 2 rfl) ?_
    refine c_loadN (rc A6 n6 c6 Ad nd cd left 0) agg_got rfl rfl (M.run 1 rfl) ?_
    exact ⟨_, none, 0, 0, _, _, _, 0, rfl, rfl, (all1 rfl), M.below, rfl, RdL.ofnode (t := .mk 1 (unpackL p) false v [] []) (M.finF1 2 rfl) (M.finF1 1 rfl) (RdD.nil_ (s := 6) none 0) (RdD.nil_ (s := 1) none 0), RdD.nil_ (s := 1) none 0, M.fin1 0 rfl⟩
  refine p_eq rfl rfl (fun hk2 => ?_) (fun hk2 => ?_)
  · have hk2 : k = 2 := by
      have h : ((k.toNat : Nat) : Int) = 2 := hk2
      exact UInt8.toNat_inj.1 (show k.toNat = 2 by omega)
    subst hk2
    refine v_loadN (rc A n c Ad nd cd left 0) agg_got rfl rfl (M.run 2 rfl) ?_
    cases htx : textX b with
    | none =>
      have hq : Q = none := by rw [← hQ]; unfold ownQ; rw [if_pos (by decide), htx]
      subst hq
      refine cc is_rtx (rtx_none htx hz _ (M.d1 0 rfl)) ?_
      rintro en W ⟨rfl, hb⟩
      replace M := M.call hb
      clear hb
      refine ⟨_, rfl, ?_⟩
      refine s_alloc (zG) M al_got ?_
      clear M
      rintro g8 W M
      refine s_storeA 0 (rc A n c Ad nd cd left 11) M rfl sz_got rfl rfl rfl (all1 rfl) rfl ?_
      clear M; rintro W M
      dsimp only [setL] at M
      replace M := M.addD (d := dB []) (RdD.nil_ (s := 1) none 0)
      refine cc is_rup6 (rup_any [] _ _ none 0 0 (M.d1 0 rfl) M.olt (by decide)) ?_
      rintro e W ⟨A9, n9, c9, rfl, r9, hb⟩
      replace M := M.call hb
      clear r9 hb
      refine ⟨_, rfl, ?_⟩
      refine p_fld fG3 rfl ?_
      refine v_load agg_int rfl ((M.B 0 rfl).at_ rfl) ?_
      refine p_ne rfl rfl (fun h => absurd (show (11 : Int) = 0 from h) (by decide)) (fun _ => ?_)
      replace M := M.drew
      refine drT (Kp w gs [(g2, 38, (n0 2)), (g8, 90, rc A n c Ad nd cd left 11)] []) (.take 0 (.take 1 (.one 2 (.one 3 (.take 4 (.one 5 (.nil))))))) (by kernel_rfl) (M.kp (by simp) (by simp)) ?_
      refine t_loadN ((n0 2)) agg_nd rfl rfl (fun W K => K.run 0 rfl) ?_
      refine t_loadN (rc A n c Ad nd cd left 11) agg_got rfl rfl (fun W K => K.run 1 rfl) ?_
      refine cc is_rwrong (rwrong_any _ _ _ _ _ _ _ _ 11 11) ?_
      rintro en W ⟨rfl, hb⟩
      replace M := M.call hb
      clear hb
      refine ⟨_, rfl, (M.kp (by simp) (by simp)), ?_⟩
      refine s_storeA 2 ((n0 2)) M rfl sz_nd rfl rfl rfl (all1 rfl) rfl ?_
      clear M; rintro W M
      dsimp only [setL] at M
      refine ⟨(M.kp (by simp) (by simp)), ?_⟩
      refine s_storeA 1 (rc A n c Ad nd cd left 11) M rfl sz_got rfl rfl rfl (all1 rfl) rfl ?_
      clear M; rintro W M
      dsimp only [setL] at M
      refine ⟨(M.kp (by simp) (by simp)), ?_⟩
      refine c_loadN ((n0 2)) agg_nd rfl rfl (M.run 2 rfl) ?_
      refine c_loadN (rc A n c Ad nd cd left 11) agg_got rfl rfl (M.run 1 rfl) ?_
      exact ⟨_, none, 0, 0, _, _, _, 11, rfl, rfl, (all1 rfl), M.below, rfl, _, M.fin1 1 rfl⟩
    | some pr =>
    obtain ⟨p, b1⟩ := pr
    obtain ⟨ebb, hpl⟩ := textX_same htx
    have hlb := textX_le htx
    refine cc is_rtx (rtx_some htx hz _ (M.d1 0 rfl) M.olt) ?_
    rintro en W ⟨A1, c1, A2, n2, c2, rfl, o, r2, hb⟩
    have e2 := r2.slen
    replace M := (M.callO hb o).addD r2
    clear o r2 hb
    refine ⟨_, rfl, ?_⟩
    refine s_alloc (zG) M al_got ?_
    clear M
    rintro g8 W M
    refine s_storeA 0 (rc A2 n2 c2 Ad nd cd left 0) M rfl sz_got rfl rfl rfl (all1 rfl) rfl ?_
    clear M; rintro W M
    dsimp only [setL] at M
    obtain ⟨q, hq⟩ : ∃ q, q = unpackB p := ⟨_, rfl⟩
    obtain ⟨ue, hue⟩ : ∃ ue, ue = unpackE p := ⟨_, rfl⟩
    have cu := rup_any p _ _ A1 _ c1 (M.d1 1 rfl) M.olt (by omega)
    rw [← hq, ← hue] at cu
    refine cc is_rup6 cu ?_
    clear cu
    rintro e W ⟨A9, n9, c9, rfl, r9, hb⟩
    have e9 := r9.slen
    subst e9
    replace M := M.callF1 hb r9
    clear r9 hb
    refine ⟨_, rfl, ?_⟩
    refine p_fld fG3 rfl ?_
    refine v_load agg_int rfl ((M.B 0 rfl).at_ rfl) ?_
    refine p_ne rfl rfl (fun _ => ?_) (fun h => absurd rfl h)
    refine p_ne rfl rfl (fun hE => ?_) (fun hE => ?_)
    rotate_left
    · have hE : ¬ ue = 0 := hE
      have hn : Q = none := by rw [← hQ]; unfold ownQ; rw [if_pos (by decide), htx]; dsimp only; rw [if_pos (.inl (by rw [← hue]; exact hE))]
      subst hn
      replace M := M.drew
      refine drT (Kp w gs [(g2, 38, (n0 2)), (g8, 90, rc A2 n2 c2 Ad nd cd left 0)] []) (.take 0 (.take 1 (.one 2 (.one 3 (.take 4 (.one 5 (.nil))))))) (by kernel_rfl) (M.kp (by simp) (by simp)) ?_
      refine t_loadN ((n0 2)) agg_nd rfl rfl (fun W K => K.run 0 rfl) ?_
      refine t_loadN (rc A2 n2 c2 Ad nd cd left 0) agg_got rfl rfl (fun W K => K.run 1 rfl) ?_
      refine cc is_rwrong (rwrong_any _ _ _ _ _ _ _ _ 0 11) ?_
      rintro en W ⟨rfl, hb⟩
      replace M := M.call hb
      clear hb
      refine ⟨_, rfl, (M.kp (by simp) (by simp)), ?_⟩
      refine s_storeA 2 ((n0 2)) M rfl sz_nd rfl rfl rfl (all1 rfl) rfl ?_
      clear M; rintro W M
      dsimp only [setL] at M
      refine ⟨(M.kp (by simp) (by simp)), ?_⟩
      refine s_storeA 1 (rc A2 n2 c2 Ad nd cd left 11) M rfl sz_got rfl rfl rfl (all1 rfl) rfl ?_
      clear M; rintro W M
      dsimp only [setL] at M
      refine ⟨(M.kp (by simp) (by simp)), ?_⟩
      refine c_loadN ((n0 2)) agg_nd rfl rfl (M.run 2 rfl) ?_
      refine c_loadN (rc A2 n2 c2 Ad nd cd left 11) agg_got rfl rfl (M.run 1 rfl) ?_
      exact ⟨_, none, 0, 0, _, _, _, 11, rfl, rfl, (all1 rfl), M.below, rfl, _, M.fin1 1 rfl⟩
    have hE : ue = 0 := hE
    refine p_fld fN0 rfl ?_
    refine v_load agg_int rfl ((M.B 4 rfl).at_ rfl) ?_
    refine p_eq rfl rfl (fun h => absurd h (by decide)) (fun _ => ?_)
    cases q with
    | true =>
      have hn : Q = none := by rw [← hQ]; unfold ownQ; rw [if_pos (by decide), htx]; dsimp only; rw [if_pos (.inr (by rw [← hq]; decide))]
      subst hn
      refine p_bneC u_bool rfl rfl (fun h => absurd h (by decide)) (fun _ => ?_)
      replace M := M.drew
      refine drT (Kp w gs [(g2, 38, (n0 2)), (g8, 90, rc A2 n2 c2 Ad nd cd left 0)] []) (.take 0 (.take 1 (.one 2 (.one 3 (.take 4 (.one 5 (.nil))))))) (by kernel_rfl) (M.kp (by simp) (by simp)) ?_
      refine t_loadN ((n0 2)) agg_nd rfl rfl (fun W K => K.run 0 rfl) ?_
      refine t_loadN (rc A2 n2 c2 Ad nd cd left 0) agg_got rfl rfl (fun W K => K.run 1 rfl) ?_
      refine cc is_rwrong (rwrong_any _ _ _ _ _ _ _ _ 0 11) ?_
      rintro en W ⟨rfl, hb⟩
      replace M := M.call hb
      clear hb
      refine ⟨_, rfl, (M.kp (by simp) (by simp)), ?_⟩
      refine s_storeA 2 ((n0 2)) M rfl sz_nd rfl rfl rfl (all1 rfl) rfl ?_
      clear M; rintro W M
      dsimp only [setL] at M
      refine ⟨(M.kp (by simp) (by simp)), ?_⟩
      refine s_storeA 1 (rc A2 n2 c2 Ad nd cd left 11) M rfl sz_got rfl rfl rfl (all1 rfl) rfl ?_
      clear M; rintro W M
      dsimp only [setL] at M
      refine ⟨(M.kp (by simp) (by simp)), ?_⟩
      refine c_loadN ((n0 2)) agg_nd rfl rfl (M.run 2 rfl) ?_
      refine c_loadN (rc A2 n2 c2 Ad nd cd left 11) agg_got rfl rfl (M.run 1 rfl) ?_
      exact ⟨_, none, 0, 0, _, _, _, 11, rfl, rfl, (all1 rfl), M.below, rfl, _, M.fin1 1 rfl⟩
    | false =>
    refine p_bneC u_bool rfl rfl (fun _ => ?_) (fun h => absurd rfl h)
    refine p_fld fN1 rfl ?_
    refine s_set 4 (off := 1) (.slice A9 (unpackL p).length c9) [.int .i64 2, .slice A9 (unpackL p).length c9, .bool false, .slice none 0 0, .slice none 0 0, .slice none 0 0] M rfl sz_slP rfl rfl rfl (by show 1 < 6; decide) rfl ?_
    clear M; rintro W M
    dsimp only [setL] at M
    refine v_loadN (rc A2 n2 c2 Ad nd cd left 0) agg_got rfl rfl (M.run 0 rfl) ?_
    refine s_storeA 3 (rc A2 n2 c2 Ad nd cd left 0) M rfl sz_got rfl rfl rfl (all1 rfl) rfl ?_
    clear M; rintro W M
    dsimp only [setL] at M
    have hn : Q = some (.mk 2 (unpackL p) false [] [] [], [], b1) := by rw [← hQ]; unfold ownQ; rw [if_pos (by decide), htx]; dsimp only; rw [if_neg (by rw [← hue, ← hq, hE]; decide), if_neg (by decide)]
    subst hn
    replace M := M.drew
    refine drT (Kp w gs [(g2, 38, [.int .i64 2, .slice A9 (unpackL p).length c9, .bool false, .slice none 0 0, .slice none 0 0, .slice none 0 0]), (g3, 90, rc A2 n2 c2 Ad nd cd left 0)] []) (.take 0 (.take 1 (.one 2 (.take 3 (.one 4 (.nil)))))) (by kernel_rfl) (M.kp (by simp) (by simp)) ?_
    refine t_loadN ([.int .i64 2, .slice A9 (unpackL p).length c9, .bool false, .slice none 0 0, .slice none 0 0, .slice none 0 0]) agg_nd rfl rfl (fun W K => K.run 0 rfl) ?_
    refine t_loadN (rc A2 n2 c2 Ad nd cd left 0) agg_got rfl rfl (fun W K => K.run 1 rfl) ?_
    refine s_storeA 2 ([.int .i64 2, .slice A9 (unpackL p).length c9, .bool false, .slice none 0 0, .slice none 0 0, .slice none 0 0]) M rfl sz_nd rfl rfl rfl (all1 rfl) rfl ?_
    clear M; rintro W M
    dsimp only [setL] at M
    refine ⟨(M.kp (by simp) (by simp)), ?_⟩
    refine s_storeA 1 (rc A2 n2 c2 Ad nd cd left 0) M rfl sz_got rfl rfl rfl (all1 rfl) rfl ?_
    clear M; rintro W M
    dsimp only [setL] at M
    refine ⟨(M.kp (by simp) (by simp)), ?_⟩
    refine c_loadN ([.int .i64 2, .slice A9 (unpackL p).length c9, .bool false, .slice none 0 0, .slice none 0 0, .slice none 0 0]) agg_nd rfl rfl (M.run 2 rfl) ?_
    refine c_loadN (rc A2 n2 c2 Ad nd cd left 0) agg_got rfl rfl (M.run 1 rfl) ?_
    exact ⟨_, none, 0, 0, _, _, _, 0, rfl, rfl, (all1 rfl), M.below, rfl, RdL.ofnode (t := .mk 2 (unpackL p) false [] [] []) (M.finF1 0 rfl) (RdD.nil_ (s := 1) none 0) (RdD.nil_ (s := 6) none 0) (RdD.nil_ (s := 1) none 0), RdD.nil_ (s := 1) none 0, M.fin1 1 rfl⟩
  refine p_eq rfl rfl (fun hk3 => ?_) (fun hk3 => ?_)
  · have hk3 : k = 3 := by
      have h : ((k.toNat : Nat) : Int) = 3 := hk3
      exact UInt8.toNat_inj.1 (show k.toNat = 3 by omega)
    subst hk3
    refine p_fld fG0 rfl ?_
    refine v_load agg_b rfl ((M.B 2 rfl).at_ rfl) ?_
    refine p_len slb rfl ?_
    match b, h, hQ, en, M with
    | [], h, hQ, en, M =>
      have hq : Q = none := by rw [← hQ]; rfl
      subst hq
      have en : n = 0 := en
      refine p_lt rfl rfl (fun _ => ?_) (fun h => absurd (show ((n : Nat) : Int) < 1 by omega) h)
      replace M := M.drew
      refine drT (Kp w gs [(g2, 38, (n0 3)), (g3, 90, rc A n c Ad nd cd left 0)] []) (.take 0 (.take 1 (.one 2 (.one 3 (.take 4 (.one 5 (.nil))))))) (by kernel_rfl) (M.kp (by simp) (by simp)) ?_
      refine t_loadN ((n0 3)) agg_nd rfl rfl (fun W K => K.run 0 rfl) ?_
      refine t_loadN (rc A n c Ad nd cd left 0) agg_got rfl rfl (fun W K => K.run 1 rfl) ?_
      refine cc is_rwrong (rwrong_any _ _ _ _ _ _ _ _ 0 11) ?_
      rintro en W ⟨rfl, hb⟩
      replace M := M.call hb
      clear hb
      refine ⟨_, rfl, (M.kp (by simp) (by simp)), ?_⟩
      refine s_storeA 1 ((n0 3)) M rfl sz_nd rfl rfl rfl (all1 rfl) rfl ?_
      clear M; rintro W M
      dsimp only [setL] at M
      refine ⟨(M.kp (by simp) (by simp)), ?_⟩
      refine s_storeA 0 (rc A n c Ad nd cd left 11) M rfl sz_got rfl rfl rfl (all1 rfl) rfl ?_
      clear M; rintro W M
      dsimp only [setL] at M
      refine ⟨(M.kp (by simp) (by simp)), ?_⟩
      refine c_loadN ((n0 3)) agg_nd rfl rfl (M.run 1 rfl) ?_
      refine c_loadN (rc A n c Ad nd cd left 11) agg_got rfl rfl (M.run 0 rfl) ?_
      exact ⟨_, none, 0, 0, _, _, _, 11, rfl, rfl, (all1 rfl), M.below, rfl, _, M.fin1 0 rfl⟩
    | x :: b1, h, hQ, en, M =>
      have en : n = b1.length + 1 := en
      refine p_lt rfl rfl (fun h => absurd (show ((n : Nat) : Int) < 1 from h) (by omega)) (fun _ => ?_)
      obtain ⟨gb, ob, rfl, M'⟩ := M.at8c (M.d1 0 rfl) (i := 0) (by omega)
      replace M := M'; clear M'
      have h2 := (M.d1 1 rfl).cutB (i := 1) (j := n) (m := c) (by omega) (Nat.le_refl _) hcap
      rw [List.drop_succ_cons, List.drop_zero, List.take_of_length_le (by omega)] at h2
      replace M := M.addD h2
      clear h2
      refine p_fld fG0 rfl ?_
      refine v_load agg_b rfl ((M.B 2 rfl).at_ rfl) ?_
      refine p_at (i := 0) slb rfl rfl rfl (by omega) ?_
      refine v_load agg_u8 rfl (M.lc 1 rfl 0 _ rfl) ?_
      have hx8 : at8 (x :: b1) 0 = ((x.toNat : Nat) : Int) := rfl
      rw [hx8]
      obtain ⟨A2, hA2⟩ : ∃ A2, A2 = slA (some ⟨gb, ob, none⟩) c 1 1 := ⟨_, rfl⟩
      rw [← hA2] at M
      refine p_eq rfl rfl (fun hx => ?_) (fun hx => ?_)
      · have hx : x = 1 := by
          have h : ((x.toNat : Nat) : Int) = 1 := hx
          exact UInt8.toNat_inj.1 (show x.toNat = 1 by omega)
        subst hx
        refine p_fld fN2 rfl ?_
        refine s_set 3 (off := 2) (.bool true) [.int .i64 3, .slice none 0 0, .bool true, .slice none 0 0, .slice none 0 0, .slice none 0 0] M rfl sz_boK rfl rfl rfl (by show 2 < 6; decide) rfl ?_
        clear M; rintro W M
        dsimp only [setL] at M
        refine p_fld fG0 rfl ?_
        refine v_load agg_b rfl ((M.B 2 rfl).at_ rfl) ?_
        refine p_slice (i := 1) (j := n) (m := c) slb rfl (bnd_i rfl) rfl rfl rfl (by omega) hcap (Nat.le_refl _) ?_
        rw [← hA2]
        refine p_fld fG0 rfl ?_
        refine s_set 2 (off := 0) (.slice A2 (n - 1) (c - 1)) (rc A2 (n - 1) (c - 1) Ad nd cd left 0) M rfl sz_slP rfl rfl rfl (by show 0 < 4; decide) rfl ?_
        clear M; rintro W M
        dsimp only [setL] at M
        refine p_fld fN2 rfl ?_
        refine v_load agg_bo rfl ((M.B 3 rfl).at_ rfl) ?_
        refine v_loadN (rc A2 (n - 1) (c - 1) Ad nd cd left 0) agg_got rfl rfl (M.run 2 rfl) ?_
        cases htx : textX b1 with
        | none =>
          have hn : Q = none := by rw [← hQ]; unfold ownQ; rw [if_neg (by decide), if_pos rfl]; dsimp only; rw [if_pos rfl, htx]
          subst hn
          refine cc is_rtx (rtx_none htx (by omega) _ (M.d1 0 rfl)) ?_
          rintro en W ⟨rfl, hb⟩
          replace M := M.call hb
          clear hb
          refine ⟨_, rfl, ?_⟩
          refine p_fld fN3 rfl ?_
          refine s_set 3 (off := 3) (.slice none 0 0) [.int .i64 3, .slice none 0 0, .bool true, .slice none 0 0, .slice none 0 0, .slice none 0 0] M rfl sz_slP rfl rfl rfl (by show 3 < 6; decide) rfl ?_
          clear M; rintro W M
          dsimp only [setL] at M
          refine s_storeA 2 (rc A2 (n - 1) (c - 1) Ad nd cd left 11) M rfl sz_got rfl rfl rfl (all1 rfl) rfl ?_
          clear M; rintro W M
          dsimp only [setL] at M
          refine p_fld fG3 rfl ?_
          refine v_load agg_int rfl ((M.B 2 rfl).at_ rfl) ?_
          refine p_ne rfl rfl (fun h => absurd (show (11 : Int) = 0 from h) (by decide)) (fun _ => ?_)
          replace M := M.drew
          refine drT (Kp w gs [(g2, 38, [.int .i64 3, .slice none 0 0, .bool true, .slice none 0 0, .slice none 0 0, .slice none 0 0]), (g3, 90, rc A2 (n - 1) (c - 1) Ad nd cd left 11)] []) (.take 0 (.take 1 (.one 2 (.one 3 (.take 4 (.one 5 (.nil))))))) (by kernel_rfl) (M.kp (by simp) (by simp)) ?_
          refine t_loadN ([.int .i64 3, .slice none 0 0, .bool true, .slice none 0 0, .slice none 0 0, .slice none 0 0]) agg_nd rfl rfl (fun W K => K.run 0 rfl) ?_
          refine t_loadN (rc A2 (n - 1) (c - 1) Ad nd cd left 11) agg_got rfl rfl (fun W K => K.run 1 rfl) ?_
          refine cc is_rwrong (rwrong_any _ _ _ _ _ _ _ _ 11 11) ?_
          rintro en W ⟨rfl, hb⟩
          replace M := M.call hb
          clear hb
          refine ⟨_, rfl, (M.kp (by simp) (by simp)), ?_⟩
          refine s_storeA 1 ([.int .i64 3, .slice none 0 0, .bool true, .slice none 0 0, .slice none 0 0, .slice none 0 0]) M rfl sz_nd rfl rfl rfl (all1 rfl) rfl ?_
          clear M; rintro W M
          dsimp only [setL] at M
          refine ⟨(M.kp (by simp) (by simp)), ?_⟩
          refine s_storeA 0 (rc A2 (n - 1) (c - 1) Ad nd cd left 11) M rfl sz_got rfl rfl rfl (all1 rfl) rfl ?_
          clear M; rintro W M
          dsimp only [setL] at M
          refine ⟨(M.kp (by simp) (by simp)), ?_⟩
          refine c_loadN ([.int .i64 3, .slice none 0 0, .bool true, .slice none 0 0, .slice none 0 0, .slice none 0 0]) agg_nd rfl rfl (M.run 1 rfl) ?_
          refine c_loadN (rc A2 (n - 1) (c - 1) Ad nd cd left 11) agg_got rfl rfl (M.run 0 rfl) ?_
          exact ⟨_, none, 0, 0, _, _, _, 11, rfl, rfl, (all1 rfl), M.below, rfl, _, M.fin1 0 rfl⟩
        | some pr =>
        obtain ⟨v, b2⟩ := pr
        have hlb := textX_le htx
        refine cc is_rtx (rtx_some htx (by omega) _ (M.d1 0 rfl) M.olt) ?_
        rintro en W ⟨A5, c5, A6, n6, c6, rfl, o, r2, hb⟩
        have e6 := r2.slen
        subst e6
        replace M := (M.callO hb o).addD r2
        clear o r2 hb
        refine ⟨_, rfl, ?_⟩
        refine p_fld fN3 rfl ?_
        refine s_set 3 (off := 3) (.slice A5 v.length c5) [.int .i64 3, .slice none 0 0, .bool true, .slice A5 v.length c5, .slice none 0 0, .slice none 0 0] M rfl sz_slP rfl rfl rfl (by show 3 < 6; decide) rfl ?_
        clear M; rintro W M
        dsimp only [setL] at M
        refine s_storeA 2 (rc A6 b2.length c6 Ad nd cd left 0) M rfl sz_got rfl rfl rfl (all1 rfl) rfl ?_
        clear M; rintro W M
        dsimp only [setL] at M
        have hqq : ownQ 3 (1 :: b1) = if b2.length < 2 then none else some (.mk 3 [] true v [] [], b2.take 2, b2.drop 2) := by unfold ownQ; rw [if_neg (by decide), if_pos rfl]; dsimp only; rw [if_pos rfl, htx]; rfl
        rw [hqq] at hQ
        have hcp2 := (M.d1 0 rfl).scap
        refine p_fld fG3 rfl ?_
        refine v_load agg_int rfl ((M.B 2 rfl).at_ rfl) ?_
        refine p_ne rfl rfl (fun _ => ?_) (fun h => absurd rfl h)
        refine p_fld fG0 rfl ?_
        refine v_load agg_b rfl ((M.B 2 rfl).at_ rfl) ?_
        refine p_len slb rfl ?_
        refine p_lt rfl rfl (fun hl => ?_) (fun hl => ?_)
        · have hl : ((b2.length : Nat) : Int) < 2 := hl
          have hn : Q = none := by rw [← hQ]; rw [if_pos (by omega)]
          subst hn
          replace M := M.drew
          refine drT (Kp w gs [(g2, 38, [.int .i64 3, .slice none 0 0, .bool true, .slice A5 v.length c5, .slice none 0 0, .slice none 0 0]), (g3, 90, rc A6 b2.length c6 Ad nd cd left 0)] []) (.take 0 (.take 1 (.one 2 (.one 3 (.take 4 (.one 5 (.nil))))))) (by kernel_rfl) (M.kp (by simp) (by simp)) ?_
          refine t_loadN ([.int .i64 3, .slice none 0 0, .bool true, .slice A5 v.length c5, .slice none 0 0, .slice none 0 0]) agg_nd rfl rfl (fun W K => K.run 0 rfl) ?_
          refine t_loadN (rc A6 b2.length c6 Ad nd cd left 0) agg_got rfl rfl (fun W K => K.run 1 rfl) ?_
          refine cc is_rwrong (rwrong_any _ _ _ _ _ _ _ _ 0 11) ?_
          rintro en W ⟨rfl, hb⟩
          replace M := M.call hb
          clear hb
          refine ⟨_, rfl, (M.kp (by simp) (by simp)), ?_⟩
          refine s_storeA 1 ([.int .i64 3, .slice none 0 0, .bool true, .slice A5 v.length c5, .slice none 0 0, .slice none 0 0]) M rfl sz_nd rfl rfl rfl (all1 rfl) rfl ?_
          clear M; rintro W M
          dsimp only [setL] at M
          refine ⟨(M.kp (by simp) (by simp)), ?_⟩
          refine s_storeA 0 (rc A6 b2.length c6 Ad nd cd left 11) M rfl sz_got rfl rfl rfl (all1 rfl) rfl ?_
          clear M; rintro W M
          dsimp only [setL] at M
          refine ⟨(M.kp (by simp) (by simp)), ?_⟩
          refine c_loadN ([.int .i64 3, .slice none 0 0, .bool true, .slice A5 v.length c5, .slice none 0 0, .slice none 0 0]) agg_nd rfl rfl (M.run 1 rfl) ?_
          refine c_loadN (rc A6 b2.length c6 Ad nd cd left 11) agg_got rfl rfl (M.run 0 rfl) ?_
          exact ⟨_, none, 0, 0, _, _, _, 11, rfl, rfl, (all1 rfl), M.below, rfl, _, M.fin1 0 rfl⟩
        have hl : ¬ ((b2.length : Nat) : Int) < 2 := hl
        have h1 := (M.d1 0 rfl).cutB (i := 0) (j := 2) (m := c6) (Nat.zero_le _) (by omega) (by omega)
        have h2 := (M.d1 0 rfl).cutB (i := 2) (j := b2.length) (m := c6) (by omega) (Nat.le_refl _) hcp2
        rw [List.drop_zero] at h1
        rw [List.take_of_length_le (by rw [List.length_drop]; omega)] at h2
        replace M := (M.addD h2).addD h1
        clear h1 h2
        refine p_fld fG0 rfl ?_
        refine v_load agg_b rfl ((M.B 2 rfl).at_ rfl) ?_
        refine p_slice (i := 0) (j := 2) (m := c6) slb rfl rfl (bnd_i rfl) rfl rfl (Nat.zero_le _) (by omega) (Nat.le_refl _) ?_
        refine p_fld fG0 rfl ?_
        refine v_load agg_b rfl ((M.B 2 rfl).at_ rfl) ?_
        refine p_slice (i := 2) (j := b2.length) (m := c6) slb rfl (bnd_i rfl) rfl rfl rfl (by omega) hcp2 (Nat.le_refl _) ?_
        refine p_fld fG0 rfl ?_
        obtain ⟨A7, hA7⟩ : ∃ A7, A7 = slA A6 c6 2 1 := ⟨_, rfl⟩
        obtain ⟨A8, hA8⟩ : ∃ A8, A8 = slA A6 c6 0 1 := ⟨_, rfl⟩
        rw [← hA7, ← hA8] at M
        rw [← hA7, ← hA8]
        refine s_set 2 (off := 0) (.slice A7 (b2.length - 2) (c6 - 2)) (rc A7 (b2.length - 2) (c6 - 2) Ad nd cd left 0) M rfl sz_slP rfl rfl rfl (by show 0 < 4; decide) rfl ?_
        clear M; rintro W M
        dsimp only [setL] at M
        replace M := M.drew
        refine drT (Kp w gs [(g2, 38, [.int .i64 3, .slice none 0 0, .bool true, .slice A5 v.length c5, .slice none 0 0, .slice none 0 0]), (g3, 90, rc A7 (b2.length - 2) (c6 - 2) Ad nd cd left 0)] []) (.take 0 (.take 1 (.take 2 (.one 3 (.take 4 (.one 5 (.nil))))))) (by kernel_rfl) (M.kp (by simp) (by simp)) ?_
        refine t_loadN ([.int .i64 3, .slice none 0 0, .bool true, .slice A5 v.length c5, .slice none 0 0, .slice none 0 0]) agg_nd rfl rfl (fun W K => K.run 0 rfl) ?_
        refine t_loadN (rc A7 (b2.length - 2) (c6 - 2) Ad nd cd left 0) agg_got rfl rfl (fun W K => K.run 1 rfl) ?_
        refine s_storeA 1 ([.int .i64 3, .slice none 0 0, .bool true, .slice A5 v.length c5, .slice none 0 0, .slice none 0 0]) M rfl sz_nd rfl rfl rfl (all1 rfl) rfl ?_
        clear M; rintro W M
        dsimp only [setL] at M
        refine ⟨(M.kp (by simp) (by simp)), ?_⟩
        refine s_storeA 0 (rc A7 (b2.length - 2) (c6 - 2) Ad nd cd left 0) M rfl sz_got rfl rfl rfl (all1 rfl) rfl ?_
        clear M; rintro W M
        dsimp only [setL] at M
        refine ⟨(M.kp (by simp) (by simp)), ?_⟩
        refine c_loadN ([.int .i64 3, .slice none 0 0, .bool true, .slice A5 v.length c5, .slice none 0 0, .slice none 0 0]) agg_nd rfl rfl (M.run 1 rfl) ?_
        refine c_loadN (rc A7 (b2.length - 2) (c6 - 2) Ad nd cd left 0) agg_got rfl rfl (M.run 0 rfl) ?_
        rw [if_neg (by omega)] at hQ
        subst hQ
        exact ⟨_, A8, 2, c6, _, _, _, 0, rfl, rfl, (all1 rfl), M.below, rfl, RdL.ofnode (t := .mk 3 [] true v [] []) (RdD.nil_ (s := 1) none 0) (M.finF1 3 rfl) (RdD.nil_ (s := 6) none 0) (RdD.nil_ (s := 1) none 0), M.fin1 0 rfl, M.fin1 1 rfl⟩
      · have hx : x ≠ 1 := fun e => hx (by rw [e]; rfl)
        have hdx : decide (x = 1) = false := decide_eq_false hx
        refine p_fld fN2 rfl ?_
        refine s_set 3 (off := 2) (.bool false) [.int .i64 3, .slice none 0 0, .bool false, .slice none 0 0, .slice none 0 0, .slice none 0 0] M rfl sz_boK rfl rfl rfl (by show 2 < 6; decide) rfl ?_
        clear M; rintro W M
        dsimp only [setL] at M
        refine p_fld fG0 rfl ?_
        refine v_load agg_b rfl ((M.B 2 rfl).at_ rfl) ?_
        refine p_slice (i := 1) (j := n) (m := c) slb rfl (bnd_i rfl) rfl rfl rfl (by omega) hcap (Nat.le_refl _) ?_
        rw [← hA2]
        refine p_fld fG0 rfl ?_
        refine s_set 2 (off := 0) (.slice A2 (n - 1) (c - 1)) (rc A2 (n - 1) (c - 1) Ad nd cd left 0) M rfl sz_slP rfl rfl rfl (by show 0 < 4; decide) rfl ?_
        clear M; rintro W M
        dsimp only [setL] at M
        refine p_fld fN2 rfl ?_
        refine v_load agg_bo rfl ((M.B 3 rfl).at_ rfl) ?_
        have hlb : n - 1 = b1.length := by omega
        rw [hlb] at M
        have hqq : ownQ 3 (x :: b1) = if b1.length < 2 then none else some (.mk 3 [] false [] [] [], b1.take 2, b1.drop 2) := by unfold ownQ; rw [if_neg (by decide), if_pos rfl]; dsimp only; rw [if_neg hx, hdx]
        rw [hqq] at hQ
        rw [hlb]
        have hcp2 := (M.d1 0 rfl).scap
        refine p_fld fG3 rfl ?_
        refine v_load agg_int rfl ((M.B 2 rfl).at_ rfl) ?_
        refine p_ne rfl rfl (fun _ => ?_) (fun h => absurd rfl h)
        refine p_fld fG0 rfl ?_
        refine v_load agg_b rfl ((M.B 2 rfl).at_ rfl) ?_
        refine p_len slb rfl ?_
        refine p_lt rfl rfl (fun hl => ?_) (fun hl => ?_)
        · have hl : ((b1.length : Nat) : Int) < 2 := hl
          have hn : Q = none := by rw [← hQ]; rw [if_pos (by omega)]
          subst hn
          replace M := M.drew
          refine drT (Kp w gs [(g2, 38, [.int .i64 3, .slice none 0 0, .bool false, .slice none 0 0, .slice none 0 0, .slice none 0 0]), (g3, 90, rc A2 b1.length (c - 1) Ad nd cd left 0)] []) (.take 0 (.take 1 (.one 2 (.one 3 (.take 4 (.one 5 (.nil))))))) (by kernel_rfl) (M.kp (by simp) (by simp)) ?_
          refine t_loadN ([.int .i64 3, .slice none 0 0, .bool false, .slice none 0 0, .slice none 0 0, .slice none 0 0]) agg_nd rfl rfl (fun W K => K.run 0 rfl) ?_
          refine t_loadN (rc A2 b1.length (c - 1) Ad nd cd left 0) agg_got rfl rfl (fun W K => K.run 1 rfl) ?_
          refine cc is_rwrong (rwrong_any _ _ _ _ _ _ _ _ 0 11) ?_
          rintro en W ⟨rfl, hb⟩
          replace M := M.call hb
          clear hb
          refine ⟨_, rfl, (M.kp (by simp) (by simp)), ?_⟩
          refine s_storeA 1 ([.int .i64 3, .slice none 0 0, .bool false, .slice none 0 0, .slice none 0 0, .slice none 0 0]) M rfl sz_nd rfl rfl rfl (all1 rfl) rfl ?_
          clear M; rintro W M
          dsimp only [setL] at M
          refine ⟨(M.kp (by simp) (by simp)), ?_⟩
          refine s_storeA 0 (rc A2 b1.length (c - 1) Ad nd cd left 11) M rfl sz_got rfl rfl rfl (all1 rfl) rfl ?_
          clear M; rintro W M
          dsimp only [setL] at M
          refine ⟨(M.kp (by simp) (by simp)), ?_⟩
          refine c_loadN ([.int .i64 3, .slice none 0 0, .bool false, .slice none 0 0, .slice none 0 0, .slice none 0 0]) agg_nd rfl rfl (M.run 1 rfl) ?_
          refine c_loadN (rc A2 b1.length (c - 1) Ad nd cd left 11) agg_got rfl rfl (M.run 0 rfl) ?_
          exact ⟨_, none, 0, 0, _, _, _, 11, rfl, rfl, (all1 rfl), M.below, rfl, _, M.fin1 0 rfl⟩
        have hl : ¬ ((b1.length : Nat) : Int) < 2 := hl
        have h1 := (M.d1 0 rfl).cutB (i := 0) (j := 2) (m := (c - 1)) (Nat.zero_le _) (by omega) (by omega)
        have h2 := (M.d1 0 rfl).cutB (i := 2) (j := b1.length) (m := (c - 1)) (by omega) (Nat.le_refl _) hcp2
        rw [List.drop_zero] at h1
        rw [List.take_of_length_le (by rw [List.length_drop]; omega)] at h2
        replace M := (M.addD h2).addD h1
        clear h1 h2
        refine p_fld fG0 rfl ?_
        refine v_load agg_b rfl ((M.B 2 rfl).at_ rfl) ?_
        refine p_slice (i := 0) (j := 2) (m := (c - 1)) slb rfl rfl (bnd_i rfl) rfl rfl (Nat.zero_le _) (by omega) (Nat.le_refl _) ?_
        refine p_fld fG0 rfl ?_
        refine v_load agg_b rfl ((M.B 2 rfl).at_ rfl) ?_
        refine p_slice (i := 2) (j := b1.length) (m := (c - 1)) slb rfl (bnd_i rfl) rfl rfl rfl (by omega) hcp2 (Nat.le_refl _) ?_
        refine p_fld fG0 rfl ?_
        obtain ⟨A7, hA7⟩ : ∃ A7, A7 = slA A2 (c - 1) 2 1 := ⟨_, rfl⟩
        obtain ⟨A8, hA8⟩ : ∃ A8, A8 = slA A2 (c - 1) 0 1 := ⟨_, rfl⟩
        rw [← hA7, ← hA8] at M
        rw [← hA7, ← hA8]
        refine s_set 2 (off := 0) (.slice A7 (b1.length - 2) ((c - 1) - 2)) (rc A7 (b1.length - 2) ((c - 1) - 2) Ad nd cd left 0) M rfl sz_slP rfl rfl rfl (by show 0 < 4; decide) rfl ?_
        clear M; rintro W M
        dsimp only [setL] at M
        replace M := M.drew
        refine drT (Kp w gs [(g2, 38, [.int .i64 3, .slice none 0 0, .bool false, .slice none 0 0, .slice none 0 0, .slice none 0 0]), (g3, 90, rc A7 (b1.length - 2) ((c - 1) - 2) Ad nd cd left 0)] []) (.take 0 (.take 1 (.take 2 (.one 3 (.take 4 (.one 5 (.nil))))))) (by kernel_rfl) (M.kp (by simp) (by simp)) ?_
        refine t_loadN ([.int .i64 3, .slice none 0 0, .bool false, .slice none 0 0, .slice none 0 0, .slice none 0 0]) agg_nd rfl rfl (fun W K => K.run 0 rfl) ?_
        refine t_loadN (rc A7 (b1.length - 2) ((c - 1) - 2) Ad nd cd left 0) agg_got rfl rfl (fun W K => K.run 1 rfl) ?_
        refine s_storeA 1 ([.int .i64 3, .slice none 0 0, .bool false, .slice none 0 0, .slice none 0 0, .slice none 0 0]) M rfl sz_nd rfl rfl rfl (all1 rfl) rfl ?_
        clear M; rintro W M
        dsimp only [setL] at M
        refine ⟨(M.kp (by simp) (by simp)), ?_⟩
        refine s_storeA 0 (rc A7 (b1.length - 2) ((c - 1) - 2) Ad nd cd left 0) M rfl sz_got rfl rfl rfl (all1 rfl) rfl ?_
        clear M; rintro W M
        dsimp only [setL] at M
        refine ⟨(M.kp (by simp) (by simp)), ?_⟩
        refine c_loadN ([.int .i64 3, .slice none 0 0, .bool false, .slice none 0 0, .slice none 0 0, .slice none 0 0]) agg_nd rfl rfl (M.run 1 rfl) ?_
        refine c_loadN (rc A7 (b1.length - 2) ((c - 1) - 2) Ad nd cd left 0) agg_got rfl rfl (M.run 0 rfl) ?_
        rw [if_neg (by omega)] at hQ
        subst hQ
        exact ⟨_, A8, 2, c - 1, _, _, _, 0, rfl, rfl, (all1 rfl), M.below, rfl, RdL.ofnode (t := .mk 3 [] false [] [] []) (RdD.nil_ (s := 1) none 0) (RdD.nil_ (s := 1) none 0) (RdD.nil_ (s := 6) none 0) (RdD.nil_ (s := 1) none 0), M.fin1 0 rfl, M.fin1 1 rfl⟩
  refine p_eq rfl rfl (fun hk4 => ?_) (fun hk4 => ?_)
  · have hk4 : k = 4 := by
      have h : ((k.toNat : Nat) : Int) = 4 := hk4
      exact UInt8.toNat_inj.1 (show k.toNat = 4 by omega)
    subst hk4
    have hqq : ownQ 4 b = if b.length < 32 then none else some (.mk 4 [] false [] [] (b.take 32), [], b.drop 32) := by unfold ownQ; rw [if_neg (by decide), if_neg (by decide), if_pos rfl]
    rw [hqq] at hQ
    refine p_fld fG0 rfl ?_
    refine v_load agg_b rfl ((M.B 2 rfl).at_ rfl) ?_
    refine p_len slb rfl ?_
    refine p_lt rfl rfl (fun hl => ?_) (fun hl => ?_)
    · have hl : ((n : Nat) : Int) < 32 := hl
      rw [if_pos (by omega)] at hQ
      subst hQ
      replace M := M.drew
      refine drT (Kp w gs [(g2, 38, (n0 4)), (g3, 90, rc A n c Ad nd cd left 0)] []) (.take 0 (.take 1 (.one 2 (.one 3 (.take 4 (.one 5 (.nil))))))) (by kernel_rfl) (M.kp (by simp) (by simp)) ?_
      refine t_loadN ((n0 4)) agg_nd rfl rfl (fun W K => K.run 0 rfl) ?_
      refine t_loadN (rc A n c Ad nd cd left 0) agg_got rfl rfl (fun W K => K.run 1 rfl) ?_
      refine cc is_rwrong (rwrong_any _ _ _ _ _ _ _ _ 0 11) ?_
      rintro en W ⟨rfl, hb⟩
      replace M := M.call hb
      clear hb
      refine ⟨_, rfl, (M.kp (by simp) (by simp)), ?_⟩
      refine s_storeA 1 ((n0 4)) M rfl sz_nd rfl rfl rfl (all1 rfl) rfl ?_
      clear M; rintro W M
      dsimp only [setL] at M
      refine ⟨(M.kp (by simp) (by simp)), ?_⟩
      refine s_storeA 0 (rc A n c Ad nd cd left 11) M rfl sz_got rfl rfl rfl (all1 rfl) rfl ?_
      clear M; rintro W M
      dsimp only [setL] at M
      refine ⟨(M.kp (by simp) (by simp)), ?_⟩
      refine c_loadN ((n0 4)) agg_nd rfl rfl (M.run 1 rfl) ?_
      refine c_loadN (rc A n c Ad nd cd left 11) agg_got rfl rfl (M.run 0 rfl) ?_
      exact ⟨_, none, 0, 0, _, _, _, 11, rfl, rfl, (all1 rfl), M.below, rfl, _, M.fin1 0 rfl⟩
    have hl : ¬ ((n : Nat) : Int) < 32 := hl
    rw [if_neg (by omega)] at hQ
    subst hQ
    have h1 := (M.d1 0 rfl).cutB (i := 0) (j := 32) (m := c) (Nat.zero_le _) (by omega) (by omega)
    have h2 := (M.d1 0 rfl).cutB (i := 32) (j := n) (m := c) (by omega) (Nat.le_refl _) hcap
    rw [List.drop_zero] at h1
    rw [List.take_of_length_le (by rw [List.length_drop]; omega)] at h2
    replace M := (M.addD h2).addD h1
    clear h1 h2
    refine p_fld fG0 rfl ?_
    refine v_load agg_b rfl ((M.B 2 rfl).at_ rfl) ?_
    refine p_slice (i := 0) (j := 32) (m := c) slb rfl rfl (bnd_i rfl) rfl rfl (Nat.zero_le _) (by omega) (Nat.le_refl _) ?_
    refine cc is_copy0 (copy_any _ 32 _ (b.take 32) _ (M.rdb 0 rfl).2.2 (by decide)) ?_
    rintro e W ⟨A5, c5, rfl, o, hb⟩
    replace M := M.callO hb o
    clear o hb
    refine ⟨_, rfl, ?_⟩
    refine p_fld fN5 rfl ?_
    refine s_set 3 (off := 5) (.slice A5 32 c5) [.int .i64 4, .slice none 0 0, .bool false, .slice none 0 0, .slice none 0 0, .slice A5 32 c5] M rfl sz_slP rfl rfl rfl (by show 5 < 6; decide) rfl ?_
    clear M; rintro W M
    dsimp only [setL] at M
    refine p_fld fG0 rfl ?_
    refine v_load agg_b rfl ((M.B 2 rfl).at_ rfl) ?_
    refine p_slice (i := 32) (j := n) (m := c) slb rfl (bnd_i rfl) rfl rfl rfl (by omega) hcap (Nat.le_refl _) ?_
    obtain ⟨A7, hA7⟩ : ∃ A7, A7 = slA A c 32 1 := ⟨_, rfl⟩
    rw [← hA7] at M
    rw [← hA7]
    refine p_fld fG0 rfl ?_
    refine s_set 2 (off := 0) (.slice A7 (n - 32) (c - 32)) (rc A7 (n - 32) (c - 32) Ad nd cd left 0) M rfl sz_slP rfl rfl rfl (by show 0 < 4; decide) rfl ?_
    clear M; rintro W M
    dsimp only [setL] at M
    replace M := M.drew
    refine drT (Kp w gs [(g2, 38, [.int .i64 4, .slice none 0 0, .bool false, .slice none 0 0, .slice none 0 0, .slice A5 32 c5]), (g3, 90, rc A7 (n - 32) (c - 32) Ad nd cd left 0)] []) (.take 0 (.take 1 (.one 2 (.take 3 (.one 4 (.nil)))))) (by kernel_rfl) (M.kp (by simp) (by simp)) ?_
    refine t_loadN ([.int .i64 4, .slice none 0 0, .bool false, .slice none 0 0, .slice none 0 0, .slice A5 32 c5]) agg_nd rfl rfl (fun W K => K.run 0 rfl) ?_
    refine t_loadN (rc A7 (n - 32) (c - 32) Ad nd cd left 0) agg_got rfl rfl (fun W K => K.run 1 rfl) ?_
    refine s_storeA 1 ([.int .i64 4, .slice none 0 0, .bool false, .slice none 0 0, .slice none 0 0, .slice A5 32 c5]) M rfl sz_nd rfl rfl rfl (all1 rfl) rfl ?_
    clear M; rintro W M
    dsimp only [setL] at M
    refine ⟨(M.kp (by simp) (by simp)), ?_⟩
    refine s_storeA 0 (rc A7 (n - 32) (c - 32) Ad nd cd left 0) M rfl sz_got rfl rfl rfl (all1 rfl) rfl ?_
    clear M; rintro W M
    dsimp only [setL] at M
    refine ⟨(M.kp (by simp) (by simp)), ?_⟩
    refine c_loadN ([.int .i64 4, .slice none 0 0, .bool false, .slice none 0 0, .slice none 0 0, .slice A5 32 c5]) agg_nd rfl rfl (M.run 1 rfl) ?_
    refine c_loadN (rc A7 (n - 32) (c - 32) Ad nd cd left 0) agg_got rfl rfl (M.run 0 rfl) ?_
    have hlen : (b.take 32).length = 32 := by rw [List.length_take]; omega
    have hd := M.finF1 0 rfl
    rw [show Value.slice A5 32 c5 = Value.slice A5 (b.take 32).length c5 by rw [hlen]] at hd
    have hn := RdL.ofnode (t := .mk 4 [] false [] [] (b.take 32)) (RdD.nil_ (s := 1) none 0) (RdD.nil_ (s := 1) none 0) (RdD.nil_ (s := 6) none 0) hd
    refine ⟨_, none, 0, 0, _, _, _, 0, rfl, rfl, (all1 rfl), M.below, rfl, ?_, RdD.nil_ (s := 1) none 0, M.fin1 2 rfl⟩
    unfold ncs at hn
    rw [show (Nd.mk 4 [] false [] [] (b.take 32)).hash.length = 32 from hlen] at hn
    exact hn
  have hk0 : k = 0 := by
    have h1 : ¬ ((k.toNat : Nat) : Int) = 1 := hk1
    have h2 : ¬ ((k.toNat : Nat) : Int) = 2 := hk2
    have h3 : ¬ ((k.toNat : Nat) : Int) = 3 := hk3
    have h4' : ¬ ((k.toNat : Nat) : Int) = 4 := hk4
    exact UInt8.toNat_inj.1 (show k.toNat = 0 by omega)
  subst hk0
  have hqq : ownQ 0 b = some (noneN, [], b) := by unfold ownQ; rw [if_neg (by decide), if_neg (by decide), if_neg (by decide)]
  rw [hqq] at hQ
  subst hQ
  replace M := M.drew
  refine drT (Kp w gs [(g2, 38, (n0 0)), (g3, 90, rc A n c Ad nd cd left 0)] []) (.take 0 (.take 1 (.one 2 (.take 3 (.one 4 (.nil)))))) (by kernel_rfl) (M.kp (by simp) (by simp)) ?_
  refine t_loadN ((n0 0)) agg_nd rfl rfl (fun W K => K.run 0 rfl) ?_
  refine t_loadN (rc A n c Ad nd cd left 0) agg_got rfl rfl (fun W K => K.run 1 rfl) ?_
  refine s_storeA 1 ((n0 0)) M rfl sz_nd rfl rfl rfl (all1 rfl) rfl ?_
  clear M; rintro W M
  dsimp only [setL] at M
  refine ⟨(M.kp (by simp) (by simp)), ?_⟩
  refine s_storeA 0 (rc A n c Ad nd cd left 0) M rfl sz_got rfl rfl rfl (all1 rfl) rfl ?_
  clear M; rintro W M
  dsimp only [setL] at M
  refine ⟨(M.kp (by simp) (by simp)), ?_⟩
  refine c_loadN ((n0 0)) agg_nd rfl rfl (M.run 1 rfl) ?_
  refine c_loadN (rc A n c Ad nd cd left 0) agg_got rfl rfl (M.run 0 rfl) ?_
  exact ⟨_, none, 0, 0, _, _, _, 0, rfl, rfl, (all1 rfl), M.below, rfl, RdL.znone, RdD.nil_ (s := 1) none 0, M.fin1 0 rfl⟩
end Go.Proofs.Ytliccofjlheceaa
