/- Package reveal: Shut, agrees, Agrees. Package store: its methods, in the state of whoever calls. Package reveal: laid, open, Open, nearest. Tries, open as far as they are wanted, plainly. Package reveal: Only. Reference 10: At, Shut, below, Agrees. Reference 10: Shut, put, Open. Package store: what makes one, and what is saved. What is done to a store, as data. Tries of which something is folded, plainly. No walk here. Tries, open as far as they are wanted: they agree with the whole. Opening one stub after the other, of a trie that has none itself. -/
import Derived.Test.YtdlljmmgkoeilaaDoorG22
import Derived.Test.YtdlljmmgkoeilaaDoorG21
import Derived.Test.YtdlljmmgkoeilaaDoorG03
import Derived.Test.YtdlljmmgkoeilaaDoorG07
import Derived.Test.YtdlljmmgkoeilaaDoorG06
import Derived.Test.YtdlljmmgkoeilaaDoorG16
namespace Go.Proofs.YtdlljmmgkoeilaaDoor
open Go.RowKit
/-- A copy, its kids a row. -/
theorem St.callC {w W W' : World} {gs : List (Option Nat)} {L : Lc} {R : List Row} {fs : List Fact} (M : St w gs W L R fs) (hb : Below W.heap.size W W') {t : Nd} {Ap Av Ak Ah : Option Addr} {cp cv ck ch : Nat} {xs : List Value}
    (hrow : W'.ownsRow W.heap.size 28 6 (.slice Ak t.kids.length ck) t.kids.length xs) (hxs : RdL W' (Fz W.heap.size W' [bk Ak]) (dNs t.kids) xs)
    (h1 : RdD W' (Fz W.heap.size W' [bk Ak]) (dB t.path) (.slice Ap t.path.length cp)) (h2 : RdD W' (Fz W.heap.size W' [bk Ak]) (dB t.val) (.slice Av t.val.length cv)) (h3 : RdD W' (Fz W.heap.size W' [bk Ak]) (dB t.hash) (.slice Ah t.hash.length ch)) :
    St w gs W' L (⟨28, 6, Ak, t.kids.length, ck, xs⟩ :: R) (.dat true (dNs t.kids) xs :: .dat true [dB t.path] [.slice Ap t.path.length cp] :: .dat true [dB t.val] [.slice Av t.val.length cv] :: .dat true [dB t.hash] [.slice Ah t.hash.length ch] :: fs) := by
  have hol := M.olt
  have hms := M.size
  have M1 := M.callR (r := ⟨28, 6, Ak, t.kids.length, ck, xs⟩) hb hrow
  have hF : ∀ b, Fz W.heap.size W' [bk Ak] b → W'.heap[b]? = W'.heap[b]? ∧ Ft w W' (own L (⟨28, 6, Ak, t.kids.length, ck, xs⟩ :: R) gs) true b := fun b q => ⟨rfl, q.2.1, fun e => by
    unfold own at e hol
    rcases List.mem_append.1 e with e | e
    · have := hol b (List.mem_append_left _ e); have := q.1; omega
    rcases List.mem_append.1 e with e | e
    · rw [List.map_cons] at e
      rcases List.mem_cons.1 e with e | e
      · exact q.2.2.1 (by rw [e]; exact List.mem_cons_self ..)
      · have := hol b (List.mem_append_right _ (List.mem_append_left _ e)); have := q.1; omega
    · have := hol b (List.mem_append_right _ (List.mem_append_right _ e)); have := q.1; omega, fun _ => ⟨Nat.le_trans hms q.1, q.2.2.2⟩⟩
  exact (((M1.addT (fr := true) (RdL.one (h3.to hF))).addT (fr := true) (RdL.one (h2.to hF))).addT (fr := true) (RdL.one (h1.to hF))).addT (fr := true) (hxs.to hF)
end Go.Proofs.YtdlljmmgkoeilaaDoor
namespace Go.Proofs.YtdlljmmgkoeilaaDoor
open Go.RowKit
theorem is_sGet : isFn Tryd.prog 26 = true := by kernel_rfl
theorem is_sPut : isFn Tryd.prog 27 = true := by kernel_rfl
theorem is_sDrop : isFn Tryd.prog 28 = true := by kernel_rfl
theorem is_sRange : isFn Tryd.prog 29 = true := by kernel_rfl
theorem is_sTold : isFn Tryd.prog 38 = true := by kernel_rfl
theorem is_sHash : isFn Tryd.prog 12 = true := by kernel_rfl
theorem is_sRoot : isFn Tryd.prog 13 = true := by kernel_rfl
theorem is_sNew : isFn Tryd.prog 14 = true := by kernel_rfl
theorem is_sSave : isFn Tryd.prog 15 = true := by kernel_rfl
theorem is_sSaves : isFn Tryd.prog 11 = true := by kernel_rfl
theorem is_sLast : isFn Tryd.prog 33 = true := by kernel_rfl
theorem is_sKeep : isFn Tryd.prog 20 = true := by kernel_rfl
theorem is_sUndo : isFn Tryd.prog 18 = true := by kernel_rfl
theorem fSt0 : fieldOff Tryd.prog 74 0 = some 0 := by kernel_rfl
theorem fSt1 : fieldOff Tryd.prog 74 1 = some 6 := by kernel_rfl
theorem fSt2 : fieldOff Tryd.prog 74 2 = some 7 := by kernel_rfl
theorem fT0 : fieldOff Tryd.prog 71 0 = some 0 := by kernel_rfl
theorem agg_stt : aggOf Tryd.prog 71 = some (true, 6) := by kernel_rfl
theorem agg_sts : aggOf Tryd.prog 72 = some (false, 1) := by kernel_rfl
theorem sz_stt : (Tryd.prog.info? 71).map (·.size) = some 6 := by kernel_rfl
theorem sz_sts : (Tryd.prog.info? 72).map (·.size) = some 1 := by kernel_rfl
theorem sz_slB : (Tryd.prog.info? 23).map (·.size) = some 1 := by kernel_rfl
theorem slst : slOf Tryd.prog 72 = some (71, 6) := by kernel_rfl
theorem inf_st : (Tryd.prog.info? 71).map (fun i => (i.zero, i.size, i.bytes)) = some (some (.agg zN.toArray), 6, 112) := by kernel_rfl
theorem z_stt : zeroOf Tryd.prog 71 = some zN := by kernel_rfl
theorem al_stt : (Tryd.prog.info? 71).map (fun i => i.zero.map fun z => z.cells.toList) = some (some zN) := by kernel_rfl
theorem pl_stt : placesOf Tryd.prog 71 = some [(0, 6)] := by kernel_rfl
theorem z_sto : zeroOf Tryd.prog 74 = some (zN ++ [.slice none 0 0, .slice none 0 0]) := by kernel_rfl
theorem pl_sto : placesOf Tryd.prog 74 = some [(0, 6), (6, 1), (7, 1)] := by kernel_rfl
theorem isp_sto : isPtr Tryd.prog 34 = true := by kernel_rfl
abbrev Pts := (Option Addr × Nat) × (Option Addr × Nat) × (Option Addr × Nat) × (Option Addr × Nat)
/-- A node's cells, the places in one. -/
def pcN (t : Nd) (p : Pts) : List Value := ncs t p.1.1 p.1.2 p.2.1.1 p.2.1.2 p.2.2.1.1 p.2.2.1.2 p.2.2.2.1 p.2.2.2.2
theorem node_pts {W : World} {F : Nat → Prop} {t : Nd} {cs : List Value} (h : RdL W F (dN t) cs) : ∃ p, cs = pcN t p := by
  obtain ⟨Ap, cp, Av, cv, Ak, ck, Ah, ch, e, -⟩ := h.node
  exact ⟨((Ap, cp), (Av, cv), (Ak, ck), (Ah, ch)), e⟩
theorem Blk.pre {W : World} {g : Nat} {T : TypeId} {vs rest : List Value} (h : Blk W g T (vs ++ rest)) : ∀ j v, vs[j]? = some v → W.cell? ((⟨g, 0, none⟩ : Addr).add j) = some v :=
  h.run 0 vs fun j v hj => by rw [Nat.zero_add, List.getElem?_append_left (List.getElem?_eq_some_iff.1 hj).1]; exact hj
/-- A store, in the state of whoever holds it. -/
def Sto (w : World) (gs : List (Option Nat)) (W : World) (g : Nat) (t : Nd) (sv : Value) (L : Lc) (R : List Row) (fs : List Fact) : Prop :=
  ∃ p Am nm cm, St w gs W ((g, 74, pcN t p ++ [sv, .slice Am nm cm]) :: L) R (.dat false (dN t) (pcN t p) :: fs)
section
variable {w W : World} {gs : List (Option Nat)} {g : Nat} {t : Nd} {sv : Value} {L : Lc} {R : List Row} {fs : List Fact}
set_option maxRecDepth 100000 in
set_option maxHeartbeats 2000000 in
theorem told_any {p : Pts} {A0 : Option Addr} {n0 c0 : Nat} (M : St w gs W ((g, 74, pcN t p ++ [sv, .slice A0 n0 c0]) :: L) R fs) {t0 : Nd} {m : Option (List UInt8)} {e : Int} {Am : Option Addr} {nm cm : Nat}
    (hm : RdD W (Fd W (some g :: own L R gs)) (dB (m.getD [])) (.slice Am nm cm)) (hw : WayOk t0 m e) (hz : sz t0 ≤ 100000000) :
    Calls Tryd.prog 38 #[.pointer (some ⟨g, 0, none⟩), .slice Am nm cm, .int .i64 e] W fun en W' => en = .returned (.int .i64 e) ∧ ∃ A' n' c', St w gs W' ((g, 74, pcN t p ++ [sv, .slice A' n' c']) :: L) R fs := by
  refine calls_ev (args := [.pointer (some ⟨g, 0, none⟩), .slice Am nm cm, .int .i64 e]) mixed Tryd.func38 rfl (by kernel_rfl) ?_
  refine p_eq rfl rfl (fun he => ?_) (fun he => ?_)
  rotate_left
  · exact ⟨rfl, _, _, _, M⟩
  cases m with
  | none => exact absurd he hw
  | some r =>
  obtain ⟨-, hl⟩ := hw
  have hr : RdD W (Fd W (some g :: own L R gs)) (dB r) (.slice Am nm cm) := hm
  have hnm : nm = r.length := hr.slen
  have M := M.add (f := .dat false [dB r] [.slice Am nm cm]) (RdL.one (hr.to fun b hb => ⟨rfl, hb.1, hb.2, fun e => by cases e⟩))
  refine s_bslice0 M slb ?_
  clear M; rintro g2 W M
  refine s_appB (l := []) M rfl rfl (by first | with_reducible exact M.rd_0 | with_reducible exact M.rd_1 | with_reducible exact M.rd_2 | with_reducible exact M.rd_3 | with_reducible exact M.rd_4 | with_reducible exact M.rd_5 | with_reducible exact M.rd_6 | with_reducible exact M.rd_7 | with_reducible exact M.rd_8 | with_reducible exact M.rd_9 | with_reducible exact M.rd_10 | with_reducible exact M.rd_11) (by omega) ?_
  clear M; rintro A' c' W M -
  refine p_nil rfl ?_
  refine p_fld fSt2 rfl ?_
  refine s_set 0 (off := 7) (.slice A' (0 + nm) c') (pcN t p ++ [sv, .slice A' (0 + nm) c']) M rfl sz_slB rfl rfl rfl (by show 7 < 8; decide) rfl ?_
  clear M; rintro W M
  dsimp only [setL] at M
  exact ⟨rfl, _, _, _, M.dropR.fsub _ (fun f hf => List.mem_cons_of_mem _ hf)⟩
set_option maxRecDepth 100000 in
set_option maxHeartbeats 2000000 in
/-- What a store answers: a key's value. -/
theorem sGet_any (hS : Sto w gs W g t sv L R fs) (hz : sz t ≤ 1000000) {key : List UInt8} {A : Option Addr} {n c : Nat} (hk : RdD W (Fd W (some g :: own L R gs)) (dB key) (.slice A n c)) :
    Calls Tryd.prog 26 #[.pointer (some ⟨g, 0, none⟩), .slice A n c] W fun e W' => ∃ A' n' c', e = .returned (.tuple #[.slice A' n' c', .bool (tGet t key).has, .int .i64 (tGet t key).e]) ∧ Sto w gs W' g t sv L R (.dat false [dB (tGet t key).v] [.slice A' n' c'] :: fs) := by
  refine calls_ev (args := [.pointer (some ⟨g, 0, none⟩), .slice A n c]) mixed Tryd.func26 rfl (by kernel_rfl) ?_
  obtain ⟨p, A0, n0, c0, M⟩ := hS
  refine p_peq isp_sto rfl rfl ?_
  refine p_nil rfl ?_
  refine p_fld fSt0 rfl ?_
  refine p_fld fT0 rfl ?_
  refine v_loadN (pcN t p) agg_nd rfl rfl (M.B 0 rfl).pre ?_
  refine cc is_tGet (tGet_any t hz _ _ (pcN t p) key A n c (M.da 0 rfl) hk M.olt) ?_
  rintro e W1 ⟨A', n', c', Am, nm, cm, rfl, hv, hm, hb⟩
  replace M := M.callF2 hb hv hm.toD
  refine ⟨_, rfl, ?_⟩
  refine cc is_sTold (told_any M (M.d1 1 rfl) (wayGet t key) (by omega)) ?_
  rintro e W2 ⟨rfl, A2, n2, c2, M⟩
  refine ⟨_, rfl, ?_⟩
  refine ⟨A', n', c', rfl, p, A2, n2, c2, ?_⟩
  have M2 := M.addD (M.d1 0 rfl)
  exact M2.fsub _ (by intro f hf; simp only [List.mem_cons] at hf ⊢; rcases hf with h | h | h <;> simp [h])
/-- The first cells of a block, written over. -/
theorem pts_set {cs : List Value} {t t' : Nd} {p p' : Pts} {q : List Value} (e : cs = pcN t' p') : (pcN t p ++ q).take 0 ++ cs ++ (pcN t p ++ q).drop (0 + 6) = pcN t' p' ++ q := by subst e; rfl
set_option maxRecDepth 100000 in
set_option maxHeartbeats 2000000 in
theorem sPut_any (hS : Sto w gs W g t sv L R fs) (hz : sz t < 1000000) {key val : List UInt8} {A B : Option Addr} {n c m d : Nat} (hk : RdD W (Fd W (some g :: own L R gs)) (dB key) (.slice A n c)) (hv : RdD W (Fd W (some g :: own L R gs)) (dB val) (.slice B m d)) :
    Calls Tryd.prog 27 #[.pointer (some ⟨g, 0, none⟩), .slice A n c, .slice B m d] W fun e W' => e = .returned (.int .i64 (tPut t key val).2.2) ∧ Sto w gs W' g (stepT t 2 key val) sv L R fs := by
  refine calls_ev (args := [.pointer (some ⟨g, 0, none⟩), .slice A n c, .slice B m d]) mixed Tryd.func27 rfl (by kernel_rfl) ?_
  obtain ⟨p, A0, n0, c0, M⟩ := hS
  refine p_peq isp_sto rfl rfl ?_
  refine p_nil rfl ?_
  refine p_fld fSt0 rfl ?_
  refine p_fld fT0 rfl ?_
  refine v_loadN (pcN t p) agg_nd rfl rfl (M.B 0 rfl).pre ?_
  refine cc is_tPut (tPut_any t hz key val _ _ (pcN t p) _ _ _ _ _ _ (M.da 0 rfl) hk hv M.olt) ?_
  rintro e W1 ⟨cs', Am, nm, cm, rfl, rv, hm, hb⟩
  have hw := wayPut t key val
  have hs : stepT t 2 key val = if (tPut t key val).2.2 = 0 then (tPut t key val).1 else t := by unfold stepT; rw [if_pos rfl]
  obtain ⟨q, hq⟩ : ∃ q, q = tPut t key val := ⟨_, rfl⟩
  rw [← hq] at rv hm hw hs ⊢
  obtain ⟨p', e'⟩ := node_pts rv
  replace M := M.callFD hb rv hm.toD
  clear rv hm hb
  refine ⟨_, rfl, ?_⟩
  refine s_alloc (zN) M al_nd ?_
  clear M
  rintro g7 W M
  refine s_storeA 0 cs' M rfl sz_nd rfl rfl (by rw [e']; rfl) ((M.da 0 rfl).ones (dN_one _)) rfl ?_
  clear M; rintro W M
  dsimp only [setL] at M
  refine p_eq rfl rfl (fun he => ?_) (fun he => ?_)
  · have he : q.2.2 = 0 := he
    rw [if_pos he] at hs
    refine v_loadN cs' agg_nd rfl (by rw [e']; rfl) (M.run 0 rfl) ?_
    refine p_nil rfl ?_
    refine p_fld fSt0 rfl ?_
    refine p_fld fT0 rfl ?_
    refine s_storeP 1 (off := 0) cs' (pcN q.1 p' ++ [sv, .slice A0 n0 c0]) M rfl sz_nd rfl rfl (by rw [e']; rfl) ((M.da 0 rfl).ones (dN_one _)) (by show 6 ≤ 8; decide) (pts_set e') ?_
    clear M; rintro W M
    dsimp only [setL] at M
    replace M := M.dropL
    refine cc is_sTold (told_any M (M.d1 1 rfl) hw (by omega)) ?_
    rintro e W2 ⟨rfl, A2, n2, c2, M⟩
    refine ⟨_, rfl, ?_⟩
    refine ⟨rfl, p', A2, n2, c2, ?_⟩
    rw [hs, ← e'] at *
    exact M.fsub _ (by intro f hf; simp only [List.mem_cons] at hf ⊢; rcases hf with h | h <;> simp [h])
  · have he : ¬ q.2.2 = 0 := he
    rw [if_neg he] at hs
    replace M := M.dropL
    refine cc is_sTold (told_any M (M.d1 1 rfl) hw (by omega)) ?_
    rintro e W2 ⟨rfl, A2, n2, c2, M⟩
    refine ⟨_, rfl, ?_⟩
    refine ⟨rfl, p, A2, n2, c2, ?_⟩
    rw [hs]
    exact M.fsub _ (by intro f hf; simp only [List.mem_cons] at hf ⊢; rcases hf with h | h <;> simp [h])
set_option maxRecDepth 100000 in
set_option maxHeartbeats 2000000 in
theorem sDrop_any (hS : Sto w gs W g t sv L R fs) (hz : sz t < 500000) {key : List UInt8} (val : List UInt8) {A : Option Addr} {n c : Nat} (hk : RdD W (Fd W (some g :: own L R gs)) (dB key) (.slice A n c)) :
    Calls Tryd.prog 28 #[.pointer (some ⟨g, 0, none⟩), .slice A n c] W fun e W' => e = .returned (.tuple #[.bool (tDrop t key).has, .int .i64 (tDrop t key).e]) ∧ Sto w gs W' g (stepT t 3 key val) sv L R fs := by
  refine calls_ev (args := [.pointer (some ⟨g, 0, none⟩), .slice A n c]) mixed Tryd.func28 rfl (by kernel_rfl) ?_
  obtain ⟨p, A0, n0, c0, M⟩ := hS
  refine p_peq isp_sto rfl rfl ?_
  refine p_nil rfl ?_
  refine p_fld fSt0 rfl ?_
  refine p_fld fT0 rfl ?_
  refine v_loadN (pcN t p) agg_nd rfl rfl (M.B 0 rfl).pre ?_
  refine cc is_tDrop (tDrop_any t hz key _ _ (pcN t p) _ _ _ (M.da 0 rfl) hk M.olt) ?_
  rintro e W1 ⟨cs', Am, nm, cm, rfl, rv, hm, hb⟩
  have hw := wayDrop t key
  have hs : stepT t 3 key val = if (tDrop t key).e = 0 then (tDrop t key).t else t := by unfold stepT; rw [if_neg (by decide), if_pos rfl]
  obtain ⟨q, hq⟩ : ∃ q, q = tDrop t key := ⟨_, rfl⟩
  rw [← hq] at rv hm hw hs ⊢
  obtain ⟨p', e'⟩ := node_pts rv
  replace M := M.callFD hb rv hm.toD
  clear rv hm hb
  refine ⟨_, rfl, ?_⟩
  refine s_alloc (zN) M al_nd ?_
  clear M
  rintro g7 W M
  refine s_storeA 0 cs' M rfl sz_nd rfl rfl (by rw [e']; rfl) ((M.da 0 rfl).ones (dN_one _)) rfl ?_
  clear M; rintro W M
  dsimp only [setL] at M
  refine p_eq rfl rfl (fun he => ?_) (fun he => ?_)
  · have he : q.e = 0 := he
    rw [if_pos he] at hs
    refine v_loadN cs' agg_nd rfl (by rw [e']; rfl) (M.run 0 rfl) ?_
    refine p_nil rfl ?_
    refine p_fld fSt0 rfl ?_
    refine p_fld fT0 rfl ?_
    refine s_storeP 1 (off := 0) cs' (pcN q.t p' ++ [sv, .slice A0 n0 c0]) M rfl sz_nd rfl rfl (by rw [e']; rfl) ((M.da 0 rfl).ones (dN_one _)) (by show 6 ≤ 8; decide) (pts_set e') ?_
    clear M; rintro W M
    dsimp only [setL] at M
    replace M := M.dropL
    refine cc is_sTold (told_any M (M.d1 1 rfl) hw (by omega)) ?_
    rintro e W2 ⟨rfl, A2, n2, c2, M⟩
    refine ⟨_, rfl, ?_⟩
    refine ⟨rfl, p', A2, n2, c2, ?_⟩
    rw [hs, ← e'] at *
    exact M.fsub _ (by intro f hf; simp only [List.mem_cons] at hf ⊢; rcases hf with h | h <;> simp [h])
  · have he : ¬ q.e = 0 := he
    rw [if_neg he] at hs
    replace M := M.dropL
    refine cc is_sTold (told_any M (M.d1 1 rfl) hw (by omega)) ?_
    rintro e W2 ⟨rfl, A2, n2, c2, M⟩
    refine ⟨_, rfl, ?_⟩
    refine ⟨rfl, p, A2, n2, c2, ?_⟩
    rw [hs]
    exact M.fsub _ (by intro f hf; simp only [List.mem_cons] at hf ⊢; rcases hf with h | h <;> simp [h])
set_option maxRecDepth 100000 in
set_option maxHeartbeats 2000000 in
theorem sRange_any (hS : Sto w gs W g t sv L R fs) (hz : sz t ≤ 1000000) {low high : List UInt8} {most : Int} {A B : Option Addr} {n c m d : Nat} (hk : RdD W (Fd W (some g :: own L R gs)) (dB low) (.slice A n c)) (hv : RdD W (Fd W (some g :: own L R gs)) (dB high) (.slice B m d)) (hn : n ≤ 500000 ∧ m ≤ 500000) :
    Calls Tryd.prog 29 #[.pointer (some ⟨g, 0, none⟩), .slice A n c, .slice B m d, .int .i64 most] W fun e W' => ∃ A' n' c', e = .returned (.tuple #[.slice A' n' c', .int .i64 (rangeP t low high most false).e]) ∧ Sto w gs W' g t sv L R fs := by
  refine calls_ev (args := [.pointer (some ⟨g, 0, none⟩), .slice A n c, .slice B m d, .int .i64 most]) mixed Tryd.func29 rfl (by kernel_rfl) ?_
  obtain ⟨p, A0, n0, c0, M⟩ := hS
  refine p_peq isp_sto rfl rfl ?_
  refine p_nil rfl ?_
  refine p_fld fSt0 rfl ?_
  refine p_fld fT0 rfl ?_
  refine v_loadN (pcN t p) agg_nd rfl rfl (M.B 0 rfl).pre ?_
  refine cc is_range (srange_any t low high most hz _ _ (pcN t p) _ _ _ _ _ _ (M.da 0 rfl) hk hv M.olt hn) ?_
  rintro e W1 ⟨A', n', c', Am, nm, cm, rfl, rv, hm, hb⟩
  have hw := wayRange t low high most
  replace M := (M.call hb).addD hm.toD
  clear rv hm hb
  refine ⟨_, rfl, ?_⟩
  refine cc is_sTold (told_any M (M.d1 0 rfl) hw (by omega)) ?_
  rintro e W2 ⟨rfl, A2, n2, c2, M⟩
  refine ⟨_, rfl, ?_⟩
  exact ⟨A', n', c', rfl, p, A2, n2, c2, M.fsub _ (by intro f hf; simp only [List.mem_cons] at hf ⊢; rcases hf with h | h <;> simp [h])⟩
end
end Go.Proofs.YtdlljmmgkoeilaaDoor
namespace Go.Proofs.YtdlljmmgkoeilaaDoor
open Go.RowKit
theorem dNs_drop : ∀ (ks : List Nd) (i : Nat), (dNs ks).drop (i * 6) = dNs (ks.drop i)
  | ks, 0 => by rw [Nat.zero_mul, List.drop_zero, List.drop_zero]
  | [], i + 1 => by rw [dNs]; simp [dNs]
  | k :: ks, i + 1 => by
    rw [dNs, List.drop_succ_cons, ← dNs_drop ks i, show (i + 1) * 6 = (dN k).length + i * 6 by rw [dN_len]; omega, List.drop_length_add_append]
theorem dNs_take : ∀ (ks : List Nd) (i : Nat), (dNs ks).take (i * 6) = dNs (ks.take i)
  | ks, 0 => by rw [Nat.zero_mul, List.take_zero, List.take_zero, dNs]
  | [], i + 1 => by rw [dNs]; simp [dNs]
  | k :: ks, i + 1 => by
    rw [dNs, List.take_succ_cons, dNs, ← dNs_take ks i, show (i + 1) * 6 = (dN k).length + i * 6 by rw [dN_len]; omega, List.take_length_add_append]
theorem RdD.cutK {W : World} {F : Nat → Prop} {ks : List Nd} {A : Option Addr} {n c i j m : Nat} (h : RdD W F (dKs ks) (.slice A n c)) (hij : i ≤ j) (hj : j ≤ n) (hm : j ≤ m) : RdD W F (dKs ((ks.drop i).take (j - i))) (.slice (slA A m i 6) (j - i) (m - i)) := by
  have hn := h.slen
  have h2 := RdD.cut h hij hj hm
  rw [dNs_drop, dNs_take] at h2
  have e : ((ks.drop i).take (j - i)).length = j - i := by rw [List.length_take, List.length_drop]; omega
  unfold dKs
  rw [e]
  exact h2
end Go.Proofs.YtdlljmmgkoeilaaDoor
namespace Go.Proofs.YtdlljmmgkoeilaaDoor
open Go.RowKit
section
variable {w W : World} {gs : List (Option Nat)} {g : Nat} {t : Nd} {sv : Value} {L : Lc} {R : List Row} {fs : List Fact}
/-- A store: what is saved may grow. -/
def StG (w : World) (gs : List (Option Nat)) (W : World) (g : Nat) (t : Nd) (ss : List Nd) (L : Lc) (R : List Row) (fs : List Fact) : Prop :=
  ∃ A c xs, Sto w gs W g t (.slice A ss.length c) L (⟨71, 6, A, ss.length, c, xs⟩ :: R) (.dat false (dNs ss) xs :: fs)
/-- A store: what is saved grows no more. -/
def StF (w : World) (gs : List (Option Nat)) (W : World) (g : Nat) (t : Nd) (ss : List Nd) (L : Lc) (R : List Row) (fs : List Fact) : Prop :=
  ∃ A c, Sto w gs W g t (.slice A ss.length c) L R (.dat false [dKs ss] [.slice A ss.length c] :: fs)
theorem StG.frz {ss : List Nd} (h : StG w gs W g t ss L R fs) : StF w gs W g t ss L R fs := by
  obtain ⟨A, c, xs, p, Am, nm, cm, M⟩ := h
  refine ⟨A, c, p, Am, nm, cm, ?_⟩
  have M2 := M.frzR (fr := false) (ds := dNs ss) (M.dt 1 rfl)
  exact M2.fsub _ (by intro f hf; simp only [List.mem_cons] at hf ⊢; rcases hf with h | h | h <;> simp [h])
theorem Sto.fsub {fs' : List Fact} (h : Sto w gs W g t sv L R fs) (hf : ∀ f ∈ fs', f ∈ fs) : Sto w gs W g t sv L R fs' := by
  obtain ⟨p, Am, nm, cm, M⟩ := h
  exact ⟨p, Am, nm, cm, M.fsub _ (by intro f h; simp only [List.mem_cons] at h ⊢; rcases h with h | h <;> simp [h, hf])⟩
set_option maxRecDepth 100000 in
set_option maxHeartbeats 2000000 in
/-- New: of whatever trie. -/
theorem sNew_any (M : St w gs W L R fs) {cs : List Value} (hr : RdL W (Fd W (own L R gs)) (dN t) cs) (hz : sz t < 100000000) :
    Calls Tryd.prog 14 #[.agg cs.toArray] W fun e W' => (checkE t ≠ 0 ∧ e = .returned (.tuple #[.pointer none, .int .i64 (checkE t)]) ∧ St w gs W' L R fs) ∨ (checkE t = 0 ∧ ∃ g, e = .returned (.tuple #[.pointer (some ⟨g, 0, none⟩), .int .i64 0]) ∧ StG w gs W' g t [] L R fs) := by
  refine calls_ev (args := [.agg cs.toArray]) mixed Tryd.func14 rfl (by kernel_rfl) ?_
  have hcl := hr.len
  rw [dN_len] at hcl
  have M := M.addL hr
  clear hr
  refine s_box (cs) M rfl ?_
  clear M
  rintro g1 W M
  refine v_loadN cs agg_nd rfl hcl (M.run 0 rfl) ?_
  refine cc is_ncheck (ncheck_any t (by omega) _ _ cs (M.da 0 rfl) M.olt) ?_
  rintro e W1 ⟨rfl, hb⟩
  replace M := M.call hb
  clear hb
  refine ⟨_, rfl, ?_⟩
  obtain ⟨q, hq⟩ : ∃ q, q = checkE t := ⟨_, rfl⟩
  rw [← hq]
  refine p_ne rfl rfl (fun he => ?_) (fun he => ?_)
  rotate_left
  · exact .inl ⟨he, rfl, M.dropL.fsub _ (fun f hf => List.mem_cons_of_mem _ hf)⟩
  have he : q = 0 := he
  refine v_loadN cs agg_nd rfl hcl (M.run 0 rfl) ?_
  refine cc is_ncopy (ncopy_any 100000000 (by decide) t hz _ _ cs (M.da 0 rfl) M.olt) ?_
  rintro e W2 ⟨cs', rfl, r9, hb⟩
  obtain ⟨p', e'⟩ := node_pts r9
  replace M := M.callF hb r9
  clear r9 hb
  refine ⟨_, rfl, ?_⟩
  subst e'
  refine p_build (vs := pcN t p') pl_stt z_stt rfl ?_
  refine p_build (vs := pcN t p' ++ [.slice none 0 0, .slice none 0 0]) pl_sto z_sto rfl ?_
  refine s_box (pcN t p' ++ [.slice none 0 0, .slice none 0 0]) M rfl ?_
  clear M; rintro g2 W M
  refine .inr ⟨he, g2, rfl, none, 0, [], p', none, 0, 0, ?_⟩
  have M2 := (((M.swp.dropL).addL (M.swp.dropL.da 0 rfl)).nilR 71 6).addL (ds := dNs []) (cs := []) RdL.nil_
  exact M2.fsub _ (by intro f hf; simp only [List.mem_cons] at hf ⊢; rcases hf with h | h | h <;> simp [h])
set_option maxRecDepth 100000 in
set_option maxHeartbeats 2000000 in
theorem sSaves_any {A : Option Addr} {n c : Nat} (hS : Sto w gs W g t (.slice A n c) L R fs) :
    Calls Tryd.prog 11 #[.pointer (some ⟨g, 0, none⟩)] W fun e W' => e = .returned (.int .i64 (n : Int)) ∧ W' = W := by
  refine calls_ev (args := [.pointer (some ⟨g, 0, none⟩)]) mixed Tryd.func11 rfl (by kernel_rfl) ?_
  obtain ⟨p, A0, n0, c0, M⟩ := hS
  refine p_peq isp_sto rfl rfl ?_
  refine p_nil rfl ?_
  refine p_fld fSt1 rfl ?_
  refine v_load agg_sts rfl ((M.B 0 rfl).at_ rfl) ?_
  refine p_len slst rfl ?_
  exact ⟨rfl, rfl⟩
set_option maxRecDepth 100000 in
set_option maxHeartbeats 2000000 in
/-- Save: so long as there are fewer than twenty. -/
theorem sSave_any {ss : List Nd} (hS : StG w gs W g t ss L R fs) (hn : ss.length < 20) :
    Calls Tryd.prog 15 #[.pointer (some ⟨g, 0, none⟩)] W fun e W' => e = .returned (.int .i64 0) ∧ StG w gs W' g t (ss ++ [t]) L R fs := by
  refine calls_ev (args := [.pointer (some ⟨g, 0, none⟩)]) mixed Tryd.func15 rfl (by kernel_rfl) ?_
  obtain ⟨A, c, xs, p, A0, n0, c0, M⟩ := hS
  refine p_peq isp_sto rfl rfl ?_
  refine p_nil rfl ?_
  refine p_fld fSt1 rfl ?_
  refine v_load agg_sts rfl ((M.B 0 rfl).at_ rfl) ?_
  refine p_len slst rfl ?_
  refine p_eq rfl rfl (fun h => absurd (show ((ss.length : Nat) : Int) = 20 from h) (by omega)) (fun _ => ?_)
  replace M := M.drew
  refine drZ 13 (Kp w gs [(g, 74, pcN t p ++ [.slice A ss.length c, .slice A0 n0 c0])] []) [(0, true), (1, true), (2, true), (3, true), (4, true), (5, true), (6, true), (7, true), (8, true), (9, false), (10, false), (11, true), (12, true)] (by kernel_rfl) (M.kp (by simp) (by simp)) ?_
  refine p_nil rfl ?_
  refine p_fld fSt1 rfl ?_
  refine t_load agg_sts rfl (fun W K => (K.B 0 rfl).at_ rfl) ?_
  refine p_nil rfl ?_
  refine p_fld fSt0 rfl ?_
  refine t_loadN (pcN t p) agg_stt rfl rfl (fun W K => (K.B 0 rfl).pre) ?_
  refine s_bslice (fr := false) (ds := dN t) (pcN t p) M slst z_stt rfl (by decide) rfl (M.dw 0 rfl) (dN_len t) ?_
  clear M; rintro g9 W M
  refine ⟨(M.kp (by simp) (by simp)), ?_⟩
  obtain ⟨news, hrd, hnd⟩ := (M.d1 0 rfl).reads (fun b h => h.1)
  replace M := M.addL hnd
  refine s_app (z := .agg zN.toArray) (news := news) M Tryd.underlying72 inf_st rfl (by decide) rfl rfl hrd (hnd.ones (dN_one t)) ⟨by omega, by decide⟩ ?_
  clear M; rintro A' c' W M -
  refine ⟨(M.kp (by simp) (by simp)), ?_⟩
  refine p_nil rfl ?_
  refine p_fld fSt1 rfl ?_
  refine s_set 0 (off := 6) (.slice A' (ss.length + 1) c') (pcN t p ++ [.slice A' (ss.length + 1) c', .slice A0 n0 c0]) M rfl sz_sts rfl rfl rfl (by show 6 < 8; decide) rfl ?_
  clear M; rintro W M
  dsimp only [setL] at M
  have e1 : (ss ++ [t]).length = ss.length + 1 := by simp
  have e2 : dNs (ss ++ [t]) = dNs ss ++ dN t := by rw [dNs_appN, dNs, dNs, List.append_nil]
  refine ⟨rfl, A', c', xs ++ news, p, A0, n0, c0, ?_⟩
  have hd := (M.da 3 rfl).app (M.da 0 rfl)
  rw [← e2] at hd
  rw [e1]
  exact (M.addL hd).fsub _ (by intro f hf; simp only [List.mem_cons] at hf ⊢; rcases hf with h | h | h <;> simp [h])
set_option maxRecDepth 100000 in
set_option maxHeartbeats 2000000 in
theorem sSave_full {ss : List Nd} (hS : StG w gs W g t ss L R fs) (hn : ss.length = 20) :
    Calls Tryd.prog 15 #[.pointer (some ⟨g, 0, none⟩)] W fun e W' => e = .returned (.int .i64 3) ∧ W' = W := by
  refine calls_ev (args := [.pointer (some ⟨g, 0, none⟩)]) mixed Tryd.func15 rfl (by kernel_rfl) ?_
  obtain ⟨A, c, xs, p, A0, n0, c0, M⟩ := hS
  refine p_peq isp_sto rfl rfl ?_
  refine p_nil rfl ?_
  refine p_fld fSt1 rfl ?_
  refine v_load agg_sts rfl ((M.B 0 rfl).at_ rfl) ?_
  refine p_len slst rfl ?_
  refine p_eq rfl rfl (fun _ => ?_) (fun h => absurd (show ((ss.length : Nat) : Int) = 20 by omega) h)
  exact ⟨rfl, rfl⟩
set_option maxRecDepth 100000 in
set_option maxHeartbeats 2000000 in
/-- What was saved last, out of the row. -/
theorem sLast_any {ss : List Nd} {t0 : Nd} (hS : StF w gs W g t (ss ++ [t0]) L R fs) (hn : ss.length < 100) :
    Calls Tryd.prog 33 #[.pointer (some ⟨g, 0, none⟩)] W fun e W' => ∃ cs A c, e = .returned (.tuple #[.agg cs.toArray, .int .i64 0]) ∧ Sto w gs W' g t (.slice A ss.length c) L R (.dat false (dN t0) cs :: .dat false [dKs ss] [.slice A ss.length c] :: fs) := by
  refine calls_ev (args := [.pointer (some ⟨g, 0, none⟩)]) mixed Tryd.func33 rfl (by kernel_rfl) ?_
  obtain ⟨A, c, p, A0, n0, c0, M⟩ := hS
  have el : (ss ++ [t0]).length = ss.length + 1 := by simp
  rw [el] at M
  have hk : (ss ++ [t0])[ss.length]? = some t0 := by simp
  refine s_alloc (zN) M al_stt ?_
  clear M
  rintro g2 W M
  refine p_peq isp_sto rfl rfl ?_
  refine p_nil rfl ?_
  refine p_fld fSt1 rfl ?_
  refine v_load agg_sts rfl ((M.B 1 rfl).at_ rfl) ?_
  refine p_len slst rfl ?_
  refine p_subN (b := 1) rfl rfl (by omega) (by omega) ?_
  refine p_lt rfl rfl (fun h => absurd (show (((ss.length + 1 - 1 : Nat)) : Int) < 0 from h) (by omega)) (fun _ => ?_)
  have es1 : ss.length + 1 - 1 = ss.length := by omega
  obtain ⟨b1, o1, es, rfl, hl1, M'⟩ := M.kid (M.d1 1 rfl) hk
  replace M := M'; clear M'
  refine p_nil rfl ?_
  refine p_fld fSt1 rfl ?_
  refine v_load agg_sts rfl ((M.B 1 rfl).at_ rfl) ?_
  refine p_at (i := ss.length) slst rfl rfl (by rw [es1]) (by omega) ?_
  refine v_loadN es agg_stt rfl hl1 (M.lc 0 rfl) ?_
  refine s_alloc (zN) M al_stt ?_
  clear M
  rintro g5 W M
  refine s_storeA 0 es M rfl sz_stt rfl rfl hl1 ((M.da 1 rfl).ones (dN_one _)) rfl ?_
  clear M; rintro W M
  dsimp only [setL] at M
  refine p_nil rfl ?_
  refine p_fld fSt1 rfl ?_
  refine v_load agg_sts rfl ((M.B 2 rfl).at_ rfl) ?_
  have hnc : ss.length + 1 ≤ c := by obtain ⟨A', c', e, h, -⟩ := (M.d1 3 rfl).open_; injection e with _ _ e; subst e; rw [← el]; exact h
  refine p_slice (i := 0) (j := ss.length) (m := ss.length) slst rfl rfl (bnd_e rfl (by rw [es1])) (bnd_e rfl (by rw [es1])) rfl (Nat.zero_le _) (Nat.le_refl _) (by omega) ?_
  have hcut := RdD.cutK (M.d1 3 rfl) (i := 0) (j := ss.length) (m := ss.length) (Nat.zero_le _) (by omega) (Nat.le_refl _)
  rw [slA0, Nat.sub_zero, List.drop_zero, List.take_left'] at hcut
  rotate_left
  · rfl
  rw [slA0, Nat.sub_zero]
  refine p_nil rfl ?_
  refine p_fld fSt1 rfl ?_
  replace M := M.addD hcut
  clear hcut
  refine s_set 2 (off := 6) (.slice (some ⟨b1, o1, none⟩) ss.length ss.length) (pcN t p ++ [.slice (some ⟨b1, o1, none⟩) ss.length ss.length, .slice A0 n0 c0]) M rfl sz_sts rfl rfl rfl (by show 6 < 8; decide) rfl ?_
  clear M; rintro W M
  dsimp only [setL] at M
  refine v_loadN es agg_stt rfl hl1 (M.run 0 rfl) ?_
  refine s_storeA 1 es M rfl sz_stt rfl rfl hl1 ((M.da 2 rfl).ones (dN_one _)) rfl ?_
  clear M; rintro W M
  dsimp only [setL] at M
  refine c_loadN es agg_stt rfl hl1 (M.run 1 rfl) ?_
  refine ⟨es, some ⟨b1, o1, none⟩, ss.length, rfl, p, A0, n0, c0, ?_⟩
  exact M.dropL.dropL.fsub _ (by intro f hf; simp only [List.mem_cons] at hf ⊢; rcases hf with h | h | h | h <;> simp [h])
set_option maxRecDepth 100000 in
set_option maxHeartbeats 2000000 in
/-- Nothing is saved. -/
theorem sLast_none (hS : StF w gs W g t [] L R fs) :
    Calls Tryd.prog 33 #[.pointer (some ⟨g, 0, none⟩)] W fun e W' => ∃ cs : List Value, cs.length = 6 ∧ (∀ u ∈ cs, u.oneCell' = true) ∧ e = .returned (.tuple #[.agg cs.toArray, .int .i64 4]) ∧ StF w gs W' g t [] L R fs := by
  refine calls_ev (args := [.pointer (some ⟨g, 0, none⟩)]) mixed Tryd.func33 rfl (by kernel_rfl) ?_
  obtain ⟨A, c, p, A0, n0, c0, M⟩ := hS
  refine s_alloc (zN) M al_stt ?_
  clear M
  rintro g2 W M
  refine p_peq isp_sto rfl rfl ?_
  refine p_nil rfl ?_
  refine p_fld fSt1 rfl ?_
  refine v_load agg_sts rfl ((M.B 1 rfl).at_ rfl) ?_
  refine p_len slst rfl ?_
  refine p_sub (r := -1) rfl rfl rfl ?_
  refine p_lt rfl rfl (fun _ => ?_) (fun h => absurd (by decide) h)
  refine p_build (vs := zN) pl_stt z_stt rfl ?_
  refine s_storeA 0 zN M rfl sz_stt rfl rfl rfl (all1 rfl) rfl ?_
  clear M; rintro W M
  dsimp only [setL] at M
  refine c_loadN zN agg_stt rfl rfl (M.run 0 rfl) ?_
  exact ⟨zN, rfl, all1 rfl, rfl, A, c, p, A0, n0, c0, M.dropL⟩
set_option maxRecDepth 100000 in
set_option maxHeartbeats 2000000 in
theorem sUndo_any {ss : List Nd} {t0 : Nd} (hS : StF w gs W g t (ss ++ [t0]) L R fs) (hn : ss.length < 100) :
    Calls Tryd.prog 18 #[.pointer (some ⟨g, 0, none⟩)] W fun e W' => e = .returned (.int .i64 0) ∧ StF w gs W' g t0 ss L R fs := by
  refine calls_ev (args := [.pointer (some ⟨g, 0, none⟩)]) mixed Tryd.func18 rfl (by kernel_rfl) ?_
  refine cc is_sLast (sLast_any hS hn) ?_
  rintro e W ⟨cs, A, c, rfl, p, A0, n0, c0, M⟩
  refine ⟨_, rfl, ?_⟩
  obtain ⟨p', e'⟩ := node_pts (M.da 1 rfl)
  refine s_alloc (zN) M al_stt ?_
  clear M
  rintro g3 W M
  refine s_storeA 0 cs M rfl sz_stt rfl rfl (by rw [e']; rfl) ((M.da 1 rfl).ones (dN_one _)) rfl ?_
  clear M; rintro W M
  dsimp only [setL] at M
  refine p_eq rfl rfl (fun _ => ?_) (fun h => absurd rfl h)
  refine v_loadN cs agg_stt rfl (by rw [e']; rfl) (M.run 0 rfl) ?_
  refine p_nil rfl ?_
  refine p_fld fSt0 rfl ?_
  refine s_storeP 1 (off := 0) cs (pcN t0 p' ++ [.slice A ss.length c, .slice A0 n0 c0]) M rfl sz_stt rfl rfl (by rw [e']; rfl) ((M.da 1 rfl).ones (dN_one _)) (by show 6 ≤ 8; decide) (pts_set e') ?_
  clear M; rintro W M
  dsimp only [setL] at M
  refine ⟨rfl, A, c, p', A0, n0, c0, ?_⟩
  subst e'
  exact M.dropL.fsub _ (by intro f hf; simp only [List.mem_cons] at hf ⊢; rcases hf with h | h | h <;> simp [h])
set_option maxRecDepth 100000 in
set_option maxHeartbeats 2000000 in
theorem sUndo_none (hS : StF w gs W g t [] L R fs) :
    Calls Tryd.prog 18 #[.pointer (some ⟨g, 0, none⟩)] W fun e W' => e = .returned (.int .i64 4) ∧ StF w gs W' g t [] L R fs := by
  refine calls_ev (args := [.pointer (some ⟨g, 0, none⟩)]) mixed Tryd.func18 rfl (by kernel_rfl) ?_
  refine cc is_sLast (sLast_none hS) ?_
  rintro e W ⟨cs, hcl, h1, rfl, A, c, p, A0, n0, c0, M⟩
  refine ⟨_, rfl, ?_⟩
  refine s_alloc (zN) M al_stt ?_
  clear M
  rintro g3 W M
  refine s_storeA 0 cs M rfl sz_stt rfl rfl hcl h1 rfl ?_
  clear M; rintro W M
  dsimp only [setL] at M
  refine p_eq rfl rfl (fun h => absurd (show (4 : Int) = 0 from h) (by decide)) (fun _ => ?_)
  exact ⟨rfl, A, c, p, A0, n0, c0, M.dropL⟩
set_option maxRecDepth 100000 in
set_option maxHeartbeats 2000000 in
/-- Root: a copy, its kids a row of the call's own. -/
theorem sRootR_any (W : World) (gs : List (Option Nat)) {p : Pts} {q : List Value} (hB : Blk W g 74 (pcN t p ++ q)) (hr : RdL W (Fd W gs) (dN t) (pcN t p)) (hz : sz t < 100000000) (hgs : ∀ b, some b ∈ gs → b < W.heap.size) :
    Calls Tryd.prog 13 #[.pointer (some ⟨g, 0, none⟩)] W fun e W' => ∃ Ap cp Av cv Ak ck Ah ch xs, e = .returned (.agg (ncs t Ap cp Av cv Ak ck Ah ch).toArray) ∧ ∃ L', St W gs W' L' [⟨28, 6, Ak, t.kids.length, ck, xs⟩] [.dat true (dNs t.kids) xs, .dat true [dB t.path] [.slice Ap t.path.length cp], .dat true [dB t.val] [.slice Av t.val.length cv], .dat true [dB t.hash] [.slice Ah t.hash.length ch]] := by
  refine calls_ev (args := [.pointer (some ⟨g, 0, none⟩)]) mixed Tryd.func13 rfl (by kernel_rfl) ?_
  have M := (St.start hgs).addL hr
  clear hr
  refine s_alloc zN M al_nd ?_
  clear M; rintro g2 W2 M
  refine p_peq isp_sto rfl rfl ?_
  refine p_nil rfl ?_
  refine p_fld fSt0 rfl ?_
  refine p_fld fT0 rfl ?_
  refine v_loadN (pcN t p) agg_nd rfl rfl (hB.below M.below).pre ?_
  refine cc is_ncopy (ncopyR_any t hz _ _ _ (M.da 0 rfl) M.olt) ?_
  rintro e W3 ⟨Ap, cp, Av, cv, Ak, ck, Ah, ch, xs, rfl, hrow, hxs, ⟨h1, h2, h3⟩, hb⟩
  replace M := M.callC hb hrow hxs h1 h2 h3
  clear hrow hxs h1 h2 h3 hb
  refine ⟨_, rfl, ?_⟩
  refine s_storeA 0 (ncs t Ap cp Av cv Ak ck Ah ch) M rfl sz_nd rfl rfl rfl (all1 rfl) rfl ?_
  clear M; rintro W4 M
  dsimp only [setL] at M
  refine c_loadN (ncs t Ap cp Av cv Ak ck Ah ch) agg_nd rfl rfl (M.run 0 rfl) ?_
  exact ⟨Ap, cp, Av, cv, Ak, ck, Ah, ch, xs, rfl, _, M.fsub _ (by intro f hf; simp only [List.mem_cons, List.not_mem_nil, or_false] at hf ⊢; rcases hf with h | h | h | h <;> simp [h])⟩
/-- Root: a copy. -/
theorem sRoot_any (hS : Sto w gs W g t sv L R fs) (hz : sz t < 100000000) :
    Calls Tryd.prog 13 #[.pointer (some ⟨g, 0, none⟩)] W fun e W' => ∃ cs, e = .returned (.agg cs.toArray) ∧ Sto w gs W' g t sv L R (.dat true (dN t) cs :: fs) := by
  obtain ⟨p, A0, n0, c0, M⟩ := hS
  refine (sRootR_any W _ (M.B 0 rfl) (M.da 0 rfl) hz M.olt).mono ?_
  rintro e W' ⟨Ap, cp, Av, cv, Ak, ck, Ah, ch, xs, rfl, L', N⟩
  refine ⟨_, rfl, p, A0, n0, c0, ?_⟩
  have N2 := N.frzR (fr := true) (N.dt 0 rfl)
  have hd : RdL W' (Fr W W') (dN t) (ncs t Ap cp Av cv Ak ck Ah ch) := RdL.ofnode (N2.finF1 2 rfl) (N2.finF1 3 rfl) (N2.finF1 0 rfl) (N2.finF1 4 rfl)
  exact (M.callF N.below hd).fsub _ (by intro f hf; simp only [List.mem_cons] at hf ⊢; rcases hf with h | h | h <;> simp [h])
end
section
variable {w W : World} {gs : List (Option Nat)} {L : Lc} {R : List Row} {fs : List Fact}
theorem is_sMissing : isFn Tryd.prog 10 = true := by kernel_rfl
/-- What a store that is not there answers. -/
theorem nMissing (W : World) : Calls Tryd.prog 10 #[.pointer none] W fun e W' => e = .returned (.tuple #[.slice none 0 0, .bool false]) ∧ W' = W := by
  refine calls_ev (args := [.pointer none]) mixed Tryd.func10 rfl (by kernel_rfl) ?_
  refine p_peq0 isp_sto rfl rfl ?_
  exact ⟨rfl, rfl⟩
theorem nSaves (W : World) : Calls Tryd.prog 11 #[.pointer none] W fun e W' => e = .returned (.int .i64 0) ∧ W' = W := by
  refine calls_ev (args := [.pointer none]) mixed Tryd.func11 rfl (by kernel_rfl) ?_
  refine p_peq0 isp_sto rfl rfl ?_
  exact ⟨rfl, rfl⟩
theorem nHash (W : World) : Calls Tryd.prog 12 #[.pointer none] W fun e W' => e = .returned (.slice none 0 0) ∧ W' = W := by
  refine calls_ev (args := [.pointer none]) mixed Tryd.func12 rfl (by kernel_rfl) ?_
  refine p_peq0 isp_sto rfl rfl ?_
  exact ⟨rfl, rfl⟩
theorem nRoot (W : World) : Calls Tryd.prog 13 #[.pointer none] W fun e W' => e = .returned (.agg zN.toArray) ∧ Below W.heap.size W W' := by
  refine calls_ev (args := [.pointer none]) mixed Tryd.func13 rfl (by kernel_rfl) ?_
  have M := St.start (w := W) (gs := []) (fun b h => by cases h)
  refine s_alloc zN M al_nd ?_
  clear M; rintro g2 W2 M
  refine p_peq0 isp_sto rfl rfl ?_
  refine p_build (vs := zN) pl_nd z_nd rfl ?_
  refine s_storeA 0 zN M rfl sz_nd rfl rfl rfl (all1 rfl) rfl ?_
  clear M; rintro W4 M
  dsimp only [setL] at M
  refine c_loadN zN agg_nd rfl rfl (M.run 0 rfl) ?_
  exact ⟨rfl, M.below⟩
theorem nGet (W : World) (v : Value) : Calls Tryd.prog 26 #[.pointer none, v] W fun e W' => e = .returned (.tuple #[.slice none 0 0, .bool false, .int .i64 1]) ∧ W' = W := by
  refine calls_ev (args := [.pointer none, v]) mixed Tryd.func26 rfl (by kernel_rfl) ?_
  refine p_peq0 isp_sto rfl rfl ?_
  exact ⟨rfl, rfl⟩
theorem nPut (W : World) (v v2 : Value) : Calls Tryd.prog 27 #[.pointer none, v, v2] W fun e W' => e = .returned (.int .i64 1) ∧ W' = W := by
  refine calls_ev (args := [.pointer none, v, v2]) mixed Tryd.func27 rfl (by kernel_rfl) ?_
  refine p_peq0 isp_sto rfl rfl ?_
  exact ⟨rfl, rfl⟩
theorem nDrop (W : World) (v : Value) : Calls Tryd.prog 28 #[.pointer none, v] W fun e W' => e = .returned (.tuple #[.bool false, .int .i64 1]) ∧ W' = W := by
  refine calls_ev (args := [.pointer none, v]) mixed Tryd.func28 rfl (by kernel_rfl) ?_
  refine p_peq0 isp_sto rfl rfl ?_
  exact ⟨rfl, rfl⟩
theorem nRange (W : World) (v v2 v3 : Value) : Calls Tryd.prog 29 #[.pointer none, v, v2, v3] W fun e W' => e = .returned (.tuple #[.slice none 0 0, .int .i64 1]) ∧ W' = W := by
  refine calls_ev (args := [.pointer none, v, v2, v3]) mixed Tryd.func29 rfl (by kernel_rfl) ?_
  refine p_peq0 isp_sto rfl rfl ?_
  exact ⟨rfl, rfl⟩
theorem nSave (W : World) : Calls Tryd.prog 15 #[.pointer none] W fun e W' => e = .returned (.int .i64 1) ∧ W' = W := by
  refine calls_ev (args := [.pointer none]) mixed Tryd.func15 rfl (by kernel_rfl) ?_
  refine p_peq0 isp_sto rfl rfl ?_
  exact ⟨rfl, rfl⟩
theorem nLast (W : World) : Calls Tryd.prog 33 #[.pointer none] W fun e W' => e = .returned (.tuple #[.agg zN.toArray, .int .i64 1]) ∧ Below W.heap.size W W' := by
  refine calls_ev (args := [.pointer none]) mixed Tryd.func33 rfl (by kernel_rfl) ?_
  have M := St.start (w := W) (gs := []) (fun b h => by cases h)
  refine s_alloc (zN) M al_stt ?_
  clear M
  rintro g2 W M
  refine p_peq0 isp_sto rfl rfl ?_
  refine p_build (vs := zN) pl_stt z_stt rfl ?_
  refine s_storeA 0 zN M rfl sz_stt rfl rfl rfl (all1 rfl) rfl ?_
  clear M; rintro W4 M
  dsimp only [setL] at M
  refine c_loadN zN agg_stt rfl rfl (M.run 0 rfl) ?_
  exact ⟨rfl, M.below⟩
theorem nKeep (W : World) : Calls Tryd.prog 20 #[.pointer none] W fun e W' => e = .returned (.int .i64 1) ∧ Below W.heap.size W W' := by
  refine calls_ev (args := [.pointer none]) mixed Tryd.func20 rfl (by kernel_rfl) ?_
  have M := St.start (w := W) (gs := []) (fun b h => by cases h)
  refine cc is_sLast (nLast _) ?_
  rintro e W1 ⟨rfl, hb⟩
  replace M := M.call hb
  refine ⟨_, rfl, ?_⟩
  refine s_alloc (zN) M al_stt ?_
  clear M
  rintro g3 W M
  refine s_storeA 0 zN M rfl sz_stt rfl rfl rfl (all1 rfl) rfl ?_
  clear M; rintro W M
  dsimp only [setL] at M
  exact ⟨rfl, M.below⟩
theorem nUndo (W : World) : Calls Tryd.prog 18 #[.pointer none] W fun e W' => e = .returned (.int .i64 1) ∧ Below W.heap.size W W' := by
  refine calls_ev (args := [.pointer none]) mixed Tryd.func18 rfl (by kernel_rfl) ?_
  have M := St.start (w := W) (gs := []) (fun b h => by cases h)
  refine cc is_sLast (nLast _) ?_
  rintro e W1 ⟨rfl, hb⟩
  replace M := M.call hb
  refine ⟨_, rfl, ?_⟩
  refine s_alloc (zN) M al_stt ?_
  clear M
  rintro g3 W M
  refine s_storeA 0 zN M rfl sz_stt rfl rfl rfl (all1 rfl) rfl ?_
  clear M; rintro W M
  dsimp only [setL] at M
  refine p_eq rfl rfl (fun h => absurd (show (1 : Int) = 0 from h) (by decide)) (fun _ => ?_)
  exact ⟨rfl, M.below⟩
end
end Go.Proofs.YtdlljmmgkoeilaaDoor
namespace Go.Proofs.YtdlljmmgkoeilaaDoor
open Go.RowKit
/-- Something that is done: the kind, a key, a value (or how far), how many at most. -/
structure Do where
  kind : Int
  key : List UInt8
  val : List UInt8
  most : Int
def dDo (d : Do) : List D := [.v (.int .i64 d.kind), dB d.key, dB d.val, .v (.int .i64 d.most)]
theorem dDo_len (d : Do) : (dDo d).length = 4 := rfl
abbrev dDl (l : List Do) : D := .sl 4 l.length (l.flatMap dDo)
def dcs (d : Do) (Ak : Option Addr) (ck : Nat) (Av : Option Addr) (cv : Nat) : List Value := [.int .i64 d.kind, .slice Ak d.key.length ck, .slice Av d.val.length cv, .int .i64 d.most]
theorem RdL.do_ {W : World} {F : Nat → Prop} {d : Do} {cs : List Value} (h : RdL W F (dDo d) cs) : ∃ Ak ck Av cv, cs = dcs d Ak ck Av cv ∧ RdD W F (dB d.key) (.slice Ak d.key.length ck) ∧ RdD W F (dB d.val) (.slice Av d.val.length cv) := by
  obtain ⟨u0, _, rfl, h0, h⟩ := (show RdL W F [.v (.int .i64 d.kind), dB d.key, dB d.val, .v (.int .i64 d.most)] cs from h).uncons
  obtain ⟨u1, _, rfl, h1, h⟩ := h.uncons
  obtain ⟨u2, _, rfl, h2, h⟩ := h.uncons
  obtain ⟨u3, _, rfl, h3, h⟩ := h.uncons
  rw [h.isnil]
  obtain ⟨A1, c1, e1, _⟩ := h1.open_
  obtain ⟨A2, c2, e2, _⟩ := h2.open_
  subst e1; subst e2
  obtain rfl := RdD.val.1 h0
  obtain rfl := RdD.val.1 h3
  exact ⟨A1, c1, A2, c2, rfl, h1, h2⟩
/-- One of a slice that stays. -/
theorem St.do_ {w W : World} {gs : List (Option Nat)} {L : Lc} {R : List Row} {fs : List Fact} (M : St w gs W L R fs) {l : List Do} {A : Option Addr} {n c i : Nat} {d : Do} (h : RdD W (Fd W (own L R gs)) (dDl l) (.slice A n c)) (hi : l[i]? = some d) :
    ∃ b off Ak ck Av cv, A = some ⟨b, off, none⟩ ∧ St w gs W L R (.loc ((⟨b, off, none⟩ : Addr).add (i * 4)) (dcs d Ak ck Av cv) :: .dat false (dDo d) (dcs d Ak ck Av cv) :: fs) := by
  obtain ⟨b, off, es, e, hF, hes, hel, hc⟩ := RdD.elt dDo 4 dDo_len h hi
  obtain ⟨Ak, ck, Av, cv, rfl, h1, h2⟩ := hes.do_
  exact ⟨b, off, Ak, ck, Av, cv, e, (M.addL hes).addC (by rw [block_of_add]; exact hF) hc⟩
/-- How much there is to be done: as the law counts it. -/
def doN (l : List Do) : Nat := (l.map fun d => 1 + (d.key.length + d.val.length) / 50).sum
theorem doN_take (l : List Do) {i : Nat} {d : Do} (h : l[i]? = some d) : doN (l.take (i + 1)) = doN (l.take i) + 1 + (d.key.length + d.val.length) / 50 := by
  unfold doN
  rw [List.take_add_one, h, List.map_append, List.sum_append]
  simp only [Option.toList_some, List.map_cons, List.map_nil, List.sum_cons, List.sum_nil]
  omega
theorem doN_mem {l : List Do} {d : Do} (h : d ∈ l) : d.key.length + d.val.length ≤ 50 * doN l := by
  unfold doN
  induction l with
  | nil => cases h
  | cons x l ih =>
    rw [List.map_cons, List.sum_cons]
    rcases List.mem_cons.1 h with rfl | h
    · omega
    · have := ih h; omega
theorem doN_le (l : List Do) : doN l ≤ (l.map fun d => d.key.length + d.val.length + 4).sum := by
  unfold doN
  induction l with
  | nil => exact Nat.le_refl _
  | cons x l ih => rw [List.map_cons, List.sum_cons, List.map_cons, List.sum_cons]; omega
end Go.Proofs.YtdlljmmgkoeilaaDoor
namespace Go.Proofs.YtdlljmmgkoeilaaDoor
/-- The second one, with something folded. -/
inductive Fo : Nd → Nd → Prop
  | refl (t : Nd) : Fo t t
  | stub (t : Nd) (h0 : t.kind ≠ 0) : Fo (.mk 4 [] false [] [] (hashP t)) t
  | way (p : List UInt8) {k k' : Nd} (h : Fo k k') : Fo (.mk 2 p false [] [k] []) (.mk 2 p false [] [k'] [])
  | branch (has : Bool) (v : List UInt8) (ks ks' : List Nd) (hl : ks.length = ks'.length) (h : ∀ (i : Nat) (k k' : Nd), ks[i]? = some k → ks'[i]? = some k' → Fo k k') : Fo (.mk 3 [] has v ks []) (.mk 3 [] has v ks' [])
theorem Fo.kind {m n : Nd} (h : Fo m n) : (m.kind = 0 ↔ n.kind = 0) ∧ (m.kind ≠ 4 → m.kind = n.kind) := by
  cases h with
  | refl => exact ⟨Iff.rfl, fun _ => rfl⟩
  | stub _ h0 => exact ⟨⟨fun e => absurd (show (4 : Int) = 0 from e) (by decide), fun e => absurd e h0⟩, fun e => absurd rfl e⟩
  | way => exact ⟨⟨fun e => absurd (show (2 : Int) = 0 from e) (by decide), fun e => absurd (show (2 : Int) = 0 from e) (by decide)⟩, fun _ => rfl⟩
  | branch => exact ⟨⟨fun e => absurd (show (3 : Int) = 0 from e) (by decide), fun e => absurd (show (3 : Int) = 0 from e) (by decide)⟩, fun _ => rfl⟩
/-- Kids, each the other's or folded. -/
def Fos (ks ks' : List Nd) : Prop := ks.length = ks'.length ∧ ∀ (i : Nat) (k k' : Nd), ks[i]? = some k → ks'[i]? = some k' → Fo k k'
theorem Fos.refl (ks : List Nd) : Fos ks ks := ⟨rfl, fun i k k' h h' => by rw [h] at h'; injection h' with h'; rw [h']; exact .refl _⟩
theorem Fos.set {ks ks' : List Nd} (h : Fos ks ks') {a b : Nd} (hab : Fo a b) (i : Nat) : Fos (ks.set i a) (ks'.set i b) := by
  refine ⟨by rw [List.length_set, List.length_set]; exact h.1, fun j k k' hk hk' => ?_⟩
  by_cases e : i = j
  · subst e
    have h1 := (List.getElem?_eq_some_iff.1 hk).1
    have h2 := (List.getElem?_eq_some_iff.1 hk').1
    rw [List.length_set] at h1 h2
    rw [List.getElem?_set_self h1] at hk
    rw [List.getElem?_set_self h2] at hk'
    injection hk with hk; injection hk' with hk'
    rw [← hk, ← hk']; exact hab
  · rw [List.getElem?_set_ne e] at hk hk'
    exact h.2 j k k' hk hk'
theorem Fos.tail {k k' : Nd} {ks ks' : List Nd} (h : Fos (k :: ks) (k' :: ks')) : Fo k k' ∧ Fos ks ks' :=
  ⟨h.2 0 k k' rfl rfl, by have := h.1; simpa using this, fun i a b h1 h2 => h.2 (i + 1) a b (by simpa using h1) (by simpa using h2)⟩
theorem Fos.many : ∀ {ks ks' : List Nd}, Fos ks ks' → manyN ks = manyN ks'
  | [], [], _ => rfl
  | [], _ :: _, h => by have := h.1; simp at this
  | _ :: _, [], h => by have := h.1; simp at this
  | k :: ks, k' :: ks', h => by
    obtain ⟨h1, h2⟩ := h.tail
    rw [many_cons, many_cons, Fos.many h2]
    by_cases e : k.kind = 0
    · rw [if_pos e, if_pos (h1.kind.1.1 e)]
    · rw [if_neg e, if_neg (fun e' => e (h1.kind.1.2 e'))]
theorem Fos.scan {has : Bool} : ∀ {ks ks' : List Nd} {i : Nat} {o : Option Nat}, Fos ks ks' → scanK has ks i o = scanK has ks' i o
  | [], [], _, _, _ => rfl
  | [], _ :: _, _, _, h => by have := h.1; simp at this
  | _ :: _, [], _, _, h => by have := h.1; simp at this
  | k :: ks, k' :: ks', i, o, h => by
    obtain ⟨h1, h2⟩ := h.tail
    rw [scanK, scanK]
    by_cases e : k.kind = 0
    · rw [if_pos e, if_pos (h1.kind.1.1 e), Fos.scan h2]
    · rw [if_neg e, if_neg (fun e' => e (h1.kind.1.2 e')), Fos.scan h2]
theorem Fo.val {even : Bool} {m n : Nd} (h : Fo m n) : ∀ d, Val even n d → Val even m d := by
  induction h with
  | refl => exact fun d h => h
  | stub t h0 => exact fun d h => .stub d _ h.le (hashP_len h)
  | way p h ih =>
    intro d hv
    cases hv with
    | way _ _ _ hd hp h0 hk hr =>
      refine .way d p _ hd hp h0 ?_ (ih _ hr)
      rename_i k k'
      by_cases h4 : k.kind = 4
      · exact .inr h4
      · rw [h.kind.2 h4]; exact hk
  | branch has v ks ks' hl h ih =>
    intro d hv
    cases hv with
    | branch _ _ _ _ hd hv hv0 he h16 hr hm =>
      refine .branch d has v ks hd hv hv0 he (hl.trans h16) (fun k hk => ?_) (by rw [Fos.many ⟨hl, h⟩]; exact hm)
      obtain ⟨i, hi⟩ := List.getElem?_of_mem hk
      have hi' := (List.getElem?_eq_some_iff.1 hi).1
      have hk' : ks'[i]? = some (ks'[i]'(by omega)) := List.getElem?_eq_getElem (by omega)
      exact ih i k _ hi hk' _ (hr _ (List.mem_of_getElem? hk'))
theorem hashes_eq : ∀ {ks ks' : List Nd}, ks.length = ks'.length → (∀ (i : Nat) (k k' : Nd), ks[i]? = some k → ks'[i]? = some k' → (k.kind = 0 ↔ k'.kind = 0) ∧ hashP k = hashP k') → hashesP ks = hashesP ks'
  | [], [], _, _ => rfl
  | [], _ :: _, h, _ => by simp at h
  | _ :: _, [], h, _ => by simp at h
  | k :: ks, k' :: ks', h, hh => by
    obtain ⟨h1, h2⟩ := hh 0 k k' rfl rfl
    rw [hashesP, hashesP, hashes_eq (by simpa using h) (fun i a b ha hb => hh (i + 1) a b (by simpa using ha) (by simpa using hb)), h2]
    by_cases e : k.kind = 0
    · rw [if_neg (fun x => x e), if_neg (fun x => x (h1.1 e))]
    · rw [if_pos e, if_pos (fun x => e (h1.2 x))]
theorem kbit_eq {ks ks' : List Nd} (h : Fos ks ks') (i : Nat) : kbit ks i = kbit ks' i := by
  unfold kbit
  have : ((ks.getD i noneN).kind ≠ 0) ↔ ((ks'.getD i noneN).kind ≠ 0) := by
    rw [List.getD_eq_getElem?_getD, List.getD_eq_getElem?_getD]
    rcases Nat.lt_or_ge i ks.length with hi | hi
    · have h1 : ks[i]? = some (ks[i]'hi) := List.getElem?_eq_getElem hi
      have h2 : ks'[i]? = some (ks'[i]'(by have := h.1; omega)) := List.getElem?_eq_getElem (by have := h.1; omega)
      rw [h1, h2]
      exact not_congr (h.2 i _ _ h1 h2).kind.1
    · rw [List.getElem?_eq_none hi, List.getElem?_eq_none (by have := h.1; omega)]
  by_cases e : (ks.getD i noneN).kind ≠ 0
  · rw [if_pos e, if_pos (this.1 e)]
  · rw [if_neg e, if_neg (fun x => e (this.2 x))]
theorem kbits_eq {ks ks' : List Nd} (h : Fos ks ks') : ∀ i, kbits ks i = kbits ks' i
  | 0 => rfl
  | i + 1 => by rw [kbits, kbits, kbits_eq h i, kbit_eq h i]
theorem Fo.hash {m n : Nd} (h : Fo m n) : hashP m = hashP n := by
  induction h with
  | refl => rfl
  | stub t h0 => rw [hashP_eq]; exact if_pos rfl
  | @way p k k' h ih =>
    rw [hashP, hashP, if_neg (by decide), if_neg (by decide), hashes_eq (ks := [k]) (ks' := [k']) rfl (fun i a b ha hb => by
      match i, ha, hb with
      | 0, ha, hb =>
        simp at ha hb
        subst ha; subst hb
        exact ⟨h.kind.1, ih⟩)]
    rfl
  | branch has v ks ks' hl h ih =>
    rw [hashP, hashP, if_neg (by decide), if_neg (by decide), hashes_eq hl (fun i a b ha hb => ⟨(h i a b ha hb).kind.1, ih i a b ha hb⟩)]
    unfold encF
    rw [kbits_eq ⟨hl, h⟩ 16]
theorem Fo.get {even : Bool} {m n : Nd} (h : Fo m n) : ∀ d, Val even n d → ∀ q, halvesB q = true → getP m q = getP n q ∨ ∃ r, (getP m q).miss = some r ∧ r <+: q := by
  induction h with
  | refl => exact fun _ _ _ _ => .inl rfl
  | stub t h0 => exact fun _ _ q _ => .inr ⟨[], by rw [getP_stub], List.nil_prefix⟩
  | way p h ih =>
    intro d hv q hq
    cases hv with
    | way _ _ _ hd hp h0 hk hr =>
      by_cases hpq : p <+: q
      · rw [getP_way hpq, getP_way hpq]
        rcases ih _ hr (q.drop p.length) (halvesB_drop hq) with e | ⟨r, e1, e2⟩
        · exact .inl (by rw [e])
        · refine .inr ⟨p ++ r, by simp only [e1]; rfl, ?_⟩
          obtain ⟨s, rfl⟩ := hpq
          rw [List.drop_left] at e2
          exact (List.prefix_append_right_inj _).2 e2
      · exact .inl (by rw [getP_way0 hpq, getP_way0 hpq])
  | branch has v ks ks' hl h ih =>
    intro d hv q hq
    cases hv with
    | branch _ _ _ _ hd hv hv0 he h16 hr hm =>
      match q, hq with
      | [], _ => exact .inl (by rw [getP_br0, getP_br0])
      | x :: q', hq =>
        have hx := halves_hd hq
        obtain ⟨k, hk⟩ : ∃ k, ks[x.toNat]? = some k := ⟨_, List.getElem?_eq_getElem (by omega)⟩
        obtain ⟨k', hk'⟩ : ∃ k', ks'[x.toNat]? = some k' := ⟨_, List.getElem?_eq_getElem (by omega)⟩
        rw [getP_br hk, getP_br hk']
        rcases ih _ k k' hk hk' _ (hr k' (List.mem_of_getElem? hk')) q' (by have := halvesB_drop (n := 1) hq; simpa using this) with e | ⟨r, e1, e2⟩
        · exact .inl (by rw [e])
        · exact .inr ⟨x :: r, by simp only [e1]; rfl, List.cons_prefix_cons.2 ⟨rfl, e2⟩⟩
theorem Fo.along {a b : Nd} (h : Fo a b) (p : List UInt8) : Fo (alongN p a) (alongN p b) := by
  unfold alongN
  split
  · exact h
  · exact .way p h
theorem Fos.hold {ks ks' : List Nd} (h : Fos ks ks') (has : Bool) (v p val : List UInt8) : (holdK has v ks p val).1 = (holdK has v ks' p val).1 ∧ (holdK has v ks p val).2.1 = (holdK has v ks' p val).2.1 ∧ Fos (holdK has v ks p val).2.2 (holdK has v ks' p val).2.2 := by
  cases p with
  | nil => exact ⟨rfl, rfl, h⟩
  | cons x r => exact ⟨rfl, rfl, h.set (.refl _) _⟩
theorem Fo.fork {k k' : Nd} (h : Fo k k') (p q val : List UInt8) : Fo (forkN (.mk 2 p false [] [k] []) q val) (forkN (.mk 2 p false [] [k'] []) q val) := by
  unfold forkN
  simp only [Nd.path, Nd.kind, Nd.val, Nd.kids, List.headD_cons, Int.reduceEq, if_false]
  refine Fo.along ?_ _
  obtain ⟨h1, h2, h3⟩ := ((Fos.refl (noneNs 16)).set (h.along (p.drop (commonB p q + 1))) (p.getD (commonB p q) 0).toNat).hold false [] (q.drop (commonB p q)) val
  rw [h1, h2]
  exact .branch _ _ _ _ h3.1 h3.2
theorem Fo.put {even : Bool} {m n : Nd} (h : Fo m n) : ∀ d, Val even n d → ∀ q val, halvesB q = true → (getP m q).miss = none → Fo (putP m q val).1 (putP n q val).1 := by
  induction h with
  | refl => exact fun _ _ _ _ _ _ => .refl _
  | stub t h0 => intro _ _ q _ _ hm; rw [getP_stub] at hm; cases hm
  | way p h ih =>
    intro d hv q val hq hm
    cases hv with
    | way _ _ _ hd hp h0 hk hr =>
      by_cases hpq : p <+: q
      · rw [getP_way hpq] at hm
        rw [putP_way hpq, putP_way hpq]
        exact .way p (ih _ hr _ val (halvesB_drop hq) (by simpa using hm))
      · rw [putP_way0 hpq, putP_way0 hpq]
        exact h.fork p q val
  | branch has v ks ks' hl h ih =>
    intro d hv q val hq hm
    cases hv with
    | branch _ _ _ _ hd hv hv0 he h16 hr hm' =>
      match q, hq, hm with
      | [], _, _ => rw [putP_br0, putP_br0]; exact .branch _ _ _ _ hl h
      | x :: q', hq, hm =>
        have hx := halves_hd hq
        obtain ⟨k, hk⟩ : ∃ k, ks[x.toNat]? = some k := ⟨_, List.getElem?_eq_getElem (by omega)⟩
        obtain ⟨k', hk'⟩ : ∃ k', ks'[x.toNat]? = some k' := ⟨_, List.getElem?_eq_getElem (by omega)⟩
        rw [getP_br hk] at hm
        rw [putP_br hk, putP_br hk']
        have := Fos.set (ks := ks) (ks' := ks') ⟨hl, h⟩ (ih _ k k' hk hk' _ (hr k' (List.mem_of_getElem? hk')) q' val (by have := halvesB_drop (n := 1) hq; simpa using this) (by simpa using hm)) x.toNat
        exact .branch _ _ _ _ this.1 this.2
theorem Fo.behind {a b : Nd} (h : Fo a b) (h4 : a.kind ≠ 4) (p : List UInt8) : Fo (behindN p a) (behindN p b) := by
  cases h with
  | refl => exact .refl _
  | stub => exact absurd rfl h4
  | way p' h => rw [behind_way, behind_way]; exact .way _ h
  | branch has v ks ks' hl h => rw [behind_br, behind_br]; exact (Fo.branch has v ks ks' hl h).along p
theorem Fos.settle {ks ks' : List Nd} (h : Fos ks ks') (h16 : ks.length = 16) (has : Bool) (v : List UInt8) (hm : (settleP (.mk 3 [] has v ks [])).2 = none) : Fo (settleP (.mk 3 [] has v ks [])).1 (settleP (.mk 3 [] has v ks' [])).1 := by
  unfold settleP at hm ⊢
  dsimp only [Nd.has, Nd.kids, Nd.val] at hm ⊢
  rw [← Fos.scan h]
  cases hs : scanK has ks 0 none with
  | none => exact .branch _ _ _ _ h.1 h.2
  | some o =>
    cases o with
    | none => exact .refl _
    | some i =>
      rw [hs] at hm
      dsimp only at hm ⊢
      have hi : i < ks.length := by
        rcases scan_lt hs with h | h
        · cases h
        · omega
      have h1 : ks[i]? = some (ks[i]'hi) := List.getElem?_eq_getElem hi
      have h2 : ks'[i]? = some (ks'[i]'(by have := h.1; omega)) := List.getElem?_eq_getElem (by have := h.1; omega)
      have e1 : ks.getD i noneN = ks[i]'hi := by rw [List.getD_eq_getElem?_getD, h1]; rfl
      have e2 : ks'.getD i noneN = ks'[i]'(by have := h.1; omega) := by rw [List.getD_eq_getElem?_getD, h2]; rfl
      simp only [e1, e2] at hm ⊢
      have hf := h.2 i _ _ h1 h2
      by_cases h4 : (ks[i]'hi).kind = 4
      · rw [if_pos h4] at hm; cases hm
      · rw [if_neg h4, if_neg (by rw [← hf.kind.2 h4]; exact h4)]
        exact hf.behind h4 _
theorem Fo.drop {even : Bool} {m n : Nd} (h : Fo m n) : ∀ d, Val even n d → ∀ q, halvesB q = true → (getP m q).has = true → (dropP m q).2 = none → (dropP n q).2 = none → Fo (dropP m q).1 (dropP n q).1 := by
  induction h with
  | refl => exact fun _ _ _ _ _ _ _ => .refl _
  | stub t h0 => intro _ _ q _ hm; rw [getP_stub] at hm; cases hm
  | @way p k k' h ih =>
    intro d hv q hq hg hm hn
    have hvm := (Fo.way p h).val d hv
    cases hv with
    | way _ _ _ hd hp h0 hk hr =>
      have hpre : p <+: q := by
        rcases Classical.em (p <+: q) with h | h
        · exact h
        · rw [getP_way0 h] at hg; cases hg
      rw [getP_way hpre] at hg
      rw [dropP_way] at hm
      rw [dropP_way, dropP_way]
      have hm' : (dropP k (q.drop p.length)).2 = none := by simpa using hm
      rw [dropP_way] at hn
      have := ih _ hr _ (halvesB_drop hq) hg hm' (by simpa using hn)
      refine this.behind ?_ p
      cases hvm with
      | way _ _ _ _ _ _ _ hr2 => exact ((drop_items hr2 _ (halvesB_drop hq) hg).1 hm').2.1
  | branch has v ks ks' hl h ih =>
    intro d hv q hq hg hmm hn
    have hvm := (Fo.branch has v ks ks' hl h).val d hv
    cases hv with
    | branch _ _ _ _ hd hv hv0 he h16 hr hm =>
      match q, hq, hg, hmm, hn with
      | [], _, _, hmm, _ =>
        rw [dropP_br0] at hmm
        rw [dropP_br0, dropP_br0]
        exact Fos.settle ⟨hl, h⟩ (by omega) _ _ hmm
      | x :: q', hq, hg, hmm, hn =>
        have hx := halves_hd hq
        obtain ⟨k, hk⟩ : ∃ k, ks[x.toNat]? = some k := ⟨_, List.getElem?_eq_getElem (by omega)⟩
        obtain ⟨k', hk'⟩ : ∃ k', ks'[x.toNat]? = some k' := ⟨_, List.getElem?_eq_getElem (by omega)⟩
        rw [getP_br hk] at hg
        rw [dropP_br hk] at hmm
        rw [dropP_br hk'] at hn
        rw [dropP_br hk, dropP_br hk']
        cases hd2 : (dropP k q').2 with
        | some r => rw [hd2] at hmm; simp at hmm
        | none =>
          have hd3 : (dropP k' q').2 = none := by
            cases hd3 : (dropP k' q').2 with
            | none => rfl
            | some r => rw [hd3] at hn; simp at hn
          have hq' : halvesB q' = true := by have := halvesB_drop (n := 1) hq; simpa using this
          have hF := ih _ k k' hk hk' _ (hr k' (List.mem_of_getElem? hk')) q' hq' hg hd2 hd3
          rw [hd2] at hmm
          rw [hd3]
          simp only [Option.isSome_none, Bool.false_eq_true, if_false] at hmm ⊢
          exact Fos.settle (Fos.set ⟨hl, h⟩ hF x.toNat) (by rw [List.length_set]; omega) _ _ hmm
end Go.Proofs.YtdlljmmgkoeilaaDoor
