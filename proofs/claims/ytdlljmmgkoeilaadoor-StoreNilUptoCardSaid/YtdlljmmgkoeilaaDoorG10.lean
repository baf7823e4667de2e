/- The walk of trie.put. -/
import Derived.Test.YtdlljmmgkoeilaaDoorG09
namespace Go.Proofs.YtdlljmmgkoeilaaDoor
open Go.RowKit
mutual
/-- What trie.put comes to: the node, and the halves to a stub that is in the way. -/
def putP : Nd → List UInt8 → List UInt8 → Nd × Option (List UInt8)
  | .mk k p has v ks h, q, val =>
    if k = 4 then (.mk k p has v ks h, some [])
    else if k = 0 then (leafN q val, none)
    else if k = 1 then (if p = q then (leafN q val, none) else (forkN (.mk k p has v ks h) q val, none))
    else if k = 2 then (if p <+: q then (let r := putsP ks 0 (q.drop p.length) val; (.mk k p has v [r.1] h, r.2.map (p ++ ·))) else (forkN (.mk k p has v ks h) q val, none))
    else match q with
      | [] => (.mk k p true val ks h, none)
      | x :: q' => (let r := putsP ks x.toNat q' val; (.mk k p has v (ks.set x.toNat r.1) h, r.2.map (x :: ·)))
def putsP : List Nd → Nat → List UInt8 → List UInt8 → Nd × Option (List UInt8)
  | [], _, _, _ => (noneN, none)
  | t :: _, 0, q, val => putP t q val
  | _ :: ts, i + 1, q, val => putsP ts i q val
end
theorem putsP_at : ∀ {ks : List Nd} {i : Nat} {k : Nd} (q val : List UInt8), ks[i]? = some k → putsP ks i q val = putP k q val
  | t :: ks, 0, k, q, val, h => by simp at h; subst h; rw [putsP]
  | t :: ks, i + 1, k, q, val, h => by rw [putsP]; exact putsP_at q val (by simpa using h)
theorem putP_way0 {p q val : List UInt8} {k : Nd} (h : ¬ p <+: q) : putP (.mk 2 p false [] [k] []) q val = (forkN (.mk 2 p false [] [k] []) q val, none) := by
  conv => lhs; rw [putP.eq_def]
  simp [h]
theorem putP_way {p q val : List UInt8} {k : Nd} (h : p <+: q) : putP (.mk 2 p false [] [k] []) q val = (.mk 2 p false [] [(putP k (q.drop p.length) val).1] [], (putP k (q.drop p.length) val).2.map (p ++ ·)) := by
  have e := putsP_at (ks := [k]) (i := 0) (k := k) (q.drop p.length) val rfl
  conv => lhs; rw [putP.eq_def]
  simp [h, e]
theorem putP_br0 {has : Bool} {v val : List UInt8} {ks : List Nd} : putP (.mk 3 [] has v ks []) [] val = (.mk 3 [] true val ks [], none) := by
  conv => lhs; rw [putP.eq_def]
  simp
theorem putP_br {has : Bool} {v val : List UInt8} {ks : List Nd} {x : UInt8} {q : List UInt8} {k : Nd} (h : ks[x.toNat]? = some k) : putP (.mk 3 [] has v ks []) (x :: q) val = (.mk 3 [] has v (ks.set x.toNat (putP k q val).1) [], (putP k q val).2.map (x :: ·)) := by
  have e := putsP_at q val h
  conv => lhs; rw [putP.eq_def]
  simp [e]
theorem putP_none {q val : List UInt8} : putP noneN q val = (leafN q val, none) := by
  unfold noneN; conv => lhs; rw [putP.eq_def]
  simp
theorem putP_stub {h q val : List UInt8} : putP (.mk 4 [] false [] [] h) q val = (.mk 4 [] false [] [] h, some []) := by
  conv => lhs; rw [putP.eq_def]
  simp
theorem putP_leaf {p v q val : List UInt8} : putP (.mk 1 p false v [] []) q val = (if p = q then leafN q val else forkN (.mk 1 p false v [] []) q val, none) := by
  conv => lhs; rw [putP.eq_def]
  by_cases h : p = q <;> simp [h]
theorem is_tput : isFn Tryd.prog 49 = true := by kernel_rfl
theorem missOk.to {W W' : World} {F F' : Nat → Prop} {way : List UInt8} {m : Option (List UInt8)} {A : Option Addr} {n c : Nat} (h : missOk W F way m A n c) (hs : ∀ b, F b → W'.heap[b]? = W.heap[b]? ∧ F' b) : missOk W' F' way m A n c := by
  unfold missOk at *
  cases m with
  | none => exact h
  | some r => exact ⟨h.1, h.2.to hs⟩
theorem missOk.upz {W W' : World} {gs gs' : List (Option Nat)} {base : Nat} {way : List UInt8} {m : Option (List UInt8)} {A : Option Addr} {n c : Nat} (h : missOk W (Fz base W gs) way m A n c) (s : Stp W gs W' gs') : missOk W' (Fz base W' gs') way m A n c := by
  unfold missOk at *
  cases m with
  | none => exact h
  | some r => exact ⟨h.1, h.2.upz s⟩
theorem missOk.zfr {W W' : World} {gs : List (Option Nat)} {base : Nat} {way : List UInt8} {m : Option (List UInt8)} {A : Option Addr} {n c : Nat} (h : missOk W' (Fr W W') way m A n c) (hb : base ≤ W.heap.size) (hg : ∀ b, some b ∈ gs → b < W.heap.size) : missOk W' (Fz base W' gs) way m A n c := by
  unfold missOk at *
  cases m with
  | none => exact h
  | some r => exact ⟨h.1, h.2.zfr hb hg⟩
theorem missOk.frz {w W : World} {gs : List (Option Nat)} {way : List UInt8} {m : Option (List UInt8)} {A : Option Addr} {n c : Nat} (h : missOk W (Fz w.heap.size W gs) way m A n c) : missOk W (Fr w W) way m A n c := by
  unfold missOk at *
  cases m with
  | none => exact h
  | some r => exact ⟨h.1, h.2.frz⟩
theorem missOk.pre {W : World} {F : Nat → Prop} {way p : List UInt8} {m : Option (List UInt8)} {A : Option Addr} {n c : Nat} (h : missOk W F (way ++ p) m A n c) : missOk W F way (m.map (p ++ ·)) A n c := by
  unfold missOk at *
  cases m with
  | none => exact h
  | some r =>
    obtain ⟨h1, h2⟩ := h
    rw [List.append_assoc] at h2
    exact ⟨h1, h2⟩
theorem cellG {W W' : World} {g : Nat} {a : Addr} {v : Value} (hg : W.grownBy W' (some g)) (hne : a.block ≠ g) (hc : W.cell? a = some v) : W'.cell? a = some v :=
  (World.cell?_of_block (w := W) (a := a) (hg.block a.block (World.block_lt_of_cell? W a hc) (fun e => hne (by injection e with e)))).trans hc
theorem RdD.kid1 {W : World} {F : Nat → Prop} {gk : Nat} {t : Nd} {cs : List Value} (hB : Blk W gk 28 cs) (hr : RdL W F (dN t) cs) (hF : F gk) : RdD W F (dKs [t]) (.slice (some ⟨gk, 0, none⟩) 1 1) := by
  refine RdD.sl_iff.2 ⟨_, 1, cs, rfl, Nat.le_refl _, by rw [dNs_len], by rw [dNs, dNs, List.append_nil]; exact hr, fun _ => ⟨gk, 0, rfl, hF, fun j x hx => ?_⟩⟩
  rw [Nat.zero_add]; exact hB.at_ hx
theorem At.stp {w W W' : World} {gs : List (Option Nat)} (_ : At w W gs) (hb : Below W.heap.size W W') : Stp W gs W' gs := Stp.below hb
theorem At.stpn {w W W' : World} {gs : List (Option Nat)} (_ : At w W gs) (hb : Below W.heap.size W W') (g : Nat) (hg : W.heap.size ≤ g) : Stp W gs W' (some g :: gs) := Stp.new hb (fun b e => by injection e with e; omega)
theorem At.newn {w W W' : World} {gs : List (Option Nat)} (h : At w W gs) (hb : Below W.heap.size W W') (g : Nat) (hg : g < W'.heap.size) : At w W' (some g :: gs) := h.new hb (fun b e => by injection e with e; omega)
theorem cellsB {W W' : World} {es : List Value} {a : Addr} (h : Below W.heap.size W W') (hc : ∀ j x, es[j]? = some x → W.cell? (a.add j) = some x) : ∀ j x, es[j]? = some x → W'.cell? (a.add j) = some x := fun j x hx => cellB h (hc j x hx)
theorem cellsG {W W' : World} {es : List Value} {b off g : Nat} (h : W.grownBy W' (some g)) (hne : b ≠ g) (hc : ∀ j x, es[j]? = some x → W.cell? ((⟨b, off, none⟩ : Addr).add j) = some x) : ∀ j x, es[j]? = some x → W'.cell? ((⟨b, off, none⟩ : Addr).add j) = some x := fun j x hx => cellG h (by rw [Addr.add_lit]; exact hne) (hc j x hx)
theorem cellsG2 {W W' : World} {es : List Value} {a : Addr} {g : Nat} (h : W.grownBy W' (some g)) (hne : ∀ j, (a.add j).block ≠ g) (hc : ∀ j x, es[j]? = some x → W.cell? (a.add j) = some x) : ∀ j x, es[j]? = some x → W'.cell? (a.add j) = some x := fun j x hx => cellG h (hne j) (hc j x hx)
theorem ls2 {W : World} {gs : List (Option Nat)} {g2 nw cw np cp : Nat} {T : TypeId} {way p : List UInt8} {Aw Ap : Option Addr} (hB : Blk W g2 T [.slice Aw nw cw, .slice Ap np cp]) (hw : RdD W (Fd W gs) (dB way) (.slice Aw nw cw)) (hp : RdD W (Fd W gs) (dB p) (.slice Ap np cp)) (hn : some g2 ∉ gs) : RdD W (Fd W gs) (dLs [way, p]) (.slice (some ⟨g2, 0, none⟩) 2 2) :=
  RdD.sl_iff.2 ⟨_, 2, _, rfl, Nat.le_refl _, rfl, RdL.cons hw (RdL.cons hp RdL.nil_), fun _ => ⟨g2, 0, rfl, ⟨hB.lt, hn⟩, fun j x hx => by rw [Nat.zero_add]; exact hB.at_ hx⟩⟩
theorem own_nn {W : World} {base n c : Nat} {A : Option Addr} {l : List UInt8} (h : Own W base A n c l) (h0 : l ≠ []) : A ≠ none := fun e => by
  subst e
  have hl := h.len
  rcases h.2 with ⟨hv, hn⟩ | ⟨g, cap, cur, hv, _⟩
  · exact h0 (nil_of_len (by omega))
  · cases hv
def schPut : Sch := .take 0 (.take 1 (.take 2 (.take 3 (.take 4 (.take 5 (.take 6 (.take 7 (.take 8 (.take 9 (.take 10 (.take 11 (.take 12 (.two 13 (.two 14 (.two 15 (.take 16 (.take 17 (.take 18 (.one 19 .nil)))) 19 (.one 15 (.take 16 (.take 17 (.take 18 .nil))))) 19 (.one 14 (.one 15 (.take 16 (.take 17 (.take 18 .nil)))))) 19 (.one 13 (.one 14 (.one 15 (.take 16 (.take 17 (.take 18 .nil)))))))))))))))))))
/-- The kids in a block of their own. -/
theorem RdD.kidsB {W : World} {F : Nat → Prop} {gk c : Nat} {ks : List Nd} {xs rest : List Value} (hK : Blk W gk 28 (xs ++ rest)) (hX : RdL W F (dNs ks) xs) (hF : F gk) (hc : ks.length ≤ c) : RdD W F (dKs ks) (.slice (some ⟨gk, 0, none⟩) ks.length c) := by
  refine RdD.sl_iff.2 ⟨_, c, xs, rfl, hc, dNs_len _, hX, fun _ => ⟨gk, 0, rfl, hF, fun j x hx => ?_⟩⟩
  rw [Nat.zero_add]
  refine hK.at_ ?_
  rw [List.getElem?_append_left (List.getElem?_eq_some_iff.1 hx).1]; exact hx
/-- What trie.put answers of this node. -/
def PutOk (t : Nd) : Prop := ∀ (gs : List (Option Nat)) (w : World) (cs : List Value) (q val way : List UInt8) (Aq : Option Addr) (nq cq : Nat) (Ax : Option Addr) (nx cx : Nat) (Aw : Option Addr) (nw cw d : Nat) (even : Bool), RdL w (Fd w gs) (dN t) cs → RdD w (Fd w gs) (dB q) (.slice Aq nq cq) → RdD w (Fd w gs) (dB val) (.slice Ax nx cx) → RdD w (Fd w gs) (dB way) (.slice Aw nw cw) →
  (∀ b, some b ∈ gs → b < w.heap.size) → (Aw ≠ none ∨ (putP t q val).2 = none) → halvesB q = true → Val even t d → (way.length + q.length ≤ 100000 ∧ val.length ≤ 1000000) →
  Calls Tryd.prog 49 #[.agg cs.toArray, .slice Aq nq cq, .slice Ax nx cx, .slice Aw nw cw] w fun e w' => ∃ cs' Am nm cm, e = .returned (.tuple #[.agg cs'.toArray, .slice Am nm cm]) ∧ RdL w' (Fd w' gs) (dN (putP t q val).1) cs' ∧ missOk w' (Fr w w') way (putP t q val).2 Am nm cm ∧ Below w.heap.size w w'
set_option maxRecDepth 100000 in
set_option maxHeartbeats 1000000 in
theorem tput_step (N : Nat) (ih : ∀ k : Nd, sz k < N → PutOk k) (t : Nd) (ht : sz t ≤ N) (hN : N ≤ 1000000) : PutOk t := by
  intro gs w cs q val way Aq nq cq Ax nx cx Aw nw cw d even hr hq hv hw hgs hAw hhq hval hlen
  refine calls_ev (args := [.agg cs.toArray, .slice Aq nq cq, .slice Ax nx cx, .slice Aw nw cw]) mixed Tryd.func49 rfl (by kernel_rfl) ?_
  obtain ⟨Ap, cp, Av, cv, Ak, ck, Ah, ch, rfl, r1, r3, r4, r5⟩ := hr.node
  have hsz := sz_eq t
  have hsl := szs_len t.kids
  have enq := hq.slen
  have enw := hw.slen
  have enx := hv.slen
  refine v_boxB (ncs t Ap cp Av cv Ak ck Ah ch) rfl ?_
  rintro g4 W1 hg4 hB4 hb4 hs4
  refine v_allocB zN al_nd ?_
  rintro g8 W2 hg8 hB8 hb8 hs8
  rw [hg4] at hb4
  rw [hg8] at hb8
  have A1 : At w W1 (some g4 :: gs) := (At.start hgs).new hb4 (fun b e => by injection e with e; omega)
  have A2 : At w W2 (some g8 :: some g4 :: gs) := A1.new hb8 (fun b e => by injection e with e; omega)
  have S : Stp w gs W2 (some g8 :: some g4 :: gs) := (Stp.new hb4 (fun b e => by injection e with e; omega)).trans (Stp.new hb8 (fun b e => by injection e with e; omega))
  replace hB4 := hB4.below hb8
  have hgw : w.heap.size ≤ g4 ∧ g4 < g8 := by omega
  have h8l := hB8.lt
  replace r1 := r1.up S
  replace r3 := r3.up S
  replace r4 := r4.up S
  replace r5 := r5.up S
  replace hr := hr.up S
  replace hq := hq.up S
  replace hv := hv.up S
  replace hw := hw.up S
  clear hb4 hb8 A1 S
  refine p_fld fN0 rfl ?_
  refine v_load agg_int rfl (hB4.at_ rfl) ?_
  cases hval with
  | stub d hsh hd hh =>
    rw [putP_stub] at hAw ⊢
    have hAw' : Aw ≠ none := hAw.resolve_right (by simp)
    refine p_eq rfl rfl (fun _ => ?_) (fun h => absurd rfl h)
    refine dr (fun W => Blk W g4 28 (ncs (.mk 4 [] false [] [] hsh) Ap cp Av cv Ak ck Ah ch)) [(0, true), (1, true), (2, false), (3, false), (4, true)] (by kernel_rfl) hB4.drew ?_
    refine t_loadN (ncs (.mk 4 [] false [] [] hsh) Ap cp Av cv Ak ck Ah ch) agg_nd rfl rfl (fun W h => Blk.run h 0 _ (fun j v h => by rw [Nat.zero_add]; exact h)) ?_
    replace A2 := A2.drew
    refine cc is_sclone (sclone_any _ Aw nw cw way W2.drew (hw.up Stp.drew) (by omega)) ?_
    rintro e W3 ⟨A3, c3, rfl, o3, hn3, b3⟩
    refine ⟨_, rfl, hB4.drew.below b3, ?_⟩
    have M := o3.zb (base := w.heap.size) A2.size A2.lt
    refine v_storeA (ncs (.mk 4 [] false [] [] hsh) Ap cp Av cv Ak ck Ah ch) sz_nd rfl rfl rfl (ncs_one _ _ _ _ _ _ _ _ _) (hB8.drew.below b3) rfl ?_
    rintro W4 hB84 hg84 hs84
    refine ⟨(hB4.drew.below b3).grownN hg84 (by omega), ?_⟩
    have St : Stp W3 (some g8 :: some g4 :: gs) W4 (some g8 :: some g4 :: gs) := Stp.wrote hg84 (by simp)
    refine c_loadN (ncs (.mk 4 [] false [] [] hsh) Ap cp Av cv Ak ck Ah ch) agg_nd rfl rfl (hB84.run 0 _ (fun j v h => by rw [Nat.zero_add]; exact h)) ?_
    subst enw
    refine ⟨_, A3, _, c3, rfl, (((hr.up Stp.drew).up (Stp.below b3)).up St).up (Stp.drop.trans Stp.drop), ⟨fun e => hAw' (hn3.1 e), ?_⟩, ((A2.call b3).wrote hg84 (fun b e => by injection e with e; omega)).below⟩
    rw [List.append_nil]
    exact (M.upz St).frz
  | none d hd =>
    rw [putP_none]
    refine p_eq rfl rfl (fun h => absurd h (by decide)) (fun _ => ?_)
    refine p_eq rfl rfl (fun _ => ?_) (fun h => absurd rfl h)
    refine cc is_leaf (leaf_any q val _ _ Aq Ax nq cq nx cx hq hv A2.lt (by omega)) ?_
    rintro e W3 ⟨cs3, rfl, h3, b3⟩
    refine ⟨_, rfl, ?_⟩
    replace h3 := h3.zfr A2.size A2.lt
    replace h3 := h3.z0
    have hl3 := h3.len
    rw [dN_len] at hl3
    replace A2 := A2.call b3
    refine v_storeA cs3 sz_nd rfl rfl hl3 (h3.ones (dN_one _)) (hB8.below b3) rfl ?_
    rintro W4 hB84 hg84 hs84
    have St : Stp W3 (some g8 :: some g4 :: gs) W4 (some g8 :: some g4 :: gs) := Stp.wrote hg84 (by simp)
    refine c_loadN cs3 agg_nd rfl hl3 (hB84.run 0 _ (fun j v h => by rw [Nat.zero_add]; exact h)) ?_
    refine ⟨cs3, none, 0, 0, rfl, (h3.up St).up (Stp.drop.trans Stp.drop), ⟨rfl, rfl, rfl⟩, (A2.wrote hg84 (fun b e => by injection e with e; omega)).below⟩
  | leaf d p v hd hp hv' he =>
    rw [putP_leaf]
    refine p_eq rfl rfl (fun h => absurd (show (1 : Int) = 4 from h) (by decide)) (fun _ => ?_)
    refine p_eq rfl rfl (fun h => absurd (show (1 : Int) = 0 from h) (by decide)) (fun _ => ?_)
    refine p_eq rfl rfl (fun _ => ?_) (fun h => absurd rfl h)
    simp only [Nd.path, Nd.val, Nd.hash, Nd.kids] at r1 r3 r4 hsz
    obtain ⟨_, _, hp2⟩ := r1.rd Fd.lt
    obtain ⟨_, _, hq2⟩ := hq.rd Fd.lt
    refine p_fld fN1 rfl ?_
    refine v_load agg_b rfl (hB4.at_ rfl) ?_
    refine cc is_beq (beq_any Ap Aq p.length nq cp cq _ _ p q W2 hp2 hq2) ?_
    rintro e W3 ⟨rfl, rfl⟩
    refine ⟨_, rfl, ?_⟩
    by_cases hpq : p = q
    · rw [decide_eq_true hpq, if_pos hpq]
      refine cc is_leaf (leaf_any q val _ _ Aq Ax nq cq nx cx hq hv A2.lt (by omega)) ?_
      rintro e W3 ⟨cs3, rfl, h3, b3⟩
      refine ⟨_, rfl, ?_⟩
      replace h3 := h3.zfr A2.size A2.lt
      replace h3 := h3.z0
      have hl3 := h3.len
      rw [dN_len] at hl3
      replace A2 := A2.call b3
      refine v_storeA cs3 sz_nd rfl rfl hl3 (h3.ones (dN_one _)) (hB8.below b3) rfl ?_
      rintro W4 hB84 hg84 hs84
      have St : Stp W3 (some g8 :: some g4 :: gs) W4 (some g8 :: some g4 :: gs) := Stp.wrote hg84 (by simp)
      refine c_loadN cs3 agg_nd rfl hl3 (hB84.run 0 _ (fun j v h => by rw [Nat.zero_add]; exact h)) ?_
      refine ⟨cs3, none, 0, 0, rfl, (h3.up St).up (Stp.drop.trans Stp.drop), ⟨rfl, rfl, rfl⟩, (A2.wrote hg84 (fun b e => by injection e with e; omega)).below⟩
    · rw [decide_eq_false hpq, if_neg hpq]
      have hF : Forks (.mk 1 p false v [] []) q := Or.inl ⟨p, v, rfl⟩
      refine v_loadN _ agg_nd rfl rfl (hB4.run 0 _ (fun j v h => by rw [Nat.zero_add]; exact h)) ?_
      refine cc is_fork (fork_any _ q val _ _ _ Aq Ax nq cq nx cx hr hq hv A2.lt hF hp hhq (by omega) (by omega)) ?_
      rintro e W3 ⟨cs3, rfl, h3, b3⟩
      refine ⟨_, rfl, ?_⟩
      have hl3 := h3.len
      rw [dN_len] at hl3
      replace A2 := A2.call b3
      refine v_storeA cs3 sz_nd rfl rfl hl3 (h3.ones (dN_one _)) (hB8.below b3) rfl ?_
      rintro W4 hB84 hg84 hs84
      have St : Stp W3 (some g8 :: some g4 :: gs) W4 (some g8 :: some g4 :: gs) := Stp.wrote hg84 (by simp)
      refine c_loadN cs3 agg_nd rfl hl3 (hB84.run 0 _ (fun j v h => by rw [Nat.zero_add]; exact h)) ?_
      refine ⟨cs3, none, 0, 0, rfl, (h3.up St).up (Stp.drop.trans Stp.drop), ⟨rfl, rfl, rfl⟩, (A2.wrote hg84 (fun b e => by injection e with e; omega)).below⟩
  | way d p k hd hp h0 hk hrk =>
    refine p_eq rfl rfl (fun h => absurd (show (2 : Int) = 4 from h) (by decide)) (fun _ => ?_)
    refine p_eq rfl rfl (fun h => absurd (show (2 : Int) = 0 from h) (by decide)) (fun _ => ?_)
    refine p_eq rfl rfl (fun h => absurd (show (2 : Int) = 1 from h) (by decide)) (fun _ => ?_)
    refine p_eq rfl rfl (fun _ => ?_) (fun h => absurd rfl h)
    simp only [Nd.path, Nd.val, Nd.hash, Nd.kids] at r1 r3 r4 hsz
    have hkz : sz k < N := by have : szs [k] = sz k := by rw [szs, szs]; omega
                              omega
    obtain ⟨_, _, hp2⟩ := r1.rd Fd.lt
    obtain ⟨_, hcq, hq2⟩ := hq.rd Fd.lt
    refine p_fld fN1 rfl ?_
    refine v_load agg_b rfl (hB4.at_ rfl) ?_
    refine cc is_bpre (bpre_any Aq Ap nq p.length cq cp _ _ q p W2 hq2 hcq hp2) ?_
    rintro e W3 ⟨rfl, rfl⟩
    refine ⟨_, rfl, ?_⟩
    refine p_not rfl ?_
    by_cases hpre : p <+: q
    rotate_left
    · rw [decide_eq_false hpre]
      rw [putP_way0 hpre]
      have hF : Forks (.mk 2 p false [] [k] []) q := Or.inr ⟨p, k, rfl, by
        rcases Nat.lt_or_ge (commonB p q) p.length with h | h
        · exact h
        · exfalso
          have hl := commonB_le p q
          have e := commonB_pre p q
          rw [show commonB p q = p.length by omega, List.take_length] at e
          exact hpre (by rw [e]; exact List.take_prefix _ _)⟩
      refine v_loadN _ agg_nd rfl rfl (hB4.run 0 _ (fun j v h => by rw [Nat.zero_add]; exact h)) ?_
      refine cc is_fork (fork_any _ q val _ _ _ Aq Ax nq cq nx cx hr hq hv A2.lt hF hp hhq (by omega) (by omega)) ?_
      rintro e W3 ⟨cs3, rfl, h3, b3⟩
      refine ⟨_, rfl, ?_⟩
      have hl3 := h3.len
      rw [dN_len] at hl3
      replace A2 := A2.call b3
      refine v_storeA cs3 sz_nd rfl rfl hl3 (h3.ones (dN_one _)) (hB8.below b3) rfl ?_
      rintro W4 hB84 hg84 hs84
      have St : Stp W3 (some g8 :: some g4 :: gs) W4 (some g8 :: some g4 :: gs) := Stp.wrote hg84 (by simp)
      refine c_loadN cs3 agg_nd rfl hl3 (hB84.run 0 _ (fun j v h => by rw [Nat.zero_add]; exact h)) ?_
      refine ⟨cs3, none, 0, 0, rfl, (h3.up St).up (Stp.drop.trans Stp.drop), ⟨rfl, rfl, rfl⟩, (A2.wrote hg84 (fun b e => by injection e with e; omega)).below⟩
    · rw [decide_eq_true hpre]
      have hpl := hpre.length_le
      rw [putP_way hpre] at hAw ⊢
      replace A2 := A2.drew
      replace hB4 := hB4.drew
      replace hB8 := hB8.drew
      have sd : Stp W2 (some g8 :: some g4 :: gs) W2.drew (some g8 :: some g4 :: gs) := Stp.drew
      have hpw := r1.up sd
      replace r4 := r4.up sd
      replace hq := hq.up sd
      replace hv := hv.up sd
      replace hw := hw.up sd
      obtain ⟨Z, hZ⟩ : ∃ Z, Z = W2.heap.size := ⟨_, rfl⟩
      have hz2 : Z ≤ W2.drew.heap.size := Nat.le_of_eq hZ
      obtain ⟨b, off, es, rfl, hF, hes, hel, hc⟩ := r4.kid (i := 0) (k := k) rfl
      have hbl : b < Z := by rw [hZ]; exact hF.1
      have hcut := hq.cutB (i := p.length) (j := nq) (m := cq) (by omega) (Nat.le_refl _) (by omega)
      rw [List.take_of_length_le (by rw [List.length_drop]; omega)] at hcut
      clear r1 r3 r4 r5 hr hp2 hq2 hF sd
      refine drT (fun W => Blk W g4 28 (ncs (.mk 2 p false [] [k] []) Ap cp Av cv (some ⟨b, off, none⟩) ck Ah ch) ∧ ∀ j x, es[j]? = some x → W.cell? (((⟨b, off, none⟩ : Addr).add (0 * 6)).add j) = some x) (Sch.graft schPut (.one 20 (.take 21 .nil))) (by kernel_rfl) ⟨hB4, hc⟩ ?_
      refine cutT (List Value × Option Addr × Nat × Nat × Nat) (fun s W => At w W (some s.2.2.2.2 :: some g8 :: some g4 :: gs) ∧ RdL W (Fd W (some s.2.2.2.2 :: some g8 :: some g4 :: gs)) (dN (putP k (q.drop p.length) val).1) s.1 ∧ missOk W (Fz w.heap.size W (some s.2.2.2.2 :: some g8 :: some g4 :: gs)) way ((putP k (q.drop p.length) val).2.map (p ++ ·)) s.2.1 s.2.2.1 s.2.2.2.1 ∧
          RdD W (Fd W (some s.2.2.2.2 :: some g8 :: some g4 :: gs)) (dB p) (.slice Ap p.length cp) ∧ Blk W s.2.2.2.2 28 zN ∧ Blk W g8 28 zN ∧ Blk W g4 28 (ncs (.mk 2 p false [] [k] []) Ap cp Av cv (some ⟨b, off, none⟩) ck Ah ch) ∧ Z ≤ s.2.2.2.2 ∧ ∀ j x, es[j]? = some x → W.cell? (((⟨b, off, none⟩ : Addr).add (0 * 6)).add j) = some x)
        (fun s => [(4, .pointer (some ⟨g4, 0, none⟩)), (8, .pointer (some ⟨g8, 0, none⟩)), (10, .pointer (some ⟨s.2.2.2.2, 0, none⟩)), (67, .agg s.1.toArray), (68, .slice s.2.1 s.2.2.1 s.2.2.2.1)]) ?_ ?_
      · refine p_fld fN4 rfl ?_
        refine t_load agg_ns rfl (fun W h => h.1.at_ rfl) ?_
        refine p_at (i := 0) sln rfl rfl rfl (by show 0 < 1; decide) ?_
        refine t_loadN es agg_nd rfl hel (fun W h => h.2) ?_
        refine p_fld fN1 rfl ?_
        refine t_load agg_b rfl (fun W h => h.1.at_ rfl) ?_
        refine p_len slb rfl ?_
        refine p_slice (i := p.length) (j := nq) (m := cq) slb rfl (bnd_i rfl) rfl rfl rfl (by show p.length ≤ nq; omega) (by omega) (Nat.le_refl _) ?_
        refine p_fld fN1 rfl ?_
        refine t_load agg_b rfl (fun W h => h.1.at_ rfl) ?_
        have A := A2
        clear A2
        have hhq' : halvesB (q.drop p.length) = true := halvesB_drop hhq
        have hrk' := hrk
        have hlen' : (way ++ p).length + (q.drop p.length).length ≤ 100000 ∧ val.length ≤ 1000000 := by rw [List.length_append, List.length_drop]; omega
        refine ⟨?_, ?_⟩
        ·
          refine v_bslice (vs := [.slice Aw nw cw, .slice Ap p.length cp]) sl_ls' zls2 rfl (by decide) rfl ?_
          rintro g2 Wn hg2 hB2 hb -
          rw [hg2] at hb
          have hfr := A.lt
          have St := A.stp hb
          replace A := A.call hb
          replace hw := hw.up St
          replace hpw := hpw.up St
          replace hv := hv.up St
          replace hes := hes.up St
          replace hcut := hcut.up St
          try replace hD2 := hD2.up St
          try replace hcat := hcat.up St
          try replace hres := hres.up St
          try replace hmiss := hmiss.upz St
          replace hB4 := hB4.below hb
          replace hB8 := hB8.below hb
          try replace hB10 := hB10.below hb
          first | replace hc := cellsB hb hc | replace hc := And.intro (cellsB hb hc.1) (cellB hb hc.2)
          try replace r3 := r3.up St
          try replace hX := hX.up St
          try replace hK := hK.below hb
          try replace hq := hq.up St
          replace hz2 := Nat.le_trans hz2 hb.size
          have hD2 := ls2 hB2 hw hpw (fun e => by have := hfr g2 e; omega)
          clear hB2 hfr St hb hg2
          refine ⟨⟨hB4, hc⟩, ?_⟩
          refine ⟨?_, ?_⟩
          ·
            have hfl : [way, p].flatten = way ++ p := by simp
            have hcall := concat_any _ _ 2 2 [way, p] _ A.lt hD2 (by rw [hfl, List.length_append]; simp only [List.length_cons, List.length_nil] at *; omega) (by decide)
            rw [hfl] at hcall
            refine cc is_concat hcall ?_
            clear hcall
            rintro e Wn ⟨A3, c3, rfl, o3, hb⟩
            have hcat := (o3.zb (base := 0) (Nat.zero_le _) A.lt).z0
            have hA3 : A3 ≠ none := own_nn o3 (by simp [h0])
            have St := A.stp hb
            replace A := A.call hb
            replace hw := hw.up St
            replace hpw := hpw.up St
            replace hv := hv.up St
            replace hes := hes.up St
            replace hcut := hcut.up St
            try replace hD2 := hD2.up St
            try replace hcat := hcat.up St
            try replace hres := hres.up St
            try replace hmiss := hmiss.upz St
            replace hB4 := hB4.below hb
            replace hB8 := hB8.below hb
            try replace hB10 := hB10.below hb
            first | replace hc := cellsB hb hc | replace hc := And.intro (cellsB hb hc.1) (cellB hb hc.2)
            try replace r3 := r3.up St
            try replace hX := hX.up St
            try replace hK := hK.below hb
            try replace hq := hq.up St
            replace hz2 := Nat.le_trans hz2 hb.size
            clear St hb o3
            refine ⟨_, rfl, ⟨hB4, hc⟩, ?_⟩
            refine ⟨?_, ?_⟩
            ·
              refine cc is_tput (ih k hkz _ _ es (q.drop p.length) val (way ++ p) _ _ _ Ax nx cx A3 _ c3 (d+p.length) even hes hcut hv hcat A.lt (.inl hA3) hhq' hrk' hlen') ?_
              rintro e Wn ⟨cs5, Am, nm, cm, rfl, hres, hm5, hb⟩
              have hmiss := (hm5.zfr A.size A.lt).pre
              have St := A.stp hb
              replace A := A.call hb
              replace hw := hw.up St
              replace hpw := hpw.up St
              replace hv := hv.up St
              replace hes := hes.up St
              replace hcut := hcut.up St
              try replace hD2 := hD2.up St
              try replace hcat := hcat.up St
              try replace hres := hres.up St
              try replace hmiss := hmiss.upz St
              replace hB4 := hB4.below hb
              replace hB8 := hB8.below hb
              try replace hB10 := hB10.below hb
              first | replace hc := cellsB hb hc | replace hc := And.intro (cellsB hb hc.1) (cellB hb hc.2)
              try replace r3 := r3.up St
              try replace hX := hX.up St
              try replace hK := hK.below hb
              try replace hq := hq.up St
              replace hz2 := Nat.le_trans hz2 hb.size
              clear St hb hm5
              refine ⟨_, rfl, ⟨hB4, hc⟩, ?_⟩
              refine v_allocB zN al_nd ?_
              rintro g10 Wn hg10 hB10 hb -
              rw [hg10] at hb
              have h10 : Z ≤ g10 := by omega
              have St := A.stpn hb g10 (by omega)
              replace A := A.newn hb g10 hB10.lt
              replace hw := hw.up St
              replace hpw := hpw.up St
              replace hv := hv.up St
              replace hes := hes.up St
              replace hcut := hcut.up St
              try replace hD2 := hD2.up St
              try replace hcat := hcat.up St
              try replace hres := hres.up St
              try replace hmiss := hmiss.upz St
              replace hB4 := hB4.below hb
              replace hB8 := hB8.below hb
              try replace hB10 := hB10.below hb
              first | replace hc := cellsB hb hc | replace hc := And.intro (cellsB hb hc.1) (cellB hb hc.2)
              try replace r3 := r3.up St
              try replace hX := hX.up St
              try replace hK := hK.below hb
              try replace hq := hq.up St
              replace hz2 := Nat.le_trans hz2 hb.size
              clear St hb hg10
              refine ⟨⟨hB4, hc⟩, ?_⟩
              exact ⟨(cs5, Am, nm, cm, g10), ⟨A, hres, hmiss, hpw, hB10, hB8, hB4, h10, hc⟩, ⟨rfl, rfl, rfl, rfl, rfl, trivial⟩⟩
            ·
              refine v_allocB zN al_nd ?_
              rintro g10 Wn hg10 hB10 hb -
              rw [hg10] at hb
              have h10 : Z ≤ g10 := by omega
              have St := A.stpn hb g10 (by omega)
              replace A := A.newn hb g10 hB10.lt
              replace hw := hw.up St
              replace hpw := hpw.up St
              replace hv := hv.up St
              replace hes := hes.up St
              replace hcut := hcut.up St
              try replace hD2 := hD2.up St
              try replace hcat := hcat.up St
              try replace hres := hres.up St
              try replace hmiss := hmiss.upz St
              replace hB4 := hB4.below hb
              replace hB8 := hB8.below hb
              try replace hB10 := hB10.below hb
              first | replace hc := cellsB hb hc | replace hc := And.intro (cellsB hb hc.1) (cellB hb hc.2)
              try replace r3 := r3.up St
              try replace hX := hX.up St
              try replace hK := hK.below hb
              try replace hq := hq.up St
              replace hz2 := Nat.le_trans hz2 hb.size
              clear St hb hg10
              refine ⟨⟨hB4, hc⟩, ?_⟩
              refine cc is_tput (ih k hkz _ _ es (q.drop p.length) val (way ++ p) _ _ _ Ax nx cx A3 _ c3 (d+p.length) even hes hcut hv hcat A.lt (.inl hA3) hhq' hrk' hlen') ?_
              rintro e Wn ⟨cs5, Am, nm, cm, rfl, hres, hm5, hb⟩
              have hmiss := (hm5.zfr A.size A.lt).pre
              have St := A.stp hb
              replace A := A.call hb
              replace hw := hw.up St
              replace hpw := hpw.up St
              replace hv := hv.up St
              replace hes := hes.up St
              replace hcut := hcut.up St
              try replace hD2 := hD2.up St
              try replace hcat := hcat.up St
              try replace hres := hres.up St
              try replace hmiss := hmiss.upz St
              replace hB4 := hB4.below hb
              replace hB8 := hB8.below hb
              try replace hB10 := hB10.below hb
              first | replace hc := cellsB hb hc | replace hc := And.intro (cellsB hb hc.1) (cellB hb hc.2)
              try replace r3 := r3.up St
              try replace hX := hX.up St
              try replace hK := hK.below hb
              try replace hq := hq.up St
              replace hz2 := Nat.le_trans hz2 hb.size
              clear St hb hm5
              refine ⟨_, rfl, ⟨hB4, hc⟩, ?_⟩
              exact ⟨(cs5, Am, nm, cm, g10), ⟨A, hres, hmiss, hpw, hB10, hB8, hB4, h10, hc⟩, ⟨rfl, rfl, rfl, rfl, rfl, trivial⟩⟩
          ·
            refine v_allocB zN al_nd ?_
            rintro g10 Wn hg10 hB10 hb -
            rw [hg10] at hb
            have h10 : Z ≤ g10 := by omega
            have St := A.stpn hb g10 (by omega)
            replace A := A.newn hb g10 hB10.lt
            replace hw := hw.up St
            replace hpw := hpw.up St
            replace hv := hv.up St
            replace hes := hes.up St
            replace hcut := hcut.up St
            try replace hD2 := hD2.up St
            try replace hcat := hcat.up St
            try replace hres := hres.up St
            try replace hmiss := hmiss.upz St
            replace hB4 := hB4.below hb
            replace hB8 := hB8.below hb
            try replace hB10 := hB10.below hb
            first | replace hc := cellsB hb hc | replace hc := And.intro (cellsB hb hc.1) (cellB hb hc.2)
            try replace r3 := r3.up St
            try replace hX := hX.up St
            try replace hK := hK.below hb
            try replace hq := hq.up St
            replace hz2 := Nat.le_trans hz2 hb.size
            clear St hb hg10
            refine ⟨⟨hB4, hc⟩, ?_⟩
            have hfl : [way, p].flatten = way ++ p := by simp
            have hcall := concat_any _ _ 2 2 [way, p] _ A.lt hD2 (by rw [hfl, List.length_append]; simp only [List.length_cons, List.length_nil] at *; omega) (by decide)
            rw [hfl] at hcall
            refine cc is_concat hcall ?_
            clear hcall
            rintro e Wn ⟨A3, c3, rfl, o3, hb⟩
            have hcat := (o3.zb (base := 0) (Nat.zero_le _) A.lt).z0
            have hA3 : A3 ≠ none := own_nn o3 (by simp [h0])
            have St := A.stp hb
            replace A := A.call hb
            replace hw := hw.up St
            replace hpw := hpw.up St
            replace hv := hv.up St
            replace hes := hes.up St
            replace hcut := hcut.up St
            try replace hD2 := hD2.up St
            try replace hcat := hcat.up St
            try replace hres := hres.up St
            try replace hmiss := hmiss.upz St
            replace hB4 := hB4.below hb
            replace hB8 := hB8.below hb
            try replace hB10 := hB10.below hb
            first | replace hc := cellsB hb hc | replace hc := And.intro (cellsB hb hc.1) (cellB hb hc.2)
            try replace r3 := r3.up St
            try replace hX := hX.up St
            try replace hK := hK.below hb
            try replace hq := hq.up St
            replace hz2 := Nat.le_trans hz2 hb.size
            clear St hb o3
            refine ⟨_, rfl, ⟨hB4, hc⟩, ?_⟩
            refine cc is_tput (ih k hkz _ _ es (q.drop p.length) val (way ++ p) _ _ _ Ax nx cx A3 _ c3 (d+p.length) even hes hcut hv hcat A.lt (.inl hA3) hhq' hrk' hlen') ?_
            rintro e Wn ⟨cs5, Am, nm, cm, rfl, hres, hm5, hb⟩
            have hmiss := (hm5.zfr A.size A.lt).pre
            have St := A.stp hb
            replace A := A.call hb
            replace hw := hw.up St
            replace hpw := hpw.up St
            replace hv := hv.up St
            replace hes := hes.up St
            replace hcut := hcut.up St
            try replace hD2 := hD2.up St
            try replace hcat := hcat.up St
            try replace hres := hres.up St
            try replace hmiss := hmiss.upz St
            replace hB4 := hB4.below hb
            replace hB8 := hB8.below hb
            try replace hB10 := hB10.below hb
            first | replace hc := cellsB hb hc | replace hc := And.intro (cellsB hb hc.1) (cellB hb hc.2)
            try replace r3 := r3.up St
            try replace hX := hX.up St
            try replace hK := hK.below hb
            try replace hq := hq.up St
            replace hz2 := Nat.le_trans hz2 hb.size
            clear St hb hm5
            refine ⟨_, rfl, ⟨hB4, hc⟩, ?_⟩
            exact ⟨(cs5, Am, nm, cm, g10), ⟨A, hres, hmiss, hpw, hB10, hB8, hB4, h10, hc⟩, ⟨rfl, rfl, rfl, rfl, rfl, trivial⟩⟩
        ·
          refine v_allocB zN al_nd ?_
          rintro g10 Wn hg10 hB10 hb -
          rw [hg10] at hb
          have h10 : Z ≤ g10 := by omega
          have St := A.stpn hb g10 (by omega)
          replace A := A.newn hb g10 hB10.lt
          replace hw := hw.up St
          replace hpw := hpw.up St
          replace hv := hv.up St
          replace hes := hes.up St
          replace hcut := hcut.up St
          try replace hD2 := hD2.up St
          try replace hcat := hcat.up St
          try replace hres := hres.up St
          try replace hmiss := hmiss.upz St
          replace hB4 := hB4.below hb
          replace hB8 := hB8.below hb
          try replace hB10 := hB10.below hb
          first | replace hc := cellsB hb hc | replace hc := And.intro (cellsB hb hc.1) (cellB hb hc.2)
          try replace r3 := r3.up St
          try replace hX := hX.up St
          try replace hK := hK.below hb
          try replace hq := hq.up St
          replace hz2 := Nat.le_trans hz2 hb.size
          clear St hb hg10
          refine ⟨⟨hB4, hc⟩, ?_⟩
          refine v_bslice (vs := [.slice Aw nw cw, .slice Ap p.length cp]) sl_ls' zls2 rfl (by decide) rfl ?_
          rintro g2 Wn hg2 hB2 hb -
          rw [hg2] at hb
          have hfr := A.lt
          have St := A.stp hb
          replace A := A.call hb
          replace hw := hw.up St
          replace hpw := hpw.up St
          replace hv := hv.up St
          replace hes := hes.up St
          replace hcut := hcut.up St
          try replace hD2 := hD2.up St
          try replace hcat := hcat.up St
          try replace hres := hres.up St
          try replace hmiss := hmiss.upz St
          replace hB4 := hB4.below hb
          replace hB8 := hB8.below hb
          try replace hB10 := hB10.below hb
          first | replace hc := cellsB hb hc | replace hc := And.intro (cellsB hb hc.1) (cellB hb hc.2)
          try replace r3 := r3.up St
          try replace hX := hX.up St
          try replace hK := hK.below hb
          try replace hq := hq.up St
          replace hz2 := Nat.le_trans hz2 hb.size
          have hD2 := ls2 hB2 hw hpw (fun e => by have := hfr g2 e; omega)
          clear hB2 hfr St hb hg2
          refine ⟨⟨hB4, hc⟩, ?_⟩
          have hfl : [way, p].flatten = way ++ p := by simp
          have hcall := concat_any _ _ 2 2 [way, p] _ A.lt hD2 (by rw [hfl, List.length_append]; simp only [List.length_cons, List.length_nil] at *; omega) (by decide)
          rw [hfl] at hcall
          refine cc is_concat hcall ?_
          clear hcall
          rintro e Wn ⟨A3, c3, rfl, o3, hb⟩
          have hcat := (o3.zb (base := 0) (Nat.zero_le _) A.lt).z0
          have hA3 : A3 ≠ none := own_nn o3 (by simp [h0])
          have St := A.stp hb
          replace A := A.call hb
          replace hw := hw.up St
          replace hpw := hpw.up St
          replace hv := hv.up St
          replace hes := hes.up St
          replace hcut := hcut.up St
          try replace hD2 := hD2.up St
          try replace hcat := hcat.up St
          try replace hres := hres.up St
          try replace hmiss := hmiss.upz St
          replace hB4 := hB4.below hb
          replace hB8 := hB8.below hb
          try replace hB10 := hB10.below hb
          first | replace hc := cellsB hb hc | replace hc := And.intro (cellsB hb hc.1) (cellB hb hc.2)
          try replace r3 := r3.up St
          try replace hX := hX.up St
          try replace hK := hK.below hb
          try replace hq := hq.up St
          replace hz2 := Nat.le_trans hz2 hb.size
          clear St hb o3
          refine ⟨_, rfl, ⟨hB4, hc⟩, ?_⟩
          refine cc is_tput (ih k hkz _ _ es (q.drop p.length) val (way ++ p) _ _ _ Ax nx cx A3 _ c3 (d+p.length) even hes hcut hv hcat A.lt (.inl hA3) hhq' hrk' hlen') ?_
          rintro e Wn ⟨cs5, Am, nm, cm, rfl, hres, hm5, hb⟩
          have hmiss := (hm5.zfr A.size A.lt).pre
          have St := A.stp hb
          replace A := A.call hb
          replace hw := hw.up St
          replace hpw := hpw.up St
          replace hv := hv.up St
          replace hes := hes.up St
          replace hcut := hcut.up St
          try replace hD2 := hD2.up St
          try replace hcat := hcat.up St
          try replace hres := hres.up St
          try replace hmiss := hmiss.upz St
          replace hB4 := hB4.below hb
          replace hB8 := hB8.below hb
          try replace hB10 := hB10.below hb
          first | replace hc := cellsB hb hc | replace hc := And.intro (cellsB hb hc.1) (cellB hb hc.2)
          try replace r3 := r3.up St
          try replace hX := hX.up St
          try replace hK := hK.below hb
          try replace hq := hq.up St
          replace hz2 := Nat.le_trans hz2 hb.size
          clear St hb hm5
          refine ⟨_, rfl, ⟨hB4, hc⟩, ?_⟩
          exact ⟨(cs5, Am, nm, cm, g10), ⟨A, hres, hmiss, hpw, hB10, hB8, hB4, h10, hc⟩, ⟨rfl, rfl, rfl, rfl, rfl, trivial⟩⟩
      · rintro ⟨cs5, Am, nm, cm, g10⟩ B5 W5 ⟨A5, hres, hmiss, hpw, hB10, hB8, hB4, h10, hc⟩
        dsimp only at A5 hres hmiss hpw hB10 h10
        have h10l := hB10.lt
        obtain ⟨Ap5, cp5, Av5, cv5, Ak5, ck5, Ah5, ch5, rfl, -⟩ := hres.node
        refine v_storeA (ncs (putP k (q.drop p.length) val).1 Ap5 cp5 Av5 cv5 Ak5 ck5 Ah5 ch5) sz_nd rfl rfl rfl (ncs_one _ _ _ _ _ _ _ _ _) hB10 rfl ?_
        rintro W6 hB106 hg6 hs6
        dsimp only at hB106 hg6
        have St6 : Stp W5 (some g10 :: some g8 :: some g4 :: gs) W6 (some g10 :: some g8 :: some g4 :: gs) := Stp.wrote hg6 (by simp)
        have hB46 := hB4.grownN hg6 (by omega)
        have hB86 := hB8.grownN hg6 (by omega)
        refine ⟨⟨hB46, cellsG hg6 (by omega) hc⟩, ?_⟩
        replace A5 := A5.wrote hg6 (fun b e => by injection e with e; omega)
        replace hres := hres.up St6
        replace hmiss := hmiss.upz St6
        replace hpw := hpw.up St6
        refine v_loadN (ncs (putP k (q.drop p.length) val).1 Ap5 cp5 Av5 cv5 Ak5 ck5 Ah5 ch5) agg_nd rfl rfl (hB106.run 0 _ (fun j v h => by rw [Nat.zero_add]; exact h)) ?_
        refine v_bslice (vs := ncs (putP k (q.drop p.length) val).1 Ap5 cp5 Av5 cv5 Ak5 ck5 Ah5 ch5) sln z_nd rfl (by decide) rfl ?_
        rintro gk W7 hgk hBk hb7 hs7
        rw [hgk] at hb7
        have hfr := A5.lt
        have hkg : some gk ∉ some g10 :: some g8 :: some g4 :: gs := fun e => by have := hfr gk e; omega
        have St7 := A5.stp hb7
        replace A5 := A5.call hb7
        have hK := RdD.kid1 hBk (hres.up St7) ⟨hBk.lt, hkg⟩
        replace hpw := hpw.up St7
        replace hmiss := hmiss.upz St7
        refine p_fld fN4 rfl ?_
        refine v_set (.slice (some ⟨gk, 0, none⟩) 1 1) sz_ns (hB46.below hb7) rfl rfl rfl (by show 4 < 6; decide) ?_
        rintro W8 hB48 hg8' hs8'
        replace hB48 : Blk W8 g4 28 (ncs (.mk 2 p false [] [(putP k (q.drop p.length) val).1] []) Ap cp Av cv (some ⟨gk, 0, none⟩) 1 Ah ch) := hB48
        have St8 : Stp W7 (some g10 :: some g8 :: some g4 :: gs) W8 (some g10 :: some g8 :: some g4 :: gs) := Stp.wrote hg8' (by simp)
        replace A5 := A5.wrote hg8' (fun b e => by injection e with e; omega)
        refine v_loadN (ncs (.mk 2 p false [] [(putP k (q.drop p.length) val).1] []) Ap cp Av cv (some ⟨gk, 0, none⟩) 1 Ah ch) agg_nd rfl rfl (hB48.run 0 _ (fun j v h => by rw [Nat.zero_add]; exact h)) ?_
        refine v_storeA (ncs (.mk 2 p false [] [(putP k (q.drop p.length) val).1] []) Ap cp Av cv (some ⟨gk, 0, none⟩) 1 Ah ch) sz_nd rfl rfl rfl (ncs_one _ _ _ _ _ _ _ _ _) ((hB86.below hb7).grownN hg8' (by omega)) rfl ?_
        rintro W9 hB89 hg9 hs9
        have St9 : Stp W8 (some g10 :: some g8 :: some g4 :: gs) W9 (some g10 :: some g8 :: some g4 :: gs) := Stp.wrote hg9 (by simp)
        refine c_loadN (ncs (.mk 2 p false [] [(putP k (q.drop p.length) val).1] []) Ap cp Av cv (some ⟨gk, 0, none⟩) 1 Ah ch) agg_nd rfl rfl (hB89.run 0 _ (fun j v h => by rw [Nat.zero_add]; exact h)) ?_
        have St := St8.trans St9
        refine ⟨_, Am, nm, cm, rfl, RdL.up (RdL.ofnode (t := .mk 2 p false [] [(putP k (q.drop p.length) val).1] []) (hpw.up St) (RdD.nil_ _ _) (hK.up St) (RdD.nil_ _ _)) (Stp.drop.trans (Stp.drop.trans Stp.drop)), (hmiss.upz St).frz, (A5.wrote hg9 (fun b e => by injection e with e; omega)).below⟩
  | branch d has v ks hd hv' hv0 he h16 hrk hm =>
    refine p_eq rfl rfl (fun h => absurd (show (3 : Int) = 4 from h) (by decide)) (fun _ => ?_)
    refine p_eq rfl rfl (fun h => absurd (show (3 : Int) = 0 from h) (by decide)) (fun _ => ?_)
    refine p_eq rfl rfl (fun h => absurd (show (3 : Int) = 1 from h) (by decide)) (fun _ => ?_)
    refine p_eq rfl rfl (fun h => absurd (show (3 : Int) = 2 from h) (by decide)) (fun _ => ?_)
    simp only [Nd.path, Nd.val, Nd.hash, Nd.kids] at r1 r3 r4 hsz
    refine p_fld fN4 rfl ?_
    refine v_load agg_ns rfl (hB4.at_ rfl) ?_
    refine cc is_kclone (kclone_any _ Ak ks.length ck ks W2 r4 A2.lt (by omega) (by omega)) ?_
    rintro e W3 ⟨gk, ck', xs, rest, rfl, hgk, hck, hK, hX, hb⟩
    refine ⟨_, rfl, ?_⟩
    have St := A2.stpn hb gk hgk
    replace A2 := A2.newn hb gk hK.lt
    replace r3 := r3.up St
    replace hq := hq.up St
    replace hv := hv.up St
    replace hw := hw.up St
    replace hB4 := hB4.below hb
    replace hB8 := hB8.below hb
    clear r1 r4 r5 hr St hb
    refine p_fld fN4 rfl ?_
    refine v_set (.slice (some ⟨gk, 0, none⟩) ks.length ck') sz_ns hB4 rfl rfl rfl (by show 4 < 6; decide) ?_
    rintro W4 hB44 hg44 hs44
    replace hB44 : Blk W4 g4 28 (ncs (.mk 3 [] has v ks []) Ap cp Av cv (some ⟨gk, 0, none⟩) ck' Ah ch) := hB44
    have St : Stp W3 (some gk :: some g8 :: some g4 :: gs) W4 (some gk :: some g8 :: some g4 :: gs) := Stp.wrote hg44 (by simp)
    replace A2 := A2.wrote hg44 (fun b e => by injection e with e; omega)
    replace r3 := r3.up St
    replace hq := hq.up St
    replace hv := hv.up St
    replace hw := hw.up St
    replace hX := hX.up St
    replace hB8 := hB8.grownN hg44 (by omega)
    replace hK := hK.grownN hg44 (by omega)
    replace hB4 := hB44
    have hwk : g8 < gk := by omega
    clear hB44 hg44 hs44 St
    refine p_len slb rfl ?_
    match q, hq, hhq, hlen, enq, hAw with
    | [], hq, hhq, hlen, enq, hAw =>
      rw [putP_br0]
      subst enq
      refine p_eq rfl rfl (fun _ => ?_) (fun h => absurd rfl h)
      refine cc is_bclone (bclone_any _ Ax nx cx val W4 hv (by omega)) ?_
      rintro e W5 ⟨A5, c5, rfl, o5, -, hb⟩
      refine ⟨_, rfl, ?_⟩
      have V := (o5.zb (base := 0) (Nat.zero_le _) A2.lt).z0
      have St5 := A2.stp hb
      refine p_fld fN2 rfl ?_
      refine v_set (.bool true) sz_bo (hB4.below hb) rfl rfl rfl (by show 2 < 6; decide) ?_
      rintro W6 hB6 hg6 hs6
      refine p_fld fN3 rfl ?_
      refine v_set (.slice A5 nx c5) sz_by hB6 rfl rfl rfl (by show 3 < 6; decide) ?_
      rintro W7 hB7 hg7 hs7
      subst enx
      replace hB7 : Blk W7 g4 28 (ncs (.mk 3 [] true val ks []) Ap cp A5 c5 (some ⟨gk, 0, none⟩) ck' Ah ch) := hB7
      refine v_loadN (ncs (.mk 3 [] true val ks []) Ap cp A5 c5 (some ⟨gk, 0, none⟩) ck' Ah ch) agg_nd rfl rfl (hB7.run 0 _ (fun j v h => by rw [Nat.zero_add]; exact h)) ?_
      refine v_storeA (ncs (.mk 3 [] true val ks []) Ap cp A5 c5 (some ⟨gk, 0, none⟩) ck' Ah ch) sz_nd rfl rfl rfl (ncs_one _ _ _ _ _ _ _ _ _) (((hB8.below hb).grownN hg6 (by omega)).grownN hg7 (by omega)) rfl ?_
      rintro W8 hB8' hg8' hs8'
      refine c_loadN (ncs (.mk 3 [] true val ks []) Ap cp A5 c5 (some ⟨gk, 0, none⟩) ck' Ah ch) agg_nd rfl rfl (hB8'.run 0 _ (fun j v h => by rw [Nat.zero_add]; exact h)) ?_
      have St : Stp W5 (some gk :: some g8 :: some g4 :: gs) W8 gs := ((((Stp.wrote hg6 (by simp)).trans (Stp.wrote hg7 (by simp))).trans (Stp.wrote hg8' (by simp))).trans (Stp.drop.trans (Stp.drop.trans Stp.drop)))
      have hK8 := (((hK.below hb).grownN hg6 (by omega)).grownN hg7 (by omega)).grownN hg8' (by omega)
      have A8 := (((A2.call hb).wrote hg6 (fun b e => by injection e with e; omega)).wrote hg7 (fun b e => by injection e with e; omega)).wrote hg8' (fun b e => by injection e with e; omega)
      refine ⟨_, none, 0, 0, rfl, RdL.ofnode (t := .mk 3 [] true val ks []) (RdD.nil_ _ _) (V.up St) (RdD.kidsB hK8 ((hX.up St5).up St) ⟨hK8.lt, fun e => by have := hgs gk e; omega⟩ hck) (RdD.nil_ _ _), ⟨rfl, rfl, rfl⟩, A8.below⟩
    | x :: q', hq, hhq, hlen, enq, hAw =>
      have hx := halves_hd hhq
      obtain ⟨k, hki⟩ : ∃ k, ks[x.toNat]? = some k := ⟨_, List.getElem?_eq_getElem (by omega)⟩
      have hkm := List.mem_of_getElem? hki
      have hkz : sz k < N := by have := szs_mem hkm; omega
      rw [putP_br hki] at hAw ⊢
      rw [List.length_cons] at enq hlen
      refine p_eq rfl rfl (fun h => by omega) (fun _ => ?_)
      replace A2 := A2.drew
      replace hB4 := hB4.drew
      replace hB8 := hB8.drew
      replace hK := hK.drew
      have sd : Stp W4 (some gk :: some g8 :: some g4 :: gs) W4.drew (some gk :: some g8 :: some g4 :: gs) := Stp.drew
      replace r3 := r3.up sd
      replace hq := hq.up sd
      replace hv := hv.up sd
      replace hw := hw.up sd
      replace hX := hX.up sd
      obtain ⟨Z, hZ⟩ : ∃ Z, Z = W4.heap.size := ⟨_, rfl⟩
      have hz2 : Z ≤ W4.drew.heap.size := Nat.le_of_eq hZ
      have hkZ : gk < Z := by rw [hZ]; exact hK.lt
      obtain ⟨_, hcq, hqr⟩ := hq.rd Fd.lt
      obtain ⟨bq, oq, eAq, hcx⟩ := hqr.at_ (k := 0) (by omega)
      subst eAq
      have hcx' : W4.drew.cell? (Addr.add ⟨bq, oq, none⟩ (0 * 1)) = some (.int .u8 (x.toNat : Nat)) := by rw [Addr.add_lit]; exact hcx
      have hbZ : bq < Z := by rw [hZ]; exact World.block_lt_of_cell? _ _ hcx
      have hcut := hq.cutB (i := 1) (j := nq) (m := cq) (by omega) (Nat.le_refl _) (by omega)
      rw [List.drop_succ_cons, List.drop_zero, List.take_of_length_le (by omega)] at hcut
      have hpw := hq.cutB (i := 0) (j := 1) (m := cq) (by omega) (by omega) (by omega)
      rw [Nat.sub_zero, Nat.sub_zero, List.drop_zero, List.take_succ_cons, List.take_zero] at hpw
      have hxl := hX.len
      rw [dNs_len, h16] at hxl
      obtain ⟨es, hese⟩ : ∃ es, es = (xs.drop (x.toNat * 6)).take 6 := ⟨_, rfl⟩
      have hes : RdL W4.drew (Fd W4.drew (some gk :: some g8 :: some g4 :: gs)) (dN k) es := by rw [hese, ← dNs_at hki]; exact (hX.drop _).take _
      have hel : es.length = 6 := by rw [hes.len, dN_len]
      have hcc : ∀ j y, es[j]? = some y → W4.drew.cell? (((⟨gk, 0, none⟩ : Addr).add (x.toNat * 6)).add j) = some y := by
        intro j y hy
        have hj := (List.getElem?_eq_some_iff.1 hy).1
        rw [Addr.add_lit, Addr.add_lit, Nat.zero_add]
        refine hK.at_ ?_
        rw [List.getElem?_append_left (by omega)]
        rw [hese, List.getElem?_take_of_lt (by omega), List.getElem?_drop] at hy
        exact hy
      have hc := And.intro hcc hcx'
      clear hcc hcx hcx' hqr sd hese
      refine drT (fun W => Blk W g4 28 (ncs (.mk 3 [] has v ks []) Ap cp Av cv (some ⟨gk, 0, none⟩) ck' Ah ch) ∧ (∀ j y, es[j]? = some y → W.cell? (((⟨gk, 0, none⟩ : Addr).add (x.toNat * 6)).add j) = some y) ∧ W.cell? (Addr.add ⟨bq, oq, none⟩ (0 * 1)) = some (.int .u8 (x.toNat : Nat))) (Sch.graft schPut (.one 20 (.take 21 .nil))) (by kernel_rfl) ⟨hB4, hc⟩ ?_
      refine cutT (List Value × Option Addr × Nat × Nat × Nat) (fun s W => At w W (some s.2.2.2.2 :: some gk :: some g8 :: some g4 :: gs) ∧ RdL W (Fd W (some s.2.2.2.2 :: some gk :: some g8 :: some g4 :: gs)) (dN (putP k q' val).1) s.1 ∧ missOk W (Fz w.heap.size W (some s.2.2.2.2 :: some gk :: some g8 :: some g4 :: gs)) way ((putP k q' val).2.map ([x] ++ ·)) s.2.1 s.2.2.1 s.2.2.2.1 ∧
          RdD W (Fd W (some s.2.2.2.2 :: some gk :: some g8 :: some g4 :: gs)) (dB v) (.slice Av v.length cv) ∧ RdL W (Fd W (some s.2.2.2.2 :: some gk :: some g8 :: some g4 :: gs)) (dNs ks) xs ∧ Blk W gk 28 (xs ++ rest) ∧ Blk W s.2.2.2.2 28 zN ∧ Blk W g8 28 zN ∧ Blk W g4 28 (ncs (.mk 3 [] has v ks []) Ap cp Av cv (some ⟨gk, 0, none⟩) ck' Ah ch) ∧ Z ≤ s.2.2.2.2 ∧
          (∀ j y, es[j]? = some y → W.cell? (((⟨gk, 0, none⟩ : Addr).add (x.toNat * 6)).add j) = some y) ∧ W.cell? (Addr.add ⟨bq, oq, none⟩ (0 * 1)) = some (.int .u8 (x.toNat : Nat)))
        (fun s => [(1, .slice (some ⟨bq, oq, none⟩) nq cq), (4, .pointer (some ⟨g4, 0, none⟩)), (8, .pointer (some ⟨g8, 0, none⟩)), (12, .pointer (some ⟨s.2.2.2.2, 0, none⟩)), (103, .agg s.1.toArray), (104, .slice s.2.1 s.2.2.1 s.2.2.2.1)]) ?_ ?_
      · refine p_fld fN4 rfl ?_
        refine t_load agg_ns rfl (fun W h => h.1.at_ rfl) ?_
        refine p_at (i := 0) slb rfl rfl rfl (by omega) ?_
        refine t_load agg_by' rfl (fun W h => h.2.2) ?_
        refine p_at (i := x.toNat) sln rfl rfl rfl (by show _ < ks.length; omega) ?_
        refine t_loadN es agg_nd rfl hel (fun W h => h.2.1) ?_
        refine p_slice (i := 1) (j := nq) (m := cq) slb rfl (bnd_i (kd := .i64) rfl) rfl rfl rfl (by omega) (by omega) (Nat.le_refl _) ?_
        refine p_slice (i := 0) (j := 1) (m := cq) slb rfl rfl (bnd_i (kd := .i64) rfl) rfl rfl (by omega) (by omega) (Nat.le_refl _) ?_
        have A := A2
        clear A2
        have h0 : [x] ≠ [] := by simp
        have hhq' : halvesB q' = true := by have := halvesB_drop (n := 1) hhq; simpa using this
        have hrk' := hrk k hkm
        have hlen' : (way ++ [x]).length + q'.length ≤ 100000 ∧ val.length ≤ 1000000 := by rw [List.length_append, List.length_cons, List.length_nil]; omega
        refine ⟨?_, ?_⟩
        ·
          refine v_bslice (vs := [.slice Aw nw cw, .slice (slA (some ⟨bq,oq,none⟩) cq 0 1) 1 cq]) sl_ls' zls2 rfl (by decide) rfl ?_
          rintro g2 Wn hg2 hB2 hb -
          rw [hg2] at hb
          have hfr := A.lt
          have St := A.stp hb
          replace A := A.call hb
          replace hw := hw.up St
          replace hpw := hpw.up St
          replace hv := hv.up St
          replace hes := hes.up St
          replace hcut := hcut.up St
          try replace hD2 := hD2.up St
          try replace hcat := hcat.up St
          try replace hres := hres.up St
          try replace hmiss := hmiss.upz St
          replace hB4 := hB4.below hb
          replace hB8 := hB8.below hb
          try replace hB10 := hB10.below hb
          first | replace hc := cellsB hb hc | replace hc := And.intro (cellsB hb hc.1) (cellB hb hc.2)
          try replace r3 := r3.up St
          try replace hX := hX.up St
          try replace hK := hK.below hb
          try replace hq := hq.up St
          replace hz2 := Nat.le_trans hz2 hb.size
          have hD2 := ls2 hB2 hw hpw (fun e => by have := hfr g2 e; omega)
          clear hB2 hfr St hb hg2
          refine ⟨⟨hB4, hc⟩, ?_⟩
          refine ⟨?_, ?_⟩
          ·
            have hfl : [way, [x]].flatten = way ++ [x] := by simp
            have hcall := concat_any _ _ 2 2 [way, [x]] _ A.lt hD2 (by rw [hfl, List.length_append]; simp only [List.length_cons, List.length_nil] at *; omega) (by decide)
            rw [hfl] at hcall
            refine cc is_concat hcall ?_
            clear hcall
            rintro e Wn ⟨A3, c3, rfl, o3, hb⟩
            have hcat := (o3.zb (base := 0) (Nat.zero_le _) A.lt).z0
            have hA3 : A3 ≠ none := own_nn o3 (by simp [h0])
            have St := A.stp hb
            replace A := A.call hb
            replace hw := hw.up St
            replace hpw := hpw.up St
            replace hv := hv.up St
            replace hes := hes.up St
            replace hcut := hcut.up St
            try replace hD2 := hD2.up St
            try replace hcat := hcat.up St
            try replace hres := hres.up St
            try replace hmiss := hmiss.upz St
            replace hB4 := hB4.below hb
            replace hB8 := hB8.below hb
            try replace hB10 := hB10.below hb
            first | replace hc := cellsB hb hc | replace hc := And.intro (cellsB hb hc.1) (cellB hb hc.2)
            try replace r3 := r3.up St
            try replace hX := hX.up St
            try replace hK := hK.below hb
            try replace hq := hq.up St
            replace hz2 := Nat.le_trans hz2 hb.size
            clear St hb o3
            refine ⟨_, rfl, ⟨hB4, hc⟩, ?_⟩
            refine ⟨?_, ?_⟩
            ·
              refine cc is_tput (ih k hkz _ _ es q' val (way ++ [x]) _ _ _ Ax nx cx A3 _ c3 (d+1) even hes hcut hv hcat A.lt (.inl hA3) hhq' hrk' hlen') ?_
              rintro e Wn ⟨cs5, Am, nm, cm, rfl, hres, hm5, hb⟩
              have hmiss := (hm5.zfr A.size A.lt).pre
              have St := A.stp hb
              replace A := A.call hb
              replace hw := hw.up St
              replace hpw := hpw.up St
              replace hv := hv.up St
              replace hes := hes.up St
              replace hcut := hcut.up St
              try replace hD2 := hD2.up St
              try replace hcat := hcat.up St
              try replace hres := hres.up St
              try replace hmiss := hmiss.upz St
              replace hB4 := hB4.below hb
              replace hB8 := hB8.below hb
              try replace hB10 := hB10.below hb
              first | replace hc := cellsB hb hc | replace hc := And.intro (cellsB hb hc.1) (cellB hb hc.2)
              try replace r3 := r3.up St
              try replace hX := hX.up St
              try replace hK := hK.below hb
              try replace hq := hq.up St
              replace hz2 := Nat.le_trans hz2 hb.size
              clear St hb hm5
              refine ⟨_, rfl, ⟨hB4, hc⟩, ?_⟩
              refine v_allocB zN al_nd ?_
              rintro g10 Wn hg10 hB10 hb -
              rw [hg10] at hb
              have h10 : Z ≤ g10 := by omega
              have St := A.stpn hb g10 (by omega)
              replace A := A.newn hb g10 hB10.lt
              replace hw := hw.up St
              replace hpw := hpw.up St
              replace hv := hv.up St
              replace hes := hes.up St
              replace hcut := hcut.up St
              try replace hD2 := hD2.up St
              try replace hcat := hcat.up St
              try replace hres := hres.up St
              try replace hmiss := hmiss.upz St
              replace hB4 := hB4.below hb
              replace hB8 := hB8.below hb
              try replace hB10 := hB10.below hb
              first | replace hc := cellsB hb hc | replace hc := And.intro (cellsB hb hc.1) (cellB hb hc.2)
              try replace r3 := r3.up St
              try replace hX := hX.up St
              try replace hK := hK.below hb
              try replace hq := hq.up St
              replace hz2 := Nat.le_trans hz2 hb.size
              clear St hb hg10
              refine ⟨⟨hB4, hc⟩, ?_⟩
              exact ⟨(cs5, Am, nm, cm, g10), ⟨A, hres, hmiss, r3, hX, hK, hB10, hB8, hB4, h10, hc⟩, ⟨rfl, rfl, rfl, rfl, rfl, rfl, trivial⟩⟩
            ·
              refine v_allocB zN al_nd ?_
              rintro g10 Wn hg10 hB10 hb -
              rw [hg10] at hb
              have h10 : Z ≤ g10 := by omega
              have St := A.stpn hb g10 (by omega)
              replace A := A.newn hb g10 hB10.lt
              replace hw := hw.up St
              replace hpw := hpw.up St
              replace hv := hv.up St
              replace hes := hes.up St
              replace hcut := hcut.up St
              try replace hD2 := hD2.up St
              try replace hcat := hcat.up St
              try replace hres := hres.up St
              try replace hmiss := hmiss.upz St
              replace hB4 := hB4.below hb
              replace hB8 := hB8.below hb
              try replace hB10 := hB10.below hb
              first | replace hc := cellsB hb hc | replace hc := And.intro (cellsB hb hc.1) (cellB hb hc.2)
              try replace r3 := r3.up St
              try replace hX := hX.up St
              try replace hK := hK.below hb
              try replace hq := hq.up St
              replace hz2 := Nat.le_trans hz2 hb.size
              clear St hb hg10
              refine ⟨⟨hB4, hc⟩, ?_⟩
              refine cc is_tput (ih k hkz _ _ es q' val (way ++ [x]) _ _ _ Ax nx cx A3 _ c3 (d+1) even hes hcut hv hcat A.lt (.inl hA3) hhq' hrk' hlen') ?_
              rintro e Wn ⟨cs5, Am, nm, cm, rfl, hres, hm5, hb⟩
              have hmiss := (hm5.zfr A.size A.lt).pre
              have St := A.stp hb
              replace A := A.call hb
              replace hw := hw.up St
              replace hpw := hpw.up St
              replace hv := hv.up St
              replace hes := hes.up St
              replace hcut := hcut.up St
              try replace hD2 := hD2.up St
              try replace hcat := hcat.up St
              try replace hres := hres.up St
              try replace hmiss := hmiss.upz St
              replace hB4 := hB4.below hb
              replace hB8 := hB8.below hb
              try replace hB10 := hB10.below hb
              first | replace hc := cellsB hb hc | replace hc := And.intro (cellsB hb hc.1) (cellB hb hc.2)
              try replace r3 := r3.up St
              try replace hX := hX.up St
              try replace hK := hK.below hb
              try replace hq := hq.up St
              replace hz2 := Nat.le_trans hz2 hb.size
              clear St hb hm5
              refine ⟨_, rfl, ⟨hB4, hc⟩, ?_⟩
              exact ⟨(cs5, Am, nm, cm, g10), ⟨A, hres, hmiss, r3, hX, hK, hB10, hB8, hB4, h10, hc⟩, ⟨rfl, rfl, rfl, rfl, rfl, rfl, trivial⟩⟩
          ·
            refine v_allocB zN al_nd ?_
            rintro g10 Wn hg10 hB10 hb -
            rw [hg10] at hb
            have h10 : Z ≤ g10 := by omega
            have St := A.stpn hb g10 (by omega)
            replace A := A.newn hb g10 hB10.lt
            replace hw := hw.up St
            replace hpw := hpw.up St
            replace hv := hv.up St
            replace hes := hes.up St
            replace hcut := hcut.up St
            try replace hD2 := hD2.up St
            try replace hcat := hcat.up St
            try replace hres := hres.up St
            try replace hmiss := hmiss.upz St
            replace hB4 := hB4.below hb
            replace hB8 := hB8.below hb
            try replace hB10 := hB10.below hb
            first | replace hc := cellsB hb hc | replace hc := And.intro (cellsB hb hc.1) (cellB hb hc.2)
            try replace r3 := r3.up St
            try replace hX := hX.up St
            try replace hK := hK.below hb
            try replace hq := hq.up St
            replace hz2 := Nat.le_trans hz2 hb.size
            clear St hb hg10
            refine ⟨⟨hB4, hc⟩, ?_⟩
            have hfl : [way, [x]].flatten = way ++ [x] := by simp
            have hcall := concat_any _ _ 2 2 [way, [x]] _ A.lt hD2 (by rw [hfl, List.length_append]; simp only [List.length_cons, List.length_nil] at *; omega) (by decide)
            rw [hfl] at hcall
            refine cc is_concat hcall ?_
            clear hcall
            rintro e Wn ⟨A3, c3, rfl, o3, hb⟩
            have hcat := (o3.zb (base := 0) (Nat.zero_le _) A.lt).z0
            have hA3 : A3 ≠ none := own_nn o3 (by simp [h0])
            have St := A.stp hb
            replace A := A.call hb
            replace hw := hw.up St
            replace hpw := hpw.up St
            replace hv := hv.up St
            replace hes := hes.up St
            replace hcut := hcut.up St
            try replace hD2 := hD2.up St
            try replace hcat := hcat.up St
            try replace hres := hres.up St
            try replace hmiss := hmiss.upz St
            replace hB4 := hB4.below hb
            replace hB8 := hB8.below hb
            try replace hB10 := hB10.below hb
            first | replace hc := cellsB hb hc | replace hc := And.intro (cellsB hb hc.1) (cellB hb hc.2)
            try replace r3 := r3.up St
            try replace hX := hX.up St
            try replace hK := hK.below hb
            try replace hq := hq.up St
            replace hz2 := Nat.le_trans hz2 hb.size
            clear St hb o3
            refine ⟨_, rfl, ⟨hB4, hc⟩, ?_⟩
            refine cc is_tput (ih k hkz _ _ es q' val (way ++ [x]) _ _ _ Ax nx cx A3 _ c3 (d+1) even hes hcut hv hcat A.lt (.inl hA3) hhq' hrk' hlen') ?_
            rintro e Wn ⟨cs5, Am, nm, cm, rfl, hres, hm5, hb⟩
            have hmiss := (hm5.zfr A.size A.lt).pre
            have St := A.stp hb
            replace A := A.call hb
            replace hw := hw.up St
            replace hpw := hpw.up St
            replace hv := hv.up St
            replace hes := hes.up St
            replace hcut := hcut.up St
            try replace hD2 := hD2.up St
            try replace hcat := hcat.up St
            try replace hres := hres.up St
            try replace hmiss := hmiss.upz St
            replace hB4 := hB4.below hb
            replace hB8 := hB8.below hb
            try replace hB10 := hB10.below hb
            first | replace hc := cellsB hb hc | replace hc := And.intro (cellsB hb hc.1) (cellB hb hc.2)
            try replace r3 := r3.up St
            try replace hX := hX.up St
            try replace hK := hK.below hb
            try replace hq := hq.up St
            replace hz2 := Nat.le_trans hz2 hb.size
            clear St hb hm5
            refine ⟨_, rfl, ⟨hB4, hc⟩, ?_⟩
            exact ⟨(cs5, Am, nm, cm, g10), ⟨A, hres, hmiss, r3, hX, hK, hB10, hB8, hB4, h10, hc⟩, ⟨rfl, rfl, rfl, rfl, rfl, rfl, trivial⟩⟩
        ·
          refine v_allocB zN al_nd ?_
          rintro g10 Wn hg10 hB10 hb -
          rw [hg10] at hb
          have h10 : Z ≤ g10 := by omega
          have St := A.stpn hb g10 (by omega)
          replace A := A.newn hb g10 hB10.lt
          replace hw := hw.up St
          replace hpw := hpw.up St
          replace hv := hv.up St
          replace hes := hes.up St
          replace hcut := hcut.up St
          try replace hD2 := hD2.up St
          try replace hcat := hcat.up St
          try replace hres := hres.up St
          try replace hmiss := hmiss.upz St
          replace hB4 := hB4.below hb
          replace hB8 := hB8.below hb
          try replace hB10 := hB10.below hb
          first | replace hc := cellsB hb hc | replace hc := And.intro (cellsB hb hc.1) (cellB hb hc.2)
          try replace r3 := r3.up St
          try replace hX := hX.up St
          try replace hK := hK.below hb
          try replace hq := hq.up St
          replace hz2 := Nat.le_trans hz2 hb.size
          clear St hb hg10
          refine ⟨⟨hB4, hc⟩, ?_⟩
          refine v_bslice (vs := [.slice Aw nw cw, .slice (slA (some ⟨bq,oq,none⟩) cq 0 1) 1 cq]) sl_ls' zls2 rfl (by decide) rfl ?_
          rintro g2 Wn hg2 hB2 hb -
          rw [hg2] at hb
          have hfr := A.lt
          have St := A.stp hb
          replace A := A.call hb
          replace hw := hw.up St
          replace hpw := hpw.up St
          replace hv := hv.up St
          replace hes := hes.up St
          replace hcut := hcut.up St
          try replace hD2 := hD2.up St
          try replace hcat := hcat.up St
          try replace hres := hres.up St
          try replace hmiss := hmiss.upz St
          replace hB4 := hB4.below hb
          replace hB8 := hB8.below hb
          try replace hB10 := hB10.below hb
          first | replace hc := cellsB hb hc | replace hc := And.intro (cellsB hb hc.1) (cellB hb hc.2)
          try replace r3 := r3.up St
          try replace hX := hX.up St
          try replace hK := hK.below hb
          try replace hq := hq.up St
          replace hz2 := Nat.le_trans hz2 hb.size
          have hD2 := ls2 hB2 hw hpw (fun e => by have := hfr g2 e; omega)
          clear hB2 hfr St hb hg2
          refine ⟨⟨hB4, hc⟩, ?_⟩
          have hfl : [way, [x]].flatten = way ++ [x] := by simp
          have hcall := concat_any _ _ 2 2 [way, [x]] _ A.lt hD2 (by rw [hfl, List.length_append]; simp only [List.length_cons, List.length_nil] at *; omega) (by decide)
          rw [hfl] at hcall
          refine cc is_concat hcall ?_
          clear hcall
          rintro e Wn ⟨A3, c3, rfl, o3, hb⟩
          have hcat := (o3.zb (base := 0) (Nat.zero_le _) A.lt).z0
          have hA3 : A3 ≠ none := own_nn o3 (by simp [h0])
          have St := A.stp hb
          replace A := A.call hb
          replace hw := hw.up St
          replace hpw := hpw.up St
          replace hv := hv.up St
          replace hes := hes.up St
          replace hcut := hcut.up St
          try replace hD2 := hD2.up St
          try replace hcat := hcat.up St
          try replace hres := hres.up St
          try replace hmiss := hmiss.upz St
          replace hB4 := hB4.below hb
          replace hB8 := hB8.below hb
          try replace hB10 := hB10.below hb
          first | replace hc := cellsB hb hc | replace hc := And.intro (cellsB hb hc.1) (cellB hb hc.2)
          try replace r3 := r3.up St
          try replace hX := hX.up St
          try replace hK := hK.below hb
          try replace hq := hq.up St
          replace hz2 := Nat.le_trans hz2 hb.size
          clear St hb o3
          refine ⟨_, rfl, ⟨hB4, hc⟩, ?_⟩
          refine cc is_tput (ih k hkz _ _ es q' val (way ++ [x]) _ _ _ Ax nx cx A3 _ c3 (d+1) even hes hcut hv hcat A.lt (.inl hA3) hhq' hrk' hlen') ?_
          rintro e Wn ⟨cs5, Am, nm, cm, rfl, hres, hm5, hb⟩
          have hmiss := (hm5.zfr A.size A.lt).pre
          have St := A.stp hb
          replace A := A.call hb
          replace hw := hw.up St
          replace hpw := hpw.up St
          replace hv := hv.up St
          replace hes := hes.up St
          replace hcut := hcut.up St
          try replace hD2 := hD2.up St
          try replace hcat := hcat.up St
          try replace hres := hres.up St
          try replace hmiss := hmiss.upz St
          replace hB4 := hB4.below hb
          replace hB8 := hB8.below hb
          try replace hB10 := hB10.below hb
          first | replace hc := cellsB hb hc | replace hc := And.intro (cellsB hb hc.1) (cellB hb hc.2)
          try replace r3 := r3.up St
          try replace hX := hX.up St
          try replace hK := hK.below hb
          try replace hq := hq.up St
          replace hz2 := Nat.le_trans hz2 hb.size
          clear St hb hm5
          refine ⟨_, rfl, ⟨hB4, hc⟩, ?_⟩
          exact ⟨(cs5, Am, nm, cm, g10), ⟨A, hres, hmiss, r3, hX, hK, hB10, hB8, hB4, h10, hc⟩, ⟨rfl, rfl, rfl, rfl, rfl, rfl, trivial⟩⟩
      · rintro ⟨cs5, Am, nm, cm, g10⟩ B5 W5 ⟨A5, hres, hmiss, r3, hX, hK, hB10, hB8, hB4, h10, hc1, hc2⟩
        dsimp only at A5 hres hmiss r3 hX hB10 h10
        have h10l := hB10.lt
        obtain ⟨Ap5, cp5, Av5, cv5, Ak5, ck5, Ah5, ch5, rfl, -⟩ := hres.node
        refine v_storeA (ncs (putP k q' val).1 Ap5 cp5 Av5 cv5 Ak5 ck5 Ah5 ch5) sz_nd rfl rfl rfl (ncs_one _ _ _ _ _ _ _ _ _) hB10 rfl ?_
        rintro W6 hB106 hg6 hs6
        dsimp only at hB106 hg6
        have St6 : Stp W5 (some g10 :: some gk :: some g8 :: some g4 :: gs) W6 (some g10 :: some gk :: some g8 :: some g4 :: gs) := Stp.wrote hg6 (by simp)
        replace hB4 := hB4.grownN hg6 (by omega)
        replace hB8 := hB8.grownN hg6 (by omega)
        replace hK := hK.grownN hg6 (by omega)
        replace hc2 := cellG (g := g10) hg6 (by rw [Addr.add_lit]; show bq ≠ g10; omega) hc2
        refine ⟨⟨hB4, cellsG2 (g := g10) hg6 (fun j => by rw [Addr.add_lit, Addr.add_lit]; show gk ≠ g10; omega) hc1, hc2⟩, ?_⟩
        replace A5 := (A5.wrote hg6 (fun b e => by injection e with e; omega)).drew
        have St6' := St6.trans (Stp.drew (gs := some g10 :: some gk :: some g8 :: some g4 :: gs))
        replace hres := hres.up St6'
        replace hmiss := hmiss.upz St6'
        replace r3 := r3.up St6'
        replace hX := hX.up St6'
        replace hB4 := hB4.drew
        replace hB8 := hB8.drew
        replace hK := hK.drew
        replace hB106 := hB106.drew
        replace hc2 : W6.drew.cell? (Addr.add ⟨bq, oq, none⟩ (0 * 1)) = some (.int .u8 (x.toNat : Nat)) := hc2
        refine drZ 7 (fun W => Below W6.drew.heap.size W6.drew W) [(0, true), (1, true), (2, true), (3, true), (4, true), (5, true), (6, true)] (by kernel_rfl) (Below.refl _ _) ?_
        refine p_fld fN4 rfl ?_
        refine t_load agg_ns rfl (fun W h => (hB4.below h).at_ rfl) ?_
        refine p_at (i := 0) slb rfl rfl rfl (by omega) ?_
        refine t_load agg_by' rfl (fun W h => cellB h hc2) ?_
        refine t_loadN (ncs (putP k q' val).1 Ap5 cp5 Av5 cv5 Ak5 ck5 Ah5 ch5) agg_nd rfl rfl (fun W h => (hB106.below h).run 0 _ (fun j v h => by rw [Nat.zero_add]; exact h)) ?_
        refine p_atL (i := x.toNat) (q := x.toNat * 6) sln rfl rfl rfl (by show _ < ks.length; omega) (by omega) ?_
        refine v_storeP (n := 6) (i := x.toNat * 6) (ncs (putP k q' val).1 Ap5 cp5 Av5 cv5 Ak5 ck5 Ah5 ch5) sz_nd rfl rfl rfl (ncs_one _ _ _ _ _ _ _ _ _) hK (by rw [List.length_append, hxl]; omega) ?_
        rintro W7 hK7 hg7 hs7
        have e1 : (xs ++ rest).take (x.toNat * 6) = xs.take (x.toNat * 6) := List.take_append_of_le_length (by omega)
        have e2 : (xs ++ rest).drop (x.toNat * 6 + 6) = xs.drop (x.toNat * 6 + 6) ++ rest := List.drop_append_of_le_length (by omega)
        rw [e1, e2, ← List.append_assoc] at hK7
        have ek : ncs (.mk 3 [] has v ks []) Ap cp Av cv (some ⟨gk, 0, none⟩) ck' Ah ch = ncs (.mk 3 [] has v (ks.set x.toNat (putP k q' val).1) []) Ap cp Av cv (some ⟨gk, 0, none⟩) ck' Ah ch := by
          simp only [ncs, Nd.kids, Nd.kind, Nd.path, Nd.has, Nd.val, Nd.hash, List.length_set]
        rw [ek] at hB4
        refine v_loadN (ncs (.mk 3 [] has v (ks.set x.toNat (putP k q' val).1) []) Ap cp Av cv (some ⟨gk, 0, none⟩) ck' Ah ch) agg_nd rfl rfl ((hB4.grownN hg7 (by omega)).run 0 _ (fun j v h => by rw [Nat.zero_add]; exact h)) ?_
        refine v_storeA (ncs (.mk 3 [] has v (ks.set x.toNat (putP k q' val).1) []) Ap cp Av cv (some ⟨gk, 0, none⟩) ck' Ah ch) sz_nd rfl rfl rfl (ncs_one _ _ _ _ _ _ _ _ _) (hB8.grownN hg7 (by omega)) rfl ?_
        rintro W8 hB88 hg8 hs8
        refine c_loadN (ncs (.mk 3 [] has v (ks.set x.toNat (putP k q' val).1) []) Ap cp Av cv (some ⟨gk, 0, none⟩) ck' Ah ch) agg_nd rfl rfl (hB88.run 0 _ (fun j v h => by rw [Nat.zero_add]; exact h)) ?_
        have St : Stp W6.drew (some g10 :: some gk :: some g8 :: some g4 :: gs) W8 (some g10 :: some gk :: some g8 :: some g4 :: gs) := (Stp.wrote hg7 (by simp)).trans (Stp.wrote hg8 (by simp))
        have StD : Stp W6.drew (some g10 :: some gk :: some g8 :: some g4 :: gs) W8 gs := St.trans (Stp.drop.trans (Stp.drop.trans (Stp.drop.trans Stp.drop)))
        have hK8 := hK7.grownN hg8 (by omega)
        have hX8 : RdL W8 (Fd W8 gs) (dNs (ks.set x.toNat (putP k q' val).1)) (xs.take (x.toNat * 6) ++ ncs (putP k q' val).1 Ap5 cp5 Av5 cv5 Ak5 ck5 Ah5 ch5 ++ xs.drop (x.toNat * 6 + 6)) := by
          have hX' := hX.up StD
          rw [dNs_set _ (by omega)]
          exact ((hX'.take _).app (hres.up StD)).app (hX'.drop _)
        refine ⟨_, Am, nm, cm, rfl, RdL.ofnode (t := .mk 3 [] has v (ks.set x.toNat (putP k q' val).1) []) (RdD.nil_ _ _) (r3.up StD) (RdD.kidsB hK8 hX8 ⟨hK8.lt, fun e => by have := hgs gk e; omega⟩ (by show (ks.set x.toNat (putP k q' val).1).length ≤ ck'; rw [List.length_set]; exact hck)) (RdD.nil_ _ _), (hmiss.upz St).frz, ((A5.wrote hg7 (fun b e => by injection e with e; omega)).wrote hg8 (fun b e => by injection e with e; omega)).below⟩
theorem tput_any : ∀ (N : Nat), N ≤ 1000000 → ∀ t : Nd, sz t < N → PutOk t
  | 0, _, t, h => by omega
  | N + 1, hN, t, h => tput_step N (fun k hk => tput_any N (by omega) k hk) t (by omega) (by omega)
end Go.Proofs.YtdlljmmgkoeilaaDoor
