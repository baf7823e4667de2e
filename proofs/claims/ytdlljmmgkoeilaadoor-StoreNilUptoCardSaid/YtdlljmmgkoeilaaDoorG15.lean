/- Reference 08: the walks of alike and Build. -/
import Derived.Test.YtdlljmmgkoeilaaDoorG14
namespace Go.Proofs.YtdlljmmgkoeilaaDoor
open Go.RowKit
theorem is_alike : isFn Tryd.prog 35 = true := by kernel_rfl
theorem is_build : isFn Tryd.prog 23 = true := by kernel_rfl
theorem is_rcom : isFn Tryd.prog 45 = true := by kernel_rfl
def alikeF (x : It) (at_ : Nat) (n : Nat) (y : It) : Nat := min n (commonB (x.path.drop at_) (y.path.drop at_))
def alikeP : List It → Nat → Nat
  | [], _ => 0
  | x :: r, at_ => r.foldl (alikeF x at_) (x.path.length - at_)
theorem alike_le : ∀ (r : List It) (x : It) (at_ n : Nat), r.foldl (alikeF x at_) n ≤ n
  | [], _, _, n => Nat.le_refl _
  | y :: r, x, at_, n => by
    rw [List.foldl_cons]
    have := alike_le r x at_ (alikeF x at_ n y)
    have : alikeF x at_ n y ≤ n := Nat.min_le_left _ _
    omega
def itBig (l : List It) : Prop := l.length ≤ 10000000 ∧ ∀ x ∈ l, x.path.length ≤ 100000000 ∧ x.val.length ≤ 100000000 ∧ x.hash.length ≤ 100000000
set_option maxRecDepth 100000 in
set_option maxHeartbeats 1000000 in
theorem alike_any (l : List It) (at_ : Nat) (gs : List (Option Nat)) (w : World) (A : Option Addr) (n c : Nat) (hr : RdD w (Fd w gs) (dIl l) (.slice A n c)) (hgs : ∀ b, some b ∈ gs → b < w.heap.size) (h0 : l ≠ []) (hat : ∀ x ∈ l, at_ ≤ x.path.length) (hb : itBig l) :
    Calls Tryd.prog 35 #[.slice A n c, .int .i64 at_] w fun e w' => e = .returned (.int .i64 (alikeP l at_)) ∧ Below w.heap.size w w' := by
  refine calls_ev (args := [.slice A n c, .int .i64 at_]) mixed Tryd.func35 rfl (by kernel_rfl) ?_
  have en := hr.slen
  obtain ⟨x, r, rfl⟩ : ∃ x r, l = x :: r := by cases l with | nil => exact absurd rfl h0 | cons x r => exact ⟨x, r, rfl⟩
  have hx := hat x (by simp)
  obtain ⟨hb1, hb2⟩ := hb
  rw [List.length_cons] at hb1
  have hbx := hb2 x (by simp)
  have M := (St.start hgs).addD hr
  obtain ⟨b, off, Ap, cp, Av, cv, Ah, ch, rfl, M'⟩ := M.item (i := 0) (by first | with_reducible exact M.d1_0 | with_reducible exact M.d1_1 | with_reducible exact M.d1_2 | with_reducible exact M.d1_3 | with_reducible exact M.d1_4 | with_reducible exact M.d1_5 | with_reducible exact M.d1_6 | with_reducible exact M.d1_7 | with_reducible exact M.d1_8 | with_reducible exact M.d1_9 | with_reducible exact M.d1_10 | with_reducible exact M.d1_11) rfl
  replace M := M'; clear M'
  refine p_at (i := 0) sli rfl rfl rfl (by rw [en, List.length_cons]; omega) ?_
  refine p_fld fI0 rfl ?_
  refine v_load agg_b rfl (by first | exact (M.B 0 rfl).at_ rfl | exact (M.B 1 rfl).at_ rfl | exact (M.B 2 rfl).at_ rfl | exact (M.B 3 rfl).at_ rfl | exact (M.B 4 rfl).at_ rfl | exact M.lc 0 rfl _ _ rfl | exact M.lc 1 rfl _ _ rfl | exact M.lc 2 rfl _ _ rfl | exact M.lc 3 rfl _ _ rfl | exact M.lc 4 rfl _ _ rfl | exact M.lc 5 rfl _ _ rfl | exact M.lc 6 rfl _ _ rfl | exact M.lc 7 rfl _ _ rfl) ?_
  refine p_len slb rfl ?_
  refine p_subN rfl rfl hx (by omega) ?_
  obtain ⟨T, hT⟩ : ∃ T, T = alikeP (x :: r) at_ := ⟨_, rfl⟩
  rw [← hT]
  unfold alikeP at hT
  rw [List.length_cons] at en
  refine lp (Nat × Nat) (fun s W => 1 ≤ s.1 ∧ s.1 ≤ n ∧ s.2 ≤ x.path.length ∧ St w gs W [] [] [.loc ((⟨b, off, none⟩ : Addr).add (0 * 5)) (ics x Ap cp Av cv Ah ch), .dat false [dB x.path] [.slice Ap x.path.length cp], .dat false [dIl (x :: r)] [.slice (some ⟨b, off, none⟩) n c]] ∧ T = (r.drop (s.1 - 1)).foldl (alikeF x at_) s.2)
    (fun s => [(0, .slice (some ⟨b, off, none⟩) n c), (1, .int .i64 at_), (5, .int .i64 s.2), (6, .int .i64 s.1)]) (fun s => n - s.1) (1, x.path.length - at_) ⟨Nat.le_refl _, by dsimp only; omega, by dsimp only; omega, M.fsub _ (by simp), hT⟩ (by repeat (first | exact trivial | refine ⟨rfl, ?_⟩)) ?_
  clear M hT
  rintro ⟨i, m⟩ E5 W5 ⟨hi1, hi, hm, M, hT⟩
  dsimp only at hi1 hi hm hT
  refine p_len sli rfl ?_
  refine p_lt rfl rfl (fun hlt => ?_) (fun hge => ?_)
  · dsimp only at hlt
    obtain ⟨y, hyi⟩ : ∃ y, r[i - 1]? = some y := ⟨_, List.getElem?_eq_getElem (by omega)⟩
    have hyl : (x :: r)[i]? = some y := by rw [show i = i - 1 + 1 by omega]; exact hyi
    have hy := hat y (List.mem_of_getElem? hyl)
    have hby := hb2 y (List.mem_of_getElem? hyl)
    have hdr : r.drop (i - 1) = y :: r.drop (i + 1 - 1) := by
      have h1 := (List.getElem?_eq_some_iff.1 hyi)
      rw [List.drop_eq_getElem_cons h1.1, h1.2, show i - 1 + 1 = i + 1 - 1 by omega]
    rw [hdr, List.foldl_cons] at hT
    replace M := M.drew
    obtain ⟨b', off', Bp, dp, Bv, dv, Bh, dh, e0, M'⟩ := M.item (M.d1 2 rfl) hyl
    replace M := M'; clear M'
    injection e0 with e0
    injection e0 with e1 e2
    subst e1; subst e2
    have hcx := (M.d1 6 rfl).cutB (i := at_) (j := x.path.length) (m := cp) hx (Nat.le_refl _) (M.d1 6 rfl).scap
    have hcy := (M.d1 2 rfl).cutB (i := at_) (j := y.path.length) (m := dp) hy (Nat.le_refl _) (M.d1 2 rfl).scap
    rw [List.take_of_length_le (by rw [List.length_drop]; omega)] at hcx hcy
    have hsx := (M.d1 6 rfl).scap
    have hsy := (M.d1 2 rfl).scap
    replace M := (M.addD hcy).addD hcx
    clear hcx hcy
    refine drT (Kp w gs [] [.loc ((⟨b, off, none⟩ : Addr).add (0 * 5)) (ics x Ap cp Av cv Ah ch), .loc ((⟨b, off, none⟩ : Addr).add (i * 5)) (ics y Bp dp Bv dv Bh dh)]) (.take 0 (.take 1 (.take 2 (.take 3 (.take 4 (.take 5 (.take 6 (.take 7 (.take 8 (.take 9 (.take 10 (.take 11 (.take 12 (.take 13 (.one 14 (.take 15 (.take 16 (.nil)))))))))))))))))) (by kernel_rfl) (M.kp (by simp) (by simp)) ?_
    refine p_at (i := 0) sli rfl rfl rfl (by omega) ?_
    refine p_fld fI0 rfl ?_
    refine t_load agg_b rfl (fun W K => by first | exact (K.B 0 rfl).at_ rfl | exact (K.B 1 rfl).at_ rfl | exact (K.B 2 rfl).at_ rfl | exact (K.B 3 rfl).at_ rfl | exact K.lc 0 rfl _ _ rfl | exact K.lc 1 rfl _ _ rfl | exact K.lc 2 rfl _ _ rfl | exact K.lc 3 rfl _ _ rfl) ?_
    refine p_slice (i := at_) (j := x.path.length) (m := cp) slb rfl (bnd_i rfl) rfl rfl rfl hx hsx (Nat.le_refl _) ?_
    refine p_at (i := i) sli rfl rfl rfl (by omega) ?_
    refine p_fld fI0 rfl ?_
    refine t_load agg_b rfl (fun W K => by first | exact (K.B 0 rfl).at_ rfl | exact (K.B 1 rfl).at_ rfl | exact (K.B 2 rfl).at_ rfl | exact (K.B 3 rfl).at_ rfl | exact K.lc 0 rfl _ _ rfl | exact K.lc 1 rfl _ _ rfl | exact K.lc 2 rfl _ _ rfl | exact K.lc 3 rfl _ _ rfl) ?_
    refine p_slice (i := at_) (j := y.path.length) (m := dp) slb rfl (bnd_i rfl) rfl rfl rfl hy hsy (Nat.le_refl _) ?_
    refine cc is_rcom (refCommon_any _ _ _ _ _ _ _ (x.path.drop at_) (y.path.drop at_) _ (M.rdb 0 rfl).2.2 (M.rdb 1 rfl).2.2 (by omega) (by omega)) ?_
    rintro e W ⟨rfl, dd, rfl⟩
    replace M := M.drewN dd
    refine ⟨_, rfl, (M.kp (by simp) (by simp)), ?_⟩
    have hal : alikeF x at_ m y ≤ m := Nat.min_le_left _ _
    refine p_min rfl rfl (r := ((alikeF x at_ m y : Nat) : Int)) (by unfold alikeF; split <;> omega) ?_
    refine p_addN (b := 1) rfl rfl (by dsimp only; omega) ?_
    exact ⟨(i + 1, alikeF x at_ m y), ⟨by dsimp only; omega, by dsimp only; omega, by dsimp only; omega, M.fsub _ (by simp), hT⟩, (by repeat (first | exact trivial | refine ⟨rfl, ?_⟩)), by dsimp only; omega⟩
  · dsimp only at hge
    rw [List.drop_of_length_le (by omega)] at hT
    exact ⟨by rw [hT]; rfl, M.below⟩
def groupA (l : List It) (at_ h : Nat) : List It := l.filter fun x => decide (at_ < x.path.length ∧ (x.path.getD at_ 0).toNat = h)
def lastV (l : List It) (at_ : Nat) : Bool × List UInt8 := l.foldl (fun s x => if x.path.length = at_ then (true, x.val) else s) (false, [])
def badF (f : Nat → Nd × Option (List UInt8)) : Nat → Nat → Option (List UInt8)
  | _, 0 => none
  | h, j + 1 => match (f h).2 with
    | some m => some m
    | none => badF f (h + 1) j
def kidsF (f : Nat → Nd × Option (List UInt8)) : List Nd := (List.range 16).map fun h => (f h).1
def buildA : Nat → List It → Nat → Nd × Option (List UInt8)
  | 0, _, _ => (noneN, none)
  | _ + 1, [], _ => (noneN, none)
  | n + 1, x :: r, at_ =>
    if r = [] ∧ x.stub = false then (leafN (x.path.drop at_) x.val, none)
    else if 0 < alikeP (x :: r) at_ then
      (if r = [] ∧ x.known = false then (noneN, some x.path)
       else (.mk 2 ((x.path.drop at_).take (alikeP (x :: r) at_)) false [] [(buildA n (x :: r) (at_ + alikeP (x :: r) at_)).1] [], (buildA n (x :: r) (at_ + alikeP (x :: r) at_)).2))
    else if r = [] then (.mk 4 [] false [] [] x.hash, none)
    else match badF (fun h => buildA n (groupA (x :: r) at_ h) (at_ + 1)) 0 16 with
      | some m => (noneN, some m)
      | none => (.mk 3 [] (lastV (x :: r) at_).1 (lastV (x :: r) at_).2 (kidsF fun h => buildA n (groupA (x :: r) at_ h) (at_ + 1)) [], none)
def BuildOk (n : Nat) : Prop := ∀ (l : List It) (at_ : Nat) (gs : List (Option Nat)) (w : World) (A : Option Addr) (m c : Nat), RdD w (Fd w gs) (dIl l) (.slice A m c) → (∀ b, some b ∈ gs → b < w.heap.size) → (∀ x ∈ l, at_ ≤ x.path.length ∧ x.path.length < at_ + n) → itBig l →
  Calls Tryd.prog 23 #[.slice A m c, .int .i64 at_] w fun e w' => ∃ cs Am nm cm, e = .returned (.tuple #[.agg cs.toArray, .slice Am nm cm, .bool (buildA n l at_).2.isSome]) ∧ RdL w' (Fd w' gs) (dN (buildA n l at_).1) cs ∧ RdD w' (Fd w' gs) (dB ((buildA n l at_).2.getD [])) (.slice Am nm cm) ∧ Below w.heap.size w w'
theorem alike_all : ∀ (r : List It) (x : It) (at_ n : Nat), (∀ y ∈ r, at_ + r.foldl (alikeF x at_) n ≤ y.path.length ∨ y.path.length ≤ at_)
  | [], _, _, _ => by simp
  | z :: r, x, at_, n => by
    intro y hy
    rw [List.foldl_cons]
    rcases List.mem_cons.1 hy with rfl | hy
    · have h1 := alike_le r x at_ (alikeF x at_ n y)
      have h2 : alikeF x at_ n y ≤ commonB (x.path.drop at_) (y.path.drop at_) := Nat.min_le_right _ _
      have h3 := (commonB_le (x.path.drop at_) (y.path.drop at_)).2
      rw [List.length_drop] at h3
      omega
    · exact alike_all r x at_ _ y hy
theorem alikeP_at {l : List It} {at_ : Nat} (hat : ∀ x ∈ l, at_ ≤ x.path.length) : ∀ y ∈ l, at_ + alikeP l at_ ≤ y.path.length := by
  intro y hy
  cases l with
  | nil => cases hy
  | cons x r =>
    rcases List.mem_cons.1 hy with rfl | hy
    · show at_ + r.foldl (alikeF y at_) (y.path.length - at_) ≤ y.path.length
      have := alike_le r y at_ (y.path.length - at_)
      have := hat y (by simp); omega
    · rcases alike_all r x at_ (x.path.length - at_) y hy with h | h
      · exact h
      · have h1 := hat y (by simp [hy])
        have h2 : r.foldl (alikeF x at_) (x.path.length - at_) ≤ commonB (x.path.drop at_) (y.path.drop at_) := by
          have : ∀ (r : List It) (n : Nat), y ∈ r → r.foldl (alikeF x at_) n ≤ commonB (x.path.drop at_) (y.path.drop at_) := by
            intro r
            induction r with
            | nil => intro n h; cases h
            | cons z r ih =>
              intro n h
              rw [List.foldl_cons]
              rcases List.mem_cons.1 h with rfl | h
              · exact Nat.le_trans (alike_le r x at_ _) (Nat.min_le_right _ _)
              · exact ih _ h
          exact this r _ hy
        have h3 := (commonB_le (x.path.drop at_) (y.path.drop at_)).2
        rw [List.length_drop] at h3
        show at_ + r.foldl (alikeF x at_) (x.path.length - at_) ≤ y.path.length
        omega
theorem ev_sq {P : Program} {a b : Code} {E : Env} {w : World} {K : Kont} (h : ev P a E w (thenK (ev P b) K)) : ev P (.seq a b) E w K := h
theorem ev_blk {P : Program} {i : Nat} {b : Code} {E : Env} {w : World} {K : Kont} (h : ev P b E w (blockK i K)) : ev P (.block i b) E w K := h
def partK (f : Nat → Nd × Option (List UInt8)) (h : Nat) : List Nd := ((List.range h).map fun h => (f h).1) ++ noneNs (16 - h)
theorem partK_len {f : Nat → Nd × Option (List UInt8)} {h : Nat} (hh : h ≤ 16) : (partK f h).length = 16 := by unfold partK; rw [List.length_append, List.length_map, List.length_range, noneNs_len]; omega
theorem partK_set {f : Nat → Nd × Option (List UInt8)} {h : Nat} (hh : h < 16) : (partK f h).set h (f h).1 = partK f (h + 1) := by
  unfold partK
  rw [List.set_append_right _ _ (by simp), List.length_map, List.length_range, Nat.sub_self, List.range_succ, List.map_append, List.append_assoc]
  congr 1
  rw [show 16 - h = (16 - (h + 1)) + 1 by omega]
  simp only [noneNs, List.replicate_succ, List.set_cons_zero, List.map_cons, List.map_nil, List.singleton_append]
theorem partK_0 (f : Nat → Nd × Option (List UInt8)) : partK f 0 = noneNs 16 := rfl
theorem partK_16 (f : Nat → Nd × Option (List UInt8)) : partK f 16 = kidsF f := by unfold partK kidsF; simp [noneNs]
theorem lastV_take {l : List It} {at_ i : Nat} {x : It} (h : l[i]? = some x) : lastV (l.take (i + 1)) at_ = if x.path.length = at_ then (true, x.val) else lastV (l.take i) at_ := by
  have h1 := List.getElem?_eq_some_iff.1 h
  unfold lastV
  rw [List.take_succ_eq_append_getElem h1.1, h1.2, List.foldl_append, List.foldl_cons, List.foldl_nil]
theorem filter_take {p : It → Bool} {l : List It} {i : Nat} {x : It} (h : l[i]? = some x) : (l.take (i + 1)).filter p = (l.take i).filter p ++ (if p x then [x] else []) := by
  have h1 := List.getElem?_eq_some_iff.1 h
  rw [List.take_succ_eq_append_getElem h1.1, h1.2, List.filter_append, List.filter_cons, List.filter_nil]
theorem s_mkN {E : Env} {d : Option Nat} {ty : TypeId} {p : String} {af : Array Edge} {gd : Option (Nat × Bool)} {l c : Operand} {kw : Value → World → Prop} {w W : World} {gs : List (Option Nat)} {L : Lc} {R : List Row} {fs : List Fact} (M : St w gs W L R fs) (hl : val E l = .int .i64 ((16 : Nat) : Int)) (hc : val E c = .int .i64 ((16 : Nat) : Int))
    (h : ∀ g W', St w gs W' ((g, 28, zNs 16) :: L) R fs → kw (.slice (some ⟨g, 0, none⟩) 16 16) W') :
    VVal Tryd.prog E { dst := d, op := .makeSlice 26 l c, type := ty, pos := p, after := af, guard := gd } W kw :=
  v_mkN hl hc fun g W' hg hB hb => h g W' (M.newB hg hB hb)
theorem u_int' : Tryd.prog.underlying 3 = some (.int .i64) := by kernel_rfl
theorem u_u8s : (Tryd.prog.underlying 5).isSome = true := by kernel_rfl
set_option maxRecDepth 100000 in
set_option maxHeartbeats 2000000 in
theorem build_step (n : Nat) (ih : BuildOk n) : BuildOk (n + 1) := by
  intro l at_ gs w A m c hr hgs hat hb
  refine calls_ev (args := [.slice A m c, .int .i64 at_]) mixed Tryd.func23 rfl (by kernel_rfl) ?_
  have en := hr.slen
  obtain ⟨hb1, hb2⟩ := id hb
  have hata : ∀ x ∈ l, at_ ≤ x.path.length := fun x hx => (hat x hx).1
  have M := (St.start hgs).addD hr
  refine ev_assoc (ev_assoc (ev_assoc (ev_assoc (ev_assoc ?_))))
  refine cutS Nat (fun g4 W => St w gs W [(g4, 28, zN)] [] [.dat false [dIl l] [.slice A m c]] ∧ ∃ x r, l = x :: r ∧ r ≠ [] ∧ alikeP l at_ = 0) (fun g4 => [(0, .slice A m c), (1, .int .i64 at_), (4, .pointer (some ⟨g4, 0, none⟩))]) ?_ ?_
  ·
    refine s_alloc (zN) M al_nd ?_
    clear M
    rintro g4 W M
    refine p_len sli rfl ?_
    refine p_eq rfl rfl (fun h0 => ?_) (fun h0 => ?_)
    · have : l = [] := List.eq_nil_of_length_eq_zero (by omega)
      subst this
      refine p_build (vs := zN) pl_nd z_nd rfl ?_
      first | refine s_storeA 0 (zN) M rfl (by kernel_rfl) rfl rfl rfl (all1 rfl) rfl ?_ | refine s_storeA 1 (zN) M rfl (by kernel_rfl) rfl rfl rfl (all1 rfl) rfl ?_ | refine s_storeA 2 (zN) M rfl (by kernel_rfl) rfl rfl rfl (all1 rfl) rfl ?_ | refine s_storeA 3 (zN) M rfl (by kernel_rfl) rfl rfl rfl (all1 rfl) rfl ?_
      clear M
      rintro W M
      dsimp only [setL] at M
      refine c_loadN (zN) agg_nd rfl rfl (by first | exact M.run 0 rfl | exact M.run 1 rfl | exact M.run 2 rfl | exact M.run 3 rfl | exact M.run 4 rfl | exact M.lc 0 rfl | exact M.lc 1 rfl | exact M.lc 2 rfl | exact M.lc 3 rfl | exact M.lc 4 rfl | exact M.lc 5 rfl | exact M.lc 6 rfl | exact M.lc 7 rfl) ?_
      exact ⟨zN, none, 0, 0, rfl, RdL.znone, RdD.nil_ _ _, M.below⟩
    obtain ⟨x, r, rfl⟩ : ∃ x r, l = x :: r := by cases l with | nil => exact absurd en (by simp at h0 ⊢; omega) | cons x r => exact ⟨x, r, rfl⟩
    rw [List.length_cons] at en hb1
    have hx := hat x (by simp)
    have hbx := hb2 x (by simp)
    refine cc is_alike (alike_any (x :: r) at_ _ _ A m c (by first | with_reducible exact M.d1_0 | with_reducible exact M.d1_1 | with_reducible exact M.d1_2 | with_reducible exact M.d1_3 | with_reducible exact M.d1_4 | with_reducible exact M.d1_5 | with_reducible exact M.d1_6 | with_reducible exact M.d1_7 | with_reducible exact M.d1_8 | with_reducible exact M.d1_9 | with_reducible exact M.d1_10 | with_reducible exact M.d1_11) M.olt (by simp) hata hb) ?_
    rintro e W ⟨rfl, hbel⟩
    refine ⟨_, rfl, ?_⟩
    replace M := M.call hbel
    have hka : at_ + alikeP (x :: r) at_ ≤ x.path.length := alikeP_at hata x (by simp)
    obtain ⟨b, off, Ap, cp, Av, cv, Ah, ch, rfl, M'⟩ := M.item (i := 0) (by first | with_reducible exact M.d1_0 | with_reducible exact M.d1_1 | with_reducible exact M.d1_2 | with_reducible exact M.d1_3 | with_reducible exact M.d1_4 | with_reducible exact M.d1_5 | with_reducible exact M.d1_6 | with_reducible exact M.d1_7 | with_reducible exact M.d1_8 | with_reducible exact M.d1_9 | with_reducible exact M.d1_10 | with_reducible exact M.d1_11) rfl
    replace M := M'; clear M'
    have hcpx := (M.d1 2 rfl).scap
    obtain ⟨K, hK⟩ : ∃ K, K = alikeP (x :: r) at_ := ⟨_, rfl⟩
    rw [← hK] at hka ⊢
    refine p_len sli rfl ?_
    unfold buildA
    refine p_eq rfl rfl (fun h1 => ?_) (fun h1 => ?_)
    · have hr0 : r = [] := List.eq_nil_of_length_eq_zero (by omega)
      refine p_at (i := 0) sli rfl rfl rfl (by omega) ?_
      refine p_fld fI2 rfl ?_
      refine v_load agg_bo rfl (by first | exact (M.B 0 rfl).at_ rfl | exact (M.B 1 rfl).at_ rfl | exact (M.B 2 rfl).at_ rfl | exact (M.B 3 rfl).at_ rfl | exact (M.B 4 rfl).at_ rfl | exact M.lc 0 rfl _ _ rfl | exact M.lc 1 rfl _ _ rfl | exact M.lc 2 rfl _ _ rfl | exact M.lc 3 rfl _ _ rfl | exact M.lc 4 rfl _ _ rfl | exact M.lc 5 rfl _ _ rfl | exact M.lc 6 rfl _ _ rfl | exact M.lc 7 rfl _ _ rfl) ?_
      cases hst : x.stub with
      | false =>
        rw [if_pos ⟨hr0, rfl⟩]
        refine p_not rfl ?_
        replace M := M.drew
        have hcut := (show RdD _ _ (dB x.path) (.slice Ap x.path.length cp) from (by first | with_reducible exact M.d1_0 | with_reducible exact M.d1_1 | with_reducible exact M.d1_2 | with_reducible exact M.d1_3 | with_reducible exact M.d1_4 | with_reducible exact M.d1_5 | with_reducible exact M.d1_6 | with_reducible exact M.d1_7 | with_reducible exact M.d1_8 | with_reducible exact M.d1_9 | with_reducible exact M.d1_10 | with_reducible exact M.d1_11)).cutB (i := at_) (j := x.path.length) (m := cp) (by omega) (Nat.le_refl _) (by omega)
        rw [List.take_of_length_le (by rw [List.length_drop]; omega)] at hcut
        replace M := M.addD hcut
        clear hcut
        refine drT (Kp w gs [] [.loc ((⟨b, off, none⟩ : Addr).add (0 * 5)) (ics x Ap cp Av cv Ah ch)]) (.take 0 (.take 1 (.take 2 (.take 3 (.take 4 (.take 5 (.take 7 (.take 8 (.take 9 (.take 10 (.one 6 (.one 11 (.take 12 (.one 13 (.take 14 (.take 15 (.nil))))))))))))))))) (by kernel_rfl) (M.kp (by simp) (by simp)) ?_
        refine p_at (i := 0) sli rfl rfl rfl (by omega) ?_
        refine p_fld fI0 rfl ?_
        refine t_load agg_b rfl (fun W K => by first | exact (K.B 0 rfl).at_ rfl | exact (K.B 1 rfl).at_ rfl | exact (K.B 2 rfl).at_ rfl | exact (K.B 3 rfl).at_ rfl | exact K.lc 0 rfl _ _ rfl | exact K.lc 1 rfl _ _ rfl | exact K.lc 2 rfl _ _ rfl | exact K.lc 3 rfl _ _ rfl) ?_
        refine p_slice (i := at_) (j := x.path.length) (m := cp) slb rfl (bnd_i rfl) rfl rfl rfl (by omega) hcpx (Nat.le_refl _) ?_
        refine p_at (i := 0) sli rfl rfl rfl (by omega) ?_
        refine p_fld fI1 rfl ?_
        refine t_load agg_b rfl (fun W K => by first | exact (K.B 0 rfl).at_ rfl | exact (K.B 1 rfl).at_ rfl | exact (K.B 2 rfl).at_ rfl | exact (K.B 3 rfl).at_ rfl | exact K.lc 0 rfl _ _ rfl | exact K.lc 1 rfl _ _ rfl | exact K.lc 2 rfl _ _ rfl | exact K.lc 3 rfl _ _ rfl) ?_
        refine cc is_copy0 (copy_any _ _ _ (x.path.drop at_) _ (M.rdb 0 rfl).2.2 (by omega)) ?_
        rintro e W ⟨A6, c6, rfl, o6, hbel⟩
        replace M := M.callO hbel o6
        refine ⟨_, rfl, (M.kp (by simp) (by simp)), ?_⟩
        refine cc is_copy0 (copy_any _ _ _ x.val _ (M.rdb 5 rfl).2.2 (by omega)) ?_
        rintro e W ⟨A7, c7, rfl, o7, hbel⟩
        replace M := M.callO hbel o7
        refine ⟨_, rfl, (M.kp (by simp) (by simp)), ?_⟩
        refine p_build (vs := [.int .i64 1, .slice A6 (x.path.length - at_) c6, .bool false, .slice A7 x.val.length c7, .slice none 0 0, .slice none 0 0]) pl_nd z_nd rfl ?_
        first | refine s_storeA 0 ([.int .i64 1, .slice A6 (x.path.length - at_) c6, .bool false, .slice A7 x.val.length c7, .slice none 0 0, .slice none 0 0]) M rfl (by kernel_rfl) rfl rfl rfl (all1 rfl) rfl ?_ | refine s_storeA 1 ([.int .i64 1, .slice A6 (x.path.length - at_) c6, .bool false, .slice A7 x.val.length c7, .slice none 0 0, .slice none 0 0]) M rfl (by kernel_rfl) rfl rfl rfl (all1 rfl) rfl ?_ | refine s_storeA 2 ([.int .i64 1, .slice A6 (x.path.length - at_) c6, .bool false, .slice A7 x.val.length c7, .slice none 0 0, .slice none 0 0]) M rfl (by kernel_rfl) rfl rfl rfl (all1 rfl) rfl ?_ | refine s_storeA 3 ([.int .i64 1, .slice A6 (x.path.length - at_) c6, .bool false, .slice A7 x.val.length c7, .slice none 0 0, .slice none 0 0]) M rfl (by kernel_rfl) rfl rfl rfl (all1 rfl) rfl ?_
        clear M
        rintro W M
        dsimp only [setL] at M
        refine ⟨(M.kp (by simp) (by simp)), ?_⟩
        refine c_loadN ([.int .i64 1, .slice A6 (x.path.length - at_) c6, .bool false, .slice A7 x.val.length c7, .slice none 0 0, .slice none 0 0]) agg_nd rfl rfl (by first | exact M.run 0 rfl | exact M.run 1 rfl | exact M.run 2 rfl | exact M.run 3 rfl | exact M.run 4 rfl | exact M.lc 0 rfl | exact M.lc 1 rfl | exact M.lc 2 rfl | exact M.lc 3 rfl | exact M.lc 4 rfl | exact M.lc 5 rfl | exact M.lc 6 rfl | exact M.lc 7 rfl) ?_
        have hlk : x.path.length - at_ = (x.path.drop at_).length := by rw [List.length_drop]
        rw [hlk] at M ⊢
        exact ⟨_, none, 0, 0, rfl, RdL.ofnode (t := leafN (x.path.drop at_) x.val) (cp := c6) (Ap := A6) (cv := c7) (Av := A7) (ck := 0) (Ak := none) (ch := 0) (Ah := none) (M.fin1 1 rfl) (M.fin1 0 rfl) (RdD.nil_ _ _) (RdD.nil_ _ _), RdD.nil_ _ _, M.below⟩
      | true =>
        rw [if_neg (by simp)]
        refine p_not rfl ?_
        refine p_gt rfl rfl (fun hk0 => ?_) (fun hk0 => ?_)
        · rw [if_pos (by omega)]
          refine p_len sli rfl ?_
          refine p_eq rfl rfl (fun _ => ?_) (fun h => absurd h1 h)
          refine p_at (i := 0) sli rfl rfl rfl (by omega) ?_
          refine p_fld fI3 rfl ?_
          refine v_load agg_bo rfl (by first | exact (M.B 0 rfl).at_ rfl | exact (M.B 1 rfl).at_ rfl | exact (M.B 2 rfl).at_ rfl | exact (M.B 3 rfl).at_ rfl | exact (M.B 4 rfl).at_ rfl | exact M.lc 0 rfl _ _ rfl | exact M.lc 1 rfl _ _ rfl | exact M.lc 2 rfl _ _ rfl | exact M.lc 3 rfl _ _ rfl | exact M.lc 4 rfl _ _ rfl | exact M.lc 5 rfl _ _ rfl | exact M.lc 6 rfl _ _ rfl | exact M.lc 7 rfl _ _ rfl) ?_
          cases hkn : x.known with
          | false =>
            rw [if_pos ⟨hr0, rfl⟩]
            refine p_not rfl ?_
            replace M := M.drew
            refine drT (Kp w gs [] [.loc ((⟨b, off, none⟩ : Addr).add (0 * 5)) (ics x Ap cp Av cv Ah ch)]) (.take 0 (.take 1 (.take 2 (.take 3 (.take 4 (.one 5 (.take 6 (.take 7 (.nil))))))))) (by kernel_rfl) (M.kp (by simp) (by simp)) ?_
            refine p_build (vs := zN) pl_nd z_nd rfl ?_
            refine p_at (i := 0) sli rfl rfl rfl (by omega) ?_
            refine p_fld fI0 rfl ?_
            refine t_load agg_b rfl (fun W K => by first | exact (K.B 0 rfl).at_ rfl | exact (K.B 1 rfl).at_ rfl | exact (K.B 2 rfl).at_ rfl | exact (K.B 3 rfl).at_ rfl | exact K.lc 0 rfl _ _ rfl | exact K.lc 1 rfl _ _ rfl | exact K.lc 2 rfl _ _ rfl | exact K.lc 3 rfl _ _ rfl) ?_
            first | refine s_storeA 0 (zN) M rfl (by kernel_rfl) rfl rfl rfl (all1 rfl) rfl ?_ | refine s_storeA 1 (zN) M rfl (by kernel_rfl) rfl rfl rfl (all1 rfl) rfl ?_ | refine s_storeA 2 (zN) M rfl (by kernel_rfl) rfl rfl rfl (all1 rfl) rfl ?_ | refine s_storeA 3 (zN) M rfl (by kernel_rfl) rfl rfl rfl (all1 rfl) rfl ?_
            clear M
            rintro W M
            dsimp only [setL] at M
            refine ⟨(M.kp (by simp) (by simp)), ?_⟩
            refine c_loadN (zN) agg_nd rfl rfl (by first | exact M.run 0 rfl | exact M.run 1 rfl | exact M.run 2 rfl | exact M.run 3 rfl | exact M.run 4 rfl | exact M.lc 0 rfl | exact M.lc 1 rfl | exact M.lc 2 rfl | exact M.lc 3 rfl | exact M.lc 4 rfl | exact M.lc 5 rfl | exact M.lc 6 rfl | exact M.lc 7 rfl) ?_
            exact ⟨zN, Ap, _, cp, rfl, RdL.znone, M.fin1 2 rfl, M.below⟩
          | true =>
            rw [if_neg (by simp), ← hK]
            refine p_not rfl ?_
            refine p_addN rfl rfl (by omega) ?_
            refine cc is_build (ih (x :: r) (at_ + K) _ _ _ m c (by first | with_reducible exact M.d1_0 | with_reducible exact M.d1_1 | with_reducible exact M.d1_2 | with_reducible exact M.d1_3 | with_reducible exact M.d1_4 | with_reducible exact M.d1_5 | with_reducible exact M.d1_6 | with_reducible exact M.d1_7 | with_reducible exact M.d1_8 | with_reducible exact M.d1_9 | with_reducible exact M.d1_10 | with_reducible exact M.d1_11) M.olt (fun y hy => ⟨by rw [hK]; exact alikeP_at hata y hy, by have := (hat y hy).2; omega⟩) hb) ?_
            rintro e W ⟨cs5, Am, nm, cm, rfl, hres, hm5, hbel⟩
            replace M := ((M.call hbel).addD hm5).addL hres
            clear hbel hm5 hres
            refine ⟨_, rfl, ?_⟩
            obtain ⟨Ap5, cp5, Av5, cv5, Ak5, ck5, Ah5, ch5, rfl, -⟩ := (M.da 0 rfl).node
            refine s_alloc (zN) M al_nd ?_
            clear M
            rintro g8 W M
            first | refine s_storeA 0 (ncs (buildA n (x :: r) (at_ + K)).1 Ap5 cp5 Av5 cv5 Ak5 ck5 Ah5 ch5) M rfl (by kernel_rfl) rfl rfl rfl (all1 rfl) rfl ?_ | refine s_storeA 1 (ncs (buildA n (x :: r) (at_ + K)).1 Ap5 cp5 Av5 cv5 Ak5 ck5 Ah5 ch5) M rfl (by kernel_rfl) rfl rfl rfl (all1 rfl) rfl ?_ | refine s_storeA 2 (ncs (buildA n (x :: r) (at_ + K)).1 Ap5 cp5 Av5 cv5 Ak5 ck5 Ah5 ch5) M rfl (by kernel_rfl) rfl rfl rfl (all1 rfl) rfl ?_ | refine s_storeA 3 (ncs (buildA n (x :: r) (at_ + K)).1 Ap5 cp5 Av5 cv5 Ak5 ck5 Ah5 ch5) M rfl (by kernel_rfl) rfl rfl rfl (all1 rfl) rfl ?_
            clear M
            rintro W M
            dsimp only [setL] at M
            replace M := M.drew
            have hcut := (show RdD _ _ (dB x.path) (.slice Ap x.path.length cp) from (by first | with_reducible exact M.d1_0 | with_reducible exact M.d1_1 | with_reducible exact M.d1_2 | with_reducible exact M.d1_3 | with_reducible exact M.d1_4 | with_reducible exact M.d1_5 | with_reducible exact M.d1_6 | with_reducible exact M.d1_7 | with_reducible exact M.d1_8 | with_reducible exact M.d1_9 | with_reducible exact M.d1_10 | with_reducible exact M.d1_11)).cutB (i := at_) (j := at_ + K) (m := cp) (by omega) (by omega) (by omega)
            have eK : (x.path.drop at_).take (at_ + K - at_) = (x.path.drop at_).take K := by rw [show at_ + K - at_ = K by omega]
            rw [eK] at hcut
            replace M := M.addD hcut
            clear hcut
            refine drT (Kp w gs [(g8, 28, ncs (buildA n (x :: r) (at_ + K)).1 Ap5 cp5 Av5 cv5 Ak5 ck5 Ah5 ch5)] [.loc ((⟨b, off, none⟩ : Addr).add (0 * 5)) (ics x Ap cp Av cv Ah ch)]) (.take 0 (.take 1 (.take 2 (.take 3 (.take 4 (.take 5 (.take 6 (.take 7 (.take 8 (.take 10 (.take 13 (.take 14 (.two 9 (.one 11 (.take 12 (.one 15 (.take 16 (.take 17 (.nil)))))) 11 (.one 9 (.take 12 (.one 15 (.take 16 (.take 17 (.nil))))))))))))))))))) (by kernel_rfl) (M.kp (by simp) (by simp)) ?_
            refine p_at (i := 0) sli rfl rfl rfl (by omega) ?_
            refine p_fld fI0 rfl ?_
            refine t_load agg_b rfl (fun W K => by first | exact (K.B 0 rfl).at_ rfl | exact (K.B 1 rfl).at_ rfl | exact (K.B 2 rfl).at_ rfl | exact (K.B 3 rfl).at_ rfl | exact K.lc 0 rfl _ _ rfl | exact K.lc 1 rfl _ _ rfl | exact K.lc 2 rfl _ _ rfl | exact K.lc 3 rfl _ _ rfl) ?_
            refine p_addN rfl rfl (by omega) ?_
            refine p_slice (i := at_) (j := at_ + K) (m := cp) slb rfl (bnd_i rfl) (bnd_i rfl) rfl rfl (by omega) (by omega) (Nat.le_refl _) ?_
            refine t_loadN (ncs (buildA n (x :: r) (at_ + K)).1 Ap5 cp5 Av5 cv5 Ak5 ck5 Ah5 ch5) agg_nd rfl rfl (fun W K => by first | exact K.run 0 rfl | exact K.run 1 rfl | exact K.run 2 rfl | exact K.run 3 rfl | exact K.lc 0 rfl | exact K.lc 1 rfl | exact K.lc 2 rfl | exact K.lc 3 rfl) ?_
            refine ⟨?_, ?_⟩
            ·
              refine cc is_copy0 (copy_any _ _ _ ((x.path.drop at_).take K) _ (M.rdb 0 rfl).2.2 (by omega)) ?_
              rintro e W ⟨A6, c6, rfl, o6, hbel⟩
              replace M := M.callO hbel o6
              refine ⟨_, rfl, (M.kp (by simp) (by simp)), ?_⟩
              refine s_bslice (fr := false) (ds := dNs [(buildA n (x :: r) (at_ + K)).1]) (ncs (buildA n (x :: r) (at_ + K)).1 Ap5 cp5 Av5 cv5 Ak5 ck5 Ah5 ch5) M sln z_nd rfl (by decide) rfl (by rw [dNs, dNs, List.append_nil]; exact (by first | with_reducible exact M.dw_0 | with_reducible exact M.dw_1 | with_reducible exact M.dw_2 | with_reducible exact M.dw_3 | with_reducible exact M.dw_4 | with_reducible exact M.dw_5 | with_reducible exact M.dw_6 | with_reducible exact M.dw_7 | with_reducible exact M.dw_8 | with_reducible exact M.dw_9 | with_reducible exact M.dw_10 | with_reducible exact M.dw_11)) (by rw [dNs_len]; rfl) ?_
              clear M; rintro gk W M
              refine ⟨(M.kp (by simp) (by simp)), ?_⟩
              have hlk : at_ + K - at_ = ((x.path.drop at_).take K).length := by rw [List.length_take, List.length_drop]; omega
              refine p_build (vs := [.int .i64 2, .slice A6 (at_ + K - at_) c6, .bool false, .slice none 0 0, .slice (some ⟨gk, 0, none⟩) 1 1, .slice none 0 0]) pl_nd z_nd rfl ?_
              first | refine s_storeA 0 ([.int .i64 2, .slice A6 (at_ + K - at_) c6, .bool false, .slice none 0 0, .slice (some ⟨gk, 0, none⟩) 1 1, .slice none 0 0]) M rfl (by kernel_rfl) rfl rfl rfl (all1 rfl) rfl ?_ | refine s_storeA 1 ([.int .i64 2, .slice A6 (at_ + K - at_) c6, .bool false, .slice none 0 0, .slice (some ⟨gk, 0, none⟩) 1 1, .slice none 0 0]) M rfl (by kernel_rfl) rfl rfl rfl (all1 rfl) rfl ?_ | refine s_storeA 2 ([.int .i64 2, .slice A6 (at_ + K - at_) c6, .bool false, .slice none 0 0, .slice (some ⟨gk, 0, none⟩) 1 1, .slice none 0 0]) M rfl (by kernel_rfl) rfl rfl rfl (all1 rfl) rfl ?_ | refine s_storeA 3 ([.int .i64 2, .slice A6 (at_ + K - at_) c6, .bool false, .slice none 0 0, .slice (some ⟨gk, 0, none⟩) 1 1, .slice none 0 0]) M rfl (by kernel_rfl) rfl rfl rfl (all1 rfl) rfl ?_
              clear M
              rintro W M
              dsimp only [setL] at M
              refine ⟨(M.kp (by simp) (by simp)), ?_⟩
              refine c_loadN ([.int .i64 2, .slice A6 (at_ + K - at_) c6, .bool false, .slice none 0 0, .slice (some ⟨gk, 0, none⟩) 1 1, .slice none 0 0]) agg_nd rfl rfl (by first | exact M.run 0 rfl | exact M.run 1 rfl | exact M.run 2 rfl | exact M.run 3 rfl | exact M.run 4 rfl | exact M.lc 0 rfl | exact M.lc 1 rfl | exact M.lc 2 rfl | exact M.lc 3 rfl | exact M.lc 4 rfl | exact M.lc 5 rfl | exact M.lc 6 rfl | exact M.lc 7 rfl) ?_
              rw [hlk] at M ⊢
              refine ⟨_, Am, nm, cm, rfl, RdL.ofnode (t := .mk 2 ((x.path.drop at_).take K) false [] [(buildA n (x :: r) (at_ + K)).1] []) (cp := c6) (Ap := A6) (cv := 0) (Av := none) (ck := 1) (Ak := some ⟨gk, 0, none⟩) (ch := 0) (Ah := none) (M.fin1 1 rfl) (RdD.nil_ _ _) (M.fin1 0 rfl) (RdD.nil_ _ _), (by first | with_reducible exact M.fin1_0 | with_reducible exact M.fin1_1 | with_reducible exact M.fin1_2 | with_reducible exact M.fin1_3 | with_reducible exact M.fin1_4 | with_reducible exact M.fin1_5 | with_reducible exact M.fin1_6 | with_reducible exact M.fin1_7 | with_reducible exact M.fin1_8 | with_reducible exact M.fin1_9 | with_reducible exact M.fin1_10 | with_reducible exact M.fin1_11), M.below⟩
            ·
              refine s_bslice (fr := false) (ds := dNs [(buildA n (x :: r) (at_ + K)).1]) (ncs (buildA n (x :: r) (at_ + K)).1 Ap5 cp5 Av5 cv5 Ak5 ck5 Ah5 ch5) M sln z_nd rfl (by decide) rfl (by rw [dNs, dNs, List.append_nil]; exact (by first | with_reducible exact M.dw_0 | with_reducible exact M.dw_1 | with_reducible exact M.dw_2 | with_reducible exact M.dw_3 | with_reducible exact M.dw_4 | with_reducible exact M.dw_5 | with_reducible exact M.dw_6 | with_reducible exact M.dw_7 | with_reducible exact M.dw_8 | with_reducible exact M.dw_9 | with_reducible exact M.dw_10 | with_reducible exact M.dw_11)) (by rw [dNs_len]; rfl) ?_
              clear M; rintro gk W M
              refine ⟨(M.kp (by simp) (by simp)), ?_⟩
              refine cc is_copy0 (copy_any _ _ _ ((x.path.drop at_).take K) _ (M.rdb 1 rfl).2.2 (by omega)) ?_
              rintro e W ⟨A6, c6, rfl, o6, hbel⟩
              replace M := M.callO hbel o6
              refine ⟨_, rfl, (M.kp (by simp) (by simp)), ?_⟩
              have hlk : at_ + K - at_ = ((x.path.drop at_).take K).length := by rw [List.length_take, List.length_drop]; omega
              refine p_build (vs := [.int .i64 2, .slice A6 (at_ + K - at_) c6, .bool false, .slice none 0 0, .slice (some ⟨gk, 0, none⟩) 1 1, .slice none 0 0]) pl_nd z_nd rfl ?_
              first | refine s_storeA 0 ([.int .i64 2, .slice A6 (at_ + K - at_) c6, .bool false, .slice none 0 0, .slice (some ⟨gk, 0, none⟩) 1 1, .slice none 0 0]) M rfl (by kernel_rfl) rfl rfl rfl (all1 rfl) rfl ?_ | refine s_storeA 1 ([.int .i64 2, .slice A6 (at_ + K - at_) c6, .bool false, .slice none 0 0, .slice (some ⟨gk, 0, none⟩) 1 1, .slice none 0 0]) M rfl (by kernel_rfl) rfl rfl rfl (all1 rfl) rfl ?_ | refine s_storeA 2 ([.int .i64 2, .slice A6 (at_ + K - at_) c6, .bool false, .slice none 0 0, .slice (some ⟨gk, 0, none⟩) 1 1, .slice none 0 0]) M rfl (by kernel_rfl) rfl rfl rfl (all1 rfl) rfl ?_ | refine s_storeA 3 ([.int .i64 2, .slice A6 (at_ + K - at_) c6, .bool false, .slice none 0 0, .slice (some ⟨gk, 0, none⟩) 1 1, .slice none 0 0]) M rfl (by kernel_rfl) rfl rfl rfl (all1 rfl) rfl ?_
              clear M
              rintro W M
              dsimp only [setL] at M
              refine ⟨(M.kp (by simp) (by simp)), ?_⟩
              refine c_loadN ([.int .i64 2, .slice A6 (at_ + K - at_) c6, .bool false, .slice none 0 0, .slice (some ⟨gk, 0, none⟩) 1 1, .slice none 0 0]) agg_nd rfl rfl (by first | exact M.run 0 rfl | exact M.run 1 rfl | exact M.run 2 rfl | exact M.run 3 rfl | exact M.run 4 rfl | exact M.lc 0 rfl | exact M.lc 1 rfl | exact M.lc 2 rfl | exact M.lc 3 rfl | exact M.lc 4 rfl | exact M.lc 5 rfl | exact M.lc 6 rfl | exact M.lc 7 rfl) ?_
              rw [hlk] at M ⊢
              refine ⟨_, Am, nm, cm, rfl, RdL.ofnode (t := .mk 2 ((x.path.drop at_).take K) false [] [(buildA n (x :: r) (at_ + K)).1] []) (cp := c6) (Ap := A6) (cv := 0) (Av := none) (ck := 1) (Ak := some ⟨gk, 0, none⟩) (ch := 0) (Ah := none) (M.fin1 0 rfl) (RdD.nil_ _ _) (M.fin1 1 rfl) (RdD.nil_ _ _), (by first | with_reducible exact M.fin1_0 | with_reducible exact M.fin1_1 | with_reducible exact M.fin1_2 | with_reducible exact M.fin1_3 | with_reducible exact M.fin1_4 | with_reducible exact M.fin1_5 | with_reducible exact M.fin1_6 | with_reducible exact M.fin1_7 | with_reducible exact M.fin1_8 | with_reducible exact M.fin1_9 | with_reducible exact M.fin1_10 | with_reducible exact M.fin1_11), M.below⟩
        · rw [if_neg (by omega), if_pos hr0]
          refine p_len sli rfl ?_
          refine p_eq rfl rfl (fun _ => ?_) (fun h => absurd h1 h)
          refine p_at (i := 0) sli rfl rfl rfl (by omega) ?_
          refine p_fld fI4 rfl ?_
          refine v_load agg_b rfl (by first | exact (M.B 0 rfl).at_ rfl | exact (M.B 1 rfl).at_ rfl | exact (M.B 2 rfl).at_ rfl | exact (M.B 3 rfl).at_ rfl | exact (M.B 4 rfl).at_ rfl | exact M.lc 0 rfl _ _ rfl | exact M.lc 1 rfl _ _ rfl | exact M.lc 2 rfl _ _ rfl | exact M.lc 3 rfl _ _ rfl | exact M.lc 4 rfl _ _ rfl | exact M.lc 5 rfl _ _ rfl | exact M.lc 6 rfl _ _ rfl | exact M.lc 7 rfl _ _ rfl) ?_
          refine cc is_copy0 (copy_any _ _ _ x.hash _ (M.rdb 4 rfl).2.2 (by omega)) ?_
          rintro e W ⟨A6, c6, rfl, o6, hbel⟩
          replace M := M.callO hbel o6
          refine ⟨_, rfl, ?_⟩
          refine p_build (vs := [.int .i64 4, .slice none 0 0, .bool false, .slice none 0 0, .slice none 0 0, .slice A6 x.hash.length c6]) pl_nd z_nd rfl ?_
          first | refine s_storeA 0 ([.int .i64 4, .slice none 0 0, .bool false, .slice none 0 0, .slice none 0 0, .slice A6 x.hash.length c6]) M rfl (by kernel_rfl) rfl rfl rfl (all1 rfl) rfl ?_ | refine s_storeA 1 ([.int .i64 4, .slice none 0 0, .bool false, .slice none 0 0, .slice none 0 0, .slice A6 x.hash.length c6]) M rfl (by kernel_rfl) rfl rfl rfl (all1 rfl) rfl ?_ | refine s_storeA 2 ([.int .i64 4, .slice none 0 0, .bool false, .slice none 0 0, .slice none 0 0, .slice A6 x.hash.length c6]) M rfl (by kernel_rfl) rfl rfl rfl (all1 rfl) rfl ?_ | refine s_storeA 3 ([.int .i64 4, .slice none 0 0, .bool false, .slice none 0 0, .slice none 0 0, .slice A6 x.hash.length c6]) M rfl (by kernel_rfl) rfl rfl rfl (all1 rfl) rfl ?_
          clear M
          rintro W M
          dsimp only [setL] at M
          refine c_loadN ([.int .i64 4, .slice none 0 0, .bool false, .slice none 0 0, .slice none 0 0, .slice A6 x.hash.length c6]) agg_nd rfl rfl (by first | exact M.run 0 rfl | exact M.run 1 rfl | exact M.run 2 rfl | exact M.run 3 rfl | exact M.run 4 rfl | exact M.lc 0 rfl | exact M.lc 1 rfl | exact M.lc 2 rfl | exact M.lc 3 rfl | exact M.lc 4 rfl | exact M.lc 5 rfl | exact M.lc 6 rfl | exact M.lc 7 rfl) ?_
          exact ⟨_, none, 0, 0, rfl, RdL.ofnode (t := .mk 4 [] false [] [] x.hash) (cp := 0) (Ap := none) (cv := 0) (Av := none) (ck := 0) (Ak := none) (ch := c6) (Ah := A6) (RdD.nil_ _ _) (RdD.nil_ _ _) (RdD.nil_ _ _) (M.fin1 0 rfl), RdD.nil_ _ _, M.below⟩
    · have hr0 : r ≠ [] := fun e => by rw [e] at en; exact h1 (by rw [en]; rfl)
      rw [if_neg (fun h => hr0 h.1)]
      refine p_gt rfl rfl (fun hk0 => ?_) (fun hk0 => ?_)
      · rw [if_pos (by omega), if_neg (fun h => hr0 h.1), ← hK]
        refine p_len sli rfl ?_
        refine p_eq rfl rfl (fun h => absurd h h1) (fun _ => ?_)
        refine p_addN rfl rfl (by omega) ?_
        refine cc is_build (ih (x :: r) (at_ + K) _ _ _ m c (by first | with_reducible exact M.d1_0 | with_reducible exact M.d1_1 | with_reducible exact M.d1_2 | with_reducible exact M.d1_3 | with_reducible exact M.d1_4 | with_reducible exact M.d1_5 | with_reducible exact M.d1_6 | with_reducible exact M.d1_7 | with_reducible exact M.d1_8 | with_reducible exact M.d1_9 | with_reducible exact M.d1_10 | with_reducible exact M.d1_11) M.olt (fun y hy => ⟨by rw [hK]; exact alikeP_at hata y hy, by have := (hat y hy).2; omega⟩) hb) ?_
        rintro e W ⟨cs5, Am, nm, cm, rfl, hres, hm5, hbel⟩
        replace M := ((M.call hbel).addD hm5).addL hres
        clear hbel hm5 hres
        refine ⟨_, rfl, ?_⟩
        obtain ⟨Ap5, cp5, Av5, cv5, Ak5, ck5, Ah5, ch5, rfl, -⟩ := (M.da 0 rfl).node
        refine s_alloc (zN) M al_nd ?_
        clear M
        rintro g8 W M
        first | refine s_storeA 0 (ncs (buildA n (x :: r) (at_ + K)).1 Ap5 cp5 Av5 cv5 Ak5 ck5 Ah5 ch5) M rfl (by kernel_rfl) rfl rfl rfl (all1 rfl) rfl ?_ | refine s_storeA 1 (ncs (buildA n (x :: r) (at_ + K)).1 Ap5 cp5 Av5 cv5 Ak5 ck5 Ah5 ch5) M rfl (by kernel_rfl) rfl rfl rfl (all1 rfl) rfl ?_ | refine s_storeA 2 (ncs (buildA n (x :: r) (at_ + K)).1 Ap5 cp5 Av5 cv5 Ak5 ck5 Ah5 ch5) M rfl (by kernel_rfl) rfl rfl rfl (all1 rfl) rfl ?_ | refine s_storeA 3 (ncs (buildA n (x :: r) (at_ + K)).1 Ap5 cp5 Av5 cv5 Ak5 ck5 Ah5 ch5) M rfl (by kernel_rfl) rfl rfl rfl (all1 rfl) rfl ?_
        clear M
        rintro W M
        dsimp only [setL] at M
        replace M := M.drew
        have hcut := (show RdD _ _ (dB x.path) (.slice Ap x.path.length cp) from (by first | with_reducible exact M.d1_0 | with_reducible exact M.d1_1 | with_reducible exact M.d1_2 | with_reducible exact M.d1_3 | with_reducible exact M.d1_4 | with_reducible exact M.d1_5 | with_reducible exact M.d1_6 | with_reducible exact M.d1_7 | with_reducible exact M.d1_8 | with_reducible exact M.d1_9 | with_reducible exact M.d1_10 | with_reducible exact M.d1_11)).cutB (i := at_) (j := at_ + K) (m := cp) (by omega) (by omega) (by omega)
        have eK : (x.path.drop at_).take (at_ + K - at_) = (x.path.drop at_).take K := by rw [show at_ + K - at_ = K by omega]
        rw [eK] at hcut
        replace M := M.addD hcut
        clear hcut
        refine drT (Kp w gs [(g8, 28, ncs (buildA n (x :: r) (at_ + K)).1 Ap5 cp5 Av5 cv5 Ak5 ck5 Ah5 ch5)] [.loc ((⟨b, off, none⟩ : Addr).add (0 * 5)) (ics x Ap cp Av cv Ah ch)]) (.take 0 (.take 1 (.take 2 (.take 3 (.take 4 (.take 5 (.take 6 (.take 7 (.take 8 (.take 10 (.take 13 (.take 14 (.two 9 (.one 11 (.take 12 (.one 15 (.take 16 (.take 17 (.nil)))))) 11 (.one 9 (.take 12 (.one 15 (.take 16 (.take 17 (.nil))))))))))))))))))) (by kernel_rfl) (M.kp (by simp) (by simp)) ?_
        refine p_at (i := 0) sli rfl rfl rfl (by omega) ?_
        refine p_fld fI0 rfl ?_
        refine t_load agg_b rfl (fun W K => by first | exact (K.B 0 rfl).at_ rfl | exact (K.B 1 rfl).at_ rfl | exact (K.B 2 rfl).at_ rfl | exact (K.B 3 rfl).at_ rfl | exact K.lc 0 rfl _ _ rfl | exact K.lc 1 rfl _ _ rfl | exact K.lc 2 rfl _ _ rfl | exact K.lc 3 rfl _ _ rfl) ?_
        refine p_addN rfl rfl (by omega) ?_
        refine p_slice (i := at_) (j := at_ + K) (m := cp) slb rfl (bnd_i rfl) (bnd_i rfl) rfl rfl (by omega) (by omega) (Nat.le_refl _) ?_
        refine t_loadN (ncs (buildA n (x :: r) (at_ + K)).1 Ap5 cp5 Av5 cv5 Ak5 ck5 Ah5 ch5) agg_nd rfl rfl (fun W K => by first | exact K.run 0 rfl | exact K.run 1 rfl | exact K.run 2 rfl | exact K.run 3 rfl | exact K.lc 0 rfl | exact K.lc 1 rfl | exact K.lc 2 rfl | exact K.lc 3 rfl) ?_
        refine ⟨?_, ?_⟩
        ·
          refine cc is_copy0 (copy_any _ _ _ ((x.path.drop at_).take K) _ (M.rdb 0 rfl).2.2 (by omega)) ?_
          rintro e W ⟨A6, c6, rfl, o6, hbel⟩
          replace M := M.callO hbel o6
          refine ⟨_, rfl, (M.kp (by simp) (by simp)), ?_⟩
          refine s_bslice (fr := false) (ds := dNs [(buildA n (x :: r) (at_ + K)).1]) (ncs (buildA n (x :: r) (at_ + K)).1 Ap5 cp5 Av5 cv5 Ak5 ck5 Ah5 ch5) M sln z_nd rfl (by decide) rfl (by rw [dNs, dNs, List.append_nil]; exact (by first | with_reducible exact M.dw_0 | with_reducible exact M.dw_1 | with_reducible exact M.dw_2 | with_reducible exact M.dw_3 | with_reducible exact M.dw_4 | with_reducible exact M.dw_5 | with_reducible exact M.dw_6 | with_reducible exact M.dw_7 | with_reducible exact M.dw_8 | with_reducible exact M.dw_9 | with_reducible exact M.dw_10 | with_reducible exact M.dw_11)) (by rw [dNs_len]; rfl) ?_
          clear M; rintro gk W M
          refine ⟨(M.kp (by simp) (by simp)), ?_⟩
          have hlk : at_ + K - at_ = ((x.path.drop at_).take K).length := by rw [List.length_take, List.length_drop]; omega
          refine p_build (vs := [.int .i64 2, .slice A6 (at_ + K - at_) c6, .bool false, .slice none 0 0, .slice (some ⟨gk, 0, none⟩) 1 1, .slice none 0 0]) pl_nd z_nd rfl ?_
          first | refine s_storeA 0 ([.int .i64 2, .slice A6 (at_ + K - at_) c6, .bool false, .slice none 0 0, .slice (some ⟨gk, 0, none⟩) 1 1, .slice none 0 0]) M rfl (by kernel_rfl) rfl rfl rfl (all1 rfl) rfl ?_ | refine s_storeA 1 ([.int .i64 2, .slice A6 (at_ + K - at_) c6, .bool false, .slice none 0 0, .slice (some ⟨gk, 0, none⟩) 1 1, .slice none 0 0]) M rfl (by kernel_rfl) rfl rfl rfl (all1 rfl) rfl ?_ | refine s_storeA 2 ([.int .i64 2, .slice A6 (at_ + K - at_) c6, .bool false, .slice none 0 0, .slice (some ⟨gk, 0, none⟩) 1 1, .slice none 0 0]) M rfl (by kernel_rfl) rfl rfl rfl (all1 rfl) rfl ?_ | refine s_storeA 3 ([.int .i64 2, .slice A6 (at_ + K - at_) c6, .bool false, .slice none 0 0, .slice (some ⟨gk, 0, none⟩) 1 1, .slice none 0 0]) M rfl (by kernel_rfl) rfl rfl rfl (all1 rfl) rfl ?_
          clear M
          rintro W M
          dsimp only [setL] at M
          refine ⟨(M.kp (by simp) (by simp)), ?_⟩
          refine c_loadN ([.int .i64 2, .slice A6 (at_ + K - at_) c6, .bool false, .slice none 0 0, .slice (some ⟨gk, 0, none⟩) 1 1, .slice none 0 0]) agg_nd rfl rfl (by first | exact M.run 0 rfl | exact M.run 1 rfl | exact M.run 2 rfl | exact M.run 3 rfl | exact M.run 4 rfl | exact M.lc 0 rfl | exact M.lc 1 rfl | exact M.lc 2 rfl | exact M.lc 3 rfl | exact M.lc 4 rfl | exact M.lc 5 rfl | exact M.lc 6 rfl | exact M.lc 7 rfl) ?_
          rw [hlk] at M ⊢
          refine ⟨_, Am, nm, cm, rfl, RdL.ofnode (t := .mk 2 ((x.path.drop at_).take K) false [] [(buildA n (x :: r) (at_ + K)).1] []) (cp := c6) (Ap := A6) (cv := 0) (Av := none) (ck := 1) (Ak := some ⟨gk, 0, none⟩) (ch := 0) (Ah := none) (M.fin1 1 rfl) (RdD.nil_ _ _) (M.fin1 0 rfl) (RdD.nil_ _ _), (by first | with_reducible exact M.fin1_0 | with_reducible exact M.fin1_1 | with_reducible exact M.fin1_2 | with_reducible exact M.fin1_3 | with_reducible exact M.fin1_4 | with_reducible exact M.fin1_5 | with_reducible exact M.fin1_6 | with_reducible exact M.fin1_7 | with_reducible exact M.fin1_8 | with_reducible exact M.fin1_9 | with_reducible exact M.fin1_10 | with_reducible exact M.fin1_11), M.below⟩
        ·
          refine s_bslice (fr := false) (ds := dNs [(buildA n (x :: r) (at_ + K)).1]) (ncs (buildA n (x :: r) (at_ + K)).1 Ap5 cp5 Av5 cv5 Ak5 ck5 Ah5 ch5) M sln z_nd rfl (by decide) rfl (by rw [dNs, dNs, List.append_nil]; exact (by first | with_reducible exact M.dw_0 | with_reducible exact M.dw_1 | with_reducible exact M.dw_2 | with_reducible exact M.dw_3 | with_reducible exact M.dw_4 | with_reducible exact M.dw_5 | with_reducible exact M.dw_6 | with_reducible exact M.dw_7 | with_reducible exact M.dw_8 | with_reducible exact M.dw_9 | with_reducible exact M.dw_10 | with_reducible exact M.dw_11)) (by rw [dNs_len]; rfl) ?_
          clear M; rintro gk W M
          refine ⟨(M.kp (by simp) (by simp)), ?_⟩
          refine cc is_copy0 (copy_any _ _ _ ((x.path.drop at_).take K) _ (M.rdb 1 rfl).2.2 (by omega)) ?_
          rintro e W ⟨A6, c6, rfl, o6, hbel⟩
          replace M := M.callO hbel o6
          refine ⟨_, rfl, (M.kp (by simp) (by simp)), ?_⟩
          have hlk : at_ + K - at_ = ((x.path.drop at_).take K).length := by rw [List.length_take, List.length_drop]; omega
          refine p_build (vs := [.int .i64 2, .slice A6 (at_ + K - at_) c6, .bool false, .slice none 0 0, .slice (some ⟨gk, 0, none⟩) 1 1, .slice none 0 0]) pl_nd z_nd rfl ?_
          first | refine s_storeA 0 ([.int .i64 2, .slice A6 (at_ + K - at_) c6, .bool false, .slice none 0 0, .slice (some ⟨gk, 0, none⟩) 1 1, .slice none 0 0]) M rfl (by kernel_rfl) rfl rfl rfl (all1 rfl) rfl ?_ | refine s_storeA 1 ([.int .i64 2, .slice A6 (at_ + K - at_) c6, .bool false, .slice none 0 0, .slice (some ⟨gk, 0, none⟩) 1 1, .slice none 0 0]) M rfl (by kernel_rfl) rfl rfl rfl (all1 rfl) rfl ?_ | refine s_storeA 2 ([.int .i64 2, .slice A6 (at_ + K - at_) c6, .bool false, .slice none 0 0, .slice (some ⟨gk, 0, none⟩) 1 1, .slice none 0 0]) M rfl (by kernel_rfl) rfl rfl rfl (all1 rfl) rfl ?_ | refine s_storeA 3 ([.int .i64 2, .slice A6 (at_ + K - at_) c6, .bool false, .slice none 0 0, .slice (some ⟨gk, 0, none⟩) 1 1, .slice none 0 0]) M rfl (by kernel_rfl) rfl rfl rfl (all1 rfl) rfl ?_
          clear M
          rintro W M
          dsimp only [setL] at M
          refine ⟨(M.kp (by simp) (by simp)), ?_⟩
          refine c_loadN ([.int .i64 2, .slice A6 (at_ + K - at_) c6, .bool false, .slice none 0 0, .slice (some ⟨gk, 0, none⟩) 1 1, .slice none 0 0]) agg_nd rfl rfl (by first | exact M.run 0 rfl | exact M.run 1 rfl | exact M.run 2 rfl | exact M.run 3 rfl | exact M.run 4 rfl | exact M.lc 0 rfl | exact M.lc 1 rfl | exact M.lc 2 rfl | exact M.lc 3 rfl | exact M.lc 4 rfl | exact M.lc 5 rfl | exact M.lc 6 rfl | exact M.lc 7 rfl) ?_
          rw [hlk] at M ⊢
          refine ⟨_, Am, nm, cm, rfl, RdL.ofnode (t := .mk 2 ((x.path.drop at_).take K) false [] [(buildA n (x :: r) (at_ + K)).1] []) (cp := c6) (Ap := A6) (cv := 0) (Av := none) (ck := 1) (Ak := some ⟨gk, 0, none⟩) (ch := 0) (Ah := none) (M.fin1 0 rfl) (RdD.nil_ _ _) (M.fin1 1 rfl) (RdD.nil_ _ _), (by first | with_reducible exact M.fin1_0 | with_reducible exact M.fin1_1 | with_reducible exact M.fin1_2 | with_reducible exact M.fin1_3 | with_reducible exact M.fin1_4 | with_reducible exact M.fin1_5 | with_reducible exact M.fin1_6 | with_reducible exact M.fin1_7 | with_reducible exact M.fin1_8 | with_reducible exact M.fin1_9 | with_reducible exact M.fin1_10 | with_reducible exact M.fin1_11), M.below⟩
      · refine p_len sli rfl ?_
        refine p_eq rfl rfl (fun h => absurd h h1) (fun _ => ?_)
        exact ⟨g4, ⟨M.fsub _ (by simp), x, r, rfl, hr0, by omega⟩, (by repeat (first | exact trivial | refine ⟨rfl, ?_⟩))⟩
  · clear M
    rintro g4 B W ⟨M, x, r, rfl, hr0, hK0⟩
    unfold buildA
    rw [if_neg (fun h => hr0 h.1), hK0, if_neg (by decide), if_neg hr0]
    obtain ⟨f, hf⟩ : ∃ f, f = fun h => buildA n (groupA (x :: r) at_ h) (at_ + 1) := ⟨_, rfl⟩
    rw [← hf]
    obtain ⟨L0, hL0⟩ : ∃ L0, L0 = x :: r := ⟨_, rfl⟩
    rw [← hL0] at M hb1 hb2 hat en hb hf ⊢
    obtain ⟨BF, hBF⟩ : ∃ BF, BF = badF f 0 16 := ⟨_, rfl⟩
    rw [← hBF]
    refine ev_assoc ?_
    refine cutS (Nat × Nat × List Value) (fun s W => St w gs W [(s.1, 28, ncs (.mk 3 [] false [] (kidsF f) []) none 0 none 0 (some ⟨s.2.1, 0, none⟩) 16 none 0), (s.2.1, 28, s.2.2), (g4, 28, zN)] [] [.dat false (dNs (kidsF f)) s.2.2, .dat false [dIl L0] [.slice A m c]] ∧ BF = none)
      (fun s => [(0, .slice A m c), (1, .int .i64 at_), (4, .pointer (some ⟨g4, 0, none⟩)), (11, .pointer (some ⟨s.1, 0, none⟩))]) ?_ ?_
    · refine s_mkN M rfl rfl ?_
      clear M; rintro gk W M
      refine p_build (vs := ncs (.mk 3 [] false [] (noneNs 16) []) none 0 none 0 (some ⟨gk, 0, none⟩) 16 none 0) pl_nd z_nd rfl ?_
      refine s_alloc (zN) M al_nd ?_
      clear M
      rintro g11 W M
      first | refine s_storeA 0 (ncs (.mk 3 [] false [] (noneNs 16) []) none 0 none 0 (some ⟨gk, 0, none⟩) 16 none 0) M rfl (by kernel_rfl) rfl rfl rfl (all1 rfl) rfl ?_ | refine s_storeA 1 (ncs (.mk 3 [] false [] (noneNs 16) []) none 0 none 0 (some ⟨gk, 0, none⟩) 16 none 0) M rfl (by kernel_rfl) rfl rfl rfl (all1 rfl) rfl ?_ | refine s_storeA 2 (ncs (.mk 3 [] false [] (noneNs 16) []) none 0 none 0 (some ⟨gk, 0, none⟩) 16 none 0) M rfl (by kernel_rfl) rfl rfl rfl (all1 rfl) rfl ?_ | refine s_storeA 3 (ncs (.mk 3 [] false [] (noneNs 16) []) none 0 none 0 (some ⟨gk, 0, none⟩) 16 none 0) M rfl (by kernel_rfl) rfl rfl rfl (all1 rfl) rfl ?_
      clear M
      rintro W M
      dsimp only [setL] at M
      replace M := M.addT (fr := false) (ds := dNs (noneNs 16)) (cs := zNs 16) (RdL.znones 16)
      have e16 : ∀ h, h ≤ 16 → ncs (.mk 3 [] false [] (noneNs 16) []) none 0 none 0 (some ⟨gk, 0, none⟩) 16 none 0 = ncs (.mk 3 [] false [] (partK f h) []) none 0 none 0 (some ⟨gk, 0, none⟩) 16 none 0 := fun h hh => by
        simp only [ncs, Nd.kids, Nd.kind, Nd.path, Nd.has, Nd.val, Nd.hash, partK_len hh, noneNs_len]
      rw [← partK_0 f] at M
      refine lp (Nat × List Value) (fun s W => s.1 ≤ 16 ∧ St w gs W [(g11, 28, ncs (.mk 3 [] false [] (noneNs 16) []) none 0 none 0 (some ⟨gk, 0, none⟩) 16 none 0), (gk, 28, s.2), (g4, 28, zN)] [] [.dat false (dNs (partK f s.1)) s.2, .dat false [dIl L0] [.slice A m c]] ∧ BF = badF f s.1 (16 - s.1))
        (fun s => [(0, .slice A m c), (1, .int .i64 at_), (4, .pointer (some ⟨g4, 0, none⟩)), (11, .pointer (some ⟨g11, 0, none⟩)), (12, .int .i64 s.1)]) (fun s => 16 - s.1) (0, zNs 16) ⟨Nat.zero_le _, M.fsub _ (by simp), hBF⟩ (by repeat (first | exact trivial | refine ⟨rfl, ?_⟩)) ?_
      clear M
      rintro ⟨h, xs⟩ E5 W5 ⟨hh, M, hbf⟩
      dsimp only at hh M hbf
      refine p_lt rfl rfl (fun hlt => ?_) (fun hge => ?_)
      · dsimp only at hlt
        have hlt' : h < 16 := by omega
        have hxl := (M.da 0 rfl).len
        rw [dNs_len, partK_len hh] at hxl
        refine evOps_nil ?_
        refine nx ?_
        refine ev_ift rfl ?_
        refine ev_skp ?_
        refine nx ?_
        refine ev_sq ?_
        refine ev_blk ?_
        refine ev_assoc ?_
        refine cutS (Option Addr × Nat × Nat × List Value) (fun s W => St w gs W [(g11, 28, ncs (.mk 3 [] false [] (noneNs 16) []) none 0 none 0 (some ⟨gk, 0, none⟩) 16 none 0), (gk, 28, xs), (g4, 28, zN)] [⟨58, 5, s.1, s.2.1, s.2.2.1, s.2.2.2⟩] [.dat false (dIs (groupA L0 at_ h)) s.2.2.2, .dat false (dNs (partK f h)) xs, .dat false [dIl L0] [.slice A m c]] ∧ s.2.1 = (groupA L0 at_ h).length)
          (fun s => [(0, .slice A m c), (1, .int .i64 at_), (4, .pointer (some ⟨g4, 0, none⟩)), (11, .pointer (some ⟨g11, 0, none⟩)), (12, .int .i64 h), (13, .slice s.1 s.2.1 s.2.2.1)]) ?_ ?_
        · replace M := (M.nilR 58 5).addT (fr := false) (ds := dIs []) (cs := []) RdL.nil_
          obtain ⟨p, hp⟩ : ∃ p : It → Bool, p = fun x => decide (at_ < x.path.length ∧ (x.path.getD at_ 0).toNat = h) := ⟨_, rfl⟩
          have hgA : groupA L0 at_ h = L0.filter p := by rw [hp]; rfl
          rw [hgA]
          refine lp (Nat × Option Addr × Nat × Nat × List Value) (fun s W => s.1 ≤ L0.length ∧ St w gs W [(g11, 28, ncs (.mk 3 [] false [] (noneNs 16) []) none 0 none 0 (some ⟨gk, 0, none⟩) 16 none 0), (gk, 28, xs), (g4, 28, zN)] [⟨58, 5, s.2.1, s.2.2.1, s.2.2.2.1, s.2.2.2.2⟩] [.dat false (dIs ((L0.take s.1).filter p)) s.2.2.2.2, .dat false (dNs (partK f h)) xs, .dat false [dIl L0] [.slice A m c]] ∧ s.2.2.1 = ((L0.take s.1).filter p).length)
            (fun s => [(0, .slice A m c), (1, .int .i64 at_), (4, .pointer (some ⟨g4, 0, none⟩)), (11, .pointer (some ⟨g11, 0, none⟩)), (12, .int .i64 h), (13, .slice s.2.1 s.2.2.1 s.2.2.2.1), (14, .int .i64 s.1)]) (fun s => L0.length - s.1) (0, none, 0, 0, []) ⟨Nat.zero_le _, M.fsub _ (by simp [dIs]), rfl⟩ (by repeat (first | exact trivial | refine ⟨rfl, ?_⟩)) ?_
          clear M
          rintro ⟨i, A7, n7, c7, xs7⟩ E7 W7 ⟨hi, M, hn7⟩
          dsimp only at hi M hn7
          refine p_len sli rfl ?_
          refine p_lt rfl rfl (fun hlt2 => ?_) (fun hge2 => ?_)
          · dsimp only at hlt2
            obtain ⟨y, hyi⟩ : ∃ y, L0[i]? = some y := ⟨_, List.getElem?_eq_getElem (by omega)⟩
            have hyb := hb2 y (List.mem_of_getElem? hyi)
            have hya := (hat y (List.mem_of_getElem? hyi)).1
            have hft := filter_take (p := p) hyi
            have hfl : ((L0.take i).filter p).length ≤ 10000000 := Nat.le_trans (List.length_filter_le _ _) (by rw [List.length_take]; omega)
            obtain ⟨b, off, Ap, cp, Av, cv, Ah, ch, rfl, M'⟩ := M.item (i := i) (by first | with_reducible exact M.d1_0 | with_reducible exact M.d1_1 | with_reducible exact M.d1_2 | with_reducible exact M.d1_3 | with_reducible exact M.d1_4 | with_reducible exact M.d1_5 | with_reducible exact M.d1_6 | with_reducible exact M.d1_7 | with_reducible exact M.d1_8 | with_reducible exact M.d1_9 | with_reducible exact M.d1_10 | with_reducible exact M.d1_11) hyi
            replace M := M'; clear M'
            refine p_at sli rfl rfl rfl (by omega) ?_
            refine p_fld fI0 rfl ?_
            refine v_load agg_b rfl (by first | exact (M.B 0 rfl).at_ rfl | exact (M.B 1 rfl).at_ rfl | exact (M.B 2 rfl).at_ rfl | exact (M.B 3 rfl).at_ rfl | exact (M.B 4 rfl).at_ rfl | exact M.lc 0 rfl _ _ rfl | exact M.lc 1 rfl _ _ rfl | exact M.lc 2 rfl _ _ rfl | exact M.lc 3 rfl _ _ rfl | exact M.lc 4 rfl _ _ rfl | exact M.lc 5 rfl _ _ rfl | exact M.lc 6 rfl _ _ rfl | exact M.lc 7 rfl _ _ rfl) ?_
            refine p_len slb rfl ?_
            refine p_gt rfl rfl (fun hgt => ?_) (fun hgt => ?_)
            · refine p_at sli rfl rfl rfl (by omega) ?_
              refine p_fld fI0 rfl ?_
              refine v_load agg_b rfl (by first | exact (M.B 0 rfl).at_ rfl | exact (M.B 1 rfl).at_ rfl | exact (M.B 2 rfl).at_ rfl | exact (M.B 3 rfl).at_ rfl | exact (M.B 4 rfl).at_ rfl | exact M.lc 0 rfl _ _ rfl | exact M.lc 1 rfl _ _ rfl | exact M.lc 2 rfl _ _ rfl | exact M.lc 3 rfl _ _ rfl | exact M.lc 4 rfl _ _ rfl | exact M.lc 5 rfl _ _ rfl | exact M.lc 6 rfl _ _ rfl | exact M.lc 7 rfl _ _ rfl) ?_
              obtain ⟨b2, o2, eA, hcx⟩ := (M.rdb 2 rfl).2.2.at_ (k := at_) (by omega)
              have e8 : at8 y.path at_ = ((y.path.getD at_ 0).toNat : Int) := rfl
              rw [e8] at hcx
              refine p_at (i := at_) slb (by show (Value.slice Ap y.path.length cp) = _; rw [eA]) rfl rfl (by omega) ?_
              refine v_load agg_by' rfl (by rw [Addr.add_lit, Nat.mul_one]; exact hcx) ?_
              refine v_cvt u_u8s u_int' rfl (w64 (by have := (y.path.getD at_ 0).toNat_lt; omega)) ?_
              refine p_eq rfl rfl (fun he => ?_) (fun he => ?_)
              · have hpy : p y = true := by rw [hp]; exact decide_eq_true ⟨by omega, by omega⟩
                rw [if_pos hpy] at hft
                refine p_at sli rfl rfl rfl (by omega) ?_
                refine v_loadN (ics y Ap cp Av cv Ah ch) agg_it rfl rfl (by first | exact M.run 0 rfl | exact M.run 1 rfl | exact M.run 2 rfl | exact M.run 3 rfl | exact M.run 4 rfl | exact M.lc 0 rfl | exact M.lc 1 rfl | exact M.lc 2 rfl | exact M.lc 3 rfl | exact M.lc 4 rfl | exact M.lc 5 rfl | exact M.lc 6 rfl | exact M.lc 7 rfl) ?_
                refine s_bsliceB (ics y Ap cp Av cv Ah ch) M sli z_it rfl (by decide) rfl ?_
                clear M; rintro g9 W M
                refine s_app M Tryd.underlying52 itinfo rfl (by decide) rfl rfl (Reads.blk (M.B 0 rfl) rfl) (all1 rfl) ⟨by omega, by decide⟩ ?_
                clear M; rintro A9 c9 W M -
                have hX := (M.dw 5 rfl).app (M.dw 1 rfl)
                rw [show dI y = dIs [y] by unfold dIs; simp, ← dIs_app, ← hft] at hX
                refine p_addN (b := 1) rfl rfl (by omega) ?_
                exact ⟨(i + 1, A9, n7 + 1, c9, xs7 ++ ics y Ap cp Av cv Ah ch), ⟨by dsimp only; omega, (M.addT hX).dropL.fsub _ (by simp), by dsimp only; rw [hft, List.length_append, hn7]; rfl⟩, (by repeat (first | exact trivial | refine ⟨rfl, ?_⟩)), by dsimp only; omega⟩
              ·
                rw [if_neg (fun h => by rw [hp] at h; have := of_decide_eq_true h; omega), List.append_nil] at hft
                refine p_addN (b := 1) rfl rfl (by omega) ?_
                exact ⟨(i + 1, A7, n7, c7, xs7), ⟨by dsimp only; omega, by dsimp only; rw [hft]; exact M.fsub _ (by simp), by dsimp only; rw [hft]; exact hn7⟩, (by repeat (first | exact trivial | refine ⟨rfl, ?_⟩)), by dsimp only; omega⟩
            ·
              rw [if_neg (fun h => by rw [hp] at h; have := of_decide_eq_true h; omega), List.append_nil] at hft
              refine p_addN (b := 1) rfl rfl (by omega) ?_
              exact ⟨(i + 1, A7, n7, c7, xs7), ⟨by dsimp only; omega, by dsimp only; rw [hft]; exact M.fsub _ (by simp), by dsimp only; rw [hft]; exact hn7⟩, (by repeat (first | exact trivial | refine ⟨rfl, ?_⟩)), by dsimp only; omega⟩
          · dsimp only at hge2
            rw [List.take_of_length_le (by omega)] at M hn7
            exact ⟨(A7, n7, c7, xs7), ⟨M, hn7⟩, (by repeat (first | exact trivial | refine ⟨rfl, ?_⟩))⟩
        · clear M
          rintro ⟨A7, n7, c7, xs7⟩ B7 W7 ⟨M, hn7⟩
          dsimp only at M hn7
          subst hn7
          have hgm : ∀ y ∈ groupA L0 at_ h, y ∈ L0 ∧ at_ < y.path.length := fun y hy => by
            unfold groupA at hy
            obtain ⟨h1, h2⟩ := List.mem_filter.1 hy
            exact ⟨h1, (of_decide_eq_true h2).1⟩
          have hgb : itBig (groupA L0 at_ h) := ⟨Nat.le_trans (List.length_filter_le _ _) hb1, fun y hy => hb2 y (hgm y hy).1⟩
          replace M := M.frzR (fr := false) (M.dt 0 rfl)
          refine p_addN (b := 1) rfl rfl (by have := (hat x (by rw [hL0]; simp)).1; have := (hb2 x (by rw [hL0]; simp)).1; omega) ?_
          refine cc is_build (ih (groupA L0 at_ h) (at_ + 1) _ _ _ _ c7 (M.d1 0 rfl) M.olt (fun y hy => ⟨(hgm y hy).2, by have := (hat y (hgm y hy).1).2; omega⟩) hgb) ?_
          rw [show buildA n (groupA L0 at_ h) (at_ + 1) = f h by rw [hf]]
          rintro e W ⟨cs5, Am, nm, cm, rfl, hres, hm5, hbel⟩
          replace M := ((M.call hbel).addD hm5).addL hres
          clear hbel hm5 hres
          refine ⟨_, rfl, ?_⟩
          obtain ⟨Ap5, cp5, Av5, cv5, Ak5, ck5, Ah5, ch5, rfl, -⟩ := (M.da 0 rfl).node
          refine s_alloc (zN) M al_nd ?_
          clear M
          rintro g15 W M
          first | refine s_storeA 0 (ncs (f h).1 Ap5 cp5 Av5 cv5 Ak5 ck5 Ah5 ch5) M rfl (by kernel_rfl) rfl rfl rfl (all1 rfl) rfl ?_ | refine s_storeA 1 (ncs (f h).1 Ap5 cp5 Av5 cv5 Ak5 ck5 Ah5 ch5) M rfl (by kernel_rfl) rfl rfl rfl (all1 rfl) rfl ?_ | refine s_storeA 2 (ncs (f h).1 Ap5 cp5 Av5 cv5 Ak5 ck5 Ah5 ch5) M rfl (by kernel_rfl) rfl rfl rfl (all1 rfl) rfl ?_ | refine s_storeA 3 (ncs (f h).1 Ap5 cp5 Av5 cv5 Ak5 ck5 Ah5 ch5) M rfl (by kernel_rfl) rfl rfl rfl (all1 rfl) rfl ?_
          clear M
          rintro W M
          dsimp only [setL] at M
          rw [show 16 - h = (16 - (h + 1)) + 1 by omega] at hbf
          unfold badF at hbf
          cases hbad : (f h).2 with
          | some mm =>
            rw [hbad] at hbf M
            refine p_build (vs := zN) pl_nd z_nd rfl ?_
            refine s_storeA 3 zN M rfl sz_nd rfl rfl rfl (all1 rfl) rfl ?_
            clear M; rintro W M
            dsimp only [setL] at M
            refine c_loadN zN agg_nd rfl rfl (M.run 3 rfl) ?_
            rw [hbf]
            exact ⟨zN, Am, nm, cm, rfl, RdL.znone, M.fin1 1 rfl, M.below⟩
          | none =>
            rw [hbad] at hbf M
            refine p_fld fN4 rfl ?_
            refine v_load agg_ns rfl (by first | exact (M.B 0 rfl).at_ rfl | exact (M.B 1 rfl).at_ rfl | exact (M.B 2 rfl).at_ rfl | exact (M.B 3 rfl).at_ rfl | exact (M.B 4 rfl).at_ rfl | exact M.lc 0 rfl _ _ rfl | exact M.lc 1 rfl _ _ rfl | exact M.lc 2 rfl _ _ rfl | exact M.lc 3 rfl _ _ rfl | exact M.lc 4 rfl _ _ rfl | exact M.lc 5 rfl _ _ rfl | exact M.lc 6 rfl _ _ rfl | exact M.lc 7 rfl _ _ rfl) ?_
            refine v_loadN (ncs (f h).1 Ap5 cp5 Av5 cv5 Ak5 ck5 Ah5 ch5) agg_nd rfl rfl (by first | exact M.run 0 rfl | exact M.run 1 rfl | exact M.run 2 rfl | exact M.run 3 rfl | exact M.run 4 rfl | exact M.lc 0 rfl | exact M.lc 1 rfl | exact M.lc 2 rfl | exact M.lc 3 rfl | exact M.lc 4 rfl | exact M.lc 5 rfl | exact M.lc 6 rfl | exact M.lc 7 rfl) ?_
            refine p_atL (i := h) (q := h * 6) sln rfl rfl rfl (by show h < (noneNs 16).length; rw [noneNs_len]; exact hlt') (by omega) ?_
            refine s_storeP 2 (n := 6) (off := h * 6) (ncs (f h).1 Ap5 cp5 Av5 cv5 Ak5 ck5 Ah5 ch5) _ M rfl sz_nd rfl rfl rfl (all1 rfl) (by rw [hxl]; omega) rfl ?_
            clear M; rintro W M
            dsimp only [setL] at M
            have hX := M.dw 4 rfl
            have hX2 := ((hX.take (h * 6)).app (M.dw 0 rfl)).app (hX.drop (h * 6 + 6))
            rw [← dNs_set _ (by rw [partK_len hh]; exact hlt'), partK_set hlt'] at hX2
            refine p_addN (b := 1) rfl rfl (by omega) ?_
            exact ⟨(h + 1, _), ⟨by dsimp only; omega, (M.addT hX2).dropL.fsub _ (by simp), hbf⟩, (by repeat (first | exact trivial | refine ⟨rfl, ?_⟩)), by dsimp only; omega⟩
      · dsimp only at hge
        have h16 : h = 16 := by omega
        subst h16
        rw [partK_16] at M
        rw [e16 16 (Nat.le_refl _), partK_16] at M
        exact ⟨(g11, gk, xs), ⟨M, by rw [hbf]; rfl⟩, (by repeat (first | exact trivial | refine ⟨rfl, ?_⟩))⟩
    · clear M
      rintro ⟨g11, gk, xs⟩ B5 W5 ⟨M, hbf⟩
      dsimp only at M
      rw [hbf]
      dsimp only
      have hk16 : (kidsF f).length = 16 := by unfold kidsF; simp
      refine cutS (Option Addr × Nat) (fun s W => St w gs W [(g11, 28, ncs (.mk 3 [] (lastV L0 at_).1 (lastV L0 at_).2 (kidsF f) []) none 0 s.1 s.2 (some ⟨gk, 0, none⟩) 16 none 0), (gk, 28, xs), (g4, 28, zN)] [] [.dat false [dB (lastV L0 at_).2] [.slice s.1 (lastV L0 at_).2.length s.2], .dat false (dNs (kidsF f)) xs])
        (fun s => [(4, .pointer (some ⟨g4, 0, none⟩)), (11, .pointer (some ⟨g11, 0, none⟩))]) ?_ ?_
      · replace M := M.addD (d := dB []) (u := .slice none 0 0) (RdD.nil_ _ _)
        refine lp (Nat × Option Addr × Nat) (fun s W => s.1 ≤ L0.length ∧ St w gs W [(g11, 28, ncs (.mk 3 [] (lastV (L0.take s.1) at_).1 (lastV (L0.take s.1) at_).2 (kidsF f) []) none 0 s.2.1 s.2.2 (some ⟨gk, 0, none⟩) 16 none 0), (gk, 28, xs), (g4, 28, zN)] [] [.dat false [dB (lastV (L0.take s.1) at_).2] [.slice s.2.1 (lastV (L0.take s.1) at_).2.length s.2.2], .dat false (dNs (kidsF f)) xs, .dat false [dIl L0] [.slice A m c]])
          (fun s => [(0, .slice A m c), (1, .int .i64 at_), (4, .pointer (some ⟨g4, 0, none⟩)), (11, .pointer (some ⟨g11, 0, none⟩)), (18, .int .i64 s.1)]) (fun s => L0.length - s.1) (0, none, 0) ⟨Nat.zero_le _, M.fsub _ (by simp [lastV])⟩ (by repeat (first | exact trivial | refine ⟨rfl, ?_⟩)) ?_
        clear M
        rintro ⟨i, Av, cv⟩ E7 W7 ⟨hi, M⟩
        dsimp only at hi M
        refine p_len sli rfl ?_
        refine p_lt rfl rfl (fun hlt2 => ?_) (fun hge2 => ?_)
        · dsimp only at hlt2
          obtain ⟨y, hyi⟩ : ∃ y, L0[i]? = some y := ⟨_, List.getElem?_eq_getElem (by omega)⟩
          have hyb := hb2 y (List.mem_of_getElem? hyi)
          have hlv := lastV_take (at_ := at_) hyi
          obtain ⟨b, off, Ap, cp, Av2, cv2, Ah, ch, rfl, M'⟩ := M.item (i := i) (M.d1 2 rfl) hyi
          replace M := M'; clear M'
          refine p_at sli rfl rfl rfl (by omega) ?_
          refine p_fld fI0 rfl ?_
          refine v_load agg_b rfl (by first | exact (M.B 0 rfl).at_ rfl | exact (M.B 1 rfl).at_ rfl | exact (M.B 2 rfl).at_ rfl | exact (M.B 3 rfl).at_ rfl | exact (M.B 4 rfl).at_ rfl | exact M.lc 0 rfl _ _ rfl | exact M.lc 1 rfl _ _ rfl | exact M.lc 2 rfl _ _ rfl | exact M.lc 3 rfl _ _ rfl | exact M.lc 4 rfl _ _ rfl | exact M.lc 5 rfl _ _ rfl | exact M.lc 6 rfl _ _ rfl | exact M.lc 7 rfl _ _ rfl) ?_
          refine p_len slb rfl ?_
          refine p_eq rfl rfl (fun he => ?_) (fun he => ?_)
          · rw [if_pos (by omega)] at hlv
            refine p_fld fN2 rfl ?_
            first | refine s_set 0 (.bool true) (ncs (.mk 3 [] true (lastV (L0.take i) at_).2 (kidsF f) []) none 0 Av cv (some ⟨gk, 0, none⟩) 16 none 0) M rfl (by kernel_rfl) rfl rfl rfl (Nat.le_of_ble_eq_true rfl) rfl ?_ | refine s_set 1 (.bool true) (ncs (.mk 3 [] true (lastV (L0.take i) at_).2 (kidsF f) []) none 0 Av cv (some ⟨gk, 0, none⟩) 16 none 0) M rfl (by kernel_rfl) rfl rfl rfl (Nat.le_of_ble_eq_true rfl) rfl ?_ | refine s_set 2 (.bool true) (ncs (.mk 3 [] true (lastV (L0.take i) at_).2 (kidsF f) []) none 0 Av cv (some ⟨gk, 0, none⟩) 16 none 0) M rfl (by kernel_rfl) rfl rfl rfl (Nat.le_of_ble_eq_true rfl) rfl ?_ | refine s_set 3 (.bool true) (ncs (.mk 3 [] true (lastV (L0.take i) at_).2 (kidsF f) []) none 0 Av cv (some ⟨gk, 0, none⟩) 16 none 0) M rfl (by kernel_rfl) rfl rfl rfl (Nat.le_of_ble_eq_true rfl) rfl ?_
            clear M
            rintro W M
            dsimp only [setL] at M
            refine p_at sli rfl rfl rfl (by omega) ?_
            refine p_fld fI1 rfl ?_
            refine v_load agg_b rfl (by first | exact (M.B 0 rfl).at_ rfl | exact (M.B 1 rfl).at_ rfl | exact (M.B 2 rfl).at_ rfl | exact (M.B 3 rfl).at_ rfl | exact (M.B 4 rfl).at_ rfl | exact M.lc 0 rfl _ _ rfl | exact M.lc 1 rfl _ _ rfl | exact M.lc 2 rfl _ _ rfl | exact M.lc 3 rfl _ _ rfl | exact M.lc 4 rfl _ _ rfl | exact M.lc 5 rfl _ _ rfl | exact M.lc 6 rfl _ _ rfl | exact M.lc 7 rfl _ _ rfl) ?_
            refine cc is_copy0 (copy_any _ _ _ y.val _ (M.rdb 3 rfl).2.2 (by omega)) ?_
            rintro e W ⟨A6, c6, rfl, o6, hbel⟩
            replace M := M.callO hbel o6
            refine ⟨_, rfl, ?_⟩
            refine p_fld fN3 rfl ?_
            first | refine s_set 0 (.slice A6 y.val.length c6) (ncs (.mk 3 [] true y.val (kidsF f) []) none 0 A6 c6 (some ⟨gk, 0, none⟩) 16 none 0) M rfl (by kernel_rfl) rfl rfl rfl (Nat.le_of_ble_eq_true rfl) rfl ?_ | refine s_set 1 (.slice A6 y.val.length c6) (ncs (.mk 3 [] true y.val (kidsF f) []) none 0 A6 c6 (some ⟨gk, 0, none⟩) 16 none 0) M rfl (by kernel_rfl) rfl rfl rfl (Nat.le_of_ble_eq_true rfl) rfl ?_ | refine s_set 2 (.slice A6 y.val.length c6) (ncs (.mk 3 [] true y.val (kidsF f) []) none 0 A6 c6 (some ⟨gk, 0, none⟩) 16 none 0) M rfl (by kernel_rfl) rfl rfl rfl (Nat.le_of_ble_eq_true rfl) rfl ?_ | refine s_set 3 (.slice A6 y.val.length c6) (ncs (.mk 3 [] true y.val (kidsF f) []) none 0 A6 c6 (some ⟨gk, 0, none⟩) 16 none 0) M rfl (by kernel_rfl) rfl rfl rfl (Nat.le_of_ble_eq_true rfl) rfl ?_
            clear M
            rintro W M
            dsimp only [setL] at M
            refine p_addN (b := 1) rfl rfl (by omega) ?_
            exact ⟨(i + 1, A6, c6), ⟨by dsimp only; omega, by dsimp only; rw [hlv]; exact (M.addD (M.d1 0 rfl)).fsub _ (by simp)⟩, (by repeat (first | exact trivial | refine ⟨rfl, ?_⟩)), by dsimp only; omega⟩
          · rw [if_neg (by omega)] at hlv
            refine p_addN (b := 1) rfl rfl (by omega) ?_
            exact ⟨(i + 1, Av, cv), ⟨by dsimp only; omega, by dsimp only; rw [hlv]; exact M.fsub _ (by simp)⟩, (by repeat (first | exact trivial | refine ⟨rfl, ?_⟩)), by dsimp only; omega⟩
        · dsimp only at hge2
          rw [List.take_of_length_le (by omega)] at M
          exact ⟨(Av, cv), M.fsub _ (by simp), (by repeat (first | exact trivial | refine ⟨rfl, ?_⟩))⟩
      · clear M
        rintro ⟨Av, cv⟩ B8 W8 M
        dsimp only at M
        refine v_loadN (ncs (.mk 3 [] (lastV L0 at_).1 (lastV L0 at_).2 (kidsF f) []) none 0 Av cv (some ⟨gk, 0, none⟩) 16 none 0) agg_nd rfl rfl (by first | exact M.run 0 rfl | exact M.run 1 rfl | exact M.run 2 rfl | exact M.run 3 rfl | exact M.run 4 rfl | exact M.lc 0 rfl | exact M.lc 1 rfl | exact M.lc 2 rfl | exact M.lc 3 rfl | exact M.lc 4 rfl | exact M.lc 5 rfl | exact M.lc 6 rfl | exact M.lc 7 rfl) ?_
        refine s_storeA 2 (ncs (.mk 3 [] (lastV L0 at_).1 (lastV L0 at_).2 (kidsF f) []) none 0 Av cv (some ⟨gk, 0, none⟩) 16 none 0) M rfl sz_nd rfl rfl rfl (all1 rfl) rfl ?_
        clear M; rintro W M
        dsimp only [setL] at M
        refine c_loadN (ncs (.mk 3 [] (lastV L0 at_).1 (lastV L0 at_).2 (kidsF f) []) none 0 Av cv (some ⟨gk, 0, none⟩) 16 none 0) agg_nd rfl rfl (M.run 2 rfl) ?_
        replace M := M.swp.frzB (s := 6) (n := (kidsF f).length) (c := 16) (ds := dNs (kidsF f)) (M.swp.dw 1 rfl) (dNs_len _) (by omega)
        refine ⟨_, none, 0, 0, rfl, RdL.ofnode (t := .mk 3 [] (lastV L0 at_).1 (lastV L0 at_).2 (kidsF f) []) (cp := 0) (Ap := none) (ch := 0) (Ah := none) (RdD.nil_ _ _) (M.fin1 1 rfl) (M.fin1 0 rfl) (RdD.nil_ _ _), RdD.nil_ _ _, M.below⟩
set_option maxRecDepth 100000 in
theorem build_any : ∀ n : Nat, BuildOk n
  | 0 => fun l at_ gs w A m c hr hgs hat hb => by
    have h0 : l = [] := by
      cases l with
      | nil => rfl
      | cons x r => have := hat x (by simp); omega
    subst h0
    have en := hr.slen
    refine calls_ev (args := [.slice A m c, .int .i64 at_]) mixed Tryd.func23 rfl (by kernel_rfl) ?_
    have M := (St.start hgs).addD hr
    refine s_alloc (zN) M al_nd ?_
    clear M
    rintro g4 W M
    refine p_len sli rfl ?_
    refine p_eq rfl rfl (fun h0 => ?_) (fun h0 => absurd (by rw [en]; rfl) h0)
    refine p_build (vs := zN) pl_nd z_nd rfl ?_
    first | refine s_storeA 0 (zN) M rfl (by kernel_rfl) rfl rfl rfl (all1 rfl) rfl ?_ | refine s_storeA 1 (zN) M rfl (by kernel_rfl) rfl rfl rfl (all1 rfl) rfl ?_ | refine s_storeA 2 (zN) M rfl (by kernel_rfl) rfl rfl rfl (all1 rfl) rfl ?_ | refine s_storeA 3 (zN) M rfl (by kernel_rfl) rfl rfl rfl (all1 rfl) rfl ?_
    clear M
    rintro W M
    dsimp only [setL] at M
    refine c_loadN (zN) agg_nd rfl rfl (by first | exact M.run 0 rfl | exact M.run 1 rfl | exact M.run 2 rfl | exact M.run 3 rfl | exact M.run 4 rfl | exact M.lc 0 rfl | exact M.lc 1 rfl | exact M.lc 2 rfl | exact M.lc 3 rfl | exact M.lc 4 rfl | exact M.lc 5 rfl | exact M.lc 6 rfl | exact M.lc 7 rfl) ?_
    exact ⟨zN, none, 0, 0, rfl, RdL.znone, RdD.nil_ _ _, M.below⟩
  | n + 1 => build_step n (build_any n)
end Go.Proofs.YtdlljmmgkoeilaaDoor
