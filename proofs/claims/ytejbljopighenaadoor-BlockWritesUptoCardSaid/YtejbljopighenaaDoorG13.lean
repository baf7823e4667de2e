/- Package txn: sameRow, Same; reference 19: Same; reference 20: Same, SameAll. Reference 20: Encode, number, Decode. -/
import Derived.Test.YtejbljopighenaaDoorG12
import Derived.Test.YtejbljopighenaaDoorG08
import Derived.Test.YtejbljopighenaaDoorG10
import Derived.Test.YtejbljopighenaaDoorG09
namespace Go.Proofs.YtejbljopighenaaDoor
open Go.RowKit
section
variable {E : Env} {d : Option Nat} {ty : TypeId} {p : String} {af : Array Edge} {g : Option (Nat × Bool)} {x y : Operand} {u : TypeId} {k : Value → Prop}
set_option maxRecDepth 100000 in
theorem p_vne {a b : Val} (hx : val E x = vv_ a) (hy : val E y = vv_ b) (h1 : a = b → k (.bool false)) (h2 : ¬ a = b → k (.bool true)) : VPure Tryd.prog E { dst := d, op := .binOp .neq 61 x y u, type := ty, pos := p, after := af, guard := g } k := by
  refine pp (v := .bool (!decide (a = b))) (fun w => ?_) ?_
  · have hv := run_veq a b w
    have hg := run_eqGuard_agg (P := Tryd.prog) w .neq 61 x y (vc a).toArray (vc b).toArray eg_val
    have hb := run_neq_struct (P := Tryd.prog) w 61 (vc a).toArray (vc b).toArray
    unfold vv_ at hx hy hv
    simp only [execOp, hx, hy, Sem.run_bind, hg, Result.andThen_ok, hb, hv, Sem.run_pure]
    congr 4
    rw [Bool.eq_iff_iff]; simp [Val.ext_iff']
  · by_cases h : a = b
    · rw [decide_eq_true h]; exact h1 h
    · rw [decide_eq_false h]; exact h2 h
end
section
variable {w W : World} {gs : List (Option Nat)} {L : Lc} {R : List Row} {fs : List Fact}
theorem dRow_flat (l : List Val) : dRow l = .sl 3 l.length (l.flatMap fun v => (vc v).map D.v) := by unfold dRow vcs; rw [List.map_flatMap]
theorem dRows_flat (ll : List (List Val)) : dRows ll = .sl 1 ll.length (ll.flatMap fun l => [dRow l]) := by unfold dRows; rw [List.map_eq_flatMap]
/-- A value of a row. -/
theorem St.valu (M : St w gs W L R fs) {l : List Val} {A : Option Addr} {n c i : Nat} {v : Val} (h : RdD W (Fd W (own L R gs)) (dRow l) (.slice A n c)) (hi : l[i]? = some v) :
    ∃ b off, A = some ⟨b, off, none⟩ ∧ St w gs W L R (.loc ((⟨b, off, none⟩ : Addr).add (i * 3)) (vc v) :: fs) := by
  rw [dRow_flat] at h
  obtain ⟨b, off, es, e, hF, hes, hel, hc⟩ := RdD.eltO (fun v => (vc v).map D.v) 3 (fun _ => rfl) h hi
  have := hes.vals
  subst this
  exact ⟨b, off, e, M.addC (by rw [block_of_add]; exact hF) hc⟩
theorem slos : slOf Tryd.prog 24 = some (55, 3) := by kernel_rfl
/-- A result, an outcome of a row of these. -/
theorem St.resE (M : St w gs W L R fs) {l : List Res} {A : Option Addr} {n c i : Nat} {r : Res} (h : RdD W (Fd W (own L R gs)) (dRs l) (.slice A n c)) (hi : l[i]? = some r) :
    ∃ b off es, A = some ⟨b, off, none⟩ ∧ St w gs W L R (.loc ((⟨b, off, none⟩ : Addr).add (i * 2)) es :: .dat false (dRes r) es :: fs) := by
  obtain ⟨b, off, es, e, hF, hes, hel, hc⟩ := RdD.eltO dRes 2 dRes_len h hi
  exact ⟨b, off, es, e, (M.addL hes).addC (by rw [block_of_add]; exact hF) hc⟩
theorem St.oute (M : St w gs W L R fs) {l : List Out} {A : Option Addr} {n c i : Nat} {o : Out} (h : RdD W (Fd W (own L R gs)) (dOuts l) (.slice A n c)) (hi : l[i]? = some o) :
    ∃ b off es, A = some ⟨b, off, none⟩ ∧ St w gs W L R (.loc ((⟨b, off, none⟩ : Addr).add (i * 3)) es :: .dat false (dOut o) es :: fs) := by
  obtain ⟨b, off, es, e, hF, hes, hel, hc⟩ := RdD.eltO dOut 3 dOut_len h hi
  exact ⟨b, off, es, e, (M.addL hes).addC (by rw [block_of_add]; exact hF) hc⟩
/-- A row of rows. -/
theorem St.rowe (M : St w gs W L R fs) {ll : List (List Val)} {A : Option Addr} {n c i : Nat} {l : List Val} (h : RdD W (Fd W (own L R gs)) (dRows ll) (.slice A n c)) (hi : ll[i]? = some l) :
    ∃ b off A' c', A = some ⟨b, off, none⟩ ∧ St w gs W L R (.loc ((⟨b, off, none⟩ : Addr).add (i * 1)) [.slice A' l.length c'] :: .dat false [dRow l] [.slice A' l.length c'] :: fs) := by
  rw [dRows_flat] at h
  obtain ⟨b, off, es, e, hF, hes, hel, hc⟩ := RdD.eltO (fun l => [dRow l]) 1 (fun _ => rfl) h hi
  obtain ⟨u, us, rfl, h1, h2⟩ := hes.uncons
  rw [h2.isnil] at hc
  obtain ⟨A', c', e2, -⟩ := h1.open_
  subst e2
  exact ⟨b, off, A', c', e, (M.addD h1).addC (by rw [block_of_add]; exact hF) hc⟩
end
theorem is_xsr : isFn Tryd.prog 60 = true := by kernel_rfl
theorem take_ext {α : Type} {a b : List α} {i : Nat} {x y : α} (h : a.take i = b.take i) (ha : a[i]? = some x) (hb : b[i]? = some y) (he : x = y) : a.take (i + 1) = b.take (i + 1) := by rw [List.take_add_one, List.take_add_one, h, ha, hb, he]
theorem take_ne {α : Type} {a b : List α} {i : Nat} {x y : α} (ha : a[i]? = some x) (hb : b[i]? = some y) (he : x ≠ y) : a ≠ b := by rintro rfl; rw [ha] at hb; injection hb with hb; exact he hb
theorem agg_rowsl : aggOf Tryd.prog 59 = some (false, 1) := by kernel_rfl
set_option maxRecDepth 100000 in
set_option maxHeartbeats 2000000 in
theorem xsr_any (a b : List Val) (gs : List (Option Nat)) (w : World) (A B : Option Addr) (n c m d : Nat) (ha : RdD w (Fd w gs) (dRow a) (.slice A n c)) (hb : RdD w (Fd w gs) (dRow b) (.slice B m d)) (hgs : ∀ b, some b ∈ gs → b < w.heap.size) (hl : a.length ≤ 1000000000) :
    Calls Tryd.prog 60 #[.slice A n c, .slice B m d] w fun e w' => ∃ q : Bool, e = .returned (.bool q) ∧ (q = true ↔ a = b) ∧ Below w.heap.size w w' := by
  refine calls_ev (args := [.slice A n c, .slice B m d]) mixed Tryd.func60 rfl (by kernel_rfl) ?_
  have en : n = a.length := ha.slen
  have em : m = b.length := hb.slen
  subst en; subst em
  have M := ((St.start hgs).addD hb).addD ha
  clear ha hb
  refine p_len slv rfl ?_
  refine p_len slv rfl ?_
  refine p_ne rfl rfl (fun h => ?_) (fun h => ?_)
  rotate_left
  · exact ⟨false, rfl, ⟨(fun h => by cases h), fun e => absurd (by rw [e]) h⟩, M.below⟩
  have hlen : a.length = b.length := by have h : (a.length : Int) = (b.length : Int) := h; omega
  refine p_len slv rfl ?_
  refine lp Nat (fun i W => i ≤ a.length ∧ a.take i = b.take i ∧ St w gs W [] [] [.dat false [dRow a] [.slice A a.length c], .dat false [dRow b] [.slice B b.length d]]) (fun i => [(0, .slice A a.length c), (1, .slice B b.length d), (12, .int .i64 (a.length : Nat)), (13, .int .i64 i)]) (fun i => a.length - i) 0 ⟨Nat.zero_le _, rfl, M⟩ (by repeat (first | exact trivial | refine ⟨rfl, ?_⟩)) ?_
  clear M
  rintro i E W ⟨hi, ht, M⟩
  refine p_lt rfl rfl (fun hlt => ?_) (fun hge => ?_)
  rotate_left
  · have hi : i = a.length := by have h : ¬ (i : Int) < (a.length : Int) := hge; omega
    subst hi
    rw [List.take_of_length_le (Nat.le_refl _), List.take_of_length_le (by omega)] at ht
    exact ⟨true, rfl, ⟨fun _ => ht, fun _ => rfl⟩, M.below⟩
  have hlt : i < a.length := by have h : (i : Int) < (a.length : Int) := hlt; omega
  obtain ⟨u, hu⟩ : ∃ u, a[i]? = some u := ⟨_, List.getElem?_eq_getElem hlt⟩
  obtain ⟨v, hv⟩ : ∃ v, b[i]? = some v := ⟨_, List.getElem?_eq_getElem (by omega)⟩
  obtain ⟨b1, o1, rfl, M'⟩ := M.valu (M.d1 0 rfl) hu
  replace M := M'; clear M'
  obtain ⟨b2, o2, rfl, M'⟩ := M.valu (M.d1 2 rfl) hv
  replace M := M'.drew; clear M'
  refine drT (Kp w gs [] [.loc ((⟨b1, o1, none⟩ : Addr).add (i * 3)) (vc u), .loc ((⟨b2, o2, none⟩ : Addr).add (i * 3)) (vc v)]) (.take 0 (.take 1 (.take 2 (.take 3 (.take 4 (.take 5 (.take 6 (.take 7 (.take 8 (.nil)))))))))) (by kernel_rfl) (M.kp (by simp) (by simp)) ?_
  refine p_at (i := i) slv rfl rfl rfl hlt ?_
  refine t_loadN (vc u) agg_val rfl rfl (fun W K => K.lc 0 rfl) ?_
  refine p_at (i := i) slv rfl rfl rfl (by omega) ?_
  refine t_loadN (vc v) agg_val rfl rfl (fun W K => K.lc 1 rfl) ?_
  refine p_vne (a := u) (b := v) rfl rfl (fun he => ?_) (fun he => ?_)
  rotate_left
  · exact ⟨false, rfl, ⟨(fun h => by cases h), fun e => absurd e (take_ne hu hv he)⟩, M.below⟩
  refine p_addN (b := 1) rfl rfl (by omega) ?_
  exact ⟨i + 1, ⟨by omega, take_ext ht hu hv he, M.fsub _ (by simp)⟩, (by repeat (first | exact trivial | refine ⟨rfl, ?_⟩)), by omega⟩
theorem Res.ext' {a b : Res} (h1 : a.rows = b.rows) (h2 : a.n = b.n) : a = b := by cases a; cases b; simp only at h1 h2; rw [h1, h2]
theorem Out.ext' {a b : Out} (h1 : a.e = b.e) (h2 : a.at_ = b.at_) (h3 : a.l = b.l) : a = b := by cases a; cases b; simp only at h1 h2 h3; rw [h1, h2, h3]
theorem is_xSame : isFn Tryd.prog 43 = true := by kernel_rfl
theorem is_r19same : isFn Tryd.prog 69 = true := by kernel_rfl
theorem is_r20same : isFn Tryd.prog 59 = true := by kernel_rfl
theorem is_r20all : isFn Tryd.prog 41 = true := by kernel_rfl
theorem is_samerows : isFn Tryd.prog 78 = true := by kernel_rfl
/-- Not too many. -/
def LenO (o : Out) : Prop := o.l.length ≤ 1000000000 ∧ ∀ r ∈ o.l, r.rows.length ≤ 1000000000 ∧ ∀ l ∈ r.rows, l.length ≤ 1000000000
set_option maxRecDepth 100000 in
set_option maxHeartbeats 4000000 in
theorem xSame_any (a b : Out) (gs : List (Option Nat)) (w : World) (ca cb : List Value) (ha : RdL w (Fd w gs) (dOut a) ca) (hb : RdL w (Fd w gs) (dOut b) cb) (hgs : ∀ b, some b ∈ gs → b < w.heap.size) (hl : LenO a) :
    Calls Tryd.prog 43 #[.agg ca.toArray, .agg cb.toArray] w fun e w' => ∃ q : Bool, e = .returned (.bool q) ∧ (q = true ↔ a = b) ∧ Below w.heap.size w w' := by
  refine calls_ev (args := [.agg ca.toArray, .agg cb.toArray]) mixed Tryd.func43 rfl (by kernel_rfl) ?_
  obtain ⟨A, c, rfl, h1⟩ := ha.out
  obtain ⟨B, d, rfl, h2⟩ := hb.out
  have M := ((St.start hgs).addD h2).addD h1
  clear h1 h2 ha hb
  refine s_box (outcs a A c) M rfl ?_
  clear M
  rintro g2 W M
  refine s_box (outcs b B d) M rfl ?_
  clear M
  rintro g3 W M
  refine p_fld fO0 rfl ?_
  refine v_load agg_i rfl ((M.B 1 rfl).at_ rfl) ?_
  refine p_fld fO0 rfl ?_
  refine v_load agg_i rfl ((M.B 0 rfl).at_ rfl) ?_
  refine p_ne rfl rfl (fun e1 => ?_) (fun e1 => ?_)
  rotate_left
  · exact ⟨false, rfl, ⟨(fun h => by cases h), fun e => absurd (by rw [e]) e1⟩, M.below⟩
  refine p_fld fO1 rfl ?_
  refine v_load agg_i rfl ((M.B 1 rfl).at_ rfl) ?_
  refine p_fld fO1 rfl ?_
  refine v_load agg_i rfl ((M.B 0 rfl).at_ rfl) ?_
  refine p_ne rfl rfl (fun e2 => ?_) (fun e2 => ?_)
  rotate_left
  · exact ⟨false, rfl, ⟨(fun h => by cases h), fun e => absurd (by rw [e]) e2⟩, M.below⟩
  refine p_fld fO2 rfl ?_
  refine v_load agg_rs rfl ((M.B 1 rfl).at_ rfl) ?_
  refine p_len slrs rfl ?_
  refine p_fld fO2 rfl ?_
  refine v_load agg_rs rfl ((M.B 0 rfl).at_ rfl) ?_
  refine p_len slrs rfl ?_
  refine p_ne rfl rfl (fun e3 => ?_) (fun e3 => ?_)
  rotate_left
  · exact ⟨false, rfl, ⟨(fun h => by cases h), fun e => absurd (by rw [e]) e3⟩, M.below⟩
  have e1 : a.e = b.e := e1
  have e2 : a.at_ = b.at_ := e2
  have hlen : a.l.length = b.l.length := by have h : (a.l.length : Int) = (b.l.length : Int) := e3; omega
  obtain ⟨hl1, hl2⟩ := hl
  refine p_fld fO2 rfl ?_
  refine v_load agg_rs rfl ((M.B 1 rfl).at_ rfl) ?_
  refine p_len slrs rfl ?_
  refine lp Nat (fun i W => i ≤ a.l.length ∧ a.l.take i = b.l.take i ∧ St w gs W [(g3, 55, outcs b B d), (g2, 55, outcs a A c)] [] [.dat false [dRs a.l] [.slice A a.l.length c], .dat false [dRs b.l] [.slice B b.l.length d]]) (fun i => [(2, .pointer (some ⟨g2, 0, none⟩)), (3, .pointer (some ⟨g3, 0, none⟩)), (31, .slice A a.l.length c), (32, .int .i64 (a.l.length : Nat)), (33, .int .i64 i)]) (fun i => a.l.length - i) 0 ⟨Nat.zero_le _, rfl, M.fsub _ (by simp)⟩ (by repeat (first | exact trivial | refine ⟨rfl, ?_⟩)) ?_
  clear M
  rintro i E W ⟨hi, ht, M⟩
  refine p_lt rfl rfl (fun hlt => ?_) (fun hge => ?_)
  rotate_left
  · have hi : i = a.l.length := by have h : ¬ (i : Int) < (a.l.length : Int) := hge; omega
    subst hi
    rw [List.take_of_length_le (Nat.le_refl _), List.take_of_length_le (by omega)] at ht
    exact ⟨true, rfl, ⟨fun _ => Out.ext' e1 e2 ht, fun _ => rfl⟩, M.below⟩
  have hlt : i < a.l.length := by have h : (i : Int) < (a.l.length : Int) := hlt; omega
  obtain ⟨u, hu⟩ : ∃ u, a.l[i]? = some u := ⟨_, List.getElem?_eq_getElem hlt⟩
  obtain ⟨v, hv⟩ : ∃ v, b.l[i]? = some v := ⟨_, List.getElem?_eq_getElem (by omega)⟩
  have hlu := hl2 u (List.mem_of_getElem? hu)
  obtain ⟨b1, o1, Au, cu, rfl, M'⟩ := M.res (M.d1 0 rfl) hu
  replace M := M'; clear M'
  obtain ⟨b2, o2, Bv, dv, rfl, M'⟩ := M.res (M.d1 3 rfl) hv
  replace M := M'; clear M'
  refine p_at (i := i) slrs rfl rfl rfl hlt ?_
  refine v_loadN (rescs u Au cu) agg_res rfl rfl (M.lc 2 rfl) ?_
  refine s_alloc (zRes) M al_res ?_
  clear M
  rintro g6 W M
  refine s_storeA 0 (rescs u Au cu) M rfl sz_res rfl rfl rfl (all1 rfl) rfl ?_
  clear M; rintro W M
  dsimp only [setL] at M
  refine p_fld fO2 rfl ?_
  refine v_load agg_rs rfl ((M.B 1 rfl).at_ rfl) ?_
  refine p_at (i := i) slrs rfl rfl rfl (by omega) ?_
  refine v_loadN (rescs v Bv dv) agg_res rfl rfl (M.lc 0 rfl) ?_
  refine s_alloc (zRes) M al_res ?_
  clear M
  rintro g7 W M
  refine s_storeA 0 (rescs v Bv dv) M rfl sz_res rfl rfl rfl (all1 rfl) rfl ?_
  clear M; rintro W M
  dsimp only [setL] at M
  refine p_fld fR1 rfl ?_
  refine v_load agg_i rfl ((M.B 1 rfl).at_ rfl) ?_
  refine p_fld fR1 rfl ?_
  refine v_load agg_i rfl ((M.B 0 rfl).at_ rfl) ?_
  refine p_ne rfl rfl (fun e4 => ?_) (fun e4 => ?_)
  rotate_left
  · exact ⟨false, rfl, ⟨(fun h => by cases h), fun e => absurd (congrArg Out.l e) (take_ne hu hv (fun e => e4 (by rw [e])))⟩, M.below⟩
  refine p_fld fR0 rfl ?_
  refine v_load agg_vvs rfl ((M.B 1 rfl).at_ rfl) ?_
  refine p_len slvv rfl ?_
  refine p_fld fR0 rfl ?_
  refine v_load agg_vvs rfl ((M.B 0 rfl).at_ rfl) ?_
  refine p_len slvv rfl ?_
  refine p_ne rfl rfl (fun e5 => ?_) (fun e5 => ?_)
  rotate_left
  · exact ⟨false, rfl, ⟨(fun h => by cases h), fun e => absurd (congrArg Out.l e) (take_ne hu hv (fun e => e5 (by rw [e])))⟩, M.below⟩
  have e4 : u.n = v.n := e4
  have hlen2 : u.rows.length = v.rows.length := by have h : (u.rows.length : Int) = (v.rows.length : Int) := e5; omega
  refine p_fld fR0 rfl ?_
  refine v_load agg_vvs rfl ((M.B 1 rfl).at_ rfl) ?_
  refine p_len slvv rfl ?_
  refine lp Nat (fun k W => k ≤ u.rows.length ∧ u.rows.take k = v.rows.take k ∧ St w gs W [(g7, 58, rescs v Bv dv), (g6, 58, rescs u Au cu), (g3, 55, outcs b (some ⟨b2, o2, none⟩) d), (g2, 55, outcs a (some ⟨b1, o1, none⟩) c)] [] [.dat false [dRows u.rows] [.slice Au u.rows.length cu], .dat false [dRows v.rows] [.slice Bv v.rows.length dv], .dat false [dRs a.l] [.slice (some ⟨b1, o1, none⟩) a.l.length c], .dat false [dRs b.l] [.slice (some ⟨b2, o2, none⟩) b.l.length d]])
    (fun k => [(2, .pointer (some ⟨g2, 0, none⟩)), (3, .pointer (some ⟨g3, 0, none⟩)), (31, .slice (some ⟨b1, o1, none⟩) a.l.length c), (32, .int .i64 (a.l.length : Nat)), (33, .int .i64 i), (6, .pointer (some ⟨g6, 0, none⟩)), (7, .pointer (some ⟨g7, 0, none⟩)), (58, .slice Au u.rows.length cu), (59, .int .i64 (u.rows.length : Nat)), (60, .int .i64 k)]) (fun k => u.rows.length - k) 0 ⟨Nat.zero_le _, rfl, M.fsub _ (by simp)⟩ (by repeat (first | exact trivial | refine ⟨rfl, ?_⟩)) ?_
  clear M
  rintro k E W ⟨hk, htk, M⟩
  refine p_lt rfl rfl (fun hlt2 => ?_) (fun hge => ?_)
  rotate_left
  · have hk : k = u.rows.length := by have h : ¬ (k : Int) < (u.rows.length : Int) := hge; omega
    subst hk
    rw [List.take_of_length_le (Nat.le_refl _), List.take_of_length_le (by omega)] at htk
    refine p_addN (b := 1) rfl rfl (by omega) ?_
    exact ⟨i + 1, ⟨by omega, take_ext ht hu hv (Res.ext' htk e4), M.dropL.dropL.fsub _ (by simp)⟩, (by repeat (first | exact trivial | refine ⟨rfl, ?_⟩)), by omega⟩
  have hlt2 : k < u.rows.length := by have h : (k : Int) < (u.rows.length : Int) := hlt2; omega
  obtain ⟨x, hx⟩ : ∃ x, u.rows[k]? = some x := ⟨_, List.getElem?_eq_getElem hlt2⟩
  obtain ⟨y, hy⟩ : ∃ y, v.rows[k]? = some y := ⟨_, List.getElem?_eq_getElem (by omega)⟩
  obtain ⟨b3, o3, Ax, cx, rfl, M'⟩ := M.rowe (M.d1 0 rfl) hx
  replace M := M'; clear M'
  obtain ⟨b4, o4, Ay, cy, rfl, M'⟩ := M.rowe (M.d1 3 rfl) hy
  replace M := M'.drew; clear M'
  refine drT (Kp w gs [(g6, 58, rescs u (some ⟨b3, o3, none⟩) cu), (g7, 58, rescs v (some ⟨b4, o4, none⟩) dv)] [.loc ((⟨b3, o3, none⟩ : Addr).add (k * 1)) [.slice Ax x.length cx], .loc ((⟨b4, o4, none⟩ : Addr).add (k * 1)) [.slice Ay y.length cy]]) (.take 0 (.take 1 (.take 2 (.take 3 (.take 4 (.take 5 (.take 6 (.take 7 (.take 8 (.take 9 (.one 10 (.take 11 (.nil))))))))))))) (by kernel_rfl) (M.kp (by simp) (by simp)) ?_
  refine p_fld fR0 rfl ?_
  refine t_load agg_vvs rfl (fun W K => (K.B 0 rfl).at_ rfl) ?_
  refine p_at (i := k) slvv rfl rfl rfl hlt2 ?_
  refine t_load agg_rowsl rfl (fun W K => K.lc 0 rfl 0 _ rfl) ?_
  refine p_fld fR0 rfl ?_
  refine t_load agg_vvs rfl (fun W K => (K.B 1 rfl).at_ rfl) ?_
  refine p_at (i := k) slvv rfl rfl rfl (by omega) ?_
  refine t_load agg_rowsl rfl (fun W K => K.lc 1 rfl 0 _ rfl) ?_
  refine cc is_xsr (xsr_any x y _ _ _ _ _ _ _ _ (M.d1 3 rfl) (M.d1 1 rfl) M.olt (hlu.2 x (List.mem_of_getElem? hx))) ?_
  rintro e W ⟨q, rfl, hq, hb⟩
  replace M := M.call hb
  clear hb
  refine ⟨_, rfl, (M.kp (by simp) (by simp)), ?_⟩
  refine p_not rfl ?_
  cases q with
  | false =>
    refine ⟨false, rfl, ⟨(fun h => by cases h), fun e => absurd (congrArg Out.l e) (take_ne hu hv (fun e => ?_))⟩, M.below⟩
    exact absurd (congrArg Res.rows e) (take_ne hx hy (fun e => by have := hq.2 e; cases this))
  | true =>
  have hxy := hq.1 rfl
  refine p_addN (b := 1) rfl rfl (by omega) ?_
  exact ⟨k + 1, ⟨by omega, take_ext htk hx hy hxy, M.fsub _ (by simp)⟩, (by repeat (first | exact trivial | refine ⟨rfl, ?_⟩)), by omega⟩
set_option maxRecDepth 100000 in
set_option maxHeartbeats 4000000 in
theorem r19same_any (a b : Res) (gs : List (Option Nat)) (w : World) (ca cb : List Value) (ha : RdL w (Fd w gs) (dRes a) ca) (hb : RdL w (Fd w gs) (dRes b) cb) (hgs : ∀ b, some b ∈ gs → b < w.heap.size) (hl : a.rows.length ≤ 1000000000 ∧ (∀ l ∈ a.rows, l.length ≤ 1000000000) ∧ ∀ l ∈ b.rows, l.length ≤ 1000000000) :
    Calls Tryd.prog 69 #[.agg ca.toArray, .agg cb.toArray] w fun e w' => ∃ q : Bool, e = .returned (.bool q) ∧ (q = true ↔ a = b) ∧ Below w.heap.size w w' := by
  refine calls_ev (args := [.agg ca.toArray, .agg cb.toArray]) mixed Tryd.func69 rfl (by kernel_rfl) ?_
  obtain ⟨A, c, rfl, h1⟩ := ha.res
  obtain ⟨B, d, rfl, h2⟩ := hb.res
  have M := ((St.start hgs).addD h2).addD h1
  clear h1 h2 ha hb
  refine s_box (rescs a A c) M rfl ?_
  clear M
  rintro g2 W M
  refine s_box (rescs b B d) M rfl ?_
  clear M
  rintro g3 W M
  refine p_fld fR1 rfl ?_
  refine v_load agg_i rfl ((M.B 1 rfl).at_ rfl) ?_
  refine p_fld fR1 rfl ?_
  refine v_load agg_i rfl ((M.B 0 rfl).at_ rfl) ?_
  refine p_eq rfl rfl (fun e1 => ?_) (fun e1 => ?_)
  rotate_left
  · exact ⟨false, rfl, ⟨(fun h => by cases h), fun e => absurd (by rw [e]) e1⟩, M.below⟩
  have e1 : a.n = b.n := e1
  refine p_fld fR0 rfl ?_
  refine v_load agg_vvs rfl ((M.B 1 rfl).at_ rfl) ?_
  refine p_fld fR0 rfl ?_
  refine v_load agg_vvs rfl ((M.B 0 rfl).at_ rfl) ?_
  have hrv1 := (RdD.rowsV (M.d1 0 rfl) Fd.lt).2.2
  have hrv2 := (RdD.rowsV (M.d1 1 rfl) Fd.lt).2.2
  refine cc is_samerows (sameRows_any _ _ _ _ _ _ a.rows b.rows _ hrv1 hrv2 hl.1 hl.2.1 hl.2.2) ?_
  rintro e W ⟨q, rfl, hq, hb⟩
  refine ⟨_, rfl, ?_⟩
  refine ⟨q, rfl, ⟨fun h => ?_, fun h => ?_⟩, M.below.trans (hb.mono M.size)⟩
  · rw [h] at hq
    exact Res.ext' (of_decide_eq_true hq.symm) e1
  · rw [hq, h]; exact decide_eq_true rfl
set_option maxRecDepth 100000 in
set_option maxHeartbeats 4000000 in
theorem r20same_any (a b : Out) (gs : List (Option Nat)) (w : World) (ca cb : List Value) (ha : RdL w (Fd w gs) (dOut a) ca) (hb : RdL w (Fd w gs) (dOut b) cb) (hgs : ∀ b, some b ∈ gs → b < w.heap.size) (hla : LenO a) (hlb : LenO b) :
    Calls Tryd.prog 59 #[.agg ca.toArray, .agg cb.toArray] w fun e w' => ∃ q : Bool, e = .returned (.bool q) ∧ (q = true ↔ a = b) ∧ Below w.heap.size w w' := by
  refine calls_ev (args := [.agg ca.toArray, .agg cb.toArray]) mixed Tryd.func59 rfl (by kernel_rfl) ?_
  obtain ⟨A, c, rfl, h1⟩ := ha.out
  obtain ⟨B, d, rfl, h2⟩ := hb.out
  have M := ((St.start hgs).addD h2).addD h1
  clear h1 h2 ha hb
  refine s_box (outcs a A c) M rfl ?_
  clear M
  rintro g2 W M
  refine s_box (outcs b B d) M rfl ?_
  clear M
  rintro g3 W M
  refine p_fld fO0 rfl ?_
  refine v_load agg_i rfl ((M.B 1 rfl).at_ rfl) ?_
  refine p_fld fO0 rfl ?_
  refine v_load agg_i rfl ((M.B 0 rfl).at_ rfl) ?_
  refine p_ne rfl rfl (fun e1 => ?_) (fun e1 => ?_)
  rotate_left
  · exact ⟨false, rfl, ⟨(fun h => by cases h), fun e => absurd (by rw [e]) e1⟩, M.below⟩
  refine p_fld fO1 rfl ?_
  refine v_load agg_i rfl ((M.B 1 rfl).at_ rfl) ?_
  refine p_fld fO1 rfl ?_
  refine v_load agg_i rfl ((M.B 0 rfl).at_ rfl) ?_
  refine p_ne rfl rfl (fun e2 => ?_) (fun e2 => ?_)
  rotate_left
  · exact ⟨false, rfl, ⟨(fun h => by cases h), fun e => absurd (by rw [e]) e2⟩, M.below⟩
  refine p_fld fO2 rfl ?_
  refine v_load agg_rs rfl ((M.B 1 rfl).at_ rfl) ?_
  refine p_len slrs rfl ?_
  refine p_fld fO2 rfl ?_
  refine v_load agg_rs rfl ((M.B 0 rfl).at_ rfl) ?_
  refine p_len slrs rfl ?_
  refine p_ne rfl rfl (fun e3 => ?_) (fun e3 => ?_)
  rotate_left
  · exact ⟨false, rfl, ⟨(fun h => by cases h), fun e => absurd (by rw [e]) e3⟩, M.below⟩
  have e1 : a.e = b.e := e1
  have e2 : a.at_ = b.at_ := e2
  have hlen : a.l.length = b.l.length := by have h : (a.l.length : Int) = (b.l.length : Int) := e3; omega
  obtain ⟨hl1, hl2⟩ := hla
  refine lp Nat (fun i W => i ≤ a.l.length ∧ a.l.take i = b.l.take i ∧ St w gs W [(g3, 55, outcs b B d), (g2, 55, outcs a A c)] [] [.dat false [dRs a.l] [.slice A a.l.length c], .dat false [dRs b.l] [.slice B b.l.length d]]) (fun i => [(2, .pointer (some ⟨g2, 0, none⟩)), (3, .pointer (some ⟨g3, 0, none⟩)), (5, .int .i64 i)]) (fun i => a.l.length - i) 0 ⟨Nat.zero_le _, rfl, M.fsub _ (by simp)⟩ (by repeat (first | exact trivial | refine ⟨rfl, ?_⟩)) ?_
  clear M
  rintro i E W ⟨hi, ht, M⟩
  refine p_fld fO2 rfl ?_
  refine v_load agg_rs rfl ((M.B 1 rfl).at_ rfl) ?_
  refine p_len slrs rfl ?_
  refine p_lt rfl rfl (fun hlt => ?_) (fun hge => ?_)
  rotate_left
  · have hi : i = a.l.length := by have h : ¬ (i : Int) < (a.l.length : Int) := hge; omega
    subst hi
    rw [List.take_of_length_le (Nat.le_refl _), List.take_of_length_le (by omega)] at ht
    exact ⟨true, rfl, ⟨fun _ => Out.ext' e1 e2 ht, fun _ => rfl⟩, M.below⟩
  have hlt : i < a.l.length := by have h : (i : Int) < (a.l.length : Int) := hlt; omega
  obtain ⟨u, hu⟩ : ∃ u, a.l[i]? = some u := ⟨_, List.getElem?_eq_getElem hlt⟩
  obtain ⟨v, hv⟩ : ∃ v, b.l[i]? = some v := ⟨_, List.getElem?_eq_getElem (by omega)⟩
  have hlu := hl2 u (List.mem_of_getElem? hu)
  have hlv := hlb.2 v (List.mem_of_getElem? hv)
  obtain ⟨b1, o1, es1, rfl, M'⟩ := M.resE (M.d1 0 rfl) hu
  replace M := M'; clear M'
  obtain ⟨b2, o2, es2, rfl, M'⟩ := M.resE (M.d1 3 rfl) hv
  replace M := M'.drew; clear M'
  have hc1 := (M.da 3 rfl).len
  have hc2 := (M.da 1 rfl).len
  rw [dRes_len] at hc1 hc2
  refine drT (Kp w gs [(g2, 55, outcs a (some ⟨b1, o1, none⟩) c), (g3, 55, outcs b (some ⟨b2, o2, none⟩) d)] [.loc ((⟨b1, o1, none⟩ : Addr).add (i * 2)) es1, .loc ((⟨b2, o2, none⟩ : Addr).add (i * 2)) es2]) (.take 0 (.take 1 (.take 2 (.take 3 (.take 4 (.take 5 (.take 6 (.take 7 (.take 8 (.take 9 (.one 10 (.take 11 (.nil))))))))))))) (by kernel_rfl) (M.kp (by simp) (by simp)) ?_
  refine p_fld fO2 rfl ?_
  refine t_load agg_rs rfl (fun W K => (K.B 0 rfl).at_ rfl) ?_
  refine p_at (i := i) slrs rfl rfl rfl hlt ?_
  refine t_loadN es1 agg_res rfl hc1 (fun W K => K.lc 0 rfl) ?_
  refine p_fld fO2 rfl ?_
  refine t_load agg_rs rfl (fun W K => (K.B 1 rfl).at_ rfl) ?_
  refine p_at (i := i) slrs rfl rfl rfl (by omega) ?_
  refine t_loadN es2 agg_res rfl hc2 (fun W K => K.lc 1 rfl) ?_
  refine cc is_r19same (r19same_any u v _ _ _ _ (M.da 3 rfl) (M.da 1 rfl) M.olt ⟨hlu.1, hlu.2, hlv.2⟩) ?_
  rintro e W ⟨q, rfl, hq, hb⟩
  replace M := M.call hb
  clear hb
  refine ⟨_, rfl, (M.kp (by simp) (by simp)), ?_⟩
  refine p_not rfl ?_
  cases q with
  | false =>
    exact ⟨false, rfl, ⟨(fun h => by cases h), fun e => absurd (congrArg Out.l e) (take_ne hu hv (fun e => by have := hq.2 e; cases this))⟩, M.below⟩
  | true =>
  refine p_addN (b := 1) rfl rfl (by omega) ?_
  exact ⟨i + 1, ⟨by omega, take_ext ht hu hv (hq.1 rfl), M.fsub _ (by simp)⟩, (by repeat (first | exact trivial | refine ⟨rfl, ?_⟩)), by omega⟩
set_option maxRecDepth 100000 in
set_option maxHeartbeats 4000000 in
theorem r20all_any (a b : List Out) (gs : List (Option Nat)) (w : World) (A B : Option Addr) (n c m d : Nat) (ha : RdD w (Fd w gs) (dOuts a) (.slice A n c)) (hb : RdD w (Fd w gs) (dOuts b) (.slice B m d)) (hgs : ∀ b, some b ∈ gs → b < w.heap.size) (hl : a.length ≤ 1000000000) (hla : ∀ o ∈ a, LenO o) (hlb : ∀ o ∈ b, LenO o) :
    Calls Tryd.prog 41 #[.slice A n c, .slice B m d] w fun e w' => ∃ q : Bool, e = .returned (.bool q) ∧ (q = true ↔ a = b) ∧ Below w.heap.size w w' := by
  refine calls_ev (args := [.slice A n c, .slice B m d]) mixed Tryd.func41 rfl (by kernel_rfl) ?_
  have en : n = a.length := ha.slen
  have em : m = b.length := hb.slen
  subst en; subst em
  have M := ((St.start hgs).addD hb).addD ha
  clear ha hb
  refine p_len slos rfl ?_
  refine p_len slos rfl ?_
  refine p_ne rfl rfl (fun h => ?_) (fun h => ?_)
  rotate_left
  · exact ⟨false, rfl, ⟨(fun h => by cases h), fun e => absurd (by rw [e]) h⟩, M.below⟩
  have hlen : a.length = b.length := by have h : (a.length : Int) = (b.length : Int) := h; omega
  refine lp Nat (fun i W => i ≤ a.length ∧ a.take i = b.take i ∧ St w gs W [] [] [.dat false [dOuts a] [.slice A a.length c], .dat false [dOuts b] [.slice B b.length d]]) (fun i => [(0, .slice A a.length c), (1, .slice B b.length d), (5, .int .i64 i)]) (fun i => a.length - i) 0 ⟨Nat.zero_le _, rfl, M⟩ (by repeat (first | exact trivial | refine ⟨rfl, ?_⟩)) ?_
  clear M
  rintro i E W ⟨hi, ht, M⟩
  refine p_len slos rfl ?_
  refine p_lt rfl rfl (fun hlt => ?_) (fun hge => ?_)
  rotate_left
  · have hi : i = a.length := by have h : ¬ (i : Int) < (a.length : Int) := hge; omega
    subst hi
    rw [List.take_of_length_le (Nat.le_refl _), List.take_of_length_le (by omega)] at ht
    exact ⟨true, rfl, ⟨fun _ => ht, fun _ => rfl⟩, M.below⟩
  have hlt : i < a.length := by have h : (i : Int) < (a.length : Int) := hlt; omega
  obtain ⟨u, hu⟩ : ∃ u, a[i]? = some u := ⟨_, List.getElem?_eq_getElem hlt⟩
  obtain ⟨v, hv⟩ : ∃ v, b[i]? = some v := ⟨_, List.getElem?_eq_getElem (by omega)⟩
  obtain ⟨b1, o1, es1, rfl, M'⟩ := M.oute (M.d1 0 rfl) hu
  replace M := M'; clear M'
  obtain ⟨b2, o2, es2, rfl, M'⟩ := M.oute (M.d1 3 rfl) hv
  replace M := M'.drew; clear M'
  have hc1 := (M.da 3 rfl).len
  have hc2 := (M.da 1 rfl).len
  rw [dOut_len] at hc1 hc2
  refine drT (Kp w gs [] [.loc ((⟨b1, o1, none⟩ : Addr).add (i * 3)) es1, .loc ((⟨b2, o2, none⟩ : Addr).add (i * 3)) es2]) (.take 0 (.take 1 (.take 2 (.take 3 (.take 4 (.take 5 (.take 6 (.take 7 (.one 8 (.take 9 (.nil))))))))))) (by kernel_rfl) (M.kp (by simp) (by simp)) ?_
  refine p_at (i := i) slos rfl rfl rfl hlt ?_
  refine t_loadN es1 agg_out rfl hc1 (fun W K => K.lc 0 rfl) ?_
  refine p_at (i := i) slos rfl rfl rfl (by omega) ?_
  refine t_loadN es2 agg_out rfl hc2 (fun W K => K.lc 1 rfl) ?_
  refine cc is_r20same (r20same_any u v _ _ _ _ (M.da 3 rfl) (M.da 1 rfl) M.olt (hla u (List.mem_of_getElem? hu)) (hlb v (List.mem_of_getElem? hv))) ?_
  rintro e W ⟨q, rfl, hq, hb⟩
  replace M := M.call hb
  clear hb
  refine ⟨_, rfl, (M.kp (by simp) (by simp)), ?_⟩
  refine p_not rfl ?_
  cases q with
  | false =>
    exact ⟨false, rfl, ⟨(fun h => by cases h), fun e => absurd e (take_ne hu hv (fun e => by have := hq.2 e; cases this))⟩, M.below⟩
  | true =>
  refine p_addN (b := 1) rfl rfl (by omega) ?_
  exact ⟨i + 1, ⟨by omega, take_ext ht hu hv (hq.1 rfl), M.fsub _ (by simp)⟩, (by repeat (first | exact trivial | refine ⟨rfl, ?_⟩)), by omega⟩
end Go.Proofs.YtejbljopighenaaDoor
namespace Go.Proofs.YtejbljopighenaaDoor
open Go.RowKit
theorem is_same0B : isFn Tryd.prog 13 = true := by kernel_rfl
theorem is_r20Enc : isFn Tryd.prog 27 = true := by kernel_rfl
theorem is_r20num : isFn Tryd.prog 52 = true := by kernel_rfl
theorem is_r20Dec : isFn Tryd.prog 37 = true := by kernel_rfl
theorem is_r1put : isFn Tryd.prog 29 = true := by kernel_rfl
theorem is_r1putB : isFn Tryd.prog 48 = true := by kernel_rfl
theorem is_r1get : isFn Tryd.prog 36 = true := by kernel_rfl
theorem is_r1getB : isFn Tryd.prog 51 = true := by kernel_rfl
theorem is_r3many : isFn Tryd.prog 47 = true := by kernel_rfl
theorem is_r3few : isFn Tryd.prog 53 = true := by kernel_rfl
set_option maxRecDepth 100000 in
set_option maxHeartbeats 4000000 in
theorem r20Enc_any (o : Out) (gs : List (Option Nat)) (w : World) (cs : List Value) (hr : RdL w (Fd w gs) (dOut o) cs) (hgs : ∀ b, some b ∈ gs → b < w.heap.size) (hf : FitsO o) :
    Calls Tryd.prog 27 #[.agg cs.toArray] w (EncG w (encO o)) := by
  refine calls_ev (args := [.agg cs.toArray]) mixed Tryd.func27 rfl (by kernel_rfl) ?_
  obtain ⟨A, c, rfl, h1⟩ := id hr.out
  have M := (St.start hgs).addD h1
  clear h1 hr
  obtain ⟨hf1, hf2, hf3⟩ := hf
  refine s_box (outcs o A c) M rfl ?_
  clear M
  rintro g1 W M
  refine p_fld fO0 rfl ?_
  refine v_load agg_i rfl ((M.B 0 rfl).at_ rfl) ?_
  refine p_lt rfl rfl (fun q1 => ?_) (fun q1 => ?_)
  ·
    have he := encO_2 (o := o) (by unfold okO; rw [right_no o (by omega)]; rfl)
    exact ⟨none, 0, 0, by rw [he]; rfl, by rw [he]; exact World.ownsRow_nil _ _ _ _, M.below⟩
  refine p_fld fO0 rfl ?_
  refine v_load agg_i rfl ((M.B 0 rfl).at_ rfl) ?_
  refine p_gt rfl rfl (fun q2 => ?_) (fun q2 => ?_)
  ·
    have he := encO_2 (o := o) (by unfold okO; rw [right_no o (by omega)]; rfl)
    exact ⟨none, 0, 0, by rw [he]; rfl, by rw [he]; exact World.ownsRow_nil _ _ _ _, M.below⟩
  refine p_fld fO1 rfl ?_
  refine v_load agg_i rfl ((M.B 0 rfl).at_ rfl) ?_
  refine p_lt rfl rfl (fun q3 => ?_) (fun q3 => ?_)
  ·
    have he := encO_2 (o := o) (by unfold okO; rw [right_no o (by omega)]; rfl)
    exact ⟨none, 0, 0, by rw [he]; rfl, by rw [he]; exact World.ownsRow_nil _ _ _ _, M.below⟩
  refine p_fld fO1 rfl ?_
  refine v_load agg_i rfl ((M.B 0 rfl).at_ rfl) ?_
  refine p_gt rfl rfl (fun q4 => ?_) (fun q4 => ?_)
  ·
    have he := encO_2 (o := o) (by unfold okO; rw [right_no o (by omega)]; rfl)
    exact ⟨none, 0, 0, by rw [he]; rfl, by rw [he]; exact World.ownsRow_nil _ _ _ _, M.below⟩
  have q1 : ¬ o.e < 0 := q1
  have q2 : ¬ 999 < o.e := q2
  have q3 : ¬ o.at_ < 0 := q3
  have q4 : ¬ 50 < o.at_ := q4
  refine p_fld fO0 rfl ?_
  refine v_load agg_i rfl ((M.B 0 rfl).at_ rfl) ?_
  refine p_ne rfl rfl (fun q5 => ?_) (fun q5 => ?_)
  · have q5 : o.e ≠ 0 → o.l = [] := fun h => absurd q5 h
    refine p_fld fO2 rfl ?_
    refine v_load agg_rs rfl ((M.B 0 rfl).at_ rfl) ?_
    refine p_len slrs rfl ?_
    refine p_gt rfl rfl (fun q6 => ?_) (fun q6 => ?_)
    · have q6 : (50 : Int) < (o.l.length : Int) := q6
      have he := encO_2 (o := o) (by unfold okO; rw [right_no o (by omega)]; rfl)
      exact ⟨none, 0, 0, by rw [he]; rfl, by rw [he]; exact World.ownsRow_nil _ _ _ _, M.below⟩
    have q6 : ¬ (50 : Int) < (o.l.length : Int) := q6
    have p1 := putN_len10 (n := o.e.toNat) (by omega)
    have p2 := putN_len10 (n := o.at_.toNat) (by omega)
    have p3 := putN_len10 (n := o.l.length) (by omega)
    have hob : (outB o).length = (hdB o).length + (o.l.flatMap resB).length := by unfold outB; rw [List.length_append]
    refine p_fld fO0 rfl ?_
    refine v_load agg_i rfl ((M.B 0 rfl).at_ rfl) ?_
    refine v_cvt u_i64t u_u64t rfl (cv64 (by omega) (by omega)) ?_
    refine cc is_r1put (refPut_any _ _ (by omega)) ?_
    rintro e W ⟨A3, c3, rfl, o3, hb⟩
    replace M := M.callR (r := ⟨5, 1, A3, (putN o.e.toNat).length, c3, bvs (putN o.e.toNat)⟩) hb o3
    clear o3 hb
    refine ⟨_, rfl, ?_⟩
    refine p_fld fO1 rfl ?_
    refine v_load agg_i rfl ((M.B 0 rfl).at_ rfl) ?_
    refine v_cvt u_i64t u_u64t rfl (cv64 (by omega) (by omega)) ?_
    refine cc is_r1put (refPut_any _ _ (by omega)) ?_
    rintro e W ⟨A5, c5, rfl, o5, hb⟩
    replace M := M.callO hb o5
    clear o5 hb
    refine ⟨_, rfl, ?_⟩
    refine s_appB M rfl rfl (M.rdb 0 rfl).2.2 (by omega) ?_
    clear M; rintro A4 c4 W M -
    refine p_fld fO2 rfl ?_
    refine v_load agg_rs rfl ((M.B 0 rfl).at_ rfl) ?_
    refine p_len slrs rfl ?_
    refine v_cvt u_i64t u_u64t rfl (cv64N (by omega)) ?_
    refine cc is_r1put (refPut_any _ _ (by omega)) ?_
    rintro e W ⟨A6, c6, rfl, o6, hb⟩
    replace M := M.callO hb o6
    clear o6 hb
    refine ⟨_, rfl, ?_⟩
    refine s_appB M rfl rfl (M.rdb 0 rfl).2.2 (by omega) ?_
    clear M; rintro A7 c7 W M -
    have eH : putN o.e.toNat ++ putN o.at_.toNat ++ putN o.l.length = hdB o := rfl
    have eHl : (putN o.e.toNat).length + (putN o.at_.toNat).length + (putN o.l.length).length = (hdB o).length := by unfold hdB; simp only [List.length_append]
    rw [eH, eHl] at M
    rw [eHl]
    refine lp (Nat × Bool × List UInt8 × Option Addr × Nat) (fun s W => s.1 ≤ o.l.length ∧ (∀ r ∈ o.l.take s.1, 0 ≤ r.n ∧ manyE r.rows = 0) ∧ (s.2.1 = true → 1048576 < s.2.2.1.length) ∧ s.2.2.1 = hdB o ++ (o.l.take s.1).flatMap resB ∧ St w gs W [(g1, 55, outcs o A c)] [⟨5, 1, s.2.2.2.1, s.2.2.1.length, s.2.2.2.2, bvs s.2.2.1⟩] [.dat false [dRs o.l] [.slice A o.l.length c]])
      (fun s => [(1, .pointer (some ⟨g1, 0, none⟩)), (4, .slice s.2.2.2.1 s.2.2.1.length s.2.2.2.2), (5, .bool s.2.1), (6, .int .i64 s.1)]) (fun s => o.l.length - s.1) (0, false, hdB o, A7, c7) ⟨Nat.zero_le _, (fun r hr => by rw [List.take_zero] at hr; cases hr), (fun h => by cases h), (by dsimp only; rw [List.take_zero, List.flatMap_nil, List.append_nil]), M.fsub _ (by simp)⟩ (by repeat (first | exact trivial | refine ⟨rfl, ?_⟩)) ?_
    clear M
    rintro ⟨i, lg, P, A4, c4⟩ E W ⟨hi, hall, hlg, hP, M⟩
    dsimp only at hi hall hlg hP M
    have hPl : P.length ≤ (outB o).length := by rw [hP, List.length_append, hob]; have := flat_take_leO resB o.l i; omega
    refine p_fld fO2 rfl ?_
    refine v_load agg_rs rfl ((M.B 0 rfl).at_ rfl) ?_
    refine p_len slrs rfl ?_
    refine p_lt rfl rfl (fun hlt => ?_) (fun hge => ?_)
    rotate_left
    · have hi : i = o.l.length := by have h : ¬ (i : Int) < (o.l.length : Int) := hge; omega
      subst hi
      rw [List.take_of_length_le (Nat.le_refl _)] at hall hP
      have hok : okO o = true := okO_iff.2 ⟨⟨by omega, by omega, by omega, by omega, q5, by omega⟩, hall⟩
      have hPo : P = outB o := hP
      cases lg with
      | true =>
        have hbig := hlg rfl
        have he := encO_3 hok (by rw [← hPo]; exact hbig)
        exact ⟨none, 0, 0, by rw [he]; rfl, by rw [he]; exact World.ownsRow_nil _ _ _ _, M.below⟩
      | false =>
      refine p_len slb rfl ?_
      refine p_gt rfl rfl (fun hbig => ?_) (fun hbig => ?_)
      · have hbig : 1048576 < P.length := by have h : (1048576 : Int) < (P.length : Int) := hbig; omega
        have he := encO_3 hok (by rw [← hPo]; exact hbig)
        exact ⟨none, 0, 0, by rw [he]; rfl, by rw [he]; exact World.ownsRow_nil _ _ _ _, M.below⟩
      · have hbig : ¬ 1048576 < P.length := by have h : ¬ (1048576 : Int) < (P.length : Int) := hbig; omega
        have he := encO_0 hok (by rw [← hPo]; exact hbig)
        exact ⟨A4, P.length, c4, by rw [he]; rfl, by rw [he, ← hPo]; exact M.row _ (List.mem_cons_self ..), M.below⟩
    have hil : i < o.l.length := by have h : (i : Int) < (o.l.length : Int) := hlt; omega
    obtain ⟨r, hri⟩ : ∃ r, o.l[i]? = some r := ⟨_, List.getElem?_eq_getElem hil⟩
    obtain ⟨hfr, hrn⟩ := hf1 r (List.mem_of_getElem? hri)
    have hs := flat_take_snocO resB hri
    have hs2 := flat_take_leO resB o.l (i + 1)
    have hrl := resB_len r
    rw [hs, List.length_append] at hs2
    have hPn : P ++ resB r = hdB o ++ (o.l.take (i + 1)).flatMap resB := by rw [hP, hs, List.append_assoc]
    have hPl2 : P.length = (hdB o).length + ((o.l.take i).flatMap resB).length := by rw [hP, List.length_append]
    obtain ⟨b1, o1, Ar, cr, rfl, M'⟩ := M.res (M.d1 0 rfl) hri
    replace M := M'; clear M'
    refine p_fld fO2 rfl ?_
    refine v_load agg_rs rfl ((M.B 0 rfl).at_ rfl) ?_
    refine p_at (i := i) slrs rfl rfl rfl hil ?_
    refine p_fld fR0 rfl ?_
    refine v_load agg_vvs rfl (M.lc 0 rfl 0 _ rfl) ?_
    obtain ⟨-, -, hrv⟩ := RdD.rowsV (M.d1 1 rfl) Fd.lt
    refine cc is_r3many (rmany_any _ _ _ r.rows _ hrv hfr) ?_
    clear hrv
    rintro e W ⟨A8, n8, c8, rfl, o8, hb⟩
    have en8 := o8.len
    replace M := M.callO hb o8
    clear o8 hb
    refine ⟨_, rfl, ?_⟩
    refine p_ne rfl rfl (fun hm => ?_) (fun hm => ?_)
    rotate_left
    · have hm : ¬ manyE r.rows = 0 := hm
      have he := encO_2 (o := o) (by
        rw [← Bool.not_eq_true]
        intro h
        exact hm ((okO_iff.1 h).2 r (List.mem_of_getElem? hri)).2)
      exact ⟨none, 0, 0, by rw [he]; rfl, by rw [he]; exact World.ownsRow_nil _ _ _ _, M.below⟩
    have hm : manyE r.rows = 0 := hm
    refine p_fld fO2 rfl ?_
    refine v_load agg_rs rfl ((M.B 0 rfl).at_ rfl) ?_
    refine p_at (i := i) slrs rfl rfl rfl hil ?_
    refine p_fld fR1 rfl ?_
    refine v_load agg_i rfl (M.lc 1 rfl 1 _ rfl) ?_
    refine p_lt rfl rfl (fun hr0 => ?_) (fun hr0 => ?_)
    · have hr0 : r.n < 0 := hr0
      have he := encO_2 (o := o) (by
        rw [← Bool.not_eq_true]
        intro h
        have := ((okO_iff.1 h).2 r (List.mem_of_getElem? hri)).1
        omega)
      exact ⟨none, 0, 0, by rw [he]; rfl, by rw [he]; exact World.ownsRow_nil _ _ _ _, M.below⟩
    have hr0' : ¬ r.n < 0 := hr0
    have hr0 : 0 ≤ r.n := by omega
    have hrl10 := putN_len10 (n := r.n.toNat) (by omega)
    have hbl : (manyB r.rows).length ≤ 900000000 := by omega
    have hq8 := putN_len10 (n := n8) (by omega)
    cases lg with
    | true =>
      have hbig := hlg rfl
      refine p_fld fO2 rfl ?_
      refine v_load agg_rs rfl ((M.B 0 rfl).at_ rfl) ?_
      refine p_at (i := i) slrs rfl rfl rfl hil ?_
      refine p_fld fR1 rfl ?_
      refine v_load agg_i rfl (M.lc 1 rfl 1 _ rfl) ?_
      refine v_cvt u_i64t u_u64t rfl (cv64 hr0 hrn) ?_
      refine cc is_r1put (refPut_any _ _ (by omega)) ?_
      rintro e W ⟨A9, c9, rfl, o9, hb⟩
      replace M := M.callO hb o9
      clear o9 hb
      refine ⟨_, rfl, ?_⟩
      refine s_appB M rfl rfl (M.rdb 0 rfl).2.2 (by omega) ?_
      clear M; rintro A11 c11 W M -
      refine cc is_r1putB (refPutBytes_any _ _ _ _ _ (M.rdb 1 rfl).2.2 (by omega)) ?_
      rintro e W ⟨A12, c12, rfl, o12, hb⟩
      replace M := M.callO hb o12
      clear o12 hb
      refine ⟨_, rfl, ?_⟩
      refine s_appB M rfl rfl (M.rdb 0 rfl).2.2 (by omega) ?_
      clear M; rintro A13 c13 W M -
      refine p_addN (b := 1) rfl rfl (by omega) ?_
      have e2 : P ++ putN r.n.toNat ++ putB (manyB r.rows) = P ++ resB r := by rw [List.append_assoc]; rfl
      have e3 : P.length + (putN r.n.toNat).length + ((putN n8).length + n8) = (P ++ resB r).length := by rw [List.length_append, hrl, en8]; omega
      rw [e2, e3] at M
      refine ⟨(i + 1, true, P ++ resB r, A13, c13), ⟨by dsimp only; omega, fun x hx => ?_, fun h => ?_, hPn, M.fsub _ (by simp)⟩, ?_, by dsimp only; omega⟩
      · rw [List.take_add_one, hri, List.mem_append] at hx
        rcases hx with hx | hx
        · exact hall x hx
        · have : x = r := by simpa using hx
          rw [this]; exact ⟨hr0, hm⟩
      · (have := hPl2; dsimp only; rw [List.length_append]; omega)
      · refine ⟨rfl, ?_, rfl, rfl, trivial⟩
        dsimp only
        rw [← e3]
        rfl
    | false =>
    refine p_len slb rfl ?_
    refine p_gt rfl rfl (fun hbig => ?_) (fun hbig => ?_)
    · have hbig : 1048576 < n8 := by have h : (1048576 : Int) < (n8 : Int) := hbig; omega
      refine p_fld fO2 rfl ?_
      refine v_load agg_rs rfl ((M.B 0 rfl).at_ rfl) ?_
      refine p_at (i := i) slrs rfl rfl rfl hil ?_
      refine p_fld fR1 rfl ?_
      refine v_load agg_i rfl (M.lc 1 rfl 1 _ rfl) ?_
      refine v_cvt u_i64t u_u64t rfl (cv64 hr0 hrn) ?_
      refine cc is_r1put (refPut_any _ _ (by omega)) ?_
      rintro e W ⟨A9, c9, rfl, o9, hb⟩
      replace M := M.callO hb o9
      clear o9 hb
      refine ⟨_, rfl, ?_⟩
      refine s_appB M rfl rfl (M.rdb 0 rfl).2.2 (by omega) ?_
      clear M; rintro A11 c11 W M -
      refine cc is_r1putB (refPutBytes_any _ _ _ _ _ (M.rdb 1 rfl).2.2 (by omega)) ?_
      rintro e W ⟨A12, c12, rfl, o12, hb⟩
      replace M := M.callO hb o12
      clear o12 hb
      refine ⟨_, rfl, ?_⟩
      refine s_appB M rfl rfl (M.rdb 0 rfl).2.2 (by omega) ?_
      clear M; rintro A13 c13 W M -
      refine p_addN (b := 1) rfl rfl (by omega) ?_
      have e2 : P ++ putN r.n.toNat ++ putB (manyB r.rows) = P ++ resB r := by rw [List.append_assoc]; rfl
      have e3 : P.length + (putN r.n.toNat).length + ((putN n8).length + n8) = (P ++ resB r).length := by rw [List.length_append, hrl, en8]; omega
      rw [e2, e3] at M
      refine ⟨(i + 1, true, P ++ resB r, A13, c13), ⟨by dsimp only; omega, fun x hx => ?_, fun h => ?_, hPn, M.fsub _ (by simp)⟩, ?_, by dsimp only; omega⟩
      · rw [List.take_add_one, hri, List.mem_append] at hx
        rcases hx with hx | hx
        · exact hall x hx
        · have : x = r := by simpa using hx
          rw [this]; exact ⟨hr0, hm⟩
      · (have := hPl2; dsimp only; rw [List.length_append]; omega)
      · refine ⟨rfl, ?_, rfl, rfl, trivial⟩
        dsimp only
        rw [← e3]
        rfl
    ·
      refine p_fld fO2 rfl ?_
      refine v_load agg_rs rfl ((M.B 0 rfl).at_ rfl) ?_
      refine p_at (i := i) slrs rfl rfl rfl hil ?_
      refine p_fld fR1 rfl ?_
      refine v_load agg_i rfl (M.lc 1 rfl 1 _ rfl) ?_
      refine v_cvt u_i64t u_u64t rfl (cv64 hr0 hrn) ?_
      refine cc is_r1put (refPut_any _ _ (by omega)) ?_
      rintro e W ⟨A9, c9, rfl, o9, hb⟩
      replace M := M.callO hb o9
      clear o9 hb
      refine ⟨_, rfl, ?_⟩
      refine s_appB M rfl rfl (M.rdb 0 rfl).2.2 (by omega) ?_
      clear M; rintro A11 c11 W M -
      refine cc is_r1putB (refPutBytes_any _ _ _ _ _ (M.rdb 1 rfl).2.2 (by omega)) ?_
      rintro e W ⟨A12, c12, rfl, o12, hb⟩
      replace M := M.callO hb o12
      clear o12 hb
      refine ⟨_, rfl, ?_⟩
      refine s_appB M rfl rfl (M.rdb 0 rfl).2.2 (by omega) ?_
      clear M; rintro A13 c13 W M -
      refine p_addN (b := 1) rfl rfl (by omega) ?_
      have e2 : P ++ putN r.n.toNat ++ putB (manyB r.rows) = P ++ resB r := by rw [List.append_assoc]; rfl
      have e3 : P.length + (putN r.n.toNat).length + ((putN n8).length + n8) = (P ++ resB r).length := by rw [List.length_append, hrl, en8]; omega
      rw [e2, e3] at M
      refine ⟨(i + 1, false, P ++ resB r, A13, c13), ⟨by dsimp only; omega, fun x hx => ?_, fun h => ?_, hPn, M.fsub _ (by simp)⟩, ?_, by dsimp only; omega⟩
      · rw [List.take_add_one, hri, List.mem_append] at hx
        rcases hx with hx | hx
        · exact hall x hx
        · have : x = r := by simpa using hx
          rw [this]; exact ⟨hr0, hm⟩
      · (cases h)
      · refine ⟨rfl, ?_, rfl, rfl, trivial⟩
        dsimp only
        rw [← e3]
        rfl
  · have q5' : o.e ≠ 0 := q5
    refine p_fld fO2 rfl ?_
    refine v_load agg_rs rfl ((M.B 0 rfl).at_ rfl) ?_
    refine p_len slrs rfl ?_
    refine p_gt rfl rfl (fun q8 => ?_) (fun q8 => ?_)
    · have q8 : (0 : Int) < (o.l.length : Int) := q8
      have he := encO_2 (o := o) (by
        unfold okO
        rw [right_no o (fun h => ?_)]
        · rfl
        have := h.2.2.2.2.1 q5'
        rw [this] at q8
        exact absurd q8 (by decide))
      exact ⟨none, 0, 0, by rw [he]; rfl, by rw [he]; exact World.ownsRow_nil _ _ _ _, M.below⟩
    have q5 : o.e ≠ 0 → o.l = [] := fun _ => List.eq_nil_of_length_eq_zero (by have h : ¬ (0 : Int) < (o.l.length : Int) := q8; omega)
    refine p_fld fO2 rfl ?_
    refine v_load agg_rs rfl ((M.B 0 rfl).at_ rfl) ?_
    refine p_len slrs rfl ?_
    refine p_gt rfl rfl (fun q6 => ?_) (fun q6 => ?_)
    · have q6 : (50 : Int) < (o.l.length : Int) := q6
      have he := encO_2 (o := o) (by unfold okO; rw [right_no o (by omega)]; rfl)
      exact ⟨none, 0, 0, by rw [he]; rfl, by rw [he]; exact World.ownsRow_nil _ _ _ _, M.below⟩
    have q6 : ¬ (50 : Int) < (o.l.length : Int) := q6
    have p1 := putN_len10 (n := o.e.toNat) (by omega)
    have p2 := putN_len10 (n := o.at_.toNat) (by omega)
    have p3 := putN_len10 (n := o.l.length) (by omega)
    have hob : (outB o).length = (hdB o).length + (o.l.flatMap resB).length := by unfold outB; rw [List.length_append]
    refine p_fld fO0 rfl ?_
    refine v_load agg_i rfl ((M.B 0 rfl).at_ rfl) ?_
    refine v_cvt u_i64t u_u64t rfl (cv64 (by omega) (by omega)) ?_
    refine cc is_r1put (refPut_any _ _ (by omega)) ?_
    rintro e W ⟨A3, c3, rfl, o3, hb⟩
    replace M := M.callR (r := ⟨5, 1, A3, (putN o.e.toNat).length, c3, bvs (putN o.e.toNat)⟩) hb o3
    clear o3 hb
    refine ⟨_, rfl, ?_⟩
    refine p_fld fO1 rfl ?_
    refine v_load agg_i rfl ((M.B 0 rfl).at_ rfl) ?_
    refine v_cvt u_i64t u_u64t rfl (cv64 (by omega) (by omega)) ?_
    refine cc is_r1put (refPut_any _ _ (by omega)) ?_
    rintro e W ⟨A5, c5, rfl, o5, hb⟩
    replace M := M.callO hb o5
    clear o5 hb
    refine ⟨_, rfl, ?_⟩
    refine s_appB M rfl rfl (M.rdb 0 rfl).2.2 (by omega) ?_
    clear M; rintro A4 c4 W M -
    refine p_fld fO2 rfl ?_
    refine v_load agg_rs rfl ((M.B 0 rfl).at_ rfl) ?_
    refine p_len slrs rfl ?_
    refine v_cvt u_i64t u_u64t rfl (cv64N (by omega)) ?_
    refine cc is_r1put (refPut_any _ _ (by omega)) ?_
    rintro e W ⟨A6, c6, rfl, o6, hb⟩
    replace M := M.callO hb o6
    clear o6 hb
    refine ⟨_, rfl, ?_⟩
    refine s_appB M rfl rfl (M.rdb 0 rfl).2.2 (by omega) ?_
    clear M; rintro A7 c7 W M -
    have eH : putN o.e.toNat ++ putN o.at_.toNat ++ putN o.l.length = hdB o := rfl
    have eHl : (putN o.e.toNat).length + (putN o.at_.toNat).length + (putN o.l.length).length = (hdB o).length := by unfold hdB; simp only [List.length_append]
    rw [eH, eHl] at M
    rw [eHl]
    refine lp (Nat × Bool × List UInt8 × Option Addr × Nat) (fun s W => s.1 ≤ o.l.length ∧ (∀ r ∈ o.l.take s.1, 0 ≤ r.n ∧ manyE r.rows = 0) ∧ (s.2.1 = true → 1048576 < s.2.2.1.length) ∧ s.2.2.1 = hdB o ++ (o.l.take s.1).flatMap resB ∧ St w gs W [(g1, 55, outcs o A c)] [⟨5, 1, s.2.2.2.1, s.2.2.1.length, s.2.2.2.2, bvs s.2.2.1⟩] [.dat false [dRs o.l] [.slice A o.l.length c]])
      (fun s => [(1, .pointer (some ⟨g1, 0, none⟩)), (4, .slice s.2.2.2.1 s.2.2.1.length s.2.2.2.2), (5, .bool s.2.1), (6, .int .i64 s.1)]) (fun s => o.l.length - s.1) (0, false, hdB o, A7, c7) ⟨Nat.zero_le _, (fun r hr => by rw [List.take_zero] at hr; cases hr), (fun h => by cases h), (by dsimp only; rw [List.take_zero, List.flatMap_nil, List.append_nil]), M.fsub _ (by simp)⟩ (by repeat (first | exact trivial | refine ⟨rfl, ?_⟩)) ?_
    clear M
    rintro ⟨i, lg, P, A4, c4⟩ E W ⟨hi, hall, hlg, hP, M⟩
    dsimp only at hi hall hlg hP M
    have hPl : P.length ≤ (outB o).length := by rw [hP, List.length_append, hob]; have := flat_take_leO resB o.l i; omega
    refine p_fld fO2 rfl ?_
    refine v_load agg_rs rfl ((M.B 0 rfl).at_ rfl) ?_
    refine p_len slrs rfl ?_
    refine p_lt rfl rfl (fun hlt => ?_) (fun hge => ?_)
    rotate_left
    · have hi : i = o.l.length := by have h : ¬ (i : Int) < (o.l.length : Int) := hge; omega
      subst hi
      rw [List.take_of_length_le (Nat.le_refl _)] at hall hP
      have hok : okO o = true := okO_iff.2 ⟨⟨by omega, by omega, by omega, by omega, q5, by omega⟩, hall⟩
      have hPo : P = outB o := hP
      cases lg with
      | true =>
        have hbig := hlg rfl
        have he := encO_3 hok (by rw [← hPo]; exact hbig)
        exact ⟨none, 0, 0, by rw [he]; rfl, by rw [he]; exact World.ownsRow_nil _ _ _ _, M.below⟩
      | false =>
      refine p_len slb rfl ?_
      refine p_gt rfl rfl (fun hbig => ?_) (fun hbig => ?_)
      · have hbig : 1048576 < P.length := by have h : (1048576 : Int) < (P.length : Int) := hbig; omega
        have he := encO_3 hok (by rw [← hPo]; exact hbig)
        exact ⟨none, 0, 0, by rw [he]; rfl, by rw [he]; exact World.ownsRow_nil _ _ _ _, M.below⟩
      · have hbig : ¬ 1048576 < P.length := by have h : ¬ (1048576 : Int) < (P.length : Int) := hbig; omega
        have he := encO_0 hok (by rw [← hPo]; exact hbig)
        exact ⟨A4, P.length, c4, by rw [he]; rfl, by rw [he, ← hPo]; exact M.row _ (List.mem_cons_self ..), M.below⟩
    have hil : i < o.l.length := by have h : (i : Int) < (o.l.length : Int) := hlt; omega
    obtain ⟨r, hri⟩ : ∃ r, o.l[i]? = some r := ⟨_, List.getElem?_eq_getElem hil⟩
    obtain ⟨hfr, hrn⟩ := hf1 r (List.mem_of_getElem? hri)
    have hs := flat_take_snocO resB hri
    have hs2 := flat_take_leO resB o.l (i + 1)
    have hrl := resB_len r
    rw [hs, List.length_append] at hs2
    have hPn : P ++ resB r = hdB o ++ (o.l.take (i + 1)).flatMap resB := by rw [hP, hs, List.append_assoc]
    have hPl2 : P.length = (hdB o).length + ((o.l.take i).flatMap resB).length := by rw [hP, List.length_append]
    obtain ⟨b1, o1, Ar, cr, rfl, M'⟩ := M.res (M.d1 0 rfl) hri
    replace M := M'; clear M'
    refine p_fld fO2 rfl ?_
    refine v_load agg_rs rfl ((M.B 0 rfl).at_ rfl) ?_
    refine p_at (i := i) slrs rfl rfl rfl hil ?_
    refine p_fld fR0 rfl ?_
    refine v_load agg_vvs rfl (M.lc 0 rfl 0 _ rfl) ?_
    obtain ⟨-, -, hrv⟩ := RdD.rowsV (M.d1 1 rfl) Fd.lt
    refine cc is_r3many (rmany_any _ _ _ r.rows _ hrv hfr) ?_
    clear hrv
    rintro e W ⟨A8, n8, c8, rfl, o8, hb⟩
    have en8 := o8.len
    replace M := M.callO hb o8
    clear o8 hb
    refine ⟨_, rfl, ?_⟩
    refine p_ne rfl rfl (fun hm => ?_) (fun hm => ?_)
    rotate_left
    · have hm : ¬ manyE r.rows = 0 := hm
      have he := encO_2 (o := o) (by
        rw [← Bool.not_eq_true]
        intro h
        exact hm ((okO_iff.1 h).2 r (List.mem_of_getElem? hri)).2)
      exact ⟨none, 0, 0, by rw [he]; rfl, by rw [he]; exact World.ownsRow_nil _ _ _ _, M.below⟩
    have hm : manyE r.rows = 0 := hm
    refine p_fld fO2 rfl ?_
    refine v_load agg_rs rfl ((M.B 0 rfl).at_ rfl) ?_
    refine p_at (i := i) slrs rfl rfl rfl hil ?_
    refine p_fld fR1 rfl ?_
    refine v_load agg_i rfl (M.lc 1 rfl 1 _ rfl) ?_
    refine p_lt rfl rfl (fun hr0 => ?_) (fun hr0 => ?_)
    · have hr0 : r.n < 0 := hr0
      have he := encO_2 (o := o) (by
        rw [← Bool.not_eq_true]
        intro h
        have := ((okO_iff.1 h).2 r (List.mem_of_getElem? hri)).1
        omega)
      exact ⟨none, 0, 0, by rw [he]; rfl, by rw [he]; exact World.ownsRow_nil _ _ _ _, M.below⟩
    have hr0' : ¬ r.n < 0 := hr0
    have hr0 : 0 ≤ r.n := by omega
    have hrl10 := putN_len10 (n := r.n.toNat) (by omega)
    have hbl : (manyB r.rows).length ≤ 900000000 := by omega
    have hq8 := putN_len10 (n := n8) (by omega)
    cases lg with
    | true =>
      have hbig := hlg rfl
      refine p_fld fO2 rfl ?_
      refine v_load agg_rs rfl ((M.B 0 rfl).at_ rfl) ?_
      refine p_at (i := i) slrs rfl rfl rfl hil ?_
      refine p_fld fR1 rfl ?_
      refine v_load agg_i rfl (M.lc 1 rfl 1 _ rfl) ?_
      refine v_cvt u_i64t u_u64t rfl (cv64 hr0 hrn) ?_
      refine cc is_r1put (refPut_any _ _ (by omega)) ?_
      rintro e W ⟨A9, c9, rfl, o9, hb⟩
      replace M := M.callO hb o9
      clear o9 hb
      refine ⟨_, rfl, ?_⟩
      refine s_appB M rfl rfl (M.rdb 0 rfl).2.2 (by omega) ?_
      clear M; rintro A11 c11 W M -
      refine cc is_r1putB (refPutBytes_any _ _ _ _ _ (M.rdb 1 rfl).2.2 (by omega)) ?_
      rintro e W ⟨A12, c12, rfl, o12, hb⟩
      replace M := M.callO hb o12
      clear o12 hb
      refine ⟨_, rfl, ?_⟩
      refine s_appB M rfl rfl (M.rdb 0 rfl).2.2 (by omega) ?_
      clear M; rintro A13 c13 W M -
      refine p_addN (b := 1) rfl rfl (by omega) ?_
      have e2 : P ++ putN r.n.toNat ++ putB (manyB r.rows) = P ++ resB r := by rw [List.append_assoc]; rfl
      have e3 : P.length + (putN r.n.toNat).length + ((putN n8).length + n8) = (P ++ resB r).length := by rw [List.length_append, hrl, en8]; omega
      rw [e2, e3] at M
      refine ⟨(i + 1, true, P ++ resB r, A13, c13), ⟨by dsimp only; omega, fun x hx => ?_, fun h => ?_, hPn, M.fsub _ (by simp)⟩, ?_, by dsimp only; omega⟩
      · rw [List.take_add_one, hri, List.mem_append] at hx
        rcases hx with hx | hx
        · exact hall x hx
        · have : x = r := by simpa using hx
          rw [this]; exact ⟨hr0, hm⟩
      · (have := hPl2; dsimp only; rw [List.length_append]; omega)
      · refine ⟨rfl, ?_, rfl, rfl, trivial⟩
        dsimp only
        rw [← e3]
        rfl
    | false =>
    refine p_len slb rfl ?_
    refine p_gt rfl rfl (fun hbig => ?_) (fun hbig => ?_)
    · have hbig : 1048576 < n8 := by have h : (1048576 : Int) < (n8 : Int) := hbig; omega
      refine p_fld fO2 rfl ?_
      refine v_load agg_rs rfl ((M.B 0 rfl).at_ rfl) ?_
      refine p_at (i := i) slrs rfl rfl rfl hil ?_
      refine p_fld fR1 rfl ?_
      refine v_load agg_i rfl (M.lc 1 rfl 1 _ rfl) ?_
      refine v_cvt u_i64t u_u64t rfl (cv64 hr0 hrn) ?_
      refine cc is_r1put (refPut_any _ _ (by omega)) ?_
      rintro e W ⟨A9, c9, rfl, o9, hb⟩
      replace M := M.callO hb o9
      clear o9 hb
      refine ⟨_, rfl, ?_⟩
      refine s_appB M rfl rfl (M.rdb 0 rfl).2.2 (by omega) ?_
      clear M; rintro A11 c11 W M -
      refine cc is_r1putB (refPutBytes_any _ _ _ _ _ (M.rdb 1 rfl).2.2 (by omega)) ?_
      rintro e W ⟨A12, c12, rfl, o12, hb⟩
      replace M := M.callO hb o12
      clear o12 hb
      refine ⟨_, rfl, ?_⟩
      refine s_appB M rfl rfl (M.rdb 0 rfl).2.2 (by omega) ?_
      clear M; rintro A13 c13 W M -
      refine p_addN (b := 1) rfl rfl (by omega) ?_
      have e2 : P ++ putN r.n.toNat ++ putB (manyB r.rows) = P ++ resB r := by rw [List.append_assoc]; rfl
      have e3 : P.length + (putN r.n.toNat).length + ((putN n8).length + n8) = (P ++ resB r).length := by rw [List.length_append, hrl, en8]; omega
      rw [e2, e3] at M
      refine ⟨(i + 1, true, P ++ resB r, A13, c13), ⟨by dsimp only; omega, fun x hx => ?_, fun h => ?_, hPn, M.fsub _ (by simp)⟩, ?_, by dsimp only; omega⟩
      · rw [List.take_add_one, hri, List.mem_append] at hx
        rcases hx with hx | hx
        · exact hall x hx
        · have : x = r := by simpa using hx
          rw [this]; exact ⟨hr0, hm⟩
      · (have := hPl2; dsimp only; rw [List.length_append]; omega)
      · refine ⟨rfl, ?_, rfl, rfl, trivial⟩
        dsimp only
        rw [← e3]
        rfl
    ·
      refine p_fld fO2 rfl ?_
      refine v_load agg_rs rfl ((M.B 0 rfl).at_ rfl) ?_
      refine p_at (i := i) slrs rfl rfl rfl hil ?_
      refine p_fld fR1 rfl ?_
      refine v_load agg_i rfl (M.lc 1 rfl 1 _ rfl) ?_
      refine v_cvt u_i64t u_u64t rfl (cv64 hr0 hrn) ?_
      refine cc is_r1put (refPut_any _ _ (by omega)) ?_
      rintro e W ⟨A9, c9, rfl, o9, hb⟩
      replace M := M.callO hb o9
      clear o9 hb
      refine ⟨_, rfl, ?_⟩
      refine s_appB M rfl rfl (M.rdb 0 rfl).2.2 (by omega) ?_
      clear M; rintro A11 c11 W M -
      refine cc is_r1putB (refPutBytes_any _ _ _ _ _ (M.rdb 1 rfl).2.2 (by omega)) ?_
      rintro e W ⟨A12, c12, rfl, o12, hb⟩
      replace M := M.callO hb o12
      clear o12 hb
      refine ⟨_, rfl, ?_⟩
      refine s_appB M rfl rfl (M.rdb 0 rfl).2.2 (by omega) ?_
      clear M; rintro A13 c13 W M -
      refine p_addN (b := 1) rfl rfl (by omega) ?_
      have e2 : P ++ putN r.n.toNat ++ putB (manyB r.rows) = P ++ resB r := by rw [List.append_assoc]; rfl
      have e3 : P.length + (putN r.n.toNat).length + ((putN n8).length + n8) = (P ++ resB r).length := by rw [List.length_append, hrl, en8]; omega
      rw [e2, e3] at M
      refine ⟨(i + 1, false, P ++ resB r, A13, c13), ⟨by dsimp only; omega, fun x hx => ?_, fun h => ?_, hPn, M.fsub _ (by simp)⟩, ?_, by dsimp only; omega⟩
      · rw [List.take_add_one, hri, List.mem_append] at hx
        rcases hx with hx | hx
        · exact hall x hx
        · have : x = r := by simpa using hx
          rw [this]; exact ⟨hr0, hm⟩
      · (cases h)
      · refine ⟨rfl, ?_, rfl, rfl, trivial⟩
        dsimp only
        rw [← e3]
        rfl
end Go.Proofs.YtejbljopighenaaDoor
