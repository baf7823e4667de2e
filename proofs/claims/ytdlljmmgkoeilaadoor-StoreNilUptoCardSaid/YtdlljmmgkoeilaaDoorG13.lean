/- The walk of trie.Drop. Tries, plainly: put keeps what may be; what stands where; two that hold the same are one. No walk here. Pairs as data; slices of whatever by a function of the elements. Reference 07's walks: right, Check, Same, Much. Reference 07's walks: Same, Much. -/
import Derived.Test.YtdlljmmgkoeilaaDoorG12
import Derived.Test.YtdlljmmgkoeilaaDoorG11
import Derived.Test.YtdlljmmgkoeilaaDoorG08
namespace Go.Proofs.YtdlljmmgkoeilaaDoor
open Go.RowKit
theorem is_tDrop : isFn Tryd.prog 40 = true := by kernel_rfl
structure DropR where
  t : Nd
  has : Bool
  miss : Option (List UInt8)
  e : Int
def tDrop (t : Nd) (key : List UInt8) : DropR :=
  if (tGet t key).e = 0 then (if (tGet t key).has then (match (dropP t (ofB key)).2 with
    | some r => ⟨noneN, false, some r, 80⟩
    | none => ⟨(dropP t (ofB key)).1, true, none, 0⟩) else ⟨t, false, none, 0⟩)
  else ⟨noneN, false, (tGet t key).miss, (tGet t key).e⟩
theorem tGet_cases (t : Nd) (key : List UInt8) : (tri t key.length 0 = false ∧ tGet t key = ⟨[], false, none, 2⟩) ∨ (tri t key.length 0 = true ∧ ((∃ r, (getP t (ofB key)).miss = some r ∧ tGet t key = ⟨[], false, some r, 80⟩) ∨ ((getP t (ofB key)).miss = none ∧ (getP t (ofB key)).has = true ∧ tGet t key = ⟨(getP t (ofB key)).v, true, none, 0⟩) ∨ ((getP t (ofB key)).miss = none ∧ (getP t (ofB key)).has = false ∧ tGet t key = ⟨[], false, none, 0⟩))) := by
  unfold tGet
  cases htri : tri t key.length 0 with
  | false => exact .inl ⟨rfl, rfl⟩
  | true =>
    rw [if_pos rfl]
    refine .inr ⟨rfl, ?_⟩
    cases hm : (getP t (ofB key)).miss with
    | some r => exact .inl ⟨r, rfl, rfl⟩
    | none =>
      cases hh : (getP t (ofB key)).has with
      | true => exact .inr (.inl ⟨rfl, rfl, rfl⟩)
      | false => exact .inr (.inr ⟨rfl, rfl, rfl⟩)
set_option maxRecDepth 100000 in
set_option maxHeartbeats 1000000 in
theorem tDrop_any (t : Nd) (ht : sz t < 500000) (key : List UInt8) (gs : List (Option Nat)) (w : World) (cs : List Value) (A1 : Option Addr) (n c : Nat) (hr : RdL w (Fd w gs) (dN t) cs) (hk : RdD w (Fd w gs) (dB key) (.slice A1 n c)) (hgs : ∀ b, some b ∈ gs → b < w.heap.size) :
    Calls Tryd.prog 40 #[.agg cs.toArray, .slice A1 n c] w fun e w' => ∃ cs' Am nm cm, e = .returned (.tuple #[.agg cs'.toArray, .bool (tDrop t key).has, .slice Am nm cm, .int .i64 (tDrop t key).e]) ∧ RdL w' (Fd w' gs) (dN (tDrop t key).t) cs' ∧ missOk w' (Fr w w') [] (tDrop t key).miss Am nm cm ∧ Below w.heap.size w w' := by
  refine calls_ev (args := [.agg cs.toArray, .slice A1 n c]) mixed Tryd.func40 rfl (by kernel_rfl) ?_
  have hl := hr.len
  rw [dN_len] at hl
  have en := hk.slen
  subst en
  have M := ((St.start hgs).addD hk).addL hr
  refine s_box (cs) M rfl ?_
  clear M
  rintro g2 W M
  refine s_alloc (zN) M al_nd ?_
  clear M
  rintro g4 W M
  refine v_loadN cs agg_nd rfl hl (M.run 1 rfl) ?_
  refine cc is_tGet (tGet_any t (by omega) _ _ cs key A1 _ c (by first | with_reducible exact M.da_0 | with_reducible exact M.da_1 | with_reducible exact M.da_2 | with_reducible exact M.da_3 | with_reducible exact M.da_4 | with_reducible exact M.da_5 | with_reducible exact M.da_6 | with_reducible exact M.da_7 | with_reducible exact M.da_8 | with_reducible exact M.da_9 | with_reducible exact M.da_10 | with_reducible exact M.da_11) (by first | with_reducible exact M.d1_0 | with_reducible exact M.d1_1 | with_reducible exact M.d1_2 | with_reducible exact M.d1_3 | with_reducible exact M.d1_4 | with_reducible exact M.d1_5 | with_reducible exact M.d1_6 | with_reducible exact M.d1_7 | with_reducible exact M.d1_8 | with_reducible exact M.d1_9 | with_reducible exact M.d1_10 | with_reducible exact M.d1_11) M.olt) ?_
  rintro e W3 ⟨A', n', c', Am, nm, cm, rfl, -, hm, hb⟩
  refine ⟨_, rfl, ?_⟩
  obtain ⟨hm, hAm⟩ := hm.un
  replace M := M.callF1 hb hm
  have hcs := tGet_cases t key
  unfold tDrop
  refine p_ne rfl rfl (fun he => ?_) (fun he => ?_)
  · rw [if_pos he]
    have htri : tri t key.length 0 = true ∧ (getP t (ofB key)).miss = none ∧ (getP t (ofB key)).has = (tGet t key).has := by
      rcases hcs with ⟨_, h⟩ | ⟨ht, ⟨r, _, h⟩ | ⟨h1, h2, h⟩ | ⟨h1, h2, h⟩⟩
      · rw [h] at he; exact absurd (show (2 : Int) = 0 from he) (by decide)
      · rw [h] at he; exact absurd (show (80 : Int) = 0 from he) (by decide)
      · exact ⟨ht, h1, by rw [h, h2]⟩
      · exact ⟨ht, h1, by rw [h, h2]⟩
    obtain ⟨htri, hmn, hhg⟩ := htri
    have hval : Val true t 0 := by
      unfold tri at htri
      rw [Bool.and_eq_true] at htri
      exact val_of_right true _ t 0 (Nat.lt_succ_self _) htri.1
    have hkl : key.length ≤ 200 := by
      unfold tri at htri
      simp only [Bool.and_eq_true, decide_eq_true_eq] at htri
      exact htri.2.1
    refine p_not rfl ?_
    cases hh : (tGet t key).has with
    | false =>
      rw [if_neg (by simp)]
      refine v_loadN cs agg_nd rfl hl (M.run 1 rfl) ?_
      refine cc is_ncopy (ncopy_any 10000000 (by decide) t (by omega) _ _ cs (by first | with_reducible exact M.da_0 | with_reducible exact M.da_1 | with_reducible exact M.da_2 | with_reducible exact M.da_3 | with_reducible exact M.da_4 | with_reducible exact M.da_5 | with_reducible exact M.da_6 | with_reducible exact M.da_7 | with_reducible exact M.da_8 | with_reducible exact M.da_9 | with_reducible exact M.da_10 | with_reducible exact M.da_11) M.olt) ?_
      rintro e W4 ⟨cs4, rfl, h4, hb⟩
      refine ⟨_, rfl, ?_⟩
      have hl4 := h4.len
      rw [dN_len] at hl4
      replace M := M.callF hb h4
      refine s_storeA 0 cs4 M rfl sz_nd rfl rfl hl4 (h4.ones (dN_one _)) rfl ?_
      clear M; rintro W M
      dsimp only [setL] at M
      refine c_loadN cs4 agg_nd rfl hl4 (M.run 0 rfl) ?_
      exact ⟨cs4, none, 0, 0, rfl, (by first | with_reducible exact M.fin_0 | with_reducible exact M.fin_1 | with_reducible exact M.fin_2 | with_reducible exact M.fin_3 | with_reducible exact M.fin_4 | with_reducible exact M.fin_5 | with_reducible exact M.fin_6 | with_reducible exact M.fin_7 | with_reducible exact M.fin_8 | with_reducible exact M.fin_9 | with_reducible exact M.fin_10 | with_reducible exact M.fin_11), ⟨rfl, rfl, rfl⟩, M.below⟩
    | true =>
      rw [if_pos rfl]
      rw [hh] at hhg
      refine v_loadN cs agg_nd rfl hl (M.run 1 rfl) ?_
      refine cc is_ncopy (ncopy_any 10000000 (by decide) t (by omega) _ _ cs (by first | with_reducible exact M.da_0 | with_reducible exact M.da_1 | with_reducible exact M.da_2 | with_reducible exact M.da_3 | with_reducible exact M.da_4 | with_reducible exact M.da_5 | with_reducible exact M.da_6 | with_reducible exact M.da_7 | with_reducible exact M.da_8 | with_reducible exact M.da_9 | with_reducible exact M.da_10 | with_reducible exact M.da_11) M.olt) ?_
      rintro e W4 ⟨cs4, rfl, h4, hb⟩
      refine ⟨_, rfl, ?_⟩
      have hl4 := h4.len
      rw [dN_len] at hl4
      replace M := M.callF hb h4
      obtain ⟨_, _, hkr⟩ := (show RdD _ _ (dB key) (.slice A1 key.length c) from (by first | with_reducible exact M.d1_0 | with_reducible exact M.d1_1 | with_reducible exact M.d1_2 | with_reducible exact M.d1_3 | with_reducible exact M.d1_4 | with_reducible exact M.d1_5 | with_reducible exact M.d1_6 | with_reducible exact M.d1_7 | with_reducible exact M.d1_8 | with_reducible exact M.d1_9 | with_reducible exact M.d1_10 | with_reducible exact M.d1_11)).rd Fd.lt
      refine cc is_nof (of_any A1 key.length c key _ hkr (by omega)) ?_
      rintro e W5 ⟨A5, c5, rfl, o5, hb⟩
      refine ⟨_, rfl, ?_⟩
      replace M := M.callO hb o5
      refine s_bslice0 M slb ?_
      clear M; rintro g7 W M
      replace M := M.frzO (l := [])
      refine cc is_tdrop (tdrop_any 500000 (Nat.le_refl _) t ht _ _ cs4 (ofB key) [] A5 _ c5 (some ⟨g7, 0, none⟩) 0 0 0 true (by first | with_reducible exact M.da_0 | with_reducible exact M.da_1 | with_reducible exact M.da_2 | with_reducible exact M.da_3 | with_reducible exact M.da_4 | with_reducible exact M.da_5 | with_reducible exact M.da_6 | with_reducible exact M.da_7 | with_reducible exact M.da_8 | with_reducible exact M.da_9 | with_reducible exact M.da_10 | with_reducible exact M.da_11) (by first | with_reducible exact M.d1_0 | with_reducible exact M.d1_1 | with_reducible exact M.d1_2 | with_reducible exact M.d1_3 | with_reducible exact M.d1_4 | with_reducible exact M.d1_5 | with_reducible exact M.d1_6 | with_reducible exact M.d1_7 | with_reducible exact M.d1_8 | with_reducible exact M.d1_9 | with_reducible exact M.d1_10 | with_reducible exact M.d1_11) (RdD.nil_ _ _) M.olt (halvesB_ofB key) hval hhg (by rw [ofB_length]; simp; omega)) ?_
      rintro e W7 ⟨cs7, Am2, nm2, cm2, rfl, hres, hmiss, hb⟩
      refine ⟨_, rfl, ?_⟩
      obtain ⟨hm7, hAm7⟩ := hmiss.un
      replace M := (M.callF1 hb hm7).addL hres
      have hl7 := hres.len
      rw [dN_len] at hl7
      have hmd := M.d1 1 rfl
      refine s_alloc (zN) M al_nd ?_
      clear M
      rintro g12 W M
      refine s_storeA 0 cs7 M rfl sz_nd rfl rfl hl7 (hres.ones (dN_one _)) rfl ?_
      clear M; rintro W M
      dsimp only [setL] at M
      refine p_slnn isSlb rfl rfl (fun hA0 => ?_) (fun hA1 => ?_)
      · have hnone : (dropP t (ofB key)).2 = none := by
          cases h : (dropP t (ofB key)).2 with
          | none => rfl
          | some r => exact absurd hA0 (hAm7 (by rw [h]; rfl))
        rw [hnone]
        refine v_loadN cs7 agg_nd rfl hl7 (M.run 0 rfl) ?_
        refine s_storeA 1 cs7 M rfl sz_nd rfl rfl hl7 (hres.ones (dN_one _)) rfl ?_
        clear M; rintro W M
        dsimp only [setL] at M
        refine c_loadN cs7 agg_nd rfl hl7 (M.run 1 rfl) ?_
        exact ⟨cs7, none, 0, 0, rfl, (by first | with_reducible exact M.fin_0 | with_reducible exact M.fin_1 | with_reducible exact M.fin_2 | with_reducible exact M.fin_3 | with_reducible exact M.fin_4 | with_reducible exact M.fin_5 | with_reducible exact M.fin_6 | with_reducible exact M.fin_7 | with_reducible exact M.fin_8 | with_reducible exact M.fin_9 | with_reducible exact M.fin_10 | with_reducible exact M.fin_11), ⟨rfl, rfl, rfl⟩, M.below⟩
      · obtain ⟨r, hsome⟩ : ∃ r, (dropP t (ofB key)).2 = some r := by
          cases h : (dropP t (ofB key)).2 with
          | none => rw [h] at hmd; exact absurd (missD_none (way := []) hmd rfl).1 hA1
          | some r => exact ⟨r, rfl⟩
        clear hmd
        rw [hsome] at M hAm7 ⊢
        refine p_build (vs := zN) pl_nd z_nd rfl ?_
        refine s_storeA 1 zN M rfl sz_nd rfl rfl rfl (all1 rfl) rfl ?_
        clear M; rintro W M
        dsimp only [setL] at M
        refine c_loadN zN agg_nd rfl rfl (M.run 1 rfl) ?_
        exact ⟨zN, Am2, nm2, cm2, rfl, RdL.znone, missOk.mk (by first | with_reducible exact M.finF1_0 | with_reducible exact M.finF1_1 | with_reducible exact M.finF1_2 | with_reducible exact M.finF1_3 | with_reducible exact M.finF1_4 | with_reducible exact M.finF1_5 | with_reducible exact M.finF1_6 | with_reducible exact M.finF1_7 | with_reducible exact M.finF1_8 | with_reducible exact M.finF1_9 | with_reducible exact M.finF1_10 | with_reducible exact M.finF1_11) hAm7, M.below⟩
  · rw [if_neg he]
    refine p_build (vs := zN) pl_nd z_nd rfl ?_
    refine s_storeA 0 zN M rfl sz_nd rfl rfl rfl (all1 rfl) rfl ?_
    clear M; rintro W M
    dsimp only [setL] at M
    refine c_loadN zN agg_nd rfl rfl (M.run 0 rfl) ?_
    exact ⟨zN, Am, nm, cm, rfl, RdL.znone, missOk.mk (by first | with_reducible exact M.finF1_0 | with_reducible exact M.finF1_1 | with_reducible exact M.finF1_2 | with_reducible exact M.finF1_3 | with_reducible exact M.finF1_4 | with_reducible exact M.finF1_5 | with_reducible exact M.finF1_6 | with_reducible exact M.finF1_7 | with_reducible exact M.finF1_8 | with_reducible exact M.finF1_9 | with_reducible exact M.finF1_10 | with_reducible exact M.finF1_11) hAm, M.below⟩
end Go.Proofs.YtdlljmmgkoeilaaDoor
namespace Go.Proofs.YtdlljmmgkoeilaaDoor
theorem halvesB_take' {q : List UInt8} (n : Nat) (h : halvesB q = true) : halvesB (q.take n) = true := by
  unfold halvesB at *
  rw [List.all_eq_true] at *
  exact fun x hx => h x (List.mem_of_mem_take hx)
theorem halvesB_app {p q : List UInt8} : halvesB (p ++ q) = (halvesB p && halvesB q) := by unfold halvesB; rw [List.all_append]
theorem endsP_le {d : Nat} {even : Bool} (h : endsP d even = true) : d ≤ 400 := by
  unfold endsP at h
  rw [Bool.and_eq_true, decide_eq_true_eq] at h
  exact h.1
theorem Val.le {even : Bool} {t : Nd} {d : Nat} (h : Val even t d) : d ≤ 400 := by cases h <;> assumption
theorem common_split : ∀ (p q : List UInt8), p.take (commonB p q) = q.take (commonB p q) ∧ ((p.drop (commonB p q) = [] ∨ q.drop (commonB p q) = []) ∨ ∃ a b p' q', a ≠ b ∧ p.drop (commonB p q) = a :: p' ∧ q.drop (commonB p q) = b :: q')
  | [], q => by simp [commonB]
  | _ :: _, [] => by simp [commonB]
  | a :: p, b :: q => by
    unfold commonB
    by_cases h : a = b
    · rw [if_pos h]
      obtain ⟨h1, h2⟩ := common_split p q
      refine ⟨by rw [List.take_succ_cons, List.take_succ_cons, h, h1], ?_⟩
      rw [List.drop_succ_cons, List.drop_succ_cons]
      exact h2
    · rw [if_neg h]
      exact ⟨by simp, .inr ⟨a, b, p, q, h, rfl, rfl⟩⟩
theorem manyN_set {ks : List Nd} {i : Nat} {k' : Nd} (h : k'.kind ≠ 0) (hi : i < ks.length) : manyN ks ≤ manyN (ks.set i k') ∧ 1 ≤ manyN (ks.set i k') ∧ (((ks.getD i noneN).kind = 0) → manyN (ks.set i k') = manyN ks + 1) := by
  induction ks generalizing i with
  | nil => simp at hi
  | cons t ks ih =>
    cases i with
    | zero =>
      rw [List.set_cons_zero]
      have e1 : manyN (k' :: ks) = manyN ks + 1 := by unfold manyN; rw [List.filter_cons, if_pos (by simp [h]), List.length_cons]
      simp only [List.getD_cons_zero]
      by_cases ht : t.kind = 0
      · have e2 : manyN (t :: ks) = manyN ks := by unfold manyN; rw [List.filter_cons, if_neg (by simp [ht])]
        exact ⟨by omega, by omega, fun _ => by omega⟩
      · have e2 : manyN (t :: ks) = manyN ks + 1 := by unfold manyN; rw [List.filter_cons, if_pos (by simp [ht]), List.length_cons]
        exact ⟨by omega, by omega, fun h0 => absurd h0 ht⟩
    | succ i =>
      obtain ⟨h1, h2, h3⟩ := ih (i := i) (by simpa using hi)
      unfold manyN at *
      rw [List.set_cons_succ, List.filter_cons, List.filter_cons]
      simp only [List.getD_cons_succ]
      split
      · simp only [List.length_cons]; exact ⟨by omega, by omega, fun h0 => by rw [h3 h0]⟩
      · exact ⟨h1, h2, h3⟩
theorem noneNs_len (n : Nat) : (noneNs n).length = n := by
  induction n with
  | zero => rfl
  | succ n ih => simp [noneNs] at *
theorem noneNs_mem {n : Nat} {k : Nd} (h : k ∈ noneNs n) : k = noneN := by
  unfold noneNs at h
  exact (List.mem_replicate.1 h).2
theorem along_kind (p : List UInt8) (t : Nd) (h : t.kind ≠ 0) : (alongN p t).kind ≠ 0 := by
  unfold alongN; split
  · exact h
  · exact (show (2 : Int) ≠ 0 by decide)
theorem put_kind0 {even : Bool} {t : Nd} {d : Nat} (h : Val even t d) (q val : List UInt8) : (putP t q val).1.kind ≠ 0 ∧ (t.kind = 3 → (putP t q val).1.kind = 3) := by
  have hf : ∀ t : Nd, (forkN t q val).kind ≠ 0 := fun t => by unfold forkN; exact along_kind _ _ (show (3 : Int) ≠ 0 by decide)
  cases h with
  | none => rw [putP_none]; exact ⟨(show (1 : Int) ≠ 0 by decide), fun h => absurd (show (0 : Int) = 3 from h) (by decide)⟩
  | leaf d p v =>
    rw [putP_leaf]
    refine ⟨?_, fun h => absurd (show (1 : Int) = 3 from h) (by decide)⟩
    split
    · exact (show (1 : Int) ≠ 0 by decide)
    · exact hf _
  | stub d h => rw [putP_stub]; exact ⟨(show (4 : Int) ≠ 0 by decide), fun h => absurd (show (4 : Int) = 3 from h) (by decide)⟩
  | way d p k =>
    refine ⟨?_, fun h => absurd (show (2 : Int) = 3 from h) (by decide)⟩
    by_cases hp : p <+: q
    · rw [putP_way hp]; exact (show (2 : Int) ≠ 0 by decide)
    · rw [putP_way0 hp]; exact hf _
  | branch d has v ks hd hv hv0 he h16 hr hm =>
    match q with
    | [] => rw [putP_br0]; exact ⟨(show (3 : Int) ≠ 0 by decide), fun _ => rfl⟩
    | x :: q' =>
      by_cases hx : x.toNat < ks.length
      · rw [putP_br (List.getElem?_eq_getElem hx)]; exact ⟨(show (3 : Int) ≠ 0 by decide), fun _ => rfl⟩
      · have e : (putP (.mk 3 [] has v ks []) (x :: q') val).1.kind = 3 := by
          conv => lhs; rw [putP.eq_def]
          simp [Nd.kind]
        rw [e]; exact ⟨by decide, fun _ => rfl⟩
/-- A branch that holds one more: what is held. -/
theorem hold_val {even : Bool} {d : Nat} {has : Bool} {v : List UInt8} {ks : List Nd} {p val : List UInt8} (h16 : ks.length = 16) (hr : ∀ k ∈ ks, Val even k (d + 1)) (hd : d + 1 ≤ 400) (hhas : has = true → endsP d even = true) (hv0 : has = true ∨ v = []) (hv : v.length ≤ 4000)
    (hp : halvesB p = true) (hpe : endsP (d + p.length) even = true) (hval : val.length ≤ 4000) :
    (holdK has v ks p val).2.2.length = 16 ∧ (∀ k ∈ (holdK has v ks p val).2.2, Val even k (d + 1)) ∧ ((holdK has v ks p val).1 = true → endsP d even = true) ∧ ((holdK has v ks p val).1 = true ∨ (holdK has v ks p val).2.1 = []) ∧ (holdK has v ks p val).2.1.length ≤ 4000 := by
  cases p with
  | nil => exact ⟨h16, hr, fun _ => by simpa using hpe, .inl rfl, hval⟩
  | cons x q =>
    unfold holdK
    refine ⟨by simp [h16], fun k hk => ?_, hhas, hv0, hv⟩
    rcases List.mem_or_eq_of_mem_set hk with hk | rfl
    · exact hr k hk
    · refine .leaf _ _ _ hd ?_ hval (by rw [List.length_cons] at hpe; rw [show d + 1 + q.length = d + (q.length + 1) by omega]; exact hpe)
      have := halvesB_drop (n := 1) hp
      simpa using this
theorem along_val {even : Bool} {d : Nat} {p : List UInt8} {t : Nd} (hd : d ≤ 400) (hp : halvesB p = true) (hk : t.kind = 3 ∨ t.kind = 4) (hr : Val even t (d + p.length)) : Val even (alongN p t) d := by
  unfold alongN
  split
  · rename_i h; rw [h] at hr; exact hr
  · rename_i h; exact .way d p t hd hp h hk hr
theorem fork_val {even : Bool} {d : Nat} {t : Nd} {q val : List UInt8} (ht : Val even t d) (hf : (∃ p v, t = .mk 1 p false v [] [] ∧ p ≠ q) ∨ ∃ p k, t = .mk 2 p false [] [k] [] ∧ ¬ p <+: q)
    (hq : halvesB q = true) (hqe : endsP (d + q.length) even = true) (hval : val.length ≤ 4000) : Val even (forkN t q val) d := by
  have hd := ht.le
  have hle := endsP_le hqe
  obtain ⟨K, hK⟩ : ∃ K, K = commonB t.path q := ⟨_, rfl⟩
  obtain ⟨hs1, hs2⟩ := common_split t.path q
  rw [← hK] at hs1 hs2
  have hKl := commonB_le t.path q
  rw [← hK] at hKl
  have hqd : halvesB (q.drop K) = true := halvesB_drop hq
  have hqd' : endsP (d + K + (q.drop K).length) even = true := by rw [List.length_drop, show d + K + (q.length - K) = d + q.length by omega]; exact hqe
  have none16 : ∀ e, e ≤ 400 → ∀ k ∈ noneNs 16, Val even k e := fun e he k hk => by rw [noneNs_mem hk]; exact .none e he
  have hnd : ∀ i, ((noneNs 16).getD i noneN).kind = 0 := fun i => by
    rw [List.getD_eq_getElem?_getD]
    cases h : (noneNs 16)[i]? with
    | none => rfl
    | some k => rw [noneNs_mem (List.mem_of_getElem? h)]; rfl
  have hn16 := noneNs_len 16
  unfold forkN
  rw [← hK]
  refine along_val hd (halvesB_take' _ hq) (.inl rfl) ?_
  rw [show (q.take K).length = K by rw [List.length_take]; omega]
  rcases hf with ⟨p, v, rfl, hne⟩ | ⟨p, k, rfl, hne⟩
  · cases ht with
    | leaf _ _ _ _ hp hv he =>
    simp only [Nd.path, Nd.kind, Nd.val, if_pos] at *
    have hle2 := endsP_le he
    have hd1 : d + K + 1 ≤ 400 := by
      rcases hs2 with (h | h) | ⟨a, b, p', q', _, h1, h2⟩
      · have h3 : K = p.length := by have := congrArg List.length h; rw [List.length_drop] at this; simp at this; omega
        have h4 : K ≠ q.length := fun e => hne (by
          rw [List.take_of_length_le (by omega), List.take_of_length_le (by omega)] at hs1; exact hs1)
        omega
      · have h3 : K = q.length := by have := congrArg List.length h; rw [List.length_drop] at this; simp at this; omega
        have h4 : K ≠ p.length := fun e => hne (by
          rw [List.take_of_length_le (by omega), List.take_of_length_le (by omega)] at hs1; exact hs1)
        omega
      · have := congrArg List.length h1; rw [List.length_drop, List.length_cons] at this; omega
    have hpd' : endsP (d + K + (p.drop K).length) even = true := by rw [List.length_drop, show d + K + (p.length - K) = d + p.length by omega]; exact he
    obtain ⟨b1, b2, b3, b4, b5⟩ := hold_val (even := even) (d := d + K) (has := false) (v := []) (ks := noneNs 16) (p := p.drop K) (val := v) hn16 (none16 _ hd1) hd1 (fun h => by cases h) (.inr rfl) (by simp) (halvesB_drop hp) hpd' hv
    obtain ⟨c1, c2, c3, c4, c5⟩ := hold_val (p := q.drop K) (val := val) b1 b2 hd1 b3 b4 b5 hqd hqd' hval
    refine .branch _ _ _ _ (by omega) c5 c4 c3 c1 c2 ?_
    rcases hs2 with (h | h) | ⟨a, b, p', q', hab, h1, h2⟩
    · cases hqk : q.drop K with
      | nil =>
        exfalso
        have h3 : K = p.length := by have := congrArg List.length h; rw [List.length_drop] at this; simp at this; omega
        have h4 : K = q.length := by have := congrArg List.length hqk; rw [List.length_drop] at this; simp at this; omega
        exact hne (by rw [List.take_of_length_le (by omega), List.take_of_length_le (by omega)] at hs1; exact hs1)
      | cons x q' =>
        rw [h]
        have hx := halves_hd (hqk ▸ hqd)
        have := (manyN_set (ks := noneNs 16) (i := x.toNat) (k' := leafN q' val) (by exact (show (1 : Int) ≠ 0 by decide)) (by omega)).2.1
        simp only [holdK, if_pos]; omega
    · cases hpk : p.drop K with
      | nil =>
        exfalso
        have h3 : K = q.length := by have := congrArg List.length h; rw [List.length_drop] at this; simp at this; omega
        have h4 : K = p.length := by have := congrArg List.length hpk; rw [List.length_drop] at this; simp at this; omega
        exact hne (by rw [List.take_of_length_le (by omega), List.take_of_length_le (by omega)] at hs1; exact hs1)
      | cons x p' =>
        rw [h]
        have hx := halves_hd (hpk ▸ halvesB_drop hp)
        have := (manyN_set (ks := noneNs 16) (i := x.toNat) (k' := leafN p' v) (by exact (show (1 : Int) ≠ 0 by decide)) (by omega)).2.1
        simp only [holdK, if_pos]; omega
    · rw [h1, h2]
      have hx := halves_hd (h1 ▸ halvesB_drop hp)
      have hy := halves_hd (h2 ▸ hqd)
      have m1 := (manyN_set (ks := noneNs 16) (i := a.toNat) (k' := leafN p' v) (by exact (show (1 : Int) ≠ 0 by decide)) (by omega)).2.1
      have m2 := (manyN_set (ks := (noneNs 16).set a.toNat (leafN p' v)) (i := b.toNat) (k' := leafN q' val) (by exact (show (1 : Int) ≠ 0 by decide)) (by rw [List.length_set]; omega)).2.2 (by
        rw [List.getD_eq_getElem?_getD, List.getElem?_set_ne (fun e => hab (UInt8.toNat_inj.1 e)), ← List.getD_eq_getElem?_getD]; exact hnd _)
      simp only [holdK, Bool.false_eq_true, if_false]; omega
  · cases ht with
    | way _ _ _ _ hp h0 hk hr =>
    simp only [Nd.path, Nd.kind, Nd.val, Nd.kids, List.headD_cons] at *
    simp only [Int.reduceEq, if_false]
    have hrl := hr.le
    have hKp : K < p.length := by
      rcases Nat.lt_or_ge K p.length with h | h
      · exact h
      · exfalso
        apply hne
        rw [List.take_of_length_le (by omega)] at hs1
        exact hs1 ▸ List.take_prefix _ _
    have hd1 : d + K + 1 ≤ 400 := by omega
    obtain ⟨a, p', hpk⟩ : ∃ a p', p.drop K = a :: p' := by
      cases h : p.drop K with
      | nil => have := congrArg List.length h; rw [List.length_drop] at this; simp at this; omega
      | cons a p' => exact ⟨a, p', rfl⟩
    have ha : p.getD K 0 = a := by
      have := congrArg (fun l => l.getD 0 0) hpk
      simp [List.getD_eq_getElem?_getD] at this
      rw [List.getD_eq_getElem?_getD]; exact this
    have hp' : p.drop (K + 1) = p' := by
      rw [show K + 1 = K + 1 from rfl, ← List.drop_drop, hpk]; rfl
    rw [ha, hp']
    have hx := halves_hd (hpk ▸ halvesB_drop hp)
    have hpl : p.length = K + 1 + p'.length := by have := congrArg List.length hpk; rw [List.length_drop, List.length_cons] at this; omega
    have hak : (alongN p' k).kind ≠ 0 := along_kind _ _ (fun e => by rcases hk with h | h <;> exact absurd (h.symm.trans e) (by decide))
    have hav : Val even (alongN p' k) (d + K + 1) := along_val (by omega) (by rw [← hp']; exact halvesB_drop hp) hk (by rw [show d + K + 1 + p'.length = d + p.length by omega]; exact hr)
    obtain ⟨c1, c2, c3, c4, c5⟩ := hold_val (even := even) (d := d + K) (has := false) (v := []) (ks := (noneNs 16).set a.toNat (alongN p' k)) (p := q.drop K) (val := val) (by rw [List.length_set]; exact hn16) (fun x hx => by
      rcases List.mem_or_eq_of_mem_set hx with hx | rfl
      · exact none16 _ hd1 x hx
      · exact hav) hd1 (fun h => by cases h) (.inr rfl) (by simp) hqd hqd' hval
    refine .branch _ _ _ _ (by omega) c5 c4 c3 c1 c2 ?_
    have m1 := (manyN_set (ks := noneNs 16) (i := a.toNat) (k' := alongN p' k) hak (by omega)).2.1
    rcases hs2 with (h | h) | ⟨a', b, p'', q', hab, h1, h2⟩
    · rw [hpk] at h; cases h
    · rw [h]; simp only [holdK, if_pos]; omega
    · rw [h2]
      rw [hpk] at h1
      injection h1 with e1 e2
      subst e1
      have hy := halves_hd (h2 ▸ hqd)
      have m2 := (manyN_set (ks := (noneNs 16).set a.toNat (alongN p' k)) (i := b.toNat) (k' := leafN q' val) (by exact (show (1 : Int) ≠ 0 by decide)) (by rw [List.length_set]; omega)).2.2 (by
        rw [List.getD_eq_getElem?_getD, List.getElem?_set_ne (fun e => hab (UInt8.toNat_inj.1 e)), ← List.getD_eq_getElem?_getD]; exact hnd _)
      simp only [holdK, Bool.false_eq_true, if_false]; omega
theorem put_val {even : Bool} {t : Nd} {d : Nat} (h : Val even t d) : ∀ (q val : List UInt8), halvesB q = true → endsP (d + q.length) even = true → val.length ≤ 4000 → (putP t q val).2 = none → Val even (putP t q val).1 d := by
  induction h with
  | none d hd => intro q val hq he hv _; rw [putP_none]; exact .leaf d q val hd hq hv he
  | leaf d p v hd hp hv' he' =>
    intro q val hq he hv _
    rw [putP_leaf]
    split
    · exact .leaf d q val hd hq hv he
    · rename_i hne
      exact fork_val (.leaf d p v hd hp hv' he') (.inl ⟨p, v, rfl, hne⟩) hq he hv
  | stub d h hd hh => intro q val hq he hv hm; rw [putP_stub] at hm; cases hm
  | way d p k hd hp h0 hk hr ih =>
    intro q val hq he hv hm
    by_cases hpq : p <+: q
    · rw [putP_way hpq] at hm ⊢
      have hm' : (putP k (q.drop p.length) val).2 = none := by simpa using hm
      have hk3 : k.kind = 3 := by
        rcases hk with h | h
        · exact h
        · cases hr with
          | stub => rw [putP_stub] at hm'; cases hm'
          | _ => cases h
      have hl := hpq.length_le
      refine .way d p _ hd hp h0 (.inl ((put_kind0 hr _ _).2 hk3)) (ih _ val (halvesB_drop hq) ?_ hv hm')
      rw [List.length_drop, show d + p.length + (q.length - p.length) = d + q.length by omega]; exact he
    · rw [putP_way0 hpq]
      exact fork_val (.way d p k hd hp h0 hk hr) (.inr ⟨p, k, rfl, hpq⟩) hq he hv
  | branch d has v ks hd hv' hv0 he' h16 hr hm ih =>
    intro q val hq he hv hmm
    match q, hq, he, hmm with
    | [], hq, he, _ =>
      rw [putP_br0]
      refine .branch d true val ks hd hv (.inl rfl) (fun _ => by simpa using he) h16 hr ?_
      cases has with
      | true => exact hm
      | false => simp only [Bool.false_eq_true, if_false, if_pos] at *; omega
    | x :: q', hq, he, hmm =>
      have hx := halves_hd hq
      obtain ⟨k, hki⟩ : ∃ k, ks[x.toNat]? = some k := ⟨_, List.getElem?_eq_getElem (by omega)⟩
      rw [putP_br hki] at hmm ⊢
      have hkm := List.mem_of_getElem? hki
      have hkk := put_kind0 (hr k hkm) q' val
      refine .branch d has v _ hd hv' hv0 he' (by rw [List.length_set]; exact h16) (fun y hy => ?_) ?_
      · rcases List.mem_or_eq_of_mem_set hy with hy | rfl
        · exact hr y hy
        · refine ih k hkm q' val (by have := halvesB_drop (n := 1) hq; simpa using this) ?_ hv (by simpa using hmm)
          rw [List.length_cons] at he
          rw [show d + 1 + q'.length = d + (q'.length + 1) by omega]; exact he
      · have := (manyN_set (i := x.toNat) hkk.1 (show x.toNat < ks.length by omega)).1
        omega
end Go.Proofs.YtdlljmmgkoeilaaDoor
namespace Go.Proofs.YtdlljmmgkoeilaaDoor
open Go.RowKit
structure Pr where
  k : List UInt8
  v : List UInt8
deriving DecidableEq
def dPr (p : Pr) : List D := [dB p.k, dB p.v]
def dPrs (l : List Pr) : List D := l.flatMap dPr
theorem flat_len {α : Type} {f : α → List D} {s : Nat} (hf : ∀ x, (f x).length = s) : ∀ l : List α, (l.flatMap f).length = l.length * s
  | [] => by simp
  | x :: l => by rw [List.flatMap_cons, List.length_append, hf, flat_len hf l, List.length_cons, Nat.add_mul, Nat.one_mul, Nat.add_comm]
theorem flat_at {α : Type} {f : α → List D} {s : Nat} (hf : ∀ x, (f x).length = s) : ∀ {l : List α} {i : Nat} {x : α}, l[i]? = some x → ((l.flatMap f).drop (i * s)).take s = f x
  | y :: l, 0, x, h => by
    simp at h; subst h
    rw [Nat.zero_mul, List.drop_zero, List.flatMap_cons, List.take_append_of_le_length (by rw [hf]; omega), List.take_of_length_le (by rw [hf]; omega)]
  | y :: l, i + 1, x, h => by
    rw [List.flatMap_cons, show (i + 1) * s = (f y).length + i * s by rw [hf, Nat.add_mul]; omega, ← List.drop_drop, List.drop_left]
    exact flat_at hf (by simpa using h)
/-- An element. -/
theorem RdD.elt {W : World} {F : Nat → Prop} {α : Type} (f : α → List D) (s : Nat) (hf : ∀ x, (f x).length = s) {l : List α} {A : Option Addr} {n c i : Nat} {x : α} (h : RdD W F (.sl s l.length (l.flatMap f)) (.slice A n c)) (hi : l[i]? = some x) :
    ∃ b off es, A = some ⟨b, off, none⟩ ∧ F b ∧ RdL W F (f x) es ∧ es.length = s ∧ ∀ j y, es[j]? = some y → W.cell? (((⟨b, off, none⟩ : Addr).add (i * s)).add j) = some y := by
  have hn := h.slen
  have hil := (List.getElem?_eq_some_iff.1 hi).1
  obtain ⟨b, off, es, e1, hF, hes, hel, hc⟩ := h.at_ (i := i) (by omega)
  rw [flat_at hf hi] at hes
  exact ⟨b, off, es, e1, hF, hes, hel, fun j y hy => by rw [Addr.add_lit, Addr.add_lit]; exact hc j y hy⟩
theorem dPr_len (p : Pr) : (dPr p).length = 2 := rfl
abbrev dPl (l : List Pr) : D := .sl 2 l.length (dPrs l)
def pcs (p : Pr) (Ak : Option Addr) (ck : Nat) (Av : Option Addr) (cv : Nat) : List Value := [.slice Ak p.k.length ck, .slice Av p.v.length cv]
theorem RdL.pair {W : World} {F : Nat → Prop} {p : Pr} {cs : List Value} (h : RdL W F (dPr p) cs) : ∃ Ak ck Av cv, cs = pcs p Ak ck Av cv ∧ RdD W F (dB p.k) (.slice Ak p.k.length ck) ∧ RdD W F (dB p.v) (.slice Av p.v.length cv) := by
  obtain ⟨u0, _, rfl, h0, h⟩ := (show RdL W F [dB p.k, dB p.v] cs from h).uncons
  obtain ⟨u1, _, rfl, h1, h⟩ := h.uncons
  rw [h.isnil]
  obtain ⟨A0, c0, e0, _⟩ := h0.open_
  obtain ⟨A1, c1, e1, _⟩ := h1.open_
  subst e0; subst e1
  exact ⟨A0, c0, A1, c1, rfl, h0, h1⟩
/-- A pair of a slice that stays. -/
theorem St.pair {w W : World} {gs : List (Option Nat)} {L : Lc} {R : List Row} {fs : List Fact} (M : St w gs W L R fs) {l : List Pr} {A : Option Addr} {n c i : Nat} {p : Pr} (h : RdD W (Fd W (own L R gs)) (dPl l) (.slice A n c)) (hi : l[i]? = some p) :
    ∃ b off Ak ck Av cv, A = some ⟨b, off, none⟩ ∧ St w gs W L R (.loc ((⟨b, off, none⟩ : Addr).add (i * 2)) (pcs p Ak ck Av cv) :: .dat false [dB p.k] [.slice Ak p.k.length ck] :: .dat false [dB p.v] [.slice Av p.v.length cv] :: fs) := by
  obtain ⟨b, off, es, e, hF, hes, hel, hc⟩ := RdD.elt dPr 2 dPr_len h hi
  obtain ⟨Ak, ck, Av, cv, rfl, h1, h2⟩ := hes.pair
  exact ⟨b, off, Ak, ck, Av, cv, e, ((M.addD h2).addD h1).addC (by rw [block_of_add]; exact hF) hc⟩
theorem slp : slOf Tryd.prog 22 = some (55, 2) := by kernel_rfl
theorem agg_pr : aggOf Tryd.prog 55 = some (true, 2) := by kernel_rfl
theorem fP0 : fieldOff Tryd.prog 55 0 = some 0 := by kernel_rfl
theorem fP1 : fieldOff Tryd.prog 55 1 = some 1 := by kernel_rfl
def zP : List Value := [.slice none 0 0, .slice none 0 0]
theorem pl_pr : placesOf Tryd.prog 55 = some [(0, 1), (1, 1)] := by kernel_rfl
theorem z_pr : zeroOf Tryd.prog 55 = some zP := by kernel_rfl
theorem agg_prs : aggOf Tryd.prog 22 = some (false, 1) := by kernel_rfl
theorem prinfo : (Tryd.prog.info? 55).map (fun i => (i.zero, i.size, i.bytes)) = some (some (.agg zP.toArray), 2, 48) := by kernel_rfl
/-- How much a trie grows. -/
theorem szs_set_eq : ∀ {ks : List Nd} {i : Nat} {k k' : Nd}, ks[i]? = some k → szs (ks.set i k') + sz k = szs ks + sz k'
  | t :: ks, 0, k, k', h => by simp at h; subst h; rw [List.set_cons_zero, szs, szs]; omega
  | t :: ks, i + 1, k, k', h => by have := szs_set_eq (ks := ks) (i := i) (k := k) (k' := k') (by simpa using h); rw [List.set_cons_succ, szs, szs]; omega
theorem szs_noneNs : ∀ n, szs (noneNs n) = 6 * n
  | 0 => rfl
  | n + 1 => by
    show szs (noneN :: noneNs n) = _
    rw [szs, szs_noneNs n]
    show sz noneN + _ = _
    rw [show sz noneN = 6 by decide]; omega
theorem noneNs_get {i n : Nat} (h : i < n) : (noneNs n)[i]? = some noneN := by
  unfold noneNs; rw [List.getElem?_replicate, if_pos h]
theorem sz_leafN (p v : List UInt8) : sz (leafN p v) = 6 + p.length + v.length := by unfold leafN; rw [sz, szs]; simp
theorem sz_alongN (p : List UInt8) (t : Nd) : sz (alongN p t) ≤ 6 + p.length + sz t := by
  unfold alongN; split
  · omega
  · rw [sz, szs, szs]; simp
theorem sz_mk3 (has : Bool) (v : List UInt8) (ks : List Nd) : sz (.mk 3 [] has v ks []) = 6 + v.length + szs ks := by rw [sz]; simp
/-- What holding one more costs. -/
theorem szs_hold {has : Bool} {v : List UInt8} {ks : List Nd} {p val : List UInt8} (h16 : ks.length = 16) (hp : halvesB p = true) : (holdK has v ks p val).2.1.length + szs (holdK has v ks p val).2.2 ≤ v.length + szs ks + p.length + val.length + 6 := by
  cases p with
  | nil => simp only [holdK, List.length_nil]; omega
  | cons x q =>
    have hx := halves_hd hp
    obtain ⟨k, hk⟩ : ∃ k, ks[x.toNat]? = some k := ⟨_, List.getElem?_eq_getElem (by omega)⟩
    have h1 := szs_set_eq (k' := leafN q val) hk
    have h2 := sz_leafN q val
    simp only [holdK, List.length_cons]; omega
theorem hold_len {has : Bool} {v : List UInt8} {ks : List Nd} {p val : List UInt8} (h16 : ks.length = 16) : (holdK has v ks p val).2.2.length = 16 := by
  cases p with
  | nil => exact h16
  | cons x q => simp only [holdK, List.length_set]; exact h16
theorem sz_fork {even : Bool} {d : Nat} {t : Nd} {q val : List UInt8} (ht : Val even t d) (hf : (∃ p v, t = .mk 1 p false v [] []) ∨ ∃ p k, t = .mk 2 p false [] [k] [] ∧ ¬ p <+: q) (hq : halvesB q = true) : sz (forkN t q val) ≤ sz t + 130 + q.length + val.length := by
  have h1 := sz_alongN (q.take (commonB t.path q)) (.mk 3 [] false [] [] [])
  have hs := szs_noneNs 16
  have hn := noneNs_len 16
  have hqt : (q.take (commonB t.path q)).length + (q.drop (commonB t.path q)).length = q.length := by rw [List.length_take, List.length_drop]; have := (commonB_le t.path q).2; omega
  unfold forkN
  rcases hf with ⟨p, v, rfl⟩ | ⟨p, k, rfl, hne⟩
  · cases ht with
    | leaf _ _ _ _ hp hv he =>
    simp only [Nd.path, Nd.kind, Nd.val, if_pos] at *
    have a1 := szs_hold (has := false) (v := []) (ks := noneNs 16) (p := p.drop (commonB p q)) (val := v) hn (halvesB_drop hp)
    have a2 := szs_hold (has := (holdK false [] (noneNs 16) (p.drop (commonB p q)) v).1) (v := (holdK false [] (noneNs 16) (p.drop (commonB p q)) v).2.1) (ks := (holdK false [] (noneNs 16) (p.drop (commonB p q)) v).2.2) (p := q.drop (commonB p q)) (val := val) (hold_len hn) (halvesB_drop hq)
    have a3 := sz_alongN (q.take (commonB p q)) (.mk 3 [] (holdK (holdK false [] (noneNs 16) (p.drop (commonB p q)) v).1 (holdK false [] (noneNs 16) (p.drop (commonB p q)) v).2.1 (holdK false [] (noneNs 16) (p.drop (commonB p q)) v).2.2 (q.drop (commonB p q)) val).1 (holdK (holdK false [] (noneNs 16) (p.drop (commonB p q)) v).1 (holdK false [] (noneNs 16) (p.drop (commonB p q)) v).2.1 (holdK false [] (noneNs 16) (p.drop (commonB p q)) v).2.2 (q.drop (commonB p q)) val).2.1 (holdK (holdK false [] (noneNs 16) (p.drop (commonB p q)) v).1 (holdK false [] (noneNs 16) (p.drop (commonB p q)) v).2.1 (holdK false [] (noneNs 16) (p.drop (commonB p q)) v).2.2 (q.drop (commonB p q)) val).2.2 [])
    rw [sz_mk3] at a3
    have a4 : sz (.mk 1 p false v [] []) = 6 + p.length + v.length := by rw [sz, szs]; simp
    have a5 : (p.drop (commonB p q)).length ≤ p.length := by rw [List.length_drop]; omega
    simp only [List.length_nil] at a1
    omega
  · cases ht with
    | way _ _ _ _ hp h0 hk hr =>
    simp only [Nd.path, Nd.kind, Nd.val, Nd.kids, List.headD_cons] at *
    simp only [Int.reduceEq, if_false]
    have hKp : commonB p q < p.length := by
      rcases Nat.lt_or_ge (commonB p q) p.length with h | h
      · exact h
      · exfalso
        apply hne
        have hs1 := (common_split p q).1
        rw [List.take_of_length_le (by omega)] at hs1
        exact hs1 ▸ List.take_prefix _ _
    have hx : (p.getD (commonB p q) 0).toNat < 16 := by
      have := halves_hd (x := p.getD (commonB p q) 0) (q := p.drop (commonB p q + 1)) (by
        have e : p.getD (commonB p q) 0 :: p.drop (commonB p q + 1) = p.drop (commonB p q) := by
          rw [List.drop_eq_getElem_cons hKp, List.getD_eq_getElem?_getD, List.getElem?_eq_getElem hKp]; rfl
        rw [e]; exact halvesB_drop hp)
      exact this
    have b1 := szs_set_eq (k' := alongN (p.drop (commonB p q + 1)) k) (noneNs_get hx)
    have b2 := sz_alongN (p.drop (commonB p q + 1)) k
    rw [show sz noneN = 6 by decide] at b1
    have a2 := szs_hold (has := false) (v := []) (ks := (noneNs 16).set (p.getD (commonB p q) 0).toNat (alongN (p.drop (commonB p q + 1)) k)) (p := q.drop (commonB p q)) (val := val) (by rw [List.length_set]; exact hn) (halvesB_drop hq)
    have a3 := sz_alongN (q.take (commonB p q)) (.mk 3 [] (holdK false [] ((noneNs 16).set (p.getD (commonB p q) 0).toNat (alongN (p.drop (commonB p q + 1)) k)) (q.drop (commonB p q)) val).1 (holdK false [] ((noneNs 16).set (p.getD (commonB p q) 0).toNat (alongN (p.drop (commonB p q + 1)) k)) (q.drop (commonB p q)) val).2.1 (holdK false [] ((noneNs 16).set (p.getD (commonB p q) 0).toNat (alongN (p.drop (commonB p q + 1)) k)) (q.drop (commonB p q)) val).2.2 [])
    rw [sz_mk3] at a3
    have a4 : sz (.mk 2 p false [] [k] []) = 6 + p.length + sz k := by rw [sz, szs, szs]; simp
    have a5 : (p.drop (commonB p q + 1)).length ≤ p.length := by rw [List.length_drop]; omega
    simp only [List.length_nil] at a2
    omega
theorem sz_put {even : Bool} {t : Nd} {d : Nat} (h : Val even t d) : ∀ (q val : List UInt8), halvesB q = true → sz (putP t q val).1 ≤ sz t + 130 + q.length + val.length := by
  induction h with
  | none d hd => intro q val _; rw [putP_none, sz_leafN]; omega
  | leaf d p v hd hp hv' he' =>
    intro q val hq
    rw [putP_leaf]
    split
    · rw [sz_leafN]; omega
    · exact sz_fork (.leaf d p v hd hp hv' he') (.inl ⟨p, v, rfl⟩) hq
  | stub d h hd hh => intro q val _; rw [putP_stub]; dsimp only; omega
  | way d p k hd hp h0 hk hr ih =>
    intro q val hq
    by_cases hpq : p <+: q
    · rw [putP_way hpq]
      have := ih (q.drop p.length) val (halvesB_drop hq)
      have a4 : ∀ k, sz (.mk 2 p false [] [k] []) = 6 + p.length + sz k := fun k => by rw [sz, szs, szs]; simp
      rw [List.length_drop] at this
      dsimp only
      rw [a4, a4]; omega
    · rw [putP_way0 hpq]
      exact sz_fork (.way d p k hd hp h0 hk hr) (.inr ⟨p, k, rfl, hpq⟩) hq
  | branch d has v ks hd hv' hv0 he' h16 hr hm ih =>
    intro q val hq
    match q, hq with
    | [], _ => rw [putP_br0, sz_mk3, sz_mk3]; omega
    | x :: q', hq =>
      have hx := halves_hd hq
      obtain ⟨k, hki⟩ : ∃ k, ks[x.toNat]? = some k := ⟨_, List.getElem?_eq_getElem (by omega)⟩
      rw [putP_br hki]
      have := ih k (List.mem_of_getElem? hki) q' val (by have := halvesB_drop (n := 1) hq; simpa using this)
      have b1 := szs_set_eq (k' := (putP k q' val).1) hki
      dsimp only
      rw [sz_mk3, sz_mk3, List.length_cons]; omega
end Go.Proofs.YtdlljmmgkoeilaaDoor
namespace Go.Proofs.YtdlljmmgkoeilaaDoor
open Go.RowKit
theorem ends_yes {e : Nat} {even : Bool} (h : e ≤ 400) (h2 : even = false ∨ e % 2 = 0) : endsP e even = true := by
  unfold endsP
  rw [decide_eq_true h]
  rcases h2 with h2 | h2
  · rw [h2]; rfl
  · rw [decide_eq_true h2]; simp
end Go.Proofs.YtdlljmmgkoeilaaDoor
namespace Go.Proofs.YtdlljmmgkoeilaaDoor
open Go.RowKit
def RSameOk (a : Nd) : Prop := ∀ (b : Nd) (gs : List (Option Nat)) (w : World) (ca cb : List Value), RdL w (Fd w gs) (dN a) ca → RdL w (Fd w gs) (dN b) cb → (∀ b, some b ∈ gs → b < w.heap.size) → sz b ≤ 1000000000 →
  Calls Tryd.prog 17 #[.agg ca.toArray, .agg cb.toArray] w fun e w' => ∃ q : Bool, e = .returned (.bool q) ∧ (q = true ↔ a = b) ∧ Below w.heap.size w w'
theorem Nd.ext' {a b : Nd} (h1 : a.kind = b.kind) (h2 : a.path = b.path) (h3 : a.has = b.has) (h4 : a.val = b.val) (h5 : a.kids = b.kids) (h6 : a.hash = b.hash) : a = b := by
  rw [Nd.eta a, Nd.eta b, h1, h2, h3, h4, h5, h6]
set_option maxRecDepth 100000 in
set_option maxHeartbeats 2000000 in
theorem rsame_step (N : Nat) (ih : ∀ k : Nd, sz k < N → RSameOk k) (a : Nd) (ht : sz a ≤ N) (hN : N ≤ 1000000000) : RSameOk a := by
  intro b gs w ca cb hra hrb hgs hzb
  refine calls_ev (args := [.agg ca.toArray, .agg cb.toArray]) mixed Tryd.func17 rfl (by kernel_rfl) ?_
  obtain ⟨Ap, cp, Av, cv, Ak, ck, Ah, ch, rfl, r1, r3, r4, r5⟩ := hra.node
  obtain ⟨Bp, dp, Bv, dv, Bk, dk, Bh, dh, rfl, s1, s3, s4, s5⟩ := hrb.node
  have hsz := sz_eq a
  have hsl := szs_len a.kids
  have hsz' := sz_eq b
  have hsl' := szs_len b.kids
  have M := ((((((((St.start hgs).addD r5).addD r3).addD r1).addD s5).addD s3).addD s1).addD s4).addD r4
  clear r1 r3 r4 r5 hra s1 s3 s4 s5 hrb
  refine ev_assoc ?_
  refine cutS (Nat × Nat) (fun s W => St w gs W [(s.2, 28, ncs b Bp dp Bv dv Bk dk Bh dh), (s.1, 28, ncs a Ap cp Av cv Ak ck Ah ch)] [] [.dat false [dKs a.kids] [.slice Ak a.kids.length ck], .dat false [dKs b.kids] [.slice Bk b.kids.length dk]] ∧ a.kids.length = b.kids.length ∧ (a.kids = b.kids → a = b)) (fun s => [(2, .pointer (some ⟨s.1, 0, none⟩)), (3, .pointer (some ⟨s.2, 0, none⟩))]) ?_ ?_
  ·
    refine s_box (ncs a Ap cp Av cv Ak ck Ah ch) M rfl ?_
    clear M
    rintro g2 W M
    refine s_box (ncs b Bp dp Bv dv Bk dk Bh dh) M rfl ?_
    clear M
    rintro g3 W M
    have hB := M.B 0 rfl
    have hC := M.B 1 rfl
    unfold ncs at hB hC
    have hbel := M.below
    repeat' first
      | (refine p_fld fN0 rfl ?_)
      | (refine v_load agg_int rfl (hB.at_ rfl) ?_)
      | (refine v_load agg_int rfl (hC.at_ rfl) ?_)
    refine p_ne rfl rfl (fun hk => ?_) (fun hk => ?_)
    rotate_left
    ·
      exact ⟨false, rfl, ⟨(fun h => by cases h), fun h => absurd (by rw [h]) hk⟩, hbel⟩
    repeat' first
      | (refine p_fld fN2 rfl ?_)
      | (refine v_load agg_bo rfl (hB.at_ rfl) ?_)
      | (refine v_load agg_bo rfl (hC.at_ rfl) ?_)
    refine p_bneC u_bool rfl rfl (fun hh => ?_) (fun hh => ?_)
    rotate_left
    ·
      exact ⟨false, rfl, ⟨(fun h => by cases h), fun h => absurd (by rw [h]) hh⟩, hbel⟩
    repeat' first
      | (refine p_fld fN1 rfl ?_)
      | (refine v_load agg_b rfl (hB.at_ rfl) ?_)
      | (refine v_load agg_b rfl (hC.at_ rfl) ?_)
    obtain ⟨q, hq, hc⟩ := same_tf (c1 := cp) (c2 := dp) (M.rdb 5 rfl).2.2 (M.rdb 2 rfl).2.2
    cases q with
    | false =>
      refine cc is_same0 hc ?_
      rintro e W' ⟨rfl, rfl⟩
      refine ⟨_, rfl, ?_⟩
      refine p_not rfl ?_
      exact ⟨false, rfl, ⟨(fun h => by cases h), fun h => absurd (hq.2 (by rw [h])) (by decide)⟩, hbel⟩
    | true =>
    have hp := hq.1 rfl
    refine cc is_same0 hc ?_
    rintro e W' ⟨rfl, rfl⟩
    refine ⟨_, rfl, ?_⟩
    refine p_not rfl ?_
    clear hq hc
    repeat' first
      | (refine p_fld fN3 rfl ?_)
      | (refine v_load agg_b rfl (hB.at_ rfl) ?_)
      | (refine v_load agg_b rfl (hC.at_ rfl) ?_)
    obtain ⟨q, hq, hc⟩ := same_tf (c1 := cv) (c2 := dv) (M.rdb 6 rfl).2.2 (M.rdb 3 rfl).2.2
    cases q with
    | false =>
      refine cc is_same0 hc ?_
      rintro e W' ⟨rfl, rfl⟩
      refine ⟨_, rfl, ?_⟩
      refine p_not rfl ?_
      exact ⟨false, rfl, ⟨(fun h => by cases h), fun h => absurd (hq.2 (by rw [h])) (by decide)⟩, hbel⟩
    | true =>
    have hv := hq.1 rfl
    refine cc is_same0 hc ?_
    rintro e W' ⟨rfl, rfl⟩
    refine ⟨_, rfl, ?_⟩
    refine p_not rfl ?_
    clear hq hc
    repeat' first
      | (refine p_fld fN5 rfl ?_)
      | (refine v_load agg_b rfl (hB.at_ rfl) ?_)
      | (refine v_load agg_b rfl (hC.at_ rfl) ?_)
    obtain ⟨q, hq, hc⟩ := same_tf (c1 := ch) (c2 := dh) (M.rdb 7 rfl).2.2 (M.rdb 4 rfl).2.2
    cases q with
    | false =>
      refine cc is_same0 hc ?_
      rintro e W' ⟨rfl, rfl⟩
      refine ⟨_, rfl, ?_⟩
      refine p_not rfl ?_
      exact ⟨false, rfl, ⟨(fun h => by cases h), fun h => absurd (hq.2 (by rw [h])) (by decide)⟩, hbel⟩
    | true =>
    have hs := hq.1 rfl
    refine cc is_same0 hc ?_
    rintro e W' ⟨rfl, rfl⟩
    refine ⟨_, rfl, ?_⟩
    refine p_not rfl ?_
    clear hq hc
    repeat' first
      | (refine p_fld fN4 rfl ?_)
      | (refine v_load agg_ns rfl (hB.at_ rfl) ?_)
      | (refine v_load agg_ns rfl (hC.at_ rfl) ?_)
    repeat' first
      | (refine p_fld fN0 rfl ?_)
      | (refine p_fld fN1 rfl ?_)
      | (refine p_fld fN2 rfl ?_)
      | (refine p_fld fN3 rfl ?_)
      | (refine p_fld fN4 rfl ?_)
      | (refine p_fld fN5 rfl ?_)
      | (refine v_load agg_int rfl (hB.at_ rfl) ?_)
      | (refine v_load agg_b rfl (hB.at_ rfl) ?_)
      | (refine v_load agg_bo rfl (hB.at_ rfl) ?_)
      | (refine v_load agg_ns rfl (hB.at_ rfl) ?_)
      | (refine p_len slb rfl ?_)
      | (refine p_len sln rfl ?_)
    repeat' first
      | (refine p_fld fN0 rfl ?_)
      | (refine p_fld fN1 rfl ?_)
      | (refine p_fld fN2 rfl ?_)
      | (refine p_fld fN3 rfl ?_)
      | (refine p_fld fN4 rfl ?_)
      | (refine p_fld fN5 rfl ?_)
      | (refine v_load agg_int rfl (hC.at_ rfl) ?_)
      | (refine v_load agg_b rfl (hC.at_ rfl) ?_)
      | (refine v_load agg_bo rfl (hC.at_ rfl) ?_)
      | (refine v_load agg_ns rfl (hC.at_ rfl) ?_)
      | (refine p_len slb rfl ?_)
      | (refine p_len sln rfl ?_)
    refine p_ne rfl rfl (fun hl => ?_) (fun hl => ?_)
    · exact ⟨(g2, g3), ⟨M.fsub _ (by simp), by omega, fun h => Nd.ext' hk hp hh hv h hs⟩, (by repeat (first | exact trivial | refine ⟨rfl, ?_⟩))⟩
    · exact ⟨false, rfl, ⟨(fun h => by cases h), fun h => absurd (by rw [h]) hl⟩, hbel⟩
  · clear M
    rintro ⟨g2, g3⟩ B W ⟨M, hl, hab⟩
    dsimp only at M
    refine lp Nat (fun i W => i ≤ a.kids.length ∧ St w gs W [(g3, 28, ncs b Bp dp Bv dv Bk dk Bh dh), (g2, 28, ncs a Ap cp Av cv Ak ck Ah ch)] [] [.dat false [dKs a.kids] [.slice Ak a.kids.length ck], .dat false [dKs b.kids] [.slice Bk b.kids.length dk]] ∧ a.kids.take i = b.kids.take i) (fun i => [(2, .pointer (some ⟨g2, 0, none⟩)), (3, .pointer (some ⟨g3, 0, none⟩)), (5, .int .i64 i)]) (fun i => a.kids.length - i) 0 ⟨Nat.zero_le _, M, rfl⟩ (by repeat (first | exact trivial | refine ⟨rfl, ?_⟩)) ?_
    clear M
    rintro i E5 W5 ⟨hi, M, hrs⟩
    refine p_fld fN4 rfl ?_
    refine v_load agg_ns rfl (by first | exact (M.B 0 rfl).at_ rfl | exact (M.B 1 rfl).at_ rfl | exact (M.B 2 rfl).at_ rfl | exact (M.B 3 rfl).at_ rfl | exact (M.B 4 rfl).at_ rfl | exact M.lc 0 rfl _ _ rfl | exact M.lc 1 rfl _ _ rfl | exact M.lc 2 rfl _ _ rfl | exact M.lc 3 rfl _ _ rfl | exact M.lc 4 rfl _ _ rfl | exact M.lc 5 rfl _ _ rfl | exact M.lc 6 rfl _ _ rfl | exact M.lc 7 rfl _ _ rfl) ?_
    refine p_len sln rfl ?_
    refine p_lt rfl rfl (fun hlt => ?_) (fun hge => ?_)
    · obtain ⟨k, hki⟩ : ∃ k, a.kids[i]? = some k := ⟨_, List.getElem?_eq_getElem (by omega)⟩
      obtain ⟨k', hki'⟩ : ∃ k, b.kids[i]? = some k := ⟨_, List.getElem?_eq_getElem (by omega)⟩
      have hkz := szs_mem (List.mem_of_getElem? hki)
      have hkz' := szs_mem (List.mem_of_getElem? hki')
      replace M := M.drew
      obtain ⟨b1, o1, es, rfl, hel, M'⟩ := M.kid (M.d1 0 rfl) hki
      replace M := M'; clear M'
      obtain ⟨b2, o2, es', rfl, hel', M'⟩ := M.kid (M.d1 3 rfl) hki'
      replace M := M'; clear M'
      refine drT (Kp w gs [(g3, 28, ncs b Bp dp Bv dv (some ⟨b2, o2, none⟩) dk Bh dh), (g2, 28, ncs a Ap cp Av cv (some ⟨b1, o1, none⟩) ck Ah ch)] [.loc ((⟨b1, o1, none⟩ : Addr).add (i * 6)) es, .loc ((⟨b2, o2, none⟩ : Addr).add (i * 6)) es']) (.take 0 (.take 1 (.take 2 (.take 3 (.take 4 (.take 5 (.take 6 (.take 7 (.take 8 (.take 9 (.one 10 (.take 11 (.nil))))))))))))) (by kernel_rfl) (M.kp (by simp) (by simp)) ?_
      refine p_fld fN4 rfl ?_
      refine t_load agg_ns rfl (fun W K => by first | exact (K.B 0 rfl).at_ rfl | exact (K.B 1 rfl).at_ rfl | exact (K.B 2 rfl).at_ rfl | exact (K.B 3 rfl).at_ rfl | exact K.lc 0 rfl _ _ rfl | exact K.lc 1 rfl _ _ rfl | exact K.lc 2 rfl _ _ rfl | exact K.lc 3 rfl _ _ rfl) ?_
      refine p_at sln rfl rfl rfl (by omega) ?_
      refine t_loadN es agg_nd rfl hel (fun W K => K.lc 0 rfl) ?_
      refine p_fld fN4 rfl ?_
      refine t_load agg_ns rfl (fun W K => by first | exact (K.B 0 rfl).at_ rfl | exact (K.B 1 rfl).at_ rfl | exact (K.B 2 rfl).at_ rfl | exact (K.B 3 rfl).at_ rfl | exact K.lc 0 rfl _ _ rfl | exact K.lc 1 rfl _ _ rfl | exact K.lc 2 rfl _ _ rfl | exact K.lc 3 rfl _ _ rfl) ?_
      refine p_at sln rfl rfl rfl (by omega) ?_
      refine t_loadN es' agg_nd rfl hel' (fun W K => K.lc 1 rfl) ?_
      refine cc is_r7same (ih k (by omega) k' _ _ es es' (M.da 3 rfl) (M.da 1 rfl) M.olt (by omega)) ?_
      rintro e W ⟨q, rfl, hq, hb⟩
      replace M := M.call hb
      refine ⟨_, rfl, (M.kp (by simp) (by simp)), ?_⟩
      refine p_not rfl ?_
      cases q with
      | false =>
        refine ⟨false, rfl, ⟨(fun h => by cases h), fun h => ?_⟩, M.below⟩
        rw [h, hki'] at hki
        injection hki with hki
        exact hq.2 hki.symm
      | true =>
        have hkk := hq.1 rfl
        refine p_addN (b := 1) rfl rfl (by omega) ?_
        refine ⟨i + 1, ⟨by omega, M.fsub _ (by simp), ?_⟩, (by repeat (first | exact trivial | refine ⟨rfl, ?_⟩)), by omega⟩
        have h1 := List.getElem?_eq_some_iff.1 hki
        have h2 := List.getElem?_eq_some_iff.1 hki'
        rw [List.take_succ_eq_append_getElem h1.1, List.take_succ_eq_append_getElem h2.1, h1.2, h2.2, hrs, hkk]
    · refine ⟨true, rfl, ⟨fun _ => hab ?_, fun _ => rfl⟩, M.below⟩
      rw [List.take_of_length_le (by omega), List.take_of_length_le (by omega)] at hrs
      exact hrs
theorem rsame_any : ∀ (N : Nat), N ≤ 1000000000 → ∀ t : Nd, sz t < N → RSameOk t
  | 0, _, t, h => by omega
  | N + 1, hN, t, h => rsame_step N (fun k hk => rsame_any N (by omega) k hk) t (by omega) (by omega)
mutual
def muchP : Nd → Nat → Nat
  | .mk _ p _ v ks h, most => muchK ks most (1 + (p.length + v.length + h.length) / 50)
def muchK : List Nd → Nat → Nat → Nat
  | [], _, m => m
  | k :: ks, most, m => if m < most then muchK ks most (m + muchP k (most - m)) else m
end
theorem muchP_eq (t : Nd) (most : Nat) : muchP t most = muchK t.kids most (1 + (t.path.length + t.val.length + t.hash.length) / 50) := by cases t; rw [muchP]; rfl
mutual
theorem much_sz : ∀ (t : Nd) (most : Nat), muchP t most < most → sz t ≤ 55 * muchP t most
  | .mk _ p _ v ks h, most, hm => by
    rw [muchP] at hm ⊢
    rw [sz]
    have := muchK_sz ks most _ hm
    omega
theorem muchK_sz : ∀ (ks : List Nd) (most m : Nat), muchK ks most m < most → szs ks + 55 * m ≤ 55 * muchK ks most m
  | [], most, m, _ => by rw [muchK, szs]; omega
  | k :: ks, most, m, hm => by
    rw [muchK] at hm ⊢
    rw [szs]
    by_cases h : m < most
    · rw [if_pos h] at hm ⊢
      have h1 := muchK_sz ks most _ hm
      have h2 : m + muchP k (most - m) ≤ muchK ks most (m + muchP k (most - m)) := muchK_ge ks most _
      have h3 := much_sz k (most - m) (by omega)
      omega
    · rw [if_neg h] at hm; omega
theorem muchK_ge : ∀ (ks : List Nd) (most m : Nat), m ≤ muchK ks most m
  | [], most, m => by rw [muchK]; omega
  | k :: ks, most, m => by
    rw [muchK]
    split
    · have := muchK_ge ks most (m + muchP k (most - m)); omega
    · omega
end
mutual
theorem much_le : ∀ (t : Nd) (most : Nat), muchP t most ≤ sz t
  | .mk _ p _ v ks h, most => by
    rw [muchP, sz]
    have := muchK_le ks most (1 + (p.length + v.length + h.length) / 50)
    omega
theorem muchK_le : ∀ (ks : List Nd) (most m : Nat), muchK ks most m ≤ m + szs ks
  | [], most, m => by rw [muchK]; omega
  | k :: ks, most, m => by
    rw [muchK, szs]
    split
    · have := muchK_le ks most (m + muchP k (most - m))
      have := much_le k (most - m)
      omega
    · omega
end
def MuchOk (t : Nd) : Prop := ∀ (gs : List (Option Nat)) (w : World) (cs : List Value) (most : Nat), RdL w (Fd w gs) (dN t) cs → (∀ b, some b ∈ gs → b < w.heap.size) → most ≤ 1000000 →
  Calls Tryd.prog 24 #[.agg cs.toArray, .int .i64 most] w fun e w' => e = .returned (.int .i64 (muchP t most)) ∧ Below w.heap.size w w'
set_option maxRecDepth 100000 in
set_option maxHeartbeats 1000000 in
theorem much_step (N : Nat) (ih : ∀ k : Nd, sz k < N → MuchOk k) (t : Nd) (ht : sz t ≤ N) (hN : N ≤ 1000000000) : MuchOk t := by
  intro gs w cs most hr hgs hmost
  refine calls_ev (args := [.agg cs.toArray, .int .i64 most]) mixed Tryd.func24 rfl (by kernel_rfl) ?_
  obtain ⟨Ap, cp, Av, cv, Ak, ck, Ah, ch, rfl, r1, r3, r4, r5⟩ := hr.node
  have hsz := sz_eq t
  have hsl := szs_len t.kids
  have M := (St.start hgs).addD r4
  clear r1 r3 r4 r5 hr
  obtain ⟨T, hT⟩ : ∃ T, T = muchP t most := ⟨_, rfl⟩
  rw [← hT]
  rw [muchP_eq] at hT
  refine s_box (ncs t Ap cp Av cv Ak ck Ah ch) M rfl ?_
  clear M
  rintro g2 W M
  have hB := M.B 0 rfl
  unfold ncs at hB
  repeat' first
    | (refine p_fld fN0 rfl ?_)
    | (refine p_fld fN1 rfl ?_)
    | (refine p_fld fN2 rfl ?_)
    | (refine p_fld fN3 rfl ?_)
    | (refine p_fld fN4 rfl ?_)
    | (refine p_fld fN5 rfl ?_)
    | (refine v_load agg_int rfl (hB.at_ rfl) ?_)
    | (refine v_load agg_b rfl (hB.at_ rfl) ?_)
    | (refine v_load agg_bo rfl (hB.at_ rfl) ?_)
    | (refine v_load agg_ns rfl (hB.at_ rfl) ?_)
    | (refine p_len slb rfl ?_)
    | (refine p_len sln rfl ?_)
  refine p_addN rfl rfl (by omega) ?_
  repeat' first
    | (refine p_fld fN0 rfl ?_)
    | (refine p_fld fN1 rfl ?_)
    | (refine p_fld fN2 rfl ?_)
    | (refine p_fld fN3 rfl ?_)
    | (refine p_fld fN4 rfl ?_)
    | (refine p_fld fN5 rfl ?_)
    | (refine v_load agg_int rfl (hB.at_ rfl) ?_)
    | (refine v_load agg_b rfl (hB.at_ rfl) ?_)
    | (refine v_load agg_bo rfl (hB.at_ rfl) ?_)
    | (refine v_load agg_ns rfl (hB.at_ rfl) ?_)
    | (refine p_len slb rfl ?_)
    | (refine p_len sln rfl ?_)
  refine p_addN rfl rfl (by omega) ?_
  refine p_quoN (b := 50) rfl rfl (by decide) (by omega) ?_
  refine p_addN (a := 1) rfl rfl (by omega) ?_
  obtain ⟨m0, hm0⟩ : ∃ m0, m0 = 1 + (t.path.length + t.val.length + t.hash.length) / 50 := ⟨_, rfl⟩
  have hm0l : m0 + szs t.kids ≤ sz t := by omega
  rw [← hm0] at hT ⊢
  clear hB
  refine lp (Nat × Nat) (fun s W => s.1 ≤ t.kids.length ∧ St w gs W [(g2, 28, ncs t Ap cp Av cv Ak ck Ah ch)] [] [.dat false [dKs t.kids] [.slice Ak t.kids.length ck]] ∧ T = muchK (t.kids.drop s.1) most s.2 ∧ s.2 + szs (t.kids.drop s.1) ≤ sz t) (fun s => [(1, .int .i64 most), (2, .pointer (some ⟨g2, 0, none⟩)), (5, .int .i64 s.2), (6, .int .i64 s.1)]) (fun s => t.kids.length - s.1) (0, m0) ⟨Nat.zero_le _, M, hT, by simp only [List.drop_zero]; exact hm0l⟩ (by repeat (first | exact trivial | refine ⟨rfl, ?_⟩)) ?_
  clear M
  rintro ⟨i, m⟩ E5 W5 ⟨hi, M, hTi, hbd⟩
  dsimp only at hi hTi hbd
  have hB := M.B 0 rfl
  unfold ncs at hB
  repeat' first
    | (refine p_fld fN0 rfl ?_)
    | (refine p_fld fN1 rfl ?_)
    | (refine p_fld fN2 rfl ?_)
    | (refine p_fld fN3 rfl ?_)
    | (refine p_fld fN4 rfl ?_)
    | (refine p_fld fN5 rfl ?_)
    | (refine v_load agg_int rfl (hB.at_ rfl) ?_)
    | (refine v_load agg_b rfl (hB.at_ rfl) ?_)
    | (refine v_load agg_bo rfl (hB.at_ rfl) ?_)
    | (refine v_load agg_ns rfl (hB.at_ rfl) ?_)
    | (refine p_len slb rfl ?_)
    | (refine p_len sln rfl ?_)
  refine p_lt rfl rfl (fun hlt => ?_) (fun hge => ?_)
  · dsimp only at hlt
    obtain ⟨k, hki⟩ : ∃ k, t.kids[i]? = some k := ⟨_, List.getElem?_eq_getElem (by omega)⟩
    have hdr : t.kids.drop i = k :: t.kids.drop (i + 1) := by
      have h1 := (List.getElem?_eq_some_iff.1 hki)
      rw [List.drop_eq_getElem_cons h1.1, h1.2]
    have hkz := szs_mem (List.mem_of_getElem? hki)
    rw [hdr] at hTi hbd
    unfold muchK at hTi
    unfold szs at hbd
    refine p_lt rfl rfl (fun hm => ?_) (fun hm => ?_)
    · dsimp only at hm
      rw [if_pos (by omega)] at hTi
      obtain ⟨b, off, es, e0, hel, M'⟩ := M.kid (by first | with_reducible exact M.d1_0 | with_reducible exact M.d1_1 | with_reducible exact M.d1_2 | with_reducible exact M.d1_3 | with_reducible exact M.d1_4 | with_reducible exact M.d1_5 | with_reducible exact M.d1_6 | with_reducible exact M.d1_7 | with_reducible exact M.d1_8 | with_reducible exact M.d1_9 | with_reducible exact M.d1_10 | with_reducible exact M.d1_11) hki
      replace M := M'; clear M'
      repeat' first
        | (refine p_fld fN0 rfl ?_)
        | (refine p_fld fN1 rfl ?_)
        | (refine p_fld fN2 rfl ?_)
        | (refine p_fld fN3 rfl ?_)
        | (refine p_fld fN4 rfl ?_)
        | (refine p_fld fN5 rfl ?_)
        | (refine v_load agg_int rfl (hB.at_ rfl) ?_)
        | (refine v_load agg_b rfl (hB.at_ rfl) ?_)
        | (refine v_load agg_bo rfl (hB.at_ rfl) ?_)
        | (refine v_load agg_ns rfl (hB.at_ rfl) ?_)
        | (refine p_len slb rfl ?_)
        | (refine p_len sln rfl ?_)
      refine p_at sln (by show (Value.slice Ak t.kids.length ck) = _; rw [e0]) rfl rfl (by omega) ?_
      refine v_loadN es agg_nd rfl hel (M.lc 0 rfl) ?_
      refine p_subN rfl rfl (by dsimp only; omega) (by omega) ?_
      refine cc is_r7much (ih k (by omega) _ _ es (most - m) (by first | with_reducible exact M.da_0 | with_reducible exact M.da_1 | with_reducible exact M.da_2 | with_reducible exact M.da_3 | with_reducible exact M.da_4 | with_reducible exact M.da_5 | with_reducible exact M.da_6 | with_reducible exact M.da_7 | with_reducible exact M.da_8 | with_reducible exact M.da_9 | with_reducible exact M.da_10 | with_reducible exact M.da_11) M.olt (by omega)) ?_
      rintro e W ⟨rfl, hb⟩
      refine ⟨_, rfl, ?_⟩
      replace M := M.call hb
      have hkl := much_le k (most - m)
      refine p_addN rfl rfl (by dsimp only; omega) ?_
      refine p_addN (b := 1) rfl rfl (by dsimp only; omega) ?_
      exact ⟨(i + 1, m + muchP k (most - m)), ⟨by dsimp only; omega, M.fsub _ (by simp), hTi, by dsimp only; omega⟩, (by repeat (first | exact trivial | refine ⟨rfl, ?_⟩)), by dsimp only; omega⟩
    · dsimp only at hm
      rw [if_neg (by omega)] at hTi
      exact ⟨by rw [hTi]; rfl, M.below⟩
  · dsimp only at hge
    rw [List.drop_of_length_le (by omega)] at hTi
    unfold muchK at hTi
    exact ⟨by rw [hTi]; rfl, M.below⟩
theorem much_any : ∀ (N : Nat), N ≤ 1000000000 → ∀ t : Nd, sz t < N → MuchOk t
  | 0, _, t, h => by omega
  | N + 1, hN, t, h => much_step N (fun k hk => much_any N (by omega) k hk) t (by omega) (by omega)
end Go.Proofs.YtdlljmmgkoeilaaDoor
