/- Which values may be: the walks of value.visible, right, Check, and of the reference's Check. -/
import Derived.Test.YtjneoinacobbaaaVal
namespace Go.Proofs.Ytjneoinacobbaaa
open Go.RowKit
theorem is_vis : isFn Try.prog 49 = true := by kernel_rfl
theorem is_right : isFn Try.prog 38 = true := by kernel_rfl
theorem is_chk : isFn Try.prog 23 = true := by kernel_rfl
theorem is_chk2 : isFn Try.prog 26 = true := by kernel_rfl

theorem all_take_step {s : List UInt8} {i : Nat} (hi : i < s.length) (h : (s.take i).all vis = true) : (s.take (i + 1)).all vis = vis s[i] := by
  rw [List.take_succ_eq_append_getElem hi, List.all_append, h]; simp
theorem all_bad {s : List UInt8} {i : Nat} (hi : i < s.length) (h : vis s[i] = false) : s.all vis = false := by
  rw [List.all_eq_false]
  exact ⟨s[i], List.getElem_mem hi, by rw [h]; simp⟩
set_option maxRecDepth 100000 in
theorem vis_any (s : List UInt8) (w : World) (hs : s.length ≤ 9223372036854775807) :
    Calls Try.prog 49 #[.string (sb s)] w fun e w' => ∃ b, e = .returned (.bool b) ∧ b = s.all vis ∧ w = w' := by
  refine calls_ev (args := [.string (sb s)]) mixed Try.func49 rfl (by kernel_rfl) ?_
  refine p_lenS u_str rfl ?_
  refine lp Nat (fun i W => w = W ∧ i ≤ s.length ∧ (s.take i).all vis = true) (fun i => [(0, .string (sb s)), (5, .int .i64 (sb s).size), (6, .int .i64 i)]) (fun i => s.length - i) 0 ⟨rfl, by omega, by simp⟩ ⟨rfl, rfl, rfl, trivial⟩ ?_
  rintro i B W ⟨rfl, hi, hv⟩
  have hz := sb_size s
  refine p_lt rfl rfl (fun h => ?_) (fun h => ?_)
  · have hlt : i < s.length := by omega
    have hg : (sb s)[i]? = some s[i] := by rw [sb_get, List.getElem?_eq_getElem hlt]
    have hst := all_take_step hlt hv
    refine p_atS u_str rfl rfl rfl hg ?_
    refine p_lt rfl rfl (fun h1 => ?_) (fun h1 => ?_)
    · exact ⟨false, rfl, (all_bad hlt (by unfold vis; rw [decide_eq_false (by omega)]; rfl)).symm, rfl⟩
    · refine p_atS u_str rfl rfl rfl hg ?_
      refine p_gt rfl rfl (fun h2 => ?_) (fun h2 => ?_)
      · exact ⟨false, rfl, (all_bad hlt (by unfold vis; rw [decide_eq_false (p := _ ≤ 126) (by omega)]; simp)).symm, rfl⟩
      · refine p_add rfl rfl (w64 (by omega)) ?_
        refine ⟨i + 1, ⟨rfl, by omega, ?_⟩, ⟨rfl, rfl, rfl, trivial⟩, by omega⟩
        rw [hst]; unfold vis; rw [decide_eq_true (by omega), decide_eq_true (by omega)]; rfl
  · refine ⟨true, rfl, ?_, rfl⟩
    rw [List.take_of_length_le (by omega)] at hv
    exact hv.symm

theorem sb_nil {s : List UInt8} : sb s = ⟨#[]⟩ ↔ s = [] := by
  constructor
  · intro h; have := congrArg (fun x : ByteArray => x.data.toList) h; simpa [sb] using this
  · rintro rfl; rfl
set_option maxRecDepth 100000 in
theorem right_any (v : Val) (w : World) (hs : v.s.length ≤ 9223372036854775807) :
    Calls Try.prog 38 #[vv_ v] w fun e w' => ∃ b, e = .returned (.bool b) ∧ b = rightB v ∧ Below w.heap.size w w' := by
  refine calls_ev (args := [vv_ v]) mixed Try.func38 rfl (by kernel_rfl) ?_
  refine v_boxB (vc v) rfl ?_
  rintro g W hg hB hb hsz
  rw [← hg]
  have hz := sb_size v.s
  repeat' first
    | (refine p_eq rfl rfl (fun _ => ?_) (fun _ => ?_) <;> try (exfalso; omega))
    | (refine p_ne rfl rfl (fun _ => ?_) (fun _ => ?_) <;> try (exfalso; omega))
    | (refine p_lt rfl rfl (fun _ => ?_) (fun _ => ?_) <;> try (exfalso; omega))
    | (refine p_le rfl rfl (fun _ => ?_) (fun _ => ?_) <;> try (exfalso; omega))
    | (refine p_gt rfl rfl (fun _ => ?_) (fun _ => ?_) <;> try (exfalso; omega))
    | (refine p_ge rfl rfl (fun _ => ?_) (fun _ => ?_) <;> try (exfalso; omega))
    | (refine p_seq rfl rfl (fun _ => ?_) (fun _ => ?_))
    | (refine p_sne rfl rfl (fun _ => ?_) (fun _ => ?_))
    | (refine p_not rfl ?_)
    | (refine p_lenS u_str rfl ?_)
    | (refine p_fld fv0 rfl ?_)
    | (refine p_fld fv1 rfl ?_)
    | (refine p_fld fv2 rfl ?_)
    | (refine v_load agg_int rfl (hB.at_ rfl) ?_)
    | (refine v_load agg_str rfl (hB.at_ rfl) ?_)
  all_goals first
    | (refine ⟨true, rfl, ?_, hb⟩; clear hB hb; simp_all [rightB, sb_nil] <;> omega)
    | (refine ⟨false, rfl, ?_, hb⟩; clear hB hb; simp_all [rightB, sb_nil] <;> omega)
    | skip
  · refine cc is_vis (vis_any v.s _ hs) ?_
    rintro e w' ⟨b, rfl, hv, rfl⟩
    refine ⟨_, rfl, ?_⟩
    cases b
    · refine ⟨false, rfl, ?_, hb⟩; clear hB hb; simp_all [rightB] <;> omega
    · refine ⟨true, rfl, ?_, hb⟩; clear hB hb; simp_all [rightB] <;> omega

theorem ret_i {a b : Int} (h : a = b) : Ending.returned (.int .i64 a) = .returned (.int .i64 b) := by rw [h]
set_option maxRecDepth 100000 in
theorem chk_any (v : Val) (w : World) (hs : v.s.length ≤ 9223372036854775807) :
    Calls Try.prog 23 #[vv_ v] w fun e w' => e = .returned (.int .i64 (chkE v)) ∧ Below w.heap.size w w' := by
  refine calls_ev (args := [vv_ v]) mixed Try.func23 rfl (by kernel_rfl) ?_
  refine v_boxB (vc v) rfl ?_
  rintro g W hg hB hb hsz
  rw [← hg]
  refine v_loadN (vc v) agg_val rfl rfl (hB.run 0 (vc v) (fun j v h => by rw [Nat.zero_add]; exact h)) ?_
  refine cc is_right (right_any v W hs) ?_
  rintro e W2 ⟨b, rfl, hr, hb2⟩
  refine ⟨_, rfl, ?_⟩
  have B2 := hb.trans (hb2.mono (by omega))
  cases b
  · refine p_not rfl ?_
    exact ⟨ret_i (by unfold chkE; rw [← hr]; rfl), B2⟩
  · refine p_not rfl ?_
    exact ⟨ret_i (by unfold chkE; rw [← hr]; rfl), B2⟩
theorem right_k {v : Val} (h : rightB v = true) : 1 ≤ v.k ∧ v.k ≤ 5 := by
  unfold rightB at h
  repeat' split at h
  all_goals first | omega | cases h
def numB (v : Val) : Bool := (decide (v.k = 2) && (decide (v.n = 0) || decide (v.n = 1))) || decide (v.k = 3)
def txtB (v : Val) : Bool := decide (v.k = 4) || decide (v.k = 5)
def badB (v : Val) : Bool := decide (v.k < 1) || (decide (5 < v.k) || ((!numB v && !decide (v.n = 0)) || ((!txtB v && !decide (v.s = [])) || decide (1000 < (v.s.length : Int)))))
theorem right_bad (v : Val) : rightB v = (!badB v && (!decide (v.k = 4) || v.s.all vis)) := by
  unfold rightB badB numB txtB
  by_cases h1 : v.k = 1
  · simp [h1]
    by_cases hs : v.s = [] <;> simp [hs]
  by_cases h2 : v.k = 2
  · simp [h2]
    by_cases hs : v.s = [] <;> simp [hs] <;> by_cases hn : v.n = 0 <;> simp [hn] <;> by_cases hn1 : v.n = 1 <;> simp [hn1]
  by_cases h3 : v.k = 3
  · simp [h3]
    by_cases hs : v.s = [] <;> simp [hs]
  by_cases h4 : v.k = 4
  · simp [h4]
    by_cases hn : v.n = 0 <;> simp [hn]
    by_cases hl : (v.s.length : Int) ≤ 1000
    · rw [decide_eq_true hl, decide_eq_false (by omega)]; simp
    · rw [decide_eq_false hl, decide_eq_true (by omega)]; simp
  by_cases h5 : v.k = 5
  · simp [h5]
    by_cases hn : v.n = 0 <;> simp [hn]
    by_cases hl : (v.s.length : Int) ≤ 1000
    · rw [decide_eq_true hl, decide_eq_false (by omega)]; rfl
    · rw [decide_eq_false hl, decide_eq_true (by omega)]; rfl
  simp only [h1, h2, h3, h4, h5, if_false]
  by_cases hk : v.k < 1
  · simp [hk]
  · have : 5 < v.k := by omega
    simp [this]
set_option maxRecDepth 100000 in
set_option maxHeartbeats 1000000 in
theorem chk2_any (v : Val) (w : World) (hs : v.s.length ≤ 9223372036854775807) :
    Calls Try.prog 26 #[vv_ v] w fun e w' => e = .returned (.int .i64 (chkE v)) ∧ Below w.heap.size w w' := by
  refine calls_ev (args := [vv_ v]) mixed Try.func26 rfl (by kernel_rfl) ?_
  refine v_boxB (vc v) rfl ?_
  rintro g W hg hB hb hsz
  rw [← hg]
  have hz := sb_size v.s
  refine p_fld fv0 rfl ?_
  refine cutO Bool (fun b W' => b = numB v ∧ W' = W) (fun b => [(1, .pointer (some ⟨g, 0, none⟩)), (3, .bool b)]) ?_ ?_
  ·
    repeat' first
      | (refine p_eq rfl rfl (fun _ => ?_) (fun _ => ?_) <;> try (exfalso; omega))
      | (refine p_ne rfl rfl (fun _ => ?_) (fun _ => ?_) <;> try (exfalso; omega))
      | (refine p_lt rfl rfl (fun _ => ?_) (fun _ => ?_) <;> try (exfalso; omega))
      | (refine p_le rfl rfl (fun _ => ?_) (fun _ => ?_) <;> try (exfalso; omega))
      | (refine p_gt rfl rfl (fun _ => ?_) (fun _ => ?_) <;> try (exfalso; omega))
      | (refine p_ge rfl rfl (fun _ => ?_) (fun _ => ?_) <;> try (exfalso; omega))
      | (refine p_seq rfl rfl (fun _ => ?_) (fun _ => ?_))
      | (refine p_sne rfl rfl (fun _ => ?_) (fun _ => ?_))
      | (refine p_not rfl ?_)
      | (refine p_lenS u_str rfl ?_)
      | (refine p_fld fv0 rfl ?_)
      | (refine p_fld fv1 rfl ?_)
      | (refine p_fld fv2 rfl ?_)
      | (refine v_load agg_int rfl (hB.at_ rfl) ?_)
      | (refine v_load agg_str rfl (hB.at_ rfl) ?_)
    all_goals first
      | (refine ⟨true, ⟨?_, rfl⟩, rfl, rfl, trivial⟩; clear hB hb; simp_all [numB]; done)
      | (refine ⟨false, ⟨?_, rfl⟩, rfl, rfl, trivial⟩; clear hB hb; simp_all [numB]; done)
  rintro num E1 W1 ⟨hnum, rfl⟩
  refine p_fld fv0 rfl ?_
  refine cutO Bool (fun b W' => b = txtB v ∧ W' = W1) (fun b => [(1, .pointer (some ⟨g, 0, none⟩)), (3, .bool num), (4, .bool b)]) ?_ ?_
  ·
    repeat' first
      | (refine p_eq rfl rfl (fun _ => ?_) (fun _ => ?_) <;> try (exfalso; omega))
      | (refine p_ne rfl rfl (fun _ => ?_) (fun _ => ?_) <;> try (exfalso; omega))
      | (refine p_lt rfl rfl (fun _ => ?_) (fun _ => ?_) <;> try (exfalso; omega))
      | (refine p_le rfl rfl (fun _ => ?_) (fun _ => ?_) <;> try (exfalso; omega))
      | (refine p_gt rfl rfl (fun _ => ?_) (fun _ => ?_) <;> try (exfalso; omega))
      | (refine p_ge rfl rfl (fun _ => ?_) (fun _ => ?_) <;> try (exfalso; omega))
      | (refine p_seq rfl rfl (fun _ => ?_) (fun _ => ?_))
      | (refine p_sne rfl rfl (fun _ => ?_) (fun _ => ?_))
      | (refine p_not rfl ?_)
      | (refine p_lenS u_str rfl ?_)
      | (refine p_fld fv0 rfl ?_)
      | (refine p_fld fv1 rfl ?_)
      | (refine p_fld fv2 rfl ?_)
      | (refine v_load agg_int rfl (hB.at_ rfl) ?_)
      | (refine v_load agg_str rfl (hB.at_ rfl) ?_)
    all_goals first
      | (refine ⟨true, ⟨?_, rfl⟩, rfl, rfl, rfl, trivial⟩; clear hB hb; simp_all [txtB]; done)
      | (refine ⟨false, ⟨?_, rfl⟩, rfl, rfl, rfl, trivial⟩; clear hB hb; simp_all [txtB]; done)
  rintro txt E2 W2 ⟨htxt, rfl⟩
  refine p_fld fv0 rfl ?_
  refine cutO Bool (fun b W' => b = badB v ∧ W' = W2) (fun b => [(1, .pointer (some ⟨g, 0, none⟩)), (63, .bool b)]) ?_ ?_
  · cases num <;> cases txt
    all_goals
      repeat' first
        | (refine p_eq rfl rfl (fun _ => ?_) (fun _ => ?_) <;> try (exfalso; omega))
        | (refine p_ne rfl rfl (fun _ => ?_) (fun _ => ?_) <;> try (exfalso; omega))
        | (refine p_lt rfl rfl (fun _ => ?_) (fun _ => ?_) <;> try (exfalso; omega))
        | (refine p_le rfl rfl (fun _ => ?_) (fun _ => ?_) <;> try (exfalso; omega))
        | (refine p_gt rfl rfl (fun _ => ?_) (fun _ => ?_) <;> try (exfalso; omega))
        | (refine p_ge rfl rfl (fun _ => ?_) (fun _ => ?_) <;> try (exfalso; omega))
        | (refine p_seq rfl rfl (fun _ => ?_) (fun _ => ?_))
        | (refine p_sne rfl rfl (fun _ => ?_) (fun _ => ?_))
        | (refine p_not rfl ?_)
        | (refine p_lenS u_str rfl ?_)
        | (refine p_fld fv0 rfl ?_)
        | (refine p_fld fv1 rfl ?_)
        | (refine p_fld fv2 rfl ?_)
        | (refine v_load agg_int rfl (hB.at_ rfl) ?_)
        | (refine v_load agg_str rfl (hB.at_ rfl) ?_)
    all_goals first
      | (refine ⟨true, ⟨?_, rfl⟩, rfl, rfl, trivial⟩; clear hB hb; unfold badB; rw [← hnum, ← htxt]; simp_all [sb_nil] <;> omega)
      | (refine ⟨false, ⟨?_, rfl⟩, rfl, rfl, trivial⟩; clear hB hb; unfold badB; rw [← hnum, ← htxt]; simp_all [sb_nil] <;> omega)
      | (exfalso; have e0 := sb_nil.1 (show sb v.s = ⟨#[]⟩ by assumption); have h0 : v.s.length = 0 := (by rw [e0]; rfl); omega)
  rintro bad E3 W3 ⟨hbad, rfl⟩
  have hrb := right_bad v
  rw [← hbad] at hrb
  cases bad
  rotate_left
  · exact ⟨ret_i (by unfold chkE; rw [hrb]; rfl), hb⟩
  have hbf : ∀ i : Nat, badB v = false → True := fun _ _ => trivial
  clear hbf
  refine lp Nat (fun i W' => W' = W3 ∧ i ≤ v.s.length ∧ (v.k = 4 → (v.s.take i).all vis = true)) (fun i => [(1, .pointer (some ⟨g, 0, none⟩)), (5, .int .i64 i)]) (fun i => v.s.length - i) 0 ⟨rfl, by omega, by simp⟩ ⟨rfl, rfl, trivial⟩ ?_
  rintro i B4 W4 ⟨rfl, hi, hv⟩
  refine p_fld fv2 rfl ?_
  refine v_load agg_str rfl (hB.at_ rfl) ?_
  refine p_lenS u_str rfl ?_
  refine p_lt rfl rfl (fun h => ?_) (fun h => ?_)
  · have hlt : i < v.s.length := by omega
    have hg : (sb v.s)[i]? = some v.s[i] := by rw [sb_get, List.getElem?_eq_getElem hlt]
    refine p_fld fv0 rfl ?_
    refine v_load agg_int rfl (hB.at_ rfl) ?_
    refine p_eq rfl rfl (fun h4 => ?_) (fun h4 => ?_)
    · have hst := all_take_step hlt (hv h4)
      refine p_fld fv2 rfl ?_
      refine v_load agg_str rfl (hB.at_ rfl) ?_
      refine p_atS u_str rfl rfl rfl hg ?_
      have bad : vis v.s[i] = false → chkE v = 2 := fun e => by unfold chkE; rw [hrb, all_bad hlt e, h4]; rfl
      refine p_lt rfl rfl (fun h1 => ?_) (fun h1 => ?_)
      · exact ⟨ret_i (bad (by unfold vis; rw [decide_eq_false (by omega)]; rfl)).symm, hb⟩
      · refine p_fld fv2 rfl ?_
        refine v_load agg_str rfl (hB.at_ rfl) ?_
        refine p_atS u_str rfl rfl rfl hg ?_
        refine p_ge rfl rfl (fun h2 => ?_) (fun h2 => ?_)
        · exact ⟨ret_i (bad (by unfold vis; rw [decide_eq_false (p := _ ≤ 126) (by omega)]; simp)).symm, hb⟩
        · refine p_add rfl rfl (w64 (by omega)) ?_
          refine ⟨i + 1, ⟨rfl, by omega, fun _ => ?_⟩, ⟨rfl, rfl, trivial⟩, by omega⟩
          rw [hst]; unfold vis; rw [decide_eq_true (by omega), decide_eq_true (by omega)]; rfl
    · exact ⟨ret_i (by unfold chkE; rw [hrb]; simp [h4]), hb⟩
  · have ok : (!decide (v.k = 4) || v.s.all vis) = true := by
      by_cases h4 : v.k = 4
      · have := hv h4
        rw [List.take_of_length_le (by omega)] at this
        simp [h4, this]
      · simp [h4]
    exact ⟨ret_i (by unfold chkE; rw [hrb, ok]; rfl), hb⟩
end Go.Proofs.Ytjneoinacobbaaa
