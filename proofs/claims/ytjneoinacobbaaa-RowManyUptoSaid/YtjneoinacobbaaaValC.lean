/- Are values, and rows of them, the same? The walks of the reference's Cmp and Rows. -/
import Derived.Test.YtjneoinacobbaaaValW
import Derived.Laws.StructEq
namespace Go.Proofs.Ytjneoinacobbaaa
open Go.RowKit

section
variable {P : Program} {E : Env} {d : Option Nat} {ty : TypeId} {p : String} {af : Array Edge} {g : Option (Nat × Bool)} {x y : Operand} {t u : TypeId} {k : Value → Prop}
theorem p_slt {s1 s2 : ByteArray} (hx : val E x = .string s1) (hy : val E y = .string s2) (h1 : Op.bytesLess s1.toList s2.toList = true → k (.bool true)) (h2 : Op.bytesLess s1.toList s2.toList = false → k (.bool false)) : VPure P E { dst := d, op := .binOp .lss t x y u, type := ty, pos := p, after := af, guard := g } k := by
  refine pp (v := .bool (Op.bytesLess s1.toList s2.toList)) (fun w => ?_) ?_
  · simp only [execOp, hx, hy]
    simp [eqGuard, binOp, Op.stringOp]
  · cases h : Op.bytesLess s1.toList s2.toList
    · exact h2 h
    · exact h1 h
end
theorem less_irrefl : ∀ l : List UInt8, Op.bytesLess l l = false
  | [] => rfl
  | a :: l => by unfold Op.bytesLess; rw [less_irrefl l]; simp
theorem f_val : (Try.prog.fieldsOf 52).toList.map (fun f => (f.name != "_", f.type, f.offset)) = [(true, 3, 0), (true, 3, 1), (true, 9, 2)] := by kernel_rfl
theorem sh_val : Try.prog.stoodInHeld 52 = false := by kernel_rfl
theorem st_val : Try.prog.underlying 52 = some (.struct (Try.prog.fieldsOf 52)) := by kernel_rfl
theorem eg_val : Try.prog.eqGuardType Try.prog.depth 52 = false := by kernel_rfl
theorem ui : Try.prog.underlying 3 = some (.int .i64) := by kernel_rfl
theorem Val.ext_iff' {a b : Val} : a = b ↔ a.k = b.k ∧ a.n = b.n ∧ a.s = b.s := by
  cases a; cases b; simp
theorem len3 {α : Type} : ∀ l : List α, l.length = 3 → ∃ a b c, l = [a, b, c]
  | [a, b, c], _ => ⟨a, b, c, rfl⟩
  | [], h => by simp at h
  | [_], h => by simp at h
  | [_, _], h => by simp at h
  | _ :: _ :: _ :: _ :: _, h => by simp at h
theorem run_veq (a b : Val) (w : World) : (Op.equalIn 10000 52 (vv_ a) (vv_ b)).run Try.prog w = .ok (decide (a.k = b.k) && (decide (a.n = b.n) && decide (a.s = b.s))) w := by
  unfold vv_
  rw [run_equalIn_struct (P := Try.prog) w 9999 _ _ _ st_val sh_val]
  have hf := f_val
  generalize (Try.prog.fieldsOf 52).toList = fs at hf
  have hl := congrArg List.length hf
  simp only [List.length_map, List.length_cons, List.length_nil] at hl
  obtain ⟨f0, f1, f2, rfl⟩ := len3 _ hl
  · simp only [List.map_cons, List.map_nil, List.cons.injEq, Prod.mk.injEq, and_true] at hf
    obtain ⟨⟨n0, t0, o0⟩, ⟨n1, t1, o1⟩, ⟨n2, t2, o2⟩⟩ := hf
    have ag : (isAgg 3).run Try.prog w = .ok false w := (aggOf_run agg_int w).1
    have ags : (isAgg 9).run Try.prog w = .ok false w := (aggOf_run agg_str w).1
    have pt : ∀ (c : Val) (w' : World), w' = w → (part 3 (vc c).toArray 0).run Try.prog w' = .ok (.int .i64 c.k) w' ∧ (part 3 (vc c).toArray 1).run Try.prog w' = .ok (.int .i64 c.n) w' ∧ (part 9 (vc c).toArray 2).run Try.prog w' = .ok (.string (sb c.s)) w' := by
      rintro c w' rfl
      refine ⟨?_, ?_, ?_⟩
      · simp only [part, Sem.run_bind, ag, Result.andThen_ok]; rfl
      · simp only [part, Sem.run_bind, ag, Result.andThen_ok]; rfl
      · simp only [part, Sem.run_bind, ags, Result.andThen_ok]; rfl
    have q0 : f0.name ≠ "_" := by simpa using n0
    have q1 : f1.name ≠ "_" := by simpa using n1
    have q2 : f2.name ≠ "_" := by simpa using n2
    have es : ((sb a.s).toList == (sb b.s).toList) = decide (a.s = b.s) := by
      rw [Bool.eq_iff_iff]; simp [sb_toList]
    have ei : ∀ x y : Int, (x == y) = decide (x = y) := fun x y => by rw [Bool.eq_iff_iff]; simp
    rw [Op.eqFields, if_pos q0, t0, o0]
    simp only [Sem.run_bind, (pt a w rfl).1, (pt b w rfl).1, Result.andThen_ok, run_equalIn_int w 9998 3 .i64 .i64 a.k b.k ui, ei]
    by_cases h0 : a.k = b.k
    · rw [decide_eq_true h0]
      simp only [Bool.not_true, Bool.false_eq_true, if_false]
      rw [Op.eqFields, if_pos q1, t1, o1]
      simp only [Sem.run_bind, (pt a w rfl).2.1, (pt b w rfl).2.1, Result.andThen_ok, run_equalIn_int w 9998 3 .i64 .i64 a.n b.n ui, ei]
      by_cases h1 : a.n = b.n
      · rw [decide_eq_true h1]
        simp only [Bool.not_true, Bool.false_eq_true, if_false]
        rw [Op.eqFields, if_pos q2, t2, o2]
        simp only [Sem.run_bind, (pt a w rfl).2.2, (pt b w rfl).2.2, Result.andThen_ok, run_equalIn_string w 9998 9 (sb a.s) (sb b.s) u_str, es]
        by_cases h2 : a.s = b.s
        · rw [decide_eq_true h2]; simp [Op.eqFields]
        · rw [decide_eq_false h2]; simp
      · rw [decide_eq_false h1]; simp
    · rw [decide_eq_false h0]; simp
instance : DecidableEq Val := fun _ _ => decidable_of_iff _ Val.ext_iff'.symm
section
variable {E : Env} {d : Option Nat} {ty : TypeId} {p : String} {af : Array Edge} {g : Option (Nat × Bool)} {x y : Operand} {u : TypeId} {k : Value → Prop}
theorem p_veq {a b : Val} (hx : val E x = vv_ a) (hy : val E y = vv_ b) (h1 : a = b → k (.bool true)) (h2 : ¬ a = b → k (.bool false)) : VPure Try.prog E { dst := d, op := .binOp .eql 52 x y u, type := ty, pos := p, after := af, guard := g } k := by
  refine pp (v := .bool (decide (a = b))) (fun w => ?_) ?_
  · have hv := run_veq a b w
    have hg := run_eqGuard_agg (P := Try.prog) w .eql 52 x y (vc a).toArray (vc b).toArray eg_val
    have hb := run_eql_struct (P := Try.prog) w 52 (vc a).toArray (vc b).toArray
    unfold vv_ at hx hy hv
    simp only [execOp, hx, hy, Sem.run_bind, hg, Result.andThen_ok, hb, hv, Sem.run_pure]
    congr 3
    rw [Bool.eq_iff_iff]; simp [Val.ext_iff']
  · by_cases h : a = b
    · rw [decide_eq_true h]; exact h1 h
    · rw [decide_eq_false h]; exact h2 h
end
set_option maxRecDepth 100000 in
set_option maxHeartbeats 1000000 in
theorem cmp_any (a b : Val) (w : World) :
    Calls Try.prog 33 #[vv_ a, vv_ b] w fun e w' => ∃ r : Int, e = .returned (.int .i64 r) ∧ (r = 0 ↔ a = b) ∧ Below w.heap.size w w' := by
  refine calls_ev (args := [vv_ a, vv_ b]) mixed Try.func33 rfl (by kernel_rfl) ?_
  refine v_boxB (vc a) rfl ?_
  rintro g1 W1 hg1 hB1 hb1 hsz1
  refine v_boxB (vc b) rfl ?_
  rintro g2 W2 hg2 hB2 hb2 hsz2
  have hB1' := hB1.belowB hb2 (by omega)
  have hb : Below w.heap.size w W2 := by rw [← hg1]; exact hb1.trans (hb2.mono (by omega))
  refine p_fld fv0 rfl ?_
  refine cutO Bool (fun q W' => (q = true → a ≠ b) ∧ W' = W2) (fun q => [(2, .pointer (some ⟨g1, 0, none⟩)), (3, .pointer (some ⟨g2, 0, none⟩)), (44, .bool q)]) ?_ ?_
  ·
    repeat' first
      | (refine p_eq rfl rfl (fun _ => ?_) (fun _ => ?_) <;> try (exfalso; omega))
      | (refine p_ne rfl rfl (fun _ => ?_) (fun _ => ?_) <;> try (exfalso; omega))
      | (refine p_lt rfl rfl (fun _ => ?_) (fun _ => ?_) <;> try (exfalso; omega))
      | (refine p_le rfl rfl (fun _ => ?_) (fun _ => ?_) <;> try (exfalso; omega))
      | (refine p_gt rfl rfl (fun _ => ?_) (fun _ => ?_) <;> try (exfalso; omega))
      | (refine p_ge rfl rfl (fun _ => ?_) (fun _ => ?_) <;> try (exfalso; omega))
      | (refine p_seq rfl rfl (fun _ => ?_) (fun _ => ?_))
      | (refine p_sne rfl rfl (fun _ => ?_) (fun _ => ?_))
      | (refine p_not rfl ?_)
      | (refine p_lenS u_str rfl ?_)
      | (refine p_fld fv0 rfl ?_)
      | (refine p_fld fv1 rfl ?_)
      | (refine p_fld fv2 rfl ?_)
      | (refine v_load agg_int rfl (hB1'.at_ rfl) ?_)
      | (refine v_load agg_str rfl (hB1'.at_ rfl) ?_)
      | (refine v_load agg_int rfl (hB2.at_ rfl) ?_)
      | (refine v_load agg_str rfl (hB2.at_ rfl) ?_)
      | (refine p_slt rfl rfl (fun _ => ?_) (fun _ => ?_))
    all_goals first
      | exact ⟨false, ⟨(fun h => by cases h), rfl⟩, rfl, rfl, rfl, trivial⟩
      | (refine ⟨true, ⟨(fun _ e => ?_), rfl⟩, rfl, rfl, rfl, trivial⟩; subst e; first | omega | (have q := less_irrefl (sb a.s).toList; simp_all; done))
  rintro q E1 W3 ⟨hq, rfl⟩
  cases q
  · refine v_loadN (vc a) agg_val rfl rfl (hB1'.run 0 _ (fun j v h => by rw [Nat.zero_add]; exact h)) ?_
    refine v_loadN (vc b) agg_val rfl rfl (hB2.run 0 _ (fun j v h => by rw [Nat.zero_add]; exact h)) ?_
    refine p_veq (a := a) (b := b) rfl rfl (fun h => ?_) (fun h => ?_)
    · exact ⟨0, rfl, ⟨(fun _ => h), (fun _ => rfl)⟩, hb⟩
    · exact ⟨1, rfl, ⟨(fun h' => by cases h'), (fun h' => absurd h' h)⟩, hb⟩
  · exact ⟨-1, rfl, ⟨(fun h => by cases h), (fun h => absurd h (hq rfl))⟩, hb⟩
end Go.Proofs.Ytjneoinacobbaaa
