/-
  The law PackShort holds: for every input of the bulk that the statement names the call returns true, and each argument reads as it read before.
  Conditions: none beside the row's own.
-/
import Derived.Test.YtliccofjlheceaaG25
import Derived.Test.YtliccofjlheceaaG17
namespace Go.Proofs.Ytliccofjlheceaa.lawPackShort
open Go.ChangeShapes Go.WideShapes Go.ChangeAt Go.RowKit

set_option maxRecDepth 100000 in
theorem contract (H : Type) (enc : TypeId × Value → H) (W : World) (base : Nat) (args : Array Value) (ds gs : List (DataW H)) (before : List MemPlace)
    (hval : ∀ (j : Nat) t v, Try.f8.params[j]? = some t → args[j]? = some v → Value.okWide Try.prog W .any base t v)
    (hW : DataW.Whole enc Try.prog Try.f8.params.toList Rows.packShortSpec.vars false W args.toList ds gs before) (hk : Rows.uptoSmall H (ds ++ gs) = true) :
    Calls Try.prog 8 args W fun e W' => ∃ v, e = .returned v ∧ Rows.packShortSpec.post enc Try.prog Try.f8 false true false false W args v W' := by
  have hW' := hW
  obtain ⟨p, q, hA0, hV, rfl, hfz, hnd⟩ := hW
  have hA : DataW.TrodAll enc Try.prog W 0 (fun _ => true) true Try.f8.params.toList args.toList ds p := hA0
  rw [Try.params8] at hA hval
  obtain ⟨v0, vs0, d0, ds0, p0, q0, hargs, rfl, rfl, h0, r0⟩ := trodAll_cons hA
  obtain ⟨v1, vs1, d1, ds1, p1, q1, rfl, rfl, rfl, h1, r1⟩ := trodAll_cons r0
  obtain ⟨v2, vs2, d2, ds2, p2, q2, rfl, rfl, rfl, h2, r2⟩ := trodAll_cons r1
  obtain ⟨rfl, rfl, rfl⟩ := trodAll_nil r2
  obtain rfl : args = #[v0, v1, v2] := by cases args; simp_all
  obtain ⟨rfl, rfl⟩ := trodVars_none hV
  have hk' := of_decide_eq_true hk
  simp only [Rows.uptoBulkAll, List.append_nil] at hk'
  obtain ⟨A0, n0, c0, l0, rfl, g0, u0⟩ := prs_open (hval 0 57 v0 rfl rfl) h0
  have b0 : (l0.map fun t => t.k.length + t.v.length + 3).sum ≤ 1048576 := by have := u0; omega
  obtain ⟨A1, n1, c1, l1, rfl, g1, k1, m1, u1⟩ := rds_open (hval 1 22 v1 rfl rfl) h1
  have b1 : (l1.map fun x => x.length + 1).sum ≤ 1048576 := by have := u1; omega
  obtain ⟨A2, n2, c2, l2, rfl, g2, u2⟩ := by_open (hval 2 23 v2 rfl rfl) h2
  have b2 : l2.length ≤ 1048576 := by have := u2; omega
  clear hA0
  simp only [List.append_nil] at hW'
  refine (packShort_walk W g0 b0 (RdS.rdD g1 k1) b1 g2 b2).mono fun e W' ⟨he, hb⟩ => ⟨_, he, law_post laidOut Try.underlying4 rfl hW' (by kernel_rfl) rfl rfl rfl rfl hb⟩

set_option maxRecDepth 100000 in
theorem lifted (os : Os) (started : os.Started) (H : Type) (enc : TypeId × Value → H) (F : Stop.Interp) :
    ReturnsInHanded {} Try.checked os 8 .any ((Rows.OpenSpec.upto Rows.packShortSpec).pre6 enc Try.prog Try.f8 Rows.packShortUptoRow.domain false) (((Rows.OpenSpec.upto Rows.packShortSpec).at F).post enc Try.prog Try.f8 false true false false) := by
  refine returnsInHanded_of_cond (C := Try.checked) (s := Rows.OpenSpec.upto Rows.packShortSpec) (k := Rows.uptoSmall) rfl own_ started (by kernel_rfl) Try.func8
    (OpenSpec.witness (enc := enc) (C := Try.checked) (s := Rows.OpenSpec.upto Rows.packShortSpec) (k := Rows.uptoSmall) rfl false ⟨#[], #[.slice none 0 0, .slice none 0 0, .slice none 0 0], []⟩ 8 (by kernel_rfl) (by kernel_rfl) (by kernel_rfl)
      (x := ([.nil, .nil, .nil], [], [])) (by kernel_rfl) rfl (by kernel_rfl)) ?_
  intro W base args ds gs before hval hW _ hk _
  exact contract H enc W base args ds gs before hval hW hk

theorem holds : Rows.PackShortUptoSaid :=
  OpenClaim.holds_of_cond 8 Try.f8 rfl rfl rfl rfl rfl rfl rfl ⟨rfl, rfl, rfl, rfl, rfl⟩ rfl rfl rfl rfl rfl (by kernel_rfl) Try.func8 (by kernel_rfl)
    (of_decide_eq_true (by kernel_rfl)) (by unfold Func.isWrapper; rw [if_neg (of_decide_eq_false (by kernel_rfl))]; exact ⟨rfl, rfl⟩)
    (fun os started H enc _ F => lifted os started H enc F)
end Go.Proofs.Ytliccofjlheceaa.lawPackShort
