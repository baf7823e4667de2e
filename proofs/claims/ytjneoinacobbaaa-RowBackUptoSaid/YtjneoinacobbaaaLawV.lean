/- A []Value, a [][]Value and a Value that came in, opened to lists. -/
import Derived.Test.YtjneoinacobbaaaLawS
import Derived.Test.YtjneoinacobbaaaRowL
import Derived.Deep.Strs
namespace Go.Proofs.Ytjneoinacobbaaa
open Go.ChangeShapes Go.WideShapes Go.ChangeAt Go.RowKit

section
variable {H : Type} {enc : TypeId × Value → H} {W : World}
theorem cells1 : Program.cellsOf Try.prog 3 = 1 := by kernel_rfl
theorem cells1s : Program.cellsOf Try.prog 9 = 1 := by kernel_rfl
theorem cells3 : Program.cellsOf Try.prog 52 = 3 := by kernel_rfl
/-- A Value among what came in. -/
theorem val_trod {fuel : Nat} {cs : List Value} {x : DataW H × List MemPlace} (hf : DataW.trod enc Try.prog W 0 (fun _ => true) true fuel 52 cs = some x) :
    ∃ v, cs = vc v ∧ VOk v ∧ v.s.length + 4 ≤ Rows.uptoBulk x.1 := by
  obtain ⟨y0, y1, y2, n, rfl, hl, h0, h1, h2⟩ := Go.Deep.trod_struct3 Try.underlying52 hf
  rw [cells3] at hl
  obtain ⟨a, b, c, rfl⟩ : ∃ a b c, cs = [a, b, c] := by
    match cs, hl with
    | [a, b, c], _ => exact ⟨a, b, c, rfl⟩
  have e0 : (([a, b, c] : List Value).drop 0).take 1 = [a] := rfl
  have e1 : (([a, b, c] : List Value).drop 1).take 1 = [b] := rfl
  have e2 : (([a, b, c] : List Value).drop 2).take 1 = [c] := rfl
  replace h0 : DataW.trod enc Try.prog W 0 (fun _ => true) true n 3 (([a, b, c].drop 0).take (Program.cellsOf Try.prog 3)) = some y0 := h0
  replace h1 : DataW.trod enc Try.prog W 0 (fun _ => true) true n 3 (([a, b, c].drop 1).take (Program.cellsOf Try.prog 3)) = some y1 := h1
  replace h2 : DataW.trod enc Try.prog W 0 (fun _ => true) true n 9 (([a, b, c].drop 2).take (Program.cellsOf Try.prog 9)) = some y2 := h2
  rw [cells1, e0] at h0
  rw [cells1, e1] at h1
  rw [cells1s, e2] at h2
  obtain ⟨k, hk, rfl, wk⟩ := DataW.trod_int Try.underlying3 h0
  obtain ⟨m, hm, rfl, wm⟩ := DataW.trod_int Try.underlying3 h1
  obtain ⟨s, hs, rfl, ws⟩ := DataW.trod_string Try.underlying9 h2
  injection hk with hk _
  injection hm with hm _
  injection hs with hs _
  subst hk; subst hm; subst hs
  have ss : s.data.toList.length = s.size := by rw [Array.length_toList]; rfl
  refine ⟨⟨k, m, s.data.toList⟩, ?_, ⟨wf_i64 wk, wf_i64 wm, ?_⟩, ?_⟩
  · simp [vc, sb]
  · show s.data.toList.length ≤ _
    rw [ss]; exact Nat.le_trans ws (by decide)
  · show s.data.toList.length + 4 ≤ 1 + (1 + (s.data.toList.length + 1 + 0)) + 1
    omega
/-- How great a row is. -/
def vbulk (l : List Val) : Nat := (l.map fun v => v.s.length + 4).sum
theorem vbulk_sum : ∀ (ll : List Val) (ds : List (DataW H)), ll.length = ds.length → (∀ (i : Nat) (l : Val) (d : DataW H), ll[i]? = some l → ds[i]? = some d → l.s.length + 4 ≤ Rows.uptoBulk d) → vbulk ll ≤ Rows.uptoBulkAll ds
  | [], ds, h, _ => Nat.zero_le _
  | l :: ll, [], h, _ => by simp at h
  | l :: ll, d :: ds, h, k => by
    have h0 := k 0 l d rfl rfl
    have := vbulk_sum ll ds (by simpa using h) (fun i l' d' h1 h2 => k (i + 1) l' d' (by simpa using h1) (by simpa using h2))
    show _ ≤ Rows.uptoBulk d + Rows.uptoBulkAll ds
    unfold vbulk at this ⊢
    rw [List.map_cons, List.sum_cons]; omega
theorem gather1 {α : Type} {P : Nat → α → Prop} (n : Nat) (h : ∀ i, i < n → ∃ a, P i a) : ∃ us : List α, us.length = n ∧ ∀ i a, us[i]? = some a → P i a := by
  obtain ⟨us, bs, h1, h2, h3⟩ := gather (P := fun i a (_ : Unit) => P i a) n (fun i hi => by obtain ⟨a, ha⟩ := h i hi; exact ⟨a, (), ha⟩)
  refine ⟨us, h1, fun i a ha => ?_⟩
  have hi : i < us.length := (List.getElem?_eq_some_iff.1 ha).1
  exact h3 i a () ha (by rw [List.getElem?_eq_getElem (by omega)])
theorem vcs_get : ∀ (l : List Val) (j : Nat) (u : Value), (vcs l)[j]? = some u → ∃ v, l[j / 3]? = some v ∧ (vc v)[j % 3]? = some u
  | [], j, u, h => by simp [vcs] at h
  | v :: l, j, u, h => by
    simp only [vcs, List.flatMap_cons] at h
    by_cases hj : j < 3
    · rw [List.getElem?_append_left (by rw [vc_len]; exact hj)] at h
      exact ⟨v, by rw [Nat.div_eq_of_lt hj]; rfl, by rw [Nat.mod_eq_of_lt hj]; exact h⟩
    · rw [List.getElem?_append_right (by rw [vc_len]; omega), vc_len] at h
      obtain ⟨v', h1, h2⟩ := vcs_get l (j - 3) u h
      obtain ⟨q, rfl⟩ : ∃ q, j = q + 3 := ⟨j - 3, by omega⟩
      refine ⟨v', ?_, ?_⟩
      · rw [Nat.add_sub_cancel] at h1
        rw [Nat.add_div_right _ (by decide)]; exact h1
      · rw [Nat.add_sub_cancel] at h2
        rw [Nat.add_mod_right]; exact h2
/-- Cells of a []Value. -/
theorem vals_trod {fuel : Nat} {cs : List Value} {d : DataW H} {p : List MemPlace} (hf : DataW.trod enc Try.prog W 0 (fun _ => true) true fuel 22 cs = some (d, p)) (hlt : ∀ x ∈ p, x.block < W.heap.size) :
    ∃ A n c l, cs = [.slice A n c] ∧ RdV W W.heap.size A n l ∧ n ≤ c ∧ c ≤ maxLen ∧ (∀ v ∈ l, VOk v) ∧ vbulk l + 1 ≤ Rows.uptoBulk d := by
  rcases DataW.trod_slice Try.underlying22 hf with ⟨hcs, hx⟩ | ⟨x, l, c, elems, rest, m, _, hcs, hx, _, hl, hm, hlen, hel, _⟩
  · simp only [Prod.mk.injEq] at hx
    obtain ⟨rfl, rfl⟩ := hx
    exact ⟨none, 0, 0, [], hcs, RdV.nil_, Nat.le_refl _, Nat.zero_le _, (by simp), Nat.le_refl _⟩
  · simp only [Prod.mk.injEq] at hx
    obtain ⟨rfl, rfl⟩ := hx
    have each : ∀ i, i < l → ∃ v : Val, VOk v ∧ (∀ j u, (vc v)[j]? = some u → W.cell? ((x.add (i * 3)).add j) = some u) ∧ ∀ y, elems[i]? = some y → v.s.length + 4 ≤ Rows.uptoBulk y.1 := by
      intro i hi
      have hE := hel i hi
      rw [cells3, List.getElem?_eq_getElem (by omega), Option.bind_eq_some_iff] at hE
      obtain ⟨cs', hcs', hy⟩ := hE
      obtain ⟨v, rfl, hok, hb⟩ := val_trod hy
      obtain ⟨_, hc1, hc2⟩ := World.cells?_some hcs'
      refine ⟨v, hok, fun j u hu => ?_, fun y hy2 => ?_⟩
      · have hj : j < 3 := by have := (List.getElem?_eq_some_iff.1 hu).1; rw [vc_len] at this; exact this
        rw [hc2 j (by omega)]; exact hu
      · rw [List.getElem?_eq_getElem (by omega)] at hy2
        injection hy2 with hy2
        subst hy2
        exact hb
    obtain ⟨vl, hvl, hall⟩ := gather1 l each
    refine ⟨some x, l, c, vl, hcs, ⟨by rw [vcs_len, hvl], fun hn => ?_⟩, hl, hm, ?_, ?_⟩
    · obtain ⟨b, off, spot⟩ := x
      obtain ⟨v0, _, h0, _⟩ := each 0 (by omega)
      have hspot : spot = none := by simpa [Addr.add] using World.cell?_spot (h0 0 _ rfl)
      subst hspot
      have hbW : b < W.heap.size := hlt (.cell b off) (List.mem_append_left _ (MemPlace.mem_row.2 ⟨0, by rw [cells3]; omega, by simp⟩))
      refine ⟨b, off, rfl, hbW, fun j u hu => ?_⟩
      obtain ⟨v, h1, h2⟩ := vcs_get vl j u hu
      have := (hall (j / 3) v h1).2.1 (j % 3) u h2
      rw [Addr.add_lit, Addr.add_lit] at this
      rw [show off + j = off + j / 3 * 3 + j % 3 by omega]
      exact this
    · intro v hv
      obtain ⟨i, hi⟩ := List.getElem?_of_mem hv
      exact (hall i v hi).1
    · have := vbulk_sum vl (elems.map (·.1)) (by simp [hvl, hlen]) (fun i l' d h1 h2 => by
        rw [List.getElem?_map] at h2
        obtain ⟨y, hy, rfl⟩ := Option.map_eq_some_iff.1 h2
        exact (hall i l' h1).2.2 y hy)
      show _ ≤ Rows.uptoBulkAll (elems.map (·.1)) + Rows.uptoBulkAll (rest.map (·.1)) + 1
      omega
/-- A []Value that came in. -/
theorem rdv_open {base : Nat} {v : Value} {d : DataW H} {p : List MemPlace} (hv : Value.okWide Try.prog W .any base 22 v)
    (h : DataW.Trod enc Try.prog W 0 (fun _ => true) true 22 v d p) : ∃ A n c l, v = .slice A n c ∧ RdV W W.heap.size A n l ∧ n ≤ c ∧ c ≤ maxLen ∧ (∀ v ∈ l, VOk v) ∧ vbulk l + 1 ≤ Rows.uptoBulk d := by
  obtain ⟨a0, len, cap, rfl⟩ := okWide_slice Try.underlying22 hv
  have hlt : ∀ x ∈ p, x.block < W.heap.size := by obtain ⟨m, hm⟩ := h; exact DataW.trod_lt m _ _ _ hm
  obtain ⟨fuel, hf⟩ := h
  obtain ⟨A, n, c, l, hcs, r⟩ := vals_trod hf hlt
  simp [Value.cells] at hcs
  obtain ⟨rfl, rfl, rfl⟩ := hcs
  exact ⟨_, _, _, l, rfl, r⟩
end
end Go.Proofs.Ytjneoinacobbaaa
