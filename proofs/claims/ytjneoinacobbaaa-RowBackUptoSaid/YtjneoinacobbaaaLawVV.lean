/- A [][]Value that came in, opened to rows. -/
import Derived.Test.YtjneoinacobbaaaLawV
import Derived.Test.YtjneoinacobbaaaNest
namespace Go.Proofs.Ytjneoinacobbaaa
open Go.ChangeShapes Go.WideShapes Go.ChangeAt Go.RowKit
/-- How great rows are. -/
def vvbulk (ll : List (List Val)) : Nat := (ll.map fun l => vbulk l + 1).sum
theorem vvbulk_mem {ll : List (List Val)} {l : List Val} (h : l ∈ ll) : vbulk l + 1 ≤ vvbulk ll := by
  induction ll with
  | nil => cases h
  | cons x r ih =>
    unfold vvbulk at ih ⊢
    rw [List.map_cons, List.sum_cons]
    rcases List.mem_cons.1 h with rfl | h
    · omega
    · have := ih h; omega
theorem vvbulk_len (ll : List (List Val)) : ll.length ≤ vvbulk ll := by
  induction ll with
  | nil => exact Nat.le_refl _
  | cons x r ih => unfold vvbulk at *; rw [List.map_cons, List.sum_cons, List.length_cons]; omega
section
variable {H : Type} {enc : TypeId × Value → H} {W : World}
theorem vvbulk_sum : ∀ (ll : List (List Val)) (ds : List (DataW H)), ll.length = ds.length → (∀ (i : Nat) (l : List Val) (d : DataW H), ll[i]? = some l → ds[i]? = some d → vbulk l + 1 ≤ Rows.uptoBulk d) → vvbulk ll ≤ Rows.uptoBulkAll ds
  | [], ds, h, _ => Nat.zero_le _
  | l :: ll, [], h, _ => by simp at h
  | l :: ll, d :: ds, h, k => by
    have h0 := k 0 l d rfl rfl
    have := vvbulk_sum ll ds (by simpa using h) (fun i l' d' h1 h2 => k (i + 1) l' d' (by simpa using h1) (by simpa using h2))
    show _ ≤ Rows.uptoBulk d + Rows.uptoBulkAll ds
    unfold vvbulk at this ⊢
    rw [List.map_cons, List.sum_cons]; omega
theorem rdvs_open {base : Nat} {v : Value} {d : DataW H} {p : List MemPlace} (hv : Value.okWide Try.prog W .any base 42 v)
    (h : DataW.Trod enc Try.prog W 0 (fun _ => true) true 42 v d p) : ∃ A n c ll, v = .slice A n c ∧ RdN W W.heap.size 3 A n (ll.map vcs) ∧ n ≤ c ∧ c ≤ maxLen ∧ (∀ l ∈ ll, ∀ v ∈ l, VOk v) ∧ vvbulk ll + 1 ≤ Rows.uptoBulk d := by
  obtain ⟨a0, len, cap, rfl⟩ := okWide_slice Try.underlying42 hv
  have hlt : ∀ x ∈ p, x.block < W.heap.size := by obtain ⟨m, hm⟩ := h; exact DataW.trod_lt m _ _ _ hm
  obtain ⟨fuel, hf⟩ := h
  rcases DataW.trod_slice Try.underlying42 hf with ⟨hcs, hx⟩ | ⟨x, l, c, elems, rest, m, _, hcs, hx, _, hl, hm, hlen, hel, _⟩
  · simp [Value.cells] at hcs
    obtain ⟨rfl, rfl, rfl⟩ := hcs
    simp only [Prod.mk.injEq] at hx
    obtain ⟨rfl, rfl⟩ := hx
    exact ⟨none, 0, 0, [], rfl, RdN.nil_, Nat.le_refl _, Nat.zero_le _, (by simp), Nat.le_refl _⟩
  · simp [Value.cells] at hcs
    obtain ⟨rfl, rfl, rfl⟩ := hcs
    simp only [Prod.mk.injEq] at hx
    obtain ⟨rfl, rfl⟩ := hx
    have hc1 : Program.cellsOf Try.prog 22 = 1 := by kernel_rfl
    have each : ∀ i, i < len → ∃ (v : Value) (l : List Val), W.cell? (x.add i) = some v ∧ (∃ A n c, v = .slice A n c ∧ n ≤ c ∧ RdV W W.heap.size A n l) ∧ (∀ u ∈ l, VOk u) ∧ ∀ y, elems[i]? = some y → vbulk l + 1 ≤ Rows.uptoBulk y.1 := by
      intro i hi
      have hE := hel i hi
      rw [hc1, Nat.mul_one, List.getElem?_eq_getElem (by omega), Option.bind_eq_some_iff] at hE
      obtain ⟨cs, hcs, hy⟩ := hE
      obtain ⟨A, n, c, l, rfl, hr, hn, _, hok, hb⟩ := vals_trod hy (fun q hq => hlt q (List.mem_append_right _ (List.mem_flatMap.2 ⟨elems[i]'(by omega), List.mem_append_left _ (List.getElem_mem _), hq⟩)))
      refine ⟨_, l, cell_of_cells?_one hcs, ⟨A, n, c, rfl, hn, hr⟩, hok, fun y hy2 => ?_⟩
      rw [List.getElem?_eq_getElem (by omega)] at hy2
      injection hy2 with hy2
      subst hy2
      exact hb
    obtain ⟨vs, ll, hvs, hll, hall⟩ := gather len each
    refine ⟨some x, len, cap, ll, rfl, ⟨vs, ⟨by omega, fun hn => ?_⟩, by simp; omega, fun k v xs h1 h2 => ?_⟩, hl, hm, ?_, ?_⟩
    · obtain ⟨b, off, spot⟩ := x
      obtain ⟨v0, l0, h0, _⟩ := each 0 (by omega)
      have hspot : spot = none := by simpa [Addr.add] using World.cell?_spot h0
      subst hspot
      have hbW : b < W.heap.size := hlt (.cell b off) (List.mem_append_left _ (MemPlace.mem_row.2 ⟨0, by rw [hc1]; omega, by simp⟩))
      refine ⟨b, off, rfl, hbW, fun j u hu => ?_⟩
      have hj := (List.getElem?_eq_some_iff.1 hu).1
      have hl2 : ll[j]? = some (ll[j]'(by omega)) := List.getElem?_eq_getElem (by omega)
      have := (hall j u _ hu hl2).1
      rw [Addr.add_lit] at this
      exact this
    · rw [List.getElem?_map] at h2
      obtain ⟨l, hl2, rfl⟩ := Option.map_eq_some_iff.1 h2
      obtain ⟨_, ⟨A, n, c, h3, h4, h5⟩, _⟩ := hall k v l h1 hl2
      exact ⟨A, n, c, h3, h4, h5⟩
    · intro l hl2
      obtain ⟨i, hi⟩ := List.getElem?_of_mem hl2
      have hi2 := (List.getElem?_eq_some_iff.1 hi).1
      exact (hall i (vs[i]'(by omega)) l (List.getElem?_eq_getElem (by omega)) hi).2.2.1
    · have := vvbulk_sum ll (elems.map (·.1)) (by simp [hll, hlen]) (fun i l d h1 h2 => by
        rw [List.getElem?_map] at h2
        obtain ⟨y, hy, rfl⟩ := Option.map_eq_some_iff.1 h2
        have hi := (List.getElem?_eq_some_iff.1 h1).1
        exact (hall i (vs[i]'(by omega)) l (List.getElem?_eq_getElem (by omega)) h1).2.2.2 y hy)
      show _ ≤ Rows.uptoBulkAll (elems.map (·.1)) + Rows.uptoBulkAll (rest.map (·.1)) + 1
      omega
end
end Go.Proofs.Ytjneoinacobbaaa
