/- A [][]byte that came in, opened to lists. -/
import Derived.Test.YtjneoinacobbaaaDoorLaw
import Derived.Test.YtjneoinacobbaaaDoorLists
import Derived.ChangeArms
namespace Go.Proofs.YtjneoinacobbaaaDoor
open Go.ChangeShapes Go.WideShapes Go.ChangeAt Go.RowKit

section
variable {H : Type} {enc : TypeId × Value → H} {W : World}
theorem lits_bulk (k : IntKind) : ∀ zs : List Int, Rows.uptoBulkAll (lits (H := H) k zs) = zs.length
  | [] => rfl
  | z :: zs => by
    have := lits_bulk k zs
    show Rows.uptoBulk (DataW.lit (.int k z)) + Rows.uptoBulkAll (lits k zs) = _
    rw [this, List.length_cons]
    show 1 + zs.length = _
    omega
theorem rd_trod {fuel : Nat} {cs : List Value} {d : DataW H} {p : List MemPlace} (hf : DataW.trod enc Tryd.prog W 0 (fun _ => true) true fuel 23 cs = some (d, p)) (hlt : ∀ x ∈ p, x.block < W.heap.size) :
    ∃ A n c l, cs = [.slice A n c] ∧ Rd W W.heap.size A n l ∧ n ≤ c ∧ c ≤ maxLen ∧ l.length + 1 ≤ Rows.uptoBulk d ∧ ∀ R, (∀ x ∈ d.weights Tryd.prog 23, x ≤ R) → l.length ≤ R := by
  rcases open_ints Tryd.underlying23 Tryd.underlying5 (by kernel_rfl) hf with ⟨hcs, hx⟩ | ⟨x, l, c, zs, hcs, _, hl, hm, hz, hx, hcell, hwz⟩
  · simp only [Prod.mk.injEq] at hx
    obtain ⟨rfl, rfl⟩ := hx
    exact ⟨none, 0, 0, [], hcs, Rd.nil_, Nat.le_refl _, Nat.zero_le _, Nat.le_refl _, fun _ _ => Nat.zero_le _⟩
  · simp only [if_true] at hz
    simp only [Prod.mk.injEq] at hx
    obtain ⟨rfl, rfl⟩ := hx
    refine ⟨some x, l, c, (zs.take l).map b8, hcs, ⟨by rw [bvs_length]; simp; omega, fun hn => ?_⟩, hl, hm, ?_, ?_⟩
    · obtain ⟨b, off, spot⟩ := x
      have hspot : spot = none := by simpa [Addr.add] using World.cell?_spot (hcell 0 (by omega))
      subst hspot
      have hbW : b < W.heap.size := hlt (.cell b off) (MemPlace.mem_row.2 ⟨0, by omega, by simp⟩)
      refine ⟨b, off, rfl, hbW, fun j u hu => ?_⟩
      have e : bvs ((zs.take l).map b8) = (zs.take l).map (Value.int .u8) := by
        unfold bvs
        rw [List.map_map]
        refine List.map_congr_left fun z hz => ?_
        have := hwz z (List.mem_of_mem_take hz)
        have hr : 0 ≤ z ∧ z ≤ 255 := by simpa [Lit.wf, IntKind.min, IntKind.max, IntKind.signed, IntKind.bits] using this
        exact u8v_b8 z hr.1 hr.2
      rw [e, List.getElem?_map] at hu
      obtain ⟨z, hz1, rfl⟩ := Option.map_eq_some_iff.1 hu
      have hj : j < l := by
        rw [List.getElem?_take] at hz1
        split at hz1
        · assumption
        · cases hz1
      have hc := hcell j (by omega)
      rw [Addr.add_lit] at hc
      rw [hc]
      rw [List.getElem?_take, if_pos hj] at hz1
      rw [List.getD_eq_getElem?_getD, hz1]
      rfl
    · show _ ≤ Rows.uptoBulkAll (lits .u8 (zs.take l)) + Rows.uptoBulkAll (lits .u8 (zs.drop l)) + 1
      rw [lits_bulk, lits_bulk]
      simp
    · intro R hR
      have hb : Tryd.prog.bytesOf 5 = 1 := by kernel_rfl
      have := hR (((lits (H := H) .u8 (zs.take l)).length + (lits (H := H) .u8 (zs.drop l)).length) * Tryd.prog.bytesOf 5) (by
        unfold DataW.weights; rw [Tryd.underlying23]; simp)
      rw [hb] at this
      have h3 : (lits (H := H) .u8 (zs.take l)).length = (zs.take l).length := by simp [lits]
      rw [List.length_map, ← h3]; omega
end

/-- Of each number below n two things that fit: two lists of them. -/
theorem gather {α β : Type} {P : Nat → α → β → Prop} : ∀ n, (∀ i, i < n → ∃ a b, P i a b) → ∃ (us : List α) (bs : List β), us.length = n ∧ bs.length = n ∧ ∀ i a b, us[i]? = some a → bs[i]? = some b → P i a b
  | 0, _ => ⟨[], [], rfl, rfl, fun i a b h => by simp at h⟩
  | n + 1, h => by
    obtain ⟨us, bs, h1, h2, h3⟩ := gather n (fun i hi => h i (by omega))
    obtain ⟨a, b, hab⟩ := h n (by omega)
    refine ⟨us ++ [a], bs ++ [b], by simp [h1], by simp [h2], fun i a' b' ha hb => ?_⟩
    by_cases hi : i < n
    · rw [List.getElem?_append_left (by omega)] at ha hb
      exact h3 i a' b' ha hb
    · have hin : i = n := by
        have := (List.getElem?_eq_some_iff.1 ha).1
        simp [h1] at this; omega
      subst hin
      rw [List.getElem?_append_right (by omega)] at ha hb
      rw [h1, Nat.sub_self] at ha
      rw [h2, Nat.sub_self] at hb
      simp at ha hb
      subst ha; subst hb
      exact hab
theorem bulk_sum {H : Type} : ∀ (ll : List (List UInt8)) (ds : List (DataW H)), ll.length = ds.length → (∀ (i : Nat) (l : List UInt8) (d : DataW H), ll[i]? = some l → ds[i]? = some d → l.length + 1 ≤ Rows.uptoBulk d) → (ll.map fun x => x.length + 1).sum ≤ Rows.uptoBulkAll ds
  | [], ds, h, _ => Nat.zero_le _
  | l :: ll, [], h, _ => by simp at h
  | l :: ll, d :: ds, h, k => by
    have h0 := k 0 l d rfl rfl
    have := bulk_sum ll ds (by simpa using h) (fun i l' d' h1 h2 => k (i + 1) l' d' (by simpa using h1) (by simpa using h2))
    show _ ≤ Rows.uptoBulk d + Rows.uptoBulkAll ds
    rw [List.map_cons, List.sum_cons]; omega

theorem weights_mem {H : Type} {P : Program} {e : TypeId} : ∀ {ds : List (DataW H)} {d : DataW H} {x : Nat}, d ∈ ds → x ∈ d.weights P e → x ∈ DataW.weightsAll P e ds
  | [], d, x, h, _ => by cases h
  | d0 :: ds, d, x, h, hx => by
    unfold DataW.weightsAll
    rcases List.mem_cons.1 h with rfl | h
    · exact List.mem_append_left _ hx
    · exact List.mem_append_right _ (weights_mem h hx)
/-- A [][]byte that came in: it reads as lists. -/
theorem rds_openW {H : Type} {enc : TypeId × Value → H} {W : World} {base : Nat} {v : Value} {d : DataW H} {p : List MemPlace} (hv : Value.okWide Tryd.prog W .any base 22 v)
    (h : DataW.Trod enc Tryd.prog W 0 (fun _ => true) true 22 v d p) : ∃ A n c ll, v = .slice A n c ∧ RdS W W.heap.size A n ll ∧ n ≤ c ∧ c ≤ maxLen ∧ (ll.map fun x => x.length + 1).sum + 1 ≤ Rows.uptoBulk d ∧ ∀ R, (∀ x ∈ d.weights Tryd.prog 22, x ≤ R) → ∀ l ∈ ll, l.length ≤ R := by
  obtain ⟨a0, len, cap, rfl⟩ := okWide_slice Tryd.underlying22 hv
  have hlt : ∀ x ∈ p, x.block < W.heap.size := by obtain ⟨m, hm⟩ := h; exact DataW.trod_lt m _ _ _ hm
  obtain ⟨fuel, hf⟩ := h
  rcases DataW.trod_slice Tryd.underlying22 hf with ⟨hcs, hx⟩ | ⟨x, l, c, elems, rest, m, _, hcs, hx, _, hl, hm, hlen, hel, _⟩
  · simp [Value.cells] at hcs
    obtain ⟨rfl, rfl, rfl⟩ := hcs
    simp only [Prod.mk.injEq] at hx
    obtain ⟨rfl, rfl⟩ := hx
    exact ⟨none, 0, 0, [], rfl, RdS.nil_, Nat.le_refl _, Nat.zero_le _, Nat.le_refl _, fun _ _ l hl => by cases hl⟩
  · simp [Value.cells] at hcs
    obtain ⟨rfl, rfl, rfl⟩ := hcs
    simp only [Prod.mk.injEq] at hx
    obtain ⟨rfl, rfl⟩ := hx
    have hc1 : Program.cellsOf Tryd.prog 23 = 1 := by kernel_rfl
    have each : ∀ i, i < len → ∃ (v : Value) (l : List UInt8), W.cell? (x.add i) = some v ∧ (∃ A n c, v = .slice A n c ∧ n ≤ c ∧ Rd W W.heap.size A n l) ∧ ∀ y, elems[i]? = some y → l.length + 1 ≤ Rows.uptoBulk y.1 ∧ ∀ R, (∀ x ∈ y.1.weights Tryd.prog 23, x ≤ R) → l.length ≤ R := by
      intro i hi
      have hE := hel i hi
      rw [hc1, Nat.mul_one, List.getElem?_eq_getElem (by omega), Option.bind_eq_some_iff] at hE
      obtain ⟨cs, hcs, hy⟩ := hE
      obtain ⟨A, n, c, l, rfl, hr, hn, _, hb, hb2⟩ := rd_trod hy (fun q hq => hlt q (List.mem_append_right _ (List.mem_flatMap.2 ⟨elems[i]'(by omega), List.mem_append_left _ (List.getElem_mem _), hq⟩)))
      refine ⟨_, l, cell_of_cells?_one hcs, ⟨A, n, c, rfl, hn, hr⟩, fun y hy2 => ?_⟩
      rw [List.getElem?_eq_getElem (by omega)] at hy2
      injection hy2 with hy2
      subst hy2
      exact ⟨hb, hb2⟩
    obtain ⟨vs, ll, hvs, hll, hall⟩ := gather len each
    refine ⟨some x, len, cap, ll, rfl, ⟨vs, ⟨by omega, fun hn => ?_⟩, by omega, fun k v l h1 h2 => ?_⟩, hl, hm, ?_, ?_⟩
    · obtain ⟨b, off, spot⟩ := x
      obtain ⟨v0, l0, h0, _⟩ := each 0 (by omega)
      have hspot : spot = none := by simpa [Addr.add] using World.cell?_spot h0
      subst hspot
      have hbW : b < W.heap.size := hlt (.cell b off) (List.mem_append_left _ (MemPlace.mem_row.2 ⟨0, by rw [hc1]; omega, by simp⟩))
      refine ⟨b, off, rfl, hbW, fun j u hu => ?_⟩
      have hj := (List.getElem?_eq_some_iff.1 hu).1
      have hl2 : ll[j]? = some (ll[j]'(by omega)) := List.getElem?_eq_getElem (by omega)
      have := (hall j u _ hu hl2).1
      rw [Addr.add_lit] at this
      exact this
    · obtain ⟨_, ⟨A, n, c, h3, h4, h5⟩, _⟩ := hall k v l h1 h2
      exact ⟨A, n, c, h3, h4, h5⟩
    · have := bulk_sum ll (elems.map (·.1)) (by simp [hll, hlen]) (fun i l d h1 h2 => by
        rw [List.getElem?_map] at h2
        obtain ⟨y, hy, rfl⟩ := Option.map_eq_some_iff.1 h2
        have hi := (List.getElem?_eq_some_iff.1 h1).1
        exact ((hall i (vs[i]'(by omega)) l (List.getElem?_eq_getElem (by omega)) h1).2.2 y hy).1)
      show _ ≤ Rows.uptoBulkAll (elems.map (·.1)) + Rows.uptoBulkAll (rest.map (·.1)) + 1
      omega
    · intro R hR l hl
      obtain ⟨i, hi⟩ := List.getElem?_of_mem hl
      have hil := (List.getElem?_eq_some_iff.1 hi).1
      have hie : elems[i]? = some (elems[i]'(by omega)) := List.getElem?_eq_getElem (by omega)
      refine ((hall i (vs[i]'(by omega)) l (List.getElem?_eq_getElem (by omega)) hi).2.2 _ hie).2 R fun x hx => hR x ?_
      unfold DataW.weights
      rw [Tryd.underlying22]
      refine List.mem_cons_of_mem _ (List.mem_append_left _ ?_)
      exact weights_mem (List.mem_map_of_mem (List.mem_of_getElem? hie)) hx
/-- The same without weights. -/
theorem rds_open {H : Type} {enc : TypeId × Value → H} {W : World} {base : Nat} {v : Value} {d : DataW H} {p : List MemPlace} (hv : Value.okWide Tryd.prog W .any base 22 v)
    (h : DataW.Trod enc Tryd.prog W 0 (fun _ => true) true 22 v d p) : ∃ A n c ll, v = .slice A n c ∧ RdS W W.heap.size A n ll ∧ n ≤ c ∧ c ≤ maxLen ∧ (ll.map fun x => x.length + 1).sum + 1 ≤ Rows.uptoBulk d := by
  obtain ⟨A, n, c, ll, h1, h2, h3, h4, h5, _⟩ := rds_openW hv h
  exact ⟨A, n, c, ll, h1, h2, h3, h4, h5⟩
end Go.Proofs.YtjneoinacobbaaaDoor
