/- append onto a slice that is full: a new row. No program in sight. -/
import Derived.Test.YtjneoinacobbaaaDoorFp
namespace Go.Proofs.YtjneoinacobbaaaDoor
open Go.RowKit
section
variable {P : Program} {w : World}
theorem info_parts' {P : Program} {e : TypeId} {z : Value} {s b : Nat} (hi : (P.info? e).map (fun i => (i.zero, i.size, i.bytes)) = some (some z, s, b)) : ∃ i, P.info? e = some i ∧ i.zero = some z ∧ i.size = s ∧ i.bytes = b := by
  obtain ⟨i, h1, h2⟩ := Option.map_eq_some_iff.1 hi
  simp only [Prod.mk.injEq] at h2
  exact ⟨i, h1, h2.1, h2.2.1, h2.2.2⟩
theorem run_append_zero {t ty e : TypeId} {i : TypeInfo} (ht : P.underlying t = some (.slice e)) (hi : P.info? e = some i) (A A2 : Option Addr) (n c c2 : Nat) (hnc : n ≤ c) :
    (Builtin.append_ #[t, t] ty #[.slice A n c, .slice A2 0 c2]).run P w = .ok (.slice A n c) w := by
  have hz : ∀ (A3 : Option Addr) (w : World), (Builtin.firstCells i.size 0 (.slice A3 0 c2)).run P w = .ok #[] w := by
    intro A3 w
    cases A3 with
    | none => simp [Builtin.firstCells]
    | some ad => exact run_firstCells_some (P := P) w i.size 0 ad 0 c2 [] (by simp) (by simp)
  cases A with
  | none => 
    cases A2 with
    | none => simp [Builtin.append_, run_underlying ht, sizeOf, typeInfo, hi, Builtin.lenOf, Builtin.firstCells, hnc]
    | some ad => simp [Builtin.append_, run_underlying ht, sizeOf, typeInfo, hi, Builtin.lenOf, hz, hnc]
  | some b =>
    cases A2 with
    | none => simp [Builtin.append_, run_underlying ht, sizeOf, typeInfo, hi, Builtin.lenOf, Builtin.firstCells, hnc, storeCells]
    | some ad => simp [Builtin.append_, run_underlying ht, sizeOf, typeInfo, hi, Builtin.lenOf, hz, hnc, storeCells]
theorem run_append_full {t ty e : TypeId} {i : TypeInfo} {z : Value} {size bytes : Nat} (ht : P.underlying t = some (.slice e)) (hi : P.info? e = some i) (hz : i.zero = some z) (hsize : i.size = size) (hby : i.bytes = bytes) (hzs : z.cells.size = size)
    {A A2 : Option Addr} {n m c2 B B2 : Nat} {olds news : List Value} (ho : Reads w B size A n olds) (hr : Reads w B2 size A2 m news) (hA : A = none → n = 0) (hm : 0 < m) (h63 : n + m ≤ maxLen) (hbytes : (n + m) * bytes ≤ 140737488355328) :
    ∃ c' w', (Builtin.append_ #[t, t] ty #[.slice A n n, .slice A2 m c2]).run P w = .ok (.slice (some ⟨w.heap.size, 0, none⟩) (n + m) c') w' ∧
      w'.ownsRow w.heap.size e size (.slice (some ⟨w.heap.size, 0, none⟩) (n + m) c') (n + m) (olds ++ news) ∧ Below w.heap.size w w' ∧ w'.heap.size = w.heap.size + 1 := by
  subst hsize
  subst hby
  obtain ⟨b2, off2, rfl, _, hn⟩ := hr.2 hm
  have hnews : ∀ j u, news[j]? = some u → w.cell? ((⟨b2, off2, none⟩ : Addr).add j) = some u := fun j u hu => by rw [Addr.add_lit]; exact hn j u hu
  have hsmall : n + m ≤ 9223372036854775807 := by simp only [maxLen] at h63; omega
  have hlen : (olds ++ news).length = (n + m) * i.size := by rw [List.length_append, ho.1, hr.1, Nat.add_mul]
  have own : ∀ old : Nat, old < n + m → (w.drew.alloc (.cells (olds.toArray ++ news.toArray ++ Builtin.zeroCells z.cells (grownCap w (n + m) old e - (n + m))) e)).ownsRow w.heap.size e i.size
        (.slice (some ⟨w.heap.size, 0, none⟩) (n + m) (grownCap w (n + m) old e)) (n + m) (olds ++ news) := by
    intro old hold
    have hge := grownCap_ge w (n + m) old e
    have hcm : grownCap w (n + m) old e ≤ maxLen := grownCap_le_maxLen w (n + m) old e h63
    refine ⟨hlen, .inr ⟨w.heap.size, _, _, rfl, Nat.le_refl _, heap_alloc_new w.drew _, hge, hcm, ?_, ?_⟩⟩
    · simp only [Array.size_append, List.size_toArray, size_zeroCells, hzs, ho.1, hr.1, ← Nat.add_mul]
      congr 1
      omega
    · simp only [Array.toList_append, List.append_assoc]
      rw [← List.append_assoc, ← hlen]
      exact List.take_left
  cases A with
  | none =>
    have hn0 := hA rfl
    subst hn0
    have he : olds = [] := List.eq_nil_of_length_eq_zero (by simpa using ho.1)
    subst he
    have hr := run_append_nil (P := P) w t ty e i z ht hi hz ⟨b2, off2, none⟩ m c2 news hr.1 hnews hm (by omega) (by have hb := hbytes; simp only [Nat.zero_add] at hb; omega)
    have hgr := own 0 (by omega)
    simp only [Nat.zero_add, List.nil_append, Array.empty_append] at hgr ⊢
    exact ⟨_, _, hr, hgr, (Below.refl _ _).drew.alloc (Nat.le_refl _) _, by simp⟩
  | some b =>
    have holds : ∀ j u, olds[j]? = some u → w.cell? (b.add j) = some u := by
      intro j u hu
      rcases Nat.eq_zero_or_pos n with h0 | h0
      · subst h0
        have he : olds = [] := List.eq_nil_of_length_eq_zero (by simpa using ho.1)
        subst he; simp at hu
      · obtain ⟨b1, off1, e1, _, h1⟩ := ho.2 h0
        injection e1 with e1; subst e1
        rw [Addr.add_lit]; exact h1 j u hu
    have hr := run_append_grow (P := P) w t ty e i z ht hi hz b n n olds ho.1 holds ⟨b2, off2, none⟩ m c2 news hr.1 hnews (by omega) (by omega) (growslice_fits (by omega) hbytes)
    exact ⟨_, _, hr, own n (by omega), (Below.refl _ _).drew.alloc (Nat.le_refl _) _, by simp⟩
end
end Go.Proofs.YtjneoinacobbaaaDoor
