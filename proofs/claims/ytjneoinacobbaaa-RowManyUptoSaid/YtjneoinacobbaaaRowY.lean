/- The walks of the reference's Rows and of the law's 'long'. -/
import Derived.Test.YtjneoinacobbaaaValC
namespace Go.Proofs.Ytjneoinacobbaaa
open Go.RowKit
theorem is_cmp : isFn Try.prog 33 = true := by kernel_rfl
theorem is_rows : isFn Try.prog 15 = true := by kernel_rfl
theorem RdV.ptr {w : World} {B n : Nat} {ad : Addr} {l : List Val} (h : RdV w B (some ad) n l) {i : Nat} {v : Val} (hi : l[i]? = some v) : ∀ j u, (vc v)[j]? = some u → w.cell? ((ad.add (i * 3)).add j) = some u := by
  obtain ⟨ad', e, _, _, hc⟩ := h.at_ hi
  injection e with e
  subst e
  exact hc
theorem RdV.some_ {w : World} {B n : Nat} {A : Option Addr} {l : List Val} (h : RdV w B A n l) {i : Nat} (hi : i < n) : ∃ ad v, A = some ad ∧ l[i]? = some v := by
  have hil : i < l.length := by have := h.len; omega
  obtain ⟨ad, e, _⟩ := h.at_ (List.getElem?_eq_getElem hil)
  exact ⟨ad, _, e, List.getElem?_eq_getElem hil⟩
theorem take_step {α : Type} {x y : List α} {i : Nat} {v : α} (ht : x.take i = y.take i) (hx : x[i]? = some v) (hy : y[i]? = some v) : x.take (i + 1) = y.take (i + 1) := by
  rw [List.take_add_one, List.take_add_one, ht, hx, hy]
theorem take_all {α : Type} {x y : List α} {i : Nat} (ht : x.take i = y.take i) (hx : x.length ≤ i) (hy : y.length ≤ i) : x = y := by
  rwa [List.take_of_length_le hx, List.take_of_length_le hy] at ht
set_option maxRecDepth 100000 in
theorem rows_any (A B : Option Addr) (n c m d : Nat) (x y : List Val) (w : World) (hx : RdV w w.heap.size A n x) (hy : RdV w w.heap.size B m y) (hn : n ≤ 1000000000) (hm : m ≤ 1000000000) :
    Calls Try.prog 15 #[.slice A n c, .slice B m d] w fun e w' => ∃ r : Int, e = .returned (.int .i64 r) ∧ (r = 0 ↔ x = y) ∧ Below w.heap.size w w' := by
  refine calls_ev (args := [.slice A n c, .slice B m d]) mixed Try.func15 rfl (by kernel_rfl) ?_
  have hlx := hx.len
  have hly := hy.len
  refine lp Nat (fun i W => Below w.heap.size w W ∧ W.heap.size = w.heap.size ∧ i ≤ n ∧ i ≤ m ∧ x.take i = y.take i) (fun i => [(0, .slice A n c), (1, .slice B m d), (5, .int .i64 i)]) (fun i => n - i) 0
    ⟨Below.refl _ _, rfl, Nat.zero_le _, Nat.zero_le _, rfl⟩ ⟨rfl, rfl, rfl, trivial⟩ ?_
  rintro i E0 W1 ⟨hb1, hs1, hin, him, ht⟩
  have hx1 := hx.below hb1
  have hy1 := hy.below hb1
  refine dr (fun W => RdV W w.heap.size A n x ∧ RdV W w.heap.size B m y) [(0, true), (1, true), (2, true), (3, true), (4, true), (5, true), (6, true), (7, true), (8, true), (9, true), (10, true), (11, true), (12, true), (13, true), (14, true), (15, true), (16, true), (17, true), (18, true), (19, true), (20, true)] (by kernel_rfl) ⟨hx1.drew, hy1.drew⟩ ?_
  refine p_len slv rfl ?_
  refine p_lt rfl rfl (fun h1 => ?_) (fun h1 => ?_)
  · refine p_len slv rfl ?_
    refine p_lt rfl rfl (fun h2 => ?_) (fun h2 => ?_)
    · obtain ⟨a, u, rfl, hu⟩ := hx.some_ (i := i) (by omega)
      obtain ⟨b, v, rfl, hv⟩ := hy.some_ (i := i) (by omega)
      refine p_at (i := i) slv rfl rfl rfl (by omega) ?_
      refine t_loadN (vc u) agg_val rfl rfl (fun W h => h.1.ptr hu) ?_
      refine p_at (i := i) slv rfl rfl rfl (by omega) ?_
      refine t_loadN (vc v) agg_val rfl rfl (fun W h => h.2.ptr hv) ?_
      refine p_veq (a := u) (b := v) rfl rfl (fun h => ?_) (fun h => ?_)
      · subst h
        refine p_add rfl rfl (w64 (by omega)) ?_
        exact ⟨i + 1, ⟨hb1.drew, hs1, by omega, by omega, take_step ht hu hv⟩, ⟨rfl, rfl, rfl, trivial⟩, by omega⟩
      · have hne : x ≠ y := by
          rintro rfl
          rw [hu] at hv; injection hv with hv; exact h hv
        refine p_len slv rfl ?_
        refine p_lt rfl rfl (fun h3 => ?_) (fun h3 => absurd h1 h3)
        refine p_len slv rfl ?_
        refine p_lt rfl rfl (fun h4 => ?_) (fun h4 => absurd h2 h4)
        refine dr (fun W => RdV W w.heap.size (some a) n x ∧ RdV W w.heap.size (some b) m y ∧ Below w.heap.size w W) [(0, true), (1, true), (2, true), (3, true), (4, true), (5, true), (6, true), (7, true), (8, false), (9, true)] (by kernel_rfl) ⟨hx1.drew.drew, hy1.drew.drew, hb1.drew.drew⟩ ?_
        refine p_at (i := i) slv rfl rfl rfl (by omega) ?_
        refine t_loadN (vc u) agg_val rfl rfl (fun W h => h.1.ptr hu) ?_
        refine p_at (i := i) slv rfl rfl rfl (by omega) ?_
        refine t_loadN (vc v) agg_val rfl rfl (fun W h => h.2.1.ptr hv) ?_
        refine cc is_cmp (cmp_any u v _) ?_
        rintro e W2 ⟨r, rfl, hr, hb2⟩
        have hb := hb1.drew.drew.trans (hb2.mono (by show _ ≤ W1.heap.size; omega))
        refine ⟨_, rfl, ⟨hx.below hb, hy.below hb, hb⟩, ?_⟩
        exact ⟨r, rfl, ⟨fun h0 => absurd (hr.1 h0) h, fun h0 => absurd h0 hne⟩, hb⟩
    · have hne : x ≠ y := by rintro rfl; omega
      refine p_len slv rfl ?_
      refine p_lt rfl rfl (fun h3 => ?_) (fun h3 => absurd h1 h3)
      refine p_len slv rfl ?_
      refine p_lt rfl rfl (fun h4 => absurd h4 h2) (fun h4 => ?_)
      refine p_len slv rfl ?_
      refine p_lt rfl rfl (fun h4 => absurd h4 h2) (fun h4 => ?_)
      refine p_len slv rfl ?_
      refine p_lt rfl rfl (fun h3 => ?_) (fun h3 => absurd h1 h3)
      exact ⟨1, rfl, ⟨(fun h => by cases h), fun h => absurd h hne⟩, hb1.drew⟩
  · refine p_len slv rfl ?_
    refine p_lt rfl rfl (fun h3 => absurd h3 h1) (fun h3 => ?_)
    refine p_len slv rfl ?_
    refine p_lt rfl rfl (fun h2 => ?_) (fun h2 => ?_)
    · have hne : x ≠ y := by rintro rfl; omega
      exact ⟨-1, rfl, ⟨(fun h => by cases h), fun h => absurd h hne⟩, hb1.drew⟩
    · refine p_len slv rfl ?_
      refine p_lt rfl rfl (fun h3 => absurd h3 h1) (fun h3 => ?_)
      exact ⟨0, rfl, ⟨fun _ => take_all ht (by omega) (by omega), fun _ => rfl⟩, hb1.drew⟩

/-- The law's 'long'. -/
def slen (l : List Val) : Nat := (l.map fun v => v.s.length).sum
set_option maxRecDepth 100000 in
theorem long_any (A : Option Addr) (n c : Nat) (l : List Val) (B : Nat) (w : World) (hr : RdV w B A n l) (hn : n + slen l ≤ 9000000000000000000) :
    Calls Try.prog 8 #[.slice A n c] w fun e w' => ∃ b, e = .returned (.bool b) ∧ b = decide (4000 < n + slen l) ∧ w = w' := by
  refine calls_ev (args := [.slice A n c]) mixed Try.func8 rfl (by kernel_rfl) ?_
  have hl := hr.len
  refine p_len slv rfl ?_
  refine lp Nat (fun i W => W = w ∧ i ≤ n) (fun i => [(0, .slice A n c), (3, .int .i64 ((n + slen (l.take i) : Nat) : Int)), (4, .int .i64 i)]) (fun i => n - i) 0 ⟨rfl, Nat.zero_le _⟩ ⟨rfl, by simp [slen]; rfl, rfl, trivial⟩ ?_
  rintro i E0 W1 ⟨rfl, hin⟩
  refine p_len slv rfl ?_
  refine p_lt rfl rfl (fun h1 => ?_) (fun h1 => ?_)
  · obtain ⟨a, u, rfl, hu⟩ := hr.some_ (i := i) (by omega)
    have hsum : slen (l.take (i + 1)) = slen (l.take i) + u.s.length := by
      unfold slen; rw [List.take_add_one, hu]; simp
    have hle : slen (l.take (i + 1)) ≤ slen l := by
      conv => rhs; rw [← List.take_append_drop (i + 1) l]
      unfold slen; rw [List.map_append, List.sum_append]; omega
    refine p_at (i := i) slv rfl rfl rfl (by omega) ?_
    refine p_fld fv2 rfl ?_
    refine v_load agg_str rfl (hr.ptr hu 2 (.string (sb u.s)) rfl) ?_
    refine p_lenS u_str rfl ?_
    rw [sb_size]
    refine p_add rfl rfl (w64 (by omega)) ?_
    refine p_add rfl rfl (w64 (by omega)) ?_
    refine ⟨i + 1, ⟨rfl, by omega⟩, ⟨rfl, by show Value.int .i64 _ = Value.int .i64 _; rw [hsum]; congr 1; omega, rfl, trivial⟩, by omega⟩
  · have : i = n := by omega
    subst this
    rw [List.take_of_length_le (by omega)]
    refine p_gt rfl rfl (fun h => ?_) (fun h => ?_)
    · exact ⟨true, rfl, (decide_eq_true (by omega)).symm, rfl⟩
    · exact ⟨false, rfl, (decide_eq_false (by omega)).symm, rfl⟩
end Go.Proofs.Ytjneoinacobbaaa
