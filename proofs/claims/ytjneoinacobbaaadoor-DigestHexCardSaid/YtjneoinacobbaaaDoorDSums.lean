/- The walk of digest.Sum. -/
import Derived.Test.YtjneoinacobbaaaDoorDSum
import Derived.Test.YtjneoinacobbaaaDoorFpS
namespace Go.Proofs.YtjneoinacobbaaaDoor
open Go.RowKit
theorem sl_ls : slOf Tryd.prog 22 = some (23, 1) := by kernel_rfl
theorem is_sum : isFn Tryd.prog 12 = true := by kernel_rfl
theorem take_flat {α : Type} {ll : List (List α)} {i : Nat} {l : List α} (h : ll[i]? = some l) : (ll.take (i + 1)).flatten = (ll.take i).flatten ++ l := by
  have hi := (List.getElem?_eq_some_iff.1 h).1
  rw [List.take_succ_eq_append_getElem hi, List.flatten_append, List.flatten_cons, List.flatten_nil, List.append_nil]
  have := (List.getElem?_eq_some_iff.1 h).2
  rw [this]
theorem flat_take_le {α : Type} (ll : List (List α)) (i : Nat) : (ll.take i).flatten.length ≤ ll.flatten.length := by
  have : ll.flatten = (ll.take i).flatten ++ (ll.drop i).flatten := by rw [← List.flatten_append, List.take_append_drop]
  rw [this, List.length_append]; omega
set_option maxRecDepth 100000 in
theorem sum_any (gs : List (Option Nat)) (A : Option Addr) (n c : Nat) (ll : List (List UInt8)) (w : World) (hgs : ∀ b, some b ∈ gs → b < w.heap.size) (hG : GL w gs) (hr : RdD w (Fd w gs) (dLs ll) (.slice A n c)) (hs : ll.flatten.length ≤ 1000000000) (hs2 : n ≤ 1000000000) :
    Calls Tryd.prog 12 #[.slice A n c] w fun e w' => ∃ A' c', e = .returned (.slice A' 32 c') ∧ Own w' w.heap.size A' 32 c' (sha ll.flatten) ∧ Below w.heap.size w w' := by
  refine calls_ev (args := [.slice A n c]) mixed Tryd.func12 rfl (by kernel_rfl) ?_
  have hn := hr.slen
  refine cc is_new (new_any gs w hG) ?_
  rintro e W1 ⟨g, rfl, hg, hb, hs1, hD⟩
  refine ⟨_, rfl, ?_⟩
  have A1 : At w W1 (some g :: gs) := (At.start hgs).new hb (fun b e => by injection e with e; omega)
  have s1 : Stp w gs W1 (some g :: gs) := Stp.new hb (fun b e => by injection e with e; omega)
  refine p_len sl_ls rfl ?_
  refine lp Nat (fun i W => i ≤ n ∧ At w W (some g :: gs) ∧ Stp w gs W (some g :: gs) ∧ Dg W (some g :: gs) g (ll.take i).flatten)
    (fun i => [(3, .pointer (some ⟨g, 0, none⟩)), (7, .slice A n c), (8, .int .i64 n), (9, .int .i64 i)]) (fun i => n - i) 0 ⟨Nat.zero_le _, A1, s1, hD⟩ ⟨rfl, rfl, rfl, rfl, trivial⟩ ?_
  clear hD s1 A1
  rintro i E W ⟨hi, A2, s2, hD⟩
  have hG2 := hG.up s2
  have hfl := flat_take_le ll i
  refine p_lt rfl rfl (fun hlt => ?_) (fun hge => ?_)
  · obtain ⟨b, off, A', m, c', l, rfl, hl, hcell, hrl⟩ := (hr.up s2).lsat (i := i) (by omega)
    have hfl2 := flat_take_le ll (i + 1)
    rw [take_flat hl, List.length_append] at hfl2
    refine p_at sl_ls rfl rfl rfl (by omega) ?_
    refine v_load agg_b rfl (by rw [Addr.add_lit, Nat.mul_one]; exact hcell) ?_
    refine cc is_write (write_any (some g :: gs) g c' A' m l _ W A2.lt hG2 hD hrl (by omega) (by have := hG.size; omega)) ?_
    rintro e W3 ⟨⟨v, rfl⟩, g3, hD3⟩
    refine ⟨_, rfl, ?_⟩
    refine p_add rfl rfl (r := ((i + 1 : Nat) : Int)) ((w64 (by omega)).trans (by omega)) ?_
    exact ⟨i + 1, ⟨by omega, A2.wrote g3 (fun b e => by injection e with e; omega), s2.trans (Stp.wrote g3 (by simp)), by rw [take_flat hl]; exact hD3⟩, ⟨rfl, rfl, rfl, rfl, trivial⟩, by omega⟩
  · have hin : i = n := by omega
    subst hin
    rw [List.take_of_length_le (by omega)] at hD
    refine cc is_dsum (dsum_any (some g :: gs) g _ W A2.lt hG2 hD (by omega)) ?_
    rintro e W4 ⟨A4, c4, rfl, o4, b4⟩
    refine ⟨_, rfl, ?_⟩
    exact ⟨A4, c4, rfl, o4.less A2.size, A2.below.trans (b4.mono A2.size)⟩
end Go.Proofs.YtjneoinacobbaaaDoor
