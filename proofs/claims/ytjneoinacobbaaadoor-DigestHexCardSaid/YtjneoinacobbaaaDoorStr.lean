/- Bytes as a string; the same bytes; a copy. -/
import Derived.Test.YtjneoinacobbaaaDoorBy
namespace Go.Proofs.YtjneoinacobbaaaDoor
open Go.RowKit

/-- string(b) -/
theorem run_str {w : World} {B : Nat} {A : Option Addr} {n : Nat} {l : List UInt8} (hr : Rd w B A n l) (c : Nat) :
    (convert 23 9 (.slice A n c)).run Tryd.prog w = .ok (.string ⟨l.toArray⟩) w := by
  rw [run_convert_bytes_string w 23 9 5 A n c Tryd.underlying23 Tryd.underlying5 Tryd.underlying9]
  rcases A with _ | a
  · have h0 : n = 0 := by
      rcases Nat.eq_zero_or_pos n with h0 | h0
      · exact h0
      · obtain ⟨b, off, h, _⟩ := hr.2 h0
        cases h
    have hl := hr.len
    rw [h0] at hl
    obtain rfl := List.eq_nil_of_length_eq_zero hl
    rfl
  · have hc : ∀ j v, (bvs l)[j]? = some v → w.cell? (a.add j) = some v := by
      intro j v hv
      have hn : 0 < n := by
        rw [← hr.len]
        rcases l with _ | ⟨x, l⟩
        · simp [bvs] at hv
        · simp
      obtain ⟨b, off, h, _, hcell⟩ := hr.2 hn
      injection h with h
      subst h
      rw [Addr.add_lit]
      exact hcell j v hv
    have hl := run_loadCells_list (P := Tryd.prog) w a (bvs l) hc
    rw [bvs_length, hr.len] at hl
    have e : bvs l = (l.map fun b => (b.toNat : Int)).map (Value.int .u8) := by
      unfold bvs; rw [List.map_map]; rfl
    rw [e] at hl
    rw [run_bytesToString w a n c _ hl, foldl_push_byteCells]
    show Result.ok (Value.string ⟨(#[] : Array UInt8) ++ l.toArray⟩) w = _
    rw [Array.empty_append]

set_option maxHeartbeats 400000 in
theorem same_any (A1 A2 : Option Addr) (n m c1 c2 B1 B2 : Nat) (a b : List UInt8) (w : World) (h1 : Rd w B1 A1 n a) (h2 : Rd w B2 A2 m b) :
    Calls Tryd.prog 10 #[.slice A1 n c1, .slice A2 m c2] w fun e w' => e = .returned (.bool (decide (a = b))) ∧ w = w' := by
  have e1 := run_str h1 c1
  have e2 := run_str h2 c2
  go_enter Tryd.func10, Tryd.ntmps10
  go_wp2
  go_ret
  exact ⟨ret_bool (by rw [Bool.eq_iff_iff]; simp), rfl⟩
theorem same_yes (A1 A2 : Option Addr) (n m c1 c2 B1 B2 : Nat) (a b : List UInt8) (w : World) (h1 : Rd w B1 A1 n a) (h2 : Rd w B2 A2 m b) (h : a = b) :
    Calls Tryd.prog 10 #[.slice A1 n c1, .slice A2 m c2] w fun e w' => e = .returned (.bool true) ∧ w = w' :=
  (same_any A1 A2 n m c1 c2 B1 B2 a b w h1 h2).mono fun _ _ ⟨he, hw⟩ => ⟨by rw [he, decide_eq_true h], hw⟩

end Go.Proofs.YtjneoinacobbaaaDoor
