/- Plain lemmas on lists and results that several texts use. No program in sight. -/
import Derived.Test.YtjneoinacobbaaaDoorBy
namespace Go.Proofs.YtjneoinacobbaaaDoor

theorem take_snoc (l : List UInt8) (k : Nat) (h : k < l.length) : l.take (k + 1) = l.take k ++ [l.getD k 0] := by
  rw [List.take_succ_eq_append_getElem h, List.getD_eq_getElem?_getD, List.getElem?_eq_getElem h]; rfl
theorem belowA {W w : World} (h : Go.RowKit.Below W.heap.size W w) (o : Obj) : Go.RowKit.Below W.heap.size W (w.alloc o) := h.alloc h.size o
theorem below_drewN {B : Nat} {a w : World} (h : Go.RowKit.Below B a w) (n : Nat) : Go.RowKit.Below B a (w.drewN n) := ⟨h.os, h.tape, h.output, h.size, h.block⟩
end Go.Proofs.YtjneoinacobbaaaDoor
