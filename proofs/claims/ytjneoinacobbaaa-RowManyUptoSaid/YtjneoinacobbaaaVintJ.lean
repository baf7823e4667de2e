/- Lists of bytes as bytes: Join and Split, the program's and the reference's. -/
import Derived.Test.YtjneoinacobbaaaVintS
import Derived.Test.YtjneoinacobbaaaLists
namespace Go.Proofs.Ytjneoinacobbaaa
open Go.RowKit

def joinL (ll : List (List UInt8)) : List UInt8 := putN ll.length ++ ll.flatMap putB
theorem flat_snoc (ll : List (List UInt8)) (k : Nat) (h : k < ll.length) : (ll.take (k + 1)).flatMap putB = (ll.take k).flatMap putB ++ putB (ll.getD k []) := by
  rw [List.take_succ_eq_append_getElem h, List.flatMap_append, List.getD_eq_getElem?_getD, List.getElem?_eq_getElem h]
  simp
theorem flat_le (ll : List (List UInt8)) (k : Nat) : ((ll.take k).flatMap putB).length ≤ (ll.flatMap putB).length := by
  conv => rhs; rw [← List.take_append_drop k ll]
  rw [List.flatMap_append, List.length_append]; omega
theorem putB_len (l : List UInt8) : (putB l).length = (putN l.length).length + l.length := by unfold putB; rw [List.length_append]

set_option maxRecDepth 100000 in
set_option maxHeartbeats 800000 in
theorem join_any (A : Option Addr) (n c : Nat) (ll : List (List UInt8)) (w : World) (hr : RdS w w.heap.size A n ll) (hn : n ≤ 10000000000) (hsz : (joinL ll).length ≤ 10000000000) :
    Calls Try.prog 34 #[.slice A n c] w fun e w' => ∃ A' n' c', e = .returned (.slice A' n' c') ∧ Own w' w.heap.size A' n' c' (joinL ll) ∧ Below w.heap.size w w' := by
  have hln := Lib.hid hr.len
  have hw : IntKind.u64.wrap (n : Int) = n := IntWalk.u64_in _ (by omega)
  have hlen := putN_len10 (n := n) (by omega)
  have Hsz := Lib.hid hsz
  clear hsz
  go_enter Try.func34, Try.ntmps34
  go_wp2_with fail
  refine (put_any _ _ hlen).mono ?_
  rintro e w1 ⟨A1, c1, rfl, o1, b1⟩
  go_wp2_with fail
  go_loopw [3, 12] (fun v i wr => ∃ (k m : Nat) (A' : Option Addr) (c' : Nat), k ≤ n ∧ i = .int .i64 k ∧ v = .slice A' m c' ∧ Own wr w.heap.size A' m c' (putN n ++ (ll.take k).flatMap putB) ∧ Below w.heap.size w wr) (fun _ i _ => n - (intOf i).toNat)
  case atStart => exact ⟨0, _, A1, c1, Nat.zero_le _, rfl, rfl, by simpa using o1, b1⟩
  case round =>
    obtain ⟨k, m, A', c', hk, rfl, rfl, hown, hb⟩ := hrel
    by_cases hlt : k < n
    · obtain ⟨bb, off, A2, m2, c2, rfl, _, hc, _, r2⟩ := (hr.below hb).at_ hlt
      have hfs := Lib.hid (flat_snoc ll k (by rw [hln.out]; exact hlt))
      have hm : Hid (m + ((putN m2).length + m2) ≤ 10000000000) := Lib.hid (by
        have e1 := hown.len
        have e2 := flat_le ll (k + 1)
        have e3 := Hsz.out
        have e4 := r2.len
        unfold joinL at e3
        rw [hln.out, List.length_append] at e3
        rw [List.length_append] at e1
        rw [hfs.out, List.length_append, putB_len, e4] at e2
        omega)
      have hm2 := hm.out
      go_wp2_with fail
      refine (putBytes_any _ _ _ _ _ (r2.more hb.size) (by omega)).mono ?_
      rintro e w2 ⟨A3, c3, rfl, o3, b3⟩
      have hb3 := hb.trans (b3.mono hb.size)
      have hown' := hown.below b3
      go_wp2_with (at_builtin; refine wpList_app rfl _ _ rfl rfl hown' rfl o3.rd (by omega) hb3.size ?_; intro A4 c4 w4 o4 g4)
      have hb4 := below_own hb3 hown' g4
      clear hown hown' o3
      go_roundw
      case rel => exact ⟨k + 1, _, A4, c4, by omega, by go_num, rfl, by rw [hfs.out, ← List.append_assoc]; exact o4, hb4⟩
      case measure => simp [intOf]; omega
    · go_wp2_with fail
      go_ret
      refine ⟨A', m, c', rfl, ?_, hb⟩
      unfold joinL
      rw [List.take_of_length_le (by rw [hln.out]; omega)] at hown
      rw [hln.out]; exact hown

/-- Reading so many, one behind the other: they, the place behind, the error. -/
def splitF (l : List UInt8) : Nat → Int → List (List UInt8) × Int × Int
  | 0, a => ([], a, 0)
  | m + 1, a => if gbE l a = 0 then (gbL l a :: (splitF l m (gbTo l a)).1, (splitF l m (gbTo l a)).2) else ([], 0, gbE l a)
def spR (l : List UInt8) : List (List UInt8) × Int × Int := splitF l (gN l 0).toNat (gTo l 0)
def spE (l : List UInt8) : Int := if gE l 0 = 0 then (if (spR l).2.2 = 0 then (if (spR l).2.1 < (l.length : Int) then 11 else 0) else (spR l).2.2) else gE l 0
def spL (l : List UInt8) : List (List UInt8) := if spE l = 0 then (spR l).1 else []
theorem sp_err1 {l : List UInt8} (h : gE l 0 ≠ 0) : spE l = gE l 0 ∧ spL l = [] := by
  have e : spE l = gE l 0 := by unfold spE; rw [if_neg h]
  exact ⟨e, by unfold spL; rw [if_neg (by rw [e]; exact h)]⟩
theorem sp_err2 {l : List UInt8} (h : gE l 0 = 0) (k : (spR l).2.2 ≠ 0) : spE l = (spR l).2.2 ∧ spL l = [] := by
  have e : spE l = (spR l).2.2 := by unfold spE; rw [if_pos h, if_neg k]
  exact ⟨e, by unfold spL; rw [if_neg (by rw [e]; exact k)]⟩
theorem sp_err3 {l : List UInt8} (h : gE l 0 = 0) (k : (spR l).2.2 = 0) (m : (spR l).2.1 < (l.length : Int)) : spE l = 11 ∧ spL l = [] := by
  have e : spE l = 11 := by unfold spE; rw [if_pos h, if_pos k, if_pos m]
  exact ⟨e, by unfold spL; rw [if_neg (by rw [e]; decide)]⟩
theorem sp_ok {l : List UInt8} (h : gE l 0 = 0) (k : (spR l).2.2 = 0) (m : ¬ (spR l).2.1 < (l.length : Int)) : spE l = 0 ∧ spL l = (spR l).1 := by
  have e : spE l = 0 := by unfold spE; rw [if_pos h, if_pos k, if_neg m]
  exact ⟨e, by unfold spL; rw [if_pos e]⟩
/-- A place behind what has been read lies farther on, within the bytes. -/
theorem gb_to {l : List UInt8} {a : Int} (h : gbE l a = 0) : a < gbTo l a ∧ gbTo l a ≤ (l.length : Int) ∧ 0 ≤ a := by
  rcases gb_cases l a with e | ⟨e, k⟩ | ⟨e, k, m⟩ | ⟨e, k, m⟩
  · rw [(gb_err1 e).1] at h; exact absurd h e
  · rw [(gb_err2 e k).1] at h; cases h
  · rw [(gb_err3 e k m).1] at h; cases h
  · obtain ⟨x, t, hx, _, _, hT, ht, hle, _, _⟩ := g_ok e
    rw [(gb_ok e k m).2.2]
    have := gN_nonneg l a
    omega
end Go.Proofs.Ytjneoinacobbaaa
