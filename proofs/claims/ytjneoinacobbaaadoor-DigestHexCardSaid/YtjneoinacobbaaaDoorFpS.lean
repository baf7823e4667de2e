/- Lists of lists of bytes, as data. -/
import Derived.Test.YtjneoinacobbaaaDoorCom
import Derived.Test.YtjneoinacobbaaaDoorLists
namespace Go.Proofs.YtjneoinacobbaaaDoor
open Go.RowKit
def dLs (ll : List (List UInt8)) : D := .sl 1 ll.length (ll.map dB)
theorem RdL.ofall {W : World} {F : Nat → Prop} {α : Type} (f : α → D) : ∀ (xs : List α) (vs : List Value), vs.length = xs.length → (∀ (k : Nat) (v : Value) (x : α), vs[k]? = some v → xs[k]? = some x → RdD W F (f x) v) → RdL W F (xs.map f) vs
  | [], [], _, _ => RdL.nil_
  | [], v :: vs, h, _ => by simp at h
  | x :: xs, [], h, _ => by simp at h
  | x :: xs, v :: vs, h, k => RdL.cons (k 0 v x rfl rfl) (RdL.ofall f xs vs (by simpa using h) (fun j v' x' h1 h2 => k (j + 1) v' x' (by simpa using h1) (by simpa using h2)))
theorem RdS.toD {w : World} {B n c : Nat} {A : Option Addr} {ll : List (List UInt8)} (h : RdS w B A n ll) (hc : n ≤ c) : RdD w (fun b => b < B) (dLs ll) (.slice A n c) := by
  have hl := h.len
  obtain ⟨vs, h1, h2⟩ := h
  subst hl
  refine RdD.sl_iff.2 ⟨A, c, vs, rfl, hc, by simp, RdL.ofall dB ll vs h2.len (fun k v x e1 e2 => ?_), h1.2⟩
  obtain ⟨A', m, c', rfl, hm, hr⟩ := h2.rd k v x e1 e2
  exact RdD.ofbytes hr hm fun b off _ hb => hb
theorem one_at {α : Type} {l : List α} {i : Nat} {x : α} (h : l[i]? = some x) : (l.drop i).take 1 = [x] := by
  have hi := (List.getElem?_eq_some_iff.1 h).1
  rw [List.drop_eq_getElem_cons hi, List.take_succ_cons, List.take_zero, (List.getElem?_eq_some_iff.1 h).2]
/-- An element of a list of lists. -/
theorem RdD.lsat {W : World} {F : Nat → Prop} {ll : List (List UInt8)} {A : Option Addr} {n c i : Nat} (h : RdD W F (dLs ll) (.slice A n c)) (hi : i < n) :
    ∃ b off A' m c' l, A = some ⟨b, off, none⟩ ∧ ll[i]? = some l ∧ W.cell? ⟨b, off + i, none⟩ = some (.slice A' m c') ∧ RdD W F (dB l) (.slice A' m c') := by
  have hn := h.slen
  obtain ⟨b, off, es, e1, hF, hes, hel, hc⟩ := h.at_ hi
  obtain ⟨l, hl⟩ : ∃ l, ll[i]? = some l := ⟨ll[i], List.getElem?_eq_getElem (by omega)⟩
  have e : ((ll.map dB).drop (i * 1)).take 1 = [dB l] := one_at (by rw [Nat.mul_one, List.getElem?_map, hl]; rfl)
  rw [e] at hes
  obtain ⟨u, us, e2, hu, _⟩ := hes.uncons
  obtain ⟨A', c', e3, _⟩ := hu.open_
  subst e2; subst e3
  refine ⟨b, off, A', _, c', l, e1, hl, ?_, hu⟩
  have := hc 0 _ rfl
  rwa [Nat.mul_one] at this
end Go.Proofs.YtjneoinacobbaaaDoor
