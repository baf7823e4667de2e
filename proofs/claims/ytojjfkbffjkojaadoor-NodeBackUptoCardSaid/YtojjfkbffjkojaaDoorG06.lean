/- Tries, plainly: what may be; get, put, drop. Reference 07's walks: Same, own, right, Check, Much. The walk of trie.get. Halves of bytes: the walks of what only reads. Halves of bytes: the walks. The walks of trie.right, Get, leaf, along. The walks of slices.Clone of nodes, and of trie.hold. The walk of trie.fork. The walk of trie.put. The walks of trie.Put and behind. The walk of trie.settle. The walk of trie.drop. The walk of trie.drop. The walk of trie.Drop. Tries, plainly: put keeps what may be; what stands where; two that hold the same are one. No walk here. Pairs as data; slices of whatever by a function of the elements. Reference 07's walks: right, Check, Same, Much. Reference 07's walks: Same, Much. append onto a row: what the old cells still hold. No program in sight. Operations on arrays. No program in sight. Words turned to the right: the walks of bits.RotateLeft32 and of diges -/
import Derived.Test.YtojjfkbffjkojaaDoorG05
import Derived.Test.YtojjfkbffjkojaaDoorG04
import Derived.Deep.QuietTactic
import Derived.BigQuiet
import Derived.StillTailTactics
import Derived.Deep.RegionHeld3
import Derived.Deep.RegionLaw
import Derived.Test.YtojjfkbffjkojaaDoorG03
import Derived.Laws.BitsAllLaws
namespace Go.Proofs.YtojjfkbffjkojaaDoor
theorem rightsP_all {even : Bool} {d : Nat} : ∀ {ks : List Nd}, rightsP even ks d = true → ∀ k ∈ ks, rightP even k d = true
  | [], _, k, h => by cases h
  | x :: ks, hr, k, h => by
    rw [rightsP, Bool.and_eq_true] at hr
    rcases List.mem_cons.1 h with rfl | h
    · exact hr.1
    · exact rightsP_all hr.2 k h
theorem rightsP_of {even : Bool} {d : Nat} : ∀ {ks : List Nd}, (∀ k ∈ ks, rightP even k d = true) → rightsP even ks d = true
  | [], _ => rfl
  | x :: ks, h => by rw [rightsP, h x (by simp), rightsP_of (fun k hk => h k (by simp [hk]))]; rfl
/-- The kinds of nodes that may be. -/
inductive Val (even : Bool) : Nd → Nat → Prop
  | none (d : Nat) (hd : d ≤ 400) : Val even noneN d
  | leaf (d : Nat) (p v : List UInt8) (hd : d ≤ 400) (hp : halvesB p = true) (hv : v.length ≤ 4000) (he : endsP (d + p.length) even = true) : Val even (.mk 1 p false v [] []) d
  | stub (d : Nat) (h : List UInt8) (hd : d ≤ 400) (hh : h.length = 32) : Val even (.mk 4 [] false [] [] h) d
  | way (d : Nat) (p : List UInt8) (k : Nd) (hd : d ≤ 400) (hp : halvesB p = true) (h0 : p ≠ []) (hk : k.kind = 3 ∨ k.kind = 4) (hr : Val even k (d + p.length)) : Val even (.mk 2 p false [] [k] []) d
  | branch (d : Nat) (has : Bool) (v : List UInt8) (ks : List Nd) (hd : d ≤ 400) (hv : v.length ≤ 4000) (hv0 : has = true ∨ v = []) (he : has = true → endsP d even = true) (h16 : ks.length = 16) (hr : ∀ k ∈ ks, Val even k (d + 1)) (hm : 2 ≤ (if has then 1 else 0) + manyN ks) : Val even (.mk 3 [] has v ks []) d
theorem nil_of_len {α : Type} {l : List α} (h : l.length = 0) : l = [] := List.eq_nil_of_length_eq_zero h
theorem val_of_right (even : Bool) : ∀ (N : Nat) (t : Nd) (d : Nat), sz t < N → rightP even t d = true → Val even t d
  | 0, t, d, h, _ => by omega
  | N + 1, t, d, hN, h => by
    have hsz := sz_eq t
    rw [rightP_eq] at h
    obtain ⟨k, p, has, v, ks, hs⟩ := t
    simp only [Nd.kind, Nd.path, Nd.has, Nd.val, Nd.kids, Nd.hash] at h hsz
    unfold ownP at h
    simp only [Bool.and_eq_true, decide_eq_true_eq] at h
    obtain ⟨hd, hv, hp, h⟩ := h
    by_cases h0 : k = 0
    · rw [if_pos h0] at h
      have h := of_decide_eq_true h
      obtain ⟨e1, e2, e3, e4, e5⟩ := h
      rw [nil_of_len e1, nil_of_len e2, nil_of_len e3, nil_of_len e4, e5, h0]
      exact .none d hd
    rw [if_neg h0] at h
    by_cases h1 : k = 1
    · rw [if_pos h1] at h
      simp only [Bool.and_eq_true, decide_eq_true_eq] at h
      obtain ⟨⟨e3, e4, e5⟩, he⟩ := h
      rw [nil_of_len e3, nil_of_len e4, e5, h1]
      exact .leaf d p v hd hp hv he
    rw [if_neg h1] at h
    by_cases h4 : k = 4
    · rw [if_pos h4] at h
      have h := of_decide_eq_true h
      obtain ⟨e1, e2, e3, e5, e6⟩ := h
      rw [nil_of_len e1, nil_of_len e2, nil_of_len e3, e5, h4]
      exact .stub d hs hd e6
    rw [if_neg h4] at h
    by_cases h2 : k = 2
    · rw [if_pos h2] at h
      simp only [Bool.and_eq_true, decide_eq_true_eq] at h
      obtain ⟨⟨e2, e4, e5, e1, e3⟩, hk, hr⟩ := h
      match ks, e3 with
      | [k0], _ =>
        rw [rightsP, rightsP, Bool.and_true] at hr
        have hz : szs [k0] = sz k0 := by rw [szs, szs]; omega
        rw [nil_of_len e2, nil_of_len e4, e5, h2]
        refine .way d p k0 hd hp (fun e => e1 (by rw [e]; rfl)) ?_ (val_of_right even N k0 _ (by omega) hr)
        unfold kindsB at hk
        rw [List.all_cons, Bool.and_eq_true, decide_eq_true_eq] at hk
        exact hk.1
    rw [if_neg h2] at h
    by_cases h3 : k = 3
    · rw [if_pos h3] at h
      simp only [Bool.and_eq_true, decide_eq_true_eq, Bool.or_eq_true, Bool.not_eq_true'] at h
      obtain ⟨⟨e1, e4, e5⟩, he, h16, hr, hm⟩ := h
      rw [nil_of_len e1, nil_of_len e4, h3]
      refine .branch d has v ks hd hv (e5.imp id nil_of_len) (fun e => by rcases he with he | he; rw [e] at he; cases he; exact he) h16 (fun k hk => val_of_right even N k _ (by have := szs_mem hk; omega) (rightsP_all hr k hk)) hm
    · rw [if_neg h3] at h; cases h
theorem right_of_val {even : Bool} {t : Nd} {d : Nat} (h : Val even t d) : rightP even t d = true := by
  induction h with
  | none d hd => rw [noneN, rightP]; unfold ownP; rw [decide_eq_true hd]; rfl
  | leaf d p v hd hp hv he => rw [rightP]; unfold ownP; rw [decide_eq_true hd, hp, decide_eq_true hv, if_neg (by decide), if_pos rfl, he]; rfl
  | stub d h hd hh => simp [rightP, ownP, halvesB, hd, hh]
  | way d p k hd hp h0 hk hr ih =>
    have hp0 : p.length ≠ 0 := fun e => h0 (nil_of_len e)
    rcases hk with hk | hk <;> simp [rightP, ownP, rightsP, ih, kindsB, hk, hp, hd, h0]
  | branch d has v ks hd hv hv0 he h16 hr hm ih =>
    rw [rightP]; unfold ownP
    rw [decide_eq_true hd, decide_eq_true hv, if_neg (by decide), if_neg (by decide), if_neg (by decide), if_neg (by decide), if_pos rfl, rightsP_of ih, decide_eq_true hm, decide_eq_true h16, decide_eq_true ⟨rfl, rfl, hv0.imp id (fun e => by rw [e]; rfl)⟩]
    cases has with
    | false => rfl
    | true => rw [he rfl]; rfl
/-- What a look comes to: what stands there; is there something; the halves to a stub that is in the way. -/
structure GotN where
  v : List UInt8
  has : Bool
  miss : Option (List UInt8)
mutual
def getP : Nd → List UInt8 → GotN
  | .mk k p has v ks _, q =>
    if k = 4 then ⟨[], false, some []⟩
    else if k = 1 then ⟨v, decide (p = q), none⟩
    else if k = 2 then (if p <+: q then (let g := getsP ks 0 (q.drop p.length); ⟨g.v, g.has, g.miss.map (p ++ ·)⟩) else ⟨[], false, none⟩)
    else if k = 3 then (match q with
      | [] => ⟨v, has, none⟩
      | x :: q' => (let g := getsP ks x.toNat q'; ⟨g.v, g.has, g.miss.map (x :: ·)⟩))
    else ⟨[], false, none⟩
def getsP : List Nd → Nat → List UInt8 → GotN
  | [], _, _ => ⟨[], false, none⟩
  | t :: _, 0, q => getP t q
  | _ :: ts, i + 1, q => getsP ts i q
end
theorem getsP_at : ∀ {ks : List Nd} {i : Nat} {k : Nd} (q : List UInt8), ks[i]? = some k → getsP ks i q = getP k q
  | t :: ks, 0, k, q, h => by simp at h; subst h; rw [getsP]
  | t :: ks, i + 1, k, q, h => by rw [getsP]; exact getsP_at q (by simpa using h)
theorem getP_way0 {p q : List UInt8} {k : Nd} (h : ¬ p <+: q) : getP (.mk 2 p false [] [k] []) q = ⟨[], false, none⟩ := by unfold getP; simp [h]
theorem getP_way {p q : List UInt8} {k : Nd} (h : p <+: q) : getP (.mk 2 p false [] [k] []) q = ⟨(getP k (q.drop p.length)).v, (getP k (q.drop p.length)).has, (getP k (q.drop p.length)).miss.map (p ++ ·)⟩ := by
  have e := getsP_at (ks := [k]) (i := 0) (k := k) (q.drop p.length) rfl
  conv => lhs; rw [getP.eq_def]
  simp [h, e]
theorem getP_br0 {has : Bool} {v : List UInt8} {ks : List Nd} : getP (.mk 3 [] has v ks []) [] = ⟨v, has, none⟩ := by unfold getP; simp
theorem getP_br {has : Bool} {v : List UInt8} {ks : List Nd} {x : UInt8} {q : List UInt8} {k : Nd} (h : ks[x.toNat]? = some k) : getP (.mk 3 [] has v ks []) (x :: q) = ⟨(getP k q).v, (getP k q).has, (getP k q).miss.map (x :: ·)⟩ := by
  have e := getsP_at q h
  conv => lhs; rw [getP.eq_def]
  simp [e]
end Go.Proofs.YtojjfkbffjkojaaDoor
namespace Go.Proofs.YtojjfkbffjkojaaDoor
open Go.RowKit
theorem is_same0 : isFn Tryd.prog 19 = true := by kernel_rfl
theorem is_r7much : isFn Tryd.prog 49 = true := by kernel_rfl
end Go.Proofs.YtojjfkbffjkojaaDoor
namespace Go.Proofs.YtojjfkbffjkojaaDoor
open Go.RowKit
theorem zls2 : zeroOf Tryd.prog 23 = some [.slice none 0 0] := by kernel_rfl
theorem halvesB_drop {q : List UInt8} {n : Nat} (h : halvesB q = true) : halvesB (q.drop n) = true := by
  unfold halvesB at *
  rw [List.all_eq_true] at *
  exact fun x hx => h x (List.mem_of_mem_drop hx)
def missOk (W : World) (F : Nat → Prop) (way : List UInt8) (m : Option (List UInt8)) (A : Option Addr) (n c : Nat) : Prop :=
  match m with
  | none => A = none ∧ n = 0 ∧ c = 0
  | some r => A ≠ none ∧ RdD W F (dB (way ++ r)) (.slice A n c)
theorem Own.fr {W W' : World} {n c : Nat} {A : Option Addr} {l : List UInt8} (h : Own W' W.heap.size A n c l) : RdD W' (Fr W W') (dB l) (.slice A n c) := h.frB fun b h1 h2 h3 => ⟨h1, h2, row_thaw h h3⟩
theorem Fr.more {W W1 W' : World} {d : D} {u : Value} (h : RdD W' (Fr W1 W') d u) (hb : W.heap.size ≤ W1.heap.size) : RdD W' (Fr W W') d u := h.to fun b hb' => ⟨rfl, by have := hb'.1; omega, hb'.2⟩
theorem missOk.more {W W1 W' : World} {way : List UInt8} {m : Option (List UInt8)} {A : Option Addr} {n c : Nat} (h : missOk W' (Fr W1 W') way m A n c) (hb : W.heap.size ≤ W1.heap.size) : missOk W' (Fr W W') way m A n c := by
  unfold missOk at *
  cases m with
  | none => exact h
  | some r => exact ⟨h.1, Fr.more h.2 hb⟩
end Go.Proofs.YtojjfkbffjkojaaDoor
namespace Go.Proofs.YtojjfkbffjkojaaDoor
open Go.RowKit

set_option maxHeartbeats 400000 in
theorem halves_any (A : Option Addr) (n c B : Nat) (l : List UInt8) (w : World) (hr : Rd w B A n l) (hn : n ≤ 100000000000) :
    Calls Tryd.prog 113 #[.slice A n c] w fun e w' => e = .returned (.bool (halvesB l)) ∧ w = w' := by
  go_enter Tryd.func113, Tryd.ntmps113
  go_wp2
  go_loop [7] (fun i => ∃ (k : Nat), k ≤ n ∧ i = .int .i64 k ∧ halvesB (l.take k) = true) (fun i => n - (intOf i).toNat)
  case atStart => exact ⟨0, Nat.zero_le _, rfl, rfl⟩
  case round =>
    obtain ⟨k, hk, rfl, ht⟩ := hrel
    have Ht := Lib.hid ht
    clear ht
    have hln := hr.len
    by_cases hlt : k < n
    · obtain ⟨bb, off, rfl, hc⟩ := hr.at_ hlt
      have h0 := at8_lo l k
      have h1 := at8_hi l k
      have hkl : k < l.length := by omega
      clear hln
      by_cases h15 : at8 l k ≤ 15
      · go_wp2
        go_round
        case rel => exact ⟨k + 1, by omega, by go_num, halvesB_take l k hkl Ht.out h15⟩
        case measure => simp [intOf]; omega
      · go_wp2
        go_ret
        exact ⟨ret_bool (halvesB_no l k hkl (by omega)).symm, rfl⟩
    · have hkn : l.length ≤ k := by omega
      clear hln
      go_wp2
      go_ret
      exact ⟨ret_bool (by have := Ht.out; rw [List.take_of_length_le hkn] at this; exact this.symm), rfl⟩

end Go.Proofs.YtojjfkbffjkojaaDoor
namespace Go.Proofs.YtojjfkbffjkojaaDoor
open Go.RowKit

set_option maxHeartbeats 400000 in
theorem of_any (A : Option Addr) (n c : Nat) (l : List UInt8) (w : World) (hr : Rd w w.heap.size A n l) (hn : n ≤ 100000000000) :
    Calls Tryd.prog 105 #[.slice A n c] w fun e w' => ∃ A' c', e = .returned (.slice A' (2 * n) c') ∧ Own w' w.heap.size A' (2 * n) c' (ofB l) ∧ Below w.heap.size w w' := by
  go_enter Tryd.func105, Tryd.ntmps105
  go_wp2
  go_loopw [3, 8] (fun v i wr => ∃ (k : Nat) (A' : Option Addr) (c' : Nat), k ≤ n ∧ i = .int .i64 k ∧ v = .slice A' (2 * k) c' ∧ Own wr w.heap.size A' (2 * k) c' (ofB (l.take k)) ∧ Below w.heap.size w wr) (fun _ i _ => n - (intOf i).toNat)
  case atStart => exact ⟨0, none, 0, Nat.zero_le _, rfl, rfl, Own.nil_ _ _, Below.refl _ _⟩
  case round =>
    obtain ⟨k, A', c', hk, rfl, rfl, hown, hb⟩ := hrel
    have hln := hr.len
    by_cases hlt : k < n
    · obtain ⟨bb, off, rfl, hc⟩ := (hr.below hb).at_ hlt
      have h0 := at8_lo l k
      have h1 := at8_hi l k
      clear hln
      go_wp2_with (at_builtin; refine wpList_app rfl _ _ rfl rfl (hown.alloc _) rfl (Rd.lit2 _ _ _ (by omega) (by omega)) (by omega) (by simp; have := hb.size; omega) ?_; intro A2 c2 w2 hown2 hg2)
      have hb2 := (hb.alloc hb.size (.cells #[.int .u8 (at8 l k / 16), .int .u8 (at8 l k % 16)] 5)).grown hg2 (by simp; have := hb.size; omega) hown.lo
      go_roundw
      case rel => exact ⟨k + 1, A2, c2, by omega, by go_num, rfl, by rw [ofB_take l k (by rw [hr.len]; exact hlt)]; exact hown2, hb2⟩
      case measure => simp [intOf]; omega
    · have hk : k = n := by omega
      subst hk
      go_wp2
      go_ret
      exact ⟨A', c', rfl, by rw [List.take_of_length_le (by omega)] at hown; exact hown, hb⟩
set_option maxHeartbeats 400000 in
theorem joined_any (A : Option Addr) (n c : Nat) (l : List UInt8) (w : World) (hr : Rd w w.heap.size A n l) (hn : n ≤ 100000000000) (hh : halvesB l = true) :
    Calls Tryd.prog 114 #[.slice A n c] w fun e w' => ∃ A' c', e = .returned (.slice A' (n / 2) c') ∧ Own w' w.heap.size A' (n / 2) c' (joinB l) ∧ Below w.heap.size w w' := by
  have Hh := Lib.hid hh
  clear hh
  go_enter Tryd.func114, Tryd.ntmps114
  go_wp2
  go_loopw [3, 4] (fun v i wr => ∃ (k : Nat) (A' : Option Addr) (c' : Nat), 2 * k ≤ n ∧ i = .int .i64 ((2 * k + 1 : Nat) : Int) ∧ v = .slice A' k c' ∧ Own wr w.heap.size A' k c' (joinB (l.take (2 * k))) ∧ Below w.heap.size w wr) (fun _ i _ => n + 1 - (intOf i).toNat)
  case atStart => exact ⟨0, none, 0, by omega, rfl, rfl, Own.nil_ _ _, Below.refl _ _⟩
  case round =>
    obtain ⟨k, A', c', hk, rfl, rfl, hown, hb⟩ := hrel
    have hln := hr.len
    by_cases hlt : 2 * k + 1 < n
    · obtain ⟨bb, off, rfl, hc⟩ := (hr.below hb).at_ (k := 2 * k) (by omega)
      obtain ⟨bb', off', e, hc'⟩ := (hr.below hb).at_ (k := 2 * k + 1) (by omega)
      injection e with e
      injection e with e1 e2
      subst e1 e2
      have h0 := at8_lo l (2 * k)
      have h1 := at8_lo l (2 * k + 1)
      have h2 := halvesB_at l Hh.out (2 * k)
      have h3 := halvesB_at l Hh.out (2 * k + 1)
      have hkl : 2 * k + 1 < l.length := by omega
      clear hln
      have hor := or_halves (at8 l (2 * k)) (at8 l (2 * k + 1)) h0 h2 h1 h3
      have hown' := Lib.hid hown
      have hw1 : IntKind.i64.wrap (2 * (k : Int)) = 2 * (k : Int) := IntWalk.i64_in _ (by omega)
      have hw2 : (2 * (k : Int)).toNat = 2 * k := by omega
      have hw4 : (2 * (k : Int) + 1).toNat = 2 * k + 1 := by omega
      have hw5 : (0 : Int) ≤ 2 * (k : Int) := by omega
      have hw6 : (2 * (k : Int)) < (n : Int) := by omega
      have hw7 : (0 : Int) ≤ 2 * (k : Int) + 1 := by omega
      have hw8 : (2 * (k : Int) + 1) < (n : Int) := by omega
      have hw3 : IntKind.u8.wrap (at8 l (2 * k) * 16) = at8 l (2 * k) * 16 := IntWalk.u8_in _ (by omega)
      go_wp2
      go_region_law (refine step_app rfl _ _ rfl rfl ((hown'.out).drew.alloc _) rfl (Rd.lit1 _ _ (by omega)) (by omega) (by simp; have := hb.size; omega) ?_; intro A2 c2 w2 hown2 hg2)
      all_goals
        have hb2 := ((hb.alloc hb.size (.cells #[.int .u8 (at8 l (2 * k) * 16 + at8 l (2 * k + 1))] 5)).drew).grown hg2 (by simp; have := hb.size; omega) hown.lo
        have hj := Lib.hid (joinB_take8 l k hkl Hh.out)
        clear hown hb hor hw1 hw2 hw3 hw4 hc hc' hown' hg2
        go_wp2
        go_roundw
        case rel => exact ⟨k + 1, A2, c2, by omega, by go_num, rfl, by rw [hj.out]; exact hown2, hb2⟩
        case measure => simp [intOf]; omega
    · have hkn : k = n / 2 := by omega
      have hend := Lib.hid (joinB_all l k (by omega) (by omega))
      have Hk := Lib.hid hkn
      clear hln hkn
      go_wp2
      go_ret
      exact ⟨A', c', ret_slice Hk.out, by rw [hend.out] at hown; rw [← Hk.out]; exact hown, hb⟩

end Go.Proofs.YtojjfkbffjkojaaDoor
namespace Go.Proofs.YtojjfkbffjkojaaDoor
open Go.RowKit
/-- What trie.Get answers. -/
structure GotE where
  v : List UInt8
  has : Bool
  miss : Option (List UInt8)
  e : Int
def leafN (p v : List UInt8) : Nd := .mk 1 p false v [] []
def alongN (p : List UInt8) (t : Nd) : Nd := if p = [] then t else .mk 2 p false [] [t] []
end Go.Proofs.YtojjfkbffjkojaaDoor
namespace Go.Proofs.YtojjfkbffjkojaaDoor
open Go.RowKit
/-- The place of an element. -/
theorem p_atL {P : Program} {E : Env} {d : Option Nat} {ty : TypeId} {p : String} {af : Array Edge} {g : Option (Nat × Bool)} {x y : Operand} {t : TypeId} {kd : IntKind} {k : Value → Prop} {b o q n c i : Nat} {e : TypeId} {s : Nat} {j : Int} (hT : slOf P t = some (e, s)) (hx : val E x = .slice (some ⟨b, o, none⟩) n c) (hy : val E y = .int kd j) (hj : j = (i : Int)) (hi : i < n) (hq : o + i * s = q)
    (h : k (.pointer (some ⟨b, q, none⟩))) : VPure P E { dst := d, op := .indexAddr t x y, type := ty, pos := p, after := af, guard := g } k :=
  p_at hT hx hy hj hi (by rw [Addr.add_lit, hq]; exact h)
/-- A branch that is still made: its block, that of its kids. -/
def BrS (W : World) (gs : List (Option Nat)) (gb gk ck : Nat) (has : Bool) (v : List UInt8) (ks : List Nd) : Prop :=
  ∃ Av cv xs rest, Blk W gb 26 [.int .i64 3, .slice none 0 0, .bool has, .slice Av v.length cv, .slice (some ⟨gk, 0, none⟩) 16 ck, .slice none 0 0] ∧ RdD W (Fd W gs) (dB v) (.slice Av v.length cv) ∧ Blk W gk 26 (xs ++ rest) ∧ RdL W (Fd W gs) (dNs ks) xs ∧ ks.length = 16 ∧ gb ≠ gk ∧ some gb ∈ gs ∧ some gk ∈ gs ∧ 16 ≤ ck
def holdK (has : Bool) (v : List UInt8) (ks : List Nd) (p val : List UInt8) : Bool × List UInt8 × List Nd :=
  match p with
  | [] => (true, val, ks)
  | x :: q => (has, v, ks.set x.toNat (leafN q val))
theorem dNs_set : ∀ {ks : List Nd} {i : Nat} (k : Nd), i < ks.length → dNs (ks.set i k) = (dNs ks).take (i * 6) ++ dN k ++ (dNs ks).drop (i * 6 + 6)
  | t :: ks, 0, k, _ => by
    rw [List.set_cons_zero, dNs, dNs, Nat.zero_mul, List.take_zero, List.nil_append, Nat.zero_add, List.drop_left' (dN_len t)]
  | t :: ks, i + 1, k, h => by
    rw [List.set_cons_succ, dNs, dNs, dNs_set k (by simpa using h), show (i + 1) * 6 = (dN t).length + i * 6 by rw [dN_len]; omega, List.take_length_add_append, show (dN t).length + i * 6 + 6 = (dN t).length + (i * 6 + 6) by omega, List.drop_length_add_append]
    simp only [List.append_assoc]
theorem halves_hd {x : UInt8} {q : List UInt8} (h : halvesB (x :: q) = true) : x.toNat < 16 := by
  unfold halvesB at h
  have := List.all_eq_true.1 h x (by simp)
  have := of_decide_eq_true this
  rw [UInt8.le_iff_toNat_le] at this
  have e15 : (15 : UInt8).toNat = 15 := rfl
  omega
end Go.Proofs.YtojjfkbffjkojaaDoor
namespace Go.Proofs.YtojjfkbffjkojaaDoor
open Go.RowKit
def zNs (n : Nat) : List Value := (List.replicate n zN).flatten
def noneNs (n : Nat) : List Nd := List.replicate n noneN
theorem RdL.znone {W : World} {F : Nat → Prop} : RdL W F (dN noneN) zN :=
  RdL.ofnode (t := noneN) (Ap := none) (cp := 0) (Av := none) (cv := 0) (Ak := none) (ck := 0) (Ah := none) (ch := 0) (RdD.nil_ _ _) (RdD.nil_ _ _) (RdD.nil_ _ _) (RdD.nil_ _ _)
theorem RdL.znones {W : World} {F : Nat → Prop} : ∀ n, RdL W F (dNs (noneNs n)) (zNs n)
  | 0 => RdL.nil_
  | n + 1 => by
    show RdL W F (dN noneN ++ dNs (noneNs n)) (zN ++ zNs n)
    exact RdL.znone.app (RdL.znones n)
set_option maxRecDepth 100000 in
theorem made16 : (madeCells (Value.agg #[.int .i64 0, .slice none 0 0, .bool false, .slice none 0 0, .slice none 0 0, .slice none 0 0]).cells (16 * 6)).toList = zNs 16 := by kernel_rfl
set_option maxRecDepth 100000 in
/-- make([]Node, 16) -/
theorem v_mkN {E : Env} {d : Option Nat} {ty : TypeId} {p : String} {af : Array Edge} {gd : Option (Nat × Bool)} {l c : Operand} {kw : Value → World → Prop} {w : World} (hl : val E l = .int .i64 ((16 : Nat) : Int)) (hc : val E c = .int .i64 ((16 : Nat) : Int))
    (h : ∀ g w', g = w.heap.size → Blk w' g 26 (zNs 16) → Below g w w' → kw (.slice (some ⟨g, 0, none⟩) 16 16) w') :
    VVal Tryd.prog E { dst := d, op := .makeSlice 24 l c, type := ty, pos := p, after := af, guard := gd } w kw := by
  obtain ⟨i, hi0, hz0, hz1, hz2⟩ := info_parts inf_nd
  obtain ⟨w', hrun, hrow, hg⟩ := run_make_full (P := Tryd.prog) (w := w) w.heap.size 24 26 i _ 6 Tryd.underlying24 hi0 hz0 hz1 .i64 .i64 16 (by rw [hz2]; decide) (by unfold maxLen; decide) (Nat.le_refl _)
  refine vv (v := .slice (some ⟨w.heap.size, 0, none⟩) 16 16) (w' := w') ?_ (h _ _ rfl ?_ ⟨hg.os, hg.tape, hg.output, hg.size, fun b hb => hg.block b hb (by simp)⟩)
  · have hrun' : (Instr.makeSlice 24 (.int .i64 (16 : Int)) (.int .i64 (16 : Int))).run Tryd.prog w = _ := hrun
    simp [execOp, hl, hc, hrun']
  · rcases hrow.2 with ⟨_, h0⟩ | ⟨g', cap, cur, hv, hbg, hh, hnc, _, hcs, htk⟩
    · exact absurd h0 (by decide)
    · injection hv with hA _ hc'
      injection hA with hA
      injection hA with hA
      subst hA; subst hc'
      have e : cur.toList = zNs 16 := by
        rw [← made16, ← htk]
        refine (List.take_of_length_le ?_).symm
        simp at hcs ⊢
        omega
      rw [← e]
      unfold Blk
      rw [hh]
theorem BrS.drew {W : World} {gs : List (Option Nat)} {gb gk ck : Nat} {has : Bool} {v : List UInt8} {ks : List Nd} (h : BrS W gs gb gk ck has v ks) : BrS W.drew gs gb gk ck has v ks := by
  obtain ⟨Av, cv, xs, rest, h1, h2, h3, h4, h5⟩ := h
  exact ⟨Av, cv, xs, rest, h1, h2.up Stp.drew, h3, h4.up Stp.drew, h5⟩
theorem BrS.node {W : World} {gs gs' : List (Option Nat)} {gb gk ck : Nat} {has : Bool} {v : List UInt8} {ks : List Nd} (h : BrS W gs gb gk ck has v ks) (s : Stp W gs W gs') (hn : some gk ∉ gs') :
    ∃ Av cv, Blk W gb 26 (ncs (.mk 3 [] has v ks []) none 0 Av cv (some ⟨gk, 0, none⟩) ck none 0) ∧ RdL W (Fd W gs') (dN (.mk 3 [] has v ks [])) (ncs (.mk 3 [] has v ks []) none 0 Av cv (some ⟨gk, 0, none⟩) ck none 0) := by
  obtain ⟨Av, cv, xs, rest, hB, hV, hK, hX, h16, hne, hgb, hgk, hck⟩ := h
  refine ⟨Av, cv, ?_, RdL.ofnode (t := .mk 3 [] has v ks []) (RdD.nil_ _ _) (hV.up s) ?_ (RdD.nil_ _ _)⟩
  · show Blk W gb 26 [.int .i64 3, .slice none 0 0, .bool has, .slice Av v.length cv, .slice (some ⟨gk, 0, none⟩) ks.length ck, .slice none 0 0]
    rw [h16]; exact hB
  · refine RdD.sl_iff.2 ⟨_, ck, xs, rfl, by show ks.length ≤ ck; omega, dNs_len _, hX.up s, fun _ => ⟨gk, 0, rfl, ⟨hK.lt, hn⟩, fun j x hx => ?_⟩⟩
    rw [Nat.zero_add]
    refine hK.at_ ?_
    rw [List.getElem?_append_left (List.getElem?_eq_some_iff.1 hx).1]; exact hx
def forkN (t : Nd) (p val : List UInt8) : Nd :=
  let k := commonB t.path p
  let b := if t.kind = 1 then holdK false [] (noneNs 16) (t.path.drop k) t.val else (false, [], (noneNs 16).set (t.path.getD k 0).toNat (alongN (t.path.drop (k + 1)) (t.kids.headD noneN)))
  let b2 := holdK b.1 b.2.1 b.2.2 (p.drop k) val
  alongN (p.take k) (.mk 3 [] b2.1 b2.2.1 b2.2.2 [])
end Go.Proofs.YtojjfkbffjkojaaDoor
namespace Go.Proofs.YtojjfkbffjkojaaDoor
open Go.RowKit
mutual
/-- What trie.put comes to: the node, and the halves to a stub that is in the way. -/
def putP : Nd → List UInt8 → List UInt8 → Nd × Option (List UInt8)
  | .mk k p has v ks h, q, val =>
    if k = 4 then (.mk k p has v ks h, some [])
    else if k = 0 then (leafN q val, none)
    else if k = 1 then (if p = q then (leafN q val, none) else (forkN (.mk k p has v ks h) q val, none))
    else if k = 2 then (if p <+: q then (let r := putsP ks 0 (q.drop p.length) val; (.mk k p has v [r.1] h, r.2.map (p ++ ·))) else (forkN (.mk k p has v ks h) q val, none))
    else match q with
      | [] => (.mk k p true val ks h, none)
      | x :: q' => (let r := putsP ks x.toNat q' val; (.mk k p has v (ks.set x.toNat r.1) h, r.2.map (x :: ·)))
def putsP : List Nd → Nat → List UInt8 → List UInt8 → Nd × Option (List UInt8)
  | [], _, _, _ => (noneN, none)
  | t :: _, 0, q, val => putP t q val
  | _ :: ts, i + 1, q, val => putsP ts i q val
end
theorem putsP_at : ∀ {ks : List Nd} {i : Nat} {k : Nd} (q val : List UInt8), ks[i]? = some k → putsP ks i q val = putP k q val
  | t :: ks, 0, k, q, val, h => by simp at h; subst h; rw [putsP]
  | t :: ks, i + 1, k, q, val, h => by rw [putsP]; exact putsP_at q val (by simpa using h)
theorem putP_way0 {p q val : List UInt8} {k : Nd} (h : ¬ p <+: q) : putP (.mk 2 p false [] [k] []) q val = (forkN (.mk 2 p false [] [k] []) q val, none) := by
  conv => lhs; rw [putP.eq_def]
  simp [h]
theorem putP_way {p q val : List UInt8} {k : Nd} (h : p <+: q) : putP (.mk 2 p false [] [k] []) q val = (.mk 2 p false [] [(putP k (q.drop p.length) val).1] [], (putP k (q.drop p.length) val).2.map (p ++ ·)) := by
  have e := putsP_at (ks := [k]) (i := 0) (k := k) (q.drop p.length) val rfl
  conv => lhs; rw [putP.eq_def]
  simp [h, e]
theorem putP_br0 {has : Bool} {v val : List UInt8} {ks : List Nd} : putP (.mk 3 [] has v ks []) [] val = (.mk 3 [] true val ks [], none) := by
  conv => lhs; rw [putP.eq_def]
  simp
theorem putP_br {has : Bool} {v val : List UInt8} {ks : List Nd} {x : UInt8} {q : List UInt8} {k : Nd} (h : ks[x.toNat]? = some k) : putP (.mk 3 [] has v ks []) (x :: q) val = (.mk 3 [] has v (ks.set x.toNat (putP k q val).1) [], (putP k q val).2.map (x :: ·)) := by
  have e := putsP_at q val h
  conv => lhs; rw [putP.eq_def]
  simp [e]
theorem missOk.to {W W' : World} {F F' : Nat → Prop} {way : List UInt8} {m : Option (List UInt8)} {A : Option Addr} {n c : Nat} (h : missOk W F way m A n c) (hs : ∀ b, F b → W'.heap[b]? = W.heap[b]? ∧ F' b) : missOk W' F' way m A n c := by
  unfold missOk at *
  cases m with
  | none => exact h
  | some r => exact ⟨h.1, h.2.to hs⟩
theorem At.stp {w W W' : World} {gs : List (Option Nat)} (_ : At w W gs) (hb : Below W.heap.size W W') : Stp W gs W' gs := Stp.below hb
end Go.Proofs.YtojjfkbffjkojaaDoor
namespace Go.Proofs.YtojjfkbffjkojaaDoor
open Go.RowKit
def behindN (p : List UInt8) (t : Nd) : Nd := if t.kind = 1 ∨ t.kind = 2 then .mk t.kind (p ++ t.path) t.has t.val t.kids t.hash else if t.kind = 0 then t else alongN p t
end Go.Proofs.YtojjfkbffjkojaaDoor
namespace Go.Proofs.YtojjfkbffjkojaaDoor
open Go.RowKit
/-- Which kid is the only one: none where there is more than one thing. -/
def scanK (has : Bool) : List Nd → Nat → Option Nat → Option (Option Nat)
  | [], _, o => some o
  | k :: ks, i, o => if k.kind = 0 then scanK has ks (i + 1) o else if o.isSome || has then none else scanK has ks (i + 1) (some i)
def settleP (t : Nd) : Nd × Option (List UInt8) :=
  match scanK t.has t.kids 0 none with
  | none => (t, none)
  | some none => (leafN [] t.val, none)
  | some (some i) => if (t.kids.getD i noneN).kind = 4 then (t, some [UInt8.ofNat i]) else (behindN [UInt8.ofNat i] (t.kids.getD i noneN), none)
end Go.Proofs.YtojjfkbffjkojaaDoor
namespace Go.Proofs.YtojjfkbffjkojaaDoor
open Go.RowKit
mutual
/-- What trie.drop comes to. -/
def dropP : Nd → List UInt8 → Nd × Option (List UInt8)
  | .mk k p has v ks h, q =>
    if k = 1 then (noneN, none)
    else if k = 2 then (let r := dropsP ks 0 (q.drop p.length); (behindN p r.1, r.2.map (p ++ ·)))
    else match q with
      | [] => settleP (.mk k p false [] ks h)
      | x :: q' => (let r := dropsP ks x.toNat q'; if r.2.isSome then (.mk k p has v ks h, r.2.map (x :: ·)) else settleP (.mk k p has v (ks.set x.toNat r.1) h))
def dropsP : List Nd → Nat → List UInt8 → Nd × Option (List UInt8)
  | [], _, _ => (noneN, none)
  | t :: _, 0, q => dropP t q
  | _ :: ts, i + 1, q => dropsP ts i q
end
theorem dropsP_at : ∀ {ks : List Nd} {i : Nat} {k : Nd} (q : List UInt8), ks[i]? = some k → dropsP ks i q = dropP k q
  | t :: ks, 0, k, q, h => by simp at h; subst h; rw [dropsP]
  | t :: ks, i + 1, k, q, h => by rw [dropsP]; exact dropsP_at q (by simpa using h)
theorem dropP_leaf {p v q : List UInt8} : dropP (.mk 1 p false v [] []) q = (noneN, none) := by
  conv => lhs; rw [dropP.eq_def]
  simp
theorem dropP_way {p q : List UInt8} {k : Nd} : dropP (.mk 2 p false [] [k] []) q = (behindN p (dropP k (q.drop p.length)).1, (dropP k (q.drop p.length)).2.map (p ++ ·)) := by
  have e := dropsP_at (ks := [k]) (i := 0) (k := k) (q.drop p.length) rfl
  conv => lhs; rw [dropP.eq_def]
  simp [e]
theorem dropP_br0 {has : Bool} {v : List UInt8} {ks : List Nd} : dropP (.mk 3 [] has v ks []) [] = settleP (.mk 3 [] false [] ks []) := by
  conv => lhs; rw [dropP.eq_def]
  simp
theorem dropP_br {has : Bool} {v : List UInt8} {ks : List Nd} {x : UInt8} {q : List UInt8} {k : Nd} (h : ks[x.toNat]? = some k) : dropP (.mk 3 [] has v ks []) (x :: q) = (if (dropP k q).2.isSome then (.mk 3 [] has v ks [], (dropP k q).2.map (x :: ·)) else settleP (.mk 3 [] has v (ks.set x.toNat (dropP k q).1) [])) := by
  have e := dropsP_at q h
  conv => lhs; rw [dropP.eq_def]
  simp [e]
theorem scan_lt {has : Bool} : ∀ {ks : List Nd} {i j : Nat} {o : Option Nat}, scanK has ks i o = some (some j) → (o = some j) ∨ (i ≤ j ∧ j < i + ks.length)
  | [], i, j, o, h => by unfold scanK at h; injection h with h; exact .inl h
  | k :: ks, i, j, o, h => by
    unfold scanK at h
    rw [List.length_cons]
    split at h
    · rcases scan_lt h with h | h
      · exact .inl h
      · right; omega
    · split at h
      · cases h
      · rcases scan_lt h with h | h
        · injection h with h; right; omega
        · right; omega
theorem getP_none {q : List UInt8} : getP noneN q = ⟨[], false, none⟩ := by unfold noneN getP; simp
theorem getP_stub {h q : List UInt8} : getP (.mk 4 [] false [] [] h) q = ⟨[], false, some []⟩ := by unfold getP; simp
end Go.Proofs.YtojjfkbffjkojaaDoor
namespace Go.Proofs.YtojjfkbffjkojaaDoor
open Go.RowKit
/-- A way to a stub, or nil, as a datum. -/
def missD (way : List UInt8) : Option (List UInt8) → D
  | none => .v (.slice none 0 0)
  | some r => dB (way ++ r)
theorem missOk.mk {W : World} {F : Nat → Prop} {way : List UInt8} {m : Option (List UInt8)} {A : Option Addr} {n c : Nat} (h : RdD W F (missD way m) (.slice A n c)) (h0 : m.isSome = true → A ≠ none) : missOk W F way m A n c := by
  cases m with
  | none => have := RdD.val.1 h; injection this with e1 e2 e3; exact ⟨e1, e2, e3⟩
  | some r => exact ⟨h0 rfl, h⟩
theorem St.kid {w W : World} {gs : List (Option Nat)} {L : Lc} {R : List Row} {fs : List Fact} (M : St w gs W L R fs) {ks : List Nd} {A : Option Addr} {n c i : Nat} {k : Nd} (h : RdD W (Fd W (own L R gs)) (dKs ks) (.slice A n c)) (hk : ks[i]? = some k) :
    ∃ b off es, A = some ⟨b, off, none⟩ ∧ es.length = 6 ∧ St w gs W L R (.loc ((⟨b, off, none⟩ : Addr).add (i * 6)) es :: .dat false (dN k) es :: fs) := by
  obtain ⟨b, off, es, e, hF, hes, hel, hc⟩ := h.kid hk
  exact ⟨b, off, es, e, hel, (M.addL hes).addC (by rw [block_of_add]; exact hF) hc⟩
end Go.Proofs.YtojjfkbffjkojaaDoor
namespace Go.Proofs.YtojjfkbffjkojaaDoor
open Go.RowKit
structure DropR where
  t : Nd
  has : Bool
  miss : Option (List UInt8)
  e : Int
end Go.Proofs.YtojjfkbffjkojaaDoor
namespace Go.Proofs.YtojjfkbffjkojaaDoor
theorem halvesB_app {p q : List UInt8} : halvesB (p ++ q) = (halvesB p && halvesB q) := by unfold halvesB; rw [List.all_append]
theorem endsP_le {d : Nat} {even : Bool} (h : endsP d even = true) : d ≤ 400 := by
  unfold endsP at h
  rw [Bool.and_eq_true, decide_eq_true_eq] at h
  exact h.1
theorem Val.le {even : Bool} {t : Nd} {d : Nat} (h : Val even t d) : d ≤ 400 := by cases h <;> assumption
theorem common_split : ∀ (p q : List UInt8), p.take (commonB p q) = q.take (commonB p q) ∧ ((p.drop (commonB p q) = [] ∨ q.drop (commonB p q) = []) ∨ ∃ a b p' q', a ≠ b ∧ p.drop (commonB p q) = a :: p' ∧ q.drop (commonB p q) = b :: q')
  | [], q => by simp [commonB]
  | _ :: _, [] => by simp [commonB]
  | a :: p, b :: q => by
    unfold commonB
    by_cases h : a = b
    · rw [if_pos h]
      obtain ⟨h1, h2⟩ := common_split p q
      refine ⟨by rw [List.take_succ_cons, List.take_succ_cons, h, h1], ?_⟩
      rw [List.drop_succ_cons, List.drop_succ_cons]
      exact h2
    · rw [if_neg h]
      exact ⟨by simp, .inr ⟨a, b, p, q, h, rfl, rfl⟩⟩
theorem noneNs_len (n : Nat) : (noneNs n).length = n := by
  induction n with
  | zero => rfl
  | succ n ih => simp [noneNs] at *
theorem along_val {even : Bool} {d : Nat} {p : List UInt8} {t : Nd} (hd : d ≤ 400) (hp : halvesB p = true) (hk : t.kind = 3 ∨ t.kind = 4) (hr : Val even t (d + p.length)) : Val even (alongN p t) d := by
  unfold alongN
  split
  · rename_i h; rw [h] at hr; exact hr
  · rename_i h; exact .way d p t hd hp h hk hr
end Go.Proofs.YtojjfkbffjkojaaDoor
namespace Go.Proofs.YtojjfkbffjkojaaDoor
open Go.RowKit
structure Pr where
  k : List UInt8
  v : List UInt8
deriving DecidableEq
def dPr (p : Pr) : List D := [dB p.k, dB p.v]
def dPrs (l : List Pr) : List D := l.flatMap dPr
theorem flat_len {α : Type} {f : α → List D} {s : Nat} (hf : ∀ x, (f x).length = s) : ∀ l : List α, (l.flatMap f).length = l.length * s
  | [] => by simp
  | x :: l => by rw [List.flatMap_cons, List.length_append, hf, flat_len hf l, List.length_cons, Nat.add_mul, Nat.one_mul, Nat.add_comm]
theorem flat_at {α : Type} {f : α → List D} {s : Nat} (hf : ∀ x, (f x).length = s) : ∀ {l : List α} {i : Nat} {x : α}, l[i]? = some x → ((l.flatMap f).drop (i * s)).take s = f x
  | y :: l, 0, x, h => by
    simp at h; subst h
    rw [Nat.zero_mul, List.drop_zero, List.flatMap_cons, List.take_append_of_le_length (by rw [hf]; omega), List.take_of_length_le (by rw [hf]; omega)]
  | y :: l, i + 1, x, h => by
    rw [List.flatMap_cons, show (i + 1) * s = (f y).length + i * s by rw [hf, Nat.add_mul]; omega, ← List.drop_drop, List.drop_left]
    exact flat_at hf (by simpa using h)
/-- An element. -/
theorem RdD.elt {W : World} {F : Nat → Prop} {α : Type} (f : α → List D) (s : Nat) (hf : ∀ x, (f x).length = s) {l : List α} {A : Option Addr} {n c i : Nat} {x : α} (h : RdD W F (.sl s l.length (l.flatMap f)) (.slice A n c)) (hi : l[i]? = some x) :
    ∃ b off es, A = some ⟨b, off, none⟩ ∧ F b ∧ RdL W F (f x) es ∧ es.length = s ∧ ∀ j y, es[j]? = some y → W.cell? (((⟨b, off, none⟩ : Addr).add (i * s)).add j) = some y := by
  have hn := h.slen
  have hil := (List.getElem?_eq_some_iff.1 hi).1
  obtain ⟨b, off, es, e1, hF, hes, hel, hc⟩ := h.at_ (i := i) (by omega)
  rw [flat_at hf hi] at hes
  exact ⟨b, off, es, e1, hF, hes, hel, fun j y hy => by rw [Addr.add_lit, Addr.add_lit]; exact hc j y hy⟩
theorem dPr_len (p : Pr) : (dPr p).length = 2 := rfl
abbrev dPl (l : List Pr) : D := .sl 2 l.length (dPrs l)
def pcs (p : Pr) (Ak : Option Addr) (ck : Nat) (Av : Option Addr) (cv : Nat) : List Value := [.slice Ak p.k.length ck, .slice Av p.v.length cv]
theorem RdL.pair {W : World} {F : Nat → Prop} {p : Pr} {cs : List Value} (h : RdL W F (dPr p) cs) : ∃ Ak ck Av cv, cs = pcs p Ak ck Av cv ∧ RdD W F (dB p.k) (.slice Ak p.k.length ck) ∧ RdD W F (dB p.v) (.slice Av p.v.length cv) := by
  obtain ⟨u0, _, rfl, h0, h⟩ := (show RdL W F [dB p.k, dB p.v] cs from h).uncons
  obtain ⟨u1, _, rfl, h1, h⟩ := h.uncons
  rw [h.isnil]
  obtain ⟨A0, c0, e0, _⟩ := h0.open_
  obtain ⟨A1, c1, e1, _⟩ := h1.open_
  subst e0; subst e1
  exact ⟨A0, c0, A1, c1, rfl, h0, h1⟩
/-- A pair of a slice that stays. -/
theorem St.pair {w W : World} {gs : List (Option Nat)} {L : Lc} {R : List Row} {fs : List Fact} (M : St w gs W L R fs) {l : List Pr} {A : Option Addr} {n c i : Nat} {p : Pr} (h : RdD W (Fd W (own L R gs)) (dPl l) (.slice A n c)) (hi : l[i]? = some p) :
    ∃ b off Ak ck Av cv, A = some ⟨b, off, none⟩ ∧ St w gs W L R (.loc ((⟨b, off, none⟩ : Addr).add (i * 2)) (pcs p Ak ck Av cv) :: .dat false [dB p.k] [.slice Ak p.k.length ck] :: .dat false [dB p.v] [.slice Av p.v.length cv] :: fs) := by
  obtain ⟨b, off, es, e, hF, hes, hel, hc⟩ := RdD.elt dPr 2 dPr_len h hi
  obtain ⟨Ak, ck, Av, cv, rfl, h1, h2⟩ := hes.pair
  exact ⟨b, off, Ak, ck, Av, cv, e, ((M.addD h2).addD h1).addC (by rw [block_of_add]; exact hF) hc⟩
end Go.Proofs.YtojjfkbffjkojaaDoor
namespace Go.Proofs.YtojjfkbffjkojaaDoor
open Go.RowKit
theorem ends_yes {e : Nat} {even : Bool} (h : e ≤ 400) (h2 : even = false ∨ e % 2 = 0) : endsP e even = true := by
  unfold endsP
  rw [decide_eq_true h]
  rcases h2 with h2 | h2
  · rw [h2]; rfl
  · rw [decide_eq_true h2]; simp
end Go.Proofs.YtojjfkbffjkojaaDoor
namespace Go.Proofs.YtojjfkbffjkojaaDoor
open Go.RowKit
mutual
def muchP : Nd → Nat → Nat
  | .mk _ p _ v ks h, most => muchK ks most (1 + (p.length + v.length + h.length) / 50)
def muchK : List Nd → Nat → Nat → Nat
  | [], _, m => m
  | k :: ks, most, m => if m < most then muchK ks most (m + muchP k (most - m)) else m
end
theorem muchP_eq (t : Nd) (most : Nat) : muchP t most = muchK t.kids most (1 + (t.path.length + t.val.length + t.hash.length) / 50) := by cases t; rw [muchP]; rfl
mutual
theorem much_sz : ∀ (t : Nd) (most : Nat), muchP t most < most → sz t ≤ 55 * muchP t most
  | .mk _ p _ v ks h, most, hm => by
    rw [muchP] at hm ⊢
    rw [sz]
    have := muchK_sz ks most _ hm
    omega
theorem muchK_sz : ∀ (ks : List Nd) (most m : Nat), muchK ks most m < most → szs ks + 55 * m ≤ 55 * muchK ks most m
  | [], most, m, _ => by rw [muchK, szs]; omega
  | k :: ks, most, m, hm => by
    rw [muchK] at hm ⊢
    rw [szs]
    by_cases h : m < most
    · rw [if_pos h] at hm ⊢
      have h1 := muchK_sz ks most _ hm
      have h2 : m + muchP k (most - m) ≤ muchK ks most (m + muchP k (most - m)) := muchK_ge ks most _
      have h3 := much_sz k (most - m) (by omega)
      omega
    · rw [if_neg h] at hm; omega
theorem muchK_ge : ∀ (ks : List Nd) (most m : Nat), m ≤ muchK ks most m
  | [], most, m => by rw [muchK]; omega
  | k :: ks, most, m => by
    rw [muchK]
    split
    · have := muchK_ge ks most (m + muchP k (most - m)); omega
    · omega
end
mutual
theorem much_le : ∀ (t : Nd) (most : Nat), muchP t most ≤ sz t
  | .mk _ p _ v ks h, most => by
    rw [muchP, sz]
    have := muchK_le ks most (1 + (p.length + v.length + h.length) / 50)
    omega
theorem muchK_le : ∀ (ks : List Nd) (most m : Nat), muchK ks most m ≤ m + szs ks
  | [], most, m => by rw [muchK]; omega
  | k :: ks, most, m => by
    rw [muchK, szs]
    split
    · have := muchK_le ks most (m + muchP k (most - m))
      have := much_le k (most - m)
      omega
    · omega
end
def MuchOk (t : Nd) : Prop := ∀ (gs : List (Option Nat)) (w : World) (cs : List Value) (most : Nat), RdL w (Fd w gs) (dN t) cs → (∀ b, some b ∈ gs → b < w.heap.size) → most ≤ 1000000 →
  Calls Tryd.prog 49 #[.agg cs.toArray, .int .i64 most] w fun e w' => e = .returned (.int .i64 (muchP t most)) ∧ Below w.heap.size w w'
set_option maxRecDepth 100000 in
set_option maxHeartbeats 1000000 in
theorem much_step (N : Nat) (ih : ∀ k : Nd, sz k < N → MuchOk k) (t : Nd) (ht : sz t ≤ N) (hN : N ≤ 1000000000) : MuchOk t := by
  intro gs w cs most hr hgs hmost
  refine calls_ev (args := [.agg cs.toArray, .int .i64 most]) mixed Tryd.func49 rfl (by kernel_rfl) ?_
  obtain ⟨Ap, cp, Av, cv, Ak, ck, Ah, ch, rfl, r1, r3, r4, r5⟩ := hr.node
  have hsz := sz_eq t
  have hsl := szs_len t.kids
  have M := (St.start hgs).addD r4
  clear r1 r3 r4 r5 hr
  obtain ⟨T, hT⟩ : ∃ T, T = muchP t most := ⟨_, rfl⟩
  rw [← hT]
  rw [muchP_eq] at hT
  refine s_box (ncs t Ap cp Av cv Ak ck Ah ch) M rfl ?_
  clear M
  rintro g2 W M
  have hB := M.B 0 rfl
  unfold ncs at hB
  repeat' first
    | (refine p_fld fN0 rfl ?_)
    | (refine p_fld fN1 rfl ?_)
    | (refine p_fld fN2 rfl ?_)
    | (refine p_fld fN3 rfl ?_)
    | (refine p_fld fN4 rfl ?_)
    | (refine p_fld fN5 rfl ?_)
    | (refine v_load agg_int rfl (hB.at_ rfl) ?_)
    | (refine v_load agg_b rfl (hB.at_ rfl) ?_)
    | (refine v_load agg_bo rfl (hB.at_ rfl) ?_)
    | (refine v_load agg_ns rfl (hB.at_ rfl) ?_)
    | (refine p_len slb rfl ?_)
    | (refine p_len sln rfl ?_)
  refine p_addN rfl rfl (by omega) ?_
  repeat' first
    | (refine p_fld fN0 rfl ?_)
    | (refine p_fld fN1 rfl ?_)
    | (refine p_fld fN2 rfl ?_)
    | (refine p_fld fN3 rfl ?_)
    | (refine p_fld fN4 rfl ?_)
    | (refine p_fld fN5 rfl ?_)
    | (refine v_load agg_int rfl (hB.at_ rfl) ?_)
    | (refine v_load agg_b rfl (hB.at_ rfl) ?_)
    | (refine v_load agg_bo rfl (hB.at_ rfl) ?_)
    | (refine v_load agg_ns rfl (hB.at_ rfl) ?_)
    | (refine p_len slb rfl ?_)
    | (refine p_len sln rfl ?_)
  refine p_addN rfl rfl (by omega) ?_
  refine p_quoN (b := 50) rfl rfl (by decide) (by omega) ?_
  refine p_addN (a := 1) rfl rfl (by omega) ?_
  obtain ⟨m0, hm0⟩ : ∃ m0, m0 = 1 + (t.path.length + t.val.length + t.hash.length) / 50 := ⟨_, rfl⟩
  have hm0l : m0 + szs t.kids ≤ sz t := by omega
  rw [← hm0] at hT ⊢
  clear hB
  refine lp (Nat × Nat) (fun s W => s.1 ≤ t.kids.length ∧ St w gs W [(g2, 26, ncs t Ap cp Av cv Ak ck Ah ch)] [] [.dat false [dKs t.kids] [.slice Ak t.kids.length ck]] ∧ T = muchK (t.kids.drop s.1) most s.2 ∧ s.2 + szs (t.kids.drop s.1) ≤ sz t) (fun s => [(1, .int .i64 most), (2, .pointer (some ⟨g2, 0, none⟩)), (5, .int .i64 s.2), (6, .int .i64 s.1)]) (fun s => t.kids.length - s.1) (0, m0) ⟨Nat.zero_le _, M, hT, by simp only [List.drop_zero]; exact hm0l⟩ (by repeat (first | exact trivial | refine ⟨rfl, ?_⟩)) ?_
  clear M
  rintro ⟨i, m⟩ E5 W5 ⟨hi, M, hTi, hbd⟩
  dsimp only at hi hTi hbd
  have hB := M.B 0 rfl
  unfold ncs at hB
  repeat' first
    | (refine p_fld fN0 rfl ?_)
    | (refine p_fld fN1 rfl ?_)
    | (refine p_fld fN2 rfl ?_)
    | (refine p_fld fN3 rfl ?_)
    | (refine p_fld fN4 rfl ?_)
    | (refine p_fld fN5 rfl ?_)
    | (refine v_load agg_int rfl (hB.at_ rfl) ?_)
    | (refine v_load agg_b rfl (hB.at_ rfl) ?_)
    | (refine v_load agg_bo rfl (hB.at_ rfl) ?_)
    | (refine v_load agg_ns rfl (hB.at_ rfl) ?_)
    | (refine p_len slb rfl ?_)
    | (refine p_len sln rfl ?_)
  refine p_lt rfl rfl (fun hlt => ?_) (fun hge => ?_)
  · dsimp only at hlt
    obtain ⟨k, hki⟩ : ∃ k, t.kids[i]? = some k := ⟨_, List.getElem?_eq_getElem (by omega)⟩
    have hdr : t.kids.drop i = k :: t.kids.drop (i + 1) := by
      have h1 := (List.getElem?_eq_some_iff.1 hki)
      rw [List.drop_eq_getElem_cons h1.1, h1.2]
    have hkz := szs_mem (List.mem_of_getElem? hki)
    rw [hdr] at hTi hbd
    unfold muchK at hTi
    unfold szs at hbd
    refine p_lt rfl rfl (fun hm => ?_) (fun hm => ?_)
    · dsimp only at hm
      rw [if_pos (by omega)] at hTi
      obtain ⟨b, off, es, e0, hel, M'⟩ := M.kid (by first | with_reducible exact M.d1_0 | with_reducible exact M.d1_1 | with_reducible exact M.d1_2 | with_reducible exact M.d1_3 | with_reducible exact M.d1_4 | with_reducible exact M.d1_5 | with_reducible exact M.d1_6 | with_reducible exact M.d1_7 | with_reducible exact M.d1_8 | with_reducible exact M.d1_9 | with_reducible exact M.d1_10 | with_reducible exact M.d1_11) hki
      replace M := M'; clear M'
      repeat' first
        | (refine p_fld fN0 rfl ?_)
        | (refine p_fld fN1 rfl ?_)
        | (refine p_fld fN2 rfl ?_)
        | (refine p_fld fN3 rfl ?_)
        | (refine p_fld fN4 rfl ?_)
        | (refine p_fld fN5 rfl ?_)
        | (refine v_load agg_int rfl (hB.at_ rfl) ?_)
        | (refine v_load agg_b rfl (hB.at_ rfl) ?_)
        | (refine v_load agg_bo rfl (hB.at_ rfl) ?_)
        | (refine v_load agg_ns rfl (hB.at_ rfl) ?_)
        | (refine p_len slb rfl ?_)
        | (refine p_len sln rfl ?_)
      refine p_at sln (by show (Value.slice Ak t.kids.length ck) = _; rw [e0]) rfl rfl (by omega) ?_
      refine v_loadN es agg_nd rfl hel (M.lc 0 rfl) ?_
      refine p_subN rfl rfl (by dsimp only; omega) (by omega) ?_
      refine cc is_r7much (ih k (by omega) _ _ es (most - m) (by first | with_reducible exact M.da_0 | with_reducible exact M.da_1 | with_reducible exact M.da_2 | with_reducible exact M.da_3 | with_reducible exact M.da_4 | with_reducible exact M.da_5 | with_reducible exact M.da_6 | with_reducible exact M.da_7 | with_reducible exact M.da_8 | with_reducible exact M.da_9 | with_reducible exact M.da_10 | with_reducible exact M.da_11) M.olt (by omega)) ?_
      rintro e W ⟨rfl, hb⟩
      refine ⟨_, rfl, ?_⟩
      replace M := M.call hb
      have hkl := much_le k (most - m)
      refine p_addN rfl rfl (by dsimp only; omega) ?_
      refine p_addN (b := 1) rfl rfl (by dsimp only; omega) ?_
      exact ⟨(i + 1, m + muchP k (most - m)), ⟨by dsimp only; omega, M.fsub _ (by simp), hTi, by dsimp only; omega⟩, (by repeat (first | exact trivial | refine ⟨rfl, ?_⟩)), by dsimp only; omega⟩
    · dsimp only at hm
      rw [if_neg (by omega)] at hTi
      exact ⟨by rw [hTi]; rfl, M.below⟩
  · dsimp only at hge
    rw [List.drop_of_length_le (by omega)] at hTi
    unfold muchK at hTi
    exact ⟨by rw [hTi]; rfl, M.below⟩
theorem much_any : ∀ (N : Nat), N ≤ 1000000000 → ∀ t : Nd, sz t < N → MuchOk t
  | 0, _, t, h => by omega
  | N + 1, hN, t, h => much_step N (fun k hk => much_any N (by omega) k hk) t (by omega) (by omega)
end Go.Proofs.YtojjfkbffjkojaaDoor
namespace Go.Proofs.YtojjfkbffjkojaaDoor
open Go.RowKit
/-- An array's length, its elements' type, their cells. -/
def arrOf (P : Program) (t : TypeId) : Option (Nat × TypeId × Nat) :=
  match P.underlying t with
  | some (.array n e) => (P.info? e).map fun i => (n, e, i.size)
  | _ => none
section
variable {P : Program} {E : Env} {d : Option Nat} {ty : TypeId} {p : String} {af : Array Edge} {g : Option (Nat × Bool)} {x y : Operand} {t : TypeId} {k : Value → Prop} {kd : IntKind}
theorem arrOf_spec {n : Nat} {e : TypeId} {s : Nat} (h : arrOf P t = some (n, e, s)) : P.underlying t = some (.array n e) ∧ ∃ i, P.info? e = some i ∧ i.size = s := by
  unfold arrOf at h
  split at h
  · rename_i n' e' hu
    obtain ⟨i, hi, he⟩ := Option.map_eq_some_iff.1 h
    simp only [Prod.mk.injEq] at he
    obtain ⟨rfl, rfl, he⟩ := he
    exact ⟨hu, i, hi, he⟩
  · cases h
theorem p_atA {ad : Addr} {n i : Nat} {e : TypeId} {s : Nat} {j : Int} (hT : arrOf P t = some (n, e, s)) (hx : val E x = .pointer (some ad)) (hy : val E y = .int kd j) (hj : j = (i : Int)) (hi : i < n)
    (h : k (.pointer (some (ad.add (i * s))))) : VPure P E { dst := d, op := .indexAddr t x y, type := ty, pos := p, after := af, guard := g } k :=
  pp (fun w => by
    obtain ⟨hu, info, hi1, hi2⟩ := arrOf_spec hT
    subst hj
    have h0 : 0 ≤ (i : Int) ∧ (i : Int) < (n : Int) := by omega
    simp [execOp, hx, hy, Instr.indexAt, Instr.sureAddr, run_underlying hu, asIntOf, hi, sizeOf, typeInfo, hi1, hi2]) h
/-- An element of one cell of an array's value. -/
theorem p_idxA {cs : List Value} {n i : Nat} {e : TypeId} {j : Int} {v : Value} (hT : arrOf P t = some (n, e, 1)) (ha : aggOf P e = some (false, 1)) (hx : val E x = .agg cs.toArray) (hy : val E y = .int kd j) (hj : j = (i : Int)) (hi : i < n) (hv : cs[i]? = some v)
    (h : k v) : VPure P E { dst := d, op := .index t x y, type := ty, pos := p, after := af, guard := g } k :=
  pp (fun w => by
    obtain ⟨hu, info, hi1, hi2⟩ := arrOf_spec hT
    subst hj
    have ag := (aggOf_run ha w).1
    simp [execOp, hx, hy, Instr.index, run_underlying hu, asIntOf, hi, sizeOf, typeInfo, hi1, hi2, part, ag, hv]) h
theorem p_buildA {parts : Array (Nat × Operand)} {n s : Nat} {e : TypeId} {zs vs : List Value} (hT : arrOf P t = some (n, e, s)) (hz : zeroOf P t = some zs) (hv : fillL (fun i => some (i * s, s)) zs (parts.toList.map fun x => (x.1, val E x.2)) = some vs) (h : k (.agg vs.toArray)) :
    VPure P E { dst := d, op := .build t parts, type := ty, pos := p, after := af, guard := g } k := by
  refine pp (fun w => ?_) h
  obtain ⟨hu, info, hi1, hi2⟩ := arrOf_spec hT
  obtain ⟨z, hzr, hzc⟩ := zero_run hz w
  have hf := fill_eq _ _ _ _ hv
  have e1 : (parts.map fun x => (x.1, val E x.2)).toList = parts.toList.map fun x => (x.1, val E x.2) := by simp
  rw [← hzc] at hf
  have e3 : z.cells = z.cells.toList.toArray := by simp
  have hs : (sizeOf e).run P w = .ok s w := by simp [sizeOf, typeInfo, hi1, hi2]
  simp only [execOp, Instr.build, Sem.run_bind, hzr, Result.andThen_ok, run_underlying hu, hs, e1]
  rw [e3, hf]
  simp
end
end Go.Proofs.YtojjfkbffjkojaaDoor
namespace Go.Proofs.YtojjfkbffjkojaaDoor
open Go.RowKit
/-- Turned to the right. -/
def rotr (x n : Nat) : Nat := ((x <<< (32 - n)) % 4294967296) ||| (x >>> n)
theorem rotr_lt {x : Nat} (n : Nat) (h : x < 4294967296) : rotr x n < 4294967296 := by
  unfold rotr
  have h1 : x >>> n < 2 ^ 32 := by
    rw [Nat.shiftRight_eq_div_pow]
    exact Nat.lt_of_le_of_lt (Nat.div_le_self _ _) h
  exact Nat.or_lt_two_pow (n := 32) (Nat.mod_lt _ (by decide)) h1
theorem d_int : (Tryd.prog.underlying 3).isSome = true := by kernel_rfl
theorem d_uint : Tryd.prog.underlying 108 = some (.int .u64) := by kernel_rfl
theorem is_rot : isFn Tryd.prog 121 = true := by kernel_rfl
theorem is_turn : isFn Tryd.prog 120 = true := by kernel_rfl
set_option maxRecDepth 100000 in
theorem rot_any (x n : Nat) (w : World) (hx : x < 4294967296) (h1 : 1 ≤ n) (h2 : n ≤ 31) :
    Calls Tryd.prog 121 #[.int .u32 x, .int .i64 (-(n : Int))] w fun e w' => e = .returned (.int .u32 (rotr x n : Nat)) ∧ w = w' := by
  refine calls_ev (args := [.int .u32 x, .int .i64 (-(n : Int))]) mixed Tryd.func121 rfl (by kernel_rfl) ?_
  have hb : bits .and .u64 ((18446744073709551616 - n : Nat) : Int) ((31 : Nat) : Int) = ((32 - n : Nat) : Int) := by
    rw [u64_and_nat _ _ (by omega) (by omega), show (31 : Nat) = 2 ^ 5 - 1 by rfl, Nat.and_two_pow_sub_one_eq_mod]
    congr 1
    omega
  have hs : IntKind.u32.wrap ((x : Int) * 2 ^ (min (((32 - n : Nat) : Int)).toNat 32)) = ((x <<< (32 - n)) % 4294967296 : Nat) := by
    rw [Int.toNat_natCast, Nat.min_eq_left (by omega), IntKind.wrap_u32', Nat.shiftLeft_eq, Int.natCast_emod, Int.natCast_mul, Int.natCast_pow]
    rfl
  have hr : (x : Int).fdiv (2 ^ (min ((n : Nat) : Int).toNat 32)) = ((x >>> n : Nat) : Int) := by
    rw [Int.toNat_natCast, Nat.min_eq_left (by omega), Nat.shiftRight_eq_div_pow, Int.fdiv_eq_ediv_of_nonneg _ (Int.le_of_lt (Int.pow_pos (by decide))), Int.natCast_ediv, Int.natCast_pow]
    rfl
  have ho : bits .or .u32 (((x <<< (32 - n)) % 4294967296 : Nat) : Int) ((x >>> n : Nat) : Int) = ((rotr x n : Nat) : Int) := by
    refine u32_or_nat _ _ (Nat.mod_lt _ (by decide)) ?_
    rw [Nat.shiftRight_eq_div_pow]
    exact Nat.lt_of_le_of_lt (Nat.div_le_self _ _) hx
  refine v_cvt d_int d_uint rfl (r := ((18446744073709551616 - n : Nat) : Int)) (by rw [IntKind.wrap_u64]; omega) ?_
  refine p_and rfl rfl hb ?_
  refine p_shl rfl rfl (by omega) hs ?_
  refine p_sub rfl rfl (r := ((n : Nat) : Int)) (by rw [IntKind.wrap_u64]; omega) ?_
  refine p_shr rfl rfl (by omega) hr ?_
  refine p_or rfl rfl ho ?_
  exact ⟨rfl, rfl⟩
set_option maxRecDepth 100000 in
theorem turn_any (x n : Nat) (w : World) (hx : x < 4294967296) (h1 : 1 ≤ n) (h2 : n ≤ 31) :
    Calls Tryd.prog 120 #[.int .u32 x, .int .i64 n] w fun e w' => e = .returned (.int .u32 (rotr x n : Nat)) ∧ w = w' := by
  refine calls_ev (args := [.int .u32 x, .int .i64 n]) mixed Tryd.func120 rfl (by kernel_rfl) ?_
  refine p_neg rfl (r := -(n : Int)) (w64 (by omega) |>.trans (by omega)) ?_
  refine cc is_rot (rot_any x n _ hx h1 h2) ?_
  rintro e w' ⟨rfl, rfl⟩
  exact ⟨_, rfl, rfl, rfl⟩
end Go.Proofs.YtojjfkbffjkojaaDoor
namespace Go.Proofs.YtojjfkbffjkojaaDoor
def byt (b : List UInt8) (k : Nat) : Nat := (b.getD k 0).toNat
theorem byt_lt (b : List UInt8) (k : Nat) : byt b k < 256 := (b.getD k 0).toNat_lt
/-- Four bytes, the highest first. -/
def wordB (b : List UInt8) (i : Nat) : Nat := (((byt b (4 * i) <<< 24) ||| (byt b (4 * i + 1) <<< 16)) ||| (byt b (4 * i + 2) <<< 8)) ||| byt b (4 * i + 3)
def sg0 (x : Nat) : Nat := (rotr x 7 ^^^ rotr x 18) ^^^ (x >>> 3)
def sg1 (x : Nat) : Nat := (rotr x 17 ^^^ rotr x 19) ^^^ (x >>> 10)
def nextW (w : List Nat) (i : Nat) : Nat := (((sg1 (w.getD (i - 2) 0) + w.getD (i - 7) 0) % 4294967296 + sg0 (w.getD (i - 15) 0)) % 4294967296 + w.getD (i - 16) 0) % 4294967296
/-- The first i of the words of 64 bytes. -/
def wsF (b : List UInt8) : Nat → List Nat
  | 0 => []
  | i + 1 => wsF b i ++ [if i < 16 then wordB b i else nextW (wsF b i) i]
theorem wsF_len (b : List UInt8) : ∀ i, (wsF b i).length = i
  | 0 => rfl
  | i + 1 => by unfold wsF; rw [List.length_append, wsF_len b i]; rfl
theorem shl_lt {x n : Nat} (h : x < 256) (hn : n ≤ 24) : x <<< n < 4294967296 := by
  rw [Nat.shiftLeft_eq]
  have : 2 ^ n ≤ 2 ^ 24 := Nat.pow_le_pow_right (by decide) hn
  have h2 : x * 2 ^ n ≤ 255 * 2 ^ 24 := Nat.mul_le_mul (by omega) this
  exact Nat.lt_of_le_of_lt h2 (by decide)
theorem or_lt {x y : Nat} (hx : x < 4294967296) (hy : y < 4294967296) : x ||| y < 4294967296 := Nat.or_lt_two_pow (n := 32) hx hy
theorem xor_lt {x y : Nat} (hx : x < 4294967296) (hy : y < 4294967296) : x ^^^ y < 4294967296 := Nat.xor_lt_two_pow (n := 32) hx hy
theorem and_lt {x y : Nat} (hx : x < 4294967296) : x &&& y < 4294967296 := Nat.lt_of_le_of_lt Nat.and_le_left hx
theorem shr_lt {x : Nat} (n : Nat) (hx : x < 4294967296) : x >>> n < 4294967296 := by
  rw [Nat.shiftRight_eq_div_pow]; exact Nat.lt_of_le_of_lt (Nat.div_le_self _ _) hx
theorem wordB_lt (b : List UInt8) (i : Nat) : wordB b i < 4294967296 :=
  or_lt (or_lt (or_lt (shl_lt (byt_lt _ _) (by decide)) (shl_lt (byt_lt _ _) (by decide))) (shl_lt (byt_lt _ _) (by decide))) (Nat.lt_trans (byt_lt _ _) (by decide))
theorem wsF_lt (b : List UInt8) : ∀ (i : Nat), ∀ x ∈ wsF b i, x < 4294967296
  | 0, x, h => by cases h
  | i + 1, x, h => by
    unfold wsF at h
    rcases List.mem_append.1 h with h | h
    · exact wsF_lt b i x h
    · simp only [List.mem_singleton] at h
      subst h
      split
      · exact wordB_lt b i
      · exact Nat.mod_lt _ (by decide)
theorem getD_lt {l : List Nat} (h : ∀ x ∈ l, x < 4294967296) (j : Nat) : l.getD j 0 < 4294967296 := by
  rw [List.getD_eq_getElem?_getD]
  cases hx : l[j]? with
  | none => decide
  | some x => exact h x (List.mem_of_getElem? hx)
def words (b : List UInt8) : List Nat := wsF b 64
/-- A cell of a word. -/
def cu (n : Nat) : Value := .int .u32 (n : Int)
theorem cu_set {L : List Nat} {i : Nat} (hL : L.length = i) (hi : i < 64) (v : Nat) : (L.map cu ++ List.replicate (64 - i) (cu 0)).set i (cu v) = (L ++ [v]).map cu ++ List.replicate (64 - (i + 1)) (cu 0) := by
  rw [List.set_append_right _ _ (by simp [hL]), List.length_map, hL, Nat.sub_self, show 64 - i = (64 - (i + 1)) + 1 by omega, List.replicate_succ, List.set_cons_zero, List.map_append, List.append_assoc]
  rfl
theorem cu_get {L : List Nat} {R : List Value} {j : Nat} (hj : j < L.length) : (L.map cu ++ R)[j]? = some (cu (L.getD j 0)) := by
  rw [List.getElem?_append_left (by simpa using hj), List.getElem?_map, List.getD_eq_getElem?_getD, List.getElem?_eq_getElem hj]; rfl
end Go.Proofs.YtojjfkbffjkojaaDoor
namespace Go.Proofs.YtojjfkbffjkojaaDoor
/-- Eight words. -/
structure H8 where
  a : Nat
  b : Nat
  c : Nat
  d : Nat
  e : Nat
  f : Nat
  g : Nat
  h : Nat
def hc (v : H8) : List Value := [cu v.a, cu v.b, cu v.c, cu v.d, cu v.e, cu v.f, cu v.g, cu v.h]
structure H8.Ok (v : H8) : Prop where
  a : v.a < 4294967296
  b : v.b < 4294967296
  c : v.c < 4294967296
  d : v.d < 4294967296
  e : v.e < 4294967296
  f : v.f < 4294967296
  g : v.g < 4294967296
  h : v.h < 4294967296
def bs1 (e : Nat) : Nat := (rotr e 6 ^^^ rotr e 11) ^^^ rotr e 25
def bs0 (a : Nat) : Nat := (rotr a 2 ^^^ rotr a 13) ^^^ rotr a 22
def chs (e f g : Nat) : Nat := (e &&& f) ^^^ ((4294967295 ^^^ e) &&& g)
def maj (a b c : Nat) : Nat := ((a &&& b) ^^^ (a &&& c)) ^^^ (b &&& c)
def tt1 (v : H8) (k w : Nat) : Nat := ((((v.h + bs1 v.e) % 4294967296 + chs v.e v.f v.g) % 4294967296 + k) % 4294967296 + w) % 4294967296
def tt2 (v : H8) : Nat := (bs0 v.a + maj v.a v.b v.c) % 4294967296
def rnd (v : H8) (k w : Nat) : H8 := ⟨(tt1 v k w + tt2 v) % 4294967296, v.a, v.b, v.c, (v.d + tt1 v k w) % 4294967296, v.e, v.f, v.g⟩
theorem rnd_ok {v : H8} (h : v.Ok) (k w : Nat) : (rnd v k w).Ok := ⟨Nat.mod_lt _ (by decide), h.a, h.b, h.c, Nat.mod_lt _ (by decide), h.e, h.f, h.g⟩
/-- i rounds. -/
def rndF (ks ws : List Nat) (v : H8) : Nat → H8
  | 0 => v
  | i + 1 => rnd (rndF ks ws v i) (ks.getD i 0) (ws.getD i 0)
theorem rndF_ok (ks ws : List Nat) {v : H8} (h : v.Ok) : ∀ i, (rndF ks ws v i).Ok
  | 0 => h
  | i + 1 => rnd_ok (rndF_ok ks ws h i) _ _
def add8 (x y : H8) : H8 := ⟨(x.a + y.a) % 4294967296, (x.b + y.b) % 4294967296, (x.c + y.c) % 4294967296, (x.d + y.d) % 4294967296, (x.e + y.e) % 4294967296, (x.f + y.f) % 4294967296, (x.g + y.g) % 4294967296, (x.h + y.h) % 4294967296⟩
theorem add8_ok (x y : H8) : (add8 x y).Ok := ⟨Nat.mod_lt _ (by decide), Nat.mod_lt _ (by decide), Nat.mod_lt _ (by decide), Nat.mod_lt _ (by decide), Nat.mod_lt _ (by decide), Nat.mod_lt _ (by decide), Nat.mod_lt _ (by decide), Nat.mod_lt _ (by decide)⟩
def begin8 : H8 := ⟨1779033703, 3144134277, 1013904242, 2773480762, 1359893119, 2600822924, 528734635, 1541459225⟩
def roots : List Nat := [0x428a2f98, 0x71374491, 0xb5c0fbcf, 0xe9b5dba5, 0x3956c25b, 0x59f111f1, 0x923f82a4, 0xab1c5ed5,
  0xd807aa98, 0x12835b01, 0x243185be, 0x550c7dc3, 0x72be5d74, 0x80deb1fe, 0x9bdc06a7, 0xc19bf174,
  0xe49b69c1, 0xefbe4786, 0x0fc19dc6, 0x240ca1cc, 0x2de92c6f, 0x4a7484aa, 0x5cb0a9dc, 0x76f988da,
  0x983e5152, 0xa831c66d, 0xb00327c8, 0xbf597fc7, 0xc6e00bf3, 0xd5a79147, 0x06ca6351, 0x14292967,
  0x27b70a85, 0x2e1b2138, 0x4d2c6dfc, 0x53380d13, 0x650a7354, 0x766a0abb, 0x81c2c92e, 0x92722c85,
  0xa2bfe8a1, 0xa81a664b, 0xc24b8b70, 0xc76c51a3, 0xd192e819, 0xd6990624, 0xf40e3585, 0x106aa070,
  0x19a4c116, 0x1e376c08, 0x2748774c, 0x34b0bcb5, 0x391c0cb3, 0x4ed8aa4a, 0x5b9cca4f, 0x682e6ff3,
  0x748f82ee, 0x78a5636f, 0x84c87814, 0x8cc70208, 0x90befffa, 0xa4506ceb, 0xbef9a3f7, 0xc67178f2]
/-- What 64 bytes make of eight words. -/
def take8 (h : H8) (b : List UInt8) : H8 := add8 h (rndF roots (words b) h 64)
/-- What all whole blocks make; n blocks. -/
def blocksF (h : H8) : Nat → List UInt8 → H8
  | 0, _ => h
  | n + 1, b => blocksF (take8 h (b.take 64)) n (b.drop 64)
def put4 (x : Nat) : List UInt8 := [UInt8.ofNat (x >>> 24), UInt8.ofNat (x >>> 16), UInt8.ofNat (x >>> 8), UInt8.ofNat x]
def out8 (h : H8) : List UInt8 := put4 h.a ++ (put4 h.b ++ (put4 h.c ++ (put4 h.d ++ (put4 h.e ++ (put4 h.f ++ (put4 h.g ++ put4 h.h))))))
/-- What is put behind so many bytes. -/
def padL (n : Nat) : List UInt8 := (128 : UInt8) :: (List.replicate ((119 - n % 64) % 64) (0 : UInt8) ++ [UInt8.ofNat ((8 * n) >>> 56), UInt8.ofNat ((8 * n) >>> 48), UInt8.ofNat ((8 * n) >>> 40), UInt8.ofNat ((8 * n) >>> 32), UInt8.ofNat ((8 * n) >>> 24), UInt8.ofNat ((8 * n) >>> 16), UInt8.ofNat ((8 * n) >>> 8), UInt8.ofNat (8 * n)])
def sha (b : List UInt8) : List UInt8 := out8 (blocksF begin8 ((b ++ padL b.length).length / 64) (b ++ padL b.length))
end Go.Proofs.YtojjfkbffjkojaaDoor
