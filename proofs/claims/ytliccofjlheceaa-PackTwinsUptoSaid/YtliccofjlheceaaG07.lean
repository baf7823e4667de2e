/- Tries, plainly: what may be; get, put, drop. Reference 07's walks: Same, own, right, Check, Much. The walk of trie.get. Halves of bytes: the walks of what only reads. Halves of bytes: the walks. The walks of trie.right, Get, leaf, along. The walks of slices.Clone of nodes, and of trie.hold. The walk of trie.fork. The walk of trie.put. The walks of trie.Put and behind. The walk of trie.settle. The walk of trie.drop. The walk of trie.drop. The walk of trie.Drop. Tries, plainly: put keeps what may be; what stands where; two that hold the same are one. No walk here. Pairs as data; slices of whatever by a function of the elements. Reference 07's walks: right, Check, Same, Much. -/
import Derived.Test.YtliccofjlheceaaG06
import Derived.Test.YtliccofjlheceaaG04
import Derived.Test.YtliccofjlheceaaG05
import Derived.Deep.QuietTactic
import Derived.BigQuiet
import Derived.StillTailTactics
import Derived.Deep.RegionHeld3
import Derived.Deep.RegionLaw
namespace Go.Proofs.Ytliccofjlheceaa
theorem rightsP_all {even : Bool} {d : Nat} : ∀ {ks : List Nd}, rightsP even ks d = true → ∀ k ∈ ks, rightP even k d = true
  | [], _, k, h => by cases h
  | x :: ks, hr, k, h => by
    rw [rightsP, Bool.and_eq_true] at hr
    rcases List.mem_cons.1 h with rfl | h
    · exact hr.1
    · exact rightsP_all hr.2 k h
theorem rightsP_of {even : Bool} {d : Nat} : ∀ {ks : List Nd}, (∀ k ∈ ks, rightP even k d = true) → rightsP even ks d = true
  | [], _ => rfl
  | x :: ks, h => by rw [rightsP, h x (by simp), rightsP_of (fun k hk => h k (by simp [hk]))]; rfl
/-- The kinds of nodes that may be. -/
inductive Val (even : Bool) : Nd → Nat → Prop
  | none (d : Nat) (hd : d ≤ 400) : Val even noneN d
  | leaf (d : Nat) (p v : List UInt8) (hd : d ≤ 400) (hp : halvesB p = true) (hv : v.length ≤ 4000) (he : endsP (d + p.length) even = true) : Val even (.mk 1 p false v [] []) d
  | stub (d : Nat) (h : List UInt8) (hd : d ≤ 400) (hh : h.length = 32) : Val even (.mk 4 [] false [] [] h) d
  | way (d : Nat) (p : List UInt8) (k : Nd) (hd : d ≤ 400) (hp : halvesB p = true) (h0 : p ≠ []) (hk : k.kind = 3 ∨ k.kind = 4) (hr : Val even k (d + p.length)) : Val even (.mk 2 p false [] [k] []) d
  | branch (d : Nat) (has : Bool) (v : List UInt8) (ks : List Nd) (hd : d ≤ 400) (hv : v.length ≤ 4000) (hv0 : has = true ∨ v = []) (he : has = true → endsP d even = true) (h16 : ks.length = 16) (hr : ∀ k ∈ ks, Val even k (d + 1)) (hm : 2 ≤ (if has then 1 else 0) + manyN ks) : Val even (.mk 3 [] has v ks []) d
theorem nil_of_len {α : Type} {l : List α} (h : l.length = 0) : l = [] := List.eq_nil_of_length_eq_zero h
theorem val_of_right (even : Bool) : ∀ (N : Nat) (t : Nd) (d : Nat), sz t < N → rightP even t d = true → Val even t d
  | 0, t, d, h, _ => by omega
  | N + 1, t, d, hN, h => by
    have hsz := sz_eq t
    rw [rightP_eq] at h
    obtain ⟨k, p, has, v, ks, hs⟩ := t
    simp only [Nd.kind, Nd.path, Nd.has, Nd.val, Nd.kids, Nd.hash] at h hsz
    unfold ownP at h
    simp only [Bool.and_eq_true, decide_eq_true_eq] at h
    obtain ⟨hd, hv, hp, h⟩ := h
    by_cases h0 : k = 0
    · rw [if_pos h0] at h
      have h := of_decide_eq_true h
      obtain ⟨e1, e2, e3, e4, e5⟩ := h
      rw [nil_of_len e1, nil_of_len e2, nil_of_len e3, nil_of_len e4, e5, h0]
      exact .none d hd
    rw [if_neg h0] at h
    by_cases h1 : k = 1
    · rw [if_pos h1] at h
      simp only [Bool.and_eq_true, decide_eq_true_eq] at h
      obtain ⟨⟨e3, e4, e5⟩, he⟩ := h
      rw [nil_of_len e3, nil_of_len e4, e5, h1]
      exact .leaf d p v hd hp hv he
    rw [if_neg h1] at h
    by_cases h4 : k = 4
    · rw [if_pos h4] at h
      have h := of_decide_eq_true h
      obtain ⟨e1, e2, e3, e5, e6⟩ := h
      rw [nil_of_len e1, nil_of_len e2, nil_of_len e3, e5, h4]
      exact .stub d hs hd e6
    rw [if_neg h4] at h
    by_cases h2 : k = 2
    · rw [if_pos h2] at h
      simp only [Bool.and_eq_true, decide_eq_true_eq] at h
      obtain ⟨⟨e2, e4, e5, e1, e3⟩, hk, hr⟩ := h
      match ks, e3 with
      | [k0], _ =>
        rw [rightsP, rightsP, Bool.and_true] at hr
        have hz : szs [k0] = sz k0 := by rw [szs, szs]; omega
        rw [nil_of_len e2, nil_of_len e4, e5, h2]
        refine .way d p k0 hd hp (fun e => e1 (by rw [e]; rfl)) ?_ (val_of_right even N k0 _ (by omega) hr)
        unfold kindsB at hk
        rw [List.all_cons, Bool.and_eq_true, decide_eq_true_eq] at hk
        exact hk.1
    rw [if_neg h2] at h
    by_cases h3 : k = 3
    · rw [if_pos h3] at h
      simp only [Bool.and_eq_true, decide_eq_true_eq, Bool.or_eq_true, Bool.not_eq_true'] at h
      obtain ⟨⟨e1, e4, e5⟩, he, h16, hr, hm⟩ := h
      rw [nil_of_len e1, nil_of_len e4, h3]
      refine .branch d has v ks hd hv (e5.imp id nil_of_len) (fun e => by rcases he with he | he; rw [e] at he; cases he; exact he) h16 (fun k hk => val_of_right even N k _ (by have := szs_mem hk; omega) (rightsP_all hr k hk)) hm
    · rw [if_neg h3] at h; cases h
theorem right_of_val {even : Bool} {t : Nd} {d : Nat} (h : Val even t d) : rightP even t d = true := by
  induction h with
  | none d hd => rw [noneN, rightP]; unfold ownP; rw [decide_eq_true hd]; rfl
  | leaf d p v hd hp hv he => rw [rightP]; unfold ownP; rw [decide_eq_true hd, hp, decide_eq_true hv, if_neg (by decide), if_pos rfl, he]; rfl
  | stub d h hd hh => simp [rightP, ownP, halvesB, hd, hh]
  | way d p k hd hp h0 hk hr ih =>
    have hp0 : p.length ≠ 0 := fun e => h0 (nil_of_len e)
    rcases hk with hk | hk <;> simp [rightP, ownP, rightsP, ih, kindsB, hk, hp, hd, h0]
  | branch d has v ks hd hv hv0 he h16 hr hm ih =>
    rw [rightP]; unfold ownP
    rw [decide_eq_true hd, decide_eq_true hv, if_neg (by decide), if_neg (by decide), if_neg (by decide), if_neg (by decide), if_pos rfl, rightsP_of ih, decide_eq_true hm, decide_eq_true h16, decide_eq_true ⟨rfl, rfl, hv0.imp id (fun e => by rw [e]; rfl)⟩]
    cases has with
    | false => rfl
    | true => rw [he rfl]; rfl
/-- What a look comes to: what stands there; is there something; the halves to a stub that is in the way. -/
structure GotN where
  v : List UInt8
  has : Bool
  miss : Option (List UInt8)
mutual
def getP : Nd → List UInt8 → GotN
  | .mk k p has v ks _, q =>
    if k = 4 then ⟨[], false, some []⟩
    else if k = 1 then ⟨v, decide (p = q), none⟩
    else if k = 2 then (if p <+: q then (let g := getsP ks 0 (q.drop p.length); ⟨g.v, g.has, g.miss.map (p ++ ·)⟩) else ⟨[], false, none⟩)
    else if k = 3 then (match q with
      | [] => ⟨v, has, none⟩
      | x :: q' => (let g := getsP ks x.toNat q'; ⟨g.v, g.has, g.miss.map (x :: ·)⟩))
    else ⟨[], false, none⟩
def getsP : List Nd → Nat → List UInt8 → GotN
  | [], _, _ => ⟨[], false, none⟩
  | t :: _, 0, q => getP t q
  | _ :: ts, i + 1, q => getsP ts i q
end
theorem getsP_at : ∀ {ks : List Nd} {i : Nat} {k : Nd} (q : List UInt8), ks[i]? = some k → getsP ks i q = getP k q
  | t :: ks, 0, k, q, h => by simp at h; subst h; rw [getsP]
  | t :: ks, i + 1, k, q, h => by rw [getsP]; exact getsP_at q (by simpa using h)
theorem getP_way0 {p q : List UInt8} {k : Nd} (h : ¬ p <+: q) : getP (.mk 2 p false [] [k] []) q = ⟨[], false, none⟩ := by unfold getP; simp [h]
theorem getP_way {p q : List UInt8} {k : Nd} (h : p <+: q) : getP (.mk 2 p false [] [k] []) q = ⟨(getP k (q.drop p.length)).v, (getP k (q.drop p.length)).has, (getP k (q.drop p.length)).miss.map (p ++ ·)⟩ := by
  have e := getsP_at (ks := [k]) (i := 0) (k := k) (q.drop p.length) rfl
  conv => lhs; rw [getP.eq_def]
  simp [h, e]
theorem getP_br0 {has : Bool} {v : List UInt8} {ks : List Nd} : getP (.mk 3 [] has v ks []) [] = ⟨v, has, none⟩ := by unfold getP; simp
theorem getP_br {has : Bool} {v : List UInt8} {ks : List Nd} {x : UInt8} {q : List UInt8} {k : Nd} (h : ks[x.toNat]? = some k) : getP (.mk 3 [] has v ks []) (x :: q) = ⟨(getP k q).v, (getP k q).has, (getP k q).miss.map (x :: ·)⟩ := by
  have e := getsP_at q h
  conv => lhs; rw [getP.eq_def]
  simp [e]
end Go.Proofs.Ytliccofjlheceaa
namespace Go.Proofs.Ytliccofjlheceaa
open Go.RowKit
theorem is_same0 : isFn Try.prog 14 = true := by kernel_rfl
theorem is_copy0 : isFn Try.prog 28 = true := by kernel_rfl
theorem is_r7same : isFn Try.prog 25 = true := by kernel_rfl
end Go.Proofs.Ytliccofjlheceaa
namespace Go.Proofs.Ytliccofjlheceaa
open Go.RowKit
theorem halvesB_drop {q : List UInt8} {n : Nat} (h : halvesB q = true) : halvesB (q.drop n) = true := by
  unfold halvesB at *
  rw [List.all_eq_true] at *
  exact fun x hx => h x (List.mem_of_mem_drop hx)
def missOk (W : World) (F : Nat → Prop) (way : List UInt8) (m : Option (List UInt8)) (A : Option Addr) (n c : Nat) : Prop :=
  match m with
  | none => A = none ∧ n = 0 ∧ c = 0
  | some r => A ≠ none ∧ RdD W F (dB (way ++ r)) (.slice A n c)
theorem Own.fr {W W' : World} {n c : Nat} {A : Option Addr} {l : List UInt8} (h : Own W' W.heap.size A n c l) : RdD W' (Fr W W') (dB l) (.slice A n c) := h.frB fun b h1 h2 h3 => ⟨h1, h2, row_thaw h h3⟩
theorem Fr.more {W W1 W' : World} {d : D} {u : Value} (h : RdD W' (Fr W1 W') d u) (hb : W.heap.size ≤ W1.heap.size) : RdD W' (Fr W W') d u := h.to fun b hb' => ⟨rfl, by have := hb'.1; omega, hb'.2⟩
theorem missOk.more {W W1 W' : World} {way : List UInt8} {m : Option (List UInt8)} {A : Option Addr} {n c : Nat} (h : missOk W' (Fr W1 W') way m A n c) (hb : W.heap.size ≤ W1.heap.size) : missOk W' (Fr W W') way m A n c := by
  unfold missOk at *
  cases m with
  | none => exact h
  | some r => exact ⟨h.1, Fr.more h.2 hb⟩
end Go.Proofs.Ytliccofjlheceaa
namespace Go.Proofs.Ytliccofjlheceaa
open Go.RowKit

set_option maxHeartbeats 400000 in
theorem halves_any (A : Option Addr) (n c B : Nat) (l : List UInt8) (w : World) (hr : Rd w B A n l) (hn : n ≤ 100000000000) :
    Calls Try.prog 92 #[.slice A n c] w fun e w' => e = .returned (.bool (halvesB l)) ∧ w = w' := by
  go_enter Try.func92, Try.ntmps92
  go_wp2
  go_loop [7] (fun i => ∃ (k : Nat), k ≤ n ∧ i = .int .i64 k ∧ halvesB (l.take k) = true) (fun i => n - (intOf i).toNat)
  case atStart => exact ⟨0, Nat.zero_le _, rfl, rfl⟩
  case round =>
    obtain ⟨k, hk, rfl, ht⟩ := hrel
    have Ht := Lib.hid ht
    clear ht
    have hln := hr.len
    by_cases hlt : k < n
    · obtain ⟨bb, off, rfl, hc⟩ := hr.at_ hlt
      have h0 := at8_lo l k
      have h1 := at8_hi l k
      have hkl : k < l.length := by omega
      clear hln
      by_cases h15 : at8 l k ≤ 15
      · go_wp2
        go_round
        case rel => exact ⟨k + 1, by omega, by go_num, halvesB_take l k hkl Ht.out h15⟩
        case measure => simp [intOf]; omega
      · go_wp2
        go_ret
        exact ⟨ret_bool (halvesB_no l k hkl (by omega)).symm, rfl⟩
    · have hkn : l.length ≤ k := by omega
      clear hln
      go_wp2
      go_ret
      exact ⟨ret_bool (by have := Ht.out; rw [List.take_of_length_le hkn] at this; exact this.symm), rfl⟩

end Go.Proofs.Ytliccofjlheceaa
namespace Go.Proofs.Ytliccofjlheceaa
open Go.RowKit

set_option maxHeartbeats 400000 in
theorem of_any (A : Option Addr) (n c : Nat) (l : List UInt8) (w : World) (hr : Rd w w.heap.size A n l) (hn : n ≤ 100000000000) :
    Calls Try.prog 94 #[.slice A n c] w fun e w' => ∃ A' c', e = .returned (.slice A' (2 * n) c') ∧ Own w' w.heap.size A' (2 * n) c' (ofB l) ∧ Below w.heap.size w w' := by
  go_enter Try.func94, Try.ntmps94
  go_wp2
  go_loopw [3, 8] (fun v i wr => ∃ (k : Nat) (A' : Option Addr) (c' : Nat), k ≤ n ∧ i = .int .i64 k ∧ v = .slice A' (2 * k) c' ∧ Own wr w.heap.size A' (2 * k) c' (ofB (l.take k)) ∧ Below w.heap.size w wr) (fun _ i _ => n - (intOf i).toNat)
  case atStart => exact ⟨0, none, 0, Nat.zero_le _, rfl, rfl, Own.nil_ _ _, Below.refl _ _⟩
  case round =>
    obtain ⟨k, A', c', hk, rfl, rfl, hown, hb⟩ := hrel
    have hln := hr.len
    by_cases hlt : k < n
    · obtain ⟨bb, off, rfl, hc⟩ := (hr.below hb).at_ hlt
      have h0 := at8_lo l k
      have h1 := at8_hi l k
      clear hln
      go_wp2_with (at_builtin; refine wpList_app rfl _ _ rfl rfl (hown.alloc _) rfl (Rd.lit2 _ _ _ (by omega) (by omega)) (by omega) (by simp; have := hb.size; omega) ?_; intro A2 c2 w2 hown2 hg2)
      have hb2 := (hb.alloc hb.size (.cells #[.int .u8 (at8 l k / 16), .int .u8 (at8 l k % 16)] 5)).grown hg2 (by simp; have := hb.size; omega) hown.lo
      go_roundw
      case rel => exact ⟨k + 1, A2, c2, by omega, by go_num, rfl, by rw [ofB_take l k (by rw [hr.len]; exact hlt)]; exact hown2, hb2⟩
      case measure => simp [intOf]; omega
    · have hk : k = n := by omega
      subst hk
      go_wp2
      go_ret
      exact ⟨A', c', rfl, by rw [List.take_of_length_le (by omega)] at hown; exact hown, hb⟩
set_option maxHeartbeats 400000 in
theorem joined_any (A : Option Addr) (n c : Nat) (l : List UInt8) (w : World) (hr : Rd w w.heap.size A n l) (hn : n ≤ 100000000000) (hh : halvesB l = true) :
    Calls Try.prog 93 #[.slice A n c] w fun e w' => ∃ A' c', e = .returned (.slice A' (n / 2) c') ∧ Own w' w.heap.size A' (n / 2) c' (joinB l) ∧ Below w.heap.size w w' := by
  have Hh := Lib.hid hh
  clear hh
  go_enter Try.func93, Try.ntmps93
  go_wp2
  go_loopw [3, 4] (fun v i wr => ∃ (k : Nat) (A' : Option Addr) (c' : Nat), 2 * k ≤ n ∧ i = .int .i64 ((2 * k + 1 : Nat) : Int) ∧ v = .slice A' k c' ∧ Own wr w.heap.size A' k c' (joinB (l.take (2 * k))) ∧ Below w.heap.size w wr) (fun _ i _ => n + 1 - (intOf i).toNat)
  case atStart => exact ⟨0, none, 0, by omega, rfl, rfl, Own.nil_ _ _, Below.refl _ _⟩
  case round =>
    obtain ⟨k, A', c', hk, rfl, rfl, hown, hb⟩ := hrel
    have hln := hr.len
    by_cases hlt : 2 * k + 1 < n
    · obtain ⟨bb, off, rfl, hc⟩ := (hr.below hb).at_ (k := 2 * k) (by omega)
      obtain ⟨bb', off', e, hc'⟩ := (hr.below hb).at_ (k := 2 * k + 1) (by omega)
      injection e with e
      injection e with e1 e2
      subst e1 e2
      have h0 := at8_lo l (2 * k)
      have h1 := at8_lo l (2 * k + 1)
      have h2 := halvesB_at l Hh.out (2 * k)
      have h3 := halvesB_at l Hh.out (2 * k + 1)
      have hkl : 2 * k + 1 < l.length := by omega
      clear hln
      have hor := or_halves (at8 l (2 * k)) (at8 l (2 * k + 1)) h0 h2 h1 h3
      have hown' := Lib.hid hown
      have hw1 : IntKind.i64.wrap (2 * (k : Int)) = 2 * (k : Int) := IntWalk.i64_in _ (by omega)
      have hw2 : (2 * (k : Int)).toNat = 2 * k := by omega
      have hw4 : (2 * (k : Int) + 1).toNat = 2 * k + 1 := by omega
      have hw5 : (0 : Int) ≤ 2 * (k : Int) := by omega
      have hw6 : (2 * (k : Int)) < (n : Int) := by omega
      have hw7 : (0 : Int) ≤ 2 * (k : Int) + 1 := by omega
      have hw8 : (2 * (k : Int) + 1) < (n : Int) := by omega
      have hw3 : IntKind.u8.wrap (at8 l (2 * k) * 16) = at8 l (2 * k) * 16 := IntWalk.u8_in _ (by omega)
      go_wp2
      go_region_law (refine step_app rfl _ _ rfl rfl ((hown'.out).drew.alloc _) rfl (Rd.lit1 _ _ (by omega)) (by omega) (by simp; have := hb.size; omega) ?_; intro A2 c2 w2 hown2 hg2)
      all_goals
        have hb2 := ((hb.alloc hb.size (.cells #[.int .u8 (at8 l (2 * k) * 16 + at8 l (2 * k + 1))] 5)).drew).grown hg2 (by simp; have := hb.size; omega) hown.lo
        have hj := Lib.hid (joinB_take8 l k hkl Hh.out)
        clear hown hb hor hw1 hw2 hw3 hw4 hc hc' hown' hg2
        go_wp2
        go_roundw
        case rel => exact ⟨k + 1, A2, c2, by omega, by go_num, rfl, by rw [hj.out]; exact hown2, hb2⟩
        case measure => simp [intOf]; omega
    · have hkn : k = n / 2 := by omega
      have hend := Lib.hid (joinB_all l k (by omega) (by omega))
      have Hk := Lib.hid hkn
      clear hln hkn
      go_wp2
      go_ret
      exact ⟨A', c', ret_slice Hk.out, by rw [hend.out] at hown; rw [← Hk.out]; exact hown, hb⟩

end Go.Proofs.Ytliccofjlheceaa
namespace Go.Proofs.Ytliccofjlheceaa
open Go.RowKit
/-- What trie.Get answers. -/
structure GotE where
  v : List UInt8
  has : Bool
  miss : Option (List UInt8)
  e : Int
def leafN (p v : List UInt8) : Nd := .mk 1 p false v [] []
def alongN (p : List UInt8) (t : Nd) : Nd := if p = [] then t else .mk 2 p false [] [t] []
end Go.Proofs.Ytliccofjlheceaa
namespace Go.Proofs.Ytliccofjlheceaa
open Go.RowKit
/-- The place of an element. -/
theorem p_atL {P : Program} {E : Env} {d : Option Nat} {ty : TypeId} {p : String} {af : Array Edge} {g : Option (Nat × Bool)} {x y : Operand} {t : TypeId} {kd : IntKind} {k : Value → Prop} {b o q n c i : Nat} {e : TypeId} {s : Nat} {j : Int} (hT : slOf P t = some (e, s)) (hx : val E x = .slice (some ⟨b, o, none⟩) n c) (hy : val E y = .int kd j) (hj : j = (i : Int)) (hi : i < n) (hq : o + i * s = q)
    (h : k (.pointer (some ⟨b, q, none⟩))) : VPure P E { dst := d, op := .indexAddr t x y, type := ty, pos := p, after := af, guard := g } k :=
  p_at hT hx hy hj hi (by rw [Addr.add_lit, hq]; exact h)
/-- A branch that is still made: its block, that of its kids. -/
def BrS (W : World) (gs : List (Option Nat)) (gb gk ck : Nat) (has : Bool) (v : List UInt8) (ks : List Nd) : Prop :=
  ∃ Av cv xs rest, Blk W gb 38 [.int .i64 3, .slice none 0 0, .bool has, .slice Av v.length cv, .slice (some ⟨gk, 0, none⟩) 16 ck, .slice none 0 0] ∧ RdD W (Fd W gs) (dB v) (.slice Av v.length cv) ∧ Blk W gk 38 (xs ++ rest) ∧ RdL W (Fd W gs) (dNs ks) xs ∧ ks.length = 16 ∧ gb ≠ gk ∧ some gb ∈ gs ∧ some gk ∈ gs ∧ 16 ≤ ck
def holdK (has : Bool) (v : List UInt8) (ks : List Nd) (p val : List UInt8) : Bool × List UInt8 × List Nd :=
  match p with
  | [] => (true, val, ks)
  | x :: q => (has, v, ks.set x.toNat (leafN q val))
theorem dNs_set : ∀ {ks : List Nd} {i : Nat} (k : Nd), i < ks.length → dNs (ks.set i k) = (dNs ks).take (i * 6) ++ dN k ++ (dNs ks).drop (i * 6 + 6)
  | t :: ks, 0, k, _ => by
    rw [List.set_cons_zero, dNs, dNs, Nat.zero_mul, List.take_zero, List.nil_append, Nat.zero_add, List.drop_left' (dN_len t)]
  | t :: ks, i + 1, k, h => by
    rw [List.set_cons_succ, dNs, dNs, dNs_set k (by simpa using h), show (i + 1) * 6 = (dN t).length + i * 6 by rw [dN_len]; omega, List.take_length_add_append, show (dN t).length + i * 6 + 6 = (dN t).length + (i * 6 + 6) by omega, List.drop_length_add_append]
    simp only [List.append_assoc]
theorem halves_hd {x : UInt8} {q : List UInt8} (h : halvesB (x :: q) = true) : x.toNat < 16 := by
  unfold halvesB at h
  have := List.all_eq_true.1 h x (by simp)
  have := of_decide_eq_true this
  rw [UInt8.le_iff_toNat_le] at this
  have e15 : (15 : UInt8).toNat = 15 := rfl
  omega
end Go.Proofs.Ytliccofjlheceaa
namespace Go.Proofs.Ytliccofjlheceaa
open Go.RowKit
def zNs (n : Nat) : List Value := (List.replicate n zN).flatten
def noneNs (n : Nat) : List Nd := List.replicate n noneN
theorem RdL.znone {W : World} {F : Nat → Prop} : RdL W F (dN noneN) zN :=
  RdL.ofnode (t := noneN) (Ap := none) (cp := 0) (Av := none) (cv := 0) (Ak := none) (ck := 0) (Ah := none) (ch := 0) (RdD.nil_ _ _) (RdD.nil_ _ _) (RdD.nil_ _ _) (RdD.nil_ _ _)
theorem RdL.znones {W : World} {F : Nat → Prop} : ∀ n, RdL W F (dNs (noneNs n)) (zNs n)
  | 0 => RdL.nil_
  | n + 1 => by
    show RdL W F (dN noneN ++ dNs (noneNs n)) (zN ++ zNs n)
    exact RdL.znone.app (RdL.znones n)
set_option maxRecDepth 100000 in
theorem made16 : (madeCells (Value.agg #[.int .i64 0, .slice none 0 0, .bool false, .slice none 0 0, .slice none 0 0, .slice none 0 0]).cells (16 * 6)).toList = zNs 16 := by kernel_rfl
set_option maxRecDepth 100000 in
/-- make([]Node, 16) -/
theorem v_mkN {E : Env} {d : Option Nat} {ty : TypeId} {p : String} {af : Array Edge} {gd : Option (Nat × Bool)} {l c : Operand} {kw : Value → World → Prop} {w : World} (hl : val E l = .int .i64 ((16 : Nat) : Int)) (hc : val E c = .int .i64 ((16 : Nat) : Int))
    (h : ∀ g w', g = w.heap.size → Blk w' g 38 (zNs 16) → Below g w w' → kw (.slice (some ⟨g, 0, none⟩) 16 16) w') :
    VVal Try.prog E { dst := d, op := .makeSlice 36 l c, type := ty, pos := p, after := af, guard := gd } w kw := by
  obtain ⟨i, hi0, hz0, hz1, hz2⟩ := info_parts inf_nd
  obtain ⟨w', hrun, hrow, hg⟩ := run_make_full (P := Try.prog) (w := w) w.heap.size 36 38 i _ 6 Try.underlying36 hi0 hz0 hz1 .i64 .i64 16 (by rw [hz2]; decide) (by unfold maxLen; decide) (Nat.le_refl _)
  refine vv (v := .slice (some ⟨w.heap.size, 0, none⟩) 16 16) (w' := w') ?_ (h _ _ rfl ?_ ⟨hg.os, hg.tape, hg.output, hg.size, fun b hb => hg.block b hb (by simp)⟩)
  · have hrun' : (Instr.makeSlice 36 (.int .i64 (16 : Int)) (.int .i64 (16 : Int))).run Try.prog w = _ := hrun
    simp [execOp, hl, hc, hrun']
  · rcases hrow.2 with ⟨_, h0⟩ | ⟨g', cap, cur, hv, hbg, hh, hnc, _, hcs, htk⟩
    · exact absurd h0 (by decide)
    · injection hv with hA _ hc'
      injection hA with hA
      injection hA with hA
      subst hA; subst hc'
      have e : cur.toList = zNs 16 := by
        rw [← made16, ← htk]
        refine (List.take_of_length_le ?_).symm
        simp at hcs ⊢
        omega
      rw [← e]
      unfold Blk
      rw [hh]
theorem BrS.drew {W : World} {gs : List (Option Nat)} {gb gk ck : Nat} {has : Bool} {v : List UInt8} {ks : List Nd} (h : BrS W gs gb gk ck has v ks) : BrS W.drew gs gb gk ck has v ks := by
  obtain ⟨Av, cv, xs, rest, h1, h2, h3, h4, h5⟩ := h
  exact ⟨Av, cv, xs, rest, h1, h2.up Stp.drew, h3, h4.up Stp.drew, h5⟩
theorem BrS.node {W : World} {gs gs' : List (Option Nat)} {gb gk ck : Nat} {has : Bool} {v : List UInt8} {ks : List Nd} (h : BrS W gs gb gk ck has v ks) (s : Stp W gs W gs') (hn : some gk ∉ gs') :
    ∃ Av cv, Blk W gb 38 (ncs (.mk 3 [] has v ks []) none 0 Av cv (some ⟨gk, 0, none⟩) ck none 0) ∧ RdL W (Fd W gs') (dN (.mk 3 [] has v ks [])) (ncs (.mk 3 [] has v ks []) none 0 Av cv (some ⟨gk, 0, none⟩) ck none 0) := by
  obtain ⟨Av, cv, xs, rest, hB, hV, hK, hX, h16, hne, hgb, hgk, hck⟩ := h
  refine ⟨Av, cv, ?_, RdL.ofnode (t := .mk 3 [] has v ks []) (RdD.nil_ _ _) (hV.up s) ?_ (RdD.nil_ _ _)⟩
  · show Blk W gb 38 [.int .i64 3, .slice none 0 0, .bool has, .slice Av v.length cv, .slice (some ⟨gk, 0, none⟩) ks.length ck, .slice none 0 0]
    rw [h16]; exact hB
  · refine RdD.sl_iff.2 ⟨_, ck, xs, rfl, by show ks.length ≤ ck; omega, dNs_len _, hX.up s, fun _ => ⟨gk, 0, rfl, ⟨hK.lt, hn⟩, fun j x hx => ?_⟩⟩
    rw [Nat.zero_add]
    refine hK.at_ ?_
    rw [List.getElem?_append_left (List.getElem?_eq_some_iff.1 hx).1]; exact hx
def forkN (t : Nd) (p val : List UInt8) : Nd :=
  let k := commonB t.path p
  let b := if t.kind = 1 then holdK false [] (noneNs 16) (t.path.drop k) t.val else (false, [], (noneNs 16).set (t.path.getD k 0).toNat (alongN (t.path.drop (k + 1)) (t.kids.headD noneN)))
  let b2 := holdK b.1 b.2.1 b.2.2 (p.drop k) val
  alongN (p.take k) (.mk 3 [] b2.1 b2.2.1 b2.2.2 [])
end Go.Proofs.Ytliccofjlheceaa
namespace Go.Proofs.Ytliccofjlheceaa
open Go.RowKit
mutual
/-- What trie.put comes to: the node, and the halves to a stub that is in the way. -/
def putP : Nd → List UInt8 → List UInt8 → Nd × Option (List UInt8)
  | .mk k p has v ks h, q, val =>
    if k = 4 then (.mk k p has v ks h, some [])
    else if k = 0 then (leafN q val, none)
    else if k = 1 then (if p = q then (leafN q val, none) else (forkN (.mk k p has v ks h) q val, none))
    else if k = 2 then (if p <+: q then (let r := putsP ks 0 (q.drop p.length) val; (.mk k p has v [r.1] h, r.2.map (p ++ ·))) else (forkN (.mk k p has v ks h) q val, none))
    else match q with
      | [] => (.mk k p true val ks h, none)
      | x :: q' => (let r := putsP ks x.toNat q' val; (.mk k p has v (ks.set x.toNat r.1) h, r.2.map (x :: ·)))
def putsP : List Nd → Nat → List UInt8 → List UInt8 → Nd × Option (List UInt8)
  | [], _, _, _ => (noneN, none)
  | t :: _, 0, q, val => putP t q val
  | _ :: ts, i + 1, q, val => putsP ts i q val
end
theorem putsP_at : ∀ {ks : List Nd} {i : Nat} {k : Nd} (q val : List UInt8), ks[i]? = some k → putsP ks i q val = putP k q val
  | t :: ks, 0, k, q, val, h => by simp at h; subst h; rw [putsP]
  | t :: ks, i + 1, k, q, val, h => by rw [putsP]; exact putsP_at q val (by simpa using h)
theorem putP_way0 {p q val : List UInt8} {k : Nd} (h : ¬ p <+: q) : putP (.mk 2 p false [] [k] []) q val = (forkN (.mk 2 p false [] [k] []) q val, none) := by
  conv => lhs; rw [putP.eq_def]
  simp [h]
theorem putP_way {p q val : List UInt8} {k : Nd} (h : p <+: q) : putP (.mk 2 p false [] [k] []) q val = (.mk 2 p false [] [(putP k (q.drop p.length) val).1] [], (putP k (q.drop p.length) val).2.map (p ++ ·)) := by
  have e := putsP_at (ks := [k]) (i := 0) (k := k) (q.drop p.length) val rfl
  conv => lhs; rw [putP.eq_def]
  simp [h, e]
theorem putP_br0 {has : Bool} {v val : List UInt8} {ks : List Nd} : putP (.mk 3 [] has v ks []) [] val = (.mk 3 [] true val ks [], none) := by
  conv => lhs; rw [putP.eq_def]
  simp
theorem putP_br {has : Bool} {v val : List UInt8} {ks : List Nd} {x : UInt8} {q : List UInt8} {k : Nd} (h : ks[x.toNat]? = some k) : putP (.mk 3 [] has v ks []) (x :: q) val = (.mk 3 [] has v (ks.set x.toNat (putP k q val).1) [], (putP k q val).2.map (x :: ·)) := by
  have e := putsP_at q val h
  conv => lhs; rw [putP.eq_def]
  simp [e]
theorem putP_none {q val : List UInt8} : putP noneN q val = (leafN q val, none) := by
  unfold noneN; conv => lhs; rw [putP.eq_def]
  simp
theorem putP_stub {h q val : List UInt8} : putP (.mk 4 [] false [] [] h) q val = (.mk 4 [] false [] [] h, some []) := by
  conv => lhs; rw [putP.eq_def]
  simp
theorem putP_leaf {p v q val : List UInt8} : putP (.mk 1 p false v [] []) q val = (if p = q then leafN q val else forkN (.mk 1 p false v [] []) q val, none) := by
  conv => lhs; rw [putP.eq_def]
  by_cases h : p = q <;> simp [h]
theorem missOk.to {W W' : World} {F F' : Nat → Prop} {way : List UInt8} {m : Option (List UInt8)} {A : Option Addr} {n c : Nat} (h : missOk W F way m A n c) (hs : ∀ b, F b → W'.heap[b]? = W.heap[b]? ∧ F' b) : missOk W' F' way m A n c := by
  unfold missOk at *
  cases m with
  | none => exact h
  | some r => exact ⟨h.1, h.2.to hs⟩
theorem missOk.upz {W W' : World} {gs gs' : List (Option Nat)} {base : Nat} {way : List UInt8} {m : Option (List UInt8)} {A : Option Addr} {n c : Nat} (h : missOk W (Fz base W gs) way m A n c) (s : Stp W gs W' gs') : missOk W' (Fz base W' gs') way m A n c := by
  unfold missOk at *
  cases m with
  | none => exact h
  | some r => exact ⟨h.1, h.2.upz s⟩
theorem missOk.zfr {W W' : World} {gs : List (Option Nat)} {base : Nat} {way : List UInt8} {m : Option (List UInt8)} {A : Option Addr} {n c : Nat} (h : missOk W' (Fr W W') way m A n c) (hb : base ≤ W.heap.size) (hg : ∀ b, some b ∈ gs → b < W.heap.size) : missOk W' (Fz base W' gs) way m A n c := by
  unfold missOk at *
  cases m with
  | none => exact h
  | some r => exact ⟨h.1, h.2.zfr hb hg⟩
theorem At.stp {w W W' : World} {gs : List (Option Nat)} (_ : At w W gs) (hb : Below W.heap.size W W') : Stp W gs W' gs := Stp.below hb
end Go.Proofs.Ytliccofjlheceaa
namespace Go.Proofs.Ytliccofjlheceaa
open Go.RowKit
def behindN (p : List UInt8) (t : Nd) : Nd := if t.kind = 1 ∨ t.kind = 2 then .mk t.kind (p ++ t.path) t.has t.val t.kids t.hash else if t.kind = 0 then t else alongN p t
end Go.Proofs.Ytliccofjlheceaa
namespace Go.Proofs.Ytliccofjlheceaa
open Go.RowKit
/-- Which kid is the only one: none where there is more than one thing. -/
def scanK (has : Bool) : List Nd → Nat → Option Nat → Option (Option Nat)
  | [], _, o => some o
  | k :: ks, i, o => if k.kind = 0 then scanK has ks (i + 1) o else if o.isSome || has then none else scanK has ks (i + 1) (some i)
def settleP (t : Nd) : Nd × Option (List UInt8) :=
  match scanK t.has t.kids 0 none with
  | none => (t, none)
  | some none => (leafN [] t.val, none)
  | some (some i) => if (t.kids.getD i noneN).kind = 4 then (t, some [UInt8.ofNat i]) else (behindN [UInt8.ofNat i] (t.kids.getD i noneN), none)
end Go.Proofs.Ytliccofjlheceaa
namespace Go.Proofs.Ytliccofjlheceaa
open Go.RowKit
mutual
/-- What trie.drop comes to. -/
def dropP : Nd → List UInt8 → Nd × Option (List UInt8)
  | .mk k p has v ks h, q =>
    if k = 1 then (noneN, none)
    else if k = 2 then (let r := dropsP ks 0 (q.drop p.length); (behindN p r.1, r.2.map (p ++ ·)))
    else match q with
      | [] => settleP (.mk k p false [] ks h)
      | x :: q' => (let r := dropsP ks x.toNat q'; if r.2.isSome then (.mk k p has v ks h, r.2.map (x :: ·)) else settleP (.mk k p has v (ks.set x.toNat r.1) h))
def dropsP : List Nd → Nat → List UInt8 → Nd × Option (List UInt8)
  | [], _, _ => (noneN, none)
  | t :: _, 0, q => dropP t q
  | _ :: ts, i + 1, q => dropsP ts i q
end
theorem dropsP_at : ∀ {ks : List Nd} {i : Nat} {k : Nd} (q : List UInt8), ks[i]? = some k → dropsP ks i q = dropP k q
  | t :: ks, 0, k, q, h => by simp at h; subst h; rw [dropsP]
  | t :: ks, i + 1, k, q, h => by rw [dropsP]; exact dropsP_at q (by simpa using h)
theorem dropP_leaf {p v q : List UInt8} : dropP (.mk 1 p false v [] []) q = (noneN, none) := by
  conv => lhs; rw [dropP.eq_def]
  simp
theorem dropP_way {p q : List UInt8} {k : Nd} : dropP (.mk 2 p false [] [k] []) q = (behindN p (dropP k (q.drop p.length)).1, (dropP k (q.drop p.length)).2.map (p ++ ·)) := by
  have e := dropsP_at (ks := [k]) (i := 0) (k := k) (q.drop p.length) rfl
  conv => lhs; rw [dropP.eq_def]
  simp [e]
theorem dropP_br0 {has : Bool} {v : List UInt8} {ks : List Nd} : dropP (.mk 3 [] has v ks []) [] = settleP (.mk 3 [] false [] ks []) := by
  conv => lhs; rw [dropP.eq_def]
  simp
theorem dropP_br {has : Bool} {v : List UInt8} {ks : List Nd} {x : UInt8} {q : List UInt8} {k : Nd} (h : ks[x.toNat]? = some k) : dropP (.mk 3 [] has v ks []) (x :: q) = (if (dropP k q).2.isSome then (.mk 3 [] has v ks [], (dropP k q).2.map (x :: ·)) else settleP (.mk 3 [] has v (ks.set x.toNat (dropP k q).1) [])) := by
  have e := dropsP_at q h
  conv => lhs; rw [dropP.eq_def]
  simp [e]
theorem scan_lt {has : Bool} : ∀ {ks : List Nd} {i j : Nat} {o : Option Nat}, scanK has ks i o = some (some j) → (o = some j) ∨ (i ≤ j ∧ j < i + ks.length)
  | [], i, j, o, h => by unfold scanK at h; injection h with h; exact .inl h
  | k :: ks, i, j, o, h => by
    unfold scanK at h
    rw [List.length_cons]
    split at h
    · rcases scan_lt h with h | h
      · exact .inl h
      · right; omega
    · split at h
      · cases h
      · rcases scan_lt h with h | h
        · injection h with h; right; omega
        · right; omega
theorem getP_none {q : List UInt8} : getP noneN q = ⟨[], false, none⟩ := by unfold noneN getP; simp
theorem getP_stub {h q : List UInt8} : getP (.mk 4 [] false [] [] h) q = ⟨[], false, some []⟩ := by unfold getP; simp
end Go.Proofs.Ytliccofjlheceaa
namespace Go.Proofs.Ytliccofjlheceaa
open Go.RowKit
/-- A way to a stub, or nil, as a datum. -/
def missD (way : List UInt8) : Option (List UInt8) → D
  | none => .v (.slice none 0 0)
  | some r => dB (way ++ r)
theorem missOk.mk {W : World} {F : Nat → Prop} {way : List UInt8} {m : Option (List UInt8)} {A : Option Addr} {n c : Nat} (h : RdD W F (missD way m) (.slice A n c)) (h0 : m.isSome = true → A ≠ none) : missOk W F way m A n c := by
  cases m with
  | none => have := RdD.val.1 h; injection this with e1 e2 e3; exact ⟨e1, e2, e3⟩
  | some r => exact ⟨h0 rfl, h⟩
theorem St.kid {w W : World} {gs : List (Option Nat)} {L : Lc} {R : List Row} {fs : List Fact} (M : St w gs W L R fs) {ks : List Nd} {A : Option Addr} {n c i : Nat} {k : Nd} (h : RdD W (Fd W (own L R gs)) (dKs ks) (.slice A n c)) (hk : ks[i]? = some k) :
    ∃ b off es, A = some ⟨b, off, none⟩ ∧ es.length = 6 ∧ St w gs W L R (.loc ((⟨b, off, none⟩ : Addr).add (i * 6)) es :: .dat false (dN k) es :: fs) := by
  obtain ⟨b, off, es, e, hF, hes, hel, hc⟩ := h.kid hk
  exact ⟨b, off, es, e, hel, (M.addL hes).addC (by rw [block_of_add]; exact hF) hc⟩
end Go.Proofs.Ytliccofjlheceaa
namespace Go.Proofs.Ytliccofjlheceaa
open Go.RowKit
structure DropR where
  t : Nd
  has : Bool
  miss : Option (List UInt8)
  e : Int
end Go.Proofs.Ytliccofjlheceaa
namespace Go.Proofs.Ytliccofjlheceaa
theorem halvesB_take' {q : List UInt8} (n : Nat) (h : halvesB q = true) : halvesB (q.take n) = true := by
  unfold halvesB at *
  rw [List.all_eq_true] at *
  exact fun x hx => h x (List.mem_of_mem_take hx)
theorem halvesB_app {p q : List UInt8} : halvesB (p ++ q) = (halvesB p && halvesB q) := by unfold halvesB; rw [List.all_append]
theorem endsP_le {d : Nat} {even : Bool} (h : endsP d even = true) : d ≤ 400 := by
  unfold endsP at h
  rw [Bool.and_eq_true, decide_eq_true_eq] at h
  exact h.1
theorem Val.le {even : Bool} {t : Nd} {d : Nat} (h : Val even t d) : d ≤ 400 := by cases h <;> assumption
theorem common_split : ∀ (p q : List UInt8), p.take (commonB p q) = q.take (commonB p q) ∧ ((p.drop (commonB p q) = [] ∨ q.drop (commonB p q) = []) ∨ ∃ a b p' q', a ≠ b ∧ p.drop (commonB p q) = a :: p' ∧ q.drop (commonB p q) = b :: q')
  | [], q => by simp [commonB]
  | _ :: _, [] => by simp [commonB]
  | a :: p, b :: q => by
    unfold commonB
    by_cases h : a = b
    · rw [if_pos h]
      obtain ⟨h1, h2⟩ := common_split p q
      refine ⟨by rw [List.take_succ_cons, List.take_succ_cons, h, h1], ?_⟩
      rw [List.drop_succ_cons, List.drop_succ_cons]
      exact h2
    · rw [if_neg h]
      exact ⟨by simp, .inr ⟨a, b, p, q, h, rfl, rfl⟩⟩
theorem manyN_set {ks : List Nd} {i : Nat} {k' : Nd} (h : k'.kind ≠ 0) (hi : i < ks.length) : manyN ks ≤ manyN (ks.set i k') ∧ 1 ≤ manyN (ks.set i k') ∧ (((ks.getD i noneN).kind = 0) → manyN (ks.set i k') = manyN ks + 1) := by
  induction ks generalizing i with
  | nil => simp at hi
  | cons t ks ih =>
    cases i with
    | zero =>
      rw [List.set_cons_zero]
      have e1 : manyN (k' :: ks) = manyN ks + 1 := by unfold manyN; rw [List.filter_cons, if_pos (by simp [h]), List.length_cons]
      simp only [List.getD_cons_zero]
      by_cases ht : t.kind = 0
      · have e2 : manyN (t :: ks) = manyN ks := by unfold manyN; rw [List.filter_cons, if_neg (by simp [ht])]
        exact ⟨by omega, by omega, fun _ => by omega⟩
      · have e2 : manyN (t :: ks) = manyN ks + 1 := by unfold manyN; rw [List.filter_cons, if_pos (by simp [ht]), List.length_cons]
        exact ⟨by omega, by omega, fun h0 => absurd h0 ht⟩
    | succ i =>
      obtain ⟨h1, h2, h3⟩ := ih (i := i) (by simpa using hi)
      unfold manyN at *
      rw [List.set_cons_succ, List.filter_cons, List.filter_cons]
      simp only [List.getD_cons_succ]
      split
      · simp only [List.length_cons]; exact ⟨by omega, by omega, fun h0 => by rw [h3 h0]⟩
      · exact ⟨h1, h2, h3⟩
theorem noneNs_len (n : Nat) : (noneNs n).length = n := by
  induction n with
  | zero => rfl
  | succ n ih => simp [noneNs] at *
theorem noneNs_mem {n : Nat} {k : Nd} (h : k ∈ noneNs n) : k = noneN := by
  unfold noneNs at h
  exact (List.mem_replicate.1 h).2
theorem along_kind (p : List UInt8) (t : Nd) (h : t.kind ≠ 0) : (alongN p t).kind ≠ 0 := by
  unfold alongN; split
  · exact h
  · exact (show (2 : Int) ≠ 0 by decide)
theorem put_kind0 {even : Bool} {t : Nd} {d : Nat} (h : Val even t d) (q val : List UInt8) : (putP t q val).1.kind ≠ 0 ∧ (t.kind = 3 → (putP t q val).1.kind = 3) := by
  have hf : ∀ t : Nd, (forkN t q val).kind ≠ 0 := fun t => by unfold forkN; exact along_kind _ _ (show (3 : Int) ≠ 0 by decide)
  cases h with
  | none => rw [putP_none]; exact ⟨(show (1 : Int) ≠ 0 by decide), fun h => absurd (show (0 : Int) = 3 from h) (by decide)⟩
  | leaf d p v =>
    rw [putP_leaf]
    refine ⟨?_, fun h => absurd (show (1 : Int) = 3 from h) (by decide)⟩
    split
    · exact (show (1 : Int) ≠ 0 by decide)
    · exact hf _
  | stub d h => rw [putP_stub]; exact ⟨(show (4 : Int) ≠ 0 by decide), fun h => absurd (show (4 : Int) = 3 from h) (by decide)⟩
  | way d p k =>
    refine ⟨?_, fun h => absurd (show (2 : Int) = 3 from h) (by decide)⟩
    by_cases hp : p <+: q
    · rw [putP_way hp]; exact (show (2 : Int) ≠ 0 by decide)
    · rw [putP_way0 hp]; exact hf _
  | branch d has v ks hd hv hv0 he h16 hr hm =>
    match q with
    | [] => rw [putP_br0]; exact ⟨(show (3 : Int) ≠ 0 by decide), fun _ => rfl⟩
    | x :: q' =>
      by_cases hx : x.toNat < ks.length
      · rw [putP_br (List.getElem?_eq_getElem hx)]; exact ⟨(show (3 : Int) ≠ 0 by decide), fun _ => rfl⟩
      · have e : (putP (.mk 3 [] has v ks []) (x :: q') val).1.kind = 3 := by
          conv => lhs; rw [putP.eq_def]
          simp [Nd.kind]
        rw [e]; exact ⟨by decide, fun _ => rfl⟩
/-- A branch that holds one more: what is held. -/
theorem hold_val {even : Bool} {d : Nat} {has : Bool} {v : List UInt8} {ks : List Nd} {p val : List UInt8} (h16 : ks.length = 16) (hr : ∀ k ∈ ks, Val even k (d + 1)) (hd : d + 1 ≤ 400) (hhas : has = true → endsP d even = true) (hv0 : has = true ∨ v = []) (hv : v.length ≤ 4000)
    (hp : halvesB p = true) (hpe : endsP (d + p.length) even = true) (hval : val.length ≤ 4000) :
    (holdK has v ks p val).2.2.length = 16 ∧ (∀ k ∈ (holdK has v ks p val).2.2, Val even k (d + 1)) ∧ ((holdK has v ks p val).1 = true → endsP d even = true) ∧ ((holdK has v ks p val).1 = true ∨ (holdK has v ks p val).2.1 = []) ∧ (holdK has v ks p val).2.1.length ≤ 4000 := by
  cases p with
  | nil => exact ⟨h16, hr, fun _ => by simpa using hpe, .inl rfl, hval⟩
  | cons x q =>
    unfold holdK
    refine ⟨by simp [h16], fun k hk => ?_, hhas, hv0, hv⟩
    rcases List.mem_or_eq_of_mem_set hk with hk | rfl
    · exact hr k hk
    · refine .leaf _ _ _ hd ?_ hval (by rw [List.length_cons] at hpe; rw [show d + 1 + q.length = d + (q.length + 1) by omega]; exact hpe)
      have := halvesB_drop (n := 1) hp
      simpa using this
theorem along_val {even : Bool} {d : Nat} {p : List UInt8} {t : Nd} (hd : d ≤ 400) (hp : halvesB p = true) (hk : t.kind = 3 ∨ t.kind = 4) (hr : Val even t (d + p.length)) : Val even (alongN p t) d := by
  unfold alongN
  split
  · rename_i h; rw [h] at hr; exact hr
  · rename_i h; exact .way d p t hd hp h hk hr
theorem fork_val {even : Bool} {d : Nat} {t : Nd} {q val : List UInt8} (ht : Val even t d) (hf : (∃ p v, t = .mk 1 p false v [] [] ∧ p ≠ q) ∨ ∃ p k, t = .mk 2 p false [] [k] [] ∧ ¬ p <+: q)
    (hq : halvesB q = true) (hqe : endsP (d + q.length) even = true) (hval : val.length ≤ 4000) : Val even (forkN t q val) d := by
  have hd := ht.le
  have hle := endsP_le hqe
  obtain ⟨K, hK⟩ : ∃ K, K = commonB t.path q := ⟨_, rfl⟩
  obtain ⟨hs1, hs2⟩ := common_split t.path q
  rw [← hK] at hs1 hs2
  have hKl := commonB_le t.path q
  rw [← hK] at hKl
  have hqd : halvesB (q.drop K) = true := halvesB_drop hq
  have hqd' : endsP (d + K + (q.drop K).length) even = true := by rw [List.length_drop, show d + K + (q.length - K) = d + q.length by omega]; exact hqe
  have none16 : ∀ e, e ≤ 400 → ∀ k ∈ noneNs 16, Val even k e := fun e he k hk => by rw [noneNs_mem hk]; exact .none e he
  have hnd : ∀ i, ((noneNs 16).getD i noneN).kind = 0 := fun i => by
    rw [List.getD_eq_getElem?_getD]
    cases h : (noneNs 16)[i]? with
    | none => rfl
    | some k => rw [noneNs_mem (List.mem_of_getElem? h)]; rfl
  have hn16 := noneNs_len 16
  unfold forkN
  rw [← hK]
  refine along_val hd (halvesB_take' _ hq) (.inl rfl) ?_
  rw [show (q.take K).length = K by rw [List.length_take]; omega]
  rcases hf with ⟨p, v, rfl, hne⟩ | ⟨p, k, rfl, hne⟩
  · cases ht with
    | leaf _ _ _ _ hp hv he =>
    simp only [Nd.path, Nd.kind, Nd.val, if_pos] at *
    have hle2 := endsP_le he
    have hd1 : d + K + 1 ≤ 400 := by
      rcases hs2 with (h | h) | ⟨a, b, p', q', _, h1, h2⟩
      · have h3 : K = p.length := by have := congrArg List.length h; rw [List.length_drop] at this; simp at this; omega
        have h4 : K ≠ q.length := fun e => hne (by
          rw [List.take_of_length_le (by omega), List.take_of_length_le (by omega)] at hs1; exact hs1)
        omega
      · have h3 : K = q.length := by have := congrArg List.length h; rw [List.length_drop] at this; simp at this; omega
        have h4 : K ≠ p.length := fun e => hne (by
          rw [List.take_of_length_le (by omega), List.take_of_length_le (by omega)] at hs1; exact hs1)
        omega
      · have := congrArg List.length h1; rw [List.length_drop, List.length_cons] at this; omega
    have hpd' : endsP (d + K + (p.drop K).length) even = true := by rw [List.length_drop, show d + K + (p.length - K) = d + p.length by omega]; exact he
    obtain ⟨b1, b2, b3, b4, b5⟩ := hold_val (even := even) (d := d + K) (has := false) (v := []) (ks := noneNs 16) (p := p.drop K) (val := v) hn16 (none16 _ hd1) hd1 (fun h => by cases h) (.inr rfl) (by simp) (halvesB_drop hp) hpd' hv
    obtain ⟨c1, c2, c3, c4, c5⟩ := hold_val (p := q.drop K) (val := val) b1 b2 hd1 b3 b4 b5 hqd hqd' hval
    refine .branch _ _ _ _ (by omega) c5 c4 c3 c1 c2 ?_
    rcases hs2 with (h | h) | ⟨a, b, p', q', hab, h1, h2⟩
    · cases hqk : q.drop K with
      | nil =>
        exfalso
        have h3 : K = p.length := by have := congrArg List.length h; rw [List.length_drop] at this; simp at this; omega
        have h4 : K = q.length := by have := congrArg List.length hqk; rw [List.length_drop] at this; simp at this; omega
        exact hne (by rw [List.take_of_length_le (by omega), List.take_of_length_le (by omega)] at hs1; exact hs1)
      | cons x q' =>
        rw [h]
        have hx := halves_hd (hqk ▸ hqd)
        have := (manyN_set (ks := noneNs 16) (i := x.toNat) (k' := leafN q' val) (by exact (show (1 : Int) ≠ 0 by decide)) (by omega)).2.1
        simp only [holdK, if_pos]; omega
    · cases hpk : p.drop K with
      | nil =>
        exfalso
        have h3 : K = q.length := by have := congrArg List.length h; rw [List.length_drop] at this; simp at this; omega
        have h4 : K = p.length := by have := congrArg List.length hpk; rw [List.length_drop] at this; simp at this; omega
        exact hne (by rw [List.take_of_length_le (by omega), List.take_of_length_le (by omega)] at hs1; exact hs1)
      | cons x p' =>
        rw [h]
        have hx := halves_hd (hpk ▸ halvesB_drop hp)
        have := (manyN_set (ks := noneNs 16) (i := x.toNat) (k' := leafN p' v) (by exact (show (1 : Int) ≠ 0 by decide)) (by omega)).2.1
        simp only [holdK, if_pos]; omega
    · rw [h1, h2]
      have hx := halves_hd (h1 ▸ halvesB_drop hp)
      have hy := halves_hd (h2 ▸ hqd)
      have m1 := (manyN_set (ks := noneNs 16) (i := a.toNat) (k' := leafN p' v) (by exact (show (1 : Int) ≠ 0 by decide)) (by omega)).2.1
      have m2 := (manyN_set (ks := (noneNs 16).set a.toNat (leafN p' v)) (i := b.toNat) (k' := leafN q' val) (by exact (show (1 : Int) ≠ 0 by decide)) (by rw [List.length_set]; omega)).2.2 (by
        rw [List.getD_eq_getElem?_getD, List.getElem?_set_ne (fun e => hab (UInt8.toNat_inj.1 e)), ← List.getD_eq_getElem?_getD]; exact hnd _)
      simp only [holdK, Bool.false_eq_true, if_false]; omega
  · cases ht with
    | way _ _ _ _ hp h0 hk hr =>
    simp only [Nd.path, Nd.kind, Nd.val, Nd.kids, List.headD_cons] at *
    simp only [Int.reduceEq, if_false]
    have hrl := hr.le
    have hKp : K < p.length := by
      rcases Nat.lt_or_ge K p.length with h | h
      · exact h
      · exfalso
        apply hne
        rw [List.take_of_length_le (by omega)] at hs1
        exact hs1 ▸ List.take_prefix _ _
    have hd1 : d + K + 1 ≤ 400 := by omega
    obtain ⟨a, p', hpk⟩ : ∃ a p', p.drop K = a :: p' := by
      cases h : p.drop K with
      | nil => have := congrArg List.length h; rw [List.length_drop] at this; simp at this; omega
      | cons a p' => exact ⟨a, p', rfl⟩
    have ha : p.getD K 0 = a := by
      have := congrArg (fun l => l.getD 0 0) hpk
      simp [List.getD_eq_getElem?_getD] at this
      rw [List.getD_eq_getElem?_getD]; exact this
    have hp' : p.drop (K + 1) = p' := by
      rw [show K + 1 = K + 1 from rfl, ← List.drop_drop, hpk]; rfl
    rw [ha, hp']
    have hx := halves_hd (hpk ▸ halvesB_drop hp)
    have hpl : p.length = K + 1 + p'.length := by have := congrArg List.length hpk; rw [List.length_drop, List.length_cons] at this; omega
    have hak : (alongN p' k).kind ≠ 0 := along_kind _ _ (fun e => by rcases hk with h | h <;> exact absurd (h.symm.trans e) (by decide))
    have hav : Val even (alongN p' k) (d + K + 1) := along_val (by omega) (by rw [← hp']; exact halvesB_drop hp) hk (by rw [show d + K + 1 + p'.length = d + p.length by omega]; exact hr)
    obtain ⟨c1, c2, c3, c4, c5⟩ := hold_val (even := even) (d := d + K) (has := false) (v := []) (ks := (noneNs 16).set a.toNat (alongN p' k)) (p := q.drop K) (val := val) (by rw [List.length_set]; exact hn16) (fun x hx => by
      rcases List.mem_or_eq_of_mem_set hx with hx | rfl
      · exact none16 _ hd1 x hx
      · exact hav) hd1 (fun h => by cases h) (.inr rfl) (by simp) hqd hqd' hval
    refine .branch _ _ _ _ (by omega) c5 c4 c3 c1 c2 ?_
    have m1 := (manyN_set (ks := noneNs 16) (i := a.toNat) (k' := alongN p' k) hak (by omega)).2.1
    rcases hs2 with (h | h) | ⟨a', b, p'', q', hab, h1, h2⟩
    · rw [hpk] at h; cases h
    · rw [h]; simp only [holdK, if_pos]; omega
    · rw [h2]
      rw [hpk] at h1
      injection h1 with e1 e2
      subst e1
      have hy := halves_hd (h2 ▸ hqd)
      have m2 := (manyN_set (ks := (noneNs 16).set a.toNat (alongN p' k)) (i := b.toNat) (k' := leafN q' val) (by exact (show (1 : Int) ≠ 0 by decide)) (by rw [List.length_set]; omega)).2.2 (by
        rw [List.getD_eq_getElem?_getD, List.getElem?_set_ne (fun e => hab (UInt8.toNat_inj.1 e)), ← List.getD_eq_getElem?_getD]; exact hnd _)
      simp only [holdK, Bool.false_eq_true, if_false]; omega
theorem put_val {even : Bool} {t : Nd} {d : Nat} (h : Val even t d) : ∀ (q val : List UInt8), halvesB q = true → endsP (d + q.length) even = true → val.length ≤ 4000 → (putP t q val).2 = none → Val even (putP t q val).1 d := by
  induction h with
  | none d hd => intro q val hq he hv _; rw [putP_none]; exact .leaf d q val hd hq hv he
  | leaf d p v hd hp hv' he' =>
    intro q val hq he hv _
    rw [putP_leaf]
    split
    · exact .leaf d q val hd hq hv he
    · rename_i hne
      exact fork_val (.leaf d p v hd hp hv' he') (.inl ⟨p, v, rfl, hne⟩) hq he hv
  | stub d h hd hh => intro q val hq he hv hm; rw [putP_stub] at hm; cases hm
  | way d p k hd hp h0 hk hr ih =>
    intro q val hq he hv hm
    by_cases hpq : p <+: q
    · rw [putP_way hpq] at hm ⊢
      have hm' : (putP k (q.drop p.length) val).2 = none := by simpa using hm
      have hk3 : k.kind = 3 := by
        rcases hk with h | h
        · exact h
        · cases hr with
          | stub => rw [putP_stub] at hm'; cases hm'
          | _ => cases h
      have hl := hpq.length_le
      refine .way d p _ hd hp h0 (.inl ((put_kind0 hr _ _).2 hk3)) (ih _ val (halvesB_drop hq) ?_ hv hm')
      rw [List.length_drop, show d + p.length + (q.length - p.length) = d + q.length by omega]; exact he
    · rw [putP_way0 hpq]
      exact fork_val (.way d p k hd hp h0 hk hr) (.inr ⟨p, k, rfl, hpq⟩) hq he hv
  | branch d has v ks hd hv' hv0 he' h16 hr hm ih =>
    intro q val hq he hv hmm
    match q, hq, he, hmm with
    | [], hq, he, _ =>
      rw [putP_br0]
      refine .branch d true val ks hd hv (.inl rfl) (fun _ => by simpa using he) h16 hr ?_
      cases has with
      | true => exact hm
      | false => simp only [Bool.false_eq_true, if_false, if_pos] at *; omega
    | x :: q', hq, he, hmm =>
      have hx := halves_hd hq
      obtain ⟨k, hki⟩ : ∃ k, ks[x.toNat]? = some k := ⟨_, List.getElem?_eq_getElem (by omega)⟩
      rw [putP_br hki] at hmm ⊢
      have hkm := List.mem_of_getElem? hki
      have hkk := put_kind0 (hr k hkm) q' val
      refine .branch d has v _ hd hv' hv0 he' (by rw [List.length_set]; exact h16) (fun y hy => ?_) ?_
      · rcases List.mem_or_eq_of_mem_set hy with hy | rfl
        · exact hr y hy
        · refine ih k hkm q' val (by have := halvesB_drop (n := 1) hq; simpa using this) ?_ hv (by simpa using hmm)
          rw [List.length_cons] at he
          rw [show d + 1 + q'.length = d + (q'.length + 1) by omega]; exact he
      · have := (manyN_set (i := x.toNat) hkk.1 (show x.toNat < ks.length by omega)).1
        omega
end Go.Proofs.Ytliccofjlheceaa
namespace Go.Proofs.Ytliccofjlheceaa
open Go.RowKit
structure Pr where
  k : List UInt8
  v : List UInt8
deriving DecidableEq
def dPr (p : Pr) : List D := [dB p.k, dB p.v]
def dPrs (l : List Pr) : List D := l.flatMap dPr
theorem flat_len {α : Type} {f : α → List D} {s : Nat} (hf : ∀ x, (f x).length = s) : ∀ l : List α, (l.flatMap f).length = l.length * s
  | [] => by simp
  | x :: l => by rw [List.flatMap_cons, List.length_append, hf, flat_len hf l, List.length_cons, Nat.add_mul, Nat.one_mul, Nat.add_comm]
theorem flat_at {α : Type} {f : α → List D} {s : Nat} (hf : ∀ x, (f x).length = s) : ∀ {l : List α} {i : Nat} {x : α}, l[i]? = some x → ((l.flatMap f).drop (i * s)).take s = f x
  | y :: l, 0, x, h => by
    simp at h; subst h
    rw [Nat.zero_mul, List.drop_zero, List.flatMap_cons, List.take_append_of_le_length (by rw [hf]; omega), List.take_of_length_le (by rw [hf]; omega)]
  | y :: l, i + 1, x, h => by
    rw [List.flatMap_cons, show (i + 1) * s = (f y).length + i * s by rw [hf, Nat.add_mul]; omega, ← List.drop_drop, List.drop_left]
    exact flat_at hf (by simpa using h)
/-- An element. -/
theorem RdD.elt {W : World} {F : Nat → Prop} {α : Type} (f : α → List D) (s : Nat) (hf : ∀ x, (f x).length = s) {l : List α} {A : Option Addr} {n c i : Nat} {x : α} (h : RdD W F (.sl s l.length (l.flatMap f)) (.slice A n c)) (hi : l[i]? = some x) :
    ∃ b off es, A = some ⟨b, off, none⟩ ∧ F b ∧ RdL W F (f x) es ∧ es.length = s ∧ ∀ j y, es[j]? = some y → W.cell? (((⟨b, off, none⟩ : Addr).add (i * s)).add j) = some y := by
  have hn := h.slen
  have hil := (List.getElem?_eq_some_iff.1 hi).1
  obtain ⟨b, off, es, e1, hF, hes, hel, hc⟩ := h.at_ (i := i) (by omega)
  rw [flat_at hf hi] at hes
  exact ⟨b, off, es, e1, hF, hes, hel, fun j y hy => by rw [Addr.add_lit, Addr.add_lit]; exact hc j y hy⟩
theorem dPr_len (p : Pr) : (dPr p).length = 2 := rfl
abbrev dPl (l : List Pr) : D := .sl 2 l.length (dPrs l)
def pcs (p : Pr) (Ak : Option Addr) (ck : Nat) (Av : Option Addr) (cv : Nat) : List Value := [.slice Ak p.k.length ck, .slice Av p.v.length cv]
theorem RdL.pair {W : World} {F : Nat → Prop} {p : Pr} {cs : List Value} (h : RdL W F (dPr p) cs) : ∃ Ak ck Av cv, cs = pcs p Ak ck Av cv ∧ RdD W F (dB p.k) (.slice Ak p.k.length ck) ∧ RdD W F (dB p.v) (.slice Av p.v.length cv) := by
  obtain ⟨u0, _, rfl, h0, h⟩ := (show RdL W F [dB p.k, dB p.v] cs from h).uncons
  obtain ⟨u1, _, rfl, h1, h⟩ := h.uncons
  rw [h.isnil]
  obtain ⟨A0, c0, e0, _⟩ := h0.open_
  obtain ⟨A1, c1, e1, _⟩ := h1.open_
  subst e0; subst e1
  exact ⟨A0, c0, A1, c1, rfl, h0, h1⟩
/-- A pair of a slice that stays. -/
theorem St.pair {w W : World} {gs : List (Option Nat)} {L : Lc} {R : List Row} {fs : List Fact} (M : St w gs W L R fs) {l : List Pr} {A : Option Addr} {n c i : Nat} {p : Pr} (h : RdD W (Fd W (own L R gs)) (dPl l) (.slice A n c)) (hi : l[i]? = some p) :
    ∃ b off Ak ck Av cv, A = some ⟨b, off, none⟩ ∧ St w gs W L R (.loc ((⟨b, off, none⟩ : Addr).add (i * 2)) (pcs p Ak ck Av cv) :: .dat false [dB p.k] [.slice Ak p.k.length ck] :: .dat false [dB p.v] [.slice Av p.v.length cv] :: fs) := by
  obtain ⟨b, off, es, e, hF, hes, hel, hc⟩ := RdD.elt dPr 2 dPr_len h hi
  obtain ⟨Ak, ck, Av, cv, rfl, h1, h2⟩ := hes.pair
  exact ⟨b, off, Ak, ck, Av, cv, e, ((M.addD h2).addD h1).addC (by rw [block_of_add]; exact hF) hc⟩
theorem slp : slOf Try.prog 57 = some (65, 2) := by kernel_rfl
theorem agg_pr : aggOf Try.prog 65 = some (true, 2) := by kernel_rfl
theorem fP0 : fieldOff Try.prog 65 0 = some 0 := by kernel_rfl
theorem fP1 : fieldOff Try.prog 65 1 = some 1 := by kernel_rfl
def zP : List Value := [.slice none 0 0, .slice none 0 0]
theorem pl_pr : placesOf Try.prog 65 = some [(0, 1), (1, 1)] := by kernel_rfl
theorem z_pr : zeroOf Try.prog 65 = some zP := by kernel_rfl
theorem prinfo : (Try.prog.info? 65).map (fun i => (i.zero, i.size, i.bytes)) = some (some (.agg zP.toArray), 2, 48) := by kernel_rfl
/-- How much a trie grows. -/
theorem szs_set_eq : ∀ {ks : List Nd} {i : Nat} {k k' : Nd}, ks[i]? = some k → szs (ks.set i k') + sz k = szs ks + sz k'
  | t :: ks, 0, k, k', h => by simp at h; subst h; rw [List.set_cons_zero, szs, szs]; omega
  | t :: ks, i + 1, k, k', h => by have := szs_set_eq (ks := ks) (i := i) (k := k) (k' := k') (by simpa using h); rw [List.set_cons_succ, szs, szs]; omega
theorem szs_noneNs : ∀ n, szs (noneNs n) = 6 * n
  | 0 => rfl
  | n + 1 => by
    show szs (noneN :: noneNs n) = _
    rw [szs, szs_noneNs n]
    show sz noneN + _ = _
    rw [show sz noneN = 6 by decide]; omega
theorem noneNs_get {i n : Nat} (h : i < n) : (noneNs n)[i]? = some noneN := by
  unfold noneNs; rw [List.getElem?_replicate, if_pos h]
theorem sz_leafN (p v : List UInt8) : sz (leafN p v) = 6 + p.length + v.length := by unfold leafN; rw [sz, szs]; simp
theorem sz_alongN (p : List UInt8) (t : Nd) : sz (alongN p t) ≤ 6 + p.length + sz t := by
  unfold alongN; split
  · omega
  · rw [sz, szs, szs]; simp
theorem sz_mk3 (has : Bool) (v : List UInt8) (ks : List Nd) : sz (.mk 3 [] has v ks []) = 6 + v.length + szs ks := by rw [sz]; simp
/-- What holding one more costs. -/
theorem szs_hold {has : Bool} {v : List UInt8} {ks : List Nd} {p val : List UInt8} (h16 : ks.length = 16) (hp : halvesB p = true) : (holdK has v ks p val).2.1.length + szs (holdK has v ks p val).2.2 ≤ v.length + szs ks + p.length + val.length + 6 := by
  cases p with
  | nil => simp only [holdK, List.length_nil]; omega
  | cons x q =>
    have hx := halves_hd hp
    obtain ⟨k, hk⟩ : ∃ k, ks[x.toNat]? = some k := ⟨_, List.getElem?_eq_getElem (by omega)⟩
    have h1 := szs_set_eq (k' := leafN q val) hk
    have h2 := sz_leafN q val
    simp only [holdK, List.length_cons]; omega
theorem hold_len {has : Bool} {v : List UInt8} {ks : List Nd} {p val : List UInt8} (h16 : ks.length = 16) : (holdK has v ks p val).2.2.length = 16 := by
  cases p with
  | nil => exact h16
  | cons x q => simp only [holdK, List.length_set]; exact h16
theorem sz_fork {even : Bool} {d : Nat} {t : Nd} {q val : List UInt8} (ht : Val even t d) (hf : (∃ p v, t = .mk 1 p false v [] []) ∨ ∃ p k, t = .mk 2 p false [] [k] [] ∧ ¬ p <+: q) (hq : halvesB q = true) : sz (forkN t q val) ≤ sz t + 130 + q.length + val.length := by
  have h1 := sz_alongN (q.take (commonB t.path q)) (.mk 3 [] false [] [] [])
  have hs := szs_noneNs 16
  have hn := noneNs_len 16
  have hqt : (q.take (commonB t.path q)).length + (q.drop (commonB t.path q)).length = q.length := by rw [List.length_take, List.length_drop]; have := (commonB_le t.path q).2; omega
  unfold forkN
  rcases hf with ⟨p, v, rfl⟩ | ⟨p, k, rfl, hne⟩
  · cases ht with
    | leaf _ _ _ _ hp hv he =>
    simp only [Nd.path, Nd.kind, Nd.val, if_pos] at *
    have a1 := szs_hold (has := false) (v := []) (ks := noneNs 16) (p := p.drop (commonB p q)) (val := v) hn (halvesB_drop hp)
    have a2 := szs_hold (has := (holdK false [] (noneNs 16) (p.drop (commonB p q)) v).1) (v := (holdK false [] (noneNs 16) (p.drop (commonB p q)) v).2.1) (ks := (holdK false [] (noneNs 16) (p.drop (commonB p q)) v).2.2) (p := q.drop (commonB p q)) (val := val) (hold_len hn) (halvesB_drop hq)
    have a3 := sz_alongN (q.take (commonB p q)) (.mk 3 [] (holdK (holdK false [] (noneNs 16) (p.drop (commonB p q)) v).1 (holdK false [] (noneNs 16) (p.drop (commonB p q)) v).2.1 (holdK false [] (noneNs 16) (p.drop (commonB p q)) v).2.2 (q.drop (commonB p q)) val).1 (holdK (holdK false [] (noneNs 16) (p.drop (commonB p q)) v).1 (holdK false [] (noneNs 16) (p.drop (commonB p q)) v).2.1 (holdK false [] (noneNs 16) (p.drop (commonB p q)) v).2.2 (q.drop (commonB p q)) val).2.1 (holdK (holdK false [] (noneNs 16) (p.drop (commonB p q)) v).1 (holdK false [] (noneNs 16) (p.drop (commonB p q)) v).2.1 (holdK false [] (noneNs 16) (p.drop (commonB p q)) v).2.2 (q.drop (commonB p q)) val).2.2 [])
    rw [sz_mk3] at a3
    have a4 : sz (.mk 1 p false v [] []) = 6 + p.length + v.length := by rw [sz, szs]; simp
    have a5 : (p.drop (commonB p q)).length ≤ p.length := by rw [List.length_drop]; omega
    simp only [List.length_nil] at a1
    omega
  · cases ht with
    | way _ _ _ _ hp h0 hk hr =>
    simp only [Nd.path, Nd.kind, Nd.val, Nd.kids, List.headD_cons] at *
    simp only [Int.reduceEq, if_false]
    have hKp : commonB p q < p.length := by
      rcases Nat.lt_or_ge (commonB p q) p.length with h | h
      · exact h
      · exfalso
        apply hne
        have hs1 := (common_split p q).1
        rw [List.take_of_length_le (by omega)] at hs1
        exact hs1 ▸ List.take_prefix _ _
    have hx : (p.getD (commonB p q) 0).toNat < 16 := by
      have := halves_hd (x := p.getD (commonB p q) 0) (q := p.drop (commonB p q + 1)) (by
        have e : p.getD (commonB p q) 0 :: p.drop (commonB p q + 1) = p.drop (commonB p q) := by
          rw [List.drop_eq_getElem_cons hKp, List.getD_eq_getElem?_getD, List.getElem?_eq_getElem hKp]; rfl
        rw [e]; exact halvesB_drop hp)
      exact this
    have b1 := szs_set_eq (k' := alongN (p.drop (commonB p q + 1)) k) (noneNs_get hx)
    have b2 := sz_alongN (p.drop (commonB p q + 1)) k
    rw [show sz noneN = 6 by decide] at b1
    have a2 := szs_hold (has := false) (v := []) (ks := (noneNs 16).set (p.getD (commonB p q) 0).toNat (alongN (p.drop (commonB p q + 1)) k)) (p := q.drop (commonB p q)) (val := val) (by rw [List.length_set]; exact hn) (halvesB_drop hq)
    have a3 := sz_alongN (q.take (commonB p q)) (.mk 3 [] (holdK false [] ((noneNs 16).set (p.getD (commonB p q) 0).toNat (alongN (p.drop (commonB p q + 1)) k)) (q.drop (commonB p q)) val).1 (holdK false [] ((noneNs 16).set (p.getD (commonB p q) 0).toNat (alongN (p.drop (commonB p q + 1)) k)) (q.drop (commonB p q)) val).2.1 (holdK false [] ((noneNs 16).set (p.getD (commonB p q) 0).toNat (alongN (p.drop (commonB p q + 1)) k)) (q.drop (commonB p q)) val).2.2 [])
    rw [sz_mk3] at a3
    have a4 : sz (.mk 2 p false [] [k] []) = 6 + p.length + sz k := by rw [sz, szs, szs]; simp
    have a5 : (p.drop (commonB p q + 1)).length ≤ p.length := by rw [List.length_drop]; omega
    simp only [List.length_nil] at a2
    omega
theorem sz_put {even : Bool} {t : Nd} {d : Nat} (h : Val even t d) : ∀ (q val : List UInt8), halvesB q = true → sz (putP t q val).1 ≤ sz t + 130 + q.length + val.length := by
  induction h with
  | none d hd => intro q val _; rw [putP_none, sz_leafN]; omega
  | leaf d p v hd hp hv' he' =>
    intro q val hq
    rw [putP_leaf]
    split
    · rw [sz_leafN]; omega
    · exact sz_fork (.leaf d p v hd hp hv' he') (.inl ⟨p, v, rfl⟩) hq
  | stub d h hd hh => intro q val _; rw [putP_stub]; dsimp only; omega
  | way d p k hd hp h0 hk hr ih =>
    intro q val hq
    by_cases hpq : p <+: q
    · rw [putP_way hpq]
      have := ih (q.drop p.length) val (halvesB_drop hq)
      have a4 : ∀ k, sz (.mk 2 p false [] [k] []) = 6 + p.length + sz k := fun k => by rw [sz, szs, szs]; simp
      rw [List.length_drop] at this
      dsimp only
      rw [a4, a4]; omega
    · rw [putP_way0 hpq]
      exact sz_fork (.way d p k hd hp h0 hk hr) (.inr ⟨p, k, rfl, hpq⟩) hq
  | branch d has v ks hd hv' hv0 he' h16 hr hm ih =>
    intro q val hq
    match q, hq with
    | [], _ => rw [putP_br0, sz_mk3, sz_mk3]; omega
    | x :: q', hq =>
      have hx := halves_hd hq
      obtain ⟨k, hki⟩ : ∃ k, ks[x.toNat]? = some k := ⟨_, List.getElem?_eq_getElem (by omega)⟩
      rw [putP_br hki]
      have := ih k (List.mem_of_getElem? hki) q' val (by have := halvesB_drop (n := 1) hq; simpa using this)
      have b1 := szs_set_eq (k' := (putP k q' val).1) hki
      dsimp only
      rw [sz_mk3, sz_mk3, List.length_cons]; omega
end Go.Proofs.Ytliccofjlheceaa
namespace Go.Proofs.Ytliccofjlheceaa
open Go.RowKit
theorem ends_yes {e : Nat} {even : Bool} (h : e ≤ 400) (h2 : even = false ∨ e % 2 = 0) : endsP e even = true := by
  unfold endsP
  rw [decide_eq_true h]
  rcases h2 with h2 | h2
  · rw [h2]; rfl
  · rw [decide_eq_true h2]; simp
end Go.Proofs.Ytliccofjlheceaa
