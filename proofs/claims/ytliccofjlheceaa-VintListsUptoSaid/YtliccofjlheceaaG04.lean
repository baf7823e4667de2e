/- Reference 00: Own: each list has memory of its own. The walk of reference 00's Own. From lists of the call's own to a state whose rows they are; Own on them. Numbers and bytes in one way: the plain functions and their laws. Numbers and bytes in one way: the walks of package vint. -/
import Derived.Test.YtliccofjlheceaaG03
import Derived.Test.YtliccofjlheceaaG02
import Derived.WalkSmall
namespace Go.Proofs.Ytliccofjlheceaa
open Go.RowKit
theorem is_own00 : isFn Try.prog 17 = true := by kernel_rfl
theorem zlsO : zeroOf Try.prog 23 = some [.slice none 0 0] := by kernel_rfl
theorem u_intO : (Try.prog.underlying 3).isSome = true := by kernel_rfl
theorem u_u8O : Try.prog.underlying 5 = some (.int .u8) := by kernel_rfl
/-- append of a block onto the first row: its header stays, or the old one still reads. -/
theorem s_appM {P : Program} {E : Env} {d : Option Nat} {ty : TypeId} {p : String} {af : Array Edge} {gd : Option (Nat × Bool)} {x y : Operand} {t : TypeId} {kw : Value → World → Prop} {w W : World} {gs : List (Option Nat)} {L : Lc} {R : List Row} {fs : List Fact}
    {e : TypeId} {z : Value} {s bytes : Nat} {A : Option Addr} {n c : Nat} {xs : List Value} (M : St w gs W L (⟨e, s, A, n, c, xs⟩ :: R) fs) (hT : P.underlying t = some (.slice e)) (hi : (P.info? e).map (fun i => (i.zero, i.size, i.bytes)) = some (some z, s, bytes)) (hzs : z.cells.size = s) (hs0 : 0 < s)
    (hx : val E x = .slice A n c) {a : Addr} {m c2 : Nat} {news : List Value} (hy : val E y = .slice (some a) m c2) {B : Nat} (hr : Reads W B s (some a) m news) (hm : 0 < m) (h1 : ∀ u ∈ news, u.oneCell' = true)
    (hsz : n + m ≤ 1000000000 ∧ bytes ≤ 1000)
    (h : ∀ A' c' W', (A' = A ∧ St w gs W' L (⟨e, s, A', n + m, c', xs ++ news⟩ :: R) fs) ∨ St w gs W' L (⟨e, s, A', n + m, c', xs ++ news⟩ :: R) (.dat false [.sl s n (xs.map D.v)] [.slice A n c] :: fs) → kw (.slice A' (n + m) c') W') :
    VVal P E { dst := d, op := .call { callee := .builtin .append, args := #[x, y], argTypes := #[t, t] }, type := ty, pos := p, after := af, guard := gd } W kw := by
  have hrow := M.row _ (List.mem_cons_self ..)
  have hlo := row_bklo hrow
  have hap := M.ap
  have hlt := M.lt
  refine s_appK M hT hi hzs hs0 hx hy hr hm h1 hsz fun A' c' W' M' hold => h A' c' W' ?_
  by_cases hA : A' = A
  · exact .inl ⟨hA, M'⟩
  right
  have hrow' := M'.row _ (List.mem_cons_self ..)
  have hp := List.Perm.pairwise (l' := bk A :: (L.map (fun x => some x.1) ++ R.map (fun r => bk r.A))) (by rw [List.map_cons]; exact List.perm_middle) hap (fun h => apart_comm h)
  rw [List.pairwise_cons] at hp
  have hnc : n ≤ c := by
    rcases hrow.2 with ⟨hv, h0⟩ | ⟨g, cap, cur, hv, _, _, hc, _⟩
    · simp only at h0; omega
    · injection hv with _ _ hc'
      have h1 : c = cap := hc'
      have h2 : n ≤ cap := hc
      omega
  refine M'.add (f := .dat false [.sl s n (xs.map D.v)] [.slice A n c]) (RdL.one (RdD.sl_iff.2 ⟨A, c, xs, rfl, hnc, by rw [List.length_map]; exact hrow.1, RdL.ofvals xs, fun hn => ?_⟩))
  rcases hrow.2 with ⟨hv, h0⟩ | ⟨g, cap, cur, hv, hrest⟩
  · simp only at h0; omega
  injection hv with e1 e2 e3
  simp only at e1
  subst e1
  have hg := hlo g rfl
  have hx0 : 0 < xs.length := by
    have h := hrow.1
    simp only at h
    rw [h]; exact Nat.mul_pos hn hs0
  have hgl : g < W'.heap.size := by
    have h0 := World.block_lt_of_cell? W' _ (hold _ rfl 0 _ (List.getElem?_eq_getElem hx0))
    rwa [block_of_add] at h0
  refine ⟨g, 0, rfl, ⟨hgl, fun hin => ?_, fun e => by cases e⟩, fun j u hu => by rw [← Addr.add_lit]; exact hold _ rfl j u hu⟩
  unfold own at hin
  rw [← List.append_assoc] at hin
  rcases List.mem_append.1 hin with hin | hin
  · rcases List.mem_append.1 hin with hin | hin
    · rcases hp.1 _ (List.mem_append_left _ hin) with h | h
      · cases h
      · exact h rfl
    · rw [List.map_cons] at hin
      rcases List.mem_cons.1 hin with hin | hin
      · rcases hrow'.2 with ⟨hv', _⟩ | ⟨g', cap', cur', hv', _⟩
        · injection hv' with e1
          simp only at e1
          subst e1
          cases hin
        · injection hv' with e1
          simp only at e1
          subst e1
          injection hin with hin
          subst hin
          exact hA rfl
      · rcases hp.1 _ (List.mem_append_right _ hin) with h | h
        · cases h
        · exact h rfl
  · have := hlt g hin
    omega

abbrev Hd3 := Option Addr × Nat × Nat
def hv3 (h : Hd3) : Value := .slice h.1 h.2.1 h.2.2
def rw8 (x : Hd3 × List UInt8) : Row := ⟨5, 1, x.1.1, x.1.2.1, x.1.2.2, bvs x.2⟩
def rows8 (hs : List (Hd3 × List UInt8)) : List Row := hs.map rw8
def hdrs8 (hs : List (Hd3 × List UInt8)) : List Value := hs.map fun x => hv3 x.1
theorem rows8_out {hs : List (Hd3 × List UInt8)} {i : Nat} {x : Hd3 × List UInt8} (h : hs[i]? = some x) : (rows8 hs).Perm (rw8 x :: rows8 (hs.eraseIdx i)) := by
  obtain ⟨hi, rfl⟩ := List.getElem?_eq_some_iff.1 h
  refine List.Perm.map rw8 (?_ : hs.Perm (hs[i] :: hs.eraseIdx i))
  have e : hs = hs.take i ++ hs[i] :: hs.drop (i + 1) := by rw [List.getElem_cons_drop, List.take_append_drop]
  rw [List.eraseIdx_eq_take_drop_succ]
  conv => lhs; rw [e]
  exact List.perm_middle
theorem rows8_in {hs : List (Hd3 × List UInt8)} {i : Nat} (y : Hd3 × List UInt8) (hi : i < hs.length) : (rw8 y :: rows8 (hs.eraseIdx i)).Perm (rows8 (hs.set i y)) := by
  have h := (rows8_out (hs := hs.set i y) (i := i) (x := y) (by rw [List.getElem?_set_self hi])).symm
  rwa [List.eraseIdx_set_eq] at h
theorem hdrs8_set {hs : List (Hd3 × List UInt8)} {i : Nat} {x : Hd3 × List UInt8} (h : hs[i]? = some x) (l : List UInt8) : hdrs8 (hs.set i (x.1, l)) = hdrs8 hs := by
  unfold hdrs8
  rw [List.map_set]
  obtain ⟨hi, rfl⟩ := List.getElem?_eq_some_iff.1 h
  refine List.ext_getElem? fun j => ?_
  rw [List.getElem?_set]
  split
  · next e =>
    subst e
    rw [List.getElem?_map, List.getElem?_eq_getElem hi, List.length_map, if_pos hi]; rfl
  · rfl
theorem RdD.vat {W : World} {F : Nat → Prop} {vs : List Value} {A : Option Addr} {n n' c i : Nat} {v : Value} (h : RdD W F (.sl 1 n (vs.map D.v)) (.slice A n' c)) (hv : vs[i]? = some v) : i < n' ∧ ∃ b off, A = some ⟨b, off, none⟩ ∧ W.cell? ((⟨b, off, none⟩ : Addr).add (i * 1)) = some v := by
  have hn := h.slen
  obtain ⟨A', c', cs, h1, h2, h3, h4, h5⟩ := RdD.sl_iff.1 h
  injection h1 with e1 e2 e3
  subst e1; subst e2
  have hi := (List.getElem?_eq_some_iff.1 hv).1
  rw [List.length_map] at h3
  obtain ⟨b, off, e, _, hc⟩ := h5 (by omega)
  rw [h4.vals] at hc
  exact ⟨by omega, b, off, e, by rw [Addr.add_lit, Nat.mul_one]; exact hc _ _ hv⟩
def q1O (i k : Nat) : Int := IntKind.u8.wrap ((i * 31 + k % 7 : Nat) : Int)
def q2O (i k : Nat) : Int := IntKind.u8.wrap ((200 + i * 5 + k : Nat) : Int)
theorem q1O_r (i k : Nat) : 0 ≤ q1O i k ∧ q1O i k ≤ 255 := by unfold q1O; rw [IntKind.wrap_u8']; omega
theorem q2O_r (i k : Nat) : 0 ≤ q2O i k ∧ q2O i k ≤ 255 := by unfold q2O; rw [IntKind.wrap_u8']; omega
/-- What is written so far. -/
def DoneO (hs : List (Hd3 × List UInt8)) (i k : Nat) : Prop := ∀ (j : Nat) (x : Hd3 × List UInt8), hs[j]? = some x → ∀ k', k' < x.2.length → (j < i ∨ (j = i ∧ k' < k)) → x.2[k']? = some (b8 (q1O j k'))
theorem DoneO.step {hs : List (Hd3 × List UInt8)} {i k : Nat} {x : Hd3 × List UInt8} (h : DoneO hs i k) (hx : hs[i]? = some x) : DoneO (hs.set i (x.1, x.2.set k (b8 (q1O i k)))) i (k + 1) := by
  intro j y hy k' hk' hor
  have hi := (List.getElem?_eq_some_iff.1 hx).1
  by_cases e : j = i
  · subst e
    rw [List.getElem?_set_self hi] at hy
    injection hy with hy
    subst hy
    dsimp only at hk' ⊢
    rw [List.length_set] at hk'
    by_cases ek : k' = k
    · subst ek
      rw [List.getElem?_set_self hk']
    · rw [List.getElem?_set_ne (fun e => ek e.symm)]
      exact h j x hx k' hk' (.inr ⟨rfl, by omega⟩)
  · rw [List.getElem?_set_ne (fun e' => e e'.symm)] at hy
    exact h j y hy k' hk' (.inl (by omega))
theorem DoneO.next {hs : List (Hd3 × List UInt8)} {i k : Nat} {x : Hd3 × List UInt8} (h : DoneO hs i k) (hx : hs[i]? = some x) (hk : x.2.length ≤ k) : DoneO hs (i + 1) 0 := by
  intro j y hy k' hk' hor
  by_cases e : j = i
  · subst e
    rw [hx] at hy
    injection hy with hy
    subst hy
    exact h j x hx k' hk' (.inr ⟨rfl, by omega⟩)
  · exact h j y hy k' hk' (.inl (by omega))
def fourO (i n : Nat) : List UInt8 := (List.range n).map fun k => b8 (q2O i k)
theorem fourO_succ (i n : Nat) : fourO i (n + 1) = fourO i n ++ [b8 (q2O i n)] := by unfold fourO; rw [List.range_succ, List.map_append]; rfl
theorem fourO_at (i : Nat) {n k : Nat} (h : k < n) : (fourO i n)[k]? = some (b8 (q2O i k)) := by unfold fourO; rw [List.getElem?_map, List.getElem?_range h]; rfl
theorem fourO_len (i n : Nat) : (fourO i n).length = n := by unfold fourO; rw [List.length_map, List.length_range]
end Go.Proofs.Ytliccofjlheceaa
namespace Go.Proofs.Ytliccofjlheceaa
open Go.RowKit
def itO (hs : List (Hd3 × List UInt8)) (j : Nat) : Hd3 × List UInt8 := hs.getD j ((none, 0, 0), [])
theorem itO_eq {hs : List (Hd3 × List UInt8)} {j : Nat} {x : Hd3 × List UInt8} (h : hs[j]? = some x) : itO hs j = x := by unfold itO; rw [List.getD_eq_getElem?_getD, h]; rfl
def d1O (hs : List (Hd3 × List UInt8)) (i : Nat) : List D := (List.range i).map fun j => dB (itO hs j).2
def d2O (hs : List (Hd3 × List UInt8)) (i : Nat) : List D := (List.range i).map fun j => dB ((itO hs j).2 ++ fourO j 4)
def h1O (hs : List (Hd3 × List UInt8)) (i : Nat) : List Value := (List.range i).map fun j => hv3 (itO hs j).1
theorem rng_at {α : Type} (f : Nat → α) {n i : Nat} (h : i < n) : ((List.range n).map f)[i]? = some (f i) := by rw [List.getElem?_map, List.getElem?_range h]; rfl
theorem rng_succ {α : Type} (f : Nat → α) (n : Nat) : (List.range (n + 1)).map f = (List.range n).map f ++ [f n] := by rw [List.range_succ, List.map_append]; rfl
theorem hdrs8_at {hs hs2 : List (Hd3 × List UInt8)} (h : hdrs8 hs2 = hdrs8 hs) {i : Nat} (hi : i < hs.length) : ∃ A n c l, hs2[i]? = some ((A, n, c), l) ∧ (hdrs8 hs)[i]? = some (.slice A n c) := by
  have hl : hs2.length = hs.length := by have := congrArg List.length h; unfold hdrs8 at this; rwa [List.length_map, List.length_map] at this
  obtain ⟨x, h2⟩ : ∃ x, hs2[i]? = some x := ⟨hs2[i]'(by omega), List.getElem?_eq_getElem _⟩
  obtain ⟨⟨A, n, c⟩, l⟩ := x
  exact ⟨A, n, c, l, h2, by rw [← h]; unfold hdrs8; rw [List.getElem?_map, h2]; rfl⟩
theorem row8_len {w W : World} {gs : List (Option Nat)} {L : Lc} {R : List Row} {fs : List Fact} {A : Option Addr} {n c : Nat} {l : List UInt8} (M : St w gs W L R fs) (h : rw8 ((A, n, c), l) ∈ R) : l.length = n ∧ n ≤ c := by
  have hrow := M.row _ h
  have h1 : (bvs l).length = n * 1 := hrow.1
  rw [bvs_length] at h1
  refine ⟨by omega, ?_⟩
  rcases hrow.2 with ⟨hv, h0⟩ | ⟨g, cap, cur, hv, _, _, hc, _⟩
  · have h0 : n = 0 := h0
    omega
  · injection hv with _ _ hc'
    have h1 : c = cap := hc'
    have h2 : n ≤ cap := hc
    omega
theorem mem_rows8 {hs : List (Hd3 × List UInt8)} {i : Nat} {x : Hd3 × List UInt8} (h : hs[i]? = some x) : rw8 x ∈ rows8 hs := List.mem_map.2 ⟨x, List.mem_of_getElem? h, rfl⟩
theorem bvs_q (l : List UInt8) (i k : Nat) : bvs (l ++ fourO i k) ++ [.int .u8 (q2O i k)] = bvs (l ++ fourO i (k + 1)) := by
  rw [fourO_succ, ← List.append_assoc, bvs_append (l ++ fourO i k), ← u8v_b8 _ (q2O_r i k).1 (q2O_r i k).2]; rfl
theorem RdD.pre8 {W : World} {F : Nat → Prop} {l l2 : List UInt8} {A : Option Addr} {n c n2 c2 : Nat} (h : RdD W F (dB (l ++ l2)) (.slice A n2 c2)) (hl : l.length = n) (hc : n ≤ c) : RdD W F (dB l) (.slice A n c) := by
  have hn := h.slen
  rw [List.length_append] at hn
  have h2 := h.cutB (i := 0) (j := n) (m := c) (Nat.zero_le _) (by omega) hc
  rw [slA0, Nat.sub_zero, Nat.sub_zero, List.drop_zero, ← hl, List.take_left] at h2
  rw [← hl]; exact h2
set_option maxRecDepth 100000 in
set_option maxHeartbeats 8000000 in
theorem own00_any {w W : World} {gs : List (Option Nat)} {hs : List (Hd3 × List UInt8)} {A : Option Addr} {n c : Nat} (M : St w gs W [] (rows8 hs) [.dat false [.sl 1 hs.length ((hdrs8 hs).map D.v)] [.slice A n c]]) (hn : hs.length ≤ 1000000) (hb : ∀ x ∈ hs, x.2.length ≤ 100000000) :
    Calls Try.prog 17 #[.slice A n c] W fun e W' => e = .returned (.bool true) ∧ Below w.heap.size w W' := by
  refine calls_ev (args := [.slice A n c]) mixed Try.func17 rfl (by kernel_rfl) ?_
  have en : n = hs.length := (M.d1 0 rfl).slen
  subst en
  refine lp (Nat × List (Hd3 × List UInt8)) (fun s W => s.1 ≤ hs.length ∧ hdrs8 s.2 = hdrs8 hs ∧ (∀ x ∈ s.2, x.2.length ≤ 100000000) ∧ DoneO s.2 s.1 0 ∧ St w gs W [] (rows8 s.2) [.dat false [.sl 1 hs.length ((hdrs8 hs).map D.v)] [.slice A hs.length c]]) (fun s => [(0, .slice A hs.length c), (3, .slice none 0 0), (4, .int .i64 (s.1 : Nat))]) (fun s => hs.length - s.1) (0, hs) ⟨Nat.zero_le _, rfl, hb, (fun j x _ k' _ h => by exfalso; dsimp only at h; omega), M⟩ (by repeat (first | exact trivial | refine ⟨rfl, ?_⟩)) ?_
  clear M
  rintro ⟨i, hs1⟩ E W ⟨hi, hh, hb1, hd, M⟩
  dsimp only at hi hh hb1 hd M
  refine p_len slbb rfl ?_
  refine p_lt rfl rfl (fun hlt => ?_) (fun hge => ?_)
  · have hlt : i < hs.length := by have h : (i : Int) < (hs.length : Int) := hlt; omega
    obtain ⟨A0, n0, c0, l0, hx0, hhd⟩ := hdrs8_at rfl hlt
    have hn0 : n0 ≤ 100000000 := by
      obtain ⟨A1, n1, c1, l1, hy, hhd1⟩ := hdrs8_at hh hlt
      rw [hhd] at hhd1
      injection hhd1 with e
      injection e with e1 e2 e3
      have h1 := row8_len M (mem_rows8 hy)
      have h2 := hb1 _ (List.mem_of_getElem? hy)
      dsimp only at h2
      omega
    refine lp (Nat × List (Hd3 × List UInt8)) (fun s W => hdrs8 s.2 = hdrs8 hs ∧ (∀ x ∈ s.2, x.2.length ≤ 100000000) ∧ DoneO s.2 i s.1 ∧ St w gs W [] (rows8 s.2) [.dat false [.sl 1 hs.length ((hdrs8 hs).map D.v)] [.slice A hs.length c]]) (fun s => [(0, .slice A hs.length c), (3, .slice none 0 0), (4, .int .i64 (i : Nat)), (5, .int .i64 (s.1 : Nat))]) (fun s => n0 - s.1) (0, hs1) ⟨hh, hb1, hd, M⟩ (by repeat (first | exact trivial | refine ⟨rfl, ?_⟩)) ?_
    clear M hd hh hb1
    rintro ⟨k, hs2⟩ E W ⟨hh2, hb2, hd2, M⟩
    dsimp only at hh2 hb2 hd2 M
    obtain ⟨A1, n1, c1, l, hy, hhd1⟩ := hdrs8_at hh2 hlt
    rw [hhd] at hhd1
    injection hhd1 with e
    injection e with e1 e2 e3
    subst e1; subst e2; subst e3
    obtain ⟨hl, -⟩ := row8_len M (mem_rows8 hy)
    have hi2 : i < hs2.length := (List.getElem?_eq_some_iff.1 hy).1
    obtain ⟨-, b, off, eA, hc⟩ := (M.d1 0 rfl).vat hhd
    refine p_at (i := i) slbb (by show (Value.slice A hs.length c) = _; rw [eA]) rfl rfl hlt ?_
    refine v_load agg_b rfl hc ?_
    refine p_len slb rfl ?_
    refine p_lt rfl rfl (fun hlk => ?_) (fun hgk => ?_)
    · have hlk : k < n0 := by have h : (k : Int) < (n0 : Int) := hlk; omega
      refine p_at (i := i) slbb (by show (Value.slice A hs.length c) = _; rw [eA]) rfl rfl hlt ?_
      refine v_load agg_b rfl hc ?_
      refine p_mul rfl rfl (r := ((i * 31 : Nat) : Int)) (by rw [w64 (by omega)]; omega) ?_
      refine p_remN (b := 7) rfl rfl (by decide) ?_
      refine p_addN rfl rfl (by omega) ?_
      refine v_cvt u_intO u_u8O rfl rfl ?_
      replace M := M.permR (rows8_out hy)
      obtain ⟨g, eg⟩ := row_addr M (show 0 < n0 by omega)
      have eg : A0 = some ⟨g, 0, none⟩ := eg
      subst eg
      refine p_atM (i := k) (q := k) slb rfl rfl rfl hlk (by omega) ?_
      refine s_setRow (l := l) k (q1O i k) M rfl rfl hlk (q1O_r i k) ?_
      clear M; rintro W M
      replace M := M.permR (rows8_in (hs := hs2) (i := i) ((some ⟨g, 0, none⟩, n0, c0), l.set k (b8 (q1O i k))) hi2)
      refine p_addN (b := 1) rfl rfl (by omega) ?_
      refine ⟨(k + 1, hs2.set i ((some ⟨g, 0, none⟩, n0, c0), l.set k (b8 (q1O i k)))), ⟨?_, fun x hx => ?_, hd2.step hy, M⟩, (by repeat (first | exact trivial | refine ⟨rfl, ?_⟩)), by dsimp only; omega⟩
      · dsimp only
        rw [hdrs8_set hy]; exact hh2
      · rcases List.mem_or_eq_of_mem_set hx with h | rfl
        · exact hb2 x h
        · dsimp only; rw [List.length_set]; exact hb2 _ (List.mem_of_getElem? hy)
    · have hgk : n0 ≤ k := by have h : ¬ (k : Int) < (n0 : Int) := hgk; omega
      refine p_addN (b := 1) rfl rfl (by omega) ?_
      exact ⟨(i + 1, hs2), ⟨by dsimp only; omega, hh2, hb2, hd2.next hy (by dsimp only; omega), M⟩, (by repeat (first | exact trivial | refine ⟨rfl, ?_⟩)), by dsimp only; omega⟩
  have hie : i = hs.length := by have h : ¬ (i : Int) < (hs.length : Int) := hge; omega
  subst hie
  clear hge hi
  have hl1 : hs1.length = hs.length := by have := congrArg List.length hh; unfold hdrs8 at this; rwa [List.length_map, List.length_map] at this
  have hfin : ∀ (j : Nat) (x : Hd3 × List UInt8), hs1[j]? = some x → ∀ k', k' < x.2.length → x.2[k']? = some (b8 (q1O j k')) := fun j x hx k' hk' => hd j x hx k' hk' (.inl (by have := (List.getElem?_eq_some_iff.1 hx).1; omega))
  clear hd
  replace M := ((M.nilR 23 1).addT (fr := false) (ds := d1O hs1 0) (cs := h1O hs1 0) RdL.nil_).addT (fr := false) (ds := d2O hs1 0) (cs := []) RdL.nil_
  refine lp (Nat × Option Addr × Nat × List Value) (fun s W => s.1 ≤ hs.length ∧ St w gs W [] (⟨23, 1, s.2.1, s.1, s.2.2.1, s.2.2.2⟩ :: rows8 (hs1.drop s.1)) [.dat false (d2O hs1 s.1) s.2.2.2, .dat false (d1O hs1 s.1) (h1O hs1 s.1), .dat false [.sl 1 hs.length ((hdrs8 hs).map D.v)] [.slice A hs.length c]]) (fun s => [(0, .slice A hs.length c), (3, .slice s.2.1 s.1 s.2.2.1), (6, .int .i64 (s.1 : Nat))]) (fun s => hs.length - s.1) (0, none, 0, []) ⟨Nat.zero_le _, M⟩ (by repeat (first | exact trivial | refine ⟨rfl, ?_⟩)) ?_
  clear M
  rintro ⟨i, A3, c3, xs⟩ E W ⟨hi, M⟩
  dsimp only at hi M
  refine p_len slbb rfl ?_
  refine p_lt rfl rfl (fun hlt => ?_) (fun hge => ?_)
  · have hlt : i < hs.length := by have h : (i : Int) < (hs.length : Int) := hlt; omega
    obtain ⟨A0, n0, c0, l, hx, hhd⟩ := hdrs8_at hh hlt
    have hdr : hs1.drop i = ((A0, n0, c0), l) :: hs1.drop (i + 1) := by
      obtain ⟨h1, h2⟩ := List.getElem?_eq_some_iff.1 hx
      rw [List.drop_eq_getElem_cons h1, h2]
    rw [hdr] at M
    obtain ⟨hl, hcap⟩ := row8_len M (List.mem_cons_of_mem _ (List.mem_cons_self ..))
    have hn0 := hb1 _ (List.mem_of_getElem? hx)
    dsimp only at hn0
    obtain ⟨-, b, off, eA, hc⟩ := (M.d1 2 rfl).vat hhd
    refine p_at (i := i) slbb (by show (Value.slice A hs.length c) = _; rw [eA]) rfl rfl hlt ?_
    refine v_load agg_b rfl hc ?_
    clear hc eA
    replace M := M.swpR
    refine lp (Nat × Option Addr × Nat × List Fact) (fun s W => s.1 ≤ 4 ∧ ((s.2.2.2 = [] ∧ s.2.1 = A0) ∨ s.2.2.2 = [.dat false [dB l] [.slice A0 n0 c0]]) ∧ St w gs W [] (⟨5, 1, s.2.1, n0 + s.1, s.2.2.1, bvs (l ++ fourO i s.1)⟩ :: ⟨23, 1, A3, i, c3, xs⟩ :: rows8 (hs1.drop (i + 1))) (s.2.2.2 ++ [.dat false (d2O hs1 i) xs, .dat false (d1O hs1 i) (h1O hs1 i), .dat false [.sl 1 hs.length ((hdrs8 hs).map D.v)] [.slice A hs.length c]])) (fun s => [(0, .slice A hs.length c), (3, .slice A3 i c3), (6, .int .i64 (i : Nat)), (7, .slice s.2.1 (n0 + s.1) s.2.2.1), (8, .int .i64 (s.1 : Nat))]) (fun s => 4 - s.1) (0, A0, c0, []) ⟨Nat.zero_le _, .inl ⟨rfl, rfl⟩, by rw [show l ++ fourO i 0 = l from List.append_nil l]; exact M⟩ (by repeat (first | exact trivial | refine ⟨rfl, ?_⟩)) ?_
    clear M
    rintro ⟨k, A7, c7, mv⟩ E W ⟨hk, hmv, M⟩
    dsimp only at hk hmv M
    refine p_lt rfl rfl (fun hlk => ?_) (fun hgk => ?_)
    · have hlk : k < 4 := by have h : (k : Int) < 4 := hlk; omega
      refine p_mul rfl rfl (r := ((i * 5 : Nat) : Int)) (by rw [w64 (by omega)]; omega) ?_
      refine p_addN (a := 200) rfl rfl (by omega) ?_
      refine p_addN rfl rfl (by omega) ?_
      refine v_cvt u_intO u_u8O rfl rfl ?_
      refine s_bsliceB [.int .u8 (q2O i k)] M slb zb rfl (by decide) rfl ?_
      clear M; rintro g W M
      refine s_appM M Try.underlying23 u8info rfl (by decide) rfl rfl (Reads.blk (M.B 0 rfl) rfl) (by decide) (all1 rfl) ⟨by omega, by decide⟩ ?_
      clear M; rintro A9 c9 W M
      refine p_addN (b := 1) rfl rfl (by omega) ?_
      rw [bvs_q] at M
      rcases hmv with ⟨rfl, rfl⟩ | rfl
      · rcases M with ⟨rfl, M⟩ | M
        · exact ⟨(k + 1, A9, c9, []), ⟨by dsimp only; omega, .inl ⟨rfl, rfl⟩, M.dropL⟩, (by repeat (first | exact trivial | refine ⟨rfl, ?_⟩)), by dsimp only; omega⟩
        · refine ⟨(k + 1, A9, c9, [.dat false [dB l] [.slice A7 n0 c0]]), ⟨by dsimp only; omega, .inr rfl, ?_⟩, (by repeat (first | exact trivial | refine ⟨rfl, ?_⟩)), by dsimp only; omega⟩
          have e : D.sl 1 (n0 + k) ((bvs (l ++ fourO i k)).map D.v) = dB (l ++ fourO i k) := by
            unfold dB
            rw [List.length_append, fourO_len, hl]
          have hX := M.d1 0 rfl
          rw [e] at hX
          replace M := M.addD (hX.pre8 hl hcap)
          exact (M.fsub [.dat false [dB l] [.slice A7 n0 c0], .dat false (d2O hs1 i) xs, .dat false (d1O hs1 i) (h1O hs1 i), .dat false [.sl 1 hs.length ((hdrs8 hs).map D.v)] [.slice A hs.length c]] (by simp)).dropL
      · refine ⟨(k + 1, A9, c9, [.dat false [dB l] [.slice A0 n0 c0]]), ⟨by dsimp only; omega, .inr rfl, ?_⟩, (by repeat (first | exact trivial | refine ⟨rfl, ?_⟩)), by dsimp only; omega⟩
        rcases M with ⟨-, M⟩ | M
        · exact M.dropL
        · exact (M.fsub [.dat false [dB l] [.slice A0 n0 c0], .dat false (d2O hs1 i) xs, .dat false (d1O hs1 i) (h1O hs1 i), .dat false [.sl 1 hs.length ((hdrs8 hs).map D.v)] [.slice A hs.length c]] (by simp)).dropL
    · have hgk : k = 4 := by have h : ¬ (k : Int) < 4 := hgk; omega
      subst hgk
      replace M := M.frzO
      have M2 : St w gs W [] (⟨23, 1, A3, i, c3, xs⟩ :: rows8 (hs1.drop (i + 1))) [.dat true [dB (l ++ fourO i 4)] [.slice A7 (n0 + 4) c7], .dat false [dB l] [.slice A0 n0 c0], .dat false (d2O hs1 i) xs, .dat false (d1O hs1 i) (h1O hs1 i), .dat false [.sl 1 hs.length ((hdrs8 hs).map D.v)] [.slice A hs.length c]] := by
        rcases hmv with ⟨rfl, rfl⟩ | rfl
        · exact (M.addD ((M.d1 0 rfl).pre8 hl hcap)).fsub _ (by simp)
        · exact M
      clear M
      have hX := (M2.dw 2 rfl).app (M2.dw 0 rfl)
      have hY := (M2.dw 3 rfl).app (M2.dw 1 rfl)
      have e2 : d2O hs1 i ++ [dB (l ++ fourO i 4)] = d2O hs1 (i + 1) := by unfold d2O; rw [rng_succ, itO_eq hx]
      have e1 : d1O hs1 i ++ [dB l] = d1O hs1 (i + 1) := by unfold d1O; rw [rng_succ, itO_eq hx]
      have e3 : h1O hs1 i ++ [.slice A0 n0 c0] = h1O hs1 (i + 1) := by unfold h1O; rw [rng_succ, itO_eq hx]; rfl
      rw [e2] at hX
      rw [e1, e3] at hY
      have M := ((M2.addT hY).addT hX).fsub [.dat false (d2O hs1 (i + 1)) (xs ++ [.slice A7 (n0 + 4) c7]), .dat false (d1O hs1 (i + 1)) (h1O hs1 (i + 1)), .dat false [.sl 1 hs.length ((hdrs8 hs).map D.v)] [.slice A hs.length c]] (by simp)
      clear M2 hX hY
      refine s_bsliceB [.slice A7 (n0 + 4) c7] M slbb zlsO rfl (by decide) rfl ?_
      clear M; rintro g W M
      refine s_app M Try.underlying22 lsinfo rfl (by decide) rfl rfl (Reads.blk (M.B 0 rfl) rfl) (all1 rfl) ⟨by omega, by decide⟩ ?_
      clear M; rintro A8 c8 W M -
      refine p_addN (b := 1) rfl rfl (by omega) ?_
      exact ⟨(i + 1, A8, c8, xs ++ [.slice A7 (n0 + 4) c7]), ⟨by dsimp only; omega, M.dropL⟩, (by repeat (first | exact trivial | refine ⟨rfl, ?_⟩)), by dsimp only; omega⟩
  have hie : i = hs.length := by have h : ¬ (i : Int) < (hs.length : Int) := hge; omega
  subst hie
  clear hge hi
  replace M := M.frzR (fr := false) (M.dt 0 rfl)
  obtain ⟨W5, hW5⟩ : ∃ W5, W5 = W := ⟨_, rfl⟩
  rw [← hW5] at M ⊢
  refine lp Nat (fun i W => i ≤ hs.length ∧ W = W5) (fun i => [(0, .slice A hs.length c), (3, .slice A3 hs.length c3), (9, .int .i64 (i : Nat))]) (fun i => hs.length - i) 0 ⟨Nat.zero_le _, rfl⟩ (by repeat (first | exact trivial | refine ⟨rfl, ?_⟩)) ?_
  clear hW5 W
  rintro i E W ⟨hi, rfl⟩
  refine p_len slbb rfl ?_
  refine p_lt rfl rfl (fun hlt => ?_) (fun hge => ?_)
  rotate_left
  · exact ⟨rfl, M.below⟩
  have hlt : i < hs.length := by have h : (i : Int) < (hs.length : Int) := hlt; omega
  obtain ⟨A0, n0, c0, l, hx, hhd⟩ := hdrs8_at hh hlt
  have hn0 := hb1 _ (List.mem_of_getElem? hx)
  dsimp only at hn0
  obtain ⟨-, b, off, eA, hc⟩ := (M.d1 3 rfl).vat hhd
  refine p_at (i := i) slbb (by show (Value.slice A hs.length c) = _; rw [eA]) rfl rfl hlt ?_
  refine v_load agg_b rfl hc ?_
  refine p_len slb rfl ?_
  obtain ⟨u, hu1, hu2⟩ := (M.da 2 rfl).get (i := i) (d := dB l) (by unfold d1O; rw [rng_at _ hlt, itO_eq hx])
  have hu3 : u = .slice A0 n0 c0 := by
    unfold h1O at hu1
    rw [rng_at _ hlt, itO_eq hx] at hu1
    injection hu1 with hu1
    exact hu1.symm
  subst hu3
  have hl : n0 = l.length := hu2.slen
  refine lp Nat (fun k W' => k ≤ n0 ∧ W' = W) (fun k => [(0, .slice A hs.length c), (3, .slice A3 hs.length c3), (9, .int .i64 (i : Nat)), (10, .int .i64 (n0 : Nat)), (11, .int .i64 (k : Nat))]) (fun k => n0 - k) 0 ⟨Nat.zero_le _, rfl⟩ (by repeat (first | exact trivial | refine ⟨rfl, ?_⟩)) ?_
  rintro k E W ⟨hk, rfl⟩
  refine p_lt rfl rfl (fun hlk => ?_) (fun hgk => ?_)
  · have hlk : k < n0 := by have h : (k : Int) < (n0 : Int) := hlk; omega
    refine p_at (i := i) slbb (by show (Value.slice A hs.length c) = _; rw [eA]) rfl rfl hlt ?_
    refine v_load agg_b rfl hc ?_
    obtain ⟨b2, off2, eA2, hc2⟩ := (hu2.rd Fd.lt).2.2.at_ (k := k) hlk
    refine p_atM (i := k) slb (by show (Value.slice A0 n0 c0) = _; rw [eA2]) rfl rfl hlk (by rw [Nat.mul_one]) ?_
    refine v_load agg_u8 rfl hc2 ?_
    refine p_mul rfl rfl (r := ((i * 31 : Nat) : Int)) (by rw [w64 (by omega)]; omega) ?_
    refine p_remN (b := 7) rfl rfl (by decide) ?_
    refine p_addN rfl rfl (by omega) ?_
    refine v_cvt u_intO u_u8O rfl rfl ?_
    have hq : u8v (l.getD k 0) = .int .u8 (q1O i k) := by
      rw [List.getD_eq_getElem?_getD, hfin i _ hx k (by dsimp only; omega)]
      exact u8v_b8 _ (q1O_r i k).1 (q1O_r i k).2
    refine p_ne (a := q1O i k) hq rfl (fun _ => ?_) (fun h => absurd rfl h)
    refine p_addN (b := 1) rfl rfl (by omega) ?_
    exact ⟨k + 1, ⟨by omega, rfl⟩, (by repeat (first | exact trivial | refine ⟨rfl, ?_⟩)), by omega⟩
  obtain ⟨b3, off3, es, e3, hF3, hes, hel, hc3⟩ := (M.d1 0 rfl).at_ hlt
  have e3 : A3 = _ := e3
  have e4 : ((d2O hs1 hs.length).drop (i * 1)).take 1 = [dB (l ++ fourO i 4)] := one_at (by rw [Nat.mul_one]; unfold d2O; rw [rng_at _ hlt, itO_eq hx])
  rw [e4] at hes
  obtain ⟨u, us, rfl, hu, -⟩ := hes.uncons
  obtain ⟨A7, c7, rfl, -⟩ := hu.open_
  have hc4 := hc3 0 _ rfl
  rw [Nat.add_zero] at hc4
  have hl4 : (l ++ fourO i 4).length = n0 + 4 := by rw [List.length_append, fourO_len]; omega
  refine lp Nat (fun k W' => k ≤ 4 ∧ W' = W) (fun k => [(0, .slice A hs.length c), (3, .slice A3 hs.length c3), (9, .int .i64 (i : Nat)), (10, .int .i64 (n0 : Nat)), (12, .int .i64 (k : Nat))]) (fun k => 4 - k) 0 ⟨Nat.zero_le _, rfl⟩ (by repeat (first | exact trivial | refine ⟨rfl, ?_⟩)) ?_
  rintro k2 E W ⟨hk2, rfl⟩
  refine p_lt rfl rfl (fun hlk => ?_) (fun hgk => ?_)
  · have hlk : k2 < 4 := by have h : (k2 : Int) < 4 := hlk; omega
    refine p_atM (i := i) slbb (by show (Value.slice A3 hs.length c3) = _; rw [e3]) rfl rfl hlt rfl ?_
    refine v_load agg_b rfl hc4 ?_
    refine p_addN rfl rfl (by omega) ?_
    obtain ⟨b2, off2, eA2, hc2⟩ := (hu.rd Fd.lt).2.2.at_ (k := n0 + k2) (by rw [hl4]; omega)
    refine p_atM (i := n0 + k2) slb (by show (Value.slice A7 _ c7) = _; rw [eA2]) rfl rfl (by rw [hl4]; omega) (by rw [Nat.mul_one]) ?_
    refine v_load agg_u8 rfl hc2 ?_
    refine p_mul rfl rfl (r := ((i * 5 : Nat) : Int)) (by rw [w64 (by omega)]; omega) ?_
    refine p_addN (a := 200) rfl rfl (by omega) ?_
    refine p_addN rfl rfl (by omega) ?_
    refine v_cvt u_intO u_u8O rfl rfl ?_
    have hq : u8v ((l ++ fourO i 4).getD (n0 + k2) 0) = .int .u8 (q2O i k2) := by
      rw [List.getD_eq_getElem?_getD, List.getElem?_append_right (by omega), show n0 + k2 - l.length = k2 by omega, fourO_at i hlk]
      exact u8v_b8 _ (q2O_r i k2).1 (q2O_r i k2).2
    refine p_ne (a := q2O i k2) hq rfl (fun _ => ?_) (fun h => absurd rfl h)
    refine p_addN (b := 1) rfl rfl (by omega) ?_
    exact ⟨k2 + 1, ⟨by omega, rfl⟩, (by repeat (first | exact trivial | refine ⟨rfl, ?_⟩)), by omega⟩
  refine p_addN (b := 1) rfl rfl (by omega) ?_
  exact ⟨i + 1, ⟨by omega, rfl⟩, (by repeat (first | exact trivial | refine ⟨rfl, ?_⟩)), by omega⟩
end Go.Proofs.Ytliccofjlheceaa
namespace Go.Proofs.Ytliccofjlheceaa
open Go.RowKit
def hd3 : Value → Hd3
  | .slice A n c => (A, n, c)
  | _ => (none, 0, 0)
theorem hs_of {W : World} {base : Nat} {vs : List Value} {ll : List (List UInt8)} (h : ElsOwn W base vs ll) : ∃ hs : List (Hd3 × List UInt8), hdrs8 hs = vs ∧ hs.map (fun x => x.2) = ll ∧ ∀ x ∈ hs, Own W base x.1.1 x.1.2.1 x.1.2.2 x.2 := by
  have key : ∀ k, k < vs.length → ∃ A n c l, vs[k]? = some (.slice A n c) ∧ ll[k]? = some l ∧ Own W base A n c l := fun k hk => by
    obtain ⟨A, n, c, e, ho⟩ := h.own k _ _ (List.getElem?_eq_getElem hk) (List.getElem?_eq_getElem (by rw [← h.len]; exact hk))
    exact ⟨A, n, c, _, by rw [List.getElem?_eq_getElem hk, e], List.getElem?_eq_getElem (by rw [← h.len]; exact hk), ho⟩
  refine ⟨(List.range vs.length).map fun k => (hd3 (vs.getD k (.bool false)), ll.getD k []), ?_, ?_, ?_⟩
  · unfold hdrs8
    refine List.ext_getElem? fun k => ?_
    rw [List.map_map]
    by_cases hk : k < vs.length
    · obtain ⟨A, n, c, l, h1, h2, -⟩ := key k hk
      rw [List.getElem?_map, List.getElem?_range hk, h1]
      simp only [Option.map_some, Function.comp_apply, List.getD_eq_getElem?_getD, h1]
      rfl
    · rw [List.getElem?_eq_none (by rw [List.length_map, List.length_range]; omega), List.getElem?_eq_none (by omega)]
  · refine List.ext_getElem? fun k => ?_
    rw [List.map_map]
    by_cases hk : k < vs.length
    · obtain ⟨A, n, c, l, h1, h2, -⟩ := key k hk
      rw [List.getElem?_map, List.getElem?_range hk, h2]
      simp only [Option.map_some, Function.comp_apply, List.getD_eq_getElem?_getD, h2]
      rfl
    · rw [List.getElem?_eq_none (by rw [List.length_map, List.length_range]; omega), List.getElem?_eq_none (by rw [← h.len]; omega)]
  · intro x hx
    obtain ⟨k, hk, rfl⟩ := List.mem_map.1 hx
    obtain ⟨A, n, c, l, h1, h2, h3⟩ := key k (List.mem_range.1 hk)
    simp only [List.getD_eq_getElem?_getD, h1, h2]
    exact h3
theorem St.ofOwnS {w W : World} {base n c : Nat} {A : Option Addr} {ll : List (List UInt8)} (hb : Below w.heap.size w W) (h : OwnS W base A n c ll) (hbase : w.heap.size ≤ base) :
    ∃ hs : List (Hd3 × List UInt8), hs.map (fun x => x.2) = ll ∧ St w [] W [] (rows8 hs) [.dat false [.sl 1 hs.length ((hdrs8 hs).map D.v)] [.slice A n c]] := by
  obtain ⟨vs, hrow, hels⟩ := h
  obtain ⟨hs, rfl, e2, ho⟩ := hs_of hels
  have hlen : hs.length = n := by
    have := hrow.1
    unfold hdrs8 at this
    rw [List.length_map] at this; omega
  have hown : ∀ b, some b ∈ (rows8 hs).map (fun r => bk r.A) → ∃ x ∈ hs, bk x.1.1 = some b := fun b hb => by
    obtain ⟨r, hr, e⟩ := List.mem_map.1 hb
    obtain ⟨x, hx, rfl⟩ := List.mem_map.1 hr
    exact ⟨x, hx, e⟩
  refine ⟨hs, e2, hb, (fun b h => by cases h), (fun x h => by cases h), fun r hr => ?_, ?_, fun f hf => ?_⟩
  · obtain ⟨x, hx, rfl⟩ := List.mem_map.1 hr
    exact row_less (ho x hx) hbase
  · have e : (rows8 hs).map (fun r => bk r.A) = (hdrs8 hs).map Value.ownBlock := by
      unfold rows8 hdrs8
      rw [List.map_map, List.map_map]
      refine List.map_congr_left fun x _ => ?_
      exact (own_bk _ _ _).symm
    rw [List.map_nil, List.nil_append, e, List.pairwise_map, List.pairwise_iff_getElem]
    intro i j hi hj hij
    exact hels.far i j _ _ (List.getElem?_eq_getElem hi) (List.getElem?_eq_getElem hj) (by omega)
  · rw [List.mem_singleton.1 hf]
    rw [hlen]
    refine RdL.one (rdD_row hrow (RdL.ofvals _) fun b h1 h2 h3 => ⟨h2, fun e => ?_, fun e => by cases e⟩)
    have e : some b ∈ (rows8 hs).map (fun r => bk r.A) := by
      unfold own at e
      rw [List.map_nil, List.nil_append, List.append_nil] at e
      exact e
    obtain ⟨x, hx, ex⟩ := hown b e
    rcases rows_apart (show (23 : TypeId) ≠ 5 by decide) hrow (ho x hx) with h4 | h4
    · rw [h3] at h4; cases h4
    · exact h4 (by rw [h3, own_bk, ex])
theorem own00_lists {w W : World} {base n c : Nat} {A : Option Addr} {ll : List (List UInt8)} (hb : Below w.heap.size w W) (h : OwnS W base A n c ll) (hbase : w.heap.size ≤ base) (hn : n ≤ 1000000) (hl : ∀ l ∈ ll, l.length ≤ 100000000) :
    Calls Try.prog 17 #[.slice A n c] W fun e W' => e = .returned (.bool true) ∧ Below w.heap.size w W' := by
  have hlen := h.len
  obtain ⟨hs, rfl, M⟩ := St.ofOwnS hb h hbase
  rw [List.length_map] at hlen
  exact own00_any M (by omega) (fun x hx => hl _ (List.mem_map.2 ⟨x, hx, rfl⟩))
end Go.Proofs.Ytliccofjlheceaa
namespace Go.Proofs.Ytliccofjlheceaa

/-- A number's bytes: seven bits each, the lowest first (so many at most as the first argument says). -/
def putF : Nat → Nat → List UInt8
  | 0, _ => []
  | f + 1, n => if n < 128 then [b8 (n : Int)] else b8 ((n % 128 + 128 : Nat) : Int) :: putF f (n / 128)
def putN (n : Nat) : List UInt8 := putF (n + 1) n
theorem putF_any : ∀ (f g n : Nat), n < f → n < g → putF f n = putF g n
  | f + 1, g + 1, n, hf, hg => by
    unfold putF
    by_cases h : n < 128
    · rw [if_pos h, if_pos h]
    · rw [if_neg h, if_neg h, putF_any f g (n / 128) (by omega) (by omega)]
theorem putN_lt {n : Nat} (h : n < 128) : putN n = [b8 (n : Int)] := by unfold putN putF; rw [if_pos h]
theorem putN_ge {n : Nat} (h : ¬ n < 128) : putN n = b8 ((n % 128 + 128 : Nat) : Int) :: putN (n / 128) := by
  unfold putN; rw [putF, if_neg h, putF_any n (n / 128 + 1) (n / 128) (by omega) (by omega)]
theorem putN_pos (n : Nat) : 1 ≤ (putN n).length := by
  by_cases h : n < 128
  · rw [putN_lt h]; simp
  · rw [putN_ge h]; simp
theorem putN_len : ∀ (k n : Nat), n < 128 ^ (k + 1) → (putN n).length ≤ k + 1
  | 0, n, h => by rw [putN_lt (by simpa using h)]; simp
  | k + 1, n, h => by
    by_cases h1 : n < 128
    · rw [putN_lt h1]; simp
    · rw [putN_ge h1, List.length_cons]
      have := putN_len k (n / 128) (by rw [Nat.div_lt_iff_lt_mul (by omega)]; rw [Nat.pow_succ] at h; exact h)
      omega
theorem putN_len10 {n : Nat} (h : n < 18446744073709551616) : (putN n).length ≤ 10 := putN_len 9 n (Nat.lt_of_lt_of_le h (by decide))
/-- The number that stands at the head of some bytes, at the i-th of which we are: the number, how many bytes, an error. -/
def getF : List UInt8 → Nat → Nat → Nat × Nat × Int
  | [], _, _ => (0, 0, 10)
  | c :: l, i, acc => if (i = 9 ∧ 1 < c.toNat) ∨ (c.toNat = 0 ∧ 0 < i) then (0, 0, 11) else if c.toNat < 128 then (acc + c.toNat * 128 ^ i, i + 1, 0) else getF l (i + 1) (acc + (c.toNat - 128) * 128 ^ i)

theorem getF_step (l : List UInt8) (a k acc : Nat) (h : a + k < l.length) : getF (l.drop (a + k)) k acc =
    if (k = 9 ∧ 1 < at8 l (a + k)) ∨ (at8 l (a + k) = 0 ∧ 0 < k) then (0, 0, 11) else if at8 l (a + k) < 128 then (acc + (at8 l (a + k)).toNat * 128 ^ k, k + 1, 0) else getF (l.drop (a + (k + 1))) (k + 1) (acc + ((at8 l (a + k)).toNat - 128) * 128 ^ k) := by
  rw [List.drop_eq_getElem_cons h, getF, at8_of l _ h, Int.toNat_natCast]
  have e1 : ((k = 9 ∧ 1 < l[a + k].toNat) ∨ (l[a + k].toNat = 0 ∧ 0 < k)) ↔ ((k = 9 ∧ (1 : Int) < (l[a + k].toNat : Int)) ∨ ((l[a + k].toNat : Int) = 0 ∧ 0 < k)) := by omega
  have e2 : (l[a + k].toNat < 128) ↔ ((l[a + k].toNat : Int) < 128) := by omega
  simp only [e1, e2]
  rfl
theorem getF_end (l : List UInt8) (a k acc : Nat) (h : l.length ≤ a + k) : getF (l.drop (a + k)) k acc = (0, 0, 10) := by
  rw [List.drop_eq_nil_of_le h]; rfl

/-- What is read is a number of 64 bits, no more than there is, and written as the bytes that stand there. -/
theorem getF_ok : ∀ (l : List UInt8) (i acc n t : Nat), acc < 128 ^ i → i ≤ 9 → getF l i acc = (n, t, 0) → ∃ m, n = acc + m * 128 ^ i ∧ n < 18446744073709551616 ∧ t = i + (putN m).length ∧ t ≤ i + l.length ∧ l.take (putN m).length = putN m ∧ (0 < i → 0 < m)
  | [], i, acc, n, t, _, _, h => by simp [getF] at h
  | c :: l, i, acc, n, t, ha, hi, h => by
    rw [getF] at h
    split at h
    · simp at h
    · rename_i hc
      have hc1 : ¬ (i = 9 ∧ 1 < c.toNat) := fun e => hc (.inl e)
      have hc2 : ¬ (c.toNat = 0 ∧ 0 < i) := fun e => hc (.inr e)
      have c256 := c.toNat_lt
      split at h
      · rename_i hlt
        simp only [Prod.mk.injEq, and_true] at h
        obtain ⟨rfl, rfl⟩ := h
        have e : putN c.toNat = [c] := by rw [putN_lt hlt, b8_nat]
        refine ⟨c.toNat, rfl, ?_, by rw [e]; rfl, by simp, by rw [e]; rfl, by omega⟩
        by_cases h9 : i = 9
        · subst h9
          have : c.toNat ≤ 1 := by omega
          have hp : (128 : Nat) ^ 9 = 9223372036854775808 := by decide
          rw [hp] at ha ⊢
          have : c.toNat * 9223372036854775808 ≤ 1 * 9223372036854775808 := Nat.mul_le_mul_right _ this
          omega
        · have h1 : c.toNat * 128 ^ i ≤ 127 * 128 ^ i := Nat.mul_le_mul_right _ (by omega)
          have h2 : 128 ^ (i + 1) ≤ 128 ^ 9 := Nat.pow_le_pow_right (by omega) (by omega)
          have hp : (128 : Nat) ^ 9 = 9223372036854775808 := by decide
          rw [hp, Nat.pow_succ] at h2
          omega
      · rename_i hge
        have hi8 : i ≤ 8 := by omega
        have hpow : 128 ^ (i + 1) = 128 ^ i * 128 := Nat.pow_succ ..
        have h1 : (c.toNat - 128) * 128 ^ i ≤ 127 * 128 ^ i := Nat.mul_le_mul_right _ (by omega)
        obtain ⟨m, hn, hlt, ht, hl, htk, hm⟩ := getF_ok l (i + 1) _ n t (by rw [hpow]; omega) (by omega) h
        have hm0 := hm (by omega)
        have e : putN (c.toNat - 128 + 128 * m) = c :: putN m := by
          rw [putN_ge (by omega)]
          rw [show (c.toNat - 128 + 128 * m) % 128 + 128 = c.toNat by omega, show (c.toNat - 128 + 128 * m) / 128 = m by omega, b8_nat]
        refine ⟨c.toNat - 128 + 128 * m, ?_, hlt, by rw [e, ht, List.length_cons]; omega, by rw [List.length_cons]; omega, by rw [e, List.length_cons, List.take_succ_cons, htk], by omega⟩
        rw [hn, hpow, Nat.add_mul, Nat.add_assoc, Nat.mul_comm (128 ^ i) 128, ← Nat.mul_assoc, Nat.mul_comm m 128]
/-- A number's bytes are read as it. -/
theorem getF_put : ∀ (f m i acc : Nat) (r : List UInt8), m < f → (0 < i → 0 < m) → i ≤ 9 → m * 128 ^ i < 18446744073709551616 → getF (putN m ++ r) i acc = (acc + m * 128 ^ i, i + (putN m).length, 0)
  | f + 1, m, i, acc, r, hf, h0, hi, hm => by
    have hb : ∀ x : Nat, x < 256 → (b8 (x : Int)).toNat = x := fun x hx => by unfold b8; rw [UInt8.toNat_ofNat']; omega
    by_cases h : m < 128
    · rw [putN_lt h, List.singleton_append, getF, hb m (by omega)]
      have h9 : ¬ (i = 9 ∧ 1 < m) := by
        rintro ⟨rfl, h1⟩
        have hp : (128 : Nat) ^ 9 = 9223372036854775808 := by decide
        rw [hp] at hm; omega
      rw [if_neg (by omega), if_pos h]
      rfl
    · rw [putN_ge h, List.cons_append, getF, hb _ (by omega)]
      have h9 : i ≤ 8 := by
        by_cases e : i = 9
        · subst e
          have hp : (128 : Nat) ^ 9 = 9223372036854775808 := by decide
          rw [hp] at hm; omega
        · omega
      rw [if_neg (by omega), if_neg (by omega)]
      have hd : m % 128 + m / 128 * 128 = m := by omega
      have hpow : 128 ^ (i + 1) = 128 ^ i * 128 := Nat.pow_succ ..
      have hle : m / 128 * 128 ^ (i + 1) ≤ m * 128 ^ i := by
        rw [hpow, Nat.mul_comm (128 ^ i) 128, ← Nat.mul_assoc]
        exact Nat.mul_le_mul_right _ (by omega)
      rw [getF_put f (m / 128) (i + 1) _ r (by omega) (by omega) (by omega) (by omega)]
      have e : m % 128 + 128 - 128 = m % 128 := by omega
      rw [e, List.length_cons]
      refine Prod.ext ?_ (Prod.ext ?_ rfl)
      · show acc + m % 128 * 128 ^ i + m / 128 * 128 ^ (i + 1) = acc + m * 128 ^ i
        rw [hpow, Nat.mul_comm (128 ^ i) 128, ← Nat.mul_assoc, Nat.add_assoc, ← Nat.add_mul, hd]
      · show i + 1 + (putN (m / 128)).length = i + ((putN (m / 128)).length + 1)
        omega
/-- An error's number is one of these. -/
theorem getF_err : ∀ (l : List UInt8) (i acc : Nat), (getF l i acc).2.2 = 0 ∨ ((getF l i acc).2.2 = 10 ∧ (getF l i acc).1 = 0) ∨ ((getF l i acc).2.2 = 11 ∧ (getF l i acc).1 = 0)
  | [], i, acc => by simp [getF]
  | c :: l, i, acc => by
    unfold getF
    split
    · simp
    · split
      · simp
      · exact getF_err l _ _

/-- Get: the error, the number, the place behind it. -/
def gE (l : List UInt8) (at_ : Int) : Int := if at_ < 0 ∨ (l.length : Int) < at_ then 2 else (getF (l.drop at_.toNat) 0 0).2.2
def gN (l : List UInt8) (at_ : Int) : Int := if at_ < 0 ∨ (l.length : Int) < at_ then 0 else ((getF (l.drop at_.toNat) 0 0).1 : Int)
def gTo (l : List UInt8) (at_ : Int) : Int := if gE l at_ = 0 then at_ + ((getF (l.drop at_.toNat) 0 0).2.1 : Int) else 0
theorem g_out {l : List UInt8} {a : Int} (h : a < 0 ∨ (l.length : Int) < a) : gE l a = 2 ∧ gN l a = 0 ∧ gTo l a = 0 := by
  have e : gE l a = 2 := by unfold gE; rw [if_pos h]
  exact ⟨e, by unfold gN; rw [if_pos h], by unfold gTo; rw [e]; rfl⟩
theorem g_in {l : List UInt8} {a : Nat} (h : a ≤ l.length) : gE l (a : Int) = (getF (l.drop a) 0 0).2.2 ∧ gN l (a : Int) = ((getF (l.drop a) 0 0).1 : Int) := by
  have hn : ¬ ((a : Int) < 0 ∨ (l.length : Int) < (a : Int)) := by omega
  exact ⟨by unfold gE; rw [if_neg hn]; rfl, by unfold gN; rw [if_neg hn]; rfl⟩
theorem g_fail {l : List UInt8} {a : Nat} {x : Int} (h : a ≤ l.length) (hx : x ≠ 0) (k : getF (l.drop a) 0 0 = (0, 0, x)) : gE l (a : Int) = x ∧ gN l (a : Int) = 0 ∧ gTo l (a : Int) = 0 := by
  obtain ⟨h1, h2⟩ := g_in h
  rw [k] at h1 h2
  exact ⟨h1, h2, by unfold gTo; rw [h1]; rw [if_neg hx]⟩
theorem g_done {l : List UInt8} {a n t : Nat} (h : a ≤ l.length) (k : getF (l.drop a) 0 0 = (n, t, 0)) : gE l (a : Int) = 0 ∧ gN l (a : Int) = (n : Int) ∧ gTo l (a : Int) = ((a + t : Nat) : Int) := by
  obtain ⟨h1, h2⟩ := g_in h
  rw [k] at h1 h2
  refine ⟨h1, h2, ?_⟩
  unfold gTo; rw [h1, if_pos rfl, Int.toNat_natCast, k]; simp
theorem gN_nonneg (l : List UInt8) (a : Int) : 0 ≤ gN l a := by unfold gN; split <;> omega
/-- What has been read, in full. -/
theorem g_ok {l : List UInt8} {a : Int} (h : gE l a = 0) : ∃ (x t : Nat), a = (x : Int) ∧ x ≤ l.length ∧ t = (putN (gN l a).toNat).length ∧ gTo l a = ((x + t : Nat) : Int) ∧ 1 ≤ t ∧ x + t ≤ l.length ∧ (l.drop x).take t = putN (gN l a).toNat ∧ gN l a < 18446744073709551616 := by
  by_cases ho : a < 0 ∨ (l.length : Int) < a
  · rw [(g_out ho).1] at h; cases h
  · obtain ⟨x, rfl⟩ := Int.eq_ofNat_of_zero_le (show 0 ≤ a by omega)
    have hx : x ≤ l.length := by omega
    obtain ⟨h1, h2⟩ := g_in hx
    rw [h] at h1
    obtain ⟨n, t, hk⟩ : ∃ n t, getF (l.drop x) 0 0 = (n, t, 0) := ⟨(getF (l.drop x) 0 0).1, (getF (l.drop x) 0 0).2.1, Prod.ext rfl (Prod.ext rfl h1.symm)⟩
    obtain ⟨d1, d2, d3⟩ := g_done hx hk
    obtain ⟨m, hn, hlt, ht, hl, htk, _⟩ := getF_ok (l.drop x) 0 0 n t (by simp) (by omega) hk
    have hmn : m = n := by simpa using hn.symm
    subst hmn
    have hp := putN_pos m
    rw [List.length_drop] at hl
    refine ⟨x, t, rfl, hx, ?_, d3, by omega, by omega, ?_, by rw [d2]; omega⟩
    · rw [d2, Int.toNat_natCast]; omega
    · rw [d2, Int.toNat_natCast]; rw [show t = (putN m).length by omega]; exact htk
theorem gN_lt (l : List UInt8) (a : Int) : gN l a < 18446744073709551616 := by
  by_cases h : gE l a = 0
  · obtain ⟨_, _, _, _, _, _, _, _, _, hlt⟩ := g_ok h; exact hlt
  · by_cases ho : a < 0 ∨ (l.length : Int) < a
    · rw [(g_out ho).2.1]; omega
    · obtain ⟨x, rfl⟩ := Int.eq_ofNat_of_zero_le (show 0 ≤ a by omega)
      obtain ⟨h1, h2⟩ := g_in (l := l) (a := x) (by omega)
      rcases getF_err (l.drop x) 0 0 with e | e | e
      · exact absurd (h1.trans e) h
      · rw [h2, e.2]; omega
      · rw [h2, e.2]; omega
/-- Bytes behind others: what stands there is read. -/
theorem g_put (p : List UInt8) (n : Nat) (r : List UInt8) (h : n < 18446744073709551616) : gE (p ++ (putN n ++ r)) (p.length : Int) = 0 ∧ gN (p ++ (putN n ++ r)) (p.length : Int) = (n : Int) ∧ gTo (p ++ (putN n ++ r)) (p.length : Int) = ((p.length + (putN n).length : Nat) : Int) := by
  have e := getF_put (n + 1) n 0 0 r (by omega) (by omega) (by omega) (by simpa using h)
  rw [show 0 + n * 128 ^ 0 = n by simp, Nat.zero_add] at e
  exact g_done (by simp) (by rw [List.drop_left]; exact e)

/-- PutInt: a number with a sign. -/
def zig (n : Int) : Nat := if n < 0 then (-2 * n - 1).toNat else (2 * n).toNat
theorem zig_lt {n : Int} (h0 : -9223372036854775808 ≤ n) (h1 : n ≤ 9223372036854775807) : zig n < 18446744073709551616 := by unfold zig; split <;> omega

/-- GetBytes: the error, the bytes, the place behind. -/
def gbE (l : List UInt8) (a : Int) : Int := if gE l a ≠ 0 then gE l a else if 1048576 < gN l a then 3 else if (l.length : Int) - gTo l a < gN l a then 10 else 0
def gbL (l : List UInt8) (a : Int) : List UInt8 := if gbE l a = 0 then (l.drop (gTo l a).toNat).take (gN l a).toNat else []
def gbTo (l : List UInt8) (a : Int) : Int := if gbE l a = 0 then gTo l a + gN l a else 0
theorem gb_err1 {l : List UInt8} {a : Int} (h : gE l a ≠ 0) : gbE l a = gE l a ∧ gbL l a = [] ∧ gbTo l a = 0 := by
  have e : gbE l a = gE l a := by unfold gbE; rw [if_pos h]
  exact ⟨e, by unfold gbL; rw [if_neg (by rw [e]; exact h)], by unfold gbTo; rw [if_neg (by rw [e]; exact h)]⟩
theorem gb_err2 {l : List UInt8} {a : Int} (h : gE l a = 0) (k : 1048576 < gN l a) : gbE l a = 3 ∧ gbL l a = [] ∧ gbTo l a = 0 := by
  have e : gbE l a = 3 := by unfold gbE; rw [if_neg (fun x => x h), if_pos k]
  exact ⟨e, by unfold gbL; rw [if_neg (by rw [e]; decide)], by unfold gbTo; rw [if_neg (by rw [e]; decide)]⟩
theorem gb_err3 {l : List UInt8} {a : Int} (h : gE l a = 0) (k : ¬ 1048576 < gN l a) (m : (l.length : Int) - gTo l a < gN l a) : gbE l a = 10 ∧ gbL l a = [] ∧ gbTo l a = 0 := by
  have e : gbE l a = 10 := by unfold gbE; rw [if_neg (fun x => x h), if_neg k, if_pos m]
  exact ⟨e, by unfold gbL; rw [if_neg (by rw [e]; decide)], by unfold gbTo; rw [if_neg (by rw [e]; decide)]⟩
theorem gb_ok {l : List UInt8} {a : Int} (h : gE l a = 0) (k : ¬ 1048576 < gN l a) (m : ¬ (l.length : Int) - gTo l a < gN l a) : gbE l a = 0 ∧ gbL l a = (l.drop (gTo l a).toNat).take (gN l a).toNat ∧ gbTo l a = gTo l a + gN l a := by
  have e : gbE l a = 0 := by unfold gbE; rw [if_neg (fun x => x h), if_neg k, if_neg m]
  exact ⟨e, by unfold gbL; rw [if_pos e], by unfold gbTo; rw [if_pos e]⟩
theorem gb_cases (l : List UInt8) (a : Int) : (gE l a ≠ 0) ∨ (gE l a = 0 ∧ 1048576 < gN l a) ∨ (gE l a = 0 ∧ ¬ 1048576 < gN l a ∧ (l.length : Int) - gTo l a < gN l a) ∨ (gE l a = 0 ∧ ¬ 1048576 < gN l a ∧ ¬ (l.length : Int) - gTo l a < gN l a) := by
  by_cases h1 : gE l a = 0
  · by_cases h2 : 1048576 < gN l a
    · exact .inr (.inl ⟨h1, h2⟩)
    · by_cases h3 : (l.length : Int) - gTo l a < gN l a
      · exact .inr (.inr (.inl ⟨h1, h2, h3⟩))
      · exact .inr (.inr (.inr ⟨h1, h2, h3⟩))
  · exact .inl h1
/-- PutBytes. -/
def putB (s : List UInt8) : List UInt8 := putN s.length ++ s
end Go.Proofs.Ytliccofjlheceaa
namespace Go.Proofs.Ytliccofjlheceaa
open Go.RowKit

theorem or128 (x : Int) (h0 : 0 ≤ x) (h1 : x ≤ 255) : bits .or .u8 x 128 = x % 128 + 128 := by
  have h : ∀ y : Fin 256, bits .or .u8 (y.val : Int) 128 = (y.val : Int) % 128 + 128 := by decide +kernel
  have := h ⟨x.toNat, by omega⟩
  simp only [Int.toNat_of_nonneg h0] at this
  exact this

set_option maxRecDepth 100000 in
set_option maxHeartbeats 400000 in
theorem put_any (n : Nat) (w : World) (hlen : (putN n).length ≤ 10) :
    Calls Try.prog 34 #[.int .u64 n] w fun e w' => ∃ A' c', e = .returned (.slice A' (putN n).length c') ∧ Own w' w.heap.size A' (putN n).length c' (putN n) ∧ Below w.heap.size w w' := by
  go_enter Try.func34, Try.ntmps34
  go_wp2
  go_loopw [0, 3] (fun i v wr => ∃ (x : Nat) (o : List UInt8) (k : Nat) (A' : Option Addr) (c' : Nat), i = .int .u64 x ∧ v = .slice A' k c' ∧ Own wr w.heap.size A' k c' o ∧ o ++ putN x = putN n ∧ Below w.heap.size w wr) (fun i _ _ => (intOf i).toNat)
  case atStart => exact ⟨n, [], 0, none, 0, rfl, rfl, Own.nil_ _ _, rfl, Below.refl _ _⟩
  case round =>
    obtain ⟨x, o, k, A', c', rfl, rfl, hown, hx, hb⟩ := hrel
    have hk : k ≤ 10 := by
      have h1 := congrArg List.length hx
      rw [List.length_append, hown.len] at h1
      omega
    have Hx := Lib.hid hx
    clear hx
    by_cases hlt : x < 128
    · have hp := Lib.hid (putN_lt hlt)
      have hw : IntKind.u8.wrap (x : Int) = x := IntWalk.u8_in _ (by omega)
      have hm : (x : Int) % 256 = x := by omega
      go_wp2_with (at_builtin; refine wpList_app rfl _ _ rfl rfl (hown.alloc _) rfl (Rd.lit1 _ _ (by omega)) (by omega) (by simp; have := hb.size; omega) ?_; intro A2 c2 w2 hown2 hg2)
      have hb2 := below_own (belowA hb _) (hown.alloc _) hg2
      go_ret
      have e1 : o ++ [b8 (x : Int)] = putN n := by rw [← hp.out]; exact Hx.out
      rw [e1] at hown2
      have e2 := hown2.len
      exact ⟨A2, c2, ret_slice e2.symm, by rw [e2]; exact hown2, hb2⟩
    · have hp := Lib.hid (putN_ge hlt)
      have hm : IntKind.u8.wrap (x : Int) = (x : Int) % 256 := IntKind.wrap_u8 _
      have ho := or128 ((x : Int) % 256) (by omega) (by omega)
      have he : (x : Int) % 128 + 128 = ((x % 128 + 128 : Nat) : Int) := by omega
      have He := Lib.hid he
      clear he
      go_wp2_with (at_builtin; refine wpList_app rfl _ _ rfl rfl (hown.alloc _) rfl (Rd.lit1 _ _ (by omega)) (by omega) (by simp; have := hb.size; omega) ?_; intro A2 c2 w2 hown2 hg2)
      have hb2 := below_own (belowA hb _) (hown.alloc _) hg2
      clear hm ho
      go_roundw
      case rel => exact ⟨x / 128, o ++ [b8 ((x : Int) % 128 + 128)], k + 1, A2, c2, by go_num, rfl, hown2, by rw [He.out, List.append_assoc, List.singleton_append, ← hp.out]; exact Hx.out, hb2⟩
      case measure => simp [intOf]; omega

set_option maxRecDepth 100000 in
set_option maxHeartbeats 400000 in
theorem putBytes_any (A : Option Addr) (n c : Nat) (l : List UInt8) (w : World) (hr : Rd w w.heap.size A n l) (hn : n ≤ 100000000000) :
    Calls Try.prog 36 #[.slice A n c] w fun e w' => ∃ A' c', e = .returned (.slice A' ((putN n).length + n) c') ∧ Own w' w.heap.size A' ((putN n).length + n) c' (putB l) ∧ Below w.heap.size w w' := by
  have hln := Lib.hid hr.len
  have hlen := putN_len10 (n := n) (by omega)
  have hw : IntKind.u64.wrap (n : Int) = n := IntWalk.u64_in _ (by omega)
  go_enter Try.func36, Try.ntmps36
  go_wp2_with fail
  refine (put_any n _ hlen).mono ?_
  rintro e w1 ⟨A1, c1, rfl, o1, b1⟩
  go_wp2_with (at_builtin; refine wpList_app rfl _ _ rfl rfl o1 rfl (hr.up b1) (by omega) b1.size ?_; intro A2 c2 w2 o2 g2)
  have b2 := below_own b1 o1 g2
  go_ret
  exact ⟨A2, c2, rfl, by unfold putB; rw [hln.out]; exact o2, b2⟩
end Go.Proofs.Ytliccofjlheceaa
