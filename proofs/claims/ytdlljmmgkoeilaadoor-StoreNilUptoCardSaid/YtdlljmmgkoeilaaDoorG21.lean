/- Seek: all. Seek: some. Seek: Range, Back, From. A store, plainly: how long a way to a stub is; what is left behind something that is done. A store into a row of bytes. append onto a row: what the old cells still hold. No program in sight. Operations on arrays. No program in sight. Words turned to the right: the walks of bits.RotateLeft32 and of digest's turn. SHA-256, plainly. -/
import Derived.Test.YtdlljmmgkoeilaaDoorG20
import Derived.Test.YtdlljmmgkoeilaaDoorG18
import Derived.Test.YtdlljmmgkoeilaaDoorG13
import Derived.Test.YtdlljmmgkoeilaaDoorG16
import Derived.Test.YtdlljmmgkoeilaaDoorG05
import Derived.Test.YtdlljmmgkoeilaaDoorG03
import Derived.Laws.BitsAllLaws
namespace Go.Proofs.YtdlljmmgkoeilaaDoor
open Go.RowKit
theorem walk_any (s : Span) (hs : s.lo.length ≤ 1000000 ∧ s.hi.length ≤ 1000000) (back : Bool) : ∀ (N : Nat), ∀ t : Nd, sz t < N → WalkOk s back t
  | 0, t, h => by omega
  | N + 1, t, h => walk_step s hs back N (fun k hk => walk_any s hs back N k hk) t (by omega)
theorem is_all : isFn Tryd.prog 68 = true := by kernel_rfl
theorem is_all1 : isFn Tryd.prog 80 = true := by kernel_rfl
set_option maxRecDepth 100000 in
set_option maxHeartbeats 1000000 in
theorem all1_any {l : Nat} {go : List Fnd → Bool} {J : List (Option Nat) → List Fnd → World → Prop} {NB : Nat} (hY : YOk Tryd.prog l FndG go NB J) (t : Nd) (s : Span) (back : Bool) (W : World) (gs : List (Option Nat)) (gp gn gb : Nat) (cs ss : List Value) (fs : List Fact) (hcl : cs.length = 6) (hsl : ss.length = 3)
    (M : St W gs W [] [] (.loc ⟨gp, 0, none⟩ ss :: .loc ⟨gn, 0, none⟩ cs :: .loc ⟨gb, 0, none⟩ [.bool back] :: .dat false (dSp s) ss :: .dat false (dN t) cs :: fs)) (hJ : J gs [] W) (hgo : go [] = true) (hNB : (walkP s back t []).length ≤ NB) (hz : sz t ≤ 1000000 ∧ s.lo.length ≤ 1000000 ∧ s.hi.length ≤ 1000000) :
    Calls Tryd.prog 80 #[.func (.yield l) #[] #[], .pointer (some ⟨gp, 0, none⟩), .pointer (some ⟨gn, 0, none⟩), .pointer (some ⟨gb, 0, none⟩)] W fun e W' => (∃ v, e = .returned v) ∧ ∃ gs', J gs' (feed go [] (walkP s back t [])).1 W' := by
  refine calls_ev (args := [.func (.yield l) #[] #[], .pointer (some ⟨gp, 0, none⟩), .pointer (some ⟨gn, 0, none⟩), .pointer (some ⟨gb, 0, none⟩)]) mixed Tryd.func80 rfl (by kernel_rfl) ?_
  refine v_loadN ss agg_sp rfl hsl (M.lc 0 rfl) ?_
  refine v_loadN cs agg_nd rfl hcl (M.lc 1 rfl) ?_
  refine v_load agg_bo rfl (M.lc 2 rfl 0 _ rfl) ?_
  refine cc is_walk (walk_any s hz.2 back _ t (Nat.lt_succ_self _) hY W gs [] [] none 0 0 cs ss (M.da 3 rfl) (M.da 4 rfl) (RdD.nil_ _ _) hJ hgo (by simpa using hNB) (by omega)) ?_
  rintro e W' ⟨gs', rfl, -, hj⟩
  exact ⟨_, rfl, ⟨_, rfl⟩, gs', hj⟩
set_option maxRecDepth 100000 in
set_option maxHeartbeats 1000000 in
theorem all_any {w W : World} {gs : List (Option Nat)} {L : Lc} {R : List Row} {fs : List Fact} (M : St w gs W L R fs) (back : Bool) (cs ss : List Value) :
    Calls Tryd.prog 68 #[.agg ss.toArray, .agg cs.toArray, .bool back] W fun e W' => ∃ gp gn gb, e = .returned (.func (.func 80) #[] #[.pointer (some ⟨gp, 0, none⟩), .pointer (some ⟨gn, 0, none⟩), .pointer (some ⟨gb, 0, none⟩)]) ∧
      St w gs W' L R (.loc ⟨gp, 0, none⟩ ss :: .loc ⟨gn, 0, none⟩ cs :: .loc ⟨gb, 0, none⟩ [.bool back] :: fs) := by
  refine calls_ev (args := [.agg ss.toArray, .agg cs.toArray, .bool back]) mixed Tryd.func68 rfl (by kernel_rfl) ?_
  refine s_box (ss) M rfl ?_
  clear M
  rintro gp W M
  replace M := M.frzL
  refine s_box (cs) M rfl ?_
  clear M
  rintro gn W M
  replace M := M.frzL
  refine s_box ([.bool back]) M rfl ?_
  clear M
  rintro gb W M
  replace M := M.frzL
  refine p_fun #[] #[.tmp 3, .tmp 4, .tmp 5] ?_
  exact ⟨gp, gn, gb, rfl, M.fsub _ (by intro f hf; simp only [List.mem_cons] at hf ⊢; rcases hf with h | h | h | h <;> simp [h])⟩
end Go.Proofs.YtdlljmmgkoeilaaDoor
namespace Go.Proofs.YtdlljmmgkoeilaaDoor
open Go.RowKit
mutual
theorem walkP_len (s : Span) (back : Bool) : ∀ (t : Nd) (way : List UInt8), (walkP s back t way).length ≤ sz t
  | .mk k p has v ks hs, way => by
    have h := walkK_lens s back ks (decide (k = 3)) 0 (way ++ p)
    have ho : ∀ at_, (ownF (.mk k p has v ks hs) s at_).length ≤ 1 := fun at_ => by unfold ownF; split <;> simp
    have ho := ho (way ++ p)
    have hr : ∀ l : List (List Fnd), l.reverse.flatten.length = l.flatten.length := fun l => by rw [List.length_flatten, List.length_flatten, List.map_reverse, List.sum_reverse]
    cases back with
    | false =>
      rw [walkP, sz]
      by_cases c1 : k = 0 ∨ meetsB s (way ++ p) = false
      · rw [if_pos c1]; simp
      · rw [if_neg c1]
        by_cases c2 : k = 4
        · rw [if_pos c2]; simp; omega
        · rw [if_neg c2, List.length_append]; omega
    | true =>
      rw [walkP, sz]
      by_cases c1 : k = 0 ∨ meetsB s (way ++ p) = false
      · rw [if_pos c1]; simp
      · rw [if_neg c1]
        by_cases c2 : k = 4
        · rw [if_pos c2]; simp; omega
        · rw [if_neg c2, List.length_append, hr]; omega
theorem walkK_lens (s : Span) (back : Bool) : ∀ (ks : List Nd) (br : Bool) (i : Nat) (at_ : List UInt8), (walkK s back ks br i at_).flatten.length ≤ szs ks
  | [], _, _, _ => by rw [walkK]; simp
  | t :: ts, br, i, at_ => by
    have h1 := walkP_len s back t (if br then at_ ++ [UInt8.ofNat i] else at_)
    have h2 := walkK_lens s back ts br (i + 1) at_
    rw [walkK, List.flatten_cons, List.length_append, szs]
    omega
end
def isPr : Fnd → Bool
  | .pair _ => true
  | .miss _ => false
def goF (most : Int) (l : List Fnd) : Bool := l.all isPr && decide ((l.length : Int) ≠ most)
def jcF (l : List Fnd) : Code := if l.all isPr = true then .exit 0 else .ret
def prsF : List Fnd → List Pr
  | [] => []
  | .pair p :: l => p :: prsF l
  | .miss _ :: l => prsF l
def missF : List Fnd → Option (List UInt8)
  | [] => none
  | .pair _ :: l => missF l
  | .miss m :: _ => some m
theorem prsF_map : ∀ ps : List Pr, prsF (ps.map Fnd.pair) = ps
  | [] => rfl
  | p :: ps => by rw [List.map_cons, prsF, prsF_map ps]
theorem missF_map : ∀ ps : List Pr, missF (ps.map Fnd.pair) = none
  | [] => rfl
  | p :: ps => by rw [List.map_cons, missF, missF_map ps]
theorem missF_snoc (m : List UInt8) : ∀ ps : List Pr, missF (ps.map Fnd.pair ++ [.miss m]) = some m
  | [] => rfl
  | p :: ps => by rw [List.map_cons, List.cons_append, missF, missF_snoc m ps]
theorem all_map (ps : List Pr) : (ps.map Fnd.pair).all isPr = true := by simp [isPr]
theorem all_snoc (ps : List Pr) (m : List UInt8) : (ps.map Fnd.pair ++ [Fnd.miss m]).all isPr = false := by simp [isPr]
def endF (l : List Fnd) : PairsR := match missF l with
  | some m => ⟨[], some m, 80⟩
  | none => ⟨prsF l, none, 0⟩
/-- What seek.some answers. -/
def someP (t : Nd) (s : Span) (most : Int) (back : Bool) : PairsR :=
  if checkE t = 0 then (if most < 0 then ⟨[], none, 2⟩ else if most = 0 then ⟨[], none, 0⟩ else endF (feed (goF most) [] (walkP s back t [])).1)
  else ⟨[], none, 2⟩
theorem ag_eno : aggOf Tryd.prog 43 = some (false, 1) := by kernel_rfl
theorem fF0 : fieldOff Tryd.prog 116 0 = some 0 := by kernel_rfl
theorem fF1 : fieldOff Tryd.prog 116 1 = some 2 := by kernel_rfl
/-- A row of pairs of the call's own. -/
structure PrRow (base : Nat) (W : World) (gs : List (Option Nat)) (l : List Pr) (A : Option Addr) (n c : Nat) : Prop where
  ex : ∃ xs, W.ownsRow base 55 2 (.slice A n c) n xs ∧ RdL W (Fd W (bk A :: gs)) (dPrs l) xs ∧ n = l.length
theorem PrRow.nil {base : Nat} {W : World} {gs : List (Option Nat)} : PrRow base W gs [] none 0 0 := ⟨⟨[], World.ownsRow_nil _ _ _ _, RdL.nil_, rfl⟩⟩
theorem PrRow.rd {base : Nat} {W : World} {gs : List (Option Nat)} {l : List Pr} {A : Option Addr} {n c : Nat} (h : PrRow base W gs l A n c) (hgs : ∀ b, some b ∈ gs → b < base) : RdD W (Fd W gs) (dPl l) (.slice A n c) := by
  obtain ⟨xs, h1, h2, rfl⟩ := h.ex
  exact rdD_row h1 (h2.to fun b hb => ⟨rfl, hb.1, fun e => hb.2 (List.mem_cons_of_mem _ e)⟩) fun b k1 k2 _ => ⟨k2, fun e => by have := hgs b e; omega⟩
theorem St.callP {w W W' : World} {gs : List (Option Nat)} {L : Lc} {R : List Row} {fs : List Fact} {l : List Pr} {A : Option Addr} {n c : Nat} (M : St w gs W L R fs) (hb : Below W.heap.size W W') (h : PrRow W.heap.size W' (own L R gs) l A n c) : n = l.length ∧ ∃ xs, St w gs W' L (⟨55, 2, A, n, c, xs⟩ :: R) (.dat false (dPrs l) xs :: fs) := by
  obtain ⟨xs, h1, h2, hn⟩ := h.ex
  refine ⟨hn, xs, (M.callR (r := ⟨55, 2, A, n, c, xs⟩) hb h1).addL (h2.to fun b hb' => ⟨rfl, hb'.1, fun e => hb'.2 ?_⟩)⟩
  unfold own at e ⊢
  simp only [List.map_cons, List.cons_append, List.mem_append, List.mem_cons] at e ⊢
  rcases e with e | e | e | e
  · exact .inr (.inl e)
  · exact .inl e
  · exact .inr (.inr (.inl e))
  · exact .inr (.inr (.inr e))
theorem St.rowP {w W : World} {gs : List (Option Nat)} {L : Lc} {R : List Row} {fs : List Fact} {l : List Pr} {A : Option Addr} {n c : Nat} {xs : List Value} (M : St w gs W L (⟨55, 2, A, n, c, xs⟩ :: R) fs) (h : RdL W (Fd W (own L (⟨55, 2, A, n, c, xs⟩ :: R) gs)) (dPrs l) xs) (hn : n = l.length) : PrRow w.heap.size W gs l A n c := by
  refine ⟨⟨xs, M.row _ (List.mem_cons_self ..), h.to fun b hb => ⟨rfl, hb.1, fun e => hb.2 ?_⟩, hn⟩⟩
  unfold own
  simp only [List.map_cons, List.cons_append, List.mem_append, List.mem_cons] at e ⊢
  rcases e with e | e
  · exact .inr (.inl e)
  · exact .inr (.inr (.inr e))
theorem is_some : isFn Tryd.prog 51 = true := by kernel_rfl
theorem get_app {l r : List Value} {j : Nat} {v : Value} (h : l[j]? = some v) : (l ++ r)[j]? = some v := by
  rw [List.getElem?_append_left (List.getElem?_eq_some_iff.1 h).1]; exact h
/-- What the loop's body keeps. -/
def GoodF (most : Int) (g6 g8 g9 g10 g11 : Nat) (pre : List Fnd) (L : Lc) (R : List Row) (fs : List Fact) : Prop :=
  (∃ (ps : List Pr) (A : Option Addr) (c : Nat) (xs : List Value), pre = ps.map Fnd.pair ∧ L = [(g11, 22, [.slice A ps.length c]), (g10, 43, [.int .i64 0]), (g9, 23, [.slice none 0 0]), (g8, 22, [.slice none 0 0])] ∧ R = [⟨55, 2, A, ps.length, c, xs⟩] ∧ fs = [.dat false (dPrs ps) xs, .loc ⟨g6, 0, none⟩ [.int .i64 most]]) ∨
  (∃ (ps : List Pr) (m : List UInt8) (Am : Option Addr) (cm : Nat) (v : Value), pre = ps.map Fnd.pair ++ [.miss m] ∧ Am ≠ none ∧ L = [(g11, 22, [v]), (g10, 43, [.int .i64 80]), (g9, 23, [.slice Am m.length cm]), (g8, 22, [.slice none 0 0])] ∧ fs = [.dat false [dB m] [.slice Am m.length cm]])
def SJ (w : World) (gs : List (Option Nat)) (most : Int) (g6 g8 g9 g10 g11 : Nat) (os : List (Option Nat)) (pre : List Fnd) (W : World) : Prop :=
  ∃ L R fs, os = own L R gs ∧ St w gs W L R fs ∧ (∀ W0 os0, Fact.stp W0 os0 ∉ fs) ∧ GoodF most g6 g8 g9 g10 g11 pre L R fs
def ysS (i : Nat) : Option Nat := match Nat.beq i 9 with | true => some 99 | false => none
theorem vrf_cut {P : Program} {n : Nat} {c : Code} {δ : List Deferred} {E : Env} {w : World} {K : Kont2} (L : List (Nat × Value)) (ha : agrees E L) (h : ∀ B, VRf P n c δ (over B L) w K) : VRf P n c δ E w K := by
  rw [← over_of_agrees ha]; exact h E
theorem SJ.stay {w : World} {gs : List (Option Nat)} {most : Int} {g6 g8 g9 g10 g11 : Nat} {os : List (Option Nat)} {pre : List Fnd} {W W' : World} (h : SJ w gs most g6 g8 g9 g10 g11 os pre W) (hb : Below W.heap.size W W') : SJ w gs most g6 g8 g9 g10 g11 os pre W' := by
  obtain ⟨L, R, fs, e, M, hn, hg⟩ := h
  exact ⟨L, R, fs, e, M.call hb, hn, hg⟩
theorem SJ.lt {w : World} {gs : List (Option Nat)} {most : Int} {g6 g8 g9 g10 g11 : Nat} {os : List (Option Nat)} {pre : List Fnd} {W : World} {b : Nat} (h : SJ w gs most g6 g8 g9 g10 g11 os pre W) (hb : some b ∈ os) : b < W.heap.size := by
  obtain ⟨L, R, fs, rfl, M, hn, hg⟩ := h
  exact M.olt b hb
theorem SJ.noc {w : World} {gs : List (Option Nat)} {most : Int} {g6 g8 g9 g10 g11 : Nat} {os : List (Option Nat)} {pre : List Fnd} {W : World} {k : Nat} {o : Obj} (h : SJ w gs most g6 g8 g9 g10 g11 os pre W) (hk : W.heap[k]? = some o) (ho : o.isCells = false) (hw : w.heap.size ≤ k) : some k ∉ os := by
  obtain ⟨L, R, fs, rfl, M, hn, hg⟩ := h
  exact M.noc hk ho hw
theorem SJ.put {w : World} {gs : List (Option Nat)} {most : Int} {g6 g8 g9 g10 g11 : Nat} {os : List (Option Nat)} {pre : List Fnd} {W : World} {k : Nat} {o : Obj} (o' : Obj) (h : SJ w gs most g6 g8 g9 g10 g11 os pre W) (hw : w.heap.size ≤ k) (hk : W.heap[k]? = some o) (ho : o.isCells = false) (ho' : o'.isCells = false) : SJ w gs most g6 g8 g9 g10 g11 os pre (W.putObj k o') := by
  obtain ⟨L, R, fs, e, M, hn, hg⟩ := h
  exact ⟨L, R, fs, e, M.putObj o' hw hk ho ho' (fun W0 os0 hm => absurd hm (hn W0 os0)), hn, hg⟩
theorem FndG.one {W : World} {F : Nat → Prop} {x : Fnd} {vs : Array Value} (h : FndG W F x vs) : vs.size = 1 := by
  cases x with
  | pair p => obtain ⟨_, _, _, _, rfl, _⟩ := h; rfl
  | miss m => obtain ⟨_, _, rfl, _⟩ := h; rfl
set_option maxRecDepth 100000 in
set_option maxHeartbeats 4000000 in
theorem some_row (t : Nd) (s : Span) (most : Int) (back : Bool) (ht : sz t ≤ 1000000) (hs : s.lo.length ≤ 1000000 ∧ s.hi.length ≤ 1000000) (gs : List (Option Nat)) (w : World) (cs ss : List Value) (hn : RdL w (Fd w gs) (dN t) cs) (hp : RdL w (Fd w gs) (dSp s) ss) (hgs : ∀ b, some b ∈ gs → b < w.heap.size) :
    Calls Tryd.prog 51 #[.agg cs.toArray, .agg ss.toArray, .int .i64 most, .bool back] w fun e W' => ∃ A n c Am nm cm, e = .returned (.tuple #[.slice A n c, .slice Am nm cm, .int .i64 (someP t s most back).e]) ∧ PrRow w.heap.size W' gs (someP t s most back).l A n c ∧ missOk W' (Fd W' gs) [] (someP t s most back).miss Am nm cm ∧ Below w.heap.size w W' := by
  refine calls_evR (args := [.agg cs.toArray, .agg ss.toArray, .int .i64 most, .bool back]) mixed Tryd.func51 rfl (by kernel_rfl) ?_
  have hl := hn.len
  rw [dN_len] at hl
  have hl2 : ss.length = 3 := hp.len
  have M := ((St.start hgs).addL hp).addL hn
  clear hn hp
  refine s_box (cs) M rfl ?_
  clear M
  rintro g4 W M
  replace M := M.frzL
  refine s_box (ss) M rfl ?_
  clear M
  rintro g5 W M
  replace M := M.frzL
  refine s_box ([.int .i64 most]) M rfl ?_
  clear M
  rintro g6 W M
  replace M := M.frzL
  refine s_alloc ([.slice none 0 0]) M (by kernel_rfl) ?_
  clear M
  rintro g8 W M
  refine s_alloc ([.slice none 0 0]) M (by kernel_rfl) ?_
  clear M
  rintro g9 W M
  refine s_alloc ([.int .i64 0]) M (by kernel_rfl) ?_
  clear M
  rintro g10 W M
  unfold someP
  refine v_loadN cs agg_nd rfl hl (M.lc 2 rfl) ?_
  refine cc is_ncheck (ncheck_any t (by omega) _ _ cs (by first | with_reducible exact M.da_0 | with_reducible exact M.da_1 | with_reducible exact M.da_2 | with_reducible exact M.da_3 | with_reducible exact M.da_4 | with_reducible exact M.da_5 | with_reducible exact M.da_6 | with_reducible exact M.da_7 | with_reducible exact M.da_8 | with_reducible exact M.da_9 | with_reducible exact M.da_10 | with_reducible exact M.da_11) M.olt) ?_
  rintro e W1 ⟨rfl, hb⟩
  replace M := M.call hb
  refine ⟨_, rfl, ?_⟩
  refine p_ne rfl rfl (fun he => ?_) (fun he => ?_)
  · rw [if_pos he]
    refine v_load agg_int rfl (M.lc 0 rfl 0 _ rfl) ?_
    refine p_lt rfl rfl (fun hm => ?_) (fun hm => ?_)
    · rw [if_pos hm]
      first | refine s_set 0 (.slice none 0 0) ([.slice none 0 0]) M rfl (by kernel_rfl) rfl rfl rfl (Nat.le_of_ble_eq_true rfl) rfl ?_ | refine s_set 1 (.slice none 0 0) ([.slice none 0 0]) M rfl (by kernel_rfl) rfl rfl rfl (Nat.le_of_ble_eq_true rfl) rfl ?_ | refine s_set 2 (.slice none 0 0) ([.slice none 0 0]) M rfl (by kernel_rfl) rfl rfl rfl (Nat.le_of_ble_eq_true rfl) rfl ?_ | refine s_set 3 (.slice none 0 0) ([.slice none 0 0]) M rfl (by kernel_rfl) rfl rfl rfl (Nat.le_of_ble_eq_true rfl) rfl ?_
      clear M
      rintro W M
      dsimp only [setL] at M
      first | refine s_set 0 (.slice none 0 0) ([.slice none 0 0]) M rfl (by kernel_rfl) rfl rfl rfl (Nat.le_of_ble_eq_true rfl) rfl ?_ | refine s_set 1 (.slice none 0 0) ([.slice none 0 0]) M rfl (by kernel_rfl) rfl rfl rfl (Nat.le_of_ble_eq_true rfl) rfl ?_ | refine s_set 2 (.slice none 0 0) ([.slice none 0 0]) M rfl (by kernel_rfl) rfl rfl rfl (Nat.le_of_ble_eq_true rfl) rfl ?_ | refine s_set 3 (.slice none 0 0) ([.slice none 0 0]) M rfl (by kernel_rfl) rfl rfl rfl (Nat.le_of_ble_eq_true rfl) rfl ?_
      clear M
      rintro W M
      dsimp only [setL] at M
      first | refine s_set 0 (.int .i64 2) ([.int .i64 2]) M rfl (by kernel_rfl) rfl rfl rfl (Nat.le_of_ble_eq_true rfl) rfl ?_ | refine s_set 1 (.int .i64 2) ([.int .i64 2]) M rfl (by kernel_rfl) rfl rfl rfl (Nat.le_of_ble_eq_true rfl) rfl ?_ | refine s_set 2 (.int .i64 2) ([.int .i64 2]) M rfl (by kernel_rfl) rfl rfl rfl (Nat.le_of_ble_eq_true rfl) rfl ?_ | refine s_set 3 (.int .i64 2) ([.int .i64 2]) M rfl (by kernel_rfl) rfl rfl rfl (Nat.le_of_ble_eq_true rfl) rfl ?_
      clear M
      rintro W M
      dsimp only [setL] at M
      refine .inl ⟨rfl, ?_⟩
      refine c_load1 agg_prs rfl (by first | exact (M.B 0 rfl).at_ rfl | exact (M.B 1 rfl).at_ rfl | exact (M.B 2 rfl).at_ rfl | exact (M.B 3 rfl).at_ rfl | exact (M.B 4 rfl).at_ rfl | exact M.lc 0 rfl _ _ rfl | exact M.lc 1 rfl _ _ rfl | exact M.lc 2 rfl _ _ rfl | exact M.lc 3 rfl _ _ rfl | exact M.lc 4 rfl _ _ rfl | exact M.lc 5 rfl _ _ rfl | exact M.lc 6 rfl _ _ rfl | exact M.lc 7 rfl _ _ rfl) ?_
      refine c_load1 agg_b rfl (by first | exact (M.B 0 rfl).at_ rfl | exact (M.B 1 rfl).at_ rfl | exact (M.B 2 rfl).at_ rfl | exact (M.B 3 rfl).at_ rfl | exact (M.B 4 rfl).at_ rfl | exact M.lc 0 rfl _ _ rfl | exact M.lc 1 rfl _ _ rfl | exact M.lc 2 rfl _ _ rfl | exact M.lc 3 rfl _ _ rfl | exact M.lc 4 rfl _ _ rfl | exact M.lc 5 rfl _ _ rfl | exact M.lc 6 rfl _ _ rfl | exact M.lc 7 rfl _ _ rfl) ?_
      refine c_load1 ag_eno rfl (by first | exact (M.B 0 rfl).at_ rfl | exact (M.B 1 rfl).at_ rfl | exact (M.B 2 rfl).at_ rfl | exact (M.B 3 rfl).at_ rfl | exact (M.B 4 rfl).at_ rfl | exact M.lc 0 rfl _ _ rfl | exact M.lc 1 rfl _ _ rfl | exact M.lc 2 rfl _ _ rfl | exact M.lc 3 rfl _ _ rfl | exact M.lc 4 rfl _ _ rfl | exact M.lc 5 rfl _ _ rfl | exact M.lc 6 rfl _ _ rfl | exact M.lc 7 rfl _ _ rfl) ?_
      exact ⟨none, 0, 0, none, 0, 0, rfl, PrRow.nil, ⟨rfl, rfl, rfl⟩, M.below⟩
    rw [if_neg hm]
    refine s_alloc ([.slice none 0 0]) M (by kernel_rfl) ?_
    clear M
    rintro g11 W M
    refine v_load agg_int rfl (M.lc 0 rfl 0 _ rfl) ?_
    refine p_eq rfl rfl (fun h0 => ?_) (fun h0 => ?_)
    · rw [if_pos h0]
      first | refine s_set 0 (.slice none 0 0) ([.slice none 0 0]) M rfl (by kernel_rfl) rfl rfl rfl (Nat.le_of_ble_eq_true rfl) rfl ?_ | refine s_set 1 (.slice none 0 0) ([.slice none 0 0]) M rfl (by kernel_rfl) rfl rfl rfl (Nat.le_of_ble_eq_true rfl) rfl ?_ | refine s_set 2 (.slice none 0 0) ([.slice none 0 0]) M rfl (by kernel_rfl) rfl rfl rfl (Nat.le_of_ble_eq_true rfl) rfl ?_ | refine s_set 3 (.slice none 0 0) ([.slice none 0 0]) M rfl (by kernel_rfl) rfl rfl rfl (Nat.le_of_ble_eq_true rfl) rfl ?_
      clear M
      rintro W M
      dsimp only [setL] at M
      first | refine s_set 0 (.slice none 0 0) ([.slice none 0 0]) M rfl (by kernel_rfl) rfl rfl rfl (Nat.le_of_ble_eq_true rfl) rfl ?_ | refine s_set 1 (.slice none 0 0) ([.slice none 0 0]) M rfl (by kernel_rfl) rfl rfl rfl (Nat.le_of_ble_eq_true rfl) rfl ?_ | refine s_set 2 (.slice none 0 0) ([.slice none 0 0]) M rfl (by kernel_rfl) rfl rfl rfl (Nat.le_of_ble_eq_true rfl) rfl ?_ | refine s_set 3 (.slice none 0 0) ([.slice none 0 0]) M rfl (by kernel_rfl) rfl rfl rfl (Nat.le_of_ble_eq_true rfl) rfl ?_
      clear M
      rintro W M
      dsimp only [setL] at M
      first | refine s_set 0 (.int .i64 0) ([.int .i64 0]) M rfl (by kernel_rfl) rfl rfl rfl (Nat.le_of_ble_eq_true rfl) rfl ?_ | refine s_set 1 (.int .i64 0) ([.int .i64 0]) M rfl (by kernel_rfl) rfl rfl rfl (Nat.le_of_ble_eq_true rfl) rfl ?_ | refine s_set 2 (.int .i64 0) ([.int .i64 0]) M rfl (by kernel_rfl) rfl rfl rfl (Nat.le_of_ble_eq_true rfl) rfl ?_ | refine s_set 3 (.int .i64 0) ([.int .i64 0]) M rfl (by kernel_rfl) rfl rfl rfl (Nat.le_of_ble_eq_true rfl) rfl ?_
      clear M
      rintro W M
      dsimp only [setL] at M
      refine .inl ⟨rfl, ?_⟩
      refine c_load1 agg_prs rfl (by first | exact (M.B 0 rfl).at_ rfl | exact (M.B 1 rfl).at_ rfl | exact (M.B 2 rfl).at_ rfl | exact (M.B 3 rfl).at_ rfl | exact (M.B 4 rfl).at_ rfl | exact M.lc 0 rfl _ _ rfl | exact M.lc 1 rfl _ _ rfl | exact M.lc 2 rfl _ _ rfl | exact M.lc 3 rfl _ _ rfl | exact M.lc 4 rfl _ _ rfl | exact M.lc 5 rfl _ _ rfl | exact M.lc 6 rfl _ _ rfl | exact M.lc 7 rfl _ _ rfl) ?_
      refine c_load1 agg_b rfl (by first | exact (M.B 0 rfl).at_ rfl | exact (M.B 1 rfl).at_ rfl | exact (M.B 2 rfl).at_ rfl | exact (M.B 3 rfl).at_ rfl | exact (M.B 4 rfl).at_ rfl | exact M.lc 0 rfl _ _ rfl | exact M.lc 1 rfl _ _ rfl | exact M.lc 2 rfl _ _ rfl | exact M.lc 3 rfl _ _ rfl | exact M.lc 4 rfl _ _ rfl | exact M.lc 5 rfl _ _ rfl | exact M.lc 6 rfl _ _ rfl | exact M.lc 7 rfl _ _ rfl) ?_
      refine c_load1 ag_eno rfl (by first | exact (M.B 0 rfl).at_ rfl | exact (M.B 1 rfl).at_ rfl | exact (M.B 2 rfl).at_ rfl | exact (M.B 3 rfl).at_ rfl | exact (M.B 4 rfl).at_ rfl | exact M.lc 0 rfl _ _ rfl | exact M.lc 1 rfl _ _ rfl | exact M.lc 2 rfl _ _ rfl | exact M.lc 3 rfl _ _ rfl | exact M.lc 4 rfl _ _ rfl | exact M.lc 5 rfl _ _ rfl | exact M.lc 6 rfl _ _ rfl | exact M.lc 7 rfl _ _ rfl) ?_
      exact ⟨none, 0, 0, none, 0, 0, rfl, PrRow.nil, ⟨rfl, rfl, rfl⟩, M.below⟩
    rw [if_neg h0]
    refine v_loadN ss agg_sp rfl hl2 (M.lc 1 rfl) ?_
    refine v_loadN cs agg_nd rfl hl (M.lc 2 rfl) ?_
    refine cc is_all (all_any M back cs ss) ?_
    clear M
    rintro e W2 ⟨gp, gn, gb, rfl, M⟩
    refine ⟨_, rfl, ?_⟩
    replace M := M.nilR 55 2
    have hsz0 := M.size
    have hgo0 : goF most [] = true := by unfold goF; simp; omega
    refine vrf_cut [(6, .pointer (some ⟨g6, 0, none⟩)), (8, .pointer (some ⟨g8, 0, none⟩)), (9, .pointer (some ⟨g9, 0, none⟩)), (10, .pointer (some ⟨g10, 0, none⟩)), (11, .pointer (some ⟨g11, 0, none⟩)), (25, .func (.func 80) #[] #[.pointer (some ⟨gp, 0, none⟩), .pointer (some ⟨gn, 0, none⟩), .pointer (some ⟨gb, 0, none⟩)])] (by repeat (first | exact trivial | refine ⟨rfl, ?_⟩)) (fun B => ?_)
    refine vrf mixed (p := 26) (G := FndG) (go := goF most) 1000000 jcF (walkP s back t []) (SJ w gs most g6 g8 g9 g10 g11) (own [(g11, 22, [.slice none 0 0]), (g10, 43, [.int .i64 0]), (g9, 23, [.slice none 0 0]), (g8, 22, [.slice none 0 0])] [⟨55, 2, none, 0, 0, []⟩] gs) ysS (by kernel_rfl) rfl is_all1 (fun W F x vs h => h.one) hgo0 ?_ ?_
      (fun _ _ _ _ h hb => h.stay hb) (fun _ _ _ _ h hb => h.lt hb) (fun _ _ _ _ _ h hk ho hw => h.noc hk ho (by omega)) (fun _ _ _ _ _ o' h hw hk ho ho' => h.put o' (by omega) hk ho ho') ?_ ?_
    · exact ⟨_, _, [.dat false (dPrs []) [], .loc ⟨g6, 0, none⟩ [.int .i64 most]], rfl, (M.addL (ds := dPrs []) (cs := []) RdL.nil_).fsub _ (by intro f hf; simp only [List.mem_cons, List.not_mem_nil, or_false] at hf ⊢; rcases hf with h | h <;> simp [h]), (by simp), .inl ⟨[], none, 0, [], rfl, rfl, rfl, rfl⟩⟩
    · intro J W' hb hY hJ
      have up : ∀ b, Fd W2 (own [(g11, 22, [.slice none 0 0]), (g10, 43, [.int .i64 0]), (g9, 23, [.slice none 0 0]), (g8, 22, [.slice none 0 0])] [⟨55, 2, none, 0, 0, []⟩] gs) b → W'.heap[b]? = W2.heap[b]? ∧ Fd W' (some (W2.heap.size + 1) :: some W2.heap.size :: own [(g11, 22, [.slice none 0 0]), (g10, 43, [.int .i64 0]), (g9, 23, [.slice none 0 0]), (g8, 22, [.slice none 0 0])] [⟨55, 2, none, 0, 0, []⟩] gs) b := by
        intro b hb'
        refine ⟨hb.block b hb'.1, by have := hb.size; have := hb'.1; omega, fun e => ?_⟩
        rcases List.mem_cons.1 e with e | e
        · injection e with e; have := hb'.1; omega
        rcases List.mem_cons.1 e with e | e
        · injection e with e; have := hb'.1; omega
        exact hb'.2 e
      have M1 := ((St.start (w := W') (fun b => hY.lt _ _ _ _ hJ)).addL (RdL.to up (M.da 6 rfl))).addL (RdL.to up (M.da 7 rfl))
      have M2 := M1.addC (a := ⟨gb, 0, none⟩) (up _ (M.lcB 2 rfl)).2 (fun j x hx => (World.cell?_of_block (w := W2) (a := (⟨gb, 0, none⟩ : Addr).add j) (by rw [block_of_add]; exact (up _ (M.lcB 2 rfl)).1)).trans (M.lc 2 rfl j x hx))
      have M3 := M2.addC (a := ⟨gn, 0, none⟩) (up _ (M.lcB 1 rfl)).2 (fun j x hx => (World.cell?_of_block (w := W2) (a := (⟨gn, 0, none⟩ : Addr).add j) (by rw [block_of_add]; exact (up _ (M.lcB 1 rfl)).1)).trans (M.lc 1 rfl j x hx))
      have M4 := M3.addC (a := ⟨gp, 0, none⟩) (up _ (M.lcB 0 rfl)).2 (fun j x hx => (World.cell?_of_block (w := W2) (a := (⟨gp, 0, none⟩ : Addr).add j) (by rw [block_of_add]; exact (up _ (M.lcB 0 rfl)).1)).trans (M.lc 0 rfl j x hx))
      exact all1_any hY t s back W' _ gp gn gb cs ss [] hl hl2 M4 hJ hgo0 (by have := walkP_len s back t []; omega) (by omega)
    · clear M
      intro os pre W x v hJ hgo hnb hlt hG
      obtain ⟨L, R, fs, rfl, M, hns, hgood⟩ := hJ
      rcases hgood with ⟨ps, A, c, xs, rfl, rfl, rfl, rfl⟩ | ⟨ps, m, Am, cm, v', rfl, -, -, -⟩
      case inr => unfold goF at hgo; rw [all_snoc] at hgo; cases hgo
      have hlen : (ps.map Fnd.pair).length = ps.length := List.length_map ..
      rw [hlen] at hnb
      have dn : ∀ b, Fd W (some (W2.heap.size + 1) :: some W2.heap.size :: own [(g11, 22, [.slice A ps.length c]), (g10, 43, [.int .i64 0]), (g9, 23, [.slice none 0 0]), (g8, 22, [.slice none 0 0])] [⟨55, 2, A, ps.length, c, xs⟩] gs) b → W.heap[b]? = W.heap[b]? ∧ Fd W (own [(g11, 22, [.slice A ps.length c]), (g10, 43, [.int .i64 0]), (g9, 23, [.slice none 0 0]), (g8, 22, [.slice none 0 0])] [⟨55, 2, A, ps.length, c, xs⟩] gs) b :=
        fun b hb => ⟨rfl, hb.1, fun e => hb.2 (List.mem_cons_of_mem _ (List.mem_cons_of_mem _ e))⟩
      cases x with
      | pair p =>
        obtain ⟨Ak, ck, Av, cv, hv, hR⟩ := hG
        obtain rfl : v = .agg #[.slice Ak p.k.length ck, .slice Av p.v.length cv, .slice none 0 0] := by injection hv with hv; injection hv
        replace M := (M.addL (RdL.to dn hR)).step0
        refine s_alloc ([.slice none 0 0, .slice none 0 0, .slice none 0 0]) M (by kernel_rfl) ?_
        clear M
        rintro g12 W M
        first | refine s_storeA 0 ([.slice Ak p.k.length ck, .slice Av p.v.length cv, .slice none 0 0]) M rfl (by kernel_rfl) rfl rfl rfl (all1 rfl) rfl ?_ | refine s_storeA 1 ([.slice Ak p.k.length ck, .slice Av p.v.length cv, .slice none 0 0]) M rfl (by kernel_rfl) rfl rfl rfl (all1 rfl) rfl ?_ | refine s_storeA 2 ([.slice Ak p.k.length ck, .slice Av p.v.length cv, .slice none 0 0]) M rfl (by kernel_rfl) rfl rfl rfl (all1 rfl) rfl ?_ | refine s_storeA 3 ([.slice Ak p.k.length ck, .slice Av p.v.length cv, .slice none 0 0]) M rfl (by kernel_rfl) rfl rfl rfl (all1 rfl) rfl ?_
        clear M
        rintro W M
        dsimp only [setL] at M
        refine ⟨rfl, _, M.stp 0 rfl, fun o o' ho hoc hoc' => ?_⟩
        replace M := ((M.fsub [.dat false (dPr p) (pcs p Ak ck Av cv), .dat false (dPrs ps) xs, .loc ⟨g6, 0, none⟩ [.int .i64 most]] (by simp)).putObj o' (by omega) ho hoc hoc' (by simp)).step0
        refine p_fld fF1 rfl ?_
        refine v_load agg_b rfl (by first | exact (M.B 0 rfl).at_ rfl | exact (M.B 1 rfl).at_ rfl | exact (M.B 2 rfl).at_ rfl | exact (M.B 3 rfl).at_ rfl | exact (M.B 4 rfl).at_ rfl | exact M.lc 0 rfl _ _ rfl | exact M.lc 1 rfl _ _ rfl | exact M.lc 2 rfl _ _ rfl | exact M.lc 3 rfl _ _ rfl | exact M.lc 4 rfl _ _ rfl | exact M.lc 5 rfl _ _ rfl | exact M.lc 6 rfl _ _ rfl | exact M.lc 7 rfl _ _ rfl) ?_
        refine p_slnn isSlb rfl rfl (fun _ => ?_) (fun h => absurd rfl h)
        refine v_load agg_prs rfl ((M.B 1 rfl).at_ rfl) ?_
        refine p_fld fF0 rfl ?_
        refine v_loadN (pcs p Ak ck Av cv) agg_pr rfl rfl (fun j x h => M.run 0 rfl j x (get_app (r := [.slice none 0 0]) h)) ?_
        refine s_bsliceB [.slice Ak p.k.length ck, .slice Av p.v.length cv] M slp z_pr rfl (by decide) rfl ?_
        clear M; rintro gl W3 M
        refine s_app M Tryd.underlying22 prinfo rfl (by decide) rfl rfl (Reads.blk (M.B 0 rfl) rfl) (all1 rfl) ⟨by omega, by decide⟩ ?_
        clear M; rintro A5 c5 W4 M -
        refine s_set 2 (.slice A5 (ps.length + 1) c5) ([.slice A5 (ps.length + 1) c5]) M rfl sz_prs rfl rfl rfl (Nat.le_of_ble_eq_true rfl) rfl ?_
        clear M; rintro W5 M
        dsimp only [setL] at M
        refine v_load agg_prs rfl ((M.B 2 rfl).at_ rfl) ?_
        refine p_len slp rfl ?_
        refine v_load agg_int rfl (M.lc 3 rfl 0 _ rfl) ?_
        have hX := (M.da 2 rfl).app (M.da 1 rfl)
        rw [← dPrs_snoc] at hX
        replace hX : RdL _ _ (dPrs (ps ++ [p])) (xs ++ [.slice Ak p.k.length ck, .slice Av p.v.length cv]) := hX
        have hXl : (ps ++ [p]).length = ps.length + 1 := List.length_append ..
        have hmap : ps.map Fnd.pair ++ [.pair p] = (ps ++ [p]).map Fnd.pair := by rw [List.map_append]; rfl
        have hgo' : goF most (ps.map Fnd.pair ++ [.pair p]) = decide (((ps.length + 1 : Nat) : Int) ≠ most) := by
          unfold goF
          rw [hmap, all_map, Bool.true_and, List.length_map, hXl]
        have hS : ∃ gs3, Stp _ _ W5 gs3 ∧ SJ w gs most g6 g8 g9 g10 g11 gs3 (ps.map Fnd.pair ++ [.pair p]) W5 :=
          ⟨_, (M.dropL.dropL).stp 0 rfl, _, _, _, rfl, (M.addL hX).dropL.dropL.fsub [.dat false (dPrs (ps ++ [p])) (xs ++ [.slice Ak p.k.length ck, .slice Av p.v.length cv]), .loc ⟨g6, 0, none⟩ [.int .i64 most]] (by simp), (by simp), .inl ⟨ps ++ [p], A5, c5, xs ++ [.slice Ak p.k.length ck, .slice Av p.v.length cv], hmap, by rw [hXl], by rw [hXl], rfl⟩⟩
        refine p_eq rfl rfl (fun hq => ?_) (fun hq => ?_)
        · refine ⟨hS, ?_, ?_⟩
          · rw [hgo']; simp; omega
          · unfold jcF; rw [hmap, all_map]; rfl
        · refine ⟨hS, ?_⟩
          rw [hgo']; simp; omega
      | miss m =>
        obtain ⟨Am, cm, hv, hAm, hR⟩ := hG
        obtain rfl : v = .agg #[.slice none 0 0, .slice none 0 0, .slice Am m.length cm] := by injection hv with hv; injection hv
        replace M := (M.addD (RdD.to dn hR)).step0
        refine s_alloc ([.slice none 0 0, .slice none 0 0, .slice none 0 0]) M (by kernel_rfl) ?_
        clear M
        rintro g12 W M
        first | refine s_storeA 0 ([.slice none 0 0, .slice none 0 0, .slice Am m.length cm]) M rfl (by kernel_rfl) rfl rfl rfl (all1 rfl) rfl ?_ | refine s_storeA 1 ([.slice none 0 0, .slice none 0 0, .slice Am m.length cm]) M rfl (by kernel_rfl) rfl rfl rfl (all1 rfl) rfl ?_ | refine s_storeA 2 ([.slice none 0 0, .slice none 0 0, .slice Am m.length cm]) M rfl (by kernel_rfl) rfl rfl rfl (all1 rfl) rfl ?_ | refine s_storeA 3 ([.slice none 0 0, .slice none 0 0, .slice Am m.length cm]) M rfl (by kernel_rfl) rfl rfl rfl (all1 rfl) rfl ?_
        clear M
        rintro W M
        dsimp only [setL] at M
        refine ⟨rfl, _, M.stp 0 rfl, fun o o' ho hoc hoc' => ?_⟩
        replace M := ((M.fsub [.dat false [dB m] [.slice Am m.length cm]] (by simp)).putObj o' (by omega) ho hoc hoc' (by simp)).step0
        refine p_fld fF1 rfl ?_
        refine v_load agg_b rfl (by first | exact (M.B 0 rfl).at_ rfl | exact (M.B 1 rfl).at_ rfl | exact (M.B 2 rfl).at_ rfl | exact (M.B 3 rfl).at_ rfl | exact (M.B 4 rfl).at_ rfl | exact M.lc 0 rfl _ _ rfl | exact M.lc 1 rfl _ _ rfl | exact M.lc 2 rfl _ _ rfl | exact M.lc 3 rfl _ _ rfl | exact M.lc 4 rfl _ _ rfl | exact M.lc 5 rfl _ _ rfl | exact M.lc 6 rfl _ _ rfl | exact M.lc 7 rfl _ _ rfl) ?_
        refine p_slnn isSlb rfl rfl (fun h => absurd h hAm) (fun _ => ?_)
        replace M := M.drew
        refine ⟨(fun W => ∀ j x, ([.slice none 0 0, .slice none 0 0, .slice Am m.length cm] : List Value)[j]? = some x → W.cell? ((⟨g12, 0, none⟩ : Addr).add j) = some x), (.take 0 (.take 1 (.one 2 (.one 3 (.one 4 (.nil)))))), (by kernel_rfl), M.run 0 rfl, ?_⟩
        refine p_fld fF1 rfl ?_
        refine t_load agg_b rfl (fun W h => h 2 _ rfl) ?_
        refine s_set 4 (.slice none 0 0) ([.slice none 0 0]) M rfl sz_prs rfl rfl rfl (Nat.le_of_ble_eq_true rfl) rfl ?_
        clear M; rintro W3 M
        dsimp only [setL] at M
        refine ⟨M.run 0 rfl, ?_⟩
        refine s_set 3 (.slice Am m.length cm) ([.slice Am m.length cm]) M rfl (by kernel_rfl) rfl rfl rfl (Nat.le_of_ble_eq_true rfl) rfl ?_
        clear M; rintro W4 M
        dsimp only [setL] at M
        refine ⟨M.run 0 rfl, ?_⟩
        refine s_set 2 (.int .i64 80) ([.int .i64 80]) M rfl (by kernel_rfl) rfl rfl rfl (Nat.le_of_ble_eq_true rfl) rfl ?_
        clear M; rintro W5 M
        dsimp only [setL] at M
        refine ⟨M.run 0 rfl, ?_⟩
        refine ⟨⟨_, M.dropL.stp 0 rfl, _, _, _, rfl, M.dropL.fsub [.dat false [dB m] [.slice Am m.length cm]] (by simp), (by simp), .inr ⟨ps, m, Am, cm, _, rfl, hAm, rfl, rfl⟩⟩, ?_, ?_⟩
        · unfold goF; rw [all_snoc]; rfl
        · unfold jcF; rw [all_snoc]; rfl
    · clear M
      intro os W hJ hK
      obtain ⟨PF, hPF⟩ : ∃ PF, PF = (feed (goF most) [] (walkP s back t [])).1 := ⟨_, rfl⟩
      have hfg := feed_go (walkP s back t []) [] hgo0
      rw [← hPF] at hJ hfg ⊢
      obtain ⟨L, R, fs, rfl, M, hns, hgood⟩ := hJ
      have hDlt := (Array.getElem?_eq_some_iff.1 hK).1
      rcases hgood with ⟨ps, A, c, xs, rfl, rfl, rfl, rfl⟩ | ⟨ps, m, Am, cm, v', rfl, hAm, rfl, rfl⟩
      · have hE : endF (ps.map Fnd.pair) = ⟨ps, none, 0⟩ := by unfold endF; rw [missF_map, prsF_map]
        rw [hE]
        have hnD := M.noc hK rfl hsz0
        replace M := M.step0
        cases hb : (feed (goF most) [] (walkP s back t [])).2 with
        | true =>
          dsimp only
          refine v_load agg_prs rfl ((M.B 0 rfl).at_ rfl) ?_
          refine s_set 3 (.slice A ps.length c) ([.slice A ps.length c]) M rfl sz_prs rfl rfl rfl (Nat.le_of_ble_eq_true rfl) rfl ?_
          clear M; rintro W3 M
          dsimp only [setL] at M
          refine s_set 2 (.slice none 0 0) ([.slice none 0 0]) M rfl (by kernel_rfl) rfl rfl rfl (Nat.le_of_ble_eq_true rfl) rfl ?_
          clear M; rintro W4 M
          dsimp only [setL] at M
          refine s_set 1 (.int .i64 0) ([.int .i64 0]) M rfl (by kernel_rfl) rfl rfl rfl (Nat.le_of_ble_eq_true rfl) rfl ?_
          clear M; rintro W5 M
          dsimp only [setL] at M
          have hK5 := ((M.stp 0 rfl).block _ hDlt hnD).trans hK
          replace M := (M.fsub [.dat false (dPrs ps) xs] (by simp)).putObj (.deferred none) hsz0 hK5 rfl rfl (by simp)
          refine .inr ⟨_, rfl, hK5, ?_⟩
          refine c_load1 agg_prs rfl ((M.B 3 rfl).at_ rfl) ?_
          refine c_load1 agg_b rfl ((M.B 2 rfl).at_ rfl) ?_
          refine c_load1 ag_eno rfl ((M.B 1 rfl).at_ rfl) ?_
          exact ⟨A, _, c, none, 0, 0, rfl, M.rowP (M.da 0 rfl) rfl, ⟨rfl, rfl, rfl⟩, M.below⟩
        | false =>
          dsimp only
          have hjc : jcF (ps.map Fnd.pair) = .exit 0 := by unfold jcF; rw [all_map]; rfl
          rw [hjc]
          refine v_load agg_prs rfl ((M.B 0 rfl).at_ rfl) ?_
          refine s_set 3 (.slice A ps.length c) ([.slice A ps.length c]) M rfl sz_prs rfl rfl rfl (Nat.le_of_ble_eq_true rfl) rfl ?_
          clear M; rintro W3 M
          dsimp only [setL] at M
          refine s_set 2 (.slice none 0 0) ([.slice none 0 0]) M rfl (by kernel_rfl) rfl rfl rfl (Nat.le_of_ble_eq_true rfl) rfl ?_
          clear M; rintro W4 M
          dsimp only [setL] at M
          refine s_set 1 (.int .i64 0) ([.int .i64 0]) M rfl (by kernel_rfl) rfl rfl rfl (Nat.le_of_ble_eq_true rfl) rfl ?_
          clear M; rintro W5 M
          dsimp only [setL] at M
          have hK5 := ((M.stp 0 rfl).block _ hDlt hnD).trans hK
          replace M := (M.fsub [.dat false (dPrs ps) xs] (by simp)).putObj (.deferred none) hsz0 hK5 rfl rfl (by simp)
          refine .inr ⟨_, rfl, hK5, ?_⟩
          refine c_load1 agg_prs rfl ((M.B 3 rfl).at_ rfl) ?_
          refine c_load1 agg_b rfl ((M.B 2 rfl).at_ rfl) ?_
          refine c_load1 ag_eno rfl ((M.B 1 rfl).at_ rfl) ?_
          exact ⟨A, _, c, none, 0, 0, rfl, M.rowP (M.da 0 rfl) rfl, ⟨rfl, rfl, rfl⟩, M.below⟩
      · have hE : endF (ps.map Fnd.pair ++ [.miss m]) = ⟨[], some m, 80⟩ := by unfold endF; rw [missF_snoc]
        rw [hE]
        have hg0 : goF most (ps.map Fnd.pair ++ [.miss m]) = false := by unfold goF; rw [all_snoc]; rfl
        rw [hg0] at hfg
        rw [← hfg]
        dsimp only
        have hjc : jcF (ps.map Fnd.pair ++ [.miss m]) = .ret := by unfold jcF; rw [all_snoc]; rfl
        rw [hjc]
        replace M := M.putObj (.deferred none) hsz0 hK rfl rfl (by simp)
        refine .inr ⟨_, rfl, hK, ?_⟩
        refine c_load1 agg_prs rfl ((M.B 3 rfl).at_ rfl) ?_
        refine c_load1 agg_b rfl ((M.B 2 rfl).at_ rfl) ?_
        refine c_load1 ag_eno rfl ((M.B 1 rfl).at_ rfl) ?_
        exact ⟨none, 0, 0, Am, _, cm, rfl, PrRow.nil, ⟨hAm, M.fin1 0 rfl⟩, M.below⟩
  · rw [if_neg he]
    first | refine s_set 0 (.slice none 0 0) ([.slice none 0 0]) M rfl (by kernel_rfl) rfl rfl rfl (Nat.le_of_ble_eq_true rfl) rfl ?_ | refine s_set 1 (.slice none 0 0) ([.slice none 0 0]) M rfl (by kernel_rfl) rfl rfl rfl (Nat.le_of_ble_eq_true rfl) rfl ?_ | refine s_set 2 (.slice none 0 0) ([.slice none 0 0]) M rfl (by kernel_rfl) rfl rfl rfl (Nat.le_of_ble_eq_true rfl) rfl ?_ | refine s_set 3 (.slice none 0 0) ([.slice none 0 0]) M rfl (by kernel_rfl) rfl rfl rfl (Nat.le_of_ble_eq_true rfl) rfl ?_
    clear M
    rintro W M
    dsimp only [setL] at M
    first | refine s_set 0 (.slice none 0 0) ([.slice none 0 0]) M rfl (by kernel_rfl) rfl rfl rfl (Nat.le_of_ble_eq_true rfl) rfl ?_ | refine s_set 1 (.slice none 0 0) ([.slice none 0 0]) M rfl (by kernel_rfl) rfl rfl rfl (Nat.le_of_ble_eq_true rfl) rfl ?_ | refine s_set 2 (.slice none 0 0) ([.slice none 0 0]) M rfl (by kernel_rfl) rfl rfl rfl (Nat.le_of_ble_eq_true rfl) rfl ?_ | refine s_set 3 (.slice none 0 0) ([.slice none 0 0]) M rfl (by kernel_rfl) rfl rfl rfl (Nat.le_of_ble_eq_true rfl) rfl ?_
    clear M
    rintro W M
    dsimp only [setL] at M
    first | refine s_set 0 (.int .i64 2) ([.int .i64 2]) M rfl (by kernel_rfl) rfl rfl rfl (Nat.le_of_ble_eq_true rfl) rfl ?_ | refine s_set 1 (.int .i64 2) ([.int .i64 2]) M rfl (by kernel_rfl) rfl rfl rfl (Nat.le_of_ble_eq_true rfl) rfl ?_ | refine s_set 2 (.int .i64 2) ([.int .i64 2]) M rfl (by kernel_rfl) rfl rfl rfl (Nat.le_of_ble_eq_true rfl) rfl ?_ | refine s_set 3 (.int .i64 2) ([.int .i64 2]) M rfl (by kernel_rfl) rfl rfl rfl (Nat.le_of_ble_eq_true rfl) rfl ?_
    clear M
    rintro W M
    dsimp only [setL] at M
    refine .inl ⟨rfl, ?_⟩
    refine c_load1 agg_prs rfl (by first | exact (M.B 0 rfl).at_ rfl | exact (M.B 1 rfl).at_ rfl | exact (M.B 2 rfl).at_ rfl | exact (M.B 3 rfl).at_ rfl | exact (M.B 4 rfl).at_ rfl | exact M.lc 0 rfl _ _ rfl | exact M.lc 1 rfl _ _ rfl | exact M.lc 2 rfl _ _ rfl | exact M.lc 3 rfl _ _ rfl | exact M.lc 4 rfl _ _ rfl | exact M.lc 5 rfl _ _ rfl | exact M.lc 6 rfl _ _ rfl | exact M.lc 7 rfl _ _ rfl) ?_
    refine c_load1 agg_b rfl (by first | exact (M.B 0 rfl).at_ rfl | exact (M.B 1 rfl).at_ rfl | exact (M.B 2 rfl).at_ rfl | exact (M.B 3 rfl).at_ rfl | exact (M.B 4 rfl).at_ rfl | exact M.lc 0 rfl _ _ rfl | exact M.lc 1 rfl _ _ rfl | exact M.lc 2 rfl _ _ rfl | exact M.lc 3 rfl _ _ rfl | exact M.lc 4 rfl _ _ rfl | exact M.lc 5 rfl _ _ rfl | exact M.lc 6 rfl _ _ rfl | exact M.lc 7 rfl _ _ rfl) ?_
    refine c_load1 ag_eno rfl (by first | exact (M.B 0 rfl).at_ rfl | exact (M.B 1 rfl).at_ rfl | exact (M.B 2 rfl).at_ rfl | exact (M.B 3 rfl).at_ rfl | exact (M.B 4 rfl).at_ rfl | exact M.lc 0 rfl _ _ rfl | exact M.lc 1 rfl _ _ rfl | exact M.lc 2 rfl _ _ rfl | exact M.lc 3 rfl _ _ rfl | exact M.lc 4 rfl _ _ rfl | exact M.lc 5 rfl _ _ rfl | exact M.lc 6 rfl _ _ rfl | exact M.lc 7 rfl _ _ rfl) ?_
    exact ⟨none, 0, 0, none, 0, 0, rfl, PrRow.nil, ⟨rfl, rfl, rfl⟩, M.below⟩
end Go.Proofs.YtdlljmmgkoeilaaDoor
namespace Go.Proofs.YtdlljmmgkoeilaaDoor
open Go.RowKit
def rangeP (t : Nd) (low high : List UInt8) (most : Int) (back : Bool) : PairsR := someP t (ofS low high) most back
theorem is_range : isFn Tryd.prog 41 = true := by kernel_rfl
theorem ofS_lo (low high : List UInt8) : (ofS low high).lo.length = 2 * low.length ∧ (ofS low high).hi.length = 2 * high.length := ⟨ofB_length low, ofB_length high⟩
theorem missOk_sub {W : World} {L : Lc} {R : List Row} {gs : List (Option Nat)} {way : List UInt8} {m : Option (List UInt8)} {A : Option Addr} {n c : Nat} (h : missOk W (Fd W (own L R gs)) way m A n c) : missOk W (Fd W gs) way m A n c := by
  unfold missOk at *
  cases m with
  | none => exact h
  | some r => exact ⟨h.1, h.2.to fun b hb => ⟨rfl, hb.1, fun e => hb.2 (own_gs e)⟩⟩
set_option maxRecDepth 100000 in
set_option maxHeartbeats 2000000 in
theorem srange_row (t : Nd) (low high : List UInt8) (most : Int) (ht : sz t ≤ 1000000) (gs : List (Option Nat)) (w : World) (cs : List Value) (A1 A2 : Option Addr) (n1 c1 n2 c2 : Nat) (hn : RdL w (Fd w gs) (dN t) cs) (h1 : RdD w (Fd w gs) (dB low) (.slice A1 n1 c1)) (h2 : RdD w (Fd w gs) (dB high) (.slice A2 n2 c2)) (hgs : ∀ b, some b ∈ gs → b < w.heap.size) (hz : n1 ≤ 500000 ∧ n2 ≤ 500000) :
    Calls Tryd.prog 41 #[.agg cs.toArray, .slice A1 n1 c1, .slice A2 n2 c2, .int .i64 most] w fun e W' => ∃ A n c Am nm cm, e = .returned (.tuple #[.slice A n c, .slice Am nm cm, .int .i64 (rangeP t low high most false).e]) ∧ PrRow w.heap.size W' gs (rangeP t low high most false).l A n c ∧ missOk W' (Fd W' gs) [] (rangeP t low high most false).miss Am nm cm ∧ Below w.heap.size w W' := by
  refine calls_ev (args := [.agg cs.toArray, .slice A1 n1 c1, .slice A2 n2 c2, .int .i64 most]) mixed Tryd.func41 rfl (by kernel_rfl) ?_
  have hl := hn.len
  rw [dN_len] at hl
  have e1 := h1.slen
  have e2 := h2.slen
  have M := (((St.start hgs).addD h2).addD h1).addL hn
  clear hn h1 h2
  refine s_box (cs) M rfl ?_
  clear M
  rintro g4 W M
  replace M := M.drew
  refine drT (Kp w gs [(g4, 28, cs)] []) (.take 0 (.take 1 (.take 2 (.take 4 (.one 3 (.one 5 (.take 6 (.take 7 (.take 8 (.take 9 (.take 10 (.take 11 (.nil))))))))))))) (by kernel_rfl) (M.kp (by simp) (by simp)) ?_
  refine t_loadN cs agg_nd rfl hl (fun W K => K.run 0 rfl) ?_
  refine cc is_sof (sof_any low high _ _ A1 A2 n1 c1 n2 c2 (M.d1 1 rfl) (M.d1 2 rfl) M.olt (by omega)) ?_
  rintro e W1 ⟨ss, rfl, hss, hb⟩
  replace M := M.callF hb hss
  refine ⟨_, rfl, (M.kp (by simp) (by simp)), ?_⟩
  have hlo := ofS_lo low high
  refine cc is_some (some_row t (ofS low high) most false ht (by omega) _ _ cs ss (M.da 1 rfl) (M.da 0 rfl) M.olt) ?_
  rintro e W2 ⟨A, n, c, Am, nm, cm, rfl, hA, hm, hb⟩
  obtain ⟨hnl, xs, M'⟩ := M.callP hb hA
  replace M := M'; clear M'
  refine ⟨_, rfl, (M.kp (by simp) (by simp)), ?_⟩
  exact ⟨A, n, c, Am, nm, cm, rfl, M.rowP (M.da 0 rfl) hnl, missOk_sub (L := [(g4, 28, cs)]) (R := []) hm, M.below⟩
theorem srange_any (t : Nd) (low high : List UInt8) (most : Int) (ht : sz t ≤ 1000000) (gs : List (Option Nat)) (w : World) (cs : List Value) (A1 A2 : Option Addr) (n1 c1 n2 c2 : Nat) (hn : RdL w (Fd w gs) (dN t) cs) (h1 : RdD w (Fd w gs) (dB low) (.slice A1 n1 c1)) (h2 : RdD w (Fd w gs) (dB high) (.slice A2 n2 c2)) (hgs : ∀ b, some b ∈ gs → b < w.heap.size) (hz : n1 ≤ 500000 ∧ n2 ≤ 500000) :
    Calls Tryd.prog 41 #[.agg cs.toArray, .slice A1 n1 c1, .slice A2 n2 c2, .int .i64 most] w fun e W' => ∃ A n c Am nm cm, e = .returned (.tuple #[.slice A n c, .slice Am nm cm, .int .i64 (rangeP t low high most false).e]) ∧ RdD W' (Fd W' gs) (dPl (rangeP t low high most false).l) (.slice A n c) ∧ missOk W' (Fd W' gs) [] (rangeP t low high most false).miss Am nm cm ∧ Below w.heap.size w W' :=
  (srange_row t low high most ht gs w cs A1 A2 n1 c1 n2 c2 hn h1 h2 hgs hz).mono fun e W' ⟨A, n, c, Am, nm, cm, h1, h2, h3⟩ => ⟨A, n, c, Am, nm, cm, h1, h2.rd hgs, h3⟩
structure FromR where
  p : Pr
  has : Bool
  miss : Option (List UInt8)
  e : Int
end Go.Proofs.YtdlljmmgkoeilaaDoor
namespace Go.Proofs.YtdlljmmgkoeilaaDoor
mutual
theorem getP_ml : ∀ (t : Nd) (q r : List UInt8), (getP t q).miss = some r → r.length ≤ sz t
  | .mk k p has v ks h, q, r, hm => by
    have hz := sz_eq (.mk k p has v ks h)
    simp only [Nd.path, Nd.val, Nd.kids, Nd.hash] at hz
    rw [getP.eq_def] at hm
    dsimp only at hm
    split at hm
    · injection hm with hm; subst hm; exact Nat.zero_le _
    split at hm
    · cases hm
    split at hm
    · split at hm
      · dsimp only at hm
        obtain ⟨r', h1, rfl⟩ := Option.map_eq_some_iff.1 hm
        have := getsP_ml ks 0 _ _ h1
        rw [List.length_append]; omega
      · cases hm
    split at hm
    · split at hm
      · cases hm
      · dsimp only at hm
        obtain ⟨r', h1, rfl⟩ := Option.map_eq_some_iff.1 hm
        have := getsP_ml ks _ _ _ h1
        rw [List.length_cons]; omega
    · cases hm
theorem getsP_ml : ∀ (ks : List Nd) (i : Nat) (q r : List UInt8), (getsP ks i q).miss = some r → r.length ≤ szs ks
  | [], _, _, _, hm => by rw [getsP] at hm; cases hm
  | t :: ts, 0, q, r, hm => by
    rw [getsP] at hm
    have := getP_ml t q r hm
    rw [szs]; omega
  | t :: ts, i + 1, q, r, hm => by
    rw [getsP] at hm
    have := getsP_ml ts i q r hm
    rw [szs]; omega
end
mutual
theorem putP_ml : ∀ (t : Nd) (q v0 r : List UInt8), (putP t q v0).2 = some r → r.length ≤ sz t
  | .mk k p has v ks h, q, v0, r, hm => by
    have hz := sz_eq (.mk k p has v ks h)
    simp only [Nd.path, Nd.val, Nd.kids, Nd.hash] at hz
    rw [putP.eq_def] at hm
    dsimp only at hm
    split at hm
    · injection hm with hm; subst hm; exact Nat.zero_le _
    split at hm
    · cases hm
    split at hm
    · split at hm <;> cases hm
    split at hm
    · split at hm
      · dsimp only at hm
        obtain ⟨r', h1, rfl⟩ := Option.map_eq_some_iff.1 hm
        have := putsP_ml ks 0 _ _ _ h1
        rw [List.length_append]; omega
      · cases hm
    split at hm
    · cases hm
    · dsimp only at hm
      obtain ⟨r', h1, rfl⟩ := Option.map_eq_some_iff.1 hm
      have := putsP_ml ks _ _ _ _ h1
      rw [List.length_cons]; omega
theorem putsP_ml : ∀ (ks : List Nd) (i : Nat) (q v0 r : List UInt8), (putsP ks i q v0).2 = some r → r.length ≤ szs ks
  | [], _, _, _, _, hm => by rw [putsP] at hm; cases hm
  | t :: ts, 0, q, v0, r, hm => by
    rw [putsP] at hm
    have := putP_ml t q v0 r hm
    rw [szs]; omega
  | t :: ts, i + 1, q, v0, r, hm => by
    rw [putsP] at hm
    have := putsP_ml ts i q v0 r hm
    rw [szs]; omega
end
theorem settleP_ml (t : Nd) (r : List UInt8) (hm : (settleP t).2 = some r) : r.length = 1 := by
  unfold settleP at hm
  split at hm
  · cases hm
  · cases hm
  · split at hm
    · injection hm with hm; subst hm; rfl
    · cases hm
mutual
theorem dropP_ml : ∀ (t : Nd) (q r : List UInt8), (dropP t q).2 = some r → r.length ≤ sz t
  | .mk k p has v ks h, q, r, hm => by
    have hz := sz_eq (.mk k p has v ks h)
    simp only [Nd.path, Nd.val, Nd.kids, Nd.hash] at hz
    rw [dropP.eq_def] at hm
    dsimp only at hm
    split at hm
    · cases hm
    split at hm
    · obtain ⟨r', h1, rfl⟩ := Option.map_eq_some_iff.1 hm
      have := dropsP_ml ks 0 _ _ h1
      rw [List.length_append]; omega
    split at hm
    · have := settleP_ml _ _ hm
      omega
    · split at hm
      · obtain ⟨r', h1, rfl⟩ := Option.map_eq_some_iff.1 hm
        have := dropsP_ml ks _ _ _ h1
        rw [List.length_cons]; omega
      · have := settleP_ml _ _ hm
        omega
theorem dropsP_ml : ∀ (ks : List Nd) (i : Nat) (q r : List UInt8), (dropsP ks i q).2 = some r → r.length ≤ szs ks
  | [], _, _, _, hm => by rw [dropsP] at hm; cases hm
  | t :: ts, 0, q, r, hm => by
    rw [dropsP] at hm
    have := dropP_ml t q r hm
    rw [szs]; omega
  | t :: ts, i + 1, q, r, hm => by
    rw [dropsP] at hm
    have := dropsP_ml ts i q r hm
    rw [szs]; omega
end
mutual
theorem walkP_ml (s : Span) (back : Bool) : ∀ (t : Nd) (way m : List UInt8), Fnd.miss m ∈ walkP s back t way → m.length ≤ way.length + sz t
  | .mk k p has v ks h, way, m, hm => by
    have hz := sz_eq (.mk k p has v ks h)
    simp only [Nd.path, Nd.val, Nd.kids, Nd.hash] at hz
    rw [walkP.eq_def] at hm
    dsimp only at hm
    have own : ∀ m, Fnd.miss m ∈ ownF (.mk k p has v ks h) s (way ++ p) → False := fun m hm => by
      unfold ownF at hm
      split at hm
      · cases hm
      · rcases List.mem_singleton.1 hm with e; cases e
    have kids : ∀ l ∈ walkK s back ks (decide (k = 3)) 0 (way ++ p), Fnd.miss m ∈ l → m.length ≤ way.length + sz (.mk k p has v ks h) := fun l hl hm => by
      have := walkK_ml s back ks _ _ _ l hl m hm
      rw [List.length_append] at this; omega
    split at hm
    · cases hm
    split at hm
    · rcases List.mem_singleton.1 hm with e
      injection e with e
      subst e
      rw [List.length_append]; omega
    split at hm
    · rcases List.mem_append.1 hm with hm | hm
      · exact (own m hm).elim
      · obtain ⟨l, hl, hm⟩ := List.mem_flatten.1 hm
        exact kids l hl hm
    · rcases List.mem_append.1 hm with hm | hm
      · obtain ⟨l, hl, hm⟩ := List.mem_flatten.1 hm
        exact kids l (List.mem_reverse.1 hl) hm
      · exact (own m hm).elim
theorem walkK_ml (s : Span) (back : Bool) : ∀ (ks : List Nd) (br : Bool) (i : Nat) (at_ : List UInt8), ∀ l ∈ walkK s back ks br i at_, ∀ m, Fnd.miss m ∈ l → m.length ≤ at_.length + 1 + szs ks
  | [], _, _, _, l, hl, _, _ => by rw [walkK] at hl; cases hl
  | t :: ts, br, i, at_, l, hl, m, hm => by
    rw [walkK] at hl
    rw [szs]
    rcases List.mem_cons.1 hl with rfl | hl
    · have := walkP_ml s back t _ m hm
      split at this
      · rw [List.length_append, List.length_singleton] at this; omega
      · omega
    · have := walkK_ml s back ts br (i + 1) at_ l hl m hm
      omega
end
theorem feed_mem {α : Type} {go : List α → Bool} : ∀ (l pre : List α), ∀ x ∈ (feed go pre l).1, x ∈ pre ∨ x ∈ l
  | [], pre, x, h => .inl h
  | y :: l, pre, x, h => by
    unfold feed at h
    split at h
    · rcases feed_mem l _ x h with h | h
      · rcases List.mem_append.1 h with h | h
        · exact .inl h
        · rw [List.mem_singleton.1 h]; exact .inr (List.mem_cons_self ..)
      · exact .inr (List.mem_cons_of_mem _ h)
    · rcases List.mem_append.1 h with h | h
      · exact .inl h
      · rw [List.mem_singleton.1 h]; exact .inr (List.mem_cons_self ..)
theorem missF_mem : ∀ {l : List Fnd} {m : List UInt8}, missF l = some m → Fnd.miss m ∈ l
  | .pair p :: l, m, h => List.mem_cons_of_mem _ (missF_mem (by rw [missF] at h; exact h))
  | .miss m0 :: l, m, h => by rw [missF] at h; injection h with h; subst h; exact List.mem_cons_self ..
theorem rangeP_ml {t : Nd} {low high : List UInt8} {most : Int} {back : Bool} {r : List UInt8} (h : (rangeP t low high most back).miss = some r) : r.length ≤ sz t := by
  unfold rangeP someP at h
  split at h
  · split at h
    · cases h
    split at h
    · cases h
    unfold endF at h
    split at h
    · next m hm =>
      injection h with h
      subst h
      rcases feed_mem _ _ _ (missF_mem hm) with h | h
      · cases h
      · have := walkP_ml _ _ _ _ _ h
        rwa [List.length_nil, Nat.zero_add] at this
    · cases h
  · cases h
theorem tGet_ml {t : Nd} {key r : List UInt8} (h : (tGet t key).miss = some r) : r.length ≤ sz t ∧ (tGet t key).e = 80 := by
  rcases tGet_cases t key with ⟨_, e⟩ | ⟨_, ⟨r', h1, e⟩ | ⟨_, _, e⟩ | ⟨_, _, e⟩⟩ <;> rw [e] at h ⊢
  · cases h
  · injection h with h; subst h; exact ⟨getP_ml t _ _ h1, rfl⟩
  · cases h
  · cases h
theorem tGet_none {t : Nd} {key : List UInt8} (h : (tGet t key).miss = none) : (tGet t key).e ≠ 80 := by
  rcases tGet_cases t key with ⟨_, e⟩ | ⟨_, ⟨r', h1, e⟩ | ⟨_, _, e⟩ | ⟨_, _, e⟩⟩ <;> rw [e] at h ⊢
  · exact (by decide : ¬ (2 : Int) = 80)
  · cases h
  · exact (by decide : ¬ (0 : Int) = 80)
  · exact (by decide : ¬ (0 : Int) = 80)
/-- A way is told if and only if a stub is in the way. -/
def WayOk (t : Nd) (m : Option (List UInt8)) (e : Int) : Prop := match m with
  | none => e ≠ 80
  | some r => e = 80 ∧ r.length ≤ sz t
theorem wayGet (t : Nd) (key : List UInt8) : WayOk t (tGet t key).miss (tGet t key).e := by
  cases h : (tGet t key).miss with
  | none => exact tGet_none h
  | some r => exact ⟨(tGet_ml h).2, (tGet_ml h).1⟩
theorem wayPut (t : Nd) (key val : List UInt8) : WayOk t (tPut t key val).2.1 (tPut t key val).2.2 := by
  unfold tPut
  split
  · split
    · next r h => exact ⟨rfl, putP_ml _ _ _ _ h⟩
    · exact (by decide : ¬ (0 : Int) = 80)
  · exact (by decide : ¬ (2 : Int) = 80)
theorem wayDrop (t : Nd) (key : List UInt8) : WayOk t (tDrop t key).miss (tDrop t key).e := by
  unfold tDrop
  split
  · split
    · split
      · next r h => exact ⟨rfl, dropP_ml _ _ _ h⟩
      · exact (by decide : ¬ (0 : Int) = 80)
    · exact (by decide : ¬ (0 : Int) = 80)
  · exact wayGet t key
theorem wayRange (t : Nd) (low high : List UInt8) (most : Int) : WayOk t (rangeP t low high most false).miss (rangeP t low high most false).e := by
  cases h : (rangeP t low high most false).miss with
  | some r =>
    refine ⟨?_, rangeP_ml h⟩
    unfold rangeP someP at h ⊢
    split at h
    · split at h
      · cases h
      split at h
      · cases h
      rw [if_pos (by assumption), if_neg (by assumption), if_neg (by assumption)]
      unfold endF at h ⊢
      split at h
      · rfl
      · cases h
    · cases h
  | none =>
    show (rangeP t low high most false).e ≠ 80
    unfold rangeP someP at h ⊢
    split
    · rw [if_pos (by assumption)] at h
      split
      · exact (by decide : ¬ (2 : Int) = 80)
      rw [if_neg (by assumption)] at h
      split
      · exact (by decide : ¬ (0 : Int) = 80)
      rw [if_neg (by assumption)] at h
      unfold endF at h ⊢
      split at h
      · cases h
      · exact (by decide : ¬ (0 : Int) = 80)
    · exact (by decide : ¬ (2 : Int) = 80)
/-- What a store holds behind something that is done. -/
def stepT (t : Nd) (k : Int) (key val : List UInt8) : Nd :=
  if k = 2 then (if (tPut t key val).2.2 = 0 then (tPut t key val).1 else t)
  else if k = 3 then (if (tDrop t key).e = 0 then (tDrop t key).t else t) else t
theorem check_valS {t : Nd} : checkE t = 0 ↔ Val true t 0 := by
  unfold checkE
  constructor
  · intro h
    split at h
    · next hr => exact val_of_right true _ t 0 (Nat.lt_succ_self _) hr
    · cases h
  · intro h
    rw [if_pos (right_of_val h)]
end Go.Proofs.YtdlljmmgkoeilaaDoor
namespace Go.Proofs.YtdlljmmgkoeilaaDoor
open Go.RowKit
/-- An element's place, reckoned. -/
theorem p_atM {P : Program} {E : Env} {d : Option Nat} {ty : TypeId} {p : String} {af : Array Edge} {g : Option (Nat × Bool)} {x y : Operand} {t : TypeId} {kd : IntKind} {k : Value → Prop} {b o q n c i : Nat} {e : TypeId} {s : Nat} {j : Int} (hT : slOf P t = some (e, s)) (hx : val E x = .slice (some ⟨b, o, none⟩) n c) (hy : val E y = .int kd j) (hj : j = (i : Int)) (hi : i < n) (hq : o + i * s = q)
    (h : k (.pointer (some ⟨b, q, none⟩))) : VPure P E { dst := d, op := .indexAddr t x y, type := ty, pos := p, after := af, guard := g } k :=
  p_at hT hx hy hj hi (by rw [Addr.add_lit, hq]; exact h)
section
variable {P : Program} {E : Env} {d : Option Nat} {ty : TypeId} {p : String} {af : Array Edge} {gd : Option (Nat × Bool)} {x y : Operand} {t : TypeId} {kw : Value → World → Prop} {w W : World} {gs : List (Option Nat)} {L : Lc} {R : List Row} {fs : List Fact}
end
end Go.Proofs.YtdlljmmgkoeilaaDoor
namespace Go.Proofs.YtdlljmmgkoeilaaDoor
open Go.RowKit
/-- Turned to the right. -/
def rotr (x n : Nat) : Nat := ((x <<< (32 - n)) % 4294967296) ||| (x >>> n)
end Go.Proofs.YtdlljmmgkoeilaaDoor
namespace Go.Proofs.YtdlljmmgkoeilaaDoor
def byt (b : List UInt8) (k : Nat) : Nat := (b.getD k 0).toNat
/-- Four bytes, the highest first. -/
def wordB (b : List UInt8) (i : Nat) : Nat := (((byt b (4 * i) <<< 24) ||| (byt b (4 * i + 1) <<< 16)) ||| (byt b (4 * i + 2) <<< 8)) ||| byt b (4 * i + 3)
def sg0 (x : Nat) : Nat := (rotr x 7 ^^^ rotr x 18) ^^^ (x >>> 3)
def sg1 (x : Nat) : Nat := (rotr x 17 ^^^ rotr x 19) ^^^ (x >>> 10)
def nextW (w : List Nat) (i : Nat) : Nat := (((sg1 (w.getD (i - 2) 0) + w.getD (i - 7) 0) % 4294967296 + sg0 (w.getD (i - 15) 0)) % 4294967296 + w.getD (i - 16) 0) % 4294967296
/-- The first i of the words of 64 bytes. -/
def wsF (b : List UInt8) : Nat → List Nat
  | 0 => []
  | i + 1 => wsF b i ++ [if i < 16 then wordB b i else nextW (wsF b i) i]
def words (b : List UInt8) : List Nat := wsF b 64
/-- A cell of a word. -/
def cu (n : Nat) : Value := .int .u32 (n : Int)
end Go.Proofs.YtdlljmmgkoeilaaDoor
