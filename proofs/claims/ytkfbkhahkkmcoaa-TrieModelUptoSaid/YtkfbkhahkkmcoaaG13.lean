/- Reference 07's walks: Same, Much. Reference 08: items as data; the walk of Items. Halves of bytes: packed and unpacked: the program's own. Halves of bytes: unpacked; compared: the program's own. Halves of bytes: the reference's walks. Halves of bytes: the reference's walks of what is packed. Reference 08: the walks of alike and Build. Halves of bytes: plain laws of the functions: there and back, order, what is joined. Reference 08: the walks of right, stub, Get. Reference 08: the walks of Put and Drop. Tries without stubs, plainly. The walks of trie.Of, pairs and Pairs. Reference 08: the walks of SamePairs, Pairs, Rising, Of. -/
import Derived.Test.YtkfbkhahkkmcoaaG12
import Derived.Test.YtkfbkhahkkmcoaaG07
import Derived.Test.YtkfbkhahkkmcoaaG03
namespace Go.Proofs.Ytkfbkhahkkmcoaa
open Go.RowKit
def RSameOk (a : Nd) : Prop := ∀ (b : Nd) (gs : List (Option Nat)) (w : World) (ca cb : List Value), RdL w (Fd w gs) (dN a) ca → RdL w (Fd w gs) (dN b) cb → (∀ b, some b ∈ gs → b < w.heap.size) → sz b ≤ 1000000000 →
  Calls Try.prog 39 #[.agg ca.toArray, .agg cb.toArray] w fun e w' => ∃ q : Bool, e = .returned (.bool q) ∧ (q = true ↔ a = b) ∧ Below w.heap.size w w'
theorem Nd.ext' {a b : Nd} (h1 : a.kind = b.kind) (h2 : a.path = b.path) (h3 : a.has = b.has) (h4 : a.val = b.val) (h5 : a.kids = b.kids) (h6 : a.hash = b.hash) : a = b := by
  rw [Nd.eta a, Nd.eta b, h1, h2, h3, h4, h5, h6]
set_option maxRecDepth 100000 in
set_option maxHeartbeats 2000000 in
theorem rsame_step (N : Nat) (ih : ∀ k : Nd, sz k < N → RSameOk k) (a : Nd) (ht : sz a ≤ N) (hN : N ≤ 1000000000) : RSameOk a := by
  intro b gs w ca cb hra hrb hgs hzb
  refine calls_ev (args := [.agg ca.toArray, .agg cb.toArray]) mixed Try.func39 rfl (by kernel_rfl) ?_
  obtain ⟨Ap, cp, Av, cv, Ak, ck, Ah, ch, rfl, r1, r3, r4, r5⟩ := hra.node
  obtain ⟨Bp, dp, Bv, dv, Bk, dk, Bh, dh, rfl, s1, s3, s4, s5⟩ := hrb.node
  have hsz := sz_eq a
  have hsl := szs_len a.kids
  have hsz' := sz_eq b
  have hsl' := szs_len b.kids
  have M := ((((((((St.start hgs).addD r5).addD r3).addD r1).addD s5).addD s3).addD s1).addD s4).addD r4
  clear r1 r3 r4 r5 hra s1 s3 s4 s5 hrb
  refine ev_assoc ?_
  refine cutS (Nat × Nat) (fun s W => St w gs W [(s.2, 25, ncs b Bp dp Bv dv Bk dk Bh dh), (s.1, 25, ncs a Ap cp Av cv Ak ck Ah ch)] [] [.dat false [dKs a.kids] [.slice Ak a.kids.length ck], .dat false [dKs b.kids] [.slice Bk b.kids.length dk]] ∧ a.kids.length = b.kids.length ∧ (a.kids = b.kids → a = b)) (fun s => [(2, .pointer (some ⟨s.1, 0, none⟩)), (3, .pointer (some ⟨s.2, 0, none⟩))]) ?_ ?_
  ·
    refine s_box (ncs a Ap cp Av cv Ak ck Ah ch) M rfl ?_
    clear M
    rintro g2 W M
    refine s_box (ncs b Bp dp Bv dv Bk dk Bh dh) M rfl ?_
    clear M
    rintro g3 W M
    have hB := M.B 0 rfl
    have hC := M.B 1 rfl
    unfold ncs at hB hC
    have hbel := M.below
    repeat' first
      | (refine p_fld fN0 rfl ?_)
      | (refine v_load agg_int rfl (hB.at_ rfl) ?_)
      | (refine v_load agg_int rfl (hC.at_ rfl) ?_)
    refine p_ne rfl rfl (fun hk => ?_) (fun hk => ?_)
    rotate_left
    ·
      exact ⟨false, rfl, ⟨(fun h => by cases h), fun h => absurd (by rw [h]) hk⟩, hbel⟩
    repeat' first
      | (refine p_fld fN2 rfl ?_)
      | (refine v_load agg_bo rfl (hB.at_ rfl) ?_)
      | (refine v_load agg_bo rfl (hC.at_ rfl) ?_)
    refine p_bneC u_bool rfl rfl (fun hh => ?_) (fun hh => ?_)
    rotate_left
    ·
      exact ⟨false, rfl, ⟨(fun h => by cases h), fun h => absurd (by rw [h]) hh⟩, hbel⟩
    repeat' first
      | (refine p_fld fN1 rfl ?_)
      | (refine v_load agg_b rfl (hB.at_ rfl) ?_)
      | (refine v_load agg_b rfl (hC.at_ rfl) ?_)
    obtain ⟨q, hq, hc⟩ := same_tf (c1 := cp) (c2 := dp) (M.rdb 5 rfl).2.2 (M.rdb 2 rfl).2.2
    cases q with
    | false =>
      refine cc is_same0 hc ?_
      rintro e W' ⟨rfl, rfl⟩
      refine ⟨_, rfl, ?_⟩
      refine p_not rfl ?_
      exact ⟨false, rfl, ⟨(fun h => by cases h), fun h => absurd (hq.2 (by rw [h])) (by decide)⟩, hbel⟩
    | true =>
    have hp := hq.1 rfl
    refine cc is_same0 hc ?_
    rintro e W' ⟨rfl, rfl⟩
    refine ⟨_, rfl, ?_⟩
    refine p_not rfl ?_
    clear hq hc
    repeat' first
      | (refine p_fld fN3 rfl ?_)
      | (refine v_load agg_b rfl (hB.at_ rfl) ?_)
      | (refine v_load agg_b rfl (hC.at_ rfl) ?_)
    obtain ⟨q, hq, hc⟩ := same_tf (c1 := cv) (c2 := dv) (M.rdb 6 rfl).2.2 (M.rdb 3 rfl).2.2
    cases q with
    | false =>
      refine cc is_same0 hc ?_
      rintro e W' ⟨rfl, rfl⟩
      refine ⟨_, rfl, ?_⟩
      refine p_not rfl ?_
      exact ⟨false, rfl, ⟨(fun h => by cases h), fun h => absurd (hq.2 (by rw [h])) (by decide)⟩, hbel⟩
    | true =>
    have hv := hq.1 rfl
    refine cc is_same0 hc ?_
    rintro e W' ⟨rfl, rfl⟩
    refine ⟨_, rfl, ?_⟩
    refine p_not rfl ?_
    clear hq hc
    repeat' first
      | (refine p_fld fN5 rfl ?_)
      | (refine v_load agg_b rfl (hB.at_ rfl) ?_)
      | (refine v_load agg_b rfl (hC.at_ rfl) ?_)
    obtain ⟨q, hq, hc⟩ := same_tf (c1 := ch) (c2 := dh) (M.rdb 7 rfl).2.2 (M.rdb 4 rfl).2.2
    cases q with
    | false =>
      refine cc is_same0 hc ?_
      rintro e W' ⟨rfl, rfl⟩
      refine ⟨_, rfl, ?_⟩
      refine p_not rfl ?_
      exact ⟨false, rfl, ⟨(fun h => by cases h), fun h => absurd (hq.2 (by rw [h])) (by decide)⟩, hbel⟩
    | true =>
    have hs := hq.1 rfl
    refine cc is_same0 hc ?_
    rintro e W' ⟨rfl, rfl⟩
    refine ⟨_, rfl, ?_⟩
    refine p_not rfl ?_
    clear hq hc
    repeat' first
      | (refine p_fld fN4 rfl ?_)
      | (refine v_load agg_ns rfl (hB.at_ rfl) ?_)
      | (refine v_load agg_ns rfl (hC.at_ rfl) ?_)
    repeat' first
      | (refine p_fld fN0 rfl ?_)
      | (refine p_fld fN1 rfl ?_)
      | (refine p_fld fN2 rfl ?_)
      | (refine p_fld fN3 rfl ?_)
      | (refine p_fld fN4 rfl ?_)
      | (refine p_fld fN5 rfl ?_)
      | (refine v_load agg_int rfl (hB.at_ rfl) ?_)
      | (refine v_load agg_b rfl (hB.at_ rfl) ?_)
      | (refine v_load agg_bo rfl (hB.at_ rfl) ?_)
      | (refine v_load agg_ns rfl (hB.at_ rfl) ?_)
      | (refine p_len slb rfl ?_)
      | (refine p_len sln rfl ?_)
    repeat' first
      | (refine p_fld fN0 rfl ?_)
      | (refine p_fld fN1 rfl ?_)
      | (refine p_fld fN2 rfl ?_)
      | (refine p_fld fN3 rfl ?_)
      | (refine p_fld fN4 rfl ?_)
      | (refine p_fld fN5 rfl ?_)
      | (refine v_load agg_int rfl (hC.at_ rfl) ?_)
      | (refine v_load agg_b rfl (hC.at_ rfl) ?_)
      | (refine v_load agg_bo rfl (hC.at_ rfl) ?_)
      | (refine v_load agg_ns rfl (hC.at_ rfl) ?_)
      | (refine p_len slb rfl ?_)
      | (refine p_len sln rfl ?_)
    refine p_ne rfl rfl (fun hl => ?_) (fun hl => ?_)
    · exact ⟨(g2, g3), ⟨M.fsub _ (by simp), by omega, fun h => Nd.ext' hk hp hh hv h hs⟩, (by repeat (first | exact trivial | refine ⟨rfl, ?_⟩))⟩
    · exact ⟨false, rfl, ⟨(fun h => by cases h), fun h => absurd (by rw [h]) hl⟩, hbel⟩
  · clear M
    rintro ⟨g2, g3⟩ B W ⟨M, hl, hab⟩
    dsimp only at M
    refine lp Nat (fun i W => i ≤ a.kids.length ∧ St w gs W [(g3, 25, ncs b Bp dp Bv dv Bk dk Bh dh), (g2, 25, ncs a Ap cp Av cv Ak ck Ah ch)] [] [.dat false [dKs a.kids] [.slice Ak a.kids.length ck], .dat false [dKs b.kids] [.slice Bk b.kids.length dk]] ∧ a.kids.take i = b.kids.take i) (fun i => [(2, .pointer (some ⟨g2, 0, none⟩)), (3, .pointer (some ⟨g3, 0, none⟩)), (5, .int .i64 i)]) (fun i => a.kids.length - i) 0 ⟨Nat.zero_le _, M, rfl⟩ (by repeat (first | exact trivial | refine ⟨rfl, ?_⟩)) ?_
    clear M
    rintro i E5 W5 ⟨hi, M, hrs⟩
    refine p_fld fN4 rfl ?_
    refine v_load agg_ns rfl (by first | exact (M.B 0 rfl).at_ rfl | exact (M.B 1 rfl).at_ rfl | exact (M.B 2 rfl).at_ rfl | exact (M.B 3 rfl).at_ rfl | exact (M.B 4 rfl).at_ rfl | exact M.lc 0 rfl _ _ rfl | exact M.lc 1 rfl _ _ rfl | exact M.lc 2 rfl _ _ rfl | exact M.lc 3 rfl _ _ rfl | exact M.lc 4 rfl _ _ rfl | exact M.lc 5 rfl _ _ rfl | exact M.lc 6 rfl _ _ rfl | exact M.lc 7 rfl _ _ rfl) ?_
    refine p_len sln rfl ?_
    refine p_lt rfl rfl (fun hlt => ?_) (fun hge => ?_)
    · obtain ⟨k, hki⟩ : ∃ k, a.kids[i]? = some k := ⟨_, List.getElem?_eq_getElem (by omega)⟩
      obtain ⟨k', hki'⟩ : ∃ k, b.kids[i]? = some k := ⟨_, List.getElem?_eq_getElem (by omega)⟩
      have hkz := szs_mem (List.mem_of_getElem? hki)
      have hkz' := szs_mem (List.mem_of_getElem? hki')
      replace M := M.drew
      obtain ⟨b1, o1, es, rfl, hel, M'⟩ := M.kid (M.d1 0 rfl) hki
      replace M := M'; clear M'
      obtain ⟨b2, o2, es', rfl, hel', M'⟩ := M.kid (M.d1 3 rfl) hki'
      replace M := M'; clear M'
      refine drT (Kp w gs [(g3, 25, ncs b Bp dp Bv dv (some ⟨b2, o2, none⟩) dk Bh dh), (g2, 25, ncs a Ap cp Av cv (some ⟨b1, o1, none⟩) ck Ah ch)] [.loc ((⟨b1, o1, none⟩ : Addr).add (i * 6)) es, .loc ((⟨b2, o2, none⟩ : Addr).add (i * 6)) es']) (.take 0 (.take 1 (.take 2 (.take 3 (.take 4 (.take 5 (.take 6 (.take 7 (.take 8 (.take 9 (.one 10 (.take 11 (.nil))))))))))))) (by kernel_rfl) (M.kp (by simp) (by simp)) ?_
      refine p_fld fN4 rfl ?_
      refine t_load agg_ns rfl (fun W K => by first | exact (K.B 0 rfl).at_ rfl | exact (K.B 1 rfl).at_ rfl | exact (K.B 2 rfl).at_ rfl | exact (K.B 3 rfl).at_ rfl | exact K.lc 0 rfl _ _ rfl | exact K.lc 1 rfl _ _ rfl | exact K.lc 2 rfl _ _ rfl | exact K.lc 3 rfl _ _ rfl) ?_
      refine p_at sln rfl rfl rfl (by omega) ?_
      refine t_loadN es agg_nd rfl hel (fun W K => K.lc 0 rfl) ?_
      refine p_fld fN4 rfl ?_
      refine t_load agg_ns rfl (fun W K => by first | exact (K.B 0 rfl).at_ rfl | exact (K.B 1 rfl).at_ rfl | exact (K.B 2 rfl).at_ rfl | exact (K.B 3 rfl).at_ rfl | exact K.lc 0 rfl _ _ rfl | exact K.lc 1 rfl _ _ rfl | exact K.lc 2 rfl _ _ rfl | exact K.lc 3 rfl _ _ rfl) ?_
      refine p_at sln rfl rfl rfl (by omega) ?_
      refine t_loadN es' agg_nd rfl hel' (fun W K => K.lc 1 rfl) ?_
      refine cc is_r7same (ih k (by omega) k' _ _ es es' (M.da 3 rfl) (M.da 1 rfl) M.olt (by omega)) ?_
      rintro e W ⟨q, rfl, hq, hb⟩
      replace M := M.call hb
      refine ⟨_, rfl, (M.kp (by simp) (by simp)), ?_⟩
      refine p_not rfl ?_
      cases q with
      | false =>
        refine ⟨false, rfl, ⟨(fun h => by cases h), fun h => ?_⟩, M.below⟩
        rw [h, hki'] at hki
        injection hki with hki
        exact hq.2 hki.symm
      | true =>
        have hkk := hq.1 rfl
        refine p_addN (b := 1) rfl rfl (by omega) ?_
        refine ⟨i + 1, ⟨by omega, M.fsub _ (by simp), ?_⟩, (by repeat (first | exact trivial | refine ⟨rfl, ?_⟩)), by omega⟩
        have h1 := List.getElem?_eq_some_iff.1 hki
        have h2 := List.getElem?_eq_some_iff.1 hki'
        rw [List.take_succ_eq_append_getElem h1.1, List.take_succ_eq_append_getElem h2.1, h1.2, h2.2, hrs, hkk]
    · refine ⟨true, rfl, ⟨fun _ => hab ?_, fun _ => rfl⟩, M.below⟩
      rw [List.take_of_length_le (by omega), List.take_of_length_le (by omega)] at hrs
      exact hrs
theorem rsame_any : ∀ (N : Nat), N ≤ 1000000000 → ∀ t : Nd, sz t < N → RSameOk t
  | 0, _, t, h => by omega
  | N + 1, hN, t, h => rsame_step N (fun k hk => rsame_any N (by omega) k hk) t (by omega) (by omega)
end Go.Proofs.Ytkfbkhahkkmcoaa
namespace Go.Proofs.Ytkfbkhahkkmcoaa
open Go.RowKit
structure It where
  path : List UInt8
  val : List UInt8
  stub : Bool
  known : Bool
  hash : List UInt8
mutual
def itemsP : Nd → List UInt8 → Bool → List It
  | .mk k p has v ks h, way, known =>
    if k = 4 then [⟨way ++ p, [], true, known, h⟩]
    else (if k = 1 ∨ has = true then [⟨way ++ p, v, false, false, []⟩] else []) ++ itemsK ks (decide (k = 3)) (decide (k = 2)) 0 (way ++ p)
def itemsK : List Nd → Bool → Bool → Nat → List UInt8 → List It
  | [], _, _, _, _ => []
  | t :: ts, br, known, i, at_ => itemsP t (if br then at_ ++ [UInt8.ofNat i] else at_) known ++ itemsK ts br known (i + 1) at_
end
end Go.Proofs.Ytkfbkhahkkmcoaa
namespace Go.Proofs.Ytkfbkhahkkmcoaa
open Go.RowKit

theorem bytesE_no {l : List UInt8} (h : halvesB l = false) : bytesE l = 2 ∧ bytesL l = [] := by simp [bytesE, bytesL, h]
theorem bytesE_odd {l : List UInt8} (h : halvesB l = true) (k : l.length % 2 = 1) : bytesE l = 11 ∧ bytesL l = [] := by simp [bytesE, bytesL, h, k]
theorem bytesE_ok {l : List UInt8} (h : halvesB l = true) (k : l.length % 2 = 0) : bytesE l = 0 ∧ bytesL l = joinB l := by simp [bytesE, bytesL, h, k]
theorem ret_se {A A' : Option Addr} {n n' c c' : Nat} {x y : Int} (h : Value.slice A n c = Value.slice A' n' c') (k : x = y) : Ending.returned (.tuple #[.slice A n c, .int .i64 x]) = Ending.returned (.tuple #[.slice A' n' c', .int .i64 y]) := by rw [h, k]

theorem packE_no {l : List UInt8} (h : halvesB l = false) (leaf : Bool) : packE l = 2 ∧ packL l leaf = [] := by simp [packE, packL, h]
theorem packE_ok {l : List UInt8} (h : halvesB l = true) : packE l = 0 := by simp [packE, h]
theorem packL_even {l : List UInt8} (h : halvesB l = true) (k : l.length % 2 = 0) (leaf : Bool) (x : Int) (hx : x = if leaf = true then 32 else 0) : packL l leaf = [b8 x] ++ joinB l := by simp [packL, h, k, hx]
theorem packL_odd {l : List UInt8} (h : halvesB l = true) (k : l.length % 2 = 1) (leaf : Bool) (x : Int) (hx : x = (if leaf = true then 32 else 0) + 16 + at8 l 0) : packL l leaf = [b8 x] ++ joinB (l.drop 1) := by simp [packL, h, k, hx]
theorem halvesB_dropP {l : List UInt8} (h : halvesB l = true) (k : Nat) : halvesB (l.drop k) = true := by
  unfold halvesB at *
  rw [List.all_eq_true] at *
  exact fun x hx => h x (List.mem_of_mem_drop hx)
end Go.Proofs.Ytkfbkhahkkmcoaa
namespace Go.Proofs.Ytkfbkhahkkmcoaa
open Go.RowKit

theorem cmpB_lt {a b : List UInt8} {n : Nat} (h : commonB a b = n) (h1 : n = a.length) (h2 : n ≠ b.length) : cmpB a b = -1 := by unfold cmpB; simp only [h]; rw [if_neg (fun e => h2 e.2), if_pos (.inl h1)]
theorem cmpB_gt {a b : List UInt8} {n : Nat} (h : commonB a b = n) (h1 : n ≠ a.length) (h2 : ¬ n < b.length) : cmpB a b = 1 := by unfold cmpB; simp only [h]; rw [if_neg (fun e => h1 e.1), if_neg (fun e => e.elim h1 (fun e => h2 e.1))]
theorem cmpB_at_lt {a b : List UInt8} {n : Nat} (h : commonB a b = n) (h1 : n < b.length) (h2 : at8 a n < at8 b n) (h3 : n ≠ a.length) : cmpB a b = -1 := by unfold cmpB; simp only [h]; rw [if_neg (fun e => h3 e.1), if_pos (.inr ⟨h1, h2⟩)]
theorem cmpB_at_ge {a b : List UInt8} {n : Nat} (h : commonB a b = n) (h1 : n ≠ a.length) (h2 : ¬ at8 a n < at8 b n) : cmpB a b = 1 := by unfold cmpB; simp only [h]; rw [if_neg (fun e => h1 e.1), if_neg (fun e => e.elim h1 (fun e => h2 e.2))]

end Go.Proofs.Ytkfbkhahkkmcoaa
namespace Go.Proofs.Ytkfbkhahkkmcoaa
open Go.RowKit

theorem take_set1 (L P : List UInt8) (k : Nat) (x : UInt8) (h : k < L.length) (hp : L.take k = P) : (L.set k x).take (k + 1) = P ++ [x] := by
  subst hp
  rw [take_snoc _ _ (by simpa using h), List.take_set, List.set_eq_of_length_le (by simp; omega)]
  simp [h]
end Go.Proofs.Ytkfbkhahkkmcoaa
namespace Go.Proofs.Ytkfbkhahkkmcoaa
open Go.RowKit

set_option maxHeartbeats 800000 in
theorem refBytes_any (A : Option Addr) (n c : Nat) (l : List UInt8) (w : World) (hr : Rd w w.heap.size A n l) (hn : n ≤ 100000000000) :
    Calls Try.prog 57 #[.slice A n c] w fun e w' => ∃ A' n' c', e = .returned (.tuple #[.slice A' n' c', .int .i64 (bytesE l)]) ∧ Own w' w.heap.size A' n' c' (bytesL l) ∧ Below w.heap.size w w' := by
  have hln := Lib.hid hr.len
  by_cases hh : halvesB l = true
  · by_cases hodd : n % 2 = 1
    · have He := Lib.hid (bytesE_odd hh (by rw [hln.out]; exact hodd))
      go_enter Try.func57, Try.ntmps57
      go_wp2_with (go_at_call 75; refine (right_any _ _ _ _ _ _ hr hn).mono ?_; rintro e w' ⟨rfl, rfl⟩)
      go_ret2
      exact ⟨none, 0, 0, ret_se rfl He.out.1.symm, by rw [He.out.2]; exact Own.nil_ _ _, Below.refl _ _⟩
    · have He := Lib.hid (bytesE_ok hh (by rw [hln.out]; omega))
      go_enter Try.func57, Try.ntmps57
      go_wp2_with (first
        | (at_make; refine wpList_mk rfl _ _ rfl (n := n / 2) rfl rfl (by omega) (by omega) (by omega) (Nat.le_refl _) ?_; intro w1 hown1 hg1)
        | (go_at_call 75; refine (right_any _ _ _ _ _ _ hr hn).mono ?_; rintro e w' ⟨rfl, rfl⟩))
      have hb1 : Below w.heap.size w w1 := (Below.refl _ _).grown hg1 (Nat.le_refl _) (by intro k h; cases h)
      have Hh := Lib.hid hh
      clear hh
      go_loopw [5] (fun i wr => ∃ (k : Nat) (L : List UInt8), k ≤ n / 2 ∧ i = .int .i64 k ∧ Own wr w.heap.size (some ⟨w.heap.size, 0, none⟩) (n / 2) (n / 2) L ∧ L.take k = joinB (l.take (2 * k)) ∧ Below w.heap.size w wr) (fun i _ => n - (intOf i).toNat)
      case atStart => exact ⟨0, _, Nat.zero_le _, rfl, hown1, rfl, hb1⟩
      case round =>
        obtain ⟨k, L, hk, rfl, hown, ht, hb⟩ := hrel
        have Ht := Lib.hid ht
        clear ht
        have hLn := Lib.hid hown.len
        by_cases hlt : k < n / 2
        · obtain ⟨bb, off, rfl, hbl, hc⟩ := (hr.below hb).atB (k := 2 * k) (by omega)
          obtain ⟨bb', off', e, hc'⟩ := (hr.below hb).at_ (k := 2 * k + 1) (by omega)
          injection e with e
          injection e with e1 e2
          subst e1 e2
          have h0 := at8_lo l (2 * k)
          have h1 := at8_lo l (2 * k + 1)
          have h2 := halvesB_at l Hh.out (2 * k)
          have h3 := halvesB_at l Hh.out (2 * k + 1)
          have hs1 := hown.cell (j := k) (by omega)
          have hf1 := hown.free k
          have Hown2 := Lib.hid (hown.set (j := k) (x := 16 * at8 l (2 * k) + at8 l (2 * k + 1)) (by omega) (by omega))
          have Hb2 := Lib.hid (hb.setCell (p := ⟨w.heap.size, k, none⟩) (Nat.le_refl _) (.int .u8 (16 * at8 l (2 * k) + at8 l (2 * k + 1))))
          have hj := Lib.hid (joinB_take8 l k (by rw [hln.out]; omega) Hh.out)
          have hw1 : IntKind.i64.wrap (2 * (k : Int)) = 2 * (k : Int) := IntWalk.i64_in _ (by omega)
          have hw9 : IntKind.i64.wrap (2 * (k : Int) + 1) = 2 * (k : Int) + 1 := IntWalk.i64_in _ (by omega)
          have hw2 : (2 * (k : Int)).toNat = 2 * k := by omega
          have hw4 : (2 * (k : Int) + 1).toNat = 2 * k + 1 := by omega
          have hw5 : (0 : Int) ≤ 2 * (k : Int) := by omega
          have hw6 : (2 * (k : Int)) < (n : Int) := by omega
          have hw7 : (0 : Int) ≤ 2 * (k : Int) + 1 := by omega
          have hw8 : (2 * (k : Int) + 1) < (n : Int) := by omega
          have hw3 : IntKind.u8.wrap (16 * at8 l (2 * k)) = 16 * at8 l (2 * k) := IntWalk.u8_in _ (by omega)
          have hw0 : IntKind.u8.wrap (16 * at8 l (2 * k) + at8 l (2 * k + 1)) = 16 * at8 l (2 * k) + at8 l (2 * k + 1) := IntWalk.u8_in _ (by omega)
          go_wp2
          go_region
          all_goals
            clear hw1 hw9 hw2 hw4 hw5 hw6 hw7 hw8 hw3 hw0 hc hc' hs1 hf1 hown hb
            go_wp2
            go_roundw
            case rel => exact ⟨k + 1, _, by omega, by go_num, Hown2.out.drew, by rw [hj.out, Int.mul_comm (at8 l (2 * k)) 16]; exact take_set1 L _ k _ (by rw [hLn.out]; omega) Ht.out, Hb2.out.drew⟩
            case measure => simp [intOf]; omega
        · have hkn : k = n / 2 := by omega
          have hend := Lib.hid (joinB_all l k (by rw [hln.out]; omega) (by rw [hln.out]; omega))
          subst hkn
          go_wp2
          go_ret2
          refine ⟨_, _, _, ret_se rfl He.out.1.symm, ?_, hb⟩
          rw [He.out.2, ← hend.out, ← Ht.out, List.take_of_length_le (by rw [hLn.out]; omega)]
          exact hown
  · have hh' : halvesB l = false := by simpa using hh
    have He := Lib.hid (bytesE_no hh')
    clear hh
    go_enter Try.func57, Try.ntmps57
    go_wp2_with (go_at_call 75; refine (right_any _ _ _ _ _ _ hr hn).mono ?_; rintro e w' ⟨rfl, rfl⟩)
    go_ret2
    exact ⟨none, 0, 0, ret_se rfl He.out.1.symm, by rw [He.out.2]; exact Own.nil_ _ _, Below.refl _ _⟩

theorem halvesB_cons (x : UInt8) (l : List UInt8) (hx : x ≤ 15) (h : halvesB l = true) : halvesB (x :: l) = true := by
  unfold halvesB at *; rw [List.all_cons, h]; simp [hx]
theorem b8_le (x : Int) (h0 : 0 ≤ x) (h1 : x ≤ 15) : b8 x ≤ 15 := by
  unfold b8; rw [UInt8.le_iff_toNat_le, UInt8.toNat_ofNat']; simp; omega
theorem refPack_odd {l : List UInt8} (h : halvesB l = true) (k : l.length % 2 = 1) (leaf : Bool) (x : Int) (hx : x = if leaf = true then 3 else 1) :
    bytesE ([b8 x] ++ l) = 0 ∧ bytesL ([b8 x] ++ l) = packL l leaf := by
  have hx' : 0 ≤ x ∧ x ≤ 15 := by subst hx; split <;> omega
  have hh : halvesB (b8 x :: l) = true := halvesB_cons _ _ (b8_le x hx'.1 hx'.2) h
  obtain ⟨h1, h2⟩ := bytesE_ok (l := [b8 x] ++ l) hh (by simp; omega)
  refine ⟨h1, ?_⟩
  rw [h2, packL_odd h k leaf _ rfl]
  rcases l with _ | ⟨y, l⟩
  · simp at k
  · simp only [List.cons_append, List.nil_append, joinB, List.drop_succ_cons, List.drop_zero]
    congr 1
    have hy : y ≤ 15 := halvesB_le _ h y (by simp)
    have e : at8 (y :: l) 0 = (y.toNat : Int) := rfl
    rw [e]
    have := b8_add (b8 x) y (b8_le x hx'.1 hx'.2) hy
    rw [← this]
    congr 1
    subst hx
    cases leaf <;> simp [b8] <;> omega
theorem refPack_even {l : List UInt8} (h : halvesB l = true) (k : l.length % 2 = 0) (leaf : Bool) (x : Int) (hx : x = if leaf = true then 2 else 0) :
    bytesE ([b8 x] ++ [b8 0] ++ l) = 0 ∧ bytesL ([b8 x] ++ [b8 0] ++ l) = packL l leaf := by
  have hx' : 0 ≤ x ∧ x ≤ 15 := by subst hx; split <;> omega
  have hh : halvesB (b8 x :: b8 0 :: l) = true := halvesB_cons _ _ (b8_le x hx'.1 hx'.2) (halvesB_cons _ _ (b8_le 0 (by omega) (by omega)) h)
  obtain ⟨h1, h2⟩ := bytesE_ok (l := [b8 x] ++ [b8 0] ++ l) hh (by simp; omega)
  refine ⟨h1, ?_⟩
  rw [h2, packL_even h k leaf _ rfl]
  simp only [List.cons_append, List.nil_append, joinB]
  congr 1
  have := b8_add (b8 x) (b8 0) (b8_le x hx'.1 hx'.2) (b8_le 0 (by omega) (by omega))
  rw [← this]
  congr 1
  subst hx
  cases leaf <;> simp [b8]

set_option maxHeartbeats 1600000 in
theorem refPack_any (A : Option Addr) (n c : Nat) (leaf : Bool) (l : List UInt8) (w : World) (hr : Rd w w.heap.size A n l) (hn : n ≤ 10000000000) :
    Calls Try.prog 86 #[.slice A n c, .bool leaf] w fun e w' => ∃ A' n' c', e = .returned (.tuple #[.slice A' n' c', .int .i64 (packE l)]) ∧ Own w' w.heap.size A' n' c' (packL l leaf) ∧ Below w.heap.size w w' := by
  have hln := Lib.hid hr.len
  by_cases hh : halvesB l = true
  · have he := Lib.hid (packE_ok hh)
    by_cases hodd : n % 2 = 1
    · have hl := Lib.hid (refPack_odd hh (by rw [hln.out]; omega) leaf _ rfl)
      have hm : (n : Int) % 2 = 1 := by omega
      cases leaf
      all_goals
        go_enter Try.func86, Try.ntmps86
        go_wp2_with (first
          | (at_builtin; refine wpList_app rfl _ _ rfl rfl (Own.lit1 w w.heap.size (Nat.le_refl _) _ (by omega)) rfl (hr.upA _) (by omega) (sz1 _ _) ?_; intro A1 c1 w1 hown1 hg1)
          | (go_at_call 75; refine (right_any _ _ _ _ _ _ hr (by omega)).mono ?_; rintro e w' ⟨rfl, rfl⟩))
        have hb1 := below_own ((Below.refl _ _).alloc (Nat.le_refl _) _) (Own.lit1 w w.heap.size (Nat.le_refl _) _ (by omega)) hg1
        refine (refBytes_any _ _ _ _ _ hown1.rd (by omega)).mono ?_
        rintro e w2 ⟨A2, n2, c2, rfl, hown2, hb2⟩
        have e1 := hl.out.1
        have e2 := hl.out.2
        simp only [if_true, if_false, Bool.false_eq_true] at e1 e2
        rw [e1]
        rw [e2] at hown2
        clear e1 e2
        go_wp2
        go_ret2
        exact ⟨A2, n2, c2, ret_se rfl he.out.symm, hown2.less hb1.size, hb1.trans (hb2.mono hb1.size)⟩
    · have hl := Lib.hid (refPack_even hh (by rw [hln.out]; omega) leaf _ rfl)
      have hm : (n : Int) % 2 = 0 := by omega
      cases leaf
      all_goals
        go_enter Try.func86, Try.ntmps86
        go_wp2_with (first
          | (go_at_call 75; refine (right_any _ _ _ _ _ _ hr (by omega)).mono ?_; rintro e w' ⟨rfl, rfl⟩)
          | (at_builtin; refine wpList_app rfl _ _ rfl rfl ((Own.lit1 w w.heap.size (Nat.le_refl _) _ (by omega)).alloc _) rfl (Rd.lit1H _ _ (World.size_alloc ..) _ (by omega)) (by omega) (sz2 _ _ _) ?_; intro A1 c1 w1 hown1 hg1; have hb1 := below_own (((Below.refl _ _).alloc (Nat.le_refl _) _).alloc (sz1 _ _) _) ((Own.lit1 w w.heap.size (Nat.le_refl _) _ (by omega)).alloc _) hg1)
          | (at_builtin; refine wpList_app rfl _ _ rfl rfl hown1 rfl (hr.up hb1) (by omega) hb1.size ?_; intro A2 c2 w2 hown2 hg2))
        have hb2 := below_own hb1 hown1 hg2
        refine (refBytes_any _ _ _ _ _ hown2.rd (by omega)).mono ?_
        rintro e w3 ⟨A3, n3, c3, rfl, hown3, hb3⟩
        have e1 := hl.out.1
        have e2 := hl.out.2
        simp only [if_true, if_false, Bool.false_eq_true] at e1 e2
        rw [e1]
        rw [e2] at hown3
        clear e1 e2
        go_wp2
        go_ret2
        exact ⟨A3, n3, c3, ret_se rfl he.out.symm, hown3.less hb2.size, hb2.trans (hb3.mono hb2.size)⟩
  · have hh' : halvesB l = false := by simpa using hh
    have He := Lib.hid (packE_no hh' leaf)
    clear hh
    go_enter Try.func86, Try.ntmps86
    go_wp2_with (go_at_call 75; refine (right_any _ _ _ _ _ _ hr (by omega)).mono ?_; rintro e w' ⟨rfl, rfl⟩)
    go_ret2
    exact ⟨none, 0, 0, ret_se rfl He.out.1.symm, by rw [He.out.2]; exact Own.nil_ _ _, Below.refl _ _⟩

end Go.Proofs.Ytkfbkhahkkmcoaa
namespace Go.Proofs.Ytkfbkhahkkmcoaa
open Go.RowKit
def alikeF (x : It) (at_ : Nat) (n : Nat) (y : It) : Nat := min n (commonB (x.path.drop at_) (y.path.drop at_))
def alikeP : List It → Nat → Nat
  | [], _ => 0
  | x :: r, at_ => r.foldl (alikeF x at_) (x.path.length - at_)
theorem alike_le : ∀ (r : List It) (x : It) (at_ n : Nat), r.foldl (alikeF x at_) n ≤ n
  | [], _, _, n => Nat.le_refl _
  | y :: r, x, at_, n => by
    rw [List.foldl_cons]
    have := alike_le r x at_ (alikeF x at_ n y)
    have : alikeF x at_ n y ≤ n := Nat.min_le_left _ _
    omega
def groupA (l : List It) (at_ h : Nat) : List It := l.filter fun x => decide (at_ < x.path.length ∧ (x.path.getD at_ 0).toNat = h)
def lastV (l : List It) (at_ : Nat) : Bool × List UInt8 := l.foldl (fun s x => if x.path.length = at_ then (true, x.val) else s) (false, [])
def badF (f : Nat → Nd × Option (List UInt8)) : Nat → Nat → Option (List UInt8)
  | _, 0 => none
  | h, j + 1 => match (f h).2 with
    | some m => some m
    | none => badF f (h + 1) j
def kidsF (f : Nat → Nd × Option (List UInt8)) : List Nd := (List.range 16).map fun h => (f h).1
def buildA : Nat → List It → Nat → Nd × Option (List UInt8)
  | 0, _, _ => (noneN, none)
  | _ + 1, [], _ => (noneN, none)
  | n + 1, x :: r, at_ =>
    if r = [] ∧ x.stub = false then (leafN (x.path.drop at_) x.val, none)
    else if 0 < alikeP (x :: r) at_ then
      (if r = [] ∧ x.known = false then (noneN, some x.path)
       else (.mk 2 ((x.path.drop at_).take (alikeP (x :: r) at_)) false [] [(buildA n (x :: r) (at_ + alikeP (x :: r) at_)).1] [], (buildA n (x :: r) (at_ + alikeP (x :: r) at_)).2))
    else if r = [] then (.mk 4 [] false [] [] x.hash, none)
    else match badF (fun h => buildA n (groupA (x :: r) at_ h) (at_ + 1)) 0 16 with
      | some m => (noneN, some m)
      | none => (.mk 3 [] (lastV (x :: r) at_).1 (lastV (x :: r) at_).2 (kidsF fun h => buildA n (groupA (x :: r) at_ h) (at_ + 1)) [], none)
end Go.Proofs.Ytkfbkhahkkmcoaa
namespace Go.Proofs.Ytkfbkhahkkmcoaa

theorem ofB_cons (c : UInt8) (l : List UInt8) : ofB (c :: l) = c / 16 :: c % 16 :: ofB l := rfl
theorem div_mod (c : UInt8) : 16 * (c / 16) + c % 16 = c := by
  apply UInt8.toNat_inj.1
  rw [UInt8.toNat_add, UInt8.toNat_mul, UInt8.toNat_div, UInt8.toNat_mod]
  have := c.toNat_lt
  simp; omega
theorem joinB_ofB (l : List UInt8) : joinB (ofB l) = l := by
  induction l with
  | nil => rfl
  | cons c l ih => rw [ofB_cons, joinB, ih, div_mod]
theorem up (a b : UInt8) (ha : a ≤ 15) (hb : b ≤ 15) : (16 * a + b) / 16 = a ∧ (16 * a + b) % 16 = b := by
  have h1 := UInt8.le_iff_toNat_le.1 ha
  have h2 := UInt8.le_iff_toNat_le.1 hb
  constructor <;> apply UInt8.toNat_inj.1
  · rw [UInt8.toNat_div, UInt8.toNat_add, UInt8.toNat_mul]; simp at *; omega
  · rw [UInt8.toNat_mod, UInt8.toNat_add, UInt8.toNat_mul]; simp at *; omega
theorem ofB_joinB : ∀ (l : List UInt8), halvesB l = true → l.length % 2 = 0 → ofB (joinB l) = l
  | a :: b :: r, h, k => by
    have ha := halvesB_le _ h a (by simp)
    have hb := halvesB_le _ h b (by simp)
    have hr : halvesB r = true := halvesB_dropP (l := a :: b :: r) h 2
    rw [joinB, ofB_cons, (up a b ha hb).1, (up a b ha hb).2, ofB_joinB r hr (by simp at k; omega)]
  | [a], _, k => by simp at k
  | [], _, _ => rfl
theorem half_eq (a b : UInt8) (h1 : a / 16 = b / 16) (h2 : a % 16 = b % 16) : a = b := by rw [← div_mod a, ← div_mod b, h1, h2]
/-- cmpB, one byte at a time. -/
theorem cmpB_cons (x y : UInt8) (a b : List UInt8) : cmpB (x :: a) (y :: b) = if x = y then cmpB a b else if x.toNat < y.toNat then -1 else 1 := by
  by_cases h : x = y
  · subst h
    rw [if_pos rfl]
    unfold cmpB
    simp only [commonB, if_true, List.length_cons, Nat.add_right_cancel_iff, Nat.add_lt_add_iff_right]
    have e : ∀ (l : List UInt8) (k : Nat), at8 (x :: l) (k + 1) = at8 l k := fun l k => by unfold at8; rfl
    simp only [e]
  · rw [if_neg h]
    have hc : commonB (x :: a) (y :: b) = 0 := by simp [commonB, h]
    by_cases hlt : x.toNat < y.toNat
    · rw [if_pos hlt, cmpB_at_lt hc (by simp) (by show ((x.toNat : Nat) : Int) < (y.toNat : Nat); omega) (by simp)]
    · rw [if_neg hlt, cmpB_at_ge hc (by simp) (by show ¬ ((x.toNat : Nat) : Int) < (y.toNat : Nat); omega)]
theorem cmpB_nil : cmpB [] [] = 0 := rfl
theorem cmpB_nil_cons (y : UInt8) (b : List UInt8) : cmpB [] (y :: b) = -1 := cmpB_lt (n := 0) (by simp [commonB]) rfl (by simp)
theorem cmpB_cons_nil (x : UInt8) (a : List UInt8) : cmpB (x :: a) [] = 1 := cmpB_gt (n := 0) (by simp [commonB]) (by simp) (by simp)
theorem cmpB_symm : ∀ a b : List UInt8, cmpB b a = - cmpB a b
  | x :: a, y :: b => by
    rw [cmpB_cons, cmpB_cons]
    by_cases h : x = y
    · rw [if_pos h, if_pos h.symm, cmpB_symm a b]
    · have hn : x.toNat ≠ y.toNat := fun e => h (UInt8.toNat_inj.1 e)
      rw [if_neg h, if_neg (fun e => h e.symm)]
      by_cases hlt : x.toNat < y.toNat
      · rw [if_pos hlt, if_neg (by omega)]; rfl
      · rw [if_neg hlt, if_pos (by omega)]
  | [], [] => rfl
  | [], _ :: _ => by rw [cmpB_nil_cons, cmpB_cons_nil]; rfl
  | _ :: _, [] => by rw [cmpB_nil_cons, cmpB_cons_nil]
theorem cmpB_ofB : ∀ a b : List UInt8, cmpB (ofB a) (ofB b) = cmpB a b
  | x :: a, y :: b => by
    rw [ofB_cons, ofB_cons, cmpB_cons, cmpB_cons, cmpB_cons, cmpB_ofB a b]
    have hx := x.toNat_lt
    have hy := y.toNat_lt
    by_cases h : x = y
    · subst h; simp
    · rw [if_neg h]
      by_cases h1 : x / 16 = y / 16
      · have h2 : ¬ x % 16 = y % 16 := fun e => h (half_eq x y h1 e)
        have e1 : x.toNat / 16 = y.toNat / 16 := by have := congrArg UInt8.toNat h1; simpa [UInt8.toNat_div] using this
        rw [if_pos h1, if_neg h2, UInt8.toNat_mod, UInt8.toNat_mod]
        simp only [show (16 : UInt8).toNat = 16 from rfl]
        by_cases hlt : x.toNat < y.toNat
        · rw [if_pos hlt, if_pos (by omega)]
        · rw [if_neg hlt, if_neg (by omega)]
      · have e1 : x.toNat / 16 ≠ y.toNat / 16 := fun e => h1 (UInt8.toNat_inj.1 (by simpa [UInt8.toNat_div] using e))
        rw [if_neg h1, UInt8.toNat_div, UInt8.toNat_div]
        simp only [show (16 : UInt8).toNat = 16 from rfl]
        by_cases hlt : x.toNat < y.toNat
        · rw [if_pos hlt, if_pos (by omega)]
        · rw [if_neg hlt, if_neg (by omega)]
  | [], [] => rfl
  | [], y :: b => by rw [ofB_cons, cmpB_nil_cons]; exact cmpB_nil_cons _ _
  | x :: a, [] => by rw [ofB_cons, cmpB_cons_nil]; exact cmpB_cons_nil _ _
end Go.Proofs.Ytkfbkhahkkmcoaa
namespace Go.Proofs.Ytkfbkhahkkmcoaa
open Go.RowKit
/-- The first stub on the way of halves. -/
def stubL (l : List It) (q : List UInt8) : Option (List UInt8) := (l.find? fun x => x.stub && decide (x.path <+: q)).map (·.path)
end Go.Proofs.Ytkfbkhahkkmcoaa
namespace Go.Proofs.Ytkfbkhahkkmcoaa
open Go.RowKit
def keepI (q : List UInt8) (x : It) : Bool := x.stub || !decide (x.path = q)
end Go.Proofs.Ytkfbkhahkkmcoaa
namespace Go.Proofs.Ytkfbkhahkkmcoaa
mutual
def sfB : Nd → Bool
  | .mk k _ _ _ ks _ => decide (k ≠ 4) && sfsB ks
def sfsB : List Nd → Bool
  | [] => true
  | t :: ts => sfB t && sfsB ts
end
theorem sfB_mk (k : Int) (p : List UInt8) (h : Bool) (v : List UInt8) (ks : List Nd) (hs : List UInt8) : sfB (.mk k p h v ks hs) = (decide (k ≠ 4) && sfsB ks) := by rw [sfB]
theorem sfsB_all : ∀ {ks : List Nd}, sfsB ks = true ↔ ∀ k ∈ ks, sfB k = true
  | [] => by simp [sfsB]
  | t :: ts => by rw [sfsB, Bool.and_eq_true, sfsB_all (ks := ts)]; simp
theorem sf_none : sfB noneN = true := by decide
theorem sf_leaf (p v : List UInt8) : sfB (leafN p v) = true := by unfold leafN; rw [sfB_mk]; rfl
theorem sf_along {p : List UInt8} {t : Nd} (h : sfB t = true) : sfB (alongN p t) = true := by
  unfold alongN; split
  · exact h
  · rw [sfB_mk, sfsB, sfsB, h]; rfl
theorem sf_set {ks : List Nd} {i : Nat} {k : Nd} (h : sfsB ks = true) (hk : sfB k = true) : sfsB (ks.set i k) = true :=
  sfsB_all.2 fun x hx => by
    rcases List.mem_or_eq_of_mem_set hx with hx | rfl
    · exact sfsB_all.1 h x hx
    · exact hk
theorem sf_hold {has : Bool} {v : List UInt8} {ks : List Nd} (p val : List UInt8) (h : sfsB ks = true) : sfsB (holdK has v ks p val).2.2 = true := by
  cases p with
  | nil => exact h
  | cons x q => exact sf_set h (sf_leaf _ _)
theorem sf_nones (n : Nat) : sfsB (noneNs n) = true := sfsB_all.2 fun x hx => by rw [noneNs_mem hx]; exact sf_none
theorem sf_fork {t : Nd} (p val : List UInt8) (h : sfB t = true) : sfB (forkN t p val) = true := by
  unfold forkN
  refine sf_along ?_
  rw [sfB_mk]
  rw [Bool.and_eq_true]
  refine ⟨rfl, sf_hold _ _ ?_⟩
  split
  · exact sf_hold _ _ (sf_nones _)
  · refine sf_set (sf_nones _) (sf_along ?_)
    obtain ⟨k, p, hh, v, ks, hs⟩ := t
    rw [sfB_mk, Bool.and_eq_true] at h
    show sfB (ks.headD noneN) = true
    cases ks with
    | nil => exact sf_none
    | cons k0 ks => exact sfsB_all.1 h.2 k0 (by simp)
theorem sf_put {even : Bool} {t : Nd} {d : Nat} (h : Val even t d) : sfB t = true → ∀ (q val : List UInt8), halvesB q = true → (putP t q val).2 = none ∧ sfB (putP t q val).1 = true := by
  induction h with
  | none d hd => intro _ q val _; rw [putP_none]; exact ⟨rfl, sf_leaf _ _⟩
  | leaf d p v hd hp hv' he' =>
    intro hs q val hq
    rw [putP_leaf]
    refine ⟨rfl, ?_⟩
    show sfB (if p = q then leafN q val else forkN (.mk 1 p false v [] []) q val) = true
    split
    · exact sf_leaf _ _
    · exact sf_fork _ _ hs
  | stub d h hd hh => intro hs; rw [sfB_mk] at hs; cases hs
  | way d p k hd hp h0 hk hr ih =>
    intro hs q val hq
    have hs' := hs
    rw [sfB_mk, Bool.and_eq_true] at hs'
    by_cases hpq : p <+: q
    · rw [putP_way hpq]
      obtain ⟨h1, h2⟩ := ih (sfsB_all.1 hs'.2 k (by simp)) (q.drop p.length) val (halvesB_drop hq)
      rw [h1]
      exact ⟨rfl, by rw [sfB_mk, sfsB, sfsB, h2]; rfl⟩
    · rw [putP_way0 hpq]; exact ⟨rfl, sf_fork _ _ hs⟩
  | branch d has v ks hd hv' hv0 he' h16 hr hm ih =>
    intro hs q val hq
    have hs' := hs
    rw [sfB_mk, Bool.and_eq_true] at hs'
    match q, hq with
    | [], _ => rw [putP_br0]; exact ⟨rfl, by rw [sfB_mk, hs'.2]; rfl⟩
    | x :: q', hq =>
      have hx := halves_hd hq
      obtain ⟨k, hki⟩ : ∃ k, ks[x.toNat]? = some k := ⟨_, List.getElem?_eq_getElem (by omega)⟩
      rw [putP_br hki]
      obtain ⟨h1, h2⟩ := ih k (List.mem_of_getElem? hki) (sfsB_all.1 hs'.2 k (List.mem_of_getElem? hki)) q' val (by have := halvesB_drop (n := 1) hq; simpa using this)
      rw [h1]
      exact ⟨rfl, by rw [sfB_mk, sf_set hs'.2 h2]; rfl⟩
theorem sum_mem {α : Type} (f : α → Nat) : ∀ {l : List α} {x : α}, x ∈ l → f x ≤ (l.map f).sum
  | y :: l, x, h => by
    rw [List.map_cons, List.sum_cons]
    rcases List.mem_cons.1 h with rfl | h
    · omega
    · have := sum_mem f h; omega
/-- What trie.Of comes to. -/
def tOfF : List Pr → Nd → Nd × Int
  | [], n => (n, 0)
  | p :: l, n => if p.k.length > 200 ∨ p.v.length > 4000 then (noneN, 2) else tOfF l (putP n (ofB p.k) p.v).1
def tOf (l : List Pr) : Nd × Int := tOfF l noneN
def prBulk (l : List Pr) : Nat := (l.map fun p => 140 + 2 * p.k.length + p.v.length).sum
theorem prBulk_len : ∀ l : List Pr, 140 * l.length ≤ prBulk l
  | [] => Nat.zero_le _
  | p :: l => by have := prBulk_len l; unfold prBulk at *; rw [List.map_cons, List.sum_cons, List.length_cons]; omega
end Go.Proofs.Ytkfbkhahkkmcoaa
namespace Go.Proofs.Ytkfbkhahkkmcoaa
open Go.RowKit
theorem is_tOf : isFn Try.prog 35 = true := by kernel_rfl
theorem ends_of {k : List UInt8} (h : k.length ≤ 200) : endsP (0 + (ofB k).length) true = true := by
  unfold endsP; rw [ofB_length, decide_eq_true (by omega), decide_eq_true (by omega)]; rfl
set_option maxRecDepth 100000 in
set_option maxHeartbeats 1000000 in
theorem tOf_any (l : List Pr) (gs : List (Option Nat)) (w : World) (A : Option Addr) (n c : Nat) (hr : RdD w (Fd w gs) (dPl l) (.slice A n c)) (hgs : ∀ b, some b ∈ gs → b < w.heap.size) (hz : prBulk l ≤ 500000) :
    Calls Try.prog 35 #[.slice A n c] w fun e w' => ∃ cs', e = .returned (.tuple #[.agg cs'.toArray, .int .i64 (tOf l).2]) ∧ RdL w' (Fd w' gs) (dN (tOf l).1) cs' ∧ Below w.heap.size w w' := by
  refine calls_ev (args := [.slice A n c]) mixed Try.func35 rfl (by kernel_rfl) ?_
  have en := hr.slen
  have hll := prBulk_len l
  have M := (St.start hgs).addD hr
  refine s_alloc (zN) M al_nd ?_
  clear M
  rintro g2 W M
  refine s_alloc (zN) M al_nd ?_
  clear M
  rintro g4 W M
  refine p_len slp rfl ?_
  obtain ⟨T, hT⟩ : ∃ T, T = tOf l := ⟨_, rfl⟩
  rw [← hT]
  have hl1 : ∀ p ∈ l, 140 + 2 * p.k.length + p.v.length ≤ 500000 := fun p hp => by
    have := sum_mem (fun p : Pr => 140 + 2 * p.k.length + p.v.length) hp
    unfold prBulk at hz
    omega
  refine lp (Nat × Nd × List Value) (fun s W => s.1 ≤ l.length ∧ St w gs W [(g4, 25, s.2.2), (g2, 25, zN)] [] [.dat false (dN s.2.1) s.2.2, .dat false [dPl l] [.slice A n c]] ∧ T = tOfF (l.drop s.1) s.2.1 ∧ Val true s.2.1 0 ∧ sfB s.2.1 = true ∧ sz s.2.1 + prBulk (l.drop s.1) ≤ 600000)
    (fun s => [(2, .pointer (some ⟨g2, 0, none⟩)), (3, .int .i64 0), (4, .pointer (some ⟨g4, 0, none⟩)), (7, .slice A n c), (8, .int .i64 n), (9, .int .i64 s.1)]) (fun s => l.length - s.1) (0, noneN, zN)
    ⟨Nat.zero_le _, ((M.add (f := .dat false (dN noneN) zN) RdL.znone).fsub _ (by simp)), hT, .none 0 (by decide), sf_none, by rw [show sz noneN = 6 by decide]; simp only [List.drop_zero]; omega⟩ (by repeat (first | exact trivial | refine ⟨rfl, ?_⟩)) ?_
  clear M
  rintro ⟨i, cur, cs⟩ E5 W ⟨hi, M, hTi, hval, hsf, hbk⟩
  dsimp only at hi M hTi hval hsf hbk
  have hcl := (M.da 0 rfl).len
  rw [dN_len] at hcl
  refine p_lt rfl rfl (fun hlt => ?_) (fun hge => ?_)
  · obtain ⟨p, hp⟩ : ∃ p, l[i]? = some p := ⟨_, List.getElem?_eq_getElem (by dsimp only at hlt; omega)⟩
    have hpm := hl1 p (List.mem_of_getElem? hp)
    have hdr : l.drop i = p :: l.drop (i + 1) := by
      have h1 := (List.getElem?_eq_some_iff.1 hp)
      rw [List.drop_eq_getElem_cons h1.1, h1.2]
    rw [hdr] at hTi hbk
    unfold tOfF at hTi
    unfold prBulk at hbk
    rw [List.map_cons, List.sum_cons] at hbk
    obtain ⟨b, off, Ak, ck, Av, cv, rfl, M'⟩ := M.pair (by first | with_reducible exact M.d1_0 | with_reducible exact M.d1_1 | with_reducible exact M.d1_2 | with_reducible exact M.d1_3 | with_reducible exact M.d1_4 | with_reducible exact M.d1_5 | with_reducible exact M.d1_6 | with_reducible exact M.d1_7 | with_reducible exact M.d1_8 | with_reducible exact M.d1_9 | with_reducible exact M.d1_10 | with_reducible exact M.d1_11) hp
    replace M := M'; clear M'
    refine p_at slp rfl rfl rfl (by dsimp only at hlt; omega) ?_
    refine v_loadN (pcs p Ak ck Av cv) agg_pr rfl rfl (by first | exact M.run 0 rfl | exact M.run 1 rfl | exact M.run 2 rfl | exact M.run 3 rfl | exact M.run 4 rfl | exact M.lc 0 rfl | exact M.lc 1 rfl | exact M.lc 2 rfl | exact M.lc 3 rfl | exact M.lc 4 rfl | exact M.lc 5 rfl | exact M.lc 6 rfl | exact M.lc 7 rfl) ?_
    refine s_alloc (zP) M al_pr ?_
    clear M
    rintro g6 W M
    first | refine s_storeA 0 (pcs p Ak ck Av cv) M rfl (by kernel_rfl) rfl rfl rfl (all1 rfl) rfl ?_ | refine s_storeA 1 (pcs p Ak ck Av cv) M rfl (by kernel_rfl) rfl rfl rfl (all1 rfl) rfl ?_ | refine s_storeA 2 (pcs p Ak ck Av cv) M rfl (by kernel_rfl) rfl rfl rfl (all1 rfl) rfl ?_ | refine s_storeA 3 (pcs p Ak ck Av cv) M rfl (by kernel_rfl) rfl rfl rfl (all1 rfl) rfl ?_
    clear M
    rintro W M
    dsimp only [setL] at M
    refine p_fld fP0 rfl ?_
    refine v_load agg_b rfl (by first | exact (M.B 0 rfl).at_ rfl | exact (M.B 1 rfl).at_ rfl | exact (M.B 2 rfl).at_ rfl | exact (M.B 3 rfl).at_ rfl | exact (M.B 4 rfl).at_ rfl | exact M.lc 0 rfl _ _ rfl | exact M.lc 1 rfl _ _ rfl | exact M.lc 2 rfl _ _ rfl | exact M.lc 3 rfl _ _ rfl | exact M.lc 4 rfl _ _ rfl | exact M.lc 5 rfl _ _ rfl | exact M.lc 6 rfl _ _ rfl | exact M.lc 7 rfl _ _ rfl) ?_
    refine p_len slb rfl ?_
    refine p_gt rfl rfl (fun hk => ?_) (fun hk => ?_)
    ·
      rw [if_pos (by omega)] at hTi
      refine p_build (vs := zN) pl_nd z_nd rfl ?_
      refine s_storeA 2 zN M rfl sz_nd rfl rfl rfl (all1 rfl) rfl ?_
      clear M; rintro W M
      dsimp only [setL] at M
      refine c_loadN zN agg_nd rfl rfl (M.run 2 rfl) ?_
      rw [hTi]
      exact ⟨zN, rfl, RdL.znone, M.below⟩
    · refine p_fld fP1 rfl ?_
      refine v_load agg_b rfl (by first | exact (M.B 0 rfl).at_ rfl | exact (M.B 1 rfl).at_ rfl | exact (M.B 2 rfl).at_ rfl | exact (M.B 3 rfl).at_ rfl | exact (M.B 4 rfl).at_ rfl | exact M.lc 0 rfl _ _ rfl | exact M.lc 1 rfl _ _ rfl | exact M.lc 2 rfl _ _ rfl | exact M.lc 3 rfl _ _ rfl | exact M.lc 4 rfl _ _ rfl | exact M.lc 5 rfl _ _ rfl | exact M.lc 6 rfl _ _ rfl | exact M.lc 7 rfl _ _ rfl) ?_
      refine p_len slb rfl ?_
      refine p_gt rfl rfl (fun hv => ?_) (fun hv => ?_)
      ·
        rw [if_pos (by omega)] at hTi
        refine p_build (vs := zN) pl_nd z_nd rfl ?_
        refine s_storeA 2 zN M rfl sz_nd rfl rfl rfl (all1 rfl) rfl ?_
        clear M; rintro W M
        dsimp only [setL] at M
        refine c_loadN zN agg_nd rfl rfl (M.run 2 rfl) ?_
        rw [hTi]
        exact ⟨zN, rfl, RdL.znone, M.below⟩
      · rw [if_neg (by omega)] at hTi
        obtain ⟨hpn, hps⟩ := sf_put hval hsf (ofB p.k) p.v (halvesB_ofB _)
        have hvn := put_val hval (ofB p.k) p.v (halvesB_ofB _) (ends_of (by omega)) (by omega) hpn
        have hzn := sz_put hval (ofB p.k) p.v (halvesB_ofB _)
        rw [ofB_length] at hzn
        replace M := M.drew
        refine drZ 10 (Kp w gs [(g6, 43, pcs p Ak ck Av cv), (g4, 25, cs)] []) [(0, true), (1, true), (2, true), (4, true), (5, true), (3, false), (6, false), (7, true), (8, true), (9, true)] (by kernel_rfl) (M.kp (by simp) (by simp)) ?_
        refine t_loadN cs agg_nd rfl hcl (fun W K => by first | exact K.run 0 rfl | exact K.run 1 rfl | exact K.run 2 rfl | exact K.run 3 rfl | exact K.lc 0 rfl | exact K.lc 1 rfl | exact K.lc 2 rfl | exact K.lc 3 rfl) ?_
        refine p_fld fP0 rfl ?_
        refine t_load agg_b rfl (fun W K => by first | exact (K.B 0 rfl).at_ rfl | exact (K.B 1 rfl).at_ rfl | exact (K.B 2 rfl).at_ rfl | exact (K.B 3 rfl).at_ rfl | exact K.lc 0 rfl _ _ rfl | exact K.lc 1 rfl _ _ rfl | exact K.lc 2 rfl _ _ rfl | exact K.lc 3 rfl _ _ rfl) ?_
        refine p_fld fP1 rfl ?_
        refine t_load agg_b rfl (fun W K => by first | exact (K.B 0 rfl).at_ rfl | exact (K.B 1 rfl).at_ rfl | exact (K.B 2 rfl).at_ rfl | exact (K.B 3 rfl).at_ rfl | exact K.lc 0 rfl _ _ rfl | exact K.lc 1 rfl _ _ rfl | exact K.lc 2 rfl _ _ rfl | exact K.lc 3 rfl _ _ rfl) ?_
        refine cc is_nof (of_any Ak p.k.length ck p.k _ (M.rdb 1 rfl).2.2 (by omega)) ?_
        rintro e W5 ⟨A5, c5, rfl, o5, hb⟩
        replace M := M.callO hb o5
        refine ⟨_, rfl, (M.kp (by simp) (by simp)), ?_⟩
        refine cc is_tput (tput_any 1000000 (Nat.le_refl _) cur (by omega) _ _ cs (ofB p.k) p.v [] A5 _ c5 Av _ cv none 0 0 0 true (by first | with_reducible exact M.da_0 | with_reducible exact M.da_1 | with_reducible exact M.da_2 | with_reducible exact M.da_3 | with_reducible exact M.da_4 | with_reducible exact M.da_5 | with_reducible exact M.da_6 | with_reducible exact M.da_7 | with_reducible exact M.da_8 | with_reducible exact M.da_9 | with_reducible exact M.da_10 | with_reducible exact M.da_11) (by first | with_reducible exact M.d1_0 | with_reducible exact M.d1_1 | with_reducible exact M.d1_2 | with_reducible exact M.d1_3 | with_reducible exact M.d1_4 | with_reducible exact M.d1_5 | with_reducible exact M.d1_6 | with_reducible exact M.d1_7 | with_reducible exact M.d1_8 | with_reducible exact M.d1_9 | with_reducible exact M.d1_10 | with_reducible exact M.d1_11) (by first | with_reducible exact M.d1_0 | with_reducible exact M.d1_1 | with_reducible exact M.d1_2 | with_reducible exact M.d1_3 | with_reducible exact M.d1_4 | with_reducible exact M.d1_5 | with_reducible exact M.d1_6 | with_reducible exact M.d1_7 | with_reducible exact M.d1_8 | with_reducible exact M.d1_9 | with_reducible exact M.d1_10 | with_reducible exact M.d1_11) (RdD.nil_ _ _) M.olt (.inr hpn) (halvesB_ofB _) hval (by rw [ofB_length]; simp; omega)) ?_
        rintro e W7 ⟨cs7, Am, nm, cm, rfl, hres, -, hb⟩
        replace M := (M.call hb).addL hres
        have hl7 := hres.len
        rw [dN_len] at hl7
        refine ⟨_, rfl, (M.kp (by simp) (by simp)), ?_⟩
        refine s_storeA 1 cs7 M rfl sz_nd rfl rfl hl7 (hres.ones (dN_one _)) hcl ?_
        clear M; rintro W M
        dsimp only [setL] at M
        refine p_add rfl rfl (r := ((i + 1 : Nat) : Int)) ((w64 (by dsimp only at hlt ⊢; omega)).trans (by dsimp only; omega)) ?_
        exact ⟨(i + 1, (putP cur (ofB p.k) p.v).1, cs7), ⟨by dsimp only at hlt ⊢; omega, M.dropL.fsub _ (by simp), hTi, hvn, hps, by dsimp only; unfold prBulk; omega⟩, (by repeat (first | exact trivial | refine ⟨rfl, ?_⟩)), by dsimp only at hlt ⊢; omega⟩
  · have hin : i = l.length := by dsimp only at hge; omega
    rw [List.drop_of_length_le (by omega)] at hTi
    unfold tOfF at hTi
    refine v_loadN cs agg_nd rfl hcl (M.run 0 rfl) ?_
    refine s_storeA 1 cs M rfl sz_nd rfl rfl hcl ((M.da 0 rfl).ones (dN_one _)) rfl ?_
    clear M; rintro W M
    dsimp only [setL] at M
    refine c_loadN cs agg_nd rfl hcl (M.run 1 rfl) ?_
    rw [hTi]
    exact ⟨cs, rfl, (by first | with_reducible exact M.fin_0 | with_reducible exact M.fin_1 | with_reducible exact M.fin_2 | with_reducible exact M.fin_3 | with_reducible exact M.fin_4 | with_reducible exact M.fin_5 | with_reducible exact M.fin_6 | with_reducible exact M.fin_7 | with_reducible exact M.fin_8 | with_reducible exact M.fin_9 | with_reducible exact M.fin_10 | with_reducible exact M.fin_11), M.below⟩
mutual
/-- What trie.pairs comes to: the pairs; the way to a stub. -/
def pairsP : Nd → List UInt8 → List Pr × Option (List UInt8)
  | .mk k p has v ks _, way =>
    if k = 4 then ([], some (way ++ p))
    else ((if k = 1 ∨ has = true then [⟨bytesL (way ++ p), v⟩] else []) ++ (pairsK ks (decide (k = 3)) 0 (way ++ p)).1, (pairsK ks (decide (k = 3)) 0 (way ++ p)).2)
def pairsK : List Nd → Bool → Nat → List UInt8 → List Pr × Option (List UInt8)
  | [], _, _, _ => ([], none)
  | t :: ts, br, i, at_ => match (pairsP t (if br then at_ ++ [UInt8.ofNat i] else at_)).2 with
    | some m => ([], some m)
    | none => ((pairsP t (if br then at_ ++ [UInt8.ofNat i] else at_)).1 ++ (pairsK ts br (i + 1) at_).1, (pairsK ts br (i + 1) at_).2)
end
theorem dPrs_snoc (l : List Pr) (p : Pr) : dPrs (l ++ [p]) = dPrs l ++ dPr p := by unfold dPrs; simp
structure PairsR where
  l : List Pr
  miss : Option (List UInt8)
  e : Int
end Go.Proofs.Ytkfbkhahkkmcoaa
namespace Go.Proofs.Ytkfbkhahkkmcoaa
open Go.RowKit
def rPairsF : List It → List Pr × Option (List UInt8)
  | [] => ([], none)
  | x :: l => if x.stub then ([], some x.path) else (match (rPairsF l).2 with
    | some m => ([], some m)
    | none => (⟨bytesL x.path, x.val⟩ :: (rPairsF l).1, none))
def insP : List Pr → Pr → List Pr
  | [], p => [p]
  | x :: r, p => if cmpB x.k p.k < 0 then x :: insP r p else if cmpB x.k p.k = 0 then p :: r else p :: x :: r
def risingP (l : List Pr) : List Pr := l.foldl insP []
def longPr (l : List Pr) : Bool := l.any fun p => decide (200 < p.k.length ∨ 4000 < p.v.length)
def itOf (p : Pr) : It := ⟨ofB p.k, p.v, false, false, []⟩
end Go.Proofs.Ytkfbkhahkkmcoaa
