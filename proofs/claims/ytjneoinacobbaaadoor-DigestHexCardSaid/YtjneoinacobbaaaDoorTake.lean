/- The walk of digest's take. -/
import Derived.Test.YtjneoinacobbaaaDoorWords
import Derived.Test.YtjneoinacobbaaaDoorShaH
namespace Go.Proofs.YtjneoinacobbaaaDoor
open Go.RowKit
theorem ar8 : arrOf Tryd.prog 44 = some (8, 43, 1) := by kernel_rfl
theorem agg_a8 : aggOf Tryd.prog 44 = some (true, 8) := by kernel_rfl
theorem sz_a8 : (Tryd.prog.info? 44).map (·.size) = some 8 := by kernel_rfl
theorem al_a8 : (Tryd.prog.info? 44).map (fun i => i.zero.map fun z => z.cells.toList) = some (some (List.replicate 8 (cu 0))) := by kernel_rfl
theorem zero_a8 : zeroOf Tryd.prog 44 = some (List.replicate 8 (cu 0)) := by kernel_rfl
theorem fd0 : fieldOff Tryd.prog 46 0 = some 0 := by kernel_rfl
theorem fd1 : fieldOff Tryd.prog 46 1 = some 8 := by kernel_rfl
theorem fd2 : fieldOff Tryd.prog 46 2 = some 9 := by kernel_rfl
theorem is_words : isFn Tryd.prog 19 = true := by kernel_rfl
theorem is_take : isFn Tryd.prog 17 = true := by kernel_rfl
def rootsAt (w : World) : Prop := ∀ j, j < 64 → w.cell? ⟨1, j, none⟩ = some (cu (roots.getD j 0))
/-- The first i words are added. -/
def addF (x y : H8) (i : Nat) : H8 := ⟨if 0 < i then (x.a + y.a) % 4294967296 else x.a, if 1 < i then (x.b + y.b) % 4294967296 else x.b, if 2 < i then (x.c + y.c) % 4294967296 else x.c, if 3 < i then (x.d + y.d) % 4294967296 else x.d, if 4 < i then (x.e + y.e) % 4294967296 else x.e, if 5 < i then (x.f + y.f) % 4294967296 else x.f, if 6 < i then (x.g + y.g) % 4294967296 else x.g, if 7 < i then (x.h + y.h) % 4294967296 else x.h⟩
theorem add8_eq (x y : H8) : add8 x y = addF x y 8 := rfl
set_option maxRecDepth 100000 in
theorem take_any (g c : Nat) (A : Option Addr) (b : List UInt8) (h : H8) (R : List Value) (w : World) (ho : h.Ok) (hr : Rd w w.heap.size A 64 b) (hB : Blk w g 46 (hc h ++ R)) (hR : rootsAt w) (hg : 2 ≤ g) :
    Calls Tryd.prog 17 #[.pointer (some ⟨g, 0, none⟩), .slice A 64 c] w fun e w' => (∃ v, e = .returned v) ∧ Blk w' g 46 (hc (take8 h b) ++ R) ∧ w.grownBy w' (some g) := by
  refine calls_ev (args := [.pointer (some ⟨g, 0, none⟩), .slice A 64 c]) mixed Tryd.func17 rfl (by kernel_rfl) ?_
  have hgl := hB.lt
  refine p_nil rfl ?_
  refine p_fld fd0 rfl ?_
  refine v_loadN (hc h) agg_a8 rfl rfl (hB.run 0 _ (fun j v hj => by rw [Nat.zero_add, List.getElem?_append_left (List.getElem?_eq_some_iff.1 hj).1]; exact hj)) ?_
  refine v_allocB _ al_a8 ?_
  rintro g1 W1 hg1 hB1 hb1 hs1
  refine v_storeA (hc h) sz_a8 rfl rfl rfl (by intro u hu; simp [hc] at hu; rcases hu with rfl | rfl | rfl | rfl | rfl | rfl | rfl | rfl <;> rfl) hB1 rfl ?_
  rintro W2 hB2 hg2 hs2
  have b2 : Below w.heap.size w W2 := by rw [← hg1] at *; exact hb1.grown hg2 (by omega) (fun k hk => by injection hk with hk; omega)
  refine cc is_words (words_any A c w.heap.size b _ (hr.below b2) b2.size) ?_
  rintro e W3 ⟨rfl, b3⟩
  refine ⟨_, rfl, ?_⟩
  have hs3 := b3.size
  have hB3 := hB2.below b3
  replace b2 := b2.trans (b3.mono b2.size)
  have wl : (words b).length = 64 := wsF_len b 64
  have wlt := getD_lt (wsF_lt b 64)
  replace wlt : ∀ j, (words b).getD j 0 < 4294967296 := wlt
  refine lp Nat (fun i W => i ≤ 64 ∧ Below w.heap.size w W ∧ Blk W g1 44 (hc (rndF roots (words b) h i))) (fun i => [(0, .pointer (some ⟨g, 0, none⟩)), (4, .pointer (some ⟨g1, 0, none⟩)), (17, .agg ((words b).map cu).toArray), (18, .int .i64 i)]) (fun i => 64 - i) 0 ⟨by decide, b2, hB3⟩ ⟨rfl, rfl, rfl, rfl, trivial⟩ ?_
  rintro i E0 W4 ⟨hi, b4, hB4⟩
  have hs4 := b4.size
  have hok := rndF_ok roots (words b) ho i
  refine p_lt rfl rfl (fun hlt => ?_) (fun hge => ?_)
  · have hi64 : i < 64 := by omega
    obtain ⟨v, hv⟩ : ∃ v, v = rndF roots (words b) h i := ⟨_, rfl⟩
    rw [← hv] at hB4 hok
    have hR4 : rootsAt W4 := fun j hj => (b4.cell (p := ⟨1, j, none⟩) (by show 1 < _; omega)).trans (hR j hj)
    have hwv : ((words b).map cu)[i]? = some (cu ((words b).getD i 0)) := by
      have := cu_get (L := words b) (R := []) (j := i) (by omega)
      rwa [List.append_nil] at this
    refine p_idxA (i := i) ar64 agg_u32 rfl rfl rfl hi64 hwv ?_
    refine dr (fun W => Blk W g1 44 (hc v)) [(0, true), (1, true), (2, true), (3, true), (4, true), (5, true)] (by kernel_rfl) hB4.drew ?_
    refine p_atB (i := 0) (q := 0) ar8 rfl rfl rfl (by decide) rfl ?_
    refine t_load agg_u32 rfl (fun W h => Blk.at_ h rfl) ?_
    refine p_atB (i := 4) (q := 4) ar8 rfl rfl rfl (by decide) rfl ?_
    refine t_load agg_u32 rfl (fun W h => Blk.at_ h rfl) ?_
    refine dr (fun W => Blk W g1 44 (hc v) ∧ rootsAt W) [(0, true), (1, true), (2, true), (4, true), (7, true), (11, true), (12, true), (13, true), (14, true), (15, true), (16, true), (17, true), (18, true), (19, true), (20, true), (22, true), (23, true), (24, true), (26, true), (3, false), (5, false), (6, true), (8, false), (9, true), (10, true), (21, true), (25, true), (27, true), (28, true)] (by kernel_rfl) ⟨hB4.drew.drew, hR4⟩ ?_
    refine p_atB (i := 7) (q := 7) ar8 rfl rfl rfl (by decide) rfl ?_
    refine t_load agg_u32 rfl (fun W h => Blk.at_ h.1 rfl) ?_
    refine p_atB (i := 5) (q := 5) ar8 rfl rfl rfl (by decide) rfl ?_
    refine t_load agg_u32 rfl (fun W h => Blk.at_ h.1 rfl) ?_
    refine p_and rfl rfl (u32_and_nat v.e v.f hok.e hok.f) ?_
    refine p_cpl rfl (u32_xor_nat 4294967295 v.e (by decide) hok.e) ?_
    refine p_atB (i := 6) (q := 6) ar8 rfl rfl rfl (by decide) rfl ?_
    refine t_load agg_u32 rfl (fun W h => Blk.at_ h.1 rfl) ?_
    refine p_and rfl rfl (u32_and_nat (4294967295 ^^^ v.e) v.g (xor_lt (by decide) hok.e) hok.g) ?_
    refine p_xor rfl rfl (u32_xor_nat _ _ (and_lt hok.e) (and_lt (xor_lt (by decide) hok.e))) ?_
    refine p_atB (i := i) (q := i) ar64 rfl rfl rfl hi64 (by omega) ?_
    refine t_load agg_u32 rfl (fun W h => h.2 i hi64) ?_
    refine cc is_turn (turn_any v.e 6 _ hok.e (by decide) (by decide)) ?_
    rintro e w' ⟨rfl, rfl⟩
    refine ⟨_, rfl, ⟨hB4.drew.drew, hR4⟩, ?_⟩
    refine cc is_turn (turn_any v.e 11 _ hok.e (by decide) (by decide)) ?_
    rintro e w' ⟨rfl, rfl⟩
    refine ⟨_, rfl, ⟨hB4.drew.drew, hR4⟩, ?_⟩
    refine p_xor rfl rfl (u32_xor_nat _ _ (rotr_lt _ hok.e) (rotr_lt _ hok.e)) ?_
    refine cc is_turn (turn_any v.e 25 _ hok.e (by decide) (by decide)) ?_
    rintro e w' ⟨rfl, rfl⟩
    refine ⟨_, rfl, ⟨hB4.drew.drew, hR4⟩, ?_⟩
    refine p_xor rfl rfl (u32_xor_nat _ _ (xor_lt (rotr_lt _ hok.e) (rotr_lt _ hok.e)) (rotr_lt _ hok.e)) ?_
    refine p_add rfl rfl (add32 v.h (bs1 v.e)) ?_
    refine p_add rfl rfl (add32 _ (chs v.e v.f v.g)) ?_
    refine p_add rfl rfl (add32 _ (roots.getD i 0)) ?_
    refine p_add rfl rfl (add32 _ ((words b).getD i 0)) ?_
    refine dr (fun W => Blk W g1 44 (hc v)) [(0, true), (2, true), (5, true), (8, true), (9, true), (10, true), (11, true), (12, true), (13, true), (14, true), (15, true), (16, true), (17, true), (18, true), (19, true), (20, true), (21, true), (22, true), (1, false), (3, false), (4, true), (6, false), (7, true), (23, true), (24, true)] (by kernel_rfl) hB4.drew.drew.drew ?_
    refine p_atB (i := 1) (q := 1) ar8 rfl rfl rfl (by decide) rfl ?_
    refine t_load agg_u32 rfl (fun W h => Blk.at_ h rfl) ?_
    refine p_and rfl rfl (u32_and_nat v.a v.b hok.a hok.b) ?_
    refine p_atB (i := 2) (q := 2) ar8 rfl rfl rfl (by decide) rfl ?_
    refine t_load agg_u32 rfl (fun W h => Blk.at_ h rfl) ?_
    refine p_and rfl rfl (u32_and_nat v.a v.c hok.a hok.c) ?_
    refine p_xor rfl rfl (u32_xor_nat _ _ (and_lt hok.a) (and_lt hok.a)) ?_
    refine p_atB (i := 1) (q := 1) ar8 rfl rfl rfl (by decide) rfl ?_
    refine t_load agg_u32 rfl (fun W h => Blk.at_ h rfl) ?_
    refine p_atB (i := 2) (q := 2) ar8 rfl rfl rfl (by decide) rfl ?_
    refine t_load agg_u32 rfl (fun W h => Blk.at_ h rfl) ?_
    refine p_and rfl rfl (u32_and_nat v.b v.c hok.b hok.c) ?_
    refine p_xor rfl rfl (u32_xor_nat _ _ (xor_lt (and_lt hok.a) (and_lt hok.a)) (and_lt hok.b)) ?_
    refine cc is_turn (turn_any v.a 2 _ hok.a (by decide) (by decide)) ?_
    rintro e w' ⟨rfl, rfl⟩
    refine ⟨_, rfl, hB4.drew.drew.drew, ?_⟩
    refine cc is_turn (turn_any v.a 13 _ hok.a (by decide) (by decide)) ?_
    rintro e w' ⟨rfl, rfl⟩
    refine ⟨_, rfl, hB4.drew.drew.drew, ?_⟩
    refine p_xor rfl rfl (u32_xor_nat _ _ (rotr_lt _ hok.a) (rotr_lt _ hok.a)) ?_
    refine cc is_turn (turn_any v.a 22 _ hok.a (by decide) (by decide)) ?_
    rintro e w' ⟨rfl, rfl⟩
    refine ⟨_, rfl, hB4.drew.drew.drew, ?_⟩
    refine p_xor rfl rfl (u32_xor_nat _ _ (xor_lt (rotr_lt _ hok.a) (rotr_lt _ hok.a)) (rotr_lt _ hok.a)) ?_
    refine p_add rfl rfl (add32 (bs0 v.a) (maj v.a v.b v.c)) ?_
    have hB7 := hB4.drew.drew.drew
    refine p_add rfl rfl (add32 (tt1 v (roots.getD i 0) ((words b).getD i 0)) (tt2 v)) ?_
    refine p_atB (i := 0) (q := 0) ar8 rfl rfl rfl (by decide) rfl ?_
    refine v_load agg_u32 rfl (hB7.at_ rfl) ?_
    refine p_atB (i := 1) (q := 1) ar8 rfl rfl rfl (by decide) rfl ?_
    refine v_load agg_u32 rfl (hB7.at_ rfl) ?_
    refine p_atB (i := 2) (q := 2) ar8 rfl rfl rfl (by decide) rfl ?_
    refine v_load agg_u32 rfl (hB7.at_ rfl) ?_
    refine p_atB (i := 3) (q := 3) ar8 rfl rfl rfl (by decide) rfl ?_
    refine v_load agg_u32 rfl (hB7.at_ rfl) ?_
    refine p_add rfl rfl (add32 v.d (tt1 v (roots.getD i 0) ((words b).getD i 0))) ?_
    refine p_atB (i := 4) (q := 4) ar8 rfl rfl rfl (by decide) rfl ?_
    refine v_load agg_u32 rfl (hB7.at_ rfl) ?_
    refine p_atB (i := 5) (q := 5) ar8 rfl rfl rfl (by decide) rfl ?_
    refine v_load agg_u32 rfl (hB7.at_ rfl) ?_
    refine p_atB (i := 6) (q := 6) ar8 rfl rfl rfl (by decide) rfl ?_
    refine v_load agg_u32 rfl (hB7.at_ rfl) ?_
    refine p_buildA (vs := hc (rnd v (roots.getD i 0) ((words b).getD i 0))) ar8 zero_a8 rfl ?_
    refine v_storeA (hc (rnd v (roots.getD i 0) ((words b).getD i 0))) sz_a8 rfl rfl rfl (by intro u hu; simp [hc] at hu; rcases hu with rfl | rfl | rfl | rfl | rfl | rfl | rfl | rfl <;> rfl) hB7 rfl ?_
    rintro W5 hB5 hg5 hs5
    refine p_add rfl rfl (r := ((i + 1 : Nat) : Int)) (w64 (by omega) |>.trans (by omega)) ?_
    refine ⟨i + 1, ⟨by omega, b4.drew.drew.drew.grown hg5 hs4 (fun k hk => by injection hk with hk; omega), ?_⟩, ⟨rfl, rfl, rfl, rfl, trivial⟩, by omega⟩
    show Blk W5 g1 44 (hc (rnd (rndF roots (words b) h i) (roots.getD i 0) ((words b).getD i 0)))
    rw [← hv]; exact hB5
  · have hi : i = 64 := by omega
    subst hi
    obtain ⟨v, hv⟩ : ∃ v, v = rndF roots (words b) h 64 := ⟨_, rfl⟩
    rw [← hv] at hB4 hok
    have hBg := hB.below b4
    have gr0 : w.grownBy W4 (some g) := ⟨b4.os, b4.tape, b4.output, b4.size, fun k hk _ => b4.block k hk⟩
    have hgg : g1 ≠ g := by omega
    refine lp Nat (fun i W => i ≤ 8 ∧ Blk W g 46 (hc (addF h v i) ++ R) ∧ Blk W g1 44 (hc v) ∧ w.grownBy W (some g)) (fun i => [(0, .pointer (some ⟨g, 0, none⟩)), (4, .pointer (some ⟨g1, 0, none⟩)), (99, .int .i64 i)]) (fun i => 8 - i) 0 ⟨by decide, hBg, hB4, gr0⟩ ⟨rfl, rfl, rfl, trivial⟩ ?_
    rintro i E1 W5 ⟨hi, hB5, hB6, gr5⟩
    refine p_lt rfl rfl (fun hlt => ?_) (fun hge => ?_)
    · have h8 : i = 0 ∨ i = 1 ∨ i = 2 ∨ i = 3 ∨ i = 4 ∨ i = 5 ∨ i = 6 ∨ i = 7 := by omega
      have hR5 := hB5.lt
      obtain ⟨o, n, hx, hy, hset⟩ : ∃ o n : Nat, (hc (addF h v i) ++ R)[i]? = some (cu o) ∧ (hc v)[i]? = some (cu n) ∧ (hc (addF h v i) ++ R).set i (cu ((o + n) % 4294967296)) = hc (addF h v (i + 1)) ++ R := by
        rcases h8 with rfl | rfl | rfl | rfl | rfl | rfl | rfl | rfl <;> exact ⟨_, _, rfl, rfl, rfl⟩
      refine dr (fun W => Blk W g1 44 (hc v)) [(0, true), (1, true), (2, true), (3, true), (4, true), (6, true), (7, true), (8, true), (10, true), (11, true), (5, false), (9, true), (12, true), (13, false)] (by kernel_rfl) hB6.drew ?_
      refine p_nil rfl ?_
      refine p_fld fd0 rfl ?_
      refine p_atB (o := 0) (i := i) (q := i) ar8 rfl rfl rfl (by omega) (by omega) ?_
      refine p_atB (i := i) (q := i) ar8 rfl rfl rfl (by omega) (by omega) ?_
      refine t_load agg_u32 rfl (fun W h => Blk.at_ h hy) ?_
      refine p_nil rfl ?_
      refine p_fld fd0 rfl ?_
      refine v_load agg_u32 rfl (hB5.drew.at_ hx) ?_
      refine ⟨hB6.drew, ?_⟩
      refine p_add rfl rfl (add32 o n) ?_
      refine p_atB (o := 0) (i := i) (q := i) ar8 rfl rfl rfl (by omega) (by omega) ?_
      refine v_set (cu ((o + n) % 4294967296)) sz_u32 hB5.drew rfl rfl rfl (by simp [hc]; omega) ?_
      rintro W6 hB7 hg7 hs7
      rw [hset] at hB7
      have hB8 := hB6.drew.grownN hg7 (fun e => hgg e.symm)
      refine ⟨hB8, ?_⟩
      refine p_add rfl rfl (r := ((i + 1 : Nat) : Int)) (w64 (by omega) |>.trans (by omega)) ?_
      exact ⟨i + 1, ⟨by omega, hB7, hB8, gtrans gr5 (gtrans gdrew hg7)⟩, ⟨rfl, rfl, rfl, trivial⟩, by omega⟩
    · have hi : i = 8 := by omega
      subst hi
      have e : take8 h b = addF h v 8 := by unfold take8; rw [← hv, add8_eq]
      rw [← e] at hB5
      exact ⟨⟨_, rfl⟩, hB5, gr5⟩
end Go.Proofs.YtjneoinacobbaaaDoor
