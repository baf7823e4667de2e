/- The walks of law 05's joined and DigestParts. -/
import Derived.Test.YtjneoinacobbaaaDoorDLawW
import Derived.Test.YtjneoinacobbaaaDoorLaw
namespace Go.Proofs.YtjneoinacobbaaaDoor
open Go.RowKit
theorem is_joined : isFn Tryd.prog 5 = true := by kernel_rfl
theorem is_known05 : isFn Tryd.prog 6 = true := by kernel_rfl
theorem is_same : isFn Tryd.prog 10 = true := by kernel_rfl
theorem is_len : isFn Tryd.prog 9 = true := by kernel_rfl
theorem tmodN (a b : Nat) : ((a : Nat) : Int).tmod (b : Nat) = ((a % b : Nat) : Int) := by
  rw [Int.tmod_eq_emod_of_nonneg (by omega)]; simp
theorem len_mem_le {α : Type} {ll : List (List α)} {l : List α} (h : l ∈ ll) : l.length ≤ (ll.map List.length).sum := by
  induction ll with
  | nil => cases h
  | cons a r ih =>
    rw [List.map_cons, List.sum_cons]
    rcases List.mem_cons.1 h with rfl | h
    · omega
    · have := ih h; omega
set_option maxRecDepth 100000 in
theorem joined_any (A : Option Addr) (n c : Nat) (ll : List (List UInt8)) (w : World) (hr : RdD w (Fd w []) (dLs ll) (.slice A n c)) (hs : ∀ l ∈ ll, l.length ≤ 140737488351232) :
    Calls Tryd.prog 5 #[.slice A n c] w fun e w' => ∃ A' m c' q, e = .returned (.tuple #[.slice A' m c', .bool q]) ∧ Below w.heap.size w w' ∧ (q = true → Own w' w.heap.size A' m c' ll.flatten ∧ n ≤ 50 ∧ m ≤ 3000) := by
  refine calls_ev (args := [.slice A n c]) mixed Tryd.func5 rfl (by kernel_rfl) ?_
  have hn := hr.slen
  have A0 : At w w [none] := (At.start (gs := []) (by simp)).new (Below.refl _ _) (fun b e => by cases e)
  refine lp (Nat × Option Addr × Nat × Nat) (fun s W => s.1 ≤ n ∧ Own W w.heap.size s.2.1 s.2.2.1 s.2.2.2 (ll.take s.1).flatten ∧ s.2.2.1 ≤ 3000 ∧ (0 < s.1 → n ≤ 50) ∧ At w W [bk s.2.1] ∧ Stp w [] W [bk s.2.1]) (fun s => [(0, .slice A n c), (4, .slice s.2.1 s.2.2.1 s.2.2.2), (5, .int .i64 s.1)]) (fun s => n - s.1) (0, none, 0, 0) ⟨Nat.zero_le _, Own.nil_ _ _, by decide, fun h => absurd h (by decide), A0, Stp.new (Below.refl _ _) (fun b e => by cases e)⟩ ⟨rfl, rfl, rfl, trivial⟩ ?_
  rintro ⟨i, A1, m1, c1⟩ E W ⟨hi, o1, hm, h50, A1', s1⟩
  dsimp only at hi o1 hm h50 A1' s1
  refine p_len sl_ls rfl ?_
  refine p_lt rfl rfl (fun hlt => ?_) (fun hge => ?_)
  · obtain ⟨b, off, A', m, c', l, rfl, hl, hcell, hrl⟩ := (hr.up s1).lsat (i := i) (by omega)
    have hll := hs l (List.mem_of_getElem? hl)
    obtain ⟨e1, e2, hrd⟩ := hrl.rd Fd.lt
    subst e1
    refine p_len sl_ls rfl ?_
    refine p_gt rfl rfl (fun h => ?_) (fun h => ?_)
    · exact ⟨_, _, _, false, rfl, A1'.below, fun h => by cases h⟩
    refine p_len slb rfl ?_
    refine p_at sl_ls rfl rfl rfl (by omega) ?_
    have hcell' : W.cell? (Addr.add ⟨b, off, none⟩ (i * 1)) = some (.slice A' l.length c') := by rw [Addr.add_lit, Nat.mul_one]; exact hcell
    refine v_load agg_b rfl hcell' ?_
    refine p_len slb rfl ?_
    refine p_add rfl rfl (r := ((m1 + l.length : Nat) : Int)) ((w64 (by dsimp only; omega)).trans (by dsimp only; omega)) ?_
    refine p_gt rfl rfl (fun h2 => ?_) (fun h2 => ?_)
    · exact ⟨_, _, _, false, rfl, A1'.below, fun h => by cases h⟩
    refine p_at sl_ls rfl rfl rfl (by omega) ?_
    refine v_load agg_b rfl hcell' ?_
    refine v_appS rfl o1 rfl hrd (by dsimp only; omega) A1' ?_
    rintro A3 c3 W3 o3 s3 A3' - h3
    refine p_add rfl rfl (r := ((i + 1 : Nat) : Int)) ((w64 (by omega)).trans (by omega)) ?_
    exact ⟨(i + 1, A3, m1 + l.length, c3), ⟨by dsimp only; omega, by dsimp only; rw [take_flat hl]; exact o3, by dsimp only; omega, fun _ => by omega, A3', s1.trans s3⟩, ⟨rfl, rfl, rfl, trivial⟩, by dsimp only; omega⟩
  · have hin : i = n := by omega
    subst hin
    rw [List.take_of_length_le (by omega)] at o1
    exact ⟨A1, m1, c1, true, rfl, A1'.below, fun _ => ⟨o1, by omega, hm⟩⟩
set_option maxRecDepth 100000 in
theorem digestParts_walk (w : World) (hG : GL w []) {A : Option Addr} {n c : Nat} {ll : List (List UInt8)} (hr0 : RdS w w.heap.size A n ll) (hc : n ≤ c) (hls : ∀ l ∈ ll, l.length ≤ 140737488351232) (cut : Int) (hcut : -9223372036854775808 ≤ cut ∧ cut ≤ 9223372036854775807) :
    Calls Tryd.prog 3 #[.slice A n c, .int .i64 cut] w (RetTrue w) := by
  refine calls_ev (args := [.slice A n c, .int .i64 cut]) mixed Tryd.func3 rfl (by kernel_rfl) ?_
  have hr : RdD w (Fd w []) (dLs ll) (.slice A n c) := (hr0.toD hc).to fun b hb => ⟨rfl, hb, by simp⟩
  have hn := hr.slen
  refine cc is_joined (joined_any A n c ll w hr hls) ?_
  rintro e W1 ⟨A1, m, c1, q, rfl, b1, hq⟩
  refine ⟨_, rfl, ?_⟩
  have hG1 := hG.up (Stp.below b1)
  refine p_not rfl ?_
  cases q with
  | false =>
    refine cc is_known05 (known05_any W1 hG1) ?_
    rintro e W2 ⟨rfl, b2⟩
    refine ⟨_, rfl, ?_⟩
    exact ⟨rfl, b1.trans (b2.mono b1.size)⟩
  | true =>
    obtain ⟨o1, hn50, hm3⟩ := hq rfl
    refine cc is_new (new_any [] W1 hG1) ?_
    rintro e W2 ⟨g, rfl, hg, b2, hs2, hD⟩
    refine ⟨_, rfl, ?_⟩
    refine p_peq ptrD rfl rfl ?_
    have hb := o1.len
    have A2 : At w W2 [some g] := ((At.start (gs := []) (by simp)).call b1).new b2 (fun b e => by injection e with e; omega)
    have s2 : Stp w [] W2 [some g] := (Stp.below b1).trans (Stp.new b2 (fun b e => by injection e with e; omega))
    refine lp (Nat) (fun i W => i ≤ n ∧ At w W [some g] ∧ Stp w [] W [some g] ∧ Dg W [some g] g (ll.take i).flatten ∧ Own W w.heap.size A1 m c1 ll.flatten)
      (fun i => [(0, .slice A n c), (1, .int .i64 cut), (5, .slice A1 m c1), (7, .pointer (some ⟨g, 0, none⟩)), (8, .int .i64 ((ll.take i).flatten.length : Nat)), (9, .int .i64 i)]) (fun i => n - i) 0 ⟨Nat.zero_le _, A2, s2, hD, o1.below b2⟩ ⟨rfl, rfl, rfl, rfl, rfl, rfl, trivial⟩ ?_
    clear hD s2 A2 o1 hq
    rintro i E W3 ⟨hi, A3, s3, hD3, o3⟩
    have hG3 := hG.up s3
    have hfl := flat_take_le ll i
    refine p_len sl_ls rfl ?_
    refine p_lt rfl rfl (fun hlt => ?_) (fun hge => ?_)
    · obtain ⟨b, off, A', k, c', l, rfl, hl, hcell, hrl⟩ := (hr.up s3).lsat (i := i) (by omega)
      have hfl2 := flat_take_le ll (i + 1)
      rw [take_flat hl, List.length_append] at hfl2
      obtain ⟨e1, e2, _⟩ := hrl.rd Fd.lt
      subst e1
      refine p_at sl_ls rfl rfl rfl (by omega) ?_
      refine v_load agg_b rfl (by rw [Addr.add_lit, Nat.mul_one]; exact hcell) ?_
      refine cc is_write (write_any [some g] g c' A' l.length l _ W3 A3.lt hG3 hD3 hrl (by omega) (by have := hG1.size; omega)) ?_
      rintro e W4 ⟨⟨v, rfl⟩, g4, hD4⟩
      refine ⟨_, rfl, ?_⟩
      have s4 : Stp W3 [some g] W4 [some g] := Stp.wrote g4 (by simp)
      have A4 := A3.wrote g4 (fun b e => by injection e with e; have := b1.size; omega)
      obtain ⟨_, _, hB3, _, _⟩ := hD3
      have o4 : Own W4 w.heap.size A1 m c1 ll.flatten := o3.kept g4 (.inr (by rw [own_bk]; exact o3.ne_blk hB3 (by decide)))
      have hG4 := hG3.up s4
      obtain ⟨b', off', A'', k'', c'', l'', e1', hl'', hcell4, hrl4⟩ := (hr.up (s3.trans s4)).lsat (i := i) (by omega)
      injection e1' with e1'; injection e1' with e1' e2'; subst e1'; subst e2'
      rw [hl] at hl''; injection hl'' with hl''; subst hl''
      obtain ⟨e3, _, _⟩ := hrl4.rd Fd.lt
      subst e3
      refine p_at sl_ls rfl rfl rfl (by omega) ?_
      refine v_load agg_b rfl (by rw [Addr.add_lit, Nat.mul_one]; exact hcell4) ?_
      refine p_len slb rfl ?_
      refine p_add rfl rfl (r := (((ll.take (i + 1)).flatten.length : Nat) : Int)) ((w64 (by omega)).trans (by rw [take_flat hl, List.length_append]; omega)) ?_
      rw [← take_flat hl] at hD4
      have hsz4 := hG4.size
      have hfl3 := flat_take_le ll (i + 1)
      refine drT (fun _ => True) (Sch.graft (.take 0 (.take 2 (.one 1 (.take 3 (.take 4 (.take 5 (.take 7 (.take 8 (.take 9 (.two 6 (.one 10 .nil) 10 (.one 6 .nil))))))))))) (.one 11 (.one 12 (.take 13 (.take 14 .nil))))) (by kernel_rfl) trivial ?_
      refine cutT (Option Addr × Nat × Nat) (fun s W => Own W w.heap.size s.1 32 s.2.1 (sha (ll.take (i + 1)).flatten) ∧ RdD W (Fd W [some g]) (dLs [ll.flatten.take (ll.take (i + 1)).flatten.length]) (.slice (some ⟨s.2.2, 0, none⟩) 1 1) ∧ At w W [some g] ∧ Stp w [] W [some g] ∧ Dg W [some g] g (ll.take (i + 1)).flatten ∧ Own W w.heap.size A1 m c1 ll.flatten)
        (fun s => [(0, .slice (some ⟨b, off, none⟩) n c), (1, .int .i64 cut), (5, .slice A1 m c1), (7, .pointer (some ⟨g, 0, none⟩)), (8, .int .i64 ((ll.take (i + 1)).flatten.length : Nat)), (9, .int .i64 i), (46, .bool false), (48, .slice s.1 32 s.2.1), (52, .slice (some ⟨s.2.2, 0, none⟩) 1 1)]) ?_ ?_
      · have bd : Below W4.heap.size W4 W4.drew := (Below.refl _ _).drew
        replace hD4 := hD4.below bd
        replace hG4 := hG4.up (Stp.below bd)
        replace o4 := o4.below bd
        replace A4 := A4.call bd
        replace s4 := s3.trans (s4.trans (Stp.below bd))
        clear hrl4 hcell4 hrl hcell
        revert hD4 hG4 o4 A4 s4
        generalize W4.drew = W5
        intro hD4 hG4 o4 A4 s4
        refine cc is_len (len_any [some g] g _ W5 hD4) ?_
        rintro e W5 ⟨rfl, rfl⟩
        refine ⟨_, rfl, trivial, ?_⟩
        refine p_ne rfl rfl (fun _ => ?_) (fun h => absurd rfl h)
        refine p_slice (i := 0) (j := (ll.take (i + 1)).flatten.length) (m := c1) slb rfl rfl (bnd_i rfl) rfl rfl (Nat.zero_le _) (by have := o4.cap_; omega) (Nat.le_refl _) ?_
        rw [slA0, Nat.sub_zero, Nat.sub_zero]
        have hcap4 := o4.cap_
        have D4 : RdD W5 (Fd W5 [some g]) (dB (ll.flatten.take (ll.take (i + 1)).flatten.length)) (.slice A1 (ll.take (i + 1)).flatten.length c1) :=
          RdD.ofbytes (F := Fd W5 [some g]) (o4.rd.take (k := (ll.take (i + 1)).flatten.length) (by omega)) (c := c1) (by omega) (fun b' off' e1 h1 => ⟨h1, fun e2 => by
            simp only [List.mem_singleton] at e2
            have hd := hD4
            obtain ⟨_, _, hB4, _, _⟩ := hd
            exact o4.ne_blk hB4 (by decide) (by rw [e1, ← e2]; rfl)⟩)
        refine ⟨?_, ?_⟩
        · refine cc is_dsum (dsum_any [some g] g _ W5 A4.lt hG4 hD4 (by omega)) ?_
          rintro e W6 ⟨A5, c5, rfl, o5, b5⟩
          refine ⟨_, rfl, trivial, ?_⟩
          refine v_bslice (vs := [.slice A1 (ll.take (i + 1)).flatten.length c1]) sl_ls zls' rfl (by decide) rfl ?_
          rintro g6 WB' hg6 hB6 hb6 hs6
          rw [hg6] at hb6
          refine ⟨trivial, (A5, c5, g6), ⟨(o5.below hb6).less A4.size, ?_, (A4.call b5).call hb6, (s4.trans (Stp.below b5)).trans (Stp.below hb6), (hD4.below b5).below hb6, (o4.below b5).below hb6⟩, ⟨rfl, rfl, rfl, rfl, rfl, rfl, rfl, rfl, rfl, trivial⟩⟩
          refine RdD.sl_iff.2 ⟨_, 1, _, rfl, Nat.le_refl _, rfl, RdL.cons ((D4.up (Stp.below b5)).up (Stp.below hb6)) RdL.nil_, fun _ => ⟨g6, 0, rfl, ⟨hB6.lt, fun e => ?_⟩, fun j x hx => ?_⟩⟩
          · simp only [List.mem_singleton, Option.some.injEq] at e
            have := (A4.call b5).lt g (by simp)
            omega
          · rw [Nat.zero_add]; exact hB6.at_ hx
        ·
          refine v_bslice (vs := [.slice A1 (ll.take (i + 1)).flatten.length c1]) sl_ls zls' rfl (by decide) rfl ?_
          rintro g6 WB' hg6 hB6 hb6 hs6
          rw [hg6] at hb6
          refine ⟨trivial, ?_⟩
          refine cc is_dsum (dsum_any [some g] g _ WB' (A4.call hb6).lt (hG4.up (Stp.below hb6)) (hD4.below hb6) (by omega)) ?_
          rintro e W6 ⟨A5, c5, rfl, o5, b5⟩
          refine ⟨_, rfl, trivial, ?_⟩
          refine ⟨(A5, c5, g6), ⟨o5.less (A4.call hb6).size, ?_, (A4.call hb6).call b5, (s4.trans (Stp.below hb6)).trans (Stp.below b5), (hD4.below hb6).below b5, (o4.below hb6).below b5⟩, ⟨rfl, rfl, rfl, rfl, rfl, rfl, rfl, rfl, rfl, trivial⟩⟩
          refine RdD.up (W := WB') (gs := [some g]) ?_ (Stp.below b5)
          refine RdD.sl_iff.2 ⟨_, 1, _, rfl, Nat.le_refl _, rfl, RdL.cons (D4.up (Stp.below hb6)) RdL.nil_, fun _ => ⟨g6, 0, rfl, ⟨hB6.lt, fun e => ?_⟩, fun j x hx => ?_⟩⟩
          · simp only [List.mem_singleton, Option.some.injEq] at e
            have := A4.lt g (by simp)
            omega
          · rw [Nat.zero_add]; exact hB6.at_ hx
      · rintro ⟨A5, c5, g6⟩ B6 W6 ⟨o5, hD6, A6, s6, hDg6, o6⟩
        dsimp only at o5 hD6
        have hG6 := hG.up s6
        refine cc is_sum (sum_any [some g] _ 1 1 _ W6 A6.lt hG6 hD6 (by rw [List.flatten_cons, List.flatten_nil, List.append_nil, List.length_take]; omega) (by decide)) ?_
        rintro e W7 ⟨A7, c7, rfl, o7, b7⟩
        refine ⟨_, rfl, trivial, ?_⟩
        refine cc is_same (same_any A5 A7 32 32 c5 c7 _ _ _ _ W7 (o5.below b7).rd o7.rd) ?_
        rintro e W8 ⟨rfl, rfl⟩
        refine ⟨_, rfl, trivial, ?_⟩
        have htk : [ll.flatten.take (ll.take (i + 1)).flatten.length].flatten = (ll.take (i + 1)).flatten := by
          rw [List.flatten_cons, List.flatten_nil, List.append_nil]
          have : ll.flatten = (ll.take (i + 1)).flatten ++ (ll.drop (i + 1)).flatten := by rw [← List.flatten_append, List.take_append_drop]
          rw [this, List.take_left]
        rw [htk, decide_eq_true rfl]
        refine p_not rfl ?_
        refine p_add rfl rfl (r := ((i + 1 : Nat) : Int)) ((w64 (by omega)).trans (by omega)) ?_
        exact ⟨i + 1, ⟨by omega, A6.call b7, s6.trans (Stp.below b7), hDg6.below b7, o6.below b7⟩, ⟨rfl, rfl, rfl, rfl, rfl, rfl, trivial⟩, by omega⟩
    · have hD3' := hD3
      obtain ⟨_, _, hB3, _, _⟩ := hD3'
      refine v_cvt u_int u_u64 rfl rfl ?_
      refine p_len slb rfl ?_
      refine p_add rfl rfl (r := ((m + 1 : Nat) : Int)) ((w64 (by omega)).trans (by omega)) ?_
      refine v_cvt u_int u_u64 rfl (wu64 (by omega)) ?_
      obtain ⟨u, hu⟩ : ∃ u : Nat, IntKind.u64.wrap cut = (u : Int) := ⟨(IntKind.u64.wrap cut).toNat, by rw [IntKind.wrap_u64]; omega⟩
      obtain ⟨k, hk⟩ : ∃ k, k = u % (m + 1) := ⟨_, rfl⟩
      have hkm : k ≤ m := by have := Nat.mod_lt u (show 0 < m + 1 by omega); omega
      refine p_rem rfl rfl (by omega) (r := (k : Int)) (by rw [hu, hk, tmodN]) ?_
      refine v_cvt u_u64' (by kernel_rfl) rfl (r := (k : Int)) (w64 (by omega)) ?_
      refine cc is_write (write_nil A1 m c1 W3) ?_
      rintro e W4 ⟨⟨v, rfl⟩, rfl⟩
      refine ⟨_, rfl, ?_⟩
      refine drT (fun _ => True) (Sch.graft (.take 0 (.take 1 (.take 2 (.take 3 (.take 4 (.take 5 (.take 8 (.two 6 (.two 7 (.one 9 .nil) 9 (.one 7 .nil)) 9 (.one 6 (.one 7 .nil)))))))))) (.one 10 (.one 11 (.take 12 (.take 13 (.one 14 (.take 15 (.take 16 (.take 17 (.take 18 (.one 19 (.one 20 (.one 21 (.take 22 (.take 23 (.one 24 (.take 25 (.take 26 .nil)))))))))))))))))) (by kernel_rfl) trivial ?_
      have hcap := o3.cap_
      refine cutT (Option Addr × Nat × Nat) (fun s W => Own W w.heap.size s.1 32 s.2.1 (sha ll.flatten) ∧ RdD W (Fd W [some g]) (dLs [ll.flatten]) (.slice (some ⟨s.2.2, 0, none⟩) 1 1) ∧ At w W [some g] ∧ Stp w [] W [some g])
        (fun s => [(11, .pointer none), (75, .slice s.1 32 s.2.1), (77, .slice (some ⟨s.2.2, 0, none⟩) 1 1)]) ?_ ?_
      · have bd : Below W3.heap.size W3 W3.drew := (Below.refl _ _).drew
        replace hG3 := hG3.up (Stp.below bd)
        replace A3 := A3.call bd
        have D3 : RdD W3 (Fd W3 [some g]) (dB ll.flatten) (.slice A1 m c1) := o3.frB fun b' h1 h2 h3 => ⟨h2, fun e2 => by
          simp only [List.mem_singleton] at e2
          exact o3.ne_blk hB3 (by decide) (h3.trans e2)⟩
        replace D3 := D3.up (Stp.below bd)
        replace s3 := s3.trans (Stp.below bd)
        revert hG3 A3 D3 s3
        generalize W3.drew = W5
        intro hG3 A3 D3 s3
        refine p_slice (i := 0) (j := k) (m := c1) slb rfl rfl (bnd_i rfl) rfl rfl (Nat.zero_le _) (by omega) (Nat.le_refl _) ?_
        refine p_slice (i := k) (j := m) (m := c1) slb rfl (bnd_i rfl) rfl rfl rfl (by omega) (by omega) (Nat.le_refl _) ?_
        rw [slA0, Nat.sub_zero, Nat.sub_zero]
        have D3a : RdD W5 (Fd W5 [some g]) (dB (ll.flatten.take k)) (.slice A1 k c1) := by
          have := D3.cutB (i := 0) (j := k) (m := c1) (Nat.zero_le _) hkm (by omega)
          rwa [slA0, Nat.sub_zero, Nat.sub_zero, List.drop_zero] at this
        have D3b : RdD W5 (Fd W5 [some g]) (dB (ll.flatten.drop k)) (.slice (slA A1 c1 k 1) (m - k) (c1 - k)) := by
          have := D3.cutB (i := k) (j := m) (m := c1) hkm (Nat.le_refl _) (by omega)
          rwa [List.take_of_length_le (by rw [List.length_drop]; omega)] at this
        have mk2 : ∀ W g', Blk W g' 23 [.slice A1 k c1, .slice (slA A1 c1 k 1) (m - k) (c1 - k)] → Stp W5 [some g] W [some g] → W5.heap.size ≤ g' → RdD W (Fd W [some g]) (dLs [ll.flatten.take k, ll.flatten.drop k]) (.slice (some ⟨g', 0, none⟩) 2 2) := by
          intro W g' hB hS hg'
          refine RdD.sl_iff.2 ⟨_, 2, _, rfl, Nat.le_refl _, rfl, RdL.cons (D3a.up hS) (RdL.cons (D3b.up hS) RdL.nil_), fun _ => ⟨g', 0, rfl, ⟨hB.lt, fun e => ?_⟩, fun j x hx => ?_⟩⟩
          · simp only [List.mem_singleton, Option.some.injEq] at e
            have := A3.lt g (by simp)
            omega
          · rw [Nat.zero_add]; exact hB.at_ hx
        have mk1 : ∀ W g', Blk W g' 23 [.slice A1 m c1] → Stp W5 [some g] W [some g] → W5.heap.size ≤ g' → RdD W (Fd W [some g]) (dLs [ll.flatten]) (.slice (some ⟨g', 0, none⟩) 1 1) := by
          intro W g' hB hS hg'
          refine RdD.sl_iff.2 ⟨_, 1, _, rfl, Nat.le_refl _, rfl, RdL.cons (D3.up hS) RdL.nil_, fun _ => ⟨g', 0, rfl, ⟨hB.lt, fun e => ?_⟩, fun j x hx => ?_⟩⟩
          · simp only [List.mem_singleton, Option.some.injEq] at e
            have := A3.lt g (by simp)
            omega
          · rw [Nat.zero_add]; exact hB.at_ hx
        have hcat : [ll.flatten.take k, ll.flatten.drop k].flatten = ll.flatten := by
          rw [List.flatten_cons, List.flatten_cons, List.flatten_nil, List.append_nil, List.take_append_drop]
        have call2 : ∀ W g', At w W [some g] → GL W [some g] → RdD W (Fd W [some g]) (dLs [ll.flatten.take k, ll.flatten.drop k]) (.slice (some ⟨g', 0, none⟩) 2 2) →
            Calls Tryd.prog 12 #[.slice (some ⟨g', 0, none⟩) 2 2] W fun e w' => ∃ A' c', e = .returned (.slice A' 32 c') ∧ Own w' W.heap.size A' 32 c' (sha ll.flatten) ∧ Below W.heap.size W w' := by
          intro W g' hA hGG hD
          have := sum_any [some g] _ 2 2 _ W hA.lt hGG hD (by rw [hcat]; omega) (by decide)
          rwa [hcat] at this
        refine ⟨?_, ?_⟩
        ·
          refine v_bslice (vs := [.slice A1 k c1, .slice (slA A1 c1 k 1) (m - k) (c1 - k)]) sl_ls zls' rfl (by decide) rfl ?_
          rintro g6 W6 hg6 hB6 hb6 hs6
          rw [hg6] at hb6
          refine ⟨trivial, ?_⟩
          refine ⟨?_, ?_⟩
          · refine cc is_sum (call2 W6 g6 (A3.call hb6) (hG3.up (Stp.below hb6)) (mk2 W6 g6 hB6 (Stp.below hb6) (by omega))) ?_
            rintro e W7 ⟨A7, c7, rfl, o7, b7⟩
            refine ⟨_, rfl, trivial, ?_⟩
            refine v_bslice (vs := [.slice A1 m c1]) sl_ls zls' rfl (by decide) rfl ?_
            rintro g9 W9 hg9 hB9 hb9 hs9
            rw [hg9] at hb9
            refine ⟨trivial, ?_⟩
            have hz := b7.size
            exact ⟨(A7, c7, g9), ⟨(o7.below hb9).less (A3.call hb6).size, mk1 W9 g9 hB9 ((Stp.below hb6).trans ((Stp.below b7).trans (Stp.below hb9))) (by omega), ((A3.call hb6).call b7).call hb9, s3.trans ((Stp.below hb6).trans ((Stp.below b7).trans (Stp.below hb9)))⟩, ⟨rfl, rfl, rfl, trivial⟩⟩
          ·
            refine v_bslice (vs := [.slice A1 m c1]) sl_ls zls' rfl (by decide) rfl ?_
            rintro g9 W9 hg9 hB9 hb9 hs9
            rw [hg9] at hb9
            refine ⟨trivial, ?_⟩
            refine cc is_sum (call2 W9 g6 ((A3.call hb6).call hb9) (hG3.up ((Stp.below hb6).trans (Stp.below hb9))) ((mk2 W6 g6 hB6 (Stp.below hb6) (by omega)).up (Stp.below hb9))) ?_
            rintro e W7 ⟨A7, c7, rfl, o7, b7⟩
            refine ⟨_, rfl, trivial, ?_⟩
            exact ⟨(A7, c7, g9), ⟨o7.less ((A3.call hb6).call hb9).size, (mk1 W9 g9 hB9 ((Stp.below hb6).trans (Stp.below hb9)) (by omega)).up (Stp.below b7), ((A3.call hb6).call hb9).call b7, s3.trans ((Stp.below hb6).trans ((Stp.below hb9).trans (Stp.below b7)))⟩, ⟨rfl, rfl, rfl, trivial⟩⟩
        ·
          refine v_bslice (vs := [.slice A1 m c1]) sl_ls zls' rfl (by decide) rfl ?_
          rintro g9 W9 hg9 hB9 hb9 hs9
          rw [hg9] at hb9
          refine ⟨trivial, ?_⟩
          refine v_bslice (vs := [.slice A1 k c1, .slice (slA A1 c1 k 1) (m - k) (c1 - k)]) sl_ls zls' rfl (by decide) rfl ?_
          rintro g6 W6 hg6 hB6 hb6 hs6
          rw [hg6] at hb6
          refine ⟨trivial, ?_⟩
          refine cc is_sum (call2 W6 g6 ((A3.call hb9).call hb6) (hG3.up ((Stp.below hb9).trans (Stp.below hb6))) (mk2 W6 g6 hB6 ((Stp.below hb9).trans (Stp.below hb6)) (by omega))) ?_
          rintro e W7 ⟨A7, c7, rfl, o7, b7⟩
          refine ⟨_, rfl, trivial, ?_⟩
          exact ⟨(A7, c7, g9), ⟨o7.less ((A3.call hb9).call hb6).size, ((mk1 W9 g9 hB9 (Stp.below hb9) (by omega)).up (Stp.below hb6)).up (Stp.below b7), ((A3.call hb9).call hb6).call b7, s3.trans ((Stp.below hb9).trans ((Stp.below hb6).trans (Stp.below b7)))⟩, ⟨rfl, rfl, rfl, trivial⟩⟩
      · rintro ⟨A7, c7, g9⟩ B7 W7 ⟨o7, hD7, A7', s7⟩
        dsimp only at o7 hD7
        have e1 : [ll.flatten].flatten = ll.flatten := by simp
        have hc10 := sum_any [some g] _ 1 1 _ W7 A7'.lt (hG.up s7) hD7 (by rw [e1]; omega) (by decide)
        rw [e1] at hc10
        refine cc is_sum hc10 ?_
        rintro e W8 ⟨A8, c8, rfl, o8, b8⟩
        refine ⟨_, rfl, trivial, ?_⟩
        refine cc is_same (same_any A7 A8 32 32 c7 c8 _ _ _ _ W8 (o7.below b8).rd o8.rd) ?_
        rintro e W9 ⟨rfl, rfl⟩
        refine ⟨_, rfl, trivial, ?_⟩
        rw [decide_eq_true rfl]
        have s8 := s7.trans (Stp.below (gs := [some g]) b8)
        refine cc is_len (len_nil W8) ?_
        rintro e W9 ⟨rfl, rfl⟩
        refine ⟨_, rfl, trivial, ?_⟩
        refine p_eq rfl rfl (fun _ => ?_) (fun h => absurd rfl h)
        refine cc is_dsum (dsum_nil [some g] W8 (A7'.call b8).lt (hG.up s8)) ?_
        rintro e W10 ⟨A10, c10, rfl, o10, b10⟩
        refine ⟨_, rfl, trivial, ?_⟩
        have A10' := (A7'.call b8).call b10
        have s10 := s8.trans (Stp.below (gs := [some g]) b10)
        refine cc is_sum (sum_any [some g] none 0 0 [] W10 A10'.lt (hG.up s10) (RdD.nil_ _ _) (by decide) (by decide)) ?_
        rintro e W11 ⟨A11, c11, rfl, o11, b11⟩
        refine ⟨_, rfl, trivial, ?_⟩
        refine cc is_same (same_any A10 A11 32 32 c10 c11 _ _ _ _ W11 (o10.below b11).rd o11.rd) ?_
        rintro e W12 ⟨rfl, rfl⟩
        refine ⟨_, rfl, trivial, ?_⟩
        rw [show decide (sha [] = sha [].flatten) = true from decide_eq_true rfl]
        have A11' := A10'.call b11
        refine cc is_known05 (known05_any W11 (((hG.up s10).up (Stp.below b11)).up Stp.drop)) ?_
        rintro e W13 ⟨rfl, b13⟩
        refine ⟨_, rfl, trivial, ?_⟩
        exact ⟨rfl, A11'.below.trans (b13.mono A11'.size)⟩
end Go.Proofs.YtjneoinacobbaaaDoor
