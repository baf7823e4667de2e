/- Reference 05: the walks of constants and Sum: SHA-256. Numbers and bytes in one way: the plain functions and their laws. Numbers and bytes in one way: the walks of package vint. Numbers and bytes in one way: the walk of vint.Get. Numbers and bytes in one way: the walks of vint.GetBytes, PutInt. Numbers and bytes in one way: the reference's walks. -/
import Derived.Test.YtojjfkbffjkojaaDoorG09
import Derived.Test.YtojjfkbffjkojaaDoorG03
import Derived.Test.YtojjfkbffjkojaaDoorG04
import Derived.WalkSmall
namespace Go.Proofs.YtojjfkbffjkojaaDoor
open Go.RowKit
set_option maxRecDepth 100000 in
set_option maxHeartbeats 2000000 in
theorem r5con_any (w : World) :
    Calls Tryd.prog 74 #[] w fun e w' => ∃ A c, e = .returned (.slice A 64 c) ∧ RdD w' (Fr w w') (dW roots) (.slice A 64 c) ∧ Below w.heap.size w w' := by
  refine calls_ev (args := []) mixed Tryd.func74 rfl (by kernel_rfl) ?_
  have M := St.start (w := w) (gs := []) (by intro b h; cases h)
  refine s_bslice (fr := true) (ds := (roots.map cu).map D.v) (roots.map cu) M slw zw rfl (by decide) rfl (RdL.ofvals _) rfl ?_
  clear M; rintro g W M
  exact ⟨_, 64, rfl, M.finF1 0 rfl, M.below⟩
def tailG (n i : Nat) : List UInt8 := (List.range i).reverse.map fun j => UInt8.ofNat (n / 256 ^ j)
theorem tailF_succ (n i : Nat) : tailG n (i + 1) = UInt8.ofNat (n / 256 ^ i) :: tailG n i := by unfold tailG; rw [List.range_succ, List.reverse_append]; rfl
theorem tailF_len (n i : Nat) : (tailG n i).length = i := by unfold tailG; simp
theorem tailF_8 (n : Nat) : tailG n 8 = [UInt8.ofNat (n >>> 56), UInt8.ofNat (n >>> 48), UInt8.ofNat (n >>> 40), UInt8.ofNat (n >>> 32), UInt8.ofNat (n >>> 24), UInt8.ofNat (n >>> 16), UInt8.ofNat (n >>> 8), UInt8.ofNat n] := by
  simp only [tailF_succ, Nat.shiftRight_eq_div_pow]
  simp [tailG]
theorem out8_flat (h : H8) : out8 h = (h8l h).flatMap put4 := by unfold out8 h8l; simp
theorem put4_vals {x : Nat} (hx : x < 4294967296) : [Value.int .u8 ((x / 16777216 : Nat) : Int), .int .u8 ((x / 65536 % 256 : Nat) : Int), .int .u8 ((x / 256 % 256 : Nat) : Int), .int .u8 ((x % 256 : Nat) : Int)] = bvs (put4 x) := by
  unfold bvs put4 u8v
  simp only [List.map_cons, List.map_nil, Nat.shiftRight_eq_div_pow, UInt8.toNat_ofNat']
  have e : x / 2 ^ 24 % 2 ^ 8 = x / 16777216 := by omega
  rw [e]
theorem h8_ok_lt {h : H8} (hok : h.Ok) : ∀ x ∈ h8l h, x < 4294967296 := by
  intro x hx
  simp only [h8l, List.mem_cons, List.not_mem_nil, or_false] at hx
  rcases hx with rfl | rfl | rfl | rfl | rfl | rfl | rfl | rfl
  · exact hok.a
  · exact hok.b
  · exact hok.c
  · exact hok.d
  · exact hok.e
  · exact hok.f
  · exact hok.g
  · exact hok.h
theorem begin8_ok6 : begin8.Ok := ⟨by decide, by decide, by decide, by decide, by decide, by decide, by decide, by decide⟩
theorem take8_ok {h : H8} (hok : h.Ok) (b : List UInt8) : (take8 h b).Ok := add8_ok _ _
def zerosN (n : Nat) : Nat := (119 - n % 64) % 64
theorem padL_eq (n : Nat) : padL n = (128 : UInt8) :: (List.replicate (zerosN n) (0 : UInt8) ++ tailG (8 * n) 8) := by rw [tailF_8]; rfl
theorem sha_def (b : List UInt8) : sha b = out8 (blocksF begin8 ((b ++ padL b.length).length / 64) (b ++ padL b.length)) := rfl
set_option maxRecDepth 100000 in
set_option maxHeartbeats 2000000 in
theorem r5sum_any (b : List UInt8) (gs : List (Option Nat)) (w : World) (A : Option Addr) (n c : Nat) (hr : RdD w (Fd w gs) (dB b) (.slice A n c)) (hgs : ∀ b, some b ∈ gs → b < w.heap.size) (hb : n ≤ 900000000) :
    Calls Tryd.prog 38 #[.slice A n c] w fun e w' => ∃ A' c', e = .returned (.slice A' 32 c') ∧ Own w' w.heap.size A' 32 c' (sha b) ∧ Below w.heap.size w w' := by
  refine calls_ev (args := [.slice A n c]) mixed Tryd.func38 rfl (by kernel_rfl) ?_
  have en := hr.slen
  have M := (St.start hgs).addD hr
  rw [sha_def]
  obtain ⟨z0, hz0⟩ : ∃ z0, z0 = zerosN n := ⟨_, rfl⟩
  have hz64 : z0 < 64 ∧ (n + 1 + z0) % 64 = 56 := by rw [hz0]; unfold zerosN; omega
  have hpad : padL b.length = (128 : UInt8) :: (List.replicate z0 (0 : UInt8) ++ tailG (8 * n) 8) := by rw [padL_eq, hz0, en]
  obtain ⟨al, hal⟩ : ∃ al, al = b ++ padL b.length := ⟨_, rfl⟩
  have hall : al.length = n + 1 + z0 + 8 := by rw [hal, hpad]; simp only [List.length_append, List.length_cons, List.length_replicate, tailF_len]; omega
  rw [← hal]
  refine ev_assoc (ev_assoc (ev_assoc (ev_assoc ?_)))
  refine cutS (Option Addr × Nat) (fun s W => St w gs W [] [⟨5, 1, s.1, n + 1 + z0, s.2, bvs (b ++ (128 : UInt8) :: List.replicate z0 0)⟩] []) (fun s => [(0, .slice A n c), (3, .slice s.1 (n + 1 + z0) s.2)]) ?_ ?_
  · replace M := M.nilR 5 1
    refine s_appB (l := []) M rfl rfl (M.rdb 0 rfl).2.2 (by omega) ?_
    clear M; rintro A2 c2 W M -
    rw [List.nil_append, Nat.zero_add] at M
    rw [Nat.zero_add]
    refine s_litB [.int .u8 128] [128] M (by decide) rfl rfl rfl ?_
    clear M; rintro g9 W M
    have M1 := M
    replace M := M.frzO
    refine s_appB M rfl rfl (M.rdb 0 rfl).2.2 (by omega) ?_
    clear M M1; rintro A3 c3 W M -
    refine lp (Nat × Option Addr × Nat) (fun s W => s.1 ≤ z0 ∧ St w gs W [] [⟨5, 1, s.2.1, n + 1 + s.1, s.2.2, bvs (b ++ (128 : UInt8) :: List.replicate s.1 0)⟩] []) (fun s => [(0, .slice A n c), (3, .slice s.2.1 (n + 1 + s.1) s.2.2)]) (fun s => z0 - s.1) (0, A3, c3) ⟨Nat.zero_le _, M.fsub _ (by simp)⟩ (by repeat (first | exact trivial | refine ⟨rfl, ?_⟩)) ?_
    clear M
    rintro ⟨k, A4, c4⟩ E5 W5 ⟨hk, M⟩
    dsimp only at hk M
    refine p_len slb rfl ?_
    refine p_remN (b := 64) rfl rfl (by decide) ?_
    refine p_ne rfl rfl (fun h56 => ?_) (fun h56 => ?_)
    · dsimp only at h56
      have : k = z0 := by omega
      subst this
      exact ⟨(A4, c4), M, (by repeat (first | exact trivial | refine ⟨rfl, ?_⟩))⟩
    · dsimp only at h56
      refine s_litB [.int .u8 0] [0] M (by decide) rfl rfl rfl ?_
      clear M; rintro g9 W M
      replace M := M.frzO
      refine s_appB M rfl rfl (M.rdb 0 rfl).2.2 (by omega) ?_
      clear M; rintro A6 c6 W M -
      have e : (b ++ (128 : UInt8) :: List.replicate k 0) ++ [0] = b ++ (128 : UInt8) :: List.replicate (k + 1) 0 := by
        rw [List.replicate_succ']; simp
      rw [e] at M
      exact ⟨(k + 1, A6, c6), ⟨by dsimp only; omega, M.fsub _ (by simp)⟩, (by repeat (first | exact trivial | refine ⟨rfl, ?_⟩)), by dsimp only; omega⟩
  · clear M
    rintro ⟨A4, c4⟩ B5 W5 M
    dsimp only at M
    refine ev_assoc (ev_assoc ?_)
    refine cutS (Option Addr × Nat) (fun s W => St w gs W [] [⟨5, 1, A4, n + 1 + z0, c4, bvs (b ++ (128 : UInt8) :: List.replicate z0 0)⟩] [.dat true [dB (tailG (8 * n) 8)] [.slice s.1 8 s.2]]) (fun s => [(3, .slice A4 (n + 1 + z0) c4), (5, .slice s.1 8 s.2)]) ?_ ?_
    · refine p_len slb rfl ?_
      refine v_cvt dd_int u_u64 rfl (r := ((n : Nat) : Int)) (by rw [IntKind.wrap_u64]; omega) ?_
      refine p_mul rfl rfl (r := ((8 * n : Nat) : Int)) (by rw [IntKind.wrap_u64]; omega) ?_
      obtain ⟨N8, hN8⟩ : ∃ N8, N8 = 8 * n := ⟨_, rfl⟩
      rw [← hN8]
      have hN8b : N8 ≤ 8000000000 := by omega
      replace M := M.addT (fr := true) (ds := [dB []]) (cs := [.slice none 0 0]) (RdL.one (RdD.nil_ _ _))
      refine lp (Nat × Option Addr × Nat) (fun s W => s.1 ≤ 8 ∧ St w gs W [] [⟨5, 1, A4, n + 1 + z0, c4, bvs (b ++ (128 : UInt8) :: List.replicate z0 0)⟩] [.dat true [dB (tailG N8 s.1)] [.slice s.2.1 s.1 s.2.2]]) (fun s => [(3, .slice A4 (n + 1 + z0) c4), (4, .int .u64 ((N8 / 256 ^ s.1 : Nat) : Int)), (5, .slice s.2.1 s.1 s.2.2), (6, .int .i64 s.1)]) (fun s => 8 - s.1) (0, none, 0) ⟨Nat.zero_le _, M⟩ ⟨rfl, (by show Value.int .u64 ((N8 : Nat) : Int) = _; rw [Nat.pow_zero, Nat.div_one]), rfl, rfl, trivial⟩ ?_
      clear M
      rintro ⟨i, A5, c5⟩ E6 W6 ⟨hi, M⟩
      dsimp only at hi M
      refine p_lt rfl rfl (fun hlt => ?_) (fun hge => ?_)
      · dsimp only at hlt
        have hq : N8 / 256 ^ i ≤ N8 := Nat.div_le_self _ _
        have htl := tailF_len N8 i
        have htn := tailF_succ N8 i
        obtain ⟨q, hqq⟩ : ∃ q, q = N8 / 256 ^ i := ⟨_, rfl⟩
        have hq2 : q / 256 = N8 / 256 ^ (i + 1) := by rw [hqq, Nat.div_div_eq_div_mul, Nat.pow_succ]
        rw [← hqq] at hq htn
        have hv4 : (.int .u64 ((N8 / 256 ^ (i, A5, c5).1 : Nat) : Int) : Value) = .int .u64 (q : Int) := by rw [hqq]
        rw [hv4]
        refine p_rem rfl rfl (by decide) (rem32 (x := q) (c := 256)) ?_
        refine v_cvt (by kernel_rfl) u_u8 rfl (r := ((q % 256 : Nat) : Int)) (by rw [IntKind.wrap_u8']; omega) ?_
        refine s_litB [.int .u8 ((q % 256 : Nat) : Int)] [UInt8.ofNat q] M (by decide) rfl (bvs1 q) rfl ?_
        clear M; rintro g9 W M
        refine s_appB M rfl rfl (M.rdb 0 rfl).2.2 (by omega) ?_
        clear M; rintro A6 c6 W M -
        replace M := M.frzO
        rw [List.singleton_append, ← htn, Nat.add_comm 1 i] at M
        refine p_quo rfl rfl (by decide) (r := ((q / 256 : Nat) : Int)) ?_ ?_
        · have e : (q : Int).tdiv 256 = ((q / 256 : Nat) : Int) := by rw [Int.tdiv_eq_ediv_of_nonneg (by omega)]; omega
          rw [e, IntKind.wrap_u64]; omega
        · refine p_addN (b := 1) rfl rfl (by omega) ?_
          refine ⟨(i + 1, A6, c6), ⟨by dsimp only; omega, M.fsub _ (by simp)⟩, ⟨rfl, (by show Value.int .u64 ((q / 256 : Nat) : Int) = _; rw [hq2]), (by show Value.slice A6 (1 + i) c6 = _; rw [Nat.add_comm]), rfl, trivial⟩, by dsimp only; omega⟩
      · dsimp only at hge
        have : i = 8 := by omega
        subst this
        exact ⟨(A5, c5), M, (by repeat (first | exact trivial | refine ⟨rfl, ?_⟩))⟩
    · clear M
      rintro ⟨A5, c5⟩ B6 W6 M
      dsimp only at M
      refine ev_assoc (ev_assoc (ev_assoc ?_))
      refine cutS (Option Addr × Nat × H8) (fun s W => St w gs W [] [] [.dat true [dW (h8l s.2.2)] [.slice s.1 8 s.2.1]] ∧ s.2.2.Ok ∧ blocksF begin8 (al.length / 64) al = s.2.2) (fun s => [(8, .slice s.1 8 s.2.1)]) ?_ ?_
      · refine s_appB M rfl rfl (M.rdb 0 rfl).2.2 (by omega) ?_
        clear M; rintro A7 c7 W M -
        replace M := M.frzO
        have e : (b ++ (128 : UInt8) :: List.replicate z0 0) ++ tailG (8 * n) 8 = al := by rw [hal, hpad]; simp
        rw [e] at M
        refine s_bslice (fr := true) (ds := (hc begin8).map D.v) (hc begin8) M slw zw rfl (by decide) rfl (RdL.ofvals _) rfl ?_
        clear M; rintro g8 W M
        refine cc is_r5con (r5con_any _) ?_
        rintro e W ⟨A9, c9, rfl, h9, hbel⟩
        replace M := M.callF1 hbel h9
        refine ⟨_, rfl, ?_⟩
        have hm64 : al.length = 64 * (al.length / 64) := by omega
        obtain ⟨m, hm⟩ : ∃ m, m = al.length / 64 := ⟨_, rfl⟩
        rw [← hm] at hm64 ⊢
        obtain ⟨BB, hBB⟩ : ∃ BB, BB = blocksF begin8 m al := ⟨_, rfl⟩
        rw [← hBB]
        have hnn : n + 1 + z0 + 8 = al.length := hall.symm
        refine lp (Nat × Option Addr × Nat × H8) (fun s W => s.1 ≤ m ∧ St w gs W [] [] [.dat true [dW (h8l s.2.2.2)] [.slice s.2.1 8 s.2.2.1], .dat true [dB al] [.slice A7 (n + 1 + z0 + 8) c7], .dat true [dW roots] [.slice A9 64 c9]] ∧ s.2.2.2.Ok ∧ BB = blocksF s.2.2.2 (m - s.1) (al.drop (64 * s.1))) (fun s => [(3, .slice A7 (n + 1 + z0 + 8) c7), (8, .slice s.2.1 8 s.2.2.1), (9, .slice A9 64 c9), (10, .int .i64 ((64 * s.1 : Nat) : Int))]) (fun s => m - s.1) (0, some ⟨g8, 0, none⟩, 8, begin8) ⟨Nat.zero_le _, M.fsub _ (by intro f hf; simp only [List.mem_cons, List.not_mem_nil, or_false] at hf ⊢; rcases hf with h | h | h <;> simp only [h, true_or, or_true]; exact .inr (.inl rfl)), begin8_ok6, hBB⟩ (by repeat (first | exact trivial | refine ⟨rfl, ?_⟩)) ?_
        clear M hBB h9
        rintro ⟨j, A5, c5, hh⟩ E7 W7 ⟨hj, M, hok, hBB⟩
        dsimp only at hj M hok hBB
        refine p_len slb rfl ?_
        refine p_lt rfl rfl (fun hlt => ?_) (fun hge => ?_)
        · dsimp only at hlt
          have hjm : j < m := by omega
          refine p_addN (b := 64) rfl rfl (by omega) ?_
          have hcap := (M.d1 1 rfl).scap
          refine p_slice (i := 64 * j) (j := 64 * j + 64) (m := c7) slb rfl (bnd_i rfl) (bnd_i rfl) rfl rfl (by omega) (by omega) (Nat.le_refl _) ?_
          have hcut := (M.d1 1 rfl).cutB (i := 64 * j) (j := 64 * j + 64) (m := c7) (by omega) (by omega) (by omega)
          rw [show 64 * j + 64 - 64 * j = 64 by omega] at hcut ⊢
          refine cc is_r5round (r5round_any hh hok _ _ _ _ _ _ c5 _ c9 (M.d1 0 rfl) hcut (M.d1 2 rfl) M.olt) ?_
          rintro e W ⟨A8, c8, rfl, h8, hbel⟩
          replace M := M.callF1 hbel h8
          refine ⟨_, rfl, ?_⟩
          rw [show m - j = (m - (j + 1)) + 1 by omega] at hBB
          unfold blocksF at hBB
          rw [List.drop_drop] at hBB
          refine p_addN (b := 64) rfl rfl (by omega) ?_
          exact ⟨(j + 1, A8, c8, take8 hh ((al.drop (64 * j)).take 64)), ⟨by dsimp only; omega, M.fsub _ (by intro f hf; simp only [List.mem_cons, List.not_mem_nil, or_false] at hf ⊢; rcases hf with h | h | h <;> simp only [h, true_or, or_true]), take8_ok hok _, by dsimp only; rw [Nat.mul_add, Nat.mul_one]; exact hBB⟩, ⟨rfl, rfl, rfl, (by show Value.int .i64 ((64 * j + 64 : Nat) : Int) = _; rw [Nat.mul_add, Nat.mul_one]), trivial⟩, by dsimp only; omega⟩
        · dsimp only at hge
          have : j = m := by omega
          subst this
          rw [Nat.sub_self] at hBB
          unfold blocksF at hBB
          exact ⟨(A5, c5, hh), ⟨M.fsub _ (by simp), hok, hBB⟩, (by repeat (first | exact trivial | refine ⟨rfl, ?_⟩))⟩
      · clear M
        rintro ⟨A5, c5, hh⟩ B7 W7 ⟨M, hok, hBB⟩
        dsimp only at M hok hBB
        rw [hBB, out8_flat]
        have hlt := h8_ok_lt hok
        obtain ⟨b1, o1, rfl, F1, hcw⟩ := dW_open (M.d1 0 rfl) (by decide)
        replace M := (M.addC (a := ⟨b1, o1, none⟩) F1 hcw).fsub [.loc ⟨b1, o1, none⟩ ((h8l hh).map cu)] (by simp)
        replace M := M.nilR 5 1
        refine lp (Nat × Option Addr × Nat) (fun s W => s.1 ≤ 8 ∧ St w gs W [] [⟨5, 1, s.2.1, 4 * s.1, s.2.2, bvs (((h8l hh).take s.1).flatMap put4)⟩] [.loc ⟨b1, o1, none⟩ ((h8l hh).map cu)]) (fun s => [(8, .slice (some ⟨b1, o1, none⟩) 8 c5), (11, .slice s.2.1 (4 * s.1) s.2.2), (12, .int .i64 s.1)]) (fun s => 8 - s.1) (0, none, 0) ⟨Nat.zero_le _, M⟩ (by repeat (first | exact trivial | refine ⟨rfl, ?_⟩)) ?_
        clear M
        rintro ⟨i, A6, c6⟩ E8 W8 ⟨hi, M⟩
        dsimp only at hi M
        refine p_lt rfl rfl (fun hlt2 => ?_) (fun hge => ?_)
        · dsimp only at hlt2
          have hi8 : i < 8 := by omega
          have hi8' : i < (h8l hh).length := hi8
          have hx := hlt _ (List.getElem_mem hi8')
          have hxe : (h8l hh).getD i 0 = (h8l hh)[i] := by rw [List.getD_eq_getElem?_getD, List.getElem?_eq_getElem hi8']; rfl
          obtain ⟨x, hxx⟩ : ∃ x, x = (h8l hh).getD i 0 := ⟨_, rfl⟩
          have hcx : ((h8l hh).map cu)[i * 1]? = some (.int .u32 (x : Nat)) := by rw [hxx]; exact cu_at hi8'
          rw [← hxe, ← hxx] at hx
          replace M := M.drew
          refine drT (Kp w gs [] [.loc ⟨b1, o1, none⟩ ((h8l hh).map cu)]) (.take 0 (.take 1 (.take 2 (.take 3 (.take 4 (.take 5 (.take 6 (.take 7 (.take 8 (.take 9 (.take 10 (.take 11 (.take 12 (.take 13 (.take 14 (.take 15 (.take 16 (.take 17 (.take 18 (.take 19 (.take 20 (.take 21 (.take 22 (.take 23 (.take 24 (.take 25 (.take 26 (.one 27 (.one 28 (.take 29 (.nil))))))))))))))))))))))))))))))) (by kernel_rfl) (M.kp (by simp) (by simp)) ?_
          have hq : ∀ c, x / c < 4294967296 := fun c => Nat.lt_of_le_of_lt (Nat.div_le_self _ _) hx
          refine p_at (i := i) slw rfl rfl rfl hi8 ?_
          refine t_load agg_u32 rfl (fun W K => K.lc 0 rfl (i * 1) _ hcx) ?_
          refine p_quo rfl rfl (by decide) (quo32 (c := 16777216) hx (by decide)) ?_
          refine t_cvt (by kernel_rfl) u_u8 rfl (wu8 (by omega)) ?_
          refine p_at (i := i) slw rfl rfl rfl hi8 ?_
          refine t_load agg_u32 rfl (fun W K => K.lc 0 rfl (i * 1) _ hcx) ?_
          refine p_quo rfl rfl (by decide) (quo32 (c := 65536) hx (by decide)) ?_
          refine p_rem rfl rfl (by decide) (rem32 (c := 256)) ?_
          refine t_cvt (by kernel_rfl) u_u8 rfl (wu8 (by omega)) ?_
          refine p_at (i := i) slw rfl rfl rfl hi8 ?_
          refine t_load agg_u32 rfl (fun W K => K.lc 0 rfl (i * 1) _ hcx) ?_
          refine p_quo rfl rfl (by decide) (quo32 (c := 256) hx (by decide)) ?_
          refine p_rem rfl rfl (by decide) (rem32 (c := 256)) ?_
          refine t_cvt (by kernel_rfl) u_u8 rfl (wu8 (by omega)) ?_
          refine p_at (i := i) slw rfl rfl rfl hi8 ?_
          refine t_load agg_u32 rfl (fun W K => K.lc 0 rfl (i * 1) _ hcx) ?_
          refine p_rem rfl rfl (by decide) (rem32 (c := 256)) ?_
          refine t_cvt (by kernel_rfl) u_u8 rfl (wu8 (by omega)) ?_
          refine s_litB [Value.int .u8 ((x / 16777216 : Nat) : Int), .int .u8 ((x / 65536 % 256 : Nat) : Int), .int .u8 ((x / 256 % 256 : Nat) : Int), .int .u8 ((x % 256 : Nat) : Int)] (put4 x) M (by decide) rfl (put4_vals hx) rfl ?_
          clear M; rintro g9 W M
          replace M := M.frzO
          refine ⟨(M.kp (by simp) (by simp)), ?_⟩
          refine s_appB M rfl rfl (M.rdb 0 rfl).2.2 (by omega) ?_
          clear M; rintro A7 c7 W M -
          refine ⟨(M.kp (by simp) (by simp)), ?_⟩
          have e : ((h8l hh).take i).flatMap put4 ++ put4 x = ((h8l hh).take (i + 1)).flatMap put4 := by
            rw [List.take_succ_eq_append_getElem hi8', List.flatMap_append, ← hxe, ← hxx]; simp
          rw [e, show 4 * i + 4 = 4 * (i + 1) by omega] at M
          refine p_addN (b := 1) rfl rfl (by omega) ?_
          exact ⟨(i + 1, A7, c7), ⟨by dsimp only; omega, M.fsub _ (by simp)⟩, ⟨rfl, (by show Value.slice A7 (4 * i + 4) c7 = _; rw [Nat.mul_add]), rfl, trivial⟩, by dsimp only; omega⟩
        · dsimp only at hge
          have : i = 8 := by omega
          subst this
          rw [List.take_of_length_le (by exact Nat.le_refl 8)] at M
          exact ⟨A6, c6, rfl, M.row _ (List.mem_cons_self ..), M.below⟩
end Go.Proofs.YtojjfkbffjkojaaDoor
namespace Go.Proofs.YtojjfkbffjkojaaDoor

/-- A number's bytes: seven bits each, the lowest first (so many at most as the first argument says). -/
def putF : Nat → Nat → List UInt8
  | 0, _ => []
  | f + 1, n => if n < 128 then [b8 (n : Int)] else b8 ((n % 128 + 128 : Nat) : Int) :: putF f (n / 128)
def putN (n : Nat) : List UInt8 := putF (n + 1) n
theorem putF_any : ∀ (f g n : Nat), n < f → n < g → putF f n = putF g n
  | f + 1, g + 1, n, hf, hg => by
    unfold putF
    by_cases h : n < 128
    · rw [if_pos h, if_pos h]
    · rw [if_neg h, if_neg h, putF_any f g (n / 128) (by omega) (by omega)]
theorem putN_lt {n : Nat} (h : n < 128) : putN n = [b8 (n : Int)] := by unfold putN putF; rw [if_pos h]
theorem putN_ge {n : Nat} (h : ¬ n < 128) : putN n = b8 ((n % 128 + 128 : Nat) : Int) :: putN (n / 128) := by
  unfold putN; rw [putF, if_neg h, putF_any n (n / 128 + 1) (n / 128) (by omega) (by omega)]
theorem putN_pos (n : Nat) : 1 ≤ (putN n).length := by
  by_cases h : n < 128
  · rw [putN_lt h]; simp
  · rw [putN_ge h]; simp
theorem putN_len : ∀ (k n : Nat), n < 128 ^ (k + 1) → (putN n).length ≤ k + 1
  | 0, n, h => by rw [putN_lt (by simpa using h)]; simp
  | k + 1, n, h => by
    by_cases h1 : n < 128
    · rw [putN_lt h1]; simp
    · rw [putN_ge h1, List.length_cons]
      have := putN_len k (n / 128) (by rw [Nat.div_lt_iff_lt_mul (by omega)]; rw [Nat.pow_succ] at h; exact h)
      omega
theorem putN_len10 {n : Nat} (h : n < 18446744073709551616) : (putN n).length ≤ 10 := putN_len 9 n (Nat.lt_of_lt_of_le h (by decide))
/-- The number that stands at the head of some bytes, at the i-th of which we are: the number, how many bytes, an error. -/
def getF : List UInt8 → Nat → Nat → Nat × Nat × Int
  | [], _, _ => (0, 0, 10)
  | c :: l, i, acc => if (i = 9 ∧ 1 < c.toNat) ∨ (c.toNat = 0 ∧ 0 < i) then (0, 0, 11) else if c.toNat < 128 then (acc + c.toNat * 128 ^ i, i + 1, 0) else getF l (i + 1) (acc + (c.toNat - 128) * 128 ^ i)

theorem getF_step (l : List UInt8) (a k acc : Nat) (h : a + k < l.length) : getF (l.drop (a + k)) k acc =
    if (k = 9 ∧ 1 < at8 l (a + k)) ∨ (at8 l (a + k) = 0 ∧ 0 < k) then (0, 0, 11) else if at8 l (a + k) < 128 then (acc + (at8 l (a + k)).toNat * 128 ^ k, k + 1, 0) else getF (l.drop (a + (k + 1))) (k + 1) (acc + ((at8 l (a + k)).toNat - 128) * 128 ^ k) := by
  rw [List.drop_eq_getElem_cons h, getF, at8_of l _ h, Int.toNat_natCast]
  have e1 : ((k = 9 ∧ 1 < l[a + k].toNat) ∨ (l[a + k].toNat = 0 ∧ 0 < k)) ↔ ((k = 9 ∧ (1 : Int) < (l[a + k].toNat : Int)) ∨ ((l[a + k].toNat : Int) = 0 ∧ 0 < k)) := by omega
  have e2 : (l[a + k].toNat < 128) ↔ ((l[a + k].toNat : Int) < 128) := by omega
  simp only [e1, e2]
  rfl
theorem getF_end (l : List UInt8) (a k acc : Nat) (h : l.length ≤ a + k) : getF (l.drop (a + k)) k acc = (0, 0, 10) := by
  rw [List.drop_eq_nil_of_le h]; rfl

/-- What is read is a number of 64 bits, no more than there is, and written as the bytes that stand there. -/
theorem getF_ok : ∀ (l : List UInt8) (i acc n t : Nat), acc < 128 ^ i → i ≤ 9 → getF l i acc = (n, t, 0) → ∃ m, n = acc + m * 128 ^ i ∧ n < 18446744073709551616 ∧ t = i + (putN m).length ∧ t ≤ i + l.length ∧ l.take (putN m).length = putN m ∧ (0 < i → 0 < m)
  | [], i, acc, n, t, _, _, h => by simp [getF] at h
  | c :: l, i, acc, n, t, ha, hi, h => by
    rw [getF] at h
    split at h
    · simp at h
    · rename_i hc
      have hc1 : ¬ (i = 9 ∧ 1 < c.toNat) := fun e => hc (.inl e)
      have hc2 : ¬ (c.toNat = 0 ∧ 0 < i) := fun e => hc (.inr e)
      have c256 := c.toNat_lt
      split at h
      · rename_i hlt
        simp only [Prod.mk.injEq, and_true] at h
        obtain ⟨rfl, rfl⟩ := h
        have e : putN c.toNat = [c] := by rw [putN_lt hlt, b8_nat]
        refine ⟨c.toNat, rfl, ?_, by rw [e]; rfl, by simp, by rw [e]; rfl, by omega⟩
        by_cases h9 : i = 9
        · subst h9
          have : c.toNat ≤ 1 := by omega
          have hp : (128 : Nat) ^ 9 = 9223372036854775808 := by decide
          rw [hp] at ha ⊢
          have : c.toNat * 9223372036854775808 ≤ 1 * 9223372036854775808 := Nat.mul_le_mul_right _ this
          omega
        · have h1 : c.toNat * 128 ^ i ≤ 127 * 128 ^ i := Nat.mul_le_mul_right _ (by omega)
          have h2 : 128 ^ (i + 1) ≤ 128 ^ 9 := Nat.pow_le_pow_right (by omega) (by omega)
          have hp : (128 : Nat) ^ 9 = 9223372036854775808 := by decide
          rw [hp, Nat.pow_succ] at h2
          omega
      · rename_i hge
        have hi8 : i ≤ 8 := by omega
        have hpow : 128 ^ (i + 1) = 128 ^ i * 128 := Nat.pow_succ ..
        have h1 : (c.toNat - 128) * 128 ^ i ≤ 127 * 128 ^ i := Nat.mul_le_mul_right _ (by omega)
        obtain ⟨m, hn, hlt, ht, hl, htk, hm⟩ := getF_ok l (i + 1) _ n t (by rw [hpow]; omega) (by omega) h
        have hm0 := hm (by omega)
        have e : putN (c.toNat - 128 + 128 * m) = c :: putN m := by
          rw [putN_ge (by omega)]
          rw [show (c.toNat - 128 + 128 * m) % 128 + 128 = c.toNat by omega, show (c.toNat - 128 + 128 * m) / 128 = m by omega, b8_nat]
        refine ⟨c.toNat - 128 + 128 * m, ?_, hlt, by rw [e, ht, List.length_cons]; omega, by rw [List.length_cons]; omega, by rw [e, List.length_cons, List.take_succ_cons, htk], by omega⟩
        rw [hn, hpow, Nat.add_mul, Nat.add_assoc, Nat.mul_comm (128 ^ i) 128, ← Nat.mul_assoc, Nat.mul_comm m 128]
/-- A number's bytes are read as it. -/
theorem getF_put : ∀ (f m i acc : Nat) (r : List UInt8), m < f → (0 < i → 0 < m) → i ≤ 9 → m * 128 ^ i < 18446744073709551616 → getF (putN m ++ r) i acc = (acc + m * 128 ^ i, i + (putN m).length, 0)
  | f + 1, m, i, acc, r, hf, h0, hi, hm => by
    have hb : ∀ x : Nat, x < 256 → (b8 (x : Int)).toNat = x := fun x hx => by unfold b8; rw [UInt8.toNat_ofNat']; omega
    by_cases h : m < 128
    · rw [putN_lt h, List.singleton_append, getF, hb m (by omega)]
      have h9 : ¬ (i = 9 ∧ 1 < m) := by
        rintro ⟨rfl, h1⟩
        have hp : (128 : Nat) ^ 9 = 9223372036854775808 := by decide
        rw [hp] at hm; omega
      rw [if_neg (by omega), if_pos h]
      rfl
    · rw [putN_ge h, List.cons_append, getF, hb _ (by omega)]
      have h9 : i ≤ 8 := by
        by_cases e : i = 9
        · subst e
          have hp : (128 : Nat) ^ 9 = 9223372036854775808 := by decide
          rw [hp] at hm; omega
        · omega
      rw [if_neg (by omega), if_neg (by omega)]
      have hd : m % 128 + m / 128 * 128 = m := by omega
      have hpow : 128 ^ (i + 1) = 128 ^ i * 128 := Nat.pow_succ ..
      have hle : m / 128 * 128 ^ (i + 1) ≤ m * 128 ^ i := by
        rw [hpow, Nat.mul_comm (128 ^ i) 128, ← Nat.mul_assoc]
        exact Nat.mul_le_mul_right _ (by omega)
      rw [getF_put f (m / 128) (i + 1) _ r (by omega) (by omega) (by omega) (by omega)]
      have e : m % 128 + 128 - 128 = m % 128 := by omega
      rw [e, List.length_cons]
      refine Prod.ext ?_ (Prod.ext ?_ rfl)
      · show acc + m % 128 * 128 ^ i + m / 128 * 128 ^ (i + 1) = acc + m * 128 ^ i
        rw [hpow, Nat.mul_comm (128 ^ i) 128, ← Nat.mul_assoc, Nat.add_assoc, ← Nat.add_mul, hd]
      · show i + 1 + (putN (m / 128)).length = i + ((putN (m / 128)).length + 1)
        omega
/-- Get: the error, the number, the place behind it. -/
def gE (l : List UInt8) (at_ : Int) : Int := if at_ < 0 ∨ (l.length : Int) < at_ then 2 else (getF (l.drop at_.toNat) 0 0).2.2
def gN (l : List UInt8) (at_ : Int) : Int := if at_ < 0 ∨ (l.length : Int) < at_ then 0 else ((getF (l.drop at_.toNat) 0 0).1 : Int)
def gTo (l : List UInt8) (at_ : Int) : Int := if gE l at_ = 0 then at_ + ((getF (l.drop at_.toNat) 0 0).2.1 : Int) else 0
theorem g_out {l : List UInt8} {a : Int} (h : a < 0 ∨ (l.length : Int) < a) : gE l a = 2 ∧ gN l a = 0 ∧ gTo l a = 0 := by
  have e : gE l a = 2 := by unfold gE; rw [if_pos h]
  exact ⟨e, by unfold gN; rw [if_pos h], by unfold gTo; rw [e]; rfl⟩
theorem g_in {l : List UInt8} {a : Nat} (h : a ≤ l.length) : gE l (a : Int) = (getF (l.drop a) 0 0).2.2 ∧ gN l (a : Int) = ((getF (l.drop a) 0 0).1 : Int) := by
  have hn : ¬ ((a : Int) < 0 ∨ (l.length : Int) < (a : Int)) := by omega
  exact ⟨by unfold gE; rw [if_neg hn]; rfl, by unfold gN; rw [if_neg hn]; rfl⟩
theorem g_fail {l : List UInt8} {a : Nat} {x : Int} (h : a ≤ l.length) (hx : x ≠ 0) (k : getF (l.drop a) 0 0 = (0, 0, x)) : gE l (a : Int) = x ∧ gN l (a : Int) = 0 ∧ gTo l (a : Int) = 0 := by
  obtain ⟨h1, h2⟩ := g_in h
  rw [k] at h1 h2
  exact ⟨h1, h2, by unfold gTo; rw [h1]; rw [if_neg hx]⟩
theorem g_done {l : List UInt8} {a n t : Nat} (h : a ≤ l.length) (k : getF (l.drop a) 0 0 = (n, t, 0)) : gE l (a : Int) = 0 ∧ gN l (a : Int) = (n : Int) ∧ gTo l (a : Int) = ((a + t : Nat) : Int) := by
  obtain ⟨h1, h2⟩ := g_in h
  rw [k] at h1 h2
  refine ⟨h1, h2, ?_⟩
  unfold gTo; rw [h1, if_pos rfl, Int.toNat_natCast, k]; simp
theorem gN_nonneg (l : List UInt8) (a : Int) : 0 ≤ gN l a := by unfold gN; split <;> omega
/-- What has been read, in full. -/
theorem g_ok {l : List UInt8} {a : Int} (h : gE l a = 0) : ∃ (x t : Nat), a = (x : Int) ∧ x ≤ l.length ∧ t = (putN (gN l a).toNat).length ∧ gTo l a = ((x + t : Nat) : Int) ∧ 1 ≤ t ∧ x + t ≤ l.length ∧ (l.drop x).take t = putN (gN l a).toNat ∧ gN l a < 18446744073709551616 := by
  by_cases ho : a < 0 ∨ (l.length : Int) < a
  · rw [(g_out ho).1] at h; cases h
  · obtain ⟨x, rfl⟩ := Int.eq_ofNat_of_zero_le (show 0 ≤ a by omega)
    have hx : x ≤ l.length := by omega
    obtain ⟨h1, h2⟩ := g_in hx
    rw [h] at h1
    obtain ⟨n, t, hk⟩ : ∃ n t, getF (l.drop x) 0 0 = (n, t, 0) := ⟨(getF (l.drop x) 0 0).1, (getF (l.drop x) 0 0).2.1, Prod.ext rfl (Prod.ext rfl h1.symm)⟩
    obtain ⟨d1, d2, d3⟩ := g_done hx hk
    obtain ⟨m, hn, hlt, ht, hl, htk, _⟩ := getF_ok (l.drop x) 0 0 n t (by simp) (by omega) hk
    have hmn : m = n := by simpa using hn.symm
    subst hmn
    have hp := putN_pos m
    rw [List.length_drop] at hl
    refine ⟨x, t, rfl, hx, ?_, d3, by omega, by omega, ?_, by rw [d2]; omega⟩
    · rw [d2, Int.toNat_natCast]; omega
    · rw [d2, Int.toNat_natCast]; rw [show t = (putN m).length by omega]; exact htk
/-- Bytes behind others: what stands there is read. -/
theorem g_put (p : List UInt8) (n : Nat) (r : List UInt8) (h : n < 18446744073709551616) : gE (p ++ (putN n ++ r)) (p.length : Int) = 0 ∧ gN (p ++ (putN n ++ r)) (p.length : Int) = (n : Int) ∧ gTo (p ++ (putN n ++ r)) (p.length : Int) = ((p.length + (putN n).length : Nat) : Int) := by
  have e := getF_put (n + 1) n 0 0 r (by omega) (by omega) (by omega) (by simpa using h)
  rw [show 0 + n * 128 ^ 0 = n by simp, Nat.zero_add] at e
  exact g_done (by simp) (by rw [List.drop_left]; exact e)

/-- GetBytes: the error, the bytes, the place behind. -/
def gbE (l : List UInt8) (a : Int) : Int := if gE l a ≠ 0 then gE l a else if 1048576 < gN l a then 3 else if (l.length : Int) - gTo l a < gN l a then 10 else 0
def gbL (l : List UInt8) (a : Int) : List UInt8 := if gbE l a = 0 then (l.drop (gTo l a).toNat).take (gN l a).toNat else []
def gbTo (l : List UInt8) (a : Int) : Int := if gbE l a = 0 then gTo l a + gN l a else 0
theorem gb_err1 {l : List UInt8} {a : Int} (h : gE l a ≠ 0) : gbE l a = gE l a ∧ gbL l a = [] ∧ gbTo l a = 0 := by
  have e : gbE l a = gE l a := by unfold gbE; rw [if_pos h]
  exact ⟨e, by unfold gbL; rw [if_neg (by rw [e]; exact h)], by unfold gbTo; rw [if_neg (by rw [e]; exact h)]⟩
theorem gb_err2 {l : List UInt8} {a : Int} (h : gE l a = 0) (k : 1048576 < gN l a) : gbE l a = 3 ∧ gbL l a = [] ∧ gbTo l a = 0 := by
  have e : gbE l a = 3 := by unfold gbE; rw [if_neg (fun x => x h), if_pos k]
  exact ⟨e, by unfold gbL; rw [if_neg (by rw [e]; decide)], by unfold gbTo; rw [if_neg (by rw [e]; decide)]⟩
theorem gb_err3 {l : List UInt8} {a : Int} (h : gE l a = 0) (k : ¬ 1048576 < gN l a) (m : (l.length : Int) - gTo l a < gN l a) : gbE l a = 10 ∧ gbL l a = [] ∧ gbTo l a = 0 := by
  have e : gbE l a = 10 := by unfold gbE; rw [if_neg (fun x => x h), if_neg k, if_pos m]
  exact ⟨e, by unfold gbL; rw [if_neg (by rw [e]; decide)], by unfold gbTo; rw [if_neg (by rw [e]; decide)]⟩
theorem gb_ok {l : List UInt8} {a : Int} (h : gE l a = 0) (k : ¬ 1048576 < gN l a) (m : ¬ (l.length : Int) - gTo l a < gN l a) : gbE l a = 0 ∧ gbL l a = (l.drop (gTo l a).toNat).take (gN l a).toNat ∧ gbTo l a = gTo l a + gN l a := by
  have e : gbE l a = 0 := by unfold gbE; rw [if_neg (fun x => x h), if_neg k, if_neg m]
  exact ⟨e, by unfold gbL; rw [if_pos e], by unfold gbTo; rw [if_pos e]⟩
theorem gb_cases (l : List UInt8) (a : Int) : (gE l a ≠ 0) ∨ (gE l a = 0 ∧ 1048576 < gN l a) ∨ (gE l a = 0 ∧ ¬ 1048576 < gN l a ∧ (l.length : Int) - gTo l a < gN l a) ∨ (gE l a = 0 ∧ ¬ 1048576 < gN l a ∧ ¬ (l.length : Int) - gTo l a < gN l a) := by
  by_cases h1 : gE l a = 0
  · by_cases h2 : 1048576 < gN l a
    · exact .inr (.inl ⟨h1, h2⟩)
    · by_cases h3 : (l.length : Int) - gTo l a < gN l a
      · exact .inr (.inr (.inl ⟨h1, h2, h3⟩))
      · exact .inr (.inr (.inr ⟨h1, h2, h3⟩))
  · exact .inl h1
/-- PutBytes. -/
def putB (s : List UInt8) : List UInt8 := putN s.length ++ s
end Go.Proofs.YtojjfkbffjkojaaDoor
namespace Go.Proofs.YtojjfkbffjkojaaDoor
open Go.RowKit

theorem or128 (x : Int) (h0 : 0 ≤ x) (h1 : x ≤ 255) : bits .or .u8 x 128 = x % 128 + 128 := by
  have h : ∀ y : Fin 256, bits .or .u8 (y.val : Int) 128 = (y.val : Int) % 128 + 128 := by decide +kernel
  have := h ⟨x.toNat, by omega⟩
  simp only [Int.toNat_of_nonneg h0] at this
  exact this

set_option maxRecDepth 100000 in
set_option maxHeartbeats 400000 in
theorem put_any (n : Nat) (w : World) (hlen : (putN n).length ≤ 10) :
    Calls Tryd.prog 115 #[.int .u64 n] w fun e w' => ∃ A' c', e = .returned (.slice A' (putN n).length c') ∧ Own w' w.heap.size A' (putN n).length c' (putN n) ∧ Below w.heap.size w w' := by
  go_enter Tryd.func115, Tryd.ntmps115
  go_wp2
  go_loopw [0, 3] (fun i v wr => ∃ (x : Nat) (o : List UInt8) (k : Nat) (A' : Option Addr) (c' : Nat), i = .int .u64 x ∧ v = .slice A' k c' ∧ Own wr w.heap.size A' k c' o ∧ o ++ putN x = putN n ∧ Below w.heap.size w wr) (fun i _ _ => (intOf i).toNat)
  case atStart => exact ⟨n, [], 0, none, 0, rfl, rfl, Own.nil_ _ _, rfl, Below.refl _ _⟩
  case round =>
    obtain ⟨x, o, k, A', c', rfl, rfl, hown, hx, hb⟩ := hrel
    have hk : k ≤ 10 := by
      have h1 := congrArg List.length hx
      rw [List.length_append, hown.len] at h1
      omega
    have Hx := Lib.hid hx
    clear hx
    by_cases hlt : x < 128
    · have hp := Lib.hid (putN_lt hlt)
      have hw : IntKind.u8.wrap (x : Int) = x := IntWalk.u8_in _ (by omega)
      have hm : (x : Int) % 256 = x := by omega
      go_wp2_with (at_builtin; refine wpList_app rfl _ _ rfl rfl (hown.alloc _) rfl (Rd.lit1 _ _ (by omega)) (by omega) (by simp; have := hb.size; omega) ?_; intro A2 c2 w2 hown2 hg2)
      have hb2 := below_own (belowA hb _) (hown.alloc _) hg2
      go_ret
      have e1 : o ++ [b8 (x : Int)] = putN n := by rw [← hp.out]; exact Hx.out
      rw [e1] at hown2
      have e2 := hown2.len
      exact ⟨A2, c2, ret_slice e2.symm, by rw [e2]; exact hown2, hb2⟩
    · have hp := Lib.hid (putN_ge hlt)
      have hm : IntKind.u8.wrap (x : Int) = (x : Int) % 256 := IntKind.wrap_u8 _
      have ho := or128 ((x : Int) % 256) (by omega) (by omega)
      have he : (x : Int) % 128 + 128 = ((x % 128 + 128 : Nat) : Int) := by omega
      have He := Lib.hid he
      clear he
      go_wp2_with (at_builtin; refine wpList_app rfl _ _ rfl rfl (hown.alloc _) rfl (Rd.lit1 _ _ (by omega)) (by omega) (by simp; have := hb.size; omega) ?_; intro A2 c2 w2 hown2 hg2)
      have hb2 := below_own (belowA hb _) (hown.alloc _) hg2
      clear hm ho
      go_roundw
      case rel => exact ⟨x / 128, o ++ [b8 ((x : Int) % 128 + 128)], k + 1, A2, c2, by go_num, rfl, hown2, by rw [He.out, List.append_assoc, List.singleton_append, ← hp.out]; exact Hx.out, hb2⟩
      case measure => simp [intOf]; omega

set_option maxRecDepth 100000 in
set_option maxHeartbeats 400000 in
theorem putBytes_any (A : Option Addr) (n c : Nat) (l : List UInt8) (w : World) (hr : Rd w w.heap.size A n l) (hn : n ≤ 100000000000) :
    Calls Tryd.prog 97 #[.slice A n c] w fun e w' => ∃ A' c', e = .returned (.slice A' ((putN n).length + n) c') ∧ Own w' w.heap.size A' ((putN n).length + n) c' (putB l) ∧ Below w.heap.size w w' := by
  have hln := Lib.hid hr.len
  have hlen := putN_len10 (n := n) (by omega)
  have hw : IntKind.u64.wrap (n : Int) = n := IntWalk.u64_in _ (by omega)
  go_enter Tryd.func97, Tryd.ntmps97
  go_wp2_with fail
  refine (put_any n _ hlen).mono ?_
  rintro e w1 ⟨A1, c1, rfl, o1, b1⟩
  go_wp2_with (at_builtin; refine wpList_app rfl _ _ rfl rfl o1 rfl (hr.up b1) (by omega) b1.size ?_; intro A2 c2 w2 o2 g2)
  have b2 := below_own b1 o1 g2
  go_ret
  exact ⟨A2, c2, rfl, by unfold putB; rw [hln.out]; exact o2, b2⟩
end Go.Proofs.YtojjfkbffjkojaaDoor
namespace Go.Proofs.YtojjfkbffjkojaaDoor
open Go.RowKit

theorem ret3 {k1 k2 k3 : IntKind} {a b c a' b' c' : Int} (h1 : a = a') (h2 : b = b') (h3 : c = c') : Ending.returned (.tuple #[.int k1 a, .int k2 b, .int k3 c]) = Ending.returned (.tuple #[.int k1 a', .int k2 b', .int k3 c']) := by rw [h1, h2, h3]
theorem and127 (x : Int) (h0 : 0 ≤ x) (h1 : x ≤ 255) : bits .and .u8 x 127 = x % 128 := by
  have h : ∀ y : Fin 256, bits .and .u8 (y.val : Int) 127 = (y.val : Int) % 128 := by decide +kernel
  have := h ⟨x.toNat, by omega⟩
  simp only [Int.toNat_of_nonneg h0] at this
  exact this
theorem acc_lt {acc k x : Nat} (h : acc < 128 ^ k) (hx : x ≤ 127) : acc + x * 128 ^ k < 128 ^ (k + 1) := by
  have h1 : x * 128 ^ k ≤ 127 * 128 ^ k := Nat.mul_le_mul_right _ hx
  rw [Nat.pow_succ]; omega
/-- The number gets seven bits more. -/
theorem or_step (acc k : Nat) (x : Int) (h0 : 0 ≤ x) (h1 : x ≤ 255) (hacc : acc < 128 ^ k) (hk : k ≤ 9) (h9 : k = 9 → x ≤ 1) :
    bits .or .u64 (acc : Int) (IntKind.u64.wrap (IntKind.u64.wrap (bits .and .u8 x 127) * 2 ^ (7 * k))) = ((acc + (x.toNat % 128) * 128 ^ k : Nat) : Int) := by
  rw [and127 x h0 h1]
  obtain ⟨y, rfl⟩ := Int.eq_ofNat_of_zero_le h0
  have e1 : IntKind.u64.wrap ((y : Int) % 128) = ((y % 128 : Nat) : Int) := by rw [IntKind.wrap_u64]; omega
  have hp : (2 : Nat) ^ (7 * k) = 128 ^ k := by rw [Nat.pow_mul]
  have hb : (y % 128) * 128 ^ k < 18446744073709551616 := by
    by_cases e : k = 9
    · subst e
      have hp9 : (128 : Nat) ^ 9 = 9223372036854775808 := by decide
      rw [hp9]
      have : y % 128 ≤ 1 := by have := h9 rfl; omega
      have := Nat.mul_le_mul_right 9223372036854775808 this
      omega
    · have h2 : 128 ^ (k + 1) ≤ 128 ^ 9 := Nat.pow_le_pow_right (by omega) (by omega)
      have hp9 : (128 : Nat) ^ 9 = 9223372036854775808 := by decide
      have h3 : (y % 128) * 128 ^ k ≤ 127 * 128 ^ k := Nat.mul_le_mul_right _ (by omega)
      rw [hp9, Nat.pow_succ] at h2
      omega
  have hpz : (2 : Int) ^ (7 * k) = ((128 ^ k : Nat) : Int) := by
    have : ((2 ^ (7 * k) : Nat) : Int) = ((128 ^ k : Nat) : Int) := by rw [hp]
    rw [← this, Int.natCast_pow]; rfl
  rw [e1, hpz, Int.toNat_natCast, ← Int.natCast_mul]
  have e2 : IntKind.u64.wrap (((y % 128 * 128 ^ k : Nat)) : Int) = ((y % 128 * 128 ^ k : Nat) : Int) := by rw [IntKind.wrap_u64]; omega
  rw [e2]
  have ha : acc < 18446744073709551616 := by
    have h2 : 128 ^ k ≤ 128 ^ 9 := Nat.pow_le_pow_right (by omega) hk
    have hp9 : (128 : Nat) ^ 9 = 9223372036854775808 := by decide
    omega
  have := bits_or_u64_nat acc (y % 128 * 128 ^ k) ha hb
  rw [this]
  congr 1
  rw [Nat.mul_comm, ← hp, Nat.or_comm, ← Nat.two_pow_add_eq_or_of_lt (by rw [hp]; exact hacc), Nat.add_comm]
/-- What Get comes to. -/
def Got (w : World) (l : List UInt8) (at_ : Int) (e : Ending) (w' : World) : Prop := e = .returned (.tuple #[.int .u64 (gN l at_), .int .i64 (gTo l at_), .int .i64 (gE l at_)]) ∧ w = w'

set_option maxRecDepth 100000 in
set_option maxHeartbeats 1600000 in
theorem get_in (A : Option Addr) (n c B a : Nat) (l : List UInt8) (w : World) (hr : Rd w B A n l) (hn : n ≤ 100000000000) (hnc : n ≤ c) (ha : a < n) :
    Calls Tryd.prog 116 #[.slice A n c, .int .i64 a] w (Got w l a) := by
  obtain ⟨b, off, rfl, hB, hcells⟩ := hr.cells (by omega)
  have hln := Lib.hid hr.len
  have Hcells := Lib.hid hcells
  have hca : ¬ c = a := by omega
  clear hcells
  go_enter Tryd.func116, Tryd.ntmps116
  go_wp2
  go_step3
  go_wp2
  go_step3
  go_wp2
  go_loop [7, 8, 23] (fun v e i => ∃ (k acc : Nat), a + k ≤ n ∧ k ≤ 9 ∧ acc < 128 ^ k ∧ i = .int .i64 k ∧ v = .int .u64 acc ∧ e = .int .i64 10 ∧ getF (l.drop (a + k)) k acc = getF (l.drop a) 0 0) (fun _ _ i => n - (intOf i).toNat)
  case atStart => exact ⟨0, 0, by omega, by omega, by simp, rfl, rfl, rfl, rfl⟩
  case round =>
    obtain ⟨k, acc, hkn, hk9, hacc, rfl, rfl, rfl, hg⟩ := hrel
    have Hg := Lib.hid hg
    have Hacc := Lib.hid hacc
    have hal : Hid (a ≤ l.length) := Lib.hid (by rw [hln.out]; omega)
    clear hg hacc
    by_cases hlt : a + k < n
    · have hc : w.cell? ⟨b, off + a + k, none⟩ = some (.int .u8 (at8 l (a + k))) := by rw [Nat.add_assoc]; exact Hcells.out (a + k) hlt
      have h0 := at8_lo l (a + k)
      have h1 := at8_hi l (a + k)
      have hst := Lib.hid (getF_step l a k acc (by rw [hln.out]; exact hlt))
      by_cases h9 : k = 9
      · have hb9 : ((k : Int) == 9) = true := by simp; omega
        have hk0 : (0 : Int) < k := by omega
        by_cases hc1 : 1 < at8 l (a + k)
        · have F := Lib.hid (g_fail hal.out (by decide) (show getF (l.drop a) 0 0 = (0, 0, 11) by rw [← Hg.out, hst.out, if_pos (.inl ⟨h9, hc1⟩)]))
          clear h9
          go_wp2
          go_ret3
          exact ⟨ret3 F.out.2.1.symm F.out.2.2.symm F.out.1.symm, rfl⟩
        · have hd1 : decide (1 < at8 l (a + k)) = false := by simp; omega
          by_cases hz : at8 l (a + k) = 0
          · have hbz : (at8 l (a + k) == 0) = true := by simp [hz]
            have F := Lib.hid (g_fail hal.out (by decide) (show getF (l.drop a) 0 0 = (0, 0, 11) by rw [← Hg.out, hst.out, if_pos (.inr ⟨hz, by omega⟩)]))
            clear h9 hz
            go_wp2
            go_ret3
            exact ⟨ret3 F.out.2.1.symm F.out.2.2.symm F.out.1.symm, rfl⟩
          · have hbz : (at8 l (a + k) == 0) = false := by simp [hz]
            have hv := or_step acc k (at8 l (a + k)) h0 h1 Hacc.out hk9 (by omega)
            have F := Lib.hid (g_done hal.out (show getF (l.drop a) 0 0 = (acc + (at8 l (a + k)).toNat * 128 ^ k, k + 1, 0) by rw [← Hg.out, hst.out, if_neg (by omega), if_pos (by omega)]))
            rw [show (at8 l (a + k)).toNat % 128 = (at8 l (a + k)).toNat by omega] at hv
            have Hv := Lib.hid hv
            have hlt8 : at8 l (a + k) < 128 := by omega
            clear hv hz h9
            go_wp2
            go_ret3
            exact ⟨ret3 (by rw [Hv.out]; exact F.out.2.1.symm) (by rw [F.out.2.2]; omega) F.out.1.symm, rfl⟩
      · have hb9 : ((k : Int) == 9) = false := by simp; omega
        by_cases hz : at8 l (a + k) = 0
        · have hbz : (at8 l (a + k) == 0) = true := by simp [hz]
          by_cases hk0 : 0 < k
          · have hk0' : (0 : Int) < k := by omega
            have F := Lib.hid (g_fail hal.out (by decide) (show getF (l.drop a) 0 0 = (0, 0, 11) by rw [← Hg.out, hst.out, if_pos (.inr ⟨hz, by omega⟩)]))
            clear h9 hz
            go_wp2
            go_ret3
            exact ⟨ret3 F.out.2.1.symm F.out.2.2.symm F.out.1.symm, rfl⟩
          · have hk0' : decide ((0 : Int) < k) = false := by simp; omega
            have hv := or_step acc k (at8 l (a + k)) h0 h1 Hacc.out hk9 (by omega)
            have F := Lib.hid (g_done hal.out (show getF (l.drop a) 0 0 = (acc + (at8 l (a + k)).toNat * 128 ^ k, k + 1, 0) by rw [← Hg.out, hst.out, if_neg (by omega), if_pos (by omega)]))
            rw [show (at8 l (a + k)).toNat % 128 = (at8 l (a + k)).toNat by omega] at hv
            have Hv := Lib.hid hv
            have hlt8 : at8 l (a + k) < 128 := by omega
            clear hv hz h9
            go_wp2
            go_ret3
            exact ⟨ret3 (by rw [Hv.out]; exact F.out.2.1.symm) (by rw [F.out.2.2]; omega) F.out.1.symm, rfl⟩
        · have hbz : (at8 l (a + k) == 0) = false := by simp [hz]
          by_cases hs : at8 l (a + k) < 128
          · have hv := or_step acc k (at8 l (a + k)) h0 h1 Hacc.out hk9 (by omega)
            have F := Lib.hid (g_done hal.out (show getF (l.drop a) 0 0 = (acc + (at8 l (a + k)).toNat * 128 ^ k, k + 1, 0) by rw [← Hg.out, hst.out, if_neg (by omega), if_pos (by omega)]))
            rw [show (at8 l (a + k)).toNat % 128 = (at8 l (a + k)).toNat by omega] at hv
            have Hv := Lib.hid hv
            clear hv hz h9
            go_wp2
            go_ret3
            exact ⟨ret3 (by rw [Hv.out]; exact F.out.2.1.symm) (by rw [F.out.2.2]; omega) F.out.1.symm, rfl⟩
          · have hv := or_step acc k (at8 l (a + k)) h0 h1 Hacc.out hk9 (by omega)
            rw [show (at8 l (a + k)).toNat % 128 = (at8 l (a + k)).toNat - 128 by omega] at hv
            have Hv := Lib.hid hv
            have F := Lib.hid (show getF (l.drop (a + (k + 1))) (k + 1) (acc + ((at8 l (a + k)).toNat - 128) * 128 ^ k) = getF (l.drop a) 0 0 by rw [← Hg.out, hst.out, if_neg (by omega), if_neg (by omega)])
            have Hb := Lib.hid (acc_lt (x := (at8 l (a + k)).toNat - 128) Hacc.out (by omega))
            clear hv hz
            go_wp2
            go_round
            case rel => exact ⟨k + 1, _, by omega, by omega, Hb.out, by go_num, by rw [Hv.out], rfl, F.out⟩
            case measure => simp [intOf]; omega
    · have F := Lib.hid (g_fail hal.out (by decide) (show getF (l.drop a) 0 0 = (0, 0, 10) by rw [← Hg.out, getF_end l a k acc (by rw [hln.out]; omega)]))
      go_wp2
      go_ret3
      exact ⟨ret3 F.out.2.1.symm F.out.2.2.symm F.out.1.symm, rfl⟩

set_option maxRecDepth 100000 in
set_option maxHeartbeats 1600000 in
theorem get_end (A : Option Addr) (n c B : Nat) (l : List UInt8) (w : World) (hr : Rd w B A n l) :
    Calls Tryd.prog 116 #[.slice A n c, .int .i64 n] w (Got w l n) := by
  have F := Lib.hid (g_fail (l := l) (a := n) (x := 10) (by rw [hr.len]; exact Nat.le_refl _) (by decide) (by rw [List.drop_eq_nil_of_le (by rw [hr.len]; exact Nat.le_refl _)]; rfl))
  go_enter Tryd.func116, Tryd.ntmps116
  go_wp2
  go_step3
  go_wp2
  go_step3
  go_wp2
  all_goals
    refine wp_loop_rounds 1 ?_
    rw [rounds_succ]
    go_wp2
    go_ret3
    exact ⟨ret3 F.out.2.1.symm F.out.2.2.symm F.out.1.symm, rfl⟩

set_option maxRecDepth 100000 in
set_option maxHeartbeats 1600000 in
theorem get_any (A : Option Addr) (n c B : Nat) (at_ : Int) (l : List UInt8) (w : World) (hr : Rd w B A n l) (hn : n ≤ 100000000000) (hnc : n ≤ c) :
    Calls Tryd.prog 116 #[.slice A n c, .int .i64 at_] w (Got w l at_) := by
  by_cases ho : at_ < 0
  · have F := Lib.hid (g_out (l := l) (.inl ho))
    go_enter Tryd.func116, Tryd.ntmps116
    go_wp2
    go_step3
    go_wp2
    try rw [Exit.noGoto_ret]
    go_ret3
    exact ⟨ret3 F.out.2.1.symm F.out.2.2.symm F.out.1.symm, rfl⟩
  · by_cases hp : (n : Int) < at_
    · have F := Lib.hid (g_out (l := l) (a := at_) (.inr (by rw [hr.len]; exact hp)))
      go_enter Tryd.func116, Tryd.ntmps116
      go_wp2
      go_step3
      go_wp2
      try rw [Exit.noGoto_ret]
      go_ret3
      exact ⟨ret3 F.out.2.1.symm F.out.2.2.symm F.out.1.symm, rfl⟩
    · obtain ⟨a, rfl⟩ := Int.eq_ofNat_of_zero_le (show 0 ≤ at_ by omega)
      by_cases he : a = n
      · subst he
        exact get_end A a c B l w hr
      · exact get_in A n c B a l w hr hn hnc (by omega)

end Go.Proofs.YtojjfkbffjkojaaDoor
namespace Go.Proofs.YtojjfkbffjkojaaDoor
open Go.RowKit

theorem g_to {l : List UInt8} {a : Int} (h : gE l a = 0) : ∃ T : Nat, gTo l a = (T : Int) ∧ T ≤ l.length := by
  obtain ⟨x, t, _, _, _, hT, _, hle, _, _⟩ := g_ok h
  exact ⟨x + t, hT, hle⟩
theorem ret_sie {A A' : Option Addr} {n n' c c' : Nat} {x y x' y' : Int} (h : Value.slice A n c = Value.slice A' n' c') (h1 : x = x') (h2 : y = y') :
    Ending.returned (.tuple #[.slice A n c, .int .i64 x, .int .i64 y]) = Ending.returned (.tuple #[.slice A' n' c', .int .i64 x', .int .i64 y']) := by rw [h, h1, h2]
/-- What GetBytes comes to. -/
def GotBytes (w : World) (l : List UInt8) (at_ : Int) (e : Ending) (w' : World) : Prop :=
  ∃ A' n' c', e = .returned (.tuple #[.slice A' n' c', .int .i64 (gbTo l at_), .int .i64 (gbE l at_)]) ∧ Own w' w.heap.size A' n' c' (gbL l at_) ∧ Below w.heap.size w w'
theorem gotBytes_none {w w' : World} {l : List UInt8} {a : Int} {x : Int} (h : gbE l a = x ∧ gbL l a = [] ∧ gbTo l a = 0) (hb : Below w.heap.size w w') : GotBytes w l a (.returned (.tuple #[.slice none 0 0, .int .i64 0, .int .i64 x])) w' :=
  ⟨none, 0, 0, by rw [h.1, h.2.2], by rw [h.2.1]; exact Own.nil_ _ _, hb⟩

set_option maxRecDepth 100000 in
set_option maxHeartbeats 1600000 in
theorem getBytes_any (A : Option Addr) (n c : Nat) (at_ : Int) (l : List UInt8) (w : World) (hr : Rd w w.heap.size A n l) (hn : n ≤ 100000000000) (hnc : n ≤ c) :
    Calls Tryd.prog 106 #[.slice A n c, .int .i64 at_] w (GotBytes w l at_) := by
  have hln := Lib.hid hr.len
  rcases gb_cases l at_ with h | ⟨h, k⟩ | ⟨h, k, m⟩ | ⟨h, k, m⟩
  · have F := Lib.hid (gb_err1 h)
    have hne : (gE l at_ != 0) = true := by simp [h]
    clear h
    go_enter Tryd.func106, Tryd.ntmps106
    go_wp2_with fail
    refine (get_any _ _ _ _ _ _ _ hr hn hnc).mono ?_
    rintro e w' ⟨rfl, rfl⟩
    go_wp2_with fail
    go_ret3
    exact gotBytes_none F.out (Below.refl _ _)
  · have F := Lib.hid (gb_err2 h k)
    have H := Lib.hid h
    clear h
    go_enter Tryd.func106, Tryd.ntmps106
    go_wp2_with fail
    refine (get_any _ _ _ _ _ _ _ hr hn hnc).mono ?_
    rintro e w' ⟨rfl, rfl⟩
    rw [H.out]
    go_wp2_with fail
    go_ret3
    exact gotBytes_none F.out (Below.refl _ _)
  · have F := Lib.hid (gb_err3 h k m)
    have H := Lib.hid h
    obtain ⟨T, hT, hle⟩ := g_to h
    have h0 := gN_nonneg l at_
    rw [hln.out] at m hle
    rw [hT] at m
    have HT := Lib.hid hT
    have hw : IntKind.u64.wrap ((n : Int) - (T : Int)) = (n : Int) - (T : Int) := IntWalk.u64_in _ (by omega)
    clear h hT
    go_enter Tryd.func106, Tryd.ntmps106
    go_wp2_with fail
    refine (get_any _ _ _ _ _ _ _ hr hn hnc).mono ?_
    rintro e w' ⟨rfl, rfl⟩
    rw [H.out, HT.out]
    go_wp2_with fail
    go_ret3
    exact gotBytes_none F.out (Below.refl _ _)
  · have F := Lib.hid (gb_ok h k m)
    have H := Lib.hid h
    obtain ⟨T, hT, hle⟩ := g_to h
    obtain ⟨N, hN⟩ := Int.eq_ofNat_of_zero_le (gN_nonneg l at_)
    rw [hln.out] at m hle
    rw [hT, hN] at m
    rw [hN] at k
    have HT := Lib.hid hT
    have HN := Lib.hid hN
    have hw : IntKind.u64.wrap ((n : Int) - (T : Int)) = (n : Int) - (T : Int) := IntWalk.u64_in _ (by omega)
    have hTn : T + N ≤ n := by omega
    have hNb : N ≤ 1048576 := by omega
    have eN : T + N - T = N := by omega
    have hcut : Rd w w.heap.size (if c = T then A else A.map (·.add T)) (T + N - T) ((l.drop T).take N) := by rw [eN]; exact hr.mid (i := T) (j := N) (c := c) hTn hnc
    have EN := Lib.hid eN
    clear eN
    clear h hT hN k m
    go_enter Tryd.func106, Tryd.ntmps106
    go_wp2_with fail
    refine (get_any _ _ _ _ _ _ _ hr hn hnc).mono ?_
    rintro e w' ⟨rfl, rfl⟩
    rw [H.out, HT.out, HN.out]
    go_wp2_with (at_builtin; refine wpList_app rfl _ _ rfl rfl (Own.nil_ w w.heap.size) rfl hcut (by omega) (Nat.le_refl _) ?_; intro A2 c2 w2 o2 g2)
    all_goals
      have b2 := below_nil rfl g2
      go_ret3
      refine ⟨A2, N, c2, ret_sie rfl (by rw [F.out.2.2, HT.out, HN.out]) F.out.1.symm, ?_, b2⟩
      rw [F.out.2.1, HT.out, HN.out, Int.toNat_natCast, Int.toNat_natCast]
      rw [Nat.zero_add, EN.out] at o2
      exact o2

end Go.Proofs.YtojjfkbffjkojaaDoor
namespace Go.Proofs.YtojjfkbffjkojaaDoor
open Go.RowKit

/-- The digits to the base 128. -/
def digF : Nat → Nat → List UInt8
  | 0, _ => []
  | f + 1, n => if n < 128 then [b8 (n : Int)] else b8 ((n % 128 : Nat) : Int) :: digF f (n / 128)
def digN (n : Nat) : List UInt8 := digF (n + 1) n
theorem digF_any : ∀ (f g n : Nat), n < f → n < g → digF f n = digF g n
  | f + 1, g + 1, n, hf, hg => by
    unfold digF
    by_cases h : n < 128
    · rw [if_pos h, if_pos h]
    · rw [if_neg h, if_neg h, digF_any f g (n / 128) (by omega) (by omega)]
theorem digN_lt {n : Nat} (h : n < 128) : digN n = [b8 (n : Int)] := by unfold digN digF; rw [if_pos h]
theorem digN_ge {n : Nat} (h : ¬ n < 128) : digN n = b8 ((n % 128 : Nat) : Int) :: digN (n / 128) := by
  unfold digN; rw [digF, if_neg h, digF_any n (n / 128 + 1) (n / 128) (by omega) (by omega)]
/-- What digits are still to come. -/
def digT (n : Nat) : List UInt8 := if n = 0 then [] else digN n
theorem digN_T (n : Nat) : digN n = b8 ((n % 128 : Nat) : Int) :: digT (n / 128) := by
  by_cases h : n < 128
  · rw [digN_lt h, show n / 128 = 0 by omega, show n % 128 = n by omega]; rfl
  · rw [digN_ge h]; unfold digT; rw [if_neg (by omega)]
theorem at8_cons_succ (c : UInt8) (l : List UInt8) (k : Nat) : at8 (c :: l) (k + 1) = at8 l k := rfl
theorem at8_b8_0 (x : Nat) (l : List UInt8) (h : x < 256) : at8 (b8 (x : Int) :: l) 0 = x := by
  show (((b8 (x : Int)).toNat : Nat) : Int) = x
  unfold b8; rw [UInt8.toNat_ofNat']; omega
theorem dig_put : ∀ (f n : Nat), n < f → (digN n).length = (putN n).length ∧ ∀ k, (k + 1 < (putN n).length → at8 (putN n) k = at8 (digN n) k + 128 ∧ at8 (digN n) k < 128) ∧ (k + 1 = (putN n).length → at8 (putN n) k = at8 (digN n) k)
  | f + 1, n, hf => by
    by_cases h : n < 128
    · rw [digN_lt h, putN_lt h]
      exact ⟨rfl, fun k => ⟨fun hk => by simp at hk, fun _ => rfl⟩⟩
    · obtain ⟨h1, h2⟩ := dig_put f (n / 128) (by omega)
      rw [digN_ge h, putN_ge h]
      refine ⟨by simp [h1], fun k => ?_⟩
      rcases k with _ | k
      · refine ⟨fun _ => ?_, fun hk => ?_⟩
        · have e1 := at8_b8_0 (n % 128) (digN (n / 128)) (by omega)
          have e2 := at8_b8_0 (n % 128 + 128) (putN (n / 128)) (by omega)
          rw [e1, e2]
          refine ⟨by omega, by omega⟩
        · have := putN_pos (n / 128); rw [List.length_cons] at hk; omega
      · rw [at8_cons_succ, at8_cons_succ, List.length_cons]
        exact ⟨fun hk => (h2 k).1 (by omega), fun hk => (h2 k).2 (by omega)⟩
theorem ext8 {l m : List UInt8} (h : l.length = m.length) (k : ∀ j, j < l.length → at8 l j = at8 m j) : l = m := by
  apply List.ext_getElem h
  intro i h1 h2
  have := k i h1
  rw [at8_of l i h1, at8_of m i h2] at this
  exact UInt8.toNat_inj.1 (by omega)
theorem at8_set (l : List UInt8) (k j : Nat) (x : Int) (hk : k < l.length) (h0 : 0 ≤ x) (h1 : x ≤ 255) : at8 (l.set k (b8 x)) j = if j = k then x else at8 l j := by
  by_cases h : j = k
  · subst h
    rw [if_pos rfl, at8_of _ _ (by simpa using hk)]
    simp only [List.getElem_set_self]
    unfold b8; rw [UInt8.toNat_ofNat']; omega
  · rw [if_neg h]
    unfold at8
    rw [List.getD_eq_getElem?_getD, List.getD_eq_getElem?_getD, List.getElem?_set_ne (by omega)]
theorem own_some {w : World} {base n c : Nat} {A : Option Addr} {l : List UInt8} (h : Own w base A n c l) (hn : 0 < n) : ∃ g, A = some ⟨g, 0, none⟩ ∧ base ≤ g := by
  obtain ⟨g, cap, hv, hb, _⟩ := World.ownsRow.form h hn
  injection hv with hv
  exact ⟨g, hv, hb⟩

set_option maxRecDepth 100000 in
set_option maxHeartbeats 800000 in
theorem refPut_any (n : Nat) (w : World) (hn : n ≤ 18446744073709551615) :
    Calls Tryd.prog 104 #[.int .u64 n] w fun e w' => ∃ A' c', e = .returned (.slice A' (putN n).length c') ∧ Own w' w.heap.size A' (putN n).length c' (putN n) ∧ Below w.heap.size w w' := by
  have hlen := putN_len10 (n := n) (by omega)
  have hdl := (dig_put (n + 1) n (by omega)).1
  have D := Lib.hid (dig_put (n + 1) n (by omega)).2
  rw [← hdl] at hlen
  have Hdl := Lib.hid hdl
  clear hdl
  have hm : IntKind.u8.wrap ((n : Int) % 128) = (n : Int) % 128 := IntWalk.u8_in _ (by omega)
  go_enter Tryd.func104, Tryd.ntmps104
  go_wp2
  go_loopw [0, 3] (fun i v wr => ∃ (x : Nat) (o : List UInt8) (k : Nat) (A' : Option Addr) (c' : Nat), x ≤ 18446744073709551615 ∧ i = .int .u64 x ∧ v = .slice A' k c' ∧ Own wr w.heap.size A' k c' o ∧ o ++ digT x = digN n ∧ Below w.heap.size w wr) (fun i _ _ => (intOf i).toNat)
  case atStart =>
    refine ⟨n / 128, [b8 ((n : Int) % 128)], 1, _, 1, by omega, by go_num, rfl, Own.lit1 w w.heap.size (Nat.le_refl _) _ (by omega), ?_, (Below.refl _ _).alloc (Nat.le_refl _) _⟩
    rw [digN_T n]; rfl
  case round =>
    obtain ⟨x, o, k, A', c', hxb, rfl, rfl, hown, hx, hb⟩ := hrel
    have hk : k ≤ 10 := by
      have h1 := congrArg List.length hx
      rw [List.length_append, hown.len] at h1
      omega
    have Hx := Lib.hid hx
    clear hx
    by_cases h0 : x = 0
    · subst h0
      have ho : o = digN n := by have := Hx.out; simpa [digT] using this
      subst ho
      have hkk : k = (digN n).length := hown.len.symm
      subst hkk
      have hpos := putN_pos n
      rw [← Hdl.out] at hpos
      obtain ⟨g, rfl, hg⟩ := own_some hown (by omega)
      go_wp2
      go_loopw [4] (fun i wr' => ∃ (k : Nat) (L : List UInt8), k + 1 ≤ (digN n).length ∧ i = .int .i64 k ∧ Own wr' w.heap.size (some ⟨g, 0, none⟩) (digN n).length c' L ∧ (∀ j, at8 L j = if j < k then at8 (putN n) j else at8 (digN n) j) ∧ Below w.heap.size w wr') (fun i _ => (digN n).length - (intOf i).toNat)
      case atStart => exact ⟨0, digN n, by omega, rfl, hown, fun j => by rw [if_neg (by omega)], hb⟩
      case round =>
        clear hown hb
        obtain ⟨k, L, hkm, rfl, hown, hat, hb⟩ := hrel
        have Hat := Lib.hid hat
        clear hat
        by_cases hlt : k + 1 < (digN n).length
        · have hc := hown.cell (j := k) (by omega)
          have hf := hown.free k
          have hd := ((D.out k).1 (by rw [← Hdl.out]; exact hlt))
          have h0 := at8_lo L k
          have hv : at8 L k < 128 := by have := Hat.out k; rw [if_neg (Nat.lt_irrefl k)] at this; rw [this]; exact hd.2
          have Hs := Lib.hid (hown.set (j := k) (x := at8 L k + 128) (by omega) (by omega))
          have Hb := Lib.hid (hb.setCell (p := ⟨g, k, none⟩) hg (.int .u8 (at8 L k + 128)))
          have Hn := Lib.hid (show ∀ j, at8 (L.set k (b8 (at8 L k + 128))) j = if j < k + 1 then at8 (putN n) j else at8 (digN n) j from fun j => by
            rw [at8_set L k j _ (by rw [hown.len]; omega) (by omega) (by omega)]
            have hk := Hat.out k
            rw [if_neg (Nat.lt_irrefl k)] at hk
            by_cases hj : j = k
            · rw [if_pos hj, if_pos (by omega), hj, hd.1, hk]
            · rw [if_neg hj, Hat.out j]
              by_cases hjk : j < k
              · rw [if_pos hjk, if_pos (by omega)]
              · rw [if_neg hjk, if_neg (by omega)])
          clear hd hb
          go_wp2
          go_roundw
          case rel => exact ⟨k + 1, _, by omega, by go_num, Hs.out, Hn.out, Hb.out⟩
          case measure => simp [intOf]; omega
        · have hL : L = putN n := by
            refine ext8 (by rw [hown.len, Hdl.out]) fun j hj => ?_
            rw [hown.len] at hj
            rw [Hat.out j]
            by_cases hjk : j < k
            · rw [if_pos hjk]
            · rw [if_neg hjk]
              exact ((D.out j).2 (by rw [← Hdl.out]; omega)).symm
          subst hL
          go_wp2
          go_ret
          exact ⟨_, c', ret_slice Hdl.out, by rw [← Hdl.out]; exact hown, hb⟩
    · have hp := Lib.hid (digN_T x)
      have hT := Lib.hid (show digT x = digN x by unfold digT; rw [if_neg h0])
      have hm : IntKind.u8.wrap ((x : Int) % 128) = (x : Int) % 128 := IntWalk.u8_in _ (by omega)
      go_wp2_with (at_builtin; refine wpList_app rfl _ _ rfl rfl (hown.alloc _) rfl (Rd.lit1 _ _ (by omega)) (by omega) (by simp; have := hb.size; omega) ?_; intro A2 c2 w2 hown2 hg2)
      have hb2 := below_own (belowA hb _) (hown.alloc _) hg2
      clear hm
      go_roundw
      case rel => exact ⟨x / 128, o ++ [b8 ((x : Int) % 128)], k + 1, A2, c2, by omega, by go_num, rfl, hown2, by rw [List.append_assoc, List.singleton_append, show b8 ((x : Int) % 128) = b8 ((x % 128 : Nat) : Int) from rfl, ← hp.out, ← hT.out]; exact Hx.out, hb2⟩
      case measure => simp [intOf]; omega

set_option maxRecDepth 100000 in
set_option maxHeartbeats 400000 in
theorem refPutBytes_any (A : Option Addr) (n c : Nat) (l : List UInt8) (w : World) (hr : Rd w w.heap.size A n l) (hn : n ≤ 100000000000) :
    Calls Tryd.prog 84 #[.slice A n c] w fun e w' => ∃ A' c', e = .returned (.slice A' ((putN n).length + n) c') ∧ Own w' w.heap.size A' ((putN n).length + n) c' (putB l) ∧ Below w.heap.size w w' := by
  have hln := Lib.hid hr.len
  have hlen := putN_len10 (n := n) (by omega)
  have hw : IntKind.u64.wrap (n : Int) = n := IntWalk.u64_in _ (by omega)
  go_enter Tryd.func84, Tryd.ntmps84
  go_wp2_with fail
  refine (refPut_any n _ (by omega)).mono ?_
  rintro e w1 ⟨A1, c1, rfl, o1, b1⟩
  go_wp2_with (at_builtin; refine wpList_app rfl _ _ rfl rfl o1 rfl (hr.up b1) (by omega) b1.size ?_; intro A2 c2 w2 o2 g2)
  have b2 := below_own b1 o1 g2
  go_ret
  exact ⟨A2, c2, rfl, by unfold putB; rw [hln.out]; exact o2, b2⟩
end Go.Proofs.YtojjfkbffjkojaaDoor
