/- Reference 05: the walks of constants and Sum: SHA-256. Blocks: Hash of the package and of reference 21; sameTx, Same; reference 21: Same. Blocks: Same of the package and of reference 21. Reference 21: Decode. -/
import Derived.Test.YtejbljopighenaaDoorG16
namespace Go.Proofs.YtejbljopighenaaDoor
open Go.RowKit
set_option maxRecDepth 100000 in
set_option maxHeartbeats 2000000 in
theorem r5con_any (w : World) :
    Calls Tryd.prog 57 #[] w fun e w' => ∃ A c, e = .returned (.slice A 64 c) ∧ RdD w' (Fr w w') (dW roots) (.slice A 64 c) ∧ Below w.heap.size w w' := by
  refine calls_ev (args := []) mixed Tryd.func57 rfl (by kernel_rfl) ?_
  have M := St.start (w := w) (gs := []) (by intro b h; cases h)
  refine s_bslice (fr := true) (ds := (roots.map cu).map D.v) (roots.map cu) M slw zw rfl (by decide) rfl (RdL.ofvals _) rfl ?_
  clear M; rintro g W M
  exact ⟨_, 64, rfl, M.finF1 0 rfl, M.below⟩
def tailG (n i : Nat) : List UInt8 := (List.range i).reverse.map fun j => UInt8.ofNat (n / 256 ^ j)
theorem tailF_succ (n i : Nat) : tailG n (i + 1) = UInt8.ofNat (n / 256 ^ i) :: tailG n i := by unfold tailG; rw [List.range_succ, List.reverse_append]; rfl
theorem tailF_len (n i : Nat) : (tailG n i).length = i := by unfold tailG; simp
theorem tailF_8 (n : Nat) : tailG n 8 = [UInt8.ofNat (n >>> 56), UInt8.ofNat (n >>> 48), UInt8.ofNat (n >>> 40), UInt8.ofNat (n >>> 32), UInt8.ofNat (n >>> 24), UInt8.ofNat (n >>> 16), UInt8.ofNat (n >>> 8), UInt8.ofNat n] := by
  simp only [tailF_succ, Nat.shiftRight_eq_div_pow]
  simp [tailG]
theorem out8_flat (h : H8) : out8 h = (h8l h).flatMap put4 := by unfold out8 h8l; simp
theorem put4_vals {x : Nat} (hx : x < 4294967296) : [Value.int .u8 ((x / 16777216 : Nat) : Int), .int .u8 ((x / 65536 % 256 : Nat) : Int), .int .u8 ((x / 256 % 256 : Nat) : Int), .int .u8 ((x % 256 : Nat) : Int)] = bvs (put4 x) := by
  unfold bvs put4 u8v
  simp only [List.map_cons, List.map_nil, Nat.shiftRight_eq_div_pow, UInt8.toNat_ofNat']
  have e : x / 2 ^ 24 % 2 ^ 8 = x / 16777216 := by omega
  rw [e]
theorem h8_ok_lt {h : H8} (hok : h.Ok) : ∀ x ∈ h8l h, x < 4294967296 := by
  intro x hx
  simp only [h8l, List.mem_cons, List.not_mem_nil, or_false] at hx
  rcases hx with rfl | rfl | rfl | rfl | rfl | rfl | rfl | rfl
  · exact hok.a
  · exact hok.b
  · exact hok.c
  · exact hok.d
  · exact hok.e
  · exact hok.f
  · exact hok.g
  · exact hok.h
theorem begin8_ok6 : begin8.Ok := ⟨by decide, by decide, by decide, by decide, by decide, by decide, by decide, by decide⟩
theorem take8_ok {h : H8} (hok : h.Ok) (b : List UInt8) : (take8 h b).Ok := add8_ok _ _
def zerosN (n : Nat) : Nat := (119 - n % 64) % 64
theorem padL_eq (n : Nat) : padL n = (128 : UInt8) :: (List.replicate (zerosN n) (0 : UInt8) ++ tailG (8 * n) 8) := by rw [tailF_8]; rfl
theorem sha_def (b : List UInt8) : sha b = out8 (blocksF begin8 ((b ++ padL b.length).length / 64) (b ++ padL b.length)) := rfl
set_option maxRecDepth 100000 in
set_option maxHeartbeats 2000000 in
theorem r5sum_any (b : List UInt8) (gs : List (Option Nat)) (w : World) (A : Option Addr) (n c : Nat) (hr : RdD w (Fd w gs) (dB b) (.slice A n c)) (hgs : ∀ b, some b ∈ gs → b < w.heap.size) (hb : n ≤ 900000000) :
    Calls Tryd.prog 40 #[.slice A n c] w fun e w' => ∃ A' c', e = .returned (.slice A' 32 c') ∧ Own w' w.heap.size A' 32 c' (sha b) ∧ Below w.heap.size w w' := by
  refine calls_ev (args := [.slice A n c]) mixed Tryd.func40 rfl (by kernel_rfl) ?_
  have en := hr.slen
  have M := (St.start hgs).addD hr
  rw [sha_def]
  obtain ⟨z0, hz0⟩ : ∃ z0, z0 = zerosN n := ⟨_, rfl⟩
  have hz64 : z0 < 64 ∧ (n + 1 + z0) % 64 = 56 := by rw [hz0]; unfold zerosN; omega
  have hpad : padL b.length = (128 : UInt8) :: (List.replicate z0 (0 : UInt8) ++ tailG (8 * n) 8) := by rw [padL_eq, hz0, en]
  obtain ⟨al, hal⟩ : ∃ al, al = b ++ padL b.length := ⟨_, rfl⟩
  have hall : al.length = n + 1 + z0 + 8 := by rw [hal, hpad]; simp only [List.length_append, List.length_cons, List.length_replicate, tailF_len]; omega
  rw [← hal]
  refine ev_assoc (ev_assoc (ev_assoc (ev_assoc ?_)))
  refine cutS (Option Addr × Nat) (fun s W => St w gs W [] [⟨5, 1, s.1, n + 1 + z0, s.2, bvs (b ++ (128 : UInt8) :: List.replicate z0 0)⟩] []) (fun s => [(0, .slice A n c), (3, .slice s.1 (n + 1 + z0) s.2)]) ?_ ?_
  · replace M := M.nilR 5 1
    refine s_appB (l := []) M rfl rfl (M.rdb 0 rfl).2.2 (by omega) ?_
    clear M; rintro A2 c2 W M -
    rw [List.nil_append, Nat.zero_add] at M
    rw [Nat.zero_add]
    refine s_litB [.int .u8 128] [128] M (by decide) rfl rfl rfl ?_
    clear M; rintro g9 W M
    have M1 := M
    replace M := M.frzO
    refine s_appB M rfl rfl (M.rdb 0 rfl).2.2 (by omega) ?_
    clear M M1; rintro A3 c3 W M -
    refine lp (Nat × Option Addr × Nat) (fun s W => s.1 ≤ z0 ∧ St w gs W [] [⟨5, 1, s.2.1, n + 1 + s.1, s.2.2, bvs (b ++ (128 : UInt8) :: List.replicate s.1 0)⟩] []) (fun s => [(0, .slice A n c), (3, .slice s.2.1 (n + 1 + s.1) s.2.2)]) (fun s => z0 - s.1) (0, A3, c3) ⟨Nat.zero_le _, M.fsub _ (by simp)⟩ (by repeat (first | exact trivial | refine ⟨rfl, ?_⟩)) ?_
    clear M
    rintro ⟨k, A4, c4⟩ E5 W5 ⟨hk, M⟩
    dsimp only at hk M
    refine p_len slb rfl ?_
    refine p_remN (b := 64) rfl rfl (by decide) ?_
    refine p_ne rfl rfl (fun h56 => ?_) (fun h56 => ?_)
    · dsimp only at h56
      have : k = z0 := by omega
      subst this
      exact ⟨(A4, c4), M, (by repeat (first | exact trivial | refine ⟨rfl, ?_⟩))⟩
    · dsimp only at h56
      refine s_litB [.int .u8 0] [0] M (by decide) rfl rfl rfl ?_
      clear M; rintro g9 W M
      replace M := M.frzO
      refine s_appB M rfl rfl (M.rdb 0 rfl).2.2 (by omega) ?_
      clear M; rintro A6 c6 W M -
      have e : (b ++ (128 : UInt8) :: List.replicate k 0) ++ [0] = b ++ (128 : UInt8) :: List.replicate (k + 1) 0 := by
        rw [List.replicate_succ']; simp
      rw [e] at M
      exact ⟨(k + 1, A6, c6), ⟨by dsimp only; omega, M.fsub _ (by simp)⟩, (by repeat (first | exact trivial | refine ⟨rfl, ?_⟩)), by dsimp only; omega⟩
  · clear M
    rintro ⟨A4, c4⟩ B5 W5 M
    dsimp only at M
    refine ev_assoc (ev_assoc ?_)
    refine cutS (Option Addr × Nat) (fun s W => St w gs W [] [⟨5, 1, A4, n + 1 + z0, c4, bvs (b ++ (128 : UInt8) :: List.replicate z0 0)⟩] [.dat true [dB (tailG (8 * n) 8)] [.slice s.1 8 s.2]]) (fun s => [(3, .slice A4 (n + 1 + z0) c4), (5, .slice s.1 8 s.2)]) ?_ ?_
    · refine p_len slb rfl ?_
      refine v_cvt dd_int u_u64 rfl (r := ((n : Nat) : Int)) (by rw [IntKind.wrap_u64]; omega) ?_
      refine p_mul rfl rfl (r := ((8 * n : Nat) : Int)) (by rw [IntKind.wrap_u64]; omega) ?_
      obtain ⟨N8, hN8⟩ : ∃ N8, N8 = 8 * n := ⟨_, rfl⟩
      rw [← hN8]
      have hN8b : N8 ≤ 8000000000 := by omega
      replace M := M.addT (fr := true) (ds := [dB []]) (cs := [.slice none 0 0]) (RdL.one (RdD.nil_ _ _))
      refine lp (Nat × Option Addr × Nat) (fun s W => s.1 ≤ 8 ∧ St w gs W [] [⟨5, 1, A4, n + 1 + z0, c4, bvs (b ++ (128 : UInt8) :: List.replicate z0 0)⟩] [.dat true [dB (tailG N8 s.1)] [.slice s.2.1 s.1 s.2.2]]) (fun s => [(3, .slice A4 (n + 1 + z0) c4), (4, .int .u64 ((N8 / 256 ^ s.1 : Nat) : Int)), (5, .slice s.2.1 s.1 s.2.2), (6, .int .i64 s.1)]) (fun s => 8 - s.1) (0, none, 0) ⟨Nat.zero_le _, M⟩ ⟨rfl, (by show Value.int .u64 ((N8 : Nat) : Int) = _; rw [Nat.pow_zero, Nat.div_one]), rfl, rfl, trivial⟩ ?_
      clear M
      rintro ⟨i, A5, c5⟩ E6 W6 ⟨hi, M⟩
      dsimp only at hi M
      refine p_lt rfl rfl (fun hlt => ?_) (fun hge => ?_)
      · dsimp only at hlt
        have hq : N8 / 256 ^ i ≤ N8 := Nat.div_le_self _ _
        have htl := tailF_len N8 i
        have htn := tailF_succ N8 i
        obtain ⟨q, hqq⟩ : ∃ q, q = N8 / 256 ^ i := ⟨_, rfl⟩
        have hq2 : q / 256 = N8 / 256 ^ (i + 1) := by rw [hqq, Nat.div_div_eq_div_mul, Nat.pow_succ]
        rw [← hqq] at hq htn
        have hv4 : (.int .u64 ((N8 / 256 ^ (i, A5, c5).1 : Nat) : Int) : Value) = .int .u64 (q : Int) := by rw [hqq]
        rw [hv4]
        refine p_rem rfl rfl (by decide) (rem32 (x := q) (c := 256)) ?_
        refine v_cvt (by kernel_rfl) u_u8 rfl (r := ((q % 256 : Nat) : Int)) (by rw [IntKind.wrap_u8']; omega) ?_
        refine s_litB [.int .u8 ((q % 256 : Nat) : Int)] [UInt8.ofNat q] M (by decide) rfl (bvs1 q) rfl ?_
        clear M; rintro g9 W M
        refine s_appB M rfl rfl (M.rdb 0 rfl).2.2 (by omega) ?_
        clear M; rintro A6 c6 W M -
        replace M := M.frzO
        rw [List.singleton_append, ← htn, Nat.add_comm 1 i] at M
        refine p_quo rfl rfl (by decide) (r := ((q / 256 : Nat) : Int)) ?_ ?_
        · have e : (q : Int).tdiv 256 = ((q / 256 : Nat) : Int) := by rw [Int.tdiv_eq_ediv_of_nonneg (by omega)]; omega
          rw [e, IntKind.wrap_u64]; omega
        · refine p_addN (b := 1) rfl rfl (by omega) ?_
          refine ⟨(i + 1, A6, c6), ⟨by dsimp only; omega, M.fsub _ (by simp)⟩, ⟨rfl, (by show Value.int .u64 ((q / 256 : Nat) : Int) = _; rw [hq2]), (by show Value.slice A6 (1 + i) c6 = _; rw [Nat.add_comm]), rfl, trivial⟩, by dsimp only; omega⟩
      · dsimp only at hge
        have : i = 8 := by omega
        subst this
        exact ⟨(A5, c5), M, (by repeat (first | exact trivial | refine ⟨rfl, ?_⟩))⟩
    · clear M
      rintro ⟨A5, c5⟩ B6 W6 M
      dsimp only at M
      refine ev_assoc (ev_assoc (ev_assoc ?_))
      refine cutS (Option Addr × Nat × H8) (fun s W => St w gs W [] [] [.dat true [dW (h8l s.2.2)] [.slice s.1 8 s.2.1]] ∧ s.2.2.Ok ∧ blocksF begin8 (al.length / 64) al = s.2.2) (fun s => [(8, .slice s.1 8 s.2.1)]) ?_ ?_
      · refine s_appB M rfl rfl (M.rdb 0 rfl).2.2 (by omega) ?_
        clear M; rintro A7 c7 W M -
        replace M := M.frzO
        have e : (b ++ (128 : UInt8) :: List.replicate z0 0) ++ tailG (8 * n) 8 = al := by rw [hal, hpad]; simp
        rw [e] at M
        refine s_bslice (fr := true) (ds := (hc begin8).map D.v) (hc begin8) M slw zw rfl (by decide) rfl (RdL.ofvals _) rfl ?_
        clear M; rintro g8 W M
        refine cc is_r5con (r5con_any _) ?_
        rintro e W ⟨A9, c9, rfl, h9, hbel⟩
        replace M := M.callF1 hbel h9
        refine ⟨_, rfl, ?_⟩
        have hm64 : al.length = 64 * (al.length / 64) := by omega
        obtain ⟨m, hm⟩ : ∃ m, m = al.length / 64 := ⟨_, rfl⟩
        rw [← hm] at hm64 ⊢
        obtain ⟨BB, hBB⟩ : ∃ BB, BB = blocksF begin8 m al := ⟨_, rfl⟩
        rw [← hBB]
        have hnn : n + 1 + z0 + 8 = al.length := hall.symm
        refine lp (Nat × Option Addr × Nat × H8) (fun s W => s.1 ≤ m ∧ St w gs W [] [] [.dat true [dW (h8l s.2.2.2)] [.slice s.2.1 8 s.2.2.1], .dat true [dB al] [.slice A7 (n + 1 + z0 + 8) c7], .dat true [dW roots] [.slice A9 64 c9]] ∧ s.2.2.2.Ok ∧ BB = blocksF s.2.2.2 (m - s.1) (al.drop (64 * s.1))) (fun s => [(3, .slice A7 (n + 1 + z0 + 8) c7), (8, .slice s.2.1 8 s.2.2.1), (9, .slice A9 64 c9), (10, .int .i64 ((64 * s.1 : Nat) : Int))]) (fun s => m - s.1) (0, some ⟨g8, 0, none⟩, 8, begin8) ⟨Nat.zero_le _, M.fsub _ (by intro f hf; simp only [List.mem_cons, List.not_mem_nil, or_false] at hf ⊢; rcases hf with h | h | h <;> simp only [h, true_or, or_true]; exact .inr (.inl rfl)), begin8_ok6, hBB⟩ (by repeat (first | exact trivial | refine ⟨rfl, ?_⟩)) ?_
        clear M hBB h9
        rintro ⟨j, A5, c5, hh⟩ E7 W7 ⟨hj, M, hok, hBB⟩
        dsimp only at hj M hok hBB
        refine p_len slb rfl ?_
        refine p_lt rfl rfl (fun hlt => ?_) (fun hge => ?_)
        · dsimp only at hlt
          have hjm : j < m := by omega
          refine p_addN (b := 64) rfl rfl (by omega) ?_
          have hcap := (M.d1 1 rfl).scap
          refine p_slice (i := 64 * j) (j := 64 * j + 64) (m := c7) slb rfl (bnd_i rfl) (bnd_i rfl) rfl rfl (by omega) (by omega) (Nat.le_refl _) ?_
          have hcut := (M.d1 1 rfl).cutB (i := 64 * j) (j := 64 * j + 64) (m := c7) (by omega) (by omega) (by omega)
          rw [show 64 * j + 64 - 64 * j = 64 by omega] at hcut ⊢
          refine cc is_r5round (r5round_any hh hok _ _ _ _ _ _ c5 _ c9 (M.d1 0 rfl) hcut (M.d1 2 rfl) M.olt) ?_
          rintro e W ⟨A8, c8, rfl, h8, hbel⟩
          replace M := M.callF1 hbel h8
          refine ⟨_, rfl, ?_⟩
          rw [show m - j = (m - (j + 1)) + 1 by omega] at hBB
          unfold blocksF at hBB
          rw [List.drop_drop] at hBB
          refine p_addN (b := 64) rfl rfl (by omega) ?_
          exact ⟨(j + 1, A8, c8, take8 hh ((al.drop (64 * j)).take 64)), ⟨by dsimp only; omega, M.fsub _ (by intro f hf; simp only [List.mem_cons, List.not_mem_nil, or_false] at hf ⊢; rcases hf with h | h | h <;> simp only [h, true_or, or_true]), take8_ok hok _, by dsimp only; rw [Nat.mul_add, Nat.mul_one]; exact hBB⟩, ⟨rfl, rfl, rfl, (by show Value.int .i64 ((64 * j + 64 : Nat) : Int) = _; rw [Nat.mul_add, Nat.mul_one]), trivial⟩, by dsimp only; omega⟩
        · dsimp only at hge
          have : j = m := by omega
          subst this
          rw [Nat.sub_self] at hBB
          unfold blocksF at hBB
          exact ⟨(A5, c5, hh), ⟨M.fsub _ (by simp), hok, hBB⟩, (by repeat (first | exact trivial | refine ⟨rfl, ?_⟩))⟩
      · clear M
        rintro ⟨A5, c5, hh⟩ B7 W7 ⟨M, hok, hBB⟩
        dsimp only at M hok hBB
        rw [hBB, out8_flat]
        have hlt := h8_ok_lt hok
        obtain ⟨b1, o1, rfl, F1, hcw⟩ := dW_open (M.d1 0 rfl) (by decide)
        replace M := (M.addC (a := ⟨b1, o1, none⟩) F1 hcw).fsub [.loc ⟨b1, o1, none⟩ ((h8l hh).map cu)] (by simp)
        replace M := M.nilR 5 1
        refine lp (Nat × Option Addr × Nat) (fun s W => s.1 ≤ 8 ∧ St w gs W [] [⟨5, 1, s.2.1, 4 * s.1, s.2.2, bvs (((h8l hh).take s.1).flatMap put4)⟩] [.loc ⟨b1, o1, none⟩ ((h8l hh).map cu)]) (fun s => [(8, .slice (some ⟨b1, o1, none⟩) 8 c5), (11, .slice s.2.1 (4 * s.1) s.2.2), (12, .int .i64 s.1)]) (fun s => 8 - s.1) (0, none, 0) ⟨Nat.zero_le _, M⟩ (by repeat (first | exact trivial | refine ⟨rfl, ?_⟩)) ?_
        clear M
        rintro ⟨i, A6, c6⟩ E8 W8 ⟨hi, M⟩
        dsimp only at hi M
        refine p_lt rfl rfl (fun hlt2 => ?_) (fun hge => ?_)
        · dsimp only at hlt2
          have hi8 : i < 8 := by omega
          have hi8' : i < (h8l hh).length := hi8
          have hx := hlt _ (List.getElem_mem hi8')
          have hxe : (h8l hh).getD i 0 = (h8l hh)[i] := by rw [List.getD_eq_getElem?_getD, List.getElem?_eq_getElem hi8']; rfl
          obtain ⟨x, hxx⟩ : ∃ x, x = (h8l hh).getD i 0 := ⟨_, rfl⟩
          have hcx : ((h8l hh).map cu)[i * 1]? = some (.int .u32 (x : Nat)) := by rw [hxx]; exact cu_at hi8'
          rw [← hxe, ← hxx] at hx
          replace M := M.drew
          refine drT (Kp w gs [] [.loc ⟨b1, o1, none⟩ ((h8l hh).map cu)]) (.take 0 (.take 1 (.take 2 (.take 3 (.take 4 (.take 5 (.take 6 (.take 7 (.take 8 (.take 9 (.take 10 (.take 11 (.take 12 (.take 13 (.take 14 (.take 15 (.take 16 (.take 17 (.take 18 (.take 19 (.take 20 (.take 21 (.take 22 (.take 23 (.take 24 (.take 25 (.take 26 (.one 27 (.one 28 (.take 29 (.nil))))))))))))))))))))))))))))))) (by kernel_rfl) (M.kp (by simp) (by simp)) ?_
          have hq : ∀ c, x / c < 4294967296 := fun c => Nat.lt_of_le_of_lt (Nat.div_le_self _ _) hx
          refine p_at (i := i) slw rfl rfl rfl hi8 ?_
          refine t_load agg_u32 rfl (fun W K => K.lc 0 rfl (i * 1) _ hcx) ?_
          refine p_quo rfl rfl (by decide) (quo32 (c := 16777216) hx (by decide)) ?_
          refine t_cvt (by kernel_rfl) u_u8 rfl (wu8 (by omega)) ?_
          refine p_at (i := i) slw rfl rfl rfl hi8 ?_
          refine t_load agg_u32 rfl (fun W K => K.lc 0 rfl (i * 1) _ hcx) ?_
          refine p_quo rfl rfl (by decide) (quo32 (c := 65536) hx (by decide)) ?_
          refine p_rem rfl rfl (by decide) (rem32 (c := 256)) ?_
          refine t_cvt (by kernel_rfl) u_u8 rfl (wu8 (by omega)) ?_
          refine p_at (i := i) slw rfl rfl rfl hi8 ?_
          refine t_load agg_u32 rfl (fun W K => K.lc 0 rfl (i * 1) _ hcx) ?_
          refine p_quo rfl rfl (by decide) (quo32 (c := 256) hx (by decide)) ?_
          refine p_rem rfl rfl (by decide) (rem32 (c := 256)) ?_
          refine t_cvt (by kernel_rfl) u_u8 rfl (wu8 (by omega)) ?_
          refine p_at (i := i) slw rfl rfl rfl hi8 ?_
          refine t_load agg_u32 rfl (fun W K => K.lc 0 rfl (i * 1) _ hcx) ?_
          refine p_rem rfl rfl (by decide) (rem32 (c := 256)) ?_
          refine t_cvt (by kernel_rfl) u_u8 rfl (wu8 (by omega)) ?_
          refine s_litB [Value.int .u8 ((x / 16777216 : Nat) : Int), .int .u8 ((x / 65536 % 256 : Nat) : Int), .int .u8 ((x / 256 % 256 : Nat) : Int), .int .u8 ((x % 256 : Nat) : Int)] (put4 x) M (by decide) rfl (put4_vals hx) rfl ?_
          clear M; rintro g9 W M
          replace M := M.frzO
          refine ⟨(M.kp (by simp) (by simp)), ?_⟩
          refine s_appB M rfl rfl (M.rdb 0 rfl).2.2 (by omega) ?_
          clear M; rintro A7 c7 W M -
          refine ⟨(M.kp (by simp) (by simp)), ?_⟩
          have e : ((h8l hh).take i).flatMap put4 ++ put4 x = ((h8l hh).take (i + 1)).flatMap put4 := by
            rw [List.take_succ_eq_append_getElem hi8', List.flatMap_append, ← hxe, ← hxx]; simp
          rw [e, show 4 * i + 4 = 4 * (i + 1) by omega] at M
          refine p_addN (b := 1) rfl rfl (by omega) ?_
          exact ⟨(i + 1, A7, c7), ⟨by dsimp only; omega, M.fsub _ (by simp)⟩, ⟨rfl, (by show Value.slice A7 (4 * i + 4) c7 = _; rw [Nat.mul_add]), rfl, trivial⟩, by dsimp only; omega⟩
        · dsimp only at hge
          have : i = 8 := by omega
          subst this
          rw [List.take_of_length_le (by exact Nat.le_refl 8)] at M
          exact ⟨A6, c6, rfl, M.row _ (List.mem_cons_self ..), M.below⟩
end Go.Proofs.YtejbljopighenaaDoor
namespace Go.Proofs.YtejbljopighenaaDoor
open Go.RowKit
theorem is_dgsumB : isFn Tryd.prog 39 = true := by kernel_rfl
theorem is_r5sumB : isFn Tryd.prog 40 = true := by kernel_rfl
theorem is_stx : isFn Tryd.prog 42 = true := by kernel_rfl
theorem St.glB {w W : World} {gs : List (Option Nat)} {L : Lc} {R : List Row} {fs : List Fact} (M : St w gs W L R fs) (hG : GL w gs) : GL W (own L R gs) := hG.up ⟨M.size, fun b h _ => M.below.block b h, fun b hlt e => by
  unfold own at e
  rcases List.mem_append.1 e with e | e
  · obtain ⟨y, hy, he⟩ := List.mem_map.1 e
    injection he with he
    have := (M.blk y hy).2; omega
  rcases List.mem_append.1 e with e | e
  · obtain ⟨r, hr, he⟩ := List.mem_map.1 e
    have := (row_bklo (M.row r hr) b he).1; omega
  · exact e⟩
def hashBk (b : Bk) : List UInt8 := if (encBk b).2 = 0 then sha (blockB b) else []
theorem encBk_full {b : Bk} (h : (encBk b).2 = 0) : encBk b = (blockB b, 0) := by
  unfold encBk at h ⊢
  split at h
  · next h1 =>
    split at h
    · exact absurd h (by decide)
    · next h2 => rw [if_pos h1, if_neg h2]
  · exact absurd h (by decide)
set_option maxRecDepth 100000 in
set_option maxHeartbeats 2000000 in
theorem bHash_any (b : Bk) (gs : List (Option Nat)) (w : World) (cs : List Value) (hG : GL w gs) (hr : RdL w (Fd w gs) (dBk b) cs) (hgs : ∀ b, some b ∈ gs → b < w.heap.size) (hf : FitsB b) :
    Calls Tryd.prog 16 #[.agg cs.toArray] w fun e w' => ∃ A n c, e = .returned (.slice A n c) ∧ Own w' w.heap.size A n c (hashBk b) ∧ (A = none ↔ (encBk b).2 ≠ 0) ∧ (A = none → n = 0 ∧ c = 0) ∧ ((encBk b).2 = 0 → n = 32) ∧ Below w.heap.size w w' := by
  refine calls_ev (args := [.agg cs.toArray]) mixed Tryd.func16 rfl (by kernel_rfl) ?_
  obtain ⟨p, rfl, -⟩ := id hr.bk
  have hf2 := hf.2.2
  have M := (St.start hgs).addL hr
  clear hr
  refine s_box (bkcs b p) M rfl ?_
  clear M
  rintro g1 W M
  refine v_loadN (bkcs b p) agg_bk rfl rfl (M.run 0 rfl) ?_
  refine cc is_bEnc (bEnc_any b _ _ _ (M.da 0 rfl) M.olt hf) ?_
  rintro e W ⟨A3, n3, c3, rfl, o3, hb⟩
  have en3 : (encBk b).1.length = n3 := o3.len
  replace M := M.callO hb o3
  clear hb o3
  refine ⟨_, rfl, ?_⟩
  refine p_ne rfl rfl (fun q => ?_) (fun q => ?_)
  rotate_left
  · have q : ¬ (encBk b).2 = 0 := q
    refine ⟨none, 0, 0, rfl, ?_, ⟨fun _ => q, fun _ => rfl⟩, fun _ => ⟨rfl, rfl⟩, fun h => absurd h q, M.below⟩
    unfold hashBk
    rw [if_neg q]; exact World.ownsRow_nil _ _ _ _
  have q : (encBk b).2 = 0 := q
  have hb0 := encBk_full q
  rw [hb0] at M en3
  subst en3
  refine s_bslice (fr := false) (ds := [dB (blockB b)]) [.slice A3 (blockB b).length c3] M sls zls rfl (by decide) rfl (M.dw 0 rfl) rfl ?_
  clear M; rintro g13 W M
  refine cc is_dgsumB (sum_any _ _ 1 1 [blockB b] _ M.olt (M.glB hG) (M.d1 0 rfl) (by rw [List.flatten_cons, List.flatten_nil, List.append_nil]; omega) (by decide)) ?_
  rintro e W ⟨A14, c14, rfl, o14, hb⟩
  have e14 : hashBk b = sha [blockB b].flatten := by unfold hashBk; rw [if_pos q]; simp
  rw [← e14] at o14
  refine ⟨_, rfl, ?_⟩
  refine ⟨A14, 32, c14, rfl, row_less o14 M.size, ⟨fun h => ?_, fun h => absurd q h⟩, fun h => ?_, fun _ => rfl, M.below.trans (hb.mono M.size)⟩
  · subst h
    rcases o14.2 with ⟨hv, -⟩ | ⟨g, cap, cur, hv, -⟩
    · injection hv with _ h; exact absurd h (by decide)
    · injection hv with h; cases h
  · subst h
    rcases o14.2 with ⟨hv, -⟩ | ⟨g, cap, cur, hv, -⟩
    · injection hv with _ h; exact absurd h (by decide)
    · injection hv with h; cases h
set_option maxRecDepth 100000 in
set_option maxHeartbeats 2000000 in
theorem r21Hash_any (b : Bk) (gs : List (Option Nat)) (w : World) (cs : List Value) (hr : RdL w (Fd w gs) (dBk b) cs) (hgs : ∀ b, some b ∈ gs → b < w.heap.size) (hf : FitsB b) :
    Calls Tryd.prog 17 #[.agg cs.toArray] w fun e w' => ∃ A n c, e = .returned (.slice A n c) ∧ Own w' w.heap.size A n c (hashBk b) ∧ ((encBk b).2 = 0 → n = 32) ∧ ((encBk b).2 ≠ 0 → n = 0) ∧ Below w.heap.size w w' := by
  refine calls_ev (args := [.agg cs.toArray]) mixed Tryd.func17 rfl (by kernel_rfl) ?_
  obtain ⟨p, rfl, -⟩ := id hr.bk
  have hf2 := hf.2.2
  have M := (St.start hgs).addL hr
  clear hr
  refine s_box (bkcs b p) M rfl ?_
  clear M
  rintro g1 W M
  refine v_loadN (bkcs b p) agg_bk rfl rfl (M.run 0 rfl) ?_
  refine cc is_r21Enc (r21Enc_any b _ _ _ (M.da 0 rfl) M.olt hf) ?_
  rintro e W ⟨A3, n3, c3, rfl, o3, hb⟩
  have en3 : (encBk b).1.length = n3 := o3.len
  replace M := M.callO hb o3
  clear hb o3
  refine ⟨_, rfl, ?_⟩
  refine p_ne rfl rfl (fun q => ?_) (fun q => ?_)
  rotate_left
  · have q : ¬ (encBk b).2 = 0 := q
    refine ⟨none, 0, 0, rfl, ?_, fun h => absurd h q, fun _ => rfl, M.below⟩
    unfold hashBk
    rw [if_neg q]; exact World.ownsRow_nil _ _ _ _
  have q : (encBk b).2 = 0 := q
  have hb0 := encBk_full q
  rw [hb0] at M en3
  subst en3
  refine cc is_r5sumB (r5sum_any (blockB b) _ _ _ _ _ (M.d1 0 rfl) M.olt (by omega)) ?_
  rintro e W ⟨A14, c14, rfl, o14, hb⟩
  have e14 : hashBk b = sha (blockB b) := by unfold hashBk; rw [if_pos q]
  rw [← e14] at o14
  refine ⟨_, rfl, ?_⟩
  exact ⟨A14, 32, c14, rfl, row_less o14 M.size, fun _ => rfl, fun h => absurd q h, M.below.trans (hb.mono M.size)⟩
set_option maxRecDepth 100000 in
set_option maxHeartbeats 2000000 in
theorem stx_any (a b : List (List UInt8)) (gs : List (Option Nat)) (w : World) (A B : Option Addr) (n c m d : Nat) (ha : RdD w (Fd w gs) (dTx a) (.slice A n c)) (hb : RdD w (Fd w gs) (dTx b) (.slice B m d)) (hgs : ∀ b, some b ∈ gs → b < w.heap.size) (hl : a.length ≤ 1000000000) :
    Calls Tryd.prog 42 #[.slice A n c, .slice B m d] w fun e w' => ∃ q : Bool, e = .returned (.bool q) ∧ (q = true ↔ a = b) ∧ Below w.heap.size w w' := by
  refine calls_ev (args := [.slice A n c, .slice B m d]) mixed Tryd.func42 rfl (by kernel_rfl) ?_
  have en : n = a.length := ha.slen
  have em : m = b.length := hb.slen
  subst en; subst em
  have M := ((St.start hgs).addD hb).addD ha
  clear ha hb
  refine p_len slts rfl ?_
  refine p_len slts rfl ?_
  refine p_ne rfl rfl (fun h => ?_) (fun h => ?_)
  rotate_left
  · exact ⟨false, rfl, ⟨(fun h => by cases h), fun e => absurd (by rw [e]) h⟩, M.below⟩
  have hlen : a.length = b.length := by have h : (a.length : Int) = (b.length : Int) := h; omega
  refine p_len slts rfl ?_
  refine lp Nat (fun i W => i ≤ a.length ∧ a.take i = b.take i ∧ St w gs W [] [] [.dat false [dTx a] [.slice A a.length c], .dat false [dTx b] [.slice B b.length d]]) (fun i => [(0, .slice A a.length c), (1, .slice B b.length d), (12, .int .i64 (a.length : Nat)), (13, .int .i64 i)]) (fun i => a.length - i) 0 ⟨Nat.zero_le _, rfl, M⟩ (by repeat (first | exact trivial | refine ⟨rfl, ?_⟩)) ?_
  clear M
  rintro i E W ⟨hi, ht, M⟩
  refine p_lt rfl rfl (fun hlt => ?_) (fun hge => ?_)
  rotate_left
  · have hi : i = a.length := by have h : ¬ (i : Int) < (a.length : Int) := hge; omega
    subst hi
    rw [List.take_of_length_le (Nat.le_refl _), List.take_of_length_le (by omega)] at ht
    exact ⟨true, rfl, ⟨fun _ => ht, fun _ => rfl⟩, M.below⟩
  have hlt : i < a.length := by have h : (i : Int) < (a.length : Int) := hlt; omega
  obtain ⟨u, hu⟩ : ∃ u, a[i]? = some u := ⟨_, List.getElem?_eq_getElem hlt⟩
  obtain ⟨v, hv⟩ : ∃ v, b[i]? = some v := ⟨_, List.getElem?_eq_getElem (by omega)⟩
  obtain ⟨b1, o1, rfl, M'⟩ := M.stre (M.d1 0 rfl) hu
  replace M := M'; clear M'
  obtain ⟨b2, o2, rfl, M'⟩ := M.stre (M.d1 2 rfl) hv
  replace M := M'.drew; clear M'
  refine drT (Kp w gs [] [.loc ((⟨b1, o1, none⟩ : Addr).add (i * 1)) [.string (sb u)], .loc ((⟨b2, o2, none⟩ : Addr).add (i * 1)) [.string (sb v)]]) (.take 0 (.take 1 (.take 2 (.take 3 (.take 4 (.take 5 (.take 6 (.take 7 (.take 8 (.nil)))))))))) (by kernel_rfl) (M.kp (by simp) (by simp)) ?_
  refine p_at (i := i) slts rfl rfl rfl hlt ?_
  refine t_load agg_st rfl (fun W K => K.lc 0 rfl 0 _ rfl) ?_
  refine p_at (i := i) slts rfl rfl rfl (by omega) ?_
  refine t_load agg_st rfl (fun W K => K.lc 1 rfl 0 _ rfl) ?_
  refine p_sne rfl rfl (fun he => ?_) (fun he => ?_)
  rotate_left
  · exact ⟨false, rfl, ⟨(fun h => by cases h), fun e => absurd e (take_ne hu hv (fun e => he (by rw [e])))⟩, M.below⟩
  refine p_addN (b := 1) rfl rfl (by omega) ?_
  exact ⟨i + 1, ⟨by omega, take_ext ht hu hv (sb_inj.1 he), M.fsub _ (by simp)⟩, (by repeat (first | exact trivial | refine ⟨rfl, ?_⟩)), by omega⟩
end Go.Proofs.YtejbljopighenaaDoor
namespace Go.Proofs.YtejbljopighenaaDoor
open Go.RowKit
theorem Bk.ext' {a b : Bk} (h0 : a.num = b.num) (h1 : a.last = b.last) (h2 : a.prev = b.prev) (h3 : a.next = b.next) (h4 : a.txs = b.txs) (h5 : a.outs = b.outs) (h6 : a.proof = b.proof) : a = b := by
  cases a; cases b; simp only at h0 h1 h2 h3 h4 h5 h6; rw [h0, h1, h2, h3, h4, h5, h6]
/-- Not too many. -/
def LenB (b : Bk) : Prop := b.txs.length ≤ 1000000000 ∧ (∀ t ∈ b.txs, t.length ≤ 1000000000) ∧ b.outs.length ≤ 1000000000 ∧ ∀ o ∈ b.outs, LenO o
theorem lenO_of {o : Out} (h : FitsO o) : LenO o := by
  have h2 := h.2.1
  refine ⟨by omega, fun r hr => ?_⟩
  obtain ⟨h3, -⟩ := h.1 r hr
  have h4 := h3.1
  refine ⟨by omega, fun l hl => ?_⟩
  have h5 := (h3.2.1 l hl).2
  have h6 : l.length ≤ tot l := by
    clear h5 hl h3 h4 h2
    induction l with
    | nil => exact Nat.zero_le _
    | cons v l ih => unfold tot at ih ⊢; simp only [List.map_cons, List.sum_cons, List.length_cons]; omega
  omega
theorem lenB_of {b : Bk} (h : FitsB b) : LenB b := by
  have h2 := h.2.2
  obtain ⟨t1, t2, -⟩ := bk_txs b
  exact ⟨by omega, fun t ht => by have := (bk_tx ht).2.1; omega, by omega, fun o ho => lenO_of (h.2.1 o ho)⟩
set_option maxRecDepth 100000 in
set_option maxHeartbeats 8000000 in
theorem bSame_any (a b : Bk) (gs : List (Option Nat)) (w : World) (ca cb : List Value) (ha : RdL w (Fd w gs) (dBk a) ca) (hb : RdL w (Fd w gs) (dBk b) cb) (hgs : ∀ b, some b ∈ gs → b < w.heap.size) (hl : LenB a) :
    Calls Tryd.prog 21 #[.agg ca.toArray, .agg cb.toArray] w fun e w' => ∃ q : Bool, e = .returned (.bool q) ∧ (q = true ↔ a = b) ∧ Below w.heap.size w w' := by
  refine calls_ev (args := [.agg ca.toArray, .agg cb.toArray]) mixed Tryd.func21 rfl (by kernel_rfl) ?_
  obtain ⟨p, rfl, h1, h2, h3, h4, h5, h6⟩ := ha.bk
  obtain ⟨r, rfl, k1, k2, k3, k4, k5, k6⟩ := hb.bk
  obtain ⟨hl1, hl2, hl3, hl4⟩ := hl
  have M := ((((((((((((St.start hgs).addD k6).addD k5).addD k4).addD k3).addD k2).addD k1).addD h6).addD h5).addD h4).addD h3).addD h2).addD h1
  clear h1 h2 h3 h4 h5 h6 k1 k2 k3 k4 k5 k6 ha hb
  refine s_box (bkcs a p) M rfl ?_
  clear M
  rintro g2 W M
  refine s_box (bkcs b r) M rfl ?_
  clear M
  rintro g3 W M
  refine p_fld fB0 rfl ?_
  refine v_load agg_i rfl ((M.B 1 rfl).at_ rfl) ?_
  refine p_fld fB0 rfl ?_
  refine v_load agg_i rfl ((M.B 0 rfl).at_ rfl) ?_
  refine p_eq rfl rfl (fun q0 => ?_) (fun q0 => ?_)
  rotate_left
  · refine p_not rfl ?_
    exact ⟨false, rfl, ⟨(fun h => by cases h), fun e => absurd (by rw [e]) q0⟩, M.below⟩
  have q0 : a.num = b.num := q0
  refine p_fld fB1 rfl ?_
  refine v_load agg_b rfl ((M.B 1 rfl).at_ rfl) ?_
  refine v_str rfl (M.rdb 0 rfl).2.2 ?_
  refine p_fld fB1 rfl ?_
  refine v_load agg_b rfl ((M.B 0 rfl).at_ rfl) ?_
  refine v_str rfl (M.rdb 6 rfl).2.2 ?_
  refine p_seq rfl rfl (fun q1 => ?_) (fun q1 => ?_)
  rotate_left
  · refine p_not rfl ?_
    exact ⟨false, rfl, ⟨(fun h => by cases h), fun e => absurd (by rw [e]) q1⟩, M.below⟩
  have q1 : a.last = b.last := sb_inj.1 q1
  refine p_fld fB2 rfl ?_
  refine v_load agg_b rfl ((M.B 1 rfl).at_ rfl) ?_
  refine v_str rfl (M.rdb 1 rfl).2.2 ?_
  refine p_fld fB2 rfl ?_
  refine v_load agg_b rfl ((M.B 0 rfl).at_ rfl) ?_
  refine v_str rfl (M.rdb 7 rfl).2.2 ?_
  refine p_seq rfl rfl (fun q2 => ?_) (fun q2 => ?_)
  rotate_left
  · refine p_not rfl ?_
    exact ⟨false, rfl, ⟨(fun h => by cases h), fun e => absurd (by rw [e]) q2⟩, M.below⟩
  have q2 : a.prev = b.prev := sb_inj.1 q2
  refine p_fld fB3 rfl ?_
  refine v_load agg_b rfl ((M.B 1 rfl).at_ rfl) ?_
  refine v_str rfl (M.rdb 2 rfl).2.2 ?_
  refine p_fld fB3 rfl ?_
  refine v_load agg_b rfl ((M.B 0 rfl).at_ rfl) ?_
  refine v_str rfl (M.rdb 8 rfl).2.2 ?_
  refine p_seq rfl rfl (fun q3 => ?_) (fun q3 => ?_)
  rotate_left
  · refine p_not rfl ?_
    exact ⟨false, rfl, ⟨(fun h => by cases h), fun e => absurd (by rw [e]) q3⟩, M.below⟩
  have q3 : a.next = b.next := sb_inj.1 q3
  refine p_fld fB6 rfl ?_
  refine v_load agg_b rfl ((M.B 1 rfl).at_ rfl) ?_
  refine v_str rfl (M.rdb 5 rfl).2.2 ?_
  refine p_fld fB6 rfl ?_
  refine v_load agg_b rfl ((M.B 0 rfl).at_ rfl) ?_
  refine v_str rfl (M.rdb 11 rfl).2.2 ?_
  refine p_seq rfl rfl (fun q6 => ?_) (fun q6 => ?_)
  rotate_left
  · refine p_not rfl ?_
    exact ⟨false, rfl, ⟨(fun h => by cases h), fun e => absurd (by rw [e]) q6⟩, M.below⟩
  have q6 : a.proof = b.proof := sb_inj.1 q6
  refine p_not rfl ?_
  refine p_fld fB4 rfl ?_
  refine v_load agg_tss rfl ((M.B 1 rfl).at_ rfl) ?_
  refine p_len sltss rfl ?_
  refine p_fld fB4 rfl ?_
  refine v_load agg_tss rfl ((M.B 0 rfl).at_ rfl) ?_
  refine p_len sltss rfl ?_
  refine p_ne rfl rfl (fun q4 => ?_) (fun q4 => ?_)
  rotate_left
  · exact ⟨false, rfl, ⟨(fun h => by cases h), fun e => absurd (by rw [e]) q4⟩, M.below⟩
  have n4 : a.txs.length = b.txs.length := by have h : (a.txs.length : Int) = (b.txs.length : Int) := q4; omega
  refine p_fld fB5 rfl ?_
  refine v_load agg_os rfl ((M.B 1 rfl).at_ rfl) ?_
  refine p_len slos rfl ?_
  refine p_fld fB5 rfl ?_
  refine v_load agg_os rfl ((M.B 0 rfl).at_ rfl) ?_
  refine p_len slos rfl ?_
  refine p_ne rfl rfl (fun q5 => ?_) (fun q5 => ?_)
  rotate_left
  · exact ⟨false, rfl, ⟨(fun h => by cases h), fun e => absurd (by rw [e]) q5⟩, M.below⟩
  have n5 : a.outs.length = b.outs.length := by have h : (a.outs.length : Int) = (b.outs.length : Int) := q5; omega
  replace M := M.fsub [.dat false [dTxs a.txs] [.slice p.A4 a.txs.length p.c4], .dat false [dTxs b.txs] [.slice r.A4 b.txs.length r.c4], .dat false [dOuts a.outs] [.slice p.A5 a.outs.length p.c5], .dat false [dOuts b.outs] [.slice r.A5 b.outs.length r.c5]] (by simp)
  refine cutS Unit (fun _ W => St w gs W [(g3, 26, bkcs b r), (g2, 26, bkcs a p)] [] [.dat false [dTxs a.txs] [.slice p.A4 a.txs.length p.c4], .dat false [dTxs b.txs] [.slice r.A4 b.txs.length r.c4], .dat false [dOuts a.outs] [.slice p.A5 a.outs.length p.c5], .dat false [dOuts b.outs] [.slice r.A5 b.outs.length r.c5]]) (fun _ => [(2, .pointer (some ⟨g2, 0, none⟩)), (3, .pointer (some ⟨g3, 0, none⟩))]) ?_ ?_
  · exact ⟨(), M, (by repeat (first | exact trivial | refine ⟨rfl, ?_⟩))⟩
  clear M
  rintro - E W M
  refine cutS Unit (fun _ W => a.txs = b.txs ∧ St w gs W [(g3, 26, bkcs b r), (g2, 26, bkcs a p)] [] [.dat false [dOuts a.outs] [.slice p.A5 a.outs.length p.c5], .dat false [dOuts b.outs] [.slice r.A5 b.outs.length r.c5]]) (fun _ => [(2, .pointer (some ⟨g2, 0, none⟩)), (3, .pointer (some ⟨g3, 0, none⟩))]) ?_ ?_
  · refine p_fld fB4 rfl ?_
    refine v_load agg_tss rfl ((M.B 1 rfl).at_ rfl) ?_
    refine p_len sltss rfl ?_
    refine lp Nat (fun i W => i ≤ a.txs.length ∧ a.txs.take i = b.txs.take i ∧ St w gs W [(g3, 26, bkcs b r), (g2, 26, bkcs a p)] [] [.dat false [dTxs a.txs] [.slice p.A4 a.txs.length p.c4], .dat false [dTxs b.txs] [.slice r.A4 b.txs.length r.c4], .dat false [dOuts a.outs] [.slice p.A5 a.outs.length p.c5], .dat false [dOuts b.outs] [.slice r.A5 b.outs.length r.c5]]) (fun i => [(2, .pointer (some ⟨g2, 0, none⟩)), (3, .pointer (some ⟨g3, 0, none⟩)), (71, .int .i64 (a.txs.length : Nat)), (72, .int .i64 i)]) (fun i => a.txs.length - i) 0 ⟨Nat.zero_le _, rfl, M⟩ (by repeat (first | exact trivial | refine ⟨rfl, ?_⟩)) ?_
    clear M
    rintro i E W ⟨hi, ht, M⟩
    refine p_lt rfl rfl (fun hlt => ?_) (fun hge => ?_)
    rotate_left
    · have hi : i = a.txs.length := by have h : ¬ (i : Int) < (a.txs.length : Int) := hge; omega
      subst hi
      rw [List.take_of_length_le (Nat.le_refl _), List.take_of_length_le (by omega)] at ht
      exact ⟨(), ⟨ht, M.fsub _ (by simp)⟩, (by repeat (first | exact trivial | refine ⟨rfl, ?_⟩))⟩
    have hlt : i < a.txs.length := by have h : (i : Int) < (a.txs.length : Int) := hlt; omega
    obtain ⟨u, hu⟩ : ∃ u, a.txs[i]? = some u := ⟨_, List.getElem?_eq_getElem hlt⟩
    obtain ⟨v, hv⟩ : ∃ v, b.txs[i]? = some v := ⟨_, List.getElem?_eq_getElem (by omega)⟩
    have hlu := hl2 u (List.mem_of_getElem? hu)
    obtain ⟨b1, o1, Au, cu, eA, M'⟩ := M.txe (M.d1 0 rfl) hu
    replace M := M'; clear M'
    obtain ⟨b2, o2, Bv, dv, eB, M'⟩ := M.txe (M.d1 3 rfl) hv
    replace M := M'.drew; clear M'
    refine drT (Kp w gs [(g2, 26, bkcs a p), (g3, 26, bkcs b r)] [.loc ((⟨b1, o1, none⟩ : Addr).add (i * 1)) [.slice Au u.length cu], .loc ((⟨b2, o2, none⟩ : Addr).add (i * 1)) [.slice Bv v.length dv]]) (.take 0 (.take 1 (.take 2 (.take 3 (.take 4 (.take 5 (.take 6 (.take 7 (.take 8 (.take 9 (.one 10 (.take 11 (.nil))))))))))))) (by kernel_rfl) (M.kp (by simp) (by simp)) ?_
    refine p_fld fB4 rfl ?_
    refine t_load agg_tss rfl (fun W K => (K.B 0 rfl).at_ rfl) ?_
    refine p_at (i := i) sltss (by show Value.slice p.A4 a.txs.length p.c4 = _; rw [eA]) rfl rfl hlt ?_
    refine t_load agg_ts rfl (fun W K => K.lc 0 rfl 0 _ rfl) ?_
    refine p_fld fB4 rfl ?_
    refine t_load agg_tss rfl (fun W K => (K.B 1 rfl).at_ rfl) ?_
    refine p_at (i := i) sltss (by show Value.slice r.A4 b.txs.length r.c4 = _; rw [eB]) rfl rfl (by omega) ?_
    refine t_load agg_ts rfl (fun W K => K.lc 1 rfl 0 _ rfl) ?_
    refine cc is_stx (stx_any u v _ _ _ _ _ _ _ _ (M.d1 3 rfl) (M.d1 1 rfl) M.olt hlu) ?_
    rintro e W ⟨q, rfl, hq, hb⟩
    replace M := M.call hb
    clear hb
    refine ⟨_, rfl, (M.kp (by simp) (by simp)), ?_⟩
    refine p_not rfl ?_
    cases q with
    | false =>
      exact ⟨false, rfl, ⟨(fun h => by cases h), fun e => absurd (congrArg Bk.txs e) (take_ne hu hv (fun e => by have := hq.2 e; cases this))⟩, M.below⟩
    | true =>
    refine p_addN (b := 1) rfl rfl (by omega) ?_
    exact ⟨i + 1, ⟨by omega, take_ext ht hu hv (hq.1 rfl), M.fsub _ (by simp)⟩, (by repeat (first | exact trivial | refine ⟨rfl, ?_⟩)), by omega⟩
  clear M
  rintro - E W ⟨ht4, M⟩
  refine p_fld fB5 rfl ?_
  refine v_load agg_os rfl ((M.B 1 rfl).at_ rfl) ?_
  refine p_len slos rfl ?_
  refine lp Nat (fun i W => i ≤ a.outs.length ∧ a.outs.take i = b.outs.take i ∧ St w gs W [(g3, 26, bkcs b r), (g2, 26, bkcs a p)] [] [.dat false [dOuts a.outs] [.slice p.A5 a.outs.length p.c5], .dat false [dOuts b.outs] [.slice r.A5 b.outs.length r.c5]]) (fun i => [(2, .pointer (some ⟨g2, 0, none⟩)), (3, .pointer (some ⟨g3, 0, none⟩)), (90, .int .i64 (a.outs.length : Nat)), (91, .int .i64 i)]) (fun i => a.outs.length - i) 0 ⟨Nat.zero_le _, rfl, M⟩ (by repeat (first | exact trivial | refine ⟨rfl, ?_⟩)) ?_
  clear M
  rintro i E W ⟨hi, ht, M⟩
  refine p_lt rfl rfl (fun hlt => ?_) (fun hge => ?_)
  rotate_left
  · have hi : i = a.outs.length := by have h : ¬ (i : Int) < (a.outs.length : Int) := hge; omega
    subst hi
    rw [List.take_of_length_le (Nat.le_refl _), List.take_of_length_le (by omega)] at ht
    exact ⟨true, rfl, ⟨fun _ => Bk.ext' q0 q1 q2 q3 ht4 ht q6, fun _ => rfl⟩, M.below⟩
  have hlt : i < a.outs.length := by have h : (i : Int) < (a.outs.length : Int) := hlt; omega
  obtain ⟨u, hu⟩ : ∃ u, a.outs[i]? = some u := ⟨_, List.getElem?_eq_getElem hlt⟩
  obtain ⟨v, hv⟩ : ∃ v, b.outs[i]? = some v := ⟨_, List.getElem?_eq_getElem (by omega)⟩
  have hlu := hl4 u (List.mem_of_getElem? hu)
  obtain ⟨b1, o1, es1, eA, M'⟩ := M.oute (M.d1 0 rfl) hu
  replace M := M'; clear M'
  obtain ⟨b2, o2, es2, eB, M'⟩ := M.oute (M.d1 3 rfl) hv
  replace M := M'.drew; clear M'
  have hc1 := (M.da 3 rfl).len
  have hc2 := (M.da 1 rfl).len
  rw [dOut_len] at hc1 hc2
  refine drT (Kp w gs [(g2, 26, bkcs a p), (g3, 26, bkcs b r)] [.loc ((⟨b1, o1, none⟩ : Addr).add (i * 3)) es1, .loc ((⟨b2, o2, none⟩ : Addr).add (i * 3)) es2]) (.take 0 (.take 1 (.take 2 (.take 3 (.take 4 (.take 5 (.take 6 (.take 7 (.take 8 (.take 9 (.one 10 (.take 11 (.nil))))))))))))) (by kernel_rfl) (M.kp (by simp) (by simp)) ?_
  refine p_fld fB5 rfl ?_
  refine t_load agg_os rfl (fun W K => (K.B 0 rfl).at_ rfl) ?_
  refine p_at (i := i) slos (by show Value.slice p.A5 a.outs.length p.c5 = _; rw [eA]) rfl rfl hlt ?_
  refine t_loadN es1 agg_out rfl hc1 (fun W K => K.lc 0 rfl) ?_
  refine p_fld fB5 rfl ?_
  refine t_load agg_os rfl (fun W K => (K.B 1 rfl).at_ rfl) ?_
  refine p_at (i := i) slos (by show Value.slice r.A5 b.outs.length r.c5 = _; rw [eB]) rfl rfl (by omega) ?_
  refine t_loadN es2 agg_out rfl hc2 (fun W K => K.lc 1 rfl) ?_
  refine cc is_xSame (xSame_any u v _ _ _ _ (M.da 3 rfl) (M.da 1 rfl) M.olt hlu) ?_
  rintro e W ⟨q, rfl, hq, hb⟩
  replace M := M.call hb
  clear hb
  refine ⟨_, rfl, (M.kp (by simp) (by simp)), ?_⟩
  refine p_not rfl ?_
  cases q with
  | false =>
    exact ⟨false, rfl, ⟨(fun h => by cases h), fun e => absurd (congrArg Bk.outs e) (take_ne hu hv (fun e => by have := hq.2 e; cases this))⟩, M.below⟩
  | true =>
  refine p_addN (b := 1) rfl rfl (by omega) ?_
  exact ⟨i + 1, ⟨by omega, take_ext ht hu hv (hq.1 rfl), M.fsub _ (by simp)⟩, (by repeat (first | exact trivial | refine ⟨rfl, ?_⟩)), by omega⟩
set_option maxRecDepth 100000 in
set_option maxHeartbeats 8000000 in
theorem r21Same_any (a b : Bk) (gs : List (Option Nat)) (w : World) (ca cb : List Value) (ha : RdL w (Fd w gs) (dBk a) ca) (hb : RdL w (Fd w gs) (dBk b) cb) (hgs : ∀ b, some b ∈ gs → b < w.heap.size) (hl : LenB a) (hlb : LenB b) :
    Calls Tryd.prog 18 #[.agg ca.toArray, .agg cb.toArray] w fun e w' => ∃ q : Bool, e = .returned (.bool q) ∧ (q = true ↔ a = b) ∧ Below w.heap.size w w' := by
  refine calls_ev (args := [.agg ca.toArray, .agg cb.toArray]) mixed Tryd.func18 rfl (by kernel_rfl) ?_
  obtain ⟨p, rfl, h1, h2, h3, h4, h5, h6⟩ := ha.bk
  obtain ⟨r, rfl, k1, k2, k3, k4, k5, k6⟩ := hb.bk
  obtain ⟨hl1, hl2, hl3, hl4⟩ := hl
  have M := ((((((((((((St.start hgs).addD k6).addD k5).addD k4).addD k3).addD k2).addD k1).addD h6).addD h5).addD h4).addD h3).addD h2).addD h1
  clear h1 h2 h3 h4 h5 h6 k1 k2 k3 k4 k5 k6 ha hb
  refine s_box (bkcs a p) M rfl ?_
  clear M
  rintro g2 W M
  refine s_box (bkcs b r) M rfl ?_
  clear M
  rintro g3 W M
  refine p_fld fB0 rfl ?_
  refine v_load agg_i rfl ((M.B 1 rfl).at_ rfl) ?_
  refine p_fld fB0 rfl ?_
  refine v_load agg_i rfl ((M.B 0 rfl).at_ rfl) ?_
  refine p_ne rfl rfl (fun q0 => ?_) (fun q0 => ?_)
  rotate_left
  · exact ⟨false, rfl, ⟨(fun h => by cases h), fun e => absurd (by rw [e]) q0⟩, M.below⟩
  have q0 : a.num = b.num := q0
  refine p_fld fB1 rfl ?_
  refine v_load agg_b rfl ((M.B 1 rfl).at_ rfl) ?_
  refine p_fld fB1 rfl ?_
  refine v_load agg_b rfl ((M.B 0 rfl).at_ rfl) ?_
  obtain ⟨q1, hq1, hc⟩ := same_tf (c1 := p.c1) (c2 := r.c1) (M.rdb 0 rfl).2.2 (M.rdb 6 rfl).2.2
  refine cc is_same0B hc ?_
  rintro e W' ⟨rfl, rfl⟩
  refine ⟨_, rfl, ?_⟩
  clear hc
  refine p_not rfl ?_
  cases q1 with
  | false => exact ⟨false, rfl, ⟨(fun h => by cases h), fun e => by have := hq1.2 (by rw [e]); cases this⟩, M.below⟩
  | true =>
  replace hq1 : a.last = b.last := hq1.1 rfl
  refine p_fld fB2 rfl ?_
  refine v_load agg_b rfl ((M.B 1 rfl).at_ rfl) ?_
  refine p_fld fB2 rfl ?_
  refine v_load agg_b rfl ((M.B 0 rfl).at_ rfl) ?_
  obtain ⟨q2, hq2, hc⟩ := same_tf (c1 := p.c2) (c2 := r.c2) (M.rdb 1 rfl).2.2 (M.rdb 7 rfl).2.2
  refine cc is_same0B hc ?_
  rintro e W' ⟨rfl, rfl⟩
  refine ⟨_, rfl, ?_⟩
  clear hc
  refine p_not rfl ?_
  cases q2 with
  | false => exact ⟨false, rfl, ⟨(fun h => by cases h), fun e => by have := hq2.2 (by rw [e]); cases this⟩, M.below⟩
  | true =>
  replace hq2 : a.prev = b.prev := hq2.1 rfl
  refine p_fld fB3 rfl ?_
  refine v_load agg_b rfl ((M.B 1 rfl).at_ rfl) ?_
  refine p_fld fB3 rfl ?_
  refine v_load agg_b rfl ((M.B 0 rfl).at_ rfl) ?_
  obtain ⟨q3, hq3, hc⟩ := same_tf (c1 := p.c3) (c2 := r.c3) (M.rdb 2 rfl).2.2 (M.rdb 8 rfl).2.2
  refine cc is_same0B hc ?_
  rintro e W' ⟨rfl, rfl⟩
  refine ⟨_, rfl, ?_⟩
  clear hc
  refine p_not rfl ?_
  cases q3 with
  | false => exact ⟨false, rfl, ⟨(fun h => by cases h), fun e => by have := hq3.2 (by rw [e]); cases this⟩, M.below⟩
  | true =>
  replace hq3 : a.next = b.next := hq3.1 rfl
  refine p_fld fB6 rfl ?_
  refine v_load agg_b rfl ((M.B 1 rfl).at_ rfl) ?_
  refine p_fld fB6 rfl ?_
  refine v_load agg_b rfl ((M.B 0 rfl).at_ rfl) ?_
  obtain ⟨q6, hq6, hc⟩ := same_tf (c1 := p.c6) (c2 := r.c6) (M.rdb 5 rfl).2.2 (M.rdb 11 rfl).2.2
  refine cc is_same0B hc ?_
  rintro e W' ⟨rfl, rfl⟩
  refine ⟨_, rfl, ?_⟩
  clear hc
  refine p_not rfl ?_
  cases q6 with
  | false => exact ⟨false, rfl, ⟨(fun h => by cases h), fun e => by have := hq6.2 (by rw [e]); cases this⟩, M.below⟩
  | true =>
  replace hq6 : a.proof = b.proof := hq6.1 rfl
  refine p_fld fB4 rfl ?_
  refine v_load agg_tss rfl ((M.B 1 rfl).at_ rfl) ?_
  refine p_len sltss rfl ?_
  refine p_fld fB4 rfl ?_
  refine v_load agg_tss rfl ((M.B 0 rfl).at_ rfl) ?_
  refine p_len sltss rfl ?_
  refine p_ne rfl rfl (fun q4 => ?_) (fun q4 => ?_)
  rotate_left
  · exact ⟨false, rfl, ⟨(fun h => by cases h), fun e => absurd (by rw [e]) q4⟩, M.below⟩
  have n4 : a.txs.length = b.txs.length := by have h : (a.txs.length : Int) = (b.txs.length : Int) := q4; omega
  replace M := M.fsub [.dat false [dTxs a.txs] [.slice p.A4 a.txs.length p.c4], .dat false [dTxs b.txs] [.slice r.A4 b.txs.length r.c4], .dat false [dOuts a.outs] [.slice p.A5 a.outs.length p.c5], .dat false [dOuts b.outs] [.slice r.A5 b.outs.length r.c5]] (by simp)
  refine cutS Unit (fun _ W => St w gs W [(g3, 26, bkcs b r), (g2, 26, bkcs a p)] [] [.dat false [dTxs a.txs] [.slice p.A4 a.txs.length p.c4], .dat false [dTxs b.txs] [.slice r.A4 b.txs.length r.c4], .dat false [dOuts a.outs] [.slice p.A5 a.outs.length p.c5], .dat false [dOuts b.outs] [.slice r.A5 b.outs.length r.c5]]) (fun _ => [(2, .pointer (some ⟨g2, 0, none⟩)), (3, .pointer (some ⟨g3, 0, none⟩))]) ?_ ?_
  · exact ⟨(), M, (by repeat (first | exact trivial | refine ⟨rfl, ?_⟩))⟩
  clear M
  rintro - E W M
  refine cutS Unit (fun _ W => a.txs = b.txs ∧ St w gs W [(g3, 26, bkcs b r), (g2, 26, bkcs a p)] [] [.dat false [dOuts a.outs] [.slice p.A5 a.outs.length p.c5], .dat false [dOuts b.outs] [.slice r.A5 b.outs.length r.c5]]) (fun _ => [(2, .pointer (some ⟨g2, 0, none⟩)), (3, .pointer (some ⟨g3, 0, none⟩))]) ?_ ?_
  · refine lp Nat (fun i W => i ≤ a.txs.length ∧ a.txs.take i = b.txs.take i ∧ St w gs W [(g3, 26, bkcs b r), (g2, 26, bkcs a p)] [] [.dat false [dTxs a.txs] [.slice p.A4 a.txs.length p.c4], .dat false [dTxs b.txs] [.slice r.A4 b.txs.length r.c4], .dat false [dOuts a.outs] [.slice p.A5 a.outs.length p.c5], .dat false [dOuts b.outs] [.slice r.A5 b.outs.length r.c5]]) (fun i => [(2, .pointer (some ⟨g2, 0, none⟩)), (3, .pointer (some ⟨g3, 0, none⟩)), (5, .int .i64 i)]) (fun i => a.txs.length - i) 0 ⟨Nat.zero_le _, rfl, M⟩ (by repeat (first | exact trivial | refine ⟨rfl, ?_⟩)) ?_
    clear M
    rintro i E W ⟨hi, ht, M⟩
    refine p_fld fB4 rfl ?_
    refine v_load agg_tss rfl ((M.B 1 rfl).at_ rfl) ?_
    refine p_len sltss rfl ?_
    refine p_lt rfl rfl (fun hlt => ?_) (fun hge => ?_)
    rotate_left
    · have hi : i = a.txs.length := by have h : ¬ (i : Int) < (a.txs.length : Int) := hge; omega
      subst hi
      rw [List.take_of_length_le (Nat.le_refl _), List.take_of_length_le (by omega)] at ht
      exact ⟨(), ⟨ht, M.fsub _ (by simp)⟩, (by repeat (first | exact trivial | refine ⟨rfl, ?_⟩))⟩
    have hlt : i < a.txs.length := by have h : (i : Int) < (a.txs.length : Int) := hlt; omega
    obtain ⟨u, hu⟩ : ∃ u, a.txs[i]? = some u := ⟨_, List.getElem?_eq_getElem hlt⟩
    obtain ⟨v, hv⟩ : ∃ v, b.txs[i]? = some v := ⟨_, List.getElem?_eq_getElem (by omega)⟩
    have hlu := hl2 u (List.mem_of_getElem? hu)
    obtain ⟨b1, o1, Au, cu, eA, M'⟩ := M.txe (M.d1 0 rfl) hu
    replace M := M'; clear M'
    obtain ⟨b2, o2, Bv, dv, eB, M'⟩ := M.txe (M.d1 3 rfl) hv
    replace M := M'.drew; clear M'
    refine drT (Kp w gs [(g2, 26, bkcs a p), (g3, 26, bkcs b r)] [.loc ((⟨b1, o1, none⟩ : Addr).add (i * 1)) [.slice Au u.length cu], .loc ((⟨b2, o2, none⟩ : Addr).add (i * 1)) [.slice Bv v.length dv]]) (.take 0 (.take 1 (.take 2 (.take 3 (.take 4 (.take 5 (.take 6 (.take 7 (.take 8 (.take 9 (.take 10 (.take 11 (.take 12 (.nil)))))))))))))) (by kernel_rfl) (M.kp (by simp) (by simp)) ?_
    refine p_fld fB4 rfl ?_
    refine t_load agg_tss rfl (fun W K => (K.B 0 rfl).at_ rfl) ?_
    refine p_at (i := i) sltss (by show Value.slice p.A4 a.txs.length p.c4 = _; rw [eA]) rfl rfl hlt ?_
    refine t_load agg_ts rfl (fun W K => K.lc 0 rfl 0 _ rfl) ?_
    refine p_len slts rfl ?_
    refine p_fld fB4 rfl ?_
    refine t_load agg_tss rfl (fun W K => (K.B 1 rfl).at_ rfl) ?_
    refine p_at (i := i) sltss (by show Value.slice r.A4 b.txs.length r.c4 = _; rw [eB]) rfl rfl (by omega) ?_
    refine t_load agg_ts rfl (fun W K => K.lc 1 rfl 0 _ rfl) ?_
    refine p_len slts rfl ?_
    refine p_ne rfl rfl (fun q5 => ?_) (fun q5 => ?_)
    rotate_left
    · exact ⟨false, rfl, ⟨(fun h => by cases h), fun e => absurd (congrArg Bk.txs e) (take_ne hu hv (fun e => q5 (by rw [e])))⟩, M.below⟩
    have n5 : u.length = v.length := by have h : (u.length : Int) = (v.length : Int) := q5; omega
    refine cutS Unit (fun _ W => St w gs W [(g3, 26, bkcs b r), (g2, 26, bkcs a p)] [] [.loc ((⟨b2, o2, none⟩ : Addr).add (i * 1)) [.slice Bv v.length dv], .dat false [dTx v] [.slice Bv v.length dv], .loc ((⟨b1, o1, none⟩ : Addr).add (i * 1)) [.slice Au u.length cu], .dat false [dTx u] [.slice Au u.length cu], .dat false [dTxs a.txs] [.slice p.A4 a.txs.length p.c4], .dat false [dTxs b.txs] [.slice r.A4 b.txs.length r.c4], .dat false [dOuts a.outs] [.slice p.A5 a.outs.length p.c5], .dat false [dOuts b.outs] [.slice r.A5 b.outs.length r.c5]]) (fun _ => [(2, .pointer (some ⟨g2, 0, none⟩)), (3, .pointer (some ⟨g3, 0, none⟩)), (5, .int .i64 i)]) ?_ ?_
    · exact ⟨(), M, (by repeat (first | exact trivial | refine ⟨rfl, ?_⟩))⟩
    clear M
    rintro - E W M
    refine lp Nat (fun k W => k ≤ u.length ∧ u.take k = v.take k ∧ St w gs W [(g3, 26, bkcs b r), (g2, 26, bkcs a p)] [] [.loc ((⟨b2, o2, none⟩ : Addr).add (i * 1)) [.slice Bv v.length dv], .dat false [dTx v] [.slice Bv v.length dv], .loc ((⟨b1, o1, none⟩ : Addr).add (i * 1)) [.slice Au u.length cu], .dat false [dTx u] [.slice Au u.length cu], .dat false [dTxs a.txs] [.slice p.A4 a.txs.length p.c4], .dat false [dTxs b.txs] [.slice r.A4 b.txs.length r.c4], .dat false [dOuts a.outs] [.slice p.A5 a.outs.length p.c5], .dat false [dOuts b.outs] [.slice r.A5 b.outs.length r.c5]])
      (fun k => [(2, .pointer (some ⟨g2, 0, none⟩)), (3, .pointer (some ⟨g3, 0, none⟩)), (5, .int .i64 i), (6, .int .i64 k)]) (fun k => u.length - k) 0 ⟨Nat.zero_le _, rfl, M⟩ (by repeat (first | exact trivial | refine ⟨rfl, ?_⟩)) ?_
    clear M
    rintro k E W ⟨hk, htk, M⟩
    refine p_fld fB4 rfl ?_
    refine v_load agg_tss rfl ((M.B 1 rfl).at_ rfl) ?_
    refine p_at (i := i) sltss (by show Value.slice p.A4 a.txs.length p.c4 = _; rw [eA]) rfl rfl hlt ?_
    refine v_load agg_ts rfl (M.lc 2 rfl 0 _ rfl) ?_
    refine p_len slts rfl ?_
    refine p_lt rfl rfl (fun hlt2 => ?_) (fun hge => ?_)
    rotate_left
    · have hk : k = u.length := by have h : ¬ (k : Int) < (u.length : Int) := hge; omega
      subst hk
      rw [List.take_of_length_le (Nat.le_refl _), List.take_of_length_le (by omega)] at htk
      refine p_addN (b := 1) rfl rfl (by omega) ?_
      exact ⟨i + 1, ⟨by omega, take_ext ht hu hv htk, M.fsub _ (by simp)⟩, (by repeat (first | exact trivial | refine ⟨rfl, ?_⟩)), by omega⟩
    have hlt2 : k < u.length := by have h : (k : Int) < (u.length : Int) := hlt2; omega
    obtain ⟨x, hx⟩ : ∃ x, u[k]? = some x := ⟨_, List.getElem?_eq_getElem hlt2⟩
    obtain ⟨y, hy⟩ : ∃ y, v[k]? = some y := ⟨_, List.getElem?_eq_getElem (by omega)⟩
    obtain ⟨b3, o3, rfl, M'⟩ := M.stre (M.d1 3 rfl) hx
    replace M := M'; clear M'
    obtain ⟨b4, o4, rfl, M'⟩ := M.stre (M.d1 2 rfl) hy
    replace M := M'.drew; clear M'
    refine drT (Kp w gs [(g2, 26, bkcs a p), (g3, 26, bkcs b r)] [.loc ((⟨b1, o1, none⟩ : Addr).add (i * 1)) [.slice (some ⟨b3, o3, none⟩) u.length cu], .loc ((⟨b2, o2, none⟩ : Addr).add (i * 1)) [.slice (some ⟨b4, o4, none⟩) v.length dv], .loc ((⟨b3, o3, none⟩ : Addr).add (k * 1)) [.string (sb x)], .loc ((⟨b4, o4, none⟩ : Addr).add (k * 1)) [.string (sb y)]]) (.take 0 (.take 1 (.take 2 (.take 3 (.take 4 (.take 5 (.take 6 (.take 7 (.take 8 (.take 9 (.take 10 (.take 11 (.take 12 (.take 13 (.take 14 (.take 15 (.take 16 (.nil)))))))))))))))))) (by kernel_rfl) (M.kp (by simp) (by simp)) ?_
    refine p_fld fB4 rfl ?_
    refine t_load agg_tss rfl (fun W K => (K.B 0 rfl).at_ rfl) ?_
    refine p_at (i := i) sltss (by show Value.slice p.A4 a.txs.length p.c4 = _; rw [eA]) rfl rfl hlt ?_
    refine t_load agg_ts rfl (fun W K => K.lc 0 rfl 0 _ rfl) ?_
    refine p_at (i := k) slts rfl rfl rfl hlt2 ?_
    refine t_load agg_st rfl (fun W K => K.lc 2 rfl 0 _ rfl) ?_
    refine p_fld fB4 rfl ?_
    refine t_load agg_tss rfl (fun W K => (K.B 1 rfl).at_ rfl) ?_
    refine p_at (i := i) sltss (by show Value.slice r.A4 b.txs.length r.c4 = _; rw [eB]) rfl rfl (by omega) ?_
    refine t_load agg_ts rfl (fun W K => K.lc 1 rfl 0 _ rfl) ?_
    refine p_at (i := k) slts rfl rfl rfl (by omega) ?_
    refine t_load agg_st rfl (fun W K => K.lc 3 rfl 0 _ rfl) ?_
    refine p_sne rfl rfl (fun he => ?_) (fun he => ?_)
    rotate_left
    · exact ⟨false, rfl, ⟨(fun h => by cases h), fun e => absurd (congrArg Bk.txs e) (take_ne hu hv (take_ne hx hy (fun e => he (by rw [e]))))⟩, M.below⟩
    refine p_addN (b := 1) rfl rfl (by omega) ?_
    exact ⟨k + 1, ⟨by omega, take_ext htk hx hy (sb_inj.1 he), M.fsub _ (by simp)⟩, (by repeat (first | exact trivial | refine ⟨rfl, ?_⟩)), by omega⟩
  clear M
  rintro - E W ⟨ht4, M⟩
  refine p_fld fB5 rfl ?_
  refine v_load agg_os rfl ((M.B 1 rfl).at_ rfl) ?_
  refine p_fld fB5 rfl ?_
  refine v_load agg_os rfl ((M.B 0 rfl).at_ rfl) ?_
  refine cc is_r20all (r20all_any a.outs b.outs _ _ _ _ _ _ _ _ (M.d1 0 rfl) (M.d1 1 rfl) M.olt hl3 hl4 hlb.2.2.2) ?_
  rintro e W ⟨q, rfl, hq, hb⟩
  replace M := M.call hb
  clear hb
  refine ⟨_, rfl, ?_⟩
  exact ⟨q, rfl, ⟨fun h => Bk.ext' q0 hq1 hq2 hq3 ht4 (hq.1 h) hq6, fun e => hq.2 (by rw [e])⟩, M.below⟩
end Go.Proofs.YtejbljopighenaaDoor
namespace Go.Proofs.YtejbljopighenaaDoor
open Go.RowKit
theorem part_s {s a0 a1 a2 a3 a4 a5 a6 : List UInt8} {T : List (List (List UInt8))} {O : List Out} (h : spE s = 0 ∧ gE a0 0 = 0 ∧ gN a0 0 ≤ 9223372036854775807) (ht : txsP a4 = some T) (ho : outsP a5 = some O) : partBk s a0 a1 a2 a3 a4 a5 a6 = some ⟨gN a0 0, a1, a2, a3, T, O, a6⟩ := by unfold partBk; rw [if_pos h, ht, ho]; rfl
theorem RdL.ht {W : World} {F : Nat → Prop} {d : D} {ds : List D} {u : Value} {us : List Value} (h : RdL W F (d :: ds) (u :: us)) : RdD W F d u ∧ RdL W F ds us := by
  obtain ⟨v, vs, e, h1, h2⟩ := h.uncons
  injection e with e1 e2
  subst e1; subst e2
  exact ⟨h1, h2⟩
end Go.Proofs.YtejbljopighenaaDoor
