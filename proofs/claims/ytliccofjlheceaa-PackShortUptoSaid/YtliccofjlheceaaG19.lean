/- The walk of node.Count (a function that calls itself through a variable); what it counts. law07: known, much. law07: folded (which says, too, whether it did fold). Lists of bytes as bytes: the walk of vint.Split. Numbers and bytes in one way: plain laws of what stands at a place. Lists of bytes as bytes: plain laws: what is joined is split as it was, what is split is joined as it was, one byte more, one byte less. The walks of the laws NodeFolds and NodeDigests. Memory that is written over, but keeps its kinds; the walk of reference 00's Spoil. The walk of the law NodeSame. Nodes' bytes, plainly: what is written is read. Package pack: what is sent and what is read, plainly. -/
import Derived.Test.YtliccofjlheceaaG18
import Derived.Test.YtliccofjlheceaaG15
import Derived.Test.YtliccofjlheceaaG17
import Derived.Test.YtliccofjlheceaaG11
import Derived.Test.YtliccofjlheceaaG09
import Derived.Test.YtliccofjlheceaaG04
import Derived.Test.YtliccofjlheceaaG05
namespace Go.Proofs.Ytliccofjlheceaa
open Go.RowKit
mutual
/-- How many nodes, how many stubs. -/
def cntP : Nd → Nat × Nat
  | .mk k _ _ _ ks _ => ((if k = 0 then 0 else 1) + (cntsP ks).1, (if k = 4 then 1 else 0) + (cntsP ks).2)
def cntsP : List Nd → Nat × Nat
  | [] => (0, 0)
  | t :: ts => ((cntP t).1 + (cntsP ts).1, (cntP t).2 + (cntsP ts).2)
end
theorem cntP_eq (t : Nd) : cntP t = ((if t.kind = 0 then 0 else 1) + (cntsP t.kids).1, (if t.kind = 4 then 1 else 0) + (cntsP t.kids).2) := by cases t; rw [cntP]; rfl
theorem cntsP_snoc (a : List Nd) (k : Nd) : cntsP (a ++ [k]) = ((cntsP a).1 + (cntP k).1, (cntsP a).2 + (cntP k).2) := by
  induction a with
  | nil => rw [List.nil_append, cntsP, cntsP, cntsP]; simp
  | cons x a ih =>
    rw [List.cons_append, cntsP, cntsP, ih]
    dsimp only
    rw [Nat.add_assoc, Nat.add_assoc]
mutual
theorem cntP_sz : ∀ t : Nd, (cntP t).1 + 5 ≤ sz t ∧ (cntP t).2 + 5 ≤ sz t
  | .mk k p h v ks hs => by
    have := cntsP_sz ks
    rw [cntP, sz]
    constructor <;> dsimp only <;> split <;> omega
theorem cntsP_sz : ∀ ks : List Nd, (cntsP ks).1 ≤ szs ks ∧ (cntsP ks).2 ≤ szs ks
  | [] => by rw [cntsP]; simp
  | t :: ts => by
    have h1 := cntP_sz t
    have h2 := cntsP_sz ts
    rw [cntsP, szs]
    constructor <;> dsimp only <;> omega
end
theorem szs_appC : ∀ a b : List Nd, szs (a ++ b) = szs a + szs b
  | [], b => by rw [List.nil_append, szs, Nat.zero_add]
  | t :: a, b => by rw [List.cons_append, szs, szs, szs_appC a b, Nat.add_assoc]
theorem is_cnt1 : isFn Try.prog 61 = true := by kernel_rfl
theorem ag_fnd : aggOf Try.prog 50 = some (false, 1) := by kernel_rfl
theorem sz_fnd : (Try.prog.info? 50).map (·.size) = some 1 := by kernel_rfl
theorem sz_intt : (Try.prog.info? 3).map (·.size) = some 1 := by kernel_rfl
def fv (g4 g5 g6 : Nat) : Value := .func (.func 61) #[] #[.pointer (some ⟨g4, 0, none⟩), .pointer (some ⟨g5, 0, none⟩), .pointer (some ⟨g6, 0, none⟩)]
def CntOk (t : Nd) : Prop := ∀ (w W : World) (gs : List (Option Nat)) (g4 g5 g6 a s : Nat) (L : Lc) (R : List Row) (fs : List Fact) (cs : List Value), a + sz t ≤ 1000000000000000 → s + sz t ≤ 1000000000000000 →
  RdL W (Fd W (own ((g6, 50, [fv g4 g5 g6]) :: (g5, 3, [.int .i64 (s : Nat)]) :: (g4, 3, [.int .i64 (a : Nat)]) :: L) R gs)) (dN t) cs →
  St w gs W ((g6, 50, [fv g4 g5 g6]) :: (g5, 3, [.int .i64 (s : Nat)]) :: (g4, 3, [.int .i64 (a : Nat)]) :: L) R fs →
  Calls Try.prog 61 #[.agg cs.toArray, .pointer (some ⟨g4, 0, none⟩), .pointer (some ⟨g5, 0, none⟩), .pointer (some ⟨g6, 0, none⟩)] W fun e W' => (∃ v, e = .returned v) ∧
    St w gs W' ((g6, 50, [fv g4 g5 g6]) :: (g5, 3, [.int .i64 (s + (cntP t).2 : Nat)]) :: (g4, 3, [.int .i64 (a + (cntP t).1 : Nat)]) :: L) R fs
set_option maxRecDepth 100000 in
set_option maxHeartbeats 2000000 in
theorem cnt_step (N : Nat) (ih : ∀ k : Nd, sz k < N → CntOk k) (t : Nd) (ht : sz t ≤ N) : CntOk t := by
  intro w W gs g4 g5 g6 a s L R fs cs hza hzs hr M
  refine calls_ev (args := [.agg cs.toArray, .pointer (some ⟨g4, 0, none⟩), .pointer (some ⟨g5, 0, none⟩), .pointer (some ⟨g6, 0, none⟩)]) mixed Try.func61 rfl (by kernel_rfl) ?_
  have hsz := sz_eq t
  have hsl := szs_len t.kids
  obtain ⟨Ap, cp, Av, cv, Ak, ck, Ah, ch, rfl, -, -, r4, -⟩ := hr.node
  replace M := M.addD r4
  clear r4 hr
  have hcq := cntP_eq t
  obtain ⟨a1, ha1⟩ : ∃ a1, a1 = a + (if t.kind = 0 then 0 else 1) := ⟨_, rfl⟩
  obtain ⟨s1, hs1⟩ : ∃ s1, s1 = s + (if t.kind = 4 then 1 else 0) := ⟨_, rfl⟩
  have ha1' : a1 ≤ a + 1 := by rw [ha1]; split <;> omega
  have hs1' : s1 ≤ s + 1 := by rw [hs1]; split <;> omega
  refine ev_assoc (ev_assoc ?_)
  refine cutS Nat (fun gb W => St w gs W ((g6, 50, [fv g4 g5 g6]) :: (g5, 3, [.int .i64 (s1 : Nat)]) :: (g4, 3, [.int .i64 (a1 : Nat)]) :: L) R (.loc ⟨gb, 0, none⟩ (ncs t Ap cp Av cv Ak ck Ah ch) :: .dat false [dKs t.kids] [.slice Ak t.kids.length ck] :: fs))
    (fun gb => [(1, .pointer (some ⟨g4, 0, none⟩)), (2, .pointer (some ⟨g5, 0, none⟩)), (3, .pointer (some ⟨g6, 0, none⟩)), (4, .pointer (some ⟨gb, 0, none⟩))]) ?_ ?_
  ·
    refine s_box (ncs t Ap cp Av cv Ak ck Ah ch) M rfl ?_
    clear M
    rintro gb W M
    replace M := M.frzN
    refine p_fld fN0 rfl ?_
    refine v_load agg_int rfl (M.lc 0 rfl 0 _ rfl) ?_
    refine p_ne rfl rfl (fun h0 => ?_) (fun h0 => ?_)
    · rw [if_pos h0, Nat.add_zero] at ha1
      subst ha1
      refine p_fld fN0 rfl ?_
      refine v_load agg_int rfl (M.lc 0 rfl 0 _ rfl) ?_
      refine p_eq rfl rfl (fun h4 => ?_) (fun h4 => ?_)
      · rw [if_pos h4] at hs1
        refine v_load agg_int rfl ((M.B 1 rfl).at_ rfl) ?_
        refine p_addN (b := 1) rfl rfl (by omega) ?_
        rw [← hs1]
        refine s_set 1 (.int .i64 (s1 : Nat)) [.int .i64 (s1 : Nat)] M rfl sz_intt rfl rfl rfl (Nat.le_of_ble_eq_true rfl) rfl ?_
        clear M; rintro W M
        dsimp only [setL] at M
        exact ⟨gb, M, (by repeat (first | exact trivial | refine ⟨rfl, ?_⟩))⟩
      · rw [if_neg h4, Nat.add_zero] at hs1
        subst hs1
        exact ⟨gb, M, (by repeat (first | exact trivial | refine ⟨rfl, ?_⟩))⟩
    · rw [if_neg h0] at ha1
      refine v_load agg_int rfl ((M.B 2 rfl).at_ rfl) ?_
      refine p_addN (b := 1) rfl rfl (by omega) ?_
      rw [← ha1]
      refine s_set 2 (.int .i64 (a1 : Nat)) [.int .i64 (a1 : Nat)] M rfl sz_intt rfl rfl rfl (Nat.le_of_ble_eq_true rfl) rfl ?_
      clear M; rintro W M
      dsimp only [setL] at M
      refine p_fld fN0 rfl ?_
      refine v_load agg_int rfl (M.lc 0 rfl 0 _ rfl) ?_
      refine p_eq rfl rfl (fun h4 => ?_) (fun h4 => ?_)
      · rw [if_pos h4] at hs1
        refine v_load agg_int rfl ((M.B 1 rfl).at_ rfl) ?_
        refine p_addN (b := 1) rfl rfl (by omega) ?_
        rw [← hs1]
        refine s_set 1 (.int .i64 (s1 : Nat)) [.int .i64 (s1 : Nat)] M rfl sz_intt rfl rfl rfl (Nat.le_of_ble_eq_true rfl) rfl ?_
        clear M; rintro W M
        dsimp only [setL] at M
        exact ⟨gb, M, (by repeat (first | exact trivial | refine ⟨rfl, ?_⟩))⟩
      · rw [if_neg h4, Nat.add_zero] at hs1
        subst hs1
        exact ⟨gb, M, (by repeat (first | exact trivial | refine ⟨rfl, ?_⟩))⟩
  · clear M
    rintro gb E1 W1 M
    refine p_fld fN4 rfl ?_
    refine v_load agg_ns rfl (M.lc 0 rfl 4 _ rfl) ?_
    refine p_len sln rfl ?_
    refine lp Nat (fun i W => i ≤ t.kids.length ∧ St w gs W ((g6, 50, [fv g4 g5 g6]) :: (g5, 3, [.int .i64 (s1 + (cntsP (t.kids.take i)).2 : Nat)]) :: (g4, 3, [.int .i64 (a1 + (cntsP (t.kids.take i)).1 : Nat)]) :: L) R (.dat false [dKs t.kids] [.slice Ak t.kids.length ck] :: fs))
      (fun i => [(3, .pointer (some ⟨g6, 0, none⟩)), (18, .slice Ak t.kids.length ck), (19, .int .i64 t.kids.length), (20, .int .i64 i)]) (fun i => t.kids.length - i) 0 ⟨Nat.zero_le _, M.fsub _ (fun f h => List.mem_cons_of_mem _ h)⟩ (by repeat (first | exact trivial | refine ⟨rfl, ?_⟩)) ?_
    clear M
    rintro i E2 W2 ⟨hi, M⟩
    refine p_lt rfl rfl (fun hlt => ?_) (fun hge => ?_)
    · obtain ⟨k, hki⟩ : ∃ k, t.kids[i]? = some k := ⟨_, List.getElem?_eq_getElem (by omega)⟩
      have hki1 := List.getElem?_eq_some_iff.1 hki
      have hkz := szs_mem (List.mem_of_getElem? hki)
      have htk1 : t.kids.take (i + 1) = t.kids.take i ++ [k] := by rw [List.take_succ_eq_append_getElem hki1.1, hki1.2]
      have hcs := cntsP_snoc (t.kids.take i) k
      rw [← htk1] at hcs
      have hcz := cntsP_sz (t.kids.take i)
      have hsp : szs (t.kids.take i) + sz k ≤ szs t.kids := by
        have e : t.kids = t.kids.take (i + 1) ++ t.kids.drop (i + 1) := (List.take_append_drop ..).symm
        have h := congrArg szs e
        rw [htk1, szs_appC, szs_appC, szs, szs] at h
        omega
      obtain ⟨b, off, es, e0, hel, M'⟩ := M.kid (M.d1 0 rfl) hki
      replace M := M'; clear M'
      obtain ⟨Ap5, cp5, Av5, cv5, Ak5, ck5, Ah5, ch5, rfl, -⟩ := (M.da 1 rfl).node
      refine p_at sln (by show (Value.slice Ak t.kids.length ck) = _; rw [e0]) rfl rfl (by omega) ?_
      refine v_loadN (ncs k Ap5 cp5 Av5 cv5 Ak5 ck5 Ah5 ch5) agg_nd rfl hel (M.lc 0 rfl) ?_
      refine s_alloc (zN) M al_nd ?_
      clear M
      rintro g9 W M
      first | refine s_storeA 0 (ncs k Ap5 cp5 Av5 cv5 Ak5 ck5 Ah5 ch5) M rfl (by kernel_rfl) rfl rfl rfl (all1 rfl) rfl ?_ | refine s_storeA 1 (ncs k Ap5 cp5 Av5 cv5 Ak5 ck5 Ah5 ch5) M rfl (by kernel_rfl) rfl rfl rfl (all1 rfl) rfl ?_ | refine s_storeA 2 (ncs k Ap5 cp5 Av5 cv5 Ak5 ck5 Ah5 ch5) M rfl (by kernel_rfl) rfl rfl rfl (all1 rfl) rfl ?_ | refine s_storeA 3 (ncs k Ap5 cp5 Av5 cv5 Ak5 ck5 Ah5 ch5) M rfl (by kernel_rfl) rfl rfl rfl (all1 rfl) rfl ?_
      clear M
      rintro W M
      dsimp only [setL] at M
      replace M := M.frzN
      refine v_load ag_fnd rfl ((M.B 0 rfl).at_ rfl) ?_
      refine v_loadN (ncs k Ap5 cp5 Av5 cv5 Ak5 ck5 Ah5 ch5) agg_nd rfl hel (M.lc 0 rfl) ?_
      refine cc is_cnt1 (ih k (by omega) w _ gs g4 g5 g6 _ _ L R _ _ (by omega) (by omega) (M.da 2 rfl) M) ?_
      clear M
      rintro e W ⟨⟨v, rfl⟩, M⟩
      refine ⟨_, rfl, ?_⟩
      refine p_addN (b := 1) rfl rfl (by omega) ?_
      refine ⟨i + 1, ⟨by omega, ?_⟩, (by repeat (first | exact trivial | refine ⟨rfl, ?_⟩)), by omega⟩
      rw [hcs]
      dsimp only
      rw [← Nat.add_assoc, ← Nat.add_assoc]
      exact M.fsub _ (by intro f hf; simp only [List.mem_cons] at hf ⊢; rcases hf with h | h <;> simp [h])
    · have hin : i = t.kids.length := by omega
      subst hin
      rw [List.take_of_length_le (Nat.le_refl _)] at M
      refine ⟨⟨_, rfl⟩, ?_⟩
      rw [hcq]
      dsimp only
      rw [← Nat.add_assoc, ← Nat.add_assoc, ← ha1, ← hs1]
      exact M.fsub _ (fun f h => List.mem_cons_of_mem _ h)
theorem cnt_any : ∀ (N : Nat), ∀ t : Nd, sz t < N → CntOk t
  | 0, t, h => by omega
  | N + 1, t, h => cnt_step N (fun k hk => cnt_any N k hk) t (by omega)
set_option maxRecDepth 100000 in
set_option maxHeartbeats 2000000 in
theorem ncount_any (t : Nd) (ht : sz t ≤ 100000000000000) (gs : List (Option Nat)) (w : World) (cs : List Value) (hr : RdL w (Fd w gs) (dN t) cs) (hgs : ∀ b, some b ∈ gs → b < w.heap.size) :
    Calls Try.prog 44 #[.agg cs.toArray] w fun e w' => e = .returned (.tuple #[.int .i64 ((cntP t).1 : Nat), .int .i64 ((cntP t).2 : Nat)]) ∧ Below w.heap.size w w' := by
  refine calls_ev (args := [.agg cs.toArray]) mixed Try.func44 rfl (by kernel_rfl) ?_
  obtain ⟨Ap, cp, Av, cv, Ak, ck, Ah, ch, rfl, -⟩ := id hr.node
  have M := (St.start hgs).addL hr
  clear hr
  refine s_box (ncs t Ap cp Av cv Ak ck Ah ch) M rfl ?_
  clear M
  rintro g1 W M
  replace M := M.frzN
  refine s_alloc ([.int .i64 0]) M (by kernel_rfl) ?_
  clear M
  rintro g4 W M
  refine s_alloc ([.int .i64 0]) M (by kernel_rfl) ?_
  clear M
  rintro g5 W M
  refine s_set 1 (.int .i64 0) [.int .i64 0] M rfl sz_intt rfl rfl rfl (Nat.le_of_ble_eq_true rfl) rfl ?_
  clear M; rintro W M
  dsimp only [setL] at M
  refine s_set 0 (.int .i64 0) [.int .i64 0] M rfl sz_intt rfl rfl rfl (Nat.le_of_ble_eq_true rfl) rfl ?_
  clear M; rintro W M
  dsimp only [setL] at M
  refine s_alloc ([.nilFunc]) M (by kernel_rfl) ?_
  clear M
  rintro g6 W M
  refine p_fun (#[] : Array Operand) _ ?_
  refine s_set 0 (fv g4 g5 g6) [fv g4 g5 g6] M rfl sz_fnd rfl rfl rfl (Nat.le_of_ble_eq_true rfl) rfl ?_
  clear M; rintro W M
  dsimp only [setL] at M
  refine v_load ag_fnd rfl ((M.B 0 rfl).at_ rfl) ?_
  refine v_loadN (ncs t Ap cp Av cv Ak ck Ah ch) agg_nd rfl rfl (M.lc 0 rfl) ?_
  refine cc is_cnt1 (cnt_any 1000000000000000 t (by omega) w _ gs g4 g5 g6 0 0 [] [] _ _ (by omega) (by omega) (M.da 1 rfl) M) ?_
  clear M
  rintro e W ⟨⟨v, rfl⟩, M⟩
  refine ⟨_, rfl, ?_⟩
  rw [Nat.zero_add, Nat.zero_add] at M
  replace M := M.drew
  refine drT (Kp w gs [(g5, 3, [.int .i64 ((cntP t).2 : Nat)]), (g4, 3, [.int .i64 ((cntP t).1 : Nat)])] []) (.take 0 (.take 1 (.take 2 (.take 3 (.nil))))) (by kernel_rfl) (M.kp (by simp) (by simp)) ?_
  refine t_load agg_int rfl (fun W K => (K.B 1 rfl).at_ rfl) ?_
  refine t_load agg_int rfl (fun W K => (K.B 0 rfl).at_ rfl) ?_
  exact ⟨rfl, M.below⟩
end Go.Proofs.Ytliccofjlheceaa
namespace Go.Proofs.Ytliccofjlheceaa

/-- What is read at a place stands there; the bytes up to behind it. -/
theorem g_split {l : List UInt8} {a : Nat} (h : gE l (a : Int) = 0) : ∃ N t : Nat, gN l (a : Int) = N ∧ N < 18446744073709551616 ∧ gTo l (a : Int) = ((a + t : Nat) : Int) ∧ t = (putN N).length ∧ 1 ≤ t ∧ a + t ≤ l.length ∧ (l.drop a).take t = putN N ∧ l.take (a + t) = l.take a ++ putN N := by
  obtain ⟨x, t, hx, hxl, ht, hT, h1, hle, htk, hlt⟩ := g_ok h
  have hax : a = x := by omega
  subst hax
  obtain ⟨N, hN⟩ := Int.eq_ofNat_of_zero_le (gN_nonneg l (a : Int))
  rw [hN] at ht htk hlt
  refine ⟨N, t, hN, by omega, hT, ht, h1, hle, htk, ?_⟩
  rw [Int.toNat_natCast] at htk
  rw [← htk, List.take_add]
end Go.Proofs.Ytliccofjlheceaa
namespace Go.Proofs.Ytliccofjlheceaa

/-- Bytes that were written are read, wherever they stand. -/
theorem gb_put (p s r : List UInt8) (h : s.length ≤ 1048576) : gbE (p ++ (putB s ++ r)) (p.length : Int) = 0 ∧ gbL (p ++ (putB s ++ r)) (p.length : Int) = s ∧ gbTo (p ++ (putB s ++ r)) (p.length : Int) = ((p.length + (putB s).length : Nat) : Int) := by
  have e : putB s ++ r = putN s.length ++ (s ++ r) := by unfold putB; rw [List.append_assoc]
  rw [e]
  obtain ⟨g1, g2, g3⟩ := g_put p s.length (s ++ r) (by omega)
  obtain ⟨k1, k2, k3⟩ := gb_ok g1 (by rw [g2]; omega) (by rw [g2, g3]; simp only [List.length_append]; omega)
  refine ⟨k1, ?_, ?_⟩
  · rw [k2, g2, g3, Int.toNat_natCast, Int.toNat_natCast, ← List.append_assoc, List.drop_append_of_le_length (by simp), List.drop_of_length_le (by simp), List.nil_append, List.take_append_of_le_length (Nat.le_refl _), List.take_length]
  · rw [k3, g2, g3, putB_len]; omega
end Go.Proofs.Ytliccofjlheceaa
namespace Go.Proofs.Ytliccofjlheceaa
open Go.RowKit
def soft (v v' : Value) : Prop := v' = v ∨ (∃ (c c' : UInt8), v = u8v c ∧ v' = u8v c') ∨ (∃ x y : Int, v = .int .i64 x ∧ v' = .int .i64 y)
theorem soft.trans {a b c : Value} (h : soft a b) (k : soft b c) : soft a c := by
  rcases h with rfl | ⟨x, y, rfl, rfl⟩ | ⟨x, y, rfl, rfl⟩
  · exact k
  · rcases k with rfl | ⟨x', y', h1, rfl⟩ | ⟨x', y', h1, rfl⟩
    · exact .inr (.inl ⟨_, _, rfl, rfl⟩)
    · exact .inr (.inl ⟨_, _, rfl, rfl⟩)
    · unfold u8v at h1; injection h1 with h1; cases h1
  · rcases k with rfl | ⟨x', y', h1, rfl⟩ | ⟨x', y', h1, rfl⟩
    · exact .inr (.inr ⟨_, _, rfl, rfl⟩)
    · unfold u8v at h1; injection h1 with h1; cases h1
    · exact .inr (.inr ⟨_, _, rfl, rfl⟩)
theorem soft.byte {c : UInt8} {v : Value} (h : soft (u8v c) v) : ∃ c', v = u8v c' := by
  rcases h with rfl | ⟨x, y, _, rfl⟩ | ⟨x, y, h1, rfl⟩
  · exact ⟨c, rfl⟩
  · exact ⟨y, rfl⟩
  · unfold u8v at h1; injection h1 with h1; cases h1
theorem soft.sl {A : Option Addr} {n c : Nat} {v : Value} (h : soft (.slice A n c) v) : v = .slice A n c := by
  rcases h with rfl | ⟨x, y, h1, rfl⟩ | ⟨x, y, h1, rfl⟩
  · rfl
  · cases h1
  · cases h1
theorem soft.int {x : Int} {v : Value} (h : soft (.int .i64 x) v) : ∃ y, v = .int .i64 y := by
  rcases h with rfl | ⟨c, y, h1, rfl⟩ | ⟨x, y, h1, rfl⟩
  · exact ⟨_, rfl⟩
  · unfold u8v at h1; injection h1 with h1; cases h1
  · exact ⟨_, rfl⟩
/-- Only what lies in some blocks is written, and keeps its kind. -/
structure Tame (B : Nat → Prop) (W W' : World) : Prop where
  low : ∀ base, (∀ b, B b → base ≤ b) → Below base W W'
  size : W'.heap.size = W.heap.size
  out : ∀ b, ¬ B b → W'.heap[b]? = W.heap[b]?
  inn : ∀ a v, W.cell? a = some v → ∃ v', W'.cell? a = some v' ∧ soft v v'
  thaw : ∀ b, Thaw W b → Thaw W' b
theorem Tame.refl (B : Nat → Prop) (W : World) : Tame B W W := ⟨fun base _ => Below.refl _ _, rfl, fun _ _ => rfl, fun a v h => ⟨v, h, .inl rfl⟩, fun b h => h⟩
theorem Tame.trans {B : Nat → Prop} {W W1 W2 : World} (h : Tame B W W1) (k : Tame B W1 W2) : Tame B W W2 :=
  ⟨fun base hb => (h.low base hb).trans (k.low base hb), k.size.trans h.size, fun b hb => (k.out b hb).trans (h.out b hb), fun a v hv => by
    obtain ⟨v1, h1, s1⟩ := h.inn a v hv
    obtain ⟨v2, h2, s2⟩ := k.inn a v1 h1
    exact ⟨v2, h2, s1.trans s2⟩, fun b hb => k.thaw b (h.thaw b hb)⟩
theorem heap_set_at {W : World} {b o : Nat} {c : Array Value} {e : TypeId} {z : Nat × Nat} (v : Value) (h : W.heap[b]? = some (.cells c e z)) : (W.setCell ⟨b, o, none⟩ v).heap[b]? = some (.cells (c.setIfInBounds o v) e z) := by
  unfold World.setCell
  simp only [Array.getElem?_modify, h, if_pos]
  rfl
theorem cell_set {W : World} {b o : Nat} {old v : Value} (hc : W.cell? ⟨b, o, none⟩ = some old) {a : Addr} {u : Value} (ha : W.cell? a = some u) : (W.setCell ⟨b, o, none⟩ v).cell? a = some (if a.block = b ∧ a.off = o then v else u) := by
  by_cases hb : a.block = b
  · have hsp := World.cell?_spot ha
    obtain ⟨ab, ao, asp⟩ := a
    dsimp only at hb hsp ⊢
    subst hb
    subst hsp
    cases hh : W.heap[ab]? with
    | none => unfold World.cell? at ha; dsimp only at ha; rw [hh] at ha; cases ha
    | some ob =>
      cases ob with
      | cells c e z =>
        have h2 := heap_set_at (o := o) v hh
        unfold World.cell? at ha hc ⊢
        dsimp only at ha hc ⊢
        rw [hh] at ha hc
        rw [h2]
        simp only [Option.isSome_none, Bool.false_eq_true, if_false] at ha hc ⊢
        by_cases ho : ao = o
        · subst ho
          rw [if_pos (by simp), Array.getElem?_setIfInBounds_self_of_lt (Array.getElem?_eq_some_iff.1 hc).1]
        · rw [if_neg (fun h => ho h.2), Array.getElem?_setIfInBounds_ne (fun e => ho e.symm)]; exact ha
      | _ => unfold World.cell? at ha; dsimp only at ha; rw [hh] at ha; cases ha
  · rw [if_neg (fun h => hb h.1)]
    exact (World.cell?_of_block (w := W) (Below.heap_setCell W ⟨b, o, none⟩ v a.block hb)).trans ha
theorem Tame.set {B : Nat → Prop} {W W1 : World} (h : Tame B W W1) {b o : Nat} {old v : Value} (hB : B b) (hc : W1.cell? ⟨b, o, none⟩ = some old) (hs : soft old v) : Tame B W (W1.setCell ⟨b, o, none⟩ v) :=
  h.trans ⟨fun base hb => (Below.refl _ _).setCell (hb b hB) v, by unfold World.setCell; simp, fun k hk => Below.heap_setCell W1 ⟨b, o, none⟩ v k (fun e => hk (e ▸ hB)), fun a u hu => by
    refine ⟨_, cell_set hc hu, ?_⟩
    by_cases hab : a.block = b ∧ a.off = o
    · rw [if_pos hab]
      have hsp := World.cell?_spot hu
      obtain ⟨ab, ao, asp⟩ := a
      dsimp only at hab hsp
      obtain ⟨rfl, rfl⟩ := hab
      subst hsp
      rw [hc] at hu
      injection hu with hu
      rw [← hu]; exact hs
    · rw [if_neg hab]; exact .inl rfl, fun k hk => by
    by_cases e : k = b
    · subst e
      intro cs T z hz
      cases hh : W1.heap[k]? with
      | none => unfold World.cell? at hc; dsimp only at hc; rw [hh] at hc; cases hc
      | some ob =>
        cases ob with
        | cells c e z' =>
          rw [heap_set_at v hh] at hz
          injection hz with hz
          injection hz with _ _ hz
          rw [← hz]; exact hk c e z' hh
        | _ => unfold World.cell? at hc; dsimp only at hc; rw [hh] at hc; cases hc
    · exact hk.same (Below.heap_setCell W1 ⟨b, o, none⟩ v k e)⟩
/-- A slice of bytes, whichever they are. -/
def SoftRd (B : Nat → Prop) (W : World) (A : Option Addr) (n : Nat) : Prop := 0 < n → ∃ b off, A = some ⟨b, off, none⟩ ∧ B b ∧ ∀ j, j < n → ∃ c : UInt8, W.cell? ⟨b, off + j, none⟩ = some (u8v c)
theorem SoftRd.up {B : Nat → Prop} {W W' : World} {A : Option Addr} {n : Nat} (h : SoftRd B W A n) (t : Tame B W W') : SoftRd B W' A n := fun hn => by
  obtain ⟨b, off, e, hB, hc⟩ := h hn
  refine ⟨b, off, e, hB, fun j hj => ?_⟩
  obtain ⟨c, hc⟩ := hc j hj
  obtain ⟨v', h1, h2⟩ := t.inn _ _ hc
  obtain ⟨c', rfl⟩ := h2.byte
  exact ⟨c', h1⟩
theorem SoftRd.of {B F : Nat → Prop} {W : World} {A : Option Addr} {n c : Nat} {l : List UInt8} (h : RdD W F (dB l) (.slice A n c)) (hF : ∀ b, F b → B b) (hlt : ∀ b, F b → b < W.heap.size) : SoftRd B W A n := fun hn => by
  have e := h.slen
  obtain ⟨A', c', e1, _, hr⟩ := h.bytes hlt
  injection e1 with e1 e2 e3
  subst e1
  subst e2
  obtain ⟨b, off, rfl, _⟩ := hr.at_ (k := 0) (by omega)
  refine ⟨b, off, rfl, hF b (RdD.blk0 h hn), fun j hj => ?_⟩
  obtain ⟨b', off', e2, hc⟩ := hr.at_ (k := j) hj
  injection e2 with e2
  injection e2 with e2 e3
  subst e2; subst e3
  exact ⟨l.getD j 0, hc⟩
end Go.Proofs.Ytliccofjlheceaa
namespace Go.Proofs.Ytliccofjlheceaa
open Go.RowKit
def by8 (a b c d e f g h : Bool) : Nat := (if a then 128 else 0) + (if b then 64 else 0) + (if c then 32 else 0) + (if d then 16 else 0) + (if e then 8 else 0) + (if f then 4 else 0) + (if g then 2 else 0) + (if h then 1 else 0)
theorem by8_bits : ∀ a b c d e f g h : Bool, by8 a b c d e f g h < 256 ∧ decide (by8 a b c d e f g h / 128 % 2 = 1) = a ∧ decide (by8 a b c d e f g h / 64 % 2 = 1) = b ∧ decide (by8 a b c d e f g h / 32 % 2 = 1) = c ∧ decide (by8 a b c d e f g h / 16 % 2 = 1) = d ∧ decide (by8 a b c d e f g h / 8 % 2 = 1) = e ∧ decide (by8 a b c d e f g h / 4 % 2 = 1) = f ∧ decide (by8 a b c d e f g h / 2 % 2 = 1) = g ∧ decide (by8 a b c d e f g h / 1 % 2 = 1) = h := by decide +kernel
def nz (ks : List Nd) (i : Nat) : Bool := decide ((ks.getD i noneN).kind ≠ 0)
theorem kbit_nz (ks : List Nd) (i c : Nat) (h : 128 / 2 ^ (i % 8) = c) : kbit ks i = if nz ks i then c else 0 := by
  unfold kbit nz
  rw [h]
  by_cases hk : (ks.getD i noneN).kind ≠ 0
  · rw [if_pos hk, decide_eq_true hk]; rfl
  · rw [if_neg hk, decide_eq_false hk]; rfl
theorem kbits_by8 (ks : List Nd) : kbits ks 16 = (by8 (nz ks 0) (nz ks 1) (nz ks 2) (nz ks 3) (nz ks 4) (nz ks 5) (nz ks 6) (nz ks 7), by8 (nz ks 8) (nz ks 9) (nz ks 10) (nz ks 11) (nz ks 12) (nz ks 13) (nz ks 14) (nz ks 15)) := by
  have e : kbits ks 16 = (kbit ks 0 + kbit ks 1 + kbit ks 2 + kbit ks 3 + kbit ks 4 + kbit ks 5 + kbit ks 6 + kbit ks 7, kbit ks 8 + kbit ks 9 + kbit ks 10 + kbit ks 11 + kbit ks 12 + kbit ks 13 + kbit ks 14 + kbit ks 15) := by simp [kbits]
  rw [e]
  unfold by8
  rw [kbit_nz ks 0 128 (by decide), kbit_nz ks 1 64 (by decide), kbit_nz ks 2 32 (by decide), kbit_nz ks 3 16 (by decide), kbit_nz ks 4 8 (by decide), kbit_nz ks 5 4 (by decide), kbit_nz ks 6 2 (by decide), kbit_nz ks 7 1 (by decide), kbit_nz ks 8 128 (by decide), kbit_nz ks 9 64 (by decide), kbit_nz ks 10 32 (by decide), kbit_nz ks 11 16 (by decide), kbit_nz ks 12 8 (by decide), kbit_nz ks 13 4 (by decide), kbit_nz ks 14 2 (by decide), kbit_nz ks 15 1 (by decide)]
theorem bitB_nz (ks : List Nd) {i : Nat} (hi : i < 16) : bitB [UInt8.ofNat (kbits ks 16).1, UInt8.ofNat (kbits ks 16).2] i = nz ks i := by
  rw [kbits_by8]
  obtain ⟨h1, a0, a1, a2, a3, a4, a5, a6, a7⟩ := by8_bits (nz ks 0) (nz ks 1) (nz ks 2) (nz ks 3) (nz ks 4) (nz ks 5) (nz ks 6) (nz ks 7)
  obtain ⟨h2, b0, b1, b2, b3, b4, b5, b6, b7⟩ := by8_bits (nz ks 8) (nz ks 9) (nz ks 10) (nz ks 11) (nz ks 12) (nz ks 13) (nz ks 14) (nz ks 15)
  dsimp only
  generalize by8 (nz ks 0) (nz ks 1) (nz ks 2) (nz ks 3) (nz ks 4) (nz ks 5) (nz ks 6) (nz ks 7) = x at *
  generalize by8 (nz ks 8) (nz ks 9) (nz ks 10) (nz ks 11) (nz ks 12) (nz ks 13) (nz ks 14) (nz ks 15) = y at *
  have ex : (UInt8.ofNat x).toNat = x := by rw [UInt8.toNat_ofNat', Nat.mod_eq_of_lt h1]
  have ey : (UInt8.ofNat y).toNat = y := by rw [UInt8.toNat_ofNat', Nat.mod_eq_of_lt h2]
  have key : ∀ i, i < 16 → bitB [UInt8.ofNat x, UInt8.ofNat y] i = decide ((if i < 8 then x else y) / 2 ^ (7 - i % 8) % 2 = 1) := by
    intro i hi
    unfold bitB
    by_cases h8 : i < 8
    · rw [if_pos h8, show i / 8 = 0 by omega]; show decide ((UInt8.ofNat x).toNat / _ % 2 = 1) = _; rw [ex]
    · rw [if_neg h8, show i / 8 = 1 by omega]; show decide ((UInt8.ofNat y).toNat / _ % 2 = 1) = _; rw [ey]
  rw [key i hi]
  have hc : i = 0 ∨ i = 1 ∨ i = 2 ∨ i = 3 ∨ i = 4 ∨ i = 5 ∨ i = 6 ∨ i = 7 ∨ i = 8 ∨ i = 9 ∨ i = 10 ∨ i = 11 ∨ i = 12 ∨ i = 13 ∨ i = 14 ∨ i = 15 := by omega
  rcases hc with rfl | rfl | rfl | rfl | rfl | rfl | rfl | rfl | rfl | rfl | rfl | rfl | rfl | rfl | rfl | rfl <;> assumption
end Go.Proofs.Ytliccofjlheceaa
namespace Go.Proofs.Ytliccofjlheceaa
open Go.RowKit
mutual
/-- Are two nodes the same? -/
def eqN : Nd → Nd → Bool
  | .mk k p h v ks hs, .mk k' p' h' v' ks' hs' => decide (k = k') && (decide (p = p') && (decide (h = h') && (decide (v = v') && (decide (hs = hs') && eqNs ks ks'))))
def eqNs : List Nd → List Nd → Bool
  | [], [] => true
  | a :: l, b :: m => eqN a b && eqNs l m
  | _, _ => false
end
mutual
theorem eqN_iff : ∀ a b : Nd, eqN a b = true ↔ a = b
  | .mk k p h v ks hs, .mk k' p' h' v' ks' hs' => by
    rw [eqN]
    simp only [Bool.and_eq_true, decide_eq_true_eq, eqNs_iff ks ks', Nd.mk.injEq]
    constructor
    · rintro ⟨h1, h2, h3, h4, h5, h6⟩; exact ⟨h1, h2, h3, h4, h6, h5⟩
    · rintro ⟨h1, h2, h3, h4, h5, h6⟩; exact ⟨h1, h2, h3, h4, h6, h5⟩
theorem eqNs_iff : ∀ a b : List Nd, eqNs a b = true ↔ a = b
  | [], [] => by rw [eqNs]; simp
  | [], b :: m => by rw [eqNs] <;> simp
  | a :: l, [] => by rw [eqNs] <;> simp
  | a :: l, b :: m => by
    rw [eqNs, Bool.and_eq_true, eqN_iff a b, eqNs_iff l m, List.cons.injEq]
end
/-- Where a node has come before. -/
def idxN (l : List Nd) (t : Nd) : Option Nat := l.findIdx? fun x => eqN x t
theorem idxN_some {l : List Nd} {t : Nd} {i : Nat} (h : idxN l t = some i) : i < l.length ∧ l.getD i noneN = t ∧ ∀ j, j < i → l.getD j noneN ≠ t := by
  unfold idxN at h
  rw [List.findIdx?_eq_some_iff_getElem] at h
  obtain ⟨h1, h2, h3⟩ := h
  refine ⟨h1, ?_, fun j hj e => ?_⟩
  · rw [List.getD_eq_getElem?_getD, List.getElem?_eq_getElem h1]
    exact (eqN_iff _ _).1 h2
  · have := h3 j hj
    rw [List.getD_eq_getElem?_getD, List.getElem?_eq_getElem (by omega)] at e
    exact this ((eqN_iff _ _).2 e)
theorem idxN_none {l : List Nd} {t : Nd} : idxN l t = none ↔ ∀ x ∈ l, x ≠ t := by
  unfold idxN
  rw [List.findIdx?_eq_none_iff]
  refine forall_congr' fun x => forall_congr' fun _ => ?_
  rw [← Bool.not_eq_true, eqN_iff]
/-- What is sent of a node itself. -/
def headP (t : Nd) : List UInt8 := if t.kind = 4 then 4 :: t.hash else encF t.kind t.path t.has t.val t.kids []
mutual
/-- What is sent of a node, with all below it, behind what has come; and what has come then. -/
def sdP : Nd → List Nd → List UInt8 × List Nd
  | .mk k p has v ks h, done => match idxN done (.mk k p has v ks h) with
    | some i => (5 :: putN i, done)
    | none => (headP (.mk k p has v ks h) ++ (sdK ks done).1, (sdK ks done).2 ++ [.mk k p has v ks h])
def sdK : List Nd → List Nd → List UInt8 × List Nd
  | [], done => ([], done)
  | t :: ts, done => if t.kind = 0 then sdK ts done else ((sdP t done).1 ++ (sdK ts (sdP t done).2).1, (sdK ts (sdP t done).2).2)
end
theorem sdP_eq (t : Nd) (done : List Nd) : sdP t done = match idxN done t with
    | some i => (5 :: putN i, done)
    | none => (headP t ++ (sdK t.kids done).1, (sdK t.kids done).2 ++ [t]) := by cases t; rw [sdP]; rfl
def packP (t : Nd) : List UInt8 × Int := if checkE t ≠ 0 then ([], checkE t) else if 5000 < (cntP t).1 then ([], 3) else ((sdP t []).1, 0)
/-- What comes of reading. -/
inductive Rr where
  | bad (e : Int)
  | got (n : Nd) (b : List UInt8) (done : List Nd) (left : Int)
inductive Rk where
  | bad (e : Int)
  | got (ks : List Nd) (b : List UInt8) (done : List Nd) (left : Int)
def textX (b : List UInt8) : Option (List UInt8 × List UInt8) := if gbE b 0 = 0 then some (gbL b 0, b.drop (gbTo b 0).toNat) else none
def againX (b : List UInt8) (done : List Nd) (left : Int) : Rr :=
  if gE b 0 = 0 ∧ gN b 0 < (done.length : Int) then
    (if left - ((cntP (done.getD (gN b 0).toNat noneN)).1 : Int) < 0 then .bad 3 else .got (done.getD (gN b 0).toNat noneN) (b.drop (gTo b 0).toNat) done (left - ((cntP (done.getD (gN b 0).toNat noneN)).1 : Int)))
  else .bad 11
def kidsA (f : List UInt8 → List Nd → Int → Rr) (set : List UInt8) : Nat → Nat → List Nd → List UInt8 → List Nd → Int → Rk
  | 0, _, acc, b, done, left => .got acc b done left
  | n + 1, i, acc, b, done, left => if bitB set i = true then (match f b done left with
      | .bad e => .bad e
      | .got k b1 d1 l1 => kidsA f set n (i + 1) (acc ++ [k]) b1 d1 l1)
    else kidsA f set n (i + 1) (acc ++ [noneN]) b done left
def bodyX (f : List UInt8 → List Nd → Int → Rr) (c : UInt8) (b : List UInt8) (done : List Nd) (left : Int) : Rr :=
  if c = 1 ∨ c = 2 then (match textX b with
    | none => .bad 11
    | some (p, b1) => if unpackE p ≠ 0 ∨ unpackB p ≠ decide (c = 1) then .bad 11
      else if c = 1 then (match textX b1 with
        | none => .bad 11
        | some (v, b2) => .got (.mk 1 (unpackL p) false v [] []) b2 (done ++ [.mk 1 (unpackL p) false v [] []]) left)
      else (match f b1 done left with
        | .bad e => .bad e
        | .got k b2 d2 l2 => .got (.mk 2 (unpackL p) false [] [k] []) b2 (d2 ++ [.mk 2 (unpackL p) false [] [k] []]) l2))
  else if c = 3 then (match b with
    | [] => .bad 11
    | h :: b1 => (match (if h = 1 then textX b1 else some ([], b1)) with
      | none => .bad 11
      | some (v, b2) => if b2.length < 2 then .bad 11 else (match kidsA f (b2.take 2) 16 0 [] (b2.drop 2) done left with
        | .bad e => .bad e
        | .got ks b3 d3 l3 => .got (.mk 3 [] (decide (h = 1)) v ks []) b3 (d3 ++ [.mk 3 [] (decide (h = 1)) v ks []]) l3)))
  else if c = 4 then (if b.length < 32 then .bad 11 else .got (.mk 4 [] false [] [] (b.take 32)) (b.drop 32) (done ++ [.mk 4 [] false [] [] (b.take 32)]) left)
  else .got noneN b (done ++ [noneN]) left
/-- A node, with all below it; F: so many nodes down at most. -/
def oneF : Nat → List UInt8 → List Nd → Int → Rr
  | _, [], _, _ => .bad 11
  | 0, c :: b, done, left => if c = 5 then againX b done left else .bad 11
  | F + 1, c :: b, done, left => if c = 5 then againX b done left else if 4 < c.toNat then .bad 11
    else if c ≠ 0 ∧ left - 1 < 0 then .bad 3 else bodyX (oneF F) c b done (if c = 0 then left else left - 1)
def unpP (b : List UInt8) : Nd × Int := if 1048576 < b.length then (noneN, 3) else match oneF 403 b [] 5000 with
  | .bad e => (noneN, e)
  | .got n r _ _ => if 0 < r.length ∨ packP n ≠ (b, 0) then (noneN, 11) else (n, 0)
theorem oneF_nil (F : Nat) (done : List Nd) (left : Int) : oneF F [] done left = .bad 11 := by cases F <;> rw [oneF]
theorem oneF_cons (F : Nat) (c : UInt8) (b : List UInt8) (done : List Nd) (left : Int) : oneF (F + 1) (c :: b) done left = if c = 5 then againX b done left else if 4 < c.toNat then .bad 11
    else if c ≠ 0 ∧ left - 1 < 0 then .bad 3 else bodyX (oneF F) c b done (if c = 0 then left else left - 1) := by rw [oneF]
mutual
def smP (B : Nat) : Nd → Prop
  | .mk k p _ v ks h => p.length + v.length + h.length ≤ B ∧ ks.length ≤ 16 ∧ (k = 0 → p = [] ∧ v = [] ∧ h = [] ∧ ks = []) ∧ smsP B ks
def smsP (B : Nat) : List Nd → Prop
  | [] => True
  | t :: ts => smP B t ∧ smsP B ts
end
theorem sms_all {B : Nat} : ∀ {ks : List Nd}, smsP B ks ↔ ∀ k ∈ ks, smP B k
  | [] => by rw [smsP]; simp
  | t :: ts => by rw [smsP, sms_all]; simp
mutual
theorem sm_sz (B : Nat) : ∀ t : Nd, smP B t → sz t ≤ (102 + B) * (cntP t).1 + 6
  | .mk k p has v ks h, hs => by
    rw [smP] at hs
    obtain ⟨h1, h2, h3, h4⟩ := hs
    have := sms_sz B ks h4
    rw [sz, cntP]
    dsimp only
    by_cases h0 : k = 0
    · obtain ⟨e1, e2, e3, e4⟩ := h3 h0
      subst e1; subst e2; subst e3; subst e4
      rw [if_pos h0, szs, cntsP]
      simp
    · rw [if_neg h0, Nat.mul_add, Nat.mul_one]
      omega
theorem sms_sz (B : Nat) : ∀ ks : List Nd, smsP B ks → szs ks ≤ (102 + B) * (cntsP ks).1 + 6 * ks.length
  | [], _ => by rw [szs]; exact Nat.zero_le _
  | t :: ts, hs => by
    rw [smsP] at hs
    have h1 := sm_sz B t hs.1
    have h2 := sms_sz B ts hs.2
    rw [szs, cntsP, List.length_cons, Nat.mul_add]
    omega
end
theorem sm_none (B : Nat) : smP B noneN := by unfold noneN; rw [smP, smsP]; simp
def smC (B : Nat) (t : Nd) : Prop := smP B t ∧ (cntP t).1 ≤ 5000
theorem smC_none (B : Nat) : smC B noneN := ⟨sm_none B, Nat.zero_le _⟩
theorem sm_get {B : Nat} {l : List Nd} (h : ∀ x ∈ l, smC B x) (i : Nat) : smC B (l.getD i noneN) := by
  by_cases hi : i < l.length
  · rw [List.getD_eq_getElem?_getD, List.getElem?_eq_getElem hi]
    exact h _ (List.getElem_mem hi)
  · rw [List.getD_eq_getElem?_getD, List.getElem?_eq_none (by omega)]
    exact smC_none B
theorem textX_le {b s r : List UInt8} (h : textX b = some (s, r)) : s.length ≤ b.length ∧ r.length ≤ b.length := by
  have h1 := textP_le ⟨b, false⟩
  unfold textP at h1
  dsimp only at h1
  unfold textX at h
  split at h
  · injection h with h
    injection h with e1 e2
    rw [← e1, ← e2]
    exact ⟨h1.2, h1.1⟩
  · cases h
/-- What a reading leaves: small, and no more than was there. -/
def Sz (B : Nat) (b : List UInt8) (done : List Nd) (left : Int) : Rr → Prop
  | .bad e => e = 3 ∨ e = 11
  | .got n b' d' l' => smC B n ∧ (∀ x ∈ d', smC B x) ∧ 0 ≤ l' ∧ ((cntP n).1 : Int) + l' ≤ left ∧ d'.length + b'.length ≤ done.length + b.length ∧ b'.length ≤ b.length
def SzK (B : Nat) (acc : List Nd) (m : Nat) (b : List UInt8) (done : List Nd) (left : Int) : Rk → Prop
  | .bad e => e = 3 ∨ e = 11
  | .got ks b' d' l' => (∀ x ∈ ks, smC B x) ∧ ks.length = m ∧ (∀ x ∈ d', smC B x) ∧ 0 ≤ l' ∧ ((cntsP ks).1 : Int) + l' ≤ (cntsP acc).1 + left ∧ d'.length + b'.length ≤ done.length + b.length ∧ b'.length ≤ b.length
theorem again_sz {B : Nat} {b : List UInt8} {done : List Nd} {left : Int} (hd : ∀ x ∈ done, smC B x) : Sz B b done left (againX b done left) := by
  unfold againX
  split
  · split
    · exact .inl rfl
    · refine ⟨sm_get hd _, hd, by omega, by omega, ?_, ?_⟩ <;> rw [List.length_drop] <;> omega
  · exact .inr rfl
theorem kids_sz {B : Nat} {f : List UInt8 → List Nd → Int → Rr} {set : List UInt8} (hf : ∀ b done left, 0 ≤ left → left ≤ 5000 → (∀ x ∈ done, smC B x) → 3 * b.length + 32 ≤ B → Sz B b done left (f b done left)) :
    ∀ (n i : Nat) (acc : List Nd) (b : List UInt8) (done : List Nd) (left : Int), 0 ≤ left → left ≤ 5000 → (∀ x ∈ acc, smC B x) → (∀ x ∈ done, smC B x) → 3 * b.length + 32 ≤ B → SzK B acc (acc.length + n) b done left (kidsA f set n i acc b done left)
  | 0, i, acc, b, done, left, h0, h5, ha, hd, hb => by
    rw [kidsA]
    exact ⟨ha, rfl, hd, h0, Int.le_refl _, Nat.le_refl _, Nat.le_refl _⟩
  | n + 1, i, acc, b, done, left, h0, h5, ha, hd, hb => by
    rw [kidsA]
    split
    · have h := hf b done left h0 h5 hd hb
      cases hr : f b done left with
      | bad e => rw [hr] at h; exact h
      | got k b1 d1 l1 =>
        rw [hr] at h
        obtain ⟨s1, s2, s3, s4, s5, s6⟩ := h
        have := kids_sz (set := set) hf n (i + 1) (acc ++ [k]) b1 d1 l1 s3 (by omega) (fun x hx => by
          rcases List.mem_append.1 hx with hx | hx
          · exact ha x hx
          · rw [List.mem_singleton.1 hx]; exact s1) s2 (by omega)
        dsimp only
        cases hk : kidsA f set n (i + 1) (acc ++ [k]) b1 d1 l1 with
        | bad e => rw [hk] at this; exact this
        | got ks b' d' l' =>
          rw [hk] at this
          obtain ⟨t1, t2, t3, t4, t5, t6, t7⟩ := this
          rw [cntsP_snoc] at t5
          rw [List.length_append, List.length_singleton] at t2
          exact ⟨t1, by omega, t3, t4, by dsimp only at t5; omega, by omega, by omega⟩
    · have := kids_sz (set := set) hf n (i + 1) (acc ++ [noneN]) b done left h0 h5 (fun x hx => by
        rcases List.mem_append.1 hx with hx | hx
        · exact ha x hx
        · rw [List.mem_singleton.1 hx]; exact smC_none B) hd hb
      cases hk : kidsA f set n (i + 1) (acc ++ [noneN]) b done left with
      | bad e => rw [hk] at this; exact this
      | got ks b' d' l' =>
        rw [hk] at this
        obtain ⟨t1, t2, t3, t4, t5, t6, t7⟩ := this
        rw [cntsP_snoc] at t5
        have e0 : (cntP noneN).1 = 0 := rfl
        rw [List.length_append, List.length_singleton] at t2
        exact ⟨t1, by omega, t3, t4, by dsimp only at t5; omega, t6, t7⟩
theorem body_sz {B : Nat} {f : List UInt8 → List Nd → Int → Rr} (hf : ∀ b done left, 0 ≤ left → left ≤ 5000 → (∀ x ∈ done, smC B x) → 3 * b.length + 32 ≤ B → Sz B b done left (f b done left))
    (c : UInt8) (b : List UInt8) (done : List Nd) (left : Int) (h0 : 0 ≤ left) (h5 : left + 1 ≤ 5000 ∨ (c = 0 ∧ left ≤ 5000)) (hd : ∀ x ∈ done, smC B x) (hb : 3 * b.length + 32 ≤ B) : Sz B (c :: b) done (if c = 0 then left else left + 1) (bodyX f c b done left) := by
  have hsn : ∀ {l : List Nd} {x : Nd}, (∀ y ∈ l, smC B y) → smC B x → ∀ y ∈ l ++ [x], smC B y := fun h1 h2 y hy => by
    rcases List.mem_append.1 hy with hy | hy
    · exact h1 y hy
    · rw [List.mem_singleton.1 hy]; exact h2
  unfold bodyX
  by_cases h12 : c = 1 ∨ c = 2
  · rw [if_pos h12]
    have hc0 : ¬ c = 0 := by rcases h12 with h | h <;> rw [h] <;> decide
    have h5 : left + 1 ≤ 5000 := h5.resolve_right fun h => hc0 h.1
    rw [if_neg hc0]
    cases ht : textX b with
    | none => exact .inr rfl
    | some r =>
      obtain ⟨p, b1⟩ := r
      have h1 := textX_le ht
      have hu := unpackL_len p
      dsimp only
      split
      · exact .inr rfl
      · split
        · cases ht2 : textX b1 with
          | none => exact .inr rfl
          | some r =>
            obtain ⟨v, b2⟩ := r
            have h2 := textX_le ht2
            have hs0 : smP B (.mk 1 (unpackL p) false v [] []) := by
              rw [smP, smsP]
              exact ⟨by rw [List.length_nil]; omega, by simp, fun h => absurd h (by decide), trivial⟩
            have hs : smC B (.mk 1 (unpackL p) false v [] []) := ⟨hs0, (by rw [cntP, cntsP]; simp)⟩
            exact ⟨hs, hsn hd hs, h0, by rw [cntP, cntsP]; simp; omega, by rw [List.length_append, List.length_cons, List.length_cons, List.length_nil]; omega, by rw [List.length_cons]; omega⟩
        · have h := hf b1 done left h0 (by omega) hd (by omega)
          cases hr : f b1 done left with
          | bad e => rw [hr] at h; exact h
          | got k b2 d2 l2 =>
            rw [hr] at h
            obtain ⟨s1, s2, s3, s4, s5, s6⟩ := h
            have hs0 : smP B (.mk 2 (unpackL p) false [] [k] []) := by
              rw [smP, smsP, smsP]
              exact ⟨by simp; omega, by simp, fun h => absurd h (by decide), s1.1, trivial⟩
            have hs : smC B (.mk 2 (unpackL p) false [] [k] []) := ⟨hs0, (by rw [cntP, cntsP, cntsP]; simp; omega)⟩
            exact ⟨hs, hsn s2 hs, s3, by rw [cntP, cntsP, cntsP]; simp; omega, by rw [List.length_append, List.length_cons, List.length_cons, List.length_nil]; omega, by rw [List.length_cons]; omega⟩
  rw [if_neg h12]
  by_cases h3 : c = 3
  · rw [if_pos h3]
    have hc0 : ¬ c = 0 := by rw [h3]; decide
    have h5 : left + 1 ≤ 5000 := h5.resolve_right fun h => hc0 h.1
    rw [if_neg hc0]
    cases b with
    | nil => exact .inr rfl
    | cons h b1 =>
      rw [List.length_cons] at hb
      dsimp only
      have key : ∀ v b2, (if h = 1 then textX b1 else some ([], b1)) = some (v, b2) → v.length ≤ b1.length ∧ b2.length ≤ b1.length := by
        intro v b2 e
        split at e
        · exact textX_le e
        · injection e with e; injection e with e1 e2; rw [← e1, ← e2]; exact ⟨Nat.zero_le _, Nat.le_refl _⟩
      cases ht : (if h = 1 then textX b1 else some ([], b1)) with
      | none => exact .inr rfl
      | some r =>
        obtain ⟨v, b2⟩ := r
        have h1 := key v b2 ht
        dsimp only
        split
        · exact .inr rfl
        · rename_i hl
          have hK := kids_sz (B := B) (set := b2.take 2) hf 16 0 [] (b2.drop 2) done left h0 (by omega) (fun x hx => by cases hx) hd (by rw [List.length_drop]; omega)
          cases hk : kidsA f (b2.take 2) 16 0 [] (b2.drop 2) done left with
          | bad e => rw [hk] at hK; exact hK
          | got ks b3 d3 l3 =>
            rw [hk] at hK
            obtain ⟨t1, t2, t3, t4, t5, t6, t7⟩ := hK
            rw [List.length_drop] at t6 t7
            have e0 : (cntsP []).1 = 0 := by rw [cntsP]
            have hs0 : smP B (.mk 3 [] (decide (h = 1)) v ks []) := by
              rw [smP]
              exact ⟨by simp; omega, by rw [t2]; simp, fun h => absurd h (by decide), sms_all.2 fun x hx => (t1 x hx).1⟩
            have hs : smC B (.mk 3 [] (decide (h = 1)) v ks []) := ⟨hs0, (by rw [cntP]; simp; omega)⟩
            exact ⟨hs, hsn t3 hs, t4, by rw [cntP]; simp; omega, by rw [List.length_append, List.length_cons, List.length_cons, List.length_cons, List.length_nil]; omega, by rw [List.length_cons, List.length_cons]; omega⟩
  rw [if_neg h3]
  by_cases h4 : c = 4
  · rw [if_pos h4]
    have hc0 : ¬ c = 0 := by rw [h4]; decide
    have h5 : left + 1 ≤ 5000 := h5.resolve_right fun h => hc0 h.1
    rw [if_neg hc0]
    split
    · exact .inr rfl
    · have hs0 : smP B (.mk 4 [] false [] [] (b.take 32)) := by
        rw [smP, smsP]
        exact ⟨by rw [List.length_take]; simp; omega, by simp, fun h => absurd h (by decide), trivial⟩
      have hs : smC B (.mk 4 [] false [] [] (b.take 32)) := ⟨hs0, (by rw [cntP, cntsP]; simp)⟩
      exact ⟨hs, hsn hd hs, h0, by rw [cntP, cntsP]; simp; omega, by rw [List.length_append, List.length_cons, List.length_cons, List.length_nil, List.length_drop]; omega, by rw [List.length_cons, List.length_drop]; omega⟩
  rw [if_neg h4]
  have e0 : (cntP noneN).1 = 0 := rfl
  refine ⟨smC_none B, hsn hd (smC_none B), h0, ?_, by rw [List.length_append, List.length_cons, List.length_cons, List.length_nil]; omega, by rw [List.length_cons]; omega⟩
  rw [e0]; split <;> omega
theorem one_sz {B : Nat} : ∀ (F : Nat) (b : List UInt8) (done : List Nd) (left : Int), 0 ≤ left → left ≤ 5000 → (∀ x ∈ done, smC B x) → 3 * b.length + 32 ≤ B → Sz B b done left (oneF F b done left)
  | F, [], done, left, _, _, _, _ => by rw [oneF_nil]; exact .inr rfl
  | 0, c :: b, done, left, h0, h5, hd, hb => by
    rw [oneF]
    split
    · have := again_sz (B := B) (b := b) (left := left) hd
      cases hr : againX b done left with
      | bad e => rw [hr] at this; exact this
      | got n b' d' l' =>
        rw [hr] at this
        obtain ⟨s1, s2, s3, s4, s5, s6⟩ := this
        exact ⟨s1, s2, s3, s4, by rw [List.length_cons]; omega, by rw [List.length_cons]; omega⟩
    · exact .inr rfl
  | F + 1, c :: b, done, left, h0, h5, hd, hb => by
    rw [List.length_cons] at hb
    rw [oneF]
    split
    · have := again_sz (B := B) (b := b) (left := left) hd
      cases hr : againX b done left with
      | bad e => rw [hr] at this; exact this
      | got n b' d' l' =>
        rw [hr] at this
        obtain ⟨s1, s2, s3, s4, s5, s6⟩ := this
        exact ⟨s1, s2, s3, s4, by rw [List.length_cons]; omega, by rw [List.length_cons]; omega⟩
    · split
      · exact .inr rfl
      · split
        · exact .inl rfl
        · rename_i hl
          by_cases hc : c = 0
          · rw [if_pos hc]
            have := body_sz (B := B) (f := oneF F) (fun b done left h0 h5 hd hb => one_sz F b done left h0 h5 hd hb) c b done left h0 (.inr ⟨hc, h5⟩) hd (by omega)
            rw [if_pos hc] at this
            exact this
          · rw [if_neg hc]
            have hl2 : ¬ left - 1 < 0 := fun h => hl ⟨hc, h⟩
            have := body_sz (B := B) (f := oneF F) (fun b done left h0 h5 hd hb => one_sz F b done left h0 h5 hd hb) c b done (left - 1) (by omega) (.inl (by omega)) hd (by omega)
            rw [if_neg hc, Int.sub_add_cancel] at this
            exact this
end Go.Proofs.Ytliccofjlheceaa
