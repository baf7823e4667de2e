/- A block's bytes are that block; cut short, or with more behind, they are none. Plainly; no walk here. law21: big. make([]byte, k). law21: known. -/
import Derived.Test.YtejbljopighenaaDoorG20
import Derived.Test.YtejbljopighenaaDoorG18
import Derived.Test.YtejbljopighenaaDoorG01
namespace Go.Proofs.YtejbljopighenaaDoor
theorem short_join {ll : List (List UInt8)} (h : (joinL ll).length ≤ 1048576) : short ll := fun s hs => by have := join_mem hs; omega
theorem cnt_join {ll : List (List UInt8)} (h : (joinL ll).length ≤ 1048576) : ll.length < 18446744073709551616 := by have := join_len ll; omega
theorem split_back {ll : List (List UInt8)} (h : (joinL ll).length ≤ 1048576) : spE (joinL ll) = 0 ∧ spL (joinL ll) = ll := split_join ll (cnt_join h) (short_join h)
theorem parse_blockB {b : Bk} {s : List UInt8} (h : encBk b = (s, 0)) (hf : FitsB b) : parseBk s = some b := by
  obtain ⟨h1, rfl, h3⟩ := encBk_ok h
  obtain ⟨⟨r1, r2, r3, r4, r5, r6⟩, r7, r8⟩ := right_iff.1 h1
  obtain ⟨t1, t2, t3, t4, t5, t6, t7, t8, t9⟩ := bk_txs b
  obtain ⟨s1, s2⟩ := split_back (ll := partsB b) (by unfold blockB at h3; exact h3)
  have s1' : spE (blockB b) = 0 := s1
  have s2' : spL (blockB b) = partsB b := s2
  rw [parse_7 s2']
  have g := g_put [] b.num.toNat [] (by have := hf.1; omega)
  rw [List.nil_append, List.append_nil, List.length_nil] at g
  have hN : gN (putN b.num.toNat) 0 = b.num := by have := g.2.1; rw [Int.natCast_zero] at this; rw [this]; omega
  have hE : gE (putN b.num.toNat) 0 = 0 := g.1
  have ht : txsP (joinL (txsB b)) = some b.txs := by
    obtain ⟨k1, k2⟩ := split_back (ll := txsB b) (by omega)
    have hx : ∀ x ∈ b.txs, spE (joinL x) = 0 ∧ spL (joinL x) = x := fun x hx => split_back (by have := (bk_tx hx).1; omega)
    rw [txsP_some k1 (fun x hx' => by
      rw [k2] at hx'
      obtain ⟨y, hy, rfl⟩ := List.mem_map.1 hx'
      exact (hx y hy).1), k2]
    unfold txsB
    rw [List.map_map]
    congr 1
    conv => rhs; rw [← List.map_id b.txs]
    exact List.map_congr_left fun x hx' => (hx x hx').2
  have ho : outsP (joinL (outsB b)) = some b.outs := by
    obtain ⟨k1, k2⟩ := split_back (ll := outsB b) (by omega)
    have hx : ∀ x ∈ b.outs, decO (outB x) = (x, 0) := fun x hx => dec_encO (encO_full (r8 x hx)) (hf.2.1 x hx)
    rw [outsP_some k1 (fun x hx' => by
      rw [k2] at hx'
      obtain ⟨y, hy, rfl⟩ := List.mem_map.1 hx'
      rw [hx y hy]), k2]
    unfold outsB
    rw [List.map_map]
    congr 1
    conv => rhs; rw [← List.map_id b.outs]
    exact List.map_congr_left fun x hx' => by show (decO (outB x)).1 = x; rw [hx x hx']
  rw [part_s ⟨s1', hE, by rw [hN]; exact hf.1⟩ ht ho, hN]
theorem dec_encBk {b : Bk} {s : List UInt8} (h : encBk b = (s, 0)) (hf : FitsB b) : decBk s = (b, 0) := by
  have h3 := (encBk_ok h).2.2
  have h2 := (encBk_ok h).2.1
  unfold decBk
  rw [if_neg (by rw [h2]; omega), parse_blockB h hf]
  show (if encBk b = (s, 0) then (b, 0) else (bkZ, 11)) = _
  rw [if_pos h]
theorem encB_le {l : List Val} (ho : ∀ v ∈ l, VOk v) (ht : tot l ≤ 1000000) : (encB l).length ≤ 10 + tot l := by
  unfold encB
  split
  · have := flat_len l ho
    have h1 := tot_len l
    have := putN_len10 (n := l.length) (by omega)
    rw [List.length_append]; omega
  · exact Nat.zero_le _
theorem resB_sm {r : Res} (hw : WfRes r) (h : resN r < 1000) : (resB r).length ≤ 110 * resN r := by
  have hl : ∀ l ∈ r.rows, (∀ v ∈ l, VOk v) ∧ tot l ≤ 1000000 := fun l hl => by
    have h1 := sum_mem (f := rowN) hl
    have h2 := tot_le l
    unfold resN at h
    exact ⟨hw.2 l hl, by omega⟩
  have hn : r.rows.length + 1 ≤ resN r := by
    have := sum_len (f := rowN) (l := r.rows) (fun x _ => by unfold rowN; omega)
    unfold resN; omega
  have h1 := sum_lin (l := r.rows) (f := fun l => (encB l).length) (g := rowN) 0 70 (fun l hl' => by
    have := encB_le (hl l hl').1 (hl l hl').2
    have := tot_le l
    have : 1 ≤ rowN l := by unfold rowN; omega
    omega)
  have e1 : ((r.rows.map encB).map fun s => s.length).sum = (r.rows.map fun l => (encB l).length).sum := by rw [List.map_map]; rfl
  have h2 : (manyB r.rows).length ≤ 10 + 80 * (r.rows.map rowN).sum := by
    unfold manyB
    split
    · have := join_le (ll := r.rows.map encB) (by rw [List.length_map]; omega) (fun x hx => by
        have := sum_mem (f := fun s : List UInt8 => s.length) hx
        unfold resN at h
        omega)
      rw [List.length_map] at this
      have h5 := sum_len (f := rowN) (l := r.rows) (fun x _ => by unfold rowN; omega)
      omega
    · exact Nat.zero_le _
  have h3 := putN_len10 (n := r.n.toNat) (by have := hw.1; omega)
  have h4 := putB_le (s := manyB r.rows) (by unfold resN at h; omega)
  unfold resB
  rw [List.length_append]
  unfold resN at *
  omega
theorem outB_sm {o : Out} (hw : WfOut o) (h : outN o < 1000) : (outB o).length ≤ 30 + 110 * outN o := by
  obtain ⟨⟨he, ha⟩, hw⟩ := hw
  have hr : ∀ r ∈ o.l, resN r < 1000 := fun r hr => by have := sum_mem (f := resN) hr; unfold outN at h; omega
  have hn : o.l.length ≤ outN o := sum_len (f := resN) (l := o.l) (fun x _ => by unfold resN; omega)
  have h1 := sum_lin (l := o.l) (f := fun r => (resB r).length) (g := resN) 0 110 (fun r hr' => by have := resB_sm (hw r hr') (hr r hr'); omega)
  unfold outB hdB
  rw [List.length_append, List.length_append, List.length_append, List.length_flatMap]
  have k1 := putN_len10 (n := o.e.toNat) (by omega)
  have k2 := putN_len10 (n := o.at_.toNat) (by omega)
  have k3 := putN_len10 (n := o.l.length) (by omega)
  unfold outN at *
  omega
/-- The bytes of a block that is not big are few. -/
theorem block_sm {b : Bk} (hw : WfB b) (hr : rightBk b = true) (h : bigN b < 800) : (blockB b).length ≤ 100000 := by
  obtain ⟨-, hw1, hw2⟩ := hw
  obtain ⟨⟨r1, r2, r3, r4, r5, r6⟩, r7, r8⟩ := right_iff.1 hr
  have hb : bigN b = baseN b + (b.txs.map txN).sum + (b.outs.map outN).sum := rfl
  have hbase : baseN b = b.proof.length / 20 + b.txs.length + b.outs.length := rfl
  have ho : ∀ o ∈ b.outs, outN o < 1000 := fun o ho => by have := sum_mem (f := outN) ho; omega
  have ht : ∀ t ∈ b.txs, txN t < 1000000 := fun t ht => by have := sum_mem (f := txN) ht; omega
  have h1 := sum_lin (l := b.outs) (f := fun o => (outB o).length) (g := outN) 30 110 (fun o ho' => by have := outB_sm (hw2 o ho') (ho o ho'); omega)
  have h2 := sum_lin (l := b.txs) (f := fun t => (joinL t).length) (g := txN) 10 29 (fun t ht' => by have := joinTx_le (ht t ht'); omega)
  have e1 : ((outsB b).map fun s => s.length).sum = (b.outs.map fun o => (outB o).length).sum := by unfold outsB; rw [List.map_map]; rfl
  have e2 : ((txsB b).map fun s => s.length).sum = (b.txs.map fun t => (joinL t).length).sum := by unfold txsB; rw [List.map_map]; rfl
  have l1 : (outsB b).length = b.outs.length := by unfold outsB; rw [List.length_map]
  have l2 : (txsB b).length = b.txs.length := by unfold txsB; rw [List.length_map]
  have j1 := join_le (ll := outsB b) (by omega) (fun x hx => by
    have := sum_mem (f := fun s : List UInt8 => s.length) hx
    omega)
  have j2 := join_le (ll := txsB b) (by omega) (fun x hx => by
    have := sum_mem (f := fun s : List UInt8 => s.length) hx
    omega)
  have n0 := putN_len10 (n := b.num.toNat) (by omega)
  have n7 : (putN (partsB b).length).length ≤ 10 := putN_len10 (n := 7) (by decide)
  unfold blockB
  rw [join_sum]
  unfold partsB at n7 ⊢
  have b0 := putB_le (s := putN b.num.toNat) (by omega)
  have b1 := putB_le (s := b.last) (by omega)
  have b2 := putB_le (s := b.prev) (by omega)
  have b3 := putB_le (s := b.next) (by omega)
  have b4 := putB_le (s := joinL (txsB b)) (by omega)
  have b5 := putB_le (s := joinL (outsB b)) (by omega)
  have b6 := putB_le (s := b.proof) (by omega)
  simp only [List.map_cons, List.map_nil, List.sum_cons, List.sum_nil]
  omega
end Go.Proofs.YtejbljopighenaaDoor
namespace Go.Proofs.YtejbljopighenaaDoor
open Go.RowKit
theorem is_big21 : isFn Tryd.prog 7 = true := by kernel_rfl
section
variable {E : Env} {d : Option Nat} {ty : TypeId} {p : String} {af : Array Edge} {g : Option (Nat × Bool)} {x : Operand} {k : Value → Prop}
theorem p_lenSL {l : List UInt8} (hx : val E x = .string (sb l)) (h : k (.int .i64 (l.length : Nat))) : VPure Tryd.prog E { dst := d, op := .call { callee := .builtin .len, args := #[x], argTypes := #[9] }, type := ty, pos := p, after := af, guard := g } k :=
  p_lenS u_str hx (by rw [sb_size]; exact h)
end
section
variable {w W : World} {gs : List (Option Nat)} {L : Lc} {R : List Row} {fs : List Fact}
theorem St.outO (M : St w gs W L R fs) {l : List Out} {A : Option Addr} {n c i : Nat} {o : Out} (h : RdD W (Fd W (own L R gs)) (dOuts l) (.slice A n c)) (hi : l[i]? = some o) :
    ∃ b off A' c', A = some ⟨b, off, none⟩ ∧ St w gs W L R (.loc ((⟨b, off, none⟩ : Addr).add (i * 3)) (outcs o A' c') :: .dat false [dRs o.l] [.slice A' o.l.length c'] :: fs) := by
  obtain ⟨b, off, es, e, hF, hes, hel, hc⟩ := RdD.eltO dOut 3 dOut_len h hi
  obtain ⟨A', c', rfl, h1⟩ := hes.out
  exact ⟨b, off, A', c', e, (M.addD h1).addC (by rw [block_of_add]; exact hF) hc⟩
end
set_option maxRecDepth 100000 in
set_option maxHeartbeats 8000000 in
theorem big21_any (b : Bk) (gs : List (Option Nat)) (w : World) (cs : List Value) (hr : RdL w (Fd w gs) (dBk b) cs) (hgs : ∀ b, some b ∈ gs → b < w.heap.size) (hk : bkbk b ≤ 2000000) :
    Calls Tryd.prog 7 #[.agg cs.toArray] w fun e w' => ∃ q : Bool, e = .returned (.bool q) ∧ (q = false → bigN b < 800) ∧ Below w.heap.size w w' := by
  refine calls_ev (args := [.agg cs.toArray]) mixed Tryd.func7 rfl (by kernel_rfl) ?_
  obtain ⟨p, rfl, -, -, -, h4, h5, -⟩ := hr.bk
  have hbig := bigN_le b
  have hb : bigN b = baseN b + (b.txs.map txN).sum + (b.outs.map outN).sum := rfl
  have hbase : baseN b = b.proof.length / 20 + b.txs.length + b.outs.length := rfl
  have hbk : bkbk b = (b.last.length + 1) + ((b.prev.length + 1) + ((b.next.length + 1) + (((b.txs.map txbk).sum + 1) + (((b.outs.map outbk).sum + 1) + (b.proof.length + 1))))) + 2 := rfl
  obtain ⟨N, hN⟩ : ∃ N, N = bigN b := ⟨_, rfl⟩
  rw [← hN] at hb hbig ⊢
  obtain ⟨ST, hST⟩ : ∃ ST, ST = (b.txs.map txN).sum := ⟨_, rfl⟩
  obtain ⟨SO, hSO⟩ : ∃ SO, SO = (b.outs.map outN).sum := ⟨_, rfl⟩
  rw [← hST, ← hSO] at hb
  obtain ⟨B0, hB0⟩ : ∃ B0, B0 = baseN b := ⟨_, rfl⟩
  rw [← hB0] at hb hbase
  have M := ((St.start hgs).addD h5).addD h4
  clear h4 h5 hr
  refine s_box (bkcs b p) M rfl ?_
  clear M
  rintro g1 W M
  refine p_fld fB6 rfl ?_
  refine v_load agg_b rfl ((M.B 0 rfl).at_ rfl) ?_
  refine p_len slb rfl ?_
  refine p_quoN (b := 20) rfl rfl (by omega) (by omega) ?_
  refine p_fld fB4 rfl ?_
  refine v_load agg_tss rfl ((M.B 0 rfl).at_ rfl) ?_
  refine p_len sltss rfl ?_
  refine p_addN rfl rfl (by omega) ?_
  refine p_fld fB5 rfl ?_
  refine v_load agg_os rfl ((M.B 0 rfl).at_ rfl) ?_
  refine p_len slos rfl ?_
  refine p_addN rfl rfl (by omega) ?_
  rw [← hbase]
  refine cutS Nat (fun n W => (800 ≤ n ∨ n = B0 + ST) ∧ n ≤ N ∧ St w gs W [(g1, 26, bkcs b p)] [] [.dat false [dTxs b.txs] [.slice p.A4 b.txs.length p.c4], .dat false [dOuts b.outs] [.slice p.A5 b.outs.length p.c5]]) (fun n => [(1, .pointer (some ⟨g1, 0, none⟩)), (3, .int .i64 n)]) ?_ ?_
  · refine lp (Nat × Nat) (fun z W => z.1 ≤ b.txs.length ∧ z.2 = B0 + ((b.txs.take z.1).map txN).sum ∧ St w gs W [(g1, 26, bkcs b p)] [] [.dat false [dTxs b.txs] [.slice p.A4 b.txs.length p.c4], .dat false [dOuts b.outs] [.slice p.A5 b.outs.length p.c5]])
      (fun z => [(1, .pointer (some ⟨g1, 0, none⟩)), (3, .int .i64 z.2), (4, .int .i64 z.1)]) (fun z => b.txs.length - z.1) (0, B0) ⟨Nat.zero_le _, rfl, M⟩ (by repeat (first | exact trivial | refine ⟨rfl, ?_⟩)) ?_
    clear M
    rintro ⟨i, n⟩ E W ⟨hi, hn, M⟩
    dsimp only at hi hn M
    have hle := sum_take_le txN b.txs i
    rw [← hST] at hle
    refine p_fld fB4 rfl ?_
    refine v_load agg_tss rfl ((M.B 0 rfl).at_ rfl) ?_
    refine p_len sltss rfl ?_
    refine p_lt rfl rfl (fun hlt => ?_) (fun hge => ?_)
    rotate_left
    · have hi : i = b.txs.length := by have h : ¬ (i : Int) < (b.txs.length : Int) := hge; omega
      subst hi
      rw [List.take_of_length_le (Nat.le_refl _), ← hST] at hn
      exact ⟨n, ⟨.inr hn, by omega, M⟩, (by repeat (first | exact trivial | refine ⟨rfl, ?_⟩))⟩
    have hil : i < b.txs.length := by have h : (i : Int) < (b.txs.length : Int) := hlt; omega
    refine p_lt rfl rfl (fun h8 => ?_) (fun h8 => ?_)
    rotate_left
    · have h8 : ¬ (n : Int) < 800 := h8
      exact ⟨n, ⟨.inl (by omega), by omega, M⟩, (by repeat (first | exact trivial | refine ⟨rfl, ?_⟩))⟩
    obtain ⟨t, ht⟩ : ∃ t, b.txs[i]? = some t := ⟨_, List.getElem?_eq_getElem hil⟩
    have hsucc := sum_take_succ txN ht
    have hle2 := sum_take_le txN b.txs (i + 1)
    rw [← hST] at hle2
    obtain ⟨b1, o1, At, ct, eT, M'⟩ := M.txe (M.d1 0 rfl) ht
    replace M := M'; clear M'
    refine cutS Unit (fun _ W => St w gs W [(g1, 26, bkcs b p)] [] [.loc ((⟨b1, o1, none⟩ : Addr).add (i * 1)) [.slice At t.length ct], .dat false [dTx t] [.slice At t.length ct], .dat false [dTxs b.txs] [.slice p.A4 b.txs.length p.c4], .dat false [dOuts b.outs] [.slice p.A5 b.outs.length p.c5]]) (fun _ => [(1, .pointer (some ⟨g1, 0, none⟩)), (3, .int .i64 n), (4, .int .i64 i)]) ?_ ?_
    · exact ⟨(), M, (by repeat (first | exact trivial | refine ⟨rfl, ?_⟩))⟩
    clear M
    rintro - E W M
    refine lp (Nat × Nat) (fun z W => z.1 ≤ t.length ∧ z.2 = n + ((t.take z.1).map fun s => 1 + s.length / 20).sum ∧ St w gs W [(g1, 26, bkcs b p)] [] [.loc ((⟨b1, o1, none⟩ : Addr).add (i * 1)) [.slice At t.length ct], .dat false [dTx t] [.slice At t.length ct], .dat false [dTxs b.txs] [.slice p.A4 b.txs.length p.c4], .dat false [dOuts b.outs] [.slice p.A5 b.outs.length p.c5]])
      (fun z => [(1, .pointer (some ⟨g1, 0, none⟩)), (3, .int .i64 z.2), (4, .int .i64 i), (5, .int .i64 z.1)]) (fun z => t.length - z.1) (0, n) ⟨Nat.zero_le _, rfl, M⟩ (by repeat (first | exact trivial | refine ⟨rfl, ?_⟩)) ?_
    clear M
    rintro ⟨k, n2⟩ E W ⟨hk2, hn2, M⟩
    dsimp only at hk2 hn2 M
    have hle3 := sum_take_le (fun s : List UInt8 => 1 + s.length / 20) t k
    have htN : txN t = (t.map fun s => 1 + s.length / 20).sum := rfl
    have htl := sum_len (f := fun s : List UInt8 => 1 + s.length / 20) (l := t) (fun s _ => by omega)
    refine p_fld fB4 rfl ?_
    refine v_load agg_tss rfl ((M.B 0 rfl).at_ rfl) ?_
    refine p_at (i := i) sltss (by show Value.slice p.A4 b.txs.length p.c4 = _; rw [eT]) rfl rfl hil ?_
    refine v_load agg_ts rfl (M.lc 0 rfl 0 _ rfl) ?_
    refine p_len slts rfl ?_
    refine p_lt rfl rfl (fun hlt2 => ?_) (fun hge => ?_)
    rotate_left
    · have hkk : k = t.length := by have h : ¬ (k : Int) < (t.length : Int) := hge; omega
      subst hkk
      rw [List.take_of_length_le (Nat.le_refl _)] at hn2
      refine p_addN (b := 1) rfl rfl (by omega) ?_
      exact ⟨(i + 1, n2), ⟨by dsimp only; omega, by dsimp only; omega, M.fsub _ (by simp)⟩, (by repeat (first | exact trivial | refine ⟨rfl, ?_⟩)), by dsimp only; omega⟩
    have hkl : k < t.length := by have h : (k : Int) < (t.length : Int) := hlt2; omega
    obtain ⟨s, hs⟩ : ∃ s, t[k]? = some s := ⟨_, List.getElem?_eq_getElem hkl⟩
    have hsucc2 := sum_take_succ (fun s : List UInt8 => 1 + s.length / 20) hs
    have hle4 := sum_take_le (fun s : List UInt8 => 1 + s.length / 20) t (k + 1)
    obtain ⟨b2, o2, rfl, M'⟩ := M.stre (M.d1 1 rfl) hs
    replace M := M'; clear M'
    refine p_addN (b := 1) rfl rfl (by omega) ?_
    refine p_fld fB4 rfl ?_
    refine v_load agg_tss rfl ((M.B 0 rfl).at_ rfl) ?_
    refine p_at (i := i) sltss (by show Value.slice p.A4 b.txs.length p.c4 = _; rw [eT]) rfl rfl hil ?_
    refine v_load agg_ts rfl (M.lc 1 rfl 0 _ rfl) ?_
    refine p_at (i := k) slts rfl rfl rfl hkl ?_
    refine v_load agg_st rfl (M.lc 0 rfl 0 _ rfl) ?_
    refine p_lenSL rfl ?_
    refine p_quoN (b := 20) rfl rfl (by omega) (by omega) ?_
    refine p_addN rfl rfl (by omega) ?_
    refine p_addN (b := 1) rfl rfl (by omega) ?_
    exact ⟨(k + 1, n2 + 1 + s.length / 20), ⟨by dsimp only; omega, by dsimp only; omega, M.fsub _ (by simp)⟩, (by repeat (first | exact trivial | refine ⟨rfl, ?_⟩)), by dsimp only; omega⟩
  clear M
  rintro n0 E W ⟨hn0, hn0N, M⟩
  obtain ⟨B1, hB1⟩ : ∃ B1, B1 = B0 + ST := ⟨_, rfl⟩
  rw [← hB1] at hn0 hb
  refine lp (Nat × Nat) (fun z W => z.1 ≤ b.outs.length ∧ (800 ≤ z.2 ∨ z.2 = B1 + ((b.outs.take z.1).map outN).sum) ∧ St w gs W [(g1, 26, bkcs b p)] [] [.dat false [dOuts b.outs] [.slice p.A5 b.outs.length p.c5]])
    (fun z => [(1, .pointer (some ⟨g1, 0, none⟩)), (3, .int .i64 z.2), (6, .int .i64 z.1)]) (fun z => b.outs.length - z.1) (0, n0) ⟨Nat.zero_le _, hn0, M.fsub _ (by simp)⟩ (by repeat (first | exact trivial | refine ⟨rfl, ?_⟩)) ?_
  clear M
  rintro ⟨j, n⟩ E W ⟨hj, hn, M⟩
  dsimp only at hj hn M
  have hle := sum_take_le outN b.outs j
  rw [← hSO] at hle
  refine p_fld fB5 rfl ?_
  refine v_load agg_os rfl ((M.B 0 rfl).at_ rfl) ?_
  refine p_len slos rfl ?_
  refine p_lt rfl rfl (fun hlt => ?_) (fun hge => ?_)
  rotate_left
  · have hj : j = b.outs.length := by have h : ¬ (j : Int) < (b.outs.length : Int) := hge; omega
    subst hj
    rw [List.take_of_length_le (Nat.le_refl _), ← hSO] at hn
    refine p_ge rfl rfl (fun h8 => ?_) (fun h8 => ?_)
    · exact ⟨true, rfl, (fun h => by cases h), M.below⟩
    · have h8 : ¬ (800 : Int) ≤ (n : Int) := h8
      exact ⟨false, rfl, (fun _ => by omega), M.below⟩
  have hjl : j < b.outs.length := by have h : (j : Int) < (b.outs.length : Int) := hlt; omega
  refine p_lt rfl rfl (fun h8 => ?_) (fun h8 => ?_)
  rotate_left
  · have h8 : ¬ (n : Int) < 800 := h8
    refine p_ge rfl rfl (fun h9 => ?_) (fun h9 => ?_)
    · exact ⟨true, rfl, (fun h => by cases h), M.below⟩
    · have h9 : ¬ (800 : Int) ≤ (n : Int) := h9
      exact absurd (by omega) h9
  have h8 : (n : Int) < 800 := h8
  have hn : n = B1 + ((b.outs.take j).map outN).sum := by omega
  obtain ⟨o, ho⟩ : ∃ o, b.outs[j]? = some o := ⟨_, List.getElem?_eq_getElem hjl⟩
  have hsucc := sum_take_succ outN ho
  have hle2 := sum_take_le outN b.outs (j + 1)
  rw [← hSO] at hle2
  obtain ⟨b1, o1, Ao, co, eO, M'⟩ := M.outO (M.d1 0 rfl) ho
  replace M := M'; clear M'
  have hoN : outN o = (o.l.map resN).sum := rfl
  have hol := sum_len (f := resN) (l := o.l) (fun r _ => by unfold resN; omega)
  refine cutS Unit (fun _ W => St w gs W [(g1, 26, bkcs b p)] [] [.loc ((⟨b1, o1, none⟩ : Addr).add (j * 3)) (outcs o Ao co), .dat false [dRs o.l] [.slice Ao o.l.length co], .dat false [dOuts b.outs] [.slice p.A5 b.outs.length p.c5]]) (fun _ => [(1, .pointer (some ⟨g1, 0, none⟩)), (3, .int .i64 n), (6, .int .i64 j)]) ?_ ?_
  · exact ⟨(), M, (by repeat (first | exact trivial | refine ⟨rfl, ?_⟩))⟩
  clear M
  rintro - E W M
  refine lp (Nat × Nat) (fun z W => z.1 ≤ o.l.length ∧ (800 ≤ z.2 ∨ z.2 = n + ((o.l.take z.1).map resN).sum) ∧ z.2 ≤ N ∧ St w gs W [(g1, 26, bkcs b p)] [] [.loc ((⟨b1, o1, none⟩ : Addr).add (j * 3)) (outcs o Ao co), .dat false [dRs o.l] [.slice Ao o.l.length co], .dat false [dOuts b.outs] [.slice p.A5 b.outs.length p.c5]])
    (fun z => [(1, .pointer (some ⟨g1, 0, none⟩)), (3, .int .i64 z.2), (6, .int .i64 j), (7, .int .i64 z.1)]) (fun z => o.l.length - z.1) (0, n) ⟨Nat.zero_le _, .inr rfl, by dsimp only; omega, M⟩ (by repeat (first | exact trivial | refine ⟨rfl, ?_⟩)) ?_
  clear M
  rintro ⟨k, n2⟩ E W ⟨hk2, hn2, hn2N, M⟩
  dsimp only at hk2 hn2 hn2N M
  have hle3 := sum_take_le resN o.l k
  refine p_fld fB5 rfl ?_
  refine v_load agg_os rfl ((M.B 0 rfl).at_ rfl) ?_
  refine p_at (i := j) slos (by show Value.slice p.A5 b.outs.length p.c5 = _; rw [eO]) rfl rfl hjl ?_
  refine p_fld fO2 rfl ?_
  refine v_load agg_rs rfl (M.lc 0 rfl 2 _ rfl) ?_
  refine p_len slrs rfl ?_
  refine p_lt rfl rfl (fun hlt2 => ?_) (fun hge => ?_)
  rotate_left
  · have hkk : k = o.l.length := by have h : ¬ (k : Int) < (o.l.length : Int) := hge; omega
    subst hkk
    rw [List.take_of_length_le (Nat.le_refl _)] at hn2
    refine p_addN (b := 1) rfl rfl (by omega) ?_
    exact ⟨(j + 1, n2), ⟨by dsimp only; omega, by dsimp only; omega, M.fsub _ (by simp)⟩, (by repeat (first | exact trivial | refine ⟨rfl, ?_⟩)), by dsimp only; omega⟩
  have hkl : k < o.l.length := by have h : (k : Int) < (o.l.length : Int) := hlt2; omega
  refine p_lt rfl rfl (fun h9 => ?_) (fun h9 => ?_)
  rotate_left
  · have h9 : ¬ (n2 : Int) < 800 := h9
    refine p_addN (b := 1) rfl rfl (by omega) ?_
    exact ⟨(j + 1, n2), ⟨by dsimp only; omega, .inl (by dsimp only; omega), M.fsub _ (by simp)⟩, (by repeat (first | exact trivial | refine ⟨rfl, ?_⟩)), by dsimp only; omega⟩
  have h9 : (n2 : Int) < 800 := h9
  have hn2 : n2 = n + ((o.l.take k).map resN).sum := by omega
  obtain ⟨r, hr⟩ : ∃ r, o.l[k]? = some r := ⟨_, List.getElem?_eq_getElem hkl⟩
  have hsucc2 := sum_take_succ resN hr
  have hle4 := sum_take_le resN o.l (k + 1)
  have hrN : resN r = 1 + (r.rows.map rowN).sum := rfl
  have hrl := sum_len (f := rowN) (l := r.rows) (fun r _ => by unfold rowN; omega)
  obtain ⟨b2, o2, Ar, cr, rfl, M'⟩ := M.res (M.d1 1 rfl) hr
  replace M := M'; clear M'
  refine p_addN (b := 1) rfl rfl (by omega) ?_
  refine lp (Nat × Nat) (fun z W => z.1 ≤ r.rows.length ∧ z.2 = n2 + 1 + ((r.rows.take z.1).map rowN).sum ∧ St w gs W [(g1, 26, bkcs b p)] [] [.loc ((⟨b2, o2, none⟩ : Addr).add (k * 2)) (rescs r Ar cr), .dat false [dRows r.rows] [.slice Ar r.rows.length cr], .loc ((⟨b1, o1, none⟩ : Addr).add (j * 3)) (outcs o (some ⟨b2, o2, none⟩) co), .dat false [dRs o.l] [.slice (some ⟨b2, o2, none⟩) o.l.length co], .dat false [dOuts b.outs] [.slice p.A5 b.outs.length p.c5]])
    (fun z => [(1, .pointer (some ⟨g1, 0, none⟩)), (3, .int .i64 z.2), (6, .int .i64 j), (7, .int .i64 k), (8, .int .i64 z.1)]) (fun z => r.rows.length - z.1) (0, n2 + 1) ⟨Nat.zero_le _, rfl, M⟩ (by repeat (first | exact trivial | refine ⟨rfl, ?_⟩)) ?_
  clear M
  rintro ⟨m, n3⟩ E W ⟨hm2, hn3, M⟩
  dsimp only at hm2 hn3 M
  have hle5 := sum_take_le rowN r.rows m
  refine p_fld fB5 rfl ?_
  refine v_load agg_os rfl ((M.B 0 rfl).at_ rfl) ?_
  refine p_at (i := j) slos (by show Value.slice p.A5 b.outs.length p.c5 = _; rw [eO]) rfl rfl hjl ?_
  refine p_fld fO2 rfl ?_
  refine v_load agg_rs rfl (M.lc 2 rfl 2 _ rfl) ?_
  refine p_at (i := k) slrs rfl rfl rfl hkl ?_
  refine p_fld fR0 rfl ?_
  refine v_load agg_vvs rfl (M.lc 0 rfl 0 _ rfl) ?_
  refine p_len slvv rfl ?_
  refine p_lt rfl rfl (fun hlt3 => ?_) (fun hge => ?_)
  rotate_left
  · have hmm : m = r.rows.length := by have h : ¬ (m : Int) < (r.rows.length : Int) := hge; omega
    subst hmm
    rw [List.take_of_length_le (Nat.le_refl _)] at hn3
    refine p_addN (b := 1) rfl rfl (by omega) ?_
    exact ⟨(k + 1, n3), ⟨by dsimp only; omega, .inr (by dsimp only; omega), by dsimp only; omega, M.fsub _ (by simp)⟩, (by repeat (first | exact trivial | refine ⟨rfl, ?_⟩)), by dsimp only; omega⟩
  have hml : m < r.rows.length := by have h : (m : Int) < (r.rows.length : Int) := hlt3; omega
  obtain ⟨x, hx⟩ : ∃ x, r.rows[m]? = some x := ⟨_, List.getElem?_eq_getElem hml⟩
  have hsucc3 := sum_take_succ rowN hx
  have hle6 := sum_take_le rowN r.rows (m + 1)
  have hxN : rowN x = 1 + x.length + (x.map valN).sum := rfl
  obtain ⟨b3, o3, Ax, cx, rfl, M'⟩ := M.rowe (M.d1 1 rfl) hx
  replace M := M'; clear M'
  refine p_addN (b := 1) rfl rfl (by omega) ?_
  refine p_fld fB5 rfl ?_
  refine v_load agg_os rfl ((M.B 0 rfl).at_ rfl) ?_
  refine p_at (i := j) slos (by show Value.slice p.A5 b.outs.length p.c5 = _; rw [eO]) rfl rfl hjl ?_
  refine p_fld fO2 rfl ?_
  refine v_load agg_rs rfl (M.lc 4 rfl 2 _ rfl) ?_
  refine p_at (i := k) slrs rfl rfl rfl hkl ?_
  refine p_fld fR0 rfl ?_
  refine v_load agg_vvs rfl (M.lc 2 rfl 0 _ rfl) ?_
  refine p_at (i := m) slvv rfl rfl rfl hml ?_
  refine v_load agg_rowsl rfl (M.lc 0 rfl 0 _ rfl) ?_
  refine p_len slv rfl ?_
  refine p_addN rfl rfl (by omega) ?_
  refine lp (Nat × Nat) (fun z W => z.1 ≤ x.length ∧ z.2 = n3 + 1 + x.length + ((x.take z.1).map valN).sum ∧ St w gs W [(g1, 26, bkcs b p)] [] [.loc ((⟨b3, o3, none⟩ : Addr).add (m * 1)) [.slice Ax x.length cx], .dat false [dRow x] [.slice Ax x.length cx], .loc ((⟨b2, o2, none⟩ : Addr).add (k * 2)) (rescs r (some ⟨b3, o3, none⟩) cr), .dat false [dRows r.rows] [.slice (some ⟨b3, o3, none⟩) r.rows.length cr], .loc ((⟨b1, o1, none⟩ : Addr).add (j * 3)) (outcs o (some ⟨b2, o2, none⟩) co), .dat false [dRs o.l] [.slice (some ⟨b2, o2, none⟩) o.l.length co], .dat false [dOuts b.outs] [.slice p.A5 b.outs.length p.c5]])
    (fun z => [(1, .pointer (some ⟨g1, 0, none⟩)), (3, .int .i64 z.2), (6, .int .i64 j), (7, .int .i64 k), (8, .int .i64 m), (9, .int .i64 z.1)]) (fun z => x.length - z.1) (0, n3 + 1 + x.length) ⟨Nat.zero_le _, rfl, M⟩ (by repeat (first | exact trivial | refine ⟨rfl, ?_⟩)) ?_
  clear M
  rintro ⟨q, n4⟩ E W ⟨hq2, hn4, M⟩
  dsimp only at hq2 hn4 M
  have hle7 := sum_take_le valN x q
  refine p_fld fB5 rfl ?_
  refine v_load agg_os rfl ((M.B 0 rfl).at_ rfl) ?_
  refine p_at (i := j) slos (by show Value.slice p.A5 b.outs.length p.c5 = _; rw [eO]) rfl rfl hjl ?_
  refine p_fld fO2 rfl ?_
  refine v_load agg_rs rfl (M.lc 4 rfl 2 _ rfl) ?_
  refine p_at (i := k) slrs rfl rfl rfl hkl ?_
  refine p_fld fR0 rfl ?_
  refine v_load agg_vvs rfl (M.lc 2 rfl 0 _ rfl) ?_
  refine p_at (i := m) slvv rfl rfl rfl hml ?_
  refine v_load agg_rowsl rfl (M.lc 0 rfl 0 _ rfl) ?_
  refine p_len slv rfl ?_
  refine p_lt rfl rfl (fun hlt4 => ?_) (fun hge => ?_)
  rotate_left
  · have hqq : q = x.length := by have h : ¬ (q : Int) < (x.length : Int) := hge; omega
    subst hqq
    rw [List.take_of_length_le (Nat.le_refl _)] at hn4
    refine p_addN (b := 1) rfl rfl (by omega) ?_
    exact ⟨(m + 1, n4), ⟨by dsimp only; omega, by dsimp only; omega, M.fsub _ (by simp)⟩, (by repeat (first | exact trivial | refine ⟨rfl, ?_⟩)), by dsimp only; omega⟩
  have hql : q < x.length := by have h : (q : Int) < (x.length : Int) := hlt4; omega
  obtain ⟨v, hv⟩ : ∃ v, x[q]? = some v := ⟨_, List.getElem?_eq_getElem hql⟩
  have hsucc4 := sum_take_succ valN hv
  have hle8 := sum_take_le valN x (q + 1)
  have hvN : valN v = v.s.length / 20 := rfl
  obtain ⟨b4, o4, rfl, M'⟩ := M.valu (M.d1 1 rfl) hv
  replace M := M'; clear M'
  refine p_fld fB5 rfl ?_
  refine v_load agg_os rfl ((M.B 0 rfl).at_ rfl) ?_
  refine p_at (i := j) slos (by show Value.slice p.A5 b.outs.length p.c5 = _; rw [eO]) rfl rfl hjl ?_
  refine p_fld fO2 rfl ?_
  refine v_load agg_rs rfl (M.lc 5 rfl 2 _ rfl) ?_
  refine p_at (i := k) slrs rfl rfl rfl hkl ?_
  refine p_fld fR0 rfl ?_
  refine v_load agg_vvs rfl (M.lc 3 rfl 0 _ rfl) ?_
  refine p_at (i := m) slvv rfl rfl rfl hml ?_
  refine v_load agg_rowsl rfl (M.lc 1 rfl 0 _ rfl) ?_
  refine p_at (i := q) slv rfl rfl rfl hql ?_
  refine p_fld fv2 rfl ?_
  refine v_load agg_st rfl (M.lc 0 rfl 2 _ rfl) ?_
  refine p_lenSL rfl ?_
  refine p_quoN (b := 20) rfl rfl (by omega) (by omega) ?_
  refine p_addN rfl rfl (by omega) ?_
  refine p_addN (b := 1) rfl rfl (by omega) ?_
  exact ⟨(q + 1, n4 + v.s.length / 20), ⟨by dsimp only; omega, by dsimp only; omega, M.fsub _ (by simp)⟩, (by repeat (first | exact trivial | refine ⟨rfl, ?_⟩)), by dsimp only; omega⟩
end Go.Proofs.YtejbljopighenaaDoor
namespace Go.Proofs.YtejbljopighenaaDoor
open Go.RowKit
section
variable {w W : World} {gs : List (Option Nat)} {L : Lc} {R : List Row} {fs : List Fact}
set_option maxRecDepth 100000 in
/-- make([]byte, k) -/
theorem s_mkBy {E : Env} {d : Option Nat} {ty : TypeId} {p : String} {af : Array Edge} {gd : Option (Nat × Bool)} {l c : Operand} {kw : Value → World → Prop} (k : Nat) (hk : k ≤ 1000000) (M : St w gs W L R fs) (hl : val E l = .int .i64 (k : Int)) (hc : val E c = .int .i64 (k : Int))
    (h : ∀ g W', St w gs W' L R (.dat true [dB (List.replicate k 0)] [.slice (some ⟨g, 0, none⟩) k k] :: fs) → kw (.slice (some ⟨g, 0, none⟩) k k) W') :
    VVal Tryd.prog E { dst := d, op := .makeSlice 22 l c, type := ty, pos := p, after := af, guard := gd } W kw := by
  obtain ⟨i, hi0, hz0, hz1, hz2⟩ := info_parts u8info
  obtain ⟨w', hrun, hrow, hg⟩ := run_make_full (P := Tryd.prog) (w := W) W.heap.size 22 5 i _ 1 Tryd.underlying22 hi0 hz0 hz1 .i64 .i64 k (by rw [hz2]; omega) (by unfold maxLen; omega) (Nat.le_refl _)
  have hown : Own w' W.heap.size (some ⟨W.heap.size, 0, none⟩) k k (List.replicate k 0) := by
    unfold Own
    have e : bvs (List.replicate k 0) = (madeCells (Value.int .u8 0).cells (k * 1)).toList := by
      rw [Nat.mul_one]
      show _ = (madeCells #[Value.int .u8 0] k).toList
      rw [toList_madeCells_one]
      unfold bvs
      rw [List.map_replicate]
      rfl
    rw [e]
    exact hrow
  refine vv (v := .slice (some ⟨W.heap.size, 0, none⟩) k k) (w' := w') ?_ (h _ _ (M.callO ⟨hg.os, hg.tape, hg.output, hg.size, fun b hb => hg.block b hb (by simp)⟩ hown))
  have hrun' : (Instr.makeSlice 22 (.int .i64 (k : Int)) (.int .i64 (k : Int))).run Tryd.prog W = _ := hrun
  simp [execOp, hl, hc, hrun']
end
end Go.Proofs.YtejbljopighenaaDoor
namespace Go.Proofs.YtejbljopighenaaDoor
open Go.RowKit
theorem is_kn21 : isFn Tryd.prog 8 = true := by kernel_rfl
theorem is_bDecK : isFn Tryd.prog 11 = true := by kernel_rfl
theorem is_bSameK : isFn Tryd.prog 21 = true := by kernel_rfl
theorem is_r21SameK : isFn Tryd.prog 18 = true := by kernel_rfl
theorem is_bLinksK : isFn Tryd.prog 19 = true := by kernel_rfl
theorem is_bEncK : isFn Tryd.prog 9 = true := by kernel_rfl
theorem is_bCheckK : isFn Tryd.prog 14 = true := by kernel_rfl
def z32 : List UInt8 := List.replicate 32 0
def a21 : Bk := ⟨0, z32, z32, z32, [], [], []⟩
def b21 : Bk := ⟨1, hashBk a21, z32, z32, [], [], []⟩
theorem z32_len : z32.length = 32 := by decide
/-- A block with nothing in it is one. -/
theorem bare_ok {b : Bk} (h0 : 0 ≤ b.num) (hn : b.num ≤ 9223372036854775807) (h1 : b.last.length = 32) (h2 : b.prev.length = 32) (h3 : b.next.length = 32) (ht : b.txs = []) (ho : b.outs = []) (hp : b.proof = []) : FitsB b ∧ encBk b = (blockB b, 0) ∧ (blockB b).length ≤ 100000 := by
  have hw : WfB b := ⟨by omega, hn, fun o h => by rw [ho] at h; cases h⟩
  have hr : rightBk b = true := right_iff.2 ⟨⟨h0, h1, h2, h3, by rw [ht]; decide, by rw [ht, ho]; rfl⟩, (fun t h => by rw [ht] at h; cases h), fun o h => by rw [ho] at h; cases h⟩
  have hb : bigN b = 0 := by unfold bigN baseN; rw [ht, ho, hp]; rfl
  have hl := block_sm hw hr (by omega)
  exact ⟨fits_bare hn (by omega) (by omega) (by omega) ht ho hp, encBk_0 hr (by omega), hl⟩
theorem a21_ok : FitsB a21 ∧ encBk a21 = (blockB a21, 0) ∧ (blockB a21).length ≤ 100000 := bare_ok (by decide) (by decide) z32_len z32_len z32_len rfl rfl rfl
theorem sha_len32 (b : List UInt8) : (sha b).length = 32 := by rw [sha_def]; unfold out8 put4; rfl
theorem hash_len {b : Bk} (h : (encBk b).2 = 0) : (hashBk b).length = 32 := by unfold hashBk; rw [if_pos h, sha_len32]
theorem a21_hash : (hashBk a21).length = 32 := hash_len (by rw [a21_ok.2.1])
theorem b21_ok : FitsB b21 ∧ encBk b21 = (blockB b21, 0) ∧ (blockB b21).length ≤ 100000 := bare_ok (by decide) (by decide) a21_hash z32_len z32_len rfl rfl rfl
theorem a21_dec : decBk (blockB a21) = (a21, 0) := dec_encBk a21_ok.2.1 a21_ok.1
theorem link_ab : LinkN [a21, b21] 2 := by
  refine ⟨Nat.le_refl _, fun i hi => ?_, fun h => absurd h (Nat.lt_irrefl _)⟩
  have : i = 0 ∨ i = 1 := by omega
  rcases this with rfl | rfl
  · exact ⟨a21, rfl, by rw [a21_ok.2.1], fun a h => absurd h (Nat.lt_irrefl _)⟩
  · refine ⟨b21, rfl, by rw [b21_ok.2.1], fun a _ ha => ?_⟩
    have ha : some a21 = some a := ha
    injection ha with ha
    subst ha
    exact ⟨rfl, rfl, rfl⟩
theorem link_ba : LinkN [b21, a21] 1 := by
  refine ⟨by decide, fun i hi => ?_, fun _ => ?_⟩
  · have : i = 0 := by omega
    subst this
    exact ⟨b21, rfl, by rw [b21_ok.2.1], fun a h => absurd h (Nat.lt_irrefl _)⟩
  · rintro ⟨b, hb, -, h⟩
    have hb : some a21 = some b := hb
    injection hb with hb
    subst hb
    have := (h b21 (by decide) rfl).1
    exact absurd this (by decide)
theorem chk_z : checkBk bkZ = 2 := by decide +kernel
theorem fits_z : FitsB bkZ := fits_bare (by decide) (by decide) (by decide) (by decide) rfl rfl rfl
theorem ab_ne : a21 ≠ b21 := fun h => absurd (congrArg Bk.num h) (by decide)
theorem s_mk32 {E : Env} {d : Option Nat} {ty : TypeId} {p : String} {af : Array Edge} {gd : Option (Nat × Bool)} {l c : Operand} {kw : Value → World → Prop} {w W : World} {gs : List (Option Nat)} {L : Lc} {R : List Row} {fs : List Fact} (M : St w gs W L R fs) (hl : val E l = .int .i64 ((32 : Nat) : Int)) (hc : val E c = .int .i64 ((32 : Nat) : Int))
    (h : ∀ g W', St w gs W' L R (.dat true [dB z32] [.slice (some ⟨g, 0, none⟩) 32 32] :: fs) → kw (.slice (some ⟨g, 0, none⟩) 32 32) W') :
    VVal Tryd.prog E { dst := d, op := .makeSlice 22 l c, type := ty, pos := p, after := af, guard := gd } W kw := s_mkBy 32 (by decide) M hl hc h
theorem sz_slK : (Tryd.prog.info? 22).map (·.size) = some 1 := by kernel_rfl
theorem rd_z (W : World) (F : Nat → Prop) : RdL W F (dBk bkZ) zBk := RdL.ofbk (b := bkZ) (p := ⟨none, 0, none, 0, none, 0, none, 0, none, 0, none, 0⟩) (RdD.nil_ (s := 1) none 0) (RdD.nil_ (s := 1) none 0) (RdD.nil_ (s := 1) none 0) (RdD.nil_ none 0) (RdD.nil_ none 0) (RdD.nil_ (s := 1) none 0)
theorem two_bks (a b : Bk) : D.sl 7 2 (dBk a ++ dBk b) = dBks [a, b] := rfl
def c21 (g7 g8 g9 : Nat) : List Value := [.int .i64 0, .slice (some ⟨g7, 0, none⟩) 32 32, .slice (some ⟨g8, 0, none⟩) 32 32, .slice (some ⟨g9, 0, none⟩) 32 32, .slice none 0 0, .slice none 0 0, .slice none 0 0]
set_option maxRecDepth 100000 in
set_option maxHeartbeats 8000000 in
theorem known21_any (gs : List (Option Nat)) (w : World) (hG : GL w gs) (hgs : ∀ b, some b ∈ gs → b < w.heap.size) : Calls Tryd.prog 8 #[] w fun e w' => e = .returned (.bool true) ∧ Below w.heap.size w w' := by
  refine calls_ev (args := []) mixed Tryd.func8 rfl (by kernel_rfl) ?_
  have M := (St.start hgs).drew
  refine cutV (Nat × Bp) (fun z W => St w gs W [(z.1, 26, bkcs a21 z.2)] [] [.dat false (dBk a21) (bkcs a21 z.2)]) (fun z => [(1, .pointer (some ⟨z.1, 0, none⟩))]) ?_ ?_
  · refine drT (fun _ => True) (Sch.graft (.four 0 (.three 1 (.two 2 (.take 3 (.one 4 (.nil))) 4 (.one 2 (.take 3 (.nil)))) 2 (.two 1 (.take 3 (.one 4 (.nil))) 4 (.one 1 (.take 3 (.nil)))) 4 (.two 1 (.one 2 (.take 3 (.nil))) 2 (.one 1 (.take 3 (.nil))))) 1 (.three 0 (.two 2 (.take 3 (.one 4 (.nil))) 4 (.one 2 (.take 3 (.nil)))) 2 (.two 0 (.take 3 (.one 4 (.nil))) 4 (.one 0 (.take 3 (.nil)))) 4 (.two 0 (.one 2 (.take 3 (.nil))) 2 (.one 0 (.take 3 (.nil))))) 2 (.three 0 (.two 1 (.take 3 (.one 4 (.nil))) 4 (.one 1 (.take 3 (.nil)))) 1 (.two 0 (.take 3 (.one 4 (.nil))) 4 (.one 0 (.take 3 (.nil)))) 4 (.two 0 (.one 1 (.take 3 (.nil))) 1 (.one 0 (.take 3 (.nil))))) 4 (.three 0 (.two 1 (.one 2 (.take 3 (.nil))) 2 (.one 1 (.take 3 (.nil)))) 1 (.two 0 (.one 2 (.take 3 (.nil))) 2 (.one 0 (.take 3 (.nil)))) 2 (.two 0 (.one 1 (.take 3 (.nil))) 1 (.one 0 (.take 3 (.nil)))))) (.one 5 .nil)) (by kernel_rfl) trivial ?_
    refine cutT (Nat × Nat × Nat × Nat) (fun z W => St w gs W [(z.1, 26, zBk)] [] [.dat true [dB z32] [.slice (some ⟨z.2.1, 0, none⟩) 32 32], .dat true [dB z32] [.slice (some ⟨z.2.2.1, 0, none⟩) 32 32], .dat true [dB z32] [.slice (some ⟨z.2.2.2, 0, none⟩) 32 32]])
      (fun z => [(1, .pointer (some ⟨z.1, 0, none⟩)), (10, .agg (c21 z.2.1 z.2.2.1 z.2.2.2).toArray)]) ?_ ?_
    rotate_left
    · rintro ⟨g1, g7, g8, g9⟩ E W M
      dsimp only at M
      refine s_storeA 0 (c21 g7 g8 g9) M rfl sz_bk rfl rfl rfl (all1 rfl) rfl ?_
      clear M; rintro W M
      dsimp only [setL] at M
      refine ⟨trivial, ?_⟩
      have hrd : RdL W (Fd W (own [(g1, 26, c21 g7 g8 g9)] [] gs)) (dBk a21) (bkcs a21 ⟨some ⟨g7, 0, none⟩, 32, some ⟨g8, 0, none⟩, 32, some ⟨g9, 0, none⟩, 32, none, 0, none, 0, none, 0⟩) := RdL.ofbk (M.d1 0 rfl) (M.d1 1 rfl) (M.d1 2 rfl) (RdD.nil_ none 0) (RdD.nil_ none 0) (RdD.nil_ (s := 1) none 0)
      exact ⟨(g1, ⟨some ⟨g7, 0, none⟩, 32, some ⟨g8, 0, none⟩, 32, some ⟨g9, 0, none⟩, 32, none, 0, none, 0, none, 0⟩), (M.addL hrd).fsub _ (by simp), (by repeat (first | exact trivial | refine ⟨rfl, ?_⟩))⟩
    refine ⟨?_, ?_, ?_, ?_⟩
    · refine s_mk32 M rfl rfl ?_
      clear M; rintro g7 W M
      refine ⟨trivial, ?_⟩
      refine ⟨?_, ?_, ?_⟩
      · refine s_mk32 M rfl rfl ?_
        clear M; rintro g8 W M
        refine ⟨trivial, ?_⟩
        refine ⟨?_, ?_⟩
        · refine s_mk32 M rfl rfl ?_
          clear M; rintro g9 W M
          refine ⟨trivial, ?_⟩
          refine p_build (vs := c21 g7 g8 g9) pl_bk z_bk rfl ?_
          refine s_alloc (zBk) M al_bk ?_
          clear M
          rintro g1 W M
          refine ⟨trivial, ?_⟩
          exact ⟨(g1, g7, g8, g9), M.fsub _ (by simp), (by repeat (first | exact trivial | refine ⟨rfl, ?_⟩))⟩
        · skip
          refine s_alloc (zBk) M al_bk ?_
          clear M
          rintro g1 W M
          refine ⟨trivial, ?_⟩
          refine s_mk32 M rfl rfl ?_
          clear M; rintro g9 W M
          refine ⟨trivial, ?_⟩
          refine p_build (vs := c21 g7 g8 g9) pl_bk z_bk rfl ?_
          exact ⟨(g1, g7, g8, g9), M.fsub _ (by simp), (by repeat (first | exact trivial | refine ⟨rfl, ?_⟩))⟩
      · refine s_mk32 M rfl rfl ?_
        clear M; rintro g9 W M
        refine ⟨trivial, ?_⟩
        refine ⟨?_, ?_⟩
        · refine s_mk32 M rfl rfl ?_
          clear M; rintro g8 W M
          refine ⟨trivial, ?_⟩
          refine p_build (vs := c21 g7 g8 g9) pl_bk z_bk rfl ?_
          refine s_alloc (zBk) M al_bk ?_
          clear M
          rintro g1 W M
          refine ⟨trivial, ?_⟩
          exact ⟨(g1, g7, g8, g9), M.fsub _ (by simp), (by repeat (first | exact trivial | refine ⟨rfl, ?_⟩))⟩
        · skip
          refine s_alloc (zBk) M al_bk ?_
          clear M
          rintro g1 W M
          refine ⟨trivial, ?_⟩
          refine s_mk32 M rfl rfl ?_
          clear M; rintro g8 W M
          refine ⟨trivial, ?_⟩
          refine p_build (vs := c21 g7 g8 g9) pl_bk z_bk rfl ?_
          exact ⟨(g1, g7, g8, g9), M.fsub _ (by simp), (by repeat (first | exact trivial | refine ⟨rfl, ?_⟩))⟩
      · skip
        refine s_alloc (zBk) M al_bk ?_
        clear M
        rintro g1 W M
        refine ⟨trivial, ?_⟩
        refine ⟨?_, ?_⟩
        · refine s_mk32 M rfl rfl ?_
          clear M; rintro g8 W M
          refine ⟨trivial, ?_⟩
          refine s_mk32 M rfl rfl ?_
          clear M; rintro g9 W M
          refine ⟨trivial, ?_⟩
          refine p_build (vs := c21 g7 g8 g9) pl_bk z_bk rfl ?_
          exact ⟨(g1, g7, g8, g9), M.fsub _ (by simp), (by repeat (first | exact trivial | refine ⟨rfl, ?_⟩))⟩
        · refine s_mk32 M rfl rfl ?_
          clear M; rintro g9 W M
          refine ⟨trivial, ?_⟩
          refine s_mk32 M rfl rfl ?_
          clear M; rintro g8 W M
          refine ⟨trivial, ?_⟩
          refine p_build (vs := c21 g7 g8 g9) pl_bk z_bk rfl ?_
          exact ⟨(g1, g7, g8, g9), M.fsub _ (by simp), (by repeat (first | exact trivial | refine ⟨rfl, ?_⟩))⟩
    · refine s_mk32 M rfl rfl ?_
      clear M; rintro g8 W M
      refine ⟨trivial, ?_⟩
      refine ⟨?_, ?_, ?_⟩
      · refine s_mk32 M rfl rfl ?_
        clear M; rintro g7 W M
        refine ⟨trivial, ?_⟩
        refine ⟨?_, ?_⟩
        · refine s_mk32 M rfl rfl ?_
          clear M; rintro g9 W M
          refine ⟨trivial, ?_⟩
          refine p_build (vs := c21 g7 g8 g9) pl_bk z_bk rfl ?_
          refine s_alloc (zBk) M al_bk ?_
          clear M
          rintro g1 W M
          refine ⟨trivial, ?_⟩
          exact ⟨(g1, g7, g8, g9), M.fsub _ (by simp), (by repeat (first | exact trivial | refine ⟨rfl, ?_⟩))⟩
        · skip
          refine s_alloc (zBk) M al_bk ?_
          clear M
          rintro g1 W M
          refine ⟨trivial, ?_⟩
          refine s_mk32 M rfl rfl ?_
          clear M; rintro g9 W M
          refine ⟨trivial, ?_⟩
          refine p_build (vs := c21 g7 g8 g9) pl_bk z_bk rfl ?_
          exact ⟨(g1, g7, g8, g9), M.fsub _ (by simp), (by repeat (first | exact trivial | refine ⟨rfl, ?_⟩))⟩
      · refine s_mk32 M rfl rfl ?_
        clear M; rintro g9 W M
        refine ⟨trivial, ?_⟩
        refine ⟨?_, ?_⟩
        · refine s_mk32 M rfl rfl ?_
          clear M; rintro g7 W M
          refine ⟨trivial, ?_⟩
          refine p_build (vs := c21 g7 g8 g9) pl_bk z_bk rfl ?_
          refine s_alloc (zBk) M al_bk ?_
          clear M
          rintro g1 W M
          refine ⟨trivial, ?_⟩
          exact ⟨(g1, g7, g8, g9), M.fsub _ (by simp), (by repeat (first | exact trivial | refine ⟨rfl, ?_⟩))⟩
        · skip
          refine s_alloc (zBk) M al_bk ?_
          clear M
          rintro g1 W M
          refine ⟨trivial, ?_⟩
          refine s_mk32 M rfl rfl ?_
          clear M; rintro g7 W M
          refine ⟨trivial, ?_⟩
          refine p_build (vs := c21 g7 g8 g9) pl_bk z_bk rfl ?_
          exact ⟨(g1, g7, g8, g9), M.fsub _ (by simp), (by repeat (first | exact trivial | refine ⟨rfl, ?_⟩))⟩
      · skip
        refine s_alloc (zBk) M al_bk ?_
        clear M
        rintro g1 W M
        refine ⟨trivial, ?_⟩
        refine ⟨?_, ?_⟩
        · refine s_mk32 M rfl rfl ?_
          clear M; rintro g7 W M
          refine ⟨trivial, ?_⟩
          refine s_mk32 M rfl rfl ?_
          clear M; rintro g9 W M
          refine ⟨trivial, ?_⟩
          refine p_build (vs := c21 g7 g8 g9) pl_bk z_bk rfl ?_
          exact ⟨(g1, g7, g8, g9), M.fsub _ (by simp), (by repeat (first | exact trivial | refine ⟨rfl, ?_⟩))⟩
        · refine s_mk32 M rfl rfl ?_
          clear M; rintro g9 W M
          refine ⟨trivial, ?_⟩
          refine s_mk32 M rfl rfl ?_
          clear M; rintro g7 W M
          refine ⟨trivial, ?_⟩
          refine p_build (vs := c21 g7 g8 g9) pl_bk z_bk rfl ?_
          exact ⟨(g1, g7, g8, g9), M.fsub _ (by simp), (by repeat (first | exact trivial | refine ⟨rfl, ?_⟩))⟩
    · refine s_mk32 M rfl rfl ?_
      clear M; rintro g9 W M
      refine ⟨trivial, ?_⟩
      refine ⟨?_, ?_, ?_⟩
      · refine s_mk32 M rfl rfl ?_
        clear M; rintro g7 W M
        refine ⟨trivial, ?_⟩
        refine ⟨?_, ?_⟩
        · refine s_mk32 M rfl rfl ?_
          clear M; rintro g8 W M
          refine ⟨trivial, ?_⟩
          refine p_build (vs := c21 g7 g8 g9) pl_bk z_bk rfl ?_
          refine s_alloc (zBk) M al_bk ?_
          clear M
          rintro g1 W M
          refine ⟨trivial, ?_⟩
          exact ⟨(g1, g7, g8, g9), M.fsub _ (by simp), (by repeat (first | exact trivial | refine ⟨rfl, ?_⟩))⟩
        · skip
          refine s_alloc (zBk) M al_bk ?_
          clear M
          rintro g1 W M
          refine ⟨trivial, ?_⟩
          refine s_mk32 M rfl rfl ?_
          clear M; rintro g8 W M
          refine ⟨trivial, ?_⟩
          refine p_build (vs := c21 g7 g8 g9) pl_bk z_bk rfl ?_
          exact ⟨(g1, g7, g8, g9), M.fsub _ (by simp), (by repeat (first | exact trivial | refine ⟨rfl, ?_⟩))⟩
      · refine s_mk32 M rfl rfl ?_
        clear M; rintro g8 W M
        refine ⟨trivial, ?_⟩
        refine ⟨?_, ?_⟩
        · refine s_mk32 M rfl rfl ?_
          clear M; rintro g7 W M
          refine ⟨trivial, ?_⟩
          refine p_build (vs := c21 g7 g8 g9) pl_bk z_bk rfl ?_
          refine s_alloc (zBk) M al_bk ?_
          clear M
          rintro g1 W M
          refine ⟨trivial, ?_⟩
          exact ⟨(g1, g7, g8, g9), M.fsub _ (by simp), (by repeat (first | exact trivial | refine ⟨rfl, ?_⟩))⟩
        · skip
          refine s_alloc (zBk) M al_bk ?_
          clear M
          rintro g1 W M
          refine ⟨trivial, ?_⟩
          refine s_mk32 M rfl rfl ?_
          clear M; rintro g7 W M
          refine ⟨trivial, ?_⟩
          refine p_build (vs := c21 g7 g8 g9) pl_bk z_bk rfl ?_
          exact ⟨(g1, g7, g8, g9), M.fsub _ (by simp), (by repeat (first | exact trivial | refine ⟨rfl, ?_⟩))⟩
      · skip
        refine s_alloc (zBk) M al_bk ?_
        clear M
        rintro g1 W M
        refine ⟨trivial, ?_⟩
        refine ⟨?_, ?_⟩
        · refine s_mk32 M rfl rfl ?_
          clear M; rintro g7 W M
          refine ⟨trivial, ?_⟩
          refine s_mk32 M rfl rfl ?_
          clear M; rintro g8 W M
          refine ⟨trivial, ?_⟩
          refine p_build (vs := c21 g7 g8 g9) pl_bk z_bk rfl ?_
          exact ⟨(g1, g7, g8, g9), M.fsub _ (by simp), (by repeat (first | exact trivial | refine ⟨rfl, ?_⟩))⟩
        · refine s_mk32 M rfl rfl ?_
          clear M; rintro g8 W M
          refine ⟨trivial, ?_⟩
          refine s_mk32 M rfl rfl ?_
          clear M; rintro g7 W M
          refine ⟨trivial, ?_⟩
          refine p_build (vs := c21 g7 g8 g9) pl_bk z_bk rfl ?_
          exact ⟨(g1, g7, g8, g9), M.fsub _ (by simp), (by repeat (first | exact trivial | refine ⟨rfl, ?_⟩))⟩
    · skip
      refine s_alloc (zBk) M al_bk ?_
      clear M
      rintro g1 W M
      refine ⟨trivial, ?_⟩
      refine ⟨?_, ?_, ?_⟩
      · refine s_mk32 M rfl rfl ?_
        clear M; rintro g7 W M
        refine ⟨trivial, ?_⟩
        refine ⟨?_, ?_⟩
        · refine s_mk32 M rfl rfl ?_
          clear M; rintro g8 W M
          refine ⟨trivial, ?_⟩
          refine s_mk32 M rfl rfl ?_
          clear M; rintro g9 W M
          refine ⟨trivial, ?_⟩
          refine p_build (vs := c21 g7 g8 g9) pl_bk z_bk rfl ?_
          exact ⟨(g1, g7, g8, g9), M.fsub _ (by simp), (by repeat (first | exact trivial | refine ⟨rfl, ?_⟩))⟩
        · refine s_mk32 M rfl rfl ?_
          clear M; rintro g9 W M
          refine ⟨trivial, ?_⟩
          refine s_mk32 M rfl rfl ?_
          clear M; rintro g8 W M
          refine ⟨trivial, ?_⟩
          refine p_build (vs := c21 g7 g8 g9) pl_bk z_bk rfl ?_
          exact ⟨(g1, g7, g8, g9), M.fsub _ (by simp), (by repeat (first | exact trivial | refine ⟨rfl, ?_⟩))⟩
      · refine s_mk32 M rfl rfl ?_
        clear M; rintro g8 W M
        refine ⟨trivial, ?_⟩
        refine ⟨?_, ?_⟩
        · refine s_mk32 M rfl rfl ?_
          clear M; rintro g7 W M
          refine ⟨trivial, ?_⟩
          refine s_mk32 M rfl rfl ?_
          clear M; rintro g9 W M
          refine ⟨trivial, ?_⟩
          refine p_build (vs := c21 g7 g8 g9) pl_bk z_bk rfl ?_
          exact ⟨(g1, g7, g8, g9), M.fsub _ (by simp), (by repeat (first | exact trivial | refine ⟨rfl, ?_⟩))⟩
        · refine s_mk32 M rfl rfl ?_
          clear M; rintro g9 W M
          refine ⟨trivial, ?_⟩
          refine s_mk32 M rfl rfl ?_
          clear M; rintro g7 W M
          refine ⟨trivial, ?_⟩
          refine p_build (vs := c21 g7 g8 g9) pl_bk z_bk rfl ?_
          exact ⟨(g1, g7, g8, g9), M.fsub _ (by simp), (by repeat (first | exact trivial | refine ⟨rfl, ?_⟩))⟩
      · refine s_mk32 M rfl rfl ?_
        clear M; rintro g9 W M
        refine ⟨trivial, ?_⟩
        refine ⟨?_, ?_⟩
        · refine s_mk32 M rfl rfl ?_
          clear M; rintro g7 W M
          refine ⟨trivial, ?_⟩
          refine s_mk32 M rfl rfl ?_
          clear M; rintro g8 W M
          refine ⟨trivial, ?_⟩
          refine p_build (vs := c21 g7 g8 g9) pl_bk z_bk rfl ?_
          exact ⟨(g1, g7, g8, g9), M.fsub _ (by simp), (by repeat (first | exact trivial | refine ⟨rfl, ?_⟩))⟩
        · refine s_mk32 M rfl rfl ?_
          clear M; rintro g8 W M
          refine ⟨trivial, ?_⟩
          refine s_mk32 M rfl rfl ?_
          clear M; rintro g7 W M
          refine ⟨trivial, ?_⟩
          refine p_build (vs := c21 g7 g8 g9) pl_bk z_bk rfl ?_
          exact ⟨(g1, g7, g8, g9), M.fsub _ (by simp), (by repeat (first | exact trivial | refine ⟨rfl, ?_⟩))⟩
  clear M
  rintro ⟨g1, p⟩ E W M
  dsimp only at M
  refine v_loadN (bkcs a21 p) agg_bk rfl rfl (M.run 0 rfl) ?_
  refine s_alloc (zBk) M al_bk ?_
  clear M
  rintro g2 W M
  refine s_storeA 0 (bkcs a21 p) M rfl sz_bk rfl rfl rfl (all1 rfl) rfl ?_
  clear M; rintro W M
  dsimp only [setL] at M
  refine p_fld fB0 rfl ?_
  refine s_set 0 (off := 0) (.int .i64 1) [.int .i64 1, .slice p.A1 32 p.c1, .slice p.A2 32 p.c2, .slice p.A3 32 p.c3, .slice p.A4 0 p.c4, .slice p.A5 0 p.c5, .slice p.A6 0 p.c6] M rfl sz_int rfl rfl rfl (Nat.le_of_ble_eq_true rfl) rfl ?_
  clear M; rintro W M
  dsimp only [setL] at M
  refine v_loadN (bkcs a21 p) agg_bk rfl rfl (M.run 1 rfl) ?_
  refine cc is_bHashL (bHash_any a21 _ _ _ (M.glB hG) (M.da 0 rfl) M.olt a21_ok.1) ?_
  rintro e W ⟨A14, n14, c14, rfl, o14, -, -, -, hbw⟩
  have en14 : (hashBk a21).length = n14 := o14.len
  subst en14
  replace M := M.callO hbw o14
  clear hbw o14
  refine ⟨_, rfl, ?_⟩
  refine p_fld fB1 rfl ?_
  refine s_set 0 (off := 1) (.slice A14 (hashBk a21).length c14) (bkcs b21 ⟨A14, c14, p.A2, p.c2, p.A3, p.c3, p.A4, p.c4, p.A5, p.c5, p.A6, p.c6⟩) M rfl sz_slK rfl rfl rfl (Nat.le_of_ble_eq_true rfl) rfl ?_
  clear M; rintro W M
  dsimp only [setL] at M
  obtain ⟨r, hr⟩ : ∃ r : Bp, r = ⟨A14, c14, p.A2, p.c2, p.A3, p.c3, p.A4, p.c4, p.A5, p.c5, p.A6, p.c6⟩ := ⟨_, rfl⟩
  rw [← hr] at M
  have hbd : RdL W (Fd W (own [(g2, 26, bkcs b21 r), (g1, 26, bkcs a21 p)] [] gs)) (dBk b21) (bkcs b21 r) := by
    obtain ⟨p', hp', k1, k2, k3, k4, k5, k6⟩ := (M.da 1 rfl).bk
    have e : p' = p := by
      unfold bkcs at hp'
      simp only [List.cons.injEq, Value.slice.injEq, and_true, true_and] at hp'
      obtain ⟨⟨q1, q2⟩, ⟨q3, q4⟩, ⟨q5, q6⟩, ⟨q7, q8⟩, ⟨q9, q10⟩, ⟨q11, q12⟩⟩ := hp'
      cases p; cases p'; simp only at q1 q2 q3 q4 q5 q6 q7 q8 q9 q10 q11 q12
      rw [q1, q2, q3, q4, q5, q6, q7, q8, q9, q10, q11, q12]
    subst e
    rw [hr]
    exact RdL.ofbk (M.d1 0 rfl) k2 k3 k4 k5 k6
  replace M := (M.addL hbd).fsub [.dat false (dBk b21) (bkcs b21 r), .dat false (dBk a21) (bkcs a21 p)] (by simp)
  clear hbd
  refine v_loadN (bkcs a21 p) agg_bk rfl rfl (M.run 1 rfl) ?_
  refine cc is_bEncK (bEnc_any a21 _ _ _ (M.da 1 rfl) M.olt a21_ok.1) ?_
  rintro e W ⟨A3, n3, c3, rfl, o3, hbw⟩
  rw [a21_ok.2.1] at o3 ⊢
  have en3 : (blockB a21).length = n3 := o3.len
  subst en3
  replace M := M.callO hbw o3
  clear hbw o3
  refine ⟨_, rfl, ?_⟩
  refine cc is_bDecK (bDec_any (blockB a21) _ _ _ _ _ (M.d1 0 rfl) M.olt (Nat.le_trans a21_ok.2.2 (by decide))) ?_
  rintro e W ⟨q, rfl, hq, hbw⟩
  rw [a21_dec] at hq ⊢
  replace M := (M.call hbw).addL hq
  clear hq hbw
  refine ⟨_, rfl, ?_⟩
  refine s_alloc (zBk) M al_bk ?_
  clear M
  rintro g5 W M
  refine s_storeA 0 (bkcs a21 q) M rfl sz_bk rfl rfl rfl (all1 rfl) rfl ?_
  clear M; rintro W M
  dsimp only [setL] at M
  refine v_loadN (bkcs a21 p) agg_bk rfl rfl (M.run 2 rfl) ?_
  refine cc is_bHashL (bHash_any a21 _ _ _ (M.glB hG) (M.da 3 rfl) M.olt a21_ok.1) ?_
  rintro e W ⟨A27, n27, c27, rfl, o27, -, -, hn27, hbw⟩
  have en27 : n27 = 32 := hn27 (by rw [a21_ok.2.1])
  subst en27
  replace M := M.call hbw
  clear hbw o27
  refine ⟨_, rfl, ?_⟩
  refine p_len slb rfl ?_
  refine p_eq rfl rfl (fun _ => ?_) (fun h => absurd rfl h)
  have hFab : ∀ b ∈ [a21, b21], FitsB b := fun b hb => by
    rcases List.mem_cons.1 hb with rfl | hb
    · exact a21_ok.1
    · rw [List.mem_singleton.1 hb]; exact b21_ok.1
  have hFba : ∀ b ∈ [b21, a21], FitsB b := fun b hb => by
    rcases List.mem_cons.1 hb with rfl | hb
    · exact b21_ok.1
    · rw [List.mem_singleton.1 hb]; exact a21_ok.1
  refine v_loadN (bkcs a21 p) agg_bk rfl rfl (M.run 2 rfl) ?_
  refine v_loadN (bkcs b21 r) agg_bk rfl rfl (M.run 1 rfl) ?_
  refine s_bslice (fr := false) (ds := dBk a21 ++ dBk b21) (bkcs a21 p ++ bkcs b21 r) M slbks z_bk rfl (by decide) rfl ((M.dw 3 rfl).app (M.dw 2 rfl)) rfl ?_
  clear M; rintro gq W M
  rw [two_bks] at M
  refine cc is_bLinksK (bLinks_any [a21, b21] _ _ _ _ _ (M.glB hG) (M.d1 0 rfl) M.olt hFab (by decide)) ?_
  rintro e W ⟨k, rfl, hk, hbw⟩
  have hk := link_inj hk link_ab
  subst hk
  replace M := (M.call hbw).fsub [.dat false (dBk a21) (bkcs a21 q), .dat true [dB (blockB a21)] [.slice A3 (blockB a21).length c3], .dat false (dBk b21) (bkcs b21 r), .dat false (dBk a21) (bkcs a21 p)] (by simp)
  clear hbw
  refine ⟨_, rfl, ?_⟩
  refine p_eq rfl rfl (fun _ => ?_) (fun h => absurd rfl h)
  refine v_loadN (bkcs b21 r) agg_bk rfl rfl (M.run 1 rfl) ?_
  refine v_loadN (bkcs a21 p) agg_bk rfl rfl (M.run 2 rfl) ?_
  refine s_bslice (fr := false) (ds := dBk b21 ++ dBk a21) (bkcs b21 r ++ bkcs a21 p) M slbks z_bk rfl (by decide) rfl ((M.dw 2 rfl).app (M.dw 3 rfl)) rfl ?_
  clear M; rintro gq W M
  rw [two_bks] at M
  refine cc is_bLinksK (bLinks_any [b21, a21] _ _ _ _ _ (M.glB hG) (M.d1 0 rfl) M.olt hFba (by decide)) ?_
  rintro e W ⟨k, rfl, hk, hbw⟩
  have hk := link_inj hk link_ba
  subst hk
  replace M := (M.call hbw).fsub [.dat false (dBk a21) (bkcs a21 q), .dat true [dB (blockB a21)] [.slice A3 (blockB a21).length c3], .dat false (dBk b21) (bkcs b21 r), .dat false (dBk a21) (bkcs a21 p)] (by simp)
  clear hbw
  refine ⟨_, rfl, ?_⟩
  refine p_eq rfl rfl (fun _ => ?_) (fun h => absurd rfl h)
  refine p_eq rfl rfl (fun _ => ?_) (fun h => absurd rfl h)
  refine p_eq rfl rfl (fun _ => ?_) (fun h => absurd rfl h)
  refine v_loadN (bkcs a21 q) agg_bk rfl rfl (M.run 0 rfl) ?_
  refine v_loadN (bkcs a21 p) agg_bk rfl rfl (M.run 2 rfl) ?_
  refine cc is_r21SameK (r21Same_any a21 a21 _ _ _ _ (M.da 0 rfl) (M.da 3 rfl) M.olt (lenB_of a21_ok.1) (lenB_of a21_ok.1)) ?_
  rintro e W ⟨z, rfl, hz, hbw⟩
  have hz := hz.2 rfl
  subst hz
  replace M := M.call hbw
  clear hbw
  refine ⟨_, rfl, ?_⟩
  refine p_build (vs := zBk) pl_bk z_bk rfl ?_
  refine cc is_bCheckK (bcheck_any bkZ _ _ _ (rd_z _ _) M.olt fits_z) ?_
  rintro e W ⟨rfl, hbw⟩
  replace M := M.call hbw
  clear hbw
  rw [chk_z]
  refine ⟨_, rfl, ?_⟩
  refine p_eq rfl rfl (fun _ => ?_) (fun h => absurd rfl h)
  refine v_loadN (bkcs a21 p) agg_bk rfl rfl (M.run 2 rfl) ?_
  refine v_loadN (bkcs a21 p) agg_bk rfl rfl (M.run 2 rfl) ?_
  refine cc is_bSameK (bSame_any a21 a21 _ _ _ _ (M.da 3 rfl) (M.da 3 rfl) M.olt (lenB_of a21_ok.1)) ?_
  rintro e W ⟨z, rfl, hz, hbw⟩
  have hz := hz.2 rfl
  subst hz
  replace M := M.call hbw
  clear hbw
  refine ⟨_, rfl, ?_⟩
  refine v_loadN (bkcs a21 p) agg_bk rfl rfl (M.run 2 rfl) ?_
  refine v_loadN (bkcs b21 r) agg_bk rfl rfl (M.run 1 rfl) ?_
  refine cc is_bSameK (bSame_any a21 b21 _ _ _ _ (M.da 3 rfl) (M.da 2 rfl) M.olt (lenB_of a21_ok.1)) ?_
  rintro e W ⟨z, rfl, hz, hbw⟩
  have hz : z = false := by
    cases z with
    | false => rfl
    | true => exact absurd (hz.1 rfl) ab_ne
  subst hz
  replace M := M.call hbw
  clear hbw
  refine ⟨_, rfl, ?_⟩
  refine p_not rfl ?_
  exact ⟨rfl, M.below⟩
end Go.Proofs.YtejbljopighenaaDoor
