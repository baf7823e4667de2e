/- Blocks: Hash of the package and of reference 21; sameTx, Same; reference 21: Same. Blocks: Same of the package and of reference 21. -/
import Derived.Test.YtejbljopighenaaDoorG17
import Derived.Test.YtejbljopighenaaDoorG18
namespace Go.Proofs.YtejbljopighenaaDoor
open Go.RowKit
theorem is_dgsumB : isFn Tryd.prog 39 = true := by kernel_rfl
theorem is_r5sumB : isFn Tryd.prog 40 = true := by kernel_rfl
theorem is_stx : isFn Tryd.prog 42 = true := by kernel_rfl
theorem St.glB {w W : World} {gs : List (Option Nat)} {L : Lc} {R : List Row} {fs : List Fact} (M : St w gs W L R fs) (hG : GL w gs) : GL W (own L R gs) := hG.up ⟨M.size, fun b h _ => M.below.block b h, fun b hlt e => by
  unfold own at e
  rcases List.mem_append.1 e with e | e
  · obtain ⟨y, hy, he⟩ := List.mem_map.1 e
    injection he with he
    have := (M.blk y hy).2; omega
  rcases List.mem_append.1 e with e | e
  · obtain ⟨r, hr, he⟩ := List.mem_map.1 e
    have := (row_bklo (M.row r hr) b he).1; omega
  · exact e⟩
def hashBk (b : Bk) : List UInt8 := if (encBk b).2 = 0 then sha (blockB b) else []
theorem encBk_full {b : Bk} (h : (encBk b).2 = 0) : encBk b = (blockB b, 0) := by
  unfold encBk at h ⊢
  split at h
  · next h1 =>
    split at h
    · exact absurd h (by decide)
    · next h2 => rw [if_pos h1, if_neg h2]
  · exact absurd h (by decide)
set_option maxRecDepth 100000 in
set_option maxHeartbeats 2000000 in
theorem bHash_any (b : Bk) (gs : List (Option Nat)) (w : World) (cs : List Value) (hG : GL w gs) (hr : RdL w (Fd w gs) (dBk b) cs) (hgs : ∀ b, some b ∈ gs → b < w.heap.size) (hf : FitsB b) :
    Calls Tryd.prog 16 #[.agg cs.toArray] w fun e w' => ∃ A n c, e = .returned (.slice A n c) ∧ Own w' w.heap.size A n c (hashBk b) ∧ (A = none ↔ (encBk b).2 ≠ 0) ∧ (A = none → n = 0 ∧ c = 0) ∧ ((encBk b).2 = 0 → n = 32) ∧ Below w.heap.size w w' := by
  refine calls_ev (args := [.agg cs.toArray]) mixed Tryd.func16 rfl (by kernel_rfl) ?_
  obtain ⟨p, rfl, -⟩ := id hr.bk
  have hf2 := hf.2.2
  have M := (St.start hgs).addL hr
  clear hr
  refine s_box (bkcs b p) M rfl ?_
  clear M
  rintro g1 W M
  refine v_loadN (bkcs b p) agg_bk rfl rfl (M.run 0 rfl) ?_
  refine cc is_bEnc (bEnc_any b _ _ _ (M.da 0 rfl) M.olt hf) ?_
  rintro e W ⟨A3, n3, c3, rfl, o3, hb⟩
  have en3 : (encBk b).1.length = n3 := o3.len
  replace M := M.callO hb o3
  clear hb o3
  refine ⟨_, rfl, ?_⟩
  refine p_ne rfl rfl (fun q => ?_) (fun q => ?_)
  rotate_left
  · have q : ¬ (encBk b).2 = 0 := q
    refine ⟨none, 0, 0, rfl, ?_, ⟨fun _ => q, fun _ => rfl⟩, fun _ => ⟨rfl, rfl⟩, fun h => absurd h q, M.below⟩
    unfold hashBk
    rw [if_neg q]; exact World.ownsRow_nil _ _ _ _
  have q : (encBk b).2 = 0 := q
  have hb0 := encBk_full q
  rw [hb0] at M en3
  subst en3
  refine s_bslice (fr := false) (ds := [dB (blockB b)]) [.slice A3 (blockB b).length c3] M sls zls rfl (by decide) rfl (M.dw 0 rfl) rfl ?_
  clear M; rintro g13 W M
  refine cc is_dgsumB (sum_any _ _ 1 1 [blockB b] _ M.olt (M.glB hG) (M.d1 0 rfl) (by rw [List.flatten_cons, List.flatten_nil, List.append_nil]; omega) (by decide)) ?_
  rintro e W ⟨A14, c14, rfl, o14, hb⟩
  have e14 : hashBk b = sha [blockB b].flatten := by unfold hashBk; rw [if_pos q]; simp
  rw [← e14] at o14
  refine ⟨_, rfl, ?_⟩
  refine ⟨A14, 32, c14, rfl, row_less o14 M.size, ⟨fun h => ?_, fun h => absurd q h⟩, fun h => ?_, fun _ => rfl, M.below.trans (hb.mono M.size)⟩
  · subst h
    rcases o14.2 with ⟨hv, -⟩ | ⟨g, cap, cur, hv, -⟩
    · injection hv with _ h; exact absurd h (by decide)
    · injection hv with h; cases h
  · subst h
    rcases o14.2 with ⟨hv, -⟩ | ⟨g, cap, cur, hv, -⟩
    · injection hv with _ h; exact absurd h (by decide)
    · injection hv with h; cases h
set_option maxRecDepth 100000 in
set_option maxHeartbeats 2000000 in
theorem r21Hash_any (b : Bk) (gs : List (Option Nat)) (w : World) (cs : List Value) (hr : RdL w (Fd w gs) (dBk b) cs) (hgs : ∀ b, some b ∈ gs → b < w.heap.size) (hf : FitsB b) :
    Calls Tryd.prog 17 #[.agg cs.toArray] w fun e w' => ∃ A n c, e = .returned (.slice A n c) ∧ Own w' w.heap.size A n c (hashBk b) ∧ ((encBk b).2 = 0 → n = 32) ∧ ((encBk b).2 ≠ 0 → n = 0) ∧ Below w.heap.size w w' := by
  refine calls_ev (args := [.agg cs.toArray]) mixed Tryd.func17 rfl (by kernel_rfl) ?_
  obtain ⟨p, rfl, -⟩ := id hr.bk
  have hf2 := hf.2.2
  have M := (St.start hgs).addL hr
  clear hr
  refine s_box (bkcs b p) M rfl ?_
  clear M
  rintro g1 W M
  refine v_loadN (bkcs b p) agg_bk rfl rfl (M.run 0 rfl) ?_
  refine cc is_r21Enc (r21Enc_any b _ _ _ (M.da 0 rfl) M.olt hf) ?_
  rintro e W ⟨A3, n3, c3, rfl, o3, hb⟩
  have en3 : (encBk b).1.length = n3 := o3.len
  replace M := M.callO hb o3
  clear hb o3
  refine ⟨_, rfl, ?_⟩
  refine p_ne rfl rfl (fun q => ?_) (fun q => ?_)
  rotate_left
  · have q : ¬ (encBk b).2 = 0 := q
    refine ⟨none, 0, 0, rfl, ?_, fun h => absurd h q, fun _ => rfl, M.below⟩
    unfold hashBk
    rw [if_neg q]; exact World.ownsRow_nil _ _ _ _
  have q : (encBk b).2 = 0 := q
  have hb0 := encBk_full q
  rw [hb0] at M en3
  subst en3
  refine cc is_r5sumB (r5sum_any (blockB b) _ _ _ _ _ (M.d1 0 rfl) M.olt (by omega)) ?_
  rintro e W ⟨A14, c14, rfl, o14, hb⟩
  have e14 : hashBk b = sha (blockB b) := by unfold hashBk; rw [if_pos q]
  rw [← e14] at o14
  refine ⟨_, rfl, ?_⟩
  exact ⟨A14, 32, c14, rfl, row_less o14 M.size, fun _ => rfl, fun h => absurd q h, M.below.trans (hb.mono M.size)⟩
set_option maxRecDepth 100000 in
set_option maxHeartbeats 2000000 in
theorem stx_any (a b : List (List UInt8)) (gs : List (Option Nat)) (w : World) (A B : Option Addr) (n c m d : Nat) (ha : RdD w (Fd w gs) (dTx a) (.slice A n c)) (hb : RdD w (Fd w gs) (dTx b) (.slice B m d)) (hgs : ∀ b, some b ∈ gs → b < w.heap.size) (hl : a.length ≤ 1000000000) :
    Calls Tryd.prog 42 #[.slice A n c, .slice B m d] w fun e w' => ∃ q : Bool, e = .returned (.bool q) ∧ (q = true ↔ a = b) ∧ Below w.heap.size w w' := by
  refine calls_ev (args := [.slice A n c, .slice B m d]) mixed Tryd.func42 rfl (by kernel_rfl) ?_
  have en : n = a.length := ha.slen
  have em : m = b.length := hb.slen
  subst en; subst em
  have M := ((St.start hgs).addD hb).addD ha
  clear ha hb
  refine p_len slts rfl ?_
  refine p_len slts rfl ?_
  refine p_ne rfl rfl (fun h => ?_) (fun h => ?_)
  rotate_left
  · exact ⟨false, rfl, ⟨(fun h => by cases h), fun e => absurd (by rw [e]) h⟩, M.below⟩
  have hlen : a.length = b.length := by have h : (a.length : Int) = (b.length : Int) := h; omega
  refine p_len slts rfl ?_
  refine lp Nat (fun i W => i ≤ a.length ∧ a.take i = b.take i ∧ St w gs W [] [] [.dat false [dTx a] [.slice A a.length c], .dat false [dTx b] [.slice B b.length d]]) (fun i => [(0, .slice A a.length c), (1, .slice B b.length d), (12, .int .i64 (a.length : Nat)), (13, .int .i64 i)]) (fun i => a.length - i) 0 ⟨Nat.zero_le _, rfl, M⟩ (by repeat (first | exact trivial | refine ⟨rfl, ?_⟩)) ?_
  clear M
  rintro i E W ⟨hi, ht, M⟩
  refine p_lt rfl rfl (fun hlt => ?_) (fun hge => ?_)
  rotate_left
  · have hi : i = a.length := by have h : ¬ (i : Int) < (a.length : Int) := hge; omega
    subst hi
    rw [List.take_of_length_le (Nat.le_refl _), List.take_of_length_le (by omega)] at ht
    exact ⟨true, rfl, ⟨fun _ => ht, fun _ => rfl⟩, M.below⟩
  have hlt : i < a.length := by have h : (i : Int) < (a.length : Int) := hlt; omega
  obtain ⟨u, hu⟩ : ∃ u, a[i]? = some u := ⟨_, List.getElem?_eq_getElem hlt⟩
  obtain ⟨v, hv⟩ : ∃ v, b[i]? = some v := ⟨_, List.getElem?_eq_getElem (by omega)⟩
  obtain ⟨b1, o1, rfl, M'⟩ := M.stre (M.d1 0 rfl) hu
  replace M := M'; clear M'
  obtain ⟨b2, o2, rfl, M'⟩ := M.stre (M.d1 2 rfl) hv
  replace M := M'.drew; clear M'
  refine drT (Kp w gs [] [.loc ((⟨b1, o1, none⟩ : Addr).add (i * 1)) [.string (sb u)], .loc ((⟨b2, o2, none⟩ : Addr).add (i * 1)) [.string (sb v)]]) (.take 0 (.take 1 (.take 2 (.take 3 (.take 4 (.take 5 (.take 6 (.take 7 (.take 8 (.nil)))))))))) (by kernel_rfl) (M.kp (by simp) (by simp)) ?_
  refine p_at (i := i) slts rfl rfl rfl hlt ?_
  refine t_load agg_st rfl (fun W K => K.lc 0 rfl 0 _ rfl) ?_
  refine p_at (i := i) slts rfl rfl rfl (by omega) ?_
  refine t_load agg_st rfl (fun W K => K.lc 1 rfl 0 _ rfl) ?_
  refine p_sne rfl rfl (fun he => ?_) (fun he => ?_)
  rotate_left
  · exact ⟨false, rfl, ⟨(fun h => by cases h), fun e => absurd e (take_ne hu hv (fun e => he (by rw [e])))⟩, M.below⟩
  refine p_addN (b := 1) rfl rfl (by omega) ?_
  exact ⟨i + 1, ⟨by omega, take_ext ht hu hv (sb_inj.1 he), M.fsub _ (by simp)⟩, (by repeat (first | exact trivial | refine ⟨rfl, ?_⟩)), by omega⟩
end Go.Proofs.YtejbljopighenaaDoor
namespace Go.Proofs.YtejbljopighenaaDoor
open Go.RowKit
theorem Bk.ext' {a b : Bk} (h0 : a.num = b.num) (h1 : a.last = b.last) (h2 : a.prev = b.prev) (h3 : a.next = b.next) (h4 : a.txs = b.txs) (h5 : a.outs = b.outs) (h6 : a.proof = b.proof) : a = b := by
  cases a; cases b; simp only at h0 h1 h2 h3 h4 h5 h6; rw [h0, h1, h2, h3, h4, h5, h6]
/-- Not too many. -/
def LenB (b : Bk) : Prop := b.txs.length ≤ 1000000000 ∧ (∀ t ∈ b.txs, t.length ≤ 1000000000) ∧ b.outs.length ≤ 1000000000 ∧ ∀ o ∈ b.outs, LenO o
theorem lenO_of {o : Out} (h : FitsO o) : LenO o := by
  have h2 := h.2.1
  refine ⟨by omega, fun r hr => ?_⟩
  obtain ⟨h3, -⟩ := h.1 r hr
  have h4 := h3.1
  refine ⟨by omega, fun l hl => ?_⟩
  have h5 := (h3.2.1 l hl).2
  have h6 : l.length ≤ tot l := by
    clear h5 hl h3 h4 h2
    induction l with
    | nil => exact Nat.zero_le _
    | cons v l ih => unfold tot at ih ⊢; simp only [List.map_cons, List.sum_cons, List.length_cons]; omega
  omega
theorem lenB_of {b : Bk} (h : FitsB b) : LenB b := by
  have h2 := h.2.2
  obtain ⟨t1, t2, -⟩ := bk_txs b
  exact ⟨by omega, fun t ht => by have := (bk_tx ht).2.1; omega, by omega, fun o ho => lenO_of (h.2.1 o ho)⟩
set_option maxRecDepth 100000 in
set_option maxHeartbeats 8000000 in
theorem bSame_any (a b : Bk) (gs : List (Option Nat)) (w : World) (ca cb : List Value) (ha : RdL w (Fd w gs) (dBk a) ca) (hb : RdL w (Fd w gs) (dBk b) cb) (hgs : ∀ b, some b ∈ gs → b < w.heap.size) (hl : LenB a) :
    Calls Tryd.prog 21 #[.agg ca.toArray, .agg cb.toArray] w fun e w' => ∃ q : Bool, e = .returned (.bool q) ∧ (q = true ↔ a = b) ∧ Below w.heap.size w w' := by
  refine calls_ev (args := [.agg ca.toArray, .agg cb.toArray]) mixed Tryd.func21 rfl (by kernel_rfl) ?_
  obtain ⟨p, rfl, h1, h2, h3, h4, h5, h6⟩ := ha.bk
  obtain ⟨r, rfl, k1, k2, k3, k4, k5, k6⟩ := hb.bk
  obtain ⟨hl1, hl2, hl3, hl4⟩ := hl
  have M := ((((((((((((St.start hgs).addD k6).addD k5).addD k4).addD k3).addD k2).addD k1).addD h6).addD h5).addD h4).addD h3).addD h2).addD h1
  clear h1 h2 h3 h4 h5 h6 k1 k2 k3 k4 k5 k6 ha hb
  refine s_box (bkcs a p) M rfl ?_
  clear M
  rintro g2 W M
  refine s_box (bkcs b r) M rfl ?_
  clear M
  rintro g3 W M
  refine p_fld fB0 rfl ?_
  refine v_load agg_i rfl ((M.B 1 rfl).at_ rfl) ?_
  refine p_fld fB0 rfl ?_
  refine v_load agg_i rfl ((M.B 0 rfl).at_ rfl) ?_
  refine p_eq rfl rfl (fun q0 => ?_) (fun q0 => ?_)
  rotate_left
  · refine p_not rfl ?_
    exact ⟨false, rfl, ⟨(fun h => by cases h), fun e => absurd (by rw [e]) q0⟩, M.below⟩
  have q0 : a.num = b.num := q0
  refine p_fld fB1 rfl ?_
  refine v_load agg_b rfl ((M.B 1 rfl).at_ rfl) ?_
  refine v_str rfl (M.rdb 0 rfl).2.2 ?_
  refine p_fld fB1 rfl ?_
  refine v_load agg_b rfl ((M.B 0 rfl).at_ rfl) ?_
  refine v_str rfl (M.rdb 6 rfl).2.2 ?_
  refine p_seq rfl rfl (fun q1 => ?_) (fun q1 => ?_)
  rotate_left
  · refine p_not rfl ?_
    exact ⟨false, rfl, ⟨(fun h => by cases h), fun e => absurd (by rw [e]) q1⟩, M.below⟩
  have q1 : a.last = b.last := sb_inj.1 q1
  refine p_fld fB2 rfl ?_
  refine v_load agg_b rfl ((M.B 1 rfl).at_ rfl) ?_
  refine v_str rfl (M.rdb 1 rfl).2.2 ?_
  refine p_fld fB2 rfl ?_
  refine v_load agg_b rfl ((M.B 0 rfl).at_ rfl) ?_
  refine v_str rfl (M.rdb 7 rfl).2.2 ?_
  refine p_seq rfl rfl (fun q2 => ?_) (fun q2 => ?_)
  rotate_left
  · refine p_not rfl ?_
    exact ⟨false, rfl, ⟨(fun h => by cases h), fun e => absurd (by rw [e]) q2⟩, M.below⟩
  have q2 : a.prev = b.prev := sb_inj.1 q2
  refine p_fld fB3 rfl ?_
  refine v_load agg_b rfl ((M.B 1 rfl).at_ rfl) ?_
  refine v_str rfl (M.rdb 2 rfl).2.2 ?_
  refine p_fld fB3 rfl ?_
  refine v_load agg_b rfl ((M.B 0 rfl).at_ rfl) ?_
  refine v_str rfl (M.rdb 8 rfl).2.2 ?_
  refine p_seq rfl rfl (fun q3 => ?_) (fun q3 => ?_)
  rotate_left
  · refine p_not rfl ?_
    exact ⟨false, rfl, ⟨(fun h => by cases h), fun e => absurd (by rw [e]) q3⟩, M.below⟩
  have q3 : a.next = b.next := sb_inj.1 q3
  refine p_fld fB6 rfl ?_
  refine v_load agg_b rfl ((M.B 1 rfl).at_ rfl) ?_
  refine v_str rfl (M.rdb 5 rfl).2.2 ?_
  refine p_fld fB6 rfl ?_
  refine v_load agg_b rfl ((M.B 0 rfl).at_ rfl) ?_
  refine v_str rfl (M.rdb 11 rfl).2.2 ?_
  refine p_seq rfl rfl (fun q6 => ?_) (fun q6 => ?_)
  rotate_left
  · refine p_not rfl ?_
    exact ⟨false, rfl, ⟨(fun h => by cases h), fun e => absurd (by rw [e]) q6⟩, M.below⟩
  have q6 : a.proof = b.proof := sb_inj.1 q6
  refine p_not rfl ?_
  refine p_fld fB4 rfl ?_
  refine v_load agg_tss rfl ((M.B 1 rfl).at_ rfl) ?_
  refine p_len sltss rfl ?_
  refine p_fld fB4 rfl ?_
  refine v_load agg_tss rfl ((M.B 0 rfl).at_ rfl) ?_
  refine p_len sltss rfl ?_
  refine p_ne rfl rfl (fun q4 => ?_) (fun q4 => ?_)
  rotate_left
  · exact ⟨false, rfl, ⟨(fun h => by cases h), fun e => absurd (by rw [e]) q4⟩, M.below⟩
  have n4 : a.txs.length = b.txs.length := by have h : (a.txs.length : Int) = (b.txs.length : Int) := q4; omega
  refine p_fld fB5 rfl ?_
  refine v_load agg_os rfl ((M.B 1 rfl).at_ rfl) ?_
  refine p_len slos rfl ?_
  refine p_fld fB5 rfl ?_
  refine v_load agg_os rfl ((M.B 0 rfl).at_ rfl) ?_
  refine p_len slos rfl ?_
  refine p_ne rfl rfl (fun q5 => ?_) (fun q5 => ?_)
  rotate_left
  · exact ⟨false, rfl, ⟨(fun h => by cases h), fun e => absurd (by rw [e]) q5⟩, M.below⟩
  have n5 : a.outs.length = b.outs.length := by have h : (a.outs.length : Int) = (b.outs.length : Int) := q5; omega
  replace M := M.fsub [.dat false [dTxs a.txs] [.slice p.A4 a.txs.length p.c4], .dat false [dTxs b.txs] [.slice r.A4 b.txs.length r.c4], .dat false [dOuts a.outs] [.slice p.A5 a.outs.length p.c5], .dat false [dOuts b.outs] [.slice r.A5 b.outs.length r.c5]] (by simp)
  refine cutS Unit (fun _ W => St w gs W [(g3, 26, bkcs b r), (g2, 26, bkcs a p)] [] [.dat false [dTxs a.txs] [.slice p.A4 a.txs.length p.c4], .dat false [dTxs b.txs] [.slice r.A4 b.txs.length r.c4], .dat false [dOuts a.outs] [.slice p.A5 a.outs.length p.c5], .dat false [dOuts b.outs] [.slice r.A5 b.outs.length r.c5]]) (fun _ => [(2, .pointer (some ⟨g2, 0, none⟩)), (3, .pointer (some ⟨g3, 0, none⟩))]) ?_ ?_
  · exact ⟨(), M, (by repeat (first | exact trivial | refine ⟨rfl, ?_⟩))⟩
  clear M
  rintro - E W M
  refine cutS Unit (fun _ W => a.txs = b.txs ∧ St w gs W [(g3, 26, bkcs b r), (g2, 26, bkcs a p)] [] [.dat false [dOuts a.outs] [.slice p.A5 a.outs.length p.c5], .dat false [dOuts b.outs] [.slice r.A5 b.outs.length r.c5]]) (fun _ => [(2, .pointer (some ⟨g2, 0, none⟩)), (3, .pointer (some ⟨g3, 0, none⟩))]) ?_ ?_
  · refine p_fld fB4 rfl ?_
    refine v_load agg_tss rfl ((M.B 1 rfl).at_ rfl) ?_
    refine p_len sltss rfl ?_
    refine lp Nat (fun i W => i ≤ a.txs.length ∧ a.txs.take i = b.txs.take i ∧ St w gs W [(g3, 26, bkcs b r), (g2, 26, bkcs a p)] [] [.dat false [dTxs a.txs] [.slice p.A4 a.txs.length p.c4], .dat false [dTxs b.txs] [.slice r.A4 b.txs.length r.c4], .dat false [dOuts a.outs] [.slice p.A5 a.outs.length p.c5], .dat false [dOuts b.outs] [.slice r.A5 b.outs.length r.c5]]) (fun i => [(2, .pointer (some ⟨g2, 0, none⟩)), (3, .pointer (some ⟨g3, 0, none⟩)), (71, .int .i64 (a.txs.length : Nat)), (72, .int .i64 i)]) (fun i => a.txs.length - i) 0 ⟨Nat.zero_le _, rfl, M⟩ (by repeat (first | exact trivial | refine ⟨rfl, ?_⟩)) ?_
    clear M
    rintro i E W ⟨hi, ht, M⟩
    refine p_lt rfl rfl (fun hlt => ?_) (fun hge => ?_)
    rotate_left
    · have hi : i = a.txs.length := by have h : ¬ (i : Int) < (a.txs.length : Int) := hge; omega
      subst hi
      rw [List.take_of_length_le (Nat.le_refl _), List.take_of_length_le (by omega)] at ht
      exact ⟨(), ⟨ht, M.fsub _ (by simp)⟩, (by repeat (first | exact trivial | refine ⟨rfl, ?_⟩))⟩
    have hlt : i < a.txs.length := by have h : (i : Int) < (a.txs.length : Int) := hlt; omega
    obtain ⟨u, hu⟩ : ∃ u, a.txs[i]? = some u := ⟨_, List.getElem?_eq_getElem hlt⟩
    obtain ⟨v, hv⟩ : ∃ v, b.txs[i]? = some v := ⟨_, List.getElem?_eq_getElem (by omega)⟩
    have hlu := hl2 u (List.mem_of_getElem? hu)
    obtain ⟨b1, o1, Au, cu, eA, M'⟩ := M.txe (M.d1 0 rfl) hu
    replace M := M'; clear M'
    obtain ⟨b2, o2, Bv, dv, eB, M'⟩ := M.txe (M.d1 3 rfl) hv
    replace M := M'.drew; clear M'
    refine drT (Kp w gs [(g2, 26, bkcs a p), (g3, 26, bkcs b r)] [.loc ((⟨b1, o1, none⟩ : Addr).add (i * 1)) [.slice Au u.length cu], .loc ((⟨b2, o2, none⟩ : Addr).add (i * 1)) [.slice Bv v.length dv]]) (.take 0 (.take 1 (.take 2 (.take 3 (.take 4 (.take 5 (.take 6 (.take 7 (.take 8 (.take 9 (.one 10 (.take 11 (.nil))))))))))))) (by kernel_rfl) (M.kp (by simp) (by simp)) ?_
    refine p_fld fB4 rfl ?_
    refine t_load agg_tss rfl (fun W K => (K.B 0 rfl).at_ rfl) ?_
    refine p_at (i := i) sltss (by show Value.slice p.A4 a.txs.length p.c4 = _; rw [eA]) rfl rfl hlt ?_
    refine t_load agg_ts rfl (fun W K => K.lc 0 rfl 0 _ rfl) ?_
    refine p_fld fB4 rfl ?_
    refine t_load agg_tss rfl (fun W K => (K.B 1 rfl).at_ rfl) ?_
    refine p_at (i := i) sltss (by show Value.slice r.A4 b.txs.length r.c4 = _; rw [eB]) rfl rfl (by omega) ?_
    refine t_load agg_ts rfl (fun W K => K.lc 1 rfl 0 _ rfl) ?_
    refine cc is_stx (stx_any u v _ _ _ _ _ _ _ _ (M.d1 3 rfl) (M.d1 1 rfl) M.olt hlu) ?_
    rintro e W ⟨q, rfl, hq, hb⟩
    replace M := M.call hb
    clear hb
    refine ⟨_, rfl, (M.kp (by simp) (by simp)), ?_⟩
    refine p_not rfl ?_
    cases q with
    | false =>
      exact ⟨false, rfl, ⟨(fun h => by cases h), fun e => absurd (congrArg Bk.txs e) (take_ne hu hv (fun e => by have := hq.2 e; cases this))⟩, M.below⟩
    | true =>
    refine p_addN (b := 1) rfl rfl (by omega) ?_
    exact ⟨i + 1, ⟨by omega, take_ext ht hu hv (hq.1 rfl), M.fsub _ (by simp)⟩, (by repeat (first | exact trivial | refine ⟨rfl, ?_⟩)), by omega⟩
  clear M
  rintro - E W ⟨ht4, M⟩
  refine p_fld fB5 rfl ?_
  refine v_load agg_os rfl ((M.B 1 rfl).at_ rfl) ?_
  refine p_len slos rfl ?_
  refine lp Nat (fun i W => i ≤ a.outs.length ∧ a.outs.take i = b.outs.take i ∧ St w gs W [(g3, 26, bkcs b r), (g2, 26, bkcs a p)] [] [.dat false [dOuts a.outs] [.slice p.A5 a.outs.length p.c5], .dat false [dOuts b.outs] [.slice r.A5 b.outs.length r.c5]]) (fun i => [(2, .pointer (some ⟨g2, 0, none⟩)), (3, .pointer (some ⟨g3, 0, none⟩)), (90, .int .i64 (a.outs.length : Nat)), (91, .int .i64 i)]) (fun i => a.outs.length - i) 0 ⟨Nat.zero_le _, rfl, M⟩ (by repeat (first | exact trivial | refine ⟨rfl, ?_⟩)) ?_
  clear M
  rintro i E W ⟨hi, ht, M⟩
  refine p_lt rfl rfl (fun hlt => ?_) (fun hge => ?_)
  rotate_left
  · have hi : i = a.outs.length := by have h : ¬ (i : Int) < (a.outs.length : Int) := hge; omega
    subst hi
    rw [List.take_of_length_le (Nat.le_refl _), List.take_of_length_le (by omega)] at ht
    exact ⟨true, rfl, ⟨fun _ => Bk.ext' q0 q1 q2 q3 ht4 ht q6, fun _ => rfl⟩, M.below⟩
  have hlt : i < a.outs.length := by have h : (i : Int) < (a.outs.length : Int) := hlt; omega
  obtain ⟨u, hu⟩ : ∃ u, a.outs[i]? = some u := ⟨_, List.getElem?_eq_getElem hlt⟩
  obtain ⟨v, hv⟩ : ∃ v, b.outs[i]? = some v := ⟨_, List.getElem?_eq_getElem (by omega)⟩
  have hlu := hl4 u (List.mem_of_getElem? hu)
  obtain ⟨b1, o1, es1, eA, M'⟩ := M.oute (M.d1 0 rfl) hu
  replace M := M'; clear M'
  obtain ⟨b2, o2, es2, eB, M'⟩ := M.oute (M.d1 3 rfl) hv
  replace M := M'.drew; clear M'
  have hc1 := (M.da 3 rfl).len
  have hc2 := (M.da 1 rfl).len
  rw [dOut_len] at hc1 hc2
  refine drT (Kp w gs [(g2, 26, bkcs a p), (g3, 26, bkcs b r)] [.loc ((⟨b1, o1, none⟩ : Addr).add (i * 3)) es1, .loc ((⟨b2, o2, none⟩ : Addr).add (i * 3)) es2]) (.take 0 (.take 1 (.take 2 (.take 3 (.take 4 (.take 5 (.take 6 (.take 7 (.take 8 (.take 9 (.one 10 (.take 11 (.nil))))))))))))) (by kernel_rfl) (M.kp (by simp) (by simp)) ?_
  refine p_fld fB5 rfl ?_
  refine t_load agg_os rfl (fun W K => (K.B 0 rfl).at_ rfl) ?_
  refine p_at (i := i) slos (by show Value.slice p.A5 a.outs.length p.c5 = _; rw [eA]) rfl rfl hlt ?_
  refine t_loadN es1 agg_out rfl hc1 (fun W K => K.lc 0 rfl) ?_
  refine p_fld fB5 rfl ?_
  refine t_load agg_os rfl (fun W K => (K.B 1 rfl).at_ rfl) ?_
  refine p_at (i := i) slos (by show Value.slice r.A5 b.outs.length r.c5 = _; rw [eB]) rfl rfl (by omega) ?_
  refine t_loadN es2 agg_out rfl hc2 (fun W K => K.lc 1 rfl) ?_
  refine cc is_xSame (xSame_any u v _ _ _ _ (M.da 3 rfl) (M.da 1 rfl) M.olt hlu) ?_
  rintro e W ⟨q, rfl, hq, hb⟩
  replace M := M.call hb
  clear hb
  refine ⟨_, rfl, (M.kp (by simp) (by simp)), ?_⟩
  refine p_not rfl ?_
  cases q with
  | false =>
    exact ⟨false, rfl, ⟨(fun h => by cases h), fun e => absurd (congrArg Bk.outs e) (take_ne hu hv (fun e => by have := hq.2 e; cases this))⟩, M.below⟩
  | true =>
  refine p_addN (b := 1) rfl rfl (by omega) ?_
  exact ⟨i + 1, ⟨by omega, take_ext ht hu hv (hq.1 rfl), M.fsub _ (by simp)⟩, (by repeat (first | exact trivial | refine ⟨rfl, ?_⟩)), by omega⟩
set_option maxRecDepth 100000 in
set_option maxHeartbeats 8000000 in
theorem r21Same_any (a b : Bk) (gs : List (Option Nat)) (w : World) (ca cb : List Value) (ha : RdL w (Fd w gs) (dBk a) ca) (hb : RdL w (Fd w gs) (dBk b) cb) (hgs : ∀ b, some b ∈ gs → b < w.heap.size) (hl : LenB a) (hlb : LenB b) :
    Calls Tryd.prog 18 #[.agg ca.toArray, .agg cb.toArray] w fun e w' => ∃ q : Bool, e = .returned (.bool q) ∧ (q = true ↔ a = b) ∧ Below w.heap.size w w' := by
  refine calls_ev (args := [.agg ca.toArray, .agg cb.toArray]) mixed Tryd.func18 rfl (by kernel_rfl) ?_
  obtain ⟨p, rfl, h1, h2, h3, h4, h5, h6⟩ := ha.bk
  obtain ⟨r, rfl, k1, k2, k3, k4, k5, k6⟩ := hb.bk
  obtain ⟨hl1, hl2, hl3, hl4⟩ := hl
  have M := ((((((((((((St.start hgs).addD k6).addD k5).addD k4).addD k3).addD k2).addD k1).addD h6).addD h5).addD h4).addD h3).addD h2).addD h1
  clear h1 h2 h3 h4 h5 h6 k1 k2 k3 k4 k5 k6 ha hb
  refine s_box (bkcs a p) M rfl ?_
  clear M
  rintro g2 W M
  refine s_box (bkcs b r) M rfl ?_
  clear M
  rintro g3 W M
  refine p_fld fB0 rfl ?_
  refine v_load agg_i rfl ((M.B 1 rfl).at_ rfl) ?_
  refine p_fld fB0 rfl ?_
  refine v_load agg_i rfl ((M.B 0 rfl).at_ rfl) ?_
  refine p_ne rfl rfl (fun q0 => ?_) (fun q0 => ?_)
  rotate_left
  · exact ⟨false, rfl, ⟨(fun h => by cases h), fun e => absurd (by rw [e]) q0⟩, M.below⟩
  have q0 : a.num = b.num := q0
  refine p_fld fB1 rfl ?_
  refine v_load agg_b rfl ((M.B 1 rfl).at_ rfl) ?_
  refine p_fld fB1 rfl ?_
  refine v_load agg_b rfl ((M.B 0 rfl).at_ rfl) ?_
  obtain ⟨q1, hq1, hc⟩ := same_tf (c1 := p.c1) (c2 := r.c1) (M.rdb 0 rfl).2.2 (M.rdb 6 rfl).2.2
  refine cc is_same0B hc ?_
  rintro e W' ⟨rfl, rfl⟩
  refine ⟨_, rfl, ?_⟩
  clear hc
  refine p_not rfl ?_
  cases q1 with
  | false => exact ⟨false, rfl, ⟨(fun h => by cases h), fun e => by have := hq1.2 (by rw [e]); cases this⟩, M.below⟩
  | true =>
  replace hq1 : a.last = b.last := hq1.1 rfl
  refine p_fld fB2 rfl ?_
  refine v_load agg_b rfl ((M.B 1 rfl).at_ rfl) ?_
  refine p_fld fB2 rfl ?_
  refine v_load agg_b rfl ((M.B 0 rfl).at_ rfl) ?_
  obtain ⟨q2, hq2, hc⟩ := same_tf (c1 := p.c2) (c2 := r.c2) (M.rdb 1 rfl).2.2 (M.rdb 7 rfl).2.2
  refine cc is_same0B hc ?_
  rintro e W' ⟨rfl, rfl⟩
  refine ⟨_, rfl, ?_⟩
  clear hc
  refine p_not rfl ?_
  cases q2 with
  | false => exact ⟨false, rfl, ⟨(fun h => by cases h), fun e => by have := hq2.2 (by rw [e]); cases this⟩, M.below⟩
  | true =>
  replace hq2 : a.prev = b.prev := hq2.1 rfl
  refine p_fld fB3 rfl ?_
  refine v_load agg_b rfl ((M.B 1 rfl).at_ rfl) ?_
  refine p_fld fB3 rfl ?_
  refine v_load agg_b rfl ((M.B 0 rfl).at_ rfl) ?_
  obtain ⟨q3, hq3, hc⟩ := same_tf (c1 := p.c3) (c2 := r.c3) (M.rdb 2 rfl).2.2 (M.rdb 8 rfl).2.2
  refine cc is_same0B hc ?_
  rintro e W' ⟨rfl, rfl⟩
  refine ⟨_, rfl, ?_⟩
  clear hc
  refine p_not rfl ?_
  cases q3 with
  | false => exact ⟨false, rfl, ⟨(fun h => by cases h), fun e => by have := hq3.2 (by rw [e]); cases this⟩, M.below⟩
  | true =>
  replace hq3 : a.next = b.next := hq3.1 rfl
  refine p_fld fB6 rfl ?_
  refine v_load agg_b rfl ((M.B 1 rfl).at_ rfl) ?_
  refine p_fld fB6 rfl ?_
  refine v_load agg_b rfl ((M.B 0 rfl).at_ rfl) ?_
  obtain ⟨q6, hq6, hc⟩ := same_tf (c1 := p.c6) (c2 := r.c6) (M.rdb 5 rfl).2.2 (M.rdb 11 rfl).2.2
  refine cc is_same0B hc ?_
  rintro e W' ⟨rfl, rfl⟩
  refine ⟨_, rfl, ?_⟩
  clear hc
  refine p_not rfl ?_
  cases q6 with
  | false => exact ⟨false, rfl, ⟨(fun h => by cases h), fun e => by have := hq6.2 (by rw [e]); cases this⟩, M.below⟩
  | true =>
  replace hq6 : a.proof = b.proof := hq6.1 rfl
  refine p_fld fB4 rfl ?_
  refine v_load agg_tss rfl ((M.B 1 rfl).at_ rfl) ?_
  refine p_len sltss rfl ?_
  refine p_fld fB4 rfl ?_
  refine v_load agg_tss rfl ((M.B 0 rfl).at_ rfl) ?_
  refine p_len sltss rfl ?_
  refine p_ne rfl rfl (fun q4 => ?_) (fun q4 => ?_)
  rotate_left
  · exact ⟨false, rfl, ⟨(fun h => by cases h), fun e => absurd (by rw [e]) q4⟩, M.below⟩
  have n4 : a.txs.length = b.txs.length := by have h : (a.txs.length : Int) = (b.txs.length : Int) := q4; omega
  replace M := M.fsub [.dat false [dTxs a.txs] [.slice p.A4 a.txs.length p.c4], .dat false [dTxs b.txs] [.slice r.A4 b.txs.length r.c4], .dat false [dOuts a.outs] [.slice p.A5 a.outs.length p.c5], .dat false [dOuts b.outs] [.slice r.A5 b.outs.length r.c5]] (by simp)
  refine cutS Unit (fun _ W => St w gs W [(g3, 26, bkcs b r), (g2, 26, bkcs a p)] [] [.dat false [dTxs a.txs] [.slice p.A4 a.txs.length p.c4], .dat false [dTxs b.txs] [.slice r.A4 b.txs.length r.c4], .dat false [dOuts a.outs] [.slice p.A5 a.outs.length p.c5], .dat false [dOuts b.outs] [.slice r.A5 b.outs.length r.c5]]) (fun _ => [(2, .pointer (some ⟨g2, 0, none⟩)), (3, .pointer (some ⟨g3, 0, none⟩))]) ?_ ?_
  · exact ⟨(), M, (by repeat (first | exact trivial | refine ⟨rfl, ?_⟩))⟩
  clear M
  rintro - E W M
  refine cutS Unit (fun _ W => a.txs = b.txs ∧ St w gs W [(g3, 26, bkcs b r), (g2, 26, bkcs a p)] [] [.dat false [dOuts a.outs] [.slice p.A5 a.outs.length p.c5], .dat false [dOuts b.outs] [.slice r.A5 b.outs.length r.c5]]) (fun _ => [(2, .pointer (some ⟨g2, 0, none⟩)), (3, .pointer (some ⟨g3, 0, none⟩))]) ?_ ?_
  · refine lp Nat (fun i W => i ≤ a.txs.length ∧ a.txs.take i = b.txs.take i ∧ St w gs W [(g3, 26, bkcs b r), (g2, 26, bkcs a p)] [] [.dat false [dTxs a.txs] [.slice p.A4 a.txs.length p.c4], .dat false [dTxs b.txs] [.slice r.A4 b.txs.length r.c4], .dat false [dOuts a.outs] [.slice p.A5 a.outs.length p.c5], .dat false [dOuts b.outs] [.slice r.A5 b.outs.length r.c5]]) (fun i => [(2, .pointer (some ⟨g2, 0, none⟩)), (3, .pointer (some ⟨g3, 0, none⟩)), (5, .int .i64 i)]) (fun i => a.txs.length - i) 0 ⟨Nat.zero_le _, rfl, M⟩ (by repeat (first | exact trivial | refine ⟨rfl, ?_⟩)) ?_
    clear M
    rintro i E W ⟨hi, ht, M⟩
    refine p_fld fB4 rfl ?_
    refine v_load agg_tss rfl ((M.B 1 rfl).at_ rfl) ?_
    refine p_len sltss rfl ?_
    refine p_lt rfl rfl (fun hlt => ?_) (fun hge => ?_)
    rotate_left
    · have hi : i = a.txs.length := by have h : ¬ (i : Int) < (a.txs.length : Int) := hge; omega
      subst hi
      rw [List.take_of_length_le (Nat.le_refl _), List.take_of_length_le (by omega)] at ht
      exact ⟨(), ⟨ht, M.fsub _ (by simp)⟩, (by repeat (first | exact trivial | refine ⟨rfl, ?_⟩))⟩
    have hlt : i < a.txs.length := by have h : (i : Int) < (a.txs.length : Int) := hlt; omega
    obtain ⟨u, hu⟩ : ∃ u, a.txs[i]? = some u := ⟨_, List.getElem?_eq_getElem hlt⟩
    obtain ⟨v, hv⟩ : ∃ v, b.txs[i]? = some v := ⟨_, List.getElem?_eq_getElem (by omega)⟩
    have hlu := hl2 u (List.mem_of_getElem? hu)
    obtain ⟨b1, o1, Au, cu, eA, M'⟩ := M.txe (M.d1 0 rfl) hu
    replace M := M'; clear M'
    obtain ⟨b2, o2, Bv, dv, eB, M'⟩ := M.txe (M.d1 3 rfl) hv
    replace M := M'.drew; clear M'
    refine drT (Kp w gs [(g2, 26, bkcs a p), (g3, 26, bkcs b r)] [.loc ((⟨b1, o1, none⟩ : Addr).add (i * 1)) [.slice Au u.length cu], .loc ((⟨b2, o2, none⟩ : Addr).add (i * 1)) [.slice Bv v.length dv]]) (.take 0 (.take 1 (.take 2 (.take 3 (.take 4 (.take 5 (.take 6 (.take 7 (.take 8 (.take 9 (.take 10 (.take 11 (.take 12 (.nil)))))))))))))) (by kernel_rfl) (M.kp (by simp) (by simp)) ?_
    refine p_fld fB4 rfl ?_
    refine t_load agg_tss rfl (fun W K => (K.B 0 rfl).at_ rfl) ?_
    refine p_at (i := i) sltss (by show Value.slice p.A4 a.txs.length p.c4 = _; rw [eA]) rfl rfl hlt ?_
    refine t_load agg_ts rfl (fun W K => K.lc 0 rfl 0 _ rfl) ?_
    refine p_len slts rfl ?_
    refine p_fld fB4 rfl ?_
    refine t_load agg_tss rfl (fun W K => (K.B 1 rfl).at_ rfl) ?_
    refine p_at (i := i) sltss (by show Value.slice r.A4 b.txs.length r.c4 = _; rw [eB]) rfl rfl (by omega) ?_
    refine t_load agg_ts rfl (fun W K => K.lc 1 rfl 0 _ rfl) ?_
    refine p_len slts rfl ?_
    refine p_ne rfl rfl (fun q5 => ?_) (fun q5 => ?_)
    rotate_left
    · exact ⟨false, rfl, ⟨(fun h => by cases h), fun e => absurd (congrArg Bk.txs e) (take_ne hu hv (fun e => q5 (by rw [e])))⟩, M.below⟩
    have n5 : u.length = v.length := by have h : (u.length : Int) = (v.length : Int) := q5; omega
    refine cutS Unit (fun _ W => St w gs W [(g3, 26, bkcs b r), (g2, 26, bkcs a p)] [] [.loc ((⟨b2, o2, none⟩ : Addr).add (i * 1)) [.slice Bv v.length dv], .dat false [dTx v] [.slice Bv v.length dv], .loc ((⟨b1, o1, none⟩ : Addr).add (i * 1)) [.slice Au u.length cu], .dat false [dTx u] [.slice Au u.length cu], .dat false [dTxs a.txs] [.slice p.A4 a.txs.length p.c4], .dat false [dTxs b.txs] [.slice r.A4 b.txs.length r.c4], .dat false [dOuts a.outs] [.slice p.A5 a.outs.length p.c5], .dat false [dOuts b.outs] [.slice r.A5 b.outs.length r.c5]]) (fun _ => [(2, .pointer (some ⟨g2, 0, none⟩)), (3, .pointer (some ⟨g3, 0, none⟩)), (5, .int .i64 i)]) ?_ ?_
    · exact ⟨(), M, (by repeat (first | exact trivial | refine ⟨rfl, ?_⟩))⟩
    clear M
    rintro - E W M
    refine lp Nat (fun k W => k ≤ u.length ∧ u.take k = v.take k ∧ St w gs W [(g3, 26, bkcs b r), (g2, 26, bkcs a p)] [] [.loc ((⟨b2, o2, none⟩ : Addr).add (i * 1)) [.slice Bv v.length dv], .dat false [dTx v] [.slice Bv v.length dv], .loc ((⟨b1, o1, none⟩ : Addr).add (i * 1)) [.slice Au u.length cu], .dat false [dTx u] [.slice Au u.length cu], .dat false [dTxs a.txs] [.slice p.A4 a.txs.length p.c4], .dat false [dTxs b.txs] [.slice r.A4 b.txs.length r.c4], .dat false [dOuts a.outs] [.slice p.A5 a.outs.length p.c5], .dat false [dOuts b.outs] [.slice r.A5 b.outs.length r.c5]])
      (fun k => [(2, .pointer (some ⟨g2, 0, none⟩)), (3, .pointer (some ⟨g3, 0, none⟩)), (5, .int .i64 i), (6, .int .i64 k)]) (fun k => u.length - k) 0 ⟨Nat.zero_le _, rfl, M⟩ (by repeat (first | exact trivial | refine ⟨rfl, ?_⟩)) ?_
    clear M
    rintro k E W ⟨hk, htk, M⟩
    refine p_fld fB4 rfl ?_
    refine v_load agg_tss rfl ((M.B 1 rfl).at_ rfl) ?_
    refine p_at (i := i) sltss (by show Value.slice p.A4 a.txs.length p.c4 = _; rw [eA]) rfl rfl hlt ?_
    refine v_load agg_ts rfl (M.lc 2 rfl 0 _ rfl) ?_
    refine p_len slts rfl ?_
    refine p_lt rfl rfl (fun hlt2 => ?_) (fun hge => ?_)
    rotate_left
    · have hk : k = u.length := by have h : ¬ (k : Int) < (u.length : Int) := hge; omega
      subst hk
      rw [List.take_of_length_le (Nat.le_refl _), List.take_of_length_le (by omega)] at htk
      refine p_addN (b := 1) rfl rfl (by omega) ?_
      exact ⟨i + 1, ⟨by omega, take_ext ht hu hv htk, M.fsub _ (by simp)⟩, (by repeat (first | exact trivial | refine ⟨rfl, ?_⟩)), by omega⟩
    have hlt2 : k < u.length := by have h : (k : Int) < (u.length : Int) := hlt2; omega
    obtain ⟨x, hx⟩ : ∃ x, u[k]? = some x := ⟨_, List.getElem?_eq_getElem hlt2⟩
    obtain ⟨y, hy⟩ : ∃ y, v[k]? = some y := ⟨_, List.getElem?_eq_getElem (by omega)⟩
    obtain ⟨b3, o3, rfl, M'⟩ := M.stre (M.d1 3 rfl) hx
    replace M := M'; clear M'
    obtain ⟨b4, o4, rfl, M'⟩ := M.stre (M.d1 2 rfl) hy
    replace M := M'.drew; clear M'
    refine drT (Kp w gs [(g2, 26, bkcs a p), (g3, 26, bkcs b r)] [.loc ((⟨b1, o1, none⟩ : Addr).add (i * 1)) [.slice (some ⟨b3, o3, none⟩) u.length cu], .loc ((⟨b2, o2, none⟩ : Addr).add (i * 1)) [.slice (some ⟨b4, o4, none⟩) v.length dv], .loc ((⟨b3, o3, none⟩ : Addr).add (k * 1)) [.string (sb x)], .loc ((⟨b4, o4, none⟩ : Addr).add (k * 1)) [.string (sb y)]]) (.take 0 (.take 1 (.take 2 (.take 3 (.take 4 (.take 5 (.take 6 (.take 7 (.take 8 (.take 9 (.take 10 (.take 11 (.take 12 (.take 13 (.take 14 (.take 15 (.take 16 (.nil)))))))))))))))))) (by kernel_rfl) (M.kp (by simp) (by simp)) ?_
    refine p_fld fB4 rfl ?_
    refine t_load agg_tss rfl (fun W K => (K.B 0 rfl).at_ rfl) ?_
    refine p_at (i := i) sltss (by show Value.slice p.A4 a.txs.length p.c4 = _; rw [eA]) rfl rfl hlt ?_
    refine t_load agg_ts rfl (fun W K => K.lc 0 rfl 0 _ rfl) ?_
    refine p_at (i := k) slts rfl rfl rfl hlt2 ?_
    refine t_load agg_st rfl (fun W K => K.lc 2 rfl 0 _ rfl) ?_
    refine p_fld fB4 rfl ?_
    refine t_load agg_tss rfl (fun W K => (K.B 1 rfl).at_ rfl) ?_
    refine p_at (i := i) sltss (by show Value.slice r.A4 b.txs.length r.c4 = _; rw [eB]) rfl rfl (by omega) ?_
    refine t_load agg_ts rfl (fun W K => K.lc 1 rfl 0 _ rfl) ?_
    refine p_at (i := k) slts rfl rfl rfl (by omega) ?_
    refine t_load agg_st rfl (fun W K => K.lc 3 rfl 0 _ rfl) ?_
    refine p_sne rfl rfl (fun he => ?_) (fun he => ?_)
    rotate_left
    · exact ⟨false, rfl, ⟨(fun h => by cases h), fun e => absurd (congrArg Bk.txs e) (take_ne hu hv (take_ne hx hy (fun e => he (by rw [e]))))⟩, M.below⟩
    refine p_addN (b := 1) rfl rfl (by omega) ?_
    exact ⟨k + 1, ⟨by omega, take_ext htk hx hy (sb_inj.1 he), M.fsub _ (by simp)⟩, (by repeat (first | exact trivial | refine ⟨rfl, ?_⟩)), by omega⟩
  clear M
  rintro - E W ⟨ht4, M⟩
  refine p_fld fB5 rfl ?_
  refine v_load agg_os rfl ((M.B 1 rfl).at_ rfl) ?_
  refine p_fld fB5 rfl ?_
  refine v_load agg_os rfl ((M.B 0 rfl).at_ rfl) ?_
  refine cc is_r20all (r20all_any a.outs b.outs _ _ _ _ _ _ _ _ (M.d1 0 rfl) (M.d1 1 rfl) M.olt hl3 hl4 hlb.2.2.2) ?_
  rintro e W ⟨q, rfl, hq, hb⟩
  replace M := M.call hb
  clear hb
  refine ⟨_, rfl, ?_⟩
  exact ⟨q, rfl, ⟨fun h => Bk.ext' q0 hq1 hq2 hq3 ht4 (hq.1 h) hq6, fun e => hq.2 (by rw [e])⟩, M.below⟩
end Go.Proofs.YtejbljopighenaaDoor
