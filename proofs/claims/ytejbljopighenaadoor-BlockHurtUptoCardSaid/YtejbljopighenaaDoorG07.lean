/- The walk of row.Decode. Numbers and bytes in one way: the reference's Get, GetInt, GetBytes. The walks of the reference's begins, value and Decode. The walk of the reference's Decode. Are values, and rows of them, the same? The walks of the reference's Cmp and Rows. The walks of the reference's Rows and of the law's 'long'. Lists of bytes as bytes: Join and Split, the program's and the reference's. Lists of bytes as bytes: the walk of vint.Split. Numbers and bytes in one way: plain laws of what stands at a place. Lists of bytes as bytes: plain laws: what is joined is split as it was, what is split is joined as it was, one byte more, one byte less. Rows as bytes: plain laws: what is written is read; cut short; with more behind; what is read is written. Rows as bytes: plain laws: what is read is written as it stands there. -/
import Derived.Test.YtejbljopighenaaDoorG06
import Derived.Test.YtejbljopighenaaDoorG05
import Derived.Laws.StructEq
import Derived.Test.YtejbljopighenaaDoorG01
import Derived.Test.YtejbljopighenaaDoorG04
namespace Go.Proofs.YtejbljopighenaaDoor
open Go.RowKit
theorem pl_rd : placesOf Tryd.prog 145 = some [(0, 1), (1, 1), (2, 1)] := by kernel_rfl
theorem z_rd : zeroOf Tryd.prog 145 = some [.slice none 0 0, .int .i64 0, .int .i64 0] := by kernel_rfl
theorem u_sv : Tryd.prog.underlying 59 = some (.slice 61) := by kernel_rfl
theorem inf_val : (Tryd.prog.info? 61).map (fun i => (i.zero, i.size, i.bytes)) = some (some (.agg #[.int .i64 0, .int .i64 0, .string ⟨#[]⟩]), 3, 32) := by kernel_rfl
/-- Values of the call's own. -/
def OwnV (w : World) (base : Nat) (A : Option Addr) (n c : Nat) (l : List Val) : Prop := w.ownsRow base 61 3 (.slice A n c) n (vcs l)
theorem OwnV.rd {w : World} {base n c : Nat} {A : Option Addr} {l : List Val} (h : OwnV w base A n c l) : RdV w w.heap.size A n l := Reads.of_own h
theorem OwnV.cap_ {w : World} {base n c : Nat} {A : Option Addr} {l : List Val} (h : OwnV w base A n c l) : n ≤ c := by
  rcases h.2 with ⟨hv, h0⟩ | ⟨g, cap, cur, hv, _, _, hle, _⟩
  · injection hv with _ h1 h2; omega
  · injection hv with _ h1 h2; omega
theorem OwnV.nil_ (w : World) (base : Nat) : OwnV w base none 0 0 [] := World.ownsRow_nil _ _ _ _
theorem OwnV.lo {w : World} {base n c : Nat} {A : Option Addr} {l : List Val} (h : OwnV w base A n c l) : ∀ k, (Value.slice A n c).ownBlock = some k → base ≤ k := fun k hk => (World.ownsRow.lt h k hk).1
def DecG (w : World) (l : List UInt8) (e : Ending) (w' : World) : Prop := ∃ A' m c', e = .returned (.tuple #[.slice A' m c', .int .i64 (decE l)]) ∧ OwnV w' w.heap.size A' m c' (decL l) ∧ Below w.heap.size w w'
/-- So many are behind, so many are left. -/
def Half (l : List UInt8) (n i a : Nat) (vs : List Val) : Prop := vs.length = i ∧ i ≤ n ∧ a ≤ l.length ∧ decF n l (gTo l 0).toNat = ((decF (n - i) l a).1, vs ++ (decF (n - i) l a).2.1, (decF (n - i) l a).2.2)
theorem half_step {l : List UInt8} {n i a : Nat} {vs : List Val} (h : Half l n i a vs) (hi : i < n) (hl : l.length ≤ 9223372036854775807) (h0 : (vR l a).1 = 0) : Half l n (i + 1) (vR l a).2.2 (vs ++ [(vR l a).2.1]) := by
  obtain ⟨h1, h2, h3, h4⟩ := h
  obtain ⟨k1, k2, _⟩ := vR_ok hl h0
  refine ⟨by simp [h1], by omega, k2, ?_⟩
  rw [h4, show n - i = (n - (i + 1)) + 1 by omega, decF, if_neg (by simpa using h0)]
  simp
theorem half_bad {l : List UInt8} {n i a : Nat} {vs : List Val} (h : Half l n i a vs) (hi : i < n) (h0 : ¬ (vR l a).1 = 0) : (decF n l (gTo l 0).toNat).1 = (vR l a).1 := by
  rw [h.2.2.2, show n - i = (n - (i + 1)) + 1 by omega, decF, if_pos h0]
theorem half_end {l : List UInt8} {n a : Nat} {vs : List Val} (h : Half l n n a vs) : decF n l (gTo l 0).toNat = (0, vs, a) := by
  rw [h.2.2.2, Nat.sub_self, decF]; simp
set_option maxRecDepth 100000 in
set_option maxHeartbeats 1000000 in
theorem decode_any (A : Option Addr) (n c : Nat) (l : List UInt8) (w : World) (hr : Rd w w.heap.size A n l) (hn : n ≤ 1000000000) (hnc : n ≤ c) :
    Calls Tryd.prog 81 #[.slice A n c] w (DecG w l) := by
  refine calls_ev (args := [.slice A n c]) mixed Tryd.func81 rfl (by kernel_rfl) ?_
  have hln := hr.len
  refine cc is_get (get_any _ _ _ _ 0 _ _ hr (by omega) hnc) ?_
  rintro en w' ⟨rfl, rfl⟩
  refine ⟨_, rfl, ?_⟩
  refine p_ne rfl rfl (fun h0 => ?_) (fun h0 => ?_)
  rotate_left
  · have e1 : decE l = gE l 0 := by unfold decE; rw [if_pos h0]
    have e2 : decL l = [] := by unfold decL; rw [if_neg (by rw [e1]; exact h0)]
    exact ⟨none, 0, 0, by rw [e1]; rfl, by rw [e2]; exact OwnV.nil_ _ _, Below.refl _ _⟩
  refine p_gt rfl rfl (fun h1 => ?_) (fun h1 => ?_)
  · have e1 : decE l = 11 := by unfold decE; rw [if_neg (by simpa using h0), if_pos h1]
    have e2 : decL l = [] := by unfold decL; rw [if_neg (by rw [e1]; decide)]
    exact ⟨none, 0, 0, by rw [e1]; rfl, by rw [e2]; exact OwnV.nil_ _ _, Below.refl _ _⟩
  obtain ⟨x, t, hx, hxl, _, hT, _, hle, _⟩ := g_ok h0
  obtain ⟨N, hN⟩ := Int.eq_ofNat_of_zero_le (gN_nonneg l 0)
  refine p_build (vs := rc A n c (gTo l 0) 0) pl_rd z_rd rfl ?_
  refine v_boxB (rc A n c (gTo l 0) 0) rfl ?_
  rintro g W hg hB hb hsz
  have hx0 : x = 0 := by omega
  subst hx0
  rw [Nat.zero_add] at hT hle
  rw [hT] at hB
  have h00 : Half l N 0 t [] := by
    refine ⟨rfl, by omega, hle, ?_⟩
    rw [hT, Nat.sub_zero, Int.toNat_natCast]; simp
  refine lp (Nat × Nat × List Val × Option Addr × Nat × Nat) (fun s W => Blk W g 145 (rc A n c (s.2.1 : Int) 0) ∧ Below w.heap.size w W ∧ OwnV W w.heap.size s.2.2.2.1 s.2.2.2.2.1 s.2.2.2.2.2 s.2.2.1 ∧ Half l N s.1 s.2.1 s.2.2.1)
    (fun s => [(0, .slice A n c), (7, .pointer (some ⟨g, 0, none⟩)), (8, .slice s.2.2.2.1 s.2.2.2.2.1 s.2.2.2.2.2), (26, .int .u64 (gN l 0)), (27, .int .u64 s.1)]) (fun s => N - s.1) (0, t, [], none, 0, 0)
    ⟨hB, by rw [← hg]; exact hb, OwnV.nil_ _ _, h00⟩ ⟨rfl, rfl, rfl, rfl, rfl, trivial⟩ ?_
  rintro ⟨i, a, vs, A3, n3, c3⟩ E0 W1 ⟨hB1, hb1, o1, hH⟩
  dsimp only at hB1 o1 hH
  have hs1 := hb1.size
  have hr1 : Rd W1 w.heap.size A n l := hr.below hb1
  have hl1 := hB1.lt
  have hn3 : n3 = i := by have := o1.1; rw [vcs_len, hH.1] at this; omega
  -- what is behind the loop
  refine p_lt rfl rfl (fun h => ?_) (fun h => ?_)
  · have hiN : i < N := by omega
    refine cc is_rval (rval_any (hr1.more (by omega)) hr1 (by omega) hn hnc (by have := hH.2.2.1; omega) hB1) ?_
    rintro en W2 ⟨v, at_, e, rfl, hB2, hg2, he, hv⟩
    refine ⟨_, rfl, ?_⟩
    have hs2 := hg2.size
    have b2 : Below w.heap.size w W2 := hb1.grown hg2 hs1 (fun k hk => by injection hk with hk; omega)
    have o2 : OwnV W2 w.heap.size A3 n3 c3 vs := World.ownsRow.kept o1 hg2 (.inr (ownsRow_ne o1 hB1 (by decide)))
    refine v_bslice (vs := vc v) slv zv rfl (by decide) rfl ?_
    rintro g4 W3 hg4 hB4 hb4 hsz4
    have hB3 := hB2.belowB hb4 (by have := hB2.lt; omega)
    have o3 : OwnV W3 w.heap.size A3 n3 c3 vs := ownsRow_below o2 (hb4.mono (by omega))
    refine v_appG u_sv inf_val rfl (by decide) rfl o3 rfl (Reads.blk (size := 3) (n := 1) hB4 rfl) (fun u hu => vcs_one [v] u (by simpa [vcs] using hu)) ⟨by show n3 + 1 ≤ _; omega, by decide⟩ (by omega) ?_
    rintro A5 c5 W4 o5 hg5
    have hB5 : Blk W4 g 145 (rc A n c at_ e) := hB3.grown hg5 (ownsRow_ne o3 hB3 (by decide))
    have b5 : Below w.heap.size w W4 := (b2.trans (hb4.mono (by omega))).grown hg5 (by omega) (fun k hk => o3.lo k hk)
    replace o5 : OwnV W4 w.heap.size A5 (n3 + 1) c5 (vs ++ [v]) := by unfold OwnV; rw [vcs_append]; simpa [vcs] using o5
    refine p_nil rfl ?_
    refine p_fld fr2 rfl ?_
    refine v_load agg_err rfl (hB5.at_ rfl) ?_
    refine p_ne rfl rfl (fun h2 => ?_) (fun h2 => ?_)
    · obtain ⟨hv1, hv2⟩ := hv h2
      have hH2 := half_step hH hiN (by omega) (he.symm.trans h2)
      refine p_add rfl rfl (wu64 (by omega)) ?_
      refine ⟨(i + 1, (vR l a).2.2, vs ++ [(vR l a).2.1], A5, n3 + 1, c5), ⟨?_, b5, ?_, hH2⟩, ⟨rfl, rfl, rfl, rfl, rfl, trivial⟩, by show N - (i + 1) < N - i; omega⟩
      · rw [hv2, h2] at hB5; exact hB5
      · rw [hv1] at o5; exact o5
    · have hbad := half_bad hH hiN (by rw [← he]; exact h2)
      have e1 : decE l = e := by
        unfold decE decR
        rw [if_neg (by simpa using h0), if_neg h1, hN, Int.toNat_natCast, hbad, if_pos (by rw [← he]; exact h2), he]
      have e2 : decL l = [] := by unfold decL; rw [if_neg (by rw [e1]; exact h2)]
      refine p_nil rfl ?_
      refine p_fld fr2 rfl ?_
      refine v_load agg_err rfl (hB5.at_ rfl) ?_
      refine p_eq rfl rfl (fun h3 => absurd h3 h2) (fun _ => ?_)
      refine p_nil rfl ?_
      refine p_fld fr2 rfl ?_
      refine v_load agg_err rfl (hB5.at_ rfl) ?_
      refine p_ne rfl rfl (fun h3 => absurd h3 h2) (fun _ => ?_)
      refine dr (fun W => Blk W g 145 (rc A n c at_ e)) [(0, true), (1, true), (2, true), (3, true), (4, true), (5, true)] (by kernel_rfl) hB5.drew ?_
      refine p_nil rfl ?_
      refine p_fld fr2 rfl ?_
      refine t_load agg_err rfl (fun W h => Blk.at_ h rfl) ?_
      exact ⟨none, 0, 0, by rw [e1]; rfl, by rw [e2]; exact OwnV.nil_ _ _, b5.drew⟩
  · have hiN : i = N := by have := hH.2.1; omega
    subst hiN
    have hend := half_end hH
    have hR : decR l = (0, vs, a) := by unfold decR; rw [hN, Int.toNat_natCast, hend]
    refine p_nil rfl ?_
    refine p_fld fr2 rfl ?_
    refine v_load agg_err rfl (hB1.at_ rfl) ?_
    refine p_eq rfl rfl (fun _ => ?_) (fun h3 => absurd rfl h3)
    refine p_nil rfl ?_
    refine p_fld fr1 rfl ?_
    refine v_load agg_int rfl (hB1.at_ rfl) ?_
    refine p_len slb rfl ?_
    refine p_lt rfl rfl (fun h4 => ?_) (fun h4 => ?_)
    · have e1 : decE l = 11 := by unfold decE; rw [if_neg (by simpa using h0), if_neg h1, hR, if_neg (by simp), if_pos (by show a < l.length; omega)]
      have e2 : decL l = [] := by unfold decL; rw [if_neg (by rw [e1]; decide)]
      refine p_nil rfl ?_
      refine p_fld fr2 rfl ?_
      refine v_set (.int .i64 11) sz_err hB1 rfl rfl rfl (by show 2 < 3; omega) ?_
      rintro W5 hB5 hg5 hs5
      have b5 : Below w.heap.size w W5 := hb1.grown hg5 hs1 (fun k hk => by injection hk with hk; omega)
      refine p_nil rfl ?_
      refine p_fld fr2 rfl ?_
      refine v_load agg_err rfl (hB5.at_ rfl) ?_
      refine p_ne rfl rfl (fun h3 => by cases h3) (fun _ => ?_)
      refine dr (fun W => Blk W g 145 (rc A n c a 11)) [(0, true), (1, true), (2, true), (3, true), (4, true), (5, true)] (by kernel_rfl) hB5.drew ?_
      refine p_nil rfl ?_
      refine p_fld fr2 rfl ?_
      refine t_load agg_err rfl (fun W h => Blk.at_ h rfl) ?_
      exact ⟨none, 0, 0, by rw [e1]; rfl, by rw [e2]; exact OwnV.nil_ _ _, b5.drew⟩
    · have e1 : decE l = 0 := by unfold decE; rw [if_neg (by simpa using h0), if_neg h1, hR, if_neg (by simp), if_neg (by show ¬ a < l.length; omega)]
      have e2 : decL l = vs := by unfold decL; rw [if_pos e1, hR]
      refine p_nil rfl ?_
      refine p_fld fr2 rfl ?_
      refine v_load agg_err rfl (hB1.at_ rfl) ?_
      refine p_ne rfl rfl (fun _ => ?_) (fun h3 => absurd rfl h3)
      exact ⟨A3, n3, c3, by rw [e1]; rfl, by rw [e2]; exact o1, hb1⟩
end Go.Proofs.YtejbljopighenaaDoor
namespace Go.Proofs.YtejbljopighenaaDoor
open Go.RowKit

section
variable {P : Program} {E : Env} {d : Option Nat} {ty : TypeId} {p : String} {af : Array Edge} {g : Option (Nat × Bool)} {x y : Operand} {t u : TypeId} {k : Value → Prop}
theorem p_slt {s1 s2 : ByteArray} (hx : val E x = .string s1) (hy : val E y = .string s2) (h1 : Op.bytesLess s1.toList s2.toList = true → k (.bool true)) (h2 : Op.bytesLess s1.toList s2.toList = false → k (.bool false)) : VPure P E { dst := d, op := .binOp .lss t x y u, type := ty, pos := p, after := af, guard := g } k := by
  refine pp (v := .bool (Op.bytesLess s1.toList s2.toList)) (fun w => ?_) ?_
  · simp only [execOp, hx, hy]
    simp [eqGuard, binOp, Op.stringOp]
  · cases h : Op.bytesLess s1.toList s2.toList
    · exact h2 h
    · exact h1 h
end
theorem less_irrefl : ∀ l : List UInt8, Op.bytesLess l l = false
  | [] => rfl
  | a :: l => by unfold Op.bytesLess; rw [less_irrefl l]; simp
theorem f_val : (Tryd.prog.fieldsOf 61).toList.map (fun f => (f.name != "_", f.type, f.offset)) = [(true, 3, 0), (true, 3, 1), (true, 9, 2)] := by kernel_rfl
theorem sh_val : Tryd.prog.stoodInHeld 61 = false := by kernel_rfl
theorem st_val : Tryd.prog.underlying 61 = some (.struct (Tryd.prog.fieldsOf 61)) := by kernel_rfl
theorem eg_val : Tryd.prog.eqGuardType Tryd.prog.depth 61 = false := by kernel_rfl
theorem ui : Tryd.prog.underlying 3 = some (.int .i64) := by kernel_rfl
theorem Val.ext_iff' {a b : Val} : a = b ↔ a.k = b.k ∧ a.n = b.n ∧ a.s = b.s := by
  cases a; cases b; simp
theorem len3 {α : Type} : ∀ l : List α, l.length = 3 → ∃ a b c, l = [a, b, c]
  | [a, b, c], _ => ⟨a, b, c, rfl⟩
  | [], h => by simp at h
  | [_], h => by simp at h
  | [_, _], h => by simp at h
  | _ :: _ :: _ :: _ :: _, h => by simp at h
theorem run_veq (a b : Val) (w : World) : (Op.equalIn 10000 61 (vv_ a) (vv_ b)).run Tryd.prog w = .ok (decide (a.k = b.k) && (decide (a.n = b.n) && decide (a.s = b.s))) w := by
  unfold vv_
  rw [run_equalIn_struct (P := Tryd.prog) w 9999 _ _ _ st_val sh_val]
  have hf := f_val
  generalize (Tryd.prog.fieldsOf 61).toList = fs at hf
  have hl := congrArg List.length hf
  simp only [List.length_map, List.length_cons, List.length_nil] at hl
  obtain ⟨f0, f1, f2, rfl⟩ := len3 _ hl
  · simp only [List.map_cons, List.map_nil, List.cons.injEq, Prod.mk.injEq, and_true] at hf
    obtain ⟨⟨n0, t0, o0⟩, ⟨n1, t1, o1⟩, ⟨n2, t2, o2⟩⟩ := hf
    have ag : (isAgg 3).run Tryd.prog w = .ok false w := (aggOf_run agg_int w).1
    have ags : (isAgg 9).run Tryd.prog w = .ok false w := (aggOf_run agg_str w).1
    have pt : ∀ (c : Val) (w' : World), w' = w → (part 3 (vc c).toArray 0).run Tryd.prog w' = .ok (.int .i64 c.k) w' ∧ (part 3 (vc c).toArray 1).run Tryd.prog w' = .ok (.int .i64 c.n) w' ∧ (part 9 (vc c).toArray 2).run Tryd.prog w' = .ok (.string (sb c.s)) w' := by
      rintro c w' rfl
      refine ⟨?_, ?_, ?_⟩
      · simp only [part, Sem.run_bind, ag, Result.andThen_ok]; rfl
      · simp only [part, Sem.run_bind, ag, Result.andThen_ok]; rfl
      · simp only [part, Sem.run_bind, ags, Result.andThen_ok]; rfl
    have q0 : f0.name ≠ "_" := by simpa using n0
    have q1 : f1.name ≠ "_" := by simpa using n1
    have q2 : f2.name ≠ "_" := by simpa using n2
    have es : ((sb a.s).toList == (sb b.s).toList) = decide (a.s = b.s) := by
      rw [Bool.eq_iff_iff]; simp [sb_toList]
    have ei : ∀ x y : Int, (x == y) = decide (x = y) := fun x y => by rw [Bool.eq_iff_iff]; simp
    rw [Op.eqFields, if_pos q0, t0, o0]
    simp only [Sem.run_bind, (pt a w rfl).1, (pt b w rfl).1, Result.andThen_ok, run_equalIn_int w 9998 3 .i64 .i64 a.k b.k ui, ei]
    by_cases h0 : a.k = b.k
    · rw [decide_eq_true h0]
      simp only [Bool.not_true, Bool.false_eq_true, if_false]
      rw [Op.eqFields, if_pos q1, t1, o1]
      simp only [Sem.run_bind, (pt a w rfl).2.1, (pt b w rfl).2.1, Result.andThen_ok, run_equalIn_int w 9998 3 .i64 .i64 a.n b.n ui, ei]
      by_cases h1 : a.n = b.n
      · rw [decide_eq_true h1]
        simp only [Bool.not_true, Bool.false_eq_true, if_false]
        rw [Op.eqFields, if_pos q2, t2, o2]
        simp only [Sem.run_bind, (pt a w rfl).2.2, (pt b w rfl).2.2, Result.andThen_ok, run_equalIn_string w 9998 9 (sb a.s) (sb b.s) u_str, es]
        by_cases h2 : a.s = b.s
        · rw [decide_eq_true h2]; simp [Op.eqFields]
        · rw [decide_eq_false h2]; simp
      · rw [decide_eq_false h1]; simp
    · rw [decide_eq_false h0]; simp
instance : DecidableEq Val := fun _ _ => decidable_of_iff _ Val.ext_iff'.symm
section
variable {E : Env} {d : Option Nat} {ty : TypeId} {p : String} {af : Array Edge} {g : Option (Nat × Bool)} {x y : Operand} {u : TypeId} {k : Value → Prop}
set_option maxRecDepth 100000 in
theorem p_veq {a b : Val} (hx : val E x = vv_ a) (hy : val E y = vv_ b) (h1 : a = b → k (.bool true)) (h2 : ¬ a = b → k (.bool false)) : VPure Tryd.prog E { dst := d, op := .binOp .eql 61 x y u, type := ty, pos := p, after := af, guard := g } k := by
  refine pp (v := .bool (decide (a = b))) (fun w => ?_) ?_
  · have hv := run_veq a b w
    have hg := run_eqGuard_agg (P := Tryd.prog) w .eql 61 x y (vc a).toArray (vc b).toArray eg_val
    have hb := run_eql_struct (P := Tryd.prog) w 61 (vc a).toArray (vc b).toArray
    unfold vv_ at hx hy hv
    simp only [execOp, hx, hy, Sem.run_bind, hg, Result.andThen_ok, hb, hv, Sem.run_pure]
    congr 3
    rw [Bool.eq_iff_iff]; simp [Val.ext_iff']
  · by_cases h : a = b
    · rw [decide_eq_true h]; exact h1 h
    · rw [decide_eq_false h]; exact h2 h
end
set_option maxRecDepth 100000 in
set_option maxHeartbeats 1000000 in
theorem cmp_any (a b : Val) (w : World) :
    Calls Tryd.prog 88 #[vv_ a, vv_ b] w fun e w' => ∃ r : Int, e = .returned (.int .i64 r) ∧ (r = 0 ↔ a = b) ∧ Below w.heap.size w w' := by
  refine calls_ev (args := [vv_ a, vv_ b]) mixed Tryd.func88 rfl (by kernel_rfl) ?_
  refine v_boxB (vc a) rfl ?_
  rintro g1 W1 hg1 hB1 hb1 hsz1
  refine v_boxB (vc b) rfl ?_
  rintro g2 W2 hg2 hB2 hb2 hsz2
  have hB1' := hB1.belowB hb2 (by omega)
  have hb : Below w.heap.size w W2 := by rw [← hg1]; exact hb1.trans (hb2.mono (by omega))
  refine p_fld fv0 rfl ?_
  refine cutO Bool (fun q W' => (q = true → a ≠ b) ∧ W' = W2) (fun q => [(2, .pointer (some ⟨g1, 0, none⟩)), (3, .pointer (some ⟨g2, 0, none⟩)), (44, .bool q)]) ?_ ?_
  ·
    repeat' first
      | (refine p_eq rfl rfl (fun _ => ?_) (fun _ => ?_) <;> try (exfalso; omega))
      | (refine p_ne rfl rfl (fun _ => ?_) (fun _ => ?_) <;> try (exfalso; omega))
      | (refine p_lt rfl rfl (fun _ => ?_) (fun _ => ?_) <;> try (exfalso; omega))
      | (refine p_le rfl rfl (fun _ => ?_) (fun _ => ?_) <;> try (exfalso; omega))
      | (refine p_gt rfl rfl (fun _ => ?_) (fun _ => ?_) <;> try (exfalso; omega))
      | (refine p_ge rfl rfl (fun _ => ?_) (fun _ => ?_) <;> try (exfalso; omega))
      | (refine p_seq rfl rfl (fun _ => ?_) (fun _ => ?_))
      | (refine p_sne rfl rfl (fun _ => ?_) (fun _ => ?_))
      | (refine p_not rfl ?_)
      | (refine p_lenS u_str rfl ?_)
      | (refine p_fld fv0 rfl ?_)
      | (refine p_fld fv1 rfl ?_)
      | (refine p_fld fv2 rfl ?_)
      | (refine v_load agg_int rfl (hB1'.at_ rfl) ?_)
      | (refine v_load agg_str rfl (hB1'.at_ rfl) ?_)
      | (refine v_load agg_int rfl (hB2.at_ rfl) ?_)
      | (refine v_load agg_str rfl (hB2.at_ rfl) ?_)
      | (refine p_slt rfl rfl (fun _ => ?_) (fun _ => ?_))
    all_goals first
      | exact ⟨false, ⟨(fun h => by cases h), rfl⟩, rfl, rfl, rfl, trivial⟩
      | (refine ⟨true, ⟨(fun _ e => ?_), rfl⟩, rfl, rfl, rfl, trivial⟩; subst e; first | omega | (have q := less_irrefl (sb a.s).toList; simp_all; done))
  rintro q E1 W3 ⟨hq, rfl⟩
  cases q
  · refine v_loadN (vc a) agg_val rfl rfl (hB1'.run 0 _ (fun j v h => by rw [Nat.zero_add]; exact h)) ?_
    refine v_loadN (vc b) agg_val rfl rfl (hB2.run 0 _ (fun j v h => by rw [Nat.zero_add]; exact h)) ?_
    refine p_veq (a := a) (b := b) rfl rfl (fun h => ?_) (fun h => ?_)
    · exact ⟨0, rfl, ⟨(fun _ => h), (fun _ => rfl)⟩, hb⟩
    · exact ⟨1, rfl, ⟨(fun h' => by cases h'), (fun h' => absurd h' h)⟩, hb⟩
  · exact ⟨-1, rfl, ⟨(fun h => by cases h), (fun h => absurd h (hq rfl))⟩, hb⟩
end Go.Proofs.YtejbljopighenaaDoor
namespace Go.Proofs.YtejbljopighenaaDoor
open Go.RowKit
theorem is_cmp : isFn Tryd.prog 88 = true := by kernel_rfl
theorem is_rows : isFn Tryd.prog 85 = true := by kernel_rfl
theorem RdV.ptr {w : World} {B n : Nat} {ad : Addr} {l : List Val} (h : RdV w B (some ad) n l) {i : Nat} {v : Val} (hi : l[i]? = some v) : ∀ j u, (vc v)[j]? = some u → w.cell? ((ad.add (i * 3)).add j) = some u := by
  obtain ⟨ad', e, _, _, hc⟩ := h.at_ hi
  injection e with e
  subst e
  exact hc
theorem RdV.some_ {w : World} {B n : Nat} {A : Option Addr} {l : List Val} (h : RdV w B A n l) {i : Nat} (hi : i < n) : ∃ ad v, A = some ad ∧ l[i]? = some v := by
  have hil : i < l.length := by have := h.len; omega
  obtain ⟨ad, e, _⟩ := h.at_ (List.getElem?_eq_getElem hil)
  exact ⟨ad, _, e, List.getElem?_eq_getElem hil⟩
theorem take_step {α : Type} {x y : List α} {i : Nat} {v : α} (ht : x.take i = y.take i) (hx : x[i]? = some v) (hy : y[i]? = some v) : x.take (i + 1) = y.take (i + 1) := by
  rw [List.take_add_one, List.take_add_one, ht, hx, hy]
theorem take_all {α : Type} {x y : List α} {i : Nat} (ht : x.take i = y.take i) (hx : x.length ≤ i) (hy : y.length ≤ i) : x = y := by
  rwa [List.take_of_length_le hx, List.take_of_length_le hy] at ht
set_option maxRecDepth 100000 in
theorem rows_any (A B : Option Addr) (n c m d : Nat) (x y : List Val) (w : World) (hx : RdV w w.heap.size A n x) (hy : RdV w w.heap.size B m y) (hn : n ≤ 1000000000) (hm : m ≤ 1000000000) :
    Calls Tryd.prog 85 #[.slice A n c, .slice B m d] w fun e w' => ∃ r : Int, e = .returned (.int .i64 r) ∧ (r = 0 ↔ x = y) ∧ Below w.heap.size w w' := by
  refine calls_ev (args := [.slice A n c, .slice B m d]) mixed Tryd.func85 rfl (by kernel_rfl) ?_
  have hlx := hx.len
  have hly := hy.len
  refine lp Nat (fun i W => Below w.heap.size w W ∧ W.heap.size = w.heap.size ∧ i ≤ n ∧ i ≤ m ∧ x.take i = y.take i) (fun i => [(0, .slice A n c), (1, .slice B m d), (5, .int .i64 i)]) (fun i => n - i) 0
    ⟨Below.refl _ _, rfl, Nat.zero_le _, Nat.zero_le _, rfl⟩ ⟨rfl, rfl, rfl, trivial⟩ ?_
  rintro i E0 W1 ⟨hb1, hs1, hin, him, ht⟩
  have hx1 := hx.below hb1
  have hy1 := hy.below hb1
  refine dr (fun W => RdV W w.heap.size A n x ∧ RdV W w.heap.size B m y) [(0, true), (1, true), (2, true), (3, true), (4, true), (5, true), (6, true), (7, true), (8, true), (9, true), (10, true), (11, true), (12, true), (13, true), (14, true), (15, true), (16, true), (17, true), (18, true), (19, true), (20, true)] (by kernel_rfl) ⟨hx1.drew, hy1.drew⟩ ?_
  refine p_len slv rfl ?_
  refine p_lt rfl rfl (fun h1 => ?_) (fun h1 => ?_)
  · refine p_len slv rfl ?_
    refine p_lt rfl rfl (fun h2 => ?_) (fun h2 => ?_)
    · obtain ⟨a, u, rfl, hu⟩ := hx.some_ (i := i) (by omega)
      obtain ⟨b, v, rfl, hv⟩ := hy.some_ (i := i) (by omega)
      refine p_at (i := i) slv rfl rfl rfl (by omega) ?_
      refine t_loadN (vc u) agg_val rfl rfl (fun W h => h.1.ptr hu) ?_
      refine p_at (i := i) slv rfl rfl rfl (by omega) ?_
      refine t_loadN (vc v) agg_val rfl rfl (fun W h => h.2.ptr hv) ?_
      refine p_veq (a := u) (b := v) rfl rfl (fun h => ?_) (fun h => ?_)
      · subst h
        refine p_add rfl rfl (w64 (by omega)) ?_
        exact ⟨i + 1, ⟨hb1.drew, hs1, by omega, by omega, take_step ht hu hv⟩, ⟨rfl, rfl, rfl, trivial⟩, by omega⟩
      · have hne : x ≠ y := by
          rintro rfl
          rw [hu] at hv; injection hv with hv; exact h hv
        refine p_len slv rfl ?_
        refine p_lt rfl rfl (fun h3 => ?_) (fun h3 => absurd h1 h3)
        refine p_len slv rfl ?_
        refine p_lt rfl rfl (fun h4 => ?_) (fun h4 => absurd h2 h4)
        refine dr (fun W => RdV W w.heap.size (some a) n x ∧ RdV W w.heap.size (some b) m y ∧ Below w.heap.size w W) [(0, true), (1, true), (2, true), (3, true), (4, true), (5, true), (6, true), (7, true), (8, false), (9, true)] (by kernel_rfl) ⟨hx1.drew.drew, hy1.drew.drew, hb1.drew.drew⟩ ?_
        refine p_at (i := i) slv rfl rfl rfl (by omega) ?_
        refine t_loadN (vc u) agg_val rfl rfl (fun W h => h.1.ptr hu) ?_
        refine p_at (i := i) slv rfl rfl rfl (by omega) ?_
        refine t_loadN (vc v) agg_val rfl rfl (fun W h => h.2.1.ptr hv) ?_
        refine cc is_cmp (cmp_any u v _) ?_
        rintro e W2 ⟨r, rfl, hr, hb2⟩
        have hb := hb1.drew.drew.trans (hb2.mono (by show _ ≤ W1.heap.size; omega))
        refine ⟨_, rfl, ⟨hx.below hb, hy.below hb, hb⟩, ?_⟩
        exact ⟨r, rfl, ⟨fun h0 => absurd (hr.1 h0) h, fun h0 => absurd h0 hne⟩, hb⟩
    · have hne : x ≠ y := by rintro rfl; omega
      refine p_len slv rfl ?_
      refine p_lt rfl rfl (fun h3 => ?_) (fun h3 => absurd h1 h3)
      refine p_len slv rfl ?_
      refine p_lt rfl rfl (fun h4 => absurd h4 h2) (fun h4 => ?_)
      refine p_len slv rfl ?_
      refine p_lt rfl rfl (fun h4 => absurd h4 h2) (fun h4 => ?_)
      refine p_len slv rfl ?_
      refine p_lt rfl rfl (fun h3 => ?_) (fun h3 => absurd h1 h3)
      exact ⟨1, rfl, ⟨(fun h => by cases h), fun h => absurd h hne⟩, hb1.drew⟩
  · refine p_len slv rfl ?_
    refine p_lt rfl rfl (fun h3 => absurd h3 h1) (fun h3 => ?_)
    refine p_len slv rfl ?_
    refine p_lt rfl rfl (fun h2 => ?_) (fun h2 => ?_)
    · have hne : x ≠ y := by rintro rfl; omega
      exact ⟨-1, rfl, ⟨(fun h => by cases h), fun h => absurd h hne⟩, hb1.drew⟩
    · refine p_len slv rfl ?_
      refine p_lt rfl rfl (fun h3 => absurd h3 h1) (fun h3 => ?_)
      exact ⟨0, rfl, ⟨fun _ => take_all ht (by omega) (by omega), fun _ => rfl⟩, hb1.drew⟩

/-- The law's 'long'. -/
def slen (l : List Val) : Nat := (l.map fun v => v.s.length).sum
end Go.Proofs.YtejbljopighenaaDoor
namespace Go.Proofs.YtejbljopighenaaDoor
open Go.RowKit

def joinL (ll : List (List UInt8)) : List UInt8 := putN ll.length ++ ll.flatMap putB
theorem flat_snoc (ll : List (List UInt8)) (k : Nat) (h : k < ll.length) : (ll.take (k + 1)).flatMap putB = (ll.take k).flatMap putB ++ putB (ll.getD k []) := by
  rw [List.take_succ_eq_append_getElem h, List.flatMap_append, List.getD_eq_getElem?_getD, List.getElem?_eq_getElem h]
  simp
theorem flat_le (ll : List (List UInt8)) (k : Nat) : ((ll.take k).flatMap putB).length ≤ (ll.flatMap putB).length := by
  conv => rhs; rw [← List.take_append_drop k ll]
  rw [List.flatMap_append, List.length_append]; omega
theorem putB_len (l : List UInt8) : (putB l).length = (putN l.length).length + l.length := by unfold putB; rw [List.length_append]

set_option maxRecDepth 100000 in
set_option maxHeartbeats 800000 in
theorem join_any (A : Option Addr) (n c : Nat) (ll : List (List UInt8)) (w : World) (hr : RdS w w.heap.size A n ll) (hn : n ≤ 10000000000) (hsz : (joinL ll).length ≤ 10000000000) :
    Calls Tryd.prog 24 #[.slice A n c] w fun e w' => ∃ A' n' c', e = .returned (.slice A' n' c') ∧ Own w' w.heap.size A' n' c' (joinL ll) ∧ Below w.heap.size w w' := by
  have hln := Lib.hid hr.len
  have hw : IntKind.u64.wrap (n : Int) = n := IntWalk.u64_in _ (by omega)
  have hlen := putN_len10 (n := n) (by omega)
  have Hsz := Lib.hid hsz
  clear hsz
  go_enter Tryd.func24, Tryd.ntmps24
  go_wp2_with fail
  refine (put_any _ _ hlen).mono ?_
  rintro e w1 ⟨A1, c1, rfl, o1, b1⟩
  go_wp2_with fail
  go_loopw [3, 12] (fun v i wr => ∃ (k m : Nat) (A' : Option Addr) (c' : Nat), k ≤ n ∧ i = .int .i64 k ∧ v = .slice A' m c' ∧ Own wr w.heap.size A' m c' (putN n ++ (ll.take k).flatMap putB) ∧ Below w.heap.size w wr) (fun _ i _ => n - (intOf i).toNat)
  case atStart => exact ⟨0, _, A1, c1, Nat.zero_le _, rfl, rfl, by simpa using o1, b1⟩
  case round =>
    obtain ⟨k, m, A', c', hk, rfl, rfl, hown, hb⟩ := hrel
    by_cases hlt : k < n
    · obtain ⟨bb, off, A2, m2, c2, rfl, _, hc, _, r2⟩ := (hr.below hb).at_ hlt
      have hfs := Lib.hid (flat_snoc ll k (by rw [hln.out]; exact hlt))
      have hm : Hid (m + ((putN m2).length + m2) ≤ 10000000000) := Lib.hid (by
        have e1 := hown.len
        have e2 := flat_le ll (k + 1)
        have e3 := Hsz.out
        have e4 := r2.len
        unfold joinL at e3
        rw [hln.out, List.length_append] at e3
        rw [List.length_append] at e1
        rw [hfs.out, List.length_append, putB_len, e4] at e2
        omega)
      have hm2 := hm.out
      go_wp2_with fail
      refine (putBytes_any _ _ _ _ _ (r2.more hb.size) (by omega)).mono ?_
      rintro e w2 ⟨A3, c3, rfl, o3, b3⟩
      have hb3 := hb.trans (b3.mono hb.size)
      have hown' := hown.below b3
      go_wp2_with (at_builtin; refine wpList_app rfl _ _ rfl rfl hown' rfl o3.rd (by omega) hb3.size ?_; intro A4 c4 w4 o4 g4)
      have hb4 := below_own hb3 hown' g4
      clear hown hown' o3
      go_roundw
      case rel => exact ⟨k + 1, _, A4, c4, by omega, by go_num, rfl, by rw [hfs.out, ← List.append_assoc]; exact o4, hb4⟩
      case measure => simp [intOf]; omega
    · go_wp2_with fail
      go_ret
      refine ⟨A', m, c', rfl, ?_, hb⟩
      unfold joinL
      rw [List.take_of_length_le (by rw [hln.out]; omega)] at hown
      rw [hln.out]; exact hown

/-- Reading so many, one behind the other: they, the place behind, the error. -/
def splitF (l : List UInt8) : Nat → Int → List (List UInt8) × Int × Int
  | 0, a => ([], a, 0)
  | m + 1, a => if gbE l a = 0 then (gbL l a :: (splitF l m (gbTo l a)).1, (splitF l m (gbTo l a)).2) else ([], 0, gbE l a)
def spR (l : List UInt8) : List (List UInt8) × Int × Int := splitF l (gN l 0).toNat (gTo l 0)
def spE (l : List UInt8) : Int := if gE l 0 = 0 then (if (spR l).2.2 = 0 then (if (spR l).2.1 < (l.length : Int) then 11 else 0) else (spR l).2.2) else gE l 0
def spL (l : List UInt8) : List (List UInt8) := if spE l = 0 then (spR l).1 else []
theorem sp_err1 {l : List UInt8} (h : gE l 0 ≠ 0) : spE l = gE l 0 ∧ spL l = [] := by
  have e : spE l = gE l 0 := by unfold spE; rw [if_neg h]
  exact ⟨e, by unfold spL; rw [if_neg (by rw [e]; exact h)]⟩
theorem sp_err2 {l : List UInt8} (h : gE l 0 = 0) (k : (spR l).2.2 ≠ 0) : spE l = (spR l).2.2 ∧ spL l = [] := by
  have e : spE l = (spR l).2.2 := by unfold spE; rw [if_pos h, if_neg k]
  exact ⟨e, by unfold spL; rw [if_neg (by rw [e]; exact k)]⟩
theorem sp_err3 {l : List UInt8} (h : gE l 0 = 0) (k : (spR l).2.2 = 0) (m : (spR l).2.1 < (l.length : Int)) : spE l = 11 ∧ spL l = [] := by
  have e : spE l = 11 := by unfold spE; rw [if_pos h, if_pos k, if_pos m]
  exact ⟨e, by unfold spL; rw [if_neg (by rw [e]; decide)]⟩
theorem sp_ok {l : List UInt8} (h : gE l 0 = 0) (k : (spR l).2.2 = 0) (m : ¬ (spR l).2.1 < (l.length : Int)) : spE l = 0 ∧ spL l = (spR l).1 := by
  have e : spE l = 0 := by unfold spE; rw [if_pos h, if_pos k, if_neg m]
  exact ⟨e, by unfold spL; rw [if_pos e]⟩
/-- A place behind what has been read lies farther on, within the bytes. -/
theorem gb_to {l : List UInt8} {a : Int} (h : gbE l a = 0) : a < gbTo l a ∧ gbTo l a ≤ (l.length : Int) ∧ 0 ≤ a := by
  rcases gb_cases l a with e | ⟨e, k⟩ | ⟨e, k, m⟩ | ⟨e, k, m⟩
  · rw [(gb_err1 e).1] at h; exact absurd h e
  · rw [(gb_err2 e k).1] at h; cases h
  · rw [(gb_err3 e k m).1] at h; cases h
  · obtain ⟨x, t, hx, _, _, hT, ht, hle, _, _⟩ := g_ok e
    rw [(gb_ok e k m).2.2]
    have := gN_nonneg l a
    omega
end Go.Proofs.YtejbljopighenaaDoor
namespace Go.Proofs.YtejbljopighenaaDoor
open Go.RowKit

theorem ret_si {A A' : Option Addr} {n n' c c' : Nat} {k : IntKind} {x x' : Int} (h : Value.slice A n c = Value.slice A' n' c') (h1 : x = x') :
    Ending.returned (.tuple #[.slice A n c, .int k x]) = Ending.returned (.tuple #[.slice A' n' c', .int k x']) := by rw [h, h1]
theorem below_ownS {W w w' : World} (hb : Below W.heap.size W w) {A : Option Addr} {n c : Nat} {vs : List Value} (hrow : w.ownsRow W.heap.size 22 1 (.slice A n c) n vs) (hg : w.grownBy w' (Value.slice A n c).ownBlock) : Below W.heap.size W w' :=
  hb.grown hg hb.size (fun k hk => (World.ownsRow.lt hrow k hk).1)
theorem own_below {w w' : World} {base n c : Nat} {A : Option Addr} {vs : List Value} {ll : List (List UInt8)} (h1 : w.ownsRow base 22 1 (.slice A n c) n vs) (h2 : ElsOwn w base vs ll) (hb : Below w.heap.size w w') : w'.ownsRow base 22 1 (.slice A n c) n vs ∧ ElsOwn w' base vs ll :=
  ⟨World.ownsRow.kept h1 (row := none) ⟨hb.os, hb.tape, hb.output, hb.size, fun k hk _ => hb.block k hk⟩ (by cases (Value.slice A n c).ownBlock <;> simp), h2.below hb⟩
theorem splitF_zero (l : List UInt8) (a : Int) : splitF l 0 a = ([], a, 0) := rfl
theorem splitF_err {l : List UInt8} {m : Nat} {a : Int} (h : gbE l a ≠ 0) : splitF l (m + 1) a = ([], 0, gbE l a) := by
  show (if gbE l a = 0 then _ else _) = _
  rw [if_neg h]
theorem splitF_step {l : List UInt8} {m : Nat} {a : Int} (h : gbE l a = 0) : splitF l (m + 1) a = (gbL l a :: (splitF l m (gbTo l a)).1, (splitF l m (gbTo l a)).2) := by
  show (if gbE l a = 0 then _ else _) = _
  rw [if_pos h]
/-- What Split comes to. -/
def GotSplit (k : IntKind) (w : World) (l : List UInt8) (e : Ending) (w' : World) : Prop :=
  ∃ A' n' c', e = .returned (.tuple #[.slice A' n' c', .int k (spE l)]) ∧ OwnS w' w.heap.size A' n' c' (spL l) ∧ Below w.heap.size w w'
theorem gotSplit_none {k : IntKind} {w w' : World} {l : List UInt8} {x : Int} (h : spE l = x ∧ spL l = []) (hb : Below w.heap.size w w') : GotSplit k w l (.returned (.tuple #[.slice none 0 0, .int k x])) w' :=
  ⟨none, 0, 0, by rw [h.1], by rw [h.2]; exact OwnS.nil_ _ _, hb⟩

set_option maxRecDepth 100000 in
set_option maxHeartbeats 1600000 in
theorem split_any (A : Option Addr) (n c : Nat) (l : List UInt8) (w : World) (hr : Rd w w.heap.size A n l) (hn : n ≤ 100000000000) (hnc : n ≤ c) :
    Calls Tryd.prog 31 #[.slice A n c] w (GotSplit .i64 w l) := by
  have hln := Lib.hid hr.len
  by_cases h : gE l 0 = 0
  · have H := Lib.hid h
    obtain ⟨N, hN⟩ := Int.eq_ofNat_of_zero_le (gN_nonneg l 0)
    have hNlt := gN_lt l 0
    obtain ⟨T, hT, hle⟩ := g_to h
    rw [hln.out] at hle
    have HS := Lib.hid (show splitF l N (T : Int) = spR l by unfold spR; rw [hN, hT]; rfl)
    rw [hN] at hNlt
    have HT := Lib.hid hT
    have HN := Lib.hid hN
    clear h hT hN
    go_enter Tryd.func31, Tryd.ntmps31
    go_wp2_with fail
    refine (get_any _ _ _ _ _ _ _ hr hn hnc).mono ?_
    rintro e w1 ⟨rfl, rfl⟩
    rw [H.out, HT.out, HN.out]
    go_wp2_with fail
    go_loopw [4, 5, 7] (fun mm i v wr => ∃ (m a : Nat) (pre : List (List UInt8)) (A' : Option Addr) (c' : Nat), m ≤ N ∧ a ≤ n ∧ pre.length ≤ a ∧ mm = .int .u64 m ∧ i = .int .i64 a ∧ v = .slice A' pre.length c' ∧ OwnS wr w.heap.size A' pre.length c' pre ∧ Below w.heap.size w wr ∧ Hid (spR l = (pre ++ (splitF l m a).1, (splitF l m a).2))) (fun mm _ _ _ => (intOf mm).toNat)
    case atStart => exact ⟨N, T, [], none, 0, Nat.le_refl _, hle, Nat.zero_le _, rfl, rfl, rfl, OwnS.nil_ _ _, Below.refl _ _, Lib.hid (by rw [HS.out]; rfl)⟩
    case round =>
      obtain ⟨m, a, pre, A', c', hm, ha, hpre, rfl, rfl, rfl, hown, hb, hF⟩ := hrel
      cases m with
      | zero =>
        by_cases hlt : a < n
        · have F := Lib.hid (sp_err3 H.out (by rw [hF.out]; rfl) (by rw [hF.out, splitF_zero, hln.out]; show (a : Int) < n; omega))
          go_wp2_with fail
          go_ret2
          exact gotSplit_none F.out hb
        · have F := Lib.hid (sp_ok H.out (by rw [hF.out]; rfl) (by rw [hF.out, splitF_zero, hln.out]; show ¬ (a : Int) < n; omega))
          go_wp2_with fail
          go_ret2
          refine ⟨A', _, c', ret_si rfl F.out.1.symm, ?_, hb⟩
          rw [F.out.2, hF.out, splitF_zero, List.append_nil]
          exact hown
      | succ m =>
        have hw : IntKind.u64.wrap (((m + 1 : Nat) : Int) - 1) = (m : Int) := by rw [IntWalk.u64_in _ (by omega)]; omega
        have hpos : (0 : Int) < ((m + 1 : Nat) : Int) := by omega
        obtain ⟨M, hM⟩ : ∃ M : Int, ((m + 1 : Nat) : Int) = M := ⟨_, rfl⟩
        rw [hM] at hw hpos
        rw [hM]
        have HM := Lib.hid hM
        clear hM
        go_wp2_with fail
        refine (getBytes_any _ _ _ _ _ _ ((hr.below hb).more hb.size) hn hnc).mono ?_
        rintro e w2 ⟨A2, n2, c2, rfl, o2, b2⟩
        by_cases he : gbE l a = 0
        · have hF2 := Lib.hid (show spR l = (pre ++ gbL l a :: (splitF l m (gbTo l a)).1, (splitF l m (gbTo l a)).2) by rw [hF.out, splitF_step he])
          obtain ⟨g1, g2, g3⟩ := gb_to he
          obtain ⟨a2, ha2⟩ := Int.eq_ofNat_of_zero_le (show 0 ≤ gbTo l a by omega)
          rw [hln.out] at g2
          rw [ha2] at g1 g2
          have Ha2 := Lib.hid ha2
          have He := Lib.hid he
          clear he ha2
          rw [He.out, Ha2.out]
          have hb2 := hb.trans (b2.mono hb.size)
          obtain ⟨vs, hrow0, hels0⟩ := hown
          have hlt : ∀ v ∈ vs, ∀ g, v.ownBlock = some g → g < wr.heap.size := fun v hv g hg => (hels0.lt v hv g hg).2
          obtain ⟨hrow, hels⟩ := own_below hrow0 hels0 b2
          clear hrow0 hels0
          have hN := fun g hg => (World.ownsRow.lt o2 g hg).1
          have hrow2 := hrow.alloc (.cells #[.slice A2 n2 c2] 22)
          have hels2 := hels.below ((Below.refl _ _).alloc (Nat.le_refl _) (.cells #[.slice A2 n2 c2] 22))
          have o22 := (o2.less hb.size).alloc (.cells #[.slice A2 n2 c2] 22)
          go_wp2_with (at_builtin; refine wpList_appS rfl _ _ rfl rfl hrow2 hels2 o22 hlt hN rfl (Reads.lit1 _ _ rfl _ _) (by omega) (by have := hb2.size; simp; omega) ?_; intro A4 c4 w4 o4 g4)
          have hb4 := below_ownS (hb2.trans ((Below.refl _ _).alloc hb2.size _)) hrow2 g4
          go_roundw
          case rel => exact ⟨m, a2, pre ++ [gbL l a], A4, c4, by omega, by omega, by simp; omega, rfl, rfl, by simp, by simpa using o4, hb4, Lib.hid (by rw [hF2.out, Ha2.out]; simp)⟩
          case measure => have := HM.out; simp [intOf]; omega
        · have F := Lib.hid (sp_err2 H.out (by rw [hF.out, splitF_err he]; exact he))
          have F2 := Lib.hid (show (spR l).2.2 = gbE l a by rw [hF.out, splitF_err he])
          have hne : (gbE l a != 0) = true := by simp [he]
          clear he
          go_wp2_with fail
          go_ret2
          exact gotSplit_none (by rw [← F2.out]; exact F.out) (hb.trans (b2.mono hb.size))
  · have F := Lib.hid (sp_err1 h)
    have hne : (gE l 0 != 0) = true := by simp [h]
    clear h
    go_enter Tryd.func31, Tryd.ntmps31
    go_wp2_with fail
    refine (get_any _ _ _ _ _ _ _ hr hn hnc).mono ?_
    rintro e w1 ⟨rfl, rfl⟩
    go_wp2_with fail
    go_ret2
    exact gotSplit_none F.out (Below.refl _ _)
end Go.Proofs.YtejbljopighenaaDoor
namespace Go.Proofs.YtejbljopighenaaDoor

/-- What is read at a place stands there; the bytes up to behind it. -/
theorem g_split {l : List UInt8} {a : Nat} (h : gE l (a : Int) = 0) : ∃ N t : Nat, gN l (a : Int) = N ∧ N < 18446744073709551616 ∧ gTo l (a : Int) = ((a + t : Nat) : Int) ∧ t = (putN N).length ∧ 1 ≤ t ∧ a + t ≤ l.length ∧ (l.drop a).take t = putN N ∧ l.take (a + t) = l.take a ++ putN N := by
  obtain ⟨x, t, hx, hxl, ht, hT, h1, hle, htk, hlt⟩ := g_ok h
  have hax : a = x := by omega
  subst hax
  obtain ⟨N, hN⟩ := Int.eq_ofNat_of_zero_le (gN_nonneg l (a : Int))
  rw [hN] at ht htk hlt
  refine ⟨N, t, hN, by omega, hT, ht, h1, hle, htk, ?_⟩
  rw [Int.toNat_natCast] at htk
  rw [← htk, List.take_add]
/-- Bytes that are read are written as they stand there. -/
theorem gb_same {l : List UInt8} {a : Nat} (h : gbE l (a : Int) = 0) : ∃ E : Nat, gbTo l (a : Int) = (E : Int) ∧ E ≤ l.length ∧ gTo l (a : Int) ≤ (E : Int) ∧ a ≤ E ∧ (l.drop a).take (E - a) = putB (gbL l (a : Int)) ∧ gbL l (a : Int) = (l.drop (gTo l (a : Int)).toNat).take (gN l (a : Int)).toNat ∧ (gbL l (a : Int)).length ≤ 1048576 := by
  rcases gb_cases l (a : Int) with e | ⟨e, k⟩ | ⟨e, k, m⟩ | ⟨e, k, m⟩
  · rw [(gb_err1 e).1] at h; exact absurd h e
  · rw [(gb_err2 e k).1] at h; cases h
  · rw [(gb_err3 e k m).1] at h; cases h
  · obtain ⟨_, hL, hTo⟩ := gb_ok e k m
    obtain ⟨N, t, hN, hN1, hT, ht, h1, hle, htk, _⟩ := g_split e
    rw [hN, hT] at hL hTo m
    rw [hN] at k
    rw [hT, hN]
    rw [Int.toNat_natCast, Int.toNat_natCast] at hL
    have hlen : (gbL l (a : Int)).length = N := by rw [hL, List.length_take, List.length_drop]; omega
    refine ⟨a + t + N, by rw [hTo]; omega, by omega, by omega, by omega, ?_, by rw [hL, Int.toNat_natCast, Int.toNat_natCast], by omega⟩
    unfold putB
    rw [hlen, hL, show a + t + N - a = t + N by omega, List.take_add, htk, List.drop_drop]
end Go.Proofs.YtejbljopighenaaDoor
namespace Go.Proofs.YtejbljopighenaaDoor

/-- Bytes that were written are read, wherever they stand. -/
theorem gb_put (p s r : List UInt8) (h : s.length ≤ 1048576) : gbE (p ++ (putB s ++ r)) (p.length : Int) = 0 ∧ gbL (p ++ (putB s ++ r)) (p.length : Int) = s ∧ gbTo (p ++ (putB s ++ r)) (p.length : Int) = ((p.length + (putB s).length : Nat) : Int) := by
  have e : putB s ++ r = putN s.length ++ (s ++ r) := by unfold putB; rw [List.append_assoc]
  rw [e]
  obtain ⟨g1, g2, g3⟩ := g_put p s.length (s ++ r) (by omega)
  obtain ⟨k1, k2, k3⟩ := gb_ok g1 (by rw [g2]; omega) (by rw [g2, g3]; simp only [List.length_append]; omega)
  refine ⟨k1, ?_, ?_⟩
  · rw [k2, g2, g3, Int.toNat_natCast, Int.toNat_natCast, ← List.append_assoc, List.drop_append_of_le_length (by simp), List.drop_of_length_le (by simp), List.nil_append, List.take_append_of_le_length (Nat.le_refl _), List.take_length]
  · rw [k3, g2, g3, putB_len]; omega
def short (ll : List (List UInt8)) : Prop := ∀ s ∈ ll, s.length ≤ 1048576
theorem splitF_join : ∀ (ll : List (List UInt8)) (p r : List UInt8), short ll → splitF (p ++ (ll.flatMap putB ++ r)) ll.length (p.length : Int) = (ll, ((p.length + (ll.flatMap putB).length : Nat) : Int), 0)
  | [], p, r, _ => by simp [splitF_zero]
  | s :: ll, p, r, h => by
    obtain ⟨g1, g2, g3⟩ := gb_put p s (ll.flatMap putB ++ r) (h s (by simp))
    rw [List.flatMap_cons, List.append_assoc, List.length_cons, splitF_step g1, g2, g3]
    have ih := splitF_join ll (p ++ putB s) r (fun x hx => h x (by simp [hx]))
    rw [List.append_assoc, List.length_append] at ih
    rw [ih]
    simp [Nat.add_assoc]
theorem join_parts (ll : List (List UInt8)) (hn : ll.length < 18446744073709551616) (r : List UInt8) : gE (joinL ll ++ r) 0 = 0 ∧ spR (joinL ll ++ r) = splitF (putN ll.length ++ (ll.flatMap putB ++ r)) ll.length ((putN ll.length).length : Int) := by
  have e : joinL ll ++ r = putN ll.length ++ (ll.flatMap putB ++ r) := by unfold joinL; rw [List.append_assoc]
  obtain ⟨g1, g2, g3⟩ := g_put [] ll.length (ll.flatMap putB ++ r) hn
  rw [List.nil_append, List.length_nil, Int.natCast_zero] at g1 g2 g3
  rw [Nat.zero_add] at g3
  rw [e]
  refine ⟨g1, ?_⟩
  unfold spR
  rw [g2, g3, Int.toNat_natCast]
theorem split_join (ll : List (List UInt8)) (hn : ll.length < 18446744073709551616) (h : short ll) : spE (joinL ll) = 0 ∧ spL (joinL ll) = ll := by
  obtain ⟨h1, h2⟩ := join_parts ll hn []
  rw [splitF_join ll _ [] h, List.append_nil] at h2
  rw [List.append_nil] at h1
  obtain ⟨k1, k2⟩ := sp_ok h1 (by rw [h2]) (by rw [h2]; unfold joinL; simp)
  exact ⟨k1, by rw [k2, h2]⟩
theorem splitF_ok : ∀ (l : List UInt8) (m A : Nat) (xs : List (List UInt8)) (T : Int), A ≤ l.length → splitF l m (A : Int) = (xs, T, 0) → xs.length = m ∧ ∃ E : Nat, T = (E : Int) ∧ A ≤ E ∧ E ≤ l.length ∧ (l.drop A).take (E - A) = xs.flatMap putB ∧ short xs
  | l, 0, A, xs, T, hA, h => by
    rw [splitF_zero] at h
    injection h with h1 h2
    injection h2 with h2 h3
    subst h1; subst h2
    exact ⟨rfl, A, rfl, Nat.le_refl _, hA, by simp, fun x hx => by simp at hx⟩
  | l, m + 1, A, xs, T, hA, h => by
    by_cases hg : gbE l (A : Int) = 0
    · obtain ⟨E, hE, hEl, _, hAE, htk, _, hlen⟩ := gb_same hg
      rw [splitF_step hg, hE] at h
      injection h with h1 h2
      obtain ⟨h3, E2, h4, h5, h6, h7, h8⟩ := splitF_ok l m E (splitF l m (E : Int)).1 T hEl (by rw [← h2])
      refine ⟨by rw [← h1, List.length_cons, h3], E2, h4, by omega, h6, ?_, ?_⟩
      · rw [← h1, List.flatMap_cons, ← htk, ← h7, show E2 - A = (E - A) + (E2 - E) by omega, List.take_add, List.drop_drop, show A + (E - A) = E by omega]
      · rw [← h1]
        intro x hx
        rcases List.mem_cons.1 hx with rfl | hx
        · exact hlen
        · exact h8 x hx
    · rw [splitF_err hg] at h
      injection h with h1 h2
      injection h2 with h2 h3
      exact absurd h3 hg
theorem join_split (l : List UInt8) (h : spE l = 0) : joinL (spL l) = l ∧ short (spL l) := by
  have hg : gE l 0 = 0 := by
    by_cases hg : gE l 0 = 0
    · exact hg
    · rw [(sp_err1 hg).1] at h; exact absurd h hg
  have hr : (spR l).2.2 = 0 := by
    by_cases hr : (spR l).2.2 = 0
    · exact hr
    · rw [(sp_err2 hg hr).1] at h; exact absurd h hr
  have hm : ¬ (spR l).2.1 < (l.length : Int) := by
    intro hm
    rw [(sp_err3 hg hr hm).1] at h; cases h
  rw [(sp_ok hg hr hm).2]
  obtain ⟨N, t, hN, hN1, hT, ht, h1, hle, htk, hcat⟩ := g_split (a := 0) (by simpa using hg)
  have hN' : gN l 0 = (N : Int) := by simpa using hN
  have hT' : gTo l 0 = (t : Int) := by simpa using hT
  have hF : splitF l N (t : Int) = spR l := by unfold spR; rw [hN', hT', Int.toNat_natCast]
  obtain ⟨k1, E, k2, k3, k4, k5, k6⟩ := splitF_ok l N t (spR l).1 (spR l).2.1 (by omega) (by rw [hF, ← hr])
  refine ⟨?_, k6⟩
  rw [k2] at hm
  have hE : E = l.length := by omega
  unfold joinL
  rw [k1, ← k5, hE, ← htk, List.drop_zero, List.take_of_length_le (l := l.drop t) (by rw [List.length_drop]; omega), List.take_append_drop]
end Go.Proofs.YtejbljopighenaaDoor
namespace Go.Proofs.YtejbljopighenaaDoor

theorem at8_head {x : Int} (h : 0 ≤ x ∧ x ≤ 255) (l : List UInt8) : at8 (b8 x :: l) 0 = x := by
  unfold at8 b8
  rw [List.getD_cons_zero, UInt8.toNat_ofNat']
  omega
theorem at8_tail (c : UInt8) (l : List UInt8) (k : Nat) : at8 (c :: l) (k + 1) = at8 l k := by
  unfold at8; rw [List.getD_cons_succ]
theorem right_cases {v : Val} (h : rightB v = true) : v = ⟨1, 0, []⟩ ∨ (∃ n, v = ⟨2, n, []⟩ ∧ (n = 0 ∨ n = 1)) ∨ (∃ n, v = ⟨3, n, []⟩) ∨ (∃ s, v = ⟨4, 0, s⟩ ∧ s.length ≤ 1000 ∧ s.all vis = true) ∨ ∃ s, v = ⟨5, 0, s⟩ ∧ s.length ≤ 1000 := by
  obtain ⟨k, n, s⟩ := v
  unfold rightB at h
  dsimp only at h
  split at h
  · rename_i e; subst e
    simp at h
    obtain ⟨rfl, rfl⟩ := h
    exact .inl rfl
  split at h
  · rename_i e; subst e
    simp at h
    obtain ⟨h1, rfl⟩ := h
    exact .inr (.inl ⟨n, rfl, h1⟩)
  split at h
  · rename_i e; subst e
    simp at h
    subst h
    exact .inr (.inr (.inl ⟨n, rfl⟩))
  split at h
  · rename_i e; subst e
    rw [Bool.and_eq_true, Bool.and_eq_true, decide_eq_true_eq, decide_eq_true_eq] at h
    obtain ⟨rfl, h1, h2⟩ := h
    exact .inr (.inr (.inr (.inl ⟨s, rfl, by omega, h2⟩)))
  split at h
  · rename_i e; subst e
    rw [Bool.and_eq_true, decide_eq_true_eq, decide_eq_true_eq] at h
    obtain ⟨rfl, h1⟩ := h
    exact .inr (.inr (.inr (.inr ⟨s, rfl, by omega⟩)))
  · cases h
theorem fin_right {v : Val} (h : rightB v = true) (to : Nat) : fin v to = (0, v, to) := by unfold fin; rw [if_pos h]
/-- What was written is read: at the begin. -/
theorem vR_put0 {v : Val} (h : rightB v = true) (ho : VOk v) (r : List UInt8) : vR (oneL v ++ r) 0 = (0, v, (oneL v).length) := by
  rcases right_cases h with rfl | ⟨n, rfl, hn⟩ | ⟨n, rfl⟩ | ⟨s, rfl, hs, hv⟩ | ⟨s, rfl, hs⟩
  · have e : oneL ⟨1, 0, []⟩ ++ r = b8 1 :: r := rfl
    have h8 := at8_head (x := 1) (by omega) r
    rw [e]
    unfold vR
    rw [if_neg (by simp), if_pos h8]
    rfl
  · have e : oneL ⟨2, n, []⟩ ++ r = b8 2 :: b8 n :: r := rfl
    have h8 := at8_head (x := 2) (by omega) (b8 n :: r)
    have h9 : at8 (b8 2 :: b8 n :: r) (0 + 1) = n := by rw [at8_tail]; exact at8_head (by omega) r
    rw [e]
    unfold vR
    rw [if_neg (by simp), if_neg (by rw [h8]; decide), if_pos h8, if_neg (by simp), h9, fin_right h]
    rfl
  · have e : oneL ⟨3, n, []⟩ ++ r = [b8 3] ++ (putN (zig n) ++ r) := rfl
    have h8 : at8 ([b8 3] ++ (putN (zig n) ++ r)) 0 = 3 := at8_head (x := 3) (by omega) _
    obtain ⟨g1, g2, g3⟩ := g_put [b8 3] (zig n) r (zig_lt ho.n0.1 ho.n0.2)
    replace g1 : gE ([b8 3] ++ (putN (zig n) ++ r)) ((0 + 1 : Nat) : Int) = 0 := g1
    replace g2 : gN ([b8 3] ++ (putN (zig n) ++ r)) ((0 + 1 : Nat) : Int) = zig n := g2
    replace g3 : gTo ([b8 3] ++ (putN (zig n) ++ r)) ((0 + 1 : Nat) : Int) = ((1 + (putN (zig n)).length : Nat) : Int) := g3
    rw [e]
    unfold vR
    rw [if_neg (by simp), if_neg (by rw [h8]; decide), if_neg (by rw [h8]; decide), if_pos h8, if_neg (by rw [g1]; decide), g2, g3, zag_zig, Int.toNat_natCast]
    have e2 : (oneL ⟨3, n, []⟩).length = 1 + (putN (zig n)).length := by
      show (b8 3 :: putN (zig n)).length = _
      rw [List.length_cons]; omega
    rw [e2]
  · have e : oneL ⟨4, 0, s⟩ ++ r = [b8 4] ++ (putB s ++ r) := rfl
    have h8 : at8 ([b8 4] ++ (putB s ++ r)) 0 = 4 := at8_head (x := 4) (by omega) _
    have g := g_put [b8 4] s.length (s ++ r) (by omega)
    have eB : putB s ++ r = putN s.length ++ (s ++ r) := by unfold putB; rw [List.append_assoc]
    rw [← eB] at g
    obtain ⟨k1, k2, k3⟩ := gb_put [b8 4] s r (by omega)
    replace g1 : gE ([b8 4] ++ (putB s ++ r)) ((0 + 1 : Nat) : Int) = 0 := g.1
    replace g2 : gN ([b8 4] ++ (putB s ++ r)) ((0 + 1 : Nat) : Int) = s.length := g.2.1
    replace k1 : gbE ([b8 4] ++ (putB s ++ r)) ((0 + 1 : Nat) : Int) = 0 := k1
    replace k2 : gbL ([b8 4] ++ (putB s ++ r)) ((0 + 1 : Nat) : Int) = s := k2
    replace k3 : gbTo ([b8 4] ++ (putB s ++ r)) ((0 + 1 : Nat) : Int) = ((1 + (putB s).length : Nat) : Int) := k3
    rw [e]
    unfold vR
    rw [if_neg (by simp), if_neg (by rw [h8]; decide), if_neg (by rw [h8]; decide), if_neg (by rw [h8]; decide), if_pos (.inl h8), if_neg (by rw [g1]; decide), if_neg (by rw [g2]; omega), if_neg (by rw [k1]; decide), k2, k3, h8, fin_right h, Int.toNat_natCast]
    have e2 : (oneL ⟨4, 0, s⟩).length = 1 + (putB s).length := by
      show (b8 4 :: putB s).length = _
      rw [List.length_cons]; omega
    rw [e2]
  · have e : oneL ⟨5, 0, s⟩ ++ r = [b8 5] ++ (putB s ++ r) := rfl
    have h8 : at8 ([b8 5] ++ (putB s ++ r)) 0 = 5 := at8_head (x := 5) (by omega) _
    have g := g_put [b8 5] s.length (s ++ r) (by omega)
    have eB : putB s ++ r = putN s.length ++ (s ++ r) := by unfold putB; rw [List.append_assoc]
    rw [← eB] at g
    obtain ⟨k1, k2, k3⟩ := gb_put [b8 5] s r (by omega)
    replace g1 : gE ([b8 5] ++ (putB s ++ r)) ((0 + 1 : Nat) : Int) = 0 := g.1
    replace g2 : gN ([b8 5] ++ (putB s ++ r)) ((0 + 1 : Nat) : Int) = s.length := g.2.1
    replace k1 : gbE ([b8 5] ++ (putB s ++ r)) ((0 + 1 : Nat) : Int) = 0 := k1
    replace k2 : gbL ([b8 5] ++ (putB s ++ r)) ((0 + 1 : Nat) : Int) = s := k2
    replace k3 : gbTo ([b8 5] ++ (putB s ++ r)) ((0 + 1 : Nat) : Int) = ((1 + (putB s).length : Nat) : Int) := k3
    rw [e]
    unfold vR
    rw [if_neg (by simp), if_neg (by rw [h8]; decide), if_neg (by rw [h8]; decide), if_neg (by rw [h8]; decide), if_pos (.inr h8), if_neg (by rw [g1]; decide), if_neg (by rw [g2]; omega), if_neg (by rw [k1]; decide), k2, k3, h8, fin_right h, Int.toNat_natCast]
    have e2 : (oneL ⟨5, 0, s⟩).length = 1 + (putB s).length := by
      show (b8 5 :: putB s).length = _
      rw [List.length_cons]; omega
    rw [e2]
theorem vR_shift (p X : List UInt8) : (vR X 0).1 = (vR (p ++ X) p.length).1 ∧ ((vR X 0).1 = 0 → vR (p ++ X) p.length = (0, (vR X 0).2.1, p.length + (vR X 0).2.2)) := by
  have h := vR_drop (l := p ++ X) (p := p.length) (by simp)
  rw [List.drop_append_of_le_length (Nat.le_refl _), List.drop_length, List.nil_append] at h
  refine ⟨h.1, fun h0 => ?_⟩
  obtain ⟨h2, h3⟩ := h.2 (h.1.symm.trans h0)
  rw [h2, ← h3]
  exact Prod.ext (h.1.symm.trans h0) rfl
theorem vR_put (p : List UInt8) {v : Val} (h : rightB v = true) (ho : VOk v) (r : List UInt8) : vR (p ++ (oneL v ++ r)) p.length = (0, v, p.length + (oneL v).length) := by
  have h0 := vR_put0 h ho r
  have := (vR_shift p (oneL v ++ r)).2 (by rw [h0])
  rw [this, h0]
theorem decF_put : ∀ (l : List Val) (p r : List UInt8), allR l = true → (∀ v ∈ l, VOk v) → decF l.length (p ++ (l.flatMap oneL ++ r)) p.length = (0, l, p.length + (l.flatMap oneL).length)
  | [], p, r, _, _ => rfl
  | v :: l, p, r, h, ho => by
    unfold allR at h
    rw [List.all_cons, Bool.and_eq_true] at h
    have h1 := vR_put p h.1 (ho v (by simp)) (l.flatMap oneL ++ r)
    have ih := decF_put l (p ++ oneL v) r h.2 (fun u hu => ho u (by simp [hu]))
    have e : p ++ ((v :: l).flatMap oneL ++ r) = p ++ (oneL v ++ (l.flatMap oneL ++ r)) := by rw [List.flatMap_cons, List.append_assoc]
    rw [List.append_assoc, List.length_append] at ih
    rw [e]
    unfold decF
    rw [List.length_cons]
    dsimp only
    rw [h1, if_neg (by simp), ih, List.flatMap_cons, List.length_append]
    dsimp only
    rw [Nat.add_assoc]
theorem enc_ok {l : List Val} (h : encE l = 0) : allR l = true ∧ l.length ≤ 100 ∧ encB l = putN l.length ++ l.flatMap oneL := by
  refine ⟨?_, ?_, by unfold encB; rw [if_pos h]⟩
  · unfold encE at h
    split at h
    · assumption
    · cases h
  · unfold encE at h
    split at h
    · split at h
      · cases h
      · omega
    · cases h
/-- A row's bytes are that row; with anything behind they are none. -/
theorem dec_more {l : List Val} (h : encE l = 0) (ho : ∀ v ∈ l, VOk v) (t : List UInt8) : decE (encB l ++ t) = (if t = [] then 0 else 11) ∧ (t = [] → decL (encB l ++ t) = l) := by
  obtain ⟨h1, h2, h3⟩ := enc_ok h
  obtain ⟨g1, g2, g3⟩ := g_put [] l.length (l.flatMap oneL ++ t) (by omega)
  rw [List.nil_append] at g1 g2 g3
  replace g1 : gE (putN l.length ++ (l.flatMap oneL ++ t)) 0 = 0 := g1
  replace g2 : gN (putN l.length ++ (l.flatMap oneL ++ t)) 0 = l.length := g2
  replace g3 : gTo (putN l.length ++ (l.flatMap oneL ++ t)) 0 = ((0 + (putN l.length).length : Nat) : Int) := g3
  have hF := decF_put l (putN l.length) t h1 ho
  have e : encB l ++ t = putN l.length ++ (l.flatMap oneL ++ t) := by rw [h3, List.append_assoc]
  have hR : decR (encB l ++ t) = (0, l, (putN l.length).length + (l.flatMap oneL).length) := by
    unfold decR
    rw [e, g2, g3, Nat.zero_add, Int.toNat_natCast, Int.toNat_natCast, hF]
  have hE : decE (encB l ++ t) = (if t = [] then 0 else 11) := by
    unfold decE
    rw [hR, e, if_neg (by rw [g1]; decide), if_neg (by rw [g2]; omega), if_neg (by simp)]
    by_cases ht : t = []
    · rw [if_neg (by subst ht; simp), if_pos ht]
    · have : 0 < t.length := List.length_pos_iff.2 ht
      rw [if_pos (by simp only [List.length_append]; omega), if_neg ht]
  refine ⟨hE, fun ht => ?_⟩
  unfold decL
  rw [hE, if_pos ht, if_pos rfl, hR]
theorem dec_enc {l : List Val} (h : encE l = 0) (ho : ∀ v ∈ l, VOk v) : decE (encB l) = 0 ∧ decL (encB l) = l := by
  have := dec_more h ho []
  rw [List.append_nil] at this
  exact ⟨this.1, this.2 rfl⟩
end Go.Proofs.YtejbljopighenaaDoor
namespace Go.Proofs.YtejbljopighenaaDoor

theorem drop_at8 {l : List UInt8} {a : Nat} (h : a < l.length) : l.drop a = b8 (at8 l a) :: l.drop (a + 1) := by
  rw [List.drop_eq_getElem_cons h, b8_at8]
  congr 1
  rw [List.getD_eq_getElem?_getD, List.getElem?_eq_getElem h]; rfl
theorem take_drop_cons {l : List UInt8} {a m : Nat} (h : a < l.length) (hm : a < m) : (l.drop a).take (m - a) = b8 (at8 l a) :: (l.drop (a + 1)).take (m - (a + 1)) := by
  rw [drop_at8 h, show m - a = (m - (a + 1)) + 1 by omega, List.take_succ_cons]
theorem vR_back {l : List UInt8} {a : Nat} (hl : l.length ≤ 9223372036854775807) (h : (vR l a).1 = 0) : (l.drop a).take ((vR l a).2.2 - a) = oneL (vR l a).2.1 := by
  have hok := vR_ok hl h
  have hal : a < l.length := by omega
  rw [take_drop_cons hal hok.1]
  clear hok
  unfold vR at h ⊢
  rw [if_neg (by omega)] at h ⊢
  by_cases c1 : at8 l a = 1
  · rw [if_pos c1, c1]
    show b8 1 :: (l.drop (a + 1)).take (a + 1 - (a + 1)) = [b8 1]
    rw [Nat.sub_self, List.take_zero]
  rw [if_neg c1] at h ⊢
  by_cases c2 : at8 l a = 2
  · rw [if_pos c2] at h ⊢
    by_cases c3 : l.length ≤ a + 1
    · rw [if_pos c3] at h; cases h
    rw [if_neg c3] at h ⊢
    have hf : rightB ⟨2, at8 l (a + 1), []⟩ = true := by
      unfold fin at h
      split at h
      · assumption
      · cases h
    rw [fin_right hf, c2]
    show b8 2 :: (l.drop (a + 1)).take (a + 2 - (a + 1)) = [b8 2, b8 (at8 l (a + 1))]
    rw [drop_at8 (by omega), show a + 2 - (a + 1) = 0 + 1 by omega, List.take_succ_cons, List.take_zero]
  rw [if_neg c2] at h ⊢
  by_cases c3 : at8 l a = 3
  · rw [if_pos c3] at h ⊢
    by_cases c4 : gE l ((a + 1 : Nat) : Int) ≠ 0
    · rw [if_pos c4] at h; exact absurd h c4
    rw [if_neg c4] at h ⊢
    obtain ⟨N, t, hN, hN2, hT, ht, h1, hle, htk, _⟩ := g_split (l := l) (a := a + 1) (by simpa using c4)
    rw [c3]
    show b8 3 :: (l.drop (a + 1)).take ((gTo l ((a + 1 : Nat) : Int)).toNat - (a + 1)) = b8 3 :: putN (zig (zag (gN l ((a + 1 : Nat) : Int))))
    rw [hN, zig_zag, hT, Int.toNat_natCast, show a + 1 + t - (a + 1) = t by omega, htk]
  rw [if_neg c3] at h ⊢
  by_cases c5 : at8 l a = 4 ∨ at8 l a = 5
  · rw [if_pos c5] at h ⊢
    by_cases c6 : gE l ((a + 1 : Nat) : Int) ≠ 0
    · rw [if_pos c6] at h; exact absurd h c6
    rw [if_neg c6] at h ⊢
    by_cases c7 : 1000 < gN l ((a + 1 : Nat) : Int)
    · rw [if_pos c7] at h; cases h
    rw [if_neg c7] at h ⊢
    by_cases c8 : gbE l ((a + 1 : Nat) : Int) ≠ 0
    · rw [if_pos c8] at h
      exfalso
      revert h
      show (if _ then (11 : Int) else 10) = 0 → False
      split <;> intro h <;> cases h
    rw [if_neg c8] at h ⊢
    have hf : rightB ⟨at8 l a, 0, gbL l ((a + 1 : Nat) : Int)⟩ = true := by
      unfold fin at h
      split at h
      · assumption
      · cases h
    obtain ⟨E, hE, hEl, _, haE, htk, _⟩ := gb_same (l := l) (a := a + 1) (by simpa using c8)
    rw [fin_right hf, hE, Int.toNat_natCast]
    have e : oneL ⟨at8 l a, 0, gbL l ((a + 1 : Nat) : Int)⟩ = b8 (at8 l a) :: putB (gbL l ((a + 1 : Nat) : Int)) := by
      unfold oneL
      rw [if_neg c2, if_neg c3, if_pos c5]
    show b8 (at8 l a) :: (l.drop (a + 1)).take (E - (a + 1)) = oneL ⟨at8 l a, 0, gbL l ((a + 1 : Nat) : Int)⟩
    rw [e, htk]
  · rw [if_neg c5] at h; cases h
theorem decF_back {l : List UInt8} (hl : l.length ≤ 9223372036854775807) : ∀ (n a : Nat), a ≤ l.length → (decF n l a).1 = 0 → (l.drop a).take ((decF n l a).2.2 - a) = (decF n l a).2.1.flatMap oneL
  | 0, a, _, _ => by
    show (l.drop a).take (a - a) = []
    rw [Nat.sub_self, List.take_zero]
  | n + 1, a, ha, h => by
    unfold decF at h ⊢
    split at h
    · rename_i hc; exact absurd h hc
    rename_i hc
    rw [if_neg hc]
    obtain ⟨h1, h2, _⟩ := vR_ok hl (by simpa using hc : (vR l a).1 = 0)
    have hb := vR_back hl (by simpa using hc : (vR l a).1 = 0)
    have ih := decF_back hl n (vR l a).2.2 h2 h
    obtain ⟨i1, i2, _⟩ := decF_ok hl n (vR l a).2.2 h2 h
    show (l.drop a).take ((decF n l (vR l a).2.2).2.2 - a) = ((vR l a).2.1 :: (decF n l (vR l a).2.2).2.1).flatMap oneL
    rw [List.flatMap_cons, ← ih, ← hb, show (decF n l (vR l a).2.2).2.2 - a = ((vR l a).2.2 - a) + ((decF n l (vR l a).2.2).2.2 - (vR l a).2.2) by omega, List.take_add, List.drop_drop, show a + ((vR l a).2.2 - a) = (vR l a).2.2 by omega]
/-- Bytes that are a row are its bytes. -/
theorem enc_dec {l : List UInt8} (hl : l.length ≤ 9223372036854775807) (h : decE l = 0) : encE (decL l) = 0 ∧ encB (decL l) = l := by
  have hL : decL l = (decR l).2.1 := by unfold decL; rw [if_pos h]
  have hok := decL_ok hl
  rw [hL] at hok ⊢
  unfold decE at h
  split at h
  · rename_i h0; exact absurd h h0
  rename_i h0
  split at h
  · cases h
  rename_i h1
  split at h
  · rename_i h2; exact absurd h h2
  rename_i h2
  split at h
  · cases h
  rename_i h3
  obtain ⟨N, t, hN, hN2, hT, ht, g1, hle, htk, _⟩ := g_split (l := l) (a := 0) (by simpa using h0)
  replace hN : gN l 0 = N := hN
  replace hT : gTo l 0 = ((0 + t : Nat) : Int) := hT
  rw [Nat.zero_add] at hT hle
  have hR : decR l = decF N l t := by unfold decR; rw [hN, hT, Int.toNat_natCast, Int.toNat_natCast]
  rw [hR] at h2 h3 hok ⊢
  have h20 : (decF N l t).1 = 0 := by simpa using h2
  obtain ⟨i1, i2, i3, _⟩ := decF_ok hl N t hle h20
  have hb := decF_back hl N t hle h20
  have hall : allR (decF N l t).2.1 = true := by
    unfold allR; rw [List.all_eq_true]; exact fun v hv => (hok v hv).1
  have hE : encE (decF N l t).2.1 = 0 := by
    unfold encE
    rw [if_pos hall, if_neg (by rw [i3]; omega)]
  refine ⟨hE, ?_⟩
  unfold encB
  rw [if_pos hE, i3, ← hb, ← htk, List.drop_zero, show (decF N l t).2.2 - t = l.length - t by omega, List.take_of_length_le (l := l.drop t) (by rw [List.length_drop]; omega), List.take_append_drop]
end Go.Proofs.YtejbljopighenaaDoor
