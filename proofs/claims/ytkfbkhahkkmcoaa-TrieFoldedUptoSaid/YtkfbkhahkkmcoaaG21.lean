/- law08: what the chapter's example fixes. law08: long, much. Tries without stubs, plainly: what Get, Put, Drop, Pairs, Of answer of them. No walk here. law08: copied. From a walk that returns true and writes nothing that was there to the row; arguments opened to lists. A [][]byte that came in, opened to lists. A node, a pair, and rows of them, that came in, opened. No walk here. The walks of the laws TrieGets and TriePuts. The walk of the law TrieTwo. The walks of the laws TrieOf and TrieDigest. -/
import Derived.Test.YtkfbkhahkkmcoaaG20
import Derived.Test.YtkfbkhahkkmcoaaG15
import Derived.Test.YtkfbkhahkkmcoaaG08
import Derived.Test.YtkfbkhahkkmcoaaG12
import Derived.Test.YtkfbkhahkkmcoaaG18
import Derived.Test.YtkfbkhahkkmcoaaRows
import Derived.Test.YtkfbkhahkkmcoaaG03
import Derived.ProofKit
import Derived.OpenShut
import Derived.ChangeOld
import Derived.WideKeyArgs
import Derived.JoinedCond
import Derived.Test.YtkfbkhahkkmcoaaG05
import Derived.ChangeArms
import Derived.Test.YtkfbkhahkkmcoaaG17
namespace Go.Proofs.Ytkfbkhahkkmcoaa
open Go.RowKit
theorem is_kn8 : isFn Try.prog 34 = true := by kernel_rfl
/-- A block that is marked as a string's. -/
theorem St.mark {w W W' : World} {gs : List (Option Nat)} {L : Lc} {R : List Row} {fs : List Fact} {g n c : Nat} {T : TypeId} {cs : List Value} {l : List UInt8} (M : St w gs W ((g, T, cs) :: L) R fs) (hg : W.grownBy W' (some g)) (hr : Rd W' W'.heap.size (some ⟨g, 0, none⟩) n l) (hc : n ≤ c) : St w gs W' L R (.dat true [dB l] [.slice (some ⟨g, 0, none⟩) n c] :: fs) := by
  have hgw := (M.blk _ (List.mem_cons_self ..)).2
  have hap := M.ap
  rw [List.map_cons, List.cons_append, List.pairwise_cons] at hap
  have kept : ∀ o : Option Nat, o ∈ L.map (fun x => some x.1) ++ R.map (fun r => bk r.A) → o = none ∨ o ≠ some g := fun o ho => apart_comm (hap.1 o ho)
  have hn : some g ∉ own L R gs := fun e => by
    unfold own at e
    rw [← List.append_assoc] at e
    rcases List.mem_append.1 e with e | e
    · rcases hap.1 _ e with h | h
      · cases h
      · exact h rfl
    · have := M.lt g e
      have : w.heap.size ≤ g := hgw
      omega
  have M' : St w gs W' L R fs := by
    refine ⟨M.below.grown hg M.size (fun b e => by injection e with e; omega), M.lt, fun y hy => ⟨(M.blk y (by simp [hy])).1.grown hg ?_, (M.blk y (by simp [hy])).2⟩, fun r hr => ?_, hap.2, fun f hf => ((M.fct f hf).up (Stp.wrote hg (by unfold own; simp))).up ⟨Nat.le_refl _, fun _ _ _ => rfl, fun b _ e => by unfold own at *; simp only [List.map_cons, List.cons_append, List.mem_cons]; right; exact e⟩⟩
    · rcases kept (some y.1) (List.mem_append_left _ (List.mem_map.2 ⟨y, hy, rfl⟩)) with h | h
      · cases h
      · exact fun e => h e.symm
    · exact row_kept' (M.row r hr) hg (kept _ (List.mem_append_right _ (List.mem_map.2 ⟨r, hr, rfl⟩)))
  refine M'.addT (RdL.one (RdD.ofbytes hr hc (fun b off e hb => ?_)))
  injection e with e
  injection e with e1 e2
  subst e1
  exact ⟨hb, hn, fun _ => hgw⟩
theorem s_cvtB {E : Env} {d : Option Nat} {ty : TypeId} {p : String} {af : Array Edge} {gd : Option (Nat × Bool)} {x : Operand} {kw : Value → World → Prop} {w W : World} {gs : List (Option Nat)} {L : Lc} {R : List Row} {fs : List Fact} {g n c : Nat} (l : List UInt8) (M : St w gs W ((g, 5, bvs l) :: L) R fs) (hx : val E x = .slice (some ⟨g, 0, none⟩) n c) (hn : n = l.length) (hc : n ≤ c)
    (h : ∀ W', St w gs W' L R (.dat true [dB l] [.slice (some ⟨g, 0, none⟩) n c] :: fs) → kw (.slice (some ⟨g, 0, none⟩) n c) W') :
    VVal Try.prog E { dst := d, op := .convert 22 22 x, type := ty, pos := p, after := af, guard := gd } W kw :=
  v_cvtB hx (M.B 0 rfl) hn fun W' hr hg _ => h W' (M.mark hg hr hc)
theorem getD_some {α : Type} {l : List α} {i : Nat} {d : α} (h : i < l.length) : l[i]? = some (l.getD i d) := by rw [List.getD_eq_getElem?_getD, List.getElem?_eq_getElem h]; rfl
def kl8 : List Pr := [⟨[1], [97]⟩, ⟨[1, 2], [98]⟩, ⟨[17], [99]⟩]
def kt8 : Nd := (tOf kl8).1
def kb8 : Nd := ((kt8.kids.getD 0 noneN).kids).getD 0 noneN
set_option maxRecDepth 100000 in
theorem kt8_0 : (tOf kl8).2 = 0 ∧ kt8.kind = 3 ∧ kt8.kids.length = 16 ∧ (kt8.kids.getD 0 noneN).kind = 2 ∧ (kt8.kids.getD 0 noneN).kids.length = 1 ∧ kb8.has = true ∧ kb8.kids.length = 16 ∧ (kb8.kids.getD 0 noneN).path = [2] ∧ (kt8.kids.getD 1 noneN).path = [1] ∧ sz kt8 ≤ 10000 := by decide +kernel
set_option maxRecDepth 100000 in
theorem kt8_1 : (tGet kt8 [1, 2]).v = [98] ∧ (tGet kt8 [1, 2]).has = true ∧ (tGet kt8 [1, 2]).e = 0 := by decide +kernel
set_option maxRecDepth 100000 in
theorem kt8_2 : rightP false kt8 0 = true := by decide +kernel
theorem kt8_h : (hashR kt8).length = 32 := by
  unfold hashR
  rw [if_pos kt8_2]
  exact hashP_len (val_of_right false _ kt8 0 (Nat.lt_succ_self _) kt8_2)
theorem stub_get {h : List UInt8} (hh : h.length = 32) : (tGet (.mk 4 [] false [] [] h) []).miss = some [] ∧ (tGet (.mk 4 [] false [] [] h) []).e = 80 := by
  have hr : rightP true (.mk 4 [] false [] [] h) 0 = true := by
    rw [right_of_val (.stub 0 h (by omega) hh)]
  have ht : tri (.mk 4 [] false [] [] h) 0 0 = true := by unfold tri; rw [hr]; decide
  have hg : getP (.mk 4 [] false [] [] h) (ofB []) = ⟨[], false, some []⟩ := by simp [getP]
  unfold tGet
  rw [List.length_nil, ht, if_pos rfl, hg]
  exact ⟨rfl, rfl⟩
set_option maxRecDepth 100000 in
set_option maxHeartbeats 4000000 in
theorem known8_any (w : World) : Calls Try.prog 34 #[] w fun e w' => e = .returned (.bool true) ∧ Below w.heap.size w w' := by
  refine calls_ev (args := []) mixed Try.func34 rfl (by kernel_rfl) ?_
  have M := St.start (w := w) (gs := []) (fun b h => by cases h)
  refine s_bslice (bvs [1]) (fr := true) (ds := (bvs [1]).map D.v) M slb (zs := [.int .u8 0]) (by kernel_rfl) rfl (by decide) rfl (RdL.ofvals _) rfl ?_
  clear M; rintro g1 W M
  refine s_bsliceB (bvs [97]) M slb (zs := [.int .u8 0]) (by kernel_rfl) rfl (by decide) rfl ?_
  clear M; rintro g2 W M
  refine s_cvtB [97] M rfl rfl (Nat.le_refl _) ?_
  clear M; rintro W M
  refine p_build (vs := [.slice (some ⟨g1, 0, none⟩) 1 1, .slice (some ⟨g2, 0, none⟩) 1 1]) pl_pr z_pr rfl ?_
  refine s_bslice (bvs [1, 2]) (fr := true) (ds := (bvs [1, 2]).map D.v) M slb (zs := [.int .u8 0]) (by kernel_rfl) rfl (by decide) rfl (RdL.ofvals _) rfl ?_
  clear M; rintro g3 W M
  refine s_bsliceB (bvs [98]) M slb (zs := [.int .u8 0]) (by kernel_rfl) rfl (by decide) rfl ?_
  clear M; rintro g4 W M
  refine s_cvtB [98] M rfl rfl (Nat.le_refl _) ?_
  clear M; rintro W M
  refine p_build (vs := [.slice (some ⟨g3, 0, none⟩) 2 2, .slice (some ⟨g4, 0, none⟩) 1 1]) pl_pr z_pr rfl ?_
  refine s_bslice (bvs [17]) (fr := true) (ds := (bvs [17]).map D.v) M slb (zs := [.int .u8 0]) (by kernel_rfl) rfl (by decide) rfl (RdL.ofvals _) rfl ?_
  clear M; rintro g5 W M
  refine s_bsliceB (bvs [99]) M slb (zs := [.int .u8 0]) (by kernel_rfl) rfl (by decide) rfl ?_
  clear M; rintro g6 W M
  refine s_cvtB [99] M rfl rfl (Nat.le_refl _) ?_
  clear M; rintro W M
  refine p_build (vs := [.slice (some ⟨g5, 0, none⟩) 1 1, .slice (some ⟨g6, 0, none⟩) 1 1]) pl_pr z_pr rfl ?_
  have hall : RdL W (Ft w W (own [] [] []) true) (dPrs kl8) [.slice (some ⟨g1, 0, none⟩) 1 1, .slice (some ⟨g2, 0, none⟩) 1 1, .slice (some ⟨g3, 0, none⟩) 2 2, .slice (some ⟨g4, 0, none⟩) 1 1, .slice (some ⟨g5, 0, none⟩) 1 1, .slice (some ⟨g6, 0, none⟩) 1 1] :=
    RdL.cons (M.dt 5 rfl).hd (RdL.cons (M.dt 4 rfl).hd (RdL.cons (M.dt 3 rfl).hd (RdL.cons (M.dt 2 rfl).hd (RdL.cons (M.dt 1 rfl).hd (RdL.cons (M.dt 0 rfl).hd RdL.nil_)))))
  refine s_bslice [.slice (some ⟨g1, 0, none⟩) 1 1, .slice (some ⟨g2, 0, none⟩) 1 1, .slice (some ⟨g3, 0, none⟩) 2 2, .slice (some ⟨g4, 0, none⟩) 1 1, .slice (some ⟨g5, 0, none⟩) 1 1, .slice (some ⟨g6, 0, none⟩) 1 1] (fr := true) (ds := dPrs kl8) M slp z_pr rfl (by decide) rfl hall rfl ?_
  clear M hall; rintro g7 W M
  refine cc is_tOf (tOf_any kl8 _ W _ 3 3 (M.d1 0 rfl) M.olt (by decide)) ?_
  rintro e W ⟨cs, rfl, hres, hb⟩
  obtain ⟨k0, k1, k2, k3, k4, k5, k6, k7, k8, k9⟩ := kt8_0
  rw [k0]
  replace hres : RdL W _ (dN kt8) cs := hres
  obtain ⟨t, ht⟩ : ∃ t, t = kt8 := ⟨_, rfl⟩
  rw [← ht] at hres k1 k2 k3 k4 k8 k9
  obtain ⟨Ap, cp, Av, cv, Ak, ck, Ah, ch, rfl, r1, r3, r4, r5⟩ := hres.node
  replace M := ((M.call hb).addL hres).addD r4
  refine ⟨_, rfl, ?_⟩
  clear hres hb r1 r3 r4 r5
  refine s_alloc (zN) M al_nd ?_
  clear M
  rintro g8 W M
  first | refine s_storeA 0 (ncs t Ap cp Av cv Ak ck Ah ch) M rfl (by kernel_rfl) rfl rfl rfl (all1 rfl) rfl ?_ | refine s_storeA 1 (ncs t Ap cp Av cv Ak ck Ah ch) M rfl (by kernel_rfl) rfl rfl rfl (all1 rfl) rfl ?_ | refine s_storeA 2 (ncs t Ap cp Av cv Ak ck Ah ch) M rfl (by kernel_rfl) rfl rfl rfl (all1 rfl) rfl ?_ | refine s_storeA 3 (ncs t Ap cp Av cv Ak ck Ah ch) M rfl (by kernel_rfl) rfl rfl rfl (all1 rfl) rfl ?_
  clear M
  rintro W M
  dsimp only [setL] at M
  obtain ⟨ka, hka⟩ : ∃ ka, ka = t.kids.getD 0 noneN := ⟨_, rfl⟩
  obtain ⟨kc, hkc⟩ : ∃ kc, kc = t.kids.getD 1 noneN := ⟨_, rfl⟩
  obtain ⟨kb, hkb⟩ : ∃ kb, kb = kb8 := ⟨_, rfl⟩
  have i0 : t.kids[0]? = some ka := by rw [hka]; exact getD_some (by omega)
  have i1 : t.kids[1]? = some kc := by rw [hkc]; exact getD_some (by omega)
  rw [← hka] at k3 k4
  rw [← hkc] at k8
  rw [← hkb] at k5 k6 k7
  have ib : ka.kids[0]? = some kb := by rw [hkb, hka, ht]; exact getD_some (by rw [← ht, ← hka, k4]; decide)
  obtain ⟨b, off, es, e0, hel, M'⟩ := M.kid (M.d1 0 rfl) i0
  replace M := M'; clear M'
  obtain ⟨Ap1, cp1, Av1, cv1, Ak1, ck1, Ah1, ch1, rfl, -, -, q4, -⟩ := (M.da 1 rfl).node
  replace M := M.addD q4
  clear q4
  refine p_ne rfl rfl (fun _ => ?_) (fun e => absurd rfl e)
  refine p_fld fN0 rfl ?_
  refine v_load agg_int rfl (by first | exact (M.B 0 rfl).at_ rfl | exact (M.B 1 rfl).at_ rfl | exact (M.B 2 rfl).at_ rfl | exact (M.B 3 rfl).at_ rfl | exact (M.B 4 rfl).at_ rfl | exact M.lc 0 rfl _ _ rfl | exact M.lc 1 rfl _ _ rfl | exact M.lc 2 rfl _ _ rfl | exact M.lc 3 rfl _ _ rfl | exact M.lc 4 rfl _ _ rfl | exact M.lc 5 rfl _ _ rfl | exact M.lc 6 rfl _ _ rfl | exact M.lc 7 rfl _ _ rfl) ?_
  refine p_ne rfl rfl (fun _ => ?_) (fun e => absurd k1 e)
  refine p_fld fN4 rfl ?_
  refine v_load agg_ns rfl (by first | exact (M.B 0 rfl).at_ rfl | exact (M.B 1 rfl).at_ rfl | exact (M.B 2 rfl).at_ rfl | exact (M.B 3 rfl).at_ rfl | exact (M.B 4 rfl).at_ rfl | exact M.lc 0 rfl _ _ rfl | exact M.lc 1 rfl _ _ rfl | exact M.lc 2 rfl _ _ rfl | exact M.lc 3 rfl _ _ rfl | exact M.lc 4 rfl _ _ rfl | exact M.lc 5 rfl _ _ rfl | exact M.lc 6 rfl _ _ rfl | exact M.lc 7 rfl _ _ rfl) ?_
  refine p_len sln rfl ?_
  refine p_ne rfl rfl (fun _ => ?_) (fun e => absurd (by rw [k2]; rfl) e)
  refine p_fld fN4 rfl ?_
  refine v_load agg_ns rfl (by first | exact (M.B 0 rfl).at_ rfl | exact (M.B 1 rfl).at_ rfl | exact (M.B 2 rfl).at_ rfl | exact (M.B 3 rfl).at_ rfl | exact (M.B 4 rfl).at_ rfl | exact M.lc 0 rfl _ _ rfl | exact M.lc 1 rfl _ _ rfl | exact M.lc 2 rfl _ _ rfl | exact M.lc 3 rfl _ _ rfl | exact M.lc 4 rfl _ _ rfl | exact M.lc 5 rfl _ _ rfl | exact M.lc 6 rfl _ _ rfl | exact M.lc 7 rfl _ _ rfl) ?_
  refine p_at (i := 0) sln (by show (Value.slice Ak t.kids.length ck) = _; rw [e0]) rfl rfl (by omega) ?_
  refine p_fld fN0 rfl ?_
  refine v_load agg_int rfl (M.lc 1 rfl 0 _ rfl) ?_
  refine p_ne rfl rfl (fun _ => ?_) (fun e => absurd k3 e)
  refine p_fld fN4 rfl ?_
  refine v_load agg_ns rfl (by first | exact (M.B 0 rfl).at_ rfl | exact (M.B 1 rfl).at_ rfl | exact (M.B 2 rfl).at_ rfl | exact (M.B 3 rfl).at_ rfl | exact (M.B 4 rfl).at_ rfl | exact M.lc 0 rfl _ _ rfl | exact M.lc 1 rfl _ _ rfl | exact M.lc 2 rfl _ _ rfl | exact M.lc 3 rfl _ _ rfl | exact M.lc 4 rfl _ _ rfl | exact M.lc 5 rfl _ _ rfl | exact M.lc 6 rfl _ _ rfl | exact M.lc 7 rfl _ _ rfl) ?_
  refine p_at (i := 0) sln (by show (Value.slice Ak t.kids.length ck) = _; rw [e0]) rfl rfl (by omega) ?_
  refine p_fld fN4 rfl ?_
  refine v_load agg_ns rfl (M.lc 1 rfl 4 _ rfl) ?_
  refine p_len sln rfl ?_
  refine p_ne rfl rfl (fun _ => ?_) (fun e => absurd (by rw [k4]; rfl) e)
  obtain ⟨b2, off2, es2, e2, hel2, M'⟩ := M.kid (M.d1 0 rfl) ib
  replace M := M'; clear M'
  obtain ⟨Ap2, cp2, Av2, cv2, Ak2, ck2, Ah2, ch2, rfl, -, -, q4, -⟩ := (M.da 1 rfl).node
  replace M := M.addD q4
  clear q4
  refine p_fld fN4 rfl ?_
  refine v_load agg_ns rfl (by first | exact (M.B 0 rfl).at_ rfl | exact (M.B 1 rfl).at_ rfl | exact (M.B 2 rfl).at_ rfl | exact (M.B 3 rfl).at_ rfl | exact (M.B 4 rfl).at_ rfl | exact M.lc 0 rfl _ _ rfl | exact M.lc 1 rfl _ _ rfl | exact M.lc 2 rfl _ _ rfl | exact M.lc 3 rfl _ _ rfl | exact M.lc 4 rfl _ _ rfl | exact M.lc 5 rfl _ _ rfl | exact M.lc 6 rfl _ _ rfl | exact M.lc 7 rfl _ _ rfl) ?_
  refine p_at (i := 0) sln (by show (Value.slice Ak t.kids.length ck) = _; rw [e0]) rfl rfl (by omega) ?_
  refine p_fld fN4 rfl ?_
  refine v_load agg_ns rfl (M.lc 4 rfl 4 _ rfl) ?_
  refine p_at (i := 0) sln (by show (Value.slice Ak1 ka.kids.length ck1) = _; rw [e2]) rfl rfl (by omega) ?_
  refine v_loadN (ncs kb Ap2 cp2 Av2 cv2 Ak2 ck2 Ah2 ch2) agg_nd rfl hel2 (M.lc 1 rfl) ?_
  refine s_alloc (zN) M al_nd ?_
  clear M
  rintro g9 W M
  first | refine s_storeA 0 (ncs kb Ap2 cp2 Av2 cv2 Ak2 ck2 Ah2 ch2) M rfl (by kernel_rfl) rfl rfl rfl (all1 rfl) rfl ?_ | refine s_storeA 1 (ncs kb Ap2 cp2 Av2 cv2 Ak2 ck2 Ah2 ch2) M rfl (by kernel_rfl) rfl rfl rfl (all1 rfl) rfl ?_ | refine s_storeA 2 (ncs kb Ap2 cp2 Av2 cv2 Ak2 ck2 Ah2 ch2) M rfl (by kernel_rfl) rfl rfl rfl (all1 rfl) rfl ?_ | refine s_storeA 3 (ncs kb Ap2 cp2 Av2 cv2 Ak2 ck2 Ah2 ch2) M rfl (by kernel_rfl) rfl rfl rfl (all1 rfl) rfl ?_
  clear M
  rintro W M
  dsimp only [setL] at M
  refine v_loadN (ncs t Ap cp Av cv Ak ck Ah ch) agg_nd rfl rfl (by first | exact M.run 0 rfl | exact M.run 1 rfl | exact M.run 2 rfl | exact M.run 3 rfl | exact M.run 4 rfl | exact M.lc 0 rfl | exact M.lc 1 rfl | exact M.lc 2 rfl | exact M.lc 3 rfl | exact M.lc 4 rfl | exact M.lc 5 rfl | exact M.lc 6 rfl | exact M.lc 7 rfl) ?_
  refine s_bslice (bvs [1, 2]) (fr := true) (ds := (bvs [1, 2]).map D.v) M slb (zs := [.int .u8 0]) (by kernel_rfl) rfl (by decide) rfl (RdL.ofvals _) rfl ?_
  clear M; rintro g10 W M
  refine cc is_tGet (tGet_any t (by omega) _ _ _ [1, 2] _ 2 2 (by first | with_reducible exact M.da_0 | with_reducible exact M.da_1 | with_reducible exact M.da_2 | with_reducible exact M.da_3 | with_reducible exact M.da_4 | with_reducible exact M.da_5 | with_reducible exact M.da_6 | with_reducible exact M.da_7 | with_reducible exact M.da_8 | with_reducible exact M.da_9 | with_reducible exact M.da_10 | with_reducible exact M.da_11) (M.d1 0 rfl) M.olt) ?_
  rintro e W ⟨A3, n3, c3, Am3, nm3, cm3, rfl, rv, -, hb⟩
  rw [ht, kt8_1.1] at rv
  rw [ht, kt8_1.2.1, kt8_1.2.2, ← ht]
  replace M := M.callF1 hb rv
  clear rv hb
  refine ⟨_, rfl, ?_⟩
  refine v_loadN (ncs t Ap cp Av cv Ak ck Ah ch) agg_nd rfl rfl (by first | exact M.run 0 rfl | exact M.run 1 rfl | exact M.run 2 rfl | exact M.run 3 rfl | exact M.run 4 rfl | exact M.lc 0 rfl | exact M.lc 1 rfl | exact M.lc 2 rfl | exact M.lc 3 rfl | exact M.lc 4 rfl | exact M.lc 5 rfl | exact M.lc 6 rfl | exact M.lc 7 rfl) ?_
  refine cc is_r7fold (rfold_any t (by omega) _ _ _ (by first | with_reducible exact M.da_0 | with_reducible exact M.da_1 | with_reducible exact M.da_2 | with_reducible exact M.da_3 | with_reducible exact M.da_4 | with_reducible exact M.da_5 | with_reducible exact M.da_6 | with_reducible exact M.da_7 | with_reducible exact M.da_8 | with_reducible exact M.da_9 | with_reducible exact M.da_10 | with_reducible exact M.da_11) M.olt) ?_
  rintro e W ⟨csf, rfl, rf, hb⟩
  replace M := M.callF hb rf
  clear rf hb
  have hfold : foldN t = .mk 4 [] false [] [] (hashR kt8) := by unfold foldN; rw [if_neg (by omega), ht]
  have hszf : sz (foldN t) ≤ 1000000 := by
    have := sz_eq (foldN t)
    rw [hfold] at this ⊢
    have h2 : szs (Nd.mk 4 [] false [] [] (hashR kt8)).kids = 0 := by show szs [] = 0; rw [szs]
    have h3 : (Nd.mk 4 [] false [] [] (hashR kt8)).hash.length = 32 := kt8_h
    have h4 : (Nd.mk 4 [] false [] [] (hashR kt8)).path.length = 0 := rfl
    have h5 : (Nd.mk 4 [] false [] [] (hashR kt8)).val.length = 0 := rfl
    omega
  refine ⟨_, rfl, ?_⟩
  have hsg := stub_get kt8_h
  rw [← hfold] at hsg
  refine cc is_tGet (tGet_any (foldN t) hszf _ _ _ [] none 0 0 (M.da 0 rfl) (RdD.nil_ _ _) M.olt) ?_
  rintro e W ⟨A4, n4, c4, Am4, nm4, cm4, rfl, -, rm, hb⟩
  rw [hsg.1] at rm
  rw [hsg.2]
  have hnm : nm4 = 0 := rm.2.slen
  subst hnm
  replace M := M.call hb
  clear rm hb
  refine ⟨_, rfl, ?_⟩
  refine p_fld fN2 rfl ?_
  refine v_load (v := .bool true) agg_bo rfl ((M.B 0 rfl).at_ (show some (Value.bool kb.has) = some (.bool true) by rw [k5])) ?_
  refine p_fld fN4 rfl ?_
  refine v_load agg_ns rfl (by first | exact (M.B 0 rfl).at_ rfl | exact (M.B 1 rfl).at_ rfl | exact (M.B 2 rfl).at_ rfl | exact (M.B 3 rfl).at_ rfl | exact (M.B 4 rfl).at_ rfl | exact M.lc 0 rfl _ _ rfl | exact M.lc 1 rfl _ _ rfl | exact M.lc 2 rfl _ _ rfl | exact M.lc 3 rfl _ _ rfl | exact M.lc 4 rfl _ _ rfl | exact M.lc 5 rfl _ _ rfl | exact M.lc 6 rfl _ _ rfl | exact M.lc 7 rfl _ _ rfl) ?_
  refine p_len sln rfl ?_
  refine p_eq rfl rfl (fun _ => ?_) (fun e => absurd (by rw [k6]; rfl) e)
  have ib0 : kb.kids[0]? = some (kb.kids.getD 0 noneN) := getD_some (by omega)
  obtain ⟨kd, hkd⟩ : ∃ kd, kd = kb.kids.getD 0 noneN := ⟨_, rfl⟩
  rw [← hkd] at ib0
  rw [← hkd] at k7
  obtain ⟨b3, off3, es3, e3, hel3, M'⟩ := M.kid (M.d1 3 rfl) ib0
  replace M := M'; clear M'
  obtain ⟨Ap3, cp3, Av3, cv3, Ak3, ck3, Ah3, ch3, rfl, q1, -⟩ := (M.da 1 rfl).node
  replace M := M.addD q1
  clear q1
  refine p_fld fN4 rfl ?_
  refine v_load agg_ns rfl (by first | exact (M.B 0 rfl).at_ rfl | exact (M.B 1 rfl).at_ rfl | exact (M.B 2 rfl).at_ rfl | exact (M.B 3 rfl).at_ rfl | exact (M.B 4 rfl).at_ rfl | exact M.lc 0 rfl _ _ rfl | exact M.lc 1 rfl _ _ rfl | exact M.lc 2 rfl _ _ rfl | exact M.lc 3 rfl _ _ rfl | exact M.lc 4 rfl _ _ rfl | exact M.lc 5 rfl _ _ rfl | exact M.lc 6 rfl _ _ rfl | exact M.lc 7 rfl _ _ rfl) ?_
  refine p_at (i := 0) sln (by show (Value.slice Ak2 kb.kids.length ck2) = _; rw [e3]) rfl rfl (by omega) ?_
  refine p_fld fN1 rfl ?_
  refine v_load agg_b rfl (M.lc 1 rfl 1 _ rfl) ?_
  refine s_bslice (bvs [2]) (fr := true) (ds := (bvs [2]).map D.v) M slb (zs := [.int .u8 0]) (by kernel_rfl) rfl (by decide) rfl (RdL.ofvals _) rfl ?_
  clear M; rintro g11 W M
  obtain ⟨q, hq, hc⟩ := same_tf (c1 := cp3) (c2 := 1) (M.rdb 1 rfl).2.2 (M.rdb (l := [2]) 0 rfl).2.2
  obtain rfl := hq.2 k7
  refine cc is_same0 hc ?_
  rintro e W' ⟨rfl, rfl⟩
  refine ⟨_, rfl, ?_⟩
  clear hq hc
  obtain ⟨b4, off4, es4, e4, hel4, M'⟩ := M.kid (M.d1 13 rfl) i1
  replace M := M'; clear M'
  obtain ⟨Ap4, cp4, Av4, cv4, Ak4, ck4, Ah4, ch4, rfl, q1, -⟩ := (M.da 1 rfl).node
  replace M := M.addD q1
  clear q1
  refine p_fld fN4 rfl ?_
  refine v_load agg_ns rfl (by first | exact (M.B 0 rfl).at_ rfl | exact (M.B 1 rfl).at_ rfl | exact (M.B 2 rfl).at_ rfl | exact (M.B 3 rfl).at_ rfl | exact (M.B 4 rfl).at_ rfl | exact M.lc 0 rfl _ _ rfl | exact M.lc 1 rfl _ _ rfl | exact M.lc 2 rfl _ _ rfl | exact M.lc 3 rfl _ _ rfl | exact M.lc 4 rfl _ _ rfl | exact M.lc 5 rfl _ _ rfl | exact M.lc 6 rfl _ _ rfl | exact M.lc 7 rfl _ _ rfl) ?_
  refine p_at (i := 1) sln (by show (Value.slice Ak t.kids.length ck) = _; rw [e4]) rfl rfl (by omega) ?_
  refine p_fld fN1 rfl ?_
  refine v_load agg_b rfl (M.lc 1 rfl 1 _ rfl) ?_
  refine s_bslice (bvs [1]) (fr := true) (ds := (bvs [1]).map D.v) M slb (zs := [.int .u8 0]) (by kernel_rfl) rfl (by decide) rfl (RdL.ofvals _) rfl ?_
  clear M; rintro g12 W M
  obtain ⟨q, hq, hc⟩ := same_tf (c1 := cp4) (c2 := 1) (M.rdb 1 rfl).2.2 (M.rdb (l := [1]) 0 rfl).2.2
  obtain rfl := hq.2 k8
  refine cc is_same0 hc ?_
  rintro e W' ⟨rfl, rfl⟩
  refine ⟨_, rfl, ?_⟩
  clear hq hc
  refine s_bsliceB (bvs [98]) M slb (zs := [.int .u8 0]) (by kernel_rfl) rfl (by decide) rfl ?_
  clear M; rintro g13 W M
  refine s_cvtB [98] M rfl rfl (Nat.le_refl _) ?_
  clear M; rintro W M
  obtain ⟨q, hq, hc⟩ := same_tf (c1 := c3) (c2 := 1) (M.rdb 10 rfl).2.2 (M.rdb (l := [98]) 0 rfl).2.2
  obtain rfl := hq.2 rfl
  refine cc is_same0 hc ?_
  rintro e W' ⟨rfl, rfl⟩
  refine ⟨_, rfl, ?_⟩
  clear hq hc
  refine p_eq rfl rfl (fun _ => ?_) (fun e => absurd rfl e)
  refine p_len slb rfl ?_
  refine p_eq rfl rfl (fun _ => ?_) (fun e => absurd rfl e)
  refine p_eq rfl rfl (fun _ => ?_) (fun e => absurd rfl e)
  exact ⟨rfl, M.below⟩
end Go.Proofs.Ytkfbkhahkkmcoaa
namespace Go.Proofs.Ytkfbkhahkkmcoaa
open Go.RowKit
def longN (l : List Pr) : Nat := (l.map fun p => 10 + p.k.length + p.v.length).sum
theorem longN_snoc (l : List Pr) (p : Pr) : longN (l ++ [p]) = longN l + (10 + p.k.length + p.v.length) := by unfold longN; rw [List.map_append, List.sum_append]; simp
theorem longN_take (l : List Pr) (i : Nat) : longN (l.take i) ≤ longN l := by
  have : longN l = longN (l.take i) + longN (l.drop i) := by unfold longN; rw [← List.sum_append, ← List.map_append, List.take_append_drop]
  omega
theorem longN_len : ∀ l : List Pr, 10 * l.length ≤ longN l
  | [] => Nat.zero_le _
  | p :: l => by have := longN_len l; unfold longN at *; rw [List.map_cons, List.sum_cons, List.length_cons]; omega
theorem is_long8 : isFn Try.prog 33 = true := by kernel_rfl
set_option maxRecDepth 100000 in
set_option maxHeartbeats 1000000 in
theorem long8_any (l : List Pr) (gs : List (Option Nat)) (w : World) (A : Option Addr) (n c : Nat) (hr : RdD w (Fd w gs) (dPl l) (.slice A n c)) (hgs : ∀ b, some b ∈ gs → b < w.heap.size) (hz : longN l ≤ 1000000000000) :
    Calls Try.prog 33 #[.slice A n c] w fun e w' => e = .returned (.bool (decide (longN l > 9000))) ∧ Below w.heap.size w w' := by
  refine calls_ev (args := [.slice A n c]) mixed Try.func33 rfl (by kernel_rfl) ?_
  have en := hr.slen
  have hnl := longN_len l
  have M := (St.start hgs).addD hr
  refine lp Nat (fun i W => i ≤ n ∧ St w gs W [] [] [.dat false [dPl l] [.slice A n c]]) (fun i => [(0, .slice A n c), (3, .int .i64 (longN (l.take i))), (4, .int .i64 i)]) (fun i => n - i) 0 ⟨Nat.zero_le _, M⟩ ⟨rfl, rfl, rfl, trivial⟩ ?_
  clear M
  rintro i E5 W5 ⟨hi, M⟩
  refine p_len slp rfl ?_
  refine p_lt rfl rfl (fun hlt => ?_) (fun hge => ?_)
  · obtain ⟨p, hp⟩ : ∃ p, l[i]? = some p := ⟨_, List.getElem?_eq_getElem (by omega)⟩
    have hp1 := List.getElem?_eq_some_iff.1 hp
    have ht : l.take (i + 1) = l.take i ++ [p] := by rw [List.take_succ_eq_append_getElem hp1.1, hp1.2]
    have hs := longN_snoc (l.take i) p
    rw [← ht] at hs
    have hs2 := longN_take l (i + 1)
    replace M := M.drew
    obtain ⟨b1, o1, Ak, ck, Av, cv, rfl, M'⟩ := M.pair (M.d1 0 rfl) hp
    replace M := M'; clear M'
    refine drT (Kp w gs [] [.loc ((⟨b1, o1, none⟩ : Addr).add (i * 2)) (pcs p Ak ck Av cv)]) (.take 0 (.take 1 (.take 2 (.take 3 (.take 4 (.take 5 (.take 6 (.take 7 (.take 8 (.take 9 (.take 10 (.take 11 (.take 12 (.take 13 (.take 14 (.take 15 (.take 16 (.nil)))))))))))))))))) (by kernel_rfl) (M.kp (by simp) (by simp)) ?_
    refine p_addN (b := 10) rfl rfl (by omega) ?_
    refine p_at slp rfl rfl rfl (by omega) ?_
    refine p_fld fP0 rfl ?_
    refine t_load agg_b rfl (fun W K => by first | exact (K.B 0 rfl).at_ rfl | exact (K.B 1 rfl).at_ rfl | exact (K.B 2 rfl).at_ rfl | exact (K.B 3 rfl).at_ rfl | exact K.lc 0 rfl _ _ rfl | exact K.lc 1 rfl _ _ rfl | exact K.lc 2 rfl _ _ rfl | exact K.lc 3 rfl _ _ rfl) ?_
    refine p_len slb rfl ?_
    refine p_addN rfl rfl (by omega) ?_
    refine p_at slp rfl rfl rfl (by omega) ?_
    refine p_fld fP1 rfl ?_
    refine t_load agg_b rfl (fun W K => by first | exact (K.B 0 rfl).at_ rfl | exact (K.B 1 rfl).at_ rfl | exact (K.B 2 rfl).at_ rfl | exact (K.B 3 rfl).at_ rfl | exact K.lc 0 rfl _ _ rfl | exact K.lc 1 rfl _ _ rfl | exact K.lc 2 rfl _ _ rfl | exact K.lc 3 rfl _ _ rfl) ?_
    refine p_len slb rfl ?_
    refine p_addN rfl rfl (by omega) ?_
    refine p_addN (b := 1) rfl rfl (by omega) ?_
    exact ⟨i + 1, ⟨by omega, M.fsub _ (by simp)⟩, ⟨rfl, (by show Value.int .i64 ((longN (l.take i) + 10 + p.k.length + p.v.length : Nat) : Int) = _; rw [hs, ← Nat.add_assoc, ← Nat.add_assoc]), rfl, trivial⟩, by omega⟩
  · have hin : i = l.length := by omega
    subst hin
    refine p_gt rfl rfl (fun h => ?_) (fun h => ?_)
    · rw [List.take_of_length_le (Nat.le_refl _)] at h
      exact ⟨ret_tf (decide_eq_true (by omega)).symm, M.below⟩
    · rw [List.take_of_length_le (Nat.le_refl _)] at h
      exact ⟨ret_tf (decide_eq_false (by omega)).symm, M.below⟩
end Go.Proofs.Ytkfbkhahkkmcoaa
namespace Go.Proofs.Ytkfbkhahkkmcoaa
theorem longN_cons (p : Pr) (l : List Pr) : longN (p :: l) = 10 + p.k.length + p.v.length + longN l := by unfold longN; rw [List.map_cons, List.sum_cons]
theorem prBulk_cons (p : Pr) (l : List Pr) : prBulk (p :: l) = 140 + 2 * p.k.length + p.v.length + prBulk l := by unfold prBulk; rw [List.map_cons, List.sum_cons]
theorem longN_up : ∀ l : List Pr, longN l ≤ 4 * (l.map fun t => t.k.length + t.v.length + 3).sum
  | [] => Nat.zero_le _
  | p :: l => by have := longN_up l; rw [longN_cons, List.map_cons, List.sum_cons]; omega
theorem prBulk_up : ∀ l : List Pr, prBulk l ≤ 14 * longN l
  | [] => Nat.zero_le _
  | p :: l => by have := prBulk_up l; rw [prBulk_cons, longN_cons]; omega
theorem longN_mem : ∀ {l : List Pr} {p : Pr}, p ∈ l → 10 + p.k.length + p.v.length ≤ longN l
  | q :: l, p, h => by
    rw [longN_cons]
    rcases List.mem_cons.1 h with rfl | h
    · omega
    · have := longN_mem h; omega
theorem longN_big {l : List Pr} (h : longN l ≤ 10000000) : prBig l := by
  have := longN_len l
  exact ⟨by omega, fun p hp => by have := longN_mem hp; omega⟩
theorem tOfF_sz : ∀ (l : List Pr) (t : Nd), Full t → sz (tOfF l t).1 ≤ sz t + prBulk l
  | [], t, _ => Nat.le_add_right _ _
  | p :: l, t, h => by
    rw [tOfF, prBulk_cons]
    split
    · have e : sz noneN = 6 := rfl
      have := sz_eq t
      show sz noneN ≤ _
      omega
    · obtain ⟨_, h2, _⟩ := put_prs h (k := p.k) (v := p.v) (by omega) (by omega)
      have h3 := tOfF_sz l _ h2
      have h4 := sz_put h.1 (ofB p.k) p.v (halvesB_ofB _)
      rw [ofB_length] at h4
      omega
theorem tOf_sz (l : List Pr) : sz (tOf l).1 ≤ 6 + prBulk l := tOfF_sz l noneN full_none
theorem full_tri {t : Nd} (h : Full t) {nk nv : Nat} (h1 : nk ≤ 200) (h2 : nv ≤ 4000) : tri t nk nv = true := tri_of h.1 h1 h2
theorem tPut_full {t : Nd} (h : Full t) {k v : List UInt8} (h1 : k.length ≤ 200) (h2 : v.length ≤ 4000) : ∃ t', tPut t k v = (t', none, 0) ∧ Full t' ∧ prsT t' = insP (prsT t) ⟨k, v⟩ ∧ sz t' ≤ sz t + 130 + 2 * k.length + v.length := by
  obtain ⟨p1, p2, p3⟩ := put_prs h h1 h2
  have e : tPut t k v = ((putP t (ofB k) v).1, none, 0) := by unfold tPut; rw [full_tri h h1 h2, if_pos rfl, p1]
  refine ⟨_, e, p2, p3, ?_⟩
  have := sz_put h.1 (ofB k) v (halvesB_ofB _)
  rw [ofB_length] at this; exact this
theorem tGet_full {t : Nd} (h : Full t) {k : List UInt8} (h1 : k.length ≤ 200) : ∃ v has, tGet t k = ⟨v, has, none, 0⟩ ∧ (has = true → ⟨k, v⟩ ∈ prsT t) ∧ (has = false → v = [] ∧ ∀ p ∈ prsT t, p.k ≠ k) := by
  obtain ⟨g1, g2, g3⟩ := get_prs h k
  rcases tGet_cases t k with ⟨a, b⟩ | ⟨a, ⟨r, b, c⟩ | ⟨b, c, d⟩ | ⟨b, c, d⟩⟩
  · rw [full_tri h h1 (by decide)] at a; cases a
  · rw [g1] at b; cases b
  · exact ⟨_, _, d, fun _ => g2 c, fun h => by cases h⟩
  · exact ⟨_, _, d, fun h => (by cases h), fun _ => ⟨rfl, g3 c⟩⟩
end Go.Proofs.Ytkfbkhahkkmcoaa
namespace Go.Proofs.Ytkfbkhahkkmcoaa
open Go.ChangeShapes Go.WideShapes Go.ChangeAt Go.RowKit

theorem own_ : ownKnob Try.prog.godebug = none := by kernel_rfl
theorem laidOut : laidOutB Try.prog = true := by kernel_rfl

/-- A call returns true, and below the heap's old size all is as it was. -/
def RetTrue (w : World) (e : Ending) (w' : World) : Prop := e = .returned (.bool true) ∧ Below w.heap.size w w'

section
variable {H : Type} {enc : TypeId × Value → H} {P : Program}
theorem trodAll_stays (hl : laidOutB P = true) {W W' : World} (hb : Below W.heap.size W W') {sp : Nat → Bool} : ∀ (ts : List TypeId) (vs : List Value) (ds : List (DataW H)) (p : List MemPlace),
    (ts.all fun t => P.readableRec t && decide (t < P.types.size)) = true → DataW.TrodAll enc P W 0 (fun _ => true) true ts vs ds p → (∀ x ∈ p, x.block < W.heap.size) → (∀ x ∈ p, sp x.block = true) → DataW.TrodAll enc P W' 0 sp true ts vs ds p
  | [], vs, ds, p, _, h, _, _ => by
    obtain ⟨rfl, rfl, rfl⟩ := trodAll_nil h
    exact trodAll_mk0
  | t :: ts, vs, ds, p, ht, h, hlt, hsp => by
    obtain ⟨v, vs', d, ds', p0, q0, rfl, rfl, rfl, h0, r0⟩ := trodAll_cons h
    rw [List.all_cons, Bool.and_eq_true, Bool.and_eq_true, decide_eq_true_eq] at ht
    refine trodAll_cons_mk (WideElems.Trod_stays hl ht.1.1 ht.1.2 h0 (fun x hx => hb.same (hlt x (by simp [hx]))) (fun x hx => hsp x (by simp [hx]))) (trodAll_stays hl hb ts vs' ds' q0 ht.2 r0 (fun x hx => hlt x (by simp [hx])) (fun x hx => hsp x (by simp [hx])))

theorem post_of_below {f : Func} {s : ChangeSpec} {apart fresh handsOn again : Bool} {W W' : World} {args : Array Value} {v : Value} {ds gs : List (DataW H)} {before pa pv : List MemPlace}
    (hW : DataW.Whole enc P f.params.toList s.vars apart W args.toList ds gs before)
    (hres : ∀ (b : Nat) (sp : Nat → Bool) (hd : Bool), DataW.TrodAll enc P W' b sp hd f.resultTypes.toList (v.resultList f.resultTypes.size) (s.fn H (ds ++ gs)).results [])
    (hargs : ∀ sp : Nat → Bool, (∀ p ∈ before, sp p.block = true) → DataW.TrodAll enc P W' 0 sp true f.params.toList args.toList (s.fn H (ds ++ gs)).args pa)
    (hvars : ∀ sp : Nat → Bool, (∀ p ∈ before, sp p.block = true) → DataW.TrodVars enc P W' sp s.vars (s.fn H (ds ++ gs)).vars pv)
    (hps : before = pa ++ pv) (hb : Below W.heap.size W W')
    (hok : ∀ (j : Nat) (t : TypeId) (r : Value), f.resultTypes[j]? = some t → (v.resultList f.resultTypes.size)[j]? = some r → Value.okWide P W' .any 0 t r) :
    s.post enc P f apart fresh handsOn again W args v W' := by
  have hlt : ∀ p ∈ before, p.block < W.heap.size := fun p hp => hW.lt p hp
  have hold : ∀ p ∈ before, (fun b => decide (b < W.heap.size)) p.block = true := fun p hp => by simpa using hlt p hp
  refine ⟨ds, gs, before, [], pa, pv, hW, hres _ _ _, hargs _ hold, hvars _ hold, World.keptBut_mono (fun p hp => ⟨hp, ?_⟩) (hb.frame (· ∈ before)), fun _ => ?_⟩
  · rw [hps, List.mem_append] at hp
    exact Or.inr hp
  · obtain ⟨_, _, _, _, _, hz, hn⟩ := hW
    refine ⟨hok, _, _, ([] ++ pa) ++ pv, ⟨[] ++ pa, pv, trodAll_append (hargs _ (fun _ _ => rfl)) (hres _ _ _), hvars _ (fun _ _ => rfl), rfl, ?_, ?_⟩, ?_⟩
    · intro b off hp
      have hin : MemPlace.cell b off ∈ before := by rw [hps]; simpa using hp
      rw [hb.frozen (hlt _ hin)]
      exact hz b off hin
    · intro ha
      have := hn ha
      rw [hps] at this
      simpa using this
    · intro p hp _
      rw [hps]
      simpa using hp

/-- THE ROW'S LAST STEP: the law has returned true, nothing that was there has turned. -/
theorem law_post (hl : laidOutB P = true) {tb : TypeId} (hbool : P.underlying tb = some .bool) {f : Func} {s : ChangeSpec} {W W' : World} {args : Array Value} {ds gs : List (DataW H)} {before : List MemPlace}
    (hvars : s.vars = []) (hW : DataW.Whole enc P f.params.toList s.vars false W args.toList ds gs before)
    (hts : (f.params.toList.all fun t => P.readableRec t && decide (t < P.types.size)) = true) (hrt : f.resultTypes = #[tb])
    (hres : (s.fn H (ds ++ gs)).results = [.lit (.bool true)]) (hargs : (s.fn H (ds ++ gs)).args = ds) (hvs : (s.fn H (ds ++ gs)).vars = []) (hb : Below W.heap.size W W') :
    s.post enc P f false true false false W args (.bool true) W' := by
  have hW' := hW
  obtain ⟨p, q, hA, hV, rfl, hfz, hnd⟩ := hW
  rw [hvars] at hV
  obtain ⟨rfl, rfl⟩ := trodVars_none hV
  have hlt : ∀ x ∈ p, x.block < W.heap.size := fun x hx => hW'.lt x (by simp [hx])
  refine post_of_below (pa := p) (pv := []) hW' ?_ ?_ ?_ rfl hb ?_
  · intro b sp hd
    rw [hres, hrt]
    exact trodAll_cons_mk (shut_bool hbool _) trodAll_mk0
  · intro sp hsp
    rw [hargs]
    exact trodAll_stays hl hb _ _ _ _ hts hA hlt (fun x hx => hsp x (by simp [hx]))
  · intro sp hsp
    rw [hvars, hvs]
    rfl
  · exact ok_one hrt rfl (okWide_bool_mk hbool _)
end

end Go.Proofs.Ytkfbkhahkkmcoaa
namespace Go.Proofs.Ytkfbkhahkkmcoaa
open Go.ChangeShapes Go.WideShapes Go.ChangeAt Go.RowKit

section
variable {H : Type} {enc : TypeId × Value → H} {W : World}
theorem lits_bulk (k : IntKind) : ∀ zs : List Int, Rows.uptoBulkAll (lits (H := H) k zs) = zs.length
  | [] => rfl
  | z :: zs => by
    have := lits_bulk k zs
    show Rows.uptoBulk (DataW.lit (.int k z)) + Rows.uptoBulkAll (lits k zs) = _
    rw [this, List.length_cons]
    show 1 + zs.length = _
    omega
set_option maxRecDepth 100000 in
theorem rd_trod {fuel : Nat} {cs : List Value} {d : DataW H} {p : List MemPlace} (hf : DataW.trod enc Try.prog W 0 (fun _ => true) true fuel 22 cs = some (d, p)) (hlt : ∀ x ∈ p, x.block < W.heap.size) :
    ∃ A n c l, cs = [.slice A n c] ∧ Rd W W.heap.size A n l ∧ n ≤ c ∧ c ≤ maxLen ∧ l.length + 1 ≤ Rows.uptoBulk d ∧ ∀ R, (∀ x ∈ d.weights Try.prog 22, x ≤ R) → l.length ≤ R := by
  rcases open_ints Try.underlying22 Try.underlying5 (by kernel_rfl) hf with ⟨hcs, hx⟩ | ⟨x, l, c, zs, hcs, _, hl, hm, hz, hx, hcell, hwz⟩
  · simp only [Prod.mk.injEq] at hx
    obtain ⟨rfl, rfl⟩ := hx
    exact ⟨none, 0, 0, [], hcs, Rd.nil_, Nat.le_refl _, Nat.zero_le _, Nat.le_refl _, fun _ _ => Nat.zero_le _⟩
  · simp only [if_true] at hz
    simp only [Prod.mk.injEq] at hx
    obtain ⟨rfl, rfl⟩ := hx
    refine ⟨some x, l, c, (zs.take l).map b8, hcs, ⟨by rw [bvs_length]; simp; omega, fun hn => ?_⟩, hl, hm, ?_, ?_⟩
    · obtain ⟨b, off, spot⟩ := x
      have hspot : spot = none := by simpa [Addr.add] using World.cell?_spot (hcell 0 (by omega))
      subst hspot
      have hbW : b < W.heap.size := hlt (.cell b off) (MemPlace.mem_row.2 ⟨0, by omega, by simp⟩)
      refine ⟨b, off, rfl, hbW, fun j u hu => ?_⟩
      have e : bvs ((zs.take l).map b8) = (zs.take l).map (Value.int .u8) := by
        unfold bvs
        rw [List.map_map]
        refine List.map_congr_left fun z hz => ?_
        have := hwz z (List.mem_of_mem_take hz)
        have hr : 0 ≤ z ∧ z ≤ 255 := by simpa [Lit.wf, IntKind.min, IntKind.max, IntKind.signed, IntKind.bits] using this
        exact u8v_b8 z hr.1 hr.2
      rw [e, List.getElem?_map] at hu
      obtain ⟨z, hz1, rfl⟩ := Option.map_eq_some_iff.1 hu
      have hj : j < l := by
        rw [List.getElem?_take] at hz1
        split at hz1
        · assumption
        · cases hz1
      have hc := hcell j (by omega)
      rw [Addr.add_lit] at hc
      rw [hc]
      rw [List.getElem?_take, if_pos hj] at hz1
      rw [List.getD_eq_getElem?_getD, hz1]
      rfl
    · show _ ≤ Rows.uptoBulkAll (lits .u8 (zs.take l)) + Rows.uptoBulkAll (lits .u8 (zs.drop l)) + 1
      rw [lits_bulk, lits_bulk]
      simp
    · intro R hR
      have hb : Try.prog.bytesOf 5 = 1 := by kernel_rfl
      have := hR (((lits (H := H) .u8 (zs.take l)).length + (lits (H := H) .u8 (zs.drop l)).length) * Try.prog.bytesOf 5) (by
        unfold DataW.weights; rw [Try.underlying22]; simp)
      rw [hb] at this
      have h3 : (lits (H := H) .u8 (zs.take l)).length = (zs.take l).length := by simp [lits]
      rw [List.length_map, ← h3]; omega
end

end Go.Proofs.Ytkfbkhahkkmcoaa
namespace Go.Proofs.Ytkfbkhahkkmcoaa
open Go.ChangeShapes Go.WideShapes Go.ChangeAt Go.RowKit
section
variable {H : Type} {enc : TypeId × Value → H} {W : World}
theorem rdD_elts {α : Type} (dE : α → List D) (s : Nat) (hd : ∀ a, (dE a).length = s) {P : Nat → α → Prop} {F : Nat → Prop} {b off : Nat} : ∀ (n : Nat), (∀ i, i < n → ∃ a es, P i a ∧ RdL W F (dE a) es ∧ ∀ j u, es[j]? = some u → W.cell? ⟨b, off + i * s + j, none⟩ = some u) →
    ∃ (l : List α) (cs : List Value), l.length = n ∧ (∀ i a, l[i]? = some a → P i a) ∧ RdL W F (l.flatMap dE) cs ∧ ∀ j u, cs[j]? = some u → W.cell? ⟨b, off + j, none⟩ = some u
  | 0, _ => ⟨[], [], rfl, (fun i a h => by simp at h), RdL.nil_, fun j u h => by simp at h⟩
  | n + 1, h => by
    obtain ⟨l, cs, h1, h2, h3, h4⟩ := rdD_elts dE s hd n (fun i hi => h i (by omega))
    obtain ⟨a, es, k1, k2, k3⟩ := h n (by omega)
    have hl : cs.length = n * s := by
      rw [h3.len, ← h1]
      clear h1 h2 h3 h4
      induction l with
      | nil => simp
      | cons x l ih => rw [List.flatMap_cons, List.length_append, ih, hd, List.length_cons, Nat.succ_mul]; omega
    refine ⟨l ++ [a], cs ++ es, by simp [h1], fun i x hx => ?_, by rw [List.flatMap_append]; simp only [List.flatMap_cons, List.flatMap_nil, List.append_nil]; exact h3.app k2, fun j u hu => ?_⟩
    · by_cases hi : i < n
      · rw [List.getElem?_append_left (by omega)] at hx; exact h2 i x hx
      · have hin : i = n := by
          have := (List.getElem?_eq_some_iff.1 hx).1
          simp [h1] at this; omega
        subst hin
        rw [List.getElem?_append_right (by omega), h1, Nat.sub_self] at hx
        simp at hx
        subst hx
        exact k1
    · by_cases hj : j < n * s
      · rw [List.getElem?_append_left (by omega)] at hu; exact h4 j u hu
      · rw [List.getElem?_append_right (by omega), hl] at hu
        have := k3 _ u hu
        rw [show off + n * s + (j - n * s) = off + j by omega] at this
        exact this
/-- A row whose elements read as data. -/
theorem trod_elts {α : Type} (dE : α → List D) (s : Nat) (hd : ∀ a, (dE a).length = s) (hs : 0 < s) {P : DataW H → α → Prop} {ts te : TypeId} (hT : Try.prog.underlying ts = some (.slice te)) (hc : Program.cellsOf Try.prog te = s) {fuel : Nat} {cs : List Value} {x : DataW H × List MemPlace}
    (hf : DataW.trod enc Try.prog W 0 (fun _ => true) true fuel ts cs = some x) (hlt : ∀ q ∈ x.2, q.block < W.heap.size)
    (he : ∀ m cs' y, m < fuel → DataW.trod enc Try.prog W 0 (fun _ => true) true m te cs' = some y → (∀ q ∈ y.2, q.block < W.heap.size) → ∃ a, P y.1 a ∧ RdL W (Fd W []) (dE a) cs') :
    ∃ (A : Option Addr) (n c : Nat) (l : List α) (ds rest : List (DataW H)), cs = [.slice A n c] ∧ (x.1 = .slice ds rest ∨ (x.1 = .nil ∧ ds = [])) ∧ l.length = n ∧ l.length = ds.length ∧ (∀ (i : Nat) (a : α) (d : DataW H), l[i]? = some a → ds[i]? = some d → P d a) ∧ RdD W (Fd W []) (.sl s n (l.flatMap dE)) (.slice A n c) := by
  rcases DataW.trod_slice hT hf with ⟨hcs, hx⟩ | ⟨a, l, c, elems, rest, m, hm0, hcs, hx, _, hl, hm, hlen, hel, _⟩
  · subst hx
    exact ⟨none, 0, 0, [], [], [], hcs, .inr ⟨rfl, rfl⟩, rfl, rfl, (fun i a d h => by cases h), RdD.nil_ _ _⟩
  · subst hx
    dsimp only at hlt ⊢
    have each : ∀ i, i < l → ∃ (u : α) (es : List Value), (∀ y, elems[i]? = some y → P y.1 u) ∧ RdL W (Fd W []) (dE u) es ∧ es.length = s ∧ ∀ j, j < s → W.cell? ((a.add (i * s)).add j) = es[j]? := by
      intro i hi
      have hE := hel i hi
      rw [hc, List.getElem?_eq_getElem (by omega), Option.bind_eq_some_iff] at hE
      obtain ⟨cs', hcs', hy⟩ := hE
      obtain ⟨u, h1, h2⟩ := he m cs' _ (by omega) hy (fun q hq => hlt q (List.mem_append_right _ (List.mem_flatMap.2 ⟨elems[i]'(by omega), List.mem_append_left _ (List.getElem_mem _), hq⟩)))
      obtain ⟨_, hc1, hc2⟩ := World.cells?_some hcs'
      have hcl : cs'.length = s := by rw [h2.len, hd]
      refine ⟨u, cs', fun y hy2 => ?_, h2, hcl, fun j hj => ?_⟩
      · rw [List.getElem?_eq_getElem (by omega)] at hy2
        injection hy2 with hy2
        subst hy2
        exact h1
      · exact hc2 j (by omega)
    by_cases h0 : l = 0
    · subst h0
      refine ⟨some a, 0, c, [], [], rest.map (·.1), hcs, .inl ?_, rfl, rfl, (fun i a d h => by cases h), RdD.nil_ _ _⟩
      rw [List.eq_nil_of_length_eq_zero hlen]; rfl
    · obtain ⟨b, off, spot⟩ := a
      obtain ⟨u0, es0, _, k2, k3, k4⟩ := each 0 (by omega)
      have hspot : spot = none := by
        have := k4 0 hs
        rw [List.getElem?_eq_getElem (by omega)] at this
        simpa [Addr.add] using World.cell?_spot this
      subst hspot
      have hbW : b < W.heap.size := hlt (.cell b off) (List.mem_append_left _ (MemPlace.mem_row.2 ⟨0, by rw [hc, hlen]; exact Nat.mul_pos (by omega) hs, by simp⟩))
      obtain ⟨ul, us, e1, e2, e3, e4⟩ := rdD_elts (P := fun i u => ∀ y, elems[i]? = some y → P y.1 u) (F := Fd W []) (b := b) (off := off) dE s hd l (fun i hi => by
        obtain ⟨u, es, f1, f2, f3, f4⟩ := each i hi
        refine ⟨u, es, f1, f2, fun j v hv => ?_⟩
        have := f4 j (by have := (List.getElem?_eq_some_iff.1 hv).1; omega)
        rw [Addr.add_lit, Addr.add_lit, hv] at this
        exact this)
      refine ⟨some ⟨b, off, none⟩, l, c, ul, elems.map (·.1), rest.map (·.1), hcs, .inl rfl, e1, by simp [e1, hlen], fun i u d h1 h2 => ?_, ?_⟩
      · rw [List.getElem?_map] at h2
        obtain ⟨y, hy, rfl⟩ := Option.map_eq_some_iff.1 h2
        exact e2 i u h1 y hy
      · refine RdD.sl_iff.2 ⟨_, c, us, rfl, hl, ?_, e3, fun _ => ⟨b, off, rfl, ⟨hbW, by simp⟩, e4⟩⟩
        rw [← e1]
        clear e1 e2 e3 e4
        induction ul with
        | nil => simp
        | cons x ul ih => rw [List.flatMap_cons, List.length_append, ih, hd, List.length_cons, Nat.succ_mul]; omega
theorem bulk_sums {α : Type} (f : α → Nat) : ∀ (ll : List α) (ds : List (DataW H)), ll.length = ds.length → (∀ (i : Nat) (l : α) (d : DataW H), ll[i]? = some l → ds[i]? = some d → f l ≤ Rows.uptoBulk d) → (ll.map f).sum ≤ Rows.uptoBulkAll ds
  | [], ds, h, _ => Nat.zero_le _
  | l :: ll, [], h, _ => by simp at h
  | l :: ll, d :: ds, h, k => by
    have h0 := k 0 l d rfl rfl
    have := bulk_sums f ll ds (by simpa using h) (fun i l' d' h1 h2 => k (i + 1) l' d' (by simpa using h1) (by simpa using h2))
    show _ ≤ Rows.uptoBulk d + Rows.uptoBulkAll ds
    rw [List.map_cons, List.sum_cons]; omega
set_option maxRecDepth 100000 in
theorem bytes_trod {fuel : Nat} {cs : List Value} {x : DataW H × List MemPlace} (hf : DataW.trod enc Try.prog W 0 (fun _ => true) true fuel 22 cs = some x) (hlt : ∀ q ∈ x.2, q.block < W.heap.size) :
    ∃ l u, cs = [u] ∧ RdD W (Fd W []) (dB l) u ∧ l.length + 1 ≤ Rows.uptoBulk x.1 := by
  obtain ⟨A, n, c, l, rfl, hr, hc, _, hb, _⟩ := rd_trod (d := x.1) (p := x.2) hf hlt
  exact ⟨l, _, rfl, RdD.ofbytes hr hc (fun b off _ h => ⟨h, by simp⟩), hb⟩
theorem c1bytes : Program.cellsOf Try.prog 22 = 1 := by kernel_rfl
set_option maxRecDepth 100000 in
/-- Bytes that came in, as data. -/
theorem by_open {base : Nat} {v : Value} {d : DataW H} {p : List MemPlace} (hv : Value.okWide Try.prog W .any base 22 v)
    (h : DataW.Trod enc Try.prog W 0 (fun _ => true) true 22 v d p) : ∃ A n c l, v = .slice A n c ∧ RdD W (Fd W []) (dB l) (.slice A n c) ∧ l.length + 1 ≤ Rows.uptoBulk d := by
  obtain ⟨a0, len, cap, rfl⟩ := okWide_slice Try.underlying22 hv
  have hlt : ∀ x ∈ p, x.block < W.heap.size := by obtain ⟨m, hm⟩ := h; exact DataW.trod_lt m _ _ _ hm
  obtain ⟨fuel, hf⟩ := h
  obtain ⟨l, u, hu, hr, hb⟩ := bytes_trod (x := (d, p)) hf hlt
  simp [Value.cells] at hu
  subst hu
  exact ⟨_, _, _, l, rfl, hr, hb⟩
theorem list2 {α : Type} {l : List α} (h : l.length = 2) : ∃ a b, l = [a, b] := by
  match l, h with
  | [a, b], _ => exact ⟨a, b, rfl⟩
theorem c2pair : Program.cellsOf Try.prog 43 = 2 := by kernel_rfl
set_option maxRecDepth 100000 in
theorem pair_trod (fuel : Nat) (cs : List Value) (x : DataW H × List MemPlace) (hf : DataW.trod enc Try.prog W 0 (fun _ => true) true fuel 43 cs = some x) (hlt : ∀ q ∈ x.2, q.block < W.heap.size) :
    ∃ t : Pr, t.k.length + t.v.length + 3 ≤ Rows.uptoBulk x.1 ∧ RdL W (Fd W []) (dPr t) cs := by
  obtain ⟨xs, n, rfl, rfl, hl, hlen, hfs⟩ := DataW.trod_struct Try.underlying43 hf
  rw [c2pair] at hl
  obtain ⟨a0, a1, rfl⟩ := list2 hl
  obtain ⟨y0, y1, rfl⟩ := list2 (show xs.length = 2 from hlen)
  have h0 : DataW.trod enc Try.prog W 0 (fun _ => true) true n 22 [a0] = some y0 := by have := (show DataW.trod enc Try.prog W 0 (fun _ => true) true n 22 (([a0, a1].drop 0).take (Program.cellsOf Try.prog 22)) = some y0 from hfs 0 _ rfl); rw [c1bytes] at this; exact this
  have h1 : DataW.trod enc Try.prog W 0 (fun _ => true) true n 22 [a1] = some y1 := by have := (show DataW.trod enc Try.prog W 0 (fun _ => true) true n 22 (([a0, a1].drop 1).take (Program.cellsOf Try.prog 22)) = some y1 from hfs 1 _ rfl); rw [c1bytes] at this; exact this
  have hq : ∀ y ∈ [y0, y1], ∀ q ∈ y.2, q.block < W.heap.size := fun y hy q hq => hlt q (List.mem_flatMap.2 ⟨y, hy, hq⟩)
  obtain ⟨k, u0, e0, r0, b0⟩ := bytes_trod h0 (hq y0 (by simp))
  obtain ⟨v, u1, e1, r1, b1⟩ := bytes_trod h1 (hq y1 (by simp))
  injection e0 with e0
  injection e1 with e1
  subst e0; subst e1
  refine ⟨⟨k, v⟩, ?_, RdL.cons r0 (RdL.cons r1 RdL.nil_)⟩
  show k.length + v.length + 3 ≤ Rows.uptoBulk y0.1 + (Rows.uptoBulk y1.1 + 0) + 1
  omega
set_option maxRecDepth 100000 in
/-- A row of pairs that came in. -/
theorem prs_open {base : Nat} {v : Value} {d : DataW H} {p : List MemPlace} (hv : Value.okWide Try.prog W .any base 28 v)
    (h : DataW.Trod enc Try.prog W 0 (fun _ => true) true 28 v d p) : ∃ A n c l, v = .slice A n c ∧ RdD W (Fd W []) (dPl l) (.slice A n c) ∧ (l.map fun t => t.k.length + t.v.length + 3).sum + 1 ≤ Rows.uptoBulk d := by
  obtain ⟨a0, len, cap, rfl⟩ := okWide_slice Try.underlying28 hv
  have hlt : ∀ x ∈ p, x.block < W.heap.size := by obtain ⟨m, hm⟩ := h; exact DataW.trod_lt m _ _ _ hm
  obtain ⟨fuel, hf⟩ := h
  obtain ⟨A, m, c, ks, ds, rest, e4, hd4, l1, l2, hP, r4⟩ := trod_elts (x := (d, p)) dPr 2 (fun _ => rfl) (by decide) (P := fun d (t : Pr) => t.k.length + t.v.length + 3 ≤ Rows.uptoBulk d) Try.underlying28 c2pair hf hlt (fun m cs' y hm hy hyq => pair_trod m cs' y hy hyq)
  simp [Value.cells] at e4
  obtain ⟨rfl, rfl, rfl⟩ := e4
  have hks := bulk_sums (fun t : Pr => t.k.length + t.v.length + 3) ks ds l2 (fun i l d a b => hP i l d a b)
  refine ⟨_, _, _, ks, rfl, by rw [← l1] at r4 ⊢; exact r4, ?_⟩
  dsimp only at hd4
  rcases hd4 with h | ⟨h, e⟩
  · rw [h]
    show _ ≤ Rows.uptoBulkAll ds + Rows.uptoBulkAll rest + 1
    omega
  · rw [h]
    rw [e] at hks
    have : Rows.uptoBulkAll ([] : List (DataW H)) = 0 := rfl
    show _ ≤ 1
    omega
end
end Go.Proofs.Ytkfbkhahkkmcoaa
namespace Go.Proofs.Ytkfbkhahkkmcoaa
open Go.RowKit
section
variable {w W W' : World} {gs : List (Option Nat)} {L : Lc} {R : List Row} {fs : List Fact} {d d' : D} {u u' : Value}
theorem St.callF2 (M : St w gs W L R fs) (hb : Below W.heap.size W W') (h1 : RdD W' (Fr W W') d u) (h2 : RdD W' (Fr W W') d' u') : St w gs W' L R (.dat true [d] [u] :: .dat true [d'] [u'] :: fs) :=
  (M.callF1 hb h2).addT (RdL.one (h1.to fun b hb' => ⟨rfl, hb'.2, fun e => by have := M.olt b e; have := hb'.1; omega, fun _ => Nat.le_trans M.size hb'.1⟩))
theorem St.callFD (M : St w gs W L R fs) (hb : Below W.heap.size W W') {ds : List D} {cs : List Value} (h1 : RdL W' (Fd W' (own L R gs)) ds cs) (h2 : RdD W' (Fr W W') d' u') : St w gs W' L R (.dat false ds cs :: .dat true [d'] [u'] :: fs) :=
  (M.callF1 hb h2).addL h1
theorem missOk.toD {F : Nat → Prop} {m : Option (List UInt8)} {A : Option Addr} {n c : Nat} (h : missOk W F [] m A n c) : RdD W F (dB (m.getD [])) (.slice A n c) := by
  unfold missOk at h
  cases m with
  | none =>
    obtain ⟨rfl, rfl, rfl⟩ := h
    exact RdD.nil_ _ _
  | some r => exact h.2
end
theorem tPut_sz' {t : Nd} {k v : List UInt8} : sz (tPut t k v).1 ≤ sz t + 130 + 2 * k.length + v.length := by
  unfold tPut
  cases htri : tri t k.length v.length with
  | false =>
    have e : sz noneN = 6 := rfl
    rw [if_neg (by decide)]
    show sz noneN ≤ _
    omega
  | true =>
    rw [if_pos rfl]
    cases hm : (putP t (ofB k) v).2 with
    | some r =>
      have e : sz noneN = 6 := rfl
      show sz noneN ≤ _
      omega
    | none =>
      have := sz_put (tri_val htri).1 (ofB k) v (halvesB_ofB k)
      rw [ofB_length] at this
      exact this
theorem tDrop_sz' {t : Nd} {k : List UInt8} : sz (tDrop t k).t ≤ sz t + 6 := by
  have e : sz noneN = 6 := rfl
  unfold tDrop
  rcases tGet_cases t k with ⟨h1, h2⟩ | ⟨htri, ⟨r, h1, h2⟩ | ⟨h1, h2, h3⟩ | ⟨h1, h2, h3⟩⟩
  · rw [h2, if_neg (show ¬ (2 : Int) = 0 by decide)]
    show sz noneN ≤ _; omega
  · rw [h2, if_neg (show ¬ (80 : Int) = 0 by decide)]
    show sz noneN ≤ _; omega
  · rw [h3, if_pos rfl, if_pos rfl]
    have := sz_drop (tri_val htri).1 (ofB k) (halvesB_ofB k) h2
    cases (dropP t (ofB k)).2 with
    | some r => show sz noneN ≤ _; omega
    | none => show sz (dropP t (ofB k)).1 ≤ _; omega
  · rw [h3, if_pos rfl, if_neg (by decide)]
    show sz t ≤ _; omega
end Go.Proofs.Ytkfbkhahkkmcoaa
namespace Go.Proofs.Ytkfbkhahkkmcoaa
open Go.RowKit

theorem of_ok {l : List Pr} {T : Nd × Int} (hT : T = tOf l) (h0 : T.2 = 0) : longPr l = false ∧ Full T.1 ∧ prsT T.1 = risingP l := by
  cases hl : longPr l with
  | true =>
    have : T = (noneN, 2) := hT.trans (of_long l _ hl)
    rw [this] at h0
    exact absurd h0 (by decide)
  | false =>
    obtain ⟨_, h2, h3⟩ := tOf_prs hl
    rw [hT]
    exact ⟨rfl, h2, h3⟩
end Go.Proofs.Ytkfbkhahkkmcoaa
namespace Go.Proofs.Ytkfbkhahkkmcoaa
open Go.RowKit

theorem u_inty : Try.prog.underlying 3 = some (.int .i64) := by kernel_rfl
end Go.Proofs.Ytkfbkhahkkmcoaa
