/- The walks of node.Check and node.Copy. Tries, plainly: what may be; get, put, drop. Reference 07's walks: Same, own, right, Check, Much. The walk of trie.get. Halves of bytes: the walks of what only reads. Halves of bytes: the walks. The walks of trie.right, Get, leaf, along. The walks of slices.Clone of nodes, and of trie.hold. The walk of trie.fork. The walk of trie.put. The walks of trie.Put and behind. The walk of trie.settle. The walk of trie.drop. The walk of trie.drop. The walk of trie.Drop. Tries, plainly: put keeps what may be; what stands where; two that hold the same are one. No walk here. Pairs as data; slices of whatever by a function of the elements. Reference 07's walks: right, Check, Same, Much. -/
import Derived.Test.YtliccofjlheceaaG05
import Derived.Test.YtliccofjlheceaaG04
import Derived.Deep.QuietTactic
import Derived.BigQuiet
import Derived.StillTailTactics
import Derived.Deep.RegionHeld3
import Derived.Deep.RegionLaw
namespace Go.Proofs.Ytliccofjlheceaa
open Go.RowKit
theorem is_ncopy : isFn Try.prog 50 = true := by kernel_rfl
theorem is_ncheck : isFn Try.prog 43 = true := by kernel_rfl
def checkE (t : Nd) : Int := if rightP true t 0 then 0 else 2
set_option maxRecDepth 100000 in
theorem ncheck_any (t : Nd) (ht : sz t ≤ 999999999999) (gs : List (Option Nat)) (w : World) (cs : List Value) (hr : RdL w (Fd w gs) (dN t) cs) (hgs : ∀ b, some b ∈ gs → b < w.heap.size) :
    Calls Try.prog 43 #[.agg cs.toArray] w fun e w' => e = .returned (.int .i64 (checkE t)) ∧ Below w.heap.size w w' := by
  refine calls_ev (args := [.agg cs.toArray]) mixed Try.func43 rfl (by kernel_rfl) ?_
  have hl := hr.len
  rw [dN_len] at hl
  refine v_boxB cs rfl ?_
  rintro g W1 hg hB hb hs1
  subst hg
  refine v_loadN cs agg_nd rfl hl (hB.run 0 _ (fun j v h => by rw [Nat.zero_add]; exact h)) ?_
  refine cc is_nright (nright_any 1000000000000 (by decide) t (by omega) gs W1 cs 0 true (hr.up (Stp.below hb)) (fun b e => by have := hgs b e; have := hb.size; omega) (by decide)) ?_
  rintro e W2 ⟨rfl, b2⟩
  refine ⟨_, rfl, ?_⟩
  have C := hb.trans (b2.mono hb.size)
  refine p_not rfl ?_
  cases h : rightP true t 0 with
  | false => exact ⟨by unfold checkE; rw [h]; rfl, C⟩
  | true => exact ⟨by unfold checkE; rw [h]; rfl, C⟩
/-- What node.Copy answers of this node. -/
def CopyOk (t : Nd) : Prop := ∀ (gs : List (Option Nat)) (w : World) (cs : List Value), RdL w (Fd w gs) (dN t) cs → (∀ b, some b ∈ gs → b < w.heap.size) →
  Calls Try.prog 50 #[.agg cs.toArray] w fun e w' => ∃ cs', e = .returned (.agg cs'.toArray) ∧ RdL w' (Fr w w') (dN t) cs' ∧ Below w.heap.size w w'
/-- And that its kids are a row of the call's own. -/
def CopyRow (t : Nd) : Prop := ∀ (gs : List (Option Nat)) (w : World) (cs : List Value), RdL w (Fd w gs) (dN t) cs → (∀ b, some b ∈ gs → b < w.heap.size) →
  Calls Try.prog 50 #[.agg cs.toArray] w fun e w' => ∃ Ap cp Av cv Ak ck Ah ch xs, e = .returned (.agg (ncs t Ap cp Av cv Ak ck Ah ch).toArray) ∧ w'.ownsRow w.heap.size 38 6 (.slice Ak t.kids.length ck) t.kids.length xs ∧ RdL w' (Fz w.heap.size w' [bk Ak]) (dNs t.kids) xs ∧
    (RdD w' (Fz w.heap.size w' [bk Ak]) (dB t.path) (.slice Ap t.path.length cp) ∧ RdD w' (Fz w.heap.size w' [bk Ak]) (dB t.val) (.slice Av t.val.length cv) ∧ RdD w' (Fz w.heap.size w' [bk Ak]) (dB t.hash) (.slice Ah t.hash.length ch)) ∧ Below w.heap.size w w'
theorem CopyRow.ok {t : Nd} (h : CopyRow t) : CopyOk t := fun gs w cs hr hgs => (h gs w cs hr hgs).mono fun e w' ⟨Ap, cp, Av, cv, Ak, ck, Ah, ch, xs, he, hrow, hxs, ⟨h1, h2, h3⟩, hb⟩ =>
  ⟨_, he, RdL.ofnode (h1.to fun b q => ⟨rfl, q.1, q.2.1, q.2.2.2⟩) (h2.to fun b q => ⟨rfl, q.1, q.2.1, q.2.2.2⟩) (rdD_row hrow (hxs.to fun b q => ⟨rfl, q.1, q.2.1, q.2.2.2⟩) fun b q1 q2 q3 => ⟨q1, q2, row_thaw hrow (by rw [← own_bk]; exact q3)⟩) (h3.to fun b q => ⟨rfl, q.1, q.2.1, q.2.2.2⟩), hb⟩
theorem inf_nd : (Try.prog.info? 38).map (fun i => (i.zero, i.size, i.bytes)) = some (some (.agg #[.int .i64 0, .slice none 0 0, .bool false, .slice none 0 0, .slice none 0 0, .slice none 0 0]), 6, 112) := by kernel_rfl
theorem sz_ns : (Try.prog.info? 36).map (·.size) = some 1 := by kernel_rfl
def zN : List Value := [.int .i64 0, .slice none 0 0, .bool false, .slice none 0 0, .slice none 0 0, .slice none 0 0]
theorem pl_nd : placesOf Try.prog 38 = some [(0, 1), (1, 1), (2, 1), (3, 1), (4, 1), (5, 1)] := by kernel_rfl
theorem z_nd : zeroOf Try.prog 38 = some zN := by kernel_rfl
def schCopy : Sch := .take 0 (.take 1 (.take 2 (.take 3 (.take 4 (.take 5 (.take 7 (.take 8 (.take 10 (.take 11 (.two 6 (.two 9 (.two 12 (.take 13 (.one 14 .nil)) 14 (.one 12 (.take 13 .nil))) 14 (.one 9 (.one 12 (.take 13 .nil)))) 14 (.one 6 (.one 9 (.one 12 (.take 13 .nil))))))))))))))
set_option maxRecDepth 100000 in
set_option maxHeartbeats 1000000 in
theorem ncopyR_step (N : Nat) (ih : ∀ k : Nd, sz k < N → CopyOk k) (t : Nd) (ht : sz t ≤ N) (hN : N ≤ 100000000) : CopyRow t := by
  intro gs w cs hr hgs
  refine calls_ev (args := [.agg cs.toArray]) mixed Try.func50 rfl (by kernel_rfl) ?_
  obtain ⟨Ap, cp, Av, cv, Ak, ck, Ah, ch, rfl, r1, r3, r4, r5⟩ := hr.node
  have hsz := sz_eq t
  have hsl := szs_len t.kids
  refine v_boxB (ncs t Ap cp Av cv Ak ck Ah ch) rfl ?_
  rintro g1 W1 hg1 hB1 hb1 hs1
  refine v_allocB zN al_nd ?_
  rintro g2 W2 hg2 hB2 hb2 hs2
  rw [hg1] at hb1
  rw [hg2] at hb2
  have A2 : At w W2 (some g2 :: gs) := ((At.start hgs).call hb1).new hb2 (fun b e => by injection e with e; omega)
  have s2 : Stp w gs W2 (some g2 :: gs) := (Stp.below hb1).trans (Stp.new hb2 (fun b e => by injection e with e; omega))
  have hF1 : FB W2 (some g2 :: gs) g1 38 (ncs t Ap cp Av cv Ak ck Ah ch) := FB.up (gs := gs) (FB.new hB1 hgs (by omega)) (Stp.new hb2 (fun b e => by injection e with e; omega))
  replace r1 := r1.up s2
  replace r3 := r3.up s2
  replace r4 := r4.up s2
  replace r5 := r5.up s2
  have hd2 : Stp W2 (some g2 :: gs) W2.drew (some g2 :: gs) := Stp.drew
  replace A2 := A2.drew
  replace hF1 := hF1.up hd2
  replace hB2 : Blk W2.drew g2 38 zN := hB2
  replace r1 := r1.up hd2
  replace r3 := r3.up hd2
  replace r4 := r4.up hd2
  replace r5 := r5.up hd2
  have hs2' : W2.drew.heap.size = g2 + 1 := hs2
  clear hB1 s2 hd2 hr
  refine drT (fun W => Blk W g1 38 (ncs t Ap cp Av cv Ak ck Ah ch)) (Sch.graft schCopy (.one 15 .nil)) (by kernel_rfl) hF1.blk ?_
  refine cutT (Option Addr × Nat × Option Addr × Nat × Option Addr × Nat × Nat) (fun s W => At w W (some s.2.2.2.2.2.2 :: some g2 :: gs) ∧ Stp W2.drew (some g2 :: gs) W (some s.2.2.2.2.2.2 :: some g2 :: gs) ∧ RdD W (Fz w.heap.size W (some s.2.2.2.2.2.2 :: some g2 :: gs)) (dB t.path) (.slice s.1 t.path.length s.2.1) ∧ RdD W (Fz w.heap.size W (some s.2.2.2.2.2.2 :: some g2 :: gs)) (dB t.val) (.slice s.2.2.1 t.val.length s.2.2.2.1) ∧
      RdD W (Fz w.heap.size W (some s.2.2.2.2.2.2 :: some g2 :: gs)) (dB t.hash) (.slice s.2.2.2.2.1 t.hash.length s.2.2.2.2.2.1) ∧ Blk W s.2.2.2.2.2.2 38 zN ∧ Blk W g2 38 zN ∧ W2.heap.size ≤ s.2.2.2.2.2.2 ∧ Blk W g1 38 (ncs t Ap cp Av cv Ak ck Ah ch))
    (fun s => [(1, .pointer (some ⟨g1, 0, none⟩)), (2, .pointer (some ⟨g2, 0, none⟩)), (3, .pointer (some ⟨s.2.2.2.2.2.2, 0, none⟩)), (19, .agg #[.int .i64 t.kind, .slice s.1 t.path.length s.2.1, .bool t.has, .slice s.2.2.1 t.val.length s.2.2.2.1, .slice none 0 0, .slice s.2.2.2.2.1 t.hash.length s.2.2.2.2.2.1])]) ?_ ?_
  · refine p_fld fN0 rfl ?_
    refine t_load agg_int rfl (fun W h => Blk.at_ h rfl) ?_
    refine p_fld fN2 rfl ?_
    refine t_load agg_bo rfl (fun W h => Blk.at_ h rfl) ?_
    refine p_fld fN1 rfl ?_
    refine t_load agg_b rfl (fun W h => Blk.at_ h rfl) ?_
    refine p_fld fN3 rfl ?_
    refine t_load agg_b rfl (fun W h => Blk.at_ h rfl) ?_
    refine p_fld fN5 rfl ?_
    refine t_load agg_b rfl (fun W h => Blk.at_ h rfl) ?_
    revert A2 hF1 hB2 r1 r3 r4 r5 hs2'
    generalize W2.drew = Wd
    intro A2 hF1 hB2 r1 r3 r4 r5 hs2'
    have S : Stp Wd (some g2 :: gs) Wd (some g2 :: gs) := Stp.refl
    refine ⟨?_, ?_⟩
    ·
      refine cc is_bclone (bclone_any _ Ap t.path.length cp t.path _ (r1.up S) (by omega)) ?_
      rintro e Wn ⟨A6, c6, rfl, ox, -, bx⟩
      try replace P := P.upz (Stp.below bx)
      try replace V := V.upz (Stp.below bx)
      have P := ox.zb A2.size A2.lt
      replace A2 := A2.call bx
      replace S := S.trans (Stp.below bx)
      replace hF1 := hF1.up (Stp.below bx)
      replace hB2 := hB2.below bx
      try replace hB3 := hB3.below bx
      refine ⟨_, rfl, hF1.blk, ?_⟩
      clear ox bx
      refine ⟨?_, ?_⟩
      ·
        refine cc is_bclone (bclone_any _ Av t.val.length cv t.val _ (r3.up S) (by omega)) ?_
        rintro e Wn ⟨A9, c9, rfl, ox, -, bx⟩
        try replace P := P.upz (Stp.below bx)
        try replace V := V.upz (Stp.below bx)
        have V := ox.zb A2.size A2.lt
        replace A2 := A2.call bx
        replace S := S.trans (Stp.below bx)
        replace hF1 := hF1.up (Stp.below bx)
        replace hB2 := hB2.below bx
        try replace hB3 := hB3.below bx
        refine ⟨_, rfl, hF1.blk, ?_⟩
        clear ox bx
        refine ⟨?_, ?_⟩
        ·
          refine cc is_bclone (bclone_any _ Ah t.hash.length ch t.hash _ (r5.up S) (by omega)) ?_
          rintro e Wn ⟨A12, c12, rfl, ox, -, bx⟩
          try replace P := P.upz (Stp.below bx)
          try replace V := V.upz (Stp.below bx)
          have H := ox.zb A2.size A2.lt
          replace A2 := A2.call bx
          replace S := S.trans (Stp.below bx)
          replace hF1 := hF1.up (Stp.below bx)
          replace hB2 := hB2.below bx
          try replace hB3 := hB3.below bx
          refine ⟨_, rfl, hF1.blk, ?_⟩
          clear ox bx
          refine p_build (vs := [.int .i64 t.kind, .slice A6 t.path.length c6, .bool t.has, .slice A9 t.val.length c9, .slice none 0 0, .slice A12 t.hash.length c12]) pl_nd z_nd rfl ?_
          refine v_allocB zN al_nd ?_
          rintro g3 Wn hg3 hB3 b3 hs3
          rw [hg3] at b3
          have hgl := S.size
          have St := Stp.new (gs := some g2 :: gs) (g := some g3) b3 (fun b e => by injection e with e; omega)
          replace A2 := A2.new b3 (g := some g3) (fun b e => by injection e with e; omega)
          replace S := S.trans St
          replace hF1 := hF1.up St
          replace hB2 := hB2.below b3
          try replace P := P.upz St
          try replace V := V.upz St
          try replace H := H.upz St
          refine ⟨hF1.blk, ?_⟩
          exact ⟨(A6, c6, A9, c9, A12, c12, g3), ⟨A2, S, P, V, H, hB3, hB2, by dsimp only; omega, hF1.blk⟩, ⟨rfl, rfl, rfl, rfl, trivial⟩⟩
        ·
          refine v_allocB zN al_nd ?_
          rintro g3 Wn hg3 hB3 b3 hs3
          rw [hg3] at b3
          have hgl := S.size
          have St := Stp.new (gs := some g2 :: gs) (g := some g3) b3 (fun b e => by injection e with e; omega)
          replace A2 := A2.new b3 (g := some g3) (fun b e => by injection e with e; omega)
          replace S := S.trans St
          replace hF1 := hF1.up St
          replace hB2 := hB2.below b3
          try replace P := P.upz St
          try replace V := V.upz St
          try replace H := H.upz St
          refine ⟨hF1.blk, ?_⟩
          refine cc is_bclone (bclone_any _ Ah t.hash.length ch t.hash _ (r5.up S) (by omega)) ?_
          rintro e Wn ⟨A12, c12, rfl, ox, -, bx⟩
          try replace P := P.upz (Stp.below bx)
          try replace V := V.upz (Stp.below bx)
          have H := ox.zb A2.size A2.lt
          replace A2 := A2.call bx
          replace S := S.trans (Stp.below bx)
          replace hF1 := hF1.up (Stp.below bx)
          replace hB2 := hB2.below bx
          try replace hB3 := hB3.below bx
          refine ⟨_, rfl, hF1.blk, ?_⟩
          clear ox bx
          refine p_build (vs := [.int .i64 t.kind, .slice A6 t.path.length c6, .bool t.has, .slice A9 t.val.length c9, .slice none 0 0, .slice A12 t.hash.length c12]) pl_nd z_nd rfl ?_
          exact ⟨(A6, c6, A9, c9, A12, c12, g3), ⟨A2, S, P, V, H, hB3, hB2, by dsimp only; omega, hF1.blk⟩, ⟨rfl, rfl, rfl, rfl, trivial⟩⟩
      ·
        refine v_allocB zN al_nd ?_
        rintro g3 Wn hg3 hB3 b3 hs3
        rw [hg3] at b3
        have hgl := S.size
        have St := Stp.new (gs := some g2 :: gs) (g := some g3) b3 (fun b e => by injection e with e; omega)
        replace A2 := A2.new b3 (g := some g3) (fun b e => by injection e with e; omega)
        replace S := S.trans St
        replace hF1 := hF1.up St
        replace hB2 := hB2.below b3
        try replace P := P.upz St
        try replace V := V.upz St
        try replace H := H.upz St
        refine ⟨hF1.blk, ?_⟩
        refine cc is_bclone (bclone_any _ Av t.val.length cv t.val _ (r3.up S) (by omega)) ?_
        rintro e Wn ⟨A9, c9, rfl, ox, -, bx⟩
        try replace P := P.upz (Stp.below bx)
        try replace V := V.upz (Stp.below bx)
        have V := ox.zb A2.size A2.lt
        replace A2 := A2.call bx
        replace S := S.trans (Stp.below bx)
        replace hF1 := hF1.up (Stp.below bx)
        replace hB2 := hB2.below bx
        try replace hB3 := hB3.below bx
        refine ⟨_, rfl, hF1.blk, ?_⟩
        clear ox bx
        refine cc is_bclone (bclone_any _ Ah t.hash.length ch t.hash _ (r5.up S) (by omega)) ?_
        rintro e Wn ⟨A12, c12, rfl, ox, -, bx⟩
        try replace P := P.upz (Stp.below bx)
        try replace V := V.upz (Stp.below bx)
        have H := ox.zb A2.size A2.lt
        replace A2 := A2.call bx
        replace S := S.trans (Stp.below bx)
        replace hF1 := hF1.up (Stp.below bx)
        replace hB2 := hB2.below bx
        try replace hB3 := hB3.below bx
        refine ⟨_, rfl, hF1.blk, ?_⟩
        clear ox bx
        refine p_build (vs := [.int .i64 t.kind, .slice A6 t.path.length c6, .bool t.has, .slice A9 t.val.length c9, .slice none 0 0, .slice A12 t.hash.length c12]) pl_nd z_nd rfl ?_
        exact ⟨(A6, c6, A9, c9, A12, c12, g3), ⟨A2, S, P, V, H, hB3, hB2, by dsimp only; omega, hF1.blk⟩, ⟨rfl, rfl, rfl, rfl, trivial⟩⟩
    ·
      refine v_allocB zN al_nd ?_
      rintro g3 Wn hg3 hB3 b3 hs3
      rw [hg3] at b3
      have hgl := S.size
      have St := Stp.new (gs := some g2 :: gs) (g := some g3) b3 (fun b e => by injection e with e; omega)
      replace A2 := A2.new b3 (g := some g3) (fun b e => by injection e with e; omega)
      replace S := S.trans St
      replace hF1 := hF1.up St
      replace hB2 := hB2.below b3
      try replace P := P.upz St
      try replace V := V.upz St
      try replace H := H.upz St
      refine ⟨hF1.blk, ?_⟩
      refine cc is_bclone (bclone_any _ Ap t.path.length cp t.path _ (r1.up S) (by omega)) ?_
      rintro e Wn ⟨A6, c6, rfl, ox, -, bx⟩
      try replace P := P.upz (Stp.below bx)
      try replace V := V.upz (Stp.below bx)
      have P := ox.zb A2.size A2.lt
      replace A2 := A2.call bx
      replace S := S.trans (Stp.below bx)
      replace hF1 := hF1.up (Stp.below bx)
      replace hB2 := hB2.below bx
      try replace hB3 := hB3.below bx
      refine ⟨_, rfl, hF1.blk, ?_⟩
      clear ox bx
      refine cc is_bclone (bclone_any _ Av t.val.length cv t.val _ (r3.up S) (by omega)) ?_
      rintro e Wn ⟨A9, c9, rfl, ox, -, bx⟩
      try replace P := P.upz (Stp.below bx)
      try replace V := V.upz (Stp.below bx)
      have V := ox.zb A2.size A2.lt
      replace A2 := A2.call bx
      replace S := S.trans (Stp.below bx)
      replace hF1 := hF1.up (Stp.below bx)
      replace hB2 := hB2.below bx
      try replace hB3 := hB3.below bx
      refine ⟨_, rfl, hF1.blk, ?_⟩
      clear ox bx
      refine cc is_bclone (bclone_any _ Ah t.hash.length ch t.hash _ (r5.up S) (by omega)) ?_
      rintro e Wn ⟨A12, c12, rfl, ox, -, bx⟩
      try replace P := P.upz (Stp.below bx)
      try replace V := V.upz (Stp.below bx)
      have H := ox.zb A2.size A2.lt
      replace A2 := A2.call bx
      replace S := S.trans (Stp.below bx)
      replace hF1 := hF1.up (Stp.below bx)
      replace hB2 := hB2.below bx
      try replace hB3 := hB3.below bx
      refine ⟨_, rfl, hF1.blk, ?_⟩
      clear ox bx
      refine p_build (vs := [.int .i64 t.kind, .slice A6 t.path.length c6, .bool t.has, .slice A9 t.val.length c9, .slice none 0 0, .slice A12 t.hash.length c12]) pl_nd z_nd rfl ?_
      exact ⟨(A6, c6, A9, c9, A12, c12, g3), ⟨A2, S, P, V, H, hB3, hB2, by dsimp only; omega, hF1.blk⟩, ⟨rfl, rfl, rfl, rfl, trivial⟩⟩
  · rintro ⟨A6, c6, A9, c9, A12, c12, g3⟩ B3 W3 ⟨A3, s3, P, V, H, hB3, hBz, hg3, hBb⟩
    dsimp only at A3 s3 P V H hB3 hg3
    have h23 : g2 < g3 := by have : W2.drew.heap.size = W2.heap.size := rfl; omega
    have h3l := hB3.lt
    have hwg2 : w.heap.size ≤ g2 := by have := hb1.size; omega
    refine v_storeA [.int .i64 t.kind, .slice A6 t.path.length c6, .bool t.has, .slice A9 t.val.length c9, .slice none 0 0, .slice A12 t.hash.length c12] sz_nd rfl rfl rfl (by intro u hu; simp at hu; rcases hu with rfl | rfl | rfl | rfl | rfl | rfl <;> rfl) hB3 rfl ?_
    rintro W4 hB4 hg4 hs4
    dsimp only at hB4 hg4
    have St4 : Stp W3 (some g3 :: some g2 :: gs) W4 (none :: some g3 :: some g2 :: gs) := (Stp.wrote hg4 (by simp)).trans (Stp.new (Below.refl _ _) (fun b e => by cases e))
    have A4 : At w W4 (none :: some g3 :: some g2 :: gs) := (A3.wrote hg4 (fun b e => by injection e with e; omega)).new (Below.refl _ _) (fun b e => by cases e)
    have s4 := s3.trans St4
    have hBz4 := hBz.grownN hg4 (by omega)
    have hBb4 := hBb.grownN hg4 (by have := hF1.blk.lt; omega)
    replace P := P.upz St4
    replace V := V.upz St4
    replace H := H.upz St4
    clear A3 s3 hB3 hBz hBb
    refine ⟨hBb4, ?_⟩
    refine p_fld fN4 rfl ?_
    refine v_load agg_ns rfl (hBb4.at_ rfl) ?_
    refine p_len sln rfl ?_
    refine lp (Nat × Option Addr × Nat) (fun s W => s.1 ≤ t.kids.length ∧ At w W (bk s.2.1 :: some g3 :: some g2 :: gs) ∧ Stp W2.drew (some g2 :: gs) W (bk s.2.1 :: some g3 :: some g2 :: gs) ∧ (RdD W (Fz w.heap.size W (bk s.2.1 :: some g3 :: some g2 :: gs)) (dB t.path) (.slice A6 t.path.length c6) ∧ RdD W (Fz w.heap.size W (bk s.2.1 :: some g3 :: some g2 :: gs)) (dB t.val) (.slice A9 t.val.length c9) ∧ RdD W (Fz w.heap.size W (bk s.2.1 :: some g3 :: some g2 :: gs)) (dB t.hash) (.slice A12 t.hash.length c12)) ∧
        (∃ xs, W.ownsRow w.heap.size 38 6 (.slice s.2.1 s.1 s.2.2) s.1 xs ∧ RdL W (Fz w.heap.size W (bk s.2.1 :: some g3 :: some g2 :: gs)) (dNs (t.kids.take s.1)) xs) ∧ (∀ b, bk s.2.1 = some b → g3 < b) ∧ Blk W g3 38 [.int .i64 t.kind, .slice A6 t.path.length c6, .bool t.has, .slice A9 t.val.length c9, .slice s.2.1 s.1 s.2.2, .slice A12 t.hash.length c12] ∧ Blk W g2 38 zN)
      (fun s => [(2, .pointer (some ⟨g2, 0, none⟩)), (3, .pointer (some ⟨g3, 0, none⟩)), (21, .slice Ak t.kids.length ck), (22, .int .i64 t.kids.length), (23, .int .i64 s.1)]) (fun s => t.kids.length - s.1) (0, none, 0)
      ⟨Nat.zero_le _, A4, s4, ⟨P, V, H⟩, ⟨[], World.ownsRow_nil _ _ _ _, RdL.nil_⟩, fun b e => (by cases e), hB4, hBz4⟩ ⟨rfl, rfl, rfl, rfl, rfl, trivial⟩ ?_
    clear P V H A4 s4 hB4 hBz4 hBb4 St4 hg4
    rintro ⟨i, A5, c5⟩ E5 W5 ⟨hi, A5', s5, ⟨P, V, H⟩, ⟨xs, hrow, hxs⟩, hAb, hB5, hBz⟩
    dsimp only at hi A5' s5 P V H hrow hxs hAb hB5
    refine p_lt rfl rfl (fun hlt => ?_) (fun hge => ?_)
    · obtain ⟨k, hki⟩ : ∃ k, t.kids[i]? = some k := ⟨_, List.getElem?_eq_getElem (by omega)⟩
      have hkm := List.mem_of_getElem? hki
      have hkz := szs_mem hkm
      obtain ⟨b, off, es, rfl, hF, hes, hel, hc⟩ := (r4.up s5).kid hki
      refine p_at sln rfl rfl rfl (by omega) ?_
      refine v_loadN es agg_nd rfl hel hc ?_
      refine v_allocB _ al_nd ?_
      rintro g6 W6 hg6 hB6 hb6 hs6
      refine v_storeA es sz_nd rfl rfl hel (hes.ones (dN_one k)) hB6 rfl ?_
      rintro W7 hB7 hg7 hs7
      rw [hg6] at hb6
      have hb7 : Below W5.heap.size W5 W7 := hb6.grown hg7 (by omega) (fun q hq => by injection hq with hq; omega)
      have hlt3 := hB5.lt
      have hB5' := (hB5.below hb7).drew
      have bd : Below W5.heap.size W5 W7.drew := hb7.drew
      refine drZ 7 (fun W => Blk W g3 38 [.int .i64 t.kind, .slice A6 t.path.length c6, .bool t.has, .slice A9 t.val.length c9, .slice A5 i c5, .slice A12 t.hash.length c12] ∧ Blk W g6 38 es) [(0, true), (1, true), (2, true), (3, false), (4, false), (5, false), (6, true)] (by kernel_rfl) ⟨hB5', hB7.drew⟩ ?_
      refine p_fld fN4 rfl ?_
      refine t_load agg_ns rfl (fun W h => Blk.at_ h.1 rfl) ?_
      refine t_loadN es agg_nd rfl hel (fun W h => Blk.run h.2 0 es (fun j v h => by rw [Nat.zero_add]; exact h)) ?_
      have s7 : Stp W5 (bk A5 :: some g3 :: some g2 :: gs) W7.drew (bk A5 :: some g3 :: some g2 :: gs) := Stp.below bd
      have A7 := A5'.call bd
      refine cc is_ncopy (ih k (by omega) _ W7.drew es (hes.up s7) A7.lt) ?_
      rintro e W8 ⟨es', rfl, hes', b8⟩
      have A8 := A7.call b8
      have hes8 := hes'.zfr A7.size A7.lt
      have s8 := s7.trans (Stp.below b8)
      refine ⟨_, rfl, ⟨hB5'.below b8, hB7.drew.below b8⟩, ?_⟩
      obtain ⟨Ap', cp', Av', cv', Ak', ck', Ah', ch', rfl, _⟩ := hes8.node
      refine v_bslice (vs := ncs k Ap' cp' Av' cv' Ak' ck' Ah' ch') sln z_nd rfl (by decide) rfl ?_
      rintro g9 W9 hg9 hB9 hb9 hs9
      rw [hg9] at hb9
      have A9' := A8.call hb9
      have s9 := s8.trans (Stp.below hb9)
      have hB59 := (hB5'.below b8).below hb9
      have hB79 := (hB7.drew.below b8).below hb9
      have hrow9 := ownsRow_below (ownsRow_below (ownsRow_below hrow bd) b8) hb9
      refine ⟨⟨hB59, hB79⟩, ?_⟩
      have hkl : dNs (t.kids.take (i + 1)) = dNs (t.kids.take i) ++ dN k := by
        rw [show t.kids.take (i + 1) = t.kids.take i ++ [k] by rw [List.take_add_one, hki]; rfl, dNs_app, dNs, dNs, List.append_nil]
      refine v_appR Try.underlying36 inf_nd rfl (by decide) rfl hrow9 rfl (Reads.blk (size := 6) (n := 1) hB9 rfl) (ncs_one k Ap' cp' Av' cv' Ak' ck' Ah' ch') ⟨by omega, by decide⟩ A9' ?_
      rintro A10 c10 W10 hrow10 St10 A10' - hg10 hb10
      have h3ne : bk A5 ≠ some g3 := fun e => by have := hAb g3 e; omega
      have h6ne : bk A5 ≠ some g6 := fun e => by have := A5'.lt g6 (by rw [e]; simp); omega
      have hB510 := hB59.grown hg10 (fun e => h3ne e)
      have hB710 := hB79.grown hg10 (fun e => h6ne e)
      have hl9 : W5.heap.size ≤ W9.heap.size := by have := s9.size; omega
      have hAb10 : ∀ b, bk A10 = some b → g3 < b := fun b e => by
        rcases hb10 b e with h | h
        · exact hAb b h
        · have := hB59.lt; omega
      have hBz10 := ((((hBz.below bd).below b8).below hb9)).grown hg10 (fun e => by have := hAb g2 e; omega)
      refine ⟨⟨hB510, hB710⟩, ?_⟩
      refine p_fld fN4 rfl ?_
      refine v_set (.slice A10 (i + 1) c10) sz_ns hB510 rfl rfl rfl (by show 4 < 6; decide) ?_
      rintro W11 hB11 hg11 hs11
      have s10 := s9.trans St10
      have St11 : Stp W10 (bk A10 :: some g3 :: some g2 :: gs) W11 (bk A10 :: some g3 :: some g2 :: gs) := Stp.wrote hg11 (by simp)
      have s11 := s10.trans St11
      refine p_add rfl rfl (r := ((i + 1 : Nat) : Int)) ((w64 (by omega)).trans (by omega)) ?_
      refine ⟨(i + 1, A10, c10), ⟨by dsimp only; omega, A10'.wrote hg11 (fun b e => by injection e with e; omega), s5.trans s11, ⟨P.upz s11, V.upz s11, H.upz s11⟩, ⟨_, row_kept' hrow10 hg11 (.inr (fun e => by have := hAb10 g3 e; omega)), ?_⟩, hAb10, hB11, hBz10.grownN hg11 (by omega)⟩, ⟨rfl, rfl, rfl, rfl, rfl, trivial⟩, by dsimp only; omega⟩
      dsimp only
      rw [hkl]
      exact (hxs.upz s11).app (((hes8.upz (Stp.below hb9)).upz St10).upz St11)
    · have hin : i = t.kids.length := by omega
      rw [List.take_of_length_le (by omega)] at hxs
      have hi' := hi
      subst hin
      refine v_loadN [.int .i64 t.kind, .slice A6 t.path.length c6, .bool t.has, .slice A9 t.val.length c9, .slice A5 t.kids.length c5, .slice A12 t.hash.length c12] agg_nd rfl rfl (hB5.run 0 _ (fun j v h => by rw [Nat.zero_add]; exact h)) ?_
      refine v_storeA [.int .i64 t.kind, .slice A6 t.path.length c6, .bool t.has, .slice A9 t.val.length c9, .slice A5 t.kids.length c5, .slice A12 t.hash.length c12] sz_nd rfl rfl rfl (by intro u hu; simp at hu; rcases hu with rfl | rfl | rfl | rfl | rfl | rfl <;> rfl) hBz rfl ?_
      rintro W6 hB6 hg6 hs6
      have St6 : Stp W5 (bk A5 :: some g3 :: some g2 :: gs) W6 (bk A5 :: some g3 :: some g2 :: gs) := Stp.wrote hg6 (by simp)
      refine c_loadN [.int .i64 t.kind, .slice A6 t.path.length c6, .bool t.has, .slice A9 t.val.length c9, .slice A5 t.kids.length c5, .slice A12 t.hash.length c12] agg_nd rfl rfl (hB6.run 0 _ (fun j v h => by rw [Nat.zero_add]; exact h)) ?_
      have hg3A : bk A5 ≠ some g2 := fun e => by have := hAb g2 e; omega
      have hw : ∀ b, Fz w.heap.size W6 (bk A5 :: some g3 :: some g2 :: gs) b → W6.heap[b]? = W6.heap[b]? ∧ Fz w.heap.size W6 [bk A5] b := fun b q => ⟨rfl, q.1, q.2.1, fun e => q.2.2.1 (by rw [List.mem_singleton.1 e]; exact List.mem_cons_self ..), q.2.2.2⟩
      exact ⟨A6, c6, A9, c9, A5, c5, A12, c12, xs, rfl, row_kept' hrow hg6 (.inr hg3A), (hxs.upz St6).to hw, ⟨(P.upz St6).to hw, (V.upz St6).to hw, (H.upz St6).to hw⟩, (A5'.wrote hg6 (fun b e => by injection e with e; omega)).below⟩
theorem ncopy_step (N : Nat) (ih : ∀ k : Nd, sz k < N → CopyOk k) (t : Nd) (ht : sz t ≤ N) (hN : N ≤ 100000000) : CopyOk t := (ncopyR_step N ih t ht hN).ok
theorem ncopy_any : ∀ (N : Nat), N ≤ 100000000 → ∀ t : Nd, sz t < N → CopyOk t
  | 0, _, t, h => by omega
  | N + 1, hN, t, h => ncopy_step N (fun k hk => ncopy_any N (by omega) k hk) t (by omega) (by omega)
end Go.Proofs.Ytliccofjlheceaa
namespace Go.Proofs.Ytliccofjlheceaa
theorem rightsP_all {even : Bool} {d : Nat} : ∀ {ks : List Nd}, rightsP even ks d = true → ∀ k ∈ ks, rightP even k d = true
  | [], _, k, h => by cases h
  | x :: ks, hr, k, h => by
    rw [rightsP, Bool.and_eq_true] at hr
    rcases List.mem_cons.1 h with rfl | h
    · exact hr.1
    · exact rightsP_all hr.2 k h
/-- The kinds of nodes that may be. -/
inductive Val (even : Bool) : Nd → Nat → Prop
  | none (d : Nat) (hd : d ≤ 400) : Val even noneN d
  | leaf (d : Nat) (p v : List UInt8) (hd : d ≤ 400) (hp : halvesB p = true) (hv : v.length ≤ 4000) (he : endsP (d + p.length) even = true) : Val even (.mk 1 p false v [] []) d
  | stub (d : Nat) (h : List UInt8) (hd : d ≤ 400) (hh : h.length = 32) : Val even (.mk 4 [] false [] [] h) d
  | way (d : Nat) (p : List UInt8) (k : Nd) (hd : d ≤ 400) (hp : halvesB p = true) (h0 : p ≠ []) (hk : k.kind = 3 ∨ k.kind = 4) (hr : Val even k (d + p.length)) : Val even (.mk 2 p false [] [k] []) d
  | branch (d : Nat) (has : Bool) (v : List UInt8) (ks : List Nd) (hd : d ≤ 400) (hv : v.length ≤ 4000) (hv0 : has = true ∨ v = []) (he : has = true → endsP d even = true) (h16 : ks.length = 16) (hr : ∀ k ∈ ks, Val even k (d + 1)) (hm : 2 ≤ (if has then 1 else 0) + manyN ks) : Val even (.mk 3 [] has v ks []) d
theorem nil_of_len {α : Type} {l : List α} (h : l.length = 0) : l = [] := List.eq_nil_of_length_eq_zero h
theorem val_of_right (even : Bool) : ∀ (N : Nat) (t : Nd) (d : Nat), sz t < N → rightP even t d = true → Val even t d
  | 0, t, d, h, _ => by omega
  | N + 1, t, d, hN, h => by
    have hsz := sz_eq t
    rw [rightP_eq] at h
    obtain ⟨k, p, has, v, ks, hs⟩ := t
    simp only [Nd.kind, Nd.path, Nd.has, Nd.val, Nd.kids, Nd.hash] at h hsz
    unfold ownP at h
    simp only [Bool.and_eq_true, decide_eq_true_eq] at h
    obtain ⟨hd, hv, hp, h⟩ := h
    by_cases h0 : k = 0
    · rw [if_pos h0] at h
      have h := of_decide_eq_true h
      obtain ⟨e1, e2, e3, e4, e5⟩ := h
      rw [nil_of_len e1, nil_of_len e2, nil_of_len e3, nil_of_len e4, e5, h0]
      exact .none d hd
    rw [if_neg h0] at h
    by_cases h1 : k = 1
    · rw [if_pos h1] at h
      simp only [Bool.and_eq_true, decide_eq_true_eq] at h
      obtain ⟨⟨e3, e4, e5⟩, he⟩ := h
      rw [nil_of_len e3, nil_of_len e4, e5, h1]
      exact .leaf d p v hd hp hv he
    rw [if_neg h1] at h
    by_cases h4 : k = 4
    · rw [if_pos h4] at h
      have h := of_decide_eq_true h
      obtain ⟨e1, e2, e3, e5, e6⟩ := h
      rw [nil_of_len e1, nil_of_len e2, nil_of_len e3, e5, h4]
      exact .stub d hs hd e6
    rw [if_neg h4] at h
    by_cases h2 : k = 2
    · rw [if_pos h2] at h
      simp only [Bool.and_eq_true, decide_eq_true_eq] at h
      obtain ⟨⟨e2, e4, e5, e1, e3⟩, hk, hr⟩ := h
      match ks, e3 with
      | [k0], _ =>
        rw [rightsP, rightsP, Bool.and_true] at hr
        have hz : szs [k0] = sz k0 := by rw [szs, szs]; omega
        rw [nil_of_len e2, nil_of_len e4, e5, h2]
        refine .way d p k0 hd hp (fun e => e1 (by rw [e]; rfl)) ?_ (val_of_right even N k0 _ (by omega) hr)
        unfold kindsB at hk
        rw [List.all_cons, Bool.and_eq_true, decide_eq_true_eq] at hk
        exact hk.1
    rw [if_neg h2] at h
    by_cases h3 : k = 3
    · rw [if_pos h3] at h
      simp only [Bool.and_eq_true, decide_eq_true_eq, Bool.or_eq_true, Bool.not_eq_true'] at h
      obtain ⟨⟨e1, e4, e5⟩, he, h16, hr, hm⟩ := h
      rw [nil_of_len e1, nil_of_len e4, h3]
      refine .branch d has v ks hd hv (e5.imp id nil_of_len) (fun e => by rcases he with he | he; rw [e] at he; cases he; exact he) h16 (fun k hk => val_of_right even N k _ (by have := szs_mem hk; omega) (rightsP_all hr k hk)) hm
    · rw [if_neg h3] at h; cases h
/-- What a look comes to: what stands there; is there something; the halves to a stub that is in the way. -/
structure GotN where
  v : List UInt8
  has : Bool
  miss : Option (List UInt8)
mutual
def getP : Nd → List UInt8 → GotN
  | .mk k p has v ks _, q =>
    if k = 4 then ⟨[], false, some []⟩
    else if k = 1 then ⟨v, decide (p = q), none⟩
    else if k = 2 then (if p <+: q then (let g := getsP ks 0 (q.drop p.length); ⟨g.v, g.has, g.miss.map (p ++ ·)⟩) else ⟨[], false, none⟩)
    else if k = 3 then (match q with
      | [] => ⟨v, has, none⟩
      | x :: q' => (let g := getsP ks x.toNat q'; ⟨g.v, g.has, g.miss.map (x :: ·)⟩))
    else ⟨[], false, none⟩
def getsP : List Nd → Nat → List UInt8 → GotN
  | [], _, _ => ⟨[], false, none⟩
  | t :: _, 0, q => getP t q
  | _ :: ts, i + 1, q => getsP ts i q
end
theorem getsP_at : ∀ {ks : List Nd} {i : Nat} {k : Nd} (q : List UInt8), ks[i]? = some k → getsP ks i q = getP k q
  | t :: ks, 0, k, q, h => by simp at h; subst h; rw [getsP]
  | t :: ks, i + 1, k, q, h => by rw [getsP]; exact getsP_at q (by simpa using h)
theorem getP_way0 {p q : List UInt8} {k : Nd} (h : ¬ p <+: q) : getP (.mk 2 p false [] [k] []) q = ⟨[], false, none⟩ := by unfold getP; simp [h]
theorem getP_way {p q : List UInt8} {k : Nd} (h : p <+: q) : getP (.mk 2 p false [] [k] []) q = ⟨(getP k (q.drop p.length)).v, (getP k (q.drop p.length)).has, (getP k (q.drop p.length)).miss.map (p ++ ·)⟩ := by
  have e := getsP_at (ks := [k]) (i := 0) (k := k) (q.drop p.length) rfl
  conv => lhs; rw [getP.eq_def]
  simp [h, e]
theorem getP_br0 {has : Bool} {v : List UInt8} {ks : List Nd} : getP (.mk 3 [] has v ks []) [] = ⟨v, has, none⟩ := by unfold getP; simp
theorem getP_br {has : Bool} {v : List UInt8} {ks : List Nd} {x : UInt8} {q : List UInt8} {k : Nd} (h : ks[x.toNat]? = some k) : getP (.mk 3 [] has v ks []) (x :: q) = ⟨(getP k q).v, (getP k q).has, (getP k q).miss.map (x :: ·)⟩ := by
  have e := getsP_at q h
  conv => lhs; rw [getP.eq_def]
  simp [e]
end Go.Proofs.Ytliccofjlheceaa
namespace Go.Proofs.Ytliccofjlheceaa
open Go.RowKit
theorem is_same0 : isFn Try.prog 14 = true := by kernel_rfl
theorem is_copy0 : isFn Try.prog 28 = true := by kernel_rfl
theorem is_r7same : isFn Try.prog 25 = true := by kernel_rfl
theorem is_r7much : isFn Try.prog 42 = true := by kernel_rfl
end Go.Proofs.Ytliccofjlheceaa
namespace Go.Proofs.Ytliccofjlheceaa
open Go.RowKit
theorem halvesB_drop {q : List UInt8} {n : Nat} (h : halvesB q = true) : halvesB (q.drop n) = true := by
  unfold halvesB at *
  rw [List.all_eq_true] at *
  exact fun x hx => h x (List.mem_of_mem_drop hx)
def missOk (W : World) (F : Nat → Prop) (way : List UInt8) (m : Option (List UInt8)) (A : Option Addr) (n c : Nat) : Prop :=
  match m with
  | none => A = none ∧ n = 0 ∧ c = 0
  | some r => A ≠ none ∧ RdD W F (dB (way ++ r)) (.slice A n c)
theorem Own.fr {W W' : World} {n c : Nat} {A : Option Addr} {l : List UInt8} (h : Own W' W.heap.size A n c l) : RdD W' (Fr W W') (dB l) (.slice A n c) := h.frB fun b h1 h2 h3 => ⟨h1, h2, row_thaw h h3⟩
theorem Fr.more {W W1 W' : World} {d : D} {u : Value} (h : RdD W' (Fr W1 W') d u) (hb : W.heap.size ≤ W1.heap.size) : RdD W' (Fr W W') d u := h.to fun b hb' => ⟨rfl, by have := hb'.1; omega, hb'.2⟩
theorem missOk.more {W W1 W' : World} {way : List UInt8} {m : Option (List UInt8)} {A : Option Addr} {n c : Nat} (h : missOk W' (Fr W1 W') way m A n c) (hb : W.heap.size ≤ W1.heap.size) : missOk W' (Fr W W') way m A n c := by
  unfold missOk at *
  cases m with
  | none => exact h
  | some r => exact ⟨h.1, Fr.more h.2 hb⟩
end Go.Proofs.Ytliccofjlheceaa
namespace Go.Proofs.Ytliccofjlheceaa
open Go.RowKit

set_option maxHeartbeats 400000 in
theorem halves_any (A : Option Addr) (n c B : Nat) (l : List UInt8) (w : World) (hr : Rd w B A n l) (hn : n ≤ 100000000000) :
    Calls Try.prog 92 #[.slice A n c] w fun e w' => e = .returned (.bool (halvesB l)) ∧ w = w' := by
  go_enter Try.func92, Try.ntmps92
  go_wp2
  go_loop [7] (fun i => ∃ (k : Nat), k ≤ n ∧ i = .int .i64 k ∧ halvesB (l.take k) = true) (fun i => n - (intOf i).toNat)
  case atStart => exact ⟨0, Nat.zero_le _, rfl, rfl⟩
  case round =>
    obtain ⟨k, hk, rfl, ht⟩ := hrel
    have Ht := Lib.hid ht
    clear ht
    have hln := hr.len
    by_cases hlt : k < n
    · obtain ⟨bb, off, rfl, hc⟩ := hr.at_ hlt
      have h0 := at8_lo l k
      have h1 := at8_hi l k
      have hkl : k < l.length := by omega
      clear hln
      by_cases h15 : at8 l k ≤ 15
      · go_wp2
        go_round
        case rel => exact ⟨k + 1, by omega, by go_num, halvesB_take l k hkl Ht.out h15⟩
        case measure => simp [intOf]; omega
      · go_wp2
        go_ret
        exact ⟨ret_bool (halvesB_no l k hkl (by omega)).symm, rfl⟩
    · have hkn : l.length ≤ k := by omega
      clear hln
      go_wp2
      go_ret
      exact ⟨ret_bool (by have := Ht.out; rw [List.take_of_length_le hkn] at this; exact this.symm), rfl⟩

end Go.Proofs.Ytliccofjlheceaa
namespace Go.Proofs.Ytliccofjlheceaa
open Go.RowKit

set_option maxHeartbeats 400000 in
theorem of_any (A : Option Addr) (n c : Nat) (l : List UInt8) (w : World) (hr : Rd w w.heap.size A n l) (hn : n ≤ 100000000000) :
    Calls Try.prog 94 #[.slice A n c] w fun e w' => ∃ A' c', e = .returned (.slice A' (2 * n) c') ∧ Own w' w.heap.size A' (2 * n) c' (ofB l) ∧ Below w.heap.size w w' := by
  go_enter Try.func94, Try.ntmps94
  go_wp2
  go_loopw [3, 8] (fun v i wr => ∃ (k : Nat) (A' : Option Addr) (c' : Nat), k ≤ n ∧ i = .int .i64 k ∧ v = .slice A' (2 * k) c' ∧ Own wr w.heap.size A' (2 * k) c' (ofB (l.take k)) ∧ Below w.heap.size w wr) (fun _ i _ => n - (intOf i).toNat)
  case atStart => exact ⟨0, none, 0, Nat.zero_le _, rfl, rfl, Own.nil_ _ _, Below.refl _ _⟩
  case round =>
    obtain ⟨k, A', c', hk, rfl, rfl, hown, hb⟩ := hrel
    have hln := hr.len
    by_cases hlt : k < n
    · obtain ⟨bb, off, rfl, hc⟩ := (hr.below hb).at_ hlt
      have h0 := at8_lo l k
      have h1 := at8_hi l k
      clear hln
      go_wp2_with (at_builtin; refine wpList_app rfl _ _ rfl rfl (hown.alloc _) rfl (Rd.lit2 _ _ _ (by omega) (by omega)) (by omega) (by simp; have := hb.size; omega) ?_; intro A2 c2 w2 hown2 hg2)
      have hb2 := (hb.alloc hb.size (.cells #[.int .u8 (at8 l k / 16), .int .u8 (at8 l k % 16)] 5)).grown hg2 (by simp; have := hb.size; omega) hown.lo
      go_roundw
      case rel => exact ⟨k + 1, A2, c2, by omega, by go_num, rfl, by rw [ofB_take l k (by rw [hr.len]; exact hlt)]; exact hown2, hb2⟩
      case measure => simp [intOf]; omega
    · have hk : k = n := by omega
      subst hk
      go_wp2
      go_ret
      exact ⟨A', c', rfl, by rw [List.take_of_length_le (by omega)] at hown; exact hown, hb⟩
set_option maxHeartbeats 400000 in
theorem joined_any (A : Option Addr) (n c : Nat) (l : List UInt8) (w : World) (hr : Rd w w.heap.size A n l) (hn : n ≤ 100000000000) (hh : halvesB l = true) :
    Calls Try.prog 93 #[.slice A n c] w fun e w' => ∃ A' c', e = .returned (.slice A' (n / 2) c') ∧ Own w' w.heap.size A' (n / 2) c' (joinB l) ∧ Below w.heap.size w w' := by
  have Hh := Lib.hid hh
  clear hh
  go_enter Try.func93, Try.ntmps93
  go_wp2
  go_loopw [3, 4] (fun v i wr => ∃ (k : Nat) (A' : Option Addr) (c' : Nat), 2 * k ≤ n ∧ i = .int .i64 ((2 * k + 1 : Nat) : Int) ∧ v = .slice A' k c' ∧ Own wr w.heap.size A' k c' (joinB (l.take (2 * k))) ∧ Below w.heap.size w wr) (fun _ i _ => n + 1 - (intOf i).toNat)
  case atStart => exact ⟨0, none, 0, by omega, rfl, rfl, Own.nil_ _ _, Below.refl _ _⟩
  case round =>
    obtain ⟨k, A', c', hk, rfl, rfl, hown, hb⟩ := hrel
    have hln := hr.len
    by_cases hlt : 2 * k + 1 < n
    · obtain ⟨bb, off, rfl, hc⟩ := (hr.below hb).at_ (k := 2 * k) (by omega)
      obtain ⟨bb', off', e, hc'⟩ := (hr.below hb).at_ (k := 2 * k + 1) (by omega)
      injection e with e
      injection e with e1 e2
      subst e1 e2
      have h0 := at8_lo l (2 * k)
      have h1 := at8_lo l (2 * k + 1)
      have h2 := halvesB_at l Hh.out (2 * k)
      have h3 := halvesB_at l Hh.out (2 * k + 1)
      have hkl : 2 * k + 1 < l.length := by omega
      clear hln
      have hor := or_halves (at8 l (2 * k)) (at8 l (2 * k + 1)) h0 h2 h1 h3
      have hown' := Lib.hid hown
      have hw1 : IntKind.i64.wrap (2 * (k : Int)) = 2 * (k : Int) := IntWalk.i64_in _ (by omega)
      have hw2 : (2 * (k : Int)).toNat = 2 * k := by omega
      have hw4 : (2 * (k : Int) + 1).toNat = 2 * k + 1 := by omega
      have hw5 : (0 : Int) ≤ 2 * (k : Int) := by omega
      have hw6 : (2 * (k : Int)) < (n : Int) := by omega
      have hw7 : (0 : Int) ≤ 2 * (k : Int) + 1 := by omega
      have hw8 : (2 * (k : Int) + 1) < (n : Int) := by omega
      have hw3 : IntKind.u8.wrap (at8 l (2 * k) * 16) = at8 l (2 * k) * 16 := IntWalk.u8_in _ (by omega)
      go_wp2
      go_region_law (refine step_app rfl _ _ rfl rfl ((hown'.out).drew.alloc _) rfl (Rd.lit1 _ _ (by omega)) (by omega) (by simp; have := hb.size; omega) ?_; intro A2 c2 w2 hown2 hg2)
      all_goals
        have hb2 := ((hb.alloc hb.size (.cells #[.int .u8 (at8 l (2 * k) * 16 + at8 l (2 * k + 1))] 5)).drew).grown hg2 (by simp; have := hb.size; omega) hown.lo
        have hj := Lib.hid (joinB_take8 l k hkl Hh.out)
        clear hown hb hor hw1 hw2 hw3 hw4 hc hc' hown' hg2
        go_wp2
        go_roundw
        case rel => exact ⟨k + 1, A2, c2, by omega, by go_num, rfl, by rw [hj.out]; exact hown2, hb2⟩
        case measure => simp [intOf]; omega
    · have hkn : k = n / 2 := by omega
      have hend := Lib.hid (joinB_all l k (by omega) (by omega))
      have Hk := Lib.hid hkn
      clear hln hkn
      go_wp2
      go_ret
      exact ⟨A', c', ret_slice Hk.out, by rw [hend.out] at hown; rw [← Hk.out]; exact hown, hb⟩

end Go.Proofs.Ytliccofjlheceaa
namespace Go.Proofs.Ytliccofjlheceaa
open Go.RowKit
/-- What trie.Get answers. -/
structure GotE where
  v : List UInt8
  has : Bool
  miss : Option (List UInt8)
  e : Int
def leafN (p v : List UInt8) : Nd := .mk 1 p false v [] []
def alongN (p : List UInt8) (t : Nd) : Nd := if p = [] then t else .mk 2 p false [] [t] []
end Go.Proofs.Ytliccofjlheceaa
namespace Go.Proofs.Ytliccofjlheceaa
open Go.RowKit
/-- The place of an element. -/
theorem p_atL {P : Program} {E : Env} {d : Option Nat} {ty : TypeId} {p : String} {af : Array Edge} {g : Option (Nat × Bool)} {x y : Operand} {t : TypeId} {kd : IntKind} {k : Value → Prop} {b o q n c i : Nat} {e : TypeId} {s : Nat} {j : Int} (hT : slOf P t = some (e, s)) (hx : val E x = .slice (some ⟨b, o, none⟩) n c) (hy : val E y = .int kd j) (hj : j = (i : Int)) (hi : i < n) (hq : o + i * s = q)
    (h : k (.pointer (some ⟨b, q, none⟩))) : VPure P E { dst := d, op := .indexAddr t x y, type := ty, pos := p, after := af, guard := g } k :=
  p_at hT hx hy hj hi (by rw [Addr.add_lit, hq]; exact h)
/-- A branch that is still made: its block, that of its kids. -/
def BrS (W : World) (gs : List (Option Nat)) (gb gk ck : Nat) (has : Bool) (v : List UInt8) (ks : List Nd) : Prop :=
  ∃ Av cv xs rest, Blk W gb 38 [.int .i64 3, .slice none 0 0, .bool has, .slice Av v.length cv, .slice (some ⟨gk, 0, none⟩) 16 ck, .slice none 0 0] ∧ RdD W (Fd W gs) (dB v) (.slice Av v.length cv) ∧ Blk W gk 38 (xs ++ rest) ∧ RdL W (Fd W gs) (dNs ks) xs ∧ ks.length = 16 ∧ gb ≠ gk ∧ some gb ∈ gs ∧ some gk ∈ gs ∧ 16 ≤ ck
def holdK (has : Bool) (v : List UInt8) (ks : List Nd) (p val : List UInt8) : Bool × List UInt8 × List Nd :=
  match p with
  | [] => (true, val, ks)
  | x :: q => (has, v, ks.set x.toNat (leafN q val))
theorem dNs_set : ∀ {ks : List Nd} {i : Nat} (k : Nd), i < ks.length → dNs (ks.set i k) = (dNs ks).take (i * 6) ++ dN k ++ (dNs ks).drop (i * 6 + 6)
  | t :: ks, 0, k, _ => by
    rw [List.set_cons_zero, dNs, dNs, Nat.zero_mul, List.take_zero, List.nil_append, Nat.zero_add, List.drop_left' (dN_len t)]
  | t :: ks, i + 1, k, h => by
    rw [List.set_cons_succ, dNs, dNs, dNs_set k (by simpa using h), show (i + 1) * 6 = (dN t).length + i * 6 by rw [dN_len]; omega, List.take_length_add_append, show (dN t).length + i * 6 + 6 = (dN t).length + (i * 6 + 6) by omega, List.drop_length_add_append]
    simp only [List.append_assoc]
theorem halves_hd {x : UInt8} {q : List UInt8} (h : halvesB (x :: q) = true) : x.toNat < 16 := by
  unfold halvesB at h
  have := List.all_eq_true.1 h x (by simp)
  have := of_decide_eq_true this
  rw [UInt8.le_iff_toNat_le] at this
  have e15 : (15 : UInt8).toNat = 15 := rfl
  omega
end Go.Proofs.Ytliccofjlheceaa
namespace Go.Proofs.Ytliccofjlheceaa
open Go.RowKit
def zNs (n : Nat) : List Value := (List.replicate n zN).flatten
def noneNs (n : Nat) : List Nd := List.replicate n noneN
theorem RdL.znone {W : World} {F : Nat → Prop} : RdL W F (dN noneN) zN :=
  RdL.ofnode (t := noneN) (Ap := none) (cp := 0) (Av := none) (cv := 0) (Ak := none) (ck := 0) (Ah := none) (ch := 0) (RdD.nil_ _ _) (RdD.nil_ _ _) (RdD.nil_ _ _) (RdD.nil_ _ _)
theorem RdL.znones {W : World} {F : Nat → Prop} : ∀ n, RdL W F (dNs (noneNs n)) (zNs n)
  | 0 => RdL.nil_
  | n + 1 => by
    show RdL W F (dN noneN ++ dNs (noneNs n)) (zN ++ zNs n)
    exact RdL.znone.app (RdL.znones n)
set_option maxRecDepth 100000 in
theorem made16 : (madeCells (Value.agg #[.int .i64 0, .slice none 0 0, .bool false, .slice none 0 0, .slice none 0 0, .slice none 0 0]).cells (16 * 6)).toList = zNs 16 := by kernel_rfl
set_option maxRecDepth 100000 in
/-- make([]Node, 16) -/
theorem v_mkN {E : Env} {d : Option Nat} {ty : TypeId} {p : String} {af : Array Edge} {gd : Option (Nat × Bool)} {l c : Operand} {kw : Value → World → Prop} {w : World} (hl : val E l = .int .i64 ((16 : Nat) : Int)) (hc : val E c = .int .i64 ((16 : Nat) : Int))
    (h : ∀ g w', g = w.heap.size → Blk w' g 38 (zNs 16) → Below g w w' → kw (.slice (some ⟨g, 0, none⟩) 16 16) w') :
    VVal Try.prog E { dst := d, op := .makeSlice 36 l c, type := ty, pos := p, after := af, guard := gd } w kw := by
  obtain ⟨i, hi0, hz0, hz1, hz2⟩ := info_parts inf_nd
  obtain ⟨w', hrun, hrow, hg⟩ := run_make_full (P := Try.prog) (w := w) w.heap.size 36 38 i _ 6 Try.underlying36 hi0 hz0 hz1 .i64 .i64 16 (by rw [hz2]; decide) (by unfold maxLen; decide) (Nat.le_refl _)
  refine vv (v := .slice (some ⟨w.heap.size, 0, none⟩) 16 16) (w' := w') ?_ (h _ _ rfl ?_ ⟨hg.os, hg.tape, hg.output, hg.size, fun b hb => hg.block b hb (by simp)⟩)
  · have hrun' : (Instr.makeSlice 36 (.int .i64 (16 : Int)) (.int .i64 (16 : Int))).run Try.prog w = _ := hrun
    simp [execOp, hl, hc, hrun']
  · rcases hrow.2 with ⟨_, h0⟩ | ⟨g', cap, cur, hv, hbg, hh, hnc, _, hcs, htk⟩
    · exact absurd h0 (by decide)
    · injection hv with hA _ hc'
      injection hA with hA
      injection hA with hA
      subst hA; subst hc'
      have e : cur.toList = zNs 16 := by
        rw [← made16, ← htk]
        refine (List.take_of_length_le ?_).symm
        simp at hcs ⊢
        omega
      rw [← e]
      unfold Blk
      rw [hh]
theorem BrS.drew {W : World} {gs : List (Option Nat)} {gb gk ck : Nat} {has : Bool} {v : List UInt8} {ks : List Nd} (h : BrS W gs gb gk ck has v ks) : BrS W.drew gs gb gk ck has v ks := by
  obtain ⟨Av, cv, xs, rest, h1, h2, h3, h4, h5⟩ := h
  exact ⟨Av, cv, xs, rest, h1, h2.up Stp.drew, h3, h4.up Stp.drew, h5⟩
theorem BrS.node {W : World} {gs gs' : List (Option Nat)} {gb gk ck : Nat} {has : Bool} {v : List UInt8} {ks : List Nd} (h : BrS W gs gb gk ck has v ks) (s : Stp W gs W gs') (hn : some gk ∉ gs') :
    ∃ Av cv, Blk W gb 38 (ncs (.mk 3 [] has v ks []) none 0 Av cv (some ⟨gk, 0, none⟩) ck none 0) ∧ RdL W (Fd W gs') (dN (.mk 3 [] has v ks [])) (ncs (.mk 3 [] has v ks []) none 0 Av cv (some ⟨gk, 0, none⟩) ck none 0) := by
  obtain ⟨Av, cv, xs, rest, hB, hV, hK, hX, h16, hne, hgb, hgk, hck⟩ := h
  refine ⟨Av, cv, ?_, RdL.ofnode (t := .mk 3 [] has v ks []) (RdD.nil_ _ _) (hV.up s) ?_ (RdD.nil_ _ _)⟩
  · show Blk W gb 38 [.int .i64 3, .slice none 0 0, .bool has, .slice Av v.length cv, .slice (some ⟨gk, 0, none⟩) ks.length ck, .slice none 0 0]
    rw [h16]; exact hB
  · refine RdD.sl_iff.2 ⟨_, ck, xs, rfl, by show ks.length ≤ ck; omega, dNs_len _, hX.up s, fun _ => ⟨gk, 0, rfl, ⟨hK.lt, hn⟩, fun j x hx => ?_⟩⟩
    rw [Nat.zero_add]
    refine hK.at_ ?_
    rw [List.getElem?_append_left (List.getElem?_eq_some_iff.1 hx).1]; exact hx
def forkN (t : Nd) (p val : List UInt8) : Nd :=
  let k := commonB t.path p
  let b := if t.kind = 1 then holdK false [] (noneNs 16) (t.path.drop k) t.val else (false, [], (noneNs 16).set (t.path.getD k 0).toNat (alongN (t.path.drop (k + 1)) (t.kids.headD noneN)))
  let b2 := holdK b.1 b.2.1 b.2.2 (p.drop k) val
  alongN (p.take k) (.mk 3 [] b2.1 b2.2.1 b2.2.2 [])
end Go.Proofs.Ytliccofjlheceaa
namespace Go.Proofs.Ytliccofjlheceaa
open Go.RowKit
mutual
/-- What trie.put comes to: the node, and the halves to a stub that is in the way. -/
def putP : Nd → List UInt8 → List UInt8 → Nd × Option (List UInt8)
  | .mk k p has v ks h, q, val =>
    if k = 4 then (.mk k p has v ks h, some [])
    else if k = 0 then (leafN q val, none)
    else if k = 1 then (if p = q then (leafN q val, none) else (forkN (.mk k p has v ks h) q val, none))
    else if k = 2 then (if p <+: q then (let r := putsP ks 0 (q.drop p.length) val; (.mk k p has v [r.1] h, r.2.map (p ++ ·))) else (forkN (.mk k p has v ks h) q val, none))
    else match q with
      | [] => (.mk k p true val ks h, none)
      | x :: q' => (let r := putsP ks x.toNat q' val; (.mk k p has v (ks.set x.toNat r.1) h, r.2.map (x :: ·)))
def putsP : List Nd → Nat → List UInt8 → List UInt8 → Nd × Option (List UInt8)
  | [], _, _, _ => (noneN, none)
  | t :: _, 0, q, val => putP t q val
  | _ :: ts, i + 1, q, val => putsP ts i q val
end
theorem putsP_at : ∀ {ks : List Nd} {i : Nat} {k : Nd} (q val : List UInt8), ks[i]? = some k → putsP ks i q val = putP k q val
  | t :: ks, 0, k, q, val, h => by simp at h; subst h; rw [putsP]
  | t :: ks, i + 1, k, q, val, h => by rw [putsP]; exact putsP_at q val (by simpa using h)
theorem putP_way0 {p q val : List UInt8} {k : Nd} (h : ¬ p <+: q) : putP (.mk 2 p false [] [k] []) q val = (forkN (.mk 2 p false [] [k] []) q val, none) := by
  conv => lhs; rw [putP.eq_def]
  simp [h]
theorem putP_way {p q val : List UInt8} {k : Nd} (h : p <+: q) : putP (.mk 2 p false [] [k] []) q val = (.mk 2 p false [] [(putP k (q.drop p.length) val).1] [], (putP k (q.drop p.length) val).2.map (p ++ ·)) := by
  have e := putsP_at (ks := [k]) (i := 0) (k := k) (q.drop p.length) val rfl
  conv => lhs; rw [putP.eq_def]
  simp [h, e]
theorem putP_br0 {has : Bool} {v val : List UInt8} {ks : List Nd} : putP (.mk 3 [] has v ks []) [] val = (.mk 3 [] true val ks [], none) := by
  conv => lhs; rw [putP.eq_def]
  simp
theorem putP_br {has : Bool} {v val : List UInt8} {ks : List Nd} {x : UInt8} {q : List UInt8} {k : Nd} (h : ks[x.toNat]? = some k) : putP (.mk 3 [] has v ks []) (x :: q) val = (.mk 3 [] has v (ks.set x.toNat (putP k q val).1) [], (putP k q val).2.map (x :: ·)) := by
  have e := putsP_at q val h
  conv => lhs; rw [putP.eq_def]
  simp [e]
theorem missOk.to {W W' : World} {F F' : Nat → Prop} {way : List UInt8} {m : Option (List UInt8)} {A : Option Addr} {n c : Nat} (h : missOk W F way m A n c) (hs : ∀ b, F b → W'.heap[b]? = W.heap[b]? ∧ F' b) : missOk W' F' way m A n c := by
  unfold missOk at *
  cases m with
  | none => exact h
  | some r => exact ⟨h.1, h.2.to hs⟩
theorem missOk.upz {W W' : World} {gs gs' : List (Option Nat)} {base : Nat} {way : List UInt8} {m : Option (List UInt8)} {A : Option Addr} {n c : Nat} (h : missOk W (Fz base W gs) way m A n c) (s : Stp W gs W' gs') : missOk W' (Fz base W' gs') way m A n c := by
  unfold missOk at *
  cases m with
  | none => exact h
  | some r => exact ⟨h.1, h.2.upz s⟩
theorem missOk.zfr {W W' : World} {gs : List (Option Nat)} {base : Nat} {way : List UInt8} {m : Option (List UInt8)} {A : Option Addr} {n c : Nat} (h : missOk W' (Fr W W') way m A n c) (hb : base ≤ W.heap.size) (hg : ∀ b, some b ∈ gs → b < W.heap.size) : missOk W' (Fz base W' gs) way m A n c := by
  unfold missOk at *
  cases m with
  | none => exact h
  | some r => exact ⟨h.1, h.2.zfr hb hg⟩
theorem At.stp {w W W' : World} {gs : List (Option Nat)} (_ : At w W gs) (hb : Below W.heap.size W W') : Stp W gs W' gs := Stp.below hb
end Go.Proofs.Ytliccofjlheceaa
namespace Go.Proofs.Ytliccofjlheceaa
open Go.RowKit
def behindN (p : List UInt8) (t : Nd) : Nd := if t.kind = 1 ∨ t.kind = 2 then .mk t.kind (p ++ t.path) t.has t.val t.kids t.hash else if t.kind = 0 then t else alongN p t
end Go.Proofs.Ytliccofjlheceaa
namespace Go.Proofs.Ytliccofjlheceaa
open Go.RowKit
/-- Which kid is the only one: none where there is more than one thing. -/
def scanK (has : Bool) : List Nd → Nat → Option Nat → Option (Option Nat)
  | [], _, o => some o
  | k :: ks, i, o => if k.kind = 0 then scanK has ks (i + 1) o else if o.isSome || has then none else scanK has ks (i + 1) (some i)
def settleP (t : Nd) : Nd × Option (List UInt8) :=
  match scanK t.has t.kids 0 none with
  | none => (t, none)
  | some none => (leafN [] t.val, none)
  | some (some i) => if (t.kids.getD i noneN).kind = 4 then (t, some [UInt8.ofNat i]) else (behindN [UInt8.ofNat i] (t.kids.getD i noneN), none)
end Go.Proofs.Ytliccofjlheceaa
namespace Go.Proofs.Ytliccofjlheceaa
open Go.RowKit
mutual
/-- What trie.drop comes to. -/
def dropP : Nd → List UInt8 → Nd × Option (List UInt8)
  | .mk k p has v ks h, q =>
    if k = 1 then (noneN, none)
    else if k = 2 then (let r := dropsP ks 0 (q.drop p.length); (behindN p r.1, r.2.map (p ++ ·)))
    else match q with
      | [] => settleP (.mk k p false [] ks h)
      | x :: q' => (let r := dropsP ks x.toNat q'; if r.2.isSome then (.mk k p has v ks h, r.2.map (x :: ·)) else settleP (.mk k p has v (ks.set x.toNat r.1) h))
def dropsP : List Nd → Nat → List UInt8 → Nd × Option (List UInt8)
  | [], _, _ => (noneN, none)
  | t :: _, 0, q => dropP t q
  | _ :: ts, i + 1, q => dropsP ts i q
end
theorem dropsP_at : ∀ {ks : List Nd} {i : Nat} {k : Nd} (q : List UInt8), ks[i]? = some k → dropsP ks i q = dropP k q
  | t :: ks, 0, k, q, h => by simp at h; subst h; rw [dropsP]
  | t :: ks, i + 1, k, q, h => by rw [dropsP]; exact dropsP_at q (by simpa using h)
theorem dropP_leaf {p v q : List UInt8} : dropP (.mk 1 p false v [] []) q = (noneN, none) := by
  conv => lhs; rw [dropP.eq_def]
  simp
theorem dropP_way {p q : List UInt8} {k : Nd} : dropP (.mk 2 p false [] [k] []) q = (behindN p (dropP k (q.drop p.length)).1, (dropP k (q.drop p.length)).2.map (p ++ ·)) := by
  have e := dropsP_at (ks := [k]) (i := 0) (k := k) (q.drop p.length) rfl
  conv => lhs; rw [dropP.eq_def]
  simp [e]
theorem dropP_br0 {has : Bool} {v : List UInt8} {ks : List Nd} : dropP (.mk 3 [] has v ks []) [] = settleP (.mk 3 [] false [] ks []) := by
  conv => lhs; rw [dropP.eq_def]
  simp
theorem dropP_br {has : Bool} {v : List UInt8} {ks : List Nd} {x : UInt8} {q : List UInt8} {k : Nd} (h : ks[x.toNat]? = some k) : dropP (.mk 3 [] has v ks []) (x :: q) = (if (dropP k q).2.isSome then (.mk 3 [] has v ks [], (dropP k q).2.map (x :: ·)) else settleP (.mk 3 [] has v (ks.set x.toNat (dropP k q).1) [])) := by
  have e := dropsP_at q h
  conv => lhs; rw [dropP.eq_def]
  simp [e]
theorem scan_lt {has : Bool} : ∀ {ks : List Nd} {i j : Nat} {o : Option Nat}, scanK has ks i o = some (some j) → (o = some j) ∨ (i ≤ j ∧ j < i + ks.length)
  | [], i, j, o, h => by unfold scanK at h; injection h with h; exact .inl h
  | k :: ks, i, j, o, h => by
    unfold scanK at h
    rw [List.length_cons]
    split at h
    · rcases scan_lt h with h | h
      · exact .inl h
      · right; omega
    · split at h
      · cases h
      · rcases scan_lt h with h | h
        · injection h with h; right; omega
        · right; omega
theorem getP_none {q : List UInt8} : getP noneN q = ⟨[], false, none⟩ := by unfold noneN getP; simp
theorem getP_stub {h q : List UInt8} : getP (.mk 4 [] false [] [] h) q = ⟨[], false, some []⟩ := by unfold getP; simp
end Go.Proofs.Ytliccofjlheceaa
namespace Go.Proofs.Ytliccofjlheceaa
open Go.RowKit
/-- A way to a stub, or nil, as a datum. -/
def missD (way : List UInt8) : Option (List UInt8) → D
  | none => .v (.slice none 0 0)
  | some r => dB (way ++ r)
theorem missOk.mk {W : World} {F : Nat → Prop} {way : List UInt8} {m : Option (List UInt8)} {A : Option Addr} {n c : Nat} (h : RdD W F (missD way m) (.slice A n c)) (h0 : m.isSome = true → A ≠ none) : missOk W F way m A n c := by
  cases m with
  | none => have := RdD.val.1 h; injection this with e1 e2 e3; exact ⟨e1, e2, e3⟩
  | some r => exact ⟨h0 rfl, h⟩
theorem St.kid {w W : World} {gs : List (Option Nat)} {L : Lc} {R : List Row} {fs : List Fact} (M : St w gs W L R fs) {ks : List Nd} {A : Option Addr} {n c i : Nat} {k : Nd} (h : RdD W (Fd W (own L R gs)) (dKs ks) (.slice A n c)) (hk : ks[i]? = some k) :
    ∃ b off es, A = some ⟨b, off, none⟩ ∧ es.length = 6 ∧ St w gs W L R (.loc ((⟨b, off, none⟩ : Addr).add (i * 6)) es :: .dat false (dN k) es :: fs) := by
  obtain ⟨b, off, es, e, hF, hes, hel, hc⟩ := h.kid hk
  exact ⟨b, off, es, e, hel, (M.addL hes).addC (by rw [block_of_add]; exact hF) hc⟩
end Go.Proofs.Ytliccofjlheceaa
namespace Go.Proofs.Ytliccofjlheceaa
open Go.RowKit
structure DropR where
  t : Nd
  has : Bool
  miss : Option (List UInt8)
  e : Int
end Go.Proofs.Ytliccofjlheceaa
namespace Go.Proofs.Ytliccofjlheceaa
theorem halvesB_app {p q : List UInt8} : halvesB (p ++ q) = (halvesB p && halvesB q) := by unfold halvesB; rw [List.all_append]
theorem endsP_le {d : Nat} {even : Bool} (h : endsP d even = true) : d ≤ 400 := by
  unfold endsP at h
  rw [Bool.and_eq_true, decide_eq_true_eq] at h
  exact h.1
theorem Val.le {even : Bool} {t : Nd} {d : Nat} (h : Val even t d) : d ≤ 400 := by cases h <;> assumption
theorem common_split : ∀ (p q : List UInt8), p.take (commonB p q) = q.take (commonB p q) ∧ ((p.drop (commonB p q) = [] ∨ q.drop (commonB p q) = []) ∨ ∃ a b p' q', a ≠ b ∧ p.drop (commonB p q) = a :: p' ∧ q.drop (commonB p q) = b :: q')
  | [], q => by simp [commonB]
  | _ :: _, [] => by simp [commonB]
  | a :: p, b :: q => by
    unfold commonB
    by_cases h : a = b
    · rw [if_pos h]
      obtain ⟨h1, h2⟩ := common_split p q
      refine ⟨by rw [List.take_succ_cons, List.take_succ_cons, h, h1], ?_⟩
      rw [List.drop_succ_cons, List.drop_succ_cons]
      exact h2
    · rw [if_neg h]
      exact ⟨by simp, .inr ⟨a, b, p, q, h, rfl, rfl⟩⟩
theorem noneNs_len (n : Nat) : (noneNs n).length = n := by
  induction n with
  | zero => rfl
  | succ n ih => simp [noneNs] at *
theorem along_val {even : Bool} {d : Nat} {p : List UInt8} {t : Nd} (hd : d ≤ 400) (hp : halvesB p = true) (hk : t.kind = 3 ∨ t.kind = 4) (hr : Val even t (d + p.length)) : Val even (alongN p t) d := by
  unfold alongN
  split
  · rename_i h; rw [h] at hr; exact hr
  · rename_i h; exact .way d p t hd hp h hk hr
end Go.Proofs.Ytliccofjlheceaa
namespace Go.Proofs.Ytliccofjlheceaa
open Go.RowKit
structure Pr where
  k : List UInt8
  v : List UInt8
deriving DecidableEq
def dPr (p : Pr) : List D := [dB p.k, dB p.v]
def dPrs (l : List Pr) : List D := l.flatMap dPr
theorem flat_at {α : Type} {f : α → List D} {s : Nat} (hf : ∀ x, (f x).length = s) : ∀ {l : List α} {i : Nat} {x : α}, l[i]? = some x → ((l.flatMap f).drop (i * s)).take s = f x
  | y :: l, 0, x, h => by
    simp at h; subst h
    rw [Nat.zero_mul, List.drop_zero, List.flatMap_cons, List.take_append_of_le_length (by rw [hf]; omega), List.take_of_length_le (by rw [hf]; omega)]
  | y :: l, i + 1, x, h => by
    rw [List.flatMap_cons, show (i + 1) * s = (f y).length + i * s by rw [hf, Nat.add_mul]; omega, ← List.drop_drop, List.drop_left]
    exact flat_at hf (by simpa using h)
/-- An element. -/
theorem RdD.elt {W : World} {F : Nat → Prop} {α : Type} (f : α → List D) (s : Nat) (hf : ∀ x, (f x).length = s) {l : List α} {A : Option Addr} {n c i : Nat} {x : α} (h : RdD W F (.sl s l.length (l.flatMap f)) (.slice A n c)) (hi : l[i]? = some x) :
    ∃ b off es, A = some ⟨b, off, none⟩ ∧ F b ∧ RdL W F (f x) es ∧ es.length = s ∧ ∀ j y, es[j]? = some y → W.cell? (((⟨b, off, none⟩ : Addr).add (i * s)).add j) = some y := by
  have hn := h.slen
  have hil := (List.getElem?_eq_some_iff.1 hi).1
  obtain ⟨b, off, es, e1, hF, hes, hel, hc⟩ := h.at_ (i := i) (by omega)
  rw [flat_at hf hi] at hes
  exact ⟨b, off, es, e1, hF, hes, hel, fun j y hy => by rw [Addr.add_lit, Addr.add_lit]; exact hc j y hy⟩
theorem dPr_len (p : Pr) : (dPr p).length = 2 := rfl
abbrev dPl (l : List Pr) : D := .sl 2 l.length (dPrs l)
def pcs (p : Pr) (Ak : Option Addr) (ck : Nat) (Av : Option Addr) (cv : Nat) : List Value := [.slice Ak p.k.length ck, .slice Av p.v.length cv]
theorem RdL.pair {W : World} {F : Nat → Prop} {p : Pr} {cs : List Value} (h : RdL W F (dPr p) cs) : ∃ Ak ck Av cv, cs = pcs p Ak ck Av cv ∧ RdD W F (dB p.k) (.slice Ak p.k.length ck) ∧ RdD W F (dB p.v) (.slice Av p.v.length cv) := by
  obtain ⟨u0, _, rfl, h0, h⟩ := (show RdL W F [dB p.k, dB p.v] cs from h).uncons
  obtain ⟨u1, _, rfl, h1, h⟩ := h.uncons
  rw [h.isnil]
  obtain ⟨A0, c0, e0, _⟩ := h0.open_
  obtain ⟨A1, c1, e1, _⟩ := h1.open_
  subst e0; subst e1
  exact ⟨A0, c0, A1, c1, rfl, h0, h1⟩
/-- A pair of a slice that stays. -/
theorem St.pair {w W : World} {gs : List (Option Nat)} {L : Lc} {R : List Row} {fs : List Fact} (M : St w gs W L R fs) {l : List Pr} {A : Option Addr} {n c i : Nat} {p : Pr} (h : RdD W (Fd W (own L R gs)) (dPl l) (.slice A n c)) (hi : l[i]? = some p) :
    ∃ b off Ak ck Av cv, A = some ⟨b, off, none⟩ ∧ St w gs W L R (.loc ((⟨b, off, none⟩ : Addr).add (i * 2)) (pcs p Ak ck Av cv) :: .dat false [dB p.k] [.slice Ak p.k.length ck] :: .dat false [dB p.v] [.slice Av p.v.length cv] :: fs) := by
  obtain ⟨b, off, es, e, hF, hes, hel, hc⟩ := RdD.elt dPr 2 dPr_len h hi
  obtain ⟨Ak, ck, Av, cv, rfl, h1, h2⟩ := hes.pair
  exact ⟨b, off, Ak, ck, Av, cv, e, ((M.addD h2).addD h1).addC (by rw [block_of_add]; exact hF) hc⟩
end Go.Proofs.Ytliccofjlheceaa
namespace Go.Proofs.Ytliccofjlheceaa
open Go.RowKit
theorem ends_yes {e : Nat} {even : Bool} (h : e ≤ 400) (h2 : even = false ∨ e % 2 = 0) : endsP e even = true := by
  unfold endsP
  rw [decide_eq_true h]
  rcases h2 with h2 | h2
  · rw [h2]; rfl
  · rw [decide_eq_true h2]; simp
end Go.Proofs.Ytliccofjlheceaa
