/- The walks of node.Check and node.Copy. Tries, plainly: what may be; get, put, drop. Reference 07's walks: Same, own, right, Check, Much. The walk of trie.get. -/
import Derived.Test.YtliccofjlheceaaG05
import Derived.Test.YtliccofjlheceaaG04
namespace Go.Proofs.Ytliccofjlheceaa
open Go.RowKit
theorem is_ncopy : isFn Try.prog 50 = true := by kernel_rfl
theorem is_ncheck : isFn Try.prog 43 = true := by kernel_rfl
def checkE (t : Nd) : Int := if rightP true t 0 then 0 else 2
set_option maxRecDepth 100000 in
theorem ncheck_any (t : Nd) (ht : sz t ≤ 999999999999) (gs : List (Option Nat)) (w : World) (cs : List Value) (hr : RdL w (Fd w gs) (dN t) cs) (hgs : ∀ b, some b ∈ gs → b < w.heap.size) :
    Calls Try.prog 43 #[.agg cs.toArray] w fun e w' => e = .returned (.int .i64 (checkE t)) ∧ Below w.heap.size w w' := by
  refine calls_ev (args := [.agg cs.toArray]) mixed Try.func43 rfl (by kernel_rfl) ?_
  have hl := hr.len
  rw [dN_len] at hl
  refine v_boxB cs rfl ?_
  rintro g W1 hg hB hb hs1
  subst hg
  refine v_loadN cs agg_nd rfl hl (hB.run 0 _ (fun j v h => by rw [Nat.zero_add]; exact h)) ?_
  refine cc is_nright (nright_any 1000000000000 (by decide) t (by omega) gs W1 cs 0 true (hr.up (Stp.below hb)) (fun b e => by have := hgs b e; have := hb.size; omega) (by decide)) ?_
  rintro e W2 ⟨rfl, b2⟩
  refine ⟨_, rfl, ?_⟩
  have C := hb.trans (b2.mono hb.size)
  refine p_not rfl ?_
  cases h : rightP true t 0 with
  | false => exact ⟨by unfold checkE; rw [h]; rfl, C⟩
  | true => exact ⟨by unfold checkE; rw [h]; rfl, C⟩
/-- What node.Copy answers of this node. -/
def CopyOk (t : Nd) : Prop := ∀ (gs : List (Option Nat)) (w : World) (cs : List Value), RdL w (Fd w gs) (dN t) cs → (∀ b, some b ∈ gs → b < w.heap.size) →
  Calls Try.prog 50 #[.agg cs.toArray] w fun e w' => ∃ cs', e = .returned (.agg cs'.toArray) ∧ RdL w' (Fr w w') (dN t) cs' ∧ Below w.heap.size w w'
/-- And that its kids are a row of the call's own. -/
def CopyRow (t : Nd) : Prop := ∀ (gs : List (Option Nat)) (w : World) (cs : List Value), RdL w (Fd w gs) (dN t) cs → (∀ b, some b ∈ gs → b < w.heap.size) →
  Calls Try.prog 50 #[.agg cs.toArray] w fun e w' => ∃ Ap cp Av cv Ak ck Ah ch xs, e = .returned (.agg (ncs t Ap cp Av cv Ak ck Ah ch).toArray) ∧ w'.ownsRow w.heap.size 38 6 (.slice Ak t.kids.length ck) t.kids.length xs ∧ RdL w' (Fz w.heap.size w' [bk Ak]) (dNs t.kids) xs ∧
    (RdD w' (Fz w.heap.size w' [bk Ak]) (dB t.path) (.slice Ap t.path.length cp) ∧ RdD w' (Fz w.heap.size w' [bk Ak]) (dB t.val) (.slice Av t.val.length cv) ∧ RdD w' (Fz w.heap.size w' [bk Ak]) (dB t.hash) (.slice Ah t.hash.length ch)) ∧ Below w.heap.size w w'
theorem CopyRow.ok {t : Nd} (h : CopyRow t) : CopyOk t := fun gs w cs hr hgs => (h gs w cs hr hgs).mono fun e w' ⟨Ap, cp, Av, cv, Ak, ck, Ah, ch, xs, he, hrow, hxs, ⟨h1, h2, h3⟩, hb⟩ =>
  ⟨_, he, RdL.ofnode (h1.to fun b q => ⟨rfl, q.1, q.2.1, q.2.2.2⟩) (h2.to fun b q => ⟨rfl, q.1, q.2.1, q.2.2.2⟩) (rdD_row hrow (hxs.to fun b q => ⟨rfl, q.1, q.2.1, q.2.2.2⟩) fun b q1 q2 q3 => ⟨q1, q2, row_thaw hrow (by rw [← own_bk]; exact q3)⟩) (h3.to fun b q => ⟨rfl, q.1, q.2.1, q.2.2.2⟩), hb⟩
theorem inf_nd : (Try.prog.info? 38).map (fun i => (i.zero, i.size, i.bytes)) = some (some (.agg #[.int .i64 0, .slice none 0 0, .bool false, .slice none 0 0, .slice none 0 0, .slice none 0 0]), 6, 112) := by kernel_rfl
theorem sz_ns : (Try.prog.info? 36).map (·.size) = some 1 := by kernel_rfl
def zN : List Value := [.int .i64 0, .slice none 0 0, .bool false, .slice none 0 0, .slice none 0 0, .slice none 0 0]
theorem pl_nd : placesOf Try.prog 38 = some [(0, 1), (1, 1), (2, 1), (3, 1), (4, 1), (5, 1)] := by kernel_rfl
theorem z_nd : zeroOf Try.prog 38 = some zN := by kernel_rfl
def schCopy : Sch := .take 0 (.take 1 (.take 2 (.take 3 (.take 4 (.take 5 (.take 7 (.take 8 (.take 10 (.take 11 (.two 6 (.two 9 (.two 12 (.take 13 (.one 14 .nil)) 14 (.one 12 (.take 13 .nil))) 14 (.one 9 (.one 12 (.take 13 .nil)))) 14 (.one 6 (.one 9 (.one 12 (.take 13 .nil))))))))))))))
set_option maxRecDepth 100000 in
set_option maxHeartbeats 1000000 in
theorem ncopyR_step (N : Nat) (ih : ∀ k : Nd, sz k < N → CopyOk k) (t : Nd) (ht : sz t ≤ N) (hN : N ≤ 100000000) : CopyRow t := by
  intro gs w cs hr hgs
  refine calls_ev (args := [.agg cs.toArray]) mixed Try.func50 rfl (by kernel_rfl) ?_
  obtain ⟨Ap, cp, Av, cv, Ak, ck, Ah, ch, rfl, r1, r3, r4, r5⟩ := hr.node
  have hsz := sz_eq t
  have hsl := szs_len t.kids
  refine v_boxB (ncs t Ap cp Av cv Ak ck Ah ch) rfl ?_
  rintro g1 W1 hg1 hB1 hb1 hs1
  refine v_allocB zN al_nd ?_
  rintro g2 W2 hg2 hB2 hb2 hs2
  rw [hg1] at hb1
  rw [hg2] at hb2
  have A2 : At w W2 (some g2 :: gs) := ((At.start hgs).call hb1).new hb2 (fun b e => by injection e with e; omega)
  have s2 : Stp w gs W2 (some g2 :: gs) := (Stp.below hb1).trans (Stp.new hb2 (fun b e => by injection e with e; omega))
  have hF1 : FB W2 (some g2 :: gs) g1 38 (ncs t Ap cp Av cv Ak ck Ah ch) := FB.up (gs := gs) (FB.new hB1 hgs (by omega)) (Stp.new hb2 (fun b e => by injection e with e; omega))
  replace r1 := r1.up s2
  replace r3 := r3.up s2
  replace r4 := r4.up s2
  replace r5 := r5.up s2
  have hd2 : Stp W2 (some g2 :: gs) W2.drew (some g2 :: gs) := Stp.drew
  replace A2 := A2.drew
  replace hF1 := hF1.up hd2
  replace hB2 : Blk W2.drew g2 38 zN := hB2
  replace r1 := r1.up hd2
  replace r3 := r3.up hd2
  replace r4 := r4.up hd2
  replace r5 := r5.up hd2
  have hs2' : W2.drew.heap.size = g2 + 1 := hs2
  clear hB1 s2 hd2 hr
  refine drT (fun W => Blk W g1 38 (ncs t Ap cp Av cv Ak ck Ah ch)) (Sch.graft schCopy (.one 15 .nil)) (by kernel_rfl) hF1.blk ?_
  refine cutT (Option Addr × Nat × Option Addr × Nat × Option Addr × Nat × Nat) (fun s W => At w W (some s.2.2.2.2.2.2 :: some g2 :: gs) ∧ Stp W2.drew (some g2 :: gs) W (some s.2.2.2.2.2.2 :: some g2 :: gs) ∧ RdD W (Fz w.heap.size W (some s.2.2.2.2.2.2 :: some g2 :: gs)) (dB t.path) (.slice s.1 t.path.length s.2.1) ∧ RdD W (Fz w.heap.size W (some s.2.2.2.2.2.2 :: some g2 :: gs)) (dB t.val) (.slice s.2.2.1 t.val.length s.2.2.2.1) ∧
      RdD W (Fz w.heap.size W (some s.2.2.2.2.2.2 :: some g2 :: gs)) (dB t.hash) (.slice s.2.2.2.2.1 t.hash.length s.2.2.2.2.2.1) ∧ Blk W s.2.2.2.2.2.2 38 zN ∧ Blk W g2 38 zN ∧ W2.heap.size ≤ s.2.2.2.2.2.2 ∧ Blk W g1 38 (ncs t Ap cp Av cv Ak ck Ah ch))
    (fun s => [(1, .pointer (some ⟨g1, 0, none⟩)), (2, .pointer (some ⟨g2, 0, none⟩)), (3, .pointer (some ⟨s.2.2.2.2.2.2, 0, none⟩)), (19, .agg #[.int .i64 t.kind, .slice s.1 t.path.length s.2.1, .bool t.has, .slice s.2.2.1 t.val.length s.2.2.2.1, .slice none 0 0, .slice s.2.2.2.2.1 t.hash.length s.2.2.2.2.2.1])]) ?_ ?_
  · refine p_fld fN0 rfl ?_
    refine t_load agg_int rfl (fun W h => Blk.at_ h rfl) ?_
    refine p_fld fN2 rfl ?_
    refine t_load agg_bo rfl (fun W h => Blk.at_ h rfl) ?_
    refine p_fld fN1 rfl ?_
    refine t_load agg_b rfl (fun W h => Blk.at_ h rfl) ?_
    refine p_fld fN3 rfl ?_
    refine t_load agg_b rfl (fun W h => Blk.at_ h rfl) ?_
    refine p_fld fN5 rfl ?_
    refine t_load agg_b rfl (fun W h => Blk.at_ h rfl) ?_
    revert A2 hF1 hB2 r1 r3 r4 r5 hs2'
    generalize W2.drew = Wd
    intro A2 hF1 hB2 r1 r3 r4 r5 hs2'
    have S : Stp Wd (some g2 :: gs) Wd (some g2 :: gs) := Stp.refl
    refine ⟨?_, ?_⟩
    ·
      refine cc is_bclone (bclone_any _ Ap t.path.length cp t.path _ (r1.up S) (by omega)) ?_
      rintro e Wn ⟨A6, c6, rfl, ox, -, bx⟩
      try replace P := P.upz (Stp.below bx)
      try replace V := V.upz (Stp.below bx)
      have P := ox.zb A2.size A2.lt
      replace A2 := A2.call bx
      replace S := S.trans (Stp.below bx)
      replace hF1 := hF1.up (Stp.below bx)
      replace hB2 := hB2.below bx
      try replace hB3 := hB3.below bx
      refine ⟨_, rfl, hF1.blk, ?_⟩
      clear ox bx
      refine ⟨?_, ?_⟩
      ·
        refine cc is_bclone (bclone_any _ Av t.val.length cv t.val _ (r3.up S) (by omega)) ?_
        rintro e Wn ⟨A9, c9, rfl, ox, -, bx⟩
        try replace P := P.upz (Stp.below bx)
        try replace V := V.upz (Stp.below bx)
        have V := ox.zb A2.size A2.lt
        replace A2 := A2.call bx
        replace S := S.trans (Stp.below bx)
        replace hF1 := hF1.up (Stp.below bx)
        replace hB2 := hB2.below bx
        try replace hB3 := hB3.below bx
        refine ⟨_, rfl, hF1.blk, ?_⟩
        clear ox bx
        refine ⟨?_, ?_⟩
        ·
          refine cc is_bclone (bclone_any _ Ah t.hash.length ch t.hash _ (r5.up S) (by omega)) ?_
          rintro e Wn ⟨A12, c12, rfl, ox, -, bx⟩
          try replace P := P.upz (Stp.below bx)
          try replace V := V.upz (Stp.below bx)
          have H := ox.zb A2.size A2.lt
          replace A2 := A2.call bx
          replace S := S.trans (Stp.below bx)
          replace hF1 := hF1.up (Stp.below bx)
          replace hB2 := hB2.below bx
          try replace hB3 := hB3.below bx
          refine ⟨_, rfl, hF1.blk, ?_⟩
          clear ox bx
          refine p_build (vs := [.int .i64 t.kind, .slice A6 t.path.length c6, .bool t.has, .slice A9 t.val.length c9, .slice none 0 0, .slice A12 t.hash.length c12]) pl_nd z_nd rfl ?_
          refine v_allocB zN al_nd ?_
          rintro g3 Wn hg3 hB3 b3 hs3
          rw [hg3] at b3
          have hgl := S.size
          have St := Stp.new (gs := some g2 :: gs) (g := some g3) b3 (fun b e => by injection e with e; omega)
          replace A2 := A2.new b3 (g := some g3) (fun b e => by injection e with e; omega)
          replace S := S.trans St
          replace hF1 := hF1.up St
          replace hB2 := hB2.below b3
          try replace P := P.upz St
          try replace V := V.upz St
          try replace H := H.upz St
          refine ⟨hF1.blk, ?_⟩
          exact ⟨(A6, c6, A9, c9, A12, c12, g3), ⟨A2, S, P, V, H, hB3, hB2, by dsimp only; omega, hF1.blk⟩, ⟨rfl, rfl, rfl, rfl, trivial⟩⟩
        ·
          refine v_allocB zN al_nd ?_
          rintro g3 Wn hg3 hB3 b3 hs3
          rw [hg3] at b3
          have hgl := S.size
          have St := Stp.new (gs := some g2 :: gs) (g := some g3) b3 (fun b e => by injection e with e; omega)
          replace A2 := A2.new b3 (g := some g3) (fun b e => by injection e with e; omega)
          replace S := S.trans St
          replace hF1 := hF1.up St
          replace hB2 := hB2.below b3
          try replace P := P.upz St
          try replace V := V.upz St
          try replace H := H.upz St
          refine ⟨hF1.blk, ?_⟩
          refine cc is_bclone (bclone_any _ Ah t.hash.length ch t.hash _ (r5.up S) (by omega)) ?_
          rintro e Wn ⟨A12, c12, rfl, ox, -, bx⟩
          try replace P := P.upz (Stp.below bx)
          try replace V := V.upz (Stp.below bx)
          have H := ox.zb A2.size A2.lt
          replace A2 := A2.call bx
          replace S := S.trans (Stp.below bx)
          replace hF1 := hF1.up (Stp.below bx)
          replace hB2 := hB2.below bx
          try replace hB3 := hB3.below bx
          refine ⟨_, rfl, hF1.blk, ?_⟩
          clear ox bx
          refine p_build (vs := [.int .i64 t.kind, .slice A6 t.path.length c6, .bool t.has, .slice A9 t.val.length c9, .slice none 0 0, .slice A12 t.hash.length c12]) pl_nd z_nd rfl ?_
          exact ⟨(A6, c6, A9, c9, A12, c12, g3), ⟨A2, S, P, V, H, hB3, hB2, by dsimp only; omega, hF1.blk⟩, ⟨rfl, rfl, rfl, rfl, trivial⟩⟩
      ·
        refine v_allocB zN al_nd ?_
        rintro g3 Wn hg3 hB3 b3 hs3
        rw [hg3] at b3
        have hgl := S.size
        have St := Stp.new (gs := some g2 :: gs) (g := some g3) b3 (fun b e => by injection e with e; omega)
        replace A2 := A2.new b3 (g := some g3) (fun b e => by injection e with e; omega)
        replace S := S.trans St
        replace hF1 := hF1.up St
        replace hB2 := hB2.below b3
        try replace P := P.upz St
        try replace V := V.upz St
        try replace H := H.upz St
        refine ⟨hF1.blk, ?_⟩
        refine cc is_bclone (bclone_any _ Av t.val.length cv t.val _ (r3.up S) (by omega)) ?_
        rintro e Wn ⟨A9, c9, rfl, ox, -, bx⟩
        try replace P := P.upz (Stp.below bx)
        try replace V := V.upz (Stp.below bx)
        have V := ox.zb A2.size A2.lt
        replace A2 := A2.call bx
        replace S := S.trans (Stp.below bx)
        replace hF1 := hF1.up (Stp.below bx)
        replace hB2 := hB2.below bx
        try replace hB3 := hB3.below bx
        refine ⟨_, rfl, hF1.blk, ?_⟩
        clear ox bx
        refine cc is_bclone (bclone_any _ Ah t.hash.length ch t.hash _ (r5.up S) (by omega)) ?_
        rintro e Wn ⟨A12, c12, rfl, ox, -, bx⟩
        try replace P := P.upz (Stp.below bx)
        try replace V := V.upz (Stp.below bx)
        have H := ox.zb A2.size A2.lt
        replace A2 := A2.call bx
        replace S := S.trans (Stp.below bx)
        replace hF1 := hF1.up (Stp.below bx)
        replace hB2 := hB2.below bx
        try replace hB3 := hB3.below bx
        refine ⟨_, rfl, hF1.blk, ?_⟩
        clear ox bx
        refine p_build (vs := [.int .i64 t.kind, .slice A6 t.path.length c6, .bool t.has, .slice A9 t.val.length c9, .slice none 0 0, .slice A12 t.hash.length c12]) pl_nd z_nd rfl ?_
        exact ⟨(A6, c6, A9, c9, A12, c12, g3), ⟨A2, S, P, V, H, hB3, hB2, by dsimp only; omega, hF1.blk⟩, ⟨rfl, rfl, rfl, rfl, trivial⟩⟩
    ·
      refine v_allocB zN al_nd ?_
      rintro g3 Wn hg3 hB3 b3 hs3
      rw [hg3] at b3
      have hgl := S.size
      have St := Stp.new (gs := some g2 :: gs) (g := some g3) b3 (fun b e => by injection e with e; omega)
      replace A2 := A2.new b3 (g := some g3) (fun b e => by injection e with e; omega)
      replace S := S.trans St
      replace hF1 := hF1.up St
      replace hB2 := hB2.below b3
      try replace P := P.upz St
      try replace V := V.upz St
      try replace H := H.upz St
      refine ⟨hF1.blk, ?_⟩
      refine cc is_bclone (bclone_any _ Ap t.path.length cp t.path _ (r1.up S) (by omega)) ?_
      rintro e Wn ⟨A6, c6, rfl, ox, -, bx⟩
      try replace P := P.upz (Stp.below bx)
      try replace V := V.upz (Stp.below bx)
      have P := ox.zb A2.size A2.lt
      replace A2 := A2.call bx
      replace S := S.trans (Stp.below bx)
      replace hF1 := hF1.up (Stp.below bx)
      replace hB2 := hB2.below bx
      try replace hB3 := hB3.below bx
      refine ⟨_, rfl, hF1.blk, ?_⟩
      clear ox bx
      refine cc is_bclone (bclone_any _ Av t.val.length cv t.val _ (r3.up S) (by omega)) ?_
      rintro e Wn ⟨A9, c9, rfl, ox, -, bx⟩
      try replace P := P.upz (Stp.below bx)
      try replace V := V.upz (Stp.below bx)
      have V := ox.zb A2.size A2.lt
      replace A2 := A2.call bx
      replace S := S.trans (Stp.below bx)
      replace hF1 := hF1.up (Stp.below bx)
      replace hB2 := hB2.below bx
      try replace hB3 := hB3.below bx
      refine ⟨_, rfl, hF1.blk, ?_⟩
      clear ox bx
      refine cc is_bclone (bclone_any _ Ah t.hash.length ch t.hash _ (r5.up S) (by omega)) ?_
      rintro e Wn ⟨A12, c12, rfl, ox, -, bx⟩
      try replace P := P.upz (Stp.below bx)
      try replace V := V.upz (Stp.below bx)
      have H := ox.zb A2.size A2.lt
      replace A2 := A2.call bx
      replace S := S.trans (Stp.below bx)
      replace hF1 := hF1.up (Stp.below bx)
      replace hB2 := hB2.below bx
      try replace hB3 := hB3.below bx
      refine ⟨_, rfl, hF1.blk, ?_⟩
      clear ox bx
      refine p_build (vs := [.int .i64 t.kind, .slice A6 t.path.length c6, .bool t.has, .slice A9 t.val.length c9, .slice none 0 0, .slice A12 t.hash.length c12]) pl_nd z_nd rfl ?_
      exact ⟨(A6, c6, A9, c9, A12, c12, g3), ⟨A2, S, P, V, H, hB3, hB2, by dsimp only; omega, hF1.blk⟩, ⟨rfl, rfl, rfl, rfl, trivial⟩⟩
  · rintro ⟨A6, c6, A9, c9, A12, c12, g3⟩ B3 W3 ⟨A3, s3, P, V, H, hB3, hBz, hg3, hBb⟩
    dsimp only at A3 s3 P V H hB3 hg3
    have h23 : g2 < g3 := by have : W2.drew.heap.size = W2.heap.size := rfl; omega
    have h3l := hB3.lt
    have hwg2 : w.heap.size ≤ g2 := by have := hb1.size; omega
    refine v_storeA [.int .i64 t.kind, .slice A6 t.path.length c6, .bool t.has, .slice A9 t.val.length c9, .slice none 0 0, .slice A12 t.hash.length c12] sz_nd rfl rfl rfl (by intro u hu; simp at hu; rcases hu with rfl | rfl | rfl | rfl | rfl | rfl <;> rfl) hB3 rfl ?_
    rintro W4 hB4 hg4 hs4
    dsimp only at hB4 hg4
    have St4 : Stp W3 (some g3 :: some g2 :: gs) W4 (none :: some g3 :: some g2 :: gs) := (Stp.wrote hg4 (by simp)).trans (Stp.new (Below.refl _ _) (fun b e => by cases e))
    have A4 : At w W4 (none :: some g3 :: some g2 :: gs) := (A3.wrote hg4 (fun b e => by injection e with e; omega)).new (Below.refl _ _) (fun b e => by cases e)
    have s4 := s3.trans St4
    have hBz4 := hBz.grownN hg4 (by omega)
    have hBb4 := hBb.grownN hg4 (by have := hF1.blk.lt; omega)
    replace P := P.upz St4
    replace V := V.upz St4
    replace H := H.upz St4
    clear A3 s3 hB3 hBz hBb
    refine ⟨hBb4, ?_⟩
    refine p_fld fN4 rfl ?_
    refine v_load agg_ns rfl (hBb4.at_ rfl) ?_
    refine p_len sln rfl ?_
    refine lp (Nat × Option Addr × Nat) (fun s W => s.1 ≤ t.kids.length ∧ At w W (bk s.2.1 :: some g3 :: some g2 :: gs) ∧ Stp W2.drew (some g2 :: gs) W (bk s.2.1 :: some g3 :: some g2 :: gs) ∧ (RdD W (Fz w.heap.size W (bk s.2.1 :: some g3 :: some g2 :: gs)) (dB t.path) (.slice A6 t.path.length c6) ∧ RdD W (Fz w.heap.size W (bk s.2.1 :: some g3 :: some g2 :: gs)) (dB t.val) (.slice A9 t.val.length c9) ∧ RdD W (Fz w.heap.size W (bk s.2.1 :: some g3 :: some g2 :: gs)) (dB t.hash) (.slice A12 t.hash.length c12)) ∧
        (∃ xs, W.ownsRow w.heap.size 38 6 (.slice s.2.1 s.1 s.2.2) s.1 xs ∧ RdL W (Fz w.heap.size W (bk s.2.1 :: some g3 :: some g2 :: gs)) (dNs (t.kids.take s.1)) xs) ∧ (∀ b, bk s.2.1 = some b → g3 < b) ∧ Blk W g3 38 [.int .i64 t.kind, .slice A6 t.path.length c6, .bool t.has, .slice A9 t.val.length c9, .slice s.2.1 s.1 s.2.2, .slice A12 t.hash.length c12] ∧ Blk W g2 38 zN)
      (fun s => [(2, .pointer (some ⟨g2, 0, none⟩)), (3, .pointer (some ⟨g3, 0, none⟩)), (21, .slice Ak t.kids.length ck), (22, .int .i64 t.kids.length), (23, .int .i64 s.1)]) (fun s => t.kids.length - s.1) (0, none, 0)
      ⟨Nat.zero_le _, A4, s4, ⟨P, V, H⟩, ⟨[], World.ownsRow_nil _ _ _ _, RdL.nil_⟩, fun b e => (by cases e), hB4, hBz4⟩ ⟨rfl, rfl, rfl, rfl, rfl, trivial⟩ ?_
    clear P V H A4 s4 hB4 hBz4 hBb4 St4 hg4
    rintro ⟨i, A5, c5⟩ E5 W5 ⟨hi, A5', s5, ⟨P, V, H⟩, ⟨xs, hrow, hxs⟩, hAb, hB5, hBz⟩
    dsimp only at hi A5' s5 P V H hrow hxs hAb hB5
    refine p_lt rfl rfl (fun hlt => ?_) (fun hge => ?_)
    · obtain ⟨k, hki⟩ : ∃ k, t.kids[i]? = some k := ⟨_, List.getElem?_eq_getElem (by omega)⟩
      have hkm := List.mem_of_getElem? hki
      have hkz := szs_mem hkm
      obtain ⟨b, off, es, rfl, hF, hes, hel, hc⟩ := (r4.up s5).kid hki
      refine p_at sln rfl rfl rfl (by omega) ?_
      refine v_loadN es agg_nd rfl hel hc ?_
      refine v_allocB _ al_nd ?_
      rintro g6 W6 hg6 hB6 hb6 hs6
      refine v_storeA es sz_nd rfl rfl hel (hes.ones (dN_one k)) hB6 rfl ?_
      rintro W7 hB7 hg7 hs7
      rw [hg6] at hb6
      have hb7 : Below W5.heap.size W5 W7 := hb6.grown hg7 (by omega) (fun q hq => by injection hq with hq; omega)
      have hlt3 := hB5.lt
      have hB5' := (hB5.below hb7).drew
      have bd : Below W5.heap.size W5 W7.drew := hb7.drew
      refine drZ 7 (fun W => Blk W g3 38 [.int .i64 t.kind, .slice A6 t.path.length c6, .bool t.has, .slice A9 t.val.length c9, .slice A5 i c5, .slice A12 t.hash.length c12] ∧ Blk W g6 38 es) [(0, true), (1, true), (2, true), (3, false), (4, false), (5, false), (6, true)] (by kernel_rfl) ⟨hB5', hB7.drew⟩ ?_
      refine p_fld fN4 rfl ?_
      refine t_load agg_ns rfl (fun W h => Blk.at_ h.1 rfl) ?_
      refine t_loadN es agg_nd rfl hel (fun W h => Blk.run h.2 0 es (fun j v h => by rw [Nat.zero_add]; exact h)) ?_
      have s7 : Stp W5 (bk A5 :: some g3 :: some g2 :: gs) W7.drew (bk A5 :: some g3 :: some g2 :: gs) := Stp.below bd
      have A7 := A5'.call bd
      refine cc is_ncopy (ih k (by omega) _ W7.drew es (hes.up s7) A7.lt) ?_
      rintro e W8 ⟨es', rfl, hes', b8⟩
      have A8 := A7.call b8
      have hes8 := hes'.zfr A7.size A7.lt
      have s8 := s7.trans (Stp.below b8)
      refine ⟨_, rfl, ⟨hB5'.below b8, hB7.drew.below b8⟩, ?_⟩
      obtain ⟨Ap', cp', Av', cv', Ak', ck', Ah', ch', rfl, _⟩ := hes8.node
      refine v_bslice (vs := ncs k Ap' cp' Av' cv' Ak' ck' Ah' ch') sln z_nd rfl (by decide) rfl ?_
      rintro g9 W9 hg9 hB9 hb9 hs9
      rw [hg9] at hb9
      have A9' := A8.call hb9
      have s9 := s8.trans (Stp.below hb9)
      have hB59 := (hB5'.below b8).below hb9
      have hB79 := (hB7.drew.below b8).below hb9
      have hrow9 := ownsRow_below (ownsRow_below (ownsRow_below hrow bd) b8) hb9
      refine ⟨⟨hB59, hB79⟩, ?_⟩
      have hkl : dNs (t.kids.take (i + 1)) = dNs (t.kids.take i) ++ dN k := by
        rw [show t.kids.take (i + 1) = t.kids.take i ++ [k] by rw [List.take_add_one, hki]; rfl, dNs_app, dNs, dNs, List.append_nil]
      refine v_appR Try.underlying36 inf_nd rfl (by decide) rfl hrow9 rfl (Reads.blk (size := 6) (n := 1) hB9 rfl) (ncs_one k Ap' cp' Av' cv' Ak' ck' Ah' ch') ⟨by omega, by decide⟩ A9' ?_
      rintro A10 c10 W10 hrow10 St10 A10' - hg10 hb10
      have h3ne : bk A5 ≠ some g3 := fun e => by have := hAb g3 e; omega
      have h6ne : bk A5 ≠ some g6 := fun e => by have := A5'.lt g6 (by rw [e]; simp); omega
      have hB510 := hB59.grown hg10 (fun e => h3ne e)
      have hB710 := hB79.grown hg10 (fun e => h6ne e)
      have hl9 : W5.heap.size ≤ W9.heap.size := by have := s9.size; omega
      have hAb10 : ∀ b, bk A10 = some b → g3 < b := fun b e => by
        rcases hb10 b e with h | h
        · exact hAb b h
        · have := hB59.lt; omega
      have hBz10 := ((((hBz.below bd).below b8).below hb9)).grown hg10 (fun e => by have := hAb g2 e; omega)
      refine ⟨⟨hB510, hB710⟩, ?_⟩
      refine p_fld fN4 rfl ?_
      refine v_set (.slice A10 (i + 1) c10) sz_ns hB510 rfl rfl rfl (by show 4 < 6; decide) ?_
      rintro W11 hB11 hg11 hs11
      have s10 := s9.trans St10
      have St11 : Stp W10 (bk A10 :: some g3 :: some g2 :: gs) W11 (bk A10 :: some g3 :: some g2 :: gs) := Stp.wrote hg11 (by simp)
      have s11 := s10.trans St11
      refine p_add rfl rfl (r := ((i + 1 : Nat) : Int)) ((w64 (by omega)).trans (by omega)) ?_
      refine ⟨(i + 1, A10, c10), ⟨by dsimp only; omega, A10'.wrote hg11 (fun b e => by injection e with e; omega), s5.trans s11, ⟨P.upz s11, V.upz s11, H.upz s11⟩, ⟨_, row_kept' hrow10 hg11 (.inr (fun e => by have := hAb10 g3 e; omega)), ?_⟩, hAb10, hB11, hBz10.grownN hg11 (by omega)⟩, ⟨rfl, rfl, rfl, rfl, rfl, trivial⟩, by dsimp only; omega⟩
      dsimp only
      rw [hkl]
      exact (hxs.upz s11).app (((hes8.upz (Stp.below hb9)).upz St10).upz St11)
    · have hin : i = t.kids.length := by omega
      rw [List.take_of_length_le (by omega)] at hxs
      have hi' := hi
      subst hin
      refine v_loadN [.int .i64 t.kind, .slice A6 t.path.length c6, .bool t.has, .slice A9 t.val.length c9, .slice A5 t.kids.length c5, .slice A12 t.hash.length c12] agg_nd rfl rfl (hB5.run 0 _ (fun j v h => by rw [Nat.zero_add]; exact h)) ?_
      refine v_storeA [.int .i64 t.kind, .slice A6 t.path.length c6, .bool t.has, .slice A9 t.val.length c9, .slice A5 t.kids.length c5, .slice A12 t.hash.length c12] sz_nd rfl rfl rfl (by intro u hu; simp at hu; rcases hu with rfl | rfl | rfl | rfl | rfl | rfl <;> rfl) hBz rfl ?_
      rintro W6 hB6 hg6 hs6
      have St6 : Stp W5 (bk A5 :: some g3 :: some g2 :: gs) W6 (bk A5 :: some g3 :: some g2 :: gs) := Stp.wrote hg6 (by simp)
      refine c_loadN [.int .i64 t.kind, .slice A6 t.path.length c6, .bool t.has, .slice A9 t.val.length c9, .slice A5 t.kids.length c5, .slice A12 t.hash.length c12] agg_nd rfl rfl (hB6.run 0 _ (fun j v h => by rw [Nat.zero_add]; exact h)) ?_
      have hg3A : bk A5 ≠ some g2 := fun e => by have := hAb g2 e; omega
      have hw : ∀ b, Fz w.heap.size W6 (bk A5 :: some g3 :: some g2 :: gs) b → W6.heap[b]? = W6.heap[b]? ∧ Fz w.heap.size W6 [bk A5] b := fun b q => ⟨rfl, q.1, q.2.1, fun e => q.2.2.1 (by rw [List.mem_singleton.1 e]; exact List.mem_cons_self ..), q.2.2.2⟩
      exact ⟨A6, c6, A9, c9, A5, c5, A12, c12, xs, rfl, row_kept' hrow hg6 (.inr hg3A), (hxs.upz St6).to hw, ⟨(P.upz St6).to hw, (V.upz St6).to hw, (H.upz St6).to hw⟩, (A5'.wrote hg6 (fun b e => by injection e with e; omega)).below⟩
theorem ncopy_step (N : Nat) (ih : ∀ k : Nd, sz k < N → CopyOk k) (t : Nd) (ht : sz t ≤ N) (hN : N ≤ 100000000) : CopyOk t := (ncopyR_step N ih t ht hN).ok
theorem ncopy_any : ∀ (N : Nat), N ≤ 100000000 → ∀ t : Nd, sz t < N → CopyOk t
  | 0, _, t, h => by omega
  | N + 1, hN, t, h => ncopy_step N (fun k hk => ncopy_any N (by omega) k hk) t (by omega) (by omega)
end Go.Proofs.Ytliccofjlheceaa
namespace Go.Proofs.Ytliccofjlheceaa
theorem rightsP_all {even : Bool} {d : Nat} : ∀ {ks : List Nd}, rightsP even ks d = true → ∀ k ∈ ks, rightP even k d = true
  | [], _, k, h => by cases h
  | x :: ks, hr, k, h => by
    rw [rightsP, Bool.and_eq_true] at hr
    rcases List.mem_cons.1 h with rfl | h
    · exact hr.1
    · exact rightsP_all hr.2 k h
/-- The kinds of nodes that may be. -/
inductive Val (even : Bool) : Nd → Nat → Prop
  | none (d : Nat) (hd : d ≤ 400) : Val even noneN d
  | leaf (d : Nat) (p v : List UInt8) (hd : d ≤ 400) (hp : halvesB p = true) (hv : v.length ≤ 4000) (he : endsP (d + p.length) even = true) : Val even (.mk 1 p false v [] []) d
  | stub (d : Nat) (h : List UInt8) (hd : d ≤ 400) (hh : h.length = 32) : Val even (.mk 4 [] false [] [] h) d
  | way (d : Nat) (p : List UInt8) (k : Nd) (hd : d ≤ 400) (hp : halvesB p = true) (h0 : p ≠ []) (hk : k.kind = 3 ∨ k.kind = 4) (hr : Val even k (d + p.length)) : Val even (.mk 2 p false [] [k] []) d
  | branch (d : Nat) (has : Bool) (v : List UInt8) (ks : List Nd) (hd : d ≤ 400) (hv : v.length ≤ 4000) (hv0 : has = true ∨ v = []) (he : has = true → endsP d even = true) (h16 : ks.length = 16) (hr : ∀ k ∈ ks, Val even k (d + 1)) (hm : 2 ≤ (if has then 1 else 0) + manyN ks) : Val even (.mk 3 [] has v ks []) d
theorem nil_of_len {α : Type} {l : List α} (h : l.length = 0) : l = [] := List.eq_nil_of_length_eq_zero h
theorem val_of_right (even : Bool) : ∀ (N : Nat) (t : Nd) (d : Nat), sz t < N → rightP even t d = true → Val even t d
  | 0, t, d, h, _ => by omega
  | N + 1, t, d, hN, h => by
    have hsz := sz_eq t
    rw [rightP_eq] at h
    obtain ⟨k, p, has, v, ks, hs⟩ := t
    simp only [Nd.kind, Nd.path, Nd.has, Nd.val, Nd.kids, Nd.hash] at h hsz
    unfold ownP at h
    simp only [Bool.and_eq_true, decide_eq_true_eq] at h
    obtain ⟨hd, hv, hp, h⟩ := h
    by_cases h0 : k = 0
    · rw [if_pos h0] at h
      have h := of_decide_eq_true h
      obtain ⟨e1, e2, e3, e4, e5⟩ := h
      rw [nil_of_len e1, nil_of_len e2, nil_of_len e3, nil_of_len e4, e5, h0]
      exact .none d hd
    rw [if_neg h0] at h
    by_cases h1 : k = 1
    · rw [if_pos h1] at h
      simp only [Bool.and_eq_true, decide_eq_true_eq] at h
      obtain ⟨⟨e3, e4, e5⟩, he⟩ := h
      rw [nil_of_len e3, nil_of_len e4, e5, h1]
      exact .leaf d p v hd hp hv he
    rw [if_neg h1] at h
    by_cases h4 : k = 4
    · rw [if_pos h4] at h
      have h := of_decide_eq_true h
      obtain ⟨e1, e2, e3, e5, e6⟩ := h
      rw [nil_of_len e1, nil_of_len e2, nil_of_len e3, e5, h4]
      exact .stub d hs hd e6
    rw [if_neg h4] at h
    by_cases h2 : k = 2
    · rw [if_pos h2] at h
      simp only [Bool.and_eq_true, decide_eq_true_eq] at h
      obtain ⟨⟨e2, e4, e5, e1, e3⟩, hk, hr⟩ := h
      match ks, e3 with
      | [k0], _ =>
        rw [rightsP, rightsP, Bool.and_true] at hr
        have hz : szs [k0] = sz k0 := by rw [szs, szs]; omega
        rw [nil_of_len e2, nil_of_len e4, e5, h2]
        refine .way d p k0 hd hp (fun e => e1 (by rw [e]; rfl)) ?_ (val_of_right even N k0 _ (by omega) hr)
        unfold kindsB at hk
        rw [List.all_cons, Bool.and_eq_true, decide_eq_true_eq] at hk
        exact hk.1
    rw [if_neg h2] at h
    by_cases h3 : k = 3
    · rw [if_pos h3] at h
      simp only [Bool.and_eq_true, decide_eq_true_eq, Bool.or_eq_true, Bool.not_eq_true'] at h
      obtain ⟨⟨e1, e4, e5⟩, he, h16, hr, hm⟩ := h
      rw [nil_of_len e1, nil_of_len e4, h3]
      refine .branch d has v ks hd hv (e5.imp id nil_of_len) (fun e => by rcases he with he | he; rw [e] at he; cases he; exact he) h16 (fun k hk => val_of_right even N k _ (by have := szs_mem hk; omega) (rightsP_all hr k hk)) hm
    · rw [if_neg h3] at h; cases h
/-- What a look comes to: what stands there; is there something; the halves to a stub that is in the way. -/
structure GotN where
  v : List UInt8
  has : Bool
  miss : Option (List UInt8)
mutual
def getP : Nd → List UInt8 → GotN
  | .mk k p has v ks _, q =>
    if k = 4 then ⟨[], false, some []⟩
    else if k = 1 then ⟨v, decide (p = q), none⟩
    else if k = 2 then (if p <+: q then (let g := getsP ks 0 (q.drop p.length); ⟨g.v, g.has, g.miss.map (p ++ ·)⟩) else ⟨[], false, none⟩)
    else if k = 3 then (match q with
      | [] => ⟨v, has, none⟩
      | x :: q' => (let g := getsP ks x.toNat q'; ⟨g.v, g.has, g.miss.map (x :: ·)⟩))
    else ⟨[], false, none⟩
def getsP : List Nd → Nat → List UInt8 → GotN
  | [], _, _ => ⟨[], false, none⟩
  | t :: _, 0, q => getP t q
  | _ :: ts, i + 1, q => getsP ts i q
end
theorem getsP_at : ∀ {ks : List Nd} {i : Nat} {k : Nd} (q : List UInt8), ks[i]? = some k → getsP ks i q = getP k q
  | t :: ks, 0, k, q, h => by simp at h; subst h; rw [getsP]
  | t :: ks, i + 1, k, q, h => by rw [getsP]; exact getsP_at q (by simpa using h)
theorem getP_way0 {p q : List UInt8} {k : Nd} (h : ¬ p <+: q) : getP (.mk 2 p false [] [k] []) q = ⟨[], false, none⟩ := by unfold getP; simp [h]
theorem getP_way {p q : List UInt8} {k : Nd} (h : p <+: q) : getP (.mk 2 p false [] [k] []) q = ⟨(getP k (q.drop p.length)).v, (getP k (q.drop p.length)).has, (getP k (q.drop p.length)).miss.map (p ++ ·)⟩ := by
  have e := getsP_at (ks := [k]) (i := 0) (k := k) (q.drop p.length) rfl
  conv => lhs; rw [getP.eq_def]
  simp [h, e]
theorem getP_br0 {has : Bool} {v : List UInt8} {ks : List Nd} : getP (.mk 3 [] has v ks []) [] = ⟨v, has, none⟩ := by unfold getP; simp
theorem getP_br {has : Bool} {v : List UInt8} {ks : List Nd} {x : UInt8} {q : List UInt8} {k : Nd} (h : ks[x.toNat]? = some k) : getP (.mk 3 [] has v ks []) (x :: q) = ⟨(getP k q).v, (getP k q).has, (getP k q).miss.map (x :: ·)⟩ := by
  have e := getsP_at q h
  conv => lhs; rw [getP.eq_def]
  simp [e]
end Go.Proofs.Ytliccofjlheceaa
namespace Go.Proofs.Ytliccofjlheceaa
open Go.RowKit
theorem is_same0 : isFn Try.prog 14 = true := by kernel_rfl
theorem is_r7own : isFn Try.prog 80 = true := by kernel_rfl
theorem is_r7right : isFn Try.prog 53 = true := by kernel_rfl
theorem is_r7check : isFn Try.prog 46 = true := by kernel_rfl
theorem is_r7same : isFn Try.prog 25 = true := by kernel_rfl
theorem is_r7much : isFn Try.prog 42 = true := by kernel_rfl
def ownR (t : Nd) : Bool := halvesB t.path && (decide (t.val.length ≤ 4000 ∧ (t.has = true → t.kind = 3)) && (
  if t.kind = 0 then decide (t.path.length + t.val.length + t.kids.length + t.hash.length = 0)
  else if t.kind = 1 then decide (t.kids.length + t.hash.length = 0)
  else if t.kind = 2 then decide (0 < t.path.length ∧ t.kids.length = 1 ∧ t.val.length + t.hash.length = 0 ∧ ((t.kids.headD noneN).kind = 3 ∨ (t.kids.headD noneN).kind = 4))
  else if t.kind = 3 then decide (t.kids.length = 16 ∧ t.path.length + t.hash.length = 0 ∧ 2 ≤ manyN t.kids + (if t.has then 1 else 0) ∧ (t.has = true ∨ t.val.length = 0))
  else if t.kind = 4 then decide (t.hash.length = 32 ∧ t.path.length + t.val.length + t.kids.length = 0)
  else false))
theorem and_tt {a b : Bool} (h1 : a = true) (h2 : b = true) : true = (a && b) := by rw [h1, h2]; rfl
theorem and_tf {a b : Bool} (h2 : b = false) : false = (a && b) := by rw [h2, Bool.and_false]
theorem manyN_snoc (ks : List Nd) (k : Nd) : manyN (ks ++ [k]) = manyN ks + (if k.kind = 0 then 0 else 1) := by
  unfold manyN
  rw [List.filter_append, List.length_append, List.filter_cons, List.filter_nil]
  by_cases h : k.kind = 0
  · rw [if_neg (by simp [h]), if_pos h]; rfl
  · rw [if_pos (by simp [h]), if_neg h]; rfl
set_option maxRecDepth 100000 in
set_option maxHeartbeats 1000000 in
theorem r7own_any (t : Nd) (ht : sz t ≤ 1000000000000) (gs : List (Option Nat)) (w : World) (cs : List Value) (hr : RdL w (Fd w gs) (dN t) cs) (hgs : ∀ b, some b ∈ gs → b < w.heap.size) :
    Calls Try.prog 80 #[.agg cs.toArray] w fun e w' => e = .returned (.bool (ownR t)) ∧ Below w.heap.size w w' := by
  refine calls_ev (args := [.agg cs.toArray]) mixed Try.func80 rfl (by kernel_rfl) ?_
  obtain ⟨Ap, cp, Av, cv, Ak, ck, Ah, ch, rfl, r1, r3, r4, r5⟩ := hr.node
  have hsz := sz_eq t
  have hsl := szs_len t.kids
  have M := ((St.start hgs).addD r4).addD r1
  clear r1 r3 r4 r5 hr
  refine s_box (ncs t Ap cp Av cv Ak ck Ah ch) M rfl ?_
  clear M
  rintro g1 W M
  have hB := M.B 0 rfl
  unfold ncs at hB
  have hbel := M.below
  have hpr := (M.rdb 0 rfl).2.2
  repeat' first
    | (refine p_fld fN0 rfl ?_)
    | (refine p_fld fN1 rfl ?_)
    | (refine p_fld fN2 rfl ?_)
    | (refine p_fld fN3 rfl ?_)
    | (refine p_fld fN4 rfl ?_)
    | (refine p_fld fN5 rfl ?_)
    | (refine v_load agg_int rfl (hB.at_ rfl) ?_)
    | (refine v_load agg_b rfl (hB.at_ rfl) ?_)
    | (refine v_load agg_bo rfl (hB.at_ rfl) ?_)
    | (refine v_load agg_ns rfl (hB.at_ rfl) ?_)
    | (refine p_len slb rfl ?_)
    | (refine p_len sln rfl ?_)
  refine lp Nat (fun i W' => i ≤ t.path.length ∧ W = W' ∧ halvesB (t.path.take i) = true) (fun i => [(1, .pointer (some ⟨g1, 0, none⟩)), (3, .int .i64 t.path.length), (4, .int .i64 t.val.length), (5, .int .i64 t.kids.length), (6, .int .i64 t.hash.length), (7, .int .i64 i)]) (fun i => t.path.length - i) 0 ⟨Nat.zero_le _, rfl, by simp [halvesB]⟩ (by repeat (first | exact trivial | refine ⟨rfl, ?_⟩)) ?_
  rintro i E5 W5 ⟨hi, rfl, hh⟩
  refine p_lt rfl rfl (fun hlt => ?_) (fun hge => ?_)
  ·
    repeat' first
      | (refine p_fld fN0 rfl ?_)
      | (refine p_fld fN1 rfl ?_)
      | (refine p_fld fN2 rfl ?_)
      | (refine p_fld fN3 rfl ?_)
      | (refine p_fld fN4 rfl ?_)
      | (refine p_fld fN5 rfl ?_)
      | (refine v_load agg_int rfl (hB.at_ rfl) ?_)
      | (refine v_load agg_b rfl (hB.at_ rfl) ?_)
      | (refine v_load agg_bo rfl (hB.at_ rfl) ?_)
      | (refine v_load agg_ns rfl (hB.at_ rfl) ?_)
      | (refine p_len slb rfl ?_)
      | (refine p_len sln rfl ?_)
    obtain ⟨b, off, rfl, hc⟩ := hpr.at_ (k := i) (by omega)
    have hb := at8_lo t.path i
    have e8 : at8 t.path i = ((t.path.getD i 0).toNat : Int) := rfl
    refine p_at slb rfl rfl rfl (by omega) ?_
    refine v_load agg_by' rfl (by rw [Addr.add_lit, Nat.mul_one]; exact hc) ?_
    refine p_gt rfl rfl (fun h15 => ?_) (fun h15 => ?_)
    · have := halvesB_no t.path i (by omega) (by omega)
      exact ⟨by unfold ownR; rw [this]; rfl, hbel⟩
    · refine p_addN (b := 1) rfl rfl (by omega) ?_
      exact ⟨i + 1, ⟨by omega, rfl, halvesB_take t.path i (by omega) hh (by omega)⟩, (by repeat (first | exact trivial | refine ⟨rfl, ?_⟩)), by omega⟩
  · have hin : i = t.path.length := by omega
    subst hin
    rw [List.take_of_length_le (Nat.le_refl _)] at hh
    have e0 : ownR t = (decide (t.val.length ≤ 4000 ∧ (t.has = true → t.kind = 3)) && (
        if t.kind = 0 then decide (t.path.length + t.val.length + t.kids.length + t.hash.length = 0)
        else if t.kind = 1 then decide (t.kids.length + t.hash.length = 0)
        else if t.kind = 2 then decide (0 < t.path.length ∧ t.kids.length = 1 ∧ t.val.length + t.hash.length = 0 ∧ ((t.kids.headD noneN).kind = 3 ∨ (t.kids.headD noneN).kind = 4))
        else if t.kind = 3 then decide (t.kids.length = 16 ∧ t.path.length + t.hash.length = 0 ∧ 2 ≤ manyN t.kids + (if t.has then 1 else 0) ∧ (t.has = true ∨ t.val.length = 0))
        else if t.kind = 4 then decide (t.hash.length = 32 ∧ t.path.length + t.val.length + t.kids.length = 0)
        else false)) := by unfold ownR; rw [hh]; rfl
    refine p_gt rfl rfl (fun hv => ?_) (fun hv => ?_)
    · refine ⟨ret_tf ?_, hbel⟩
      rw [e0, decide_eq_false (by omega)]; rfl
    cases hh2 : t.has with
    | true =>
      rw [hh2] at hB e0
      repeat' first
        | (refine p_fld fN0 rfl ?_)
        | (refine p_fld fN1 rfl ?_)
        | (refine p_fld fN2 rfl ?_)
        | (refine p_fld fN3 rfl ?_)
        | (refine p_fld fN4 rfl ?_)
        | (refine p_fld fN5 rfl ?_)
        | (refine v_load agg_int rfl (hB.at_ rfl) ?_)
        | (refine v_load agg_b rfl (hB.at_ rfl) ?_)
        | (refine v_load agg_bo rfl (hB.at_ rfl) ?_)
        | (refine v_load agg_ns rfl (hB.at_ rfl) ?_)
        | (refine p_len slb rfl ?_)
        | (refine p_len sln rfl ?_)
      refine p_ne rfl rfl (fun h3 => ?_) (fun h3 => ?_)
      ·
        repeat' first
          | (refine p_fld fN0 rfl ?_)
          | (refine p_fld fN1 rfl ?_)
          | (refine p_fld fN2 rfl ?_)
          | (refine p_fld fN3 rfl ?_)
          | (refine p_fld fN4 rfl ?_)
          | (refine p_fld fN5 rfl ?_)
          | (refine v_load agg_int rfl (hB.at_ rfl) ?_)
          | (refine v_load agg_b rfl (hB.at_ rfl) ?_)
          | (refine v_load agg_bo rfl (hB.at_ rfl) ?_)
          | (refine v_load agg_ns rfl (hB.at_ rfl) ?_)
          | (refine p_len slb rfl ?_)
          | (refine p_len sln rfl ?_)
        refine p_eq rfl rfl (fun h => absurd (h3.symm.trans h) (by decide)) (fun _ => ?_)
        refine p_eq rfl rfl (fun h => absurd (h3.symm.trans h) (by decide)) (fun _ => ?_)
        refine p_eq rfl rfl (fun h => absurd (h3.symm.trans h) (by decide)) (fun _ => ?_)
        refine p_eq rfl rfl (fun _ => ?_) (fun h => absurd h3 h)
        simp only [h3, if_true, if_false, Int.reduceEq, forall_const, false_implies, true_implies, and_true, true_and, true_or, false_or, Bool.false_eq_true] at e0
        refine lp (Nat × Nat) (fun s W' => s.1 ≤ t.kids.length ∧ W = W' ∧ s.2 = manyN (t.kids.take s.1)) (fun s => [(1, .pointer (some ⟨g1, 0, none⟩)), (3, .int .i64 t.path.length), (4, .int .i64 t.val.length), (5, .int .i64 t.kids.length), (6, .int .i64 t.hash.length), (8, .int .i64 s.2), (9, .int .i64 s.1)]) (fun s => t.kids.length - s.1) (0, 0) ⟨Nat.zero_le _, rfl, by simp [manyN]⟩ (by repeat (first | exact trivial | refine ⟨rfl, ?_⟩)) ?_
        rintro ⟨i, m⟩ E6 W6 ⟨hi, rfl, hm⟩
        dsimp only at hi hm
        refine p_lt rfl rfl (fun hlt => ?_) (fun hge => ?_)
        · dsimp only at hlt
          obtain ⟨k, hki⟩ : ∃ k, t.kids[i]? = some k := ⟨_, List.getElem?_eq_getElem (by omega)⟩
          obtain ⟨b, off, es, e0', hF, hes, hel, hc⟩ := (M.d1 1 rfl).kid hki
          obtain ⟨Ap5, cp5, Av5, cv5, Ak5, ck5, Ah5, ch5, rfl, -⟩ := hes.node
          repeat' first
            | (refine p_fld fN0 rfl ?_)
            | (refine p_fld fN1 rfl ?_)
            | (refine p_fld fN2 rfl ?_)
            | (refine p_fld fN3 rfl ?_)
            | (refine p_fld fN4 rfl ?_)
            | (refine p_fld fN5 rfl ?_)
            | (refine v_load agg_int rfl (hB.at_ rfl) ?_)
            | (refine v_load agg_b rfl (hB.at_ rfl) ?_)
            | (refine v_load agg_bo rfl (hB.at_ rfl) ?_)
            | (refine v_load agg_ns rfl (hB.at_ rfl) ?_)
            | (refine p_len slb rfl ?_)
            | (refine p_len sln rfl ?_)
          refine p_at sln (by show (Value.slice Ak t.kids.length ck) = _; rw [e0']) rfl rfl (by omega) ?_
          refine p_fld fN0 rfl ?_
          refine v_load agg_int rfl (hc 0 _ rfl) ?_
          have hmn : manyN (t.kids.take (i + 1)) = manyN (t.kids.take i) + (if k.kind = 0 then 0 else 1) := by
            have h1 := List.getElem?_eq_some_iff.1 hki
            rw [List.take_succ_eq_append_getElem h1.1, h1.2, manyN_snoc]
          have hml : manyN (t.kids.take i) ≤ i := by
            unfold manyN
            exact Nat.le_trans (List.length_filter_le _ _) (by rw [List.length_take]; omega)
          refine p_ne rfl rfl (fun h0 => ?_) (fun h0 => ?_)
          · rw [if_pos h0] at hmn
            refine p_addN (b := 1) rfl rfl (by dsimp only; omega) ?_
            exact ⟨(i + 1, m), ⟨by dsimp only; omega, rfl, by dsimp only; omega⟩, (by repeat (first | exact trivial | refine ⟨rfl, ?_⟩)), by dsimp only; omega⟩
          · rw [if_neg h0] at hmn
            refine p_addN (b := 1) rfl rfl (by dsimp only; omega) ?_
            refine p_addN (b := 1) rfl rfl (by dsimp only; omega) ?_
            exact ⟨(i + 1, m + 1), ⟨by dsimp only; omega, rfl, by dsimp only; omega⟩, (by repeat (first | exact trivial | refine ⟨rfl, ?_⟩)), by dsimp only; omega⟩
        · dsimp only at hge
          have hin : i = t.kids.length := by omega
          subst hin
          rw [List.take_of_length_le (Nat.le_refl _)] at hm
          subst hm
          have hml : manyN t.kids ≤ t.kids.length := by unfold manyN; exact List.length_filter_le _ _
          repeat' first
            | (refine p_fld fN0 rfl ?_)
            | (refine p_fld fN1 rfl ?_)
            | (refine p_fld fN2 rfl ?_)
            | (refine p_fld fN3 rfl ?_)
            | (refine p_fld fN4 rfl ?_)
            | (refine p_fld fN5 rfl ?_)
            | (refine v_load agg_int rfl (hB.at_ rfl) ?_)
            | (refine v_load agg_b rfl (hB.at_ rfl) ?_)
            | (refine v_load agg_bo rfl (hB.at_ rfl) ?_)
            | (refine v_load agg_ns rfl (hB.at_ rfl) ?_)
            | (refine p_len slb rfl ?_)
            | (refine p_len sln rfl ?_)
          refine p_addN (b := 1) rfl rfl (by omega) ?_
          refine p_eq rfl rfl (fun h16 => ?_) (fun h16 => ?_)
          · skip
            refine p_addN rfl rfl (by omega) ?_
            refine p_eq rfl rfl (fun hph => ?_) (fun hph => ?_)
            · refine p_ge rfl rfl (fun h2 => ?_) (fun h2 => ?_)
              · dsimp only at h2
                repeat' first
                  | (refine p_fld fN0 rfl ?_)
                  | (refine p_fld fN1 rfl ?_)
                  | (refine p_fld fN2 rfl ?_)
                  | (refine p_fld fN3 rfl ?_)
                  | (refine p_fld fN4 rfl ?_)
                  | (refine p_fld fN5 rfl ?_)
                  | (refine v_load agg_int rfl (hB.at_ rfl) ?_)
                  | (refine v_load agg_b rfl (hB.at_ rfl) ?_)
                  | (refine v_load agg_bo rfl (hB.at_ rfl) ?_)
                  | (refine v_load agg_ns rfl (hB.at_ rfl) ?_)
                  | (refine p_len slb rfl ?_)
                  | (refine p_len sln rfl ?_)
                refine ⟨ret_tf ?_, hbel⟩
                rw [e0]
                first
                  | exact and_tt (decide_eq_true (by omega)) (decide_eq_true (by omega))
                  | exact and_tf (decide_eq_false (by omega))
              · dsimp only at h2
                refine ⟨ret_tf ?_, hbel⟩
                rw [e0]
                first
                  | exact and_tt (decide_eq_true (by omega)) (decide_eq_true (by omega))
                  | exact and_tf (decide_eq_false (by omega))
            ·
              refine ⟨ret_tf ?_, hbel⟩
              rw [e0]
              first
                | exact and_tt (decide_eq_true (by omega)) (decide_eq_true (by omega))
                | exact and_tf (decide_eq_false (by omega))
          · skip
            refine ⟨ret_tf ?_, hbel⟩
            rw [e0]
            first
              | exact and_tt (decide_eq_true (by omega)) (decide_eq_true (by omega))
              | exact and_tf (decide_eq_false (by omega))
      · refine ⟨ret_tf ?_, hbel⟩
        rw [e0, decide_eq_false (fun h => h3 (h.2 rfl))]; rfl
    | false =>
      rw [hh2] at hB e0
      repeat' first
        | (refine p_fld fN0 rfl ?_)
        | (refine p_fld fN1 rfl ?_)
        | (refine p_fld fN2 rfl ?_)
        | (refine p_fld fN3 rfl ?_)
        | (refine p_fld fN4 rfl ?_)
        | (refine p_fld fN5 rfl ?_)
        | (refine v_load agg_int rfl (hB.at_ rfl) ?_)
        | (refine v_load agg_b rfl (hB.at_ rfl) ?_)
        | (refine v_load agg_bo rfl (hB.at_ rfl) ?_)
        | (refine v_load agg_ns rfl (hB.at_ rfl) ?_)
        | (refine p_len slb rfl ?_)
        | (refine p_len sln rfl ?_)
      refine p_eq rfl rfl (fun hk0 => ?_) (fun hk0 => ?_)
      ·
        simp only [hk0, if_true, if_false, Int.reduceEq, forall_const, false_implies, true_implies, and_true, true_and, true_or, false_or, Bool.false_eq_true] at e0
        refine p_addN rfl rfl (by omega) ?_
        refine p_addN rfl rfl (by omega) ?_
        refine p_addN rfl rfl (by omega) ?_
        refine p_eq rfl rfl (fun hq => ?_) (fun hq => ?_)
        ·
          refine ⟨ret_tf ?_, hbel⟩
          rw [e0]
          first
            | exact and_tt (decide_eq_true (by omega)) (decide_eq_true (by omega))
            | exact and_tf (decide_eq_false (by omega))
        ·
          refine ⟨ret_tf ?_, hbel⟩
          rw [e0]
          first
            | exact and_tt (decide_eq_true (by omega)) (decide_eq_true (by omega))
            | exact and_tf (decide_eq_false (by omega))
      refine p_eq rfl rfl (fun hk1 => ?_) (fun hk1 => ?_)
      ·
        simp only [hk1, if_true, if_false, Int.reduceEq, forall_const, false_implies, true_implies, and_true, true_and, true_or, false_or, Bool.false_eq_true] at e0
        refine p_addN rfl rfl (by omega) ?_
        refine p_eq rfl rfl (fun hq => ?_) (fun hq => ?_)
        ·
          refine ⟨ret_tf ?_, hbel⟩
          rw [e0]
          first
            | exact and_tt (decide_eq_true (by omega)) (decide_eq_true (by omega))
            | exact and_tf (decide_eq_false (by omega))
        ·
          refine ⟨ret_tf ?_, hbel⟩
          rw [e0]
          first
            | exact and_tt (decide_eq_true (by omega)) (decide_eq_true (by omega))
            | exact and_tf (decide_eq_false (by omega))
      refine p_eq rfl rfl (fun hk2 => ?_) (fun hk2 => ?_)
      ·
        simp only [hk2, if_true, if_false, Int.reduceEq, forall_const, false_implies, true_implies, and_true, true_and, true_or, false_or, Bool.false_eq_true] at e0
        refine p_gt rfl rfl (fun hp0 => ?_) (fun hp0 => ?_)
        · refine p_eq rfl rfl (fun hq1 => ?_) (fun hq1 => ?_)
          · have hq1' : t.kids.length = 1 := by omega
            refine p_addN rfl rfl (by omega) ?_
            refine p_eq rfl rfl (fun hq2 => ?_) (fun hq2 => ?_)
            · obtain ⟨k, hki⟩ : ∃ k, t.kids[0]? = some k := ⟨_, List.getElem?_eq_getElem (by omega)⟩
              have hkd : t.kids.headD noneN = k := by
                cases hks : t.kids with
                | nil => rw [hks] at hki; cases hki
                | cons a l => rw [hks] at hki; injection hki
              obtain ⟨b, off, es, e0', hF, hes, hel, hc⟩ := (M.d1 1 rfl).kid hki
              obtain ⟨Ap5, cp5, Av5, cv5, Ak5, ck5, Ah5, ch5, rfl, -⟩ := hes.node
              rw [hkd] at e0
              repeat' first
                | (refine p_fld fN0 rfl ?_)
                | (refine p_fld fN1 rfl ?_)
                | (refine p_fld fN2 rfl ?_)
                | (refine p_fld fN3 rfl ?_)
                | (refine p_fld fN4 rfl ?_)
                | (refine p_fld fN5 rfl ?_)
                | (refine v_load agg_int rfl (hB.at_ rfl) ?_)
                | (refine v_load agg_b rfl (hB.at_ rfl) ?_)
                | (refine v_load agg_bo rfl (hB.at_ rfl) ?_)
                | (refine v_load agg_ns rfl (hB.at_ rfl) ?_)
                | (refine p_len slb rfl ?_)
                | (refine p_len sln rfl ?_)
              refine p_at (i := 0) sln (by show (Value.slice Ak t.kids.length ck) = _; rw [e0']) rfl rfl (by omega) ?_
              refine p_fld fN0 rfl ?_
              refine v_load agg_int rfl (hc 0 _ rfl) ?_
              refine p_eq rfl rfl (fun hq3 => ?_) (fun hq3 => ?_)
              ·
                refine ⟨ret_tf ?_, hbel⟩
                rw [e0]
                first
                  | exact and_tt (decide_eq_true (by omega)) (decide_eq_true (by omega))
                  | exact and_tf (decide_eq_false (by omega))
              ·
                repeat' first
                  | (refine p_fld fN0 rfl ?_)
                  | (refine p_fld fN1 rfl ?_)
                  | (refine p_fld fN2 rfl ?_)
                  | (refine p_fld fN3 rfl ?_)
                  | (refine p_fld fN4 rfl ?_)
                  | (refine p_fld fN5 rfl ?_)
                  | (refine v_load agg_int rfl (hB.at_ rfl) ?_)
                  | (refine v_load agg_b rfl (hB.at_ rfl) ?_)
                  | (refine v_load agg_bo rfl (hB.at_ rfl) ?_)
                  | (refine v_load agg_ns rfl (hB.at_ rfl) ?_)
                  | (refine p_len slb rfl ?_)
                  | (refine p_len sln rfl ?_)
                refine p_at (i := 0) sln (by show (Value.slice Ak t.kids.length ck) = _; rw [e0']) rfl rfl (by omega) ?_
                refine p_fld fN0 rfl ?_
                refine v_load agg_int rfl (hc 0 _ rfl) ?_
                refine p_eq rfl rfl (fun hq4 => ?_) (fun hq4 => ?_)
                ·
                  refine ⟨ret_tf ?_, hbel⟩
                  rw [e0]
                  first
                    | exact and_tt (decide_eq_true (by omega)) (decide_eq_true (by omega))
                    | exact and_tf (decide_eq_false (by omega))
                ·
                  refine ⟨ret_tf ?_, hbel⟩
                  rw [e0]
                  first
                    | exact and_tt (decide_eq_true (by omega)) (decide_eq_true (by omega))
                    | exact and_tf (decide_eq_false (by omega))
            ·
              refine ⟨ret_tf ?_, hbel⟩
              rw [e0]
              first
                | exact and_tt (decide_eq_true (by omega)) (decide_eq_true (by omega))
                | exact and_tf (decide_eq_false (by omega))
          · have hq1' : t.kids.length ≠ 1 := by omega
            refine ⟨ret_tf ?_, hbel⟩
            rw [e0]
            first
              | exact and_tt (decide_eq_true (by omega)) (decide_eq_true (by omega))
              | exact and_tf (decide_eq_false (by omega))
        · have hp0' : ¬ 0 < t.path.length := by omega
          refine ⟨ret_tf ?_, hbel⟩
          rw [e0]
          first
            | exact and_tt (decide_eq_true (by omega)) (decide_eq_true (by omega))
            | exact and_tf (decide_eq_false (by omega))
      refine p_eq rfl rfl (fun h3 => ?_) (fun h3 => ?_)
      ·
        simp only [h3, if_true, if_false, Int.reduceEq, forall_const, false_implies, true_implies, and_true, true_and, true_or, false_or, Bool.false_eq_true] at e0
        refine lp (Nat × Nat) (fun s W' => s.1 ≤ t.kids.length ∧ W = W' ∧ s.2 = manyN (t.kids.take s.1)) (fun s => [(1, .pointer (some ⟨g1, 0, none⟩)), (3, .int .i64 t.path.length), (4, .int .i64 t.val.length), (5, .int .i64 t.kids.length), (6, .int .i64 t.hash.length), (8, .int .i64 s.2), (9, .int .i64 s.1)]) (fun s => t.kids.length - s.1) (0, 0) ⟨Nat.zero_le _, rfl, by simp [manyN]⟩ (by repeat (first | exact trivial | refine ⟨rfl, ?_⟩)) ?_
        rintro ⟨i, m⟩ E6 W6 ⟨hi, rfl, hm⟩
        dsimp only at hi hm
        refine p_lt rfl rfl (fun hlt => ?_) (fun hge => ?_)
        · dsimp only at hlt
          obtain ⟨k, hki⟩ : ∃ k, t.kids[i]? = some k := ⟨_, List.getElem?_eq_getElem (by omega)⟩
          obtain ⟨b, off, es, e0', hF, hes, hel, hc⟩ := (M.d1 1 rfl).kid hki
          obtain ⟨Ap5, cp5, Av5, cv5, Ak5, ck5, Ah5, ch5, rfl, -⟩ := hes.node
          repeat' first
            | (refine p_fld fN0 rfl ?_)
            | (refine p_fld fN1 rfl ?_)
            | (refine p_fld fN2 rfl ?_)
            | (refine p_fld fN3 rfl ?_)
            | (refine p_fld fN4 rfl ?_)
            | (refine p_fld fN5 rfl ?_)
            | (refine v_load agg_int rfl (hB.at_ rfl) ?_)
            | (refine v_load agg_b rfl (hB.at_ rfl) ?_)
            | (refine v_load agg_bo rfl (hB.at_ rfl) ?_)
            | (refine v_load agg_ns rfl (hB.at_ rfl) ?_)
            | (refine p_len slb rfl ?_)
            | (refine p_len sln rfl ?_)
          refine p_at sln (by show (Value.slice Ak t.kids.length ck) = _; rw [e0']) rfl rfl (by omega) ?_
          refine p_fld fN0 rfl ?_
          refine v_load agg_int rfl (hc 0 _ rfl) ?_
          have hmn : manyN (t.kids.take (i + 1)) = manyN (t.kids.take i) + (if k.kind = 0 then 0 else 1) := by
            have h1 := List.getElem?_eq_some_iff.1 hki
            rw [List.take_succ_eq_append_getElem h1.1, h1.2, manyN_snoc]
          have hml : manyN (t.kids.take i) ≤ i := by
            unfold manyN
            exact Nat.le_trans (List.length_filter_le _ _) (by rw [List.length_take]; omega)
          refine p_ne rfl rfl (fun h0 => ?_) (fun h0 => ?_)
          · rw [if_pos h0] at hmn
            refine p_addN (b := 1) rfl rfl (by dsimp only; omega) ?_
            exact ⟨(i + 1, m), ⟨by dsimp only; omega, rfl, by dsimp only; omega⟩, (by repeat (first | exact trivial | refine ⟨rfl, ?_⟩)), by dsimp only; omega⟩
          · rw [if_neg h0] at hmn
            refine p_addN (b := 1) rfl rfl (by dsimp only; omega) ?_
            refine p_addN (b := 1) rfl rfl (by dsimp only; omega) ?_
            exact ⟨(i + 1, m + 1), ⟨by dsimp only; omega, rfl, by dsimp only; omega⟩, (by repeat (first | exact trivial | refine ⟨rfl, ?_⟩)), by dsimp only; omega⟩
        · dsimp only at hge
          have hin : i = t.kids.length := by omega
          subst hin
          rw [List.take_of_length_le (Nat.le_refl _)] at hm
          subst hm
          have hml : manyN t.kids ≤ t.kids.length := by unfold manyN; exact List.length_filter_le _ _
          repeat' first
            | (refine p_fld fN0 rfl ?_)
            | (refine p_fld fN1 rfl ?_)
            | (refine p_fld fN2 rfl ?_)
            | (refine p_fld fN3 rfl ?_)
            | (refine p_fld fN4 rfl ?_)
            | (refine p_fld fN5 rfl ?_)
            | (refine v_load agg_int rfl (hB.at_ rfl) ?_)
            | (refine v_load agg_b rfl (hB.at_ rfl) ?_)
            | (refine v_load agg_bo rfl (hB.at_ rfl) ?_)
            | (refine v_load agg_ns rfl (hB.at_ rfl) ?_)
            | (refine p_len slb rfl ?_)
            | (refine p_len sln rfl ?_)
          skip
          refine p_eq rfl rfl (fun h16 => ?_) (fun h16 => ?_)
          · skip
            refine p_addN rfl rfl (by omega) ?_
            refine p_eq rfl rfl (fun hph => ?_) (fun hph => ?_)
            · refine p_ge rfl rfl (fun h2 => ?_) (fun h2 => ?_)
              · dsimp only at h2
                repeat' first
                  | (refine p_fld fN0 rfl ?_)
                  | (refine p_fld fN1 rfl ?_)
                  | (refine p_fld fN2 rfl ?_)
                  | (refine p_fld fN3 rfl ?_)
                  | (refine p_fld fN4 rfl ?_)
                  | (refine p_fld fN5 rfl ?_)
                  | (refine v_load agg_int rfl (hB.at_ rfl) ?_)
                  | (refine v_load agg_b rfl (hB.at_ rfl) ?_)
                  | (refine v_load agg_bo rfl (hB.at_ rfl) ?_)
                  | (refine v_load agg_ns rfl (hB.at_ rfl) ?_)
                  | (refine p_len slb rfl ?_)
                  | (refine p_len sln rfl ?_)
                refine p_eq rfl rfl (fun hv0 => ?_) (fun hv0 => ?_)
                ·
                  refine ⟨ret_tf ?_, hbel⟩
                  rw [e0]
                  first
                    | exact and_tt (decide_eq_true (by omega)) (decide_eq_true (by omega))
                    | exact and_tf (decide_eq_false (by omega))
                ·
                  refine ⟨ret_tf ?_, hbel⟩
                  rw [e0]
                  first
                    | exact and_tt (decide_eq_true (by omega)) (decide_eq_true (by omega))
                    | exact and_tf (decide_eq_false (by omega))
              · dsimp only at h2
                refine ⟨ret_tf ?_, hbel⟩
                rw [e0]
                first
                  | exact and_tt (decide_eq_true (by omega)) (decide_eq_true (by omega))
                  | exact and_tf (decide_eq_false (by omega))
            ·
              refine ⟨ret_tf ?_, hbel⟩
              rw [e0]
              first
                | exact and_tt (decide_eq_true (by omega)) (decide_eq_true (by omega))
                | exact and_tf (decide_eq_false (by omega))
          · skip
            refine ⟨ret_tf ?_, hbel⟩
            rw [e0]
            first
              | exact and_tt (decide_eq_true (by omega)) (decide_eq_true (by omega))
              | exact and_tf (decide_eq_false (by omega))
      refine p_eq rfl rfl (fun hk4 => ?_) (fun hk4 => ?_)
      ·
        simp only [hk4, if_true, if_false, Int.reduceEq, forall_const, false_implies, true_implies, and_true, true_and, true_or, false_or, Bool.false_eq_true] at e0
        refine p_eq rfl rfl (fun hq => ?_) (fun hq => ?_)
        · refine p_addN rfl rfl (by omega) ?_
          refine p_addN rfl rfl (by omega) ?_
          refine p_eq rfl rfl (fun hq2 => ?_) (fun hq2 => ?_)
          ·
            refine ⟨ret_tf ?_, hbel⟩
            rw [e0]
            first
              | exact and_tt (decide_eq_true (by omega)) (decide_eq_true (by omega))
              | exact and_tf (decide_eq_false (by omega))
          ·
            refine ⟨ret_tf ?_, hbel⟩
            rw [e0]
            first
              | exact and_tt (decide_eq_true (by omega)) (decide_eq_true (by omega))
              | exact and_tf (decide_eq_false (by omega))
        ·
          refine ⟨ret_tf ?_, hbel⟩
          rw [e0]
          first
            | exact and_tt (decide_eq_true (by omega)) (decide_eq_true (by omega))
            | exact and_tf (decide_eq_false (by omega))
      · refine ⟨ret_tf ?_, hbel⟩
        rw [e0, if_neg hk0, if_neg hk1, if_neg hk2, if_neg h3, if_neg hk4, Bool.and_false]
end Go.Proofs.Ytliccofjlheceaa
namespace Go.Proofs.Ytliccofjlheceaa
open Go.RowKit
theorem halvesB_drop {q : List UInt8} {n : Nat} (h : halvesB q = true) : halvesB (q.drop n) = true := by
  unfold halvesB at *
  rw [List.all_eq_true] at *
  exact fun x hx => h x (List.mem_of_mem_drop hx)
def missOk (W : World) (F : Nat → Prop) (way : List UInt8) (m : Option (List UInt8)) (A : Option Addr) (n c : Nat) : Prop :=
  match m with
  | none => A = none ∧ n = 0 ∧ c = 0
  | some r => A ≠ none ∧ RdD W F (dB (way ++ r)) (.slice A n c)
theorem Own.fr {W W' : World} {n c : Nat} {A : Option Addr} {l : List UInt8} (h : Own W' W.heap.size A n c l) : RdD W' (Fr W W') (dB l) (.slice A n c) := h.frB fun b h1 h2 h3 => ⟨h1, h2, row_thaw h h3⟩
theorem Fr.more {W W1 W' : World} {d : D} {u : Value} (h : RdD W' (Fr W1 W') d u) (hb : W.heap.size ≤ W1.heap.size) : RdD W' (Fr W W') d u := h.to fun b hb' => ⟨rfl, by have := hb'.1; omega, hb'.2⟩
theorem missOk.more {W W1 W' : World} {way : List UInt8} {m : Option (List UInt8)} {A : Option Addr} {n c : Nat} (h : missOk W' (Fr W1 W') way m A n c) (hb : W.heap.size ≤ W1.heap.size) : missOk W' (Fr W W') way m A n c := by
  unfold missOk at *
  cases m with
  | none => exact h
  | some r => exact ⟨h.1, Fr.more h.2 hb⟩
end Go.Proofs.Ytliccofjlheceaa
