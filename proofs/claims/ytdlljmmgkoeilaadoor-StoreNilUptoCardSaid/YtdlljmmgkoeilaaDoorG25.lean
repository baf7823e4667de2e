/- Numbers and bytes in one way: plain laws of what stands at a place. Lists of bytes as bytes: plain laws: what is joined is split as it was, what is split is joined as it was, one byte more, one byte less. The walks of the laws NodeFolds and NodeDigests. The walk of the law NodeSame. Nodes' bytes, plainly: what is written is read. Package pack: what is sent and what is read, plainly. Package pack: what is sent is read. Package pack: the sender. Package pack: the reader's small methods. Package pack: the reader's again. Package pack: the sender's node and branch. Package pack: the sender's node. Package pack: the reader's branch. Package pack: the reader's node. Package pack: Pack, Size, Unpack. Reference 11: kids. Reference 11: head. Reference 07: Count. Reference 11: send, Pack. Reference 11: Pack. The walk of the law StoreNil. What the rows' list of package variables gives: the tables o -/
import Derived.Test.YtdlljmmgkoeilaaDoorG22
import Derived.Test.YtdlljmmgkoeilaaDoorG24
import Derived.Test.YtdlljmmgkoeilaaDoorG23
import Derived.Test.YtdlljmmgkoeilaaDoorG16
import Derived.Test.YtdlljmmgkoeilaaDoorG07
import Derived.Test.YtdlljmmgkoeilaaDoorG14
import Derived.Test.YtdlljmmgkoeilaaDoorG15
import Derived.Test.YtdlljmmgkoeilaaDoorG13
import Derived.Test.YtdlljmmgkoeilaaDoorRows
import Derived.Lib.LaidTab
import Derived.MakeChecks
namespace Go.Proofs.YtdlljmmgkoeilaaDoor
open Go.RowKit
/-- What comes of reading. -/
inductive Rr where
  | bad (e : Int)
  | got (n : Nd) (b : List UInt8) (done : List Nd) (left : Int)
inductive Rk where
  | bad (e : Int)
  | got (ks : List Nd) (b : List UInt8) (done : List Nd) (left : Int)
end Go.Proofs.YtdlljmmgkoeilaaDoor
namespace Go.Proofs.YtdlljmmgkoeilaaDoor
open Go.RowKit
/-- A row as a block, and back. -/
theorem St.rowBlkS {w W : World} {gs : List (Option Nat)} {L : Lc} {R : List Row} {fs : List Fact} {e : TypeId} {s n c : Nat} {A : Option Addr} {xs : List Value} (M : St w gs W L (⟨e, s, A, n, c, xs⟩ :: R) fs) (hn : 0 < n) : ∃ g rest, A = some ⟨g, 0, none⟩ ∧ n ≤ c ∧ c ≤ maxLen ∧ xs.length = n * s ∧ (xs ++ rest).length = c * s ∧ St w gs W ((g, e, xs ++ rest) :: L) R fs := by
  have hrow := M.row _ (List.mem_cons_self ..)
  obtain ⟨g, rest, hA, hnc, M2⟩ := M.rowBlk hn
  subst hA
  rcases hrow.2 with ⟨hv, h0⟩ | ⟨g', cap, cur, hv, hb, hh, h1, h2, h3, h4⟩
  · simp only at h0; omega
  · injection hv with e1 e2 e3
    dsimp only at e1 e3 h4
    injection e1 with e1
    injection e1 with e1 _ _
    subst e1; subst e3
    refine ⟨_, rest, rfl, hnc, h2, hrow.1, ?_, M2⟩
    have hB := M2.B 0 rfl
    unfold Blk at hB
    dsimp only at hh
    rw [hh] at hB
    injection hB with hB
    injection hB with hB _ _
    have := congrArg Array.size hB
    simp only [List.size_toArray] at this
    rw [← this, h3]
end Go.Proofs.YtdlljmmgkoeilaaDoor
namespace Go.Proofs.YtdlljmmgkoeilaaDoor
open Go.RowKit
section
variable {w W : World} {gs : List (Option Nat)} {g : Nat} {L : Lc} {R : List Row} {fs : List Fact} {A : Option Addr} {n c : Nat} {Ad : Option Addr} {nd cd : Nat} {left e : Int} {b : List UInt8}
/-- What a reader is that has failed. -/
def fe (e x : Int) : Int := if e = 0 then x else e
end
end Go.Proofs.YtdlljmmgkoeilaaDoor
namespace Go.Proofs.YtdlljmmgkoeilaaDoor
open Go.RowKit
theorem Val.kinds {even : Bool} {t : Nd} {d : Nat} (h : Val even t d) : t.kind = 0 ∨ t.kind = 1 ∨ t.kind = 2 ∨ t.kind = 3 ∨ t.kind = 4 := by
  cases h with
  | none => exact .inl rfl
  | leaf => exact .inr (.inl rfl)
  | way => exact .inr (.inr (.inl rfl))
  | branch => exact .inr (.inr (.inr (.inl rfl)))
  | stub => exact .inr (.inr (.inr (.inr rfl)))
end Go.Proofs.YtdlljmmgkoeilaaDoor
namespace Go.Proofs.YtdlljmmgkoeilaaDoor
open Go.RowKit
inductive Rb where
  | bad (e : Int)
  | got (has : Bool) (v : List UInt8) (ks : List Nd) (b : List UInt8) (done : List Nd) (left : Int)
end Go.Proofs.YtdlljmmgkoeilaaDoor
namespace Go.Proofs.YtdlljmmgkoeilaaDoor
open Go.RowKit
def fieldIn (P : Program) (t : TypeId) (f : Nat) : Option (TypeId × Nat) :=
  match P.underlying t with
  | some (.struct fs) => fs[f]?.map fun x => (x.type, x.offset)
  | _ => none
/-- A field of a struct at hand, of one cell. -/
theorem p_field1 {P : Program} {E : Env} {d : Option Nat} {ty : TypeId} {p : String} {af : Array Edge} {g : Option (Nat × Bool)} {x : Operand} {t e : TypeId} {f off s : Nat} {k : Value → Prop} {vs : List Value} {v : Value} (hT : fieldIn P t f = some (e, off)) (ha : aggOf P e = some (false, s)) (hx : val E x = .agg vs.toArray) (hv : vs[off]? = some v) (h : k v) :
    VPure P E { dst := d, op := .field t x f, type := ty, pos := p, after := af, guard := g } k :=
  pp (fun w => by
    unfold fieldIn at hT
    split at hT
    · rename_i fs hu
      obtain ⟨fl, hf, he⟩ := Option.map_eq_some_iff.1 hT
      injection he with e1 e2
      subst e1 e2
      have hq := (aggOf_run ha w).1
      simp [execOp, hx, Instr.field, run_underlying hu, hf, part, asAgg, hq, hv]
    · cases hT) h
end Go.Proofs.YtdlljmmgkoeilaaDoor
namespace Go.Proofs.YtdlljmmgkoeilaaDoor
open Go.RowKit


theorem fin_kind : fieldIn Tryd.prog 28 0 = some (3, 0) := by kernel_rfl
theorem is_spoil0 : isFn Tryd.prog 16 = true := by kernel_rfl
set_option maxRecDepth 100000 in
set_option maxHeartbeats 8000000 in
theorem storeNil_walk (w : World) (hG : GL w []) {A0 : Option Addr} {n0 c0 : Nat} {l : List Pr} (g0 : RdD w (Fd w []) (dPl l) (.slice A0 n0 c0)) (b0 : (l.map fun t => t.k.length + t.v.length + 3).sum ≤ 1048576) {d : Do} {cd : List Value} (g1 : RdL w (Fd w []) (dDo d) cd) (b1 : d.key.length + d.val.length + 4 ≤ 1048576) :
    Calls Tryd.prog 3 #[.slice A0 n0 c0, .agg cd.toArray] w (RetTrue w) := by
  refine calls_ev (args := [.slice A0 n0 c0, .agg cd.toArray]) mixed Tryd.func3 rfl (by kernel_rfl) ?_
  have hbk := prBulk_le l
  have hdc := g1.len
  rw [dDo_len] at hdc
  have M := ((St.start (w := w) (gs := []) (fun b h => by cases h)).addL g1).addD g0
  clear g0 g1
  refine s_box (cd) M rfl ?_
  clear M
  rintro g3 W M
  obtain ⟨T, hT⟩ : ∃ T, T = tOf l := ⟨_, rfl⟩
  have hTz := tOf_sz l
  rw [← hT] at hTz
  refine cc is_r8of (r8of_any 401 (Nat.le_refl _) l _ _ _ _ _ (M.d1 0 rfl) M.olt (prBig_of b0)) ?_
  rintro e W ⟨cs, he, hres, hb⟩
  rw [← tOf_eq (Nat.le_refl _), ← hT] at he hres
  subst he
  have hc5 := hres.len
  rw [dN_len] at hc5
  replace M := (M.call hb).addL hres
  clear hres hb
  refine ⟨_, rfl, ?_⟩
  refine s_alloc (zN) M al_nd ?_
  clear M
  rintro g5 W M
  refine s_storeA 0 cs M rfl sz_nd rfl rfl hc5 ((M.da 0 rfl).ones (dN_one _)) rfl ?_
  clear M; rintro W M
  dsimp only [setL] at M
  refine p_ne rfl rfl (fun h0 => ?_) (fun h0 => ?_)
  rotate_left
  ·
    refine cc is_kn17 (known17_any [] _ (fun b h => by cases h)) ?_
    rintro e W ⟨rfl, hb⟩
    replace M := M.call hb
    clear hb
    exact ⟨_, rfl, rfl, M.below⟩
  have h0 : T.2 = 0 := h0
  have hF : Full T.1 := (of_ok hT h0).2.1
  obtain ⟨t, ht⟩ : ∃ t, t = T.1 := ⟨_, rfl⟩
  rw [← ht] at M hTz hF
  have hck : checkE t = 0 := check_valS.2 hF.1
  obtain ⟨Ap, cp, Av, cv, Ak, ck, Ah, ch, rfl, -⟩ := (M.da 0 rfl).node
  obtain ⟨Bk, dk, Bv, dv, rfl, -, -⟩ := (M.da 2 rfl).do_
  refine v_loadN (ncs t Ap cp Av cv Ak ck Ah ch) agg_nd rfl rfl (M.run 0 rfl) ?_
  refine v_loadN (dcs d Bk dk Bv dv) agg_do rfl rfl (M.run 1 rfl) ?_
  refine s_bslice (fr := false) (ds := dDo d) (dcs d Bk dk Bv dv) M sldo z_do rfl (by decide) rfl (M.dw 2 rfl) rfl ?_
  clear M; rintro g26 W M
  refine cc is_long17 (long17_any t (by omega) [d] _ _ _ _ 1 1 (M.da 1 rfl) (M.d1 0 rfl) M.olt (by rw [List.map_cons, List.map_nil, List.sum_cons, List.sum_nil]; omega)) ?_
  rintro e W ⟨he, hb⟩
  obtain ⟨qa, hqa⟩ : ∃ q, q = decide (bigN t [d]) := ⟨_, rfl⟩
  rw [← hqa] at he
  subst he
  replace M := M.call hb
  clear hb
  refine ⟨_, rfl, ?_⟩
  cases qa with
  | true =>
    refine cc is_kn17 (known17_any [] _ (fun b h => by cases h)) ?_
    rintro e W ⟨rfl, hb⟩
    replace M := M.call hb
    clear hb
    exact ⟨_, rfl, rfl, M.below⟩
  | false =>
  obtain ⟨hzt, -, -⟩ := bigN_no hqa
  refine v_loadN (dcs d Bk dk Bv dv) agg_do rfl rfl (M.run 1 rfl) ?_
  refine cc is_done (done_none _ _ (M.da 3 rfl) M.olt) ?_
  rintro e W ⟨x, rfl, hx, hb⟩
  replace M := M.call hb
  clear hb
  refine ⟨_, rfl, ?_⟩
  refine s_alloc (zTo) M al_to ?_
  clear M
  rintro g8 W M
  refine s_storeA 0 [.slice none 0 0, .bool false, .slice none 0 0, .int .i64 x] M rfl sz_to rfl rfl rfl (all1 rfl) rfl ?_
  clear M; rintro W M
  dsimp only [setL] at M
  refine cc is_sMissing (nMissing _) ?_
  rintro e W' ⟨rfl, rfl⟩
  refine ⟨_, rfl, ?_⟩
  -- nothing is wrong with the one that is not there
  refine cutS Unit (fun _ W => St w [] W [(g8, 36, [.slice none 0 0, .bool false, .slice none 0 0, .int .i64 x]), (g5, 28, ncs t Ap cp Av cv Ak ck Ah ch), (g3, 25, dcs d Bk dk Bv dv)] [] [.dat false (dN t) (ncs t Ap cp Av cv Ak ck Ah ch)]) (fun _ => [(5, .pointer (some ⟨g5, 0, none⟩))]) ?_ ?_
  · refine p_fld fDo0 rfl ?_
    refine v_load agg_int rfl ((M.B 2 rfl).at_ rfl) ?_
    refine p_ge rfl rfl (fun h1 => ?_) (fun _ => ?_)
    rotate_left
    ·
      refine cc is_sSaves (nSaves _) ?_
      rintro e W' ⟨rfl, rfl⟩
      refine ⟨_, rfl, ?_⟩
      refine p_ne rfl rfl (fun _ => ?_) (fun h => absurd rfl h)
      refine cc is_sHash (nHash _) ?_
      rintro e W' ⟨rfl, rfl⟩
      refine ⟨_, rfl, ?_⟩
      refine p_len slb rfl ?_
      refine p_ne rfl rfl (fun _ => ?_) (fun h => absurd rfl h)
      refine cc is_sRoot (nRoot _) ?_
      rintro e W' ⟨rfl, hb⟩
      replace M := M.call hb
      refine ⟨_, rfl, ?_⟩
      refine p_field1 (vs := zN) fin_kind agg_int rfl rfl ?_
      refine p_ne rfl rfl (fun _ => ?_) (fun h => absurd rfl h)
      exact ⟨(), M.fsub _ (by simp), (by repeat (first | exact trivial | refine ⟨rfl, ?_⟩))⟩
    refine p_fld fDo0 rfl ?_
    refine v_load agg_int rfl ((M.B 2 rfl).at_ rfl) ?_
    refine p_le rfl rfl (fun h2 => ?_) (fun _ => ?_)
    rotate_left
    ·
      refine cc is_sSaves (nSaves _) ?_
      rintro e W' ⟨rfl, rfl⟩
      refine ⟨_, rfl, ?_⟩
      refine p_ne rfl rfl (fun _ => ?_) (fun h => absurd rfl h)
      refine cc is_sHash (nHash _) ?_
      rintro e W' ⟨rfl, rfl⟩
      refine ⟨_, rfl, ?_⟩
      refine p_len slb rfl ?_
      refine p_ne rfl rfl (fun _ => ?_) (fun h => absurd rfl h)
      refine cc is_sRoot (nRoot _) ?_
      rintro e W' ⟨rfl, hb⟩
      replace M := M.call hb
      refine ⟨_, rfl, ?_⟩
      refine p_field1 (vs := zN) fin_kind agg_int rfl rfl ?_
      refine p_ne rfl rfl (fun _ => ?_) (fun h => absurd rfl h)
      exact ⟨(), M.fsub _ (by simp), (by repeat (first | exact trivial | refine ⟨rfl, ?_⟩))⟩
    refine p_fld fTo3 rfl ?_
    refine v_load agg_int rfl ((M.B 0 rfl).at_ rfl) ?_
    have hx1 := hx ⟨h1, h2⟩
    subst hx1
    refine p_ne rfl rfl (fun _ => ?_) (fun h => absurd rfl h)
    refine cc is_sSaves (nSaves _) ?_
    rintro e W' ⟨rfl, rfl⟩
    refine ⟨_, rfl, ?_⟩
    refine p_ne rfl rfl (fun _ => ?_) (fun h => absurd rfl h)
    refine cc is_sHash (nHash _) ?_
    rintro e W' ⟨rfl, rfl⟩
    refine ⟨_, rfl, ?_⟩
    refine p_len slb rfl ?_
    refine p_ne rfl rfl (fun _ => ?_) (fun h => absurd rfl h)
    refine cc is_sRoot (nRoot _) ?_
    rintro e W' ⟨rfl, hb⟩
    replace M := M.call hb
    refine ⟨_, rfl, ?_⟩
    refine p_field1 (vs := zN) fin_kind agg_int rfl rfl ?_
    refine p_ne rfl rfl (fun _ => ?_) (fun h => absurd rfl h)
    exact ⟨(), M.fsub _ (by simp), (by repeat (first | exact trivial | refine ⟨rfl, ?_⟩))⟩
  clear M hx
  rintro - E W M
  replace M := StN.nil M
  refine v_loadN (ncs t Ap cp Av cv Ak ck Ah ch) agg_nd rfl rfl (M.run (T := 28) (by simp)) ?_
  refine cc is_sNew (newN M (t := t) (fr := false) (cs := ncs t Ap cp Av cv Ak ck Ah ch) (by simp) (by omega)) ?_
  clear M
  rintro e W (⟨h1, rfl, M⟩ | ⟨-, g11, rfl, M⟩)
  · exact absurd hck h1
  refine ⟨_, rfl, ?_⟩
  refine p_ne rfl rfl (fun _ => ?_) (fun h => absurd rfl h)
  refine p_peq isp_sto rfl rfl ?_
  refine cutS Unit (fun _ W => StN w [] W [⟨g11, t, [], true⟩] [(g8, 36, [.slice none 0 0, .bool false, .slice none 0 0, .int .i64 x]), (g5, 28, ncs t Ap cp Av cv Ak ck Ah ch), (g3, 25, dcs d Bk dk Bv dv)] [] [.dat false (dN t) (ncs t Ap cp Av cv Ak ck Ah ch)]) (fun _ => [(5, .pointer (some ⟨g5, 0, none⟩)), (11, .pointer (some ⟨g11, 0, none⟩))]) ?_ ?_
  · exact ⟨(), M, (by repeat (first | exact trivial | refine ⟨rfl, ?_⟩))⟩
  clear M
  rintro - E W M
  refine cutS Unit (fun _ W => StN w [] W [⟨g11, t, List.replicate 20 t, true⟩] [(g8, 36, [.slice none 0 0, .bool false, .slice none 0 0, .int .i64 x]), (g5, 28, ncs t Ap cp Av cv Ak ck Ah ch), (g3, 25, dcs d Bk dk Bv dv)] [] [.dat false (dN t) (ncs t Ap cp Av cv Ak ck Ah ch)]) (fun _ => [(5, .pointer (some ⟨g5, 0, none⟩)), (11, .pointer (some ⟨g11, 0, none⟩))]) ?_ ?_
  · refine lp Nat (fun i W => i ≤ 20 ∧ StN w [] W [⟨g11, t, List.replicate i t, true⟩] [(g8, 36, [.slice none 0 0, .bool false, .slice none 0 0, .int .i64 x]), (g5, 28, ncs t Ap cp Av cv Ak ck Ah ch), (g3, 25, dcs d Bk dk Bv dv)] [] [.dat false (dN t) (ncs t Ap cp Av cv Ak ck Ah ch)]) (fun i => [(5, .pointer (some ⟨g5, 0, none⟩)), (11, .pointer (some ⟨g11, 0, none⟩)), (13, .int .i64 i)]) (fun i => 20 - i) 0 ⟨Nat.zero_le _, M⟩ (by repeat (first | exact trivial | refine ⟨rfl, ?_⟩)) ?_
    clear M
    rintro i E W ⟨hi, M⟩
    refine p_lt rfl rfl (fun hlt => ?_) (fun hge => ?_)
    rotate_left
    · have hi : i = 20 := by have h : ¬ (i : Int) < 20 := hge; omega
      subst hi
      exact ⟨(), M, (by repeat (first | exact trivial | refine ⟨rfl, ?_⟩))⟩
    have hlt : i < 20 := by have h : (i : Int) < 20 := hlt; omega
    refine cc is_sSave (saveN M (by rw [List.length_replicate]; exact hlt)) ?_
    clear M
    rintro e W ⟨rfl, M⟩
    rw [← List.replicate_succ'] at M
    refine ⟨_, rfl, ?_⟩
    refine p_ne rfl rfl (fun _ => ?_) (fun h => absurd rfl h)
    refine p_addN (b := 1) rfl rfl (by omega) ?_
    exact ⟨i + 1, ⟨by omega, M⟩, (by repeat (first | exact trivial | refine ⟨rfl, ?_⟩)), by omega⟩
  clear M
  rintro - E W M
  -- what comes out is its owner's
  refine ev_assoc ?_
  refine ev_assoc ?_
  refine cutS Unit (fun _ W' => Below W.heap.size W W') (fun _ => [(5, .pointer (some ⟨g5, 0, none⟩)), (11, .pointer (some ⟨g11, 0, none⟩))]) ?_ ?_
  · obtain ⟨L', R', fs', ⟨A3, c3, xs3, p, Am, nm, cm, M1⟩, -⟩ := M.headG
    refine cc is_sRoot (sRootR_any W _ (M1.B 0 rfl) (M1.da 0 rfl) (by omega) M1.olt) ?_
    clear M1 M
    rintro e W5 ⟨Cp, dp, Cv, dw, Ck, dk2, Ch, dh, xs, rfl, Lx, N⟩
    refine ⟨_, rfl, ?_⟩
    refine s_alloc zN N al_nd ?_
    clear N; rintro g14 W6 N
    refine s_storeA 0 (ncs t Cp dp Cv dw Ck dk2 Ch dh) N rfl sz_nd rfl rfl rfl (all1 rfl) rfl ?_
    clear N; rintro W7 N
    dsimp only [setL] at N
    have hsz := sz_eq t
    have hsl := szs_len t.kids
    have hv := (N.dt 2 rfl).hd
    refine p_fld fN3 rfl ?_
    refine v_load agg_b rfl ((N.B 0 rfl).at_ rfl) ?_
    refine cc is_spoil0 (spoil_any (Ft W W7 _ true) W7 Cv t.val.length dw (SoftRd.of hv (fun _ h => h) (fun _ h => h.1)) (fun _ h => (h.2.2 rfl).2) (by omega)) ?_
    rintro e W8 ⟨⟨v, rfl⟩, tm⟩
    refine ⟨_, rfl, ?_⟩
    replace N := N.tame (fs' := []) (s0 := W.heap.size) (s1 := W7.heap.size) tm (fun b h => ⟨(h.2.2 rfl).1, h.1, h.2.1⟩) (Nat.le_refl _) (fun f h => by cases h)
    clear tm hv
    by_cases hk0 : t.kids = []
    · have hkl : t.kids.length = 0 := by rw [hk0]; rfl
      refine lp Unit (fun _ W' => ∃ R, St W _ W' ((g14, 28, ncs t Cp dp Cv dw Ck dk2 Ch dh) :: Lx) R []) (fun _ => [(5, .pointer (some ⟨g5, 0, none⟩)), (11, .pointer (some ⟨g11, 0, none⟩)), (14, .pointer (some ⟨g14, 0, none⟩)), (15, .int .i64 0)]) (fun _ => 0) () ⟨_, N⟩ (by repeat (first | exact trivial | refine ⟨rfl, ?_⟩)) ?_
      clear N
      rintro - E W9 ⟨R, N⟩
      refine p_fld fN4 rfl ?_
      refine v_load agg_ns rfl ((N.B 0 rfl).at_ rfl) ?_
      refine p_len sln rfl ?_
      refine p_lt rfl rfl (fun h => absurd (show (0 : Int) < (t.kids.length : Int) from h) (by omega)) (fun _ => ?_)
      exact ⟨(), N.below, (by repeat (first | exact trivial | refine ⟨rfl, ?_⟩))⟩
    · have hkl : 0 < t.kids.length := List.length_pos_iff.2 hk0
      obtain ⟨gk, rest, rfl, -, -, hxl, -, N⟩ := N.rowBlkS hkl
      refine lp (Nat × List Value) (fun s W' => s.1 ≤ t.kids.length ∧ t.kids.length * 6 ≤ s.2.length ∧ St W _ W' ((gk, 28, s.2) :: (g14, 28, ncs t Cp dp Cv dw (some ⟨gk, 0, none⟩) dk2 Ch dh) :: Lx) [] []) (fun s => [(5, .pointer (some ⟨g5, 0, none⟩)), (11, .pointer (some ⟨g11, 0, none⟩)), (14, .pointer (some ⟨g14, 0, none⟩)), (15, .int .i64 s.1)]) (fun s => t.kids.length - s.1) (0, xs ++ rest) ⟨Nat.zero_le _, by show t.kids.length * 6 ≤ (xs ++ rest).length; rw [List.length_append]; omega, N⟩ (by repeat (first | exact trivial | refine ⟨rfl, ?_⟩)) ?_
      clear N
      rintro ⟨i, ys⟩ E W9 ⟨hi, hyl, N⟩
      dsimp only at hi hyl N
      refine p_fld fN4 rfl ?_
      refine v_load agg_ns rfl ((N.B 1 rfl).at_ rfl) ?_
      refine p_len sln rfl ?_
      refine p_lt rfl rfl (fun hlt => ?_) (fun _ => ?_)
      rotate_left
      · exact ⟨(), N.below, (by repeat (first | exact trivial | refine ⟨rfl, ?_⟩))⟩
      have hlt : i < t.kids.length := by have h : (i : Int) < (t.kids.length : Int) := hlt; omega
      refine p_fld fN4 rfl ?_
      refine v_load agg_ns rfl ((N.B 1 rfl).at_ rfl) ?_
      refine p_atM (i := i) (q := i * 6) sln rfl rfl rfl hlt (by omega) ?_
      refine p_fld fN0 rfl ?_
      refine s_set 0 (off := i * 6) (.int .i64 (-7)) (ys.set (i * 6) (.int .i64 (-7))) N rfl sz_it rfl rfl rfl (by omega) rfl ?_
      clear N; rintro W10 N
      dsimp only [setL] at N
      refine p_addN (b := 1) rfl rfl (by omega) ?_
      exact ⟨(i + 1, ys.set (i * 6) (.int .i64 (-7))), ⟨by dsimp only; omega, by dsimp only; rw [List.length_set]; exact hyl, N⟩, (by repeat (first | exact trivial | refine ⟨rfl, ?_⟩)), by dsimp only; omega⟩
  rintro - E W2 hb
  replace M := M.call hb
  clear hb
  replace M := M.drew
  refine drT (fun W => Blk W g5 28 (ncs t Ap cp Av cv Ak ck Ah ch)) (.take 0 (.one 1 (.take 2 (.take 3 (.take 4 (.one 5 (.take 6 (.take 7 (.take 8 (.take 9 (.take 11 (.one 10 (.one 12 (.take 13 (.take 14 (.one 15 (.take 16 (.take 17 (.nil))))))))))))))))))) (by kernel_rfl) (M.blk (by simp)) ?_
  obtain ⟨L', R', fs', hS, -, hGc, -⟩ := M.headG
  refine cc is_sSave (sSave_full hS (by rw [List.length_replicate])) ?_
  rintro e W' ⟨rfl, rfl⟩
  clear hS hGc L' R' fs'
  refine ⟨_, rfl, M.blk (by simp), ?_⟩
  refine p_eq rfl rfl (fun _ => ?_) (fun h => absurd rfl h)
  refine cc is_sSaves (savesN M) ?_
  rintro e W' ⟨rfl, rfl⟩
  rw [List.length_replicate]
  refine ⟨_, rfl, M.blk (by simp), ?_⟩
  refine p_eq rfl rfl (fun _ => ?_) (fun h => absurd rfl h)
  refine t_loadN (ncs t Ap cp Av cv Ak ck Ah ch) agg_nd rfl rfl (fun W K => K.run 0 _ fun j v h => by rw [Nat.zero_add]; exact h) ?_
  refine cc is_sRoot (rootN M (by omega)) ?_
  clear M
  rintro e W ⟨cs9, rfl, M⟩
  refine ⟨_, rfl, M.blk (by simp), ?_⟩
  obtain ⟨os, h1, h2, -⟩ := M.dams
  refine cc is_r7same (rsame_any 2000000 (by decide) t (by omega) t os _ cs9 _ (h2 true _ _ (by simp)) (h2 false _ (ncs t Ap cp Av cv Ak ck Ah ch) (by simp)) h1 (by omega)) ?_
  rintro e W ⟨q, rfl, hq, hb⟩
  obtain rfl := hq.2 rfl
  replace M := M.call hb
  clear hb hq h1 h2 os
  refine ⟨_, rfl, M.blk (by simp), ?_⟩
  refine cc is_kn17 (known17_any [] _ (fun b h => by cases h)) ?_
  rintro e W ⟨rfl, hb⟩
  replace M := M.call hb
  clear hb
  refine ⟨_, rfl, M.blk (by simp), ?_⟩
  exact ⟨rfl, M.below⟩
end Go.Proofs.YtdlljmmgkoeilaaDoor
namespace Go.Proofs.YtdlljmmgkoeilaaDoor
open Go.RowKit Go.ChangeShapes
theorem gBegin : Tryd.prog.globalNamed "exchequer/digest.begin" = some 0 := by kernel_rfl
theorem gRoots : Tryd.prog.globalNamed "exchequer/digest.roots" = some 1 := by kernel_rfl
theorem tBegin : (Tryd.prog.globals[0]?).map (·.type) = some 131 := by kernel_rfl
theorem tRoots : (Tryd.prog.globals[1]?).map (·.type) = some 137 := by kernel_rfl
theorem cB : Tryd.prog.cellsOf 131 = 8 := by kernel_rfl
theorem cR : Tryd.prog.cellsOf 137 = 64 := by kernel_rfl
theorem cU : Tryd.prog.cellsOf 130 = 1 := by kernel_rfl
def laidL : List (String × DataW Unit) := [("exchequer/digest.begin", Rows.laid_exchequer_digest_begin), ("exchequer/digest.roots", Rows.laid_exchequer_digest_roots)]
theorem gl_of {W : World} (h : laidMetH Tryd.prog laidL W) : GL W [] := by
  rw [MakeChecks.laidMetH_plain _ _ _ (by kernel_rfl)] at h
  have hb : Lib.TabIs Tryd.prog W "exchequer/digest.begin" .u32 [1779033703, 3144134277, 1013904242, 2773480762, 1359893119, 2600822924, 528734635, 1541459225] :=
    Lib.tabIs_of_head (rest := [("exchequer/digest.roots", Rows.laid_exchequer_digest_roots)]) gBegin tBegin Tryd.underlying131 Tryd.underlying130 cU cB h
  obtain ⟨ps, ⟨g0, t0, cs0, f0, p0, q0, hg0, ht0, hv0, hd0, ⟨g1, t1, cs1, f1, p1, q1, hg1, ht1, hv1, hd1, _, _⟩, _⟩, _, _⟩ := h
  obtain rfl := Option.some.inj (gRoots.symm.trans hg1)
  obtain rfl := Option.some.inj (tRoots.symm.trans ht1)
  have hr : Lib.TabIs Tryd.prog W "exchequer/digest.roots" .u32 (List.map (fun (n : Nat) => (n : Int)) roots) := by
    unfold Lib.TabIs
    rw [hv1, ← Lib.cells_of_tab Tryd.underlying137 Tryd.underlying130 cU cR hd1]
  refine ⟨fun j hj => ?_, fun j v hv => ?_, ?_, by simp, by simp⟩
  · have := hr.cell gRoots j (by rw [List.length_map]; exact hj)
    rw [this]
    unfold cu
    congr 2
    rw [List.getD_eq_getElem?_getD, List.getD_eq_getElem?_getD, List.getElem?_map]
    have : j < roots.length := hj
    rw [List.getElem?_eq_getElem this]; rfl
  · have hj := (List.getElem?_eq_some_iff.1 hv).1
    have := hb.cell gBegin j hj
    rw [this]
    have hj8 : j = 0 ∨ j = 1 ∨ j = 2 ∨ j = 3 ∨ j = 4 ∨ j = 5 ∨ j = 6 ∨ j = 7 := by have : j < 8 := hj; omega
    rcases hj8 with rfl | rfl | rfl | rfl | rfl | rfl | rfl | rfl <;> exact hv
  · have := hr.cell gRoots 0 (by decide)
    have := World.block_lt_of_cell? W _ this
    exact this
/-- A world for the witness: the tables hold what their initialisers lay. -/
def layAt (cs : List Value) : Obj → Obj
  | .cells _ t frozen => .cells cs.toArray t frozen
  | o => o
noncomputable def laidWorld (os : Os) : World :=
  { World.holding Tryd.prog os ⟨#[], #[], []⟩ with heap := ((World.holding Tryd.prog os ⟨#[], #[], []⟩).heap.modify 0 (layAt (hc begin8))).modify 1 (layAt (roots.map cu)) }
end Go.Proofs.YtdlljmmgkoeilaaDoor
namespace Go.Proofs.YtdlljmmgkoeilaaDoor
open Go.ChangeShapes Go.WideShapes Go.ChangeAt Go.RowKit
section
variable {H : Type} {enc : TypeId × Value → H} {W : World}
theorem list4 {α : Type} {l : List α} (h : l.length = 4) : ∃ a b c d, l = [a, b, c, d] := by
  match l, h with
  | [a, b, c, d], _ => exact ⟨a, b, c, d, rfl⟩
theorem c4do : Program.cellsOf Tryd.prog 25 = 4 := by kernel_rfl
set_option maxRecDepth 100000 in
theorem do_trod (fuel : Nat) (cs : List Value) (x : DataW H × List MemPlace) (hf : DataW.trod enc Tryd.prog W 0 (fun _ => true) true fuel 25 cs = some x) (hlt : ∀ q ∈ x.2, q.block < W.heap.size) :
    ∃ t : Do, t.key.length + t.val.length + 4 ≤ Rows.uptoBulk x.1 ∧ RdL W (Fd W []) (dDo t) cs := by
  obtain ⟨xs, n, rfl, rfl, hl, hlen, hfs⟩ := DataW.trod_struct Tryd.underlying25 hf
  rw [c4do] at hl
  obtain ⟨a0, a1, a2, a3, rfl⟩ := list4 hl
  obtain ⟨y0, y1, y2, y3, rfl⟩ := list4 (show xs.length = 4 from hlen)
  have h0 : DataW.trod enc Tryd.prog W 0 (fun _ => true) true n 3 [a0] = some y0 := by have := (show DataW.trod enc Tryd.prog W 0 (fun _ => true) true n 3 (([a0, a1, a2, a3].drop 0).take (Program.cellsOf Tryd.prog 3)) = some y0 from hfs 0 _ rfl); rw [c1int] at this; exact this
  have h1 : DataW.trod enc Tryd.prog W 0 (fun _ => true) true n 23 [a1] = some y1 := by have := (show DataW.trod enc Tryd.prog W 0 (fun _ => true) true n 23 (([a0, a1, a2, a3].drop 1).take (Program.cellsOf Tryd.prog 23)) = some y1 from hfs 1 _ rfl); rw [c1bytes] at this; exact this
  have h2 : DataW.trod enc Tryd.prog W 0 (fun _ => true) true n 23 [a2] = some y2 := by have := (show DataW.trod enc Tryd.prog W 0 (fun _ => true) true n 23 (([a0, a1, a2, a3].drop 2).take (Program.cellsOf Tryd.prog 23)) = some y2 from hfs 2 _ rfl); rw [c1bytes] at this; exact this
  have h3 : DataW.trod enc Tryd.prog W 0 (fun _ => true) true n 3 [a3] = some y3 := by have := (show DataW.trod enc Tryd.prog W 0 (fun _ => true) true n 3 (([a0, a1, a2, a3].drop 3).take (Program.cellsOf Tryd.prog 3)) = some y3 from hfs 3 _ rfl); rw [c1int] at this; exact this
  have hq : ∀ y ∈ [y0, y1, y2, y3], ∀ q ∈ y.2, q.block < W.heap.size := fun y hy q hq => hlt q (List.mem_flatMap.2 ⟨y, hy, hq⟩)
  obtain ⟨m0, e0, rfl, _⟩ := DataW.trod_int Tryd.underlying3 h0
  obtain ⟨k, u1, e1, r1, b1⟩ := bytes_trod h1 (hq y1 (by simp))
  obtain ⟨v, u2, e2, r2, b2⟩ := bytes_trod h2 (hq y2 (by simp))
  obtain ⟨m3, e3, rfl, _⟩ := DataW.trod_int Tryd.underlying3 h3
  injection e0 with e0
  injection e1 with e1
  injection e2 with e2
  injection e3 with e3
  subst e0; subst e1; subst e2; subst e3
  refine ⟨⟨m0, k, v, m3⟩, ?_, RdL.cons (RdD.ofv _) (RdL.cons r1 (RdL.cons r2 (RdL.cons (RdD.ofv _) RdL.nil_)))⟩
  show k.length + v.length + 4 ≤ 1 + (Rows.uptoBulk y1.1 + (Rows.uptoBulk y2.1 + (1 + 0))) + 1
  omega
set_option maxRecDepth 100000 in
/-- One that came in. -/
theorem do_open {base : Nat} {v : Value} {d : DataW H} {p : List MemPlace} (hv : Value.okWide Tryd.prog W .any base 25 v)
    (h : DataW.Trod enc Tryd.prog W 0 (fun _ => true) true 25 v d p) : ∃ (t : Do) (cs : List Value), v = .agg cs.toArray ∧ RdL W (Fd W []) (dDo t) cs ∧ t.key.length + t.val.length + 4 ≤ Rows.uptoBulk d := by
  obtain ⟨cs, rfl, _⟩ := okWide_struct Tryd.underlying25 hv
  have hlt : ∀ x ∈ p, x.block < W.heap.size := by obtain ⟨m, hm⟩ := h; exact DataW.trod_lt m _ _ _ hm
  obtain ⟨fuel, hf⟩ := h
  obtain ⟨t, h1, h2⟩ := do_trod fuel cs.toList (d, p) hf hlt
  exact ⟨t, cs.toList, by simp, h2, h1⟩
end
end Go.Proofs.YtdlljmmgkoeilaaDoor
