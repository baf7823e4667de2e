/- Lists of bytes as bytes: plain laws: what is joined is split as it was, what is split is joined as it was, one byte more, one byte less. The walks of the laws NodeFolds and NodeDigests. Memory that is written over, but keeps its kinds; the walk of reference 00's Spoil. The walk of the law NodeSame. What the rows' list of package variables gives: the tables of digest. -/
import Derived.Test.YtojjfkbffjkojaaDoorG18
import Derived.Test.YtojjfkbffjkojaaDoorG16
import Derived.Test.YtojjfkbffjkojaaDoorG08
import Derived.Test.YtojjfkbffjkojaaDoorG04
import Derived.Test.YtojjfkbffjkojaaDoorG05
import Derived.Test.YtojjfkbffjkojaaDoorG13
import Derived.Test.YtojjfkbffjkojaaDoorRows
import Derived.Lib.LaidTab
import Derived.MakeChecks
namespace Go.Proofs.YtojjfkbffjkojaaDoor

/-- Bytes that were written are read, wherever they stand. -/
theorem gb_put (p s r : List UInt8) (h : s.length ≤ 1048576) : gbE (p ++ (putB s ++ r)) (p.length : Int) = 0 ∧ gbL (p ++ (putB s ++ r)) (p.length : Int) = s ∧ gbTo (p ++ (putB s ++ r)) (p.length : Int) = ((p.length + (putB s).length : Nat) : Int) := by
  have e : putB s ++ r = putN s.length ++ (s ++ r) := by unfold putB; rw [List.append_assoc]
  rw [e]
  obtain ⟨g1, g2, g3⟩ := g_put p s.length (s ++ r) (by omega)
  obtain ⟨k1, k2, k3⟩ := gb_ok g1 (by rw [g2]; omega) (by rw [g2, g3]; simp only [List.length_append]; omega)
  refine ⟨k1, ?_, ?_⟩
  · rw [k2, g2, g3, Int.toNat_natCast, Int.toNat_natCast, ← List.append_assoc, List.drop_append_of_le_length (by simp), List.drop_of_length_le (by simp), List.nil_append, List.take_append_of_le_length (Nat.le_refl _), List.take_length]
  · rw [k3, g2, g3, putB_len]; omega
end Go.Proofs.YtojjfkbffjkojaaDoor
namespace Go.Proofs.YtojjfkbffjkojaaDoor
open Go.RowKit


theorem putB_inj {a b : List UInt8} (ha : a.length ≤ 1048576) (hb : b.length ≤ 1048576) (h : putB a = putB b) : a = b := by
  have h1 := (gb_put [] a [] ha).2.1
  have h2 := (gb_put [] b [] hb).2.1
  rw [h, h2] at h1
  exact h1.symm
end Go.Proofs.YtojjfkbffjkojaaDoor
namespace Go.Proofs.YtojjfkbffjkojaaDoor
open Go.RowKit
def soft (v v' : Value) : Prop := v' = v ∨ (∃ (c c' : UInt8), v = u8v c ∧ v' = u8v c') ∨ (∃ x y : Int, v = .int .i64 x ∧ v' = .int .i64 y)
theorem soft.trans {a b c : Value} (h : soft a b) (k : soft b c) : soft a c := by
  rcases h with rfl | ⟨x, y, rfl, rfl⟩ | ⟨x, y, rfl, rfl⟩
  · exact k
  · rcases k with rfl | ⟨x', y', h1, rfl⟩ | ⟨x', y', h1, rfl⟩
    · exact .inr (.inl ⟨_, _, rfl, rfl⟩)
    · exact .inr (.inl ⟨_, _, rfl, rfl⟩)
    · unfold u8v at h1; injection h1 with h1; cases h1
  · rcases k with rfl | ⟨x', y', h1, rfl⟩ | ⟨x', y', h1, rfl⟩
    · exact .inr (.inr ⟨_, _, rfl, rfl⟩)
    · unfold u8v at h1; injection h1 with h1; cases h1
    · exact .inr (.inr ⟨_, _, rfl, rfl⟩)
theorem soft.byte {c : UInt8} {v : Value} (h : soft (u8v c) v) : ∃ c', v = u8v c' := by
  rcases h with rfl | ⟨x, y, _, rfl⟩ | ⟨x, y, h1, rfl⟩
  · exact ⟨c, rfl⟩
  · exact ⟨y, rfl⟩
  · unfold u8v at h1; injection h1 with h1; cases h1
theorem soft.sl {A : Option Addr} {n c : Nat} {v : Value} (h : soft (.slice A n c) v) : v = .slice A n c := by
  rcases h with rfl | ⟨x, y, h1, rfl⟩ | ⟨x, y, h1, rfl⟩
  · rfl
  · cases h1
  · cases h1
theorem soft.int {x : Int} {v : Value} (h : soft (.int .i64 x) v) : ∃ y, v = .int .i64 y := by
  rcases h with rfl | ⟨c, y, h1, rfl⟩ | ⟨x, y, h1, rfl⟩
  · exact ⟨_, rfl⟩
  · unfold u8v at h1; injection h1 with h1; cases h1
  · exact ⟨_, rfl⟩
/-- Only what lies in some blocks is written, and keeps its kind. -/
structure Tame (B : Nat → Prop) (W W' : World) : Prop where
  low : ∀ base, (∀ b, B b → base ≤ b) → Below base W W'
  size : W'.heap.size = W.heap.size
  out : ∀ b, ¬ B b → W'.heap[b]? = W.heap[b]?
  inn : ∀ a v, W.cell? a = some v → ∃ v', W'.cell? a = some v' ∧ soft v v'
  thaw : ∀ b, Thaw W b → Thaw W' b
theorem Tame.refl (B : Nat → Prop) (W : World) : Tame B W W := ⟨fun base _ => Below.refl _ _, rfl, fun _ _ => rfl, fun a v h => ⟨v, h, .inl rfl⟩, fun b h => h⟩
theorem Tame.trans {B : Nat → Prop} {W W1 W2 : World} (h : Tame B W W1) (k : Tame B W1 W2) : Tame B W W2 :=
  ⟨fun base hb => (h.low base hb).trans (k.low base hb), k.size.trans h.size, fun b hb => (k.out b hb).trans (h.out b hb), fun a v hv => by
    obtain ⟨v1, h1, s1⟩ := h.inn a v hv
    obtain ⟨v2, h2, s2⟩ := k.inn a v1 h1
    exact ⟨v2, h2, s1.trans s2⟩, fun b hb => k.thaw b (h.thaw b hb)⟩
theorem heap_set_at {W : World} {b o : Nat} {c : Array Value} {e : TypeId} {z : Nat × Nat} (v : Value) (h : W.heap[b]? = some (.cells c e z)) : (W.setCell ⟨b, o, none⟩ v).heap[b]? = some (.cells (c.setIfInBounds o v) e z) := by
  unfold World.setCell
  simp only [Array.getElem?_modify, h, if_pos]
  rfl
theorem cell_set {W : World} {b o : Nat} {old v : Value} (hc : W.cell? ⟨b, o, none⟩ = some old) {a : Addr} {u : Value} (ha : W.cell? a = some u) : (W.setCell ⟨b, o, none⟩ v).cell? a = some (if a.block = b ∧ a.off = o then v else u) := by
  by_cases hb : a.block = b
  · have hsp := World.cell?_spot ha
    obtain ⟨ab, ao, asp⟩ := a
    dsimp only at hb hsp ⊢
    subst hb
    subst hsp
    cases hh : W.heap[ab]? with
    | none => unfold World.cell? at ha; dsimp only at ha; rw [hh] at ha; cases ha
    | some ob =>
      cases ob with
      | cells c e z =>
        have h2 := heap_set_at (o := o) v hh
        unfold World.cell? at ha hc ⊢
        dsimp only at ha hc ⊢
        rw [hh] at ha hc
        rw [h2]
        simp only [Option.isSome_none, Bool.false_eq_true, if_false] at ha hc ⊢
        by_cases ho : ao = o
        · subst ho
          rw [if_pos (by simp), Array.getElem?_setIfInBounds_self_of_lt (Array.getElem?_eq_some_iff.1 hc).1]
        · rw [if_neg (fun h => ho h.2), Array.getElem?_setIfInBounds_ne (fun e => ho e.symm)]; exact ha
      | _ => unfold World.cell? at ha; dsimp only at ha; rw [hh] at ha; cases ha
  · rw [if_neg (fun h => hb h.1)]
    exact (World.cell?_of_block (w := W) (Below.heap_setCell W ⟨b, o, none⟩ v a.block hb)).trans ha
theorem Tame.set {B : Nat → Prop} {W W1 : World} (h : Tame B W W1) {b o : Nat} {old v : Value} (hB : B b) (hc : W1.cell? ⟨b, o, none⟩ = some old) (hs : soft old v) : Tame B W (W1.setCell ⟨b, o, none⟩ v) :=
  h.trans ⟨fun base hb => (Below.refl _ _).setCell (hb b hB) v, by unfold World.setCell; simp, fun k hk => Below.heap_setCell W1 ⟨b, o, none⟩ v k (fun e => hk (e ▸ hB)), fun a u hu => by
    refine ⟨_, cell_set hc hu, ?_⟩
    by_cases hab : a.block = b ∧ a.off = o
    · rw [if_pos hab]
      have hsp := World.cell?_spot hu
      obtain ⟨ab, ao, asp⟩ := a
      dsimp only at hab hsp
      obtain ⟨rfl, rfl⟩ := hab
      subst hsp
      rw [hc] at hu
      injection hu with hu
      rw [← hu]; exact hs
    · rw [if_neg hab]; exact .inl rfl, fun k hk => by
    by_cases e : k = b
    · subst e
      intro cs T z hz
      cases hh : W1.heap[k]? with
      | none => unfold World.cell? at hc; dsimp only at hc; rw [hh] at hc; cases hc
      | some ob =>
        cases ob with
        | cells c e z' =>
          rw [heap_set_at v hh] at hz
          injection hz with hz
          injection hz with _ _ hz
          rw [← hz]; exact hk c e z' hh
        | _ => unfold World.cell? at hc; dsimp only at hc; rw [hh] at hc; cases hc
    · exact hk.same (Below.heap_setCell W1 ⟨b, o, none⟩ v k e)⟩
/-- A slice of bytes, whichever they are. -/
def SoftRd (B : Nat → Prop) (W : World) (A : Option Addr) (n : Nat) : Prop := 0 < n → ∃ b off, A = some ⟨b, off, none⟩ ∧ B b ∧ ∀ j, j < n → ∃ c : UInt8, W.cell? ⟨b, off + j, none⟩ = some (u8v c)
theorem SoftRd.up {B : Nat → Prop} {W W' : World} {A : Option Addr} {n : Nat} (h : SoftRd B W A n) (t : Tame B W W') : SoftRd B W' A n := fun hn => by
  obtain ⟨b, off, e, hB, hc⟩ := h hn
  refine ⟨b, off, e, hB, fun j hj => ?_⟩
  obtain ⟨c, hc⟩ := hc j hj
  obtain ⟨v', h1, h2⟩ := t.inn _ _ hc
  obtain ⟨c', rfl⟩ := h2.byte
  exact ⟨c', h1⟩
theorem SoftRd.of {B F : Nat → Prop} {W : World} {A : Option Addr} {n c : Nat} {l : List UInt8} (h : RdD W F (dB l) (.slice A n c)) (hF : ∀ b, F b → B b) (hlt : ∀ b, F b → b < W.heap.size) : SoftRd B W A n := fun hn => by
  have e := h.slen
  obtain ⟨A', c', e1, _, hr⟩ := h.bytes hlt
  injection e1 with e1 e2 e3
  subst e1
  subst e2
  obtain ⟨b, off, rfl, _⟩ := hr.at_ (k := 0) (by omega)
  refine ⟨b, off, rfl, hF b (RdD.blk0 h hn), fun j hj => ?_⟩
  obtain ⟨b', off', e2, hc⟩ := hr.at_ (k := j) hj
  injection e2 with e2
  injection e2 with e2 e3
  subst e2; subst e3
  exact ⟨l.getD j 0, hc⟩
theorem is_spoil : isFn Tryd.prog 33 = true := by kernel_rfl
theorem sz_u8s : (Tryd.prog.info? 5).map (·.size) = some 1 := by kernel_rfl
theorem xor_range (a : Int) : 0 ≤ bits .xor .u8 a 165 ∧ bits .xor .u8 a 165 ≤ 255 := by
  unfold bits
  rw [IntKind.wrap_u8']
  omega
set_option maxRecDepth 100000 in
set_option maxHeartbeats 1000000 in
theorem spoil_any (B : Nat → Prop) (W : World) (A : Option Addr) (n c : Nat) (h : SoftRd B W A n) (hT : ∀ b, B b → Thaw W b) (hn : n ≤ 1000000000) :
    Calls Tryd.prog 33 #[.slice A n c] W fun e W' => (∃ v, e = .returned v) ∧ Tame B W W' := by
  refine calls_ev (args := [.slice A n c]) mixed Tryd.func33 rfl (by kernel_rfl) ?_
  refine lp Nat (fun i W1 => i ≤ n ∧ Tame B W W1) (fun i => [(0, .slice A n c), (2, .int .i64 i)]) (fun i => n - i) 0 ⟨Nat.zero_le _, Tame.refl _ _⟩ (by repeat (first | exact trivial | refine ⟨rfl, ?_⟩)) ?_
  rintro i E W1 ⟨hi, M⟩
  refine p_len slb rfl ?_
  refine p_lt rfl rfl (fun hlt => ?_) (fun hge => ?_)
  · obtain ⟨b, off, rfl, hB, hc⟩ := (h.up M) (by omega)
    obtain ⟨q, hq⟩ := hc i (by omega)
    have hx := xor_range (q.toNat : Int)
    have hq' : W1.cell? ((⟨b, off, none⟩ : Addr).add (i * 1)) = some (.int .u8 (q.toNat : Int)) := by rw [Addr.add_lit, Nat.mul_one]; exact hq
    refine p_at (i := i) slb rfl rfl rfl (by omega) ?_
    refine v_load agg_by' rfl hq' ?_
    refine p_xor rfl rfl rfl ?_
    refine p_at (i := i) slb rfl rfl rfl (by omega) ?_
    refine v_store (ad := ⟨b, off + i, none⟩) (old := u8v q) sz_u8s (by show Value.pointer (some ((⟨b, off, none⟩ : Addr).add (i * 1))) = _; rw [Addr.add_lit, Nat.mul_one]) rfl rfl hq ((M.thaw b (hT b hB)).free _) ?_
    refine p_addN (b := 1) rfl rfl (by omega) ?_
    exact ⟨i + 1, ⟨by omega, M.set hB hq (.inr (.inl ⟨q, b8 (bits .xor .u8 (q.toNat : Int) 165), rfl, (u8v_b8 _ hx.1 hx.2).symm⟩))⟩, (by repeat (first | exact trivial | refine ⟨rfl, ?_⟩)), by omega⟩
  · exact ⟨⟨_, rfl⟩, M⟩
/-- What a call has made, between two sizes. -/
theorem St.callG {w W W' : World} {gs : List (Option Nat)} {L : Lc} {R : List Row} {fs : List Fact} {ds : List D} {cs : List Value} (M : St w gs W L R fs) (hb : Below W.heap.size W W') (h : RdL W' (Fr W W') ds cs) : St w gs W' L R (.rng W.heap.size W'.heap.size ds cs :: fs) :=
  (M.call hb).add (f := .rng W.heap.size W'.heap.size ds cs) (h.to fun b hb' => ⟨rfl, ⟨hb'.2.1, fun e => by have := M.olt b e; have := hb'.1; omega, fun _ => ⟨Nat.le_trans M.size hb'.1, hb'.2.2⟩⟩, hb'.1, hb'.2.1⟩)
theorem St.rg {w W : World} {gs : List (Option Nat)} {L : Lc} {R : List Row} {fs : List Fact} {lo hi : Nat} {ds : List D} {cs : List Value} (M : St w gs W L R fs) (i : Nat) (h : nth fs i = some (.rng lo hi ds cs)) : RdL W (fun b => Ft w W (own L R gs) true b ∧ lo ≤ b ∧ b < hi) ds cs := M.fct _ (nth_mem h)
theorem St.rda {w W : World} {gs : List (Option Nat)} {L : Lc} {R : List Row} {fs : List Fact} {lo hi : Nat} {ds : List D} {cs : List Value} (M : St w gs W L R fs) (i : Nat) (h : nth fs i = some (.rng lo hi ds cs)) : RdL W (Fd W (own L R gs)) ds cs := (M.rg i h).to fun b hb => ⟨rfl, hb.1.1, hb.1.2.1⟩
/-- What was handed in. -/
theorem St.arg {w W : World} {gs : List (Option Nat)} {L : Lc} {R : List Row} {fs : List Fact} {ds : List D} {cs : List Value} (M : St w gs W L R fs) (h : RdL w (Fd w gs) ds cs) : St w gs W L R (.dat false ds cs :: fs) :=
  M.addL (h.to fun b hb => ⟨M.below.block b hb.1, by have := M.size; have := hb.1; omega, fun e => by
    unfold own at e
    rcases List.mem_append.1 e with e | e
    · obtain ⟨y, hy, he⟩ := List.mem_map.1 e
      injection he with he
      have := (M.blk y hy).2; have := hb.1; omega
    rcases List.mem_append.1 e with e | e
    · obtain ⟨r, hr, he⟩ := List.mem_map.1 e
      have := (row_bklo (M.row r hr) b he).1; have := hb.1; omega
    · exact hb.2 e⟩)
/-- Behind what is written over. -/
theorem St.tame {w W W' : World} {gs : List (Option Nat)} {L : Lc} {R : List Row} {fs fs' : List Fact} {B : Nat → Prop} {s0 s1 : Nat} (M : St w gs W L R fs) (t : Tame B W W') (hB : ∀ b, B b → s0 ≤ b ∧ b < s1 ∧ some b ∉ own L R gs) (hs : w.heap.size ≤ s0)
    (hf : ∀ f ∈ fs', f ∈ fs ∧ ∃ lo hi ds cs, f = .rng lo hi ds cs ∧ (hi ≤ s0 ∨ s1 ≤ lo)) : St w gs W' L R fs' := by
  have hown : ∀ b, some b ∈ own L R gs → W'.heap[b]? = W.heap[b]? := fun b e => t.out b (fun h => (hB b h).2.2 e)
  refine ⟨M.below.trans (t.low _ (fun b hb => Nat.le_trans hs (hB b hb).1)), M.lt, fun x hx => ⟨(hown x.1 (by unfold own; exact List.mem_append_left _ (List.mem_map.2 ⟨x, hx, rfl⟩))).trans (M.blk x hx).1, (M.blk x hx).2⟩, fun r hr => ?_, M.ap, fun f hfm => ?_⟩
  · obtain ⟨h1, h2⟩ := M.row r hr
    refine ⟨h1, ?_⟩
    rcases h2 with h2 | ⟨g, cap, cur, hv, hb, hh, h3⟩
    · exact .inl h2
    · refine .inr ⟨g, cap, cur, hv, hb, ?_, h3⟩
      rw [hown g (by
        unfold own
        refine List.mem_append_right _ (List.mem_append_left _ (List.mem_map.2 ⟨r, hr, ?_⟩))
        injection hv with e1
        rw [e1]; rfl)]
      exact hh
  · obtain ⟨hm, lo, hi, ds, cs, rfl, hor⟩ := hf f hfm
    have h := M.fct _ hm
    refine RdL.to (fun b hb => ?_) (show RdL W (fun b => Ft w W (own L R gs) true b ∧ lo ≤ b ∧ b < hi) ds cs from h)
    have e : W'.heap[b]? = W.heap[b]? := t.out b (fun h => by have := hB b h; have := hb.2; omega)
    exact ⟨e, ⟨by rw [t.size]; exact hb.1.1, hb.1.2.1, fun q => ⟨(hb.1.2.2 q).1, (hb.1.2.2 q).2.same e⟩⟩, hb.2⟩
end Go.Proofs.YtojjfkbffjkojaaDoor
namespace Go.Proofs.YtojjfkbffjkojaaDoor
open Go.RowKit


theorem enc0_cases {even : Bool} {t : Nd} {d : Nat} (h : Val even t d) (hk : t.kids.length = 0) (h4 : t.kind ≠ 4) : (t = noneN ∧ encP t = [0]) ∨ ∃ p v, t = .mk 1 p false v [] [] ∧ p.length ≤ 400 ∧ halvesB p = true ∧ v.length ≤ 4000 ∧ encP t = 1 :: (putB (packL p true) ++ putB v) := by
  cases h with
  | none => exact .inl ⟨rfl, rfl⟩
  | leaf d p v hd hp hv he => exact .inr ⟨p, v, rfl, by have := endsP_le he; omega, hp, hv, rfl⟩
  | stub => exact absurd rfl h4
  | way => exact absurd (show (1 : Nat) = 0 from hk) (by decide)
  | branch d has v ks hd hv hv0 he h16 hr hm => exact absurd (h16.symm.trans hk) (by decide)
theorem leaf_inj {p p' v v' : List UInt8} (h1 : p.length ≤ 400) (h2 : p'.length ≤ 400) (k1 : halvesB p = true) (k2 : halvesB p' = true) (m1 : v.length ≤ 4000) (m2 : v'.length ≤ 4000) (h : putB (packL p true) ++ putB v = putB (packL p' true) ++ putB v') : p = p' ∧ v = v' := by
  have l1 := packL_len p true
  have l2 := packL_len p' true
  have e1 := (gb_put [] (packL p true) (putB v) (by omega)).2.1
  have e2 := (gb_put [] (packL p' true) (putB v') (by omega)).2.1
  rw [h, e2] at e1
  have e3 := (unpack_pack p true k1).2.2.1
  have e4 := (unpack_pack p' true k2).2.2.1
  rw [← e1, e4] at e3
  refine ⟨e3.symm, ?_⟩
  rw [e3] at h
  exact putB_inj (by omega) (by omega) (List.append_cancel_left h)
theorem enc0_inj {even even' : Bool} {a b : Nd} {d d' : Nat} (ha : Val even a d) (hb : Val even' b d') (ka : a.kids.length = 0) (kb : b.kids.length = 0) (h4 : a.kind ≠ 4) (k4 : b.kind ≠ 4) : encP a = encP b ↔ a = b := by
  refine ⟨fun h => ?_, fun h => by rw [h]⟩
  rcases enc0_cases ha ka h4 with ⟨rfl, e1⟩ | ⟨p, v, rfl, h1, h2, h3, e1⟩ <;> rcases enc0_cases hb kb k4 with ⟨rfl, e2⟩ | ⟨p', v', rfl, k1, k2, k3, e2⟩
  · rfl
  · rw [e1, e2] at h; injection h with h; cases h
  · rw [e1, e2] at h; injection h with h; cases h
  · rw [e1, e2] at h
    obtain ⟨rfl, rfl⟩ := leaf_inj h1 k1 h2 k2 h3 k3 (List.cons.inj h).2
    rfl
theorem encR_ok {t : Nd} (h : (encR t).2 = 0) : t.kind ≠ 4 ∧ Val false t 0 ∧ encR t = (encP t, 0) := by
  unfold encR at h ⊢
  by_cases hc : t.kind ≠ 4 ∧ rightP false t 0 = true
  · rw [if_pos hc]
    exact ⟨hc.1, val_of_right false _ t 0 (Nat.lt_succ_self _) hc.2, rfl⟩
  · rw [if_neg hc] at h; cases h
theorem RdL.node6 {W : World} {F : Nat → Prop} {t : Nd} {Ap Av Ak Ah : Option Addr} {cp cv ck ch : Nat} (h : RdL W F (dN t) (ncs t Ap cp Av cv Ak ck Ah ch)) : RdD W F (dB t.path) (.slice Ap t.path.length cp) ∧ RdD W F (dB t.val) (.slice Av t.val.length cv) ∧ RdD W F (dKs t.kids) (.slice Ak t.kids.length ck) ∧ RdD W F (dB t.hash) (.slice Ah t.hash.length ch) := by
  obtain ⟨A1, c1, A2, c2, A3, c3, A4, c4, heq, r1, r2, r3, r4⟩ := h.node
  unfold ncs at heq
  injection heq with _ heq
  injection heq with e1 heq
  injection heq with _ heq
  injection heq with e2 heq
  injection heq with e3 heq
  injection heq with e4 _
  rw [e1, e2, e3, e4]
  exact ⟨r1, r2, r3, r4⟩
theorem sz_intS : (Tryd.prog.info? 3).map (·.size) = some 1 := by kernel_rfl
set_option maxRecDepth 100000 in
set_option maxHeartbeats 8000000 in
theorem nodeSame_walk (w : World) (hG : GL w []) {a : Nd} {ca : List Value} (hra : RdL w (Fd w []) (dN a) ca) (hza : sz a ≤ 1048576) {b : Nd} {cb : List Value} (hrb : RdL w (Fd w []) (dN b) cb) (hzb : sz b ≤ 1048576) :
    Calls Tryd.prog 12 #[.agg ca.toArray, .agg cb.toArray] w (RetTrue w) := by
  refine calls_ev (args := [.agg ca.toArray, .agg cb.toArray]) mixed Tryd.func12 rfl (by kernel_rfl) ?_
  have hcla := hra.len
  have hclb := hrb.len
  rw [dN_len] at hcla hclb
  obtain ⟨Ap, cp, Av, cv, Ak, ck, Ah, ch, rfl, -⟩ := id hra.node
  obtain ⟨Bp, dp, Bv, dv, Bk, dk, Bh, dh, rfl, -⟩ := id hrb.node
  have M := ((St.start (w := w) (gs := []) (fun b h => by cases h)).addL hrb).addL hra
  refine s_box (ncs a Ap cp Av cv Ak ck Ah ch) M rfl ?_
  clear M
  rintro g2 W M
  refine s_box (ncs b Bp dp Bv dv Bk dk Bh dh) M rfl ?_
  clear M
  rintro g3 W M
  refine v_loadN (ncs a Ap cp Av cv Ak ck Ah ch) agg_nd rfl rfl (M.run 1 rfl) ?_
  refine cc is_much7 (much7_any a (by omega) _ _ (ncs a Ap cp Av cv Ak ck Ah ch) (M.da 0 rfl) M.olt) ?_
  rintro e W ⟨he, hb⟩
  obtain ⟨qa, hqqa⟩ : ∃ q, q = decide (900 ≤ muchP a 900) := ⟨_, rfl⟩
  rw [← hqqa] at he
  subst he
  replace M := M.call hb
  clear hb
  refine ⟨_, rfl, ?_⟩
  cases qa with
  | true =>
    refine cc is_kn7 (known7_any _ _ (M.gl hG) M.olt) ?_
    rintro e W ⟨rfl, hb⟩
    replace M := M.call hb
    clear hb
    exact ⟨_, rfl, rfl, M.below⟩
  | false =>
  refine v_loadN (ncs b Bp dp Bv dv Bk dk Bh dh) agg_nd rfl rfl (M.run 0 rfl) ?_
  refine cc is_much7 (much7_any b (by omega) _ _ (ncs b Bp dp Bv dv Bk dk Bh dh) (M.da 1 rfl) M.olt) ?_
  rintro e W ⟨he, hb⟩
  obtain ⟨qb, hqqb⟩ : ∃ q, q = decide (900 ≤ muchP b 900) := ⟨_, rfl⟩
  rw [← hqqb] at he
  subst he
  replace M := M.call hb
  clear hb
  refine ⟨_, rfl, ?_⟩
  cases qb with
  | true =>
    refine cc is_kn7 (known7_any _ _ (M.gl hG) M.olt) ?_
    rintro e W ⟨rfl, hb⟩
    replace M := M.call hb
    clear hb
    exact ⟨_, rfl, rfl, M.below⟩
  | false =>
  have hz2 := much7_no hqqa.symm
  have hz3 := much7_no hqqb.symm
  clear hqqa hqqb
  refine v_loadN (ncs a Ap cp Av cv Ak ck Ah ch) agg_nd rfl rfl (M.run 1 rfl) ?_
  refine v_loadN (ncs b Bp dp Bv dv Bk dk Bh dh) agg_nd rfl rfl (M.run 0 rfl) ?_
  refine cc is_nsame (nsame_any 1000000 (by decide) a (by omega) b _ _ _ _ (M.da 0 rfl) (M.da 1 rfl) M.olt (by omega)) ?_
  rintro e W ⟨n, rfl, hn, hb⟩
  replace M := M.call hb
  clear hb
  refine ⟨_, rfl, ?_⟩
  refine v_loadN (ncs a Ap cp Av cv Ak ck Ah ch) agg_nd rfl rfl (M.run 1 rfl) ?_
  have hown := M.olt
  obtain ⟨s0, hs0⟩ : ∃ s0, s0 = W.heap.size := ⟨_, rfl⟩
  have hws : w.heap.size ≤ s0 := by rw [hs0]; exact M.size
  refine cc is_ncopy (ncopy_any 10000000 (Nat.le_refl _) a (by omega) _ _ _ (M.da 0 rfl) M.olt) ?_
  rintro e W ⟨csc, rfl, r9, hb⟩
  obtain ⟨s1, hs1⟩ : ∃ s1, s1 = W.heap.size := ⟨_, rfl⟩
  replace M := M.callG hb r9
  rw [← hs0, ← hs1] at M
  clear r9 hb
  obtain ⟨Cp, ep, Cv, ev, Ck, ek, Ch, eh, rfl, -⟩ := (M.rda 0 rfl).node
  refine ⟨_, rfl, ?_⟩
  refine s_alloc (zN) M al_nd ?_
  clear M
  rintro g6 W M
  first | refine s_storeA 0 (ncs a Cp ep Cv ev Ck ek Ch eh) M rfl (by kernel_rfl) rfl rfl rfl (all1 rfl) rfl ?_ | refine s_storeA 1 (ncs a Cp ep Cv ev Ck ek Ch eh) M rfl (by kernel_rfl) rfl rfl rfl (all1 rfl) rfl ?_ | refine s_storeA 2 (ncs a Cp ep Cv ev Ck ek Ch eh) M rfl (by kernel_rfl) rfl rfl rfl (all1 rfl) rfl ?_ | refine s_storeA 3 (ncs a Cp ep Cv ev Ck ek Ch eh) M rfl (by kernel_rfl) rfl rfl rfl (all1 rfl) rfl ?_
  clear M
  rintro W M
  dsimp only [setL] at M
  replace M := (M.addL (M.rda 0 rfl)).drew
  refine drT (Kp w [] [(g6, 26, ncs a Cp ep Cv ev Ck ek Ch eh), (g3, 26, ncs b Bp dp Bv dv Bk dk Bh dh), (g2, 26, ncs a Ap cp Av cv Ak ck Ah ch)] []) (.take 0 (.take 1 (.take 2 (.one 3 (.take 4 (.take 5 (.take 6 (.take 7 (.take 9 (.one 8 (.take 10 (.take 11 (.take 12 (.take 13 (.take 14 (.one 15 (.take 16 (.take 17 (.take 18 (.take 19 (.take 21 (.one 20 (.one 22 (.one 23 (.take 24 (.take 25 (.nil))))))))))))))))))))))))))) (by kernel_rfl) (M.kp (by simp) (by simp)) ?_
  refine t_loadN (ncs a Ap cp Av cv Ak ck Ah ch) agg_nd rfl rfl (fun W K => K.run 2 rfl) ?_
  refine t_loadN (ncs b Bp dp Bv dv Bk dk Bh dh) agg_nd rfl rfl (fun W K => K.run 1 rfl) ?_
  refine cc is_r7same (rsame_any 2000000 (by decide) a (by omega) b _ _ _ _ (M.da 2 rfl) (M.da 3 rfl) M.olt (by omega)) ?_
  rintro e W ⟨q, rfl, hq, hb⟩
  replace M := M.call hb
  clear hb
  refine ⟨_, rfl, (M.kp (by simp) (by simp)), ?_⟩
  obtain rfl : q = n := by
    cases q with
    | true => exact (hn.2 (hq.1 rfl)).symm
    | false =>
      cases n with
      | true => exact hq.2 (hn.1 rfl) ▸ rfl
      | false => rfl
  clear hq
  refine p_bneC u_bool rfl rfl (fun _ => ?_) (fun e => absurd rfl e)
  refine t_loadN (ncs b Bp dp Bv dv Bk dk Bh dh) agg_nd rfl rfl (fun W K => K.run 1 rfl) ?_
  refine t_loadN (ncs a Ap cp Av cv Ak ck Ah ch) agg_nd rfl rfl (fun W K => K.run 2 rfl) ?_
  refine cc is_nsame (nsame_any 1000000 (by decide) b (by omega) a _ _ _ _ (M.da 3 rfl) (M.da 2 rfl) M.olt (by omega)) ?_
  rintro e W ⟨q2, rfl, hq2, hb⟩
  replace M := M.call hb
  clear hb
  refine ⟨_, rfl, (M.kp (by simp) (by simp)), ?_⟩
  obtain rfl : q2 = q := by
    cases q2 with
    | true => exact (hn.2 (hq2.1 rfl).symm).symm
    | false =>
      cases q with
      | true => exact hq2.2 (hn.1 rfl).symm ▸ rfl
      | false => rfl
  clear hq2
  refine p_bneC u_bool rfl rfl (fun _ => ?_) (fun e => absurd rfl e)
  refine t_loadN (ncs a Cp ep Cv ev Ck ek Ch eh) agg_nd rfl rfl (fun W K => K.run 0 rfl) ?_
  refine t_loadN (ncs a Ap cp Av cv Ak ck Ah ch) agg_nd rfl rfl (fun W K => K.run 2 rfl) ?_
  refine cc is_r7same (rsame_any 2000000 (by decide) a (by omega) a _ _ _ _ (M.da 0 rfl) (M.da 2 rfl) M.olt (by omega)) ?_
  rintro e W ⟨q, rfl, hq, hb⟩
  replace M := M.call hb
  clear hb
  refine ⟨_, rfl, (M.kp (by simp) (by simp)), ?_⟩
  obtain rfl := hq.2 rfl
  clear hq
  refine p_not rfl ?_
  refine t_loadN (ncs a Ap cp Av cv Ak ck Ah ch) agg_nd rfl rfl (fun W K => K.run 2 rfl) ?_
  refine t_loadN (ncs a Ap cp Av cv Ak ck Ah ch) agg_nd rfl rfl (fun W K => K.run 2 rfl) ?_
  have hfz : sz (foldN a) ≤ 1000000 := by
    unfold foldN
    split
    · have e : sz noneN = 6 := rfl
      omega
    · rw [sz, szs]
      have : (hashR a).length ≤ sz a + 32 := by
        unfold hashR
        split
        · rename_i hrt
          rw [hashP_len (val_of_right false _ a 0 (Nat.lt_succ_self _) hrt)]; omega
        · simp
      simp only [List.length_nil]
      omega
  refine cc is_nFold (nFold_any a (by omega) _ _ _ (M.gl hG) (M.da 2 rfl) M.olt) ?_
  rintro e W ⟨csf, rfl, rf, hb⟩
  replace M := M.callF hb rf
  clear rf hb
  refine ⟨_, rfl, (M.kp (by simp) (by simp)), ?_⟩
  refine cc is_r7fold (rfold_any a (by omega) _ _ _ (M.da 3 rfl) M.olt) ?_
  rintro e W ⟨csg, rfl, rf, hb⟩
  replace M := M.callF hb rf
  clear rf hb
  refine ⟨_, rfl, (M.kp (by simp) (by simp)), ?_⟩
  refine cc is_r7same (rsame_any 2000000 (by decide) (foldN a) (by omega) (foldN a) _ _ _ _ (M.da 1 rfl) (M.da 0 rfl) M.olt (by omega)) ?_
  rintro e W ⟨q, rfl, hq, hb⟩
  replace M := M.call hb
  clear hb
  refine ⟨_, rfl, (M.kp (by simp) (by simp)), ?_⟩
  obtain rfl := hq.2 rfl
  clear hq
  refine p_not rfl ?_
  -- what was copied is written over
  replace M := M.fsub [.rng s0 s1 (dN a) (ncs a Cp ep Cv ev Ck ek Ch eh)] (by simp)
  obtain ⟨L0, hL0⟩ : ∃ L0, L0 = [(g6, 26, ncs a Cp ep Cv ev Ck ek Ch eh), (g3, 26, ncs b Bp dp Bv dv Bk dk Bh dh), (g2, 26, ncs a Ap cp Av cv Ak ck Ah ch)] := ⟨_, rfl⟩
  rw [← hL0] at M
  obtain ⟨B, hB⟩ : ∃ B : Nat → Prop, B = fun b => Ft w W (own L0 [] []) true b ∧ s0 ≤ b ∧ b < s1 := ⟨_, rfl⟩
  have hrg := M.rg 0 rfl
  rw [← hB] at hrg
  obtain ⟨-, q3, q4, -⟩ := hrg.node6
  have hBlt : ∀ b, B b → b < W.heap.size := fun b hb => by rw [hB] at hb; exact hb.1.1
  have hBt : ∀ b, B b → Thaw W b := fun b hb => by rw [hB] at hb; exact (hb.1.2.2 rfl).2
  have hBo : ∀ b, B b → s0 ≤ b ∧ b < s1 ∧ some b ∉ own L0 [] [] := fun b hb => by rw [hB] at hb; exact ⟨hb.2.1, hb.2.2, hb.1.2.1⟩
  have tm : ∀ W', Tame B W W' → St w [] W' L0 [] [] := fun W' t => M.tame t hBo hws (fun f hf => by cases hf)
  have hsz := sz_eq a
  have hslc := szs_len a.kids
  rw [hL0] at M
  refine p_fld fN3 rfl ?_
  refine v_load agg_b rfl ((M.B 0 rfl).at_ rfl) ?_
  refine cc is_spoil (spoil_any B _ _ _ _ (SoftRd.of q3 (fun b h => h) hBlt) hBt (by omega)) ?_
  rintro e W1 ⟨⟨u, rfl⟩, t1⟩
  refine ⟨_, rfl, ?_⟩
  refine lp Nat (fun i W2 => i ≤ a.kids.length ∧ Tame B W W2) (fun i => [(2, .pointer (some ⟨g2, 0, none⟩)), (3, .pointer (some ⟨g3, 0, none⟩)), (5, .bool q2), (6, .pointer (some ⟨g6, 0, none⟩)), (7, .int .i64 i)]) (fun i => a.kids.length - i) 0 ⟨Nat.zero_le _, t1⟩ (by repeat (first | exact trivial | refine ⟨rfl, ?_⟩)) ?_
  clear M t1
  rintro i E2 W2 ⟨hi, t2⟩
  have M := tm W2 t2
  rw [hL0] at M
  refine p_fld fN4 rfl ?_
  refine v_load agg_ns rfl ((M.B 0 rfl).at_ rfl) ?_
  refine p_len sln rfl ?_
  refine p_lt rfl rfl (fun hlt => ?_) (fun hge => ?_)
  · obtain ⟨k, hk⟩ : ∃ k, a.kids[i]? = some k := ⟨_, List.getElem?_eq_getElem (by omega)⟩
    have hkz := szs_mem (List.mem_of_getElem? hk)
    obtain ⟨b0, o0, es, e0, hb0, hes, hel, hcell⟩ := q4.kid hk
    obtain ⟨Kp, fp, Kv, fv, Kk, fk, Kh, fh, rfl, -, -, -, q5⟩ := hes.node
    have hkz2 := sz_eq k
    subst e0
    refine p_fld fN4 rfl ?_
    refine v_load agg_ns rfl ((M.B 0 rfl).at_ rfl) ?_
    refine p_at (i := i) sln rfl rfl rfl (by omega) ?_
    refine p_fld fN5 rfl ?_
    obtain ⟨u5, hu5, hs5⟩ := t2.inn _ _ (hcell 5 _ rfl)
    have hu5' := hs5.sl
    subst hu5'
    refine v_load agg_b rfl hu5 ?_
    refine cc is_spoil (spoil_any B _ _ _ _ ((SoftRd.of q5 (fun b h => h) hBlt).up t2) (fun b hb => t2.thaw b (hBt b hb)) (by omega)) ?_
    rintro e W3 ⟨⟨u, rfl⟩, t3⟩
    replace t3 := t2.trans t3
    refine ⟨_, rfl, ?_⟩
    have M3 := tm W3 t3
    rw [hL0] at M3
    refine p_fld fN4 rfl ?_
    refine v_load agg_ns rfl ((M3.B 0 rfl).at_ rfl) ?_
    refine p_at (i := i) sln rfl rfl rfl (by omega) ?_
    refine p_fld fN0 rfl ?_
    obtain ⟨u0, hu0, hs0'⟩ := t3.inn _ _ (hcell 0 _ rfl)
    obtain ⟨y, rfl⟩ := hs0'.int
    have had : ((⟨b0, o0, none⟩ : Addr).add (i * 6)).add 0 = ⟨b0, o0 + i * 6, none⟩ := by rw [Addr.add_lit, Addr.add_lit, Nat.add_zero]
    rw [had] at hu0
    refine v_store (ad := ⟨b0, o0 + i * 6, none⟩) (old := .int .i64 y) sz_intS (congrArg (fun x => Value.pointer (some x)) had) rfl rfl hu0 ((t3.thaw b0 (hBt b0 hb0)).free _) ?_
    refine p_addN (b := 1) rfl rfl (by omega) ?_
    exact ⟨i + 1, ⟨by omega, t3.set hb0 hu0 (.inr (.inr ⟨y, -7, rfl, rfl⟩))⟩, (by repeat (first | exact trivial | refine ⟨rfl, ?_⟩)), by omega⟩
  · replace M := (M.arg hrb).arg hra
    clear tm
    refine v_loadN (ncs a Ap cp Av cv Ak ck Ah ch) agg_nd rfl rfl (M.run 2 rfl) ?_
    refine cc is_nEnc (nEnc_any a (by omega) _ _ _ (M.gl hG) (M.da 0 rfl) M.olt) ?_
    rintro e W ⟨A8, n8, c8, rfl, o, hb⟩
    replace M := M.callO hb o
    clear o hb
    refine ⟨_, rfl, ?_⟩
    refine v_loadN (ncs b Bp dp Bv dv Bk dk Bh dh) agg_nd rfl rfl (M.run 1 rfl) ?_
    refine cc is_nEnc (nEnc_any b (by omega) _ _ _ (M.gl hG) (M.da 2 rfl) M.olt) ?_
    rintro e W ⟨A9, n9, c9, rfl, o, hb⟩
    replace M := M.callO hb o
    clear o hb
    refine ⟨_, rfl, ?_⟩
    refine p_ne rfl rfl (fun ha0 => ?_) (fun _ => ?_)
    rotate_left
    ·
      refine v_loadN (ncs a Ap cp Av cv Ak ck Ah ch) agg_nd rfl rfl (M.run 2 rfl) ?_
      refine v_loadN (ncs a Ap cp Av cv Ak ck Ah ch) agg_nd rfl rfl (M.run 2 rfl) ?_
      refine cc is_nsame (nsame_any 1000000 (by decide) a (by omega) a _ _ _ _ (M.da 2 rfl) (M.da 2 rfl) M.olt (by omega)) ?_
      rintro e W ⟨q3, rfl, hq3, hb⟩
      obtain rfl := hq3.2 rfl
      replace M := M.call hb
      clear hb hq3
      refine ⟨_, rfl, ?_⟩
      refine cc is_kn7 (known7_any _ _ (M.gl hG) M.olt) ?_
      rintro e W ⟨rfl, hb⟩
      replace M := M.call hb
      clear hb
      exact ⟨_, rfl, rfl, M.below⟩
    refine p_ne rfl rfl (fun hb0 => ?_) (fun _ => ?_)
    rotate_left
    ·
      refine v_loadN (ncs a Ap cp Av cv Ak ck Ah ch) agg_nd rfl rfl (M.run 2 rfl) ?_
      refine v_loadN (ncs a Ap cp Av cv Ak ck Ah ch) agg_nd rfl rfl (M.run 2 rfl) ?_
      refine cc is_nsame (nsame_any 1000000 (by decide) a (by omega) a _ _ _ _ (M.da 2 rfl) (M.da 2 rfl) M.olt (by omega)) ?_
      rintro e W ⟨q3, rfl, hq3, hb⟩
      obtain rfl := hq3.2 rfl
      replace M := M.call hb
      clear hb hq3
      refine ⟨_, rfl, ?_⟩
      refine cc is_kn7 (known7_any _ _ (M.gl hG) M.olt) ?_
      rintro e W ⟨rfl, hb⟩
      replace M := M.call hb
      clear hb
      exact ⟨_, rfl, rfl, M.below⟩
    refine p_fld fN4 rfl ?_
    refine v_load agg_ns rfl ((M.B 2 rfl).at_ rfl) ?_
    refine p_len sln rfl ?_
    refine p_gt rfl rfl (fun _ => ?_) (fun hka => ?_)
    ·
      refine v_loadN (ncs a Ap cp Av cv Ak ck Ah ch) agg_nd rfl rfl (M.run 2 rfl) ?_
      refine v_loadN (ncs a Ap cp Av cv Ak ck Ah ch) agg_nd rfl rfl (M.run 2 rfl) ?_
      refine cc is_nsame (nsame_any 1000000 (by decide) a (by omega) a _ _ _ _ (M.da 2 rfl) (M.da 2 rfl) M.olt (by omega)) ?_
      rintro e W ⟨q3, rfl, hq3, hb⟩
      obtain rfl := hq3.2 rfl
      replace M := M.call hb
      clear hb hq3
      refine ⟨_, rfl, ?_⟩
      refine cc is_kn7 (known7_any _ _ (M.gl hG) M.olt) ?_
      rintro e W ⟨rfl, hb⟩
      replace M := M.call hb
      clear hb
      exact ⟨_, rfl, rfl, M.below⟩
    refine p_fld fN4 rfl ?_
    refine v_load agg_ns rfl ((M.B 1 rfl).at_ rfl) ?_
    refine p_len sln rfl ?_
    refine p_gt rfl rfl (fun _ => ?_) (fun hkb => ?_)
    ·
      refine v_loadN (ncs a Ap cp Av cv Ak ck Ah ch) agg_nd rfl rfl (M.run 2 rfl) ?_
      refine v_loadN (ncs a Ap cp Av cv Ak ck Ah ch) agg_nd rfl rfl (M.run 2 rfl) ?_
      refine cc is_nsame (nsame_any 1000000 (by decide) a (by omega) a _ _ _ _ (M.da 2 rfl) (M.da 2 rfl) M.olt (by omega)) ?_
      rintro e W ⟨q3, rfl, hq3, hb⟩
      obtain rfl := hq3.2 rfl
      replace M := M.call hb
      clear hb hq3
      refine ⟨_, rfl, ?_⟩
      refine cc is_kn7 (known7_any _ _ (M.gl hG) M.olt) ?_
      rintro e W ⟨rfl, hb⟩
      replace M := M.call hb
      clear hb
      exact ⟨_, rfl, rfl, M.below⟩
    obtain ⟨ea4, eav, eae⟩ := encR_ok ha0
    obtain ⟨eb4, ebv, ebe⟩ := encR_ok hb0
    have hinj := enc0_inj eav ebv (show a.kids.length = 0 by omega) (show b.kids.length = 0 by omega) ea4 eb4
    rw [eae, ebe] at M
    obtain ⟨q9, hq9, hc⟩ := same_tf (c1 := c8) (c2 := c9) (M.rdb 1 rfl).2.2 (M.rdb 0 rfl).2.2
    refine cc is_same0 hc ?_
    rintro e W' ⟨rfl, rfl⟩
    refine ⟨_, rfl, ?_⟩
    clear hc
    obtain rfl : q9 = q2 := by
      cases q9 with
      | true => exact (hn.2 (hinj.1 (hq9.1 rfl))).symm
      | false =>
        cases q2 with
        | true => exact hq9.2 (hinj.2 (hn.1 rfl)) ▸ rfl
        | false => rfl
    refine p_beqC u_bool rfl rfl (fun _ => ?_) (fun e => absurd rfl e)
    refine v_loadN (ncs a Ap cp Av cv Ak ck Ah ch) agg_nd rfl rfl (M.run 2 rfl) ?_
    refine v_loadN (ncs a Ap cp Av cv Ak ck Ah ch) agg_nd rfl rfl (M.run 2 rfl) ?_
    refine cc is_nsame (nsame_any 1000000 (by decide) a (by omega) a _ _ _ _ (M.da 2 rfl) (M.da 2 rfl) M.olt (by omega)) ?_
    rintro e W ⟨q3, rfl, hq3, hb⟩
    obtain rfl := hq3.2 rfl
    replace M := M.call hb
    clear hb hq3
    refine ⟨_, rfl, ?_⟩
    refine cc is_kn7 (known7_any _ _ (M.gl hG) M.olt) ?_
    rintro e W ⟨rfl, hb⟩
    replace M := M.call hb
    clear hb
    exact ⟨_, rfl, rfl, M.below⟩
end Go.Proofs.YtojjfkbffjkojaaDoor
namespace Go.Proofs.YtojjfkbffjkojaaDoor
open Go.RowKit Go.ChangeShapes
theorem gBegin : Tryd.prog.globalNamed "exchequer/digest.begin" = some 0 := by kernel_rfl
theorem gRoots : Tryd.prog.globalNamed "exchequer/digest.roots" = some 1 := by kernel_rfl
theorem tBegin : (Tryd.prog.globals[0]?).map (·.type) = some 130 := by kernel_rfl
theorem tRoots : (Tryd.prog.globals[1]?).map (·.type) = some 133 := by kernel_rfl
theorem cB : Tryd.prog.cellsOf 130 = 8 := by kernel_rfl
theorem cR : Tryd.prog.cellsOf 133 = 64 := by kernel_rfl
theorem cU : Tryd.prog.cellsOf 94 = 1 := by kernel_rfl
def laidL : List (String × DataW Unit) := [("exchequer/digest.begin", Rows.laid_exchequer_digest_begin), ("exchequer/digest.roots", Rows.laid_exchequer_digest_roots)]
theorem gl_of {W : World} (h : laidMetH Tryd.prog laidL W) : GL W [] := by
  rw [MakeChecks.laidMetH_plain _ _ _ (by kernel_rfl)] at h
  have hb : Lib.TabIs Tryd.prog W "exchequer/digest.begin" .u32 [1779033703, 3144134277, 1013904242, 2773480762, 1359893119, 2600822924, 528734635, 1541459225] :=
    Lib.tabIs_of_head (rest := [("exchequer/digest.roots", Rows.laid_exchequer_digest_roots)]) gBegin tBegin Tryd.underlying130 Tryd.underlying94 cU cB h
  obtain ⟨ps, ⟨g0, t0, cs0, f0, p0, q0, hg0, ht0, hv0, hd0, ⟨g1, t1, cs1, f1, p1, q1, hg1, ht1, hv1, hd1, _, _⟩, _⟩, _, _⟩ := h
  obtain rfl := Option.some.inj (gRoots.symm.trans hg1)
  obtain rfl := Option.some.inj (tRoots.symm.trans ht1)
  have hr : Lib.TabIs Tryd.prog W "exchequer/digest.roots" .u32 (List.map (fun (n : Nat) => (n : Int)) roots) := by
    unfold Lib.TabIs
    rw [hv1, ← Lib.cells_of_tab Tryd.underlying133 Tryd.underlying94 cU cR hd1]
  refine ⟨fun j hj => ?_, fun j v hv => ?_, ?_, by simp, by simp⟩
  · have := hr.cell gRoots j (by rw [List.length_map]; exact hj)
    rw [this]
    unfold cu
    congr 2
    rw [List.getD_eq_getElem?_getD, List.getD_eq_getElem?_getD, List.getElem?_map]
    have : j < roots.length := hj
    rw [List.getElem?_eq_getElem this]; rfl
  · have hj := (List.getElem?_eq_some_iff.1 hv).1
    have := hb.cell gBegin j hj
    rw [this]
    have hj8 : j = 0 ∨ j = 1 ∨ j = 2 ∨ j = 3 ∨ j = 4 ∨ j = 5 ∨ j = 6 ∨ j = 7 := by have : j < 8 := hj; omega
    rcases hj8 with rfl | rfl | rfl | rfl | rfl | rfl | rfl | rfl <;> exact hv
  · have := hr.cell gRoots 0 (by decide)
    have := World.block_lt_of_cell? W _ this
    exact this
/-- A world for the witness: the tables hold what their initialisers lay. -/
def layAt (cs : List Value) : Obj → Obj
  | .cells _ t frozen => .cells cs.toArray t frozen
  | o => o
noncomputable def laidWorld (os : Os) : World :=
  { World.holding Tryd.prog os ⟨#[], #[], []⟩ with heap := ((World.holding Tryd.prog os ⟨#[], #[], []⟩).heap.modify 0 (layAt (hc begin8))).modify 1 (layAt (roots.map cu)) }
end Go.Proofs.YtojjfkbffjkojaaDoor
