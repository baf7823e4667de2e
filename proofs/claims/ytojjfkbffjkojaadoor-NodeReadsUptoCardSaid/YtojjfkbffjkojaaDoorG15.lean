/- Memory that is written over, but keeps its kinds; the walk of reference 00's Spoil. The walk of the law NodeSame. Nodes' bytes, plainly: what is written is read. Reference 07: text, stubs, Decode; reference 06: Unpack (what it makes is its caller's). -/
import Derived.Test.YtojjfkbffjkojaaDoorG08
import Derived.Test.YtojjfkbffjkojaaDoorG04
import Derived.Test.YtojjfkbffjkojaaDoorG05
import Derived.Test.YtojjfkbffjkojaaDoorG14
import Derived.Test.YtojjfkbffjkojaaDoorG13
import Derived.Test.YtojjfkbffjkojaaDoorG11
import Derived.Test.YtojjfkbffjkojaaDoorG09
namespace Go.Proofs.YtojjfkbffjkojaaDoor
open Go.RowKit
def soft (v v' : Value) : Prop := v' = v ∨ (∃ (c c' : UInt8), v = u8v c ∧ v' = u8v c') ∨ (∃ x y : Int, v = .int .i64 x ∧ v' = .int .i64 y)
theorem soft.trans {a b c : Value} (h : soft a b) (k : soft b c) : soft a c := by
  rcases h with rfl | ⟨x, y, rfl, rfl⟩ | ⟨x, y, rfl, rfl⟩
  · exact k
  · rcases k with rfl | ⟨x', y', h1, rfl⟩ | ⟨x', y', h1, rfl⟩
    · exact .inr (.inl ⟨_, _, rfl, rfl⟩)
    · exact .inr (.inl ⟨_, _, rfl, rfl⟩)
    · unfold u8v at h1; injection h1 with h1; cases h1
  · rcases k with rfl | ⟨x', y', h1, rfl⟩ | ⟨x', y', h1, rfl⟩
    · exact .inr (.inr ⟨_, _, rfl, rfl⟩)
    · unfold u8v at h1; injection h1 with h1; cases h1
    · exact .inr (.inr ⟨_, _, rfl, rfl⟩)
theorem soft.byte {c : UInt8} {v : Value} (h : soft (u8v c) v) : ∃ c', v = u8v c' := by
  rcases h with rfl | ⟨x, y, _, rfl⟩ | ⟨x, y, h1, rfl⟩
  · exact ⟨c, rfl⟩
  · exact ⟨y, rfl⟩
  · unfold u8v at h1; injection h1 with h1; cases h1
theorem soft.sl {A : Option Addr} {n c : Nat} {v : Value} (h : soft (.slice A n c) v) : v = .slice A n c := by
  rcases h with rfl | ⟨x, y, h1, rfl⟩ | ⟨x, y, h1, rfl⟩
  · rfl
  · cases h1
  · cases h1
theorem soft.int {x : Int} {v : Value} (h : soft (.int .i64 x) v) : ∃ y, v = .int .i64 y := by
  rcases h with rfl | ⟨c, y, h1, rfl⟩ | ⟨x, y, h1, rfl⟩
  · exact ⟨_, rfl⟩
  · unfold u8v at h1; injection h1 with h1; cases h1
  · exact ⟨_, rfl⟩
/-- Only what lies in some blocks is written, and keeps its kind. -/
structure Tame (B : Nat → Prop) (W W' : World) : Prop where
  low : ∀ base, (∀ b, B b → base ≤ b) → Below base W W'
  size : W'.heap.size = W.heap.size
  out : ∀ b, ¬ B b → W'.heap[b]? = W.heap[b]?
  inn : ∀ a v, W.cell? a = some v → ∃ v', W'.cell? a = some v' ∧ soft v v'
  thaw : ∀ b, Thaw W b → Thaw W' b
theorem Tame.refl (B : Nat → Prop) (W : World) : Tame B W W := ⟨fun base _ => Below.refl _ _, rfl, fun _ _ => rfl, fun a v h => ⟨v, h, .inl rfl⟩, fun b h => h⟩
theorem Tame.trans {B : Nat → Prop} {W W1 W2 : World} (h : Tame B W W1) (k : Tame B W1 W2) : Tame B W W2 :=
  ⟨fun base hb => (h.low base hb).trans (k.low base hb), k.size.trans h.size, fun b hb => (k.out b hb).trans (h.out b hb), fun a v hv => by
    obtain ⟨v1, h1, s1⟩ := h.inn a v hv
    obtain ⟨v2, h2, s2⟩ := k.inn a v1 h1
    exact ⟨v2, h2, s1.trans s2⟩, fun b hb => k.thaw b (h.thaw b hb)⟩
theorem heap_set_at {W : World} {b o : Nat} {c : Array Value} {e : TypeId} {z : Nat × Nat} (v : Value) (h : W.heap[b]? = some (.cells c e z)) : (W.setCell ⟨b, o, none⟩ v).heap[b]? = some (.cells (c.setIfInBounds o v) e z) := by
  unfold World.setCell
  simp only [Array.getElem?_modify, h, if_pos]
  rfl
theorem cell_set {W : World} {b o : Nat} {old v : Value} (hc : W.cell? ⟨b, o, none⟩ = some old) {a : Addr} {u : Value} (ha : W.cell? a = some u) : (W.setCell ⟨b, o, none⟩ v).cell? a = some (if a.block = b ∧ a.off = o then v else u) := by
  by_cases hb : a.block = b
  · have hsp := World.cell?_spot ha
    obtain ⟨ab, ao, asp⟩ := a
    dsimp only at hb hsp ⊢
    subst hb
    subst hsp
    cases hh : W.heap[ab]? with
    | none => unfold World.cell? at ha; dsimp only at ha; rw [hh] at ha; cases ha
    | some ob =>
      cases ob with
      | cells c e z =>
        have h2 := heap_set_at (o := o) v hh
        unfold World.cell? at ha hc ⊢
        dsimp only at ha hc ⊢
        rw [hh] at ha hc
        rw [h2]
        simp only [Option.isSome_none, Bool.false_eq_true, if_false] at ha hc ⊢
        by_cases ho : ao = o
        · subst ho
          rw [if_pos (by simp), Array.getElem?_setIfInBounds_self_of_lt (Array.getElem?_eq_some_iff.1 hc).1]
        · rw [if_neg (fun h => ho h.2), Array.getElem?_setIfInBounds_ne (fun e => ho e.symm)]; exact ha
      | _ => unfold World.cell? at ha; dsimp only at ha; rw [hh] at ha; cases ha
  · rw [if_neg (fun h => hb h.1)]
    exact (World.cell?_of_block (w := W) (Below.heap_setCell W ⟨b, o, none⟩ v a.block hb)).trans ha
theorem Tame.set {B : Nat → Prop} {W W1 : World} (h : Tame B W W1) {b o : Nat} {old v : Value} (hB : B b) (hc : W1.cell? ⟨b, o, none⟩ = some old) (hs : soft old v) : Tame B W (W1.setCell ⟨b, o, none⟩ v) :=
  h.trans ⟨fun base hb => (Below.refl _ _).setCell (hb b hB) v, by unfold World.setCell; simp, fun k hk => Below.heap_setCell W1 ⟨b, o, none⟩ v k (fun e => hk (e ▸ hB)), fun a u hu => by
    refine ⟨_, cell_set hc hu, ?_⟩
    by_cases hab : a.block = b ∧ a.off = o
    · rw [if_pos hab]
      have hsp := World.cell?_spot hu
      obtain ⟨ab, ao, asp⟩ := a
      dsimp only at hab hsp
      obtain ⟨rfl, rfl⟩ := hab
      subst hsp
      rw [hc] at hu
      injection hu with hu
      rw [← hu]; exact hs
    · rw [if_neg hab]; exact .inl rfl, fun k hk => by
    by_cases e : k = b
    · subst e
      intro cs T z hz
      cases hh : W1.heap[k]? with
      | none => unfold World.cell? at hc; dsimp only at hc; rw [hh] at hc; cases hc
      | some ob =>
        cases ob with
        | cells c e z' =>
          rw [heap_set_at v hh] at hz
          injection hz with hz
          injection hz with _ _ hz
          rw [← hz]; exact hk c e z' hh
        | _ => unfold World.cell? at hc; dsimp only at hc; rw [hh] at hc; cases hc
    · exact hk.same (Below.heap_setCell W1 ⟨b, o, none⟩ v k e)⟩
/-- A slice of bytes, whichever they are. -/
def SoftRd (B : Nat → Prop) (W : World) (A : Option Addr) (n : Nat) : Prop := 0 < n → ∃ b off, A = some ⟨b, off, none⟩ ∧ B b ∧ ∀ j, j < n → ∃ c : UInt8, W.cell? ⟨b, off + j, none⟩ = some (u8v c)
theorem SoftRd.up {B : Nat → Prop} {W W' : World} {A : Option Addr} {n : Nat} (h : SoftRd B W A n) (t : Tame B W W') : SoftRd B W' A n := fun hn => by
  obtain ⟨b, off, e, hB, hc⟩ := h hn
  refine ⟨b, off, e, hB, fun j hj => ?_⟩
  obtain ⟨c, hc⟩ := hc j hj
  obtain ⟨v', h1, h2⟩ := t.inn _ _ hc
  obtain ⟨c', rfl⟩ := h2.byte
  exact ⟨c', h1⟩
theorem SoftRd.of {B F : Nat → Prop} {W : World} {A : Option Addr} {n c : Nat} {l : List UInt8} (h : RdD W F (dB l) (.slice A n c)) (hF : ∀ b, F b → B b) (hlt : ∀ b, F b → b < W.heap.size) : SoftRd B W A n := fun hn => by
  have e := h.slen
  obtain ⟨A', c', e1, _, hr⟩ := h.bytes hlt
  injection e1 with e1 e2 e3
  subst e1
  subst e2
  obtain ⟨b, off, rfl, _⟩ := hr.at_ (k := 0) (by omega)
  refine ⟨b, off, rfl, hF b (RdD.blk0 h hn), fun j hj => ?_⟩
  obtain ⟨b', off', e2, hc⟩ := hr.at_ (k := j) hj
  injection e2 with e2
  injection e2 with e2 e3
  subst e2; subst e3
  exact ⟨l.getD j 0, hc⟩
theorem is_spoil : isFn Tryd.prog 33 = true := by kernel_rfl
theorem sz_u8s : (Tryd.prog.info? 5).map (·.size) = some 1 := by kernel_rfl
theorem xor_range (a : Int) : 0 ≤ bits .xor .u8 a 165 ∧ bits .xor .u8 a 165 ≤ 255 := by
  unfold bits
  rw [IntKind.wrap_u8']
  omega
set_option maxRecDepth 100000 in
set_option maxHeartbeats 1000000 in
theorem spoil_any (B : Nat → Prop) (W : World) (A : Option Addr) (n c : Nat) (h : SoftRd B W A n) (hT : ∀ b, B b → Thaw W b) (hn : n ≤ 1000000000) :
    Calls Tryd.prog 33 #[.slice A n c] W fun e W' => (∃ v, e = .returned v) ∧ Tame B W W' := by
  refine calls_ev (args := [.slice A n c]) mixed Tryd.func33 rfl (by kernel_rfl) ?_
  refine lp Nat (fun i W1 => i ≤ n ∧ Tame B W W1) (fun i => [(0, .slice A n c), (2, .int .i64 i)]) (fun i => n - i) 0 ⟨Nat.zero_le _, Tame.refl _ _⟩ (by repeat (first | exact trivial | refine ⟨rfl, ?_⟩)) ?_
  rintro i E W1 ⟨hi, M⟩
  refine p_len slb rfl ?_
  refine p_lt rfl rfl (fun hlt => ?_) (fun hge => ?_)
  · obtain ⟨b, off, rfl, hB, hc⟩ := (h.up M) (by omega)
    obtain ⟨q, hq⟩ := hc i (by omega)
    have hx := xor_range (q.toNat : Int)
    have hq' : W1.cell? ((⟨b, off, none⟩ : Addr).add (i * 1)) = some (.int .u8 (q.toNat : Int)) := by rw [Addr.add_lit, Nat.mul_one]; exact hq
    refine p_at (i := i) slb rfl rfl rfl (by omega) ?_
    refine v_load agg_by' rfl hq' ?_
    refine p_xor rfl rfl rfl ?_
    refine p_at (i := i) slb rfl rfl rfl (by omega) ?_
    refine v_store (ad := ⟨b, off + i, none⟩) (old := u8v q) sz_u8s (by show Value.pointer (some ((⟨b, off, none⟩ : Addr).add (i * 1))) = _; rw [Addr.add_lit, Nat.mul_one]) rfl rfl hq ((M.thaw b (hT b hB)).free _) ?_
    refine p_addN (b := 1) rfl rfl (by omega) ?_
    exact ⟨i + 1, ⟨by omega, M.set hB hq (.inr (.inl ⟨q, b8 (bits .xor .u8 (q.toNat : Int) 165), rfl, (u8v_b8 _ hx.1 hx.2).symm⟩))⟩, (by repeat (first | exact trivial | refine ⟨rfl, ?_⟩)), by omega⟩
  · exact ⟨⟨_, rfl⟩, M⟩
/-- What a call has made, between two sizes. -/
theorem St.callG {w W W' : World} {gs : List (Option Nat)} {L : Lc} {R : List Row} {fs : List Fact} {ds : List D} {cs : List Value} (M : St w gs W L R fs) (hb : Below W.heap.size W W') (h : RdL W' (Fr W W') ds cs) : St w gs W' L R (.rng W.heap.size W'.heap.size ds cs :: fs) :=
  (M.call hb).add (f := .rng W.heap.size W'.heap.size ds cs) (h.to fun b hb' => ⟨rfl, ⟨hb'.2.1, fun e => by have := M.olt b e; have := hb'.1; omega, fun _ => ⟨Nat.le_trans M.size hb'.1, hb'.2.2⟩⟩, hb'.1, hb'.2.1⟩)
theorem St.rg {w W : World} {gs : List (Option Nat)} {L : Lc} {R : List Row} {fs : List Fact} {lo hi : Nat} {ds : List D} {cs : List Value} (M : St w gs W L R fs) (i : Nat) (h : nth fs i = some (.rng lo hi ds cs)) : RdL W (fun b => Ft w W (own L R gs) true b ∧ lo ≤ b ∧ b < hi) ds cs := M.fct _ (nth_mem h)
theorem St.rda {w W : World} {gs : List (Option Nat)} {L : Lc} {R : List Row} {fs : List Fact} {lo hi : Nat} {ds : List D} {cs : List Value} (M : St w gs W L R fs) (i : Nat) (h : nth fs i = some (.rng lo hi ds cs)) : RdL W (Fd W (own L R gs)) ds cs := (M.rg i h).to fun b hb => ⟨rfl, hb.1.1, hb.1.2.1⟩
/-- What was handed in. -/
theorem St.arg {w W : World} {gs : List (Option Nat)} {L : Lc} {R : List Row} {fs : List Fact} {ds : List D} {cs : List Value} (M : St w gs W L R fs) (h : RdL w (Fd w gs) ds cs) : St w gs W L R (.dat false ds cs :: fs) :=
  M.addL (h.to fun b hb => ⟨M.below.block b hb.1, by have := M.size; have := hb.1; omega, fun e => by
    unfold own at e
    rcases List.mem_append.1 e with e | e
    · obtain ⟨y, hy, he⟩ := List.mem_map.1 e
      injection he with he
      have := (M.blk y hy).2; have := hb.1; omega
    rcases List.mem_append.1 e with e | e
    · obtain ⟨r, hr, he⟩ := List.mem_map.1 e
      have := (row_bklo (M.row r hr) b he).1; have := hb.1; omega
    · exact hb.2 e⟩)
/-- Behind what is written over. -/
theorem St.tame {w W W' : World} {gs : List (Option Nat)} {L : Lc} {R : List Row} {fs fs' : List Fact} {B : Nat → Prop} {s0 s1 : Nat} (M : St w gs W L R fs) (t : Tame B W W') (hB : ∀ b, B b → s0 ≤ b ∧ b < s1 ∧ some b ∉ own L R gs) (hs : w.heap.size ≤ s0)
    (hf : ∀ f ∈ fs', f ∈ fs ∧ ∃ lo hi ds cs, f = .rng lo hi ds cs ∧ (hi ≤ s0 ∨ s1 ≤ lo)) : St w gs W' L R fs' := by
  have hown : ∀ b, some b ∈ own L R gs → W'.heap[b]? = W.heap[b]? := fun b e => t.out b (fun h => (hB b h).2.2 e)
  refine ⟨M.below.trans (t.low _ (fun b hb => Nat.le_trans hs (hB b hb).1)), M.lt, fun x hx => ⟨(hown x.1 (by unfold own; exact List.mem_append_left _ (List.mem_map.2 ⟨x, hx, rfl⟩))).trans (M.blk x hx).1, (M.blk x hx).2⟩, fun r hr => ?_, M.ap, fun f hfm => ?_⟩
  · obtain ⟨h1, h2⟩ := M.row r hr
    refine ⟨h1, ?_⟩
    rcases h2 with h2 | ⟨g, cap, cur, hv, hb, hh, h3⟩
    · exact .inl h2
    · refine .inr ⟨g, cap, cur, hv, hb, ?_, h3⟩
      rw [hown g (by
        unfold own
        refine List.mem_append_right _ (List.mem_append_left _ (List.mem_map.2 ⟨r, hr, ?_⟩))
        injection hv with e1
        rw [e1]; rfl)]
      exact hh
  · obtain ⟨hm, lo, hi, ds, cs, rfl, hor⟩ := hf f hfm
    have h := M.fct _ hm
    refine RdL.to (fun b hb => ?_) (show RdL W (fun b => Ft w W (own L R gs) true b ∧ lo ≤ b ∧ b < hi) ds cs from h)
    have e : W'.heap[b]? = W.heap[b]? := t.out b (fun h => by have := hB b h; have := hb.2; omega)
    exact ⟨e, ⟨by rw [t.size]; exact hb.1.1, hb.1.2.1, fun q => ⟨(hb.1.2.2 q).1, (hb.1.2.2 q).2.same e⟩⟩, hb.2⟩
theorem RdL.node6 {W : World} {F : Nat → Prop} {t : Nd} {Ap Av Ak Ah : Option Addr} {cp cv ck ch : Nat} (h : RdL W F (dN t) (ncs t Ap cp Av cv Ak ck Ah ch)) : RdD W F (dB t.path) (.slice Ap t.path.length cp) ∧ RdD W F (dB t.val) (.slice Av t.val.length cv) ∧ RdD W F (dKs t.kids) (.slice Ak t.kids.length ck) ∧ RdD W F (dB t.hash) (.slice Ah t.hash.length ch) := by
  obtain ⟨A1, c1, A2, c2, A3, c3, A4, c4, heq, r1, r2, r3, r4⟩ := h.node
  unfold ncs at heq
  injection heq with _ heq
  injection heq with e1 heq
  injection heq with _ heq
  injection heq with e2 heq
  injection heq with e3 heq
  injection heq with e4 _
  rw [e1, e2, e3, e4]
  exact ⟨r1, r2, r3, r4⟩
end Go.Proofs.YtojjfkbffjkojaaDoor
namespace Go.Proofs.YtojjfkbffjkojaaDoor
open Go.RowKit


theorem encR_ok {t : Nd} (h : (encR t).2 = 0) : t.kind ≠ 4 ∧ Val false t 0 ∧ encR t = (encP t, 0) := by
  unfold encR at h ⊢
  by_cases hc : t.kind ≠ 4 ∧ rightP false t 0 = true
  · rw [if_pos hc]
    exact ⟨hc.1, val_of_right false _ t 0 (Nat.lt_succ_self _) hc.2, rfl⟩
  · rw [if_neg hc] at h; cases h
end Go.Proofs.YtojjfkbffjkojaaDoor
namespace Go.Proofs.YtojjfkbffjkojaaDoor
open Go.RowKit
def by8 (a b c d e f g h : Bool) : Nat := (if a then 128 else 0) + (if b then 64 else 0) + (if c then 32 else 0) + (if d then 16 else 0) + (if e then 8 else 0) + (if f then 4 else 0) + (if g then 2 else 0) + (if h then 1 else 0)
theorem by8_bits : ∀ a b c d e f g h : Bool, by8 a b c d e f g h < 256 ∧ decide (by8 a b c d e f g h / 128 % 2 = 1) = a ∧ decide (by8 a b c d e f g h / 64 % 2 = 1) = b ∧ decide (by8 a b c d e f g h / 32 % 2 = 1) = c ∧ decide (by8 a b c d e f g h / 16 % 2 = 1) = d ∧ decide (by8 a b c d e f g h / 8 % 2 = 1) = e ∧ decide (by8 a b c d e f g h / 4 % 2 = 1) = f ∧ decide (by8 a b c d e f g h / 2 % 2 = 1) = g ∧ decide (by8 a b c d e f g h / 1 % 2 = 1) = h := by decide +kernel
def nz (ks : List Nd) (i : Nat) : Bool := decide ((ks.getD i noneN).kind ≠ 0)
theorem kbit_nz (ks : List Nd) (i c : Nat) (h : 128 / 2 ^ (i % 8) = c) : kbit ks i = if nz ks i then c else 0 := by
  unfold kbit nz
  rw [h]
  by_cases hk : (ks.getD i noneN).kind ≠ 0
  · rw [if_pos hk, decide_eq_true hk]; rfl
  · rw [if_neg hk, decide_eq_false hk]; rfl
theorem kbits_by8 (ks : List Nd) : kbits ks 16 = (by8 (nz ks 0) (nz ks 1) (nz ks 2) (nz ks 3) (nz ks 4) (nz ks 5) (nz ks 6) (nz ks 7), by8 (nz ks 8) (nz ks 9) (nz ks 10) (nz ks 11) (nz ks 12) (nz ks 13) (nz ks 14) (nz ks 15)) := by
  have e : kbits ks 16 = (kbit ks 0 + kbit ks 1 + kbit ks 2 + kbit ks 3 + kbit ks 4 + kbit ks 5 + kbit ks 6 + kbit ks 7, kbit ks 8 + kbit ks 9 + kbit ks 10 + kbit ks 11 + kbit ks 12 + kbit ks 13 + kbit ks 14 + kbit ks 15) := by simp [kbits]
  rw [e]
  unfold by8
  rw [kbit_nz ks 0 128 (by decide), kbit_nz ks 1 64 (by decide), kbit_nz ks 2 32 (by decide), kbit_nz ks 3 16 (by decide), kbit_nz ks 4 8 (by decide), kbit_nz ks 5 4 (by decide), kbit_nz ks 6 2 (by decide), kbit_nz ks 7 1 (by decide), kbit_nz ks 8 128 (by decide), kbit_nz ks 9 64 (by decide), kbit_nz ks 10 32 (by decide), kbit_nz ks 11 16 (by decide), kbit_nz ks 12 8 (by decide), kbit_nz ks 13 4 (by decide), kbit_nz ks 14 2 (by decide), kbit_nz ks 15 1 (by decide)]
theorem bitB_nz (ks : List Nd) {i : Nat} (hi : i < 16) : bitB [UInt8.ofNat (kbits ks 16).1, UInt8.ofNat (kbits ks 16).2] i = nz ks i := by
  rw [kbits_by8]
  obtain ⟨h1, a0, a1, a2, a3, a4, a5, a6, a7⟩ := by8_bits (nz ks 0) (nz ks 1) (nz ks 2) (nz ks 3) (nz ks 4) (nz ks 5) (nz ks 6) (nz ks 7)
  obtain ⟨h2, b0, b1, b2, b3, b4, b5, b6, b7⟩ := by8_bits (nz ks 8) (nz ks 9) (nz ks 10) (nz ks 11) (nz ks 12) (nz ks 13) (nz ks 14) (nz ks 15)
  dsimp only
  generalize by8 (nz ks 0) (nz ks 1) (nz ks 2) (nz ks 3) (nz ks 4) (nz ks 5) (nz ks 6) (nz ks 7) = x at *
  generalize by8 (nz ks 8) (nz ks 9) (nz ks 10) (nz ks 11) (nz ks 12) (nz ks 13) (nz ks 14) (nz ks 15) = y at *
  have ex : (UInt8.ofNat x).toNat = x := by rw [UInt8.toNat_ofNat', Nat.mod_eq_of_lt h1]
  have ey : (UInt8.ofNat y).toNat = y := by rw [UInt8.toNat_ofNat', Nat.mod_eq_of_lt h2]
  have key : ∀ i, i < 16 → bitB [UInt8.ofNat x, UInt8.ofNat y] i = decide ((if i < 8 then x else y) / 2 ^ (7 - i % 8) % 2 = 1) := by
    intro i hi
    unfold bitB
    by_cases h8 : i < 8
    · rw [if_pos h8, show i / 8 = 0 by omega]; show decide ((UInt8.ofNat x).toNat / _ % 2 = 1) = _; rw [ex]
    · rw [if_neg h8, show i / 8 = 1 by omega]; show decide ((UInt8.ofNat y).toNat / _ % 2 = 1) = _; rw [ey]
  rw [key i hi]
  have hc : i = 0 ∨ i = 1 ∨ i = 2 ∨ i = 3 ∨ i = 4 ∨ i = 5 ∨ i = 6 ∨ i = 7 ∨ i = 8 ∨ i = 9 ∨ i = 10 ∨ i = 11 ∨ i = 12 ∨ i = 13 ∨ i = 14 ∨ i = 15 := by omega
  rcases hc with rfl | rfl | rfl | rfl | rfl | rfl | rfl | rfl | rfl | rfl | rfl | rfl | rfl | rfl | rfl | rfl <;> assumption
/-- Nothing, or a stub. -/
def flatN (k : Nd) : Prop := k = noneN ∨ ∃ h : List UInt8, k = stubN h ∧ h.length = 32
theorem cut_app {h r : List UInt8} (hl : h.length = 32) : cutP 32 ⟨h ++ r, false⟩ = (h, ⟨r, false⟩) := by
  unfold cutP
  rw [if_neg (by simp; omega)]
  dsimp only
  rw [List.take_left' hl, List.drop_left' hl]
theorem kidsR_all {set : List UInt8} {all : List Nd} (hb : ∀ i, i < 16 → bitB set i = nz all i) : ∀ (n i : Nat) (ks : List Nd), i + n = 16 → ks.length = n → ks = all.drop i → (∀ k ∈ ks, flatN k) → kidsR set n i ⟨hashesP ks, false⟩ = (ks, ⟨[], false⟩)
  | 0, i, ks, _, hl, _, _ => by
    rw [List.eq_nil_of_length_eq_zero hl, kidsR, hashesP]
  | n + 1, i, [], _, hl, _, _ => by cases hl
  | n + 1, i, k :: ks, hi, hl, hd, hf => by
    have hk : all[i]? = some k := by
      have h := congrArg (fun l => l[0]?) hd
      simp only [List.getElem?_cons_zero, List.getElem?_drop, Nat.add_zero] at h
      exact h.symm
    have hg : all.getD i noneN = k := by rw [List.getD_eq_getElem?_getD, hk]; rfl
    have hd' : ks = all.drop (i + 1) := by
      have h := congrArg (List.drop 1) hd
      rw [List.drop_succ_cons, List.drop_zero, List.drop_drop] at h
      exact h
    have ih := kidsR_all hb n (i + 1) ks (by omega) (by simpa using hl) hd' (fun k hk => hf k (by simp [hk]))
    rw [kidsR, hb i (by omega), hashesP]
    unfold nz
    rw [hg]
    rcases hf k (by simp) with rfl | ⟨h, rfl, hh⟩
    · rw [if_neg (fun h => absurd h.2 (by decide)), if_neg (by decide), List.nil_append, ih]
    · have e0 : (stubN h).kind ≠ 0 := show (4 : Int) ≠ 0 by decide
      have e1 : hashP (stubN h) = h := by rw [hashP_eq]; rfl
      rw [if_pos ⟨rfl, decide_eq_true e0⟩, if_pos e0, e1, cut_app hh, ih]
theorem text_put {s r : List UInt8} (h : s.length ≤ 1048576) : textP ⟨putB s ++ r, false⟩ = (s, ⟨r, false⟩) := by
  have := gb_put [] s r h
  obtain ⟨h1, h2, h3⟩ := this
  rw [List.nil_append] at h1 h2 h3
  have h1 : gbE (putB s ++ r) 0 = 0 := h1
  have h2 : gbL (putB s ++ r) 0 = s := h2
  have h3 : gbTo (putB s ++ r) 0 = (((putB s).length : Nat) : Int) := by simpa using h3
  unfold textP
  dsimp only
  rw [h1, h2, h3, Int.toNat_natCast, List.drop_left]
  rfl
theorem cut1 (x : UInt8) (l : List UInt8) : cutP 1 ⟨x :: l, false⟩ = ([x], ⟨l, false⟩) := rfl
theorem cut2 (x y : UInt8) (l : List UInt8) : cutP 2 ⟨x :: y :: l, false⟩ = ([x, y], ⟨l, false⟩) := rfl
/-- What is written is read. -/
theorem node_enc {even : Bool} {s : Nd} {d : Nat} (h : Val even s d) (h4 : s.kind ≠ 4) (hf : ∀ k ∈ s.kids, flatN k) : nodeR ⟨encP s, false⟩ = (s, ⟨[], false⟩) := by
  cases h with
  | none => rfl
  | stub => exact absurd rfl h4
  | leaf d p v hd hp hv he =>
    have hpl := packL_len p true
    have hen := endsP_le he
    obtain ⟨u1, u2, u3, -⟩ := unpack_pack p true hp
    have e : encP (.mk 1 p false v [] []) = 1 :: (putB (packL p true) ++ putB v) := rfl
    unfold nodeR
    rw [e, cut1]
    have e8 : at8 [(1 : UInt8)] 0 = 1 := rfl
    dsimp only
    rw [if_neg (by decide), e8, if_pos (.inl rfl)]
    unfold leafR
    dsimp only
    have ht := text_put (s := packL p true) (r := putB v) (by omega)
    rw [ht]
    dsimp only
    rw [u1, u2, u3, if_neg (by decide)]
    have hv2 := text_put (s := v) (r := []) (by omega)
    rw [List.append_nil] at hv2
    show (Nd.mk 1 p false (textP ⟨putB v, false⟩).1 [] [], (textP ⟨putB v, false⟩).2) = _
    rw [hv2]
  | way d p k hd hp h0 hk hr =>
    have hpl := packL_len p false
    have hen := hr.le
    obtain ⟨u1, u2, u3, -⟩ := unpack_pack p false hp
    have hfk := hf k (by simp [Nd.kids])
    rcases hfk with rfl | ⟨h, rfl, hh⟩
    · rcases hk with hk | hk <;> exact absurd (show (0 : Int) = _ from hk) (by decide)
    have e1 : hashP (stubN h) = h := by rw [hashP_eq]; rfl
    have e : encP (.mk 2 p false [] [stubN h] []) = 2 :: (putB (packL p false) ++ (h ++ [])) := by
      have e2 : hashesP [stubN h] = h ++ [] := by rw [hashesP, hashesP, if_pos (show (stubN h).kind ≠ 0 from show (4 : Int) ≠ 0 by decide), e1]
      show encF 2 p false [] [stubN h] (hashesP [stubN h]) = _
      rw [e2]
      unfold encF
      rw [if_neg (by decide), if_pos rfl]; rfl
    unfold nodeR
    rw [e, cut1]
    have e8 : at8 [(2 : UInt8)] 0 = 2 := rfl
    dsimp only
    rw [if_neg (by decide), e8, if_pos (.inr rfl)]
    unfold leafR
    dsimp only
    have ht := text_put (s := packL p false) (r := h ++ []) (by omega)
    rw [ht]
    dsimp only
    rw [u1, u2, u3, if_pos rfl]
    show (Nd.mk 2 p false [] [stubN (cutP 32 ⟨h ++ [], false⟩).1] [], (cutP 32 ⟨h ++ [], false⟩).2) = _
    rw [cut_app hh]
  | branch d has v ks hd hv hv0 he h16 hr hm =>
    have hks := kidsR_all (set := [UInt8.ofNat (kbits ks 16).1, UInt8.ofNat (kbits ks 16).2]) (all := ks) (fun i hi => bitB_nz ks hi) 16 0 ks rfl h16 List.drop_zero.symm hf
    have e : encP (.mk 3 [] has v ks []) = 3 :: ((if has then (1 : UInt8) :: putB v else [0]) ++ (UInt8.ofNat (kbits ks 16).1 :: UInt8.ofNat (kbits ks 16).2 :: hashesP ks)) := rfl
    unfold nodeR
    rw [e, cut1]
    have e8 : at8 [(3 : UInt8)] 0 = 3 := rfl
    dsimp only
    rw [if_neg (by decide), e8, if_neg (by decide), if_pos rfl]
    unfold brR
    dsimp only
    cases has with
    | true =>
      rw [if_pos rfl, List.cons_append, cut1]
      dsimp only
      have e9 : hasR [(1 : UInt8)] = true := rfl
      rw [e9]
      unfold valR
      rw [if_pos rfl]
      have ht := text_put (s := v) (r := UInt8.ofNat (kbits ks 16).1 :: UInt8.ofNat (kbits ks 16).2 :: hashesP ks) (by omega)
      rw [ht]
      dsimp only
      rw [cut2]
      dsimp only
      rw [hks]
    | false =>
      have hv' : v = [] := hv0.resolve_left (by decide)
      have e10 : cutP 1 ⟨(if false = true then (1 : UInt8) :: putB v else [0]) ++ (UInt8.ofNat (kbits ks 16).1 :: UInt8.ofNat (kbits ks 16).2 :: hashesP ks), false⟩ = ([0], ⟨UInt8.ofNat (kbits ks 16).1 :: UInt8.ofNat (kbits ks 16).2 :: hashesP ks, false⟩) := by rw [if_neg (by decide)]; rfl
      rw [e10]
      dsimp only
      have e9 : hasR [(0 : UInt8)] = false := rfl
      rw [e9]
      unfold valR
      rw [if_neg (by decide)]
      dsimp only
      rw [cut2]
      dsimp only
      rw [hks, hv']
theorem decP_sz (b : List UInt8) : sz (decP b).1 ≤ 2000 + 4 * b.length := by
  have h := nodeR_sz b
  have e : sz noneN = 6 := rfl
  unfold decP
  split
  · show sz noneN ≤ _; omega
  · split
    · exact h
    · show sz noneN ≤ _; omega
theorem decP_bad {b : List UInt8} (h : (decP b).2 ≠ 0) : (decP b).1 = noneN := by
  unfold decP at h ⊢
  split at h
  · rename_i hc; rw [if_pos hc]
  · rename_i hc
    rw [if_neg hc]
    split at h
    · exact absurd rfl h
    · rename_i hc2; rw [if_neg hc2]
theorem decP_ok {b : List UInt8} (h : (decP b).2 = 0) : encR (decP b).1 = (b, 0) := by
  unfold decP at h ⊢
  split at h
  · cases h
  · rename_i hc
    rw [if_neg hc]
    split at h
    · rename_i hc2; rw [if_pos hc2]; exact hc2
    · cases h
end Go.Proofs.YtojjfkbffjkojaaDoor
namespace Go.Proofs.YtojjfkbffjkojaaDoor
open Go.RowKit
theorem is_rup6 : isFn Tryd.prog 69 = true := by kernel_rfl
theorem is_rofN : isFn Tryd.prog 17 = true := by kernel_rfl
theorem is_rgbN : isFn Tryd.prog 90 = true := by kernel_rfl
theorem is_r7text : isFn Tryd.prog 68 = true := by kernel_rfl
theorem is_r7stubs : isFn Tryd.prog 70 = true := by kernel_rfl
theorem is_r7dec : isFn Tryd.prog 32 = true := by kernel_rfl
/-- A byte of what is read. -/
theorem St.at8c {w W : World} {gs : List (Option Nat)} {L : Lc} {R : List Row} {fs : List Fact} (M : St w gs W L R fs) {l : List UInt8} {A : Option Addr} {n c : Nat} (h : RdD W (Fd W (own L R gs)) (dB l) (.slice A n c)) {i : Nat} (hi : i < n) :
    ∃ b o, A = some ⟨b, o, none⟩ ∧ St w gs W L R (.loc ((⟨b, o, none⟩ : Addr).add (i * 1)) [.int .u8 (at8 l i)] :: fs) := by
  obtain ⟨b, o, rfl, hcell⟩ := (h.rd Fd.lt).2.2.at_ (k := i) hi
  refine ⟨b, o, rfl, M.addC (by rw [block_of_add]; exact RdD.blk0 h (by omega)) (fun j x hx => ?_)⟩
  match j, hx with
  | 0, hx =>
    injection hx with hx
    subst hx
    rw [Addr.add_lit, Addr.add_lit, Nat.mul_one, Nat.add_zero]
    exact hcell
  | j + 1, hx => cases hx
set_option maxRecDepth 100000 in
set_option maxHeartbeats 1000000 in
theorem rup_any (l : List UInt8) (gs : List (Option Nat)) (w : World) (A : Option Addr) (n c : Nat) (h : RdD w (Fd w gs) (dB l) (.slice A n c)) (hgs : ∀ b, some b ∈ gs → b < w.heap.size) (hz : n ≤ 100000000) :
    Calls Tryd.prog 69 #[.slice A n c] w fun e w' => ∃ A1 n1 c1, e = .returned (.tuple #[.slice A1 n1 c1, .bool (unpackB l), .int .i64 (unpackE l)]) ∧ RdD w' (Fr w w') (dB (unpackL l)) (.slice A1 n1 c1) ∧ Below w.heap.size w w' := by
  refine calls_ev (args := [.slice A n c]) mixed Tryd.func69 rfl (by kernel_rfl) ?_
  have en := h.slen
  have M := (St.start hgs).addD h
  clear h
  refine p_len slb rfl ?_
  refine p_eq rfl rfl (fun h0 => ?_) (fun h0 => ?_)
  · obtain ⟨h1, h2, h3⟩ := unpack_nil (b := l) (by omega)
    rw [h1, h2, h3]
    exact ⟨none, 0, 0, rfl, RdD.nil_ _ _, M.below⟩
  · have hl0 : 0 < l.length := by omega
    have hne : l.length ≠ 0 := by omega
    obtain ⟨e0, e1, e2, e3⟩ := ofB_head l hl0
    have x0 := at8_lo l 0
    have x1 := at8_hi l 0
    refine cc is_rofN (refOf_any A n c l _ (M.rdb 0 rfl).2.2 (by omega)) ?_
    rintro e W ⟨rfl, o, hb⟩
    replace M := M.callO hb o
    clear o hb
    refine ⟨_, rfl, ?_⟩
    have hcap : 2 * n ≤ 2 * n := Nat.le_refl _
    obtain ⟨b0, o0, hA0, hc0⟩ := (M.rdb 0 rfl).2.2.at_ (k := 0) (by omega)
    obtain ⟨b1, o1, hA1, hc1⟩ := (M.rdb 0 rfl).2.2.at_ (k := 1) (by omega)
    rw [e0] at hc0
    rw [e1] at hc1
    injection hA0 with hA0
    injection hA0 with hA0 hA0'
    subst hA0; subst hA0'
    injection hA1 with hA1
    injection hA1 with hA1 hA1'
    subst hA1; subst hA1'
    obtain ⟨x, hx⟩ : ∃ x : Nat, at8 l 0 / 16 = (x : Int) := ⟨(at8 l 0 / 16).toNat, by omega⟩
    rw [hx] at hc0
    refine p_at (i := 0) slb rfl rfl rfl (by omega) ?_
    refine v_load agg_by' rfl (by rw [Addr.add_lit, Nat.zero_mul]; exact hc0) ?_
    refine p_rem rfl rfl (by decide) (r := ((x % 2 : Nat) : Int)) (tmod2' _) ?_
    refine v_cvt u_u8r u_intr rfl (r := ((x % 2 : Nat) : Int)) (w64 (by omega)) ?_
    refine p_subN (a := 2) (b := x % 2) rfl rfl (by omega) (by omega) ?_
    have hcut := fun i (hi : i ≤ 2 * n) => (M.dt 0 rfl).hd.cutB (i := i) (j := 2 * n) (m := 2 * n) hi (Nat.le_refl _) (Nat.le_refl _)
    have hol : (ofB l).length = 2 * n := (M.d1 0 rfl).slen.symm
    refine p_gt rfl rfl (fun hgt => ?_) (fun hgt => ?_)
    · have hgt : (3 : Int) < (x : Int) := hgt
      have hok : unpackOk l = false := by unfold unpackOk; rw [decide_eq_false (show ¬ at8 l 0 < 64 by omega), Bool.false_and]
      obtain ⟨h1, h2, h3⟩ := unpack_no (b := l) hne hok
      rw [h1, h2, h3]
      exact ⟨none, 0, 0, rfl, RdD.nil_ _ _, M.below⟩
    have hgt : ¬ (3 : Int) < (x : Int) := hgt
    refine p_eq rfl rfl (fun h2 => ?_) (fun h2 => ?_)
    · have h2 : ((2 - x % 2 : Nat) : Int) = 2 := h2
      refine p_at (i := 1) slb rfl rfl rfl (by omega) ?_
      refine v_load agg_by' rfl (by rw [Addr.add_lit, Nat.mul_one]; exact hc1) ?_
      refine p_ne rfl rfl (fun hz0 => ?_) (fun hz0 => ?_)
      · have hz0 : at8 l 0 % 16 = 0 := hz0
        have hok : unpackOk l = true := by simp [unpackOk, hz0]; omega
        obtain ⟨h1, h2, h3⟩ := unpack_ok (b := l) hne hok
        rw [h1, h2]
        refine p_slice (i := 2 - x % 2) (j := 2 * n) (m := 2 * n) slb rfl (bnd_i rfl) rfl rfl rfl (by omega) (Nat.le_refl _) (Nat.le_refl _) ?_
        have hl : unpackL l = ((ofB l).drop (2 - x % 2)).take (2 * n - (2 - x % 2)) := by
          rw [List.take_of_length_le (by rw [List.length_drop]; omega), h3]
          by_cases ho : at8 l 0 / 16 % 2 = 1
          · rw [if_pos ho, show 2 - x % 2 = 1 by omega]; exact e2.symm
          · rw [if_neg ho, show 2 - x % 2 = 2 by omega, List.nil_append]; exact e3.symm
        have hc := hcut (2 - x % 2) (by omega)
        rw [← hl] at hc
        replace M := M.addT (RdL.one hc)
        refine p_ge rfl rfl (fun hge => ?_) (fun hge => ?_)
        · have hge : (2 : Int) ≤ (x : Int) := hge
          rw [decide_eq_true (show at8 l 0 / 32 % 2 = 1 by omega)]
          exact ⟨_, _, _, rfl, M.finF1 0 rfl, M.below⟩
        · have hge : ¬ (2 : Int) ≤ (x : Int) := hge
          rw [decide_eq_false (show ¬ at8 l 0 / 32 % 2 = 1 by omega)]
          exact ⟨_, _, _, rfl, M.finF1 0 rfl, M.below⟩
      · have hz0 : at8 l 0 % 16 ≠ 0 := hz0
        have hok : unpackOk l = false := by simp [unpackOk, hz0]; omega
        obtain ⟨h1, h2, h3⟩ := unpack_no (b := l) hne hok
        rw [h1, h2, h3]
        exact ⟨none, 0, 0, rfl, RdD.nil_ _ _, M.below⟩
    · have h2 : ((2 - x % 2 : Nat) : Int) ≠ 2 := h2
      have hok : unpackOk l = true := by simp [unpackOk]; omega
      obtain ⟨h1, h2, h3⟩ := unpack_ok (b := l) hne hok
      rw [h1, h2]
      refine p_slice (i := 2 - x % 2) (j := 2 * n) (m := 2 * n) slb rfl (bnd_i rfl) rfl rfl rfl (by omega) (Nat.le_refl _) (Nat.le_refl _) ?_
      have hl : unpackL l = ((ofB l).drop (2 - x % 2)).take (2 * n - (2 - x % 2)) := by
        rw [List.take_of_length_le (by rw [List.length_drop]; omega), h3]
        by_cases ho : at8 l 0 / 16 % 2 = 1
        · rw [if_pos ho, show 2 - x % 2 = 1 by omega]; exact e2.symm
        · rw [if_neg ho, show 2 - x % 2 = 2 by omega, List.nil_append]; exact e3.symm
      have hc := hcut (2 - x % 2) (by omega)
      rw [← hl] at hc
      replace M := M.addT (RdL.one hc)
      refine p_ge rfl rfl (fun hge => ?_) (fun hge => ?_)
      · have hge : (2 : Int) ≤ (x : Int) := hge
        rw [decide_eq_true (show at8 l 0 / 32 % 2 = 1 by omega)]
        exact ⟨_, _, _, rfl, M.finF1 0 rfl, M.below⟩
      · have hge : ¬ (2 : Int) ≤ (x : Int) := hge
        rw [decide_eq_false (show ¬ at8 l 0 / 32 % 2 = 1 by omega)]
        exact ⟨_, _, _, rfl, M.finF1 0 rfl, M.below⟩
/-- What the reference's text answers. -/
def textF (b : List UInt8) : List UInt8 × List UInt8 × Bool := if gbE b 0 = 0 then (gbL b 0, b.drop (gbTo b 0).toNat, true) else ([], [], false)
theorem textF_le (b : List UInt8) : (textF b).1.length ≤ b.length ∧ (textF b).2.1.length ≤ b.length := by
  unfold textF
  split
  · have := (textP_le ⟨b, false⟩).2
    unfold textP at this
    dsimp only at this ⊢
    rw [List.length_drop]
    omega
  · simp
set_option maxRecDepth 100000 in
set_option maxHeartbeats 1000000 in
theorem r7text_any (l : List UInt8) (gs : List (Option Nat)) (w : World) (A : Option Addr) (n c : Nat) (h : RdD w (Fd w gs) (dB l) (.slice A n c)) (hgs : ∀ b, some b ∈ gs → b < w.heap.size) (hz : n ≤ 100000000) :
    Calls Tryd.prog 68 #[.slice A n c] w fun e w' => ∃ A1 n1 c1 A2 n2 c2, e = .returned (.tuple #[.slice A1 n1 c1, .slice A2 n2 c2, .bool (textF l).2.2]) ∧ RdD w' (Fr w w') (dB (textF l).1) (.slice A1 n1 c1) ∧ RdD w' (Fd w' gs) (dB (textF l).2.1) (.slice A2 n2 c2) ∧ Below w.heap.size w w' := by
  refine calls_ev (args := [.slice A n c]) mixed Tryd.func68 rfl (by kernel_rfl) ?_
  have en := h.slen
  have hcap := h.scap
  have hto := gbTo_le l
  obtain ⟨K, hK⟩ : ∃ K : Nat, gbTo l 0 = (K : Int) := ⟨(gbTo l 0).toNat, by omega⟩
  have M := (St.start hgs).addD h
  clear h
  refine cc is_rgbN (refGetBytes_any A n c 0 l _ (M.rdb 0 rfl).2.2 (by omega) hcap) ?_
  rintro e W ⟨A1, n1, c1, rfl, o, hb⟩
  replace M := M.callO hb o
  clear o hb
  rw [hK]
  refine ⟨_, rfl, ?_⟩
  unfold textF
  rw [hK, Int.toNat_natCast]
  have hkn : K ≤ n := by omega
  refine p_ne rfl rfl (fun h0 => ?_) (fun h0 => ?_)
  · have h0 : gbE l 0 = 0 := h0
    rw [if_pos h0]
    have h2 := (M.d1 1 rfl).cutB (i := K) (j := n) (m := c) hkn (Nat.le_refl _) hcap
    rw [List.take_of_length_le (by rw [List.length_drop]; omega)] at h2
    replace M := (M.addD h2).drew
    refine drT (Kp w gs [] []) (.take 0 (.take 1 (.take 2 (.take 3 (.take 4 (.take 5 (.take 6 (.nil)))))))) (by kernel_rfl) (M.kp (by simp) (by simp)) ?_
    refine p_slice (i := K) (j := n) (m := c) slb rfl (bnd_i rfl) rfl rfl rfl hkn hcap (Nat.le_refl _) ?_
    exact ⟨_, _, _, _, _, _, rfl, M.finF1 1 rfl, M.fin1 0 rfl, M.below⟩
  · have h0 : gbE l 0 ≠ 0 := h0
    rw [if_neg h0]
    exact ⟨none, 0, 0, none, 0, 0, rfl, RdD.nil_ _ _, RdD.nil_ _ _, M.below⟩
/-- Nodes by their digests. -/
def stubK (set : Nat) : Nat → Nat → List UInt8 → Option (List Nd × List UInt8)
  | 0, _, l => some ([], l)
  | n + 1, i, l => if set / 2 ^ (15 - i) % 2 = 0 then (stubK set n (i + 1) l).map fun r => (noneN :: r.1, r.2)
    else if l.length < 32 then none else (stubK set n (i + 1) (l.drop 32)).map fun r => (stubN (l.take 32) :: r.1, r.2)
def stubsF (set : Nat) (l : List UInt8) : List Nd × Bool := match stubK set 16 0 l with
  | none => ([], false)
  | some r => (r.1, decide (r.2.length = 0))
theorem u_uint : Tryd.prog.underlying 108 = some (.int .u64) := by kernel_rfl
theorem u_ints : (Tryd.prog.underlying 3).isSome = true := by kernel_rfl
theorem shr15 {x j : Nat} (hj : j ≤ 15) : (x : Int).fdiv (2 ^ (min ((j : Nat) : Int).toNat IntKind.i64.bits)) = ((x / 2 ^ j : Nat) : Int) := by
  rw [Int.toNat_natCast, show min j IntKind.i64.bits = j from Nat.min_eq_left (show j ≤ 64 by omega), Int.fdiv_eq_ediv_of_nonneg _ (Int.le_of_lt (Int.pow_pos (by decide))), Int.natCast_ediv, Int.natCast_pow]
  rfl
set_option maxRecDepth 100000 in
set_option maxHeartbeats 2000000 in
theorem r7stubs_any (set : Nat) (hset : set < 65536) (l : List UInt8) (gs : List (Option Nat)) (w : World) (A : Option Addr) (n c : Nat) (h : RdD w (Fd w gs) (dB l) (.slice A n c)) (hgs : ∀ b, some b ∈ gs → b < w.heap.size) (hz : n ≤ 100000000) :
    Calls Tryd.prog 70 #[.int .i64 (set : Nat), .slice A n c] w fun e w' => ∃ A1 c1, e = .returned (.tuple #[.slice A1 (stubsF set l).1.length c1, .bool (stubsF set l).2]) ∧ RdD w' (Fr w w') (dKs (stubsF set l).1) (.slice A1 (stubsF set l).1.length c1) ∧ Below w.heap.size w w' := by
  refine calls_ev (args := [.int .i64 (set : Nat), .slice A n c]) mixed Tryd.func70 rfl (by kernel_rfl) ?_
  have M := (St.start hgs).addD h
  have en0 := h.slen
  clear h
  refine s_mkN M rfl rfl ?_
  clear M; rintro gk W M
  replace M := M.addT (fr := true) (ds := dNs (noneNs 16)) (cs := zNs 16) (RdL.znones 16)
  unfold stubsF
  obtain ⟨KR, hKR⟩ : ∃ KR, KR = stubK set 16 0 l := ⟨_, rfl⟩
  rw [← hKR]
  refine lp (Nat × List Value × List Nd × Option Addr × Nat × Nat × List UInt8) (fun s W => s.1 ≤ 16 ∧ s.2.2.1.length = s.1 ∧ St w gs W [(gk, 26, s.2.1)] [] [.dat true (dNs (s.2.2.1 ++ noneNs (16 - s.1))) s.2.1, .dat false [dB s.2.2.2.2.2.2] [.slice s.2.2.2.1 s.2.2.2.2.1 s.2.2.2.2.2.1]] ∧ s.2.2.2.2.1 ≤ n ∧
      KR = (stubK set (16 - s.1) s.1 s.2.2.2.2.2.2).map fun r => (s.2.2.1 ++ r.1, r.2))
    (fun s => [(0, .int .i64 (set : Nat)), (1, .slice s.2.2.2.1 s.2.2.2.2.1 s.2.2.2.2.2.1), (6, .slice (some ⟨gk, 0, none⟩) 16 16), (7, .int .i64 s.1)]) (fun s => 16 - s.1) (0, zNs 16, [], A, n, c, l) ⟨Nat.zero_le _, rfl, M, Nat.le_refl _, by rw [hKR]; cases stubK set 16 0 l with | none => rfl | some r => rfl⟩ (by repeat (first | exact trivial | refine ⟨rfl, ?_⟩)) ?_
  clear M
  rintro ⟨i, xs, dn, A7, n7, c7, ls⟩ E5 W5 ⟨hi, hdl, M, hn7, hkr⟩
  dsimp only at hi hdl M hn7 hkr
  have e7 := (M.d1 1 rfl).slen
  have hcap7 := (M.d1 1 rfl).scap
  refine p_lt rfl rfl (fun hlt => ?_) (fun hge => ?_)
  · dsimp only at hlt
    have hi16 : i < 16 := by omega
    have hnn : noneNs (16 - i) = noneN :: noneNs (16 - (i + 1)) := by unfold noneNs; rw [show 16 - i = (16 - (i + 1)) + 1 by omega, List.replicate_succ]
    rw [show 16 - i = (16 - (i + 1)) + 1 by omega, stubK] at hkr
    refine p_subN (a := 15) (b := i) rfl rfl (by omega) (by omega) ?_
    refine v_cvt u_ints u_uint rfl (r := ((15 - i : Nat) : Int)) (wu64 (by omega)) ?_
    refine p_shr rfl rfl (by omega) (r := ((set / 2 ^ (15 - i) : Nat) : Int)) (shr15 (by omega)) ?_
    refine p_remN (b := 2) rfl rfl (by decide) ?_
    refine p_eq rfl rfl (fun hb0 => ?_) (fun hb0 => ?_)
    · have hb0 : set / 2 ^ (15 - i) % 2 = 0 := by have h : ((set / 2 ^ (15 - i) % 2 : Nat) : Int) = 0 := hb0; omega
      rw [if_pos hb0] at hkr
      refine p_addN (b := 1) rfl rfl (by dsimp only; omega) ?_
      refine ⟨(i + 1, xs, dn ++ [noneN], A7, n7, c7, ls), ⟨by dsimp only; omega, by dsimp only; rw [List.length_append, hdl]; rfl, ?_, hn7, ?_⟩, (by repeat (first | exact trivial | refine ⟨rfl, ?_⟩)), by dsimp only; omega⟩
      · rw [hnn] at M
        dsimp only
        rw [List.append_assoc]
        exact M
      · rw [hkr, Option.map_map]
        dsimp only
        congr 1
        funext r
        simp
    · have hb0 : ¬ set / 2 ^ (15 - i) % 2 = 0 := fun e => hb0 (by show ((set / 2 ^ (15 - i) % 2 : Nat) : Int) = 0; omega)
      rw [if_neg hb0] at hkr
      refine p_len slb rfl ?_
      refine p_lt rfl rfl (fun hl32 => ?_) (fun hl32 => ?_)
      · have hl32 : ls.length < 32 := by have h : ((n7 : Nat) : Int) < 32 := hl32; omega
        rw [if_pos hl32] at hkr
        rw [hkr]
        exact ⟨none, 0, rfl, RdD.nil_ _ _, M.below⟩
      have hl32 : ¬ ls.length < 32 := by have h : ¬ ((n7 : Nat) : Int) < 32 := hl32; omega
      rw [if_neg hl32] at hkr
      have h1 := (M.d1 1 rfl).cutB (i := 0) (j := 32) (m := c7) (Nat.zero_le _) (by omega) (by omega)
      have h2 := (M.d1 1 rfl).cutB (i := 32) (j := n7) (m := c7) (by omega) (Nat.le_refl _) hcap7
      rw [List.drop_zero, Nat.sub_zero, Nat.sub_zero] at h1
      rw [List.take_of_length_le (by rw [List.length_drop]; omega)] at h2
      replace M := (M.addD h2).addD h1
      clear h1 h2
      refine p_slice (i := 0) (j := 32) (m := c7) slb rfl rfl (bnd_i rfl) rfl rfl (Nat.zero_le _) (by omega) (Nat.le_refl _) ?_
      rw [Nat.sub_zero, Nat.sub_zero]
      refine cc is_copy0 (copy_any _ _ _ (ls.take 32) _ (M.rdb 0 rfl).2.2 (by omega)) ?_
      rintro e W ⟨A8, c8, rfl, o8, hb⟩
      replace M := M.callO hb o8
      clear o8 hb
      refine ⟨_, rfl, ?_⟩
      have e8 := (M.d1 0 rfl).slen
      have hx0 : (32 : Nat) = (stubN (ls.take 32)).hash.length := e8
      refine p_build (vs := [.int .i64 4, .slice none 0 0, .bool false, .slice none 0 0, .slice none 0 0, .slice A8 32 c8]) pl_nd z_nd rfl ?_
      have hnc : ([.int .i64 4, .slice none 0 0, .bool false, .slice none 0 0, .slice none 0 0, .slice A8 32 c8] : List Value) = ncs (stubN (ls.take 32)) none 0 none 0 none 0 A8 c8 := by unfold ncs; rw [← hx0]; rfl
      have hxl := (M.da 3 rfl).len
      rw [dNs_len, List.length_append, hdl, noneNs_len] at hxl
      refine p_atL (i := i) (q := i * 6) sln rfl rfl rfl hi16 (by omega) ?_
      rw [hnc]
      refine s_storeP 0 (n := 6) (off := i * 6) (ncs (stubN (ls.take 32)) none 0 none 0 none 0 A8 c8) _ M rfl sz_nd rfl rfl rfl (all1 rfl) (by omega) rfl ?_
      clear M; rintro W M
      dsimp only [setL] at M
      have hst1 : RdL W _ (dN (stubN (ls.take 32))) (ncs (stubN (ls.take 32)) none 0 none 0 none 0 A8 c8) := RdL.ofnode (t := stubN (ls.take 32)) (RdD.nil_ (s := 1) none 0) (RdD.nil_ (s := 1) none 0) (RdD.nil_ (s := 6) none 0) (by have h := (M.dt 0 rfl).hd; rw [← hx0]; exact h)
      have hX := M.dt 3 rfl
      have hX2 := ((hX.take (i * 6)).app hst1).app (hX.drop (i * 6 + 6))
      rw [← dNs_set (stubN (ls.take 32)) (by rw [List.length_append, hdl, noneNs_len]; omega)] at hX2
      have hst : (dn ++ noneNs (16 - i)).set i (stubN (ls.take 32)) = (dn ++ [stubN (ls.take 32)]) ++ noneNs (16 - (i + 1)) := by
        rw [hnn, List.set_append_right _ _ (by omega), hdl, Nat.sub_self, List.set_cons_zero, List.append_assoc]; rfl
      rw [hst] at hX2
      replace M := M.addT hX2
      refine p_slice (i := 32) (j := n7) (m := c7) slb rfl (bnd_i rfl) rfl rfl rfl (by omega) hcap7 (Nat.le_refl _) ?_
      refine p_addN (b := 1) rfl rfl (by dsimp only; omega) ?_
      refine ⟨(i + 1, _, dn ++ [stubN (ls.take 32)], slA A7 c7 32 1, n7 - 32, c7 - 32, ls.drop 32), ⟨by dsimp only; omega, by dsimp only; rw [List.length_append, hdl]; rfl, M.fsub _ (by intro f hf; simp only [List.mem_cons, List.not_mem_nil, or_false] at hf ⊢; rcases hf with h | h <;> simp [h]), by dsimp only; omega, ?_⟩, (by repeat (first | exact trivial | refine ⟨rfl, ?_⟩)), by dsimp only; omega⟩
      rw [hkr, Option.map_map]
      dsimp only
      congr 1
      funext r
      simp
  · dsimp only at hge
    have hie : i = 16 := by omega
    subst hie
    rw [Nat.sub_self] at M hkr
    rw [show noneNs 0 = [] from rfl, List.append_nil] at M
    rw [stubK, Option.map_some, List.append_nil] at hkr
    rw [hkr]
    dsimp only
    replace M := M.frzB (fr := true) (s := 6) (n := 16) (c := 16) (M.dt 0 rfl) (by rw [dNs_len, hdl]) (Nat.le_refl _)
    have hks := M.finF1 0 rfl
    refine p_len slb rfl ?_
    refine p_eqD rfl rfl ?_
    rw [show decide (((n7 : Nat) : Int) = 0) = decide (ls.length = 0) by rw [decide_eq_decide]; omega]
    refine ⟨some ⟨gk, 0, none⟩, 16, by rw [hdl]; rfl, ?_, M.below⟩
    unfold dKs
    rw [hdl]
    exact hks
end Go.Proofs.YtojjfkbffjkojaaDoor
