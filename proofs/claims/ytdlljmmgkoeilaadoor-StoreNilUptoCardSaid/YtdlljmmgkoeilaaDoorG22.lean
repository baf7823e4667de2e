/- SHA-256, plainly: rounds. Words of 32 bits: single operations. Reference 05: the walks of right, word, round, constants, Sum: they come to SHA-256 as it stands in ShaH. Reference 05: the walks of constants and Sum: SHA-256. Numbers and bytes in one way: the plain functions and their laws. Numbers and bytes in one way: the walks of package vint. Numbers and bytes in one way: the walk of vint.Get. Numbers and bytes in one way: the walks of vint.GetBytes, PutInt. Numbers and bytes in one way: the reference's walks. Reference 07: the walks of Encode, Hash, Fold. The walk of digest's words. The walk of digest's take. append onto a slice that is full: a new row. No program in sight. The walks of digest.New, Write, Len, Sum. The walks of digest.New, Len, Sum of a Digest, Sum. The walk of digest.Sum. Package node: the walks of encode, hash, Encode, Hash, Fold. A state's own blocks and rows, in a -/
import Derived.Test.YtdlljmmgkoeilaaDoorG21
import Derived.Test.YtdlljmmgkoeilaaDoorG03
import Derived.Test.YtdlljmmgkoeilaaDoorG05
import Derived.WalkSmall
import Derived.Test.YtdlljmmgkoeilaaDoorG13
import Derived.Test.YtdlljmmgkoeilaaDoorG14
import Derived.Test.YtdlljmmgkoeilaaDoorG04
import Derived.Test.YtdlljmmgkoeilaaDoorG06
import Derived.Test.YtdlljmmgkoeilaaDoorG07
import Derived.Test.YtdlljmmgkoeilaaDoorG08
import Derived.Test.YtdlljmmgkoeilaaDoorG16
import Derived.Test.YtdlljmmgkoeilaaDoorRows
import Derived.ProofKit
import Derived.OpenShut
import Derived.ChangeOld
import Derived.WideKeyArgs
import Derived.JoinedCond
import Derived.ChangeArms
import Derived.Test.YtdlljmmgkoeilaaDoorG18
import Derived.Test.YtdlljmmgkoeilaaDoorG15
import Derived.Test.YtdlljmmgkoeilaaDoorG12
namespace Go.Proofs.YtdlljmmgkoeilaaDoor
/-- Eight words. -/
structure H8 where
  a : Nat
  b : Nat
  c : Nat
  d : Nat
  e : Nat
  f : Nat
  g : Nat
  h : Nat
def hc (v : H8) : List Value := [cu v.a, cu v.b, cu v.c, cu v.d, cu v.e, cu v.f, cu v.g, cu v.h]
structure H8.Ok (v : H8) : Prop where
  a : v.a < 4294967296
  b : v.b < 4294967296
  c : v.c < 4294967296
  d : v.d < 4294967296
  e : v.e < 4294967296
  f : v.f < 4294967296
  g : v.g < 4294967296
  h : v.h < 4294967296
def bs1 (e : Nat) : Nat := (rotr e 6 ^^^ rotr e 11) ^^^ rotr e 25
def bs0 (a : Nat) : Nat := (rotr a 2 ^^^ rotr a 13) ^^^ rotr a 22
def chs (e f g : Nat) : Nat := (e &&& f) ^^^ ((4294967295 ^^^ e) &&& g)
def maj (a b c : Nat) : Nat := ((a &&& b) ^^^ (a &&& c)) ^^^ (b &&& c)
def tt1 (v : H8) (k w : Nat) : Nat := ((((v.h + bs1 v.e) % 4294967296 + chs v.e v.f v.g) % 4294967296 + k) % 4294967296 + w) % 4294967296
def tt2 (v : H8) : Nat := (bs0 v.a + maj v.a v.b v.c) % 4294967296
def rnd (v : H8) (k w : Nat) : H8 := ⟨(tt1 v k w + tt2 v) % 4294967296, v.a, v.b, v.c, (v.d + tt1 v k w) % 4294967296, v.e, v.f, v.g⟩
/-- i rounds. -/
def rndF (ks ws : List Nat) (v : H8) : Nat → H8
  | 0 => v
  | i + 1 => rnd (rndF ks ws v i) (ks.getD i 0) (ws.getD i 0)
def add8 (x y : H8) : H8 := ⟨(x.a + y.a) % 4294967296, (x.b + y.b) % 4294967296, (x.c + y.c) % 4294967296, (x.d + y.d) % 4294967296, (x.e + y.e) % 4294967296, (x.f + y.f) % 4294967296, (x.g + y.g) % 4294967296, (x.h + y.h) % 4294967296⟩
def begin8 : H8 := ⟨1779033703, 3144134277, 1013904242, 2773480762, 1359893119, 2600822924, 528734635, 1541459225⟩
def roots : List Nat := [0x428a2f98, 0x71374491, 0xb5c0fbcf, 0xe9b5dba5, 0x3956c25b, 0x59f111f1, 0x923f82a4, 0xab1c5ed5,
  0xd807aa98, 0x12835b01, 0x243185be, 0x550c7dc3, 0x72be5d74, 0x80deb1fe, 0x9bdc06a7, 0xc19bf174,
  0xe49b69c1, 0xefbe4786, 0x0fc19dc6, 0x240ca1cc, 0x2de92c6f, 0x4a7484aa, 0x5cb0a9dc, 0x76f988da,
  0x983e5152, 0xa831c66d, 0xb00327c8, 0xbf597fc7, 0xc6e00bf3, 0xd5a79147, 0x06ca6351, 0x14292967,
  0x27b70a85, 0x2e1b2138, 0x4d2c6dfc, 0x53380d13, 0x650a7354, 0x766a0abb, 0x81c2c92e, 0x92722c85,
  0xa2bfe8a1, 0xa81a664b, 0xc24b8b70, 0xc76c51a3, 0xd192e819, 0xd6990624, 0xf40e3585, 0x106aa070,
  0x19a4c116, 0x1e376c08, 0x2748774c, 0x34b0bcb5, 0x391c0cb3, 0x4ed8aa4a, 0x5b9cca4f, 0x682e6ff3,
  0x748f82ee, 0x78a5636f, 0x84c87814, 0x8cc70208, 0x90befffa, 0xa4506ceb, 0xbef9a3f7, 0xc67178f2]
/-- What 64 bytes make of eight words. -/
def take8 (h : H8) (b : List UInt8) : H8 := add8 h (rndF roots (words b) h 64)
/-- What all whole blocks make; n blocks. -/
def blocksF (h : H8) : Nat → List UInt8 → H8
  | 0, _ => h
  | n + 1, b => blocksF (take8 h (b.take 64)) n (b.drop 64)
def put4 (x : Nat) : List UInt8 := [UInt8.ofNat (x >>> 24), UInt8.ofNat (x >>> 16), UInt8.ofNat (x >>> 8), UInt8.ofNat x]
def out8 (h : H8) : List UInt8 := put4 h.a ++ (put4 h.b ++ (put4 h.c ++ (put4 h.d ++ (put4 h.e ++ (put4 h.f ++ (put4 h.g ++ put4 h.h))))))
/-- What is put behind so many bytes. -/
def padL (n : Nat) : List UInt8 := (128 : UInt8) :: (List.replicate ((119 - n % 64) % 64) (0 : UInt8) ++ [UInt8.ofNat ((8 * n) >>> 56), UInt8.ofNat ((8 * n) >>> 48), UInt8.ofNat ((8 * n) >>> 40), UInt8.ofNat ((8 * n) >>> 32), UInt8.ofNat ((8 * n) >>> 24), UInt8.ofNat ((8 * n) >>> 16), UInt8.ofNat ((8 * n) >>> 8), UInt8.ofNat (8 * n)])
def sha (b : List UInt8) : List UInt8 := out8 (blocksF begin8 ((b ++ padL b.length).length / 64) (b ++ padL b.length))
end Go.Proofs.YtdlljmmgkoeilaaDoor
namespace Go.Proofs.YtdlljmmgkoeilaaDoor
open Go.RowKit
section
variable {P : Program} {E : Env} {d : Option Nat} {ty : TypeId} {p : String} {af : Array Edge} {g : Option (Nat × Bool)} {x y : Operand} {t : TypeId} {k : Value → Prop} {kd : IntKind}
end
theorem Rd.get {w : World} {B n : Nat} {ad : Addr} {l : List UInt8} (h : Rd w B (some ad) n l) {j : Nat} (hj : j < n) : w.cell? (ad.add (j * 1)) = some (.int .u8 (byt l j : Nat)) := by
  obtain ⟨b, off, e, hc⟩ := h.at_ hj
  injection e with e
  subst e
  rw [Nat.mul_one, Addr.add_lit]; exact hc
end Go.Proofs.YtdlljmmgkoeilaaDoor
namespace Go.Proofs.YtdlljmmgkoeilaaDoor
open Go.RowKit
def h8l (v : H8) : List Nat := [v.a, v.b, v.c, v.d, v.e, v.f, v.g, v.h]
end Go.Proofs.YtdlljmmgkoeilaaDoor
namespace Go.Proofs.YtdlljmmgkoeilaaDoor
open Go.RowKit
theorem sha_def (b : List UInt8) : sha b = out8 (blocksF begin8 ((b ++ padL b.length).length / 64) (b ++ padL b.length)) := rfl
end Go.Proofs.YtdlljmmgkoeilaaDoor
namespace Go.Proofs.YtdlljmmgkoeilaaDoor

/-- A number's bytes: seven bits each, the lowest first (so many at most as the first argument says). -/
def putF : Nat → Nat → List UInt8
  | 0, _ => []
  | f + 1, n => if n < 128 then [b8 (n : Int)] else b8 ((n % 128 + 128 : Nat) : Int) :: putF f (n / 128)
def putN (n : Nat) : List UInt8 := putF (n + 1) n
/-- PutBytes. -/
def putB (s : List UInt8) : List UInt8 := putN s.length ++ s
end Go.Proofs.YtdlljmmgkoeilaaDoor
namespace Go.Proofs.YtdlljmmgkoeilaaDoor
open Go.RowKit
theorem sha_len (b : List UInt8) : (sha b).length = 32 := by rw [sha_def]; unfold out8 put4; rfl
/-- Two bytes that tell which kids there are. -/
def kbit (ks : List Nd) (i : Nat) : Nat := if (ks.getD i noneN).kind ≠ 0 then 128 / 2 ^ (i % 8) else 0
def kbits (ks : List Nd) : Nat → Nat × Nat
  | 0 => (0, 0)
  | i + 1 => if i < 8 then ((kbits ks i).1 + kbit ks i, (kbits ks i).2) else ((kbits ks i).1, (kbits ks i).2 + kbit ks i)
def encF (k : Int) (p : List UInt8) (has : Bool) (v : List UInt8) (ks : List Nd) (hs : List UInt8) : List UInt8 :=
  b8 (k % 256) :: (if k = 1 then putB (packL p true) ++ putB v
    else if k = 2 then putB (packL p false) ++ hs
    else if k = 3 then (if has then (1 : UInt8) :: putB v else [0]) ++ (UInt8.ofNat (kbits ks 16).1 :: UInt8.ofNat (kbits ks 16).2 :: hs)
    else [])
mutual
def hashP : Nd → List UInt8
  | .mk k p has v ks h => if k = 4 then h else sha (encF k p has v ks (hashesP ks))
def hashesP : List Nd → List UInt8
  | [] => []
  | t :: ts => (if t.kind ≠ 0 then hashP t else []) ++ hashesP ts
end
def encP (t : Nd) : List UInt8 := encF t.kind t.path t.has t.val t.kids (hashesP t.kids)
theorem hashP_eq (t : Nd) : hashP t = if t.kind = 4 then t.hash else sha (encP t) := by cases t; rw [hashP]; rfl
theorem hashP_len {even : Bool} {t : Nd} {d : Nat} (h : Val even t d) : (hashP t).length = 32 := by
  rw [hashP_eq]
  by_cases h4 : t.kind = 4
  · rw [if_pos h4]
    cases h with
    | stub d h hd hh => exact hh
    | none => exact absurd (show (0 : Int) = 4 from h4) (by decide)
    | leaf => exact absurd (show (1 : Int) = 4 from h4) (by decide)
    | way => exact absurd (show (2 : Int) = 4 from h4) (by decide)
    | branch => exact absurd (show (3 : Int) = 4 from h4) (by decide)
  · rw [if_neg h4]; exact sha_len _
theorem Val.mono {even : Bool} {t : Nd} {d : Nat} (h : Val even t d) : ∀ d', d' ≤ d → Val false t d' := by
  have he : ∀ {e d d' : Nat} {even : Bool}, endsP e even = true → d' + (e - d) ≤ 400 → endsP (d' + (e - d)) false = true := fun _ h => ends_yes h (.inl rfl)
  induction h with
  | none d hd => intro d' hd'; exact .none d' (by omega)
  | leaf d p v hd hp hv he' => intro d' hd'; have := endsP_le he'; exact .leaf d' p v (by omega) hp hv (ends_yes (by omega) (.inl rfl))
  | stub d h hd hh => intro d' hd'; exact .stub d' h (by omega) hh
  | way d p k hd hp h0 hk hr ih => intro d' hd'; exact .way d' p k (by omega) hp h0 hk (ih _ (by omega))
  | branch d has v ks hd hv hv0 he' h16 hr hm ih => intro d' hd'; exact .branch d' has v ks (by omega) hv hv0 (fun e => ends_yes (by omega) (.inl rfl)) h16 (fun k hk => ih k hk _ (by omega)) hm
end Go.Proofs.YtdlljmmgkoeilaaDoor
namespace Go.Proofs.YtdlljmmgkoeilaaDoor
open Go.RowKit
def rootsAt (w : World) : Prop := ∀ j, j < 64 → w.cell? ⟨1, j, none⟩ = some (cu (roots.getD j 0))
end Go.Proofs.YtdlljmmgkoeilaaDoor
namespace Go.Proofs.YtdlljmmgkoeilaaDoor
open Go.RowKit

/-- The package's tables. -/
structure GL (W : World) (gs : List (Option Nat)) : Prop where
  roots : rootsAt W
  begin : ∀ j v, (hc begin8)[j]? = some v → W.cell? ⟨0, j, none⟩ = some v
  size : 2 ≤ W.heap.size
  out0 : some 0 ∉ gs
  out1 : some 1 ∉ gs
theorem GL.up {W W' : World} {gs gs' : List (Option Nat)} (h : GL W gs) (s : Stp W gs W' gs') : GL W' gs' :=
  ⟨fun j hj => (World.cell?_of_block (w := W) (a := ⟨1, j, none⟩) (s.block 1 h.size h.out1)).trans (h.roots j hj),
   fun j v hv => (World.cell?_of_block (w := W) (a := ⟨0, j, none⟩) (s.block 0 (by have := h.size; omega) h.out0)).trans (h.begin j v hv),
   Nat.le_trans h.size s.size, fun e => h.out0 (s.own 0 (by have := h.size; omega) e), fun e => h.out1 (s.own 1 h.size e)⟩
/-- A Digest to which all this was written. -/
def Dg (W : World) (gs : List (Option Nat)) (g : Nat) (all : List UInt8) : Prop :=
  ∃ A c, Blk W g 133 (hc (blocksF begin8 (all.length / 64) all) ++ [.slice A (all.length % 64) c, .int .i64 all.length]) ∧
    RdD W (Fd W gs) (dB (all.drop (64 * (all.length / 64)))) (.slice A (all.length % 64) c) ∧ some g ∈ gs
theorem Dg.up {W W' : World} {gs gs' : List (Option Nat)} {g : Nat} {all : List UInt8} (h : Dg W gs g all) (s : Stp W gs W' gs') (hg : W'.heap[g]? = W.heap[g]?) (hm : some g ∈ gs') : Dg W' gs' g all := by
  obtain ⟨A, c, h1, h2, h4⟩ := h
  exact ⟨A, c, hg.trans h1, h2.up s, hm⟩
theorem Dg.below {W W' : World} {gs : List (Option Nat)} {g : Nat} {all : List UInt8} (h : Dg W gs g all) (hb : Below W.heap.size W W') : Dg W' gs g all := by
  obtain ⟨A, c, h1, h2, h4⟩ := h
  exact ⟨A, c, h1.below hb, h2.up (Stp.below hb), h4⟩

section
variable {E : Env} {d : Option Nat} {ty : TypeId} {p : String} {af : Array Edge} {g : Option (Nat × Bool)} {x y z : Operand} {kw : Value → World → Prop} {w : World}
end
end Go.Proofs.YtdlljmmgkoeilaaDoor
namespace Go.Proofs.YtdlljmmgkoeilaaDoor
open Go.RowKit
theorem St.gl {w W : World} {gs : List (Option Nat)} {L : Lc} {R : List Row} {fs : List Fact} (M : St w gs W L R fs) (hG : GL w gs) : GL W (own L R gs) := hG.up ⟨M.size, fun b h _ => M.below.block b h, fun b hlt e => by
  unfold own at e
  rcases List.mem_append.1 e with e | e
  · obtain ⟨y, hy, he⟩ := List.mem_map.1 e
    injection he with he
    have := (M.blk y hy).2; omega
  rcases List.mem_append.1 e with e | e
  · obtain ⟨r, hr, he⟩ := List.mem_map.1 e
    have := (row_bklo (M.row r hr) b he).1; omega
  · exact e⟩
end Go.Proofs.YtdlljmmgkoeilaaDoor
namespace Go.Proofs.YtdlljmmgkoeilaaDoor
open Go.RowKit
section
variable {w W : World} {gs : List (Option Nat)} {L L' : Lc} {R R' : List Row} {fs : List Fact}
theorem own_perm (hL : L.Perm L') (hR : R.Perm R') (gs : List (Option Nat)) {b : Option Nat} : b ∈ own L' R' gs → b ∈ own L R gs := by
  unfold own
  intro h
  rcases List.mem_append.1 h with h | h
  · exact List.mem_append_left _ ((hL.map _).mem_iff.2 h)
  · rcases List.mem_append.1 h with h | h
    · exact List.mem_append_right _ (List.mem_append_left _ ((hR.map _).mem_iff.2 h))
    · exact List.mem_append_right _ (List.mem_append_right _ h)
theorem St.perm (M : St w gs W L R fs) (hL : L.Perm L') (hR : R.Perm R') : St w gs W L' R' fs :=
  ⟨M.below, M.lt, fun x hx => M.blk x (hL.mem_iff.2 hx), fun r hr => M.row r (hR.mem_iff.2 hr), List.Perm.pairwise ((hL.map _).append (hR.map _)) M.ap (fun h => apart_comm h),
    fun f hf => (M.fct f hf).up ⟨Nat.le_refl _, fun _ _ _ => rfl, fun _ _ e => own_perm hL hR gs e⟩⟩
end
end Go.Proofs.YtdlljmmgkoeilaaDoor
namespace Go.Proofs.YtdlljmmgkoeilaaDoor
open Go.RowKit
theorem getD_some {α : Type} {l : List α} {i : Nat} {d : α} (h : i < l.length) : l[i]? = some (l.getD i d) := by rw [List.getD_eq_getElem?_getD, List.getElem?_eq_getElem h]; rfl
end Go.Proofs.YtdlljmmgkoeilaaDoor
namespace Go.Proofs.YtdlljmmgkoeilaaDoor
open Go.RowKit
theorem dNs_appN (a b : List Nd) : dNs (a ++ b) = dNs a ++ dNs b := by
  induction a with
  | nil => rw [dNs]; rfl
  | cons x a ih => rw [List.cons_append, dNs, dNs, ih, List.append_assoc]
end Go.Proofs.YtdlljmmgkoeilaaDoor
namespace Go.Proofs.YtdlljmmgkoeilaaDoor
open Go.ChangeShapes Go.WideShapes Go.ChangeAt Go.RowKit

theorem own_ : ownKnob Tryd.prog.godebug = none := by kernel_rfl
theorem laidOut : laidOutB Tryd.prog = true := by kernel_rfl

/-- A call returns true, and below the heap's old size all is as it was. -/
def RetTrue (w : World) (e : Ending) (w' : World) : Prop := e = .returned (.bool true) ∧ Below w.heap.size w w'

section
variable {H : Type} {enc : TypeId × Value → H} {P : Program}
theorem trodAll_stays (hl : laidOutB P = true) {W W' : World} (hb : Below W.heap.size W W') {sp : Nat → Bool} : ∀ (ts : List TypeId) (vs : List Value) (ds : List (DataW H)) (p : List MemPlace),
    (ts.all fun t => P.readableRec t && decide (t < P.types.size)) = true → DataW.TrodAll enc P W 0 (fun _ => true) true ts vs ds p → (∀ x ∈ p, x.block < W.heap.size) → (∀ x ∈ p, sp x.block = true) → DataW.TrodAll enc P W' 0 sp true ts vs ds p
  | [], vs, ds, p, _, h, _, _ => by
    obtain ⟨rfl, rfl, rfl⟩ := trodAll_nil h
    exact trodAll_mk0
  | t :: ts, vs, ds, p, ht, h, hlt, hsp => by
    obtain ⟨v, vs', d, ds', p0, q0, rfl, rfl, rfl, h0, r0⟩ := trodAll_cons h
    rw [List.all_cons, Bool.and_eq_true, Bool.and_eq_true, decide_eq_true_eq] at ht
    refine trodAll_cons_mk (WideElems.Trod_stays hl ht.1.1 ht.1.2 h0 (fun x hx => hb.same (hlt x (by simp [hx]))) (fun x hx => hsp x (by simp [hx]))) (trodAll_stays hl hb ts vs' ds' q0 ht.2 r0 (fun x hx => hlt x (by simp [hx])) (fun x hx => hsp x (by simp [hx])))

theorem post_of_below {f : Func} {s : ChangeSpec} {apart fresh handsOn again : Bool} {W W' : World} {args : Array Value} {v : Value} {ds gs : List (DataW H)} {before pa pv : List MemPlace}
    (hW : DataW.Whole enc P f.params.toList s.vars apart W args.toList ds gs before)
    (hres : ∀ (b : Nat) (sp : Nat → Bool) (hd : Bool), DataW.TrodAll enc P W' b sp hd f.resultTypes.toList (v.resultList f.resultTypes.size) (s.fn H (ds ++ gs)).results [])
    (hargs : ∀ sp : Nat → Bool, (∀ p ∈ before, sp p.block = true) → DataW.TrodAll enc P W' 0 sp true f.params.toList args.toList (s.fn H (ds ++ gs)).args pa)
    (hvars : ∀ sp : Nat → Bool, (∀ p ∈ before, sp p.block = true) → DataW.TrodVars enc P W' sp s.vars (s.fn H (ds ++ gs)).vars pv)
    (hps : before = pa ++ pv) (hb : Below W.heap.size W W')
    (hok : ∀ (j : Nat) (t : TypeId) (r : Value), f.resultTypes[j]? = some t → (v.resultList f.resultTypes.size)[j]? = some r → Value.okWide P W' .any 0 t r) :
    s.post enc P f apart fresh handsOn again W args v W' := by
  have hlt : ∀ p ∈ before, p.block < W.heap.size := fun p hp => hW.lt p hp
  have hold : ∀ p ∈ before, (fun b => decide (b < W.heap.size)) p.block = true := fun p hp => by simpa using hlt p hp
  refine ⟨ds, gs, before, [], pa, pv, hW, hres _ _ _, hargs _ hold, hvars _ hold, World.keptBut_mono (fun p hp => ⟨hp, ?_⟩) (hb.frame (· ∈ before)), fun _ => ?_⟩
  · rw [hps, List.mem_append] at hp
    exact Or.inr hp
  · obtain ⟨_, _, _, _, _, hz, hn⟩ := hW
    refine ⟨hok, _, _, ([] ++ pa) ++ pv, ⟨[] ++ pa, pv, trodAll_append (hargs _ (fun _ _ => rfl)) (hres _ _ _), hvars _ (fun _ _ => rfl), rfl, ?_, ?_⟩, ?_⟩
    · intro b off hp
      have hin : MemPlace.cell b off ∈ before := by rw [hps]; simpa using hp
      rw [hb.frozen (hlt _ hin)]
      exact hz b off hin
    · intro ha
      have := hn ha
      rw [hps] at this
      simpa using this
    · intro p hp _
      rw [hps]
      simpa using hp

/-- THE ROW'S LAST STEP: the law has returned true, nothing that was there has turned. -/
theorem law_post (hl : laidOutB P = true) {tb : TypeId} (hbool : P.underlying tb = some .bool) {f : Func} {s : ChangeSpec} {W W' : World} {args : Array Value} {ds gs : List (DataW H)} {before : List MemPlace}
    (hvars : s.vars = []) (hW : DataW.Whole enc P f.params.toList s.vars false W args.toList ds gs before)
    (hts : (f.params.toList.all fun t => P.readableRec t && decide (t < P.types.size)) = true) (hrt : f.resultTypes = #[tb])
    (hres : (s.fn H (ds ++ gs)).results = [.lit (.bool true)]) (hargs : (s.fn H (ds ++ gs)).args = ds) (hvs : (s.fn H (ds ++ gs)).vars = []) (hb : Below W.heap.size W W') :
    s.post enc P f false true false false W args (.bool true) W' := by
  have hW' := hW
  obtain ⟨p, q, hA, hV, rfl, hfz, hnd⟩ := hW
  rw [hvars] at hV
  obtain ⟨rfl, rfl⟩ := trodVars_none hV
  have hlt : ∀ x ∈ p, x.block < W.heap.size := fun x hx => hW'.lt x (by simp [hx])
  refine post_of_below (pa := p) (pv := []) hW' ?_ ?_ ?_ rfl hb ?_
  · intro b sp hd
    rw [hres, hrt]
    exact trodAll_cons_mk (shut_bool hbool _) trodAll_mk0
  · intro sp hsp
    rw [hargs]
    exact trodAll_stays hl hb _ _ _ _ hts hA hlt (fun x hx => hsp x (by simp [hx]))
  · intro sp hsp
    rw [hvars, hvs]
    rfl
  · exact ok_one hrt rfl (okWide_bool_mk hbool _)
end

end Go.Proofs.YtdlljmmgkoeilaaDoor
namespace Go.Proofs.YtdlljmmgkoeilaaDoor
open Go.ChangeShapes Go.WideShapes Go.ChangeAt Go.RowKit

section
variable {H : Type} {enc : TypeId × Value → H} {W : World}
theorem lits_bulk (k : IntKind) : ∀ zs : List Int, Rows.uptoBulkAll (lits (H := H) k zs) = zs.length
  | [] => rfl
  | z :: zs => by
    have := lits_bulk k zs
    show Rows.uptoBulk (DataW.lit (.int k z)) + Rows.uptoBulkAll (lits k zs) = _
    rw [this, List.length_cons]
    show 1 + zs.length = _
    omega
set_option maxRecDepth 100000 in
theorem rd_trod {fuel : Nat} {cs : List Value} {d : DataW H} {p : List MemPlace} (hf : DataW.trod enc Tryd.prog W 0 (fun _ => true) true fuel 23 cs = some (d, p)) (hlt : ∀ x ∈ p, x.block < W.heap.size) :
    ∃ A n c l, cs = [.slice A n c] ∧ Rd W W.heap.size A n l ∧ n ≤ c ∧ c ≤ maxLen ∧ l.length + 1 ≤ Rows.uptoBulk d ∧ ∀ R, (∀ x ∈ d.weights Tryd.prog 23, x ≤ R) → l.length ≤ R := by
  rcases open_ints Tryd.underlying23 Tryd.underlying5 (by kernel_rfl) hf with ⟨hcs, hx⟩ | ⟨x, l, c, zs, hcs, _, hl, hm, hz, hx, hcell, hwz⟩
  · simp only [Prod.mk.injEq] at hx
    obtain ⟨rfl, rfl⟩ := hx
    exact ⟨none, 0, 0, [], hcs, Rd.nil_, Nat.le_refl _, Nat.zero_le _, Nat.le_refl _, fun _ _ => Nat.zero_le _⟩
  · simp only [if_true] at hz
    simp only [Prod.mk.injEq] at hx
    obtain ⟨rfl, rfl⟩ := hx
    refine ⟨some x, l, c, (zs.take l).map b8, hcs, ⟨by rw [bvs_length]; simp; omega, fun hn => ?_⟩, hl, hm, ?_, ?_⟩
    · obtain ⟨b, off, spot⟩ := x
      have hspot : spot = none := by simpa [Addr.add] using World.cell?_spot (hcell 0 (by omega))
      subst hspot
      have hbW : b < W.heap.size := hlt (.cell b off) (MemPlace.mem_row.2 ⟨0, by omega, by simp⟩)
      refine ⟨b, off, rfl, hbW, fun j u hu => ?_⟩
      have e : bvs ((zs.take l).map b8) = (zs.take l).map (Value.int .u8) := by
        unfold bvs
        rw [List.map_map]
        refine List.map_congr_left fun z hz => ?_
        have := hwz z (List.mem_of_mem_take hz)
        have hr : 0 ≤ z ∧ z ≤ 255 := by simpa [Lit.wf, IntKind.min, IntKind.max, IntKind.signed, IntKind.bits] using this
        exact u8v_b8 z hr.1 hr.2
      rw [e, List.getElem?_map] at hu
      obtain ⟨z, hz1, rfl⟩ := Option.map_eq_some_iff.1 hu
      have hj : j < l := by
        rw [List.getElem?_take] at hz1
        split at hz1
        · assumption
        · cases hz1
      have hc := hcell j (by omega)
      rw [Addr.add_lit] at hc
      rw [hc]
      rw [List.getElem?_take, if_pos hj] at hz1
      rw [List.getD_eq_getElem?_getD, hz1]
      rfl
    · show _ ≤ Rows.uptoBulkAll (lits .u8 (zs.take l)) + Rows.uptoBulkAll (lits .u8 (zs.drop l)) + 1
      rw [lits_bulk, lits_bulk]
      simp
    · intro R hR
      have hb : Tryd.prog.bytesOf 5 = 1 := by kernel_rfl
      have := hR (((lits (H := H) .u8 (zs.take l)).length + (lits (H := H) .u8 (zs.drop l)).length) * Tryd.prog.bytesOf 5) (by
        unfold DataW.weights; rw [Tryd.underlying23]; simp)
      rw [hb] at this
      have h3 : (lits (H := H) .u8 (zs.take l)).length = (zs.take l).length := by simp [lits]
      rw [List.length_map, ← h3]; omega
end

end Go.Proofs.YtdlljmmgkoeilaaDoor
namespace Go.Proofs.YtdlljmmgkoeilaaDoor
open Go.ChangeShapes Go.WideShapes Go.ChangeAt Go.RowKit
section
variable {H : Type} {enc : TypeId × Value → H} {W : World}
theorem rdD_elts {α : Type} (dE : α → List D) (s : Nat) (hd : ∀ a, (dE a).length = s) {P : Nat → α → Prop} {F : Nat → Prop} {b off : Nat} : ∀ (n : Nat), (∀ i, i < n → ∃ a es, P i a ∧ RdL W F (dE a) es ∧ ∀ j u, es[j]? = some u → W.cell? ⟨b, off + i * s + j, none⟩ = some u) →
    ∃ (l : List α) (cs : List Value), l.length = n ∧ (∀ i a, l[i]? = some a → P i a) ∧ RdL W F (l.flatMap dE) cs ∧ ∀ j u, cs[j]? = some u → W.cell? ⟨b, off + j, none⟩ = some u
  | 0, _ => ⟨[], [], rfl, (fun i a h => by simp at h), RdL.nil_, fun j u h => by simp at h⟩
  | n + 1, h => by
    obtain ⟨l, cs, h1, h2, h3, h4⟩ := rdD_elts dE s hd n (fun i hi => h i (by omega))
    obtain ⟨a, es, k1, k2, k3⟩ := h n (by omega)
    have hl : cs.length = n * s := by
      rw [h3.len, ← h1]
      clear h1 h2 h3 h4
      induction l with
      | nil => simp
      | cons x l ih => rw [List.flatMap_cons, List.length_append, ih, hd, List.length_cons, Nat.succ_mul]; omega
    refine ⟨l ++ [a], cs ++ es, by simp [h1], fun i x hx => ?_, by rw [List.flatMap_append]; simp only [List.flatMap_cons, List.flatMap_nil, List.append_nil]; exact h3.app k2, fun j u hu => ?_⟩
    · by_cases hi : i < n
      · rw [List.getElem?_append_left (by omega)] at hx; exact h2 i x hx
      · have hin : i = n := by
          have := (List.getElem?_eq_some_iff.1 hx).1
          simp [h1] at this; omega
        subst hin
        rw [List.getElem?_append_right (by omega), h1, Nat.sub_self] at hx
        simp at hx
        subst hx
        exact k1
    · by_cases hj : j < n * s
      · rw [List.getElem?_append_left (by omega)] at hu; exact h4 j u hu
      · rw [List.getElem?_append_right (by omega), hl] at hu
        have := k3 _ u hu
        rw [show off + n * s + (j - n * s) = off + j by omega] at this
        exact this
/-- A row whose elements read as data. -/
theorem trod_elts {α : Type} (dE : α → List D) (s : Nat) (hd : ∀ a, (dE a).length = s) (hs : 0 < s) {P : DataW H → α → Prop} {ts te : TypeId} (hT : Tryd.prog.underlying ts = some (.slice te)) (hc : Program.cellsOf Tryd.prog te = s) {fuel : Nat} {cs : List Value} {x : DataW H × List MemPlace}
    (hf : DataW.trod enc Tryd.prog W 0 (fun _ => true) true fuel ts cs = some x) (hlt : ∀ q ∈ x.2, q.block < W.heap.size)
    (he : ∀ m cs' y, m < fuel → DataW.trod enc Tryd.prog W 0 (fun _ => true) true m te cs' = some y → (∀ q ∈ y.2, q.block < W.heap.size) → ∃ a, P y.1 a ∧ RdL W (Fd W []) (dE a) cs') :
    ∃ (A : Option Addr) (n c : Nat) (l : List α) (ds rest : List (DataW H)), cs = [.slice A n c] ∧ (x.1 = .slice ds rest ∨ (x.1 = .nil ∧ ds = [])) ∧ l.length = n ∧ l.length = ds.length ∧ (∀ (i : Nat) (a : α) (d : DataW H), l[i]? = some a → ds[i]? = some d → P d a) ∧ RdD W (Fd W []) (.sl s n (l.flatMap dE)) (.slice A n c) := by
  rcases DataW.trod_slice hT hf with ⟨hcs, hx⟩ | ⟨a, l, c, elems, rest, m, hm0, hcs, hx, _, hl, hm, hlen, hel, _⟩
  · subst hx
    exact ⟨none, 0, 0, [], [], [], hcs, .inr ⟨rfl, rfl⟩, rfl, rfl, (fun i a d h => by cases h), RdD.nil_ _ _⟩
  · subst hx
    dsimp only at hlt ⊢
    have each : ∀ i, i < l → ∃ (u : α) (es : List Value), (∀ y, elems[i]? = some y → P y.1 u) ∧ RdL W (Fd W []) (dE u) es ∧ es.length = s ∧ ∀ j, j < s → W.cell? ((a.add (i * s)).add j) = es[j]? := by
      intro i hi
      have hE := hel i hi
      rw [hc, List.getElem?_eq_getElem (by omega), Option.bind_eq_some_iff] at hE
      obtain ⟨cs', hcs', hy⟩ := hE
      obtain ⟨u, h1, h2⟩ := he m cs' _ (by omega) hy (fun q hq => hlt q (List.mem_append_right _ (List.mem_flatMap.2 ⟨elems[i]'(by omega), List.mem_append_left _ (List.getElem_mem _), hq⟩)))
      obtain ⟨_, hc1, hc2⟩ := World.cells?_some hcs'
      have hcl : cs'.length = s := by rw [h2.len, hd]
      refine ⟨u, cs', fun y hy2 => ?_, h2, hcl, fun j hj => ?_⟩
      · rw [List.getElem?_eq_getElem (by omega)] at hy2
        injection hy2 with hy2
        subst hy2
        exact h1
      · exact hc2 j (by omega)
    by_cases h0 : l = 0
    · subst h0
      refine ⟨some a, 0, c, [], [], rest.map (·.1), hcs, .inl ?_, rfl, rfl, (fun i a d h => by cases h), RdD.nil_ _ _⟩
      rw [List.eq_nil_of_length_eq_zero hlen]; rfl
    · obtain ⟨b, off, spot⟩ := a
      obtain ⟨u0, es0, _, k2, k3, k4⟩ := each 0 (by omega)
      have hspot : spot = none := by
        have := k4 0 hs
        rw [List.getElem?_eq_getElem (by omega)] at this
        simpa [Addr.add] using World.cell?_spot this
      subst hspot
      have hbW : b < W.heap.size := hlt (.cell b off) (List.mem_append_left _ (MemPlace.mem_row.2 ⟨0, by rw [hc, hlen]; exact Nat.mul_pos (by omega) hs, by simp⟩))
      obtain ⟨ul, us, e1, e2, e3, e4⟩ := rdD_elts (P := fun i u => ∀ y, elems[i]? = some y → P y.1 u) (F := Fd W []) (b := b) (off := off) dE s hd l (fun i hi => by
        obtain ⟨u, es, f1, f2, f3, f4⟩ := each i hi
        refine ⟨u, es, f1, f2, fun j v hv => ?_⟩
        have := f4 j (by have := (List.getElem?_eq_some_iff.1 hv).1; omega)
        rw [Addr.add_lit, Addr.add_lit, hv] at this
        exact this)
      refine ⟨some ⟨b, off, none⟩, l, c, ul, elems.map (·.1), rest.map (·.1), hcs, .inl rfl, e1, by simp [e1, hlen], fun i u d h1 h2 => ?_, ?_⟩
      · rw [List.getElem?_map] at h2
        obtain ⟨y, hy, rfl⟩ := Option.map_eq_some_iff.1 h2
        exact e2 i u h1 y hy
      · refine RdD.sl_iff.2 ⟨_, c, us, rfl, hl, ?_, e3, fun _ => ⟨b, off, rfl, ⟨hbW, by simp⟩, e4⟩⟩
        rw [← e1]
        clear e1 e2 e3 e4
        induction ul with
        | nil => simp
        | cons x ul ih => rw [List.flatMap_cons, List.length_append, ih, hd, List.length_cons, Nat.succ_mul]; omega
theorem bulk_sums {α : Type} (f : α → Nat) : ∀ (ll : List α) (ds : List (DataW H)), ll.length = ds.length → (∀ (i : Nat) (l : α) (d : DataW H), ll[i]? = some l → ds[i]? = some d → f l ≤ Rows.uptoBulk d) → (ll.map f).sum ≤ Rows.uptoBulkAll ds
  | [], ds, h, _ => Nat.zero_le _
  | l :: ll, [], h, _ => by simp at h
  | l :: ll, d :: ds, h, k => by
    have h0 := k 0 l d rfl rfl
    have := bulk_sums f ll ds (by simpa using h) (fun i l' d' h1 h2 => k (i + 1) l' d' (by simpa using h1) (by simpa using h2))
    show _ ≤ Rows.uptoBulk d + Rows.uptoBulkAll ds
    rw [List.map_cons, List.sum_cons]; omega
set_option maxRecDepth 100000 in
theorem bytes_trod {fuel : Nat} {cs : List Value} {x : DataW H × List MemPlace} (hf : DataW.trod enc Tryd.prog W 0 (fun _ => true) true fuel 23 cs = some x) (hlt : ∀ q ∈ x.2, q.block < W.heap.size) :
    ∃ l u, cs = [u] ∧ RdD W (Fd W []) (dB l) u ∧ l.length + 1 ≤ Rows.uptoBulk x.1 := by
  obtain ⟨A, n, c, l, rfl, hr, hc, _, hb, _⟩ := rd_trod (d := x.1) (p := x.2) hf hlt
  exact ⟨l, _, rfl, RdD.ofbytes hr hc (fun b off _ h => ⟨h, by simp⟩), hb⟩
theorem c1int : Program.cellsOf Tryd.prog 3 = 1 := by kernel_rfl
theorem c1bytes : Program.cellsOf Tryd.prog 23 = 1 := by kernel_rfl
theorem list2 {α : Type} {l : List α} (h : l.length = 2) : ∃ a b, l = [a, b] := by
  match l, h with
  | [a, b], _ => exact ⟨a, b, rfl⟩
theorem c2pair : Program.cellsOf Tryd.prog 55 = 2 := by kernel_rfl
set_option maxRecDepth 100000 in
theorem pair_trod (fuel : Nat) (cs : List Value) (x : DataW H × List MemPlace) (hf : DataW.trod enc Tryd.prog W 0 (fun _ => true) true fuel 55 cs = some x) (hlt : ∀ q ∈ x.2, q.block < W.heap.size) :
    ∃ t : Pr, t.k.length + t.v.length + 3 ≤ Rows.uptoBulk x.1 ∧ RdL W (Fd W []) (dPr t) cs := by
  obtain ⟨xs, n, rfl, rfl, hl, hlen, hfs⟩ := DataW.trod_struct Tryd.underlying55 hf
  rw [c2pair] at hl
  obtain ⟨a0, a1, rfl⟩ := list2 hl
  obtain ⟨y0, y1, rfl⟩ := list2 (show xs.length = 2 from hlen)
  have h0 : DataW.trod enc Tryd.prog W 0 (fun _ => true) true n 23 [a0] = some y0 := by have := (show DataW.trod enc Tryd.prog W 0 (fun _ => true) true n 23 (([a0, a1].drop 0).take (Program.cellsOf Tryd.prog 23)) = some y0 from hfs 0 _ rfl); rw [c1bytes] at this; exact this
  have h1 : DataW.trod enc Tryd.prog W 0 (fun _ => true) true n 23 [a1] = some y1 := by have := (show DataW.trod enc Tryd.prog W 0 (fun _ => true) true n 23 (([a0, a1].drop 1).take (Program.cellsOf Tryd.prog 23)) = some y1 from hfs 1 _ rfl); rw [c1bytes] at this; exact this
  have hq : ∀ y ∈ [y0, y1], ∀ q ∈ y.2, q.block < W.heap.size := fun y hy q hq => hlt q (List.mem_flatMap.2 ⟨y, hy, hq⟩)
  obtain ⟨k, u0, e0, r0, b0⟩ := bytes_trod h0 (hq y0 (by simp))
  obtain ⟨v, u1, e1, r1, b1⟩ := bytes_trod h1 (hq y1 (by simp))
  injection e0 with e0
  injection e1 with e1
  subst e0; subst e1
  refine ⟨⟨k, v⟩, ?_, RdL.cons r0 (RdL.cons r1 RdL.nil_)⟩
  show k.length + v.length + 3 ≤ Rows.uptoBulk y0.1 + (Rows.uptoBulk y1.1 + 0) + 1
  omega
set_option maxRecDepth 100000 in
/-- A row of pairs that came in. -/
theorem prs_open {base : Nat} {v : Value} {d : DataW H} {p : List MemPlace} (hv : Value.okWide Tryd.prog W .any base 22 v)
    (h : DataW.Trod enc Tryd.prog W 0 (fun _ => true) true 22 v d p) : ∃ A n c l, v = .slice A n c ∧ RdD W (Fd W []) (dPl l) (.slice A n c) ∧ (l.map fun t => t.k.length + t.v.length + 3).sum + 1 ≤ Rows.uptoBulk d := by
  obtain ⟨a0, len, cap, rfl⟩ := okWide_slice Tryd.underlying22 hv
  have hlt : ∀ x ∈ p, x.block < W.heap.size := by obtain ⟨m, hm⟩ := h; exact DataW.trod_lt m _ _ _ hm
  obtain ⟨fuel, hf⟩ := h
  obtain ⟨A, m, c, ks, ds, rest, e4, hd4, l1, l2, hP, r4⟩ := trod_elts (x := (d, p)) dPr 2 (fun _ => rfl) (by decide) (P := fun d (t : Pr) => t.k.length + t.v.length + 3 ≤ Rows.uptoBulk d) Tryd.underlying22 c2pair hf hlt (fun m cs' y hm hy hyq => pair_trod m cs' y hy hyq)
  simp [Value.cells] at e4
  obtain ⟨rfl, rfl, rfl⟩ := e4
  have hks := bulk_sums (fun t : Pr => t.k.length + t.v.length + 3) ks ds l2 (fun i l d a b => hP i l d a b)
  refine ⟨_, _, _, ks, rfl, by rw [← l1] at r4 ⊢; exact r4, ?_⟩
  dsimp only at hd4
  rcases hd4 with h | ⟨h, e⟩
  · rw [h]
    show _ ≤ Rows.uptoBulkAll ds + Rows.uptoBulkAll rest + 1
    omega
  · rw [h]
    rw [e] at hks
    have : Rows.uptoBulkAll ([] : List (DataW H)) = 0 := rfl
    show _ ≤ 1
    omega
end
end Go.Proofs.YtdlljmmgkoeilaaDoor
namespace Go.Proofs.YtdlljmmgkoeilaaDoor
open Go.RowKit
section
variable {w W W' : World} {gs : List (Option Nat)} {L : Lc} {R : List Row} {fs : List Fact} {d d' : D} {u u' : Value}
theorem St.callF2 (M : St w gs W L R fs) (hb : Below W.heap.size W W') (h1 : RdD W' (Fr W W') d u) (h2 : RdD W' (Fr W W') d' u') : St w gs W' L R (.dat true [d] [u] :: .dat true [d'] [u'] :: fs) :=
  (M.callF1 hb h2).addT (RdL.one (h1.to fun b hb' => ⟨rfl, hb'.2.1, fun e => by have := M.olt b e; have := hb'.1; omega, fun _ => ⟨Nat.le_trans M.size hb'.1, hb'.2.2⟩⟩))
theorem St.callFD (M : St w gs W L R fs) (hb : Below W.heap.size W W') {ds : List D} {cs : List Value} (h1 : RdL W' (Fd W' (own L R gs)) ds cs) (h2 : RdD W' (Fr W W') d' u') : St w gs W' L R (.dat false ds cs :: .dat true [d'] [u'] :: fs) :=
  (M.callF1 hb h2).addL h1
theorem missOk.toD {F : Nat → Prop} {m : Option (List UInt8)} {A : Option Addr} {n c : Nat} (h : missOk W F [] m A n c) : RdD W F (dB (m.getD [])) (.slice A n c) := by
  unfold missOk at h
  cases m with
  | none =>
    obtain ⟨rfl, rfl, rfl⟩ := h
    exact RdD.nil_ _ _
  | some r => exact h.2
end
end Go.Proofs.YtdlljmmgkoeilaaDoor
namespace Go.Proofs.YtdlljmmgkoeilaaDoor
open Go.RowKit
/-- What a reader has left, and whether something was wrong. -/
structure RS where
  l : List UInt8
  bad : Bool
def cutP (k : Nat) (s : RS) : List UInt8 × RS := if s.l.length < k then ([], ⟨[], true⟩) else (s.l.take k, ⟨s.l.drop k, s.bad⟩)
section
variable {w W : World} {gs : List (Option Nat)} {g : Nat} {L : Lc} {R : List Row} {fs : List Fact} {A : Option Addr} {n c : Nat} {l : List UInt8} {bad : Bool}
end
end Go.Proofs.YtdlljmmgkoeilaaDoor
namespace Go.Proofs.YtdlljmmgkoeilaaDoor
theorem cmp_app (w a b : List UInt8) : cmpB (w ++ a) (w ++ b) = cmpB a b := by
  induction w with
  | nil => rfl
  | cons x w ih => rw [List.cons_append, List.cons_append, cmpB_cons, if_pos rfl, ih]
theorem cmp_zero : ∀ {a b : List UInt8}, cmpB a b = 0 ↔ a = b
  | [], [] => by simp [cmpB_nil]
  | [], y :: b => by rw [cmpB_nil_cons]; simp
  | x :: a, [] => by rw [cmpB_cons_nil]; simp
  | x :: a, y :: b => by
    rw [cmpB_cons]
    by_cases h : x = y
    · subst h
      rw [if_pos rfl, cmp_zero]; simp
    · rw [if_neg h]
      constructor
      · intro e; split at e <;> cases e
      · intro e; injection e with e; exact absurd e h
theorem cmp_self (a : List UInt8) : cmpB a a = 0 := cmp_zero.2 rfl
theorem cmp_trans : ∀ {a b c : List UInt8}, cmpB a b < 0 → cmpB b c < 0 → cmpB a c < 0
  | a, [], c, h, _ => by
    cases a with
    | nil => rw [cmpB_nil] at h; omega
    | cons x a => rw [cmpB_cons_nil] at h; omega
  | _, y :: b, [], _, h => by rw [cmpB_cons_nil] at h; omega
  | [], y :: b, z :: c, _, _ => by rw [cmpB_nil_cons]; decide
  | x :: a, y :: b, z :: c, h1, h2 => by
    rw [cmpB_cons] at h1 h2 ⊢
    by_cases e1 : x = y
    · subst e1
      rw [if_pos rfl] at h1
      by_cases e2 : x = z
      · rw [if_pos e2] at h2 ⊢; exact cmp_trans h1 h2
      · rw [if_neg e2] at h2 ⊢; exact h2
    · rw [if_neg e1] at h1
      have l1 : x.toNat < y.toNat := by split at h1; assumption; omega
      by_cases e2 : y = z
      · subst e2
        rw [if_neg e1, if_pos l1]; decide
      · rw [if_neg e2] at h2
        have l2 : y.toNat < z.toNat := by split at h2; assumption; omega
        have e3 : x ≠ z := fun e => by rw [e] at l1; omega
        rw [if_neg e3, if_pos (by omega)]; decide
theorem cmp_anti {a b : List UInt8} (h : cmpB a b < 0) : ¬ cmpB b a < 0 := fun k => by have := cmpB_symm a b; omega
theorem cmp_ne {a b : List UInt8} (h : cmpB a b < 0) : a ≠ b := fun e => by rw [e, cmp_self] at h; omega
theorem cmp_pre {w p : List UInt8} (h : w <+: p) (hn : w.length < p.length) : cmpB w p < 0 := by
  obtain ⟨r, rfl⟩ := h
  have := cmp_app w [] r
  rw [List.append_nil] at this
  rw [this]
  cases r with
  | nil => simp at hn
  | cons x r => rw [cmpB_nil_cons]; decide
theorem cmp_diff {w p q : List UInt8} {a b : UInt8} (hp : w ++ [a] <+: p) (hq : w ++ [b] <+: q) (h : a.toNat < b.toNat) : cmpB p q < 0 := by
  obtain ⟨r, rfl⟩ := hp
  obtain ⟨s, rfl⟩ := hq
  rw [List.append_assoc, List.append_assoc, cmp_app, List.singleton_append, List.singleton_append, cmpB_cons, if_neg (fun e => by rw [e] at h; omega), if_pos h]; decide
def Ris (l : List Pr) : Prop := l.Pairwise fun a b => cmpB a.k b.k < 0
theorem insP_mem : ∀ {l : List Pr} {p y : Pr}, Ris l → (y ∈ insP l p ↔ y = p ∨ (y ∈ l ∧ y.k ≠ p.k))
  | [], p, y, _ => by rw [insP]; simp
  | x :: r, p, y, h => by
    have h' := List.pairwise_cons.1 h
    rw [insP]
    split
    · rename_i h1
      have := insP_mem (l := r) (p := p) (y := y) h'.2
      rw [List.mem_cons, this, List.mem_cons]
      have hx := cmp_ne h1
      constructor
      · rintro (rfl | rfl | ⟨a, b⟩)
        · exact .inr ⟨.inl rfl, hx⟩
        · exact .inl rfl
        · exact .inr ⟨.inr a, b⟩
      · rintro (rfl | ⟨rfl | a, b⟩)
        · exact .inr (.inl rfl)
        · exact .inl rfl
        · exact .inr (.inr ⟨a, b⟩)
    · rename_i h1
      split
      · rename_i h2
        have e := cmp_zero.1 h2
        rw [List.mem_cons, List.mem_cons]
        constructor
        · rintro (rfl | a)
          · exact .inl rfl
          · have := cmp_ne (h'.1 y a)
            rw [e] at this
            exact .inr ⟨.inr a, fun e2 => this e2.symm⟩
        · rintro (rfl | ⟨rfl | a, b⟩)
          · exact .inl rfl
          · exact absurd e b
          · exact .inr a
      · rename_i h2
        have h3 : cmpB p.k x.k < 0 := by have := cmpB_symm p.k x.k; omega
        rw [List.mem_cons, List.mem_cons]
        constructor
        · rintro (rfl | rfl | a)
          · exact .inl rfl
          · exact .inr ⟨.inl rfl, fun e => cmp_ne h3 e.symm⟩
          · exact .inr ⟨.inr a, fun e => cmp_ne (cmp_trans h3 (h'.1 y a)) e.symm⟩
        · rintro (rfl | ⟨rfl | a, b⟩)
          · exact .inl rfl
          · exact .inr (.inl rfl)
          · exact .inr (.inr a)
theorem ins_ris : ∀ {l : List Pr} (p : Pr), Ris l → Ris (insP l p)
  | [], p, _ => List.pairwise_singleton _ _
  | x :: r, p, h => by
    have h' := List.pairwise_cons.1 h
    rw [insP]
    split
    · rename_i h1
      refine List.pairwise_cons.2 ⟨fun y hy => ?_, ins_ris p h'.2⟩
      rcases (insP_mem h'.2).1 hy with rfl | ⟨a, _⟩
      · exact h1
      · exact h'.1 y a
    · rename_i h1
      split
      · rename_i h2
        have e := cmp_zero.1 h2
        exact List.pairwise_cons.2 ⟨fun y hy => by rw [← e]; exact h'.1 y hy, h'.2⟩
      · rename_i h2
        have h3 : cmpB p.k x.k < 0 := by have := cmpB_symm p.k x.k; omega
        refine List.pairwise_cons.2 ⟨fun y hy => ?_, h⟩
        rcases List.mem_cons.1 hy with rfl | hy
        · exact h3
        · exact cmp_trans h3 (h'.1 y hy)
theorem ris_ext : ∀ {a b : List Pr}, Ris a → Ris b → (∀ y, y ∈ a ↔ y ∈ b) → a = b
  | [], [], _, _, _ => rfl
  | [], y :: b, _, _, h => by have := (h y).2 (by simp); cases this
  | x :: a, [], _, _, h => by have := (h x).1 (by simp); cases this
  | x :: a, y :: b, ha, hb, h => by
    have ha' := List.pairwise_cons.1 ha
    have hb' := List.pairwise_cons.1 hb
    have hxy : x = y := by
      rcases List.mem_cons.1 ((h x).1 (by simp)) with e | hx
      · exact e
      · rcases List.mem_cons.1 ((h y).2 (by simp)) with e | hy
        · exact e.symm
        · exact absurd (ha'.1 y hy) (cmp_anti (hb'.1 x hx))
    subst hxy
    congr 1
    refine ris_ext ha'.2 hb'.2 fun z => ?_
    constructor
    · intro hz
      rcases List.mem_cons.1 ((h z).1 (by simp [hz])) with rfl | h2
      · exact absurd rfl (cmp_ne (ha'.1 z hz))
      · exact h2
    · intro hz
      rcases List.mem_cons.1 ((h z).2 (by simp [hz])) with rfl | h2
      · exact absurd rfl (cmp_ne (hb'.1 z hz))
      · exact h2
theorem ris_key : ∀ {l : List Pr} {x y : Pr}, Ris l → x ∈ l → y ∈ l → x.k = y.k → x = y
  | z :: l, x, y, h, hx, hy, e => by
    have h' := List.pairwise_cons.1 h
    rcases List.mem_cons.1 hx with e1 | hx1
    · rcases List.mem_cons.1 hy with e2 | hy1
      · rw [e1, e2]
      · exact absurd e (by rw [e1]; exact cmp_ne (h'.1 y hy1))
    · rcases List.mem_cons.1 hy with e2 | hy1
      · exact absurd e.symm (by rw [e2]; exact cmp_ne (h'.1 x hx1))
      · exact ris_key h'.2 hx1 hy1 e
theorem fold_ris : ∀ {l o : List Pr}, Ris o → Ris (l.foldl insP o)
  | [], _, h => h
  | p :: l, _, h => fold_ris (l := l) (ins_ris p h)
theorem rising_ris (l : List Pr) : Ris (risingP l) := fold_ris List.Pairwise.nil
def RisI (l : List It) : Prop := l.Pairwise fun a b => cmpB a.path b.path < 0
theorem kids_ris {ks : List Nd} {kn : Bool} {at_ : List UInt8} : ∀ (i : Nat), i + ks.length ≤ 16 → (∀ k ∈ ks, ∀ way, RisI (itemsP k way kn)) → RisI (itemsK ks true kn i at_) := by
  induction ks with
  | nil => intro i _ _; rw [itemsK]; exact List.Pairwise.nil
  | cons t ks ih =>
    intro i hi h
    rw [List.length_cons] at hi
    rw [itemsK]
    refine List.pairwise_append.2 ⟨h t (by simp) _, ih (i + 1) (by omega) (fun k hk => h k (by simp [hk])), fun x hx y hy => ?_⟩
    obtain ⟨j, k, h1, h2⟩ := itemsK_mem hy
    have hj := (List.getElem?_eq_some_iff.1 h1).1
    exact cmp_diff (kid_pre hx) (kid_pre h2) (by rw [ofNat_half (by omega), ofNat_half (by omega)]; omega)
theorem items_ris {even : Bool} {t : Nd} {d : Nat} (hv : Val even t d) : ∀ (way : List UInt8) (kn : Bool), RisI (itemsP t way kn) := by
  induction hv with
  | none => intro way kn; rw [items_none]; exact List.Pairwise.nil
  | leaf => intro way kn; rw [items_leaf]; exact List.pairwise_singleton _ _
  | stub => intro way kn; rw [items_stub]; exact List.pairwise_singleton _ _
  | way d p k hd hp h0 hk hr ih => intro way kn; rw [items_way]; exact ih _ _
  | branch d has v ks hd hv hv0 he h16 hr hm ih =>
    intro way kn
    rw [items_br]
    refine List.pairwise_append.2 ⟨?_, kids_ris 0 (by omega) (fun k hk way => ih k hk way false), fun x hx y hy => ?_⟩
    · unfold ownI
      cases has with
      | true => exact List.pairwise_singleton _ _
      | false => exact List.Pairwise.nil
    · have hxp : x.path = way := by
        unfold ownI at hx
        cases has with
        | true => simp only [if_pos, List.mem_singleton] at hx; subst hx; rfl
        | false => cases hx
      rw [hxp]
      obtain ⟨j, k, _, h2⟩ := kid_mem hy
      exact cmp_pre ((List.prefix_append _ _).trans (kid_pre h2)) (pre_at (kid_pre h2)).1
theorem items_even {t : Nd} {d : Nat} (hv : Val true t d) : ∀ (way : List UInt8) (kn : Bool), ∀ x ∈ itemsP t way kn, ∃ r, x.path = way ++ r ∧ halvesB r = true ∧ (x.stub = false → (d + r.length) % 2 = 0 ∧ x.known = false ∧ x.hash = []) := by
  have ends : ∀ {d : Nat}, endsP d true = true → d % 2 = 0 := fun h => by
    unfold endsP at h
    simp at h
    omega
  induction hv with
  | none => intro way kn x hx; rw [items_none] at hx; cases hx
  | leaf d p v hd hp hv he =>
    intro way kn x hx
    rw [items_leaf, List.mem_singleton] at hx
    subst hx
    exact ⟨p, rfl, hp, fun _ => ⟨ends he, rfl, rfl⟩⟩
  | stub d h hd hh =>
    intro way kn x hx
    rw [items_stub, List.mem_singleton] at hx
    subst hx
    exact ⟨[], by simp, rfl, fun h => by cases h⟩
  | way d p k hd hp h0 hk hr ih =>
    intro way kn x hx
    rw [items_way] at hx
    obtain ⟨r, h1, h2, h3⟩ := ih _ _ x hx
    exact ⟨p ++ r, by rw [h1, List.append_assoc], by rw [halvesB_app, hp, h2]; rfl, fun h => by
      rw [List.length_append, ← Nat.add_assoc]; exact h3 h⟩
  | branch d has v ks hd hv hv0 he h16 hr hm ih =>
    intro way kn x hx
    rw [items_br] at hx
    rcases List.mem_append.1 hx with hx | hx
    · unfold ownI at hx
      cases has with
      | true => simp only [if_pos, List.mem_singleton] at hx; subst hx; exact ⟨[], by simp, rfl, fun _ => ⟨ends (he rfl), rfl, rfl⟩⟩
      | false => cases hx
    · obtain ⟨j, k, h1, h2⟩ := kid_mem hx
      have hj : j < 16 := by have := (List.getElem?_eq_some_iff.1 h1).1; omega
      obtain ⟨r, k1, k2, k3⟩ := ih k (List.mem_of_getElem? h1) _ _ x h2
      refine ⟨UInt8.ofNat j :: r, by rw [k1, List.append_assoc]; rfl, ?_, fun h => ?_⟩
      · have := ofNat_half hj
        unfold halvesB at k2 ⊢
        simp only [List.all_cons, Bool.and_eq_true, decide_eq_true_eq]
        have h15 : (UInt8.ofNat j).toNat ≤ 15 := by omega
        exact ⟨h15, k2⟩
      · rw [List.length_cons, show d + (r.length + 1) = d + 1 + r.length by omega]; exact k3 h
theorem sf_items {even : Bool} {t : Nd} {d : Nat} (hv : Val even t d) : ∀ (way : List UInt8) (kn : Bool), sfB t = true ↔ ∀ x ∈ itemsP t way kn, x.stub = false := by
  induction hv with
  | none => intro way kn; rw [items_none]; simp [sf_none]
  | leaf d p v => intro way kn; rw [items_leaf]; simp [show sfB (.mk 1 p false v [] []) = true from sf_leaf p v]
  | stub d h => intro way kn; rw [items_stub, sfB_mk]; simp
  | way d p k hd hp h0 hk hr ih =>
    intro way kn
    rw [items_way, ← ih (way ++ p) true, sfB_mk, sfsB, sfsB]; simp
  | branch d has v ks hd hv hv0 he h16 hr hm ih =>
    intro way kn
    rw [items_br, sfB_mk, Bool.and_eq_true, sfsB_all]
    constructor
    · rintro ⟨_, h⟩ x hx
      rcases List.mem_append.1 hx with hx | hx
      · unfold ownI at hx
        cases has with
        | true => simp only [if_pos, List.mem_singleton] at hx; subst hx; rfl
        | false => cases hx
      · obtain ⟨j, k, h1, h2⟩ := kid_mem hx
        exact (ih k (List.mem_of_getElem? h1) _ _).1 (h k (List.mem_of_getElem? h1)) x h2
    · intro h
      refine ⟨by decide, fun k hk => ?_⟩
      obtain ⟨j, hj⟩ := List.getElem?_of_mem hk
      exact (ih k hk (way ++ [UInt8.ofNat j]) false).2 fun x hx => h x (List.mem_append_right _ (kid_of hj hx))
theorem ofB_inj {a b : List UInt8} (h : ofB a = ofB b) : a = b := by rw [← joinB_ofB a, h, joinB_ofB]
theorem itOf_inj {a b : Pr} (h : itOf a = itOf b) : a = b := by
  unfold itOf at h
  injection h with h1 h2
  obtain ⟨k, v⟩ := a
  obtain ⟨k', v'⟩ := b
  dsimp only at h1 h2
  rw [ofB_inj h1, h2]
/-- A trie without stubs that may be. -/
def Full (t : Nd) : Prop := Val true t 0 ∧ sfB t = true
def prsT (t : Nd) : List Pr := (pairsP t []).1
theorem rPairs_map : ∀ {l : List It}, (∀ x ∈ l, x.stub = false) → rPairsF l = (l.map fun x => ⟨bytesL x.path, x.val⟩, none)
  | [], _ => rfl
  | x :: l, h => by
    have := rPairs_map (l := l) (fun y hy => h y (by simp [hy]))
    rw [rPairsF, h x (by simp), this]; rfl
theorem full_pairs {t : Nd} (h : Full t) : (pairsP t []).2 = none ∧ prsT t = (itemsP t [] true).map fun x => ⟨bytesL x.path, x.val⟩ := by
  obtain ⟨h1, h2⟩ := pairs_items t [] true
  rw [rPairs_map ((sf_items h.1 [] true).1 h.2)] at h1 h2
  exact ⟨h1, h2 h1⟩
theorem prs_items {t : Nd} (h : Full t) : itemsP t [] true = (prsT t).map itOf := by
  rw [(full_pairs h).2, List.map_map]
  have : ∀ x ∈ itemsP t [] true, (itOf ∘ fun x : It => (⟨bytesL x.path, x.val⟩ : Pr)) x = x := fun x hx => by
    have hs := (sf_items h.1 [] true).1 h.2 x hx
    obtain ⟨r, h1, h2, h3⟩ := items_even h.1 [] true x hx
    obtain ⟨h4, h5, h6⟩ := h3 hs
    rw [List.nil_append] at h1
    obtain ⟨p, v, s, k, hh⟩ := x
    dsimp only at h1 hs h5 h6
    subst h1; subst hs; subst h5; subst h6
    show itOf ⟨bytesL p, v⟩ = _
    unfold itOf
    dsimp only
    rw [(bytesE_ok h2 (by omega)).2, ofB_joinB p h2 (by omega)]
  conv => lhs; rw [← List.map_id (itemsP t [] true)]
  exact List.map_congr_left fun x hx => (this x hx).symm
theorem prs_mem {t : Nd} (h : Full t) {p : Pr} : p ∈ prsT t ↔ itOf p ∈ itemsP t [] true := by
  rw [prs_items h, List.mem_map]
  constructor
  · intro hp; exact ⟨p, hp, rfl⟩
  · rintro ⟨q, hq, e⟩
    rw [← itOf_inj e]; exact hq
theorem prs_ris {t : Nd} (h : Full t) : Ris (prsT t) := by
  have := items_ris h.1 [] true
  rw [prs_items h] at this
  unfold RisI at this
  rw [List.pairwise_map] at this
  refine this.imp fun {a b} hab => ?_
  have e : cmpB (ofB a.k) (ofB b.k) < 0 := hab
  rw [cmpB_ofB] at e
  exact e
theorem build_prs {t : Nd} (h : Full t) {N : Nat} (hN : 401 ≤ N) : buildA N ((prsT t).map itOf) 0 = (t, none) := by
  rw [← prs_items h]
  have := build_like h.1 [] true _ N (Like.refl _) (fun x hx => by
    have := items_le h.1 [] true x hx
    rw [List.length_nil] at this ⊢; omega)
  rw [List.length_nil] at this
  exact this
theorem prs_inj {a b : Nd} (ha : Full a) (hb : Full b) (h : prsT a = prsT b) : a = b := by
  have h1 := build_prs ha (Nat.le_refl 401)
  have h2 := build_prs hb (Nat.le_refl 401)
  rw [h, h2] at h1
  injection h1 with h1
  exact h1.symm
theorem full_none : Full noneN := ⟨.none 0 (by decide), sf_none⟩
theorem prs_none : prsT noneN = [] := by rw [(full_pairs full_none).2, items_none]; rfl
theorem keep_itOf (k : List UInt8) (p : Pr) : keepI (ofB k) (itOf p) = decide (p.k ≠ k) := by
  unfold keepI itOf
  dsimp only
  rw [Bool.false_or]
  by_cases h : p.k = k
  · rw [h]; simp
  · have : ofB p.k ≠ ofB k := fun e => h (ofB_inj e)
    simp [h, this]
theorem put_prs {t : Nd} (h : Full t) {k v : List UInt8} (hk : k.length ≤ 200) (hl : v.length ≤ 4000) : (putP t (ofB k) v).2 = none ∧ Full (putP t (ofB k) v).1 ∧ prsT (putP t (ofB k) v).1 = insP (prsT t) ⟨k, v⟩ := by
  obtain ⟨hm, hs⟩ := sf_put h.1 h.2 (ofB k) v (halvesB_ofB k)
  obtain ⟨hv, hlike⟩ := put_sum h.1 hk hl hm
  have hf : Full (putP t (ofB k) v).1 := ⟨hv, hs⟩
  refine ⟨hm, hf, ris_ext (prs_ris hf) (ins_ris _ (prs_ris h)) fun y => ?_⟩
  rw [prs_mem hf, insP_mem (prs_ris h)]
  have up_it : ∀ {x z : It}, Up x z → ∀ {p : Pr}, (x = itOf p → z.known = false → z = itOf p) := fun hu p e hk => by
    subst e
    rename_i x z
    obtain ⟨a, b, c, d, e⟩ := z
    obtain ⟨u1, u2, u3, u4, _⟩ := hu
    dsimp only at u1 u2 u3 u4 hk
    subst hk; subst u1; subst u2; subst u3; subst u4; rfl
  constructor
  · intro hy
    obtain ⟨z, hz, hu⟩ := hlike.mem_l _ hy
    rcases List.mem_cons.1 hz with rfl | hz
    · left
      have h1 : ofB k = ofB y.k := hu.1
      have h2 : v = y.v := hu.2.1
      obtain ⟨yk, yv⟩ := y
      dsimp only at h1 h2
      rw [ofB_inj h1, h2]
    · right
      obtain ⟨hz1, hz2⟩ := List.mem_filter.1 hz
      rw [prs_items h] at hz1
      obtain ⟨q, hq, rfl⟩ := List.mem_map.1 hz1
      have h1 : ofB q.k = ofB y.k := hu.1
      have h2 : q.v = y.v := hu.2.1
      have e : q = y := by
        obtain ⟨yk, yv⟩ := y
        obtain ⟨qk, qv⟩ := q
        dsimp only at h1 h2
        rw [ofB_inj h1, h2]
      subst e
      rw [keep_itOf] at hz2
      exact ⟨hq, of_decide_eq_true hz2⟩
  · intro hy
    have : itOf y ∈ newI (ofB k) v :: (itemsP t [] true).filter (keepI (ofB k)) := by
      rcases hy with rfl | ⟨h1, h2⟩
      · exact List.mem_cons_self ..
      · exact List.mem_cons_of_mem _ (List.mem_filter.2 ⟨(prs_mem h).1 h1, by rw [keep_itOf]; exact decide_eq_true h2⟩)
    obtain ⟨x, hx, hu⟩ := hlike.mem_r _ this
    have hxs := (sf_items hf.1 [] true).1 hf.2 x hx
    rw [prs_items hf] at hx ⊢
    obtain ⟨q, hq, rfl⟩ := List.mem_map.1 hx
    have h1 : ofB y.k = ofB q.k := hu.1
    have h2 : y.v = q.v := hu.2.1
    have e : q = y := by
      obtain ⟨yk, yv⟩ := y
      obtain ⟨qk, qv⟩ := q
      dsimp only at h1 h2
      rw [ofB_inj h1, h2]
    subst e
    exact List.mem_map_of_mem hq
theorem of_prs : ∀ (l : List Pr) (t : Nd), longPr l = false → Full t → (tOfF l t).2 = 0 ∧ Full (tOfF l t).1 ∧ prsT (tOfF l t).1 = l.foldl insP (prsT t)
  | [], t, _, h => ⟨rfl, h, rfl⟩
  | p :: l, t, hl, h => by
    unfold longPr at hl
    rw [List.any_cons, Bool.or_eq_false_iff, decide_eq_false_iff_not] at hl
    obtain ⟨h1, h2, h3⟩ := put_prs h (k := p.k) (v := p.v) (by omega) (by omega)
    rw [tOfF, if_neg (by omega), List.foldl_cons]
    have := of_prs l _ hl.2 h2
    rw [h3] at this
    exact this
theorem of_long : ∀ (l : List Pr) (t : Nd), longPr l = true → tOfF l t = (noneN, 2)
  | p :: l, t, hl => by
    unfold longPr at hl
    rw [List.any_cons, Bool.or_eq_true, decide_eq_true_eq] at hl
    rw [tOfF]
    split
    · rfl
    · rename_i h
      exact of_long l _ (hl.resolve_left (by omega))
theorem tOf_prs {l : List Pr} (hl : longPr l = false) : (tOf l).2 = 0 ∧ Full (tOf l).1 ∧ prsT (tOf l).1 = risingP l := by
  have := of_prs l noneN hl full_none
  rw [prs_none] at this
  exact this
theorem tOf_eq {N : Nat} (hN : 401 ≤ N) (l : List Pr) : tOf l = rOf N l := by
  unfold rOf
  cases hl : longPr l with
  | true => rw [if_pos rfl]; exact of_long l _ hl
  | false =>
    obtain ⟨h1, h2, h3⟩ := tOf_prs hl
    rw [if_neg (by decide), ← h3, build_prs h2 hN, ← h1]
theorem rising_mem : ∀ {l o : List Pr} {y : Pr}, Ris o → y ∈ l.foldl insP o → y ∈ l ∨ y ∈ o
  | [], o, y, _, h => .inr h
  | p :: l, o, y, ho, h => by
    rw [List.foldl_cons] at h
    rcases rising_mem (ins_ris p ho) h with h | h
    · exact .inl (by simp [h])
    · rcases (insP_mem ho).1 h with rfl | ⟨h, _⟩
      · exact .inl (by simp)
      · exact .inr h
end Go.Proofs.YtdlljmmgkoeilaaDoor
namespace Go.Proofs.YtdlljmmgkoeilaaDoor
theorem prBulk_cons (p : Pr) (l : List Pr) : prBulk (p :: l) = 140 + 2 * p.k.length + p.v.length + prBulk l := by unfold prBulk; rw [List.map_cons, List.sum_cons]
theorem tOfF_sz : ∀ (l : List Pr) (t : Nd), Full t → sz (tOfF l t).1 ≤ sz t + prBulk l
  | [], t, _ => Nat.le_add_right _ _
  | p :: l, t, h => by
    rw [tOfF, prBulk_cons]
    split
    · have e : sz noneN = 6 := rfl
      have := sz_eq t
      show sz noneN ≤ _
      omega
    · obtain ⟨_, h2, _⟩ := put_prs h (k := p.k) (v := p.v) (by omega) (by omega)
      have h3 := tOfF_sz l _ h2
      have h4 := sz_put h.1 (ofB p.k) p.v (halvesB_ofB _)
      rw [ofB_length] at h4
      omega
theorem tOf_sz (l : List Pr) : sz (tOf l).1 ≤ 6 + prBulk l := tOfF_sz l noneN full_none
theorem put_comm {r : List Pr} (h : Ris r) {a b : Pr} (hk : a.k ≠ b.k) : insP (insP r a) b = insP (insP r b) a := by
  have ha := ins_ris a h
  have hb := ins_ris b h
  refine ris_ext (ins_ris b ha) (ins_ris a hb) fun y => ?_
  rw [insP_mem ha, insP_mem h, insP_mem hb, insP_mem h]
  constructor
  · rintro (rfl | ⟨rfl | ⟨h1, h2⟩, h3⟩)
    · exact .inr ⟨.inl rfl, fun e => hk e.symm⟩
    · exact .inl rfl
    · exact .inr ⟨.inr ⟨h1, h3⟩, h2⟩
  · rintro (rfl | ⟨rfl | ⟨h1, h2⟩, h3⟩)
    · exact .inr ⟨.inl rfl, hk⟩
    · exact .inl rfl
    · exact .inr ⟨.inr ⟨h1, h3⟩, h2⟩
theorem fold_inj_mem : ∀ {l o : List Pr}, Ris o → (∀ x ∈ l ++ o, ∀ y ∈ l ++ o, x.k = y.k → x = y) → ∀ y, y ∈ l.foldl insP o ↔ y ∈ l ∨ y ∈ o
  | [], o, _, _, y => by simp
  | p :: l, o, ho, hi, y => by
    rw [List.foldl_cons]
    have hm : ∀ z, z ∈ insP o p ↔ z = p ∨ z ∈ o := fun z => by
      rw [insP_mem ho]
      constructor
      · rintro (rfl | h)
        · exact .inl rfl
        · exact .inr h.1
      · rintro (rfl | h)
        · exact .inl rfl
        · by_cases hk : z.k = p.k
          · exact .inl (hi z (by simp [h]) p (by simp) hk)
          · exact .inr ⟨h, hk⟩
    have hi' : ∀ x ∈ l ++ insP o p, ∀ y ∈ l ++ insP o p, x.k = y.k → x = y := fun x hx y hy e => by
      have conv : ∀ z ∈ l ++ insP o p, z ∈ (p :: l) ++ o := fun z hz => by
        rcases List.mem_append.1 hz with h | h
        · simp [h]
        · rcases (hm z).1 h with rfl | h <;> simp [*]
      exact hi x (conv x hx) y (conv y hy) e
    rw [fold_inj_mem (ins_ris p ho) hi' y, hm, List.mem_cons]
    constructor
    · rintro (h | h | h) <;> simp [h]
    · rintro ((h | h) | h) <;> simp [h]
theorem rising_same {r back : List Pr} (h : Ris r) (hm : ∀ y, y ∈ back ↔ y ∈ r) : risingP back = r := by
  refine ris_ext (rising_ris back) h fun y => ?_
  unfold risingP
  rw [fold_inj_mem List.Pairwise.nil (fun x hx y hy e => by
    rw [List.append_nil] at hx hy
    exact ris_key h ((hm x).1 hx) ((hm y).1 hy) e), hm]
  simp
theorem longPr_mem {l : List Pr} (h : longPr l = false) {p : Pr} (hp : p ∈ l) : p.k.length ≤ 200 ∧ p.v.length ≤ 4000 := by
  unfold longPr at h
  rw [List.any_eq_false] at h
  have := h p hp
  rw [decide_eq_true_eq] at this
  omega
theorem longPr_sub {l m : List Pr} (h : longPr l = false) (hm : ∀ p ∈ m, p ∈ l) : longPr m = false := by
  unfold longPr
  rw [List.any_eq_false]
  intro p hp
  have := longPr_mem h (hm p hp)
  rw [decide_eq_true_eq]; omega
theorem rising_sub (l : List Pr) : ∀ p ∈ risingP l, p ∈ l := fun p hp => by
  rcases rising_mem List.Pairwise.nil hp with h | h
  · exact h
  · cases h
end Go.Proofs.YtdlljmmgkoeilaaDoor
namespace Go.Proofs.YtdlljmmgkoeilaaDoor
open Go.RowKit

theorem of_ok {l : List Pr} {T : Nd × Int} (hT : T = tOf l) (h0 : T.2 = 0) : longPr l = false ∧ Full T.1 ∧ prsT T.1 = risingP l := by
  cases hl : longPr l with
  | true =>
    have : T = (noneN, 2) := hT.trans (of_long l _ hl)
    rw [this] at h0
    exact absurd h0 (by decide)
  | false =>
    obtain ⟨_, h2, h3⟩ := tOf_prs hl
    rw [hT]
    exact ⟨rfl, h2, h3⟩
end Go.Proofs.YtdlljmmgkoeilaaDoor
namespace Go.Proofs.YtdlljmmgkoeilaaDoor
open Go.RowKit

/-- The same pairs, in whichever order. -/
theorem of_same {l back : List Pr} {T : Nd × Int} (hT : T = tOf l) (h0 : T.2 = 0) (hm : ∀ y, y ∈ back ↔ y ∈ risingP l) : T = tOf back := by
  obtain ⟨hl, hF, hr⟩ := of_ok hT h0
  have hb : longPr back = false := longPr_sub hl fun p hp => rising_sub l p ((hm p).1 hp)
  obtain ⟨e, hF2, hr2⟩ := tOf_prs hb
  have h1 : T.1 = (tOf back).1 := prs_inj hF hF2 (by rw [hr, hr2]; exact (rising_same (rising_ris l) hm).symm)
  exact Prod.ext h1 (h0.trans e.symm)
end Go.Proofs.YtdlljmmgkoeilaaDoor
namespace Go.Proofs.YtdlljmmgkoeilaaDoor
open Go.RowKit
/-- A row as a block. -/
theorem St.rowBlk {w W : World} {gs : List (Option Nat)} {L : Lc} {R : List Row} {fs : List Fact} {e : TypeId} {s n c : Nat} {A : Option Addr} {xs : List Value} (M : St w gs W L (⟨e, s, A, n, c, xs⟩ :: R) fs) (hn : 0 < n) : ∃ g rest, A = some ⟨g, 0, none⟩ ∧ n ≤ c ∧ St w gs W ((g, e, xs ++ rest) :: L) R fs := by
  have hrow := M.row _ (List.mem_cons_self ..)
  rcases hrow.2 with ⟨hv, h0⟩ | ⟨g, cap, cur, hv, hb, hh, h1, h2, h3, h4⟩
  · simp only at h0; omega
  · injection hv with e1 e2 e3
    simp only at e1 e3 h4
    subst e1
    have hx : xs ++ cur.toList.drop (n * s) = cur.toList := by rw [← h4, List.take_append_drop]
    refine ⟨g, cur.toList.drop (n * s), rfl, by dsimp only at h1; omega, ⟨M.below, M.lt, fun y hy => ?_, fun r hr => M.row r (by simp [hr]), ?_, fun f hf => ?_⟩⟩
    · rcases List.mem_cons.1 hy with rfl | hy
      · exact ⟨by show Blk W g e (xs ++ cur.toList.drop (n * s)); rw [hx]; exact hh, hb⟩
      · exact M.blk y hy
    · have hp := List.Perm.pairwise (l' := bk (some ⟨g, 0, none⟩) :: (L.map (fun x => some x.1) ++ R.map (fun r => bk r.A))) (by rw [List.map_cons]; exact List.perm_middle) M.ap (fun h => apart_comm h)
      exact hp
    · refine (M.fct f hf).up ⟨Nat.le_refl _, fun _ _ _ => rfl, fun b _ e => ?_⟩
      unfold own at *
      simp only [List.map_cons, List.cons_append, List.mem_append, List.mem_cons] at e ⊢
      rcases e with e | e | e | e
      · exact .inr (.inl (by rw [e]; rfl))
      · exact .inl e
      · exact .inr (.inr (.inl e))
      · exact .inr (.inr (.inr e))
end Go.Proofs.YtdlljmmgkoeilaaDoor
