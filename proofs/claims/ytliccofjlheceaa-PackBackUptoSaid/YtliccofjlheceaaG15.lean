/- Tries of which something is folded, plainly. No walk here. Lists of bytes as bytes: the walk of vint.Split. Numbers and bytes in one way: plain laws of what stands at a place. Lists of bytes as bytes: plain laws: what is joined is split as it was, what is split is joined as it was, one byte more, one byte less. The walks of the laws NodeFolds and NodeDigests. Memory that is written over, but keeps its kinds; the walk of reference 00's Spoil. The walk of the law NodeSame. Nodes' bytes, plainly: what is written is read. Package pack: what is sent and what is read, plainly. -/
import Derived.Test.YtliccofjlheceaaG14
import Derived.Test.YtliccofjlheceaaG11
import Derived.Test.YtliccofjlheceaaG10
import Derived.Test.YtliccofjlheceaaG12
import Derived.Test.YtliccofjlheceaaG08
import Derived.Test.YtliccofjlheceaaG04
import Derived.Test.YtliccofjlheceaaG05
namespace Go.Proofs.Ytliccofjlheceaa
/-- The second one, with something folded. -/
inductive Fo : Nd → Nd → Prop
  | refl (t : Nd) : Fo t t
  | stub (t : Nd) (h0 : t.kind ≠ 0) : Fo (.mk 4 [] false [] [] (hashP t)) t
  | way (p : List UInt8) {k k' : Nd} (h : Fo k k') : Fo (.mk 2 p false [] [k] []) (.mk 2 p false [] [k'] [])
  | branch (has : Bool) (v : List UInt8) (ks ks' : List Nd) (hl : ks.length = ks'.length) (h : ∀ (i : Nat) (k k' : Nd), ks[i]? = some k → ks'[i]? = some k' → Fo k k') : Fo (.mk 3 [] has v ks []) (.mk 3 [] has v ks' [])
theorem Fo.kind {m n : Nd} (h : Fo m n) : (m.kind = 0 ↔ n.kind = 0) ∧ (m.kind ≠ 4 → m.kind = n.kind) := by
  cases h with
  | refl => exact ⟨Iff.rfl, fun _ => rfl⟩
  | stub _ h0 => exact ⟨⟨fun e => absurd (show (4 : Int) = 0 from e) (by decide), fun e => absurd e h0⟩, fun e => absurd rfl e⟩
  | way => exact ⟨⟨fun e => absurd (show (2 : Int) = 0 from e) (by decide), fun e => absurd (show (2 : Int) = 0 from e) (by decide)⟩, fun _ => rfl⟩
  | branch => exact ⟨⟨fun e => absurd (show (3 : Int) = 0 from e) (by decide), fun e => absurd (show (3 : Int) = 0 from e) (by decide)⟩, fun _ => rfl⟩
/-- Kids, each the other's or folded. -/
def Fos (ks ks' : List Nd) : Prop := ks.length = ks'.length ∧ ∀ (i : Nat) (k k' : Nd), ks[i]? = some k → ks'[i]? = some k' → Fo k k'
theorem Fos.refl (ks : List Nd) : Fos ks ks := ⟨rfl, fun i k k' h h' => by rw [h] at h'; injection h' with h'; rw [h']; exact .refl _⟩
theorem Fos.set {ks ks' : List Nd} (h : Fos ks ks') {a b : Nd} (hab : Fo a b) (i : Nat) : Fos (ks.set i a) (ks'.set i b) := by
  refine ⟨by rw [List.length_set, List.length_set]; exact h.1, fun j k k' hk hk' => ?_⟩
  by_cases e : i = j
  · subst e
    have h1 := (List.getElem?_eq_some_iff.1 hk).1
    have h2 := (List.getElem?_eq_some_iff.1 hk').1
    rw [List.length_set] at h1 h2
    rw [List.getElem?_set_self h1] at hk
    rw [List.getElem?_set_self h2] at hk'
    injection hk with hk; injection hk' with hk'
    rw [← hk, ← hk']; exact hab
  · rw [List.getElem?_set_ne e] at hk hk'
    exact h.2 j k k' hk hk'
theorem Fos.tail {k k' : Nd} {ks ks' : List Nd} (h : Fos (k :: ks) (k' :: ks')) : Fo k k' ∧ Fos ks ks' :=
  ⟨h.2 0 k k' rfl rfl, by have := h.1; simpa using this, fun i a b h1 h2 => h.2 (i + 1) a b (by simpa using h1) (by simpa using h2)⟩
theorem Fos.many : ∀ {ks ks' : List Nd}, Fos ks ks' → manyN ks = manyN ks'
  | [], [], _ => rfl
  | [], _ :: _, h => by have := h.1; simp at this
  | _ :: _, [], h => by have := h.1; simp at this
  | k :: ks, k' :: ks', h => by
    obtain ⟨h1, h2⟩ := h.tail
    rw [many_cons, many_cons, Fos.many h2]
    by_cases e : k.kind = 0
    · rw [if_pos e, if_pos (h1.kind.1.1 e)]
    · rw [if_neg e, if_neg (fun e' => e (h1.kind.1.2 e'))]
theorem Fos.scan {has : Bool} : ∀ {ks ks' : List Nd} {i : Nat} {o : Option Nat}, Fos ks ks' → scanK has ks i o = scanK has ks' i o
  | [], [], _, _, _ => rfl
  | [], _ :: _, _, _, h => by have := h.1; simp at this
  | _ :: _, [], _, _, h => by have := h.1; simp at this
  | k :: ks, k' :: ks', i, o, h => by
    obtain ⟨h1, h2⟩ := h.tail
    rw [scanK, scanK]
    by_cases e : k.kind = 0
    · rw [if_pos e, if_pos (h1.kind.1.1 e), Fos.scan h2]
    · rw [if_neg e, if_neg (fun e' => e (h1.kind.1.2 e')), Fos.scan h2]
theorem Fo.val {even : Bool} {m n : Nd} (h : Fo m n) : ∀ d, Val even n d → Val even m d := by
  induction h with
  | refl => exact fun d h => h
  | stub t h0 => exact fun d h => .stub d _ h.le (hashP_len h)
  | way p h ih =>
    intro d hv
    cases hv with
    | way _ _ _ hd hp h0 hk hr =>
      refine .way d p _ hd hp h0 ?_ (ih _ hr)
      rename_i k k'
      by_cases h4 : k.kind = 4
      · exact .inr h4
      · rw [h.kind.2 h4]; exact hk
  | branch has v ks ks' hl h ih =>
    intro d hv
    cases hv with
    | branch _ _ _ _ hd hv hv0 he h16 hr hm =>
      refine .branch d has v ks hd hv hv0 he (hl.trans h16) (fun k hk => ?_) (by rw [Fos.many ⟨hl, h⟩]; exact hm)
      obtain ⟨i, hi⟩ := List.getElem?_of_mem hk
      have hi' := (List.getElem?_eq_some_iff.1 hi).1
      have hk' : ks'[i]? = some (ks'[i]'(by omega)) := List.getElem?_eq_getElem (by omega)
      exact ih i k _ hi hk' _ (hr _ (List.mem_of_getElem? hk'))
theorem hashes_eq : ∀ {ks ks' : List Nd}, ks.length = ks'.length → (∀ (i : Nat) (k k' : Nd), ks[i]? = some k → ks'[i]? = some k' → (k.kind = 0 ↔ k'.kind = 0) ∧ hashP k = hashP k') → hashesP ks = hashesP ks'
  | [], [], _, _ => rfl
  | [], _ :: _, h, _ => by simp at h
  | _ :: _, [], h, _ => by simp at h
  | k :: ks, k' :: ks', h, hh => by
    obtain ⟨h1, h2⟩ := hh 0 k k' rfl rfl
    rw [hashesP, hashesP, hashes_eq (by simpa using h) (fun i a b ha hb => hh (i + 1) a b (by simpa using ha) (by simpa using hb)), h2]
    by_cases e : k.kind = 0
    · rw [if_neg (fun x => x e), if_neg (fun x => x (h1.1 e))]
    · rw [if_pos e, if_pos (fun x => e (h1.2 x))]
theorem kbit_eq {ks ks' : List Nd} (h : Fos ks ks') (i : Nat) : kbit ks i = kbit ks' i := by
  unfold kbit
  have : ((ks.getD i noneN).kind ≠ 0) ↔ ((ks'.getD i noneN).kind ≠ 0) := by
    rw [List.getD_eq_getElem?_getD, List.getD_eq_getElem?_getD]
    rcases Nat.lt_or_ge i ks.length with hi | hi
    · have h1 : ks[i]? = some (ks[i]'hi) := List.getElem?_eq_getElem hi
      have h2 : ks'[i]? = some (ks'[i]'(by have := h.1; omega)) := List.getElem?_eq_getElem (by have := h.1; omega)
      rw [h1, h2]
      exact not_congr (h.2 i _ _ h1 h2).kind.1
    · rw [List.getElem?_eq_none hi, List.getElem?_eq_none (by have := h.1; omega)]
  by_cases e : (ks.getD i noneN).kind ≠ 0
  · rw [if_pos e, if_pos (this.1 e)]
  · rw [if_neg e, if_neg (fun x => e (this.2 x))]
theorem kbits_eq {ks ks' : List Nd} (h : Fos ks ks') : ∀ i, kbits ks i = kbits ks' i
  | 0 => rfl
  | i + 1 => by rw [kbits, kbits, kbits_eq h i, kbit_eq h i]
theorem Fo.hash {m n : Nd} (h : Fo m n) : hashP m = hashP n := by
  induction h with
  | refl => rfl
  | stub t h0 => rw [hashP_eq]; exact if_pos rfl
  | @way p k k' h ih =>
    rw [hashP, hashP, if_neg (by decide), if_neg (by decide), hashes_eq (ks := [k]) (ks' := [k']) rfl (fun i a b ha hb => by
      match i, ha, hb with
      | 0, ha, hb =>
        simp at ha hb
        subst ha; subst hb
        exact ⟨h.kind.1, ih⟩)]
    rfl
  | branch has v ks ks' hl h ih =>
    rw [hashP, hashP, if_neg (by decide), if_neg (by decide), hashes_eq hl (fun i a b ha hb => ⟨(h i a b ha hb).kind.1, ih i a b ha hb⟩)]
    unfold encF
    rw [kbits_eq ⟨hl, h⟩ 16]
theorem Fo.get {even : Bool} {m n : Nd} (h : Fo m n) : ∀ d, Val even n d → ∀ q, halvesB q = true → getP m q = getP n q ∨ ∃ r, (getP m q).miss = some r ∧ r <+: q := by
  induction h with
  | refl => exact fun _ _ _ _ => .inl rfl
  | stub t h0 => exact fun _ _ q _ => .inr ⟨[], by rw [getP_stub], List.nil_prefix⟩
  | way p h ih =>
    intro d hv q hq
    cases hv with
    | way _ _ _ hd hp h0 hk hr =>
      by_cases hpq : p <+: q
      · rw [getP_way hpq, getP_way hpq]
        rcases ih _ hr (q.drop p.length) (halvesB_drop hq) with e | ⟨r, e1, e2⟩
        · exact .inl (by rw [e])
        · refine .inr ⟨p ++ r, by simp only [e1]; rfl, ?_⟩
          obtain ⟨s, rfl⟩ := hpq
          rw [List.drop_left] at e2
          exact (List.prefix_append_right_inj _).2 e2
      · exact .inl (by rw [getP_way0 hpq, getP_way0 hpq])
  | branch has v ks ks' hl h ih =>
    intro d hv q hq
    cases hv with
    | branch _ _ _ _ hd hv hv0 he h16 hr hm =>
      match q, hq with
      | [], _ => exact .inl (by rw [getP_br0, getP_br0])
      | x :: q', hq =>
        have hx := halves_hd hq
        obtain ⟨k, hk⟩ : ∃ k, ks[x.toNat]? = some k := ⟨_, List.getElem?_eq_getElem (by omega)⟩
        obtain ⟨k', hk'⟩ : ∃ k', ks'[x.toNat]? = some k' := ⟨_, List.getElem?_eq_getElem (by omega)⟩
        rw [getP_br hk, getP_br hk']
        rcases ih _ k k' hk hk' _ (hr k' (List.mem_of_getElem? hk')) q' (by have := halvesB_drop (n := 1) hq; simpa using this) with e | ⟨r, e1, e2⟩
        · exact .inl (by rw [e])
        · exact .inr ⟨x :: r, by simp only [e1]; rfl, List.cons_prefix_cons.2 ⟨rfl, e2⟩⟩
theorem Fo.along {a b : Nd} (h : Fo a b) (p : List UInt8) : Fo (alongN p a) (alongN p b) := by
  unfold alongN
  split
  · exact h
  · exact .way p h
theorem Fos.hold {ks ks' : List Nd} (h : Fos ks ks') (has : Bool) (v p val : List UInt8) : (holdK has v ks p val).1 = (holdK has v ks' p val).1 ∧ (holdK has v ks p val).2.1 = (holdK has v ks' p val).2.1 ∧ Fos (holdK has v ks p val).2.2 (holdK has v ks' p val).2.2 := by
  cases p with
  | nil => exact ⟨rfl, rfl, h⟩
  | cons x r => exact ⟨rfl, rfl, h.set (.refl _) _⟩
theorem Fo.fork {k k' : Nd} (h : Fo k k') (p q val : List UInt8) : Fo (forkN (.mk 2 p false [] [k] []) q val) (forkN (.mk 2 p false [] [k'] []) q val) := by
  unfold forkN
  simp only [Nd.path, Nd.kind, Nd.val, Nd.kids, List.headD_cons, Int.reduceEq, if_false]
  refine Fo.along ?_ _
  obtain ⟨h1, h2, h3⟩ := ((Fos.refl (noneNs 16)).set (h.along (p.drop (commonB p q + 1))) (p.getD (commonB p q) 0).toNat).hold false [] (q.drop (commonB p q)) val
  rw [h1, h2]
  exact .branch _ _ _ _ h3.1 h3.2
theorem Fo.put {even : Bool} {m n : Nd} (h : Fo m n) : ∀ d, Val even n d → ∀ q val, halvesB q = true → (getP m q).miss = none → Fo (putP m q val).1 (putP n q val).1 := by
  induction h with
  | refl => exact fun _ _ _ _ _ _ => .refl _
  | stub t h0 => intro _ _ q _ _ hm; rw [getP_stub] at hm; cases hm
  | way p h ih =>
    intro d hv q val hq hm
    cases hv with
    | way _ _ _ hd hp h0 hk hr =>
      by_cases hpq : p <+: q
      · rw [getP_way hpq] at hm
        rw [putP_way hpq, putP_way hpq]
        exact .way p (ih _ hr _ val (halvesB_drop hq) (by simpa using hm))
      · rw [putP_way0 hpq, putP_way0 hpq]
        exact h.fork p q val
  | branch has v ks ks' hl h ih =>
    intro d hv q val hq hm
    cases hv with
    | branch _ _ _ _ hd hv hv0 he h16 hr hm' =>
      match q, hq, hm with
      | [], _, _ => rw [putP_br0, putP_br0]; exact .branch _ _ _ _ hl h
      | x :: q', hq, hm =>
        have hx := halves_hd hq
        obtain ⟨k, hk⟩ : ∃ k, ks[x.toNat]? = some k := ⟨_, List.getElem?_eq_getElem (by omega)⟩
        obtain ⟨k', hk'⟩ : ∃ k', ks'[x.toNat]? = some k' := ⟨_, List.getElem?_eq_getElem (by omega)⟩
        rw [getP_br hk] at hm
        rw [putP_br hk, putP_br hk']
        have := Fos.set (ks := ks) (ks' := ks') ⟨hl, h⟩ (ih _ k k' hk hk' _ (hr k' (List.mem_of_getElem? hk')) q' val (by have := halvesB_drop (n := 1) hq; simpa using this) (by simpa using hm)) x.toNat
        exact .branch _ _ _ _ this.1 this.2
theorem Fo.behind {a b : Nd} (h : Fo a b) (h4 : a.kind ≠ 4) (p : List UInt8) : Fo (behindN p a) (behindN p b) := by
  cases h with
  | refl => exact .refl _
  | stub => exact absurd rfl h4
  | way p' h => rw [behind_way, behind_way]; exact .way _ h
  | branch has v ks ks' hl h => rw [behind_br, behind_br]; exact (Fo.branch has v ks ks' hl h).along p
theorem Fos.settle {ks ks' : List Nd} (h : Fos ks ks') (h16 : ks.length = 16) (has : Bool) (v : List UInt8) (hm : (settleP (.mk 3 [] has v ks [])).2 = none) : Fo (settleP (.mk 3 [] has v ks [])).1 (settleP (.mk 3 [] has v ks' [])).1 := by
  unfold settleP at hm ⊢
  dsimp only [Nd.has, Nd.kids, Nd.val] at hm ⊢
  rw [← Fos.scan h]
  cases hs : scanK has ks 0 none with
  | none => exact .branch _ _ _ _ h.1 h.2
  | some o =>
    cases o with
    | none => exact .refl _
    | some i =>
      rw [hs] at hm
      dsimp only at hm ⊢
      have hi : i < ks.length := by
        rcases scan_lt hs with h | h
        · cases h
        · omega
      have h1 : ks[i]? = some (ks[i]'hi) := List.getElem?_eq_getElem hi
      have h2 : ks'[i]? = some (ks'[i]'(by have := h.1; omega)) := List.getElem?_eq_getElem (by have := h.1; omega)
      have e1 : ks.getD i noneN = ks[i]'hi := by rw [List.getD_eq_getElem?_getD, h1]; rfl
      have e2 : ks'.getD i noneN = ks'[i]'(by have := h.1; omega) := by rw [List.getD_eq_getElem?_getD, h2]; rfl
      simp only [e1, e2] at hm ⊢
      have hf := h.2 i _ _ h1 h2
      by_cases h4 : (ks[i]'hi).kind = 4
      · rw [if_pos h4] at hm; cases hm
      · rw [if_neg h4, if_neg (by rw [← hf.kind.2 h4]; exact h4)]
        exact hf.behind h4 _
theorem Fo.drop {even : Bool} {m n : Nd} (h : Fo m n) : ∀ d, Val even n d → ∀ q, halvesB q = true → (getP m q).has = true → (dropP m q).2 = none → (dropP n q).2 = none → Fo (dropP m q).1 (dropP n q).1 := by
  induction h with
  | refl => exact fun _ _ _ _ _ _ _ => .refl _
  | stub t h0 => intro _ _ q _ hm; rw [getP_stub] at hm; cases hm
  | @way p k k' h ih =>
    intro d hv q hq hg hm hn
    have hvm := (Fo.way p h).val d hv
    cases hv with
    | way _ _ _ hd hp h0 hk hr =>
      have hpre : p <+: q := by
        rcases Classical.em (p <+: q) with h | h
        · exact h
        · rw [getP_way0 h] at hg; cases hg
      rw [getP_way hpre] at hg
      rw [dropP_way] at hm
      rw [dropP_way, dropP_way]
      have hm' : (dropP k (q.drop p.length)).2 = none := by simpa using hm
      rw [dropP_way] at hn
      have := ih _ hr _ (halvesB_drop hq) hg hm' (by simpa using hn)
      refine this.behind ?_ p
      cases hvm with
      | way _ _ _ _ _ _ _ hr2 => exact ((drop_items hr2 _ (halvesB_drop hq) hg).1 hm').2.1
  | branch has v ks ks' hl h ih =>
    intro d hv q hq hg hmm hn
    have hvm := (Fo.branch has v ks ks' hl h).val d hv
    cases hv with
    | branch _ _ _ _ hd hv hv0 he h16 hr hm =>
      match q, hq, hg, hmm, hn with
      | [], _, _, hmm, _ =>
        rw [dropP_br0] at hmm
        rw [dropP_br0, dropP_br0]
        exact Fos.settle ⟨hl, h⟩ (by omega) _ _ hmm
      | x :: q', hq, hg, hmm, hn =>
        have hx := halves_hd hq
        obtain ⟨k, hk⟩ : ∃ k, ks[x.toNat]? = some k := ⟨_, List.getElem?_eq_getElem (by omega)⟩
        obtain ⟨k', hk'⟩ : ∃ k', ks'[x.toNat]? = some k' := ⟨_, List.getElem?_eq_getElem (by omega)⟩
        rw [getP_br hk] at hg
        rw [dropP_br hk] at hmm
        rw [dropP_br hk'] at hn
        rw [dropP_br hk, dropP_br hk']
        cases hd2 : (dropP k q').2 with
        | some r => rw [hd2] at hmm; simp at hmm
        | none =>
          have hd3 : (dropP k' q').2 = none := by
            cases hd3 : (dropP k' q').2 with
            | none => rfl
            | some r => rw [hd3] at hn; simp at hn
          have hq' : halvesB q' = true := by have := halvesB_drop (n := 1) hq; simpa using this
          have hF := ih _ k k' hk hk' _ (hr k' (List.mem_of_getElem? hk')) q' hq' hg hd2 hd3
          rw [hd2] at hmm
          rw [hd3]
          simp only [Option.isSome_none, Bool.false_eq_true, if_false] at hmm ⊢
          exact Fos.settle (Fos.set ⟨hl, h⟩ hF x.toNat) (by rw [List.length_set]; omega) _ _ hmm
end Go.Proofs.Ytliccofjlheceaa
namespace Go.Proofs.Ytliccofjlheceaa

/-- What is read at a place stands there; the bytes up to behind it. -/
theorem g_split {l : List UInt8} {a : Nat} (h : gE l (a : Int) = 0) : ∃ N t : Nat, gN l (a : Int) = N ∧ N < 18446744073709551616 ∧ gTo l (a : Int) = ((a + t : Nat) : Int) ∧ t = (putN N).length ∧ 1 ≤ t ∧ a + t ≤ l.length ∧ (l.drop a).take t = putN N ∧ l.take (a + t) = l.take a ++ putN N := by
  obtain ⟨x, t, hx, hxl, ht, hT, h1, hle, htk, hlt⟩ := g_ok h
  have hax : a = x := by omega
  subst hax
  obtain ⟨N, hN⟩ := Int.eq_ofNat_of_zero_le (gN_nonneg l (a : Int))
  rw [hN] at ht htk hlt
  refine ⟨N, t, hN, by omega, hT, ht, h1, hle, htk, ?_⟩
  rw [Int.toNat_natCast] at htk
  rw [← htk, List.take_add]
end Go.Proofs.Ytliccofjlheceaa
namespace Go.Proofs.Ytliccofjlheceaa

/-- Bytes that were written are read, wherever they stand. -/
theorem gb_put (p s r : List UInt8) (h : s.length ≤ 1048576) : gbE (p ++ (putB s ++ r)) (p.length : Int) = 0 ∧ gbL (p ++ (putB s ++ r)) (p.length : Int) = s ∧ gbTo (p ++ (putB s ++ r)) (p.length : Int) = ((p.length + (putB s).length : Nat) : Int) := by
  have e : putB s ++ r = putN s.length ++ (s ++ r) := by unfold putB; rw [List.append_assoc]
  rw [e]
  obtain ⟨g1, g2, g3⟩ := g_put p s.length (s ++ r) (by omega)
  obtain ⟨k1, k2, k3⟩ := gb_ok g1 (by rw [g2]; omega) (by rw [g2, g3]; simp only [List.length_append]; omega)
  refine ⟨k1, ?_, ?_⟩
  · rw [k2, g2, g3, Int.toNat_natCast, Int.toNat_natCast, ← List.append_assoc, List.drop_append_of_le_length (by simp), List.drop_of_length_le (by simp), List.nil_append, List.take_append_of_le_length (Nat.le_refl _), List.take_length]
  · rw [k3, g2, g3, putB_len]; omega
end Go.Proofs.Ytliccofjlheceaa
namespace Go.Proofs.Ytliccofjlheceaa
open Go.RowKit
def soft (v v' : Value) : Prop := v' = v ∨ (∃ (c c' : UInt8), v = u8v c ∧ v' = u8v c') ∨ (∃ x y : Int, v = .int .i64 x ∧ v' = .int .i64 y)
theorem soft.trans {a b c : Value} (h : soft a b) (k : soft b c) : soft a c := by
  rcases h with rfl | ⟨x, y, rfl, rfl⟩ | ⟨x, y, rfl, rfl⟩
  · exact k
  · rcases k with rfl | ⟨x', y', h1, rfl⟩ | ⟨x', y', h1, rfl⟩
    · exact .inr (.inl ⟨_, _, rfl, rfl⟩)
    · exact .inr (.inl ⟨_, _, rfl, rfl⟩)
    · unfold u8v at h1; injection h1 with h1; cases h1
  · rcases k with rfl | ⟨x', y', h1, rfl⟩ | ⟨x', y', h1, rfl⟩
    · exact .inr (.inr ⟨_, _, rfl, rfl⟩)
    · unfold u8v at h1; injection h1 with h1; cases h1
    · exact .inr (.inr ⟨_, _, rfl, rfl⟩)
theorem soft.byte {c : UInt8} {v : Value} (h : soft (u8v c) v) : ∃ c', v = u8v c' := by
  rcases h with rfl | ⟨x, y, _, rfl⟩ | ⟨x, y, h1, rfl⟩
  · exact ⟨c, rfl⟩
  · exact ⟨y, rfl⟩
  · unfold u8v at h1; injection h1 with h1; cases h1
theorem soft.sl {A : Option Addr} {n c : Nat} {v : Value} (h : soft (.slice A n c) v) : v = .slice A n c := by
  rcases h with rfl | ⟨x, y, h1, rfl⟩ | ⟨x, y, h1, rfl⟩
  · rfl
  · cases h1
  · cases h1
theorem soft.int {x : Int} {v : Value} (h : soft (.int .i64 x) v) : ∃ y, v = .int .i64 y := by
  rcases h with rfl | ⟨c, y, h1, rfl⟩ | ⟨x, y, h1, rfl⟩
  · exact ⟨_, rfl⟩
  · unfold u8v at h1; injection h1 with h1; cases h1
  · exact ⟨_, rfl⟩
/-- Only what lies in some blocks is written, and keeps its kind. -/
structure Tame (B : Nat → Prop) (W W' : World) : Prop where
  low : ∀ base, (∀ b, B b → base ≤ b) → Below base W W'
  size : W'.heap.size = W.heap.size
  out : ∀ b, ¬ B b → W'.heap[b]? = W.heap[b]?
  inn : ∀ a v, W.cell? a = some v → ∃ v', W'.cell? a = some v' ∧ soft v v'
  thaw : ∀ b, Thaw W b → Thaw W' b
theorem Tame.refl (B : Nat → Prop) (W : World) : Tame B W W := ⟨fun base _ => Below.refl _ _, rfl, fun _ _ => rfl, fun a v h => ⟨v, h, .inl rfl⟩, fun b h => h⟩
theorem Tame.trans {B : Nat → Prop} {W W1 W2 : World} (h : Tame B W W1) (k : Tame B W1 W2) : Tame B W W2 :=
  ⟨fun base hb => (h.low base hb).trans (k.low base hb), k.size.trans h.size, fun b hb => (k.out b hb).trans (h.out b hb), fun a v hv => by
    obtain ⟨v1, h1, s1⟩ := h.inn a v hv
    obtain ⟨v2, h2, s2⟩ := k.inn a v1 h1
    exact ⟨v2, h2, s1.trans s2⟩, fun b hb => k.thaw b (h.thaw b hb)⟩
theorem heap_set_at {W : World} {b o : Nat} {c : Array Value} {e : TypeId} {z : Nat × Nat} (v : Value) (h : W.heap[b]? = some (.cells c e z)) : (W.setCell ⟨b, o, none⟩ v).heap[b]? = some (.cells (c.setIfInBounds o v) e z) := by
  unfold World.setCell
  simp only [Array.getElem?_modify, h, if_pos]
  rfl
theorem cell_set {W : World} {b o : Nat} {old v : Value} (hc : W.cell? ⟨b, o, none⟩ = some old) {a : Addr} {u : Value} (ha : W.cell? a = some u) : (W.setCell ⟨b, o, none⟩ v).cell? a = some (if a.block = b ∧ a.off = o then v else u) := by
  by_cases hb : a.block = b
  · have hsp := World.cell?_spot ha
    obtain ⟨ab, ao, asp⟩ := a
    dsimp only at hb hsp ⊢
    subst hb
    subst hsp
    cases hh : W.heap[ab]? with
    | none => unfold World.cell? at ha; dsimp only at ha; rw [hh] at ha; cases ha
    | some ob =>
      cases ob with
      | cells c e z =>
        have h2 := heap_set_at (o := o) v hh
        unfold World.cell? at ha hc ⊢
        dsimp only at ha hc ⊢
        rw [hh] at ha hc
        rw [h2]
        simp only [Option.isSome_none, Bool.false_eq_true, if_false] at ha hc ⊢
        by_cases ho : ao = o
        · subst ho
          rw [if_pos (by simp), Array.getElem?_setIfInBounds_self_of_lt (Array.getElem?_eq_some_iff.1 hc).1]
        · rw [if_neg (fun h => ho h.2), Array.getElem?_setIfInBounds_ne (fun e => ho e.symm)]; exact ha
      | _ => unfold World.cell? at ha; dsimp only at ha; rw [hh] at ha; cases ha
  · rw [if_neg (fun h => hb h.1)]
    exact (World.cell?_of_block (w := W) (Below.heap_setCell W ⟨b, o, none⟩ v a.block hb)).trans ha
theorem Tame.set {B : Nat → Prop} {W W1 : World} (h : Tame B W W1) {b o : Nat} {old v : Value} (hB : B b) (hc : W1.cell? ⟨b, o, none⟩ = some old) (hs : soft old v) : Tame B W (W1.setCell ⟨b, o, none⟩ v) :=
  h.trans ⟨fun base hb => (Below.refl _ _).setCell (hb b hB) v, by unfold World.setCell; simp, fun k hk => Below.heap_setCell W1 ⟨b, o, none⟩ v k (fun e => hk (e ▸ hB)), fun a u hu => by
    refine ⟨_, cell_set hc hu, ?_⟩
    by_cases hab : a.block = b ∧ a.off = o
    · rw [if_pos hab]
      have hsp := World.cell?_spot hu
      obtain ⟨ab, ao, asp⟩ := a
      dsimp only at hab hsp
      obtain ⟨rfl, rfl⟩ := hab
      subst hsp
      rw [hc] at hu
      injection hu with hu
      rw [← hu]; exact hs
    · rw [if_neg hab]; exact .inl rfl, fun k hk => by
    by_cases e : k = b
    · subst e
      intro cs T z hz
      cases hh : W1.heap[k]? with
      | none => unfold World.cell? at hc; dsimp only at hc; rw [hh] at hc; cases hc
      | some ob =>
        cases ob with
        | cells c e z' =>
          rw [heap_set_at v hh] at hz
          injection hz with hz
          injection hz with _ _ hz
          rw [← hz]; exact hk c e z' hh
        | _ => unfold World.cell? at hc; dsimp only at hc; rw [hh] at hc; cases hc
    · exact hk.same (Below.heap_setCell W1 ⟨b, o, none⟩ v k e)⟩
/-- A slice of bytes, whichever they are. -/
def SoftRd (B : Nat → Prop) (W : World) (A : Option Addr) (n : Nat) : Prop := 0 < n → ∃ b off, A = some ⟨b, off, none⟩ ∧ B b ∧ ∀ j, j < n → ∃ c : UInt8, W.cell? ⟨b, off + j, none⟩ = some (u8v c)
theorem SoftRd.up {B : Nat → Prop} {W W' : World} {A : Option Addr} {n : Nat} (h : SoftRd B W A n) (t : Tame B W W') : SoftRd B W' A n := fun hn => by
  obtain ⟨b, off, e, hB, hc⟩ := h hn
  refine ⟨b, off, e, hB, fun j hj => ?_⟩
  obtain ⟨c, hc⟩ := hc j hj
  obtain ⟨v', h1, h2⟩ := t.inn _ _ hc
  obtain ⟨c', rfl⟩ := h2.byte
  exact ⟨c', h1⟩
theorem SoftRd.of {B F : Nat → Prop} {W : World} {A : Option Addr} {n c : Nat} {l : List UInt8} (h : RdD W F (dB l) (.slice A n c)) (hF : ∀ b, F b → B b) (hlt : ∀ b, F b → b < W.heap.size) : SoftRd B W A n := fun hn => by
  have e := h.slen
  obtain ⟨A', c', e1, _, hr⟩ := h.bytes hlt
  injection e1 with e1 e2 e3
  subst e1
  subst e2
  obtain ⟨b, off, rfl, _⟩ := hr.at_ (k := 0) (by omega)
  refine ⟨b, off, rfl, hF b (RdD.blk0 h hn), fun j hj => ?_⟩
  obtain ⟨b', off', e2, hc⟩ := hr.at_ (k := j) hj
  injection e2 with e2
  injection e2 with e2 e3
  subst e2; subst e3
  exact ⟨l.getD j 0, hc⟩
end Go.Proofs.Ytliccofjlheceaa
namespace Go.Proofs.Ytliccofjlheceaa
open Go.RowKit
def by8 (a b c d e f g h : Bool) : Nat := (if a then 128 else 0) + (if b then 64 else 0) + (if c then 32 else 0) + (if d then 16 else 0) + (if e then 8 else 0) + (if f then 4 else 0) + (if g then 2 else 0) + (if h then 1 else 0)
theorem by8_bits : ∀ a b c d e f g h : Bool, by8 a b c d e f g h < 256 ∧ decide (by8 a b c d e f g h / 128 % 2 = 1) = a ∧ decide (by8 a b c d e f g h / 64 % 2 = 1) = b ∧ decide (by8 a b c d e f g h / 32 % 2 = 1) = c ∧ decide (by8 a b c d e f g h / 16 % 2 = 1) = d ∧ decide (by8 a b c d e f g h / 8 % 2 = 1) = e ∧ decide (by8 a b c d e f g h / 4 % 2 = 1) = f ∧ decide (by8 a b c d e f g h / 2 % 2 = 1) = g ∧ decide (by8 a b c d e f g h / 1 % 2 = 1) = h := by decide +kernel
def nz (ks : List Nd) (i : Nat) : Bool := decide ((ks.getD i noneN).kind ≠ 0)
theorem kbit_nz (ks : List Nd) (i c : Nat) (h : 128 / 2 ^ (i % 8) = c) : kbit ks i = if nz ks i then c else 0 := by
  unfold kbit nz
  rw [h]
  by_cases hk : (ks.getD i noneN).kind ≠ 0
  · rw [if_pos hk, decide_eq_true hk]; rfl
  · rw [if_neg hk, decide_eq_false hk]; rfl
theorem kbits_by8 (ks : List Nd) : kbits ks 16 = (by8 (nz ks 0) (nz ks 1) (nz ks 2) (nz ks 3) (nz ks 4) (nz ks 5) (nz ks 6) (nz ks 7), by8 (nz ks 8) (nz ks 9) (nz ks 10) (nz ks 11) (nz ks 12) (nz ks 13) (nz ks 14) (nz ks 15)) := by
  have e : kbits ks 16 = (kbit ks 0 + kbit ks 1 + kbit ks 2 + kbit ks 3 + kbit ks 4 + kbit ks 5 + kbit ks 6 + kbit ks 7, kbit ks 8 + kbit ks 9 + kbit ks 10 + kbit ks 11 + kbit ks 12 + kbit ks 13 + kbit ks 14 + kbit ks 15) := by simp [kbits]
  rw [e]
  unfold by8
  rw [kbit_nz ks 0 128 (by decide), kbit_nz ks 1 64 (by decide), kbit_nz ks 2 32 (by decide), kbit_nz ks 3 16 (by decide), kbit_nz ks 4 8 (by decide), kbit_nz ks 5 4 (by decide), kbit_nz ks 6 2 (by decide), kbit_nz ks 7 1 (by decide), kbit_nz ks 8 128 (by decide), kbit_nz ks 9 64 (by decide), kbit_nz ks 10 32 (by decide), kbit_nz ks 11 16 (by decide), kbit_nz ks 12 8 (by decide), kbit_nz ks 13 4 (by decide), kbit_nz ks 14 2 (by decide), kbit_nz ks 15 1 (by decide)]
theorem bitB_nz (ks : List Nd) {i : Nat} (hi : i < 16) : bitB [UInt8.ofNat (kbits ks 16).1, UInt8.ofNat (kbits ks 16).2] i = nz ks i := by
  rw [kbits_by8]
  obtain ⟨h1, a0, a1, a2, a3, a4, a5, a6, a7⟩ := by8_bits (nz ks 0) (nz ks 1) (nz ks 2) (nz ks 3) (nz ks 4) (nz ks 5) (nz ks 6) (nz ks 7)
  obtain ⟨h2, b0, b1, b2, b3, b4, b5, b6, b7⟩ := by8_bits (nz ks 8) (nz ks 9) (nz ks 10) (nz ks 11) (nz ks 12) (nz ks 13) (nz ks 14) (nz ks 15)
  dsimp only
  generalize by8 (nz ks 0) (nz ks 1) (nz ks 2) (nz ks 3) (nz ks 4) (nz ks 5) (nz ks 6) (nz ks 7) = x at *
  generalize by8 (nz ks 8) (nz ks 9) (nz ks 10) (nz ks 11) (nz ks 12) (nz ks 13) (nz ks 14) (nz ks 15) = y at *
  have ex : (UInt8.ofNat x).toNat = x := by rw [UInt8.toNat_ofNat', Nat.mod_eq_of_lt h1]
  have ey : (UInt8.ofNat y).toNat = y := by rw [UInt8.toNat_ofNat', Nat.mod_eq_of_lt h2]
  have key : ∀ i, i < 16 → bitB [UInt8.ofNat x, UInt8.ofNat y] i = decide ((if i < 8 then x else y) / 2 ^ (7 - i % 8) % 2 = 1) := by
    intro i hi
    unfold bitB
    by_cases h8 : i < 8
    · rw [if_pos h8, show i / 8 = 0 by omega]; show decide ((UInt8.ofNat x).toNat / _ % 2 = 1) = _; rw [ex]
    · rw [if_neg h8, show i / 8 = 1 by omega]; show decide ((UInt8.ofNat y).toNat / _ % 2 = 1) = _; rw [ey]
  rw [key i hi]
  have hc : i = 0 ∨ i = 1 ∨ i = 2 ∨ i = 3 ∨ i = 4 ∨ i = 5 ∨ i = 6 ∨ i = 7 ∨ i = 8 ∨ i = 9 ∨ i = 10 ∨ i = 11 ∨ i = 12 ∨ i = 13 ∨ i = 14 ∨ i = 15 := by omega
  rcases hc with rfl | rfl | rfl | rfl | rfl | rfl | rfl | rfl | rfl | rfl | rfl | rfl | rfl | rfl | rfl | rfl <;> assumption
end Go.Proofs.Ytliccofjlheceaa
namespace Go.Proofs.Ytliccofjlheceaa
open Go.RowKit
mutual
/-- Are two nodes the same? -/
def eqN : Nd → Nd → Bool
  | .mk k p h v ks hs, .mk k' p' h' v' ks' hs' => decide (k = k') && (decide (p = p') && (decide (h = h') && (decide (v = v') && (decide (hs = hs') && eqNs ks ks'))))
def eqNs : List Nd → List Nd → Bool
  | [], [] => true
  | a :: l, b :: m => eqN a b && eqNs l m
  | _, _ => false
end
mutual
theorem eqN_iff : ∀ a b : Nd, eqN a b = true ↔ a = b
  | .mk k p h v ks hs, .mk k' p' h' v' ks' hs' => by
    rw [eqN]
    simp only [Bool.and_eq_true, decide_eq_true_eq, eqNs_iff ks ks', Nd.mk.injEq]
    constructor
    · rintro ⟨h1, h2, h3, h4, h5, h6⟩; exact ⟨h1, h2, h3, h4, h6, h5⟩
    · rintro ⟨h1, h2, h3, h4, h5, h6⟩; exact ⟨h1, h2, h3, h4, h6, h5⟩
theorem eqNs_iff : ∀ a b : List Nd, eqNs a b = true ↔ a = b
  | [], [] => by rw [eqNs]; simp
  | [], b :: m => by rw [eqNs] <;> simp
  | a :: l, [] => by rw [eqNs] <;> simp
  | a :: l, b :: m => by
    rw [eqNs, Bool.and_eq_true, eqN_iff a b, eqNs_iff l m, List.cons.injEq]
end
/-- Where a node has come before. -/
def idxN (l : List Nd) (t : Nd) : Option Nat := l.findIdx? fun x => eqN x t
theorem idxN_some {l : List Nd} {t : Nd} {i : Nat} (h : idxN l t = some i) : i < l.length ∧ l.getD i noneN = t ∧ ∀ j, j < i → l.getD j noneN ≠ t := by
  unfold idxN at h
  rw [List.findIdx?_eq_some_iff_getElem] at h
  obtain ⟨h1, h2, h3⟩ := h
  refine ⟨h1, ?_, fun j hj e => ?_⟩
  · rw [List.getD_eq_getElem?_getD, List.getElem?_eq_getElem h1]
    exact (eqN_iff _ _).1 h2
  · have := h3 j hj
    rw [List.getD_eq_getElem?_getD, List.getElem?_eq_getElem (by omega)] at e
    exact this ((eqN_iff _ _).2 e)
theorem idxN_none {l : List Nd} {t : Nd} : idxN l t = none ↔ ∀ x ∈ l, x ≠ t := by
  unfold idxN
  rw [List.findIdx?_eq_none_iff]
  refine forall_congr' fun x => forall_congr' fun _ => ?_
  rw [← Bool.not_eq_true, eqN_iff]
/-- What is sent of a node itself. -/
def headP (t : Nd) : List UInt8 := if t.kind = 4 then 4 :: t.hash else encF t.kind t.path t.has t.val t.kids []
mutual
/-- What is sent of a node, with all below it, behind what has come; and what has come then. -/
def sdP : Nd → List Nd → List UInt8 × List Nd
  | .mk k p has v ks h, done => match idxN done (.mk k p has v ks h) with
    | some i => (5 :: putN i, done)
    | none => (headP (.mk k p has v ks h) ++ (sdK ks done).1, (sdK ks done).2 ++ [.mk k p has v ks h])
def sdK : List Nd → List Nd → List UInt8 × List Nd
  | [], done => ([], done)
  | t :: ts, done => if t.kind = 0 then sdK ts done else ((sdP t done).1 ++ (sdK ts (sdP t done).2).1, (sdK ts (sdP t done).2).2)
end
theorem sdP_eq (t : Nd) (done : List Nd) : sdP t done = match idxN done t with
    | some i => (5 :: putN i, done)
    | none => (headP t ++ (sdK t.kids done).1, (sdK t.kids done).2 ++ [t]) := by cases t; rw [sdP]; rfl
def packP (t : Nd) : List UInt8 × Int := if checkE t ≠ 0 then ([], checkE t) else if 5000 < (cntP t).1 then ([], 3) else ((sdP t []).1, 0)
/-- What comes of reading. -/
inductive Rr where
  | bad (e : Int)
  | got (n : Nd) (b : List UInt8) (done : List Nd) (left : Int)
inductive Rk where
  | bad (e : Int)
  | got (ks : List Nd) (b : List UInt8) (done : List Nd) (left : Int)
def textX (b : List UInt8) : Option (List UInt8 × List UInt8) := if gbE b 0 = 0 then some (gbL b 0, b.drop (gbTo b 0).toNat) else none
def againX (b : List UInt8) (done : List Nd) (left : Int) : Rr :=
  if gE b 0 = 0 ∧ gN b 0 < (done.length : Int) then
    (if left - ((cntP (done.getD (gN b 0).toNat noneN)).1 : Int) < 0 then .bad 3 else .got (done.getD (gN b 0).toNat noneN) (b.drop (gTo b 0).toNat) done (left - ((cntP (done.getD (gN b 0).toNat noneN)).1 : Int)))
  else .bad 11
def kidsA (f : List UInt8 → List Nd → Int → Rr) (set : List UInt8) : Nat → Nat → List Nd → List UInt8 → List Nd → Int → Rk
  | 0, _, acc, b, done, left => .got acc b done left
  | n + 1, i, acc, b, done, left => if bitB set i = true then (match f b done left with
      | .bad e => .bad e
      | .got k b1 d1 l1 => kidsA f set n (i + 1) (acc ++ [k]) b1 d1 l1)
    else kidsA f set n (i + 1) (acc ++ [noneN]) b done left
def bodyX (f : List UInt8 → List Nd → Int → Rr) (c : UInt8) (b : List UInt8) (done : List Nd) (left : Int) : Rr :=
  if c = 1 ∨ c = 2 then (match textX b with
    | none => .bad 11
    | some (p, b1) => if unpackE p ≠ 0 ∨ unpackB p ≠ decide (c = 1) then .bad 11
      else if c = 1 then (match textX b1 with
        | none => .bad 11
        | some (v, b2) => .got (.mk 1 (unpackL p) false v [] []) b2 (done ++ [.mk 1 (unpackL p) false v [] []]) left)
      else (match f b1 done left with
        | .bad e => .bad e
        | .got k b2 d2 l2 => .got (.mk 2 (unpackL p) false [] [k] []) b2 (d2 ++ [.mk 2 (unpackL p) false [] [k] []]) l2))
  else if c = 3 then (match b with
    | [] => .bad 11
    | h :: b1 => (match (if h = 1 then textX b1 else some ([], b1)) with
      | none => .bad 11
      | some (v, b2) => if b2.length < 2 then .bad 11 else (match kidsA f (b2.take 2) 16 0 [] (b2.drop 2) done left with
        | .bad e => .bad e
        | .got ks b3 d3 l3 => .got (.mk 3 [] (decide (h = 1)) v ks []) b3 (d3 ++ [.mk 3 [] (decide (h = 1)) v ks []]) l3)))
  else if c = 4 then (if b.length < 32 then .bad 11 else .got (.mk 4 [] false [] [] (b.take 32)) (b.drop 32) (done ++ [.mk 4 [] false [] [] (b.take 32)]) left)
  else .got noneN b (done ++ [noneN]) left
/-- A node, with all below it; F: so many nodes down at most. -/
def oneF : Nat → List UInt8 → List Nd → Int → Rr
  | _, [], _, _ => .bad 11
  | 0, c :: b, done, left => if c = 5 then againX b done left else .bad 11
  | F + 1, c :: b, done, left => if c = 5 then againX b done left else if 4 < c.toNat then .bad 11
    else if c ≠ 0 ∧ left - 1 < 0 then .bad 3 else bodyX (oneF F) c b done (if c = 0 then left else left - 1)
def unpP (b : List UInt8) : Nd × Int := if 1048576 < b.length then (noneN, 3) else match oneF 403 b [] 5000 with
  | .bad e => (noneN, e)
  | .got n r _ _ => if 0 < r.length ∨ packP n ≠ (b, 0) then (noneN, 11) else (n, 0)
theorem oneF_nil (F : Nat) (done : List Nd) (left : Int) : oneF F [] done left = .bad 11 := by cases F <;> rw [oneF]
theorem oneF_cons (F : Nat) (c : UInt8) (b : List UInt8) (done : List Nd) (left : Int) : oneF (F + 1) (c :: b) done left = if c = 5 then againX b done left else if 4 < c.toNat then .bad 11
    else if c ≠ 0 ∧ left - 1 < 0 then .bad 3 else bodyX (oneF F) c b done (if c = 0 then left else left - 1) := by rw [oneF]
mutual
def smP (B : Nat) : Nd → Prop
  | .mk k p _ v ks h => p.length + v.length + h.length ≤ B ∧ ks.length ≤ 16 ∧ (k = 0 → p = [] ∧ v = [] ∧ h = [] ∧ ks = []) ∧ smsP B ks
def smsP (B : Nat) : List Nd → Prop
  | [] => True
  | t :: ts => smP B t ∧ smsP B ts
end
theorem sms_all {B : Nat} : ∀ {ks : List Nd}, smsP B ks ↔ ∀ k ∈ ks, smP B k
  | [] => by rw [smsP]; simp
  | t :: ts => by rw [smsP, sms_all]; simp
mutual
theorem sm_sz (B : Nat) : ∀ t : Nd, smP B t → sz t ≤ (102 + B) * (cntP t).1 + 6
  | .mk k p has v ks h, hs => by
    rw [smP] at hs
    obtain ⟨h1, h2, h3, h4⟩ := hs
    have := sms_sz B ks h4
    rw [sz, cntP]
    dsimp only
    by_cases h0 : k = 0
    · obtain ⟨e1, e2, e3, e4⟩ := h3 h0
      subst e1; subst e2; subst e3; subst e4
      rw [if_pos h0, szs, cntsP]
      simp
    · rw [if_neg h0, Nat.mul_add, Nat.mul_one]
      omega
theorem sms_sz (B : Nat) : ∀ ks : List Nd, smsP B ks → szs ks ≤ (102 + B) * (cntsP ks).1 + 6 * ks.length
  | [], _ => by rw [szs]; exact Nat.zero_le _
  | t :: ts, hs => by
    rw [smsP] at hs
    have h1 := sm_sz B t hs.1
    have h2 := sms_sz B ts hs.2
    rw [szs, cntsP, List.length_cons, Nat.mul_add]
    omega
end
theorem sm_none (B : Nat) : smP B noneN := by unfold noneN; rw [smP, smsP]; simp
def smC (B : Nat) (t : Nd) : Prop := smP B t ∧ (cntP t).1 ≤ 5000
theorem smC_none (B : Nat) : smC B noneN := ⟨sm_none B, Nat.zero_le _⟩
theorem sm_get {B : Nat} {l : List Nd} (h : ∀ x ∈ l, smC B x) (i : Nat) : smC B (l.getD i noneN) := by
  by_cases hi : i < l.length
  · rw [List.getD_eq_getElem?_getD, List.getElem?_eq_getElem hi]
    exact h _ (List.getElem_mem hi)
  · rw [List.getD_eq_getElem?_getD, List.getElem?_eq_none (by omega)]
    exact smC_none B
theorem textX_le {b s r : List UInt8} (h : textX b = some (s, r)) : s.length ≤ b.length ∧ r.length ≤ b.length := by
  have h1 := textP_le ⟨b, false⟩
  unfold textP at h1
  dsimp only at h1
  unfold textX at h
  split at h
  · injection h with h
    injection h with e1 e2
    rw [← e1, ← e2]
    exact ⟨h1.2, h1.1⟩
  · cases h
/-- What a reading leaves: small, and no more than was there. -/
def Sz (B : Nat) (b : List UInt8) (done : List Nd) (left : Int) : Rr → Prop
  | .bad e => e = 3 ∨ e = 11
  | .got n b' d' l' => smC B n ∧ (∀ x ∈ d', smC B x) ∧ 0 ≤ l' ∧ ((cntP n).1 : Int) + l' ≤ left ∧ d'.length + b'.length ≤ done.length + b.length ∧ b'.length ≤ b.length
def SzK (B : Nat) (acc : List Nd) (m : Nat) (b : List UInt8) (done : List Nd) (left : Int) : Rk → Prop
  | .bad e => e = 3 ∨ e = 11
  | .got ks b' d' l' => (∀ x ∈ ks, smC B x) ∧ ks.length = m ∧ (∀ x ∈ d', smC B x) ∧ 0 ≤ l' ∧ ((cntsP ks).1 : Int) + l' ≤ (cntsP acc).1 + left ∧ d'.length + b'.length ≤ done.length + b.length ∧ b'.length ≤ b.length
theorem again_sz {B : Nat} {b : List UInt8} {done : List Nd} {left : Int} (hd : ∀ x ∈ done, smC B x) : Sz B b done left (againX b done left) := by
  unfold againX
  split
  · split
    · exact .inl rfl
    · refine ⟨sm_get hd _, hd, by omega, by omega, ?_, ?_⟩ <;> rw [List.length_drop] <;> omega
  · exact .inr rfl
theorem kids_sz {B : Nat} {f : List UInt8 → List Nd → Int → Rr} {set : List UInt8} (hf : ∀ b done left, 0 ≤ left → left ≤ 5000 → (∀ x ∈ done, smC B x) → 3 * b.length + 32 ≤ B → Sz B b done left (f b done left)) :
    ∀ (n i : Nat) (acc : List Nd) (b : List UInt8) (done : List Nd) (left : Int), 0 ≤ left → left ≤ 5000 → (∀ x ∈ acc, smC B x) → (∀ x ∈ done, smC B x) → 3 * b.length + 32 ≤ B → SzK B acc (acc.length + n) b done left (kidsA f set n i acc b done left)
  | 0, i, acc, b, done, left, h0, h5, ha, hd, hb => by
    rw [kidsA]
    exact ⟨ha, rfl, hd, h0, Int.le_refl _, Nat.le_refl _, Nat.le_refl _⟩
  | n + 1, i, acc, b, done, left, h0, h5, ha, hd, hb => by
    rw [kidsA]
    split
    · have h := hf b done left h0 h5 hd hb
      cases hr : f b done left with
      | bad e => rw [hr] at h; exact h
      | got k b1 d1 l1 =>
        rw [hr] at h
        obtain ⟨s1, s2, s3, s4, s5, s6⟩ := h
        have := kids_sz (set := set) hf n (i + 1) (acc ++ [k]) b1 d1 l1 s3 (by omega) (fun x hx => by
          rcases List.mem_append.1 hx with hx | hx
          · exact ha x hx
          · rw [List.mem_singleton.1 hx]; exact s1) s2 (by omega)
        dsimp only
        cases hk : kidsA f set n (i + 1) (acc ++ [k]) b1 d1 l1 with
        | bad e => rw [hk] at this; exact this
        | got ks b' d' l' =>
          rw [hk] at this
          obtain ⟨t1, t2, t3, t4, t5, t6, t7⟩ := this
          rw [cntsP_snoc] at t5
          rw [List.length_append, List.length_singleton] at t2
          exact ⟨t1, by omega, t3, t4, by dsimp only at t5; omega, by omega, by omega⟩
    · have := kids_sz (set := set) hf n (i + 1) (acc ++ [noneN]) b done left h0 h5 (fun x hx => by
        rcases List.mem_append.1 hx with hx | hx
        · exact ha x hx
        · rw [List.mem_singleton.1 hx]; exact smC_none B) hd hb
      cases hk : kidsA f set n (i + 1) (acc ++ [noneN]) b done left with
      | bad e => rw [hk] at this; exact this
      | got ks b' d' l' =>
        rw [hk] at this
        obtain ⟨t1, t2, t3, t4, t5, t6, t7⟩ := this
        rw [cntsP_snoc] at t5
        have e0 : (cntP noneN).1 = 0 := rfl
        rw [List.length_append, List.length_singleton] at t2
        exact ⟨t1, by omega, t3, t4, by dsimp only at t5; omega, t6, t7⟩
theorem body_sz {B : Nat} {f : List UInt8 → List Nd → Int → Rr} (hf : ∀ b done left, 0 ≤ left → left ≤ 5000 → (∀ x ∈ done, smC B x) → 3 * b.length + 32 ≤ B → Sz B b done left (f b done left))
    (c : UInt8) (b : List UInt8) (done : List Nd) (left : Int) (h0 : 0 ≤ left) (h5 : left + 1 ≤ 5000 ∨ (c = 0 ∧ left ≤ 5000)) (hd : ∀ x ∈ done, smC B x) (hb : 3 * b.length + 32 ≤ B) : Sz B (c :: b) done (if c = 0 then left else left + 1) (bodyX f c b done left) := by
  have hsn : ∀ {l : List Nd} {x : Nd}, (∀ y ∈ l, smC B y) → smC B x → ∀ y ∈ l ++ [x], smC B y := fun h1 h2 y hy => by
    rcases List.mem_append.1 hy with hy | hy
    · exact h1 y hy
    · rw [List.mem_singleton.1 hy]; exact h2
  unfold bodyX
  by_cases h12 : c = 1 ∨ c = 2
  · rw [if_pos h12]
    have hc0 : ¬ c = 0 := by rcases h12 with h | h <;> rw [h] <;> decide
    have h5 : left + 1 ≤ 5000 := h5.resolve_right fun h => hc0 h.1
    rw [if_neg hc0]
    cases ht : textX b with
    | none => exact .inr rfl
    | some r =>
      obtain ⟨p, b1⟩ := r
      have h1 := textX_le ht
      have hu := unpackL_len p
      dsimp only
      split
      · exact .inr rfl
      · split
        · cases ht2 : textX b1 with
          | none => exact .inr rfl
          | some r =>
            obtain ⟨v, b2⟩ := r
            have h2 := textX_le ht2
            have hs0 : smP B (.mk 1 (unpackL p) false v [] []) := by
              rw [smP, smsP]
              exact ⟨by rw [List.length_nil]; omega, by simp, fun h => absurd h (by decide), trivial⟩
            have hs : smC B (.mk 1 (unpackL p) false v [] []) := ⟨hs0, (by rw [cntP, cntsP]; simp)⟩
            exact ⟨hs, hsn hd hs, h0, by rw [cntP, cntsP]; simp; omega, by rw [List.length_append, List.length_cons, List.length_cons, List.length_nil]; omega, by rw [List.length_cons]; omega⟩
        · have h := hf b1 done left h0 (by omega) hd (by omega)
          cases hr : f b1 done left with
          | bad e => rw [hr] at h; exact h
          | got k b2 d2 l2 =>
            rw [hr] at h
            obtain ⟨s1, s2, s3, s4, s5, s6⟩ := h
            have hs0 : smP B (.mk 2 (unpackL p) false [] [k] []) := by
              rw [smP, smsP, smsP]
              exact ⟨by simp; omega, by simp, fun h => absurd h (by decide), s1.1, trivial⟩
            have hs : smC B (.mk 2 (unpackL p) false [] [k] []) := ⟨hs0, (by rw [cntP, cntsP, cntsP]; simp; omega)⟩
            exact ⟨hs, hsn s2 hs, s3, by rw [cntP, cntsP, cntsP]; simp; omega, by rw [List.length_append, List.length_cons, List.length_cons, List.length_nil]; omega, by rw [List.length_cons]; omega⟩
  rw [if_neg h12]
  by_cases h3 : c = 3
  · rw [if_pos h3]
    have hc0 : ¬ c = 0 := by rw [h3]; decide
    have h5 : left + 1 ≤ 5000 := h5.resolve_right fun h => hc0 h.1
    rw [if_neg hc0]
    cases b with
    | nil => exact .inr rfl
    | cons h b1 =>
      rw [List.length_cons] at hb
      dsimp only
      have key : ∀ v b2, (if h = 1 then textX b1 else some ([], b1)) = some (v, b2) → v.length ≤ b1.length ∧ b2.length ≤ b1.length := by
        intro v b2 e
        split at e
        · exact textX_le e
        · injection e with e; injection e with e1 e2; rw [← e1, ← e2]; exact ⟨Nat.zero_le _, Nat.le_refl _⟩
      cases ht : (if h = 1 then textX b1 else some ([], b1)) with
      | none => exact .inr rfl
      | some r =>
        obtain ⟨v, b2⟩ := r
        have h1 := key v b2 ht
        dsimp only
        split
        · exact .inr rfl
        · rename_i hl
          have hK := kids_sz (B := B) (set := b2.take 2) hf 16 0 [] (b2.drop 2) done left h0 (by omega) (fun x hx => by cases hx) hd (by rw [List.length_drop]; omega)
          cases hk : kidsA f (b2.take 2) 16 0 [] (b2.drop 2) done left with
          | bad e => rw [hk] at hK; exact hK
          | got ks b3 d3 l3 =>
            rw [hk] at hK
            obtain ⟨t1, t2, t3, t4, t5, t6, t7⟩ := hK
            rw [List.length_drop] at t6 t7
            have e0 : (cntsP []).1 = 0 := by rw [cntsP]
            have hs0 : smP B (.mk 3 [] (decide (h = 1)) v ks []) := by
              rw [smP]
              exact ⟨by simp; omega, by rw [t2]; simp, fun h => absurd h (by decide), sms_all.2 fun x hx => (t1 x hx).1⟩
            have hs : smC B (.mk 3 [] (decide (h = 1)) v ks []) := ⟨hs0, (by rw [cntP]; simp; omega)⟩
            exact ⟨hs, hsn t3 hs, t4, by rw [cntP]; simp; omega, by rw [List.length_append, List.length_cons, List.length_cons, List.length_cons, List.length_nil]; omega, by rw [List.length_cons, List.length_cons]; omega⟩
  rw [if_neg h3]
  by_cases h4 : c = 4
  · rw [if_pos h4]
    have hc0 : ¬ c = 0 := by rw [h4]; decide
    have h5 : left + 1 ≤ 5000 := h5.resolve_right fun h => hc0 h.1
    rw [if_neg hc0]
    split
    · exact .inr rfl
    · have hs0 : smP B (.mk 4 [] false [] [] (b.take 32)) := by
        rw [smP, smsP]
        exact ⟨by rw [List.length_take]; simp; omega, by simp, fun h => absurd h (by decide), trivial⟩
      have hs : smC B (.mk 4 [] false [] [] (b.take 32)) := ⟨hs0, (by rw [cntP, cntsP]; simp)⟩
      exact ⟨hs, hsn hd hs, h0, by rw [cntP, cntsP]; simp; omega, by rw [List.length_append, List.length_cons, List.length_cons, List.length_nil, List.length_drop]; omega, by rw [List.length_cons, List.length_drop]; omega⟩
  rw [if_neg h4]
  have e0 : (cntP noneN).1 = 0 := rfl
  refine ⟨smC_none B, hsn hd (smC_none B), h0, ?_, by rw [List.length_append, List.length_cons, List.length_cons, List.length_nil]; omega, by rw [List.length_cons]; omega⟩
  rw [e0]; split <;> omega
theorem one_sz {B : Nat} : ∀ (F : Nat) (b : List UInt8) (done : List Nd) (left : Int), 0 ≤ left → left ≤ 5000 → (∀ x ∈ done, smC B x) → 3 * b.length + 32 ≤ B → Sz B b done left (oneF F b done left)
  | F, [], done, left, _, _, _, _ => by rw [oneF_nil]; exact .inr rfl
  | 0, c :: b, done, left, h0, h5, hd, hb => by
    rw [oneF]
    split
    · have := again_sz (B := B) (b := b) (left := left) hd
      cases hr : againX b done left with
      | bad e => rw [hr] at this; exact this
      | got n b' d' l' =>
        rw [hr] at this
        obtain ⟨s1, s2, s3, s4, s5, s6⟩ := this
        exact ⟨s1, s2, s3, s4, by rw [List.length_cons]; omega, by rw [List.length_cons]; omega⟩
    · exact .inr rfl
  | F + 1, c :: b, done, left, h0, h5, hd, hb => by
    rw [List.length_cons] at hb
    rw [oneF]
    split
    · have := again_sz (B := B) (b := b) (left := left) hd
      cases hr : againX b done left with
      | bad e => rw [hr] at this; exact this
      | got n b' d' l' =>
        rw [hr] at this
        obtain ⟨s1, s2, s3, s4, s5, s6⟩ := this
        exact ⟨s1, s2, s3, s4, by rw [List.length_cons]; omega, by rw [List.length_cons]; omega⟩
    · split
      · exact .inr rfl
      · split
        · exact .inl rfl
        · rename_i hl
          by_cases hc : c = 0
          · rw [if_pos hc]
            have := body_sz (B := B) (f := oneF F) (fun b done left h0 h5 hd hb => one_sz F b done left h0 h5 hd hb) c b done left h0 (.inr ⟨hc, h5⟩) hd (by omega)
            rw [if_pos hc] at this
            exact this
          · rw [if_neg hc]
            have hl2 : ¬ left - 1 < 0 := fun h => hl ⟨hc, h⟩
            have := body_sz (B := B) (f := oneF F) (fun b done left h0 h5 hd hb => one_sz F b done left h0 h5 hd hb) c b done (left - 1) (by omega) (.inl (by omega)) hd (by omega)
            rw [if_neg hc, Int.sub_add_cancel] at this
            exact this
end Go.Proofs.Ytliccofjlheceaa
