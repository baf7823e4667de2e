/- Tries of which something is folded, plainly. No walk here. Seek, plainly: ranges of full tries, of folded ones; what begins so; from pair to pair. law09: long, much, folded. law09: known. The walks of the laws SeekRanges and SeekFinds. The walk of the law TrieModel. The walk of the law SeekUnder. The walk of the law SeekModel. The walk of the law SeekParts. -/
import Derived.Test.YtkfbkhahkkmcoaaG19
namespace Go.Proofs.Ytkfbkhahkkmcoaa
/-- The second one, with something folded. -/
inductive Fo : Nd → Nd → Prop
  | refl (t : Nd) : Fo t t
  | stub (t : Nd) (h0 : t.kind ≠ 0) : Fo (.mk 4 [] false [] [] (hashP t)) t
  | way (p : List UInt8) {k k' : Nd} (h : Fo k k') : Fo (.mk 2 p false [] [k] []) (.mk 2 p false [] [k'] [])
  | branch (has : Bool) (v : List UInt8) (ks ks' : List Nd) (hl : ks.length = ks'.length) (h : ∀ (i : Nat) (k k' : Nd), ks[i]? = some k → ks'[i]? = some k' → Fo k k') : Fo (.mk 3 [] has v ks []) (.mk 3 [] has v ks' [])
theorem Fo.kind {m n : Nd} (h : Fo m n) : (m.kind = 0 ↔ n.kind = 0) ∧ (m.kind ≠ 4 → m.kind = n.kind) := by
  cases h with
  | refl => exact ⟨Iff.rfl, fun _ => rfl⟩
  | stub _ h0 => exact ⟨⟨fun e => absurd (show (4 : Int) = 0 from e) (by decide), fun e => absurd e h0⟩, fun e => absurd rfl e⟩
  | way => exact ⟨⟨fun e => absurd (show (2 : Int) = 0 from e) (by decide), fun e => absurd (show (2 : Int) = 0 from e) (by decide)⟩, fun _ => rfl⟩
  | branch => exact ⟨⟨fun e => absurd (show (3 : Int) = 0 from e) (by decide), fun e => absurd (show (3 : Int) = 0 from e) (by decide)⟩, fun _ => rfl⟩
/-- Kids, each the other's or folded. -/
def Fos (ks ks' : List Nd) : Prop := ks.length = ks'.length ∧ ∀ (i : Nat) (k k' : Nd), ks[i]? = some k → ks'[i]? = some k' → Fo k k'
theorem Fos.refl (ks : List Nd) : Fos ks ks := ⟨rfl, fun i k k' h h' => by rw [h] at h'; injection h' with h'; rw [h']; exact .refl _⟩
theorem Fos.set {ks ks' : List Nd} (h : Fos ks ks') {a b : Nd} (hab : Fo a b) (i : Nat) : Fos (ks.set i a) (ks'.set i b) := by
  refine ⟨by rw [List.length_set, List.length_set]; exact h.1, fun j k k' hk hk' => ?_⟩
  by_cases e : i = j
  · subst e
    have h1 := (List.getElem?_eq_some_iff.1 hk).1
    have h2 := (List.getElem?_eq_some_iff.1 hk').1
    rw [List.length_set] at h1 h2
    rw [List.getElem?_set_self h1] at hk
    rw [List.getElem?_set_self h2] at hk'
    injection hk with hk; injection hk' with hk'
    rw [← hk, ← hk']; exact hab
  · rw [List.getElem?_set_ne e] at hk hk'
    exact h.2 j k k' hk hk'
theorem Fos.tail {k k' : Nd} {ks ks' : List Nd} (h : Fos (k :: ks) (k' :: ks')) : Fo k k' ∧ Fos ks ks' :=
  ⟨h.2 0 k k' rfl rfl, by have := h.1; simpa using this, fun i a b h1 h2 => h.2 (i + 1) a b (by simpa using h1) (by simpa using h2)⟩
theorem Fos.many : ∀ {ks ks' : List Nd}, Fos ks ks' → manyN ks = manyN ks'
  | [], [], _ => rfl
  | [], _ :: _, h => by have := h.1; simp at this
  | _ :: _, [], h => by have := h.1; simp at this
  | k :: ks, k' :: ks', h => by
    obtain ⟨h1, h2⟩ := h.tail
    rw [many_cons, many_cons, Fos.many h2]
    by_cases e : k.kind = 0
    · rw [if_pos e, if_pos (h1.kind.1.1 e)]
    · rw [if_neg e, if_neg (fun e' => e (h1.kind.1.2 e'))]
theorem Fos.scan {has : Bool} : ∀ {ks ks' : List Nd} {i : Nat} {o : Option Nat}, Fos ks ks' → scanK has ks i o = scanK has ks' i o
  | [], [], _, _, _ => rfl
  | [], _ :: _, _, _, h => by have := h.1; simp at this
  | _ :: _, [], _, _, h => by have := h.1; simp at this
  | k :: ks, k' :: ks', i, o, h => by
    obtain ⟨h1, h2⟩ := h.tail
    rw [scanK, scanK]
    by_cases e : k.kind = 0
    · rw [if_pos e, if_pos (h1.kind.1.1 e), Fos.scan h2]
    · rw [if_neg e, if_neg (fun e' => e (h1.kind.1.2 e')), Fos.scan h2]
theorem Fo.val {even : Bool} {m n : Nd} (h : Fo m n) : ∀ d, Val even n d → Val even m d := by
  induction h with
  | refl => exact fun d h => h
  | stub t h0 => exact fun d h => .stub d _ h.le (hashP_len h)
  | way p h ih =>
    intro d hv
    cases hv with
    | way _ _ _ hd hp h0 hk hr =>
      refine .way d p _ hd hp h0 ?_ (ih _ hr)
      rename_i k k'
      by_cases h4 : k.kind = 4
      · exact .inr h4
      · rw [h.kind.2 h4]; exact hk
  | branch has v ks ks' hl h ih =>
    intro d hv
    cases hv with
    | branch _ _ _ _ hd hv hv0 he h16 hr hm =>
      refine .branch d has v ks hd hv hv0 he (hl.trans h16) (fun k hk => ?_) (by rw [Fos.many ⟨hl, h⟩]; exact hm)
      obtain ⟨i, hi⟩ := List.getElem?_of_mem hk
      have hi' := (List.getElem?_eq_some_iff.1 hi).1
      have hk' : ks'[i]? = some (ks'[i]'(by omega)) := List.getElem?_eq_getElem (by omega)
      exact ih i k _ hi hk' _ (hr _ (List.mem_of_getElem? hk'))
theorem hashes_eq : ∀ {ks ks' : List Nd}, ks.length = ks'.length → (∀ (i : Nat) (k k' : Nd), ks[i]? = some k → ks'[i]? = some k' → (k.kind = 0 ↔ k'.kind = 0) ∧ hashP k = hashP k') → hashesP ks = hashesP ks'
  | [], [], _, _ => rfl
  | [], _ :: _, h, _ => by simp at h
  | _ :: _, [], h, _ => by simp at h
  | k :: ks, k' :: ks', h, hh => by
    obtain ⟨h1, h2⟩ := hh 0 k k' rfl rfl
    rw [hashesP, hashesP, hashes_eq (by simpa using h) (fun i a b ha hb => hh (i + 1) a b (by simpa using ha) (by simpa using hb)), h2]
    by_cases e : k.kind = 0
    · rw [if_neg (fun x => x e), if_neg (fun x => x (h1.1 e))]
    · rw [if_pos e, if_pos (fun x => e (h1.2 x))]
theorem kbit_eq {ks ks' : List Nd} (h : Fos ks ks') (i : Nat) : kbit ks i = kbit ks' i := by
  unfold kbit
  have : ((ks.getD i noneN).kind ≠ 0) ↔ ((ks'.getD i noneN).kind ≠ 0) := by
    rw [List.getD_eq_getElem?_getD, List.getD_eq_getElem?_getD]
    rcases Nat.lt_or_ge i ks.length with hi | hi
    · have h1 : ks[i]? = some (ks[i]'hi) := List.getElem?_eq_getElem hi
      have h2 : ks'[i]? = some (ks'[i]'(by have := h.1; omega)) := List.getElem?_eq_getElem (by have := h.1; omega)
      rw [h1, h2]
      exact not_congr (h.2 i _ _ h1 h2).kind.1
    · rw [List.getElem?_eq_none hi, List.getElem?_eq_none (by have := h.1; omega)]
  by_cases e : (ks.getD i noneN).kind ≠ 0
  · rw [if_pos e, if_pos (this.1 e)]
  · rw [if_neg e, if_neg (fun x => e (this.2 x))]
theorem kbits_eq {ks ks' : List Nd} (h : Fos ks ks') : ∀ i, kbits ks i = kbits ks' i
  | 0 => rfl
  | i + 1 => by rw [kbits, kbits, kbits_eq h i, kbit_eq h i]
theorem Fo.hash {m n : Nd} (h : Fo m n) : hashP m = hashP n := by
  induction h with
  | refl => rfl
  | stub t h0 => rw [hashP_eq]; exact if_pos rfl
  | @way p k k' h ih =>
    rw [hashP, hashP, if_neg (by decide), if_neg (by decide), hashes_eq (ks := [k]) (ks' := [k']) rfl (fun i a b ha hb => by
      match i, ha, hb with
      | 0, ha, hb =>
        simp at ha hb
        subst ha; subst hb
        exact ⟨h.kind.1, ih⟩)]
    rfl
  | branch has v ks ks' hl h ih =>
    rw [hashP, hashP, if_neg (by decide), if_neg (by decide), hashes_eq hl (fun i a b ha hb => ⟨(h i a b ha hb).kind.1, ih i a b ha hb⟩)]
    unfold encF
    rw [kbits_eq ⟨hl, h⟩ 16]
theorem ends_down {even : Bool} {d e : Nat} (h : endsP d even = true) (he : e ≤ d) : endsP e false = true := by
  have := endsP_le h
  unfold endsP
  rw [decide_eq_true (show e ≤ 400 by omega)]; rfl
theorem val_down {even : Bool} {t : Nd} {d : Nat} (h : Val even t d) : ∀ e, e ≤ d → Val false t e := by
  induction h with
  | none d hd => exact fun e he => .none e (by omega)
  | leaf d p v hd hp hv hend => exact fun e he => .leaf e p v (by omega) hp hv (ends_down hend (by omega))
  | stub d h hd hh => exact fun e he => .stub e h (by omega) hh
  | way d p k hd hp h0 hk hr ih => exact fun e he => .way e p k (by omega) hp h0 hk (ih _ (by omega))
  | branch d has v ks hd hv hv0 hend h16 hr hm ih => exact fun e he => .branch e has v ks (by omega) hv hv0 (fun x => ends_down (hend x) he) h16 (fun k hk => ih k hk _ (by omega)) hm
theorem hashR_val {even : Bool} {t : Nd} {d : Nat} (h : Val even t d) : hashR t = hashP t := by
  unfold hashR
  rw [right_of_val (val_down h 0 (Nat.zero_le _)), if_pos rfl]
theorem Fo.get {even : Bool} {m n : Nd} (h : Fo m n) : ∀ d, Val even n d → ∀ q, halvesB q = true → getP m q = getP n q ∨ ∃ r, (getP m q).miss = some r ∧ r <+: q := by
  induction h with
  | refl => exact fun _ _ _ _ => .inl rfl
  | stub t h0 => exact fun _ _ q _ => .inr ⟨[], by rw [getP_stub], List.nil_prefix⟩
  | way p h ih =>
    intro d hv q hq
    cases hv with
    | way _ _ _ hd hp h0 hk hr =>
      by_cases hpq : p <+: q
      · rw [getP_way hpq, getP_way hpq]
        rcases ih _ hr (q.drop p.length) (halvesB_drop hq) with e | ⟨r, e1, e2⟩
        · exact .inl (by rw [e])
        · refine .inr ⟨p ++ r, by simp only [e1]; rfl, ?_⟩
          obtain ⟨s, rfl⟩ := hpq
          rw [List.drop_left] at e2
          exact (List.prefix_append_right_inj _).2 e2
      · exact .inl (by rw [getP_way0 hpq, getP_way0 hpq])
  | branch has v ks ks' hl h ih =>
    intro d hv q hq
    cases hv with
    | branch _ _ _ _ hd hv hv0 he h16 hr hm =>
      match q, hq with
      | [], _ => exact .inl (by rw [getP_br0, getP_br0])
      | x :: q', hq =>
        have hx := halves_hd hq
        obtain ⟨k, hk⟩ : ∃ k, ks[x.toNat]? = some k := ⟨_, List.getElem?_eq_getElem (by omega)⟩
        obtain ⟨k', hk'⟩ : ∃ k', ks'[x.toNat]? = some k' := ⟨_, List.getElem?_eq_getElem (by omega)⟩
        rw [getP_br hk, getP_br hk']
        rcases ih _ k k' hk hk' _ (hr k' (List.mem_of_getElem? hk')) q' (by have := halvesB_drop (n := 1) hq; simpa using this) with e | ⟨r, e1, e2⟩
        · exact .inl (by rw [e])
        · exact .inr ⟨x :: r, by simp only [e1]; rfl, List.cons_prefix_cons.2 ⟨rfl, e2⟩⟩
theorem Fo.along {a b : Nd} (h : Fo a b) (p : List UInt8) : Fo (alongN p a) (alongN p b) := by
  unfold alongN
  split
  · exact h
  · exact .way p h
theorem Fos.hold {ks ks' : List Nd} (h : Fos ks ks') (has : Bool) (v p val : List UInt8) : (holdK has v ks p val).1 = (holdK has v ks' p val).1 ∧ (holdK has v ks p val).2.1 = (holdK has v ks' p val).2.1 ∧ Fos (holdK has v ks p val).2.2 (holdK has v ks' p val).2.2 := by
  cases p with
  | nil => exact ⟨rfl, rfl, h⟩
  | cons x r => exact ⟨rfl, rfl, h.set (.refl _) _⟩
theorem Fo.fork {k k' : Nd} (h : Fo k k') (p q val : List UInt8) : Fo (forkN (.mk 2 p false [] [k] []) q val) (forkN (.mk 2 p false [] [k'] []) q val) := by
  unfold forkN
  simp only [Nd.path, Nd.kind, Nd.val, Nd.kids, List.headD_cons, Int.reduceEq, if_false]
  refine Fo.along ?_ _
  obtain ⟨h1, h2, h3⟩ := ((Fos.refl (noneNs 16)).set (h.along (p.drop (commonB p q + 1))) (p.getD (commonB p q) 0).toNat).hold false [] (q.drop (commonB p q)) val
  rw [h1, h2]
  exact .branch _ _ _ _ h3.1 h3.2
theorem Fo.put {even : Bool} {m n : Nd} (h : Fo m n) : ∀ d, Val even n d → ∀ q val, halvesB q = true → (getP m q).miss = none → Fo (putP m q val).1 (putP n q val).1 := by
  induction h with
  | refl => exact fun _ _ _ _ _ _ => .refl _
  | stub t h0 => intro _ _ q _ _ hm; rw [getP_stub] at hm; cases hm
  | way p h ih =>
    intro d hv q val hq hm
    cases hv with
    | way _ _ _ hd hp h0 hk hr =>
      by_cases hpq : p <+: q
      · rw [getP_way hpq] at hm
        rw [putP_way hpq, putP_way hpq]
        exact .way p (ih _ hr _ val (halvesB_drop hq) (by simpa using hm))
      · rw [putP_way0 hpq, putP_way0 hpq]
        exact h.fork p q val
  | branch has v ks ks' hl h ih =>
    intro d hv q val hq hm
    cases hv with
    | branch _ _ _ _ hd hv hv0 he h16 hr hm' =>
      match q, hq, hm with
      | [], _, _ => rw [putP_br0, putP_br0]; exact .branch _ _ _ _ hl h
      | x :: q', hq, hm =>
        have hx := halves_hd hq
        obtain ⟨k, hk⟩ : ∃ k, ks[x.toNat]? = some k := ⟨_, List.getElem?_eq_getElem (by omega)⟩
        obtain ⟨k', hk'⟩ : ∃ k', ks'[x.toNat]? = some k' := ⟨_, List.getElem?_eq_getElem (by omega)⟩
        rw [getP_br hk] at hm
        rw [putP_br hk, putP_br hk']
        have := Fos.set (ks := ks) (ks' := ks') ⟨hl, h⟩ (ih _ k k' hk hk' _ (hr k' (List.mem_of_getElem? hk')) q' val (by have := halvesB_drop (n := 1) hq; simpa using this) (by simpa using hm)) x.toNat
        exact .branch _ _ _ _ this.1 this.2
theorem Fo.behind {a b : Nd} (h : Fo a b) (h4 : a.kind ≠ 4) (p : List UInt8) : Fo (behindN p a) (behindN p b) := by
  cases h with
  | refl => exact .refl _
  | stub => exact absurd rfl h4
  | way p' h => rw [behind_way, behind_way]; exact .way _ h
  | branch has v ks ks' hl h => rw [behind_br, behind_br]; exact (Fo.branch has v ks ks' hl h).along p
theorem Fos.settle {ks ks' : List Nd} (h : Fos ks ks') (h16 : ks.length = 16) (has : Bool) (v : List UInt8) (hm : (settleP (.mk 3 [] has v ks [])).2 = none) : Fo (settleP (.mk 3 [] has v ks [])).1 (settleP (.mk 3 [] has v ks' [])).1 := by
  unfold settleP at hm ⊢
  dsimp only [Nd.has, Nd.kids, Nd.val] at hm ⊢
  rw [← Fos.scan h]
  cases hs : scanK has ks 0 none with
  | none => exact .branch _ _ _ _ h.1 h.2
  | some o =>
    cases o with
    | none => exact .refl _
    | some i =>
      rw [hs] at hm
      dsimp only at hm ⊢
      have hi : i < ks.length := by
        rcases scan_lt hs with h | h
        · cases h
        · omega
      have h1 : ks[i]? = some (ks[i]'hi) := List.getElem?_eq_getElem hi
      have h2 : ks'[i]? = some (ks'[i]'(by have := h.1; omega)) := List.getElem?_eq_getElem (by have := h.1; omega)
      have e1 : ks.getD i noneN = ks[i]'hi := by rw [List.getD_eq_getElem?_getD, h1]; rfl
      have e2 : ks'.getD i noneN = ks'[i]'(by have := h.1; omega) := by rw [List.getD_eq_getElem?_getD, h2]; rfl
      simp only [e1, e2] at hm ⊢
      have hf := h.2 i _ _ h1 h2
      by_cases h4 : (ks[i]'hi).kind = 4
      · rw [if_pos h4] at hm; cases hm
      · rw [if_neg h4, if_neg (by rw [← hf.kind.2 h4]; exact h4)]
        exact hf.behind h4 _
theorem Fo.drop {even : Bool} {m n : Nd} (h : Fo m n) : ∀ d, Val even n d → ∀ q, halvesB q = true → (getP m q).has = true → (dropP m q).2 = none → (dropP n q).2 = none → Fo (dropP m q).1 (dropP n q).1 := by
  induction h with
  | refl => exact fun _ _ _ _ _ _ _ => .refl _
  | stub t h0 => intro _ _ q _ hm; rw [getP_stub] at hm; cases hm
  | @way p k k' h ih =>
    intro d hv q hq hg hm hn
    have hvm := (Fo.way p h).val d hv
    cases hv with
    | way _ _ _ hd hp h0 hk hr =>
      have hpre : p <+: q := by
        rcases Classical.em (p <+: q) with h | h
        · exact h
        · rw [getP_way0 h] at hg; cases hg
      rw [getP_way hpre] at hg
      rw [dropP_way] at hm
      rw [dropP_way, dropP_way]
      have hm' : (dropP k (q.drop p.length)).2 = none := by simpa using hm
      rw [dropP_way] at hn
      have := ih _ hr _ (halvesB_drop hq) hg hm' (by simpa using hn)
      refine this.behind ?_ p
      cases hvm with
      | way _ _ _ _ _ _ _ hr2 => exact ((drop_items hr2 _ (halvesB_drop hq) hg).1 hm').2.1
  | branch has v ks ks' hl h ih =>
    intro d hv q hq hg hmm hn
    have hvm := (Fo.branch has v ks ks' hl h).val d hv
    cases hv with
    | branch _ _ _ _ hd hv hv0 he h16 hr hm =>
      match q, hq, hg, hmm, hn with
      | [], _, _, hmm, _ =>
        rw [dropP_br0] at hmm
        rw [dropP_br0, dropP_br0]
        exact Fos.settle ⟨hl, h⟩ (by omega) _ _ hmm
      | x :: q', hq, hg, hmm, hn =>
        have hx := halves_hd hq
        obtain ⟨k, hk⟩ : ∃ k, ks[x.toNat]? = some k := ⟨_, List.getElem?_eq_getElem (by omega)⟩
        obtain ⟨k', hk'⟩ : ∃ k', ks'[x.toNat]? = some k' := ⟨_, List.getElem?_eq_getElem (by omega)⟩
        rw [getP_br hk] at hg
        rw [dropP_br hk] at hmm
        rw [dropP_br hk'] at hn
        rw [dropP_br hk, dropP_br hk']
        cases hd2 : (dropP k q').2 with
        | some r => rw [hd2] at hmm; simp at hmm
        | none =>
          have hd3 : (dropP k' q').2 = none := by
            cases hd3 : (dropP k' q').2 with
            | none => rfl
            | some r => rw [hd3] at hn; simp at hn
          have hq' : halvesB q' = true := by have := halvesB_drop (n := 1) hq; simpa using this
          have hF := ih _ k k' hk hk' _ (hr k' (List.mem_of_getElem? hk')) q' hq' hg hd2 hd3
          rw [hd2] at hmm
          rw [hd3]
          simp only [Option.isSome_none, Bool.false_eq_true, if_false] at hmm ⊢
          exact Fos.settle (Fos.set ⟨hl, h⟩ hF x.toNat) (by rw [List.length_set]; omega) _ _ hmm
mutual
theorem sz_foldN {even : Bool} {t : Nd} {d : Nat} (h : Val even t d) : sz (foldN t) ≤ sz t + 38 := by
  unfold foldN
  split
  · have e : sz noneN = 6 := rfl
    rw [e]; omega
  · rw [sz, hashR_val h, szs]
    have := hashP_len h
    simp only [List.length_nil]; omega
end
end Go.Proofs.Ytkfbkhahkkmcoaa
namespace Go.Proofs.Ytkfbkhahkkmcoaa
open Go.RowKit
def selR (low high : List UInt8) (l : List Pr) : List Pr := l.filter fun p => inR p.k low high
theorem rGo_map (low high : List UInt8) (most : Int) : ∀ (l : List Pr) (out : List Pr), (out.length : Int) ≤ most → rGo low high most (l.map itOf) out = ⟨out ++ (selR low high l).take (most.toNat - out.length), none, 0⟩
  | [], out, h => by simp [rGo, selR]
  | p :: l, out, h => by
    rw [List.map_cons]
    by_cases hl : (out.length : Int) < most
    · rw [rGo, if_pos hl, if_neg (show ¬ ((itOf p).stub = true ∧ _) from fun h => by cases h.1)]
      have eb : bytesL (itOf p).path = p.k := (bytes_ofB p.k).2
      rw [eb]
      by_cases hi : inR p.k low high = true
      · rw [if_pos ⟨rfl, hi⟩]
        have hln : (out ++ [(⟨p.k, (itOf p).val⟩ : Pr)]).length = out.length + 1 := by simp
        rw [rGo_map low high most l _ (by rw [hln]; omega), hln, List.append_assoc]
        have es : selR low high (p :: l) = p :: selR low high l := by unfold selR; rw [List.filter_cons, if_pos hi]
        have en : most.toNat - out.length = (most.toNat - (out.length + 1)) + 1 := by omega
        rw [es, en, List.take_succ_cons]
        rfl
      · rw [if_neg (fun h => hi h.2), rGo_map low high most l out h]
        have es : selR low high (p :: l) = selR low high l := by unfold selR; rw [List.filter_cons, if_neg hi]
        rw [es]
    · rw [rGo_full _ _ _ _ _ hl, show most.toNat - out.length = 0 by omega, List.take_zero, List.append_nil]
theorem selR_rev (low high : List UInt8) (l : List Pr) : selR low high l.reverse = (selR low high l).reverse := by unfold selR; rw [List.filter_reverse]
theorem range_full {t : Nd} (h : Full t) (low high : List UInt8) {most : Int} (h0 : 0 ≤ most) (back : Bool) : rangeP t low high most back = ⟨(match back with | false => selR low high (prsT t) | true => (selR low high (prsT t)).reverse).take most.toNat, none, 0⟩ := by
  rw [range_ref]
  unfold rangeR
  rw [full_check h, if_pos rfl, if_neg (by omega), prs_items h]
  cases back with
  | false => dsimp only; rw [rGo_map low high most _ [] (by simpa using h0)]; simp
  | true => dsimp only; rw [← List.map_reverse, rGo_map low high most _ [] (by simpa using h0), selR_rev]; simp
theorem inR_nil (key low : List UInt8) : inR key low [] = decide (0 ≤ cmpB key low) := by unfold inR; simp
theorem inR_cons (key low high : List UInt8) (h : high ≠ []) : inR key low high = (decide (0 ≤ cmpB key low) && decide (cmpB key high < 0)) := by
  unfold inR
  rw [decide_eq_false (fun e => h (List.length_eq_zero_iff.1 e)), Bool.false_or]
theorem cmp_nil_le (k : List UInt8) : 0 ≤ cmpB k [] := by
  cases k with
  | nil => rw [cmpB_nil]; omega
  | cons x k => rw [cmpB_cons_nil]; omega
theorem sel_all (l : List Pr) : selR [] [] l = l := by
  unfold selR
  rw [List.filter_eq_self]
  intro p _
  rw [inR_nil, decide_eq_true_eq]
  exact cmp_nil_le p.k
theorem cmp_zero_snoc : ∀ (p k : List UInt8), 0 ≤ cmpB k (p ++ [0]) ↔ cmpB p k < 0
  | [], [] => by rw [List.nil_append, cmpB_nil_cons, cmpB_nil]; omega
  | [], z :: k => by
    rw [List.nil_append, cmpB_nil_cons, cmpB_cons]
    have h0 : (0 : UInt8).toNat = 0 := rfl
    split
    · have := cmp_nil_le k; omega
    · rw [if_neg (by omega)]; omega
  | x :: p, [] => by rw [List.cons_append, cmpB_nil_cons, cmpB_cons_nil]; omega
  | x :: p, z :: k => by
    have ih := cmp_zero_snoc p k
    rw [List.cons_append, cmpB_cons, cmpB_cons]
    by_cases e : z = x
    · rw [if_pos e, if_pos e.symm]; exact ih
    · have h1 : z.toNat ≠ x.toNat := fun e' => e (UInt8.toNat_inj.1 e')
      rw [if_neg e, if_neg (show ¬ x = z from fun h => e h.symm)]
      by_cases h : z.toNat < x.toNat
      · rw [if_pos h, if_neg (by omega)]; omega
      · rw [if_neg h, if_pos (by omega)]; omega
/-- From where the i-th pair is looked for. -/
def atS (r : List Pr) : Nat → List UInt8
  | 0 => []
  | i + 1 => match r[i]? with
    | some p => p.k ++ [0]
    | none => []
theorem atS_sel {r : List Pr} (h : Ris r) : ∀ {i : Nat}, i ≤ r.length → selR (atS r i) [] r = r.drop i
  | 0, _ => by rw [atS, List.drop_zero]; exact sel_all r
  | i + 1, hi => by
    obtain ⟨p, hp⟩ : ∃ p, r[i]? = some p := ⟨_, List.getElem?_eq_getElem (by omega)⟩
    have h1 := List.getElem?_eq_some_iff.1 hp
    have e : r = r.take i ++ p :: r.drop (i + 1) := by rw [← h1.2, ← List.drop_eq_getElem_cons h1.1, List.take_append_drop]
    have h' := h
    rw [e] at h'
    have hq := List.pairwise_append.1 h'
    have hq2 := List.pairwise_cons.1 hq.2.1
    rw [show atS r (i + 1) = p.k ++ [0] by rw [atS, hp]]
    conv => lhs; rw [e]
    unfold selR
    rw [List.filter_append, List.filter_cons]
    have f : ∀ q : Pr, inR q.k (p.k ++ [0]) [] = true ↔ cmpB p.k q.k < 0 := fun q => by rw [inR_nil, decide_eq_true_eq, cmp_zero_snoc]
    rw [if_neg (fun hh => by have := (f p).1 hh; rw [cmp_self] at this; omega)]
    rw [List.filter_eq_nil_iff.2 (fun q hq' hh => cmp_anti (hq.2.2 q hq' p (by simp)) ((f q).1 hh)), List.nil_append]
    exact List.filter_eq_self.2 fun q hq' => (f q).2 (hq2.1 q hq')
theorem parts : ∀ {r : List Pr} (key : List UInt8), Ris r → key ≠ [] → selR [] key r ++ selR key [] r = r
  | [], _, _, _ => rfl
  | p :: r, key, h, hk => by
    have h' := List.pairwise_cons.1 h
    have ih := parts key h'.2 hk
    have e1 : ∀ q : Pr, inR q.k [] key = decide (cmpB q.k key < 0) := fun q => by rw [inR_cons _ _ _ hk, decide_eq_true (cmp_nil_le q.k), Bool.true_and]
    have e2 : ∀ q : Pr, inR q.k key [] = decide (0 ≤ cmpB q.k key) := fun q => inR_nil _ _
    by_cases hc : cmpB p.k key < 0
    · have a1 : selR [] key (p :: r) = p :: selR [] key r := by unfold selR; rw [List.filter_cons, if_pos (by rw [e1, decide_eq_true hc])]
      have a2 : selR key [] (p :: r) = selR key [] r := by unfold selR; rw [List.filter_cons, if_neg (by rw [e2, decide_eq_false (by omega)]; simp)]
      rw [a1, a2, List.cons_append, ih]
    · have hall : ∀ q ∈ p :: r, ¬ cmpB q.k key < 0 := fun q hq => by
        rcases List.mem_cons.1 hq with rfl | hq
        · exact hc
        · intro hlt; exact hc (cmp_trans (h'.1 q hq) hlt)
      have a1 : selR [] key (p :: r) = [] := by
        unfold selR
        rw [List.filter_eq_nil_iff]
        intro q hq hh
        rw [e1, decide_eq_true_eq] at hh
        exact hall q hq hh
      have a2 : selR key [] (p :: r) = p :: r := by
        unfold selR
        rw [List.filter_eq_self]
        intro q hq
        rw [e2, decide_eq_true_eq]
        have := hall q hq; omega
      rw [a1, a2, List.nil_append]
structure FoI (w : List UInt8) (a b : List It) : Prop where
  ex : ∃ A B C : List It, ∃ kn h, a = A ++ ⟨w, [], true, kn, h⟩ :: B ∧ b = A ++ C ++ B ∧ ∀ y ∈ C, w <+: y.path
theorem FoI.app {w : List UInt8} {a b : List It} (h : FoI w a b) (X Y : List It) : FoI w (X ++ a ++ Y) (X ++ b ++ Y) := by
  obtain ⟨A, B, C, kn, hs, rfl, rfl, hC⟩ := h.ex
  exact ⟨X ++ A, B ++ Y, C, kn, hs, by simp, by simp, hC⟩
theorem from_full {t : Nd} (h : Full t) (key : List UInt8) : fromP t key = match selR key [] (prsT t) with | [] => ⟨⟨[], []⟩, false, none, 0⟩ | p :: _ => ⟨p, true, none, 0⟩ := by
  unfold fromP
  rw [range_full h _ _ (by decide)]
  dsimp only
  cases selR key [] (prsT t) with
  | nil => rfl
  | cons p l => rfl
end Go.Proofs.Ytkfbkhahkkmcoaa
namespace Go.Proofs.Ytkfbkhahkkmcoaa
open Go.RowKit
theorem is_long9 : isFn Try.prog 24 = true := by kernel_rfl
set_option maxRecDepth 100000 in
set_option maxHeartbeats 1000000 in
theorem long9_any (l : List Pr) (gs : List (Option Nat)) (w : World) (A : Option Addr) (n c : Nat) (hr : RdD w (Fd w gs) (dPl l) (.slice A n c)) (hgs : ∀ b, some b ∈ gs → b < w.heap.size) (hz : longN l ≤ 1000000000000) :
    Calls Try.prog 24 #[.slice A n c] w fun e w' => e = .returned (.bool (decide (longN l > 9000))) ∧ Below w.heap.size w w' := by
  refine calls_ev (args := [.slice A n c]) mixed Try.func24 rfl (by kernel_rfl) ?_
  have en := hr.slen
  have hnl := longN_len l
  have M := (St.start hgs).addD hr
  refine lp Nat (fun i W => i ≤ n ∧ St w gs W [] [] [.dat false [dPl l] [.slice A n c]]) (fun i => [(0, .slice A n c), (3, .int .i64 (longN (l.take i))), (4, .int .i64 i)]) (fun i => n - i) 0 ⟨Nat.zero_le _, M⟩ ⟨rfl, rfl, rfl, trivial⟩ ?_
  clear M
  rintro i E5 W5 ⟨hi, M⟩
  refine p_len slp rfl ?_
  refine p_lt rfl rfl (fun hlt => ?_) (fun hge => ?_)
  · obtain ⟨p, hp⟩ : ∃ p, l[i]? = some p := ⟨_, List.getElem?_eq_getElem (by omega)⟩
    have hp1 := List.getElem?_eq_some_iff.1 hp
    have ht : l.take (i + 1) = l.take i ++ [p] := by rw [List.take_succ_eq_append_getElem hp1.1, hp1.2]
    have hs := longN_snoc (l.take i) p
    rw [← ht] at hs
    have hs2 := longN_take l (i + 1)
    replace M := M.drew
    obtain ⟨b1, o1, Ak, ck, Av, cv, rfl, M'⟩ := M.pair (M.d1 0 rfl) hp
    replace M := M'; clear M'
    refine drT (Kp w gs [] [.loc ((⟨b1, o1, none⟩ : Addr).add (i * 2)) (pcs p Ak ck Av cv)]) (.take 0 (.take 1 (.take 2 (.take 3 (.take 4 (.take 5 (.take 6 (.take 7 (.take 8 (.take 9 (.take 10 (.take 11 (.take 12 (.take 13 (.take 14 (.take 15 (.take 16 (.nil)))))))))))))))))) (by kernel_rfl) (M.kp (by simp) (by simp)) ?_
    refine p_addN (b := 10) rfl rfl (by omega) ?_
    refine p_at slp rfl rfl rfl (by omega) ?_
    refine p_fld fP0 rfl ?_
    refine t_load agg_b rfl (fun W K => by first | exact (K.B 0 rfl).at_ rfl | exact (K.B 1 rfl).at_ rfl | exact (K.B 2 rfl).at_ rfl | exact (K.B 3 rfl).at_ rfl | exact K.lc 0 rfl _ _ rfl | exact K.lc 1 rfl _ _ rfl | exact K.lc 2 rfl _ _ rfl | exact K.lc 3 rfl _ _ rfl) ?_
    refine p_len slb rfl ?_
    refine p_addN rfl rfl (by omega) ?_
    refine p_at slp rfl rfl rfl (by omega) ?_
    refine p_fld fP1 rfl ?_
    refine t_load agg_b rfl (fun W K => by first | exact (K.B 0 rfl).at_ rfl | exact (K.B 1 rfl).at_ rfl | exact (K.B 2 rfl).at_ rfl | exact (K.B 3 rfl).at_ rfl | exact K.lc 0 rfl _ _ rfl | exact K.lc 1 rfl _ _ rfl | exact K.lc 2 rfl _ _ rfl | exact K.lc 3 rfl _ _ rfl) ?_
    refine p_len slb rfl ?_
    refine p_addN rfl rfl (by omega) ?_
    refine p_addN (b := 1) rfl rfl (by omega) ?_
    exact ⟨i + 1, ⟨by omega, M.fsub _ (by simp)⟩, ⟨rfl, (by show Value.int .i64 ((longN (l.take i) + 10 + p.k.length + p.v.length : Nat) : Int) = _; rw [hs, ← Nat.add_assoc, ← Nat.add_assoc]), rfl, trivial⟩, by omega⟩
  · have hin : i = l.length := by omega
    subst hin
    refine p_gt rfl rfl (fun h => ?_) (fun h => ?_)
    · rw [List.take_of_length_le (Nat.le_refl _)] at h
      exact ⟨ret_tf (decide_eq_true (by omega)).symm, M.below⟩
    · rw [List.take_of_length_le (Nat.le_refl _)] at h
      exact ⟨ret_tf (decide_eq_false (by omega)).symm, M.below⟩
end Go.Proofs.Ytkfbkhahkkmcoaa
namespace Go.Proofs.Ytkfbkhahkkmcoaa
open Go.RowKit

theorem kf8 : Full kt8 ∧ prsT kt8 = [⟨[1], [97]⟩, ⟨[1, 2], [98]⟩, ⟨[17], [99]⟩] := by
  have h := tOf_prs (l := kl8) (by decide +kernel)
  exact ⟨h.2.1, h.2.2.trans (by decide +kernel)⟩
theorem kr9_1 : rangeP kt8 [1, 1] [17] 9 false = ⟨[⟨[1, 2], [98]⟩], none, 0⟩ := by
  rw [range_full kf8.1 _ _ (by decide), kf8.2]
  dsimp only
  rw [show List.take (9 : Int).toNat (selR [1, 1] [17] [⟨[1], [97]⟩, ⟨[1, 2], [98]⟩, ⟨[17], [99]⟩]) = [⟨[1, 2], [98]⟩] by decide +kernel]
theorem kr9_2 : rangeP kt8 [] [] 2 true = ⟨[⟨[17], [99]⟩, ⟨[1, 2], [98]⟩], none, 0⟩ := by
  rw [range_full kf8.1 _ _ (by decide), kf8.2]
  dsimp only
  rw [show List.take (2 : Int).toNat (selR [] [] [⟨[1], [97]⟩, ⟨[1, 2], [98]⟩, ⟨[17], [99]⟩]).reverse = [⟨[17], [99]⟩, ⟨[1, 2], [98]⟩] by decide +kernel]
theorem kr9_3 : fromP kt8 [2] = ⟨⟨[17], [99]⟩, true, none, 0⟩ := by
  have h : rangeP kt8 [2] [] 1 false = ⟨[⟨[17], [99]⟩], none, 0⟩ := by
    rw [range_full kf8.1 _ _ (by decide), kf8.2]
    dsimp only
    rw [show List.take (1 : Int).toNat (selR [2] [] [⟨[1], [97]⟩, ⟨[1, 2], [98]⟩, ⟨[17], [99]⟩]) = [⟨[17], [99]⟩] by decide +kernel]
  unfold fromP
  rw [h]
theorem kr9_4 : rangeP (foldN kt8) [] [] 1 false = ⟨[], some [], 80⟩ := by
  have hf : foldN kt8 = .mk 4 [] false [] [] (hashR kt8) := by unfold foldN; rw [if_neg (by rw [kt8_0.2.1]; decide)]
  rw [range_ref, hf]
  unfold rangeR
  have hc : checkE (.mk 4 [] false [] [] (hashR kt8)) = 0 := by
    unfold checkE
    rw [right_of_val (.stub 0 _ (by omega) kt8_h), if_pos rfl]
  rw [if_pos hc, if_neg (by decide)]
  dsimp only
  rw [items_stub, rGo, if_pos (by decide), if_pos ⟨rfl, by decide +kernel⟩]
set_option maxRecDepth 100000 in
set_option maxHeartbeats 4000000 in
theorem known9_any (w : World) : Calls Try.prog 17 #[] w fun e w' => e = .returned (.bool true) ∧ Below w.heap.size w w' := by
  refine calls_ev (args := []) mixed Try.func17 rfl (by kernel_rfl) ?_
  have M := St.start (w := w) (gs := []) (fun b h => by cases h)
  refine s_bslice (bvs [1]) (fr := true) (ds := (bvs [1]).map D.v) M slb (zs := [.int .u8 0]) (by kernel_rfl) rfl (by decide) rfl (RdL.ofvals _) rfl ?_
  clear M; rintro g1 W M
  refine s_bsliceB (bvs [97]) M slb (zs := [.int .u8 0]) (by kernel_rfl) rfl (by decide) rfl ?_
  clear M; rintro g2 W M
  refine s_cvtB [97] M rfl rfl (Nat.le_refl _) ?_
  clear M; rintro W M
  refine p_build (vs := [.slice (some ⟨g1, 0, none⟩) 1 1, .slice (some ⟨g2, 0, none⟩) 1 1]) pl_pr z_pr rfl ?_
  refine s_bslice (bvs [1, 2]) (fr := true) (ds := (bvs [1, 2]).map D.v) M slb (zs := [.int .u8 0]) (by kernel_rfl) rfl (by decide) rfl (RdL.ofvals _) rfl ?_
  clear M; rintro g3 W M
  refine s_bsliceB (bvs [98]) M slb (zs := [.int .u8 0]) (by kernel_rfl) rfl (by decide) rfl ?_
  clear M; rintro g4 W M
  refine s_cvtB [98] M rfl rfl (Nat.le_refl _) ?_
  clear M; rintro W M
  refine p_build (vs := [.slice (some ⟨g3, 0, none⟩) 2 2, .slice (some ⟨g4, 0, none⟩) 1 1]) pl_pr z_pr rfl ?_
  refine s_bslice (bvs [17]) (fr := true) (ds := (bvs [17]).map D.v) M slb (zs := [.int .u8 0]) (by kernel_rfl) rfl (by decide) rfl (RdL.ofvals _) rfl ?_
  clear M; rintro g5 W M
  refine s_bsliceB (bvs [99]) M slb (zs := [.int .u8 0]) (by kernel_rfl) rfl (by decide) rfl ?_
  clear M; rintro g6 W M
  refine s_cvtB [99] M rfl rfl (Nat.le_refl _) ?_
  clear M; rintro W M
  refine p_build (vs := [.slice (some ⟨g5, 0, none⟩) 1 1, .slice (some ⟨g6, 0, none⟩) 1 1]) pl_pr z_pr rfl ?_
  have hall : RdL W (Ft w W (own [] [] []) true) (dPrs kl8) [.slice (some ⟨g1, 0, none⟩) 1 1, .slice (some ⟨g2, 0, none⟩) 1 1, .slice (some ⟨g3, 0, none⟩) 2 2, .slice (some ⟨g4, 0, none⟩) 1 1, .slice (some ⟨g5, 0, none⟩) 1 1, .slice (some ⟨g6, 0, none⟩) 1 1] :=
    RdL.cons (M.dt 5 rfl).hd (RdL.cons (M.dt 4 rfl).hd (RdL.cons (M.dt 3 rfl).hd (RdL.cons (M.dt 2 rfl).hd (RdL.cons (M.dt 1 rfl).hd (RdL.cons (M.dt 0 rfl).hd RdL.nil_)))))
  refine s_bslice [.slice (some ⟨g1, 0, none⟩) 1 1, .slice (some ⟨g2, 0, none⟩) 1 1, .slice (some ⟨g3, 0, none⟩) 2 2, .slice (some ⟨g4, 0, none⟩) 1 1, .slice (some ⟨g5, 0, none⟩) 1 1, .slice (some ⟨g6, 0, none⟩) 1 1] (fr := true) (ds := dPrs kl8) M slp z_pr rfl (by decide) rfl hall rfl ?_
  clear M hall; rintro g7 W M
  refine cc is_r8of (r8of_any 401 (Nat.le_refl _) kl8 _ W _ 3 3 (M.d1 0 rfl) M.olt (longN_big (by decide))) ?_
  rintro e W ⟨cs, he, hres, hb⟩
  rw [← tOf_eq (Nat.le_refl _)] at he hres
  have kz : sz kt8 ≤ 10000 := kt8_0.2.2.2.2.2.2.2.2.2
  have kzf : sz (foldN kt8) ≤ 1000000 := by have := sz_foldN kf8.1.1; omega
  rw [kt8_0.1] at he
  subst he
  replace hres : RdL W _ (dN kt8) cs := hres
  obtain ⟨r1, r2, r3, r4⟩ := show _ ∧ _ ∧ _ ∧ _ from ⟨kr9_1, kr9_2, kr9_3, kr9_4⟩
  obtain ⟨t, ht⟩ : ∃ t, t = kt8 := ⟨_, rfl⟩
  rw [← ht] at hres kz kzf r1 r2 r3 r4
  clear ht
  have hc5 := hres.len
  rw [dN_len] at hc5
  replace M := (M.call hb).addL hres
  refine ⟨_, rfl, ?_⟩
  clear hres hb
  refine s_alloc (zN) M al_nd ?_
  clear M
  rintro g8 W M
  refine s_storeA 0 cs M rfl sz_nd rfl rfl hc5 ((M.da 0 rfl).ones (dN_one _)) rfl ?_
  clear M; rintro W M
  dsimp only [setL] at M
  refine v_loadN cs agg_nd rfl hc5 (M.run 0 rfl) ?_
  refine s_bslice (bvs [1, 1]) (fr := true) (ds := (bvs [1, 1]).map D.v) M slb (zs := [.int .u8 0]) (by kernel_rfl) rfl (by decide) rfl (RdL.ofvals _) rfl ?_
  clear M; rintro g9 W M
  refine s_bslice (bvs [17]) (fr := true) (ds := (bvs [17]).map D.v) M slb (zs := [.int .u8 0]) (by kernel_rfl) rfl (by decide) rfl (RdL.ofvals _) rfl ?_
  clear M; rintro g10 W M
  refine cc is_range (srange_any t [1, 1] [17] 9 (by omega) _ _ cs _ _ _ _ _ _ (M.da 2 rfl) (M.d1 1 rfl) (M.d1 0 rfl) M.olt ⟨by decide, by decide⟩) ?_
  rintro e W ⟨A1, n1, c1, Am1, nm1, cm1, he, rv, rm, hb⟩
  rw [r1] at he rv
  subst he
  have hn1 : n1 = 1 := rv.slen
  subst hn1
  replace M := (M.call hb).addD rv
  clear rv rm hb
  refine ⟨_, rfl, ?_⟩
  refine v_loadN cs agg_nd rfl hc5 (M.run 0 rfl) ?_
  refine cc is_back (sback_any t [] [] 2 (by omega) _ _ cs _ _ _ _ _ _ (M.da 3 rfl) (RdD.nil_ _ _) (RdD.nil_ _ _) M.olt ⟨by decide, by decide⟩) ?_
  rintro e W ⟨A2, n2, c2, Am2, nm2, cm2, he, rv, rm, hb⟩
  rw [r2] at he rv
  subst he
  have hn2 : n2 = 2 := rv.slen
  subst hn2
  replace M := (M.call hb).addD rv
  clear rv rm hb
  refine ⟨_, rfl, ?_⟩
  refine v_loadN cs agg_nd rfl hc5 (M.run 0 rfl) ?_
  refine s_bslice (bvs [2]) (fr := true) (ds := (bvs [2]).map D.v) M slb (zs := [.int .u8 0]) (by kernel_rfl) rfl (by decide) rfl (RdL.ofvals _) rfl ?_
  clear M; rintro g11 W M
  refine cc is_from (sfrom_any t [2] (by omega) _ _ cs _ _ _ (M.da 5 rfl) (M.d1 0 rfl) M.olt (by decide)) ?_
  rintro e W ⟨ps, Am3, nm3, cm3, he, rv, rm, hb⟩
  rw [r3] at he rv
  dsimp only at he rv
  subst he
  obtain ⟨Ak3, ck3, Av3, cv3, rfl, h1, h2⟩ := rv.pair
  replace M := ((M.call hb).addD h2).addD h1
  clear rv rm hb h1 h2
  refine ⟨_, rfl, ?_⟩
  refine s_alloc (zP) M al_pr ?_
  clear M
  rintro g12 W M
  refine s_storeA 0 (pcs ⟨[17], [99]⟩ Ak3 ck3 Av3 cv3) M rfl sz_pr rfl rfl rfl (all1 rfl) rfl ?_
  clear M; rintro W M
  dsimp only [setL] at M
  refine v_loadN cs agg_nd rfl hc5 (M.run 1 rfl) ?_
  refine cc is_r7fold (rfold_any t (by omega) _ _ _ (M.da 7 rfl) M.olt) ?_
  rintro e W ⟨csf, rfl, rf, hb⟩
  replace M := M.callF hb rf
  clear rf hb
  refine ⟨_, rfl, ?_⟩
  refine cc is_range (srange_any (foldN t) [] [] 1 kzf _ _ csf _ _ _ _ _ _ (M.da 0 rfl) (RdD.nil_ _ _) (RdD.nil_ _ _) M.olt ⟨by decide, by decide⟩) ?_
  rintro e W ⟨A4, n4, c4, Am4, nm4, cm4, he, rv, rm, hb⟩
  rw [r4] at he rv rm
  subst he
  have hnm : nm4 = 0 := rm.2.slen
  subst hnm
  replace M := M.call hb
  clear rv rm hb
  refine ⟨_, rfl, ?_⟩
  refine p_eq rfl rfl (fun _ => ?_) (fun e => absurd rfl e)
  refine p_len slp rfl ?_
  refine p_eq rfl rfl (fun _ => ?_) (fun e => absurd rfl e)
  obtain ⟨b1, o1, Ak1, ck1, Av1, cv1, rfl, M'⟩ := M.pair (i := 0) (p := ⟨[1, 2], [98]⟩) (M.d1 5 rfl) rfl
  replace M := M'; clear M'
  refine p_at (i := 0) slp rfl rfl rfl (by decide) ?_
  refine p_fld fP0 rfl ?_
  refine v_load agg_b rfl (M.lc 0 rfl 0 _ rfl) ?_
  refine s_bslice (bvs [1, 2]) (fr := true) (ds := (bvs [1, 2]).map D.v) M slb (zs := [.int .u8 0]) (by kernel_rfl) rfl (by decide) rfl (RdL.ofvals _) rfl ?_
  clear M; rintro g13 W M
  obtain ⟨q, hq, hc⟩ := same_tf (c1 := ck1) (c2 := 2) (M.rdb 2 rfl).2.2 (M.rdb (l := [1, 2]) 0 rfl).2.2
  obtain rfl := hq.2 rfl
  refine cc is_same0 hc ?_
  rintro e W' ⟨rfl, rfl⟩
  refine ⟨_, rfl, ?_⟩
  clear hq hc
  refine p_eq rfl rfl (fun _ => ?_) (fun e => absurd rfl e)
  refine p_len slp rfl ?_
  refine p_eq rfl rfl (fun _ => ?_) (fun e => absurd rfl e)
  obtain ⟨b2, o2, Ak2, ck2, Av2, cv2, rfl, M'⟩ := M.pair (i := 0) (p := ⟨[17], [99]⟩) (M.d1 8 rfl) rfl
  replace M := M'; clear M'
  refine p_at (i := 0) slp rfl rfl rfl (by decide) ?_
  refine p_fld fP0 rfl ?_
  refine v_load agg_b rfl (M.lc 0 rfl 0 _ rfl) ?_
  refine s_bslice (bvs [17]) (fr := true) (ds := (bvs [17]).map D.v) M slb (zs := [.int .u8 0]) (by kernel_rfl) rfl (by decide) rfl (RdL.ofvals _) rfl ?_
  clear M; rintro g14 W M
  obtain ⟨q, hq, hc⟩ := same_tf (c1 := ck2) (c2 := 1) (M.rdb 2 rfl).2.2 (M.rdb (l := [17]) 0 rfl).2.2
  obtain rfl := hq.2 rfl
  refine cc is_same0 hc ?_
  rintro e W' ⟨rfl, rfl⟩
  refine ⟨_, rfl, ?_⟩
  clear hq hc
  refine p_eq rfl rfl (fun _ => ?_) (fun e => absurd rfl e)
  refine p_fld fP1 rfl ?_
  refine v_load agg_b rfl ((M.B 0 rfl).at_ rfl) ?_
  refine s_bsliceB (bvs [99]) M slb (zs := [.int .u8 0]) (by kernel_rfl) rfl (by decide) rfl ?_
  clear M; rintro g15 W M
  refine s_cvtB [99] M rfl rfl (Nat.le_refl _) ?_
  clear M; rintro W M
  obtain ⟨q, hq, hc⟩ := same_tf (c1 := cv3) (c2 := 1) (M.rdb 11 rfl).2.2 (M.rdb (l := [99]) 0 rfl).2.2
  obtain rfl := hq.2 rfl
  refine cc is_same0 hc ?_
  rintro e W' ⟨rfl, rfl⟩
  refine ⟨_, rfl, ?_⟩
  clear hq hc
  refine p_len slb rfl ?_
  refine p_eq rfl rfl (fun _ => ?_) (fun e => absurd rfl e)
  refine p_eq rfl rfl (fun _ => ?_) (fun e => absurd rfl e)
  exact ⟨rfl, M.below⟩
end Go.Proofs.Ytkfbkhahkkmcoaa
namespace Go.Proofs.Ytkfbkhahkkmcoaa
open Go.RowKit


theorem is_kn9 : isFn Try.prog 17 = true := by kernel_rfl
end Go.Proofs.Ytkfbkhahkkmcoaa
namespace Go.Proofs.Ytkfbkhahkkmcoaa
open Go.RowKit

/-- What a trie and a row of pairs have to do with each other. -/
structure Mo (i : Nat) (n : Nd) (left : List Pr) : Prop where
  full : Full n
  mem : ∀ y, y ∈ prsT n ↔ y ∈ left
  len : left.length ≤ i
  small : ∀ p ∈ left, p.k.length ≤ 200 ∧ p.v.length ≤ 4000
  size : sz n ≤ 6 + 4530 * i
theorem Mo.start : Mo 0 noneN [] := ⟨full_none, fun y => by rw [prs_none], Nat.le_refl _, fun p h => (by cases h), (show sz noneN ≤ 6 from Nat.le_refl _)⟩
theorem filter_len {left : List Pr} (f : Pr → Bool) : (left.filter f).length ≤ left.length := List.length_filter_le _ _
theorem Mo.drop {i : Nat} {n m : Nd} {left : List Pr} {k : List UInt8} (h : Mo i n left) (hf : Full m) (hp : prsT m = (prsT n).filter fun p => decide (p.k ≠ k)) (hz : sz m ≤ sz n) : Mo (i + 1) m (left.filter fun p => decide (p.k ≠ k)) :=
  ⟨hf, fun y => by rw [hp, List.mem_filter, List.mem_filter, h.mem], by have := h.len; have := filter_len (left := left) (fun p => decide (p.k ≠ k)); omega, fun p hp => h.small p (List.mem_filter.1 hp).1, by have := h.size; omega⟩
theorem Mo.put {i : Nat} {n m : Nd} {left : List Pr} {p : Pr} (h : Mo i n left) (hf : Full m) (hp : prsT m = insP (prsT n) p) (hz : sz m ≤ sz n + 130 + 2 * p.k.length + p.v.length) (h1 : p.k.length ≤ 200) (h2 : p.v.length ≤ 4000) : Mo (i + 1) m ((left.filter fun y => decide (y.k ≠ p.k)) ++ [p]) :=
  ⟨hf, fun y => by
    rw [hp, insP_mem (prs_ris h.full), List.mem_append, List.mem_filter, h.mem, decide_eq_true_eq, List.mem_singleton]
    exact Or.comm, by have := h.len; have := filter_len (left := left) (fun y => decide (y.k ≠ p.k)); rw [List.length_append, List.length_singleton]; omega, fun y hy => by
    rcases List.mem_append.1 hy with hy | hy
    · exact h.small y (List.mem_filter.1 hy).1
    · rw [List.mem_singleton] at hy; rw [hy]; exact ⟨h1, h2⟩, by have := h.size; omega⟩
theorem Mo.of {i : Nat} {n : Nd} {left : List Pr} (h : Mo i n left) : ((n, 0) : Nd × Int) = tOf left := by
  have hl : longPr left = false := by
    unfold longPr
    rw [List.any_eq_false]
    intro p hp
    have := h.small p hp
    rw [decide_eq_true_eq]; omega
  obtain ⟨e, hF, hr⟩ := tOf_prs hl
  have h1 : n = (tOf left).1 := prs_inj h.full hF (by rw [hr]; exact (rising_same (prs_ris h.full) (fun y => (h.mem y).symm)).symm)
  exact Prod.ext h1 e.symm
end Go.Proofs.Ytkfbkhahkkmcoaa
namespace Go.Proofs.Ytkfbkhahkkmcoaa
open Go.RowKit


theorem dPrs_take : ∀ (l : List Pr) (k : Nat), (dPrs l).take (k * 2) = dPrs (l.take k)
  | l, 0 => by simp [dPrs]
  | [], k + 1 => by simp [dPrs]
  | p :: l, k + 1 => by
    have h := dPrs_take l k
    show (dB p.k :: dB p.v :: dPrs l).take _ = dB p.k :: dB p.v :: dPrs (l.take k)
    rw [show (k + 1) * 2 = k * 2 + 1 + 1 by omega, List.take_succ_cons, List.take_succ_cons, h]
theorem RdD.cutPr {W : World} {F : Nat → Prop} {l : List Pr} {A : Option Addr} {n c i j : Nat} (h : RdD W F (dPl l) (.slice A n c)) (hij : i ≤ j) (hj : j ≤ n) : RdD W F (dPl ((l.drop i).take (j - i))) (.slice (slA A c i 2) (j - i) (c - i)) := by
  have hn := h.slen
  have h2 := h.cut (m := c) hij hj (Nat.le_trans hj h.scap)
  have e2 : ((l.drop i).take (j - i)).length = j - i := by rw [List.length_take, List.length_drop]; omega
  rw [dPrs_drop, dPrs_take] at h2
  unfold dPl
  rw [e2]
  exact h2
theorem sel_len (a b : List UInt8) (l : List Pr) : (selR a b l).length ≤ l.length := List.length_filter_le _ _
theorem take_min {α : Type} (l : List α) (m : Nat) : l.take m = l.take (min m l.length) := by
  rcases Nat.le_total m l.length with h | h
  · rw [Nat.min_eq_left h]
  · rw [Nat.min_eq_right h, List.take_of_length_le h, List.take_length]
theorem range_some {t : Nd} (h : Full t) (low high : List UInt8) (m : Nat) : rangeP t low high (m : Int) false = ⟨(selR low high (prsT t)).take (min m (selR low high (prsT t)).length), none, 0⟩ := by
  rw [range_full h _ _ (by omega)]
  dsimp only
  rw [Int.toNat_natCast, take_min]
end Go.Proofs.Ytkfbkhahkkmcoaa
namespace Go.Proofs.Ytkfbkhahkkmcoaa
open Go.RowKit


theorem insP_ne (l : List Pr) (p : Pr) : insP l p ≠ [] := by
  cases l with
  | nil => simp [insP]
  | cons x r => rw [insP]; split <;> (try split) <;> simp
theorem fold_ne : ∀ (l o : List Pr), o ≠ [] → l.foldl insP o ≠ []
  | [], o, h => h
  | p :: l, o, _ => fold_ne l _ (insP_ne o p)
theorem rising_nil {l : List Pr} (h : (risingP l).length = 0) : l.length = 0 := by
  cases l with
  | nil => rfl
  | cons p l => exact absurd (List.length_eq_zero_iff.1 h) (fold_ne l _ (insP_ne [] p))
set_option maxRecDepth 100000 in
set_option maxHeartbeats 8000000 in
theorem seekParts_walk (w : World) {A0 : Option Addr} {n0 c0 : Nat} {l : List Pr} (g0 : RdD w (Fd w []) (dPl l) (.slice A0 n0 c0)) (b0 : (l.map fun t => t.k.length + t.v.length + 3).sum ≤ 1048576) {A1 : Option Addr} {n1 c1 : Nat} {key : List UInt8} (g1 : RdD w (Fd w []) (dB key) (.slice A1 n1 c1)) (_b1 : key.length ≤ 1048576) :
    Calls Try.prog 5 #[.slice A0 n0 c0, .slice A1 n1 c1] w (RetTrue w) := by
  refine calls_ev (args := [.slice A0 n0 c0, .slice A1 n1 c1]) mixed Try.func5 rfl (by kernel_rfl) ?_
  have hu := longN_up l
  have en0 := g0.slen
  have en1 := g1.slen
  subst en0; subst en1
  have M := ((St.start (w := w) (gs := []) (fun b h => by cases h)).addD g1).addD g0
  clear g0 g1
  have hbl := prBulk_up l
  obtain ⟨T, hT⟩ : ∃ T, T = tOf l := ⟨_, rfl⟩
  have hTz0 := tOf_sz l
  rw [← hT] at hTz0
  refine cc is_r8of (r8of_any 401 (Nat.le_refl _) l _ _ _ _ _ (M.d1 0 rfl) M.olt (longN_big (by omega))) ?_
  rintro e W ⟨cs5, he, hres, hb⟩
  rw [← tOf_eq (Nat.le_refl _), ← hT] at he hres
  subst he
  have hc5 := hres.len
  rw [dN_len] at hc5
  replace M := (M.call hb).addL hres
  clear hres hb
  refine ⟨_, rfl, ?_⟩
  refine s_alloc (zN) M al_nd ?_
  clear M
  rintro g5 W M
  refine s_storeA 0 cs5 M rfl sz_nd rfl rfl hc5 ((M.da 0 rfl).ones (dN_one _)) rfl ?_
  clear M; rintro W M
  dsimp only [setL] at M
  refine cc is_long9 (long9_any l _ _ A0 _ _ (M.d1 1 rfl) M.olt (by omega)) ?_
  rintro e W ⟨he, hb⟩
  obtain ⟨q, hq⟩ : ∃ q, q = decide (longN l > 9000) := ⟨_, rfl⟩
  rw [← hq] at he
  subst he
  replace M := M.call hb
  clear hb
  refine ⟨_, rfl, ?_⟩
  cases q with
  | true =>
    refine cc is_kn9 (known9_any _) ?_
    rintro e W ⟨rfl, hb⟩
    replace M := M.call hb
    clear hb
    exact ⟨_, rfl, rfl, M.below⟩
  | false =>
  have hlong : ¬ longN l > 9000 := of_decide_eq_false hq.symm
  clear hq
  refine p_ne rfl rfl (fun hT2 => ?_) (fun _ => ?_)
  rotate_left
  ·
    refine cc is_kn9 (known9_any _) ?_
    rintro e W ⟨rfl, hb⟩
    replace M := M.call hb
    clear hb
    exact ⟨_, rfl, rfl, M.below⟩
  obtain ⟨hlp, hF, hr⟩ := of_ok hT hT2
  refine p_len slb rfl ?_
  refine p_gt rfl rfl (fun k1 => ?_) (fun k1 => ?_)
  ·
    refine cc is_kn9 (known9_any _) ?_
    rintro e W ⟨rfl, hb⟩
    replace M := M.call hb
    clear hb
    exact ⟨_, rfl, rfl, M.below⟩
  refine p_len slb rfl ?_
  refine p_eq rfl rfl (fun _ => ?_) (fun k0 => ?_)
  ·
    refine cc is_kn9 (known9_any _) ?_
    rintro e W ⟨rfl, hb⟩
    replace M := M.call hb
    clear hb
    exact ⟨_, rfl, rfl, M.below⟩
  have hkey : key ≠ [] := fun e => k0 (by rw [e]; rfl)
  have hTz : sz T.1 ≤ 200000 := by omega
  have hlr := longN_rising l
  refine cc is_rising (rising_any l _ _ _ _ _ (M.d1 1 rfl) M.olt (longN_big (by omega))) ?_
  rintro e W ⟨Ar, nr, cr, he, hres, hb⟩
  have hRis := rising_ris l
  have hnil := rising_nil (l := l)
  obtain ⟨r, hrr⟩ : ∃ r, r = risingP l := ⟨_, rfl⟩
  rw [← hrr] at hres hr hlr hRis hnil
  subst he
  have hnr := hres.slen
  subst hnr
  have hcap := hres.scap
  replace M := (M.call hb).addD hres
  clear hres hb
  refine ⟨_, rfl, ?_⟩
  have hrl : r.length ≤ 900 := by have := longN_len r; omega
  have e1 := range_some hF [] key (r.length + 1)
  have e2 := range_some hF key [] (r.length + 1)
  have s1 := sel_len [] key r
  have s2 := sel_len key [] r
  have hparts := parts key hRis hkey
  rw [hr] at e1 e2
  obtain ⟨S1, hS1⟩ : ∃ S, S = selR [] key r := ⟨_, rfl⟩
  obtain ⟨S2, hS2⟩ : ∃ S, S = selR key [] r := ⟨_, rfl⟩
  rw [← hS1] at e1 s1 hparts
  rw [← hS2] at e2 s2 hparts
  rw [show min (r.length + 1) S1.length = S1.length by omega, List.take_of_length_le (Nat.le_refl _)] at e1
  rw [show min (r.length + 1) S2.length = S2.length by omega, List.take_of_length_le (Nat.le_refl _)] at e2
  refine v_loadN cs5 agg_nd rfl hc5 (M.run 0 rfl) ?_
  refine p_len slp rfl ?_
  refine p_addN (b := 1) rfl rfl (by omega) ?_
  refine cc is_range (srange_row T.1 [] key _ (by omega) _ _ cs5 _ _ _ _ _ _ (M.da 1 rfl) (RdD.nil_ _ _) (M.d1 3 rfl) M.olt ⟨by omega, by omega⟩) ?_
  rintro e W ⟨A8, n8, c8, Am, nm, cm, he, rv, rm, hb⟩
  rw [e1] at he rv
  dsimp only at he rv
  subst he
  obtain ⟨hn8, xs, M'⟩ := M.callP hb rv
  replace M := M'; clear M'
  subst hn8
  clear rv rm hb
  refine ⟨_, rfl, ?_⟩
  refine v_loadN cs5 agg_nd rfl hc5 (M.run 0 rfl) ?_
  refine p_len slp rfl ?_
  refine p_addN (b := 1) rfl rfl (by omega) ?_
  refine cc is_range (srange_any T.1 key [] _ (by omega) _ _ cs5 _ _ _ _ _ _ (M.da 2 rfl) (M.d1 4 rfl) (RdD.nil_ _ _) M.olt ⟨by omega, by omega⟩) ?_
  rintro e W ⟨A9, n9, c9, Am2, nm2, cm2, he, rv, rm, hb⟩
  rw [e2] at he rv
  dsimp only at he rv
  subst he
  have hn9 := rv.slen
  subst hn9
  replace M := (M.call hb).addD rv
  clear rv rm hb
  refine ⟨_, rfl, ?_⟩
  obtain ⟨ys, hrd, hys⟩ := (M.d1 0 rfl).reads Fd.lt
  replace M := M.addL hys
  refine s_app M Try.underlying28 prinfo rfl (by decide) rfl rfl hrd (hys.ones (fun d hd => by unfold dPrs at hd; obtain ⟨x, _, hx⟩ := List.mem_flatMap.1 hd; simp only [dPr, List.mem_cons, List.not_mem_nil, or_false] at hx; rcases hx with rfl | rfl <;> trivial)) ⟨by omega, by decide⟩ ?_
  clear M hrd hys; rintro A7 c7 W M -
  have hX := (M.dw 2 rfl).app (M.dw 0 rfl)
  have hap : dPrs S1 ++ dPrs S2 = dPrs r := by rw [← hparts]; unfold dPrs; rw [List.flatMap_append]
  have hln : S1.length + S2.length = r.length := by rw [← List.length_append, hparts]
  rw [hap] at hX
  rw [hln] at M ⊢
  replace M := M.addT hX
  replace M := M.frzR (fr := false) (M.dt 0 rfl)
  refine p_ne rfl rfl (fun _ => ?_) (fun e => absurd rfl e)
  refine p_ne rfl rfl (fun _ => ?_) (fun e => absurd rfl e)
  refine cc is_r8sp (r8sp_any (r) (r) _ _ _ _ _ _ _ _ (M.d1 0 rfl) (M.d1 5 rfl) M.olt ⟨by omega, by omega⟩) ?_
  rintro e W ⟨q, rfl, hq, hb⟩
  obtain rfl := hq.2 rfl
  replace M := M.call hb
  clear hb hq
  refine ⟨_, rfl, ?_⟩
  refine p_not rfl ?_
  replace M := M.addD (d := dB []) (RdD.nil_ (s := 1) none 0)
  refine lp (Nat × Option Addr × Nat × Nat) (fun s W => s.1 ≤ r.length ∧ St w [] W [(g5, 25, cs5)] [] [.dat false [dB (atS r s.1)] [.slice s.2.1 s.2.2.1 s.2.2.2], .dat false [dPl r] [.slice Ar r.length cr], .dat false (dN T.1) cs5])
    (fun s => [(0, .slice A0 l.length c0), (5, .pointer (some ⟨g5, 0, none⟩)), (7, .slice Ar r.length cr), (14, .slice s.2.1 s.2.2.1 s.2.2.2), (15, .int .i64 s.1)]) (fun s => r.length - s.1) (0, none, 0, 0) ⟨Nat.zero_le _, M.fsub _ (by simp [atS])⟩ (by repeat (first | exact trivial | refine ⟨rfl, ?_⟩)) ?_
  clear M
  rintro ⟨i, A3, n3, c3⟩ E5 W5 ⟨hi, M⟩
  dsimp only at hi M
  have hsel := atS_sel hRis hi
  have hal : (atS r i).length = n3 := (M.d1 0 rfl).slen.symm
  refine p_len slp rfl ?_
  refine p_lt rfl rfl (fun hlt => ?_) (fun hge => ?_)
  · dsimp only at hlt
    have hlt' : i < r.length := by omega
    obtain ⟨p, hp⟩ : ∃ p, r[i]? = some p := ⟨_, List.getElem?_eq_getElem hlt'⟩
    have hp1 := List.getElem?_eq_some_iff.1 hp
    have hpl := longN_mem (List.mem_of_getElem? hp)
    have hdr : r.drop i = p :: r.drop (i + 1) := by rw [List.drop_eq_getElem_cons hp1.1, hp1.2]
    have hat : atS r (i + 1) = p.k ++ [0] := by rw [atS, hp]
    have hfr := from_full hF (atS r i)
    rw [hr, hsel, hdr] at hfr
    dsimp only at hfr
    have hatl : (atS r i).length ≤ 10000 := by
      cases i with
      | zero => simp [atS]
      | succ j =>
        rw [atS]
        cases hj : r[j]? with
        | none => simp
        | some q =>
          have := longN_mem (List.mem_of_getElem? hj)
          dsimp only
          rw [List.length_append, List.length_singleton]
          omega
    refine v_loadN cs5 agg_nd rfl hc5 (M.run 0 rfl) ?_
    refine cc is_from (sfrom_any T.1 (atS r i) (by omega) _ _ cs5 _ _ _ (M.da 2 rfl) (M.d1 0 rfl) M.olt (show n3 ≤ 500000 by omega)) ?_
    rintro e W ⟨ps, Am1, nm1, cm1, he, rv, rm, hb⟩
    rw [hfr] at he rv
    dsimp only at he rv
    subst he
    obtain ⟨Ak, ck, Av, cv, rfl, h1, h2⟩ := rv.pair
    replace M := ((M.call hb).addD h2).addD h1
    clear rv rm hb h1 h2
    refine ⟨_, rfl, ?_⟩
    refine s_alloc (zP) M al_pr ?_
    clear M
    rintro g16 W M
    refine s_storeA 0 (pcs p Ak ck Av cv) M rfl sz_pr rfl rfl rfl (all1 rfl) rfl ?_
    clear M; rintro W M
    dsimp only [setL] at M
    have hcut := (M.d1 3 rfl).cutPr (i := i) (j := i + 1) (by omega) (by omega)
    rw [show (r.drop i).take (i + 1 - i) = [p] by rw [hdr, show i + 1 - i = 1 by omega]; rfl] at hcut
    replace M := (M.addD hcut).drew
    clear hcut
    refine drT (Kp w [] [(g16, 43, pcs p Ak ck Av cv), (g5, 25, cs5)] []) (.take 0 (.take 1 (.take 2 (.take 3 (.take 4 (.take 5 (.take 6 (.take 7 (.take 9 (.take 10 (.take 11 (.take 12 (.take 13 (.one 8 (.one 14 (.take 15 (.take 16 (.nil)))))))))))))))))) (by kernel_rfl) (M.kp (by simp) (by simp)) ?_
    refine p_ne rfl rfl (fun _ => ?_) (fun e => absurd rfl e)
    refine p_not rfl ?_
    refine t_loadN (pcs p Ak ck Av cv) agg_pr rfl rfl (fun W K => K.run 0 rfl) ?_
    refine p_addN (b := 1) rfl rfl (by omega) ?_
    refine p_slice (i := i) (j := i + 1) (m := cr) slp rfl (bnd_i rfl) (bnd_i rfl) rfl rfl (by omega) (by omega) (Nat.le_refl _) ?_
    refine s_bslice (pcs p Ak ck Av cv) (fr := false) (ds := dPrs [p]) M slp z_pr rfl (by decide) rfl (RdL.cons (M.dw 1 rfl).hd (M.dw 2 rfl)) rfl ?_
    clear M; rintro g9 W M
    refine ⟨(M.kp (by simp) (by simp)), ?_⟩
    refine cc is_r8sp (r8sp_any [p] [p] _ _ _ _ _ _ _ _ (M.d1 0 rfl) (M.d1 1 rfl) M.olt ⟨show 1 ≤ 1000000000 by decide, show 1 ≤ 1000000000 by decide⟩) ?_
    rintro e W ⟨q, rfl, hq, hb⟩
    obtain rfl := hq.2 rfl
    replace M := M.call hb
    clear hb hq
    refine ⟨_, rfl, (M.kp (by simp) (by simp)), ?_⟩
    refine p_not rfl ?_
    refine p_fld fP0 rfl ?_
    refine v_load agg_b rfl ((M.B 0 rfl).at_ rfl) ?_
    refine cc is_copy0 (copy_any _ _ _ p.k _ (M.rdb 2 rfl).2.2 (by omega)) ?_
    rintro e W ⟨A8, c8, rfl, o8, hb⟩
    replace M := M.callR (r := ⟨5, 1, A8, p.k.length, c8, bvs p.k⟩) hb o8
    clear o8 hb
    refine ⟨_, rfl, ?_⟩
    refine s_litB [.int .u8 0] [0] M (by decide) rfl rfl rfl ?_
    clear M; rintro g9 W M
    replace M := M.frzO
    refine s_appB M rfl rfl (M.rdb 0 rfl).2.2 (show p.k.length + 1 ≤ 1000000000 by omega) ?_
    clear M; rintro A6 c6 W M -
    replace M := M.frzO
    rw [← hat] at M
    replace M := M.addD (M.d1 0 rfl)
    refine p_addN (b := 1) rfl rfl (by omega) ?_
    exact ⟨(i + 1, A6, p.k.length + 1, c6), ⟨by dsimp only; omega, M.dropL.fsub _ (by simp)⟩, (by repeat (first | exact trivial | refine ⟨rfl, ?_⟩)), by dsimp only; omega⟩
  · dsimp only at hge
    have hin : i = r.length := by omega
    subst hin
    have hfr := from_full hF (atS r r.length)
    rw [hr, hsel, List.drop_length] at hfr
    dsimp only at hfr
    have hatl : (atS r r.length).length ≤ 10000 := by
      cases hrn : r.length with
      | zero => simp [atS]
      | succ j =>
        rw [atS]
        cases hj : r[j]? with
        | none => simp
        | some q =>
          have := longN_mem (List.mem_of_getElem? hj)
          dsimp only
          rw [List.length_append, List.length_singleton]
          omega
    refine v_loadN cs5 agg_nd rfl hc5 (M.run 0 rfl) ?_
    refine cc is_from (sfrom_any T.1 (atS r r.length) (by omega) _ _ cs5 _ _ _ (M.da 2 rfl) (M.d1 0 rfl) M.olt (show n3 ≤ 500000 by omega)) ?_
    rintro e W ⟨ps, Am1, nm1, cm1, he, rv, rm, hb⟩
    rw [hfr] at he rv
    dsimp only at he rv
    subst he
    obtain ⟨Ak, ck, Av, cv, rfl, -, -⟩ := rv.pair
    replace M := M.call hb
    clear rv rm hb
    refine ⟨_, rfl, ?_⟩
    refine s_alloc (zP) M al_pr ?_
    clear M
    rintro g16 W M
    refine s_storeA 0 (pcs ⟨[], []⟩ Ak ck Av cv) M rfl sz_pr rfl rfl rfl (all1 rfl) rfl ?_
    clear M; rintro W M
    dsimp only [setL] at M
    refine p_eq rfl rfl (fun _ => ?_) (fun e => absurd rfl e)
    refine p_len slp rfl ?_
    refine p_eq rfl rfl (fun h0 => ?_) (fun _ => ?_)
    · have hl0 := hnil (by omega)
      refine p_len slp rfl ?_
      refine p_gt rfl rfl (fun h => absurd (show ((l.length : Nat) : Int) > 0 from h) (by omega)) (fun _ => ?_)
      refine p_beqC u_bool rfl rfl (fun _ => ?_) (fun e => absurd rfl e)
      refine cc is_kn9 (known9_any _) ?_
      rintro e W ⟨rfl, hb⟩
      replace M := M.call hb
      clear hb
      exact ⟨_, rfl, rfl, M.below⟩
    ·
      refine p_beqC u_bool rfl rfl (fun _ => ?_) (fun e => absurd rfl e)
      refine cc is_kn9 (known9_any _) ?_
      rintro e W ⟨rfl, hb⟩
      replace M := M.call hb
      clear hb
      exact ⟨_, rfl, rfl, M.below⟩
end Go.Proofs.Ytkfbkhahkkmcoaa
