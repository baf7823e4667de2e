/- Tries of which something is folded, plainly. No walk here. Lists of bytes as bytes: the walk of vint.Split. Numbers and bytes in one way: plain laws of what stands at a place. Lists of bytes as bytes: plain laws: what is joined is split as it was, what is split is joined as it was, one byte more, one byte less. The walks of the laws NodeFolds and NodeDigests. Memory that is written over, but keeps its kinds; the walk of reference 00's Spoil. The walk of the law NodeSame. Nodes' bytes, plainly: what is written is read. The walk of the law NodeBack. What the rows' list of package variables gives: the tables of digest. -/
import Derived.Test.YtojjfkbffjkojaaDoorG13
import Derived.Test.YtojjfkbffjkojaaDoorG09
import Derived.Test.YtojjfkbffjkojaaDoorG07
import Derived.Test.YtojjfkbffjkojaaDoorG11
import Derived.Test.YtojjfkbffjkojaaDoorG06
import Derived.Test.YtojjfkbffjkojaaDoorG04
import Derived.Test.YtojjfkbffjkojaaDoorG05
import Derived.Test.YtojjfkbffjkojaaDoorG08
import Derived.Test.YtojjfkbffjkojaaDoorRows
import Derived.Lib.LaidTab
import Derived.MakeChecks
namespace Go.Proofs.YtojjfkbffjkojaaDoor
/-- The second one, with something folded. -/
inductive Fo : Nd → Nd → Prop
  | refl (t : Nd) : Fo t t
  | stub (t : Nd) (h0 : t.kind ≠ 0) : Fo (.mk 4 [] false [] [] (hashP t)) t
  | way (p : List UInt8) {k k' : Nd} (h : Fo k k') : Fo (.mk 2 p false [] [k] []) (.mk 2 p false [] [k'] [])
  | branch (has : Bool) (v : List UInt8) (ks ks' : List Nd) (hl : ks.length = ks'.length) (h : ∀ (i : Nat) (k k' : Nd), ks[i]? = some k → ks'[i]? = some k' → Fo k k') : Fo (.mk 3 [] has v ks []) (.mk 3 [] has v ks' [])
theorem Fo.kind {m n : Nd} (h : Fo m n) : (m.kind = 0 ↔ n.kind = 0) ∧ (m.kind ≠ 4 → m.kind = n.kind) := by
  cases h with
  | refl => exact ⟨Iff.rfl, fun _ => rfl⟩
  | stub _ h0 => exact ⟨⟨fun e => absurd (show (4 : Int) = 0 from e) (by decide), fun e => absurd e h0⟩, fun e => absurd rfl e⟩
  | way => exact ⟨⟨fun e => absurd (show (2 : Int) = 0 from e) (by decide), fun e => absurd (show (2 : Int) = 0 from e) (by decide)⟩, fun _ => rfl⟩
  | branch => exact ⟨⟨fun e => absurd (show (3 : Int) = 0 from e) (by decide), fun e => absurd (show (3 : Int) = 0 from e) (by decide)⟩, fun _ => rfl⟩
/-- Kids, each the other's or folded. -/
def Fos (ks ks' : List Nd) : Prop := ks.length = ks'.length ∧ ∀ (i : Nat) (k k' : Nd), ks[i]? = some k → ks'[i]? = some k' → Fo k k'
theorem Fos.refl (ks : List Nd) : Fos ks ks := ⟨rfl, fun i k k' h h' => by rw [h] at h'; injection h' with h'; rw [h']; exact .refl _⟩
theorem Fos.set {ks ks' : List Nd} (h : Fos ks ks') {a b : Nd} (hab : Fo a b) (i : Nat) : Fos (ks.set i a) (ks'.set i b) := by
  refine ⟨by rw [List.length_set, List.length_set]; exact h.1, fun j k k' hk hk' => ?_⟩
  by_cases e : i = j
  · subst e
    have h1 := (List.getElem?_eq_some_iff.1 hk).1
    have h2 := (List.getElem?_eq_some_iff.1 hk').1
    rw [List.length_set] at h1 h2
    rw [List.getElem?_set_self h1] at hk
    rw [List.getElem?_set_self h2] at hk'
    injection hk with hk; injection hk' with hk'
    rw [← hk, ← hk']; exact hab
  · rw [List.getElem?_set_ne e] at hk hk'
    exact h.2 j k k' hk hk'
theorem Fos.tail {k k' : Nd} {ks ks' : List Nd} (h : Fos (k :: ks) (k' :: ks')) : Fo k k' ∧ Fos ks ks' :=
  ⟨h.2 0 k k' rfl rfl, by have := h.1; simpa using this, fun i a b h1 h2 => h.2 (i + 1) a b (by simpa using h1) (by simpa using h2)⟩
theorem Fos.many : ∀ {ks ks' : List Nd}, Fos ks ks' → manyN ks = manyN ks'
  | [], [], _ => rfl
  | [], _ :: _, h => by have := h.1; simp at this
  | _ :: _, [], h => by have := h.1; simp at this
  | k :: ks, k' :: ks', h => by
    obtain ⟨h1, h2⟩ := h.tail
    rw [many_cons, many_cons, Fos.many h2]
    by_cases e : k.kind = 0
    · rw [if_pos e, if_pos (h1.kind.1.1 e)]
    · rw [if_neg e, if_neg (fun e' => e (h1.kind.1.2 e'))]
theorem Fos.scan {has : Bool} : ∀ {ks ks' : List Nd} {i : Nat} {o : Option Nat}, Fos ks ks' → scanK has ks i o = scanK has ks' i o
  | [], [], _, _, _ => rfl
  | [], _ :: _, _, _, h => by have := h.1; simp at this
  | _ :: _, [], _, _, h => by have := h.1; simp at this
  | k :: ks, k' :: ks', i, o, h => by
    obtain ⟨h1, h2⟩ := h.tail
    rw [scanK, scanK]
    by_cases e : k.kind = 0
    · rw [if_pos e, if_pos (h1.kind.1.1 e), Fos.scan h2]
    · rw [if_neg e, if_neg (fun e' => e (h1.kind.1.2 e')), Fos.scan h2]
theorem Fo.val {even : Bool} {m n : Nd} (h : Fo m n) : ∀ d, Val even n d → Val even m d := by
  induction h with
  | refl => exact fun d h => h
  | stub t h0 => exact fun d h => .stub d _ h.le (hashP_len h)
  | way p h ih =>
    intro d hv
    cases hv with
    | way _ _ _ hd hp h0 hk hr =>
      refine .way d p _ hd hp h0 ?_ (ih _ hr)
      rename_i k k'
      by_cases h4 : k.kind = 4
      · exact .inr h4
      · rw [h.kind.2 h4]; exact hk
  | branch has v ks ks' hl h ih =>
    intro d hv
    cases hv with
    | branch _ _ _ _ hd hv hv0 he h16 hr hm =>
      refine .branch d has v ks hd hv hv0 he (hl.trans h16) (fun k hk => ?_) (by rw [Fos.many ⟨hl, h⟩]; exact hm)
      obtain ⟨i, hi⟩ := List.getElem?_of_mem hk
      have hi' := (List.getElem?_eq_some_iff.1 hi).1
      have hk' : ks'[i]? = some (ks'[i]'(by omega)) := List.getElem?_eq_getElem (by omega)
      exact ih i k _ hi hk' _ (hr _ (List.mem_of_getElem? hk'))
theorem hashes_eq : ∀ {ks ks' : List Nd}, ks.length = ks'.length → (∀ (i : Nat) (k k' : Nd), ks[i]? = some k → ks'[i]? = some k' → (k.kind = 0 ↔ k'.kind = 0) ∧ hashP k = hashP k') → hashesP ks = hashesP ks'
  | [], [], _, _ => rfl
  | [], _ :: _, h, _ => by simp at h
  | _ :: _, [], h, _ => by simp at h
  | k :: ks, k' :: ks', h, hh => by
    obtain ⟨h1, h2⟩ := hh 0 k k' rfl rfl
    rw [hashesP, hashesP, hashes_eq (by simpa using h) (fun i a b ha hb => hh (i + 1) a b (by simpa using ha) (by simpa using hb)), h2]
    by_cases e : k.kind = 0
    · rw [if_neg (fun x => x e), if_neg (fun x => x (h1.1 e))]
    · rw [if_pos e, if_pos (fun x => e (h1.2 x))]
theorem kbit_eq {ks ks' : List Nd} (h : Fos ks ks') (i : Nat) : kbit ks i = kbit ks' i := by
  unfold kbit
  have : ((ks.getD i noneN).kind ≠ 0) ↔ ((ks'.getD i noneN).kind ≠ 0) := by
    rw [List.getD_eq_getElem?_getD, List.getD_eq_getElem?_getD]
    rcases Nat.lt_or_ge i ks.length with hi | hi
    · have h1 : ks[i]? = some (ks[i]'hi) := List.getElem?_eq_getElem hi
      have h2 : ks'[i]? = some (ks'[i]'(by have := h.1; omega)) := List.getElem?_eq_getElem (by have := h.1; omega)
      rw [h1, h2]
      exact not_congr (h.2 i _ _ h1 h2).kind.1
    · rw [List.getElem?_eq_none hi, List.getElem?_eq_none (by have := h.1; omega)]
  by_cases e : (ks.getD i noneN).kind ≠ 0
  · rw [if_pos e, if_pos (this.1 e)]
  · rw [if_neg e, if_neg (fun x => e (this.2 x))]
theorem kbits_eq {ks ks' : List Nd} (h : Fos ks ks') : ∀ i, kbits ks i = kbits ks' i
  | 0 => rfl
  | i + 1 => by rw [kbits, kbits, kbits_eq h i, kbit_eq h i]
theorem Fo.hash {m n : Nd} (h : Fo m n) : hashP m = hashP n := by
  induction h with
  | refl => rfl
  | stub t h0 => rw [hashP_eq]; exact if_pos rfl
  | @way p k k' h ih =>
    rw [hashP, hashP, if_neg (by decide), if_neg (by decide), hashes_eq (ks := [k]) (ks' := [k']) rfl (fun i a b ha hb => by
      match i, ha, hb with
      | 0, ha, hb =>
        simp at ha hb
        subst ha; subst hb
        exact ⟨h.kind.1, ih⟩)]
    rfl
  | branch has v ks ks' hl h ih =>
    rw [hashP, hashP, if_neg (by decide), if_neg (by decide), hashes_eq hl (fun i a b ha hb => ⟨(h i a b ha hb).kind.1, ih i a b ha hb⟩)]
    unfold encF
    rw [kbits_eq ⟨hl, h⟩ 16]
theorem ends_down {even : Bool} {d e : Nat} (h : endsP d even = true) (he : e ≤ d) : endsP e false = true := by
  have := endsP_le h
  unfold endsP
  rw [decide_eq_true (show e ≤ 400 by omega)]; rfl
theorem val_down {even : Bool} {t : Nd} {d : Nat} (h : Val even t d) : ∀ e, e ≤ d → Val false t e := by
  induction h with
  | none d hd => exact fun e he => .none e (by omega)
  | leaf d p v hd hp hv hend => exact fun e he => .leaf e p v (by omega) hp hv (ends_down hend (by omega))
  | stub d h hd hh => exact fun e he => .stub e h (by omega) hh
  | way d p k hd hp h0 hk hr ih => exact fun e he => .way e p k (by omega) hp h0 hk (ih _ (by omega))
  | branch d has v ks hd hv hv0 hend h16 hr hm ih => exact fun e he => .branch e has v ks (by omega) hv hv0 (fun x => ends_down (hend x) he) h16 (fun k hk => ih k hk _ (by omega)) hm
theorem hashR_val {even : Bool} {t : Nd} {d : Nat} (h : Val even t d) : hashR t = hashP t := by
  unfold hashR
  rw [right_of_val (val_down h 0 (Nat.zero_le _)), if_pos rfl]
theorem fold_fo {even : Bool} {t : Nd} {d : Nat} (h : Val even t d) : Fo (foldN t) t := by
  unfold foldN
  by_cases e : t.kind = 0
  · rw [if_pos e, kind0 h e]; exact .refl _
  · rw [if_neg e, hashR_val h]; exact .stub t e
theorem Fo.get {even : Bool} {m n : Nd} (h : Fo m n) : ∀ d, Val even n d → ∀ q, halvesB q = true → getP m q = getP n q ∨ ∃ r, (getP m q).miss = some r ∧ r <+: q := by
  induction h with
  | refl => exact fun _ _ _ _ => .inl rfl
  | stub t h0 => exact fun _ _ q _ => .inr ⟨[], by rw [getP_stub], List.nil_prefix⟩
  | way p h ih =>
    intro d hv q hq
    cases hv with
    | way _ _ _ hd hp h0 hk hr =>
      by_cases hpq : p <+: q
      · rw [getP_way hpq, getP_way hpq]
        rcases ih _ hr (q.drop p.length) (halvesB_drop hq) with e | ⟨r, e1, e2⟩
        · exact .inl (by rw [e])
        · refine .inr ⟨p ++ r, by simp only [e1]; rfl, ?_⟩
          obtain ⟨s, rfl⟩ := hpq
          rw [List.drop_left] at e2
          exact (List.prefix_append_right_inj _).2 e2
      · exact .inl (by rw [getP_way0 hpq, getP_way0 hpq])
  | branch has v ks ks' hl h ih =>
    intro d hv q hq
    cases hv with
    | branch _ _ _ _ hd hv hv0 he h16 hr hm =>
      match q, hq with
      | [], _ => exact .inl (by rw [getP_br0, getP_br0])
      | x :: q', hq =>
        have hx := halves_hd hq
        obtain ⟨k, hk⟩ : ∃ k, ks[x.toNat]? = some k := ⟨_, List.getElem?_eq_getElem (by omega)⟩
        obtain ⟨k', hk'⟩ : ∃ k', ks'[x.toNat]? = some k' := ⟨_, List.getElem?_eq_getElem (by omega)⟩
        rw [getP_br hk, getP_br hk']
        rcases ih _ k k' hk hk' _ (hr k' (List.mem_of_getElem? hk')) q' (by have := halvesB_drop (n := 1) hq; simpa using this) with e | ⟨r, e1, e2⟩
        · exact .inl (by rw [e])
        · exact .inr ⟨x :: r, by simp only [e1]; rfl, List.cons_prefix_cons.2 ⟨rfl, e2⟩⟩
theorem Fo.along {a b : Nd} (h : Fo a b) (p : List UInt8) : Fo (alongN p a) (alongN p b) := by
  unfold alongN
  split
  · exact h
  · exact .way p h
theorem Fos.hold {ks ks' : List Nd} (h : Fos ks ks') (has : Bool) (v p val : List UInt8) : (holdK has v ks p val).1 = (holdK has v ks' p val).1 ∧ (holdK has v ks p val).2.1 = (holdK has v ks' p val).2.1 ∧ Fos (holdK has v ks p val).2.2 (holdK has v ks' p val).2.2 := by
  cases p with
  | nil => exact ⟨rfl, rfl, h⟩
  | cons x r => exact ⟨rfl, rfl, h.set (.refl _) _⟩
theorem Fo.fork {k k' : Nd} (h : Fo k k') (p q val : List UInt8) : Fo (forkN (.mk 2 p false [] [k] []) q val) (forkN (.mk 2 p false [] [k'] []) q val) := by
  unfold forkN
  simp only [Nd.path, Nd.kind, Nd.val, Nd.kids, List.headD_cons, Int.reduceEq, if_false]
  refine Fo.along ?_ _
  obtain ⟨h1, h2, h3⟩ := ((Fos.refl (noneNs 16)).set (h.along (p.drop (commonB p q + 1))) (p.getD (commonB p q) 0).toNat).hold false [] (q.drop (commonB p q)) val
  rw [h1, h2]
  exact .branch _ _ _ _ h3.1 h3.2
theorem Fo.put {even : Bool} {m n : Nd} (h : Fo m n) : ∀ d, Val even n d → ∀ q val, halvesB q = true → (getP m q).miss = none → Fo (putP m q val).1 (putP n q val).1 := by
  induction h with
  | refl => exact fun _ _ _ _ _ _ => .refl _
  | stub t h0 => intro _ _ q _ _ hm; rw [getP_stub] at hm; cases hm
  | way p h ih =>
    intro d hv q val hq hm
    cases hv with
    | way _ _ _ hd hp h0 hk hr =>
      by_cases hpq : p <+: q
      · rw [getP_way hpq] at hm
        rw [putP_way hpq, putP_way hpq]
        exact .way p (ih _ hr _ val (halvesB_drop hq) (by simpa using hm))
      · rw [putP_way0 hpq, putP_way0 hpq]
        exact h.fork p q val
  | branch has v ks ks' hl h ih =>
    intro d hv q val hq hm
    cases hv with
    | branch _ _ _ _ hd hv hv0 he h16 hr hm' =>
      match q, hq, hm with
      | [], _, _ => rw [putP_br0, putP_br0]; exact .branch _ _ _ _ hl h
      | x :: q', hq, hm =>
        have hx := halves_hd hq
        obtain ⟨k, hk⟩ : ∃ k, ks[x.toNat]? = some k := ⟨_, List.getElem?_eq_getElem (by omega)⟩
        obtain ⟨k', hk'⟩ : ∃ k', ks'[x.toNat]? = some k' := ⟨_, List.getElem?_eq_getElem (by omega)⟩
        rw [getP_br hk] at hm
        rw [putP_br hk, putP_br hk']
        have := Fos.set (ks := ks) (ks' := ks') ⟨hl, h⟩ (ih _ k k' hk hk' _ (hr k' (List.mem_of_getElem? hk')) q' val (by have := halvesB_drop (n := 1) hq; simpa using this) (by simpa using hm)) x.toNat
        exact .branch _ _ _ _ this.1 this.2
theorem Fo.behind {a b : Nd} (h : Fo a b) (h4 : a.kind ≠ 4) (p : List UInt8) : Fo (behindN p a) (behindN p b) := by
  cases h with
  | refl => exact .refl _
  | stub => exact absurd rfl h4
  | way p' h => rw [behind_way, behind_way]; exact .way _ h
  | branch has v ks ks' hl h => rw [behind_br, behind_br]; exact (Fo.branch has v ks ks' hl h).along p
theorem Fos.settle {ks ks' : List Nd} (h : Fos ks ks') (h16 : ks.length = 16) (has : Bool) (v : List UInt8) (hm : (settleP (.mk 3 [] has v ks [])).2 = none) : Fo (settleP (.mk 3 [] has v ks [])).1 (settleP (.mk 3 [] has v ks' [])).1 := by
  unfold settleP at hm ⊢
  dsimp only [Nd.has, Nd.kids, Nd.val] at hm ⊢
  rw [← Fos.scan h]
  cases hs : scanK has ks 0 none with
  | none => exact .branch _ _ _ _ h.1 h.2
  | some o =>
    cases o with
    | none => exact .refl _
    | some i =>
      rw [hs] at hm
      dsimp only at hm ⊢
      have hi : i < ks.length := by
        rcases scan_lt hs with h | h
        · cases h
        · omega
      have h1 : ks[i]? = some (ks[i]'hi) := List.getElem?_eq_getElem hi
      have h2 : ks'[i]? = some (ks'[i]'(by have := h.1; omega)) := List.getElem?_eq_getElem (by have := h.1; omega)
      have e1 : ks.getD i noneN = ks[i]'hi := by rw [List.getD_eq_getElem?_getD, h1]; rfl
      have e2 : ks'.getD i noneN = ks'[i]'(by have := h.1; omega) := by rw [List.getD_eq_getElem?_getD, h2]; rfl
      simp only [e1, e2] at hm ⊢
      have hf := h.2 i _ _ h1 h2
      by_cases h4 : (ks[i]'hi).kind = 4
      · rw [if_pos h4] at hm; cases hm
      · rw [if_neg h4, if_neg (by rw [← hf.kind.2 h4]; exact h4)]
        exact hf.behind h4 _
theorem Fo.drop {even : Bool} {m n : Nd} (h : Fo m n) : ∀ d, Val even n d → ∀ q, halvesB q = true → (getP m q).has = true → (dropP m q).2 = none → (dropP n q).2 = none → Fo (dropP m q).1 (dropP n q).1 := by
  induction h with
  | refl => exact fun _ _ _ _ _ _ _ => .refl _
  | stub t h0 => intro _ _ q _ hm; rw [getP_stub] at hm; cases hm
  | @way p k k' h ih =>
    intro d hv q hq hg hm hn
    have hvm := (Fo.way p h).val d hv
    cases hv with
    | way _ _ _ hd hp h0 hk hr =>
      have hpre : p <+: q := by
        rcases Classical.em (p <+: q) with h | h
        · exact h
        · rw [getP_way0 h] at hg; cases hg
      rw [getP_way hpre] at hg
      rw [dropP_way] at hm
      rw [dropP_way, dropP_way]
      have hm' : (dropP k (q.drop p.length)).2 = none := by simpa using hm
      rw [dropP_way] at hn
      have := ih _ hr _ (halvesB_drop hq) hg hm' (by simpa using hn)
      refine this.behind ?_ p
      cases hvm with
      | way _ _ _ _ _ _ _ hr2 => exact ((drop_items hr2 _ (halvesB_drop hq) hg).1 hm').2.1
  | branch has v ks ks' hl h ih =>
    intro d hv q hq hg hmm hn
    have hvm := (Fo.branch has v ks ks' hl h).val d hv
    cases hv with
    | branch _ _ _ _ hd hv hv0 he h16 hr hm =>
      match q, hq, hg, hmm, hn with
      | [], _, _, hmm, _ =>
        rw [dropP_br0] at hmm
        rw [dropP_br0, dropP_br0]
        exact Fos.settle ⟨hl, h⟩ (by omega) _ _ hmm
      | x :: q', hq, hg, hmm, hn =>
        have hx := halves_hd hq
        obtain ⟨k, hk⟩ : ∃ k, ks[x.toNat]? = some k := ⟨_, List.getElem?_eq_getElem (by omega)⟩
        obtain ⟨k', hk'⟩ : ∃ k', ks'[x.toNat]? = some k' := ⟨_, List.getElem?_eq_getElem (by omega)⟩
        rw [getP_br hk] at hg
        rw [dropP_br hk] at hmm
        rw [dropP_br hk'] at hn
        rw [dropP_br hk, dropP_br hk']
        cases hd2 : (dropP k q').2 with
        | some r => rw [hd2] at hmm; simp at hmm
        | none =>
          have hd3 : (dropP k' q').2 = none := by
            cases hd3 : (dropP k' q').2 with
            | none => rfl
            | some r => rw [hd3] at hn; simp at hn
          have hq' : halvesB q' = true := by have := halvesB_drop (n := 1) hq; simpa using this
          have hF := ih _ k k' hk hk' _ (hr k' (List.mem_of_getElem? hk')) q' hq' hg hd2 hd3
          rw [hd2] at hmm
          rw [hd3]
          simp only [Option.isSome_none, Bool.false_eq_true, if_false] at hmm ⊢
          exact Fos.settle (Fos.set ⟨hl, h⟩ hF x.toNat) (by rw [List.length_set]; omega) _ _ hmm
mutual
theorem sz_foldN {even : Bool} {t : Nd} {d : Nat} (h : Val even t d) : sz (foldN t) ≤ sz t + 38 := by
  unfold foldN
  split
  · have e : sz noneN = 6 := rfl
    rw [e]; omega
  · rw [sz, hashR_val h, szs]
    have := hashP_len h
    simp only [List.length_nil]; omega
end
end Go.Proofs.YtojjfkbffjkojaaDoor
namespace Go.Proofs.YtojjfkbffjkojaaDoor

/-- Bytes that were written are read, wherever they stand. -/
theorem gb_put (p s r : List UInt8) (h : s.length ≤ 1048576) : gbE (p ++ (putB s ++ r)) (p.length : Int) = 0 ∧ gbL (p ++ (putB s ++ r)) (p.length : Int) = s ∧ gbTo (p ++ (putB s ++ r)) (p.length : Int) = ((p.length + (putB s).length : Nat) : Int) := by
  have e : putB s ++ r = putN s.length ++ (s ++ r) := by unfold putB; rw [List.append_assoc]
  rw [e]
  obtain ⟨g1, g2, g3⟩ := g_put p s.length (s ++ r) (by omega)
  obtain ⟨k1, k2, k3⟩ := gb_ok g1 (by rw [g2]; omega) (by rw [g2, g3]; simp only [List.length_append]; omega)
  refine ⟨k1, ?_, ?_⟩
  · rw [k2, g2, g3, Int.toNat_natCast, Int.toNat_natCast, ← List.append_assoc, List.drop_append_of_le_length (by simp), List.drop_of_length_le (by simp), List.nil_append, List.take_append_of_le_length (Nat.le_refl _), List.take_length]
  · rw [k3, g2, g3, putB_len]; omega
end Go.Proofs.YtojjfkbffjkojaaDoor
namespace Go.Proofs.YtojjfkbffjkojaaDoor
open Go.RowKit
def soft (v v' : Value) : Prop := v' = v ∨ (∃ (c c' : UInt8), v = u8v c ∧ v' = u8v c') ∨ (∃ x y : Int, v = .int .i64 x ∧ v' = .int .i64 y)
theorem soft.trans {a b c : Value} (h : soft a b) (k : soft b c) : soft a c := by
  rcases h with rfl | ⟨x, y, rfl, rfl⟩ | ⟨x, y, rfl, rfl⟩
  · exact k
  · rcases k with rfl | ⟨x', y', h1, rfl⟩ | ⟨x', y', h1, rfl⟩
    · exact .inr (.inl ⟨_, _, rfl, rfl⟩)
    · exact .inr (.inl ⟨_, _, rfl, rfl⟩)
    · unfold u8v at h1; injection h1 with h1; cases h1
  · rcases k with rfl | ⟨x', y', h1, rfl⟩ | ⟨x', y', h1, rfl⟩
    · exact .inr (.inr ⟨_, _, rfl, rfl⟩)
    · unfold u8v at h1; injection h1 with h1; cases h1
    · exact .inr (.inr ⟨_, _, rfl, rfl⟩)
theorem soft.byte {c : UInt8} {v : Value} (h : soft (u8v c) v) : ∃ c', v = u8v c' := by
  rcases h with rfl | ⟨x, y, _, rfl⟩ | ⟨x, y, h1, rfl⟩
  · exact ⟨c, rfl⟩
  · exact ⟨y, rfl⟩
  · unfold u8v at h1; injection h1 with h1; cases h1
theorem soft.sl {A : Option Addr} {n c : Nat} {v : Value} (h : soft (.slice A n c) v) : v = .slice A n c := by
  rcases h with rfl | ⟨x, y, h1, rfl⟩ | ⟨x, y, h1, rfl⟩
  · rfl
  · cases h1
  · cases h1
theorem soft.int {x : Int} {v : Value} (h : soft (.int .i64 x) v) : ∃ y, v = .int .i64 y := by
  rcases h with rfl | ⟨c, y, h1, rfl⟩ | ⟨x, y, h1, rfl⟩
  · exact ⟨_, rfl⟩
  · unfold u8v at h1; injection h1 with h1; cases h1
  · exact ⟨_, rfl⟩
/-- Only what lies in some blocks is written, and keeps its kind. -/
structure Tame (B : Nat → Prop) (W W' : World) : Prop where
  low : ∀ base, (∀ b, B b → base ≤ b) → Below base W W'
  size : W'.heap.size = W.heap.size
  out : ∀ b, ¬ B b → W'.heap[b]? = W.heap[b]?
  inn : ∀ a v, W.cell? a = some v → ∃ v', W'.cell? a = some v' ∧ soft v v'
  thaw : ∀ b, Thaw W b → Thaw W' b
theorem Tame.refl (B : Nat → Prop) (W : World) : Tame B W W := ⟨fun base _ => Below.refl _ _, rfl, fun _ _ => rfl, fun a v h => ⟨v, h, .inl rfl⟩, fun b h => h⟩
theorem Tame.trans {B : Nat → Prop} {W W1 W2 : World} (h : Tame B W W1) (k : Tame B W1 W2) : Tame B W W2 :=
  ⟨fun base hb => (h.low base hb).trans (k.low base hb), k.size.trans h.size, fun b hb => (k.out b hb).trans (h.out b hb), fun a v hv => by
    obtain ⟨v1, h1, s1⟩ := h.inn a v hv
    obtain ⟨v2, h2, s2⟩ := k.inn a v1 h1
    exact ⟨v2, h2, s1.trans s2⟩, fun b hb => k.thaw b (h.thaw b hb)⟩
theorem heap_set_at {W : World} {b o : Nat} {c : Array Value} {e : TypeId} {z : Nat × Nat} (v : Value) (h : W.heap[b]? = some (.cells c e z)) : (W.setCell ⟨b, o, none⟩ v).heap[b]? = some (.cells (c.setIfInBounds o v) e z) := by
  unfold World.setCell
  simp only [Array.getElem?_modify, h, if_pos]
  rfl
theorem cell_set {W : World} {b o : Nat} {old v : Value} (hc : W.cell? ⟨b, o, none⟩ = some old) {a : Addr} {u : Value} (ha : W.cell? a = some u) : (W.setCell ⟨b, o, none⟩ v).cell? a = some (if a.block = b ∧ a.off = o then v else u) := by
  by_cases hb : a.block = b
  · have hsp := World.cell?_spot ha
    obtain ⟨ab, ao, asp⟩ := a
    dsimp only at hb hsp ⊢
    subst hb
    subst hsp
    cases hh : W.heap[ab]? with
    | none => unfold World.cell? at ha; dsimp only at ha; rw [hh] at ha; cases ha
    | some ob =>
      cases ob with
      | cells c e z =>
        have h2 := heap_set_at (o := o) v hh
        unfold World.cell? at ha hc ⊢
        dsimp only at ha hc ⊢
        rw [hh] at ha hc
        rw [h2]
        simp only [Option.isSome_none, Bool.false_eq_true, if_false] at ha hc ⊢
        by_cases ho : ao = o
        · subst ho
          rw [if_pos (by simp), Array.getElem?_setIfInBounds_self_of_lt (Array.getElem?_eq_some_iff.1 hc).1]
        · rw [if_neg (fun h => ho h.2), Array.getElem?_setIfInBounds_ne (fun e => ho e.symm)]; exact ha
      | _ => unfold World.cell? at ha; dsimp only at ha; rw [hh] at ha; cases ha
  · rw [if_neg (fun h => hb h.1)]
    exact (World.cell?_of_block (w := W) (Below.heap_setCell W ⟨b, o, none⟩ v a.block hb)).trans ha
theorem Tame.set {B : Nat → Prop} {W W1 : World} (h : Tame B W W1) {b o : Nat} {old v : Value} (hB : B b) (hc : W1.cell? ⟨b, o, none⟩ = some old) (hs : soft old v) : Tame B W (W1.setCell ⟨b, o, none⟩ v) :=
  h.trans ⟨fun base hb => (Below.refl _ _).setCell (hb b hB) v, by unfold World.setCell; simp, fun k hk => Below.heap_setCell W1 ⟨b, o, none⟩ v k (fun e => hk (e ▸ hB)), fun a u hu => by
    refine ⟨_, cell_set hc hu, ?_⟩
    by_cases hab : a.block = b ∧ a.off = o
    · rw [if_pos hab]
      have hsp := World.cell?_spot hu
      obtain ⟨ab, ao, asp⟩ := a
      dsimp only at hab hsp
      obtain ⟨rfl, rfl⟩ := hab
      subst hsp
      rw [hc] at hu
      injection hu with hu
      rw [← hu]; exact hs
    · rw [if_neg hab]; exact .inl rfl, fun k hk => by
    by_cases e : k = b
    · subst e
      intro cs T z hz
      cases hh : W1.heap[k]? with
      | none => unfold World.cell? at hc; dsimp only at hc; rw [hh] at hc; cases hc
      | some ob =>
        cases ob with
        | cells c e z' =>
          rw [heap_set_at v hh] at hz
          injection hz with hz
          injection hz with _ _ hz
          rw [← hz]; exact hk c e z' hh
        | _ => unfold World.cell? at hc; dsimp only at hc; rw [hh] at hc; cases hc
    · exact hk.same (Below.heap_setCell W1 ⟨b, o, none⟩ v k e)⟩
/-- A slice of bytes, whichever they are. -/
def SoftRd (B : Nat → Prop) (W : World) (A : Option Addr) (n : Nat) : Prop := 0 < n → ∃ b off, A = some ⟨b, off, none⟩ ∧ B b ∧ ∀ j, j < n → ∃ c : UInt8, W.cell? ⟨b, off + j, none⟩ = some (u8v c)
theorem SoftRd.up {B : Nat → Prop} {W W' : World} {A : Option Addr} {n : Nat} (h : SoftRd B W A n) (t : Tame B W W') : SoftRd B W' A n := fun hn => by
  obtain ⟨b, off, e, hB, hc⟩ := h hn
  refine ⟨b, off, e, hB, fun j hj => ?_⟩
  obtain ⟨c, hc⟩ := hc j hj
  obtain ⟨v', h1, h2⟩ := t.inn _ _ hc
  obtain ⟨c', rfl⟩ := h2.byte
  exact ⟨c', h1⟩
theorem SoftRd.of {B F : Nat → Prop} {W : World} {A : Option Addr} {n c : Nat} {l : List UInt8} (h : RdD W F (dB l) (.slice A n c)) (hF : ∀ b, F b → B b) (hlt : ∀ b, F b → b < W.heap.size) : SoftRd B W A n := fun hn => by
  have e := h.slen
  obtain ⟨A', c', e1, _, hr⟩ := h.bytes hlt
  injection e1 with e1 e2 e3
  subst e1
  subst e2
  obtain ⟨b, off, rfl, _⟩ := hr.at_ (k := 0) (by omega)
  refine ⟨b, off, rfl, hF b (RdD.blk0 h hn), fun j hj => ?_⟩
  obtain ⟨b', off', e2, hc⟩ := hr.at_ (k := j) hj
  injection e2 with e2
  injection e2 with e2 e3
  subst e2; subst e3
  exact ⟨l.getD j 0, hc⟩
end Go.Proofs.YtojjfkbffjkojaaDoor
namespace Go.Proofs.YtojjfkbffjkojaaDoor
open Go.RowKit


theorem encR_ok {t : Nd} (h : (encR t).2 = 0) : t.kind ≠ 4 ∧ Val false t 0 ∧ encR t = (encP t, 0) := by
  unfold encR at h ⊢
  by_cases hc : t.kind ≠ 4 ∧ rightP false t 0 = true
  · rw [if_pos hc]
    exact ⟨hc.1, val_of_right false _ t 0 (Nat.lt_succ_self _) hc.2, rfl⟩
  · rw [if_neg hc] at h; cases h
end Go.Proofs.YtojjfkbffjkojaaDoor
namespace Go.Proofs.YtojjfkbffjkojaaDoor
open Go.RowKit
/-- A node with what lies below it folded. -/
def shutN (t : Nd) : Nd := .mk t.kind t.path t.has t.val (t.kids.map foldN) []
theorem fos_map {even : Bool} : ∀ {ks : List Nd}, (∀ k ∈ ks, ∃ d, Val even k d) → Fos (ks.map foldN) ks
  | ks, h => ⟨List.length_map _, fun i k k' h1 h2 => by
    rw [List.getElem?_map, h2] at h1
    injection h1 with h1
    subst h1
    obtain ⟨d, hv⟩ := h k' (List.mem_of_getElem? h2)
    exact fold_fo hv⟩
theorem shut_fo {even : Bool} {t : Nd} {d : Nat} (h : Val even t d) (h4 : t.kind ≠ 4) : Fo (shutN t) t := by
  cases h with
  | none => exact .refl _
  | leaf => exact .refl _
  | stub => exact absurd rfl h4
  | way d p k hd hp h0 hk hr => exact .way p (fold_fo hr)
  | branch d has v ks hd hv hv0 he h16 hr hm =>
    have hf := fos_map (fun k hk => ⟨_, hr k hk⟩)
    exact .branch has v _ _ hf.1 hf.2
theorem shut_enc {even : Bool} {t : Nd} {d : Nat} (h : Val even t d) : encP (shutN t) = encP t := by
  have hv : ∀ k ∈ t.kids, ∃ d, Val even k d := by
    intro k hk
    cases h with
    | none => cases hk
    | leaf => cases hk
    | stub => cases hk
    | way d p k' hd hp h0 hk' hr =>
      have : k = k' := List.mem_singleton.1 hk
      rw [this]; exact ⟨_, hr⟩
    | branch d has v ks hd hv hv0 he h16 hr hm => exact ⟨_, hr k hk⟩
  have hf := fos_map hv
  have hh : hashesP (t.kids.map foldN) = hashesP t.kids := hashes_eq hf.1 (fun i k k' h1 h2 => ⟨(hf.2 i k k' h1 h2).kind.1, (hf.2 i k k' h1 h2).hash⟩)
  have e : encP (shutN t) = encF t.kind t.path t.has t.val (t.kids.map foldN) (hashesP (t.kids.map foldN)) := rfl
  rw [e]
  unfold encP encF
  rw [kbits_eq hf, hh]
def by8 (a b c d e f g h : Bool) : Nat := (if a then 128 else 0) + (if b then 64 else 0) + (if c then 32 else 0) + (if d then 16 else 0) + (if e then 8 else 0) + (if f then 4 else 0) + (if g then 2 else 0) + (if h then 1 else 0)
theorem by8_bits : ∀ a b c d e f g h : Bool, by8 a b c d e f g h < 256 ∧ decide (by8 a b c d e f g h / 128 % 2 = 1) = a ∧ decide (by8 a b c d e f g h / 64 % 2 = 1) = b ∧ decide (by8 a b c d e f g h / 32 % 2 = 1) = c ∧ decide (by8 a b c d e f g h / 16 % 2 = 1) = d ∧ decide (by8 a b c d e f g h / 8 % 2 = 1) = e ∧ decide (by8 a b c d e f g h / 4 % 2 = 1) = f ∧ decide (by8 a b c d e f g h / 2 % 2 = 1) = g ∧ decide (by8 a b c d e f g h / 1 % 2 = 1) = h := by decide +kernel
def nz (ks : List Nd) (i : Nat) : Bool := decide ((ks.getD i noneN).kind ≠ 0)
theorem kbit_nz (ks : List Nd) (i c : Nat) (h : 128 / 2 ^ (i % 8) = c) : kbit ks i = if nz ks i then c else 0 := by
  unfold kbit nz
  rw [h]
  by_cases hk : (ks.getD i noneN).kind ≠ 0
  · rw [if_pos hk, decide_eq_true hk]; rfl
  · rw [if_neg hk, decide_eq_false hk]; rfl
theorem kbits_by8 (ks : List Nd) : kbits ks 16 = (by8 (nz ks 0) (nz ks 1) (nz ks 2) (nz ks 3) (nz ks 4) (nz ks 5) (nz ks 6) (nz ks 7), by8 (nz ks 8) (nz ks 9) (nz ks 10) (nz ks 11) (nz ks 12) (nz ks 13) (nz ks 14) (nz ks 15)) := by
  have e : kbits ks 16 = (kbit ks 0 + kbit ks 1 + kbit ks 2 + kbit ks 3 + kbit ks 4 + kbit ks 5 + kbit ks 6 + kbit ks 7, kbit ks 8 + kbit ks 9 + kbit ks 10 + kbit ks 11 + kbit ks 12 + kbit ks 13 + kbit ks 14 + kbit ks 15) := by simp [kbits]
  rw [e]
  unfold by8
  rw [kbit_nz ks 0 128 (by decide), kbit_nz ks 1 64 (by decide), kbit_nz ks 2 32 (by decide), kbit_nz ks 3 16 (by decide), kbit_nz ks 4 8 (by decide), kbit_nz ks 5 4 (by decide), kbit_nz ks 6 2 (by decide), kbit_nz ks 7 1 (by decide), kbit_nz ks 8 128 (by decide), kbit_nz ks 9 64 (by decide), kbit_nz ks 10 32 (by decide), kbit_nz ks 11 16 (by decide), kbit_nz ks 12 8 (by decide), kbit_nz ks 13 4 (by decide), kbit_nz ks 14 2 (by decide), kbit_nz ks 15 1 (by decide)]
theorem bitB_nz (ks : List Nd) {i : Nat} (hi : i < 16) : bitB [UInt8.ofNat (kbits ks 16).1, UInt8.ofNat (kbits ks 16).2] i = nz ks i := by
  rw [kbits_by8]
  obtain ⟨h1, a0, a1, a2, a3, a4, a5, a6, a7⟩ := by8_bits (nz ks 0) (nz ks 1) (nz ks 2) (nz ks 3) (nz ks 4) (nz ks 5) (nz ks 6) (nz ks 7)
  obtain ⟨h2, b0, b1, b2, b3, b4, b5, b6, b7⟩ := by8_bits (nz ks 8) (nz ks 9) (nz ks 10) (nz ks 11) (nz ks 12) (nz ks 13) (nz ks 14) (nz ks 15)
  dsimp only
  generalize by8 (nz ks 0) (nz ks 1) (nz ks 2) (nz ks 3) (nz ks 4) (nz ks 5) (nz ks 6) (nz ks 7) = x at *
  generalize by8 (nz ks 8) (nz ks 9) (nz ks 10) (nz ks 11) (nz ks 12) (nz ks 13) (nz ks 14) (nz ks 15) = y at *
  have ex : (UInt8.ofNat x).toNat = x := by rw [UInt8.toNat_ofNat', Nat.mod_eq_of_lt h1]
  have ey : (UInt8.ofNat y).toNat = y := by rw [UInt8.toNat_ofNat', Nat.mod_eq_of_lt h2]
  have key : ∀ i, i < 16 → bitB [UInt8.ofNat x, UInt8.ofNat y] i = decide ((if i < 8 then x else y) / 2 ^ (7 - i % 8) % 2 = 1) := by
    intro i hi
    unfold bitB
    by_cases h8 : i < 8
    · rw [if_pos h8, show i / 8 = 0 by omega]; show decide ((UInt8.ofNat x).toNat / _ % 2 = 1) = _; rw [ex]
    · rw [if_neg h8, show i / 8 = 1 by omega]; show decide ((UInt8.ofNat y).toNat / _ % 2 = 1) = _; rw [ey]
  rw [key i hi]
  have hc : i = 0 ∨ i = 1 ∨ i = 2 ∨ i = 3 ∨ i = 4 ∨ i = 5 ∨ i = 6 ∨ i = 7 ∨ i = 8 ∨ i = 9 ∨ i = 10 ∨ i = 11 ∨ i = 12 ∨ i = 13 ∨ i = 14 ∨ i = 15 := by omega
  rcases hc with rfl | rfl | rfl | rfl | rfl | rfl | rfl | rfl | rfl | rfl | rfl | rfl | rfl | rfl | rfl | rfl <;> assumption
/-- Nothing, or a stub. -/
def flatN (k : Nd) : Prop := k = noneN ∨ ∃ h : List UInt8, k = stubN h ∧ h.length = 32
theorem fold_flat {even : Bool} {k : Nd} {d : Nat} (h : Val even k d) : flatN (foldN k) := by
  unfold foldN
  by_cases h0 : k.kind = 0
  · rw [if_pos h0]; exact .inl rfl
  · rw [if_neg h0]
    exact .inr ⟨hashR k, rfl, by rw [hashR_val h]; exact hashP_len h⟩
theorem cut_app {h r : List UInt8} (hl : h.length = 32) : cutP 32 ⟨h ++ r, false⟩ = (h, ⟨r, false⟩) := by
  unfold cutP
  rw [if_neg (by simp; omega)]
  dsimp only
  rw [List.take_left' hl, List.drop_left' hl]
theorem kidsR_all {set : List UInt8} {all : List Nd} (hb : ∀ i, i < 16 → bitB set i = nz all i) : ∀ (n i : Nat) (ks : List Nd), i + n = 16 → ks.length = n → ks = all.drop i → (∀ k ∈ ks, flatN k) → kidsR set n i ⟨hashesP ks, false⟩ = (ks, ⟨[], false⟩)
  | 0, i, ks, _, hl, _, _ => by
    rw [List.eq_nil_of_length_eq_zero hl, kidsR, hashesP]
  | n + 1, i, [], _, hl, _, _ => by cases hl
  | n + 1, i, k :: ks, hi, hl, hd, hf => by
    have hk : all[i]? = some k := by
      have h := congrArg (fun l => l[0]?) hd
      simp only [List.getElem?_cons_zero, List.getElem?_drop, Nat.add_zero] at h
      exact h.symm
    have hg : all.getD i noneN = k := by rw [List.getD_eq_getElem?_getD, hk]; rfl
    have hd' : ks = all.drop (i + 1) := by
      have h := congrArg (List.drop 1) hd
      rw [List.drop_succ_cons, List.drop_zero, List.drop_drop] at h
      exact h
    have ih := kidsR_all hb n (i + 1) ks (by omega) (by simpa using hl) hd' (fun k hk => hf k (by simp [hk]))
    rw [kidsR, hb i (by omega), hashesP]
    unfold nz
    rw [hg]
    rcases hf k (by simp) with rfl | ⟨h, rfl, hh⟩
    · rw [if_neg (fun h => absurd h.2 (by decide)), if_neg (by decide), List.nil_append, ih]
    · have e0 : (stubN h).kind ≠ 0 := show (4 : Int) ≠ 0 by decide
      have e1 : hashP (stubN h) = h := by rw [hashP_eq]; rfl
      rw [if_pos ⟨rfl, decide_eq_true e0⟩, if_pos e0, e1, cut_app hh, ih]
theorem text_put {s r : List UInt8} (h : s.length ≤ 1048576) : textP ⟨putB s ++ r, false⟩ = (s, ⟨r, false⟩) := by
  have := gb_put [] s r h
  obtain ⟨h1, h2, h3⟩ := this
  rw [List.nil_append] at h1 h2 h3
  have h1 : gbE (putB s ++ r) 0 = 0 := h1
  have h2 : gbL (putB s ++ r) 0 = s := h2
  have h3 : gbTo (putB s ++ r) 0 = (((putB s).length : Nat) : Int) := by simpa using h3
  unfold textP
  dsimp only
  rw [h1, h2, h3, Int.toNat_natCast, List.drop_left]
  rfl
theorem cut1 (x : UInt8) (l : List UInt8) : cutP 1 ⟨x :: l, false⟩ = ([x], ⟨l, false⟩) := rfl
theorem cut2 (x y : UInt8) (l : List UInt8) : cutP 2 ⟨x :: y :: l, false⟩ = ([x, y], ⟨l, false⟩) := rfl
/-- What is written is read. -/
theorem node_enc {even : Bool} {s : Nd} {d : Nat} (h : Val even s d) (h4 : s.kind ≠ 4) (hf : ∀ k ∈ s.kids, flatN k) : nodeR ⟨encP s, false⟩ = (s, ⟨[], false⟩) := by
  cases h with
  | none => rfl
  | stub => exact absurd rfl h4
  | leaf d p v hd hp hv he =>
    have hpl := packL_len p true
    have hen := endsP_le he
    obtain ⟨u1, u2, u3, -⟩ := unpack_pack p true hp
    have e : encP (.mk 1 p false v [] []) = 1 :: (putB (packL p true) ++ putB v) := rfl
    unfold nodeR
    rw [e, cut1]
    have e8 : at8 [(1 : UInt8)] 0 = 1 := rfl
    dsimp only
    rw [if_neg (by decide), e8, if_pos (.inl rfl)]
    unfold leafR
    dsimp only
    have ht := text_put (s := packL p true) (r := putB v) (by omega)
    rw [ht]
    dsimp only
    rw [u1, u2, u3, if_neg (by decide)]
    have hv2 := text_put (s := v) (r := []) (by omega)
    rw [List.append_nil] at hv2
    show (Nd.mk 1 p false (textP ⟨putB v, false⟩).1 [] [], (textP ⟨putB v, false⟩).2) = _
    rw [hv2]
  | way d p k hd hp h0 hk hr =>
    have hpl := packL_len p false
    have hen := hr.le
    obtain ⟨u1, u2, u3, -⟩ := unpack_pack p false hp
    have hfk := hf k (by simp [Nd.kids])
    rcases hfk with rfl | ⟨h, rfl, hh⟩
    · rcases hk with hk | hk <;> exact absurd (show (0 : Int) = _ from hk) (by decide)
    have e1 : hashP (stubN h) = h := by rw [hashP_eq]; rfl
    have e : encP (.mk 2 p false [] [stubN h] []) = 2 :: (putB (packL p false) ++ (h ++ [])) := by
      have e2 : hashesP [stubN h] = h ++ [] := by rw [hashesP, hashesP, if_pos (show (stubN h).kind ≠ 0 from show (4 : Int) ≠ 0 by decide), e1]
      show encF 2 p false [] [stubN h] (hashesP [stubN h]) = _
      rw [e2]
      unfold encF
      rw [if_neg (by decide), if_pos rfl]; rfl
    unfold nodeR
    rw [e, cut1]
    have e8 : at8 [(2 : UInt8)] 0 = 2 := rfl
    dsimp only
    rw [if_neg (by decide), e8, if_pos (.inr rfl)]
    unfold leafR
    dsimp only
    have ht := text_put (s := packL p false) (r := h ++ []) (by omega)
    rw [ht]
    dsimp only
    rw [u1, u2, u3, if_pos rfl]
    show (Nd.mk 2 p false [] [stubN (cutP 32 ⟨h ++ [], false⟩).1] [], (cutP 32 ⟨h ++ [], false⟩).2) = _
    rw [cut_app hh]
  | branch d has v ks hd hv hv0 he h16 hr hm =>
    have hks := kidsR_all (set := [UInt8.ofNat (kbits ks 16).1, UInt8.ofNat (kbits ks 16).2]) (all := ks) (fun i hi => bitB_nz ks hi) 16 0 ks rfl h16 List.drop_zero.symm hf
    have e : encP (.mk 3 [] has v ks []) = 3 :: ((if has then (1 : UInt8) :: putB v else [0]) ++ (UInt8.ofNat (kbits ks 16).1 :: UInt8.ofNat (kbits ks 16).2 :: hashesP ks)) := rfl
    unfold nodeR
    rw [e, cut1]
    have e8 : at8 [(3 : UInt8)] 0 = 3 := rfl
    dsimp only
    rw [if_neg (by decide), e8, if_neg (by decide), if_pos rfl]
    unfold brR
    dsimp only
    cases has with
    | true =>
      rw [if_pos rfl, List.cons_append, cut1]
      dsimp only
      have e9 : hasR [(1 : UInt8)] = true := rfl
      rw [e9]
      unfold valR
      rw [if_pos rfl]
      have ht := text_put (s := v) (r := UInt8.ofNat (kbits ks 16).1 :: UInt8.ofNat (kbits ks 16).2 :: hashesP ks) (by omega)
      rw [ht]
      dsimp only
      rw [cut2]
      dsimp only
      rw [hks]
    | false =>
      have hv' : v = [] := hv0.resolve_left (by decide)
      have e10 : cutP 1 ⟨(if false = true then (1 : UInt8) :: putB v else [0]) ++ (UInt8.ofNat (kbits ks 16).1 :: UInt8.ofNat (kbits ks 16).2 :: hashesP ks), false⟩ = ([0], ⟨UInt8.ofNat (kbits ks 16).1 :: UInt8.ofNat (kbits ks 16).2 :: hashesP ks, false⟩) := by rw [if_neg (by decide)]; rfl
      rw [e10]
      dsimp only
      have e9 : hasR [(0 : UInt8)] = false := rfl
      rw [e9]
      unfold valR
      rw [if_neg (by decide)]
      dsimp only
      rw [cut2]
      dsimp only
      rw [hks, hv']
theorem dec_enc {t : Nd} (h : (encR t).2 = 0) : decP (encR t).1 = (shutN t, 0) := by
  obtain ⟨h4, hv, he⟩ := encR_ok h
  rw [he]
  have hfo := shut_fo hv h4
  have hvs := hfo.val 0 hv
  have hks : ∀ k ∈ (shutN t).kids, flatN k := by
    intro k hk
    obtain ⟨k', hk', rfl⟩ := List.mem_map.1 (show k ∈ t.kids.map foldN from hk)
    cases hv with
    | none => cases hk'
    | leaf => cases hk'
    | stub => cases hk'
    | way d p k2 hd hp h0 hk2 hr =>
      have : k' = k2 := List.mem_singleton.1 hk'
      rw [this]; exact fold_flat hr
    | branch d has v ks hd hv hv0 he h16 hr hm => exact fold_flat (hr k' hk')
  have hn := node_enc hvs h4 hks
  rw [shut_enc hv] at hn
  have hes : encR (shutN t) = (encP t, 0) := by
    unfold encR
    rw [if_pos ⟨h4, right_of_val (hvs.mono 0 (Nat.zero_le _))⟩, shut_enc hv]
  unfold decP
  dsimp only
  rw [hn]
  dsimp only
  rw [if_neg (by simp), if_pos hes]
end Go.Proofs.YtojjfkbffjkojaaDoor
namespace Go.Proofs.YtojjfkbffjkojaaDoor
open Go.RowKit


theorem decP_sz (b : List UInt8) : sz (decP b).1 ≤ 2000 + 4 * b.length := by
  have h := nodeR_sz b
  have e : sz noneN = 6 := rfl
  unfold decP
  split
  · show sz noneN ≤ _; omega
  · split
    · exact h
    · show sz noneN ≤ _; omega
theorem decP_bad {b : List UInt8} (h : (decP b).2 ≠ 0) : (decP b).1 = noneN := by
  unfold decP at h ⊢
  split at h
  · rename_i hc; rw [if_pos hc]
  · rename_i hc
    rw [if_neg hc]
    split at h
    · exact absurd rfl h
    · rename_i hc2; rw [if_neg hc2]
theorem decP_ok {b : List UInt8} (h : (decP b).2 = 0) : encR (decP b).1 = (b, 0) := by
  unfold decP at h ⊢
  split at h
  · cases h
  · rename_i hc
    rw [if_neg hc]
    split at h
    · rename_i hc2; rw [if_pos hc2]; exact hc2
    · cases h
set_option maxRecDepth 100000 in
set_option maxHeartbeats 8000000 in
theorem nodeBack_walk (w : World) (hG : GL w []) {t : Nd} {cs : List Value} (hr : RdL w (Fd w []) (dN t) cs) (hz : sz t ≤ 1048576) {A1 : Option Addr} {n1 c1 : Nat} {b : List UInt8} (g1 : RdD w (Fd w []) (dB b) (.slice A1 n1 c1)) (_b1 : b.length ≤ 1048576) :
    Calls Tryd.prog 11 #[.agg cs.toArray, .slice A1 n1 c1] w (RetTrue w) := by
  refine calls_ev (args := [.agg cs.toArray, .slice A1 n1 c1]) mixed Tryd.func11 rfl (by kernel_rfl) ?_
  obtain ⟨Ap, cp, Av, cv, Ak, ck, Ah, ch, rfl, r1, r3, r4, -⟩ := id hr.node
  have en1 := g1.slen
  subst en1
  have M := (((((St.start (w := w) (gs := []) (fun b h => by cases h)).addD r4).addD r3).addD r1).addD g1).addL hr
  clear g1 hr r1 r3 r4
  refine s_box (ncs t Ap cp Av cv Ak ck Ah ch) M rfl ?_
  clear M
  rintro g2 W M
  refine v_loadN (ncs t Ap cp Av cv Ak ck Ah ch) agg_nd rfl rfl (M.run 0 rfl) ?_
  refine cc is_much7 (much7_any t (by omega) _ _ (ncs t Ap cp Av cv Ak ck Ah ch) (M.da 0 rfl) M.olt) ?_
  rintro e W ⟨he, hb⟩
  obtain ⟨q, hqq⟩ : ∃ q, q = decide (900 ≤ muchP t 900) := ⟨_, rfl⟩
  rw [← hqq] at he
  subst he
  replace M := M.call hb
  clear hb
  refine ⟨_, rfl, ?_⟩
  cases q with
  | true =>
    refine cc is_kn7 (known7_any _ _ (M.gl hG) M.olt) ?_
    rintro e W ⟨rfl, hb⟩
    replace M := M.call hb
    clear hb
    exact ⟨_, rfl, rfl, M.below⟩
  | false =>
  have hz2 := much7_no hqq.symm
  refine p_len slb rfl ?_
  refine p_gt rfl rfl (fun k1 => ?_) (fun k1 => ?_)
  ·
    refine cc is_kn7 (known7_any _ _ (M.gl hG) M.olt) ?_
    rintro e W ⟨rfl, hb⟩
    replace M := M.call hb
    clear hb
    exact ⟨_, rfl, rfl, M.below⟩
  have hsz := sz_eq t
  have hsl := szs_len t.kids
  refine v_loadN (ncs t Ap cp Av cv Ak ck Ah ch) agg_nd rfl rfl (M.run 0 rfl) ?_
  refine cc is_nEnc (nEnc_any t (by omega) _ _ _ (M.gl hG) (M.da 0 rfl) M.olt) ?_
  rintro e W ⟨A5, n5, c5, rfl, o, hb⟩
  have e5 := o.len
  replace M := M.callO hb o
  clear o hb
  refine ⟨_, rfl, ?_⟩
  refine cutS Unit (fun _ W => St w [] W [] [] [.dat false [dB b] [.slice A1 b.length c1]]) (fun _ => [(1, .slice A1 b.length c1)]) ?_ ?_
  · refine p_eq rfl rfl (fun he => ?_) (fun _ => ?_)
    rotate_left
    · exact ⟨(), (M.dropL).fsub _ (by simp), (by repeat (first | exact trivial | refine ⟨rfl, ?_⟩))⟩
    have hde := dec_enc he
    obtain ⟨h4, hv, hee⟩ := encR_ok he
    have hel : (encR t).1.length ≤ 600 + sz t := by rw [hee]; exact encP_len hv (by omega)
    refine cc is_ndec (ndec_any (encR t).1 _ _ _ _ c5 (M.gl hG) (M.d1 0 rfl) M.olt (by omega)) ?_
    rintro e W ⟨cs7, he7, r7, hb⟩
    rw [hde] at he7 r7
    dsimp only at he7 r7
    subst he7
    replace M := M.callF hb r7
    clear r7 hb
    obtain ⟨Bp, dp, Bv, dv, Bk, dk, Bh, dh, rfl, s1, s3, s4, -⟩ := (M.dt 0 rfl).node
    replace M := ((M.addT (RdL.one s4)).addT (RdL.one s3)).addT (RdL.one s1)
    clear s1 s3 s4
    refine ⟨_, rfl, ?_⟩
    refine s_alloc (zN) M al_nd ?_
    clear M
    rintro g7 W M
    first | refine s_storeA 0 (ncs (shutN t) Bp dp Bv dv Bk dk Bh dh) M rfl (by kernel_rfl) rfl rfl rfl (all1 rfl) rfl ?_ | refine s_storeA 1 (ncs (shutN t) Bp dp Bv dv Bk dk Bh dh) M rfl (by kernel_rfl) rfl rfl rfl (all1 rfl) rfl ?_ | refine s_storeA 2 (ncs (shutN t) Bp dp Bv dv Bk dk Bh dh) M rfl (by kernel_rfl) rfl rfl rfl (all1 rfl) rfl ?_ | refine s_storeA 3 (ncs (shutN t) Bp dp Bv dv Bk dk Bh dh) M rfl (by kernel_rfl) rfl rfl rfl (all1 rfl) rfl ?_
    clear M
    rintro W M
    dsimp only [setL] at M
    have hml : (shutN t).kids.length = t.kids.length := List.length_map _
    refine p_ne rfl rfl (fun _ => ?_) (fun e => absurd rfl e)
    refine p_fld fN0 rfl ?_
    refine v_load agg_int rfl ((M.B 0 rfl).at_ rfl) ?_
    skip
    refine p_fld fN0 rfl ?_
    refine v_load agg_int rfl ((M.B 1 rfl).at_ rfl) ?_
    skip
    refine p_ne rfl rfl (fun _ => ?_) (fun e => absurd rfl e)
    refine p_fld fN4 rfl ?_
    refine v_load agg_ns rfl ((M.B 0 rfl).at_ rfl) ?_
    (refine p_len sln rfl ?_)
    refine p_fld fN4 rfl ?_
    refine v_load agg_ns rfl ((M.B 1 rfl).at_ rfl) ?_
    (refine p_len sln rfl ?_)
    refine p_ne rfl rfl (fun _ => ?_) (fun e => absurd (by rw [hml]) e)
    refine p_fld fN2 rfl ?_
    refine v_load agg_bo rfl ((M.B 0 rfl).at_ rfl) ?_
    skip
    refine p_fld fN2 rfl ?_
    refine v_load agg_bo rfl ((M.B 1 rfl).at_ rfl) ?_
    skip
    refine p_bneC u_bool rfl rfl (fun _ => ?_) (fun e => absurd rfl e)
    refine p_fld fN1 rfl ?_
    refine v_load agg_b rfl ((M.B 0 rfl).at_ rfl) ?_
    skip
    refine p_fld fN1 rfl ?_
    refine v_load agg_b rfl ((M.B 1 rfl).at_ rfl) ?_
    skip
    obtain ⟨q, hq, hc⟩ := same_tf (c1 := dp) (c2 := cp) (M.rdb 0 rfl).2.2 (M.rdb 7 rfl).2.2
    obtain rfl := hq.2 rfl
    refine cc is_same0 hc ?_
    rintro e W' ⟨rfl, rfl⟩
    refine ⟨_, rfl, ?_⟩
    clear hq hc
    refine p_not rfl ?_
    refine p_fld fN3 rfl ?_
    refine v_load agg_b rfl ((M.B 0 rfl).at_ rfl) ?_
    skip
    refine p_fld fN3 rfl ?_
    refine v_load agg_b rfl ((M.B 1 rfl).at_ rfl) ?_
    skip
    obtain ⟨q, hq, hc⟩ := same_tf (c1 := dv) (c2 := cv) (M.rdb 1 rfl).2.2 (M.rdb 8 rfl).2.2
    obtain rfl := hq.2 rfl
    refine cc is_same0 hc ?_
    rintro e W' ⟨rfl, rfl⟩
    refine ⟨_, rfl, ?_⟩
    clear hq hc
    refine p_not rfl ?_
    refine lp Nat (fun i W => i ≤ t.kids.length ∧ St w [] W [(g7, 26, ncs (shutN t) Bp dp Bv dv Bk dk Bh dh), (g2, 26, ncs t Ap cp Av cv Ak ck Ah ch)] [] [.dat true [dKs (shutN t).kids] [.slice Bk (shutN t).kids.length dk], .dat false [dKs t.kids] [.slice Ak t.kids.length ck], .dat false [dB b] [.slice A1 b.length c1]])
      (fun i => [(1, .slice A1 b.length c1), (2, .pointer (some ⟨g2, 0, none⟩)), (7, .pointer (some ⟨g7, 0, none⟩)), (9, .int .i64 i)]) (fun i => t.kids.length - i) 0 ⟨Nat.zero_le _, M.fsub _ (by simp)⟩ (by repeat (first | exact trivial | refine ⟨rfl, ?_⟩)) ?_
    clear M
    rintro i E2 W2 ⟨hi, M⟩
    refine p_fld fN4 rfl ?_
    refine v_load agg_ns rfl ((M.B 1 rfl).at_ rfl) ?_
    refine p_len sln rfl ?_
    refine p_lt rfl rfl (fun hlt => ?_) (fun hge => ?_)
    · obtain ⟨k, hk⟩ : ∃ k, t.kids[i]? = some k := ⟨_, List.getElem?_eq_getElem (by omega)⟩
      have hkz := szs_mem (List.mem_of_getElem? hk)
      have hk2 : (shutN t).kids[i]? = some (foldN k) := by
        show (t.kids.map foldN)[i]? = _
        rw [List.getElem?_map, hk]; rfl
      have hfk : sz (foldN k) ≤ 1000000 := by
        have hvk : ∃ d, Val false k d := by
          have hm := List.mem_of_getElem? hk
          cases hv with
          | none => cases hm
          | leaf => cases hm
          | stub => cases hm
          | way d p k' hd hp h0 hk' hr =>
            have : k = k' := List.mem_singleton.1 hm
            rw [this]; exact ⟨_, hr⟩
          | branch d has v ks hd hv hv0 he h16 hr hm' => exact ⟨_, hr k hm⟩
        obtain ⟨d, hvk⟩ := hvk
        have := sz_foldN hvk
        omega
      obtain ⟨b1, o1, es1, hA1, hl1, M'⟩ := M.kid (M.d1 0 rfl) hk2
      replace M := M'; clear M'
      obtain ⟨b2, o2, es2, hA2, hl2, M'⟩ := M.kid (M.d1 3 rfl) hk
      replace M := M'.drew; clear M'
      refine drT (Kp w [] [(g7, 26, ncs (shutN t) Bp dp Bv dv Bk dk Bh dh), (g2, 26, ncs t Ap cp Av cv Ak ck Ah ch)] [.loc ((⟨b2, o2, none⟩ : Addr).add (i * 6)) es2, .loc ((⟨b1, o1, none⟩ : Addr).add (i * 6)) es1]) (.take 0 (.take 1 (.take 2 (.take 3 (.take 4 (.take 5 (.take 6 (.take 7 (.take 8 (.take 9 (.one 10 (.one 11 (.take 12 (.nil)))))))))))))) (by kernel_rfl) (M.kp (by simp) (by simp)) ?_
      refine p_fld fN4 rfl ?_
      refine t_load agg_ns rfl (fun W K => (K.B 0 rfl).at_ rfl) ?_
      refine p_at (i := i) sln (by show (Value.slice Bk (shutN t).kids.length dk) = _; rw [hA1]) rfl rfl (by omega) ?_
      refine t_loadN es1 agg_nd rfl hl1 (fun W K => K.lc 1 rfl) ?_
      refine p_fld fN4 rfl ?_
      refine t_load agg_ns rfl (fun W K => (K.B 1 rfl).at_ rfl) ?_
      refine p_at (i := i) sln (by show (Value.slice Ak t.kids.length ck) = _; rw [hA2]) rfl rfl (by omega) ?_
      refine t_loadN es2 agg_nd rfl hl2 (fun W K => K.lc 0 rfl) ?_
      refine cc is_nFold (nFold_any k (by omega) _ _ _ (M.gl hG) (M.da 1 rfl) M.olt) ?_
      rintro e W ⟨csf, rfl, rf, hb⟩
      replace M := M.callF hb rf
      clear rf hb
      refine ⟨_, rfl, (M.kp (by simp) (by simp)), ?_⟩
      refine cc is_nsame (nsame_any 10000000 (by decide) (foldN k) (by omega) (foldN k) _ _ _ _ (M.da 4 rfl) (M.da 0 rfl) M.olt (by omega)) ?_
      rintro e W ⟨q3, rfl, hq3, hb⟩
      obtain rfl := hq3.2 rfl
      replace M := M.call hb
      clear hb hq3
      refine ⟨_, rfl, (M.kp (by simp) (by simp)), ?_⟩
      refine p_not rfl ?_
      refine p_addN (b := 1) rfl rfl (by omega) ?_
      exact ⟨i + 1, ⟨by omega, M.fsub _ (by simp)⟩, (by repeat (first | exact trivial | refine ⟨rfl, ?_⟩)), by omega⟩
    · exact ⟨(), (M.dropL.dropL).fsub _ (by simp), (by repeat (first | exact trivial | refine ⟨rfl, ?_⟩))⟩
  · clear M
    rintro ⟨⟩ B0 W0 M
    have hds := decP_sz b
    refine cc is_ndec (ndec_any b _ _ _ _ c1 (M.gl hG) (M.d1 0 rfl) M.olt (by omega)) ?_
    rintro e W ⟨cs7, rfl, r7, hb⟩
    replace M := M.callF hb r7
    clear r7 hb
    obtain ⟨Bp, dp, Bv, dv, Bk, dk, Bh, dh, rfl, -⟩ := (M.dt 0 rfl).node
    refine ⟨_, rfl, ?_⟩
    refine s_alloc (zN) M al_nd ?_
    clear M
    rintro g10 W M
    first | refine s_storeA 0 (ncs (decP b).1 Bp dp Bv dv Bk dk Bh dh) M rfl (by kernel_rfl) rfl rfl rfl (all1 rfl) rfl ?_ | refine s_storeA 1 (ncs (decP b).1 Bp dp Bv dv Bk dk Bh dh) M rfl (by kernel_rfl) rfl rfl rfl (all1 rfl) rfl ?_ | refine s_storeA 2 (ncs (decP b).1 Bp dp Bv dv Bk dk Bh dh) M rfl (by kernel_rfl) rfl rfl rfl (all1 rfl) rfl ?_ | refine s_storeA 3 (ncs (decP b).1 Bp dp Bv dv Bk dk Bh dh) M rfl (by kernel_rfl) rfl rfl rfl (all1 rfl) rfl ?_
    clear M
    rintro W M
    dsimp only [setL] at M
    refine p_ne rfl rfl (fun he => ?_) (fun he => ?_)
    rotate_left
    · have hn := decP_bad he
      refine p_fld fN0 rfl ?_
      refine v_load agg_int rfl ((M.B 0 rfl).at_ rfl) ?_
      refine p_eq rfl rfl (fun _ => ?_) (fun e => absurd (by rw [hn]; rfl) e)
      refine cc is_kn7 (known7_any _ _ (M.gl hG) M.olt) ?_
      rintro e W ⟨rfl, hb⟩
      replace M := M.call hb
      clear hb
      exact ⟨_, rfl, rfl, M.below⟩
    have hok := decP_ok he
    refine v_loadN (ncs (decP b).1 Bp dp Bv dv Bk dk Bh dh) agg_nd rfl rfl (M.run 0 rfl) ?_
    refine cc is_nEnc (nEnc_any (decP b).1 (by omega) _ _ _ (M.gl hG) (M.da 0 rfl) M.olt) ?_
    rintro e W ⟨A6, n6, c6, he6, o, hb⟩
    rw [hok] at he6 o
    dsimp only at he6 o
    subst he6
    replace M := M.callO hb o
    clear o hb
    refine ⟨_, rfl, ?_⟩
    refine p_eq rfl rfl (fun _ => ?_) (fun e => absurd rfl e)
    obtain ⟨q, hq, hc⟩ := same_tf (c1 := c6) (c2 := c1) (M.rdb 0 rfl).2.2 (M.rdb 2 rfl).2.2
    obtain rfl := hq.2 rfl
    refine cc is_same0 hc ?_
    rintro e W' ⟨rfl, rfl⟩
    refine ⟨_, rfl, ?_⟩
    clear hq hc
    refine cc is_kn7 (known7_any _ _ (M.gl hG) M.olt) ?_
    rintro e W ⟨rfl, hb⟩
    replace M := M.call hb
    clear hb
    exact ⟨_, rfl, rfl, M.below⟩
end Go.Proofs.YtojjfkbffjkojaaDoor
namespace Go.Proofs.YtojjfkbffjkojaaDoor
open Go.RowKit Go.ChangeShapes
theorem gBegin : Tryd.prog.globalNamed "exchequer/digest.begin" = some 0 := by kernel_rfl
theorem gRoots : Tryd.prog.globalNamed "exchequer/digest.roots" = some 1 := by kernel_rfl
theorem tBegin : (Tryd.prog.globals[0]?).map (·.type) = some 130 := by kernel_rfl
theorem tRoots : (Tryd.prog.globals[1]?).map (·.type) = some 133 := by kernel_rfl
theorem cB : Tryd.prog.cellsOf 130 = 8 := by kernel_rfl
theorem cR : Tryd.prog.cellsOf 133 = 64 := by kernel_rfl
theorem cU : Tryd.prog.cellsOf 94 = 1 := by kernel_rfl
def laidL : List (String × DataW Unit) := [("exchequer/digest.begin", Rows.laid_exchequer_digest_begin), ("exchequer/digest.roots", Rows.laid_exchequer_digest_roots)]
theorem gl_of {W : World} (h : laidMetH Tryd.prog laidL W) : GL W [] := by
  rw [MakeChecks.laidMetH_plain _ _ _ (by kernel_rfl)] at h
  have hb : Lib.TabIs Tryd.prog W "exchequer/digest.begin" .u32 [1779033703, 3144134277, 1013904242, 2773480762, 1359893119, 2600822924, 528734635, 1541459225] :=
    Lib.tabIs_of_head (rest := [("exchequer/digest.roots", Rows.laid_exchequer_digest_roots)]) gBegin tBegin Tryd.underlying130 Tryd.underlying94 cU cB h
  obtain ⟨ps, ⟨g0, t0, cs0, f0, p0, q0, hg0, ht0, hv0, hd0, ⟨g1, t1, cs1, f1, p1, q1, hg1, ht1, hv1, hd1, _, _⟩, _⟩, _, _⟩ := h
  obtain rfl := Option.some.inj (gRoots.symm.trans hg1)
  obtain rfl := Option.some.inj (tRoots.symm.trans ht1)
  have hr : Lib.TabIs Tryd.prog W "exchequer/digest.roots" .u32 (List.map (fun (n : Nat) => (n : Int)) roots) := by
    unfold Lib.TabIs
    rw [hv1, ← Lib.cells_of_tab Tryd.underlying133 Tryd.underlying94 cU cR hd1]
  refine ⟨fun j hj => ?_, fun j v hv => ?_, ?_, by simp, by simp⟩
  · have := hr.cell gRoots j (by rw [List.length_map]; exact hj)
    rw [this]
    unfold cu
    congr 2
    rw [List.getD_eq_getElem?_getD, List.getD_eq_getElem?_getD, List.getElem?_map]
    have : j < roots.length := hj
    rw [List.getElem?_eq_getElem this]; rfl
  · have hj := (List.getElem?_eq_some_iff.1 hv).1
    have := hb.cell gBegin j hj
    rw [this]
    have hj8 : j = 0 ∨ j = 1 ∨ j = 2 ∨ j = 3 ∨ j = 4 ∨ j = 5 ∨ j = 6 ∨ j = 7 := by have : j < 8 := hj; omega
    rcases hj8 with rfl | rfl | rfl | rfl | rfl | rfl | rfl | rfl <;> exact hv
  · have := hr.cell gRoots 0 (by decide)
    have := World.block_lt_of_cell? W _ this
    exact this
/-- A world for the witness: the tables hold what their initialisers lay. -/
def layAt (cs : List Value) : Obj → Obj
  | .cells _ t frozen => .cells cs.toArray t frozen
  | o => o
noncomputable def laidWorld (os : Os) : World :=
  { World.holding Tryd.prog os ⟨#[], #[], []⟩ with heap := ((World.holding Tryd.prog os ⟨#[], #[], []⟩).heap.modify 0 (layAt (hc begin8))).modify 1 (layAt (roots.map cu)) }
end Go.Proofs.YtojjfkbffjkojaaDoor
