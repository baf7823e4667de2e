/- Tries of which something is folded, plainly. No walk here. Tries, open as far as they are wanted: they agree with the whole. Reference 10: At, Shut, below, Agrees. Reference 10: Shut, put, Open. Reference 10: on, Only. law10: known, much. The walk of the law RevealOpens. -/
import Derived.Test.YtojjfkbffjkojaaDoorG21
import Derived.Test.YtojjfkbffjkojaaDoorG23
import Derived.Test.YtojjfkbffjkojaaDoorG18
import Derived.Test.YtojjfkbffjkojaaDoorG12
import Derived.Test.YtojjfkbffjkojaaDoorG15
import Derived.Test.YtojjfkbffjkojaaDoorG20
import Derived.Test.YtojjfkbffjkojaaDoorG09
namespace Go.Proofs.YtojjfkbffjkojaaDoor
/-- The second one, with something folded. -/
inductive Fo : Nd → Nd → Prop
  | refl (t : Nd) : Fo t t
  | stub (t : Nd) (h0 : t.kind ≠ 0) : Fo (.mk 4 [] false [] [] (hashP t)) t
  | way (p : List UInt8) {k k' : Nd} (h : Fo k k') : Fo (.mk 2 p false [] [k] []) (.mk 2 p false [] [k'] [])
  | branch (has : Bool) (v : List UInt8) (ks ks' : List Nd) (hl : ks.length = ks'.length) (h : ∀ (i : Nat) (k k' : Nd), ks[i]? = some k → ks'[i]? = some k' → Fo k k') : Fo (.mk 3 [] has v ks []) (.mk 3 [] has v ks' [])
theorem Fo.kind {m n : Nd} (h : Fo m n) : (m.kind = 0 ↔ n.kind = 0) ∧ (m.kind ≠ 4 → m.kind = n.kind) := by
  cases h with
  | refl => exact ⟨Iff.rfl, fun _ => rfl⟩
  | stub _ h0 => exact ⟨⟨fun e => absurd (show (4 : Int) = 0 from e) (by decide), fun e => absurd e h0⟩, fun e => absurd rfl e⟩
  | way => exact ⟨⟨fun e => absurd (show (2 : Int) = 0 from e) (by decide), fun e => absurd (show (2 : Int) = 0 from e) (by decide)⟩, fun _ => rfl⟩
  | branch => exact ⟨⟨fun e => absurd (show (3 : Int) = 0 from e) (by decide), fun e => absurd (show (3 : Int) = 0 from e) (by decide)⟩, fun _ => rfl⟩
/-- Kids, each the other's or folded. -/
def Fos (ks ks' : List Nd) : Prop := ks.length = ks'.length ∧ ∀ (i : Nat) (k k' : Nd), ks[i]? = some k → ks'[i]? = some k' → Fo k k'
theorem Fos.refl (ks : List Nd) : Fos ks ks := ⟨rfl, fun i k k' h h' => by rw [h] at h'; injection h' with h'; rw [h']; exact .refl _⟩
theorem Fos.set {ks ks' : List Nd} (h : Fos ks ks') {a b : Nd} (hab : Fo a b) (i : Nat) : Fos (ks.set i a) (ks'.set i b) := by
  refine ⟨by rw [List.length_set, List.length_set]; exact h.1, fun j k k' hk hk' => ?_⟩
  by_cases e : i = j
  · subst e
    have h1 := (List.getElem?_eq_some_iff.1 hk).1
    have h2 := (List.getElem?_eq_some_iff.1 hk').1
    rw [List.length_set] at h1 h2
    rw [List.getElem?_set_self h1] at hk
    rw [List.getElem?_set_self h2] at hk'
    injection hk with hk; injection hk' with hk'
    rw [← hk, ← hk']; exact hab
  · rw [List.getElem?_set_ne e] at hk hk'
    exact h.2 j k k' hk hk'
theorem Fos.tail {k k' : Nd} {ks ks' : List Nd} (h : Fos (k :: ks) (k' :: ks')) : Fo k k' ∧ Fos ks ks' :=
  ⟨h.2 0 k k' rfl rfl, by have := h.1; simpa using this, fun i a b h1 h2 => h.2 (i + 1) a b (by simpa using h1) (by simpa using h2)⟩
theorem Fos.many : ∀ {ks ks' : List Nd}, Fos ks ks' → manyN ks = manyN ks'
  | [], [], _ => rfl
  | [], _ :: _, h => by have := h.1; simp at this
  | _ :: _, [], h => by have := h.1; simp at this
  | k :: ks, k' :: ks', h => by
    obtain ⟨h1, h2⟩ := h.tail
    rw [many_cons, many_cons, Fos.many h2]
    by_cases e : k.kind = 0
    · rw [if_pos e, if_pos (h1.kind.1.1 e)]
    · rw [if_neg e, if_neg (fun e' => e (h1.kind.1.2 e'))]
theorem Fos.scan {has : Bool} : ∀ {ks ks' : List Nd} {i : Nat} {o : Option Nat}, Fos ks ks' → scanK has ks i o = scanK has ks' i o
  | [], [], _, _, _ => rfl
  | [], _ :: _, _, _, h => by have := h.1; simp at this
  | _ :: _, [], _, _, h => by have := h.1; simp at this
  | k :: ks, k' :: ks', i, o, h => by
    obtain ⟨h1, h2⟩ := h.tail
    rw [scanK, scanK]
    by_cases e : k.kind = 0
    · rw [if_pos e, if_pos (h1.kind.1.1 e), Fos.scan h2]
    · rw [if_neg e, if_neg (fun e' => e (h1.kind.1.2 e')), Fos.scan h2]
theorem Fo.val {even : Bool} {m n : Nd} (h : Fo m n) : ∀ d, Val even n d → Val even m d := by
  induction h with
  | refl => exact fun d h => h
  | stub t h0 => exact fun d h => .stub d _ h.le (hashP_len h)
  | way p h ih =>
    intro d hv
    cases hv with
    | way _ _ _ hd hp h0 hk hr =>
      refine .way d p _ hd hp h0 ?_ (ih _ hr)
      rename_i k k'
      by_cases h4 : k.kind = 4
      · exact .inr h4
      · rw [h.kind.2 h4]; exact hk
  | branch has v ks ks' hl h ih =>
    intro d hv
    cases hv with
    | branch _ _ _ _ hd hv hv0 he h16 hr hm =>
      refine .branch d has v ks hd hv hv0 he (hl.trans h16) (fun k hk => ?_) (by rw [Fos.many ⟨hl, h⟩]; exact hm)
      obtain ⟨i, hi⟩ := List.getElem?_of_mem hk
      have hi' := (List.getElem?_eq_some_iff.1 hi).1
      have hk' : ks'[i]? = some (ks'[i]'(by omega)) := List.getElem?_eq_getElem (by omega)
      exact ih i k _ hi hk' _ (hr _ (List.mem_of_getElem? hk'))
theorem hashes_eq : ∀ {ks ks' : List Nd}, ks.length = ks'.length → (∀ (i : Nat) (k k' : Nd), ks[i]? = some k → ks'[i]? = some k' → (k.kind = 0 ↔ k'.kind = 0) ∧ hashP k = hashP k') → hashesP ks = hashesP ks'
  | [], [], _, _ => rfl
  | [], _ :: _, h, _ => by simp at h
  | _ :: _, [], h, _ => by simp at h
  | k :: ks, k' :: ks', h, hh => by
    obtain ⟨h1, h2⟩ := hh 0 k k' rfl rfl
    rw [hashesP, hashesP, hashes_eq (by simpa using h) (fun i a b ha hb => hh (i + 1) a b (by simpa using ha) (by simpa using hb)), h2]
    by_cases e : k.kind = 0
    · rw [if_neg (fun x => x e), if_neg (fun x => x (h1.1 e))]
    · rw [if_pos e, if_pos (fun x => e (h1.2 x))]
theorem kbit_eq {ks ks' : List Nd} (h : Fos ks ks') (i : Nat) : kbit ks i = kbit ks' i := by
  unfold kbit
  have : ((ks.getD i noneN).kind ≠ 0) ↔ ((ks'.getD i noneN).kind ≠ 0) := by
    rw [List.getD_eq_getElem?_getD, List.getD_eq_getElem?_getD]
    rcases Nat.lt_or_ge i ks.length with hi | hi
    · have h1 : ks[i]? = some (ks[i]'hi) := List.getElem?_eq_getElem hi
      have h2 : ks'[i]? = some (ks'[i]'(by have := h.1; omega)) := List.getElem?_eq_getElem (by have := h.1; omega)
      rw [h1, h2]
      exact not_congr (h.2 i _ _ h1 h2).kind.1
    · rw [List.getElem?_eq_none hi, List.getElem?_eq_none (by have := h.1; omega)]
  by_cases e : (ks.getD i noneN).kind ≠ 0
  · rw [if_pos e, if_pos (this.1 e)]
  · rw [if_neg e, if_neg (fun x => e (this.2 x))]
theorem kbits_eq {ks ks' : List Nd} (h : Fos ks ks') : ∀ i, kbits ks i = kbits ks' i
  | 0 => rfl
  | i + 1 => by rw [kbits, kbits, kbits_eq h i, kbit_eq h i]
theorem Fo.hash {m n : Nd} (h : Fo m n) : hashP m = hashP n := by
  induction h with
  | refl => rfl
  | stub t h0 => rw [hashP_eq]; exact if_pos rfl
  | @way p k k' h ih =>
    rw [hashP, hashP, if_neg (by decide), if_neg (by decide), hashes_eq (ks := [k]) (ks' := [k']) rfl (fun i a b ha hb => by
      match i, ha, hb with
      | 0, ha, hb =>
        simp at ha hb
        subst ha; subst hb
        exact ⟨h.kind.1, ih⟩)]
    rfl
  | branch has v ks ks' hl h ih =>
    rw [hashP, hashP, if_neg (by decide), if_neg (by decide), hashes_eq hl (fun i a b ha hb => ⟨(h i a b ha hb).kind.1, ih i a b ha hb⟩)]
    unfold encF
    rw [kbits_eq ⟨hl, h⟩ 16]
theorem ends_down {even : Bool} {d e : Nat} (h : endsP d even = true) (he : e ≤ d) : endsP e false = true := by
  have := endsP_le h
  unfold endsP
  rw [decide_eq_true (show e ≤ 400 by omega)]; rfl
theorem val_down {even : Bool} {t : Nd} {d : Nat} (h : Val even t d) : ∀ e, e ≤ d → Val false t e := by
  induction h with
  | none d hd => exact fun e he => .none e (by omega)
  | leaf d p v hd hp hv hend => exact fun e he => .leaf e p v (by omega) hp hv (ends_down hend (by omega))
  | stub d h hd hh => exact fun e he => .stub e h (by omega) hh
  | way d p k hd hp h0 hk hr ih => exact fun e he => .way e p k (by omega) hp h0 hk (ih _ (by omega))
  | branch d has v ks hd hv hv0 hend h16 hr hm ih => exact fun e he => .branch e has v ks (by omega) hv hv0 (fun x => ends_down (hend x) he) h16 (fun k hk => ih k hk _ (by omega)) hm
theorem hashR_val {even : Bool} {t : Nd} {d : Nat} (h : Val even t d) : hashR t = hashP t := by
  unfold hashR
  rw [right_of_val (val_down h 0 (Nat.zero_le _)), if_pos rfl]
theorem fold_fo {even : Bool} {t : Nd} {d : Nat} (h : Val even t d) : Fo (foldN t) t := by
  unfold foldN
  by_cases e : t.kind = 0
  · rw [if_pos e, kind0 h e]; exact .refl _
  · rw [if_neg e, hashR_val h]; exact .stub t e
theorem Fo.get {even : Bool} {m n : Nd} (h : Fo m n) : ∀ d, Val even n d → ∀ q, halvesB q = true → getP m q = getP n q ∨ ∃ r, (getP m q).miss = some r ∧ r <+: q := by
  induction h with
  | refl => exact fun _ _ _ _ => .inl rfl
  | stub t h0 => exact fun _ _ q _ => .inr ⟨[], by rw [getP_stub], List.nil_prefix⟩
  | way p h ih =>
    intro d hv q hq
    cases hv with
    | way _ _ _ hd hp h0 hk hr =>
      by_cases hpq : p <+: q
      · rw [getP_way hpq, getP_way hpq]
        rcases ih _ hr (q.drop p.length) (halvesB_drop hq) with e | ⟨r, e1, e2⟩
        · exact .inl (by rw [e])
        · refine .inr ⟨p ++ r, by simp only [e1]; rfl, ?_⟩
          obtain ⟨s, rfl⟩ := hpq
          rw [List.drop_left] at e2
          exact (List.prefix_append_right_inj _).2 e2
      · exact .inl (by rw [getP_way0 hpq, getP_way0 hpq])
  | branch has v ks ks' hl h ih =>
    intro d hv q hq
    cases hv with
    | branch _ _ _ _ hd hv hv0 he h16 hr hm =>
      match q, hq with
      | [], _ => exact .inl (by rw [getP_br0, getP_br0])
      | x :: q', hq =>
        have hx := halves_hd hq
        obtain ⟨k, hk⟩ : ∃ k, ks[x.toNat]? = some k := ⟨_, List.getElem?_eq_getElem (by omega)⟩
        obtain ⟨k', hk'⟩ : ∃ k', ks'[x.toNat]? = some k' := ⟨_, List.getElem?_eq_getElem (by omega)⟩
        rw [getP_br hk, getP_br hk']
        rcases ih _ k k' hk hk' _ (hr k' (List.mem_of_getElem? hk')) q' (by have := halvesB_drop (n := 1) hq; simpa using this) with e | ⟨r, e1, e2⟩
        · exact .inl (by rw [e])
        · exact .inr ⟨x :: r, by simp only [e1]; rfl, List.cons_prefix_cons.2 ⟨rfl, e2⟩⟩
theorem Fo.along {a b : Nd} (h : Fo a b) (p : List UInt8) : Fo (alongN p a) (alongN p b) := by
  unfold alongN
  split
  · exact h
  · exact .way p h
theorem Fos.hold {ks ks' : List Nd} (h : Fos ks ks') (has : Bool) (v p val : List UInt8) : (holdK has v ks p val).1 = (holdK has v ks' p val).1 ∧ (holdK has v ks p val).2.1 = (holdK has v ks' p val).2.1 ∧ Fos (holdK has v ks p val).2.2 (holdK has v ks' p val).2.2 := by
  cases p with
  | nil => exact ⟨rfl, rfl, h⟩
  | cons x r => exact ⟨rfl, rfl, h.set (.refl _) _⟩
theorem Fo.fork {k k' : Nd} (h : Fo k k') (p q val : List UInt8) : Fo (forkN (.mk 2 p false [] [k] []) q val) (forkN (.mk 2 p false [] [k'] []) q val) := by
  unfold forkN
  simp only [Nd.path, Nd.kind, Nd.val, Nd.kids, List.headD_cons, Int.reduceEq, if_false]
  refine Fo.along ?_ _
  obtain ⟨h1, h2, h3⟩ := ((Fos.refl (noneNs 16)).set (h.along (p.drop (commonB p q + 1))) (p.getD (commonB p q) 0).toNat).hold false [] (q.drop (commonB p q)) val
  rw [h1, h2]
  exact .branch _ _ _ _ h3.1 h3.2
theorem Fo.put {even : Bool} {m n : Nd} (h : Fo m n) : ∀ d, Val even n d → ∀ q val, halvesB q = true → (getP m q).miss = none → Fo (putP m q val).1 (putP n q val).1 := by
  induction h with
  | refl => exact fun _ _ _ _ _ _ => .refl _
  | stub t h0 => intro _ _ q _ _ hm; rw [getP_stub] at hm; cases hm
  | way p h ih =>
    intro d hv q val hq hm
    cases hv with
    | way _ _ _ hd hp h0 hk hr =>
      by_cases hpq : p <+: q
      · rw [getP_way hpq] at hm
        rw [putP_way hpq, putP_way hpq]
        exact .way p (ih _ hr _ val (halvesB_drop hq) (by simpa using hm))
      · rw [putP_way0 hpq, putP_way0 hpq]
        exact h.fork p q val
  | branch has v ks ks' hl h ih =>
    intro d hv q val hq hm
    cases hv with
    | branch _ _ _ _ hd hv hv0 he h16 hr hm' =>
      match q, hq, hm with
      | [], _, _ => rw [putP_br0, putP_br0]; exact .branch _ _ _ _ hl h
      | x :: q', hq, hm =>
        have hx := halves_hd hq
        obtain ⟨k, hk⟩ : ∃ k, ks[x.toNat]? = some k := ⟨_, List.getElem?_eq_getElem (by omega)⟩
        obtain ⟨k', hk'⟩ : ∃ k', ks'[x.toNat]? = some k' := ⟨_, List.getElem?_eq_getElem (by omega)⟩
        rw [getP_br hk] at hm
        rw [putP_br hk, putP_br hk']
        have := Fos.set (ks := ks) (ks' := ks') ⟨hl, h⟩ (ih _ k k' hk hk' _ (hr k' (List.mem_of_getElem? hk')) q' val (by have := halvesB_drop (n := 1) hq; simpa using this) (by simpa using hm)) x.toNat
        exact .branch _ _ _ _ this.1 this.2
theorem Fo.behind {a b : Nd} (h : Fo a b) (h4 : a.kind ≠ 4) (p : List UInt8) : Fo (behindN p a) (behindN p b) := by
  cases h with
  | refl => exact .refl _
  | stub => exact absurd rfl h4
  | way p' h => rw [behind_way, behind_way]; exact .way _ h
  | branch has v ks ks' hl h => rw [behind_br, behind_br]; exact (Fo.branch has v ks ks' hl h).along p
theorem Fos.settle {ks ks' : List Nd} (h : Fos ks ks') (h16 : ks.length = 16) (has : Bool) (v : List UInt8) (hm : (settleP (.mk 3 [] has v ks [])).2 = none) : Fo (settleP (.mk 3 [] has v ks [])).1 (settleP (.mk 3 [] has v ks' [])).1 := by
  unfold settleP at hm ⊢
  dsimp only [Nd.has, Nd.kids, Nd.val] at hm ⊢
  rw [← Fos.scan h]
  cases hs : scanK has ks 0 none with
  | none => exact .branch _ _ _ _ h.1 h.2
  | some o =>
    cases o with
    | none => exact .refl _
    | some i =>
      rw [hs] at hm
      dsimp only at hm ⊢
      have hi : i < ks.length := by
        rcases scan_lt hs with h | h
        · cases h
        · omega
      have h1 : ks[i]? = some (ks[i]'hi) := List.getElem?_eq_getElem hi
      have h2 : ks'[i]? = some (ks'[i]'(by have := h.1; omega)) := List.getElem?_eq_getElem (by have := h.1; omega)
      have e1 : ks.getD i noneN = ks[i]'hi := by rw [List.getD_eq_getElem?_getD, h1]; rfl
      have e2 : ks'.getD i noneN = ks'[i]'(by have := h.1; omega) := by rw [List.getD_eq_getElem?_getD, h2]; rfl
      simp only [e1, e2] at hm ⊢
      have hf := h.2 i _ _ h1 h2
      by_cases h4 : (ks[i]'hi).kind = 4
      · rw [if_pos h4] at hm; cases hm
      · rw [if_neg h4, if_neg (by rw [← hf.kind.2 h4]; exact h4)]
        exact hf.behind h4 _
theorem Fo.drop {even : Bool} {m n : Nd} (h : Fo m n) : ∀ d, Val even n d → ∀ q, halvesB q = true → (getP m q).has = true → (dropP m q).2 = none → (dropP n q).2 = none → Fo (dropP m q).1 (dropP n q).1 := by
  induction h with
  | refl => exact fun _ _ _ _ _ _ _ => .refl _
  | stub t h0 => intro _ _ q _ hm; rw [getP_stub] at hm; cases hm
  | @way p k k' h ih =>
    intro d hv q hq hg hm hn
    have hvm := (Fo.way p h).val d hv
    cases hv with
    | way _ _ _ hd hp h0 hk hr =>
      have hpre : p <+: q := by
        rcases Classical.em (p <+: q) with h | h
        · exact h
        · rw [getP_way0 h] at hg; cases hg
      rw [getP_way hpre] at hg
      rw [dropP_way] at hm
      rw [dropP_way, dropP_way]
      have hm' : (dropP k (q.drop p.length)).2 = none := by simpa using hm
      rw [dropP_way] at hn
      have := ih _ hr _ (halvesB_drop hq) hg hm' (by simpa using hn)
      refine this.behind ?_ p
      cases hvm with
      | way _ _ _ _ _ _ _ hr2 => exact ((drop_items hr2 _ (halvesB_drop hq) hg).1 hm').2.1
  | branch has v ks ks' hl h ih =>
    intro d hv q hq hg hmm hn
    have hvm := (Fo.branch has v ks ks' hl h).val d hv
    cases hv with
    | branch _ _ _ _ hd hv hv0 he h16 hr hm =>
      match q, hq, hg, hmm, hn with
      | [], _, _, hmm, _ =>
        rw [dropP_br0] at hmm
        rw [dropP_br0, dropP_br0]
        exact Fos.settle ⟨hl, h⟩ (by omega) _ _ hmm
      | x :: q', hq, hg, hmm, hn =>
        have hx := halves_hd hq
        obtain ⟨k, hk⟩ : ∃ k, ks[x.toNat]? = some k := ⟨_, List.getElem?_eq_getElem (by omega)⟩
        obtain ⟨k', hk'⟩ : ∃ k', ks'[x.toNat]? = some k' := ⟨_, List.getElem?_eq_getElem (by omega)⟩
        rw [getP_br hk] at hg
        rw [dropP_br hk] at hmm
        rw [dropP_br hk'] at hn
        rw [dropP_br hk, dropP_br hk']
        cases hd2 : (dropP k q').2 with
        | some r => rw [hd2] at hmm; simp at hmm
        | none =>
          have hd3 : (dropP k' q').2 = none := by
            cases hd3 : (dropP k' q').2 with
            | none => rfl
            | some r => rw [hd3] at hn; simp at hn
          have hq' : halvesB q' = true := by have := halvesB_drop (n := 1) hq; simpa using this
          have hF := ih _ k k' hk hk' _ (hr k' (List.mem_of_getElem? hk')) q' hq' hg hd2 hd3
          rw [hd2] at hmm
          rw [hd3]
          simp only [Option.isSome_none, Bool.false_eq_true, if_false] at hmm ⊢
          exact Fos.settle (Fos.set ⟨hl, h⟩ hF x.toNat) (by rw [List.length_set]; omega) _ _ hmm
theorem fold_full {m n : Nd} (h : Fo m n) (hn : Full n) : Val true m 0 := h.val 0 hn.1
theorem fold_get {m n : Nd} (h : Fo m n) (hn : Full n) {k : List UInt8} (hk : k.length ≤ 200) :
    (∃ r, (getP m (ofB k)).miss = some r ∧ r <+: ofB k ∧ tGet m k = ⟨[], false, some r, 80⟩) ∨ ((getP m (ofB k)).miss = none ∧ tGet m k = tGet n k ∧ (tGet n k).e = 0) := by
  have hv := fold_full h hn
  have ht := tri_of (nk := k.length) (nv := 0) hv hk (by decide)
  obtain ⟨v, has, e, _, _⟩ := tGet_full hn hk
  rcases h.get 0 hn.1 (ofB k) (halvesB_ofB k) with e2 | ⟨r, e2, e3⟩
  · right
    have hm := (get_prs hn k).1
    refine ⟨by rw [e2]; exact hm, ?_, by rw [e]⟩
    unfold tGet
    rw [ht, full_tri hn hk (by decide), e2]
  · left
    refine ⟨r, e2, e3, ?_⟩
    unfold tGet
    rw [ht, if_pos rfl, e2]
end Go.Proofs.YtojjfkbffjkojaaDoor
namespace Go.Proofs.YtojjfkbffjkojaaDoor
open Go.RowKit
theorem on_fo {even : Bool} (S : List UInt8 → Bool) : ∀ (N : Nat) (t : Nd) (d : Nat) (a : List UInt8), sz t < N → Val even t d → Fo (onP S t a) t
  | 0, t, d, a, h, _ => by omega
  | N + 1, t, d, a, hN, hv => by
    by_cases hs : S a = false
    · rw [onP_shut hs]; exact fold_fo hv
    have hs : S a = true := by simpa using hs
    cases hv with
    | none => rw [onP_none]; exact .refl _
    | stub d h hd hh => rw [onP_eq, if_pos (.inr rfl)]; exact fold_fo (.stub (even := even) d h hd hh)
    | leaf d p v hd hp hv he =>
      rw [onP_open (t := .mk 1 p false v [] []) hs (show (1 : Int) ≠ 4 by decide)]
      show Fo (.mk 1 p false v (onsP S [] _ _ 0) []) _
      rw [onsP]; exact .refl _
    | way d p k hd hp hp0 hk hr =>
      have hzk : sz k < N := by
        have := sz_kidD (.mk 2 p false [] [k] []) (i := 0) (by decide : 0 < 1)
        have e : (Nd.mk 2 p false [] [k] []).kids.getD 0 noneN = k := rfl
        rw [e] at this; omega
      rw [on_way hs]
      exact .way p (on_fo S N k _ _ hzk hr)
    | branch d has v ks hd hv hv0 he h16 hr hm =>
      rw [on_br hs]
      refine .branch has v _ _ (onsP_len ..) (fun i k k' h1 h2 => ?_)
      rw [ons_br, h2] at h1
      injection h1 with h1
      rw [← h1]
      have hzk : sz k' < N := by
        have h1 := sz_eq (.mk 3 [] has v ks [])
        have h2 := szs_mem (List.mem_of_getElem? h2)
        have e : (Nd.mk 3 [] has v ks []).kids = ks := rfl
        rw [e] at h1; omega
      exact on_fo S N k' _ _ hzk (hr k' (List.mem_of_getElem? h2))
theorem on_val {even : Bool} (S : List UInt8 → Bool) {t : Nd} {d : Nat} (a : List UInt8) (h : Val even t d) : Val even (onP S t a) d := (on_fo S _ t d a (Nat.lt_succ_self _) h).val d h
theorem on_hash {even : Bool} (S : List UInt8 → Bool) {t : Nd} {d : Nat} (a : List UInt8) (h : Val even t d) : hashR (onP S t a) = hashP t := by
  rw [hashR_val (on_val S a h), (on_fo S _ t d a (Nat.lt_succ_self _) h).hash]
theorem ag_none : agP noneN noneN = true := by
  rw [agP_eq, if_neg (by decide), show noneN.kids = [] from rfl, agsP]; rfl
/-- What is open for fewer agrees with what is open for more. -/
theorem ag_le {even : Bool} {S S' : List UInt8 → Bool} (hS : ∀ q, S q = true → S' q = true) : ∀ (N : Nat) (t : Nd) (d : Nat) (a : List UInt8), sz t < N → Val even t d → agP (onP S t a) (onP S' t a) = true
  | 0, t, d, a, h, _ => by omega
  | N + 1, t, d, a, hN, hv => by
    have fold : agP (foldN t) (onP S' t a) = true := by
      by_cases h0 : t.kind = 0
      · have e := kind0 hv h0
        rw [e, onP_none]; exact ag_none
      · rw [agP_eq, if_pos (foldN_k4 h0), on_hash S' a hv, hashR_val ((fold_fo hv).val d hv), (fold_fo hv).hash]
        exact decide_eq_true rfl
    by_cases hs : S a = false
    · rw [onP_shut hs]; exact fold
    have hs : S a = true := by simpa using hs
    have hs' := hS a hs
    cases hv with
    | none => rw [onP_none, onP_none]; exact ag_none
    | stub d h hd hh =>
      rw [show onP S (.mk 4 [] false [] [] h) a = foldN (.mk 4 [] false [] [] h) by rw [onP_eq, if_pos (.inr rfl)]]
      exact fold
    | leaf d p v hd hp hv he =>
      rw [onP_open (t := .mk 1 p false v [] []) hs (show (1 : Int) ≠ 4 by decide), onP_open (t := .mk 1 p false v [] []) hs' (show (1 : Int) ≠ 4 by decide)]
      show agP (.mk 1 p false v (onsP S [] _ _ 0) []) (.mk 1 p false v (onsP S' [] _ _ 0) []) = true
      rw [onsP, onsP, agP_eq, if_neg (show ¬ (Nd.mk 1 p false v [] []).kind = 4 from (by decide : ¬ (1 : Int) = 4))]
      show (decide ((1 : Int) = 1) && (decide (false = false) && (decide (p = p) && (decide (v = v) && agsP [] [])))) = true
      rw [agsP]; simp
    | way d p k hd hp hp0 hk hr =>
      have hzk : sz k < N := by
        have := sz_kidD (.mk 2 p false [] [k] []) (i := 0) (by decide : 0 < 1)
        have e : (Nd.mk 2 p false [] [k] []).kids.getD 0 noneN = k := rfl
        rw [e] at this; omega
      rw [on_way hs, on_way hs', agP_eq, if_neg (show ¬ (Nd.mk 2 p false [] [onP S k (a ++ p)] []).kind = 4 from (by decide : ¬ (2 : Int) = 4))]
      show (decide ((2 : Int) = 2) && (decide (false = false) && (decide (p = p) && (decide (([] : List UInt8) = []) && agsP [onP S k (a ++ p)] [onP S' k (a ++ p)])))) = true
      rw [agsP, agsP, ag_le hS N k _ _ hzk hr]; simp
    | branch d has v ks hd hv hv0 he h16 hr hm =>
      rw [on_br hs, on_br hs', agP_eq, if_neg (show ¬ (Nd.mk 3 [] has v (onsP S ks a true 0) []).kind = 4 from (by decide : ¬ (3 : Int) = 4))]
      show (decide ((3 : Int) = 3) && (decide (has = has) && (decide (([] : List UInt8) = []) && (decide (v = v) && agsP (onsP S ks a true 0) (onsP S' ks a true 0))))) = true
      have hk : agsP (onsP S ks a true 0) (onsP S' ks a true 0) = true := by
        rw [agsP_iff]
        refine ⟨by rw [onsP_len, onsP_len], fun i x y hx hy => ?_⟩
        rw [ons_br] at hx hy
        cases hk : ks[i]? with
        | none => rw [hk] at hx; cases hx
        | some k =>
          rw [hk] at hx hy
          injection hx with hx
          injection hy with hy
          rw [← hx, ← hy]
          have hzk : sz k < N := by
            have h1 := sz_eq (.mk 3 [] has v ks [])
            have h2 := szs_mem (List.mem_of_getElem? hk)
            have e : (Nd.mk 3 [] has v ks []).kids = ks := rfl
            rw [e] at h1; omega
          exact ag_le hS N k _ _ hzk (hr k (List.mem_of_getElem? hk))
      rw [hk]; simp
/-- Open everywhere: the whole. -/
theorem on_all {even : Bool} {S : List UInt8 → Bool} : ∀ (N : Nat) (t : Nd) (d : Nat) (a : List UInt8), sz t < N → Val even t d → (∀ r x, atP t r = some x → x.kind ≠ 0 → x.kind ≠ 4 → S (a ++ r) = true) → onP S t a = t
  | N, t, d, a, hN, hv, h => by
    have e : onP S t a = onP (fun _ => true) t a := on_congr N t d a hN hv (fun r x hx k4 k0 => h r x hx k0 k4)
    rw [e]
    have key : ∀ (N : Nat) (t : Nd) (d : Nat) (a : List UInt8), sz t < N → Val even t d → onP (fun _ => true) t a = t := by
      intro N
      induction N with
      | zero => intro t d a h; omega
      | succ N ih =>
        intro t d a hN hv
        cases hv with
        | none => rw [onP_none]
        | stub d h hd hh =>
          rw [onP_eq, if_pos (.inr rfl)]
          unfold foldN
          rw [if_neg (show ¬ (Nd.mk 4 [] false [] [] h).kind = 0 from (by decide : ¬ (4 : Int) = 0)), hashR_val (.stub (even := even) d h hd hh), hashP_eq]
          rfl
        | leaf d p v hd hp hv he =>
          rw [onP_open (t := .mk 1 p false v [] []) rfl (show (1 : Int) ≠ 4 by decide)]
          show Nd.mk 1 p false v (onsP _ [] _ _ 0) [] = _
          rw [onsP]
        | way d p k hd hp hp0 hk hr =>
          have hzk : sz k < N := by
            have := sz_kidD (.mk 2 p false [] [k] []) (i := 0) (by decide : 0 < 1)
            have e : (Nd.mk 2 p false [] [k] []).kids.getD 0 noneN = k := rfl
            rw [e] at this; omega
          rw [on_way rfl, ih k _ _ hzk hr]
        | branch d has v ks hd hv hv0 he h16 hr hm =>
          rw [on_br rfl]
          have hk : onsP (fun _ => true) ks a true 0 = ks := by
            refine List.ext_getElem? fun j => ?_
            rw [ons_br]
            cases hk : ks[j]? with
            | none => rfl
            | some k =>
              have hzk : sz k < N := by
                have h1 := sz_eq (.mk 3 [] has v ks [])
                have h2 := szs_mem (List.mem_of_getElem? hk)
                have e : (Nd.mk 3 [] has v ks []).kids = ks := rfl
                rw [e] at h1; omega
              show some (onP (fun _ => true) k _) = some k
              rw [ih k _ _ hzk (hr k (List.mem_of_getElem? hk))]
          rw [hk]
    exact key N t d a hN hv
theorem agr_le {even : Bool} {S S' : List UInt8 → Bool} {t : Nd} (h : Val even t 0) (hS : ∀ q, S q = true → S' q = true) : AgrP (onP S t []) (onP S' t []) = true := by
  unfold AgrP
  rw [on_hash S [] h, on_hash S' [] h, hashP_len h, ag_le hS _ t 0 [] (Nat.lt_succ_self _) h]
  simp
theorem on_true {even : Bool} {t : Nd} (h : Val even t 0) : onP (fun _ => true) t [] = t := on_all _ t 0 [] (Nat.lt_succ_self _) h (fun _ _ _ _ _ => rfl)
theorem agr_whole {even : Bool} {S : List UInt8 → Bool} {t : Nd} (h : Val even t 0) : AgrP (onP S t []) t = true := by
  have := agr_le (S := S) (S' := fun _ => true) h (fun _ _ => rfl)
  rw [on_true h] at this; exact this
end Go.Proofs.YtojjfkbffjkojaaDoor
namespace Go.Proofs.YtojjfkbffjkojaaDoor
open Go.RowKit
theorem is_ton : isFn Tryd.prog 66 = true := by kernel_rfl
theorem is_tonly : isFn Tryd.prog 28 = true := by kernel_rfl
def TOnOk (t : Nd) : Prop := ∀ (a : List UInt8) (ways : List (List UInt8)) (gs : List (Option Nat)) (w : World) (cs : List Value) (A : Option Addr) (n c : Nat) (B : Option Addr) (m d : Nat), RdL w (Fd w gs) (dN t) cs → RdD w (Fd w gs) (dB a) (.slice A n c) → RdD w (Fd w gs) (dLs ways) (.slice B m d) → (∀ b, some b ∈ gs → b < w.heap.size) → n + sz t ≤ 10000000 → m ≤ 1000000 → (∀ l ∈ ways, l.length ≤ 10000000) →
  Calls Tryd.prog 66 #[.agg cs.toArray, .slice A n c, .slice B m d] w fun e w' => ∃ cs', e = .returned (.agg cs'.toArray) ∧ RdL w' (Fd w' gs) (dN (onP (Sof ways) t a)) cs' ∧ Below w.heap.size w w'
set_option maxRecDepth 100000 in
set_option maxHeartbeats 4000000 in
theorem ton_step (N : Nat) (ih : ∀ k : Nd, sz k < N → TOnOk k) (t : Nd) (ht : sz t ≤ N) (hN : N ≤ 1000000) : TOnOk t := by
  intro a ways gs w cs A n c B m d hr ha hw hgs hna hm hwl
  refine calls_ev (args := [.agg cs.toArray, .slice A n c, .slice B m d]) mixed Tryd.func66 rfl (by kernel_rfl) ?_
  obtain ⟨Ap, cp, Av, cv, Ak, ck, Ah, ch, rfl, r1, r3, r4, r5⟩ := id hr.node
  have hsz := sz_eq t
  have hsl := szs_len t.kids
  have en := ha.slen
  have em : m = ways.length := hw.slen
  subst em
  have M := (((((((St.start hgs).addL hr).addD r5).addD r3).addD r1).addD r4).addD ha).addD hw
  clear hr r1 r3 r4 r5 ha hw
  refine s_box (ncs t Ap cp Av cv Ak ck Ah ch) M rfl ?_
  clear M
  rintro g3 W M
  refine s_alloc (zN) M al_nd ?_
  clear M
  rintro g6 W M
  refine lp (Nat × Bool) (fun s W => s.1 ≤ ways.length ∧ s.2 = Sof (ways.take s.1) a ∧ St w gs W [(g6, 26, zN), (g3, 26, ncs t Ap cp Av cv Ak ck Ah ch)] [] [.dat false [dLs ways] [.slice B ways.length d], .dat false [dB a] [.slice A n c], .dat false [dKs t.kids] [.slice Ak t.kids.length ck], .dat false [dB t.path] [.slice Ap t.path.length cp], .dat false [dB t.val] [.slice Av t.val.length cv], .dat false [dB t.hash] [.slice Ah t.hash.length ch], .dat false (dN t) (ncs t Ap cp Av cv Ak ck Ah ch)])
    (fun s => [(1, .slice A n c), (2, .slice B ways.length d), (3, .pointer (some ⟨g3, 0, none⟩)), (6, .pointer (some ⟨g6, 0, none⟩)), (7, .bool s.2), (8, .int .i64 (s.1 : Nat))]) (fun s => ways.length - s.1) (0, false) ⟨Nat.zero_le _, rfl, M⟩ (by repeat (first | exact trivial | refine ⟨rfl, ?_⟩)) ?_
  clear M
  rintro ⟨i, lies⟩ E1 W1 ⟨hi, hlies, M⟩
  dsimp only at hi hlies M
  refine p_len slls rfl ?_
  refine p_lt rfl rfl (fun hlt => ?_) (fun hge => ?_)
  · have hlt : i < ways.length := by have h : (i : Int) < (ways.length : Int) := hlt; omega
    obtain ⟨l, hl⟩ : ∃ l, ways[i]? = some l := ⟨_, List.getElem?_eq_getElem hlt⟩
    have hl2 : i < ways.length := hlt
    have hll := hwl l (List.mem_of_getElem? hl)
    have htk : Sof (ways.take (i + 1)) a = (Sof (ways.take i) a || decide (a <+: l)) := by
      rw [List.take_add_one, hl]
      unfold Sof
      rw [List.any_append]
      congr 1
      show (decide (a <+: l) || false) = _
      rw [Bool.or_false]
    cases lies with
    | true =>
      refine p_addN (b := 1) rfl rfl (by dsimp only; omega) ?_
      exact ⟨(i + 1, true), ⟨by dsimp only; omega, by dsimp only; rw [htk, ← hlies]; rfl, M⟩, (by repeat (first | exact trivial | refine ⟨rfl, ?_⟩)), by dsimp only; omega⟩
    | false =>
      obtain ⟨b1, o1, A8, c8, e1, hF, r8, hcell⟩ := (M.d1 0 rfl).atL hl
      subst e1
      refine p_at (i := i) slls rfl rfl rfl hl2 ?_
      refine v_load agg_b rfl hcell ?_
      replace M := M.addD r8
      clear hcell hF
      have hc8 := r8.scap
      refine cc is_begins (begins_any _ _ _ _ c8 c l a _ (M.rdb 0 rfl).2.2 hc8 (M.rdb 2 rfl).2.2 (by omega) (by omega)) ?_
      rintro e W ⟨q, rfl, hq, hbb⟩
      replace M := M.call hbb
      clear hbb
      refine ⟨_, rfl, ?_⟩
      refine p_addN (b := 1) rfl rfl (by dsimp only; omega) ?_
      have hqd : q = decide (a <+: l) := by
        by_cases h : a <+: l
        · rw [decide_eq_true h]; exact hq.2 h
        · rw [decide_eq_false h]
          cases q with
          | false => rfl
          | true => exact absurd (hq.1 rfl) h
      exact ⟨(i + 1, q), ⟨by dsimp only; omega, by dsimp only; rw [htk, ← hlies, hqd]; rfl, M.fsub _ (by simp)⟩, (by repeat (first | exact trivial | refine ⟨rfl, ?_⟩)), by dsimp only; omega⟩
  have hge : i = ways.length := by have h : ¬ (i : Int) < (ways.length : Int) := hge; omega
  subst hge
  rw [List.take_length] at hlies
  obtain ⟨S, hS⟩ : ∃ S, S = Sof ways := ⟨_, rfl⟩
  rw [← hS] at hlies ⊢
  refine p_not rfl ?_
  cases lies with
  | false =>
    rw [onP_shut hlies.symm]
    refine v_loadN (ncs t Ap cp Av cv Ak ck Ah ch) agg_nd rfl rfl (M.run 1 rfl) ?_
    refine cc is_r7fold (rfold_any t (by omega) _ _ _ (M.da 6 rfl) M.olt) ?_
    rintro e W ⟨csf, rfl, rf, hb⟩
    have hcf := rf.len
    rw [dN_len] at hcf
    replace M := M.callF hb rf
    clear rf hb
    refine ⟨_, rfl, ?_⟩
    refine s_storeA 0 csf M rfl sz_nd rfl rfl hcf ((M.da 0 rfl).ones (dN_one _)) rfl ?_
    clear M; rintro W M
    dsimp only [setL] at M
    refine c_loadN csf agg_nd rfl hcf (M.run 0 rfl) ?_
    exact ⟨csf, rfl, M.fin 0 rfl, M.below⟩
  | true =>
  refine p_fld fN0 rfl ?_
  refine v_load agg_int rfl ((M.B 1 rfl).at_ rfl) ?_
  refine p_eq rfl rfl (fun h4 => ?_) (fun h4 => ?_)
  · have h4 : t.kind = 4 := h4
    rw [onP_eq, if_pos (.inr h4)]
    refine v_loadN (ncs t Ap cp Av cv Ak ck Ah ch) agg_nd rfl rfl (M.run 1 rfl) ?_
    refine cc is_r7fold (rfold_any t (by omega) _ _ _ (M.da 6 rfl) M.olt) ?_
    rintro e W ⟨csf, rfl, rf, hb⟩
    have hcf := rf.len
    rw [dN_len] at hcf
    replace M := M.callF hb rf
    clear rf hb
    refine ⟨_, rfl, ?_⟩
    refine s_storeA 0 csf M rfl sz_nd rfl rfl hcf ((M.da 0 rfl).ones (dN_one _)) rfl ?_
    clear M; rintro W M
    dsimp only [setL] at M
    refine c_loadN csf agg_nd rfl hcf (M.run 0 rfl) ?_
    exact ⟨csf, rfl, M.fin 0 rfl, M.below⟩
  have h4 : ¬ t.kind = 4 := h4
  rw [onP_open hlies.symm h4]
  obtain ⟨ks, hks⟩ : ∃ ks, ks = onsP S t.kids (a ++ t.path) (decide (t.kind = 3)) 0 := ⟨_, rfl⟩
  have hkl : ks.length = t.kids.length := by rw [hks, onsP_len]
  have hkg : ∀ j k, t.kids[j]? = some k → ks[j]? = some (onP S k (a ++ t.path ++ if decide (t.kind = 3) = true then [UInt8.ofNat j] else [])) := fun j k hj => by rw [hks, onsP_get, hj, Nat.zero_add]; rfl
  rw [← hks]
  clear hks hlies
  replace M := (M.nilR 26 6).addT (fr := false) (ds := dNs []) (cs := []) RdL.nil_
  have e0 : ks.take 0 = [] := List.take_zero
  refine lp (Nat × Option Addr × Nat × List Value) (fun s W => s.1 ≤ t.kids.length ∧ St w gs W [(g6, 26, zN), (g3, 26, ncs t Ap cp Av cv Ak ck Ah ch)] [⟨26, 6, s.2.1, s.1, s.2.2.1, s.2.2.2⟩] [.dat false (dNs (ks.take s.1)) s.2.2.2, .dat false [dLs ways] [.slice B ways.length d], .dat false [dB a] [.slice A n c], .dat false [dKs t.kids] [.slice Ak t.kids.length ck], .dat false [dB t.path] [.slice Ap t.path.length cp], .dat false [dB t.val] [.slice Av t.val.length cv], .dat false [dB t.hash] [.slice Ah t.hash.length ch]])
    (fun s => [(1, .slice A n c), (2, .slice B ways.length d), (3, .pointer (some ⟨g3, 0, none⟩)), (6, .pointer (some ⟨g6, 0, none⟩)), (9, .slice s.2.1 s.1 s.2.2.1), (10, .int .i64 (s.1 : Nat))]) (fun s => t.kids.length - s.1) (0, none, 0, []) ⟨Nat.zero_le _, by dsimp only; rw [e0]; exact M.fsub _ (by simp)⟩ (by repeat (first | exact trivial | refine ⟨rfl, ?_⟩)) ?_
  clear M
  rintro ⟨i, A9, c9, xs⟩ E W ⟨hi, M⟩
  dsimp only at hi M
  refine p_fld fN4 rfl ?_
  refine v_load agg_ns rfl ((M.B 1 rfl).at_ rfl) ?_
  refine p_len sln rfl ?_
  refine p_lt rfl rfl (fun hlt => ?_) (fun hge => ?_)
  · have hlt : i < t.kids.length := by have h : (i : Int) < (t.kids.length : Int) := hlt; omega
    obtain ⟨k, hk⟩ : ∃ k, t.kids[i]? = some k := ⟨_, List.getElem?_eq_getElem hlt⟩
    have hkz := szs_mem (List.mem_of_getElem? hk)
    have hkk := hkg i k hk
    replace M := M.nilR 5 1
    refine s_appB (l := []) M rfl rfl (M.rdb 2 rfl).2.2 (by omega) ?_
    clear M; rintro A4 c4 W M -
    refine p_fld fN1 rfl ?_
    refine v_load agg_b rfl ((M.B 1 rfl).at_ rfl) ?_
    refine s_appB M rfl rfl (M.rdb 4 rfl).2.2 (by omega) ?_
    clear M; rintro A5 c5 W M -
    rw [List.nil_append] at M
    refine p_fld fN0 rfl ?_
    refine v_load agg_int rfl ((M.B 1 rfl).at_ rfl) ?_
    refine p_eq rfl rfl (fun h3 => ?_) (fun h3 => ?_)
    · have h3 : t.kind = 3 := h3
      rw [decide_eq_true h3, if_pos rfl] at hkk
      refine v_cvt u_ints u_u8 rfl (r := ((i % 256 : Nat) : Int)) (by rw [IntKind.wrap_u8']; omega) ?_
      refine s_litB [.int .u8 ((i % 256 : Nat) : Int)] [UInt8.ofNat i] M (by decide) rfl (bvs1 i) rfl ?_
      clear M; rintro g9 W M
      replace M := M.frzO
      refine s_appB M rfl rfl (M.rdb 0 rfl).2.2 (by omega) ?_
      clear M; rintro A7 c7 W M -
      replace M := M.frzO
      obtain ⟨b1, o1, es, e1, hel, M'⟩ := M.kid (M.d1 5 rfl) hk
      replace M := M'; clear M'
      refine p_fld fN4 rfl ?_
      refine v_load agg_ns rfl ((M.B 1 rfl).at_ rfl) ?_
      refine p_at (i := i) sln (by show (Value.slice Ak t.kids.length ck) = _; rw [e1]) rfl rfl hlt ?_
      refine v_loadN es agg_nd rfl hel (M.lc 0 rfl) ?_
      have co := ih k (by omega) (a ++ t.path ++ [UInt8.ofNat i]) ways _ _ es _ _ _ _ _ _ (M.da 1 rfl) (M.d1 2 rfl) (M.d1 5 rfl) M.olt (by omega) hm hwl
      rw [← hS] at co
      refine cc is_ton co ?_
      clear co
      rintro e W ⟨csf, rfl, rf, hb⟩
      obtain ⟨Bp, dp, Bv, dv, Bk, dk, Bh, dh, rfl, -⟩ := rf.node
      replace M := (M.call hb).addL rf
      clear rf hb
      refine ⟨_, rfl, ?_⟩
      refine s_bsliceB (ncs (onP S k (a ++ t.path ++ [UInt8.ofNat i])) Bp dp Bv dv Bk dk Bh dh) M sln z_nd rfl (by decide) rfl ?_
      clear M; rintro g9 W M
      refine s_app M Tryd.underlying24 inf_nd rfl (by decide) rfl rfl (Reads.blk (M.B 0 rfl) rfl) (all1 rfl) ⟨by omega, by decide⟩ ?_
      clear M; rintro A6 c6 W M -
      have hX := (M.dw 5 rfl).app (M.dw 0 rfl)
      have hst : ks.take (i + 1) = ks.take i ++ [onP S k (a ++ t.path ++ [UInt8.ofNat i])] := by rw [List.take_add_one, hkk]; rfl
      have hdk : dNs (ks.take i) ++ dN (onP S k (a ++ t.path ++ [UInt8.ofNat i])) = dNs (ks.take (i + 1)) := by rw [hst, dNs_app, dNs, dNs, List.append_nil]
      rw [hdk] at hX
      refine p_addN (b := 1) rfl rfl (by dsimp only; omega) ?_
      exact ⟨(i + 1, A6, c6, xs ++ ncs (onP S k (a ++ t.path ++ [UInt8.ofNat i])) Bp dp Bv dv Bk dk Bh dh), ⟨by dsimp only; omega, (M.addT hX).dropL.fsub _ (by simp)⟩, (by repeat (first | exact trivial | refine ⟨rfl, ?_⟩)), by dsimp only; omega⟩
    · have h3 : ¬ t.kind = 3 := h3
      rw [decide_eq_false h3, if_neg (by decide), List.append_nil] at hkk
      replace M := M.frzO
      obtain ⟨b1, o1, es, e1, hel, M'⟩ := M.kid (M.d1 4 rfl) hk
      replace M := M'; clear M'
      refine p_fld fN4 rfl ?_
      refine v_load agg_ns rfl ((M.B 1 rfl).at_ rfl) ?_
      refine p_at (i := i) sln (by show (Value.slice Ak t.kids.length ck) = _; rw [e1]) rfl rfl hlt ?_
      refine v_loadN es agg_nd rfl hel (M.lc 0 rfl) ?_
      have co := ih k (by omega) (a ++ t.path) ways _ _ es _ _ _ _ _ _ (M.da 1 rfl) (M.d1 2 rfl) (M.d1 4 rfl) M.olt (by omega) hm hwl
      rw [← hS] at co
      refine cc is_ton co ?_
      clear co
      rintro e W ⟨csf, rfl, rf, hb⟩
      obtain ⟨Bp, dp, Bv, dv, Bk, dk, Bh, dh, rfl, -⟩ := rf.node
      replace M := (M.call hb).addL rf
      clear rf hb
      refine ⟨_, rfl, ?_⟩
      refine s_bsliceB (ncs (onP S k (a ++ t.path)) Bp dp Bv dv Bk dk Bh dh) M sln z_nd rfl (by decide) rfl ?_
      clear M; rintro g9 W M
      refine s_app M Tryd.underlying24 inf_nd rfl (by decide) rfl rfl (Reads.blk (M.B 0 rfl) rfl) (all1 rfl) ⟨by omega, by decide⟩ ?_
      clear M; rintro A6 c6 W M -
      have hX := (M.dw 4 rfl).app (M.dw 0 rfl)
      have hst : ks.take (i + 1) = ks.take i ++ [onP S k (a ++ t.path)] := by rw [List.take_add_one, hkk]; rfl
      have hdk : dNs (ks.take i) ++ dN (onP S k (a ++ t.path)) = dNs (ks.take (i + 1)) := by rw [hst, dNs_app, dNs, dNs, List.append_nil]
      rw [hdk] at hX
      refine p_addN (b := 1) rfl rfl (by dsimp only; omega) ?_
      exact ⟨(i + 1, A6, c6, xs ++ ncs (onP S k (a ++ t.path)) Bp dp Bv dv Bk dk Bh dh), ⟨by dsimp only; omega, (M.addT hX).dropL.fsub _ (by simp)⟩, (by repeat (first | exact trivial | refine ⟨rfl, ?_⟩)), by dsimp only; omega⟩
  · have hge : i = t.kids.length := by have h : ¬ (i : Int) < (t.kids.length : Int) := hge; omega
    subst hge
    rw [← hkl, List.take_length] at M
    rw [hkl] at M
    replace M := M.frzR (fr := false) (M.dt 0 rfl)
    dsimp only at M
    refine p_fld fN4 rfl ?_
    refine s_set 1 (off := 4) (.slice A9 t.kids.length c9) (ncs t Ap cp Av cv A9 c9 Ah ch) M rfl sz_nsR rfl rfl rfl (Nat.le_of_ble_eq_true rfl) rfl ?_
    clear M; rintro W M
    dsimp only [setL] at M
    refine v_loadN (ncs t Ap cp Av cv A9 c9 Ah ch) agg_nd rfl rfl (M.run 1 rfl) ?_
    refine s_storeA 0 (ncs t Ap cp Av cv A9 c9 Ah ch) M rfl sz_nd rfl rfl rfl (all1 rfl) rfl ?_
    clear M; rintro W M
    dsimp only [setL] at M
    refine c_loadN (ncs t Ap cp Av cv A9 c9 Ah ch) agg_nd rfl rfl (M.run 0 rfl) ?_
    have hkd : RdD W (Fd W gs) (dKs ks) (.slice A9 ks.length c9) := by
      have h := M.fin1 0 rfl
      unfold dKs
      rw [hkl]; exact h
    have hn := RdL.ofnode (t := .mk t.kind t.path t.has t.val ks t.hash) (M.fin1 5 rfl) (M.fin1 6 rfl) hkd (M.fin1 7 rfl)
    refine ⟨_, rfl, ?_, M.below⟩
    unfold ncs at hn ⊢
    rw [show (Nd.mk t.kind t.path t.has t.val ks t.hash).kids.length = t.kids.length from hkl] at hn
    exact hn
theorem ton_any (t : Nd) (ht : sz t ≤ 999999) : TOnOk t := by
  have key : ∀ (N : Nat), N ≤ 1000000 → ∀ t : Nd, sz t < N → TOnOk t := by
    intro N
    induction N with
    | zero => intro _ t h; omega
    | succ N ih => intro hN t h; exact ton_step N (fun k hk => ih (by omega) k hk) t (by omega) (by omega)
  exact key 1000000 (Nat.le_refl _) t (by omega)
set_option maxRecDepth 100000 in
set_option maxHeartbeats 4000000 in
theorem tonly_any (t : Nd) (hz : sz t ≤ 100000) (ways : List (List UInt8)) (gs : List (Option Nat)) (w : World) (cs : List Value) (hr : RdL w (Fd w gs) (dN t) cs) {A : Option Addr} {n c : Nat} (hw : RdD w (Fd w gs) (dLs ways) (.slice A n c)) (hgs : ∀ b, some b ∈ gs → b < w.heap.size) (hn : n ≤ 1000000) (hwl : ∀ l ∈ ways, l.length ≤ 10000000) :
    Calls Tryd.prog 28 #[.agg cs.toArray, .slice A n c] w fun e w' => ∃ cs', e = .returned (.tuple #[.agg cs'.toArray, .int .i64 (onlyP t ways).2]) ∧ RdL w' (Fd w' gs) (dN (onlyP t ways).1) cs' ∧ Below w.heap.size w w' := by
  refine calls_ev (args := [.agg cs.toArray, .slice A n c]) mixed Tryd.func28 rfl (by kernel_rfl) ?_
  have hl0 := hr.len
  rw [dN_len] at hl0
  have M := ((St.start hgs).addD hw).addL hr
  clear hr hw
  refine s_box (cs) M rfl ?_
  clear M
  rintro g2 W M
  refine s_alloc (zN) M al_nd ?_
  clear M
  rintro g4 W M
  unfold onlyP
  refine v_loadN cs agg_nd rfl hl0 (M.run 1 rfl) ?_
  refine cc is_r7check (r7check_any t (by omega) _ _ _ (M.da 0 rfl) M.olt) ?_
  rintro e W ⟨rfl, hb⟩
  replace M := M.call hb
  clear hb
  refine ⟨_, rfl, ?_⟩
  refine p_ne rfl rfl (fun h1 => ?_) (fun h1 => ?_)
  rotate_left
  · have h1 : ¬ checkE t = 0 := h1
    have h2 : checkE t = 2 := by unfold checkE at h1 ⊢; split at h1 <;> simp_all
    rw [if_neg h1]
    refine p_build (vs := zN) pl_nd z_nd rfl ?_
    refine s_storeA 0 zN M rfl sz_nd rfl rfl rfl (all1 rfl) rfl ?_
    clear M; rintro W M
    dsimp only [setL] at M
    refine c_loadN zN agg_nd rfl rfl (M.run 0 rfl) ?_
    rw [h2]
    exact ⟨zN, rfl, RdL.znone, M.below⟩
  have h1 : checkE t = 0 := h1
  rw [if_pos h1]
  replace M := M.addD (d := dB []) (RdD.nil_ (s := 1) none 0)
  refine v_loadN cs agg_nd rfl hl0 (M.run 1 rfl) ?_
  refine cc is_ton (ton_any t (by omega) [] ways _ _ cs _ _ _ _ _ _ (M.da 1 rfl) (M.d1 0 rfl) (M.d1 2 rfl) M.olt (by omega) hn hwl) ?_
  rintro e W ⟨cs9, rfl, r9, hb⟩
  have hc9 := r9.len
  rw [dN_len] at hc9
  replace M := (M.call hb).addL r9
  clear r9 hb
  refine ⟨_, rfl, ?_⟩
  refine s_storeA 0 cs9 M rfl sz_nd rfl rfl hc9 ((M.da 0 rfl).ones (dN_one _)) rfl ?_
  clear M; rintro W M
  dsimp only [setL] at M
  refine c_loadN cs9 agg_nd rfl hc9 (M.run 0 rfl) ?_
  exact ⟨cs9, rfl, M.fin 0 rfl, M.below⟩
end Go.Proofs.YtojjfkbffjkojaaDoor
namespace Go.Proofs.YtojjfkbffjkojaaDoor
open Go.RowKit

theorem is_kn10 : isFn Tryd.prog 15 = true := by kernel_rfl
theorem is_much10 : isFn Tryd.prog 14 = true := by kernel_rfl
set_option maxRecDepth 100000 in
set_option maxHeartbeats 1000000 in
theorem much10_any (t : Nd) (ht : sz t ≤ 900000000) (gs : List (Option Nat)) (w : World) (cs : List Value) (hr : RdL w (Fd w gs) (dN t) cs) (hgs : ∀ b, some b ∈ gs → b < w.heap.size) :
    Calls Tryd.prog 14 #[.agg cs.toArray] w fun e w' => e = .returned (.bool (decide (400 ≤ muchP t 400))) ∧ Below w.heap.size w w' := by
  refine calls_ev (args := [.agg cs.toArray]) mixed Tryd.func14 rfl (by kernel_rfl) ?_
  have hcl := hr.len
  rw [dN_len] at hcl
  have M := (St.start hgs).addL hr
  refine s_box (cs) M rfl ?_
  clear M
  rintro g1 W M
  refine v_loadN cs agg_nd rfl hcl (M.run 0 rfl) ?_
  refine cc is_r7much (much_any 1000000000 (Nat.le_refl _) t (by omega) _ _ cs 400 (by first | with_reducible exact M.da_0 | with_reducible exact M.da_1 | with_reducible exact M.da_2 | with_reducible exact M.da_3 | with_reducible exact M.da_4 | with_reducible exact M.da_5 | with_reducible exact M.da_6 | with_reducible exact M.da_7 | with_reducible exact M.da_8 | with_reducible exact M.da_9 | with_reducible exact M.da_10 | with_reducible exact M.da_11) M.olt (by decide)) ?_
  rintro e W ⟨rfl, hb⟩
  replace M := M.call hb
  refine ⟨_, rfl, ?_⟩
  refine p_ge rfl rfl (fun h => ?_) (fun h => ?_)
  · rw [decide_eq_true (show 400 ≤ muchP t 400 by omega)]
    exact ⟨rfl, M.below⟩
  · rw [decide_eq_false (show ¬ 400 ≤ muchP t 400 by omega)]
    exact ⟨rfl, M.below⟩
theorem much10_no {t : Nd} (h : decide (400 ≤ muchP t 400) = false) : sz t ≤ 22000 := by
  rw [decide_eq_false_iff_not] at h
  have := much_sz t 400 (by omega)
  omega
def kl10 : List Pr := [⟨[16], [97]⟩, ⟨[32], [98]⟩]
def kt10 : Nd := (tOf kl10).1
set_option maxRecDepth 100000 in
theorem kt10_0 : (tOf kl10).2 = 0 ∧ kt10.kind = 3 ∧ kt10.kids.length = 16 ∧ kt10.path = [] ∧ (kt10.kids.getD 1 noneN).kind = 1 ∧ (kt10.kids.getD 2 noneN).kind = 1 ∧ sz kt10 ≤ 10000 := by decide +kernel
set_option maxRecDepth 100000 in
theorem kt10_1 : rightP true kt10 0 = true := by decide +kernel
theorem kt10_c : checkE kt10 = 0 := by unfold checkE; rw [kt10_1, if_pos rfl]
theorem kt10_f : onlyP kt10 [] = (foldN kt10, 0) ∧ (foldN kt10).kind = 4 := by
  refine ⟨?_, foldN_k4 (by rw [kt10_0.2.1]; decide)⟩
  unfold onlyP
  rw [if_pos kt10_c, onP_shut rfl]
theorem kt10_a : ∃ x, atP kt10 [1] = some x ∧ x.kind = 1 := by
  obtain ⟨-, h3, h16, -, h1, -, -⟩ := kt10_0
  refine ⟨kt10.kids.getD 1 noneN, ?_, h1⟩
  rw [atP_br (by simp) h3 (by show 1 < kt10.kids.length; omega) (by show (kt10.kids.getD 1 noneN).kind ≠ 0; rw [h1]; decide)]
  show atP (kt10.kids.getD 1 noneN) [] = _
  rw [atP_eq, if_pos rfl]
theorem kt10_b : ∃ B, onlyP kt10 [[1]] = (B, 0) ∧ B.kids.length = 16 ∧ (B.kids.getD 1 noneN).kind = 1 ∧ (B.kids.getD 2 noneN).kind = 4 ∧ AgrP B kt10 = true ∧ AgrP kt10 B = false ∧ sz B ≤ 70000 := by
  obtain ⟨-, h3, h16, hp, h1, h2, hz⟩ := kt10_0
  have hv := check_val kt10_c
  have hS0 : Sof [[1]] [] = true := rfl
  have hS1 : Sof [[1]] [1] = true := rfl
  have hS2 : Sof [[1]] [2] = false := rfl
  refine ⟨onP (Sof [[1]]) kt10 [], by unfold onlyP; rw [if_pos kt10_c], ?_, ?_, ?_, agr_whole hv, ?_, by have := on_sz (S := Sof [[1]]) (sz kt10 + 1) kt10 [] (Nat.lt_succ_self _); omega⟩
  · rw [onP_open hS0 (by rw [h3]; decide)]
    show (onsP _ _ _ _ _).length = 16
    rw [onsP_len, h16]
  · rw [onP_open hS0 (by rw [h3]; decide)]
    show ((onsP (Sof [[1]]) kt10.kids ([] ++ kt10.path) (decide (kt10.kind = 3)) 0).getD 1 noneN).kind = 1
    rw [hp, h3, List.getD_eq_getElem?_getD]
    show (((onsP (Sof [[1]]) kt10.kids [] true 0)[1]?).getD noneN).kind = 1
    rw [ons_br, getD_some (d := noneN) (show 1 < kt10.kids.length by omega)]
    show (onP (Sof [[1]]) (kt10.kids.getD 1 noneN) [1]).kind = 1
    rw [onP_open hS1 (by rw [h1]; decide)]
    exact h1
  · rw [onP_open hS0 (by rw [h3]; decide)]
    show ((onsP (Sof [[1]]) kt10.kids ([] ++ kt10.path) (decide (kt10.kind = 3)) 0).getD 2 noneN).kind = 4
    rw [hp, h3, List.getD_eq_getElem?_getD]
    show (((onsP (Sof [[1]]) kt10.kids [] true 0)[2]?).getD noneN).kind = 4
    rw [ons_br, getD_some (d := noneN) (show 2 < kt10.kids.length by omega)]
    show (onP (Sof [[1]]) (kt10.kids.getD 2 noneN) [2]).kind = 4
    rw [onP_shut hS2]
    exact foldN_k4 (by rw [h2]; decide)
  · have hno : agP kt10 (onP (Sof [[1]]) kt10 []) = false := by
      cases h : agP kt10 (onP (Sof [[1]]) kt10 []) with
      | false => rfl
      | true =>
        rw [onP_open hS0 (by rw [h3]; decide), agP_eq, if_neg (by rw [h3]; decide)] at h
        simp only [Bool.and_eq_true] at h
        have h := (agsP_iff _ _).1 h.2.2.2.2
        have h := h.2 2 _ (onP (Sof [[1]]) (kt10.kids.getD 2 noneN) [2]) (getD_some (d := noneN) (show 2 < kt10.kids.length by omega)) (by
          show (onsP (Sof [[1]]) kt10.kids ([] ++ kt10.path) (decide (kt10.kind = 3)) 0)[2]? = _
          rw [hp, h3]
          show (onsP (Sof [[1]]) kt10.kids [] true 0)[2]? = _
          rw [ons_br, getD_some (d := noneN) (show 2 < kt10.kids.length by omega)]
          rfl)
        have h : agP (kt10.kids.getD 2 noneN) (onP (Sof [[1]]) (kt10.kids.getD 2 noneN) [2]) = true := h
        rw [agP_eq, if_neg (by rw [h2]; decide), onP_shut hS2, foldN_k4 (by rw [h2]; decide), h2] at h
        cases h
    unfold AgrP
    rw [hno, Bool.and_false, Bool.and_false]
set_option maxRecDepth 100000 in
set_option maxHeartbeats 4000000 in
theorem known10_any (gs : List (Option Nat)) (w : World) (hG : GL w gs) (hgs : ∀ b, some b ∈ gs → b < w.heap.size) : Calls Tryd.prog 15 #[] w fun e w' => e = .returned (.bool true) ∧ Below w.heap.size w w' := by
  refine calls_ev (args := []) mixed Tryd.func15 rfl (by kernel_rfl) ?_
  have M := St.start (w := w) (gs := gs) hgs
  refine s_bslice (bvs [16]) (fr := true) (ds := (bvs [16]).map D.v) M slb (zs := [.int .u8 0]) (by kernel_rfl) rfl (by decide) rfl (RdL.ofvals _) rfl ?_
  clear M; rintro g1 W M
  refine s_bsliceB (bvs [97]) M slb (zs := [.int .u8 0]) (by kernel_rfl) rfl (by decide) rfl ?_
  clear M; rintro g2 W M
  refine s_cvtB [97] M rfl rfl (Nat.le_refl _) ?_
  clear M; rintro W M
  refine p_build (vs := [.slice (some ⟨g1, 0, none⟩) 1 1, .slice (some ⟨g2, 0, none⟩) 1 1]) pl_pr z_pr rfl ?_
  refine s_bslice (bvs [32]) (fr := true) (ds := (bvs [32]).map D.v) M slb (zs := [.int .u8 0]) (by kernel_rfl) rfl (by decide) rfl (RdL.ofvals _) rfl ?_
  clear M; rintro g3 W M
  refine s_bsliceB (bvs [98]) M slb (zs := [.int .u8 0]) (by kernel_rfl) rfl (by decide) rfl ?_
  clear M; rintro g4 W M
  refine s_cvtB [98] M rfl rfl (Nat.le_refl _) ?_
  clear M; rintro W M
  refine p_build (vs := [.slice (some ⟨g3, 0, none⟩) 1 1, .slice (some ⟨g4, 0, none⟩) 1 1]) pl_pr z_pr rfl ?_
  have hall : RdL W (Ft w W (own [] [] gs) false) (dPrs kl10) [.slice (some ⟨g1, 0, none⟩) 1 1, .slice (some ⟨g2, 0, none⟩) 1 1, .slice (some ⟨g3, 0, none⟩) 1 1, .slice (some ⟨g4, 0, none⟩) 1 1] :=
    RdL.cons (M.dw 3 rfl).hd (RdL.cons (M.dw 2 rfl).hd (RdL.cons (M.dw 1 rfl).hd (RdL.cons (M.dw 0 rfl).hd RdL.nil_)))
  refine s_bslice [.slice (some ⟨g1, 0, none⟩) 1 1, .slice (some ⟨g2, 0, none⟩) 1 1, .slice (some ⟨g3, 0, none⟩) 1 1, .slice (some ⟨g4, 0, none⟩) 1 1] (fr := false) (ds := dPrs kl10) M slp z_pr rfl (by decide) rfl hall rfl ?_
  clear M hall; rintro g7 W M
  refine cc is_r8of (r8of_any 401 (Nat.le_refl _) kl10 _ W _ 2 2 (M.d1 0 rfl) M.olt (longN_big (by decide))) ?_
  rintro e W ⟨cs, he, hres, hb⟩
  rw [← tOf_eq (Nat.le_refl _)] at he hres
  rw [kt10_0.1] at he
  subst he
  have kz : sz kt10 ≤ 10000 := kt10_0.2.2.2.2.2.2
  obtain ⟨f1, f2⟩ := kt10_f
  obtain ⟨x, ha1, ha2⟩ := kt10_a
  obtain ⟨B, b1, b2, b3, b4, b5, b6, b7⟩ := kt10_b
  replace hres : RdL W _ (dN kt10) cs := hres
  obtain ⟨t, ht⟩ : ∃ t, t = kt10 := ⟨_, rfl⟩
  rw [← ht] at hres kz f1 f2 ha1 b1 b5 b6
  clear ht
  have hc5 := hres.len
  rw [dN_len] at hc5
  replace M := ((M.call hb).addL hres).fsub [.dat false (dN t) cs] (by simp)
  refine ⟨_, rfl, ?_⟩
  clear hres hb
  refine s_alloc (zN) M al_nd ?_
  clear M
  rintro g8 W M
  refine s_storeA 0 cs M rfl sz_nd rfl rfl hc5 ((M.da 0 rfl).ones (dN_one _)) rfl ?_
  clear M; rintro W M
  dsimp only [setL] at M
  -- opened for none
  replace M := M.addD (d := dLs []) (RdD.nil_ (s := 1) none 0)
  refine v_loadN cs agg_nd rfl hc5 (M.run 0 rfl) ?_
  have co := vonly_any t (by omega) [] _ _ cs (M.gl hG) (M.da 1 rfl) (M.d1 0 rfl) M.olt (by omega) (fun l h => by cases h)
  rw [f1] at co
  refine cc is_vonly co ?_
  clear co
  rintro e W ⟨cs9, rfl, r9, hb⟩
  obtain ⟨Ap, cp, Av, cv, Ak, ck, Ah, ch, rfl, -⟩ := r9.node
  replace M := (M.call hb).addL r9
  clear r9 hb
  refine ⟨_, rfl, ?_⟩
  refine s_alloc (zN) M al_nd ?_
  clear M
  rintro g9 W M
  first | refine s_storeA 0 (ncs (foldN t) Ap cp Av cv Ak ck Ah ch) M rfl (by kernel_rfl) rfl rfl rfl (all1 rfl) rfl ?_ | refine s_storeA 1 (ncs (foldN t) Ap cp Av cv Ak ck Ah ch) M rfl (by kernel_rfl) rfl rfl rfl (all1 rfl) rfl ?_ | refine s_storeA 2 (ncs (foldN t) Ap cp Av cv Ak ck Ah ch) M rfl (by kernel_rfl) rfl rfl rfl (all1 rfl) rfl ?_ | refine s_storeA 3 (ncs (foldN t) Ap cp Av cv Ak ck Ah ch) M rfl (by kernel_rfl) rfl rfl rfl (all1 rfl) rfl ?_
  clear M
  rintro W M
  dsimp only [setL] at M
  -- opened for one
  refine v_loadN cs agg_nd rfl hc5 (M.run 1 rfl) ?_
  refine s_bslice (bvs [1]) (fr := true) (ds := (bvs [1]).map D.v) M slb (zs := [.int .u8 0]) (by kernel_rfl) rfl (by decide) rfl (RdL.ofvals _) rfl ?_
  clear M; rintro g10 W M
  refine s_bslice [.slice (some ⟨g10, 0, none⟩) 1 1] (fr := true) (ds := [dB [1]]) M slls (zs := [.slice none 0 0]) (by kernel_rfl) rfl (by decide) rfl (M.dt 0 rfl) rfl ?_
  clear M; rintro g11 W M
  have co := vonly_any t (by omega) [[1]] _ _ cs (M.gl hG) (M.da 4 rfl) (M.d1 0 rfl) M.olt (by omega) (fun l h => by rw [List.mem_singleton.1 h]; decide)
  rw [b1] at co
  refine cc is_vonly co ?_
  clear co
  rintro e W ⟨cs9, rfl, r9, hb⟩
  obtain ⟨Bp, dp, Bv, dv, Bk, dk, Bh, dh, rfl, -, -, r4, -⟩ := r9.node
  replace M := ((M.call hb).addL r9).addD (r4)
  clear r9 hb r4
  refine ⟨_, rfl, ?_⟩
  refine s_alloc (zN) M al_nd ?_
  clear M
  rintro g12 W M
  first | refine s_storeA 0 (ncs B Bp dp Bv dv Bk dk Bh dh) M rfl (by kernel_rfl) rfl rfl rfl (all1 rfl) rfl ?_ | refine s_storeA 1 (ncs B Bp dp Bv dv Bk dk Bh dh) M rfl (by kernel_rfl) rfl rfl rfl (all1 rfl) rfl ?_ | refine s_storeA 2 (ncs B Bp dp Bv dv Bk dk Bh dh) M rfl (by kernel_rfl) rfl rfl rfl (all1 rfl) rfl ?_ | refine s_storeA 3 (ncs B Bp dp Bv dv Bk dk Bh dh) M rfl (by kernel_rfl) rfl rfl rfl (all1 rfl) rfl ?_
  clear M
  rintro W M
  dsimp only [setL] at M
  refine p_ne rfl rfl (fun _ => ?_) (fun h => absurd rfl h)
  refine p_fld fN0 rfl ?_
  refine v_load agg_int rfl ((M.B 1 rfl).at_ rfl) ?_
  refine p_ne rfl rfl (fun _ => ?_) (fun h => absurd f2 h)
  refine p_ne rfl rfl (fun _ => ?_) (fun h => absurd rfl h)
  refine p_fld fN4 rfl ?_
  refine v_load agg_ns rfl ((M.B 0 rfl).at_ rfl) ?_
  refine p_len sln rfl ?_
  refine p_ne rfl rfl (fun _ => ?_) (fun h => absurd (by rw [b2]; rfl) h)
  refine v_loadN cs agg_nd rfl hc5 (M.run 2 rfl) ?_
  refine s_bslice (bvs [1]) (fr := true) (ds := (bvs [1]).map D.v) M slb (zs := [.int .u8 0]) (by kernel_rfl) rfl (by decide) rfl (RdL.ofvals _) rfl ?_
  clear M; rintro g13 W M
  have ca := vat_any t (by omega) [1] _ _ cs (M.da 7 rfl) (M.d1 0 rfl) M.olt (by decide)
  rw [ha1] at ca
  refine cc is_vat ca ?_
  clear ca
  rintro e W ⟨cs9, rfl, r9, hb⟩
  obtain ⟨Cp, ep, Cv, ev, Ck, ek, Ch, eh, rfl, -⟩ := r9.node
  replace M := M.callF hb r9
  clear r9 hb
  refine ⟨_, rfl, ?_⟩
  refine s_alloc (zN) M al_nd ?_
  clear M
  rintro g14 W M
  first | refine s_storeA 0 (ncs x Cp ep Cv ev Ck ek Ch eh) M rfl (by kernel_rfl) rfl rfl rfl (all1 rfl) rfl ?_ | refine s_storeA 1 (ncs x Cp ep Cv ev Ck ek Ch eh) M rfl (by kernel_rfl) rfl rfl rfl (all1 rfl) rfl ?_ | refine s_storeA 2 (ncs x Cp ep Cv ev Ck ek Ch eh) M rfl (by kernel_rfl) rfl rfl rfl (all1 rfl) rfl ?_ | refine s_storeA 3 (ncs x Cp ep Cv ev Ck ek Ch eh) M rfl (by kernel_rfl) rfl rfl rfl (all1 rfl) rfl ?_
  clear M
  rintro W M
  dsimp only [setL] at M
  obtain ⟨y1, o1, es1, e1, hel1, M'⟩ := M.kid (M.d1 2 rfl) (getD_some (d := noneN) (show 1 < B.kids.length by omega))
  replace M := M'; clear M'
  obtain ⟨y2, o2, es2, e2, hel2, M'⟩ := M.kid (M.d1 4 rfl) (getD_some (d := noneN) (show 2 < B.kids.length by omega))
  replace M := M'; clear M'
  obtain ⟨Dp, fp, Dv, fv, Dk, fk, Dh, fh, rfl, -⟩ := (M.da 1 rfl).node
  obtain ⟨Ep, gp, Ev, gv, Ek, gk, Eh, gh, rfl, -⟩ := (M.da 3 rfl).node
  refine p_fld fN4 rfl ?_
  refine v_load agg_ns rfl ((M.B 1 rfl).at_ rfl) ?_
  refine p_at (i := 1) sln (by show (Value.slice Bk B.kids.length dk) = _; rw [e1]) rfl rfl (by omega) ?_
  refine p_fld fN0 rfl ?_
  refine v_load agg_int rfl (M.lc 2 rfl 0 _ rfl) ?_
  refine p_eq rfl rfl (fun _ => ?_) (fun h => absurd b3 h)
  refine p_fld fN4 rfl ?_
  refine v_load agg_ns rfl ((M.B 1 rfl).at_ rfl) ?_
  refine p_at (i := 2) sln (by show (Value.slice Bk B.kids.length dk) = _; rw [e2]) rfl rfl (by omega) ?_
  refine p_fld fN0 rfl ?_
  refine v_load agg_int rfl (M.lc 0 rfl 0 _ rfl) ?_
  refine p_eq rfl rfl (fun _ => ?_) (fun h => absurd b4 h)
  replace M := M.fsub [.dat true (dN x) (ncs x Cp ep Cv ev Ck ek Ch eh), .dat false (dN B) (ncs B Bp dp Bv dv Bk dk Bh dh), .dat false (dN t) cs] (by simp)
  refine v_loadN (ncs B Bp dp Bv dv Bk dk Bh dh) agg_nd rfl rfl (M.run 1 rfl) ?_
  refine v_loadN cs agg_nd rfl hc5 (M.run 3 rfl) ?_
  have ca := vAgr_any B t (by omega) (by omega) _ _ _ _ (M.gl hG) (M.da 1 rfl) (M.da 2 rfl) M.olt
  rw [b5] at ca
  refine cc is_vAgr ca ?_
  clear ca
  rintro e W ⟨rfl, hb⟩
  replace M := M.call hb
  clear hb
  refine ⟨_, rfl, ?_⟩
  refine v_loadN cs agg_nd rfl hc5 (M.run 3 rfl) ?_
  refine v_loadN (ncs B Bp dp Bv dv Bk dk Bh dh) agg_nd rfl rfl (M.run 1 rfl) ?_
  have ca := vAgr_any t B (by omega) (by omega) _ _ _ _ (M.gl hG) (M.da 2 rfl) (M.da 1 rfl) M.olt
  rw [b6] at ca
  refine cc is_vAgr ca ?_
  clear ca
  rintro e W ⟨rfl, hb⟩
  replace M := M.call hb
  clear hb
  refine ⟨_, rfl, ?_⟩
  refine p_not rfl ?_
  refine p_fld fN0 rfl ?_
  refine v_load agg_int rfl ((M.B 0 rfl).at_ rfl) ?_
  refine p_eq rfl rfl (fun _ => ?_) (fun h => absurd ha2 h)
  exact ⟨rfl, M.below⟩
end Go.Proofs.YtojjfkbffjkojaaDoor
namespace Go.Proofs.YtojjfkbffjkojaaDoor
open Go.RowKit


theorem RdS.rdD {W : World} {A : Option Addr} {n c : Nat} {ll : List (List UInt8)} (h : RdS W W.heap.size A n ll) (hc : n ≤ c) : RdD W (Fd W []) (dLs ll) (.slice A n c) := (h.toD hc).to fun b hb => ⟨rfl, hb, fun e => by cases e⟩
theorem sum_len1 : ∀ (ll : List (List UInt8)), ll.length ≤ (ll.map fun x => x.length + 1).sum
  | [] => Nat.zero_le _
  | x :: ll => by have := sum_len1 ll; rw [List.map_cons, List.sum_cons, List.length_cons]; omega
end Go.Proofs.YtojjfkbffjkojaaDoor
