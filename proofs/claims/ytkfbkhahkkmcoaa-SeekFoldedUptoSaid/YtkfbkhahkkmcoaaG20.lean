/- Tries of which something is folded, plainly. No walk here. Seek, plainly: ranges of full tries, of folded ones; what begins so; from pair to pair. law09: long, much, folded. law09: known. The walks of the laws SeekRanges and SeekFinds. -/
import Derived.Test.YtkfbkhahkkmcoaaG19
namespace Go.Proofs.Ytkfbkhahkkmcoaa
/-- The second one, with something folded. -/
inductive Fo : Nd → Nd → Prop
  | refl (t : Nd) : Fo t t
  | stub (t : Nd) (h0 : t.kind ≠ 0) : Fo (.mk 4 [] false [] [] (hashP t)) t
  | way (p : List UInt8) {k k' : Nd} (h : Fo k k') : Fo (.mk 2 p false [] [k] []) (.mk 2 p false [] [k'] [])
  | branch (has : Bool) (v : List UInt8) (ks ks' : List Nd) (hl : ks.length = ks'.length) (h : ∀ (i : Nat) (k k' : Nd), ks[i]? = some k → ks'[i]? = some k' → Fo k k') : Fo (.mk 3 [] has v ks []) (.mk 3 [] has v ks' [])
theorem Fo.kind {m n : Nd} (h : Fo m n) : (m.kind = 0 ↔ n.kind = 0) ∧ (m.kind ≠ 4 → m.kind = n.kind) := by
  cases h with
  | refl => exact ⟨Iff.rfl, fun _ => rfl⟩
  | stub _ h0 => exact ⟨⟨fun e => absurd (show (4 : Int) = 0 from e) (by decide), fun e => absurd e h0⟩, fun e => absurd rfl e⟩
  | way => exact ⟨⟨fun e => absurd (show (2 : Int) = 0 from e) (by decide), fun e => absurd (show (2 : Int) = 0 from e) (by decide)⟩, fun _ => rfl⟩
  | branch => exact ⟨⟨fun e => absurd (show (3 : Int) = 0 from e) (by decide), fun e => absurd (show (3 : Int) = 0 from e) (by decide)⟩, fun _ => rfl⟩
/-- Kids, each the other's or folded. -/
def Fos (ks ks' : List Nd) : Prop := ks.length = ks'.length ∧ ∀ (i : Nat) (k k' : Nd), ks[i]? = some k → ks'[i]? = some k' → Fo k k'
theorem Fos.refl (ks : List Nd) : Fos ks ks := ⟨rfl, fun i k k' h h' => by rw [h] at h'; injection h' with h'; rw [h']; exact .refl _⟩
theorem Fos.set {ks ks' : List Nd} (h : Fos ks ks') {a b : Nd} (hab : Fo a b) (i : Nat) : Fos (ks.set i a) (ks'.set i b) := by
  refine ⟨by rw [List.length_set, List.length_set]; exact h.1, fun j k k' hk hk' => ?_⟩
  by_cases e : i = j
  · subst e
    have h1 := (List.getElem?_eq_some_iff.1 hk).1
    have h2 := (List.getElem?_eq_some_iff.1 hk').1
    rw [List.length_set] at h1 h2
    rw [List.getElem?_set_self h1] at hk
    rw [List.getElem?_set_self h2] at hk'
    injection hk with hk; injection hk' with hk'
    rw [← hk, ← hk']; exact hab
  · rw [List.getElem?_set_ne e] at hk hk'
    exact h.2 j k k' hk hk'
theorem Fos.tail {k k' : Nd} {ks ks' : List Nd} (h : Fos (k :: ks) (k' :: ks')) : Fo k k' ∧ Fos ks ks' :=
  ⟨h.2 0 k k' rfl rfl, by have := h.1; simpa using this, fun i a b h1 h2 => h.2 (i + 1) a b (by simpa using h1) (by simpa using h2)⟩
theorem Fos.many : ∀ {ks ks' : List Nd}, Fos ks ks' → manyN ks = manyN ks'
  | [], [], _ => rfl
  | [], _ :: _, h => by have := h.1; simp at this
  | _ :: _, [], h => by have := h.1; simp at this
  | k :: ks, k' :: ks', h => by
    obtain ⟨h1, h2⟩ := h.tail
    rw [many_cons, many_cons, Fos.many h2]
    by_cases e : k.kind = 0
    · rw [if_pos e, if_pos (h1.kind.1.1 e)]
    · rw [if_neg e, if_neg (fun e' => e (h1.kind.1.2 e'))]
theorem Fos.scan {has : Bool} : ∀ {ks ks' : List Nd} {i : Nat} {o : Option Nat}, Fos ks ks' → scanK has ks i o = scanK has ks' i o
  | [], [], _, _, _ => rfl
  | [], _ :: _, _, _, h => by have := h.1; simp at this
  | _ :: _, [], _, _, h => by have := h.1; simp at this
  | k :: ks, k' :: ks', i, o, h => by
    obtain ⟨h1, h2⟩ := h.tail
    rw [scanK, scanK]
    by_cases e : k.kind = 0
    · rw [if_pos e, if_pos (h1.kind.1.1 e), Fos.scan h2]
    · rw [if_neg e, if_neg (fun e' => e (h1.kind.1.2 e')), Fos.scan h2]
theorem Fo.val {even : Bool} {m n : Nd} (h : Fo m n) : ∀ d, Val even n d → Val even m d := by
  induction h with
  | refl => exact fun d h => h
  | stub t h0 => exact fun d h => .stub d _ h.le (hashP_len h)
  | way p h ih =>
    intro d hv
    cases hv with
    | way _ _ _ hd hp h0 hk hr =>
      refine .way d p _ hd hp h0 ?_ (ih _ hr)
      rename_i k k'
      by_cases h4 : k.kind = 4
      · exact .inr h4
      · rw [h.kind.2 h4]; exact hk
  | branch has v ks ks' hl h ih =>
    intro d hv
    cases hv with
    | branch _ _ _ _ hd hv hv0 he h16 hr hm =>
      refine .branch d has v ks hd hv hv0 he (hl.trans h16) (fun k hk => ?_) (by rw [Fos.many ⟨hl, h⟩]; exact hm)
      obtain ⟨i, hi⟩ := List.getElem?_of_mem hk
      have hi' := (List.getElem?_eq_some_iff.1 hi).1
      have hk' : ks'[i]? = some (ks'[i]'(by omega)) := List.getElem?_eq_getElem (by omega)
      exact ih i k _ hi hk' _ (hr _ (List.mem_of_getElem? hk'))
theorem hashes_eq : ∀ {ks ks' : List Nd}, ks.length = ks'.length → (∀ (i : Nat) (k k' : Nd), ks[i]? = some k → ks'[i]? = some k' → (k.kind = 0 ↔ k'.kind = 0) ∧ hashP k = hashP k') → hashesP ks = hashesP ks'
  | [], [], _, _ => rfl
  | [], _ :: _, h, _ => by simp at h
  | _ :: _, [], h, _ => by simp at h
  | k :: ks, k' :: ks', h, hh => by
    obtain ⟨h1, h2⟩ := hh 0 k k' rfl rfl
    rw [hashesP, hashesP, hashes_eq (by simpa using h) (fun i a b ha hb => hh (i + 1) a b (by simpa using ha) (by simpa using hb)), h2]
    by_cases e : k.kind = 0
    · rw [if_neg (fun x => x e), if_neg (fun x => x (h1.1 e))]
    · rw [if_pos e, if_pos (fun x => e (h1.2 x))]
theorem kbit_eq {ks ks' : List Nd} (h : Fos ks ks') (i : Nat) : kbit ks i = kbit ks' i := by
  unfold kbit
  have : ((ks.getD i noneN).kind ≠ 0) ↔ ((ks'.getD i noneN).kind ≠ 0) := by
    rw [List.getD_eq_getElem?_getD, List.getD_eq_getElem?_getD]
    rcases Nat.lt_or_ge i ks.length with hi | hi
    · have h1 : ks[i]? = some (ks[i]'hi) := List.getElem?_eq_getElem hi
      have h2 : ks'[i]? = some (ks'[i]'(by have := h.1; omega)) := List.getElem?_eq_getElem (by have := h.1; omega)
      rw [h1, h2]
      exact not_congr (h.2 i _ _ h1 h2).kind.1
    · rw [List.getElem?_eq_none hi, List.getElem?_eq_none (by have := h.1; omega)]
  by_cases e : (ks.getD i noneN).kind ≠ 0
  · rw [if_pos e, if_pos (this.1 e)]
  · rw [if_neg e, if_neg (fun x => e (this.2 x))]
theorem kbits_eq {ks ks' : List Nd} (h : Fos ks ks') : ∀ i, kbits ks i = kbits ks' i
  | 0 => rfl
  | i + 1 => by rw [kbits, kbits, kbits_eq h i, kbit_eq h i]
theorem Fo.hash {m n : Nd} (h : Fo m n) : hashP m = hashP n := by
  induction h with
  | refl => rfl
  | stub t h0 => rw [hashP_eq]; exact if_pos rfl
  | @way p k k' h ih =>
    rw [hashP, hashP, if_neg (by decide), if_neg (by decide), hashes_eq (ks := [k]) (ks' := [k']) rfl (fun i a b ha hb => by
      match i, ha, hb with
      | 0, ha, hb =>
        simp at ha hb
        subst ha; subst hb
        exact ⟨h.kind.1, ih⟩)]
    rfl
  | branch has v ks ks' hl h ih =>
    rw [hashP, hashP, if_neg (by decide), if_neg (by decide), hashes_eq hl (fun i a b ha hb => ⟨(h i a b ha hb).kind.1, ih i a b ha hb⟩)]
    unfold encF
    rw [kbits_eq ⟨hl, h⟩ 16]
theorem ends_down {even : Bool} {d e : Nat} (h : endsP d even = true) (he : e ≤ d) : endsP e false = true := by
  have := endsP_le h
  unfold endsP
  rw [decide_eq_true (show e ≤ 400 by omega)]; rfl
theorem val_down {even : Bool} {t : Nd} {d : Nat} (h : Val even t d) : ∀ e, e ≤ d → Val false t e := by
  induction h with
  | none d hd => exact fun e he => .none e (by omega)
  | leaf d p v hd hp hv hend => exact fun e he => .leaf e p v (by omega) hp hv (ends_down hend (by omega))
  | stub d h hd hh => exact fun e he => .stub e h (by omega) hh
  | way d p k hd hp h0 hk hr ih => exact fun e he => .way e p k (by omega) hp h0 hk (ih _ (by omega))
  | branch d has v ks hd hv hv0 hend h16 hr hm ih => exact fun e he => .branch e has v ks (by omega) hv hv0 (fun x => ends_down (hend x) he) h16 (fun k hk => ih k hk _ (by omega)) hm
theorem hashR_val {even : Bool} {t : Nd} {d : Nat} (h : Val even t d) : hashR t = hashP t := by
  unfold hashR
  rw [right_of_val (val_down h 0 (Nat.zero_le _)), if_pos rfl]
theorem fold_fo {even : Bool} {t : Nd} {d : Nat} (h : Val even t d) : Fo (foldN t) t := by
  unfold foldN
  by_cases e : t.kind = 0
  · rw [if_pos e, kind0 h e]; exact .refl _
  · rw [if_neg e, hashR_val h]; exact .stub t e
theorem folded_fo : ∀ (way : List UInt8) {even : Bool} {t : Nd} {d : Nat}, Val even t d → Fo (foldedP way t) t
  | [], _, _, _, h => fold_fo h
  | x :: w, even, t, d, h => by
    rw [foldedP]
    cases h with
    | none d hd => rw [if_pos (show noneN.kids = [] from rfl)]; exact fold_fo (.none (even := even) d hd)
    | leaf d p v hd hp hv he => rw [if_pos (show (Nd.mk 1 p false v [] []).kids = [] from rfl)]; exact fold_fo (.leaf d p v hd hp hv he)
    | stub d h hd hh => rw [if_pos (show (Nd.mk 4 [] false [] [] h).kids = [] from rfl)]; exact fold_fo (.stub (even := even) d h hd hh)
    | way d p k hd hp h0 hk hr =>
      rw [if_neg (fun e => by cases e)]
      have e : x.toNat % ([k] : List Nd).length = 0 := Nat.mod_one _
      simp only [Nd.kids, Nd.kind, Nd.path, Nd.has, Nd.val, Nd.hash, e]
      exact .way p (folded_fo w hr)
    | branch d has v ks hd hv hv0 he h16 hr hm =>
      have hne : (Nd.mk 3 [] has v ks []).kids ≠ [] := fun e => by
        have e2 : ks = [] := e
        rw [e2] at h16; cases h16
      rw [if_neg hne]
      simp only [Nd.kids, Nd.kind, Nd.path, Nd.has, Nd.val, Nd.hash]
      have hlt : x.toNat % ks.length < ks.length := Nat.mod_lt _ (by omega)
      obtain ⟨k, hk⟩ : ∃ k, ks[x.toNat % ks.length]? = some k := ⟨_, List.getElem?_eq_getElem hlt⟩
      have hg : ks.getD (x.toNat % ks.length) noneN = k := by rw [List.getD_eq_getElem?_getD, hk]; rfl
      rw [hg]
      have hs := (Fos.refl ks).set (folded_fo w (hr k (List.mem_of_getElem? hk))) (x.toNat % ks.length)
      have e : ks.set (x.toNat % ks.length) k = ks := by
        refine List.ext_getElem? fun i => ?_
        by_cases e : x.toNat % ks.length = i
        · subst e
          rw [List.getElem?_set_self hlt, hk]
        · rw [List.getElem?_set_ne e]
      rw [e] at hs
      exact .branch has v _ ks hs.1 hs.2
theorem Fo.get {even : Bool} {m n : Nd} (h : Fo m n) : ∀ d, Val even n d → ∀ q, halvesB q = true → getP m q = getP n q ∨ ∃ r, (getP m q).miss = some r ∧ r <+: q := by
  induction h with
  | refl => exact fun _ _ _ _ => .inl rfl
  | stub t h0 => exact fun _ _ q _ => .inr ⟨[], by rw [getP_stub], List.nil_prefix⟩
  | way p h ih =>
    intro d hv q hq
    cases hv with
    | way _ _ _ hd hp h0 hk hr =>
      by_cases hpq : p <+: q
      · rw [getP_way hpq, getP_way hpq]
        rcases ih _ hr (q.drop p.length) (halvesB_drop hq) with e | ⟨r, e1, e2⟩
        · exact .inl (by rw [e])
        · refine .inr ⟨p ++ r, by simp only [e1]; rfl, ?_⟩
          obtain ⟨s, rfl⟩ := hpq
          rw [List.drop_left] at e2
          exact (List.prefix_append_right_inj _).2 e2
      · exact .inl (by rw [getP_way0 hpq, getP_way0 hpq])
  | branch has v ks ks' hl h ih =>
    intro d hv q hq
    cases hv with
    | branch _ _ _ _ hd hv hv0 he h16 hr hm =>
      match q, hq with
      | [], _ => exact .inl (by rw [getP_br0, getP_br0])
      | x :: q', hq =>
        have hx := halves_hd hq
        obtain ⟨k, hk⟩ : ∃ k, ks[x.toNat]? = some k := ⟨_, List.getElem?_eq_getElem (by omega)⟩
        obtain ⟨k', hk'⟩ : ∃ k', ks'[x.toNat]? = some k' := ⟨_, List.getElem?_eq_getElem (by omega)⟩
        rw [getP_br hk, getP_br hk']
        rcases ih _ k k' hk hk' _ (hr k' (List.mem_of_getElem? hk')) q' (by have := halvesB_drop (n := 1) hq; simpa using this) with e | ⟨r, e1, e2⟩
        · exact .inl (by rw [e])
        · exact .inr ⟨x :: r, by simp only [e1]; rfl, List.cons_prefix_cons.2 ⟨rfl, e2⟩⟩
theorem Fo.along {a b : Nd} (h : Fo a b) (p : List UInt8) : Fo (alongN p a) (alongN p b) := by
  unfold alongN
  split
  · exact h
  · exact .way p h
theorem Fos.hold {ks ks' : List Nd} (h : Fos ks ks') (has : Bool) (v p val : List UInt8) : (holdK has v ks p val).1 = (holdK has v ks' p val).1 ∧ (holdK has v ks p val).2.1 = (holdK has v ks' p val).2.1 ∧ Fos (holdK has v ks p val).2.2 (holdK has v ks' p val).2.2 := by
  cases p with
  | nil => exact ⟨rfl, rfl, h⟩
  | cons x r => exact ⟨rfl, rfl, h.set (.refl _) _⟩
theorem Fo.fork {k k' : Nd} (h : Fo k k') (p q val : List UInt8) : Fo (forkN (.mk 2 p false [] [k] []) q val) (forkN (.mk 2 p false [] [k'] []) q val) := by
  unfold forkN
  simp only [Nd.path, Nd.kind, Nd.val, Nd.kids, List.headD_cons, Int.reduceEq, if_false]
  refine Fo.along ?_ _
  obtain ⟨h1, h2, h3⟩ := ((Fos.refl (noneNs 16)).set (h.along (p.drop (commonB p q + 1))) (p.getD (commonB p q) 0).toNat).hold false [] (q.drop (commonB p q)) val
  rw [h1, h2]
  exact .branch _ _ _ _ h3.1 h3.2
theorem Fo.put {even : Bool} {m n : Nd} (h : Fo m n) : ∀ d, Val even n d → ∀ q val, halvesB q = true → (getP m q).miss = none → Fo (putP m q val).1 (putP n q val).1 := by
  induction h with
  | refl => exact fun _ _ _ _ _ _ => .refl _
  | stub t h0 => intro _ _ q _ _ hm; rw [getP_stub] at hm; cases hm
  | way p h ih =>
    intro d hv q val hq hm
    cases hv with
    | way _ _ _ hd hp h0 hk hr =>
      by_cases hpq : p <+: q
      · rw [getP_way hpq] at hm
        rw [putP_way hpq, putP_way hpq]
        exact .way p (ih _ hr _ val (halvesB_drop hq) (by simpa using hm))
      · rw [putP_way0 hpq, putP_way0 hpq]
        exact h.fork p q val
  | branch has v ks ks' hl h ih =>
    intro d hv q val hq hm
    cases hv with
    | branch _ _ _ _ hd hv hv0 he h16 hr hm' =>
      match q, hq, hm with
      | [], _, _ => rw [putP_br0, putP_br0]; exact .branch _ _ _ _ hl h
      | x :: q', hq, hm =>
        have hx := halves_hd hq
        obtain ⟨k, hk⟩ : ∃ k, ks[x.toNat]? = some k := ⟨_, List.getElem?_eq_getElem (by omega)⟩
        obtain ⟨k', hk'⟩ : ∃ k', ks'[x.toNat]? = some k' := ⟨_, List.getElem?_eq_getElem (by omega)⟩
        rw [getP_br hk] at hm
        rw [putP_br hk, putP_br hk']
        have := Fos.set (ks := ks) (ks' := ks') ⟨hl, h⟩ (ih _ k k' hk hk' _ (hr k' (List.mem_of_getElem? hk')) q' val (by have := halvesB_drop (n := 1) hq; simpa using this) (by simpa using hm)) x.toNat
        exact .branch _ _ _ _ this.1 this.2
theorem Fo.behind {a b : Nd} (h : Fo a b) (h4 : a.kind ≠ 4) (p : List UInt8) : Fo (behindN p a) (behindN p b) := by
  cases h with
  | refl => exact .refl _
  | stub => exact absurd rfl h4
  | way p' h => rw [behind_way, behind_way]; exact .way _ h
  | branch has v ks ks' hl h => rw [behind_br, behind_br]; exact (Fo.branch has v ks ks' hl h).along p
theorem Fos.settle {ks ks' : List Nd} (h : Fos ks ks') (h16 : ks.length = 16) (has : Bool) (v : List UInt8) (hm : (settleP (.mk 3 [] has v ks [])).2 = none) : Fo (settleP (.mk 3 [] has v ks [])).1 (settleP (.mk 3 [] has v ks' [])).1 := by
  unfold settleP at hm ⊢
  dsimp only [Nd.has, Nd.kids, Nd.val] at hm ⊢
  rw [← Fos.scan h]
  cases hs : scanK has ks 0 none with
  | none => exact .branch _ _ _ _ h.1 h.2
  | some o =>
    cases o with
    | none => exact .refl _
    | some i =>
      rw [hs] at hm
      dsimp only at hm ⊢
      have hi : i < ks.length := by
        rcases scan_lt hs with h | h
        · cases h
        · omega
      have h1 : ks[i]? = some (ks[i]'hi) := List.getElem?_eq_getElem hi
      have h2 : ks'[i]? = some (ks'[i]'(by have := h.1; omega)) := List.getElem?_eq_getElem (by have := h.1; omega)
      have e1 : ks.getD i noneN = ks[i]'hi := by rw [List.getD_eq_getElem?_getD, h1]; rfl
      have e2 : ks'.getD i noneN = ks'[i]'(by have := h.1; omega) := by rw [List.getD_eq_getElem?_getD, h2]; rfl
      simp only [e1, e2] at hm ⊢
      have hf := h.2 i _ _ h1 h2
      by_cases h4 : (ks[i]'hi).kind = 4
      · rw [if_pos h4] at hm; cases hm
      · rw [if_neg h4, if_neg (by rw [← hf.kind.2 h4]; exact h4)]
        exact hf.behind h4 _
theorem Fo.drop {even : Bool} {m n : Nd} (h : Fo m n) : ∀ d, Val even n d → ∀ q, halvesB q = true → (getP m q).has = true → (dropP m q).2 = none → (dropP n q).2 = none → Fo (dropP m q).1 (dropP n q).1 := by
  induction h with
  | refl => exact fun _ _ _ _ _ _ _ => .refl _
  | stub t h0 => intro _ _ q _ hm; rw [getP_stub] at hm; cases hm
  | @way p k k' h ih =>
    intro d hv q hq hg hm hn
    have hvm := (Fo.way p h).val d hv
    cases hv with
    | way _ _ _ hd hp h0 hk hr =>
      have hpre : p <+: q := by
        rcases Classical.em (p <+: q) with h | h
        · exact h
        · rw [getP_way0 h] at hg; cases hg
      rw [getP_way hpre] at hg
      rw [dropP_way] at hm
      rw [dropP_way, dropP_way]
      have hm' : (dropP k (q.drop p.length)).2 = none := by simpa using hm
      rw [dropP_way] at hn
      have := ih _ hr _ (halvesB_drop hq) hg hm' (by simpa using hn)
      refine this.behind ?_ p
      cases hvm with
      | way _ _ _ _ _ _ _ hr2 => exact ((drop_items hr2 _ (halvesB_drop hq) hg).1 hm').2.1
  | branch has v ks ks' hl h ih =>
    intro d hv q hq hg hmm hn
    have hvm := (Fo.branch has v ks ks' hl h).val d hv
    cases hv with
    | branch _ _ _ _ hd hv hv0 he h16 hr hm =>
      match q, hq, hg, hmm, hn with
      | [], _, _, hmm, _ =>
        rw [dropP_br0] at hmm
        rw [dropP_br0, dropP_br0]
        exact Fos.settle ⟨hl, h⟩ (by omega) _ _ hmm
      | x :: q', hq, hg, hmm, hn =>
        have hx := halves_hd hq
        obtain ⟨k, hk⟩ : ∃ k, ks[x.toNat]? = some k := ⟨_, List.getElem?_eq_getElem (by omega)⟩
        obtain ⟨k', hk'⟩ : ∃ k', ks'[x.toNat]? = some k' := ⟨_, List.getElem?_eq_getElem (by omega)⟩
        rw [getP_br hk] at hg
        rw [dropP_br hk] at hmm
        rw [dropP_br hk'] at hn
        rw [dropP_br hk, dropP_br hk']
        cases hd2 : (dropP k q').2 with
        | some r => rw [hd2] at hmm; simp at hmm
        | none =>
          have hd3 : (dropP k' q').2 = none := by
            cases hd3 : (dropP k' q').2 with
            | none => rfl
            | some r => rw [hd3] at hn; simp at hn
          have hq' : halvesB q' = true := by have := halvesB_drop (n := 1) hq; simpa using this
          have hF := ih _ k k' hk hk' _ (hr k' (List.mem_of_getElem? hk')) q' hq' hg hd2 hd3
          rw [hd2] at hmm
          rw [hd3]
          simp only [Option.isSome_none, Bool.false_eq_true, if_false] at hmm ⊢
          exact Fos.settle (Fos.set ⟨hl, h⟩ hF x.toNat) (by rw [List.length_set]; omega) _ _ hmm
mutual
theorem sz_foldN {even : Bool} {t : Nd} {d : Nat} (h : Val even t d) : sz (foldN t) ≤ sz t + 38 := by
  unfold foldN
  split
  · have e : sz noneN = 6 := rfl
    rw [e]; omega
  · rw [sz, hashR_val h, szs]
    have := hashP_len h
    simp only [List.length_nil]; omega
end
theorem sz_folded : ∀ (way : List UInt8) {even : Bool} {t : Nd} {d : Nat}, Val even t d → sz (foldedP way t) ≤ sz t + 38
  | [], _, _, _, h => sz_foldN h
  | x :: w, even, t, d, h => by
    rw [foldedP]
    split
    · exact sz_foldN h
    · rename_i hne
      have hlt : x.toNat % t.kids.length < t.kids.length := Nat.mod_lt _ (by cases hq : t.kids with | nil => exact absurd hq hne | cons a b => simp)
      obtain ⟨k, hk⟩ : ∃ k, t.kids[x.toNat % t.kids.length]? = some k := ⟨_, List.getElem?_eq_getElem hlt⟩
      have hg : t.kids.getD (x.toNat % t.kids.length) noneN = k := by rw [List.getD_eq_getElem?_getD, hk]; rfl
      rw [hg]
      have hkv : ∃ e, Val even k e := by
        have hm := List.mem_of_getElem? hk
        cases h with
        | none => cases hm
        | leaf => cases hm
        | stub => cases hm
        | way _ _ k' _ _ _ _ hr =>
          have : k = k' := List.mem_singleton.1 (show k ∈ [k'] from hm)
          rw [this]; exact ⟨_, hr⟩
        | branch _ _ _ ks _ _ _ _ _ hr => exact ⟨_, hr k hm⟩
      obtain ⟨e, hv⟩ := hkv
      have h1 := sz_folded w hv
      have h2 := szs_set_eq (k' := foldedP w k) hk
      have h3 := sz_eq t
      rw [sz]
      omega
end Go.Proofs.Ytkfbkhahkkmcoaa
namespace Go.Proofs.Ytkfbkhahkkmcoaa
open Go.RowKit
def selR (low high : List UInt8) (l : List Pr) : List Pr := l.filter fun p => inR p.k low high
theorem rGo_map (low high : List UInt8) (most : Int) : ∀ (l : List Pr) (out : List Pr), (out.length : Int) ≤ most → rGo low high most (l.map itOf) out = ⟨out ++ (selR low high l).take (most.toNat - out.length), none, 0⟩
  | [], out, h => by simp [rGo, selR]
  | p :: l, out, h => by
    rw [List.map_cons]
    by_cases hl : (out.length : Int) < most
    · rw [rGo, if_pos hl, if_neg (show ¬ ((itOf p).stub = true ∧ _) from fun h => by cases h.1)]
      have eb : bytesL (itOf p).path = p.k := (bytes_ofB p.k).2
      rw [eb]
      by_cases hi : inR p.k low high = true
      · rw [if_pos ⟨rfl, hi⟩]
        have hln : (out ++ [(⟨p.k, (itOf p).val⟩ : Pr)]).length = out.length + 1 := by simp
        rw [rGo_map low high most l _ (by rw [hln]; omega), hln, List.append_assoc]
        have es : selR low high (p :: l) = p :: selR low high l := by unfold selR; rw [List.filter_cons, if_pos hi]
        have en : most.toNat - out.length = (most.toNat - (out.length + 1)) + 1 := by omega
        rw [es, en, List.take_succ_cons]
        rfl
      · rw [if_neg (fun h => hi h.2), rGo_map low high most l out h]
        have es : selR low high (p :: l) = selR low high l := by unfold selR; rw [List.filter_cons, if_neg hi]
        rw [es]
    · rw [rGo_full _ _ _ _ _ hl, show most.toNat - out.length = 0 by omega, List.take_zero, List.append_nil]
theorem selR_rev (low high : List UInt8) (l : List Pr) : selR low high l.reverse = (selR low high l).reverse := by unfold selR; rw [List.filter_reverse]
theorem range_full {t : Nd} (h : Full t) (low high : List UInt8) {most : Int} (h0 : 0 ≤ most) (back : Bool) : rangeP t low high most back = ⟨(match back with | false => selR low high (prsT t) | true => (selR low high (prsT t)).reverse).take most.toNat, none, 0⟩ := by
  rw [range_ref]
  unfold rangeR
  rw [full_check h, if_pos rfl, if_neg (by omega), prs_items h]
  cases back with
  | false => dsimp only; rw [rGo_map low high most _ [] (by simpa using h0)]; simp
  | true => dsimp only; rw [← List.map_reverse, rGo_map low high most _ [] (by simpa using h0), selR_rev]; simp
theorem rGo_len (low high : List UInt8) (most : Int) : ∀ (l : List It) (out : List Pr), (rGo low high most l out).l.length ≤ out.length + l.length
  | [], out => by rw [rGo]; simp
  | x :: l, out => by
    rw [rGo]
    split
    · split
      · simp
      · refine Nat.le_trans (rGo_len low high most l _) ?_
        split <;> simp <;> omega
    · simp
theorem range_len (t : Nd) (low high : List UInt8) (most : Int) (back : Bool) : (rangeP t low high most back).l.length ≤ sz t := by
  rw [range_ref]
  have hl := itemsP_len t [] true
  unfold rangeR
  split
  · split
    · simp
    · cases back with
      | false => have := rGo_len low high most (itemsP t [] true) []; simp at this; dsimp only; omega
      | true => have := rGo_len low high most (itemsP t [] true).reverse []; simp at this; dsimp only; omega
  · simp
theorem inR_nil (key low : List UInt8) : inR key low [] = decide (0 ≤ cmpB key low) := by unfold inR; simp
theorem inR_cons (key low high : List UInt8) (h : high ≠ []) : inR key low high = (decide (0 ≤ cmpB key low) && decide (cmpB key high < 0)) := by
  unfold inR
  rw [decide_eq_false (fun e => h (List.length_eq_zero_iff.1 e)), Bool.false_or]
theorem cmp_nil_le (k : List UInt8) : 0 ≤ cmpB k [] := by
  cases k with
  | nil => rw [cmpB_nil]; omega
  | cons x k => rw [cmpB_cons_nil]; omega
theorem parts : ∀ {r : List Pr} (key : List UInt8), Ris r → key ≠ [] → selR [] key r ++ selR key [] r = r
  | [], _, _, _ => rfl
  | p :: r, key, h, hk => by
    have h' := List.pairwise_cons.1 h
    have ih := parts key h'.2 hk
    have e1 : ∀ q : Pr, inR q.k [] key = decide (cmpB q.k key < 0) := fun q => by rw [inR_cons _ _ _ hk, decide_eq_true (cmp_nil_le q.k), Bool.true_and]
    have e2 : ∀ q : Pr, inR q.k key [] = decide (0 ≤ cmpB q.k key) := fun q => inR_nil _ _
    by_cases hc : cmpB p.k key < 0
    · have a1 : selR [] key (p :: r) = p :: selR [] key r := by unfold selR; rw [List.filter_cons, if_pos (by rw [e1, decide_eq_true hc])]
      have a2 : selR key [] (p :: r) = selR key [] r := by unfold selR; rw [List.filter_cons, if_neg (by rw [e2, decide_eq_false (by omega)]; simp)]
      rw [a1, a2, List.cons_append, ih]
    · have hall : ∀ q ∈ p :: r, ¬ cmpB q.k key < 0 := fun q hq => by
        rcases List.mem_cons.1 hq with rfl | hq
        · exact hc
        · intro hlt; exact hc (cmp_trans (h'.1 q hq) hlt)
      have a1 : selR [] key (p :: r) = [] := by
        unfold selR
        rw [List.filter_eq_nil_iff]
        intro q hq hh
        rw [e1, decide_eq_true_eq] at hh
        exact hall q hq hh
      have a2 : selR key [] (p :: r) = p :: r := by
        unfold selR
        rw [List.filter_eq_self]
        intro q hq
        rw [e2, decide_eq_true_eq]
        have := hall q hq; omega
      rw [a1, a2, List.nil_append]
structure FoI (w : List UInt8) (a b : List It) : Prop where
  ex : ∃ A B C : List It, ∃ kn h, a = A ++ ⟨w, [], true, kn, h⟩ :: B ∧ b = A ++ C ++ B ∧ ∀ y ∈ C, w <+: y.path
theorem FoI.app {w : List UInt8} {a b : List It} (h : FoI w a b) (X Y : List It) : FoI w (X ++ a ++ Y) (X ++ b ++ Y) := by
  obtain ⟨A, B, C, kn, hs, rfl, rfl, hC⟩ := h.ex
  exact ⟨X ++ A, B ++ Y, C, kn, hs, by simp, by simp, hC⟩
theorem FoI.rev {w : List UInt8} {a b : List It} (h : FoI w a b) : FoI w a.reverse b.reverse := by
  obtain ⟨A, B, C, kn, hs, rfl, rfl, hC⟩ := h.ex
  exact ⟨B.reverse, A.reverse, C.reverse, kn, hs, by simp, by simp, fun y hy => hC y (List.mem_reverse.1 hy)⟩
theorem itemsK_set : ∀ {ks : List Nd} {j : Nat} {k : Nd} (k' : Nd) (br kn : Bool) (i : Nat) (at_ : List UInt8), ks[j]? = some k → ∃ A B way, itemsK ks br kn i at_ = A ++ itemsP k way kn ++ B ∧ itemsK (ks.set j k') br kn i at_ = A ++ itemsP k' way kn ++ B
  | t :: ks, 0, k, k', br, kn, i, at_, h => by
    simp at h
    subst h
    rw [List.set_cons_zero, itemsK, itemsK]
    exact ⟨[], _, _, rfl, rfl⟩
  | t :: ks, j + 1, k, k', br, kn, i, at_, h => by
    obtain ⟨A, B, way, e1, e2⟩ := itemsK_set k' br kn (i + 1) at_ (show ks[j]? = some k by simpa using h)
    rw [List.set_cons_succ, itemsK, itemsK, e1, e2]
    exact ⟨itemsP t (if br then at_ ++ [UInt8.ofNat i] else at_) kn ++ A, B, way, by simp, by simp⟩
theorem fold_items {even : Bool} {t : Nd} {d : Nat} (h : Val even t d) (at_ : List UInt8) (kn : Bool) : itemsP (foldN t) at_ kn = itemsP t at_ kn ∨ ∃ w, FoI w (itemsP (foldN t) at_ kn) (itemsP t at_ kn) := by
  unfold foldN
  by_cases e : t.kind = 0
  · left; rw [if_pos e, kind0 h e]
  · right
    rw [if_neg e]
    refine ⟨at_, [], [], itemsP t at_ kn, kn, hashR t, ?_, by simp, fun y hy => (List.prefix_append _ _).trans (items_pre t at_ kn y hy)⟩
    rw [items_stub]; rfl
theorem folded_items : ∀ (way : List UInt8) {even : Bool} {t : Nd} {d : Nat}, Val even t d → ∀ (at_ : List UInt8) (kn : Bool), itemsP (foldedP way t) at_ kn = itemsP t at_ kn ∨ ∃ w, FoI w (itemsP (foldedP way t) at_ kn) (itemsP t at_ kn)
  | [], _, _, _, h, at_, kn => fold_items h at_ kn
  | x :: w, even, t, d, h, at_, kn => by
    rw [foldedP]
    split
    · exact fold_items h at_ kn
    · rename_i hne
      have hlt : x.toNat % t.kids.length < t.kids.length := Nat.mod_lt _ (by cases hq : t.kids with | nil => exact absurd hq hne | cons a b => simp)
      obtain ⟨k, hk⟩ : ∃ k, t.kids[x.toNat % t.kids.length]? = some k := ⟨_, List.getElem?_eq_getElem hlt⟩
      have hg : t.kids.getD (x.toNat % t.kids.length) noneN = k := by rw [List.getD_eq_getElem?_getD, hk]; rfl
      rw [hg]
      have hkv : ∃ e, Val even k e := by
        have hm := List.mem_of_getElem? hk
        cases h with
        | none => cases hm
        | leaf => cases hm
        | stub => cases hm
        | way _ _ k' _ _ _ _ hr =>
          have : k = k' := List.mem_singleton.1 (show k ∈ [k'] from hm)
          rw [this]; exact ⟨_, hr⟩
        | branch _ _ _ ks _ _ _ _ _ hr => exact ⟨_, hr k hm⟩
      obtain ⟨e, hv⟩ := hkv
      have h4 : t.kind ≠ 4 := fun h4 => by
        cases h with
        | none => exact absurd (show (0 : Int) = 4 from h4) (by decide)
        | leaf => exact absurd (show (1 : Int) = 4 from h4) (by decide)
        | stub => exact hne rfl
        | way => exact absurd (show (2 : Int) = 4 from h4) (by decide)
        | branch => exact absurd (show (3 : Int) = 4 from h4) (by decide)
      obtain ⟨P, hP⟩ : ∃ P, P = (if t.kind = 1 ∨ t.has = true then [(⟨at_ ++ t.path, t.val, false, false, []⟩ : It)] else []) := ⟨_, rfl⟩
      have hk2 : ∀ ks : List Nd, itemsP (.mk t.kind t.path t.has t.val ks t.hash) at_ kn = P ++ itemsK ks (decide (t.kind = 3)) (decide (t.kind = 2)) 0 (at_ ++ t.path) := fun ks => by rw [itemsP, if_neg h4, hP]
      have hk3 : itemsP t at_ kn = P ++ itemsK t.kids (decide (t.kind = 3)) (decide (t.kind = 2)) 0 (at_ ++ t.path) := by rw [itemsP_eq, if_neg h4, hP]
      rw [hk2, hk3]
      obtain ⟨A, B, way', e1, e2⟩ := itemsK_set (foldedP w k) (decide (t.kind = 3)) (decide (t.kind = 2)) 0 (at_ ++ t.path) hk
      rw [e1, e2]
      rcases folded_items w hv way' (decide (t.kind = 2)) with h1 | ⟨w', h1⟩
      · left; rw [h1]
      · right
        refine ⟨w', ?_⟩
        have := h1.app (P ++ A) B
        simpa using this
theorem rGo_skip (low high : List UInt8) (most : Int) {w : List UInt8} (hw : meetsB (ofS low high) w = false) : ∀ {C : List It}, (∀ y ∈ C, w <+: y.path ∧ y.stub = false ∧ y.path.length % 2 = 0 ∧ ofB (bytesL y.path) = y.path) → ∀ (B : List It) (out : List Pr), rGo low high most (C ++ B) out = rGo low high most B out
  | [], _, B, out => rfl
  | y :: C, h, B, out => by
    have ih := rGo_skip low high most hw (C := C) (fun z hz => h z (by simp [hz])) B out
    rw [List.cons_append]
    by_cases hl : (out.length : Int) < most
    · obtain ⟨h1, h2, h3, h4⟩ := h y (by simp)
      have hn : ¬ inR (bytesL y.path) low high = true := fun hi => by
        rw [← has_in h4] at hi
        rw [has_meets h1 h3 hi] at hw; cases hw
      rw [rGo, if_pos hl, if_neg (fun h => by rw [h2] at h; cases h.1), if_neg (fun h => hn h.2)]
      exact ih
    · rw [rGo_full _ _ _ _ _ hl, rGo_full _ _ _ _ _ hl]
theorem rGo_fold (low high : List UInt8) (most : Int) {w : List UInt8} {kn : Bool} {hs : List UInt8} {B C : List It} (hC : ∀ y ∈ C, w <+: y.path ∧ y.stub = false ∧ y.path.length % 2 = 0 ∧ ofB (bytesL y.path) = y.path) :
    ∀ (A : List It) (out : List Pr), (∀ y ∈ A, y.stub = false) → rGo low high most (A ++ ⟨w, [], true, kn, hs⟩ :: B) out = ⟨[], some w, 80⟩ ∨ rGo low high most (A ++ ⟨w, [], true, kn, hs⟩ :: B) out = rGo low high most (A ++ (C ++ B)) out
  | [], out, _ => by
    rw [List.nil_append, List.nil_append]
    by_cases hl : (out.length : Int) < most
    · rw [rGo, if_pos hl]
      have hm : mightR w (ofB low) (ofB high) (decide (high.length = 0)) = meetsB (ofS low high) w := might_meets (ofS low high) w
      dsimp only
      rw [hm]
      cases hb : meetsB (ofS low high) w with
      | true => left; rw [if_pos ⟨rfl, rfl⟩]
      | false =>
        right
        rw [if_neg (fun h => by cases h.2), if_neg (fun h => by cases h.1), rGo_skip low high most hb hC]
    · right; rw [rGo_full _ _ _ _ _ hl, rGo_full _ _ _ _ _ hl]
  | x :: A, out, hA => by
    rw [List.cons_append, List.cons_append]
    by_cases hl : (out.length : Int) < most
    · have hx := hA x (by simp)
      have hn : ¬ (x.stub = true ∧ mightR x.path (ofB low) (ofB high) (decide (high.length = 0)) = true) := fun h => by rw [hx] at h; cases h.1
      have e1 : ∀ l : List It, rGo low high most (x :: l) out = rGo low high most l (if x.stub = false ∧ inR (bytesL x.path) low high = true then out ++ [⟨bytesL x.path, x.val⟩] else out) := fun l => by rw [rGo, if_pos hl, if_neg hn]
      rw [e1, e1]
      exact rGo_fold low high most hC A _ (fun y hy => hA y (by simp [hy]))
    · right; rw [rGo_full _ _ _ _ _ hl, rGo_full _ _ _ _ _ hl]
theorem full_item {t : Nd} (h : Full t) : ∀ y ∈ itemsP t [] true, y.stub = false ∧ y.path.length % 2 = 0 ∧ ofB (bytesL y.path) = y.path := by
  intro y hy
  rw [prs_items h] at hy
  obtain ⟨p, _, rfl⟩ := List.mem_map.1 hy
  refine ⟨rfl, ?_, ?_⟩
  · show (ofB p.k).length % 2 = 0
    rw [ofB_length]; omega
  · show ofB (bytesL (ofB p.k)) = ofB p.k
    rw [(bytes_ofB p.k).2]
/-- A range of a folded trie: the same, or the stub is in the way. -/
theorem fold_range {n : Nd} (h : Full n) (way : List UInt8) : ∃ w, ∀ (low high : List UInt8) (most : Int) (back : Bool), 0 ≤ most → (rangeP (foldedP way n) low high most back = ⟨[], some w, 80⟩ ∨ rangeP (foldedP way n) low high most back = rangeP n low high most back) := by
  have hc : checkE (foldedP way n) = 0 := by
    unfold checkE; rw [right_of_val ((folded_fo way h.1).val 0 h.1), if_pos rfl]
  have hcn := full_check h
  have key : ∀ (low high : List UInt8) (most : Int) (back : Bool), 0 ≤ most → ∀ t : Nd, checkE t = 0 → rangeP t low high most back = rGo low high most (match back with | false => itemsP t [] true | true => (itemsP t [] true).reverse) [] := fun low high most back h0 t ht => by
    rw [range_ref]; unfold rangeR; rw [if_pos ht, if_neg (by omega)]; rfl
  rcases folded_items way h.1 [] true with h1 | ⟨w, h1⟩
  · refine ⟨[], fun low high most back h0 => .inr ?_⟩
    rw [key low high most back h0 _ hc, key low high most back h0 _ hcn, h1]
  · refine ⟨w, fun low high most back h0 => ?_⟩
    rw [key low high most back h0 _ hc, key low high most back h0 _ hcn]
    have hi := full_item h
    cases back with
    | false =>
      dsimp only
      obtain ⟨A, B, C, kn, hs, e1, e2, hC⟩ := h1.ex
      rw [e2] at hi
      rw [e1, e2, List.append_assoc]
      exact rGo_fold low high most (fun y hy => ⟨hC y hy, hi y (by simp [hy])⟩) A [] (fun y hy => (hi y (by simp [hy])).1)
    | true =>
      dsimp only
      obtain ⟨A, B, C, kn, hs, e1, e2, hC⟩ := h1.rev.ex
      have hi' : ∀ y ∈ (itemsP n [] true).reverse, y.stub = false ∧ y.path.length % 2 = 0 ∧ ofB (bytesL y.path) = y.path := fun y hy => hi y (List.mem_reverse.1 hy)
      rw [e2] at hi'
      rw [e1, e2, List.append_assoc]
      exact rGo_fold low high most (fun y hy => ⟨hC y hy, hi' y (by simp [hy])⟩) A [] (fun y hy => (hi' y (by simp [hy])).1)
end Go.Proofs.Ytkfbkhahkkmcoaa
namespace Go.Proofs.Ytkfbkhahkkmcoaa
open Go.RowKit
theorem is_long9 : isFn Try.prog 24 = true := by kernel_rfl
set_option maxRecDepth 100000 in
set_option maxHeartbeats 1000000 in
theorem long9_any (l : List Pr) (gs : List (Option Nat)) (w : World) (A : Option Addr) (n c : Nat) (hr : RdD w (Fd w gs) (dPl l) (.slice A n c)) (hgs : ∀ b, some b ∈ gs → b < w.heap.size) (hz : longN l ≤ 1000000000000) :
    Calls Try.prog 24 #[.slice A n c] w fun e w' => e = .returned (.bool (decide (longN l > 9000))) ∧ Below w.heap.size w w' := by
  refine calls_ev (args := [.slice A n c]) mixed Try.func24 rfl (by kernel_rfl) ?_
  have en := hr.slen
  have hnl := longN_len l
  have M := (St.start hgs).addD hr
  refine lp Nat (fun i W => i ≤ n ∧ St w gs W [] [] [.dat false [dPl l] [.slice A n c]]) (fun i => [(0, .slice A n c), (3, .int .i64 (longN (l.take i))), (4, .int .i64 i)]) (fun i => n - i) 0 ⟨Nat.zero_le _, M⟩ ⟨rfl, rfl, rfl, trivial⟩ ?_
  clear M
  rintro i E5 W5 ⟨hi, M⟩
  refine p_len slp rfl ?_
  refine p_lt rfl rfl (fun hlt => ?_) (fun hge => ?_)
  · obtain ⟨p, hp⟩ : ∃ p, l[i]? = some p := ⟨_, List.getElem?_eq_getElem (by omega)⟩
    have hp1 := List.getElem?_eq_some_iff.1 hp
    have ht : l.take (i + 1) = l.take i ++ [p] := by rw [List.take_succ_eq_append_getElem hp1.1, hp1.2]
    have hs := longN_snoc (l.take i) p
    rw [← ht] at hs
    have hs2 := longN_take l (i + 1)
    replace M := M.drew
    obtain ⟨b1, o1, Ak, ck, Av, cv, rfl, M'⟩ := M.pair (M.d1 0 rfl) hp
    replace M := M'; clear M'
    refine drT (Kp w gs [] [.loc ((⟨b1, o1, none⟩ : Addr).add (i * 2)) (pcs p Ak ck Av cv)]) (.take 0 (.take 1 (.take 2 (.take 3 (.take 4 (.take 5 (.take 6 (.take 7 (.take 8 (.take 9 (.take 10 (.take 11 (.take 12 (.take 13 (.take 14 (.take 15 (.take 16 (.nil)))))))))))))))))) (by kernel_rfl) (M.kp (by simp) (by simp)) ?_
    refine p_addN (b := 10) rfl rfl (by omega) ?_
    refine p_at slp rfl rfl rfl (by omega) ?_
    refine p_fld fP0 rfl ?_
    refine t_load agg_b rfl (fun W K => by first | exact (K.B 0 rfl).at_ rfl | exact (K.B 1 rfl).at_ rfl | exact (K.B 2 rfl).at_ rfl | exact (K.B 3 rfl).at_ rfl | exact K.lc 0 rfl _ _ rfl | exact K.lc 1 rfl _ _ rfl | exact K.lc 2 rfl _ _ rfl | exact K.lc 3 rfl _ _ rfl) ?_
    refine p_len slb rfl ?_
    refine p_addN rfl rfl (by omega) ?_
    refine p_at slp rfl rfl rfl (by omega) ?_
    refine p_fld fP1 rfl ?_
    refine t_load agg_b rfl (fun W K => by first | exact (K.B 0 rfl).at_ rfl | exact (K.B 1 rfl).at_ rfl | exact (K.B 2 rfl).at_ rfl | exact (K.B 3 rfl).at_ rfl | exact K.lc 0 rfl _ _ rfl | exact K.lc 1 rfl _ _ rfl | exact K.lc 2 rfl _ _ rfl | exact K.lc 3 rfl _ _ rfl) ?_
    refine p_len slb rfl ?_
    refine p_addN rfl rfl (by omega) ?_
    refine p_addN (b := 1) rfl rfl (by omega) ?_
    exact ⟨i + 1, ⟨by omega, M.fsub _ (by simp)⟩, ⟨rfl, (by show Value.int .i64 ((longN (l.take i) + 10 + p.k.length + p.v.length : Nat) : Int) = _; rw [hs, ← Nat.add_assoc, ← Nat.add_assoc]), rfl, trivial⟩, by omega⟩
  · have hin : i = l.length := by omega
    subst hin
    refine p_gt rfl rfl (fun h => ?_) (fun h => ?_)
    · rw [List.take_of_length_le (Nat.le_refl _)] at h
      exact ⟨ret_tf (decide_eq_true (by omega)).symm, M.below⟩
    · rw [List.take_of_length_le (Nat.le_refl _)] at h
      exact ⟨ret_tf (decide_eq_false (by omega)).symm, M.below⟩
theorem is_fo9 : isFn Try.prog 29 = true := by kernel_rfl
def Fo9Ok (way : List UInt8) : Prop := ∀ (t : Nd) (gs : List (Option Nat)) (w : World) (cs : List Value) (A1 : Option Addr) (n1 c1 : Nat), sz t ≤ 1000000 → RdL w (Fd w gs) (dN t) cs → RdD w (Fd w gs) (dB way) (.slice A1 n1 c1) → (∀ b, some b ∈ gs → b < w.heap.size) →
  Calls Try.prog 29 #[.agg cs.toArray, .slice A1 n1 c1] w fun e w' => ∃ cs', e = .returned (.agg cs'.toArray) ∧ RdL w' (Fd w' gs) (dN (foldedP way t)) cs' ∧ Below w.heap.size w w'
set_option maxRecDepth 100000 in
set_option maxHeartbeats 2000000 in
theorem folded9_any : ∀ way : List UInt8, Fo9Ok way := by
  intro way
  induction way with
  | nil =>
    intro t gs w cs A1 n1 c1 hz hr hw hgs
    refine calls_ev (args := [.agg cs.toArray, .slice A1 n1 c1]) mixed Try.func29 rfl (by kernel_rfl) ?_
    have en := hw.slen
    obtain ⟨Ap, cp, Av, cv, Ak, ck, Ah, ch, rfl, -⟩ := hr.node
    have M := (St.start hgs).addL hr
    clear hr
    refine s_box (ncs t Ap cp Av cv Ak ck Ah ch) M rfl ?_
    clear M
    rintro g2 W M
    refine s_alloc (zN) M al_nd ?_
    clear M
    rintro g4 W M
    refine p_len slb rfl ?_
    refine p_eq rfl rfl (fun _ => ?_) (fun h => absurd (by rw [en]; rfl) h)
    unfold foldedP
    refine v_loadN (ncs t Ap cp Av cv Ak ck Ah ch) agg_nd rfl rfl (by first | exact M.run 0 rfl | exact M.run 1 rfl | exact M.run 2 rfl | exact M.run 3 rfl | exact M.run 4 rfl | exact M.lc 0 rfl | exact M.lc 1 rfl | exact M.lc 2 rfl | exact M.lc 3 rfl | exact M.lc 4 rfl | exact M.lc 5 rfl | exact M.lc 6 rfl | exact M.lc 7 rfl) ?_
    refine cc is_r7fold (rfold_any t (by omega) _ _ _ (M.da 0 rfl) M.olt) ?_
    rintro e W ⟨cs9, rfl, r9, hb⟩
    have hc9 := r9.len
    rw [dN_len] at hc9
    replace M := M.callF hb r9
    clear r9 hb
    refine ⟨_, rfl, ?_⟩
    refine s_storeA 0 cs9 M rfl sz_nd rfl rfl hc9 ((M.da 0 rfl).ones (dN_one _)) rfl ?_
    clear M; rintro W M
    dsimp only [setL] at M
    refine c_loadN cs9 agg_nd rfl hc9 (M.run 0 rfl) ?_
    exact ⟨cs9, rfl, M.fin 0 rfl, M.below⟩
  | cons x way ih =>
    intro t gs w cs A1 n1 c1 hz hr hw hgs
    refine calls_ev (args := [.agg cs.toArray, .slice A1 n1 c1]) mixed Try.func29 rfl (by kernel_rfl) ?_
    have en := hw.slen
    rw [List.length_cons] at en
    obtain ⟨Ap, cp, Av, cv, Ak, ck, Ah, ch, rfl, r1, r3, r4, r5⟩ := id hr.node
    have M := ((((((St.start hgs).addD r5).addD r3).addD r1).addD hw).addD r4).addL hr
    clear hr hw r1 r3 r4 r5
    refine s_box (ncs t Ap cp Av cv Ak ck Ah ch) M rfl ?_
    clear M
    rintro g2 W M
    refine s_alloc (zN) M al_nd ?_
    clear M
    rintro g4 W M
    refine p_len slb rfl ?_
    refine p_eq rfl rfl (fun h => absurd h (by rw [en]; omega)) (fun _ => ?_)
    refine p_fld fN4 rfl ?_
    refine v_load agg_ns rfl ((M.B 1 rfl).at_ rfl) ?_
    refine p_len sln rfl ?_
    unfold foldedP
    refine p_eq rfl rfl (fun h0 => ?_) (fun h0 => ?_)
    · have hk0 : t.kids = [] := List.eq_nil_of_length_eq_zero (by omega)
      rw [if_pos hk0]
      refine v_loadN (ncs t Ap cp Av cv Ak ck Ah ch) agg_nd rfl rfl (by first | exact M.run 0 rfl | exact M.run 1 rfl | exact M.run 2 rfl | exact M.run 3 rfl | exact M.run 4 rfl | exact M.lc 0 rfl | exact M.lc 1 rfl | exact M.lc 2 rfl | exact M.lc 3 rfl | exact M.lc 4 rfl | exact M.lc 5 rfl | exact M.lc 6 rfl | exact M.lc 7 rfl) ?_
      refine cc is_r7fold (rfold_any t (by omega) _ _ _ (M.da 0 rfl) M.olt) ?_
      rintro e W ⟨cs9, rfl, r9, hb⟩
      have hc9 := r9.len
      rw [dN_len] at hc9
      replace M := M.callF hb r9
      clear r9 hb
      refine ⟨_, rfl, ?_⟩
      refine s_storeA 0 cs9 M rfl sz_nd rfl rfl hc9 ((M.da 0 rfl).ones (dN_one _)) rfl ?_
      clear M; rintro W M
      dsimp only [setL] at M
      refine c_loadN cs9 agg_nd rfl hc9 (M.run 0 rfl) ?_
      exact ⟨cs9, rfl, M.fin 0 rfl, M.below⟩
    have hkl : 0 < t.kids.length := by omega
    rw [if_neg (fun e => by rw [e] at hkl; exact absurd hkl (by decide))]
    have hzs := sz_eq t
    have hsl := szs_len t.kids
    obtain ⟨k, hk⟩ : ∃ k, k = x.toNat % t.kids.length := ⟨_, rfl⟩
    have hkk : k < t.kids.length := by rw [hk]; exact Nat.mod_lt _ hkl
    obtain ⟨kd, hkd⟩ : ∃ kd, t.kids[k]? = some kd := ⟨_, List.getElem?_eq_getElem hkk⟩
    have hgd : t.kids.getD k noneN = kd := by rw [List.getD_eq_getElem?_getD, hkd]; rfl
    rw [← hk, hgd]
    have hkz := szs_mem (List.mem_of_getElem? hkd)
    obtain ⟨b1, o1, es, rfl, hF, hes, hel, hcg⟩ := (M.d1 2 rfl).at_ (i := 0) (by omega)
    have hes2 : es = [.int .u8 (x.toNat : Nat)] := by
      have e1 : ((((bvs (x :: way)).map D.v).drop (0 * 1)).take 1) = [D.v (.int .u8 (x.toNat : Nat))] := rfl
      rw [e1] at hes
      exact hes.vals (xs := [.int .u8 (x.toNat : Nat)])
    subst hes2
    replace M := M.addC (a := (⟨b1, o1, none⟩ : Addr).add (0 * 1)) (cs := [.int .u8 (x.toNat : Nat)]) (by rw [block_of_add]; exact hF) (fun j x hx => by rw [Addr.add_lit, Addr.add_lit]; exact hcg j x hx)
    replace M := M.drew
    refine drT (Kp w gs [(g2, 25, ncs t Ap cp Av cv Ak ck Ah ch)] [.loc ((⟨b1, o1, none⟩ : Addr).add (0 * 1)) [.int .u8 (x.toNat : Nat)]]) (.take 0 (.take 1 (.take 2 (.take 3 (.take 4 (.take 5 (.take 6 (.take 7 (.take 8 (.nil)))))))))) (by kernel_rfl) (M.kp (by simp) (by simp)) ?_
    refine p_at (i := 0) slb rfl rfl rfl (by omega) ?_
    refine t_load agg_by' rfl (fun W K => K.lc 0 rfl 0 _ rfl) ?_
    refine t_cvt u_u8x u_inty rfl (r := ((x.toNat : Nat) : Int)) (w64 (by have := x.toNat_lt; omega)) ?_
    refine p_fld fN4 rfl ?_
    refine t_load agg_ns rfl (fun W K => (K.B 0 rfl).at_ rfl) ?_
    refine p_len sln rfl ?_
    refine p_remN rfl rfl hkl ?_
    rw [← hk]
    refine p_fld fN4 rfl ?_
    refine v_load agg_ns rfl ((M.B 1 rfl).at_ rfl) ?_
    replace M := M.nilR 25 6
    obtain ⟨ys, hrd, hys⟩ := (M.d1 2 rfl).reads Fd.lt
    replace M := M.addL hys
    refine s_app M Try.underlying23 inf_nd rfl (by decide) rfl rfl hrd (hys.ones (dNs_one _)) ⟨by omega, by decide⟩ ?_
    clear M hrd hys; rintro A5 c5 W M -
    rw [Nat.zero_add, List.nil_append] at M
    obtain ⟨g, rest, rfl, hgc, M'⟩ := M.rowBlk hkl
    replace M := M'; clear M'
    have hyl := (M.da 0 rfl).len
    rw [dNs_len] at hyl
    obtain ⟨b, off, es, e0, hel2, M'⟩ := M.kid (M.d1 3 rfl) hkd
    replace M := M'; clear M'
    have hcut := (M.d1 6 rfl).cutB (i := 1) (j := n1) (m := c1) (by omega) (Nat.le_refl _) (M.d1 6 rfl).scap
    rw [List.drop_succ_cons, List.drop_zero, List.take_of_length_le (by omega)] at hcut
    have hcap := (M.d1 6 rfl).scap
    replace M := (M.addD hcut).drew
    clear hcut
    refine drT (Kp w gs [(g2, 25, ncs t Ap cp Av cv Ak ck Ah ch)] [.loc ((⟨b, off, none⟩ : Addr).add (k * 6)) es]) (.take 0 (.take 1 (.take 2 (.take 3 (.take 4 (.take 5 (.take 6 (.take 7 (.take 8 (.one 9 (.take 10 (.one 11 (.nil))))))))))))) (by kernel_rfl) (M.kp (by simp) (by simp)) ?_
    refine p_fld fN4 rfl ?_
    refine t_load agg_ns rfl (fun W K => (K.B 0 rfl).at_ rfl) ?_
    refine p_at (i := k) sln (by show (Value.slice Ak t.kids.length ck) = _; rw [e0]) rfl rfl hkk ?_
    refine t_loadN es agg_nd rfl hel2 (fun W K => K.lc 0 rfl) ?_
    refine p_slice (i := 1) (j := n1) (m := c1) slb rfl (bnd_i rfl) rfl rfl rfl (by omega) hcap (Nat.le_refl _) ?_
    refine cc is_fo9 (ih kd _ _ es _ _ _ (by omega) (M.da 2 rfl) (M.d1 0 rfl) M.olt) ?_
    rintro e W ⟨cs9, rfl, r9, hb⟩
    obtain ⟨Ap9, cp9, Av9, cv9, Ak9, ck9, Ah9, ch9, rfl, -⟩ := r9.node
    replace M := (M.call hb).addL r9
    clear r9 hb
    refine ⟨_, rfl, (M.kp (by simp) (by simp)), ?_⟩
    refine p_atL (i := k) (q := k * 6) sln rfl rfl rfl (by omega) (by omega) ?_
    refine s_storeP 0 (n := 6) (off := k * 6) (ncs (foldedP way kd) Ap9 cp9 Av9 cv9 Ak9 ck9 Ah9 ch9) _ M rfl sz_nd rfl rfl rfl (all1 rfl) (by rw [List.length_append, hyl]; omega) rfl ?_
    clear M; rintro W M
    dsimp only [setL] at M
    refine ⟨(M.kp (by simp) (by simp)), ?_⟩
    have e1 : (ys ++ rest).take (k * 6) = ys.take (k * 6) := List.take_append_of_le_length (by omega)
    have e2 : (ys ++ rest).drop (k * 6 + 6) = ys.drop (k * 6 + 6) ++ rest := List.drop_append_of_le_length (by omega)
    rw [e1, e2, ← List.append_assoc] at M
    have hX := M.dw 4 rfl
    have hX2 := ((hX.take (k * 6)).app (M.dw 0 rfl)).app (hX.drop (k * 6 + 6))
    rw [← dNs_set _ (by omega)] at hX2
    replace M := M.addT hX2
    obtain ⟨ks', hks'⟩ : ∃ ks', ks' = t.kids.set k (foldedP way kd) := ⟨_, rfl⟩
    have hkl' : ks'.length = t.kids.length := by rw [hks', List.length_set]
    rw [← hks'] at M ⊢
    replace M := M.frzB' (fr := false) (s := 6) (n := ks'.length) (c := c5) (M.dt 0 rfl) (dNs_len ks') (by omega)
    refine p_fld fN4 rfl ?_
    refine s_set 1 (.slice (some ⟨g, 0, none⟩) (0 + t.kids.length) c5) [.int .i64 t.kind, .slice Ap t.path.length cp, .bool t.has, .slice Av t.val.length cv, .slice (some ⟨g, 0, none⟩) (0 + t.kids.length) c5, .slice Ah t.hash.length ch] M rfl (by kernel_rfl) rfl rfl rfl (Nat.le_of_ble_eq_true rfl) rfl ?_
    clear M; rintro W M
    dsimp only [setL] at M
    refine v_loadN [.int .i64 t.kind, .slice Ap t.path.length cp, .bool t.has, .slice Av t.val.length cv, .slice (some ⟨g, 0, none⟩) (0 + t.kids.length) c5, .slice Ah t.hash.length ch] agg_nd rfl rfl (M.run 1 rfl) ?_
    refine s_storeA 0 [.int .i64 t.kind, .slice Ap t.path.length cp, .bool t.has, .slice Av t.val.length cv, .slice (some ⟨g, 0, none⟩) (0 + t.kids.length) c5, .slice Ah t.hash.length ch] M rfl sz_nd rfl rfl rfl (all1 rfl) rfl ?_
    clear M; rintro W M
    dsimp only [setL] at M
    refine c_loadN [.int .i64 t.kind, .slice Ap t.path.length cp, .bool t.has, .slice Av t.val.length cv, .slice (some ⟨g, 0, none⟩) (0 + t.kids.length) c5, .slice Ah t.hash.length ch] agg_nd rfl rfl (M.run 0 rfl) ?_
    refine ⟨_, rfl, ?_, M.below⟩
    rw [Nat.zero_add, ← hkl']
    exact RdL.ofnode (t := .mk t.kind t.path t.has t.val ks' t.hash) (M.fin1 11 rfl) (M.fin1 12 rfl) (M.fin1 0 rfl) (M.fin1 13 rfl)
end Go.Proofs.Ytkfbkhahkkmcoaa
namespace Go.Proofs.Ytkfbkhahkkmcoaa
open Go.RowKit

theorem kf8 : Full kt8 ∧ prsT kt8 = [⟨[1], [97]⟩, ⟨[1, 2], [98]⟩, ⟨[17], [99]⟩] := by
  have h := tOf_prs (l := kl8) (by decide +kernel)
  exact ⟨h.2.1, h.2.2.trans (by decide +kernel)⟩
theorem kr9_1 : rangeP kt8 [1, 1] [17] 9 false = ⟨[⟨[1, 2], [98]⟩], none, 0⟩ := by
  rw [range_full kf8.1 _ _ (by decide), kf8.2]
  dsimp only
  rw [show List.take (9 : Int).toNat (selR [1, 1] [17] [⟨[1], [97]⟩, ⟨[1, 2], [98]⟩, ⟨[17], [99]⟩]) = [⟨[1, 2], [98]⟩] by decide +kernel]
theorem kr9_2 : rangeP kt8 [] [] 2 true = ⟨[⟨[17], [99]⟩, ⟨[1, 2], [98]⟩], none, 0⟩ := by
  rw [range_full kf8.1 _ _ (by decide), kf8.2]
  dsimp only
  rw [show List.take (2 : Int).toNat (selR [] [] [⟨[1], [97]⟩, ⟨[1, 2], [98]⟩, ⟨[17], [99]⟩]).reverse = [⟨[17], [99]⟩, ⟨[1, 2], [98]⟩] by decide +kernel]
theorem kr9_3 : fromP kt8 [2] = ⟨⟨[17], [99]⟩, true, none, 0⟩ := by
  have h : rangeP kt8 [2] [] 1 false = ⟨[⟨[17], [99]⟩], none, 0⟩ := by
    rw [range_full kf8.1 _ _ (by decide), kf8.2]
    dsimp only
    rw [show List.take (1 : Int).toNat (selR [2] [] [⟨[1], [97]⟩, ⟨[1, 2], [98]⟩, ⟨[17], [99]⟩]) = [⟨[17], [99]⟩] by decide +kernel]
  unfold fromP
  rw [h]
theorem kr9_4 : rangeP (foldN kt8) [] [] 1 false = ⟨[], some [], 80⟩ := by
  have hf : foldN kt8 = .mk 4 [] false [] [] (hashR kt8) := by unfold foldN; rw [if_neg (by rw [kt8_0.2.1]; decide)]
  rw [range_ref, hf]
  unfold rangeR
  have hc : checkE (.mk 4 [] false [] [] (hashR kt8)) = 0 := by
    unfold checkE
    rw [right_of_val (.stub 0 _ (by omega) kt8_h), if_pos rfl]
  rw [if_pos hc, if_neg (by decide)]
  dsimp only
  rw [items_stub, rGo, if_pos (by decide), if_pos ⟨rfl, by decide +kernel⟩]
set_option maxRecDepth 100000 in
set_option maxHeartbeats 4000000 in
theorem known9_any (w : World) : Calls Try.prog 17 #[] w fun e w' => e = .returned (.bool true) ∧ Below w.heap.size w w' := by
  refine calls_ev (args := []) mixed Try.func17 rfl (by kernel_rfl) ?_
  have M := St.start (w := w) (gs := []) (fun b h => by cases h)
  refine s_bslice (bvs [1]) (fr := true) (ds := (bvs [1]).map D.v) M slb (zs := [.int .u8 0]) (by kernel_rfl) rfl (by decide) rfl (RdL.ofvals _) rfl ?_
  clear M; rintro g1 W M
  refine s_bsliceB (bvs [97]) M slb (zs := [.int .u8 0]) (by kernel_rfl) rfl (by decide) rfl ?_
  clear M; rintro g2 W M
  refine s_cvtB [97] M rfl rfl (Nat.le_refl _) ?_
  clear M; rintro W M
  refine p_build (vs := [.slice (some ⟨g1, 0, none⟩) 1 1, .slice (some ⟨g2, 0, none⟩) 1 1]) pl_pr z_pr rfl ?_
  refine s_bslice (bvs [1, 2]) (fr := true) (ds := (bvs [1, 2]).map D.v) M slb (zs := [.int .u8 0]) (by kernel_rfl) rfl (by decide) rfl (RdL.ofvals _) rfl ?_
  clear M; rintro g3 W M
  refine s_bsliceB (bvs [98]) M slb (zs := [.int .u8 0]) (by kernel_rfl) rfl (by decide) rfl ?_
  clear M; rintro g4 W M
  refine s_cvtB [98] M rfl rfl (Nat.le_refl _) ?_
  clear M; rintro W M
  refine p_build (vs := [.slice (some ⟨g3, 0, none⟩) 2 2, .slice (some ⟨g4, 0, none⟩) 1 1]) pl_pr z_pr rfl ?_
  refine s_bslice (bvs [17]) (fr := true) (ds := (bvs [17]).map D.v) M slb (zs := [.int .u8 0]) (by kernel_rfl) rfl (by decide) rfl (RdL.ofvals _) rfl ?_
  clear M; rintro g5 W M
  refine s_bsliceB (bvs [99]) M slb (zs := [.int .u8 0]) (by kernel_rfl) rfl (by decide) rfl ?_
  clear M; rintro g6 W M
  refine s_cvtB [99] M rfl rfl (Nat.le_refl _) ?_
  clear M; rintro W M
  refine p_build (vs := [.slice (some ⟨g5, 0, none⟩) 1 1, .slice (some ⟨g6, 0, none⟩) 1 1]) pl_pr z_pr rfl ?_
  have hall : RdL W (Ft w W (own [] [] []) true) (dPrs kl8) [.slice (some ⟨g1, 0, none⟩) 1 1, .slice (some ⟨g2, 0, none⟩) 1 1, .slice (some ⟨g3, 0, none⟩) 2 2, .slice (some ⟨g4, 0, none⟩) 1 1, .slice (some ⟨g5, 0, none⟩) 1 1, .slice (some ⟨g6, 0, none⟩) 1 1] :=
    RdL.cons (M.dt 5 rfl).hd (RdL.cons (M.dt 4 rfl).hd (RdL.cons (M.dt 3 rfl).hd (RdL.cons (M.dt 2 rfl).hd (RdL.cons (M.dt 1 rfl).hd (RdL.cons (M.dt 0 rfl).hd RdL.nil_)))))
  refine s_bslice [.slice (some ⟨g1, 0, none⟩) 1 1, .slice (some ⟨g2, 0, none⟩) 1 1, .slice (some ⟨g3, 0, none⟩) 2 2, .slice (some ⟨g4, 0, none⟩) 1 1, .slice (some ⟨g5, 0, none⟩) 1 1, .slice (some ⟨g6, 0, none⟩) 1 1] (fr := true) (ds := dPrs kl8) M slp z_pr rfl (by decide) rfl hall rfl ?_
  clear M hall; rintro g7 W M
  refine cc is_r8of (r8of_any 401 (Nat.le_refl _) kl8 _ W _ 3 3 (M.d1 0 rfl) M.olt (longN_big (by decide))) ?_
  rintro e W ⟨cs, he, hres, hb⟩
  rw [← tOf_eq (Nat.le_refl _)] at he hres
  have kz : sz kt8 ≤ 10000 := kt8_0.2.2.2.2.2.2.2.2.2
  have kzf : sz (foldN kt8) ≤ 1000000 := by have := sz_foldN kf8.1.1; omega
  rw [kt8_0.1] at he
  subst he
  replace hres : RdL W _ (dN kt8) cs := hres
  obtain ⟨r1, r2, r3, r4⟩ := show _ ∧ _ ∧ _ ∧ _ from ⟨kr9_1, kr9_2, kr9_3, kr9_4⟩
  obtain ⟨t, ht⟩ : ∃ t, t = kt8 := ⟨_, rfl⟩
  rw [← ht] at hres kz kzf r1 r2 r3 r4
  clear ht
  have hc5 := hres.len
  rw [dN_len] at hc5
  replace M := (M.call hb).addL hres
  refine ⟨_, rfl, ?_⟩
  clear hres hb
  refine s_alloc (zN) M al_nd ?_
  clear M
  rintro g8 W M
  refine s_storeA 0 cs M rfl sz_nd rfl rfl hc5 ((M.da 0 rfl).ones (dN_one _)) rfl ?_
  clear M; rintro W M
  dsimp only [setL] at M
  refine v_loadN cs agg_nd rfl hc5 (M.run 0 rfl) ?_
  refine s_bslice (bvs [1, 1]) (fr := true) (ds := (bvs [1, 1]).map D.v) M slb (zs := [.int .u8 0]) (by kernel_rfl) rfl (by decide) rfl (RdL.ofvals _) rfl ?_
  clear M; rintro g9 W M
  refine s_bslice (bvs [17]) (fr := true) (ds := (bvs [17]).map D.v) M slb (zs := [.int .u8 0]) (by kernel_rfl) rfl (by decide) rfl (RdL.ofvals _) rfl ?_
  clear M; rintro g10 W M
  refine cc is_range (srange_any t [1, 1] [17] 9 (by omega) _ _ cs _ _ _ _ _ _ (M.da 2 rfl) (M.d1 1 rfl) (M.d1 0 rfl) M.olt ⟨by decide, by decide⟩) ?_
  rintro e W ⟨A1, n1, c1, Am1, nm1, cm1, he, rv, rm, hb⟩
  rw [r1] at he rv
  subst he
  have hn1 : n1 = 1 := rv.slen
  subst hn1
  replace M := (M.call hb).addD rv
  clear rv rm hb
  refine ⟨_, rfl, ?_⟩
  refine v_loadN cs agg_nd rfl hc5 (M.run 0 rfl) ?_
  refine cc is_back (sback_any t [] [] 2 (by omega) _ _ cs _ _ _ _ _ _ (M.da 3 rfl) (RdD.nil_ _ _) (RdD.nil_ _ _) M.olt ⟨by decide, by decide⟩) ?_
  rintro e W ⟨A2, n2, c2, Am2, nm2, cm2, he, rv, rm, hb⟩
  rw [r2] at he rv
  subst he
  have hn2 : n2 = 2 := rv.slen
  subst hn2
  replace M := (M.call hb).addD rv
  clear rv rm hb
  refine ⟨_, rfl, ?_⟩
  refine v_loadN cs agg_nd rfl hc5 (M.run 0 rfl) ?_
  refine s_bslice (bvs [2]) (fr := true) (ds := (bvs [2]).map D.v) M slb (zs := [.int .u8 0]) (by kernel_rfl) rfl (by decide) rfl (RdL.ofvals _) rfl ?_
  clear M; rintro g11 W M
  refine cc is_from (sfrom_any t [2] (by omega) _ _ cs _ _ _ (M.da 5 rfl) (M.d1 0 rfl) M.olt (by decide)) ?_
  rintro e W ⟨ps, Am3, nm3, cm3, he, rv, rm, hb⟩
  rw [r3] at he rv
  dsimp only at he rv
  subst he
  obtain ⟨Ak3, ck3, Av3, cv3, rfl, h1, h2⟩ := rv.pair
  replace M := ((M.call hb).addD h2).addD h1
  clear rv rm hb h1 h2
  refine ⟨_, rfl, ?_⟩
  refine s_alloc (zP) M al_pr ?_
  clear M
  rintro g12 W M
  refine s_storeA 0 (pcs ⟨[17], [99]⟩ Ak3 ck3 Av3 cv3) M rfl sz_pr rfl rfl rfl (all1 rfl) rfl ?_
  clear M; rintro W M
  dsimp only [setL] at M
  refine v_loadN cs agg_nd rfl hc5 (M.run 1 rfl) ?_
  refine cc is_r7fold (rfold_any t (by omega) _ _ _ (M.da 7 rfl) M.olt) ?_
  rintro e W ⟨csf, rfl, rf, hb⟩
  replace M := M.callF hb rf
  clear rf hb
  refine ⟨_, rfl, ?_⟩
  refine cc is_range (srange_any (foldN t) [] [] 1 kzf _ _ csf _ _ _ _ _ _ (M.da 0 rfl) (RdD.nil_ _ _) (RdD.nil_ _ _) M.olt ⟨by decide, by decide⟩) ?_
  rintro e W ⟨A4, n4, c4, Am4, nm4, cm4, he, rv, rm, hb⟩
  rw [r4] at he rv rm
  subst he
  have hnm : nm4 = 0 := rm.2.slen
  subst hnm
  replace M := M.call hb
  clear rv rm hb
  refine ⟨_, rfl, ?_⟩
  refine p_eq rfl rfl (fun _ => ?_) (fun e => absurd rfl e)
  refine p_len slp rfl ?_
  refine p_eq rfl rfl (fun _ => ?_) (fun e => absurd rfl e)
  obtain ⟨b1, o1, Ak1, ck1, Av1, cv1, rfl, M'⟩ := M.pair (i := 0) (p := ⟨[1, 2], [98]⟩) (M.d1 5 rfl) rfl
  replace M := M'; clear M'
  refine p_at (i := 0) slp rfl rfl rfl (by decide) ?_
  refine p_fld fP0 rfl ?_
  refine v_load agg_b rfl (M.lc 0 rfl 0 _ rfl) ?_
  refine s_bslice (bvs [1, 2]) (fr := true) (ds := (bvs [1, 2]).map D.v) M slb (zs := [.int .u8 0]) (by kernel_rfl) rfl (by decide) rfl (RdL.ofvals _) rfl ?_
  clear M; rintro g13 W M
  obtain ⟨q, hq, hc⟩ := same_tf (c1 := ck1) (c2 := 2) (M.rdb 2 rfl).2.2 (M.rdb (l := [1, 2]) 0 rfl).2.2
  obtain rfl := hq.2 rfl
  refine cc is_same0 hc ?_
  rintro e W' ⟨rfl, rfl⟩
  refine ⟨_, rfl, ?_⟩
  clear hq hc
  refine p_eq rfl rfl (fun _ => ?_) (fun e => absurd rfl e)
  refine p_len slp rfl ?_
  refine p_eq rfl rfl (fun _ => ?_) (fun e => absurd rfl e)
  obtain ⟨b2, o2, Ak2, ck2, Av2, cv2, rfl, M'⟩ := M.pair (i := 0) (p := ⟨[17], [99]⟩) (M.d1 8 rfl) rfl
  replace M := M'; clear M'
  refine p_at (i := 0) slp rfl rfl rfl (by decide) ?_
  refine p_fld fP0 rfl ?_
  refine v_load agg_b rfl (M.lc 0 rfl 0 _ rfl) ?_
  refine s_bslice (bvs [17]) (fr := true) (ds := (bvs [17]).map D.v) M slb (zs := [.int .u8 0]) (by kernel_rfl) rfl (by decide) rfl (RdL.ofvals _) rfl ?_
  clear M; rintro g14 W M
  obtain ⟨q, hq, hc⟩ := same_tf (c1 := ck2) (c2 := 1) (M.rdb 2 rfl).2.2 (M.rdb (l := [17]) 0 rfl).2.2
  obtain rfl := hq.2 rfl
  refine cc is_same0 hc ?_
  rintro e W' ⟨rfl, rfl⟩
  refine ⟨_, rfl, ?_⟩
  clear hq hc
  refine p_eq rfl rfl (fun _ => ?_) (fun e => absurd rfl e)
  refine p_fld fP1 rfl ?_
  refine v_load agg_b rfl ((M.B 0 rfl).at_ rfl) ?_
  refine s_bsliceB (bvs [99]) M slb (zs := [.int .u8 0]) (by kernel_rfl) rfl (by decide) rfl ?_
  clear M; rintro g15 W M
  refine s_cvtB [99] M rfl rfl (Nat.le_refl _) ?_
  clear M; rintro W M
  obtain ⟨q, hq, hc⟩ := same_tf (c1 := cv3) (c2 := 1) (M.rdb 11 rfl).2.2 (M.rdb (l := [99]) 0 rfl).2.2
  obtain rfl := hq.2 rfl
  refine cc is_same0 hc ?_
  rintro e W' ⟨rfl, rfl⟩
  refine ⟨_, rfl, ?_⟩
  clear hq hc
  refine p_len slb rfl ?_
  refine p_eq rfl rfl (fun _ => ?_) (fun e => absurd rfl e)
  refine p_eq rfl rfl (fun _ => ?_) (fun e => absurd rfl e)
  exact ⟨rfl, M.below⟩
end Go.Proofs.Ytkfbkhahkkmcoaa
namespace Go.Proofs.Ytkfbkhahkkmcoaa
open Go.RowKit


theorem is_kn9 : isFn Try.prog 17 = true := by kernel_rfl
end Go.Proofs.Ytkfbkhahkkmcoaa
