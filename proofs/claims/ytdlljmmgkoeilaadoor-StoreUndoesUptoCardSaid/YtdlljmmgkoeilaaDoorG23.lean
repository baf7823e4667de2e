/- What is done to a store, as data. Tries of which something is folded, plainly. No walk here. Tries, open as far as they are wanted: they agree with the whole. Opening one stub after the other, of a trie that has none itself. law17: long, done, put, known. Several stores at once, in the state of whoever holds them. The walk of node.Count (a function that calls itself through a variable); what it counts. law07: known, much. -/
import Derived.Test.YtdlljmmgkoeilaaDoorG22
import Derived.Test.YtdlljmmgkoeilaaDoorG21
namespace Go.Proofs.YtdlljmmgkoeilaaDoor
open Go.RowKit
/-- Something that is done: the kind, a key, a value (or how far), how many at most. -/
structure Do where
  kind : Int
  key : List UInt8
  val : List UInt8
  most : Int
def dDo (d : Do) : List D := [.v (.int .i64 d.kind), dB d.key, dB d.val, .v (.int .i64 d.most)]
theorem dDo_len (d : Do) : (dDo d).length = 4 := rfl
abbrev dDl (l : List Do) : D := .sl 4 l.length (l.flatMap dDo)
def dcs (d : Do) (Ak : Option Addr) (ck : Nat) (Av : Option Addr) (cv : Nat) : List Value := [.int .i64 d.kind, .slice Ak d.key.length ck, .slice Av d.val.length cv, .int .i64 d.most]
theorem RdL.do_ {W : World} {F : Nat → Prop} {d : Do} {cs : List Value} (h : RdL W F (dDo d) cs) : ∃ Ak ck Av cv, cs = dcs d Ak ck Av cv ∧ RdD W F (dB d.key) (.slice Ak d.key.length ck) ∧ RdD W F (dB d.val) (.slice Av d.val.length cv) := by
  obtain ⟨u0, _, rfl, h0, h⟩ := (show RdL W F [.v (.int .i64 d.kind), dB d.key, dB d.val, .v (.int .i64 d.most)] cs from h).uncons
  obtain ⟨u1, _, rfl, h1, h⟩ := h.uncons
  obtain ⟨u2, _, rfl, h2, h⟩ := h.uncons
  obtain ⟨u3, _, rfl, h3, h⟩ := h.uncons
  rw [h.isnil]
  obtain ⟨A1, c1, e1, _⟩ := h1.open_
  obtain ⟨A2, c2, e2, _⟩ := h2.open_
  subst e1; subst e2
  obtain rfl := RdD.val.1 h0
  obtain rfl := RdD.val.1 h3
  exact ⟨A1, c1, A2, c2, rfl, h1, h2⟩
/-- One of a slice that stays. -/
theorem St.do_ {w W : World} {gs : List (Option Nat)} {L : Lc} {R : List Row} {fs : List Fact} (M : St w gs W L R fs) {l : List Do} {A : Option Addr} {n c i : Nat} {d : Do} (h : RdD W (Fd W (own L R gs)) (dDl l) (.slice A n c)) (hi : l[i]? = some d) :
    ∃ b off Ak ck Av cv, A = some ⟨b, off, none⟩ ∧ St w gs W L R (.loc ((⟨b, off, none⟩ : Addr).add (i * 4)) (dcs d Ak ck Av cv) :: .dat false (dDo d) (dcs d Ak ck Av cv) :: fs) := by
  obtain ⟨b, off, es, e, hF, hes, hel, hc⟩ := RdD.elt dDo 4 dDo_len h hi
  obtain ⟨Ak, ck, Av, cv, rfl, h1, h2⟩ := hes.do_
  exact ⟨b, off, Ak, ck, Av, cv, e, (M.addL hes).addC (by rw [block_of_add]; exact hF) hc⟩
/-- What a store holds behind what is done, one behind the other: only what does not save. -/
def stepsT (t : Nd) (l : List Do) : Nd := l.foldl (fun t d => if d.kind ≤ 4 then stepT t d.kind d.key d.val else t) t
/-- How much there is to be done: as the law counts it. -/
def doN (l : List Do) : Nat := (l.map fun d => 1 + (d.key.length + d.val.length) / 50).sum
theorem doN_cons (d : Do) (l : List Do) : doN (d :: l) = 1 + (d.key.length + d.val.length) / 50 + doN l := by unfold doN; rw [List.map_cons, List.sum_cons]
theorem steps_ok : ∀ (l : List Do) {t : Nd}, checkE t = 0 → checkE (stepsT t l) = 0 ∧ sz (stepsT t l) ≤ sz t + 228 * doN l
  | [], t, h => ⟨h, by unfold stepsT; simp⟩
  | d :: l, t, h => by
    have h1 : checkE (if d.kind ≤ 4 then stepT t d.kind d.key d.val else t) = 0 ∧ sz (if d.kind ≤ 4 then stepT t d.kind d.key d.val else t) ≤ sz t + 130 + 2 * d.key.length + d.val.length := by
      split
      · exact step_ok _ _ _ h
      · exact ⟨h, by omega⟩
    have h2 := steps_ok l h1.1
    rw [doN_cons]
    unfold stepsT at h2 ⊢
    rw [List.foldl_cons]
    exact ⟨h2.1, by omega⟩
theorem steps_snoc (t : Nd) (l : List Do) {i : Nat} {d : Do} (h : l[i]? = some d) : stepsT t (l.take (i + 1)) = (if d.kind ≤ 4 then stepT (stepsT t (l.take i)) d.kind d.key d.val else stepsT t (l.take i)) := by
  have hi := (List.getElem?_eq_some_iff.1 h).1
  unfold stepsT
  rw [List.take_add_one, h, List.foldl_append]
  rfl
theorem doN_take (l : List Do) {i : Nat} {d : Do} (h : l[i]? = some d) : doN (l.take (i + 1)) = doN (l.take i) + 1 + (d.key.length + d.val.length) / 50 := by
  unfold doN
  rw [List.take_add_one, h, List.map_append, List.sum_append]
  simp only [Option.toList_some, List.map_cons, List.map_nil, List.sum_cons, List.sum_nil]
  omega
theorem doN_mem {l : List Do} {d : Do} (h : d ∈ l) : d.key.length + d.val.length ≤ 50 * doN l := by
  unfold doN
  induction l with
  | nil => cases h
  | cons x l ih =>
    rw [List.map_cons, List.sum_cons]
    rcases List.mem_cons.1 h with rfl | h
    · omega
    · have := ih h; omega
theorem doN_le (l : List Do) : doN l ≤ (l.map fun d => d.key.length + d.val.length + 4).sum := by
  unfold doN
  induction l with
  | nil => exact Nat.le_refl _
  | cons x l ih => rw [List.map_cons, List.sum_cons, List.map_cons, List.sum_cons]; omega
end Go.Proofs.YtdlljmmgkoeilaaDoor
namespace Go.Proofs.YtdlljmmgkoeilaaDoor
/-- The second one, with something folded. -/
inductive Fo : Nd → Nd → Prop
  | refl (t : Nd) : Fo t t
  | stub (t : Nd) (h0 : t.kind ≠ 0) : Fo (.mk 4 [] false [] [] (hashP t)) t
  | way (p : List UInt8) {k k' : Nd} (h : Fo k k') : Fo (.mk 2 p false [] [k] []) (.mk 2 p false [] [k'] [])
  | branch (has : Bool) (v : List UInt8) (ks ks' : List Nd) (hl : ks.length = ks'.length) (h : ∀ (i : Nat) (k k' : Nd), ks[i]? = some k → ks'[i]? = some k' → Fo k k') : Fo (.mk 3 [] has v ks []) (.mk 3 [] has v ks' [])
theorem Fo.kind {m n : Nd} (h : Fo m n) : (m.kind = 0 ↔ n.kind = 0) ∧ (m.kind ≠ 4 → m.kind = n.kind) := by
  cases h with
  | refl => exact ⟨Iff.rfl, fun _ => rfl⟩
  | stub _ h0 => exact ⟨⟨fun e => absurd (show (4 : Int) = 0 from e) (by decide), fun e => absurd e h0⟩, fun e => absurd rfl e⟩
  | way => exact ⟨⟨fun e => absurd (show (2 : Int) = 0 from e) (by decide), fun e => absurd (show (2 : Int) = 0 from e) (by decide)⟩, fun _ => rfl⟩
  | branch => exact ⟨⟨fun e => absurd (show (3 : Int) = 0 from e) (by decide), fun e => absurd (show (3 : Int) = 0 from e) (by decide)⟩, fun _ => rfl⟩
/-- Kids, each the other's or folded. -/
def Fos (ks ks' : List Nd) : Prop := ks.length = ks'.length ∧ ∀ (i : Nat) (k k' : Nd), ks[i]? = some k → ks'[i]? = some k' → Fo k k'
theorem Fos.refl (ks : List Nd) : Fos ks ks := ⟨rfl, fun i k k' h h' => by rw [h] at h'; injection h' with h'; rw [h']; exact .refl _⟩
theorem Fos.set {ks ks' : List Nd} (h : Fos ks ks') {a b : Nd} (hab : Fo a b) (i : Nat) : Fos (ks.set i a) (ks'.set i b) := by
  refine ⟨by rw [List.length_set, List.length_set]; exact h.1, fun j k k' hk hk' => ?_⟩
  by_cases e : i = j
  · subst e
    have h1 := (List.getElem?_eq_some_iff.1 hk).1
    have h2 := (List.getElem?_eq_some_iff.1 hk').1
    rw [List.length_set] at h1 h2
    rw [List.getElem?_set_self h1] at hk
    rw [List.getElem?_set_self h2] at hk'
    injection hk with hk; injection hk' with hk'
    rw [← hk, ← hk']; exact hab
  · rw [List.getElem?_set_ne e] at hk hk'
    exact h.2 j k k' hk hk'
theorem Fos.tail {k k' : Nd} {ks ks' : List Nd} (h : Fos (k :: ks) (k' :: ks')) : Fo k k' ∧ Fos ks ks' :=
  ⟨h.2 0 k k' rfl rfl, by have := h.1; simpa using this, fun i a b h1 h2 => h.2 (i + 1) a b (by simpa using h1) (by simpa using h2)⟩
theorem Fos.many : ∀ {ks ks' : List Nd}, Fos ks ks' → manyN ks = manyN ks'
  | [], [], _ => rfl
  | [], _ :: _, h => by have := h.1; simp at this
  | _ :: _, [], h => by have := h.1; simp at this
  | k :: ks, k' :: ks', h => by
    obtain ⟨h1, h2⟩ := h.tail
    rw [many_cons, many_cons, Fos.many h2]
    by_cases e : k.kind = 0
    · rw [if_pos e, if_pos (h1.kind.1.1 e)]
    · rw [if_neg e, if_neg (fun e' => e (h1.kind.1.2 e'))]
theorem Fos.scan {has : Bool} : ∀ {ks ks' : List Nd} {i : Nat} {o : Option Nat}, Fos ks ks' → scanK has ks i o = scanK has ks' i o
  | [], [], _, _, _ => rfl
  | [], _ :: _, _, _, h => by have := h.1; simp at this
  | _ :: _, [], _, _, h => by have := h.1; simp at this
  | k :: ks, k' :: ks', i, o, h => by
    obtain ⟨h1, h2⟩ := h.tail
    rw [scanK, scanK]
    by_cases e : k.kind = 0
    · rw [if_pos e, if_pos (h1.kind.1.1 e), Fos.scan h2]
    · rw [if_neg e, if_neg (fun e' => e (h1.kind.1.2 e')), Fos.scan h2]
theorem Fo.val {even : Bool} {m n : Nd} (h : Fo m n) : ∀ d, Val even n d → Val even m d := by
  induction h with
  | refl => exact fun d h => h
  | stub t h0 => exact fun d h => .stub d _ h.le (hashP_len h)
  | way p h ih =>
    intro d hv
    cases hv with
    | way _ _ _ hd hp h0 hk hr =>
      refine .way d p _ hd hp h0 ?_ (ih _ hr)
      rename_i k k'
      by_cases h4 : k.kind = 4
      · exact .inr h4
      · rw [h.kind.2 h4]; exact hk
  | branch has v ks ks' hl h ih =>
    intro d hv
    cases hv with
    | branch _ _ _ _ hd hv hv0 he h16 hr hm =>
      refine .branch d has v ks hd hv hv0 he (hl.trans h16) (fun k hk => ?_) (by rw [Fos.many ⟨hl, h⟩]; exact hm)
      obtain ⟨i, hi⟩ := List.getElem?_of_mem hk
      have hi' := (List.getElem?_eq_some_iff.1 hi).1
      have hk' : ks'[i]? = some (ks'[i]'(by omega)) := List.getElem?_eq_getElem (by omega)
      exact ih i k _ hi hk' _ (hr _ (List.mem_of_getElem? hk'))
theorem hashes_eq : ∀ {ks ks' : List Nd}, ks.length = ks'.length → (∀ (i : Nat) (k k' : Nd), ks[i]? = some k → ks'[i]? = some k' → (k.kind = 0 ↔ k'.kind = 0) ∧ hashP k = hashP k') → hashesP ks = hashesP ks'
  | [], [], _, _ => rfl
  | [], _ :: _, h, _ => by simp at h
  | _ :: _, [], h, _ => by simp at h
  | k :: ks, k' :: ks', h, hh => by
    obtain ⟨h1, h2⟩ := hh 0 k k' rfl rfl
    rw [hashesP, hashesP, hashes_eq (by simpa using h) (fun i a b ha hb => hh (i + 1) a b (by simpa using ha) (by simpa using hb)), h2]
    by_cases e : k.kind = 0
    · rw [if_neg (fun x => x e), if_neg (fun x => x (h1.1 e))]
    · rw [if_pos e, if_pos (fun x => e (h1.2 x))]
theorem kbit_eq {ks ks' : List Nd} (h : Fos ks ks') (i : Nat) : kbit ks i = kbit ks' i := by
  unfold kbit
  have : ((ks.getD i noneN).kind ≠ 0) ↔ ((ks'.getD i noneN).kind ≠ 0) := by
    rw [List.getD_eq_getElem?_getD, List.getD_eq_getElem?_getD]
    rcases Nat.lt_or_ge i ks.length with hi | hi
    · have h1 : ks[i]? = some (ks[i]'hi) := List.getElem?_eq_getElem hi
      have h2 : ks'[i]? = some (ks'[i]'(by have := h.1; omega)) := List.getElem?_eq_getElem (by have := h.1; omega)
      rw [h1, h2]
      exact not_congr (h.2 i _ _ h1 h2).kind.1
    · rw [List.getElem?_eq_none hi, List.getElem?_eq_none (by have := h.1; omega)]
  by_cases e : (ks.getD i noneN).kind ≠ 0
  · rw [if_pos e, if_pos (this.1 e)]
  · rw [if_neg e, if_neg (fun x => e (this.2 x))]
theorem kbits_eq {ks ks' : List Nd} (h : Fos ks ks') : ∀ i, kbits ks i = kbits ks' i
  | 0 => rfl
  | i + 1 => by rw [kbits, kbits, kbits_eq h i, kbit_eq h i]
theorem Fo.hash {m n : Nd} (h : Fo m n) : hashP m = hashP n := by
  induction h with
  | refl => rfl
  | stub t h0 => rw [hashP_eq]; exact if_pos rfl
  | @way p k k' h ih =>
    rw [hashP, hashP, if_neg (by decide), if_neg (by decide), hashes_eq (ks := [k]) (ks' := [k']) rfl (fun i a b ha hb => by
      match i, ha, hb with
      | 0, ha, hb =>
        simp at ha hb
        subst ha; subst hb
        exact ⟨h.kind.1, ih⟩)]
    rfl
  | branch has v ks ks' hl h ih =>
    rw [hashP, hashP, if_neg (by decide), if_neg (by decide), hashes_eq hl (fun i a b ha hb => ⟨(h i a b ha hb).kind.1, ih i a b ha hb⟩)]
    unfold encF
    rw [kbits_eq ⟨hl, h⟩ 16]
theorem Fo.get {even : Bool} {m n : Nd} (h : Fo m n) : ∀ d, Val even n d → ∀ q, halvesB q = true → getP m q = getP n q ∨ ∃ r, (getP m q).miss = some r ∧ r <+: q := by
  induction h with
  | refl => exact fun _ _ _ _ => .inl rfl
  | stub t h0 => exact fun _ _ q _ => .inr ⟨[], by rw [getP_stub], List.nil_prefix⟩
  | way p h ih =>
    intro d hv q hq
    cases hv with
    | way _ _ _ hd hp h0 hk hr =>
      by_cases hpq : p <+: q
      · rw [getP_way hpq, getP_way hpq]
        rcases ih _ hr (q.drop p.length) (halvesB_drop hq) with e | ⟨r, e1, e2⟩
        · exact .inl (by rw [e])
        · refine .inr ⟨p ++ r, by simp only [e1]; rfl, ?_⟩
          obtain ⟨s, rfl⟩ := hpq
          rw [List.drop_left] at e2
          exact (List.prefix_append_right_inj _).2 e2
      · exact .inl (by rw [getP_way0 hpq, getP_way0 hpq])
  | branch has v ks ks' hl h ih =>
    intro d hv q hq
    cases hv with
    | branch _ _ _ _ hd hv hv0 he h16 hr hm =>
      match q, hq with
      | [], _ => exact .inl (by rw [getP_br0, getP_br0])
      | x :: q', hq =>
        have hx := halves_hd hq
        obtain ⟨k, hk⟩ : ∃ k, ks[x.toNat]? = some k := ⟨_, List.getElem?_eq_getElem (by omega)⟩
        obtain ⟨k', hk'⟩ : ∃ k', ks'[x.toNat]? = some k' := ⟨_, List.getElem?_eq_getElem (by omega)⟩
        rw [getP_br hk, getP_br hk']
        rcases ih _ k k' hk hk' _ (hr k' (List.mem_of_getElem? hk')) q' (by have := halvesB_drop (n := 1) hq; simpa using this) with e | ⟨r, e1, e2⟩
        · exact .inl (by rw [e])
        · exact .inr ⟨x :: r, by simp only [e1]; rfl, List.cons_prefix_cons.2 ⟨rfl, e2⟩⟩
theorem Fo.along {a b : Nd} (h : Fo a b) (p : List UInt8) : Fo (alongN p a) (alongN p b) := by
  unfold alongN
  split
  · exact h
  · exact .way p h
theorem Fos.hold {ks ks' : List Nd} (h : Fos ks ks') (has : Bool) (v p val : List UInt8) : (holdK has v ks p val).1 = (holdK has v ks' p val).1 ∧ (holdK has v ks p val).2.1 = (holdK has v ks' p val).2.1 ∧ Fos (holdK has v ks p val).2.2 (holdK has v ks' p val).2.2 := by
  cases p with
  | nil => exact ⟨rfl, rfl, h⟩
  | cons x r => exact ⟨rfl, rfl, h.set (.refl _) _⟩
theorem Fo.fork {k k' : Nd} (h : Fo k k') (p q val : List UInt8) : Fo (forkN (.mk 2 p false [] [k] []) q val) (forkN (.mk 2 p false [] [k'] []) q val) := by
  unfold forkN
  simp only [Nd.path, Nd.kind, Nd.val, Nd.kids, List.headD_cons, Int.reduceEq, if_false]
  refine Fo.along ?_ _
  obtain ⟨h1, h2, h3⟩ := ((Fos.refl (noneNs 16)).set (h.along (p.drop (commonB p q + 1))) (p.getD (commonB p q) 0).toNat).hold false [] (q.drop (commonB p q)) val
  rw [h1, h2]
  exact .branch _ _ _ _ h3.1 h3.2
theorem Fo.put {even : Bool} {m n : Nd} (h : Fo m n) : ∀ d, Val even n d → ∀ q val, halvesB q = true → (getP m q).miss = none → Fo (putP m q val).1 (putP n q val).1 := by
  induction h with
  | refl => exact fun _ _ _ _ _ _ => .refl _
  | stub t h0 => intro _ _ q _ _ hm; rw [getP_stub] at hm; cases hm
  | way p h ih =>
    intro d hv q val hq hm
    cases hv with
    | way _ _ _ hd hp h0 hk hr =>
      by_cases hpq : p <+: q
      · rw [getP_way hpq] at hm
        rw [putP_way hpq, putP_way hpq]
        exact .way p (ih _ hr _ val (halvesB_drop hq) (by simpa using hm))
      · rw [putP_way0 hpq, putP_way0 hpq]
        exact h.fork p q val
  | branch has v ks ks' hl h ih =>
    intro d hv q val hq hm
    cases hv with
    | branch _ _ _ _ hd hv hv0 he h16 hr hm' =>
      match q, hq, hm with
      | [], _, _ => rw [putP_br0, putP_br0]; exact .branch _ _ _ _ hl h
      | x :: q', hq, hm =>
        have hx := halves_hd hq
        obtain ⟨k, hk⟩ : ∃ k, ks[x.toNat]? = some k := ⟨_, List.getElem?_eq_getElem (by omega)⟩
        obtain ⟨k', hk'⟩ : ∃ k', ks'[x.toNat]? = some k' := ⟨_, List.getElem?_eq_getElem (by omega)⟩
        rw [getP_br hk] at hm
        rw [putP_br hk, putP_br hk']
        have := Fos.set (ks := ks) (ks' := ks') ⟨hl, h⟩ (ih _ k k' hk hk' _ (hr k' (List.mem_of_getElem? hk')) q' val (by have := halvesB_drop (n := 1) hq; simpa using this) (by simpa using hm)) x.toNat
        exact .branch _ _ _ _ this.1 this.2
theorem Fo.behind {a b : Nd} (h : Fo a b) (h4 : a.kind ≠ 4) (p : List UInt8) : Fo (behindN p a) (behindN p b) := by
  cases h with
  | refl => exact .refl _
  | stub => exact absurd rfl h4
  | way p' h => rw [behind_way, behind_way]; exact .way _ h
  | branch has v ks ks' hl h => rw [behind_br, behind_br]; exact (Fo.branch has v ks ks' hl h).along p
theorem Fos.settle {ks ks' : List Nd} (h : Fos ks ks') (h16 : ks.length = 16) (has : Bool) (v : List UInt8) (hm : (settleP (.mk 3 [] has v ks [])).2 = none) : Fo (settleP (.mk 3 [] has v ks [])).1 (settleP (.mk 3 [] has v ks' [])).1 := by
  unfold settleP at hm ⊢
  dsimp only [Nd.has, Nd.kids, Nd.val] at hm ⊢
  rw [← Fos.scan h]
  cases hs : scanK has ks 0 none with
  | none => exact .branch _ _ _ _ h.1 h.2
  | some o =>
    cases o with
    | none => exact .refl _
    | some i =>
      rw [hs] at hm
      dsimp only at hm ⊢
      have hi : i < ks.length := by
        rcases scan_lt hs with h | h
        · cases h
        · omega
      have h1 : ks[i]? = some (ks[i]'hi) := List.getElem?_eq_getElem hi
      have h2 : ks'[i]? = some (ks'[i]'(by have := h.1; omega)) := List.getElem?_eq_getElem (by have := h.1; omega)
      have e1 : ks.getD i noneN = ks[i]'hi := by rw [List.getD_eq_getElem?_getD, h1]; rfl
      have e2 : ks'.getD i noneN = ks'[i]'(by have := h.1; omega) := by rw [List.getD_eq_getElem?_getD, h2]; rfl
      simp only [e1, e2] at hm ⊢
      have hf := h.2 i _ _ h1 h2
      by_cases h4 : (ks[i]'hi).kind = 4
      · rw [if_pos h4] at hm; cases hm
      · rw [if_neg h4, if_neg (by rw [← hf.kind.2 h4]; exact h4)]
        exact hf.behind h4 _
theorem Fo.drop {even : Bool} {m n : Nd} (h : Fo m n) : ∀ d, Val even n d → ∀ q, halvesB q = true → (getP m q).has = true → (dropP m q).2 = none → (dropP n q).2 = none → Fo (dropP m q).1 (dropP n q).1 := by
  induction h with
  | refl => exact fun _ _ _ _ _ _ _ => .refl _
  | stub t h0 => intro _ _ q _ hm; rw [getP_stub] at hm; cases hm
  | @way p k k' h ih =>
    intro d hv q hq hg hm hn
    have hvm := (Fo.way p h).val d hv
    cases hv with
    | way _ _ _ hd hp h0 hk hr =>
      have hpre : p <+: q := by
        rcases Classical.em (p <+: q) with h | h
        · exact h
        · rw [getP_way0 h] at hg; cases hg
      rw [getP_way hpre] at hg
      rw [dropP_way] at hm
      rw [dropP_way, dropP_way]
      have hm' : (dropP k (q.drop p.length)).2 = none := by simpa using hm
      rw [dropP_way] at hn
      have := ih _ hr _ (halvesB_drop hq) hg hm' (by simpa using hn)
      refine this.behind ?_ p
      cases hvm with
      | way _ _ _ _ _ _ _ hr2 => exact ((drop_items hr2 _ (halvesB_drop hq) hg).1 hm').2.1
  | branch has v ks ks' hl h ih =>
    intro d hv q hq hg hmm hn
    have hvm := (Fo.branch has v ks ks' hl h).val d hv
    cases hv with
    | branch _ _ _ _ hd hv hv0 he h16 hr hm =>
      match q, hq, hg, hmm, hn with
      | [], _, _, hmm, _ =>
        rw [dropP_br0] at hmm
        rw [dropP_br0, dropP_br0]
        exact Fos.settle ⟨hl, h⟩ (by omega) _ _ hmm
      | x :: q', hq, hg, hmm, hn =>
        have hx := halves_hd hq
        obtain ⟨k, hk⟩ : ∃ k, ks[x.toNat]? = some k := ⟨_, List.getElem?_eq_getElem (by omega)⟩
        obtain ⟨k', hk'⟩ : ∃ k', ks'[x.toNat]? = some k' := ⟨_, List.getElem?_eq_getElem (by omega)⟩
        rw [getP_br hk] at hg
        rw [dropP_br hk] at hmm
        rw [dropP_br hk'] at hn
        rw [dropP_br hk, dropP_br hk']
        cases hd2 : (dropP k q').2 with
        | some r => rw [hd2] at hmm; simp at hmm
        | none =>
          have hd3 : (dropP k' q').2 = none := by
            cases hd3 : (dropP k' q').2 with
            | none => rfl
            | some r => rw [hd3] at hn; simp at hn
          have hq' : halvesB q' = true := by have := halvesB_drop (n := 1) hq; simpa using this
          have hF := ih _ k k' hk hk' _ (hr k' (List.mem_of_getElem? hk')) q' hq' hg hd2 hd3
          rw [hd2] at hmm
          rw [hd3]
          simp only [Option.isSome_none, Bool.false_eq_true, if_false] at hmm ⊢
          exact Fos.settle (Fos.set ⟨hl, h⟩ hF x.toNat) (by rw [List.length_set]; omega) _ _ hmm
end Go.Proofs.YtdlljmmgkoeilaaDoor
namespace Go.Proofs.YtdlljmmgkoeilaaDoor
open Go.RowKit
theorem is_long17 : isFn Tryd.prog 7 = true := by kernel_rfl
theorem is_done : isFn Tryd.prog 9 = true := by kernel_rfl
theorem is_put17 : isFn Tryd.prog 25 = true := by kernel_rfl
theorem is_kn17 : isFn Tryd.prog 8 = true := by kernel_rfl
theorem is_much7r : isFn Tryd.prog 24 = true := by kernel_rfl
theorem fDo0 : fieldOff Tryd.prog 25 0 = some 0 := by kernel_rfl
theorem fDo1 : fieldOff Tryd.prog 25 1 = some 1 := by kernel_rfl
theorem fDo2 : fieldOff Tryd.prog 25 2 = some 2 := by kernel_rfl
theorem fDo3 : fieldOff Tryd.prog 25 3 = some 3 := by kernel_rfl
theorem fTo0 : fieldOff Tryd.prog 36 0 = some 0 := by kernel_rfl
theorem fTo1 : fieldOff Tryd.prog 36 1 = some 1 := by kernel_rfl
theorem fTo2 : fieldOff Tryd.prog 36 2 = some 2 := by kernel_rfl
theorem fTo3 : fieldOff Tryd.prog 36 3 = some 3 := by kernel_rfl
theorem agg_do : aggOf Tryd.prog 25 = some (true, 4) := by kernel_rfl
theorem agg_to : aggOf Tryd.prog 36 = some (true, 4) := by kernel_rfl
theorem sz_do : (Tryd.prog.info? 25).map (·.size) = some 4 := by kernel_rfl
theorem sz_to : (Tryd.prog.info? 36).map (·.size) = some 4 := by kernel_rfl
theorem sz_bl : (Tryd.prog.info? 4).map (·.size) = some 1 := by kernel_rfl
theorem sz_it : (Tryd.prog.info? 3).map (·.size) = some 1 := by kernel_rfl
theorem sz_ps : (Tryd.prog.info? 22).map (·.size) = some 1 := by kernel_rfl
theorem sldo : slOf Tryd.prog 32 = some (25, 4) := by kernel_rfl
def zDo : List Value := [.int .i64 0, .slice none 0 0, .slice none 0 0, .int .i64 0]
def zTo : List Value := [.slice none 0 0, .bool false, .slice none 0 0, .int .i64 0]
theorem z_do : zeroOf Tryd.prog 25 = some zDo := by kernel_rfl
theorem z_to : zeroOf Tryd.prog 36 = some zTo := by kernel_rfl
theorem al_do : (Tryd.prog.info? 25).map (fun i => i.zero.map fun z => z.cells.toList) = some (some zDo) := by kernel_rfl
theorem al_to : (Tryd.prog.info? 36).map (fun i => i.zero.map fun z => z.cells.toList) = some (some zTo) := by kernel_rfl
theorem pl_do : placesOf Tryd.prog 25 = some [(0, 1), (1, 1), (2, 1), (3, 1)] := by kernel_rfl
theorem pl_to : placesOf Tryd.prog 36 = some [(0, 1), (1, 1), (2, 1), (3, 1)] := by kernel_rfl
theorem doN_le_take (l : List Do) (i : Nat) : doN (l.take i) ≤ doN l := by
  have : doN l = doN (l.take i) + doN (l.drop i) := by unfold doN; rw [← List.sum_append, ← List.map_append, List.take_append_drop]
  omega
theorem doN_len (l : List Do) : l.length ≤ doN l := by
  unfold doN
  induction l with
  | nil => exact Nat.zero_le _
  | cons x l ih => rw [List.map_cons, List.sum_cons, List.length_cons]; omega
def bigN (t : Nd) (l : List Do) : Prop := 300 ≤ muchP t 300 + doN l ∨ 60 < l.length
instance (t : Nd) (l : List Do) : Decidable (bigN t l) := inferInstanceAs (Decidable (_ ∨ _))
set_option maxRecDepth 100000 in
set_option maxHeartbeats 2000000 in
theorem long17_any (t : Nd) (ht : sz t ≤ 900000000) (l : List Do) (gs : List (Option Nat)) (w : World) (cs : List Value) (A : Option Addr) (n c : Nat) (hr : RdL w (Fd w gs) (dN t) cs) (hd : RdD w (Fd w gs) (dDl l) (.slice A n c)) (hgs : ∀ b, some b ∈ gs → b < w.heap.size) (hz : (l.map fun d => d.key.length + d.val.length + 4).sum ≤ 100000000) :
    Calls Tryd.prog 7 #[.agg cs.toArray, .slice A n c] w fun e w' => e = .returned (.bool (decide (bigN t l))) ∧ Below w.heap.size w w' := by
  refine calls_ev (args := [.agg cs.toArray, .slice A n c]) mixed Tryd.func7 rfl (by kernel_rfl) ?_
  have hcl := hr.len
  rw [dN_len] at hcl
  have en : n = l.length := hd.slen
  subst en
  have hdn := doN_le l
  have hdl := doN_len l
  have hml := much_le t 300
  have M := ((St.start hgs).addD hd).addL hr
  clear hr hd
  refine s_box (cs) M rfl ?_
  clear M
  rintro g2 W M
  refine v_loadN cs agg_nd rfl hcl (M.run 0 rfl) ?_
  refine cc is_much7r (much_any 1000000000 (by decide) t (by omega) _ _ cs 300 (M.da 0 rfl) M.olt (by decide)) ?_
  rintro e W ⟨rfl, hb⟩
  replace M := M.call hb
  clear hb
  refine ⟨_, rfl, ?_⟩
  refine lp Nat (fun i W => i ≤ l.length ∧ St w gs W [] [] [.dat false [dDl l] [.slice A l.length c]]) (fun i => [(1, .slice A l.length c), (5, .int .i64 ((muchP t 300 + doN (l.take i) : Nat) : Int)), (6, .int .i64 i)]) (fun i => l.length - i) 0 ⟨Nat.zero_le _, M.dropL.fsub _ (by simp)⟩ ⟨rfl, rfl, rfl, trivial⟩ ?_
  clear M
  rintro i E5 W5 ⟨hi, M⟩
  refine p_len sldo rfl ?_
  refine p_lt rfl rfl (fun hlt => ?_) (fun hge => ?_)
  · obtain ⟨d, hd⟩ : ∃ d, l[i]? = some d := ⟨_, List.getElem?_eq_getElem (by omega)⟩
    have hs := doN_take l hd
    have hs2 := doN_le_take l (i + 1)
    have hdm := doN_mem (List.mem_of_getElem? hd)
    have hlt : i < l.length := by omega
    obtain ⟨b1, o1, Ak, ck, Av, cv, rfl, M'⟩ := M.do_ (M.d1 0 rfl) hd
    replace M := M'.drew; clear M'
    refine drT (Kp w gs [] [.loc ((⟨b1, o1, none⟩ : Addr).add (i * 4)) (dcs d Ak ck Av cv)]) (.take 0 (.take 1 (.take 2 (.take 3 (.take 4 (.take 5 (.take 6 (.take 7 (.take 8 (.take 9 (.take 10 (.take 11 (.take 12 (.take 13 (.take 14 (.take 15 (.take 16 (.take 17 (.nil))))))))))))))))))) (by kernel_rfl) (M.kp (by simp) (by simp)) ?_
    refine p_addN (b := 1) rfl rfl (by omega) ?_
    refine p_at (i := i) sldo rfl rfl rfl hlt ?_
    refine p_fld fDo1 rfl ?_
    refine t_load agg_b rfl (fun W K => K.lc 0 rfl 1 _ rfl) ?_
    refine p_len slb rfl ?_
    refine p_at (i := i) sldo rfl rfl rfl hlt ?_
    refine p_fld fDo2 rfl ?_
    refine t_load agg_b rfl (fun W K => K.lc 0 rfl 2 _ rfl) ?_
    refine p_len slb rfl ?_
    refine p_addN rfl rfl (by omega) ?_
    refine p_quoN (b := 50) rfl rfl (by decide) (by omega) ?_
    refine p_addN rfl rfl (by omega) ?_
    refine p_addN (b := 1) rfl rfl (by omega) ?_
    exact ⟨i + 1, ⟨by omega, M.fsub _ (by simp)⟩, ⟨rfl, (by show Value.int .i64 ((muchP t 300 + doN (l.take i) + 1 + (d.key.length + d.val.length) / 50 : Nat) : Int) = _; rw [hs, ← Nat.add_assoc, ← Nat.add_assoc]), rfl, trivial⟩, by omega⟩
  · have hin : i = l.length := by omega
    subst hin
    rw [List.take_of_length_le (Nat.le_refl _)]
    refine p_ge rfl rfl (fun h => ?_) (fun h => ?_)
    · have h : 300 ≤ muchP t 300 + doN l := by have h : (300 : Int) ≤ ((muchP t 300 + doN l : Nat) : Int) := h; omega
      exact ⟨ret_tf (decide_eq_true (.inl h)).symm, M.below⟩
    · have h : ¬ 300 ≤ muchP t 300 + doN l := by have h : ¬ (300 : Int) ≤ ((muchP t 300 + doN l : Nat) : Int) := h; omega
      refine p_len sldo rfl ?_
      refine p_gt rfl rfl (fun h2 => ?_) (fun h2 => ?_)
      · have h2 : 60 < l.length := by have h2 : (60 : Int) < (l.length : Int) := h2; omega
        exact ⟨ret_tf (decide_eq_true (.inr h2)).symm, M.below⟩
      · have h2 : ¬ 60 < l.length := by have h2 : ¬ (60 : Int) < (l.length : Int) := h2; omega
        exact ⟨ret_tf (decide_eq_false (fun q => q.elim h h2)).symm, M.below⟩
section
variable {w W : World} {gs : List (Option Nat)} {g : Nat} {t : Nd} {sv : Value} {L : Lc} {R : List Row} {fs : List Fact}
set_option maxRecDepth 100000 in
set_option maxHeartbeats 4000000 in
/-- What is done to a store, but for saving. -/
theorem done_any (hS : Sto w gs W g t sv L R fs) (hz : sz t < 500000) {d : Do} {cs : List Value} (hd : RdL W (Fd W (some g :: own L R gs)) (dDo d) cs) (hdl : d.key.length + d.val.length ≤ 500000) (hk : d.kind ≤ 4) :
    Calls Tryd.prog 9 #[.pointer (some ⟨g, 0, none⟩), .agg cs.toArray] W fun e W' => (∃ v, e = .returned v) ∧ Sto w gs W' g (if d.kind ≤ 4 then stepT t d.kind d.key d.val else t) sv L R fs := by
  refine calls_ev (args := [.pointer (some ⟨g, 0, none⟩), .agg cs.toArray]) mixed Tryd.func9 rfl (by kernel_rfl) ?_
  rw [if_pos hk]
  obtain ⟨Ak, ck, Av, cv, rfl, h1, h2⟩ := hd.do_
  obtain ⟨p, A0, n0, c0, M⟩ := hS
  replace M := (M.addD h2).addD h1
  clear h1 h2 hd
  refine s_box (dcs d Ak ck Av cv) M rfl ?_
  clear M
  rintro g3 W M
  replace M := M.swp
  refine s_alloc (zTo) M al_to ?_
  clear M
  rintro g4 W M
  replace M := M.swp
  refine p_build (vs := zTo) pl_to z_to rfl ?_
  refine s_alloc (zTo) M al_to ?_
  clear M
  rintro g5 W M
  replace M := M.swp
  refine s_storeA 1 zTo M rfl sz_to rfl rfl rfl (all1 rfl) rfl ?_
  clear M; rintro W M
  dsimp only [setL] at M
  have hS : Sto w gs W g t sv ((g5, 36, zTo) :: (g4, 36, zTo) :: (g3, 25, dcs d Ak ck Av cv) :: L) R (.dat false [dB d.key] [.slice Ak d.key.length ck] :: .dat false [dB d.val] [.slice Av d.val.length cv] :: fs) := ⟨p, A0, n0, c0, M.fsub _ (by intro f hf; simp only [List.mem_cons] at hf ⊢; rcases hf with h | h | h | h <;> simp [h])⟩
  clear M p
  refine p_fld fDo0 rfl ?_
  obtain ⟨p, A0, n0, c0, M⟩ := id hS
  refine v_load agg_int rfl ((M.B 3 rfl).at_ rfl) ?_
  refine p_eq rfl rfl (fun hk1 => ?_) (fun hk1 => ?_)
  · have hk1 : d.kind = 1 := hk1
    have hst : stepT t d.kind d.key d.val = t := by rw [hk1]; rfl
    refine p_fld fDo1 rfl ?_
    refine v_load agg_b rfl ((M.B 3 rfl).at_ rfl) ?_
    refine cc is_sGet (sGet_any hS (by omega) (M.d1 1 rfl)) ?_
    clear M p hS
    rintro e W ⟨A', n', c', rfl, p, A0, n0, c0, M⟩
    refine ⟨_, rfl, ?_⟩
    refine p_fld fTo0 rfl ?_
    refine s_set 1 (off := 0) (.slice A' n' c') [.slice A' n' c', .bool false, .slice none 0 0, .int .i64 0] M rfl sz_slB rfl rfl rfl (Nat.le_of_ble_eq_true rfl) rfl ?_
    clear M; rintro W M
    dsimp only [setL] at M
    refine p_fld fTo1 rfl ?_
    refine s_set 1 (off := 1) (.bool (tGet t d.key).has) [.slice A' n' c', .bool (tGet t d.key).has, .slice none 0 0, .int .i64 0] M rfl sz_bl rfl rfl rfl (Nat.le_of_ble_eq_true rfl) rfl ?_
    clear M; rintro W M
    dsimp only [setL] at M
    refine p_fld fTo3 rfl ?_
    refine s_set 1 (off := 3) (.int .i64 (tGet t d.key).e) [(.slice A' n' c'), (.bool (tGet t d.key).has), (.slice none 0 0), .int .i64 (tGet t d.key).e] M rfl sz_it rfl rfl rfl (Nat.le_of_ble_eq_true rfl) rfl ?_
    clear M; rintro W M
    dsimp only [setL] at M
    refine v_loadN [(.slice A' n' c'), (.bool (tGet t d.key).has), (.slice none 0 0), .int .i64 (tGet t d.key).e] agg_to rfl rfl (M.run 1 rfl) ?_
    refine s_storeA 2 [(.slice A' n' c'), (.bool (tGet t d.key).has), (.slice none 0 0), .int .i64 (tGet t d.key).e] M rfl sz_to rfl rfl rfl (all1 rfl) rfl ?_
    clear M; rintro W M
    dsimp only [setL] at M
    refine c_loadN [(.slice A' n' c'), (.bool (tGet t d.key).has), (.slice none 0 0), .int .i64 (tGet t d.key).e] agg_to rfl rfl (M.run 2 rfl) ?_
    rw [hst]
    exact ⟨⟨_, rfl⟩, p, A0, n0, c0, M.swp.dropL.swp.dropL.swp.dropL.fsub _ (by intro f hf; simp only [List.mem_cons] at hf ⊢; rcases hf with h | h <;> simp [h])⟩
  refine p_eq rfl rfl (fun hk2 => ?_) (fun hk2 => ?_)
  · have hk2 : d.kind = 2 := hk2
    refine p_fld fDo1 rfl ?_
    refine v_load agg_b rfl ((M.B 3 rfl).at_ rfl) ?_
    refine p_fld fDo2 rfl ?_
    refine v_load agg_b rfl ((M.B 3 rfl).at_ rfl) ?_
    refine cc is_sPut (sPut_any hS (by omega) (M.d1 1 rfl) (M.d1 2 rfl)) ?_
    clear M p hS
    rintro e W ⟨rfl, p, A0, n0, c0, M⟩
    refine ⟨_, rfl, ?_⟩
    refine p_fld fTo3 rfl ?_
    refine s_set 1 (off := 3) (.int .i64 (tPut t d.key d.val).2.2) [(.slice none 0 0), (.bool false), (.slice none 0 0), .int .i64 (tPut t d.key d.val).2.2] M rfl sz_it rfl rfl rfl (Nat.le_of_ble_eq_true rfl) rfl ?_
    clear M; rintro W M
    dsimp only [setL] at M
    refine v_loadN [(.slice none 0 0), (.bool false), (.slice none 0 0), .int .i64 (tPut t d.key d.val).2.2] agg_to rfl rfl (M.run 1 rfl) ?_
    refine s_storeA 2 [(.slice none 0 0), (.bool false), (.slice none 0 0), .int .i64 (tPut t d.key d.val).2.2] M rfl sz_to rfl rfl rfl (all1 rfl) rfl ?_
    clear M; rintro W M
    dsimp only [setL] at M
    refine c_loadN [(.slice none 0 0), (.bool false), (.slice none 0 0), .int .i64 (tPut t d.key d.val).2.2] agg_to rfl rfl (M.run 2 rfl) ?_
    rw [hk2]
    exact ⟨⟨_, rfl⟩, p, A0, n0, c0, M.swp.dropL.swp.dropL.swp.dropL.fsub _ (by intro f hf; simp only [List.mem_cons] at hf ⊢; rcases hf with h | h <;> simp [h])⟩
  refine p_eq rfl rfl (fun hk3 => ?_) (fun hk3 => ?_)
  · have hk3 : d.kind = 3 := hk3
    refine p_fld fDo1 rfl ?_
    refine v_load agg_b rfl ((M.B 3 rfl).at_ rfl) ?_
    refine cc is_sDrop (sDrop_any hS (by omega) d.val (M.d1 1 rfl)) ?_
    clear M p hS
    rintro e W ⟨rfl, p, A0, n0, c0, M⟩
    refine ⟨_, rfl, ?_⟩
    refine p_fld fTo1 rfl ?_
    refine s_set 1 (off := 1) (.bool (tDrop t d.key).has) [.slice none 0 0, .bool (tDrop t d.key).has, .slice none 0 0, .int .i64 0] M rfl sz_bl rfl rfl rfl (Nat.le_of_ble_eq_true rfl) rfl ?_
    clear M; rintro W M
    dsimp only [setL] at M
    refine p_fld fTo3 rfl ?_
    refine s_set 1 (off := 3) (.int .i64 (tDrop t d.key).e) [(.slice none 0 0), (.bool (tDrop t d.key).has), (.slice none 0 0), .int .i64 (tDrop t d.key).e] M rfl sz_it rfl rfl rfl (Nat.le_of_ble_eq_true rfl) rfl ?_
    clear M; rintro W M
    dsimp only [setL] at M
    refine v_loadN [(.slice none 0 0), (.bool (tDrop t d.key).has), (.slice none 0 0), .int .i64 (tDrop t d.key).e] agg_to rfl rfl (M.run 1 rfl) ?_
    refine s_storeA 2 [(.slice none 0 0), (.bool (tDrop t d.key).has), (.slice none 0 0), .int .i64 (tDrop t d.key).e] M rfl sz_to rfl rfl rfl (all1 rfl) rfl ?_
    clear M; rintro W M
    dsimp only [setL] at M
    refine c_loadN [(.slice none 0 0), (.bool (tDrop t d.key).has), (.slice none 0 0), .int .i64 (tDrop t d.key).e] agg_to rfl rfl (M.run 2 rfl) ?_
    rw [hk3]
    exact ⟨⟨_, rfl⟩, p, A0, n0, c0, M.swp.dropL.swp.dropL.swp.dropL.fsub _ (by intro f hf; simp only [List.mem_cons] at hf ⊢; rcases hf with h | h <;> simp [h])⟩
  have hk2 : d.kind ≠ 2 := hk2
  have hk3 : d.kind ≠ 3 := hk3
  have hst : stepT t d.kind d.key d.val = t := by unfold stepT; rw [if_neg hk2, if_neg hk3]
  rw [hst]
  refine p_eq rfl rfl (fun hk4 => ?_) (fun hk4 => ?_)
  · refine p_fld fDo1 rfl ?_
    refine v_load agg_b rfl ((M.B 3 rfl).at_ rfl) ?_
    refine p_fld fDo2 rfl ?_
    refine v_load agg_b rfl ((M.B 3 rfl).at_ rfl) ?_
    refine p_fld fDo3 rfl ?_
    refine v_load agg_int rfl ((M.B 3 rfl).at_ rfl) ?_
    refine cc is_sRange (sRange_any hS (by omega) (M.d1 1 rfl) (M.d1 2 rfl) ⟨by omega, by omega⟩) ?_
    clear M p hS
    rintro e W ⟨A', n', c', rfl, p, A0, n0, c0, M⟩
    refine ⟨_, rfl, ?_⟩
    refine p_fld fTo2 rfl ?_
    refine s_set 1 (off := 2) (.slice A' n' c') [.slice none 0 0, .bool false, .slice A' n' c', .int .i64 0] M rfl sz_ps rfl rfl rfl (Nat.le_of_ble_eq_true rfl) rfl ?_
    clear M; rintro W M
    dsimp only [setL] at M
    refine p_fld fTo3 rfl ?_
    refine s_set 1 (off := 3) (.int .i64 (rangeP t d.key d.val d.most false).e) [(.slice none 0 0), (.bool false), (.slice A' n' c'), .int .i64 (rangeP t d.key d.val d.most false).e] M rfl sz_it rfl rfl rfl (Nat.le_of_ble_eq_true rfl) rfl ?_
    clear M; rintro W M
    dsimp only [setL] at M
    refine v_loadN [(.slice none 0 0), (.bool false), (.slice A' n' c'), .int .i64 (rangeP t d.key d.val d.most false).e] agg_to rfl rfl (M.run 1 rfl) ?_
    refine s_storeA 2 [(.slice none 0 0), (.bool false), (.slice A' n' c'), .int .i64 (rangeP t d.key d.val d.most false).e] M rfl sz_to rfl rfl rfl (all1 rfl) rfl ?_
    clear M; rintro W M
    dsimp only [setL] at M
    refine c_loadN [(.slice none 0 0), (.bool false), (.slice A' n' c'), .int .i64 (rangeP t d.key d.val d.most false).e] agg_to rfl rfl (M.run 2 rfl) ?_
    exact ⟨⟨_, rfl⟩, p, A0, n0, c0, M.swp.dropL.swp.dropL.swp.dropL.fsub _ (by intro f hf; simp only [List.mem_cons] at hf ⊢; rcases hf with h | h <;> simp [h])⟩
  have hk4 : d.kind ≠ 4 := hk4
  clear hS
  refine p_eq rfl rfl (fun h => absurd (show d.kind = 5 from h) (by omega)) (fun _ => ?_)
  refine p_eq rfl rfl (fun h => absurd (show d.kind = 6 from h) (by omega)) (fun _ => ?_)
  refine p_eq rfl rfl (fun h => absurd (show d.kind = 7 from h) (by omega)) (fun _ => ?_)
  refine p_fld fTo3 rfl ?_
  refine s_set 1 (off := 3) (.int .i64 0) [(.slice none 0 0), (.bool false), (.slice none 0 0), .int .i64 0] M rfl sz_it rfl rfl rfl (Nat.le_of_ble_eq_true rfl) rfl ?_
  clear M; rintro W M
  dsimp only [setL] at M
  refine v_loadN [(.slice none 0 0), (.bool false), (.slice none 0 0), .int .i64 0] agg_to rfl rfl (M.run 1 rfl) ?_
  refine s_storeA 2 [(.slice none 0 0), (.bool false), (.slice none 0 0), .int .i64 0] M rfl sz_to rfl rfl rfl (all1 rfl) rfl ?_
  clear M; rintro W M
  dsimp only [setL] at M
  refine c_loadN [(.slice none 0 0), (.bool false), (.slice none 0 0), .int .i64 0] agg_to rfl rfl (M.run 2 rfl) ?_
  exact ⟨⟨_, rfl⟩, p, A0, n0, c0, M.swp.dropL.swp.dropL.swp.dropL.fsub _ (by intro f hf; simp only [List.mem_cons] at hf ⊢; rcases hf with h | h <;> simp [h])⟩
end
end Go.Proofs.YtdlljmmgkoeilaaDoor
namespace Go.Proofs.YtdlljmmgkoeilaaDoor
open Go.RowKit
/-- A store's own places. -/
structure SPl where
  p : Pts
  A : Option Addr
  c : Nat
  xs : List Value
  Am : Option Addr
  nm : Nat
  cm : Nat
/-- A store: its block, what it holds, what is saved; may that grow. -/
structure SEn where
  g : Nat
  t : Nd
  ss : List Nd
  m : Bool
def sBlk (y : SEn × SPl) : Nat × TypeId × List Value := (y.1.g, 74, pcN y.1.t y.2.p ++ [.slice y.2.A y.1.ss.length y.2.c, .slice y.2.Am y.2.nm y.2.cm])
def sRows (y : SEn × SPl) : List Row := match y.1.m with
  | true => [⟨71, 6, y.2.A, y.1.ss.length, y.2.c, y.2.xs⟩]
  | false => []
def sFs (y : SEn × SPl) : List Fact := .dat false (dN y.1.t) (pcN y.1.t y.2.p) :: match y.1.m with
  | true => [.dat false (dNs y.1.ss) y.2.xs]
  | false => [.dat false [dKs y.1.ss] [.slice y.2.A y.1.ss.length y.2.c]]
def StN (w : World) (gs : List (Option Nat)) (W : World) (l : List SEn) (L : Lc) (R : List Row) (fs : List Fact) : Prop :=
  ∃ bs : List (SEn × SPl), bs.map (·.1) = l ∧ St w gs W (bs.map sBlk ++ L) (bs.flatMap sRows ++ R) (bs.flatMap sFs ++ fs)
section
variable {w W : World} {gs : List (Option Nat)} {l : List SEn} {L : Lc} {R : List Row} {fs : List Fact} {g : Nat} {t : Nd} {ss : List Nd}
theorem StN.nil (M : St w gs W L R fs) : StN w gs W [] L R fs := ⟨[], rfl, M⟩
theorem StN.fsub {fs' : List Fact} (h : StN w gs W l L R fs) (hf : ∀ f ∈ fs', f ∈ fs) : StN w gs W l L R fs' := by
  obtain ⟨bs, e, M⟩ := h
  exact ⟨bs, e, M.fsub _ fun f h => by
    rcases List.mem_append.1 h with h | h
    · exact List.mem_append_left _ h
    · exact List.mem_append_right _ (hf f h)⟩
/-- As any state; and back. -/
theorem StN.open_ (h : StN w gs W l L R fs) : ∃ L' R' fs', St w gs W L' R' fs' ∧ (∀ f ∈ fs, f ∈ fs') ∧ (∀ W' fs2, St w gs W' L' R' (fs2 ++ fs') → StN w gs W' l L R (fs2 ++ fs)) ∧
    (∀ W' g t ss fs2, StG w gs W' g t ss L' R' (fs2 ++ fs') → StN w gs W' (⟨g, t, ss, true⟩ :: l) L R (fs2 ++ fs)) ∧ (∀ W' g t ss fs2, StF w gs W' g t ss L' R' (fs2 ++ fs') → StN w gs W' (⟨g, t, ss, false⟩ :: l) L R (fs2 ++ fs)) := by
  obtain ⟨bs, e, M⟩ := h
  refine ⟨_, _, _, M, fun f h => List.mem_append_right _ h, fun W' fs2 M => ⟨bs, e, M.fsub _ fun f h => ?_⟩, ?_, ?_⟩
  · simp only [List.mem_append] at h ⊢
    rcases h with h | h | h <;> simp [h]
  · rintro W' g t ss fs2 ⟨A, c, xs, p, Am, nm, cm, M⟩
    refine ⟨(⟨g, t, ss, true⟩, ⟨p, A, c, xs, Am, nm, cm⟩) :: bs, by rw [List.map_cons, e], M.fsub _ fun f h => ?_⟩
    have h : f ∈ .dat false (dN t) (pcN t p) :: .dat false (dNs ss) xs :: (bs.flatMap sFs ++ (fs2 ++ fs)) := h
    simp only [List.mem_append, List.mem_cons] at h ⊢
    rcases h with h | h | h | h | h <;> simp [h]
  · rintro W' g t ss fs2 ⟨A, c, p, Am, nm, cm, M⟩
    refine ⟨(⟨g, t, ss, false⟩, ⟨p, A, c, [], Am, nm, cm⟩) :: bs, by rw [List.map_cons, e], M.fsub _ fun f h => ?_⟩
    have h : f ∈ .dat false (dN t) (pcN t p) :: .dat false [dKs ss] [.slice A ss.length c] :: (bs.flatMap sFs ++ (fs2 ++ fs)) := h
    simp only [List.mem_append, List.mem_cons] at h ⊢
    rcases h with h | h | h | h | h <;> simp [h]
theorem StN.tail {x : SEn} (h : StN w gs W (x :: l) L R fs) : ∃ L' R' fs', (match x.m with | true => StG w gs W x.g x.t x.ss L' R' fs' | false => StF w gs W x.g x.t x.ss L' R' fs') ∧ (∀ f ∈ fs, f ∈ fs') ∧
    (∀ W' g t ss fs2, StG w gs W' g t ss L' R' (fs2 ++ fs') → StN w gs W' (⟨g, t, ss, true⟩ :: l) L R (fs2 ++ fs)) ∧ (∀ W' g t ss fs2, StF w gs W' g t ss L' R' (fs2 ++ fs') → StN w gs W' (⟨g, t, ss, false⟩ :: l) L R (fs2 ++ fs)) := by
  obtain ⟨bs, e, M⟩ := h
  cases bs with
  | nil => cases e
  | cons y bs =>
  rw [List.map_cons] at e
  injection e with e1 e
  obtain ⟨x', b⟩ := y
  have e1 : x' = x := e1
  subst e1
  refine ⟨bs.map sBlk ++ L, bs.flatMap sRows ++ R, bs.flatMap sFs ++ fs, ?_, fun f h => List.mem_append_right _ h, ?_, ?_⟩
  · obtain ⟨g, t, ss, m⟩ := x'
    cases m with
    | true => exact ⟨b.A, b.c, b.xs, b.p, b.Am, b.nm, b.cm, M⟩
    | false => exact ⟨b.A, b.c, b.p, b.Am, b.nm, b.cm, M⟩
  · rintro W' g t ss fs2 ⟨A, c, xs, p, Am, nm, cm, M⟩
    refine ⟨(⟨g, t, ss, true⟩, ⟨p, A, c, xs, Am, nm, cm⟩) :: bs, by rw [List.map_cons, e], M.fsub _ fun f h => ?_⟩
    have h : f ∈ .dat false (dN t) (pcN t p) :: .dat false (dNs ss) xs :: (bs.flatMap sFs ++ (fs2 ++ fs)) := h
    simp only [List.mem_append, List.mem_cons] at h ⊢
    rcases h with h | h | h | h | h <;> simp [h]
  · rintro W' g t ss fs2 ⟨A, c, p, Am, nm, cm, M⟩
    refine ⟨(⟨g, t, ss, false⟩, ⟨p, A, c, [], Am, nm, cm⟩) :: bs, by rw [List.map_cons, e], M.fsub _ fun f h => ?_⟩
    have h : f ∈ .dat false (dN t) (pcN t p) :: .dat false [dKs ss] [.slice A ss.length c] :: (bs.flatMap sFs ++ (fs2 ++ fs)) := h
    simp only [List.mem_append, List.mem_cons] at h ⊢
    rcases h with h | h | h | h | h <;> simp [h]
theorem StN.headG (h : StN w gs W (⟨g, t, ss, true⟩ :: l) L R fs) : ∃ L' R' fs', StG w gs W g t ss L' R' fs' ∧ (∀ f ∈ fs, f ∈ fs') ∧
    (∀ W' g t ss fs2, StG w gs W' g t ss L' R' (fs2 ++ fs') → StN w gs W' (⟨g, t, ss, true⟩ :: l) L R (fs2 ++ fs)) ∧ (∀ W' g t ss fs2, StF w gs W' g t ss L' R' (fs2 ++ fs') → StN w gs W' (⟨g, t, ss, false⟩ :: l) L R (fs2 ++ fs)) := h.tail
theorem StN.headF (h : StN w gs W (⟨g, t, ss, false⟩ :: l) L R fs) : ∃ L' R' fs', StF w gs W g t ss L' R' fs' ∧ (∀ f ∈ fs, f ∈ fs') ∧
    (∀ W' g t ss fs2, StG w gs W' g t ss L' R' (fs2 ++ fs') → StN w gs W' (⟨g, t, ss, true⟩ :: l) L R (fs2 ++ fs)) ∧ (∀ W' g t ss fs2, StF w gs W' g t ss L' R' (fs2 ++ fs') → StN w gs W' (⟨g, t, ss, false⟩ :: l) L R (fs2 ++ fs)) := h.tail
/-- The first one goes to the end. -/
theorem StN.rot {x : SEn} (h : StN w gs W (x :: l) L R fs) : StN w gs W (l ++ [x]) L R fs := by
  obtain ⟨bs, e, M⟩ := h
  cases bs with
  | nil => cases e
  | cons y bs =>
  rw [List.map_cons] at e
  injection e with e1 e
  refine ⟨bs ++ [y], by rw [List.map_append, e, ← e1]; rfl, ?_⟩
  have M2 := M.perm (L' := (bs ++ [y]).map sBlk ++ L) (R' := (bs ++ [y]).flatMap sRows ++ R) ?_ ?_
  · refine M2.fsub _ fun f h => ?_
    rw [List.flatMap_append, List.flatMap_cons, List.flatMap_nil, List.append_nil] at h
    rw [List.flatMap_cons]
    simp only [List.mem_append] at h ⊢
    rcases h with (h | h) | h <;> simp [h]
  · refine List.Perm.append_right _ ?_
    rw [List.map_cons, List.map_append]
    exact (List.perm_append_singleton _ _).symm
  · refine List.Perm.append_right _ ?_
    rw [List.flatMap_cons, List.flatMap_append, List.flatMap_cons, List.flatMap_nil, List.append_nil]
    exact List.perm_append_comm
theorem StN.below (h : StN w gs W l L R fs) : Below w.heap.size w W := by obtain ⟨_, _, M⟩ := h; exact M.below
theorem StN.call {W' : World} (h : StN w gs W l L R fs) (hb : Below W.heap.size W W') : StN w gs W' l L R fs := by obtain ⟨bs, e, M⟩ := h; exact ⟨bs, e, M.call hb⟩
theorem StN.drew (h : StN w gs W l L R fs) : StN w gs W.drew l L R fs := by obtain ⟨bs, e, M⟩ := h; exact ⟨bs, e, M.drew⟩
/-- Bytes that stay, read. -/
theorem StN.rdm (h : StN w gs W l L R fs) {fr : Bool} {b : List UInt8} {A : Option Addr} {n c : Nat} (hm : Fact.dat fr [dB b] [.slice A n c] ∈ fs) : Rd W W.heap.size A n b := by
  obtain ⟨bs, e, M⟩ := h
  have h : RdL W (Ft w W _ fr) [dB b] [.slice A n c] := M.fct _ (List.mem_append_right _ hm)
  exact (h.hd.rd (fun b h => h.1)).2.2
/-- Data that stay, for whoever is called. -/
theorem StN.dam (h : StN w gs W l L R fs) {fr : Bool} {ds : List D} {cs : List Value} (hm : Fact.dat fr ds cs ∈ fs) : ∃ os, (∀ b, some b ∈ os → b < W.heap.size) ∧ RdL W (Fd W os) ds cs ∧ (GL w gs → GL W os) := by
  obtain ⟨bs, e, M⟩ := h
  have h : RdL W (Ft w W _ fr) ds cs := M.fct _ (List.mem_append_right _ hm)
  exact ⟨_, M.olt, h.to fun b q => ⟨rfl, q.1, q.2.1⟩, fun hG => M.gl hG⟩
/-- One of those that are to be done. -/
theorem StN.doL (h : StN w gs W l L R fs) {fr : Bool} {ds : List Do} {A : Option Addr} {n c i : Nat} {d : Do} (hm : Fact.dat fr [dDl ds] [.slice A n c] ∈ fs) (hi : ds[i]? = some d) :
    ∃ b off Ak ck Av cv, A = some ⟨b, off, none⟩ ∧ ∀ j x, (dcs d Ak ck Av cv)[j]? = some x → W.cell? (((⟨b, off, none⟩ : Addr).add (i * 4)).add j) = some x := by
  obtain ⟨os, h1, h2, -⟩ := h.dam hm
  obtain ⟨b, off, es, e, hF, hes, hel, hc⟩ := RdD.elt dDo 4 dDo_len h2.hd hi
  obtain ⟨Ak, ck, Av, cv, rfl, -, -⟩ := hes.do_
  exact ⟨b, off, Ak, ck, Av, cv, e, hc⟩
/-- Something is done to the first one. -/
theorem doneN (h : StN w gs W (⟨g, t, ss, true⟩ :: l) L R fs) (hz : sz t < 500000) {fr : Bool} {ds : List Do} {b off n c i : Nat} {d : Do} (hm : Fact.dat fr [dDl ds] [.slice (some ⟨b, off, none⟩) n c] ∈ fs) (hi : ds[i]? = some d) (hk : d.kind ≤ 4) (hdl : d.key.length + d.val.length ≤ 500000)
    {Ak Av : Option Addr} {ck cv : Nat} (hc : ∀ j x, (dcs d Ak ck Av cv)[j]? = some x → W.cell? (((⟨b, off, none⟩ : Addr).add (i * 4)).add j) = some x) :
    Calls Tryd.prog 9 #[.pointer (some ⟨g, 0, none⟩), .agg (dcs d Ak ck Av cv).toArray] W fun e W' => (∃ v, e = .returned v) ∧ StN w gs W' (⟨g, if d.kind ≤ 4 then stepT t d.kind d.key d.val else t, ss, true⟩ :: l) L R fs := by
  obtain ⟨L', R', fs', ⟨A, c0, xs, hS⟩, hsub, hG, -⟩ := h.headG
  obtain ⟨p, Am, nm, cm, M⟩ := id hS
  have hd : RdL W (Ft w W (own ((g, 74, pcN t p ++ [.slice A ss.length c0, .slice Am nm cm]) :: L') (⟨71, 6, A, ss.length, c0, xs⟩ :: R') gs) fr) [dDl ds] [.slice (some ⟨b, off, none⟩) n c] := M.fct (.dat fr [dDl ds] [.slice (some ⟨b, off, none⟩) n c]) (List.mem_cons_of_mem _ (List.mem_cons_of_mem _ (hsub _ hm)))
  have hd2 : RdL W (Fd W (some g :: own L' (⟨71, 6, A, ss.length, c0, xs⟩ :: R') gs)) [dDl ds] [.slice (some ⟨b, off, none⟩) n c] := hd.to fun b q => ⟨rfl, q.1, q.2.1⟩
  obtain ⟨b2, off2, es, e2, hF, hes, hel, hc2⟩ := RdD.elt dDo 4 dDo_len hd2.hd hi
  injection e2 with e2
  injection e2 with e2 e3 _
  subst e2; subst e3
  have ee : es = dcs d Ak ck Av cv := by
    refine List.ext_getElem? fun j => ?_
    rcases Nat.lt_or_ge j 4 with hj | hj
    · obtain ⟨x, hx⟩ : ∃ x, es[j]? = some x := ⟨_, List.getElem?_eq_getElem (by omega)⟩
      obtain ⟨y, hy⟩ : ∃ y, (dcs d Ak ck Av cv)[j]? = some y := ⟨_, List.getElem?_eq_getElem (by show j < 4; omega)⟩
      rw [hx, hy]
      have h1 := hc2 j x hx
      have h2 := hc j y hy
      rw [h1] at h2
      exact h2
    · rw [List.getElem?_eq_none (by omega), List.getElem?_eq_none (by show 4 ≤ j; omega)]
  subst ee
  refine (done_any hS hz hes hdl hk).mono ?_
  rintro e W' ⟨he, hS'⟩
  exact ⟨he, hG W' g _ ss [] ⟨A, c0, xs, hS'⟩⟩
theorem hashN (hGL : GL w gs) {m : Bool} (h : StN w gs W (⟨g, t, ss, m⟩ :: l) L R fs) (hz : sz t ≤ 90000000) :
    Calls Tryd.prog 12 #[.pointer (some ⟨g, 0, none⟩)] W fun e W' => ∃ A n c, e = .returned (.slice A n c) ∧ StN w gs W' (⟨g, t, ss, m⟩ :: l) L R (.dat true [dB (hashR t)] [.slice A n c] :: fs) := by
  obtain ⟨L', R', fs', hS, hsub, hG, hF⟩ := h.tail
  cases m with
  | true =>
    obtain ⟨A0, c0, xs, hS⟩ := hS
    refine (sHash_any hGL hS hz).mono ?_
    rintro e W' ⟨A, n, c, rfl, hS'⟩
    refine ⟨A, n, c, rfl, hG W' g t ss [.dat true [dB (hashR t)] [.slice A n c]] ⟨A0, c0, xs, hS'.fsub ?_⟩⟩
    intro f hf
    simp only [List.mem_cons, List.cons_append, List.nil_append] at hf ⊢
    rcases hf with h | h | h <;> simp [h]
  | false =>
    obtain ⟨A0, c0, hS⟩ := hS
    refine (sHash_any hGL hS hz).mono ?_
    rintro e W' ⟨A, n, c, rfl, hS'⟩
    refine ⟨A, n, c, rfl, hF W' g t ss [.dat true [dB (hashR t)] [.slice A n c]] ⟨A0, c0, hS'.fsub ?_⟩⟩
    intro f hf
    simp only [List.mem_cons, List.cons_append, List.nil_append] at hf ⊢
    rcases hf with h | h | h <;> simp [h]
theorem rootN {m : Bool} (h : StN w gs W (⟨g, t, ss, m⟩ :: l) L R fs) (hz : sz t < 90000000) :
    Calls Tryd.prog 13 #[.pointer (some ⟨g, 0, none⟩)] W fun e W' => ∃ cs, e = .returned (.agg cs.toArray) ∧ StN w gs W' (⟨g, t, ss, m⟩ :: l) L R (.dat true (dN t) cs :: fs) := by
  obtain ⟨L', R', fs', hS, hsub, hG, hF⟩ := h.tail
  cases m with
  | true =>
    obtain ⟨A0, c0, xs, hS⟩ := hS
    refine (sRoot_any hS (Nat.lt_trans hz (by decide))).mono ?_
    rintro e W' ⟨cs, rfl, hS'⟩
    refine ⟨cs, rfl, hG W' g t ss [.dat true (dN t) cs] ⟨A0, c0, xs, hS'.fsub ?_⟩⟩
    intro f hf
    simp only [List.mem_cons, List.cons_append, List.nil_append] at hf ⊢
    rcases hf with h | h | h <;> simp [h]
  | false =>
    obtain ⟨A0, c0, hS⟩ := hS
    refine (sRoot_any hS (Nat.lt_trans hz (by decide))).mono ?_
    rintro e W' ⟨cs, rfl, hS'⟩
    refine ⟨cs, rfl, hF W' g t ss [.dat true (dN t) cs] ⟨A0, c0, hS'.fsub ?_⟩⟩
    intro f hf
    simp only [List.mem_cons, List.cons_append, List.nil_append] at hf ⊢
    rcases hf with h | h | h <;> simp [h]
theorem savesN {m : Bool} (h : StN w gs W (⟨g, t, ss, m⟩ :: l) L R fs) :
    Calls Tryd.prog 11 #[.pointer (some ⟨g, 0, none⟩)] W fun e W' => e = .returned (.int .i64 ((ss.length : Nat) : Int)) ∧ W' = W := by
  obtain ⟨L', R', fs', hS, -⟩ := h.tail
  cases m with
  | true =>
    obtain ⟨A0, c0, xs, hS⟩ := hS
    exact sSaves_any hS
  | false =>
    obtain ⟨A0, c0, hS⟩ := hS
    exact sSaves_any hS
theorem saveN (h : StN w gs W (⟨g, t, ss, true⟩ :: l) L R fs) (hn : ss.length < 20) :
    Calls Tryd.prog 15 #[.pointer (some ⟨g, 0, none⟩)] W fun e W' => e = .returned (.int .i64 0) ∧ StN w gs W' (⟨g, t, ss ++ [t], true⟩ :: l) L R fs := by
  obtain ⟨L', R', fs', hS, hsub, hG, hF⟩ := h.headG
  refine (sSave_any hS hn).mono ?_
  rintro e W' ⟨rfl, hS'⟩
  exact ⟨rfl, hG W' g t _ [] hS'⟩
theorem StN.frz (h : StN w gs W (⟨g, t, ss, true⟩ :: l) L R fs) : StN w gs W (⟨g, t, ss, false⟩ :: l) L R fs := by
  obtain ⟨L', R', fs', hS, hsub, hG, hF⟩ := h.headG
  exact hF W g t ss [] hS.frz
theorem keepN {t0 : Nd} (h : StN w gs W (⟨g, t, ss ++ [t0], false⟩ :: l) L R fs) (hn : ss.length < 100) :
    Calls Tryd.prog 20 #[.pointer (some ⟨g, 0, none⟩)] W fun e W' => e = .returned (.int .i64 0) ∧ StN w gs W' (⟨g, t, ss, false⟩ :: l) L R fs := by
  obtain ⟨L', R', fs', hS, hsub, hG, hF⟩ := h.headF
  refine (sKeep_any hS hn).mono ?_
  rintro e W' ⟨rfl, hS'⟩
  exact ⟨rfl, hF W' g t _ [] hS'⟩
theorem undoN {t0 : Nd} (h : StN w gs W (⟨g, t, ss ++ [t0], false⟩ :: l) L R fs) (hn : ss.length < 100) :
    Calls Tryd.prog 18 #[.pointer (some ⟨g, 0, none⟩)] W fun e W' => e = .returned (.int .i64 0) ∧ StN w gs W' (⟨g, t0, ss, false⟩ :: l) L R fs := by
  obtain ⟨L', R', fs', hS, hsub, hG, hF⟩ := h.headF
  refine (sUndo_any hS hn).mono ?_
  rintro e W' ⟨rfl, hS'⟩
  exact ⟨rfl, hF W' g t0 _ [] hS'⟩
theorem undoN0 (h : StN w gs W (⟨g, t, [], false⟩ :: l) L R fs) :
    Calls Tryd.prog 18 #[.pointer (some ⟨g, 0, none⟩)] W fun e W' => e = .returned (.int .i64 4) ∧ StN w gs W' (⟨g, t, [], false⟩ :: l) L R fs := by
  obtain ⟨L', R', fs', hS, hsub, hG, hF⟩ := h.headF
  refine (sUndo_none hS).mono ?_
  rintro e W' ⟨rfl, hS'⟩
  exact ⟨rfl, hF W' g t _ [] hS'⟩
theorem newN (h : StN w gs W l L R fs) {fr : Bool} {cs : List Value} (hm : Fact.dat fr (dN t) cs ∈ fs) (hz : sz t < 100000000) :
    Calls Tryd.prog 14 #[.agg cs.toArray] W fun e W' => (checkE t ≠ 0 ∧ e = .returned (.tuple #[.pointer none, .int .i64 (checkE t)]) ∧ StN w gs W' l L R fs) ∨ (checkE t = 0 ∧ ∃ g, e = .returned (.tuple #[.pointer (some ⟨g, 0, none⟩), .int .i64 0]) ∧ StN w gs W' (⟨g, t, [], true⟩ :: l) L R fs) := by
  obtain ⟨L', R', fs', M, hsub, hN, hG, hF⟩ := h.open_
  have hd : RdL W (Ft w W (own L' R' gs) fr) (dN t) cs := M.fct _ (hsub _ hm)
  refine (sNew_any M (hd.to fun b q => ⟨rfl, q.1, q.2.1⟩) hz).mono ?_
  rintro e W' (⟨h0, rfl, M'⟩ | ⟨h0, g, rfl, hS'⟩)
  · exact .inl ⟨h0, rfl, hN W' [] M'⟩
  · exact .inr ⟨h0, g, rfl, hG W' g t [] [] hS'⟩
end
end Go.Proofs.YtdlljmmgkoeilaaDoor
