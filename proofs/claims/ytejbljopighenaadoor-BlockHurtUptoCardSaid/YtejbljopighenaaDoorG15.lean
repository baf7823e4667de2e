/- Blocks: Links of the package and of reference 21. How great a block is, plainly. No walk here. A block's bytes are that block; cut short, or with more behind, they are none. Plainly; no walk here. law21: big. make([]byte, k). -/
import Derived.Test.YtejbljopighenaaDoorG14
import Derived.Test.YtejbljopighenaaDoorG11
import Derived.Test.YtejbljopighenaaDoorG01
namespace Go.Proofs.YtejbljopighenaaDoor
open Go.RowKit
theorem is_bHashL : isFn Tryd.prog 16 = true := by kernel_rfl
theorem slbks : slOf Tryd.prog 44 = some (26, 7) := by kernel_rfl
theorem isslb : isSl Tryd.prog 22 = true := by kernel_rfl
/-- The block stands behind those ahead of it. -/
def goodB (l : List Bk) (i : Nat) : Prop := ∃ b, l[i]? = some b ∧ (encBk b).2 = 0 ∧ ∀ a, 0 < i → l[i - 1]? = some a → b.num = a.num + 1 ∧ b.last = hashBk a ∧ b.prev = a.next
def LinkN (l : List Bk) (n : Nat) : Prop := n ≤ l.length ∧ (∀ i, i < n → goodB l i) ∧ (n < l.length → ¬ goodB l n)
theorem link_inj {l : List Bk} {n m : Nat} (h : LinkN l n) (k : LinkN l m) : n = m := by
  rcases Nat.lt_trichotomy n m with q | q | q
  · exact absurd (k.2.1 n q) (h.2.2 (by have := k.1; omega))
  · exact q
  · exact absurd (h.2.1 m q) (k.2.2 (by have := h.1; omega))
theorem ok_num {b : Bk} (h : (encBk b).2 = 0) : 0 ≤ b.num := by
  have h2 := (encBk_ok (encBk_full h)).1
  exact (right_iff.1 h2).1.1
theorem wrap_succ {a : Int} (h0 : 0 ≤ a) (h1 : a ≤ 9223372036854775807) : (IntKind.i64.wrap (a + 1) = a + 1 ∧ a < 9223372036854775807) ∨ IntKind.i64.wrap (a + 1) < 0 := by
  rw [IntKind.wrap_i64]; omega
section
variable {w W : World} {gs : List (Option Nat)} {L : Lc} {R : List Row} {fs : List Fact}
theorem St.bke (M : St w gs W L R fs) {l : List Bk} {A : Option Addr} {n c i : Nat} {x : Bk} (h : RdD W (Fd W (own L R gs)) (dBks l) (.slice A n c)) (hi : l[i]? = some x) :
    ∃ b off p, A = some ⟨b, off, none⟩ ∧ St w gs W L R (.loc ((⟨b, off, none⟩ : Addr).add (i * 7)) (bkcs x p) :: .dat false [dB x.last] [.slice p.A1 x.last.length p.c1] :: .dat false [dB x.prev] [.slice p.A2 x.prev.length p.c2] :: .dat false [dB x.next] [.slice p.A3 x.next.length p.c3] :: .dat false (dBk x) (bkcs x p) :: fs) := by
  obtain ⟨b, off, es, e, hF, hes, hel, hc⟩ := RdD.eltO dBk 7 dBk_len h hi
  obtain ⟨p, rfl, h1, h2, h3, -⟩ := hes.bk
  exact ⟨b, off, p, e, ((((M.addL hes).addD h3).addD h2).addD h1).addC (by rw [block_of_add]; exact hF) hc⟩
theorem Kp.rb (K : Kp w gs L fs W) (i : Nat) {fr : Bool} {l : List UInt8} {A : Option Addr} {n c : Nat} (h : nth fs i = some (.dat fr [dB l] [.slice A n c])) : ∃ B, Rd W B A n l := by
  obtain ⟨L2, R2, fs2, M, _, h2⟩ := K
  have h3 : RdL W (Ft w W (own L2 R2 gs) fr) [dB l] [.slice A n c] := M.fct _ (h2 _ (nth_mem h))
  exact ⟨_, (h3.hd.rd (fun b hb => hb.1)).2.2⟩
end
section
variable {S : World → Prop} {E : Env} {d : Option Nat} {ty : TypeId} {p : String} {af : Array Edge} {g : Option (Nat × Bool)} {x : Operand} {k : Value → Prop}
theorem t_strE {A : Option Addr} {n c : Nat} {l : List UInt8} (hx : val E x = .slice A n c) (hr : ∀ w, S w → ∃ B, Rd w B A n l) (h : k (.string (sb l))) :
    VHeld Tryd.prog S E { dst := d, op := .convert 22 9 x, type := ty, pos := p, after := af, guard := g } k :=
  th (fun w hw => by
    obtain ⟨B, hB⟩ := hr w hw
    simp only [execOp, hx, Sem.run_bind, run_str hB c, Result.andThen_ok, Sem.run_pure]; rfl) h
end
set_option maxRecDepth 100000 in
set_option maxHeartbeats 8000000 in
theorem bLinks_any (l : List Bk) (gs : List (Option Nat)) (w : World) (A : Option Addr) (n c : Nat) (hG : GL w gs) (hr : RdD w (Fd w gs) (dBks l) (.slice A n c)) (hgs : ∀ b, some b ∈ gs → b < w.heap.size) (hf : ∀ b ∈ l, FitsB b) (hl : l.length ≤ 1000000) :
    Calls Tryd.prog 19 #[.slice A n c] w fun e w' => ∃ k : Nat, e = .returned (.int .i64 k) ∧ LinkN l k ∧ Below w.heap.size w w' := by
  refine calls_ev (args := [.slice A n c]) mixed Tryd.func19 rfl (by kernel_rfl) ?_
  have en : n = l.length := hr.slen
  subst en
  have M := (St.start hgs).addD hr
  clear hr
  refine p_len slbks rfl ?_
  refine lp (Nat × List UInt8 × Option Addr × Nat) (fun z W => z.1 ≤ l.length ∧ (∀ j, j < z.1 → goodB l j) ∧ (∀ a, 0 < z.1 → l[z.1 - 1]? = some a → z.2.1 = hashBk a) ∧ St w gs W [] [] [.dat false [dBks l] [.slice A l.length c], .dat false [dB z.2.1] [.slice z.2.2.1 z.2.1.length z.2.2.2]])
    (fun z => [(0, .slice A l.length c), (3, .int .i64 z.1), (4, .slice z.2.2.1 z.2.1.length z.2.2.2), (8, .slice A l.length c), (9, .int .i64 (l.length : Nat)), (10, .int .i64 z.1)]) (fun z => l.length - z.1) (0, [], none, 0) ⟨Nat.zero_le _, (fun j h => absurd h (Nat.not_lt_zero _)), (fun a h => absurd h (Nat.lt_irrefl _)), ?_⟩ (by repeat (first | exact trivial | refine ⟨rfl, ?_⟩)) ?_
  · exact (M.addD (d := dB []) (u := .slice none 0 0) (RdD.nil_ (s := 1) none 0)).fsub _ (by simp)
  clear M
  rintro ⟨i, la, A4, c4⟩ E W ⟨hi, hall, hla, M⟩
  dsimp only at hi hall hla M
  refine p_lt rfl rfl (fun hlt => ?_) (fun hge => ?_)
  rotate_left
  · have hi : i = l.length := by have h : ¬ (i : Int) < (l.length : Int) := hge; omega
    exact ⟨i, rfl, ⟨by omega, hall, fun h => absurd h (by omega)⟩, M.below⟩
  have hil : i < l.length := by have h : (i : Int) < (l.length : Int) := hlt; omega
  obtain ⟨b, hb⟩ : ∃ b, l[i]? = some b := ⟨_, List.getElem?_eq_getElem hil⟩
  have hfb := hf b (List.mem_of_getElem? hb)
  obtain ⟨b1, o1, p, eA, M'⟩ := M.bke (M.d1 0 rfl) hb
  replace M := M'; clear M'
  refine p_at (i := i) slbks (by show Value.slice A l.length c = _; rw [eA]) rfl rfl hil ?_
  refine v_loadN (bkcs b p) agg_bk rfl rfl (M.lc 0 rfl) ?_
  refine s_alloc (zBk) M al_bk ?_
  clear M
  rintro g6 W M
  refine s_storeA 0 (bkcs b p) M rfl sz_bk rfl rfl rfl (all1 rfl) rfl ?_
  clear M; rintro W M
  dsimp only [setL] at M
  refine v_loadN (bkcs b p) agg_bk rfl rfl (M.run 0 rfl) ?_
  refine cc is_bHashL (bHash_any b _ _ _ (M.glB hG) (M.da 4 rfl) M.olt hfb) ?_
  rintro e W ⟨A7, n7, c7, rfl, o7, hA, hA2, hn7, hbw⟩
  have en7 : (hashBk b).length = n7 := o7.len
  subst en7
  replace M := M.callO hbw o7
  replace M := (M.addD (M.d1 0 rfl)).drew
  clear hbw o7
  refine ⟨_, rfl, ?_⟩
  by_cases q : (encBk b).2 = 0
  rotate_left
  · have hA0 : A7 = none := hA.2 q
    subst hA0
    refine drT (Kp w gs [] []) (.take 0 (.take 1 (.take 2 (.take 3 (.take 4 (.take 5 (.take 6 (.take 7 (.take 8 (.take 9 (.take 10 (.take 11 (.take 12 (.take 13 (.take 14 (.take 15 (.take 16 (.take 17 (.take 18 (.take 19 (.take 20 (.take 21 (.take 22 (.take 23 (.take 24 (.take 25 (.take 26 (.take 27 (.take 28 (.take 29 (.take 30 (.take 31 (.take 32 (.take 33 (.take 34 (.take 35 (.take 36 (.take 37 (.take 38 (.nil)))))))))))))))))))))))))))))))))))))))) (by kernel_rfl) (M.kp (by simp) (by simp)) ?_
    refine p_sln isslb rfl rfl (fun _ => ?_) (fun h => absurd rfl h)
    refine ⟨i, rfl, ⟨by omega, hall, fun _ => ?_⟩, M.below⟩
    rintro ⟨b', hb', hq', -⟩
    rw [hb] at hb'; injection hb' with hb'; subst hb'
    exact q hq'
  have hA0 : A7 ≠ none := fun h => hA.1 h q
  have hnum := ok_num q
  have hmx := hfb.1
  by_cases h0 : i = 0
  · subst h0
    refine drT (Kp w gs [] []) (.take 0 (.take 1 (.take 2 (.take 3 (.take 4 (.take 5 (.take 6 (.take 7 (.take 8 (.take 9 (.take 10 (.take 11 (.take 12 (.take 13 (.take 14 (.take 15 (.take 16 (.take 17 (.take 18 (.take 19 (.take 20 (.take 21 (.take 22 (.take 23 (.take 24 (.take 25 (.take 26 (.take 27 (.take 28 (.take 29 (.take 30 (.take 31 (.take 32 (.take 33 (.take 34 (.take 35 (.take 36 (.take 37 (.take 38 (.nil)))))))))))))))))))))))))))))))))))))))) (by kernel_rfl) (M.kp (by simp) (by simp)) ?_
    refine p_sln isslb rfl rfl (fun h => absurd h hA0) (fun _ => ?_)
    refine p_gt rfl rfl (fun h => absurd (show (0 : Int) < ((0 : Nat) : Int) from h) (by decide)) (fun _ => ?_)
    refine p_addN (b := 1) rfl rfl (by omega) ?_
    refine p_addN (b := 1) rfl rfl (by omega) ?_
    have hgood : goodB l 0 := ⟨b, hb, q, fun a h => absurd h (Nat.lt_irrefl _)⟩
    refine ⟨(1, hashBk b, A7, c7), ⟨by dsimp only; omega, fun j hj => ?_, fun a _ ha => ?_, M.dropL.fsub _ (by simp)⟩, (by repeat (first | exact trivial | refine ⟨rfl, ?_⟩)), by dsimp only; omega⟩
    · have hj : j < 1 := hj
      have : j = 0 := by omega
      rw [this]; exact hgood
    · have ha : l[0]? = some a := ha
      rw [hb] at ha; injection ha with ha; rw [ha]
  obtain ⟨a, ha⟩ : ∃ a, l[i - 1]? = some a := ⟨_, List.getElem?_eq_getElem (by omega)⟩
  have hga := hall (i - 1) (by omega)
  obtain ⟨a', ha', qa, -⟩ := hga
  rw [ha] at ha'; injection ha' with ha'; subst ha'
  have hna := ok_num qa
  have hmxa := (hf a (List.mem_of_getElem? ha)).1
  have hlaa := hla a (by omega) ha
  obtain ⟨b2, o2, r, eA2, M'⟩ := M.bke (M.d1 7 rfl) ha
  replace M := M'; clear M'
  refine drT (Kp w gs [(g6, 26, bkcs b p)] [.loc ((⟨b2, o2, none⟩ : Addr).add ((i - 1) * 7)) (bkcs a r), .dat false [dB a.next] [.slice r.A3 a.next.length r.c3], .dat false [dB b.last] [.slice p.A1 b.last.length p.c1], .dat false [dB b.prev] [.slice p.A2 b.prev.length p.c2], .dat false [dB la] [.slice A4 la.length c4]]) (.take 0 (.take 1 (.take 2 (.take 3 (.take 4 (.take 5 (.take 6 (.take 7 (.take 8 (.take 9 (.take 10 (.take 11 (.take 12 (.take 13 (.take 14 (.take 15 (.take 16 (.take 17 (.take 18 (.take 19 (.take 20 (.take 21 (.take 22 (.take 23 (.take 24 (.take 25 (.take 26 (.take 27 (.take 28 (.take 29 (.take 30 (.take 31 (.take 32 (.take 33 (.take 34 (.take 35 (.take 36 (.take 37 (.take 38 (.nil)))))))))))))))))))))))))))))))))))))))) (by kernel_rfl) (M.kp (by simp) (by simp)) ?_
  refine p_sln isslb rfl rfl (fun h => absurd h hA0) (fun _ => ?_)
  refine p_gt rfl rfl (fun _ => ?_) (fun h => absurd (show (0 : Int) < (i : Int) by omega) h)
  refine p_fld fB0 rfl ?_
  refine t_load agg_i rfl (fun W K => (K.B 0 rfl).at_ rfl) ?_
  refine p_subN (b := 1) rfl rfl (by omega) (by omega) ?_
  refine p_at (i := i - 1) slbks (by show Value.slice A l.length c = _; rw [eA2]) rfl rfl (by omega) ?_
  refine p_fld fB0 rfl ?_
  refine t_load agg_i rfl (fun W K => K.lc 0 rfl 0 _ rfl) ?_
  refine p_add rfl rfl rfl ?_
  refine p_ne rfl rfl (fun q1 => ?_) (fun q1 => ?_)
  rotate_left
  · have q1 : ¬ b.num = IntKind.i64.wrap (a.num + 1) := q1
    refine ⟨i, rfl, ⟨by omega, hall, fun _ => ?_⟩, M.below⟩
    rintro ⟨b', hb', -, hq'⟩
    rw [hb] at hb'; injection hb' with hb'; subst hb'
    obtain ⟨g1, g2, g3⟩ := hq' a (by omega) ha
    rcases wrap_succ hna hmxa with ⟨e, -⟩ | h
    · rw [e] at q1; exact q1 g1
    · have h2 : a.num = 9223372036854775807 := by rw [IntKind.wrap_i64] at h; omega
      omega
  have q1 : b.num = IntKind.i64.wrap (a.num + 1) := q1
  have q1' : b.num = a.num + 1 := by
    rcases wrap_succ hna hmxa with ⟨e, -⟩ | h
    · rw [e] at q1; exact q1
    · omega
  refine p_fld fB1 rfl ?_
  refine t_load agg_b rfl (fun W K => (K.B 0 rfl).at_ rfl) ?_
  refine t_strE rfl (fun W K => K.rb 2 rfl) ?_
  refine t_strE rfl (fun W K => K.rb 4 rfl) ?_
  refine p_sne rfl rfl (fun q2 => ?_) (fun q2 => ?_)
  rotate_left
  ·
    refine ⟨i, rfl, ⟨by omega, hall, fun _ => ?_⟩, M.below⟩
    rintro ⟨b', hb', -, hq'⟩
    rw [hb] at hb'; injection hb' with hb'; subst hb'
    obtain ⟨g1, g2, g3⟩ := hq' a (by omega) ha
    exact q2 (by rw [g2, hlaa])
  have q2 : b.last = la := sb_inj.1 q2
  refine p_fld fB2 rfl ?_
  refine t_load agg_b rfl (fun W K => (K.B 0 rfl).at_ rfl) ?_
  refine t_strE rfl (fun W K => K.rb 3 rfl) ?_
  refine p_subN (b := 1) rfl rfl (by omega) (by omega) ?_
  refine p_at (i := i - 1) slbks (by show Value.slice A l.length c = _; rw [eA2]) rfl rfl (by omega) ?_
  refine p_fld fB3 rfl ?_
  refine t_load agg_b rfl (fun W K => K.lc 0 rfl 3 _ rfl) ?_
  refine t_strE rfl (fun W K => K.rb 1 rfl) ?_
  refine p_sne rfl rfl (fun q3 => ?_) (fun q3 => ?_)
  rotate_left
  ·
    refine ⟨i, rfl, ⟨by omega, hall, fun _ => ?_⟩, M.below⟩
    rintro ⟨b', hb', -, hq'⟩
    rw [hb] at hb'; injection hb' with hb'; subst hb'
    obtain ⟨g1, g2, g3⟩ := hq' a (by omega) ha
    exact q3 (by rw [g3])
  have q3 : b.prev = a.next := sb_inj.1 q3
  have hgood : goodB l i := ⟨b, hb, q, fun a' _ ha' => by rw [ha] at ha'; injection ha' with ha'; subst ha'; exact ⟨q1', by rw [q2, hlaa], q3⟩⟩
  refine p_addN (b := 1) rfl rfl (by omega) ?_
  refine p_addN (b := 1) rfl rfl (by omega) ?_
  refine ⟨(i + 1, hashBk b, A7, c7), ⟨by dsimp only; omega, fun j hj => ?_, fun a' _ ha' => ?_, M.dropL.fsub _ (by simp)⟩, (by repeat (first | exact trivial | refine ⟨rfl, ?_⟩)), by dsimp only; omega⟩
  · have hj : j < i + 1 := hj
    by_cases hji : j = i
    · rw [hji]; exact hgood
    · exact hall j (by omega)
  · have ha' : l[i + 1 - 1]? = some a' := ha'
    rw [Nat.add_sub_cancel, hb] at ha'; injection ha' with ha'; rw [ha']
end Go.Proofs.YtejbljopighenaaDoor
namespace Go.Proofs.YtejbljopighenaaDoor
def txN (t : List (List UInt8)) : Nat := (t.map fun s => 1 + s.length / 20).sum
def valN (v : Val) : Nat := v.s.length / 20
def rowN (l : List Val) : Nat := 1 + l.length + (l.map valN).sum
def resN (r : Res) : Nat := 1 + (r.rows.map rowN).sum
def outN (o : Out) : Nat := (o.l.map resN).sum
def baseN (b : Bk) : Nat := b.proof.length / 20 + b.txs.length + b.outs.length
def bigN (b : Bk) : Nat := baseN b + (b.txs.map txN).sum + (b.outs.map outN).sum
section
variable {α : Type}
theorem sum_le_sum {f g : α → Nat} : ∀ {l : List α}, (∀ x ∈ l, f x ≤ g x) → (l.map f).sum ≤ (l.map g).sum
  | [], _ => Nat.le_refl _
  | x :: l, h => by
    have h1 := h x (List.mem_cons_self ..)
    have h2 := sum_le_sum (l := l) (fun y hy => h y (List.mem_cons_of_mem _ hy))
    rw [List.map_cons, List.map_cons, List.sum_cons, List.sum_cons]; omega
theorem sum_mem {f : α → Nat} : ∀ {l : List α} {x : α}, x ∈ l → f x ≤ (l.map f).sum
  | y :: l, x, h => by
    rw [List.map_cons, List.sum_cons]
    rcases List.mem_cons.1 h with rfl | h
    · omega
    · have := sum_mem (f := f) h; omega
theorem sum_len {f : α → Nat} : ∀ {l : List α}, (∀ x ∈ l, 1 ≤ f x) → l.length ≤ (l.map f).sum
  | [], _ => Nat.le_refl _
  | x :: l, h => by
    have h1 := h x (List.mem_cons_self ..)
    have h2 := sum_len (l := l) (fun y hy => h y (List.mem_cons_of_mem _ hy))
    rw [List.map_cons, List.sum_cons, List.length_cons]; omega
theorem sum_lin {f g : α → Nat} (a b : Nat) : ∀ {l : List α}, (∀ x ∈ l, f x ≤ a + b * g x) → (l.map f).sum ≤ a * l.length + b * (l.map g).sum
  | [], _ => Nat.zero_le _
  | x :: l, h => by
    have h1 := h x (List.mem_cons_self ..)
    have h2 := sum_lin a b (l := l) (fun y hy => h y (List.mem_cons_of_mem _ hy))
    rw [List.map_cons, List.map_cons, List.sum_cons, List.sum_cons, List.length_cons, Nat.mul_add, Nat.mul_add, Nat.mul_one]; omega
theorem sum_take_succ (f : α → Nat) {l : List α} {i : Nat} {x : α} (h : l[i]? = some x) : ((l.take (i + 1)).map f).sum = ((l.take i).map f).sum + f x := by
  rw [List.take_add_one, h, List.map_append, List.sum_append]; simp
theorem sum_take_le (f : α → Nat) (l : List α) (i : Nat) : ((l.take i).map f).sum ≤ (l.map f).sum := by
  conv => rhs; rw [← List.take_append_drop i l, List.map_append, List.sum_append]
  omega
end
theorem rowN_le (l : List Val) : rowN l ≤ rowbk l := by
  have h := sum_le_sum (l := l) (f := valN) (g := fun v => v.s.length) (fun v _ => by unfold valN; omega)
  have h2 : (l.map vbk).sum = (l.map fun v => v.s.length).sum + 4 * l.length := by
    clear h
    induction l with
    | nil => rfl
    | cons v l ih => rw [List.map_cons, List.map_cons, List.sum_cons, List.sum_cons, List.length_cons, ih]; unfold vbk; omega
  unfold rowN rowbk; omega
theorem resN_le (r : Res) : resN r ≤ resbk r := by
  have h := sum_le_sum (l := r.rows) (f := rowN) (g := rowbk) (fun l _ => rowN_le l)
  unfold resN resbk rowsbk; omega
theorem outN_le (o : Out) : outN o + 4 ≤ outbk o := by
  have h := sum_le_sum (l := o.l) (f := resN) (g := resbk) (fun r _ => resN_le r)
  unfold outN outbk; omega
theorem txN_le (t : List (List UInt8)) : txN t + 1 ≤ txbk t := by
  have h := sum_le_sum (l := t) (f := fun s => 1 + s.length / 20) (g := strbk) (fun s _ => by unfold strbk; omega)
  unfold txN txbk; omega
theorem bigN_le (b : Bk) : bigN b ≤ bkbk b := by
  have h1 := sum_lin (f := fun t => txN t + 1) (g := txbk) 0 1 (l := b.txs) (fun t _ => by have := txN_le t; omega)
  have h2 := sum_lin (f := fun o => outN o + 1) (g := outbk) 0 1 (l := b.outs) (fun o _ => by have := outN_le o; omega)
  have e1 : (b.txs.map fun t => txN t + 1).sum = (b.txs.map txN).sum + b.txs.length := by
    induction b.txs with
    | nil => rfl
    | cons v l ih => rw [List.map_cons, List.map_cons, List.sum_cons, List.sum_cons, List.length_cons, ih]; omega
  have e2 : (b.outs.map fun o => outN o + 1).sum = (b.outs.map outN).sum + b.outs.length := by
    induction b.outs with
    | nil => rfl
    | cons v l ih => rw [List.map_cons, List.map_cons, List.sum_cons, List.sum_cons, List.length_cons, ih]; omega
  unfold bigN baseN bkbk; omega
theorem tot_le (l : List Val) : tot l ≤ 60 * rowN l := by
  have h := sum_lin (l := l) (f := fun v => 40 + v.s.length) (g := valN) 59 20 (fun v _ => by unfold valN; omega)
  unfold tot rowN; omega
theorem join_le {ll : List (List UInt8)} (hn : ll.length < 18446744073709551616) (h : ∀ x ∈ ll, x.length < 18446744073709551616) : (joinL ll).length ≤ 10 + (10 * ll.length + 1 * (ll.map fun s => s.length).sum) := by
  rw [join_sum]
  have h1 := putN_len10 hn
  have h2 := sum_lin (l := ll) (f := fun s => (putB s).length) (g := fun s => s.length) 10 1 (fun s hs => by have := putB_le (h s hs); omega)
  omega
theorem joinTx_le {t : List (List UInt8)} (h : txN t < 1000000) : (joinL t).length ≤ 10 + 29 * txN t := by
  have hm : ∀ x ∈ t, x.length < 18446744073709551616 := fun x hx => by
    have := sum_mem (f := fun s : List UInt8 => 1 + s.length / 20) hx
    unfold txN at h; omega
  have hn : t.length ≤ txN t := sum_len (f := fun s : List UInt8 => 1 + s.length / 20) (fun x _ => by omega)
  have h1 := join_le (by omega) hm
  have h2 := sum_lin (l := t) (f := fun s => s.length + 10) (g := fun s => 1 + s.length / 20) 0 29 (fun s _ => by omega)
  have e : (t.map fun s => s.length + 10).sum = (t.map fun s => s.length).sum + 10 * t.length := by
    clear h1 h2 hm hn h
    induction t with
    | nil => rfl
    | cons v l ih => rw [List.map_cons, List.map_cons, List.sum_cons, List.sum_cons, List.length_cons, ih]; omega
  unfold txN at *
  omega
theorem resB_le {r : Res} (hw : WfRes r) (h : resN r < 1000) : (resB r).length ≤ 1000020 * resN r ∧ FitsL r.rows := by
  have hn : r.rows.length + 1 ≤ resN r := by
    have := sum_len (f := rowN) (l := r.rows) (fun x _ => by unfold rowN; omega)
    unfold resN; omega
  have hl : ∀ l ∈ r.rows, (∀ v ∈ l, VOk v) ∧ tot l ≤ 1000000 := fun l hl => by
    have h1 := sum_mem (f := rowN) hl
    have h2 := tot_le l
    unfold resN at h
    exact ⟨hw.2 l hl, by omega⟩
  refine ⟨?_, fits_of ⟨by omega, hl⟩⟩
  have h1 := many_len r.rows hl
  have h2 : (manyB r.rows).length ≤ 10 + r.rows.length * 1000020 := by
    unfold manyB
    split
    · unfold joinL
      rw [List.length_append]
      have := putN_len10 (n := (r.rows.map encB).length) (by rw [List.length_map]; omega)
      omega
    · exact Nat.zero_le _
  have h3 := putN_len10 (n := r.n.toNat) (by have := hw.1; omega)
  have h4 := putB_le (s := manyB r.rows) (by omega)
  unfold resB
  rw [List.length_append]
  omega
theorem outB_le {o : Out} (hw : WfOut o) (h : outN o < 850) : (outB o).length ≤ 30 + 1000020 * outN o ∧ FitsO o := by
  obtain ⟨⟨he, ha⟩, hw⟩ := hw
  have hr : ∀ r ∈ o.l, resN r < 1000 := fun r hr => by have := sum_mem (f := resN) hr; unfold outN at h; omega
  have hn : o.l.length ≤ outN o := sum_len (f := resN) (l := o.l) (fun x _ => by unfold resN; omega)
  have h1 := sum_lin (l := o.l) (f := fun r => (resB r).length) (g := resN) 0 1000020 (fun r hr' => by have := (resB_le (hw r hr') (hr r hr')).1; omega)
  have h2 : (outB o).length ≤ 30 + 1000020 * outN o := by
    unfold outB hdB
    rw [List.length_append, List.length_append, List.length_append, List.length_flatMap]
    have k1 := putN_len10 (n := o.e.toNat) (by omega)
    have k2 := putN_len10 (n := o.at_.toNat) (by omega)
    have k3 := putN_len10 (n := o.l.length) (by omega)
    unfold outN at *
    omega
  exact ⟨h2, fun r hr' => ⟨(resB_le (hw r hr') (hr r hr')).2, (hw r hr').1⟩, by omega, by omega⟩
/-- A block that is not big. -/
theorem fits_small {b : Bk} (hw : WfB b) (hk : bkbk b ≤ 1048576) (h : bigN b < 800) : FitsB b := by
  obtain ⟨-, hw1, hw2⟩ := hw
  have hb : bigN b = baseN b + (b.txs.map txN).sum + (b.outs.map outN).sum := rfl
  have hbase : baseN b = b.proof.length / 20 + b.txs.length + b.outs.length := rfl
  have ho : ∀ o ∈ b.outs, outN o < 850 := fun o ho => by have := sum_mem (f := outN) ho; omega
  have ht : ∀ t ∈ b.txs, txN t < 1000000 := fun t ht => by have := sum_mem (f := txN) ht; omega
  have h1 := sum_lin (l := b.outs) (f := fun o => (outB o).length) (g := outN) 30 1000020 (fun o ho' => by have := (outB_le (hw2 o ho') (ho o ho')).1; omega)
  have h2 := sum_lin (l := b.txs) (f := fun t => (joinL t).length) (g := txN) 10 29 (fun t ht' => by have := joinTx_le (ht t ht'); omega)
  have e1 : ((outsB b).map fun s => s.length).sum = (b.outs.map fun o => (outB o).length).sum := by unfold outsB; rw [List.map_map]; rfl
  have e2 : ((txsB b).map fun s => s.length).sum = (b.txs.map fun t => (joinL t).length).sum := by unfold txsB; rw [List.map_map]; rfl
  have l1 : (outsB b).length = b.outs.length := by unfold outsB; rw [List.length_map]
  have l2 : (txsB b).length = b.txs.length := by unfold txsB; rw [List.length_map]
  have j1 := join_le (ll := outsB b) (by omega) (fun x hx => by
    have := sum_mem (f := fun s : List UInt8 => s.length) hx
    omega)
  have j2 := join_le (ll := txsB b) (by omega) (fun x hx => by
    have := sum_mem (f := fun s : List UInt8 => s.length) hx
    omega)
  have hbk : bkbk b = (b.last.length + 1) + ((b.prev.length + 1) + ((b.next.length + 1) + (((b.txs.map txbk).sum + 1) + (((b.outs.map outbk).sum + 1) + (b.proof.length + 1))))) + 2 := rfl
  refine ⟨hw1, fun o ho' => (outB_le (hw2 o ho') (ho o ho')).2, ?_⟩
  have n0 := putN_len10 (n := b.num.toNat) (by omega)
  have n7 : (putN (partsB b).length).length ≤ 10 := putN_len10 (n := 7) (by decide)
  unfold blockB
  rw [join_sum]
  unfold partsB at n7 ⊢
  have b0 := putB_le (s := putN b.num.toNat) (by omega)
  have b1 := putB_le (s := b.last) (by omega)
  have b2 := putB_le (s := b.prev) (by omega)
  have b3 := putB_le (s := b.next) (by omega)
  have b4 := putB_le (s := joinL (txsB b)) (by omega)
  have b5 := putB_le (s := joinL (outsB b)) (by omega)
  have b6 := putB_le (s := b.proof) (by omega)
  simp only [List.map_cons, List.map_nil, List.sum_cons, List.sum_nil]
  omega
/-- A block with nothing in it. -/
theorem fits_bare {b : Bk} (hn : b.num ≤ 9223372036854775807) (h1 : b.last.length ≤ 1000000) (h2 : b.prev.length ≤ 1000000) (h3 : b.next.length ≤ 1000000) (ht : b.txs = []) (ho : b.outs = []) (hp : b.proof = []) : FitsB b := by
  refine ⟨hn, fun o h => (by rw [ho] at h; cases h), ?_⟩
  have n0 := putN_len10 (n := b.num.toNat) (by omega)
  have n7 : (putN (partsB b).length).length ≤ 10 := putN_len10 (n := 7) (by decide)
  unfold blockB
  rw [join_sum]
  unfold partsB txsB outsB at n7 ⊢
  rw [ht, ho, hp, List.map_nil, List.map_nil] at n7 ⊢
  have e : (joinL []).length = 1 := by decide
  have b0 := putB_le (s := putN b.num.toNat) (by omega)
  have b1 := putB_le (s := b.last) (by omega)
  have b2 := putB_le (s := b.prev) (by omega)
  have b3 := putB_le (s := b.next) (by omega)
  have b4 := putB_le (s := joinL []) (by omega)
  have b6 := putB_le (s := ([] : List UInt8)) (by decide)
  rw [e] at b4
  rw [show ([] : List UInt8).length = 0 from rfl] at b6
  simp only [List.map_cons, List.map_nil, List.sum_cons, List.sum_nil]
  omega
end Go.Proofs.YtejbljopighenaaDoor
namespace Go.Proofs.YtejbljopighenaaDoor
theorem short_join {ll : List (List UInt8)} (h : (joinL ll).length ≤ 1048576) : short ll := fun s hs => by have := join_mem hs; omega
theorem cnt_join {ll : List (List UInt8)} (h : (joinL ll).length ≤ 1048576) : ll.length < 18446744073709551616 := by have := join_len ll; omega
theorem split_back {ll : List (List UInt8)} (h : (joinL ll).length ≤ 1048576) : spE (joinL ll) = 0 ∧ spL (joinL ll) = ll := split_join ll (cnt_join h) (short_join h)
theorem parse_blockB {b : Bk} {s : List UInt8} (h : encBk b = (s, 0)) (hf : FitsB b) : parseBk s = some b := by
  obtain ⟨h1, rfl, h3⟩ := encBk_ok h
  obtain ⟨⟨r1, r2, r3, r4, r5, r6⟩, r7, r8⟩ := right_iff.1 h1
  obtain ⟨t1, t2, t3, t4, t5, t6, t7, t8, t9⟩ := bk_txs b
  obtain ⟨s1, s2⟩ := split_back (ll := partsB b) (by unfold blockB at h3; exact h3)
  have s1' : spE (blockB b) = 0 := s1
  have s2' : spL (blockB b) = partsB b := s2
  rw [parse_7 s2']
  have g := g_put [] b.num.toNat [] (by have := hf.1; omega)
  rw [List.nil_append, List.append_nil, List.length_nil] at g
  have hN : gN (putN b.num.toNat) 0 = b.num := by have := g.2.1; rw [Int.natCast_zero] at this; rw [this]; omega
  have hE : gE (putN b.num.toNat) 0 = 0 := g.1
  have ht : txsP (joinL (txsB b)) = some b.txs := by
    obtain ⟨k1, k2⟩ := split_back (ll := txsB b) (by omega)
    have hx : ∀ x ∈ b.txs, spE (joinL x) = 0 ∧ spL (joinL x) = x := fun x hx => split_back (by have := (bk_tx hx).1; omega)
    rw [txsP_some k1 (fun x hx' => by
      rw [k2] at hx'
      obtain ⟨y, hy, rfl⟩ := List.mem_map.1 hx'
      exact (hx y hy).1), k2]
    unfold txsB
    rw [List.map_map]
    congr 1
    conv => rhs; rw [← List.map_id b.txs]
    exact List.map_congr_left fun x hx' => (hx x hx').2
  have ho : outsP (joinL (outsB b)) = some b.outs := by
    obtain ⟨k1, k2⟩ := split_back (ll := outsB b) (by omega)
    have hx : ∀ x ∈ b.outs, decO (outB x) = (x, 0) := fun x hx => dec_encO (encO_full (r8 x hx)) (hf.2.1 x hx)
    rw [outsP_some k1 (fun x hx' => by
      rw [k2] at hx'
      obtain ⟨y, hy, rfl⟩ := List.mem_map.1 hx'
      rw [hx y hy]), k2]
    unfold outsB
    rw [List.map_map]
    congr 1
    conv => rhs; rw [← List.map_id b.outs]
    exact List.map_congr_left fun x hx' => by show (decO (outB x)).1 = x; rw [hx x hx']
  rw [part_s ⟨s1', hE, by rw [hN]; exact hf.1⟩ ht ho, hN]
theorem dec_encBk {b : Bk} {s : List UInt8} (h : encBk b = (s, 0)) (hf : FitsB b) : decBk s = (b, 0) := by
  have h3 := (encBk_ok h).2.2
  have h2 := (encBk_ok h).2.1
  unfold decBk
  rw [if_neg (by rw [h2]; omega), parse_blockB h hf]
  show (if encBk b = (s, 0) then (b, 0) else (bkZ, 11)) = _
  rw [if_pos h]
theorem encB_le {l : List Val} (ho : ∀ v ∈ l, VOk v) (ht : tot l ≤ 1000000) : (encB l).length ≤ 10 + tot l := by
  unfold encB
  split
  · have := flat_len l ho
    have h1 := tot_len l
    have := putN_len10 (n := l.length) (by omega)
    rw [List.length_append]; omega
  · exact Nat.zero_le _
theorem resB_sm {r : Res} (hw : WfRes r) (h : resN r < 1000) : (resB r).length ≤ 110 * resN r := by
  have hl : ∀ l ∈ r.rows, (∀ v ∈ l, VOk v) ∧ tot l ≤ 1000000 := fun l hl => by
    have h1 := sum_mem (f := rowN) hl
    have h2 := tot_le l
    unfold resN at h
    exact ⟨hw.2 l hl, by omega⟩
  have hn : r.rows.length + 1 ≤ resN r := by
    have := sum_len (f := rowN) (l := r.rows) (fun x _ => by unfold rowN; omega)
    unfold resN; omega
  have h1 := sum_lin (l := r.rows) (f := fun l => (encB l).length) (g := rowN) 0 70 (fun l hl' => by
    have := encB_le (hl l hl').1 (hl l hl').2
    have := tot_le l
    have : 1 ≤ rowN l := by unfold rowN; omega
    omega)
  have e1 : ((r.rows.map encB).map fun s => s.length).sum = (r.rows.map fun l => (encB l).length).sum := by rw [List.map_map]; rfl
  have h2 : (manyB r.rows).length ≤ 10 + 80 * (r.rows.map rowN).sum := by
    unfold manyB
    split
    · have := join_le (ll := r.rows.map encB) (by rw [List.length_map]; omega) (fun x hx => by
        have := sum_mem (f := fun s : List UInt8 => s.length) hx
        unfold resN at h
        omega)
      rw [List.length_map] at this
      have h5 := sum_len (f := rowN) (l := r.rows) (fun x _ => by unfold rowN; omega)
      omega
    · exact Nat.zero_le _
  have h3 := putN_len10 (n := r.n.toNat) (by have := hw.1; omega)
  have h4 := putB_le (s := manyB r.rows) (by unfold resN at h; omega)
  unfold resB
  rw [List.length_append]
  unfold resN at *
  omega
theorem outB_sm {o : Out} (hw : WfOut o) (h : outN o < 1000) : (outB o).length ≤ 30 + 110 * outN o := by
  obtain ⟨⟨he, ha⟩, hw⟩ := hw
  have hr : ∀ r ∈ o.l, resN r < 1000 := fun r hr => by have := sum_mem (f := resN) hr; unfold outN at h; omega
  have hn : o.l.length ≤ outN o := sum_len (f := resN) (l := o.l) (fun x _ => by unfold resN; omega)
  have h1 := sum_lin (l := o.l) (f := fun r => (resB r).length) (g := resN) 0 110 (fun r hr' => by have := resB_sm (hw r hr') (hr r hr'); omega)
  unfold outB hdB
  rw [List.length_append, List.length_append, List.length_append, List.length_flatMap]
  have k1 := putN_len10 (n := o.e.toNat) (by omega)
  have k2 := putN_len10 (n := o.at_.toNat) (by omega)
  have k3 := putN_len10 (n := o.l.length) (by omega)
  unfold outN at *
  omega
/-- The bytes of a block that is not big are few. -/
theorem block_sm {b : Bk} (hw : WfB b) (hr : rightBk b = true) (h : bigN b < 800) : (blockB b).length ≤ 100000 := by
  obtain ⟨-, hw1, hw2⟩ := hw
  obtain ⟨⟨r1, r2, r3, r4, r5, r6⟩, r7, r8⟩ := right_iff.1 hr
  have hb : bigN b = baseN b + (b.txs.map txN).sum + (b.outs.map outN).sum := rfl
  have hbase : baseN b = b.proof.length / 20 + b.txs.length + b.outs.length := rfl
  have ho : ∀ o ∈ b.outs, outN o < 1000 := fun o ho => by have := sum_mem (f := outN) ho; omega
  have ht : ∀ t ∈ b.txs, txN t < 1000000 := fun t ht => by have := sum_mem (f := txN) ht; omega
  have h1 := sum_lin (l := b.outs) (f := fun o => (outB o).length) (g := outN) 30 110 (fun o ho' => by have := outB_sm (hw2 o ho') (ho o ho'); omega)
  have h2 := sum_lin (l := b.txs) (f := fun t => (joinL t).length) (g := txN) 10 29 (fun t ht' => by have := joinTx_le (ht t ht'); omega)
  have e1 : ((outsB b).map fun s => s.length).sum = (b.outs.map fun o => (outB o).length).sum := by unfold outsB; rw [List.map_map]; rfl
  have e2 : ((txsB b).map fun s => s.length).sum = (b.txs.map fun t => (joinL t).length).sum := by unfold txsB; rw [List.map_map]; rfl
  have l1 : (outsB b).length = b.outs.length := by unfold outsB; rw [List.length_map]
  have l2 : (txsB b).length = b.txs.length := by unfold txsB; rw [List.length_map]
  have j1 := join_le (ll := outsB b) (by omega) (fun x hx => by
    have := sum_mem (f := fun s : List UInt8 => s.length) hx
    omega)
  have j2 := join_le (ll := txsB b) (by omega) (fun x hx => by
    have := sum_mem (f := fun s : List UInt8 => s.length) hx
    omega)
  have n0 := putN_len10 (n := b.num.toNat) (by omega)
  have n7 : (putN (partsB b).length).length ≤ 10 := putN_len10 (n := 7) (by decide)
  unfold blockB
  rw [join_sum]
  unfold partsB at n7 ⊢
  have b0 := putB_le (s := putN b.num.toNat) (by omega)
  have b1 := putB_le (s := b.last) (by omega)
  have b2 := putB_le (s := b.prev) (by omega)
  have b3 := putB_le (s := b.next) (by omega)
  have b4 := putB_le (s := joinL (txsB b)) (by omega)
  have b5 := putB_le (s := joinL (outsB b)) (by omega)
  have b6 := putB_le (s := b.proof) (by omega)
  simp only [List.map_cons, List.map_nil, List.sum_cons, List.sum_nil]
  omega
end Go.Proofs.YtejbljopighenaaDoor
namespace Go.Proofs.YtejbljopighenaaDoor
open Go.RowKit
theorem is_big21 : isFn Tryd.prog 7 = true := by kernel_rfl
section
variable {E : Env} {d : Option Nat} {ty : TypeId} {p : String} {af : Array Edge} {g : Option (Nat × Bool)} {x : Operand} {k : Value → Prop}
theorem p_lenSL {l : List UInt8} (hx : val E x = .string (sb l)) (h : k (.int .i64 (l.length : Nat))) : VPure Tryd.prog E { dst := d, op := .call { callee := .builtin .len, args := #[x], argTypes := #[9] }, type := ty, pos := p, after := af, guard := g } k :=
  p_lenS u_str hx (by rw [sb_size]; exact h)
end
section
variable {w W : World} {gs : List (Option Nat)} {L : Lc} {R : List Row} {fs : List Fact}
theorem St.outO (M : St w gs W L R fs) {l : List Out} {A : Option Addr} {n c i : Nat} {o : Out} (h : RdD W (Fd W (own L R gs)) (dOuts l) (.slice A n c)) (hi : l[i]? = some o) :
    ∃ b off A' c', A = some ⟨b, off, none⟩ ∧ St w gs W L R (.loc ((⟨b, off, none⟩ : Addr).add (i * 3)) (outcs o A' c') :: .dat false [dRs o.l] [.slice A' o.l.length c'] :: fs) := by
  obtain ⟨b, off, es, e, hF, hes, hel, hc⟩ := RdD.eltO dOut 3 dOut_len h hi
  obtain ⟨A', c', rfl, h1⟩ := hes.out
  exact ⟨b, off, A', c', e, (M.addD h1).addC (by rw [block_of_add]; exact hF) hc⟩
end
set_option maxRecDepth 100000 in
set_option maxHeartbeats 8000000 in
theorem big21_any (b : Bk) (gs : List (Option Nat)) (w : World) (cs : List Value) (hr : RdL w (Fd w gs) (dBk b) cs) (hgs : ∀ b, some b ∈ gs → b < w.heap.size) (hk : bkbk b ≤ 2000000) :
    Calls Tryd.prog 7 #[.agg cs.toArray] w fun e w' => ∃ q : Bool, e = .returned (.bool q) ∧ (q = false → bigN b < 800) ∧ Below w.heap.size w w' := by
  refine calls_ev (args := [.agg cs.toArray]) mixed Tryd.func7 rfl (by kernel_rfl) ?_
  obtain ⟨p, rfl, -, -, -, h4, h5, -⟩ := hr.bk
  have hbig := bigN_le b
  have hb : bigN b = baseN b + (b.txs.map txN).sum + (b.outs.map outN).sum := rfl
  have hbase : baseN b = b.proof.length / 20 + b.txs.length + b.outs.length := rfl
  have hbk : bkbk b = (b.last.length + 1) + ((b.prev.length + 1) + ((b.next.length + 1) + (((b.txs.map txbk).sum + 1) + (((b.outs.map outbk).sum + 1) + (b.proof.length + 1))))) + 2 := rfl
  obtain ⟨N, hN⟩ : ∃ N, N = bigN b := ⟨_, rfl⟩
  rw [← hN] at hb hbig ⊢
  obtain ⟨ST, hST⟩ : ∃ ST, ST = (b.txs.map txN).sum := ⟨_, rfl⟩
  obtain ⟨SO, hSO⟩ : ∃ SO, SO = (b.outs.map outN).sum := ⟨_, rfl⟩
  rw [← hST, ← hSO] at hb
  obtain ⟨B0, hB0⟩ : ∃ B0, B0 = baseN b := ⟨_, rfl⟩
  rw [← hB0] at hb hbase
  have M := ((St.start hgs).addD h5).addD h4
  clear h4 h5 hr
  refine s_box (bkcs b p) M rfl ?_
  clear M
  rintro g1 W M
  refine p_fld fB6 rfl ?_
  refine v_load agg_b rfl ((M.B 0 rfl).at_ rfl) ?_
  refine p_len slb rfl ?_
  refine p_quoN (b := 20) rfl rfl (by omega) (by omega) ?_
  refine p_fld fB4 rfl ?_
  refine v_load agg_tss rfl ((M.B 0 rfl).at_ rfl) ?_
  refine p_len sltss rfl ?_
  refine p_addN rfl rfl (by omega) ?_
  refine p_fld fB5 rfl ?_
  refine v_load agg_os rfl ((M.B 0 rfl).at_ rfl) ?_
  refine p_len slos rfl ?_
  refine p_addN rfl rfl (by omega) ?_
  rw [← hbase]
  refine cutS Nat (fun n W => (800 ≤ n ∨ n = B0 + ST) ∧ n ≤ N ∧ St w gs W [(g1, 26, bkcs b p)] [] [.dat false [dTxs b.txs] [.slice p.A4 b.txs.length p.c4], .dat false [dOuts b.outs] [.slice p.A5 b.outs.length p.c5]]) (fun n => [(1, .pointer (some ⟨g1, 0, none⟩)), (3, .int .i64 n)]) ?_ ?_
  · refine lp (Nat × Nat) (fun z W => z.1 ≤ b.txs.length ∧ z.2 = B0 + ((b.txs.take z.1).map txN).sum ∧ St w gs W [(g1, 26, bkcs b p)] [] [.dat false [dTxs b.txs] [.slice p.A4 b.txs.length p.c4], .dat false [dOuts b.outs] [.slice p.A5 b.outs.length p.c5]])
      (fun z => [(1, .pointer (some ⟨g1, 0, none⟩)), (3, .int .i64 z.2), (4, .int .i64 z.1)]) (fun z => b.txs.length - z.1) (0, B0) ⟨Nat.zero_le _, rfl, M⟩ (by repeat (first | exact trivial | refine ⟨rfl, ?_⟩)) ?_
    clear M
    rintro ⟨i, n⟩ E W ⟨hi, hn, M⟩
    dsimp only at hi hn M
    have hle := sum_take_le txN b.txs i
    rw [← hST] at hle
    refine p_fld fB4 rfl ?_
    refine v_load agg_tss rfl ((M.B 0 rfl).at_ rfl) ?_
    refine p_len sltss rfl ?_
    refine p_lt rfl rfl (fun hlt => ?_) (fun hge => ?_)
    rotate_left
    · have hi : i = b.txs.length := by have h : ¬ (i : Int) < (b.txs.length : Int) := hge; omega
      subst hi
      rw [List.take_of_length_le (Nat.le_refl _), ← hST] at hn
      exact ⟨n, ⟨.inr hn, by omega, M⟩, (by repeat (first | exact trivial | refine ⟨rfl, ?_⟩))⟩
    have hil : i < b.txs.length := by have h : (i : Int) < (b.txs.length : Int) := hlt; omega
    refine p_lt rfl rfl (fun h8 => ?_) (fun h8 => ?_)
    rotate_left
    · have h8 : ¬ (n : Int) < 800 := h8
      exact ⟨n, ⟨.inl (by omega), by omega, M⟩, (by repeat (first | exact trivial | refine ⟨rfl, ?_⟩))⟩
    obtain ⟨t, ht⟩ : ∃ t, b.txs[i]? = some t := ⟨_, List.getElem?_eq_getElem hil⟩
    have hsucc := sum_take_succ txN ht
    have hle2 := sum_take_le txN b.txs (i + 1)
    rw [← hST] at hle2
    obtain ⟨b1, o1, At, ct, eT, M'⟩ := M.txe (M.d1 0 rfl) ht
    replace M := M'; clear M'
    refine cutS Unit (fun _ W => St w gs W [(g1, 26, bkcs b p)] [] [.loc ((⟨b1, o1, none⟩ : Addr).add (i * 1)) [.slice At t.length ct], .dat false [dTx t] [.slice At t.length ct], .dat false [dTxs b.txs] [.slice p.A4 b.txs.length p.c4], .dat false [dOuts b.outs] [.slice p.A5 b.outs.length p.c5]]) (fun _ => [(1, .pointer (some ⟨g1, 0, none⟩)), (3, .int .i64 n), (4, .int .i64 i)]) ?_ ?_
    · exact ⟨(), M, (by repeat (first | exact trivial | refine ⟨rfl, ?_⟩))⟩
    clear M
    rintro - E W M
    refine lp (Nat × Nat) (fun z W => z.1 ≤ t.length ∧ z.2 = n + ((t.take z.1).map fun s => 1 + s.length / 20).sum ∧ St w gs W [(g1, 26, bkcs b p)] [] [.loc ((⟨b1, o1, none⟩ : Addr).add (i * 1)) [.slice At t.length ct], .dat false [dTx t] [.slice At t.length ct], .dat false [dTxs b.txs] [.slice p.A4 b.txs.length p.c4], .dat false [dOuts b.outs] [.slice p.A5 b.outs.length p.c5]])
      (fun z => [(1, .pointer (some ⟨g1, 0, none⟩)), (3, .int .i64 z.2), (4, .int .i64 i), (5, .int .i64 z.1)]) (fun z => t.length - z.1) (0, n) ⟨Nat.zero_le _, rfl, M⟩ (by repeat (first | exact trivial | refine ⟨rfl, ?_⟩)) ?_
    clear M
    rintro ⟨k, n2⟩ E W ⟨hk2, hn2, M⟩
    dsimp only at hk2 hn2 M
    have hle3 := sum_take_le (fun s : List UInt8 => 1 + s.length / 20) t k
    have htN : txN t = (t.map fun s => 1 + s.length / 20).sum := rfl
    have htl := sum_len (f := fun s : List UInt8 => 1 + s.length / 20) (l := t) (fun s _ => by omega)
    refine p_fld fB4 rfl ?_
    refine v_load agg_tss rfl ((M.B 0 rfl).at_ rfl) ?_
    refine p_at (i := i) sltss (by show Value.slice p.A4 b.txs.length p.c4 = _; rw [eT]) rfl rfl hil ?_
    refine v_load agg_ts rfl (M.lc 0 rfl 0 _ rfl) ?_
    refine p_len slts rfl ?_
    refine p_lt rfl rfl (fun hlt2 => ?_) (fun hge => ?_)
    rotate_left
    · have hkk : k = t.length := by have h : ¬ (k : Int) < (t.length : Int) := hge; omega
      subst hkk
      rw [List.take_of_length_le (Nat.le_refl _)] at hn2
      refine p_addN (b := 1) rfl rfl (by omega) ?_
      exact ⟨(i + 1, n2), ⟨by dsimp only; omega, by dsimp only; omega, M.fsub _ (by simp)⟩, (by repeat (first | exact trivial | refine ⟨rfl, ?_⟩)), by dsimp only; omega⟩
    have hkl : k < t.length := by have h : (k : Int) < (t.length : Int) := hlt2; omega
    obtain ⟨s, hs⟩ : ∃ s, t[k]? = some s := ⟨_, List.getElem?_eq_getElem hkl⟩
    have hsucc2 := sum_take_succ (fun s : List UInt8 => 1 + s.length / 20) hs
    have hle4 := sum_take_le (fun s : List UInt8 => 1 + s.length / 20) t (k + 1)
    obtain ⟨b2, o2, rfl, M'⟩ := M.stre (M.d1 1 rfl) hs
    replace M := M'; clear M'
    refine p_addN (b := 1) rfl rfl (by omega) ?_
    refine p_fld fB4 rfl ?_
    refine v_load agg_tss rfl ((M.B 0 rfl).at_ rfl) ?_
    refine p_at (i := i) sltss (by show Value.slice p.A4 b.txs.length p.c4 = _; rw [eT]) rfl rfl hil ?_
    refine v_load agg_ts rfl (M.lc 1 rfl 0 _ rfl) ?_
    refine p_at (i := k) slts rfl rfl rfl hkl ?_
    refine v_load agg_st rfl (M.lc 0 rfl 0 _ rfl) ?_
    refine p_lenSL rfl ?_
    refine p_quoN (b := 20) rfl rfl (by omega) (by omega) ?_
    refine p_addN rfl rfl (by omega) ?_
    refine p_addN (b := 1) rfl rfl (by omega) ?_
    exact ⟨(k + 1, n2 + 1 + s.length / 20), ⟨by dsimp only; omega, by dsimp only; omega, M.fsub _ (by simp)⟩, (by repeat (first | exact trivial | refine ⟨rfl, ?_⟩)), by dsimp only; omega⟩
  clear M
  rintro n0 E W ⟨hn0, hn0N, M⟩
  obtain ⟨B1, hB1⟩ : ∃ B1, B1 = B0 + ST := ⟨_, rfl⟩
  rw [← hB1] at hn0 hb
  refine lp (Nat × Nat) (fun z W => z.1 ≤ b.outs.length ∧ (800 ≤ z.2 ∨ z.2 = B1 + ((b.outs.take z.1).map outN).sum) ∧ St w gs W [(g1, 26, bkcs b p)] [] [.dat false [dOuts b.outs] [.slice p.A5 b.outs.length p.c5]])
    (fun z => [(1, .pointer (some ⟨g1, 0, none⟩)), (3, .int .i64 z.2), (6, .int .i64 z.1)]) (fun z => b.outs.length - z.1) (0, n0) ⟨Nat.zero_le _, hn0, M.fsub _ (by simp)⟩ (by repeat (first | exact trivial | refine ⟨rfl, ?_⟩)) ?_
  clear M
  rintro ⟨j, n⟩ E W ⟨hj, hn, M⟩
  dsimp only at hj hn M
  have hle := sum_take_le outN b.outs j
  rw [← hSO] at hle
  refine p_fld fB5 rfl ?_
  refine v_load agg_os rfl ((M.B 0 rfl).at_ rfl) ?_
  refine p_len slos rfl ?_
  refine p_lt rfl rfl (fun hlt => ?_) (fun hge => ?_)
  rotate_left
  · have hj : j = b.outs.length := by have h : ¬ (j : Int) < (b.outs.length : Int) := hge; omega
    subst hj
    rw [List.take_of_length_le (Nat.le_refl _), ← hSO] at hn
    refine p_ge rfl rfl (fun h8 => ?_) (fun h8 => ?_)
    · exact ⟨true, rfl, (fun h => by cases h), M.below⟩
    · have h8 : ¬ (800 : Int) ≤ (n : Int) := h8
      exact ⟨false, rfl, (fun _ => by omega), M.below⟩
  have hjl : j < b.outs.length := by have h : (j : Int) < (b.outs.length : Int) := hlt; omega
  refine p_lt rfl rfl (fun h8 => ?_) (fun h8 => ?_)
  rotate_left
  · have h8 : ¬ (n : Int) < 800 := h8
    refine p_ge rfl rfl (fun h9 => ?_) (fun h9 => ?_)
    · exact ⟨true, rfl, (fun h => by cases h), M.below⟩
    · have h9 : ¬ (800 : Int) ≤ (n : Int) := h9
      exact absurd (by omega) h9
  have h8 : (n : Int) < 800 := h8
  have hn : n = B1 + ((b.outs.take j).map outN).sum := by omega
  obtain ⟨o, ho⟩ : ∃ o, b.outs[j]? = some o := ⟨_, List.getElem?_eq_getElem hjl⟩
  have hsucc := sum_take_succ outN ho
  have hle2 := sum_take_le outN b.outs (j + 1)
  rw [← hSO] at hle2
  obtain ⟨b1, o1, Ao, co, eO, M'⟩ := M.outO (M.d1 0 rfl) ho
  replace M := M'; clear M'
  have hoN : outN o = (o.l.map resN).sum := rfl
  have hol := sum_len (f := resN) (l := o.l) (fun r _ => by unfold resN; omega)
  refine cutS Unit (fun _ W => St w gs W [(g1, 26, bkcs b p)] [] [.loc ((⟨b1, o1, none⟩ : Addr).add (j * 3)) (outcs o Ao co), .dat false [dRs o.l] [.slice Ao o.l.length co], .dat false [dOuts b.outs] [.slice p.A5 b.outs.length p.c5]]) (fun _ => [(1, .pointer (some ⟨g1, 0, none⟩)), (3, .int .i64 n), (6, .int .i64 j)]) ?_ ?_
  · exact ⟨(), M, (by repeat (first | exact trivial | refine ⟨rfl, ?_⟩))⟩
  clear M
  rintro - E W M
  refine lp (Nat × Nat) (fun z W => z.1 ≤ o.l.length ∧ (800 ≤ z.2 ∨ z.2 = n + ((o.l.take z.1).map resN).sum) ∧ z.2 ≤ N ∧ St w gs W [(g1, 26, bkcs b p)] [] [.loc ((⟨b1, o1, none⟩ : Addr).add (j * 3)) (outcs o Ao co), .dat false [dRs o.l] [.slice Ao o.l.length co], .dat false [dOuts b.outs] [.slice p.A5 b.outs.length p.c5]])
    (fun z => [(1, .pointer (some ⟨g1, 0, none⟩)), (3, .int .i64 z.2), (6, .int .i64 j), (7, .int .i64 z.1)]) (fun z => o.l.length - z.1) (0, n) ⟨Nat.zero_le _, .inr rfl, by dsimp only; omega, M⟩ (by repeat (first | exact trivial | refine ⟨rfl, ?_⟩)) ?_
  clear M
  rintro ⟨k, n2⟩ E W ⟨hk2, hn2, hn2N, M⟩
  dsimp only at hk2 hn2 hn2N M
  have hle3 := sum_take_le resN o.l k
  refine p_fld fB5 rfl ?_
  refine v_load agg_os rfl ((M.B 0 rfl).at_ rfl) ?_
  refine p_at (i := j) slos (by show Value.slice p.A5 b.outs.length p.c5 = _; rw [eO]) rfl rfl hjl ?_
  refine p_fld fO2 rfl ?_
  refine v_load agg_rs rfl (M.lc 0 rfl 2 _ rfl) ?_
  refine p_len slrs rfl ?_
  refine p_lt rfl rfl (fun hlt2 => ?_) (fun hge => ?_)
  rotate_left
  · have hkk : k = o.l.length := by have h : ¬ (k : Int) < (o.l.length : Int) := hge; omega
    subst hkk
    rw [List.take_of_length_le (Nat.le_refl _)] at hn2
    refine p_addN (b := 1) rfl rfl (by omega) ?_
    exact ⟨(j + 1, n2), ⟨by dsimp only; omega, by dsimp only; omega, M.fsub _ (by simp)⟩, (by repeat (first | exact trivial | refine ⟨rfl, ?_⟩)), by dsimp only; omega⟩
  have hkl : k < o.l.length := by have h : (k : Int) < (o.l.length : Int) := hlt2; omega
  refine p_lt rfl rfl (fun h9 => ?_) (fun h9 => ?_)
  rotate_left
  · have h9 : ¬ (n2 : Int) < 800 := h9
    refine p_addN (b := 1) rfl rfl (by omega) ?_
    exact ⟨(j + 1, n2), ⟨by dsimp only; omega, .inl (by dsimp only; omega), M.fsub _ (by simp)⟩, (by repeat (first | exact trivial | refine ⟨rfl, ?_⟩)), by dsimp only; omega⟩
  have h9 : (n2 : Int) < 800 := h9
  have hn2 : n2 = n + ((o.l.take k).map resN).sum := by omega
  obtain ⟨r, hr⟩ : ∃ r, o.l[k]? = some r := ⟨_, List.getElem?_eq_getElem hkl⟩
  have hsucc2 := sum_take_succ resN hr
  have hle4 := sum_take_le resN o.l (k + 1)
  have hrN : resN r = 1 + (r.rows.map rowN).sum := rfl
  have hrl := sum_len (f := rowN) (l := r.rows) (fun r _ => by unfold rowN; omega)
  obtain ⟨b2, o2, Ar, cr, rfl, M'⟩ := M.res (M.d1 1 rfl) hr
  replace M := M'; clear M'
  refine p_addN (b := 1) rfl rfl (by omega) ?_
  refine lp (Nat × Nat) (fun z W => z.1 ≤ r.rows.length ∧ z.2 = n2 + 1 + ((r.rows.take z.1).map rowN).sum ∧ St w gs W [(g1, 26, bkcs b p)] [] [.loc ((⟨b2, o2, none⟩ : Addr).add (k * 2)) (rescs r Ar cr), .dat false [dRows r.rows] [.slice Ar r.rows.length cr], .loc ((⟨b1, o1, none⟩ : Addr).add (j * 3)) (outcs o (some ⟨b2, o2, none⟩) co), .dat false [dRs o.l] [.slice (some ⟨b2, o2, none⟩) o.l.length co], .dat false [dOuts b.outs] [.slice p.A5 b.outs.length p.c5]])
    (fun z => [(1, .pointer (some ⟨g1, 0, none⟩)), (3, .int .i64 z.2), (6, .int .i64 j), (7, .int .i64 k), (8, .int .i64 z.1)]) (fun z => r.rows.length - z.1) (0, n2 + 1) ⟨Nat.zero_le _, rfl, M⟩ (by repeat (first | exact trivial | refine ⟨rfl, ?_⟩)) ?_
  clear M
  rintro ⟨m, n3⟩ E W ⟨hm2, hn3, M⟩
  dsimp only at hm2 hn3 M
  have hle5 := sum_take_le rowN r.rows m
  refine p_fld fB5 rfl ?_
  refine v_load agg_os rfl ((M.B 0 rfl).at_ rfl) ?_
  refine p_at (i := j) slos (by show Value.slice p.A5 b.outs.length p.c5 = _; rw [eO]) rfl rfl hjl ?_
  refine p_fld fO2 rfl ?_
  refine v_load agg_rs rfl (M.lc 2 rfl 2 _ rfl) ?_
  refine p_at (i := k) slrs rfl rfl rfl hkl ?_
  refine p_fld fR0 rfl ?_
  refine v_load agg_vvs rfl (M.lc 0 rfl 0 _ rfl) ?_
  refine p_len slvv rfl ?_
  refine p_lt rfl rfl (fun hlt3 => ?_) (fun hge => ?_)
  rotate_left
  · have hmm : m = r.rows.length := by have h : ¬ (m : Int) < (r.rows.length : Int) := hge; omega
    subst hmm
    rw [List.take_of_length_le (Nat.le_refl _)] at hn3
    refine p_addN (b := 1) rfl rfl (by omega) ?_
    exact ⟨(k + 1, n3), ⟨by dsimp only; omega, .inr (by dsimp only; omega), by dsimp only; omega, M.fsub _ (by simp)⟩, (by repeat (first | exact trivial | refine ⟨rfl, ?_⟩)), by dsimp only; omega⟩
  have hml : m < r.rows.length := by have h : (m : Int) < (r.rows.length : Int) := hlt3; omega
  obtain ⟨x, hx⟩ : ∃ x, r.rows[m]? = some x := ⟨_, List.getElem?_eq_getElem hml⟩
  have hsucc3 := sum_take_succ rowN hx
  have hle6 := sum_take_le rowN r.rows (m + 1)
  have hxN : rowN x = 1 + x.length + (x.map valN).sum := rfl
  obtain ⟨b3, o3, Ax, cx, rfl, M'⟩ := M.rowe (M.d1 1 rfl) hx
  replace M := M'; clear M'
  refine p_addN (b := 1) rfl rfl (by omega) ?_
  refine p_fld fB5 rfl ?_
  refine v_load agg_os rfl ((M.B 0 rfl).at_ rfl) ?_
  refine p_at (i := j) slos (by show Value.slice p.A5 b.outs.length p.c5 = _; rw [eO]) rfl rfl hjl ?_
  refine p_fld fO2 rfl ?_
  refine v_load agg_rs rfl (M.lc 4 rfl 2 _ rfl) ?_
  refine p_at (i := k) slrs rfl rfl rfl hkl ?_
  refine p_fld fR0 rfl ?_
  refine v_load agg_vvs rfl (M.lc 2 rfl 0 _ rfl) ?_
  refine p_at (i := m) slvv rfl rfl rfl hml ?_
  refine v_load agg_rowsl rfl (M.lc 0 rfl 0 _ rfl) ?_
  refine p_len slv rfl ?_
  refine p_addN rfl rfl (by omega) ?_
  refine lp (Nat × Nat) (fun z W => z.1 ≤ x.length ∧ z.2 = n3 + 1 + x.length + ((x.take z.1).map valN).sum ∧ St w gs W [(g1, 26, bkcs b p)] [] [.loc ((⟨b3, o3, none⟩ : Addr).add (m * 1)) [.slice Ax x.length cx], .dat false [dRow x] [.slice Ax x.length cx], .loc ((⟨b2, o2, none⟩ : Addr).add (k * 2)) (rescs r (some ⟨b3, o3, none⟩) cr), .dat false [dRows r.rows] [.slice (some ⟨b3, o3, none⟩) r.rows.length cr], .loc ((⟨b1, o1, none⟩ : Addr).add (j * 3)) (outcs o (some ⟨b2, o2, none⟩) co), .dat false [dRs o.l] [.slice (some ⟨b2, o2, none⟩) o.l.length co], .dat false [dOuts b.outs] [.slice p.A5 b.outs.length p.c5]])
    (fun z => [(1, .pointer (some ⟨g1, 0, none⟩)), (3, .int .i64 z.2), (6, .int .i64 j), (7, .int .i64 k), (8, .int .i64 m), (9, .int .i64 z.1)]) (fun z => x.length - z.1) (0, n3 + 1 + x.length) ⟨Nat.zero_le _, rfl, M⟩ (by repeat (first | exact trivial | refine ⟨rfl, ?_⟩)) ?_
  clear M
  rintro ⟨q, n4⟩ E W ⟨hq2, hn4, M⟩
  dsimp only at hq2 hn4 M
  have hle7 := sum_take_le valN x q
  refine p_fld fB5 rfl ?_
  refine v_load agg_os rfl ((M.B 0 rfl).at_ rfl) ?_
  refine p_at (i := j) slos (by show Value.slice p.A5 b.outs.length p.c5 = _; rw [eO]) rfl rfl hjl ?_
  refine p_fld fO2 rfl ?_
  refine v_load agg_rs rfl (M.lc 4 rfl 2 _ rfl) ?_
  refine p_at (i := k) slrs rfl rfl rfl hkl ?_
  refine p_fld fR0 rfl ?_
  refine v_load agg_vvs rfl (M.lc 2 rfl 0 _ rfl) ?_
  refine p_at (i := m) slvv rfl rfl rfl hml ?_
  refine v_load agg_rowsl rfl (M.lc 0 rfl 0 _ rfl) ?_
  refine p_len slv rfl ?_
  refine p_lt rfl rfl (fun hlt4 => ?_) (fun hge => ?_)
  rotate_left
  · have hqq : q = x.length := by have h : ¬ (q : Int) < (x.length : Int) := hge; omega
    subst hqq
    rw [List.take_of_length_le (Nat.le_refl _)] at hn4
    refine p_addN (b := 1) rfl rfl (by omega) ?_
    exact ⟨(m + 1, n4), ⟨by dsimp only; omega, by dsimp only; omega, M.fsub _ (by simp)⟩, (by repeat (first | exact trivial | refine ⟨rfl, ?_⟩)), by dsimp only; omega⟩
  have hql : q < x.length := by have h : (q : Int) < (x.length : Int) := hlt4; omega
  obtain ⟨v, hv⟩ : ∃ v, x[q]? = some v := ⟨_, List.getElem?_eq_getElem hql⟩
  have hsucc4 := sum_take_succ valN hv
  have hle8 := sum_take_le valN x (q + 1)
  have hvN : valN v = v.s.length / 20 := rfl
  obtain ⟨b4, o4, rfl, M'⟩ := M.valu (M.d1 1 rfl) hv
  replace M := M'; clear M'
  refine p_fld fB5 rfl ?_
  refine v_load agg_os rfl ((M.B 0 rfl).at_ rfl) ?_
  refine p_at (i := j) slos (by show Value.slice p.A5 b.outs.length p.c5 = _; rw [eO]) rfl rfl hjl ?_
  refine p_fld fO2 rfl ?_
  refine v_load agg_rs rfl (M.lc 5 rfl 2 _ rfl) ?_
  refine p_at (i := k) slrs rfl rfl rfl hkl ?_
  refine p_fld fR0 rfl ?_
  refine v_load agg_vvs rfl (M.lc 3 rfl 0 _ rfl) ?_
  refine p_at (i := m) slvv rfl rfl rfl hml ?_
  refine v_load agg_rowsl rfl (M.lc 1 rfl 0 _ rfl) ?_
  refine p_at (i := q) slv rfl rfl rfl hql ?_
  refine p_fld fv2 rfl ?_
  refine v_load agg_st rfl (M.lc 0 rfl 2 _ rfl) ?_
  refine p_lenSL rfl ?_
  refine p_quoN (b := 20) rfl rfl (by omega) (by omega) ?_
  refine p_addN rfl rfl (by omega) ?_
  refine p_addN (b := 1) rfl rfl (by omega) ?_
  exact ⟨(q + 1, n4 + v.s.length / 20), ⟨by dsimp only; omega, by dsimp only; omega, M.fsub _ (by simp)⟩, (by repeat (first | exact trivial | refine ⟨rfl, ?_⟩)), by dsimp only; omega⟩
end Go.Proofs.YtejbljopighenaaDoor
namespace Go.Proofs.YtejbljopighenaaDoor
open Go.RowKit
section
variable {w W : World} {gs : List (Option Nat)} {L : Lc} {R : List Row} {fs : List Fact}
set_option maxRecDepth 100000 in
/-- make([]byte, k) -/
theorem s_mkBy {E : Env} {d : Option Nat} {ty : TypeId} {p : String} {af : Array Edge} {gd : Option (Nat × Bool)} {l c : Operand} {kw : Value → World → Prop} (k : Nat) (hk : k ≤ 1000000) (M : St w gs W L R fs) (hl : val E l = .int .i64 (k : Int)) (hc : val E c = .int .i64 (k : Int))
    (h : ∀ g W', St w gs W' L R (.dat true [dB (List.replicate k 0)] [.slice (some ⟨g, 0, none⟩) k k] :: fs) → kw (.slice (some ⟨g, 0, none⟩) k k) W') :
    VVal Tryd.prog E { dst := d, op := .makeSlice 22 l c, type := ty, pos := p, after := af, guard := gd } W kw := by
  obtain ⟨i, hi0, hz0, hz1, hz2⟩ := info_parts u8info
  obtain ⟨w', hrun, hrow, hg⟩ := run_make_full (P := Tryd.prog) (w := W) W.heap.size 22 5 i _ 1 Tryd.underlying22 hi0 hz0 hz1 .i64 .i64 k (by rw [hz2]; omega) (by unfold maxLen; omega) (Nat.le_refl _)
  have hown : Own w' W.heap.size (some ⟨W.heap.size, 0, none⟩) k k (List.replicate k 0) := by
    unfold Own
    have e : bvs (List.replicate k 0) = (madeCells (Value.int .u8 0).cells (k * 1)).toList := by
      rw [Nat.mul_one]
      show _ = (madeCells #[Value.int .u8 0] k).toList
      rw [toList_madeCells_one]
      unfold bvs
      rw [List.map_replicate]
      rfl
    rw [e]
    exact hrow
  refine vv (v := .slice (some ⟨W.heap.size, 0, none⟩) k k) (w' := w') ?_ (h _ _ (M.callO ⟨hg.os, hg.tape, hg.output, hg.size, fun b hb => hg.block b hb (by simp)⟩ hown))
  have hrun' : (Instr.makeSlice 22 (.int .i64 (k : Int)) (.int .i64 (k : Int))).run Tryd.prog W = _ := hrun
  simp [execOp, hl, hc, hrun']
end
end Go.Proofs.YtejbljopighenaaDoor
