/- Reference 08: items as data; the walk of Items. -/
import Derived.Test.YtojjfkbffjkojaaDoorG09
namespace Go.Proofs.YtojjfkbffjkojaaDoor
open Go.RowKit
structure It where
  path : List UInt8
  val : List UInt8
  stub : Bool
  known : Bool
  hash : List UInt8
def dI (x : It) : List D := [dB x.path, dB x.val, .v (.bool x.stub), .v (.bool x.known), dB x.hash]
theorem dI_len (x : It) : (dI x).length = 5 := rfl
def dIs (l : List It) : List D := l.flatMap dI
abbrev dIl (l : List It) : D := .sl 5 l.length (dIs l)
theorem dIs_app (a b : List It) : dIs (a ++ b) = dIs a ++ dIs b := by unfold dIs; rw [List.flatMap_append]
theorem dIs_one (l : List It) : ∀ d ∈ dIs l, d.One := by
  intro d hd
  unfold dIs at hd
  obtain ⟨x, _, hx⟩ := List.mem_flatMap.1 hd
  simp only [dI, List.mem_cons, List.not_mem_nil, or_false] at hx
  rcases hx with rfl | rfl | rfl | rfl | rfl <;> first | trivial | rfl
theorem sli : slOf Tryd.prog 42 = some (45, 5) := by kernel_rfl
theorem agg_it : aggOf Tryd.prog 45 = some (true, 5) := by kernel_rfl
theorem fI0 : fieldOff Tryd.prog 45 0 = some 0 := by kernel_rfl
theorem fI1 : fieldOff Tryd.prog 45 1 = some 1 := by kernel_rfl
theorem fI2 : fieldOff Tryd.prog 45 2 = some 2 := by kernel_rfl
theorem fI3 : fieldOff Tryd.prog 45 3 = some 3 := by kernel_rfl
theorem fI4 : fieldOff Tryd.prog 45 4 = some 4 := by kernel_rfl
def zI : List Value := [.slice none 0 0, .slice none 0 0, .bool false, .bool false, .slice none 0 0]
theorem pl_it : placesOf Tryd.prog 45 = some [(0, 1), (1, 1), (2, 1), (3, 1), (4, 1)] := by kernel_rfl
theorem z_it : zeroOf Tryd.prog 45 = some zI := by kernel_rfl
theorem itinfo : (Tryd.prog.info? 45).map (fun i => (i.zero, i.size, i.bytes)) = some (some (.agg zI.toArray), 5, 80) := by kernel_rfl
def ics (x : It) (Ap : Option Addr) (cp : Nat) (Av : Option Addr) (cv : Nat) (Ah : Option Addr) (ch : Nat) : List Value := [.slice Ap x.path.length cp, .slice Av x.val.length cv, .bool x.stub, .bool x.known, .slice Ah x.hash.length ch]
theorem RdL.item {W : World} {F : Nat → Prop} {x : It} {cs : List Value} (h : RdL W F (dI x) cs) : ∃ Ap cp Av cv Ah ch, cs = ics x Ap cp Av cv Ah ch ∧ RdD W F (dB x.path) (.slice Ap x.path.length cp) ∧ RdD W F (dB x.val) (.slice Av x.val.length cv) ∧ RdD W F (dB x.hash) (.slice Ah x.hash.length ch) := by
  obtain ⟨u0, _, rfl, h0, h⟩ := (show RdL W F [dB x.path, dB x.val, .v (.bool x.stub), .v (.bool x.known), dB x.hash] cs from h).uncons
  obtain ⟨u1, _, rfl, h1, h⟩ := h.uncons
  obtain ⟨u2, _, rfl, h2, h⟩ := h.uncons
  obtain ⟨u3, _, rfl, h3, h⟩ := h.uncons
  obtain ⟨u4, _, rfl, h4, h⟩ := h.uncons
  rw [h.isnil]
  obtain ⟨A0, c0, e0, _⟩ := h0.open_
  obtain ⟨A1, c1, e1, _⟩ := h1.open_
  obtain ⟨A4, c4, e4, _⟩ := h4.open_
  have e2 := RdD.val.1 h2
  have e3 := RdD.val.1 h3
  subst e0; subst e1; subst e2; subst e3; subst e4
  exact ⟨A0, c0, A1, c1, A4, c4, rfl, h0, h1, h4⟩
theorem RdL.ofitem {W : World} {F : Nat → Prop} {x : It} {Ap Av Ah : Option Addr} {cp cv ch : Nat} (h0 : RdD W F (dB x.path) (.slice Ap x.path.length cp)) (h1 : RdD W F (dB x.val) (.slice Av x.val.length cv)) (h4 : RdD W F (dB x.hash) (.slice Ah x.hash.length ch)) : RdL W F (dI x) (ics x Ap cp Av cv Ah ch) :=
  RdL.cons h0 (RdL.cons h1 (RdL.cons (RdD.ofv _) (RdL.cons (RdD.ofv _) (RdL.cons h4 RdL.nil_))))
/-- An item of a slice that stays. -/
theorem St.item {w W : World} {gs : List (Option Nat)} {L : Lc} {R : List Row} {fs : List Fact} (M : St w gs W L R fs) {l : List It} {A : Option Addr} {n c i : Nat} {x : It} (h : RdD W (Fd W (own L R gs)) (dIl l) (.slice A n c)) (hi : l[i]? = some x) :
    ∃ b off Ap cp Av cv Ah ch, A = some ⟨b, off, none⟩ ∧ St w gs W L R (.loc ((⟨b, off, none⟩ : Addr).add (i * 5)) (ics x Ap cp Av cv Ah ch) :: .dat false (dI x) (ics x Ap cp Av cv Ah ch) :: .dat false [dB x.path] [.slice Ap x.path.length cp] :: .dat false [dB x.val] [.slice Av x.val.length cv] :: .dat false [dB x.hash] [.slice Ah x.hash.length ch] :: fs) := by
  obtain ⟨b, off, es, e, hF, hes, hel, hc⟩ := RdD.elt dI 5 dI_len h hi
  have hes' := hes
  obtain ⟨Ap, cp, Av, cv, Ah, ch, rfl, h1, h2, h3⟩ := hes.item
  exact ⟨b, off, Ap, cp, Av, cv, Ah, ch, e, ((((M.addD h3).addD h2).addD h1).addL hes').addC (by rw [block_of_add]; exact hF) hc⟩
mutual
def itemsP : Nd → List UInt8 → Bool → List It
  | .mk k p has v ks h, way, known =>
    if k = 4 then [⟨way ++ p, [], true, known, h⟩]
    else (if k = 1 ∨ has = true then [⟨way ++ p, v, false, false, []⟩] else []) ++ itemsK ks (decide (k = 3)) (decide (k = 2)) 0 (way ++ p)
def itemsK : List Nd → Bool → Bool → Nat → List UInt8 → List It
  | [], _, _, _, _ => []
  | t :: ts, br, known, i, at_ => itemsP t (if br then at_ ++ [UInt8.ofNat i] else at_) known ++ itemsK ts br known (i + 1) at_
end
theorem itemsP_eq (t : Nd) (way : List UInt8) (known : Bool) : itemsP t way known = if t.kind = 4 then [⟨way ++ t.path, [], true, known, t.hash⟩] else (if t.kind = 1 ∨ t.has = true then [⟨way ++ t.path, t.val, false, false, []⟩] else []) ++ itemsK t.kids (decide (t.kind = 3)) (decide (t.kind = 2)) 0 (way ++ t.path) := by
  cases t; rw [itemsP]; rfl
mutual
theorem itemsP_len : ∀ (t : Nd) (way : List UInt8) (known : Bool), (itemsP t way known).length + 5 ≤ sz t
  | .mk k p has v ks h, way, known => by
    have := itemsK_len ks (decide (k = 3)) (decide (k = 2)) 0 (way ++ p)
    rw [itemsP, sz]
    split
    · simp; omega
    · simp only [List.length_append]
      split <;> simp <;> omega
theorem itemsK_len : ∀ (ks : List Nd) (br known : Bool) (i : Nat) (at_ : List UInt8), (itemsK ks br known i at_).length + 5 * ks.length ≤ szs ks
  | [], _, _, _, _ => by simp [itemsK]
  | t :: ts, br, known, i, at_ => by
    have := itemsP_len t (if br then at_ ++ [UInt8.ofNat i] else at_) known
    have := itemsK_len ts br known (i + 1) at_
    rw [itemsK, szs, List.length_cons, List.length_append]; omega
end
theorem is_items : isFn Tryd.prog 22 = true := by kernel_rfl
def ItemsOk (t : Nd) : Prop := ∀ (gs : List (Option Nat)) (w : World) (cs : List Value) (way : List UInt8) (A1 : Option Addr) (n1 c1 : Nat) (known : Bool),
  RdL w (Fd w gs) (dN t) cs → RdD w (Fd w gs) (dB way) (.slice A1 n1 c1) → (∀ b, some b ∈ gs → b < w.heap.size) → n1 + sz t ≤ 100000000 →
  Calls Tryd.prog 22 #[.agg cs.toArray, .slice A1 n1 c1, .bool known] w fun e w' => ∃ A n c, e = .returned (.slice A n c) ∧ RdD w' (Fd w' gs) (dIl (itemsP t way known)) (.slice A n c) ∧ Below w.heap.size w w'
set_option maxRecDepth 100000 in
set_option maxHeartbeats 1000000 in
theorem items_step (N : Nat) (ih : ∀ k : Nd, sz k < N → ItemsOk k) (t : Nd) (ht : sz t ≤ N) : ItemsOk t := by
  intro gs w cs way A1 n1 c1 known hr hw hgs hn1
  refine calls_ev (args := [.agg cs.toArray, .slice A1 n1 c1, .bool known]) mixed Tryd.func22 rfl (by kernel_rfl) ?_
  have hsz := sz_eq t
  have hsl := szs_len t.kids
  have en1 := hw.slen
  obtain ⟨Ap, cp, Av, cv, Ak, ck, Ah, ch, rfl, r1, r3, r4, r5⟩ := hr.node
  have M := (((((St.start hgs).addD hw).addD r5).addD r4).addD r3).addD r1
  clear r1 r3 r4 r5 hr hw
  obtain ⟨T, hT⟩ : ∃ T, T = itemsP t way known := ⟨_, rfl⟩
  have hTl := itemsP_len t way known
  rw [← hT] at hTl ⊢
  rw [itemsP_eq] at hT
  refine ev_assoc (ev_assoc (ev_assoc (ev_assoc (ev_assoc (ev_assoc ?_)))))
  obtain ⟨AT, hAT⟩ : ∃ AT, AT = way ++ t.path := ⟨_, rfl⟩
  obtain ⟨n3, hn3⟩ : ∃ n3, n3 = 0 + n1 + t.path.length := ⟨_, rfl⟩
  rw [← hAT] at hT
  refine cutS (Nat × Option Addr × Nat × Option Addr × Nat × Nat × List Value × List It) (fun s W => St w gs W [(s.1, 26, ncs t Ap cp Av cv Ak ck Ah ch)] [⟨45, 5, s.2.2.2.1, s.2.2.2.2.1, s.2.2.2.2.2.1, s.2.2.2.2.2.2.1⟩] [.dat false (dIs s.2.2.2.2.2.2.2) s.2.2.2.2.2.2.1, .dat false [dB AT] [.slice s.2.1 n3 s.2.2.1], .dat false [dKs t.kids] [.slice Ak t.kids.length ck]] ∧ s.2.2.2.2.1 = s.2.2.2.2.2.2.2.length ∧ T = s.2.2.2.2.2.2.2 ++ itemsK t.kids (decide (t.kind = 3)) (decide (t.kind = 2)) 0 AT)
    (fun s => [(3, .pointer (some ⟨s.1, 0, none⟩)), (7, .slice s.2.1 n3 s.2.2.1), (8, .slice s.2.2.2.1 s.2.2.2.2.1 s.2.2.2.2.2.1)]) ?_ ?_
  ·
    refine s_box (ncs t Ap cp Av cv Ak ck Ah ch) M rfl ?_
    clear M
    rintro g3 W M
    replace M := M.nilR 5 1
    refine s_appB (l := []) M rfl rfl (M.rdb 4 rfl).2.2 (by omega) ?_
    clear M; rintro A2 c2 W M -
    refine p_fld fN1 rfl ?_
    refine v_load agg_b rfl (by first | exact (M.B 0 rfl).at_ rfl | exact (M.B 1 rfl).at_ rfl | exact (M.B 2 rfl).at_ rfl | exact (M.B 3 rfl).at_ rfl | exact (M.B 4 rfl).at_ rfl | exact M.lc 0 rfl _ _ rfl | exact M.lc 1 rfl _ _ rfl | exact M.lc 2 rfl _ _ rfl | exact M.lc 3 rfl _ _ rfl | exact M.lc 4 rfl _ _ rfl | exact M.lc 5 rfl _ _ rfl | exact M.lc 6 rfl _ _ rfl | exact M.lc 7 rfl _ _ rfl) ?_
    refine s_appB M rfl rfl (M.rdb 0 rfl).2.2 (by omega) ?_
    clear M; rintro A3 c3 W M -
    replace M := M.frzO
    rw [List.nil_append, ← hAT, ← hn3] at M
    rw [← hn3]
    have hal : AT.length = n3 := by rw [hAT, List.length_append]; omega
    refine p_fld fN0 rfl ?_
    refine v_load agg_int rfl (by first | exact (M.B 0 rfl).at_ rfl | exact (M.B 1 rfl).at_ rfl | exact (M.B 2 rfl).at_ rfl | exact (M.B 3 rfl).at_ rfl | exact (M.B 4 rfl).at_ rfl | exact M.lc 0 rfl _ _ rfl | exact M.lc 1 rfl _ _ rfl | exact M.lc 2 rfl _ _ rfl | exact M.lc 3 rfl _ _ rfl | exact M.lc 4 rfl _ _ rfl | exact M.lc 5 rfl _ _ rfl | exact M.lc 6 rfl _ _ rfl | exact M.lc 7 rfl _ _ rfl) ?_
    refine p_eq rfl rfl (fun h4 => ?_) (fun h4 => ?_)
    · rw [if_pos h4] at hT
      refine p_fld fN5 rfl ?_
      refine v_load agg_b rfl (by first | exact (M.B 0 rfl).at_ rfl | exact (M.B 1 rfl).at_ rfl | exact (M.B 2 rfl).at_ rfl | exact (M.B 3 rfl).at_ rfl | exact (M.B 4 rfl).at_ rfl | exact M.lc 0 rfl _ _ rfl | exact M.lc 1 rfl _ _ rfl | exact M.lc 2 rfl _ _ rfl | exact M.lc 3 rfl _ _ rfl | exact M.lc 4 rfl _ _ rfl | exact M.lc 5 rfl _ _ rfl | exact M.lc 6 rfl _ _ rfl | exact M.lc 7 rfl _ _ rfl) ?_
      subst hal
      refine p_build (vs := ics ⟨AT, [], true, known, t.hash⟩ A3 c3 none 0 Ah ch) pl_it z_it rfl ?_
      have hI : RdL _ _ (dI ⟨AT, [], true, known, t.hash⟩) (ics ⟨AT, [], true, known, t.hash⟩ A3 c3 none 0 Ah ch) := RdL.ofitem (M.w1_0) (RdD.nil_ _ _) (M.w1_4)
      refine s_bslice (fr := false) (ds := dI ⟨AT, [], true, known, t.hash⟩) (ics ⟨AT, [], true, known, t.hash⟩ A3 c3 none 0 Ah ch) M sli z_it rfl (by decide) rfl hI rfl ?_
      clear M hI; rintro g9 W M
      rw [hT]
      exact ⟨_, 1, 1, rfl, M.fin1 0 rfl, M.below⟩
    rw [if_neg h4] at hT
    replace M := (M.nilR 45 5).addT (fr := false) (ds := dIs []) (cs := []) RdL.nil_
    refine p_fld fN0 rfl ?_
    refine v_load agg_int rfl (by first | exact (M.B 0 rfl).at_ rfl | exact (M.B 1 rfl).at_ rfl | exact (M.B 2 rfl).at_ rfl | exact (M.B 3 rfl).at_ rfl | exact (M.B 4 rfl).at_ rfl | exact M.lc 0 rfl _ _ rfl | exact M.lc 1 rfl _ _ rfl | exact M.lc 2 rfl _ _ rfl | exact M.lc 3 rfl _ _ rfl | exact M.lc 4 rfl _ _ rfl | exact M.lc 5 rfl _ _ rfl | exact M.lc 6 rfl _ _ rfl | exact M.lc 7 rfl _ _ rfl) ?_
    refine p_eq rfl rfl (fun h1 => ?_) (fun h1 => ?_)
    ·
      rw [if_pos (.inl h1)] at hT
      refine p_fld fN3 rfl ?_
      refine v_load agg_b rfl (by first | exact (M.B 0 rfl).at_ rfl | exact (M.B 1 rfl).at_ rfl | exact (M.B 2 rfl).at_ rfl | exact (M.B 3 rfl).at_ rfl | exact (M.B 4 rfl).at_ rfl | exact M.lc 0 rfl _ _ rfl | exact M.lc 1 rfl _ _ rfl | exact M.lc 2 rfl _ _ rfl | exact M.lc 3 rfl _ _ rfl | exact M.lc 4 rfl _ _ rfl | exact M.lc 5 rfl _ _ rfl | exact M.lc 6 rfl _ _ rfl | exact M.lc 7 rfl _ _ rfl) ?_
      subst hal
      refine p_build (vs := ics ⟨AT, t.val, false, false, []⟩ A3 c3 Av cv none 0) pl_it z_it rfl ?_
      have hI : RdL _ _ (dI ⟨AT, t.val, false, false, []⟩) (ics ⟨AT, t.val, false, false, []⟩ A3 c3 Av cv none 0) := RdL.ofitem (M.w1_1) (M.w1_3) (RdD.nil_ _ _)
      refine s_bsliceB (ics ⟨AT, t.val, false, false, []⟩ A3 c3 Av cv none 0) (M.addT hI) sli z_it rfl (by decide) rfl ?_
      clear M hI; rintro g9 W M
      refine s_app M Tryd.underlying42 itinfo rfl (by decide) rfl rfl (Reads.blk (M.B 0 rfl) rfl) (all1 rfl) ⟨by omega, by decide⟩ ?_
      clear M; rintro A5 c5 W M -
      have hX := (M.dt 1 rfl).app (M.dt 0 rfl)
      replace M := (M.addT (ds := dIs [⟨AT, t.val, false, false, []⟩]) hX).addL (M.da 2 rfl)
      refine ⟨(g3, A3, c3, A5, 1, c5, _, [⟨AT, t.val, false, false, []⟩]), ⟨M.dropL.fsub _ (by simp), rfl, hT⟩, (by repeat (first | exact trivial | refine ⟨rfl, ?_⟩))⟩
    · refine p_fld fN2 rfl ?_
      refine v_load agg_bo rfl (by first | exact (M.B 0 rfl).at_ rfl | exact (M.B 1 rfl).at_ rfl | exact (M.B 2 rfl).at_ rfl | exact (M.B 3 rfl).at_ rfl | exact (M.B 4 rfl).at_ rfl | exact M.lc 0 rfl _ _ rfl | exact M.lc 1 rfl _ _ rfl | exact M.lc 2 rfl _ _ rfl | exact M.lc 3 rfl _ _ rfl | exact M.lc 4 rfl _ _ rfl | exact M.lc 5 rfl _ _ rfl | exact M.lc 6 rfl _ _ rfl | exact M.lc 7 rfl _ _ rfl) ?_
      cases hh : t.has with
      | true =>
        rw [if_pos (.inr hh)] at hT
        refine p_fld fN3 rfl ?_
        refine v_load agg_b rfl (by first | exact (M.B 0 rfl).at_ rfl | exact (M.B 1 rfl).at_ rfl | exact (M.B 2 rfl).at_ rfl | exact (M.B 3 rfl).at_ rfl | exact (M.B 4 rfl).at_ rfl | exact M.lc 0 rfl _ _ rfl | exact M.lc 1 rfl _ _ rfl | exact M.lc 2 rfl _ _ rfl | exact M.lc 3 rfl _ _ rfl | exact M.lc 4 rfl _ _ rfl | exact M.lc 5 rfl _ _ rfl | exact M.lc 6 rfl _ _ rfl | exact M.lc 7 rfl _ _ rfl) ?_
        subst hal
        refine p_build (vs := ics ⟨AT, t.val, false, false, []⟩ A3 c3 Av cv none 0) pl_it z_it rfl ?_
        have hI : RdL _ _ (dI ⟨AT, t.val, false, false, []⟩) (ics ⟨AT, t.val, false, false, []⟩ A3 c3 Av cv none 0) := RdL.ofitem (M.w1_1) (M.w1_3) (RdD.nil_ _ _)
        refine s_bsliceB (ics ⟨AT, t.val, false, false, []⟩ A3 c3 Av cv none 0) (M.addT hI) sli z_it rfl (by decide) rfl ?_
        clear M hI; rintro g9 W M
        refine s_app M Tryd.underlying42 itinfo rfl (by decide) rfl rfl (Reads.blk (M.B 0 rfl) rfl) (all1 rfl) ⟨by omega, by decide⟩ ?_
        clear M; rintro A5 c5 W M -
        have hX := (M.dt 1 rfl).app (M.dt 0 rfl)
        replace M := (M.addT (ds := dIs [⟨AT, t.val, false, false, []⟩]) hX).addL (M.da 2 rfl)
        refine ⟨(g3, A3, c3, A5, 1, c5, _, [⟨AT, t.val, false, false, []⟩]), ⟨M.dropL.fsub _ (by simp), rfl, hT⟩, (by repeat (first | exact trivial | refine ⟨rfl, ?_⟩))⟩
      | false =>
        rw [if_neg (by rw [hh]; simp [h1])] at hT
        refine ⟨(g3, A3, c3, none, 0, 0, [], []), ⟨(M.addL (M.da 1 rfl)).fsub _ (by simp), rfl, hT⟩, (by repeat (first | exact trivial | refine ⟨rfl, ?_⟩))⟩
  · clear M hT
    rintro ⟨g3, A3, c3, A6, n6, c6, xs6, don⟩ B6 W6 ⟨M, hn6, hT⟩
    dsimp only at M hn6 hT
    refine lp (Nat × Option Addr × Nat × Nat × List Value × List It) (fun s W => s.1 ≤ t.kids.length ∧ St w gs W [(g3, 26, ncs t Ap cp Av cv Ak ck Ah ch)] [⟨45, 5, s.2.1, s.2.2.1, s.2.2.2.1, s.2.2.2.2.1⟩] [.dat false (dIs s.2.2.2.2.2) s.2.2.2.2.1, .dat false [dB AT] [.slice A3 n3 c3], .dat false [dKs t.kids] [.slice Ak t.kids.length ck]] ∧ s.2.2.1 = s.2.2.2.2.2.length ∧ T = s.2.2.2.2.2 ++ itemsK (t.kids.drop s.1) (decide (t.kind = 3)) (decide (t.kind = 2)) s.1 AT)
      (fun s => [(3, .pointer (some ⟨g3, 0, none⟩)), (7, .slice A3 n3 c3), (8, .slice s.2.1 s.2.2.1 s.2.2.2.1), (9, .int .i64 s.1)]) (fun s => t.kids.length - s.1) (0, A6, n6, c6, xs6, don)
      ⟨Nat.zero_le _, M, hn6, by simp only [List.drop_zero]; exact hT⟩ (by repeat (first | exact trivial | refine ⟨rfl, ?_⟩)) ?_
    clear M hT hn6
    rintro ⟨i, A7, n7, c7, xs7, don7⟩ E7 W7 ⟨hi, M, hn7, hT⟩
    dsimp only at hi M hn7 hT
    refine p_fld fN4 rfl ?_
    refine v_load agg_ns rfl (by first | exact (M.B 0 rfl).at_ rfl | exact (M.B 1 rfl).at_ rfl | exact (M.B 2 rfl).at_ rfl | exact (M.B 3 rfl).at_ rfl | exact (M.B 4 rfl).at_ rfl | exact M.lc 0 rfl _ _ rfl | exact M.lc 1 rfl _ _ rfl | exact M.lc 2 rfl _ _ rfl | exact M.lc 3 rfl _ _ rfl | exact M.lc 4 rfl _ _ rfl | exact M.lc 5 rfl _ _ rfl | exact M.lc 6 rfl _ _ rfl | exact M.lc 7 rfl _ _ rfl) ?_
    refine p_len sln rfl ?_
    refine p_lt rfl rfl (fun hlt => ?_) (fun hge => ?_)
    · dsimp only at hlt
      obtain ⟨k, hki⟩ : ∃ k, t.kids[i]? = some k := ⟨_, List.getElem?_eq_getElem (by omega)⟩
      have hdr : t.kids.drop i = k :: t.kids.drop (i + 1) := by
        have h1 := (List.getElem?_eq_some_iff.1 hki)
        rw [List.drop_eq_getElem_cons h1.1, h1.2]
      rw [hdr] at hT
      unfold itemsK at hT
      have hkz := szs_mem (List.mem_of_getElem? hki)
      have hTl2 : don7.length ≤ T.length := by rw [hT, List.length_append]; omega
      replace M := M.nilR 5 1
      refine s_appB (l := []) M rfl rfl (M.rdb 1 rfl).2.2 (by omega) ?_
      clear M; rintro A4 c4 W M -
      rw [List.nil_append, Nat.zero_add] at M
      rw [Nat.zero_add]
      refine p_fld fN0 rfl ?_
      refine v_load agg_int rfl (by first | exact (M.B 0 rfl).at_ rfl | exact (M.B 1 rfl).at_ rfl | exact (M.B 2 rfl).at_ rfl | exact (M.B 3 rfl).at_ rfl | exact (M.B 4 rfl).at_ rfl | exact M.lc 0 rfl _ _ rfl | exact M.lc 1 rfl _ _ rfl | exact M.lc 2 rfl _ _ rfl | exact M.lc 3 rfl _ _ rfl | exact M.lc 4 rfl _ _ rfl | exact M.lc 5 rfl _ _ rfl | exact M.lc 6 rfl _ _ rfl | exact M.lc 7 rfl _ _ rfl) ?_
      refine p_eq rfl rfl (fun h3 => ?_) (fun h3 => ?_)
      · rw [decide_eq_true h3] at hT
        rw [decide_eq_true h3]
        simp only [if_true] at hT
        refine v_cvt u_int u_u8 rfl (r := ((i % 256 : Nat) : Int)) (by rw [IntKind.wrap_u8']; omega) ?_
        refine s_litB [.int .u8 ((i % 256 : Nat) : Int)] [UInt8.ofNat i] M (by decide) rfl (bvs1 i) rfl ?_
        clear M; rintro g9 W M
        replace M := M.frzO
        refine s_appB M rfl rfl (M.rdb 0 rfl).2.2 (by omega) ?_
        clear M; rintro A9 c9 W M -
        replace M := M.frzO
        replace M := M.drew
        obtain ⟨b, off, es, rfl, hel, M'⟩ := M.kid (by first | with_reducible exact M.d1_0 | with_reducible exact M.d1_1 | with_reducible exact M.d1_2 | with_reducible exact M.d1_3 | with_reducible exact M.d1_4 | with_reducible exact M.d1_5 | with_reducible exact M.d1_6 | with_reducible exact M.d1_7 | with_reducible exact M.d1_8 | with_reducible exact M.d1_9 | with_reducible exact M.d1_10 | with_reducible exact M.d1_11) hki
        replace M := M'; clear M'
        refine drT (Kp w gs [(g3, 26, ncs t Ap cp Av cv (some ⟨b, off, none⟩) ck Ah ch)] [.loc ((⟨b, off, none⟩ : Addr).add (i * 6)) es]) (.take 0 (.take 1 (.take 2 (.take 3 (.take 4 (.take 5 (.take 6 (.take 7 (.take 8 (.take 9 (.one 10 (.one 11 (.take 12 (.nil)))))))))))))) (by kernel_rfl) (M.kp (by simp) (by simp)) ?_
        refine p_fld fN4 rfl ?_
        refine t_load agg_ns rfl (fun W K => by first | exact (K.B 0 rfl).at_ rfl | exact (K.B 1 rfl).at_ rfl | exact (K.B 2 rfl).at_ rfl | exact (K.B 3 rfl).at_ rfl | exact K.lc 0 rfl _ _ rfl | exact K.lc 1 rfl _ _ rfl | exact K.lc 2 rfl _ _ rfl | exact K.lc 3 rfl _ _ rfl) ?_
        refine p_at sln rfl rfl rfl (by omega) ?_
        refine t_loadN es agg_nd rfl hel (fun W K => K.lc 0 rfl) ?_
        refine p_fld fN0 rfl ?_
        refine t_load agg_int rfl (fun W K => by first | exact (K.B 0 rfl).at_ rfl | exact (K.B 1 rfl).at_ rfl | exact (K.B 2 rfl).at_ rfl | exact (K.B 3 rfl).at_ rfl | exact K.lc 0 rfl _ _ rfl | exact K.lc 1 rfl _ _ rfl | exact K.lc 2 rfl _ _ rfl | exact K.lc 3 rfl _ _ rfl) ?_
        refine p_eqD rfl rfl ?_
        have hcall := ih k (by omega) _ _ es (AT ++ [UInt8.ofNat i]) A9 _ c9 (decide (t.kind = 2)) (by first | with_reducible exact M.da_0 | with_reducible exact M.da_1 | with_reducible exact M.da_2 | with_reducible exact M.da_3 | with_reducible exact M.da_4 | with_reducible exact M.da_5 | with_reducible exact M.da_6 | with_reducible exact M.da_7 | with_reducible exact M.da_8 | with_reducible exact M.da_9 | with_reducible exact M.da_10 | with_reducible exact M.da_11) (by first | with_reducible exact M.d1_0 | with_reducible exact M.d1_1 | with_reducible exact M.d1_2 | with_reducible exact M.d1_3 | with_reducible exact M.d1_4 | with_reducible exact M.d1_5 | with_reducible exact M.d1_6 | with_reducible exact M.d1_7 | with_reducible exact M.d1_8 | with_reducible exact M.d1_9 | with_reducible exact M.d1_10 | with_reducible exact M.d1_11) M.olt (by omega)
        refine cc is_items hcall ?_
        clear hcall
        rintro e W ⟨A8, n8, c8, rfl, h8, hb⟩
        have e8 := h8.slen
        subst e8
        replace M := (M.call hb).addD h8
        refine ⟨_, rfl, (M.kp (by simp) (by simp)), ?_⟩
        obtain ⟨ys, hrd, hys⟩ := h8.reads Fd.lt
        replace M := M.addL hys
        refine s_app M Tryd.underlying42 itinfo rfl (by decide) rfl rfl hrd (hys.ones (dIs_one _)) ⟨by have := itemsP_len k (AT ++ [UInt8.ofNat i]) (decide (t.kind = 2)); omega, by decide⟩ ?_
        clear M; rintro A9 c9 W M -
        refine ⟨(M.kp (by simp) (by simp)), ?_⟩
        have hX := (M.dw 6 rfl).app (M.dw 0 rfl)
        rw [← dIs_app] at hX
        refine p_addN (b := 1) rfl rfl (by omega) ?_
        refine ⟨(i + 1, A9, n7 + (itemsP k (AT ++ [UInt8.ofNat i]) (decide (t.kind = 2))).length, c9, xs7 ++ ys, don7 ++ itemsP k (AT ++ [UInt8.ofNat i]) (decide (t.kind = 2))), ⟨by dsimp only; omega, (M.addT hX).fsub _ (by simp), by dsimp only; rw [List.length_append]; omega, by rw [hT, List.append_assoc]⟩, (by repeat (first | exact trivial | refine ⟨rfl, ?_⟩)), by dsimp only; omega⟩
      · rw [decide_eq_false h3] at hT
        rw [decide_eq_false h3]
        simp only [Bool.false_eq_true, if_false] at hT
        replace M := M.frzO
        replace M := M.drew
        obtain ⟨b, off, es, rfl, hel, M'⟩ := M.kid (by first | with_reducible exact M.d1_0 | with_reducible exact M.d1_1 | with_reducible exact M.d1_2 | with_reducible exact M.d1_3 | with_reducible exact M.d1_4 | with_reducible exact M.d1_5 | with_reducible exact M.d1_6 | with_reducible exact M.d1_7 | with_reducible exact M.d1_8 | with_reducible exact M.d1_9 | with_reducible exact M.d1_10 | with_reducible exact M.d1_11) hki
        replace M := M'; clear M'
        refine drT (Kp w gs [(g3, 26, ncs t Ap cp Av cv (some ⟨b, off, none⟩) ck Ah ch)] [.loc ((⟨b, off, none⟩ : Addr).add (i * 6)) es]) (.take 0 (.take 1 (.take 2 (.take 3 (.take 4 (.take 5 (.take 6 (.take 7 (.take 8 (.take 9 (.one 10 (.one 11 (.take 12 (.nil)))))))))))))) (by kernel_rfl) (M.kp (by simp) (by simp)) ?_
        refine p_fld fN4 rfl ?_
        refine t_load agg_ns rfl (fun W K => by first | exact (K.B 0 rfl).at_ rfl | exact (K.B 1 rfl).at_ rfl | exact (K.B 2 rfl).at_ rfl | exact (K.B 3 rfl).at_ rfl | exact K.lc 0 rfl _ _ rfl | exact K.lc 1 rfl _ _ rfl | exact K.lc 2 rfl _ _ rfl | exact K.lc 3 rfl _ _ rfl) ?_
        refine p_at sln rfl rfl rfl (by omega) ?_
        refine t_loadN es agg_nd rfl hel (fun W K => K.lc 0 rfl) ?_
        refine p_fld fN0 rfl ?_
        refine t_load agg_int rfl (fun W K => by first | exact (K.B 0 rfl).at_ rfl | exact (K.B 1 rfl).at_ rfl | exact (K.B 2 rfl).at_ rfl | exact (K.B 3 rfl).at_ rfl | exact K.lc 0 rfl _ _ rfl | exact K.lc 1 rfl _ _ rfl | exact K.lc 2 rfl _ _ rfl | exact K.lc 3 rfl _ _ rfl) ?_
        refine p_eqD rfl rfl ?_
        have hcall := ih k (by omega) _ _ es (AT) A4 n3 c4 (decide (t.kind = 2)) (by first | with_reducible exact M.da_0 | with_reducible exact M.da_1 | with_reducible exact M.da_2 | with_reducible exact M.da_3 | with_reducible exact M.da_4 | with_reducible exact M.da_5 | with_reducible exact M.da_6 | with_reducible exact M.da_7 | with_reducible exact M.da_8 | with_reducible exact M.da_9 | with_reducible exact M.da_10 | with_reducible exact M.da_11) (by first | with_reducible exact M.d1_0 | with_reducible exact M.d1_1 | with_reducible exact M.d1_2 | with_reducible exact M.d1_3 | with_reducible exact M.d1_4 | with_reducible exact M.d1_5 | with_reducible exact M.d1_6 | with_reducible exact M.d1_7 | with_reducible exact M.d1_8 | with_reducible exact M.d1_9 | with_reducible exact M.d1_10 | with_reducible exact M.d1_11) M.olt (by omega)
        refine cc is_items hcall ?_
        clear hcall
        rintro e W ⟨A8, n8, c8, rfl, h8, hb⟩
        have e8 := h8.slen
        subst e8
        replace M := (M.call hb).addD h8
        refine ⟨_, rfl, (M.kp (by simp) (by simp)), ?_⟩
        obtain ⟨ys, hrd, hys⟩ := h8.reads Fd.lt
        replace M := M.addL hys
        refine s_app M Tryd.underlying42 itinfo rfl (by decide) rfl rfl hrd (hys.ones (dIs_one _)) ⟨by have := itemsP_len k (AT) (decide (t.kind = 2)); omega, by decide⟩ ?_
        clear M; rintro A9 c9 W M -
        refine ⟨(M.kp (by simp) (by simp)), ?_⟩
        have hX := (M.dw 5 rfl).app (M.dw 0 rfl)
        rw [← dIs_app] at hX
        refine p_addN (b := 1) rfl rfl (by omega) ?_
        refine ⟨(i + 1, A9, n7 + (itemsP k (AT) (decide (t.kind = 2))).length, c9, xs7 ++ ys, don7 ++ itemsP k (AT) (decide (t.kind = 2))), ⟨by dsimp only; omega, (M.addT hX).fsub _ (by simp), by dsimp only; rw [List.length_append]; omega, by rw [hT, List.append_assoc]⟩, (by repeat (first | exact trivial | refine ⟨rfl, ?_⟩)), by dsimp only; omega⟩
    · dsimp only at hge
      rw [List.drop_of_length_le (by omega)] at hT
      unfold itemsK at hT
      rw [List.append_nil] at hT
      subst hT
      subst hn7
      replace M := M.frzR (fr := false) (M.dt 0 rfl)
      exact ⟨A7, _, c7, rfl, M.fin1 0 rfl, M.below⟩
theorem items_any : ∀ (N : Nat), ∀ t : Nd, sz t < N → ItemsOk t
  | 0, t, h => by omega
  | N + 1, t, h => items_step N (fun k hk => items_any N k hk) t (by omega)
end Go.Proofs.YtojjfkbffjkojaaDoor
