/- Reference 08: items as data; the walk of Items. Halves of bytes: packed and unpacked: the program's own. Halves of bytes: unpacked; compared: the program's own. Halves of bytes: the reference's walks. Halves of bytes: the reference's walks of what is packed. -/
import Derived.Test.YtkfbkhahkkmcoaaG07
import Derived.Test.YtkfbkhahkkmcoaaG06
import Derived.Test.YtkfbkhahkkmcoaaG03
namespace Go.Proofs.Ytkfbkhahkkmcoaa
open Go.RowKit
structure It where
  path : List UInt8
  val : List UInt8
  stub : Bool
  known : Bool
  hash : List UInt8
def dI (x : It) : List D := [dB x.path, dB x.val, .v (.bool x.stub), .v (.bool x.known), dB x.hash]
theorem dI_len (x : It) : (dI x).length = 5 := rfl
def dIs (l : List It) : List D := l.flatMap dI
abbrev dIl (l : List It) : D := .sl 5 l.length (dIs l)
theorem dIs_app (a b : List It) : dIs (a ++ b) = dIs a ++ dIs b := by unfold dIs; rw [List.flatMap_append]
theorem dIs_one (l : List It) : ∀ d ∈ dIs l, d.One := by
  intro d hd
  unfold dIs at hd
  obtain ⟨x, _, hx⟩ := List.mem_flatMap.1 hd
  simp only [dI, List.mem_cons, List.not_mem_nil, or_false] at hx
  rcases hx with rfl | rfl | rfl | rfl | rfl <;> first | trivial | rfl
theorem sli : slOf Try.prog 87 = some (90, 5) := by kernel_rfl
theorem agg_it : aggOf Try.prog 90 = some (true, 5) := by kernel_rfl
theorem fI0 : fieldOff Try.prog 90 0 = some 0 := by kernel_rfl
theorem fI1 : fieldOff Try.prog 90 1 = some 1 := by kernel_rfl
theorem fI2 : fieldOff Try.prog 90 2 = some 2 := by kernel_rfl
theorem fI3 : fieldOff Try.prog 90 3 = some 3 := by kernel_rfl
theorem fI4 : fieldOff Try.prog 90 4 = some 4 := by kernel_rfl
def zI : List Value := [.slice none 0 0, .slice none 0 0, .bool false, .bool false, .slice none 0 0]
theorem pl_it : placesOf Try.prog 90 = some [(0, 1), (1, 1), (2, 1), (3, 1), (4, 1)] := by kernel_rfl
theorem z_it : zeroOf Try.prog 90 = some zI := by kernel_rfl
theorem itinfo : (Try.prog.info? 90).map (fun i => (i.zero, i.size, i.bytes)) = some (some (.agg zI.toArray), 5, 80) := by kernel_rfl
def ics (x : It) (Ap : Option Addr) (cp : Nat) (Av : Option Addr) (cv : Nat) (Ah : Option Addr) (ch : Nat) : List Value := [.slice Ap x.path.length cp, .slice Av x.val.length cv, .bool x.stub, .bool x.known, .slice Ah x.hash.length ch]
theorem RdL.item {W : World} {F : Nat → Prop} {x : It} {cs : List Value} (h : RdL W F (dI x) cs) : ∃ Ap cp Av cv Ah ch, cs = ics x Ap cp Av cv Ah ch ∧ RdD W F (dB x.path) (.slice Ap x.path.length cp) ∧ RdD W F (dB x.val) (.slice Av x.val.length cv) ∧ RdD W F (dB x.hash) (.slice Ah x.hash.length ch) := by
  obtain ⟨u0, _, rfl, h0, h⟩ := (show RdL W F [dB x.path, dB x.val, .v (.bool x.stub), .v (.bool x.known), dB x.hash] cs from h).uncons
  obtain ⟨u1, _, rfl, h1, h⟩ := h.uncons
  obtain ⟨u2, _, rfl, h2, h⟩ := h.uncons
  obtain ⟨u3, _, rfl, h3, h⟩ := h.uncons
  obtain ⟨u4, _, rfl, h4, h⟩ := h.uncons
  rw [h.isnil]
  obtain ⟨A0, c0, e0, _⟩ := h0.open_
  obtain ⟨A1, c1, e1, _⟩ := h1.open_
  obtain ⟨A4, c4, e4, _⟩ := h4.open_
  have e2 := RdD.val.1 h2
  have e3 := RdD.val.1 h3
  subst e0; subst e1; subst e2; subst e3; subst e4
  exact ⟨A0, c0, A1, c1, A4, c4, rfl, h0, h1, h4⟩
theorem RdL.ofitem {W : World} {F : Nat → Prop} {x : It} {Ap Av Ah : Option Addr} {cp cv ch : Nat} (h0 : RdD W F (dB x.path) (.slice Ap x.path.length cp)) (h1 : RdD W F (dB x.val) (.slice Av x.val.length cv)) (h4 : RdD W F (dB x.hash) (.slice Ah x.hash.length ch)) : RdL W F (dI x) (ics x Ap cp Av cv Ah ch) :=
  RdL.cons h0 (RdL.cons h1 (RdL.cons (RdD.ofv _) (RdL.cons (RdD.ofv _) (RdL.cons h4 RdL.nil_))))
/-- An item of a slice that stays. -/
theorem St.item {w W : World} {gs : List (Option Nat)} {L : Lc} {R : List Row} {fs : List Fact} (M : St w gs W L R fs) {l : List It} {A : Option Addr} {n c i : Nat} {x : It} (h : RdD W (Fd W (own L R gs)) (dIl l) (.slice A n c)) (hi : l[i]? = some x) :
    ∃ b off Ap cp Av cv Ah ch, A = some ⟨b, off, none⟩ ∧ St w gs W L R (.loc ((⟨b, off, none⟩ : Addr).add (i * 5)) (ics x Ap cp Av cv Ah ch) :: .dat false (dI x) (ics x Ap cp Av cv Ah ch) :: .dat false [dB x.path] [.slice Ap x.path.length cp] :: .dat false [dB x.val] [.slice Av x.val.length cv] :: .dat false [dB x.hash] [.slice Ah x.hash.length ch] :: fs) := by
  obtain ⟨b, off, es, e, hF, hes, hel, hc⟩ := RdD.elt dI 5 dI_len h hi
  have hes' := hes
  obtain ⟨Ap, cp, Av, cv, Ah, ch, rfl, h1, h2, h3⟩ := hes.item
  exact ⟨b, off, Ap, cp, Av, cv, Ah, ch, e, ((((M.addD h3).addD h2).addD h1).addL hes').addC (by rw [block_of_add]; exact hF) hc⟩
mutual
def itemsP : Nd → List UInt8 → Bool → List It
  | .mk k p has v ks h, way, known =>
    if k = 4 then [⟨way ++ p, [], true, known, h⟩]
    else (if k = 1 ∨ has = true then [⟨way ++ p, v, false, false, []⟩] else []) ++ itemsK ks (decide (k = 3)) (decide (k = 2)) 0 (way ++ p)
def itemsK : List Nd → Bool → Bool → Nat → List UInt8 → List It
  | [], _, _, _, _ => []
  | t :: ts, br, known, i, at_ => itemsP t (if br then at_ ++ [UInt8.ofNat i] else at_) known ++ itemsK ts br known (i + 1) at_
end
theorem itemsP_eq (t : Nd) (way : List UInt8) (known : Bool) : itemsP t way known = if t.kind = 4 then [⟨way ++ t.path, [], true, known, t.hash⟩] else (if t.kind = 1 ∨ t.has = true then [⟨way ++ t.path, t.val, false, false, []⟩] else []) ++ itemsK t.kids (decide (t.kind = 3)) (decide (t.kind = 2)) 0 (way ++ t.path) := by
  cases t; rw [itemsP]; rfl
mutual
theorem itemsP_len : ∀ (t : Nd) (way : List UInt8) (known : Bool), (itemsP t way known).length + 5 ≤ sz t
  | .mk k p has v ks h, way, known => by
    have := itemsK_len ks (decide (k = 3)) (decide (k = 2)) 0 (way ++ p)
    rw [itemsP, sz]
    split
    · simp; omega
    · simp only [List.length_append]
      split <;> simp <;> omega
theorem itemsK_len : ∀ (ks : List Nd) (br known : Bool) (i : Nat) (at_ : List UInt8), (itemsK ks br known i at_).length + 5 * ks.length ≤ szs ks
  | [], _, _, _, _ => by simp [itemsK]
  | t :: ts, br, known, i, at_ => by
    have := itemsP_len t (if br then at_ ++ [UInt8.ofNat i] else at_) known
    have := itemsK_len ts br known (i + 1) at_
    rw [itemsK, szs, List.length_cons, List.length_append]; omega
end
theorem is_items : isFn Try.prog 55 = true := by kernel_rfl
def ItemsOk (t : Nd) : Prop := ∀ (gs : List (Option Nat)) (w : World) (cs : List Value) (way : List UInt8) (A1 : Option Addr) (n1 c1 : Nat) (known : Bool),
  RdL w (Fd w gs) (dN t) cs → RdD w (Fd w gs) (dB way) (.slice A1 n1 c1) → (∀ b, some b ∈ gs → b < w.heap.size) → n1 + sz t ≤ 100000000 →
  Calls Try.prog 55 #[.agg cs.toArray, .slice A1 n1 c1, .bool known] w fun e w' => ∃ A n c, e = .returned (.slice A n c) ∧ RdD w' (Fd w' gs) (dIl (itemsP t way known)) (.slice A n c) ∧ Below w.heap.size w w'
set_option maxRecDepth 100000 in
set_option maxHeartbeats 1000000 in
theorem items_step (N : Nat) (ih : ∀ k : Nd, sz k < N → ItemsOk k) (t : Nd) (ht : sz t ≤ N) : ItemsOk t := by
  intro gs w cs way A1 n1 c1 known hr hw hgs hn1
  refine calls_ev (args := [.agg cs.toArray, .slice A1 n1 c1, .bool known]) mixed Try.func55 rfl (by kernel_rfl) ?_
  have hsz := sz_eq t
  have hsl := szs_len t.kids
  have en1 := hw.slen
  obtain ⟨Ap, cp, Av, cv, Ak, ck, Ah, ch, rfl, r1, r3, r4, r5⟩ := hr.node
  have M := (((((St.start hgs).addD hw).addD r5).addD r4).addD r3).addD r1
  clear r1 r3 r4 r5 hr hw
  obtain ⟨T, hT⟩ : ∃ T, T = itemsP t way known := ⟨_, rfl⟩
  have hTl := itemsP_len t way known
  rw [← hT] at hTl ⊢
  rw [itemsP_eq] at hT
  refine ev_assoc (ev_assoc (ev_assoc (ev_assoc (ev_assoc (ev_assoc ?_)))))
  obtain ⟨AT, hAT⟩ : ∃ AT, AT = way ++ t.path := ⟨_, rfl⟩
  obtain ⟨n3, hn3⟩ : ∃ n3, n3 = 0 + n1 + t.path.length := ⟨_, rfl⟩
  rw [← hAT] at hT
  refine cutS (Nat × Option Addr × Nat × Option Addr × Nat × Nat × List Value × List It) (fun s W => St w gs W [(s.1, 25, ncs t Ap cp Av cv Ak ck Ah ch)] [⟨90, 5, s.2.2.2.1, s.2.2.2.2.1, s.2.2.2.2.2.1, s.2.2.2.2.2.2.1⟩] [.dat false (dIs s.2.2.2.2.2.2.2) s.2.2.2.2.2.2.1, .dat false [dB AT] [.slice s.2.1 n3 s.2.2.1], .dat false [dKs t.kids] [.slice Ak t.kids.length ck]] ∧ s.2.2.2.2.1 = s.2.2.2.2.2.2.2.length ∧ T = s.2.2.2.2.2.2.2 ++ itemsK t.kids (decide (t.kind = 3)) (decide (t.kind = 2)) 0 AT)
    (fun s => [(3, .pointer (some ⟨s.1, 0, none⟩)), (7, .slice s.2.1 n3 s.2.2.1), (8, .slice s.2.2.2.1 s.2.2.2.2.1 s.2.2.2.2.2.1)]) ?_ ?_
  ·
    refine s_box (ncs t Ap cp Av cv Ak ck Ah ch) M rfl ?_
    clear M
    rintro g3 W M
    replace M := M.nilR 5 1
    refine s_appB (l := []) M rfl rfl (M.rdb 4 rfl).2.2 (by omega) ?_
    clear M; rintro A2 c2 W M -
    refine p_fld fN1 rfl ?_
    refine v_load agg_b rfl (by first | exact (M.B 0 rfl).at_ rfl | exact (M.B 1 rfl).at_ rfl | exact (M.B 2 rfl).at_ rfl | exact (M.B 3 rfl).at_ rfl | exact (M.B 4 rfl).at_ rfl | exact M.lc 0 rfl _ _ rfl | exact M.lc 1 rfl _ _ rfl | exact M.lc 2 rfl _ _ rfl | exact M.lc 3 rfl _ _ rfl | exact M.lc 4 rfl _ _ rfl | exact M.lc 5 rfl _ _ rfl | exact M.lc 6 rfl _ _ rfl | exact M.lc 7 rfl _ _ rfl) ?_
    refine s_appB M rfl rfl (M.rdb 0 rfl).2.2 (by omega) ?_
    clear M; rintro A3 c3 W M -
    replace M := M.frzO
    rw [List.nil_append, ← hAT, ← hn3] at M
    rw [← hn3]
    have hal : AT.length = n3 := by rw [hAT, List.length_append]; omega
    refine p_fld fN0 rfl ?_
    refine v_load agg_int rfl (by first | exact (M.B 0 rfl).at_ rfl | exact (M.B 1 rfl).at_ rfl | exact (M.B 2 rfl).at_ rfl | exact (M.B 3 rfl).at_ rfl | exact (M.B 4 rfl).at_ rfl | exact M.lc 0 rfl _ _ rfl | exact M.lc 1 rfl _ _ rfl | exact M.lc 2 rfl _ _ rfl | exact M.lc 3 rfl _ _ rfl | exact M.lc 4 rfl _ _ rfl | exact M.lc 5 rfl _ _ rfl | exact M.lc 6 rfl _ _ rfl | exact M.lc 7 rfl _ _ rfl) ?_
    refine p_eq rfl rfl (fun h4 => ?_) (fun h4 => ?_)
    · rw [if_pos h4] at hT
      refine p_fld fN5 rfl ?_
      refine v_load agg_b rfl (by first | exact (M.B 0 rfl).at_ rfl | exact (M.B 1 rfl).at_ rfl | exact (M.B 2 rfl).at_ rfl | exact (M.B 3 rfl).at_ rfl | exact (M.B 4 rfl).at_ rfl | exact M.lc 0 rfl _ _ rfl | exact M.lc 1 rfl _ _ rfl | exact M.lc 2 rfl _ _ rfl | exact M.lc 3 rfl _ _ rfl | exact M.lc 4 rfl _ _ rfl | exact M.lc 5 rfl _ _ rfl | exact M.lc 6 rfl _ _ rfl | exact M.lc 7 rfl _ _ rfl) ?_
      subst hal
      refine p_build (vs := ics ⟨AT, [], true, known, t.hash⟩ A3 c3 none 0 Ah ch) pl_it z_it rfl ?_
      have hI : RdL _ _ (dI ⟨AT, [], true, known, t.hash⟩) (ics ⟨AT, [], true, known, t.hash⟩ A3 c3 none 0 Ah ch) := RdL.ofitem (M.w1_0) (RdD.nil_ _ _) (M.w1_4)
      refine s_bslice (fr := false) (ds := dI ⟨AT, [], true, known, t.hash⟩) (ics ⟨AT, [], true, known, t.hash⟩ A3 c3 none 0 Ah ch) M sli z_it rfl (by decide) rfl hI rfl ?_
      clear M hI; rintro g9 W M
      rw [hT]
      exact ⟨_, 1, 1, rfl, M.fin1 0 rfl, M.below⟩
    rw [if_neg h4] at hT
    replace M := (M.nilR 90 5).addT (fr := false) (ds := dIs []) (cs := []) RdL.nil_
    refine p_fld fN0 rfl ?_
    refine v_load agg_int rfl (by first | exact (M.B 0 rfl).at_ rfl | exact (M.B 1 rfl).at_ rfl | exact (M.B 2 rfl).at_ rfl | exact (M.B 3 rfl).at_ rfl | exact (M.B 4 rfl).at_ rfl | exact M.lc 0 rfl _ _ rfl | exact M.lc 1 rfl _ _ rfl | exact M.lc 2 rfl _ _ rfl | exact M.lc 3 rfl _ _ rfl | exact M.lc 4 rfl _ _ rfl | exact M.lc 5 rfl _ _ rfl | exact M.lc 6 rfl _ _ rfl | exact M.lc 7 rfl _ _ rfl) ?_
    refine p_eq rfl rfl (fun h1 => ?_) (fun h1 => ?_)
    ·
      rw [if_pos (.inl h1)] at hT
      refine p_fld fN3 rfl ?_
      refine v_load agg_b rfl (by first | exact (M.B 0 rfl).at_ rfl | exact (M.B 1 rfl).at_ rfl | exact (M.B 2 rfl).at_ rfl | exact (M.B 3 rfl).at_ rfl | exact (M.B 4 rfl).at_ rfl | exact M.lc 0 rfl _ _ rfl | exact M.lc 1 rfl _ _ rfl | exact M.lc 2 rfl _ _ rfl | exact M.lc 3 rfl _ _ rfl | exact M.lc 4 rfl _ _ rfl | exact M.lc 5 rfl _ _ rfl | exact M.lc 6 rfl _ _ rfl | exact M.lc 7 rfl _ _ rfl) ?_
      subst hal
      refine p_build (vs := ics ⟨AT, t.val, false, false, []⟩ A3 c3 Av cv none 0) pl_it z_it rfl ?_
      have hI : RdL _ _ (dI ⟨AT, t.val, false, false, []⟩) (ics ⟨AT, t.val, false, false, []⟩ A3 c3 Av cv none 0) := RdL.ofitem (M.w1_1) (M.w1_3) (RdD.nil_ _ _)
      refine s_bsliceB (ics ⟨AT, t.val, false, false, []⟩ A3 c3 Av cv none 0) (M.addT hI) sli z_it rfl (by decide) rfl ?_
      clear M hI; rintro g9 W M
      refine s_app M Try.underlying87 itinfo rfl (by decide) rfl rfl (Reads.blk (M.B 0 rfl) rfl) (all1 rfl) ⟨by omega, by decide⟩ ?_
      clear M; rintro A5 c5 W M -
      have hX := (M.dt 1 rfl).app (M.dt 0 rfl)
      replace M := (M.addT (ds := dIs [⟨AT, t.val, false, false, []⟩]) hX).addL (M.da 2 rfl)
      refine ⟨(g3, A3, c3, A5, 1, c5, _, [⟨AT, t.val, false, false, []⟩]), ⟨M.dropL.fsub _ (by simp), rfl, hT⟩, (by repeat (first | exact trivial | refine ⟨rfl, ?_⟩))⟩
    · refine p_fld fN2 rfl ?_
      refine v_load agg_bo rfl (by first | exact (M.B 0 rfl).at_ rfl | exact (M.B 1 rfl).at_ rfl | exact (M.B 2 rfl).at_ rfl | exact (M.B 3 rfl).at_ rfl | exact (M.B 4 rfl).at_ rfl | exact M.lc 0 rfl _ _ rfl | exact M.lc 1 rfl _ _ rfl | exact M.lc 2 rfl _ _ rfl | exact M.lc 3 rfl _ _ rfl | exact M.lc 4 rfl _ _ rfl | exact M.lc 5 rfl _ _ rfl | exact M.lc 6 rfl _ _ rfl | exact M.lc 7 rfl _ _ rfl) ?_
      cases hh : t.has with
      | true =>
        rw [if_pos (.inr hh)] at hT
        refine p_fld fN3 rfl ?_
        refine v_load agg_b rfl (by first | exact (M.B 0 rfl).at_ rfl | exact (M.B 1 rfl).at_ rfl | exact (M.B 2 rfl).at_ rfl | exact (M.B 3 rfl).at_ rfl | exact (M.B 4 rfl).at_ rfl | exact M.lc 0 rfl _ _ rfl | exact M.lc 1 rfl _ _ rfl | exact M.lc 2 rfl _ _ rfl | exact M.lc 3 rfl _ _ rfl | exact M.lc 4 rfl _ _ rfl | exact M.lc 5 rfl _ _ rfl | exact M.lc 6 rfl _ _ rfl | exact M.lc 7 rfl _ _ rfl) ?_
        subst hal
        refine p_build (vs := ics ⟨AT, t.val, false, false, []⟩ A3 c3 Av cv none 0) pl_it z_it rfl ?_
        have hI : RdL _ _ (dI ⟨AT, t.val, false, false, []⟩) (ics ⟨AT, t.val, false, false, []⟩ A3 c3 Av cv none 0) := RdL.ofitem (M.w1_1) (M.w1_3) (RdD.nil_ _ _)
        refine s_bsliceB (ics ⟨AT, t.val, false, false, []⟩ A3 c3 Av cv none 0) (M.addT hI) sli z_it rfl (by decide) rfl ?_
        clear M hI; rintro g9 W M
        refine s_app M Try.underlying87 itinfo rfl (by decide) rfl rfl (Reads.blk (M.B 0 rfl) rfl) (all1 rfl) ⟨by omega, by decide⟩ ?_
        clear M; rintro A5 c5 W M -
        have hX := (M.dt 1 rfl).app (M.dt 0 rfl)
        replace M := (M.addT (ds := dIs [⟨AT, t.val, false, false, []⟩]) hX).addL (M.da 2 rfl)
        refine ⟨(g3, A3, c3, A5, 1, c5, _, [⟨AT, t.val, false, false, []⟩]), ⟨M.dropL.fsub _ (by simp), rfl, hT⟩, (by repeat (first | exact trivial | refine ⟨rfl, ?_⟩))⟩
      | false =>
        rw [if_neg (by rw [hh]; simp [h1])] at hT
        refine ⟨(g3, A3, c3, none, 0, 0, [], []), ⟨(M.addL (M.da 1 rfl)).fsub _ (by simp), rfl, hT⟩, (by repeat (first | exact trivial | refine ⟨rfl, ?_⟩))⟩
  · clear M hT
    rintro ⟨g3, A3, c3, A6, n6, c6, xs6, don⟩ B6 W6 ⟨M, hn6, hT⟩
    dsimp only at M hn6 hT
    refine lp (Nat × Option Addr × Nat × Nat × List Value × List It) (fun s W => s.1 ≤ t.kids.length ∧ St w gs W [(g3, 25, ncs t Ap cp Av cv Ak ck Ah ch)] [⟨90, 5, s.2.1, s.2.2.1, s.2.2.2.1, s.2.2.2.2.1⟩] [.dat false (dIs s.2.2.2.2.2) s.2.2.2.2.1, .dat false [dB AT] [.slice A3 n3 c3], .dat false [dKs t.kids] [.slice Ak t.kids.length ck]] ∧ s.2.2.1 = s.2.2.2.2.2.length ∧ T = s.2.2.2.2.2 ++ itemsK (t.kids.drop s.1) (decide (t.kind = 3)) (decide (t.kind = 2)) s.1 AT)
      (fun s => [(3, .pointer (some ⟨g3, 0, none⟩)), (7, .slice A3 n3 c3), (8, .slice s.2.1 s.2.2.1 s.2.2.2.1), (9, .int .i64 s.1)]) (fun s => t.kids.length - s.1) (0, A6, n6, c6, xs6, don)
      ⟨Nat.zero_le _, M, hn6, by simp only [List.drop_zero]; exact hT⟩ (by repeat (first | exact trivial | refine ⟨rfl, ?_⟩)) ?_
    clear M hT hn6
    rintro ⟨i, A7, n7, c7, xs7, don7⟩ E7 W7 ⟨hi, M, hn7, hT⟩
    dsimp only at hi M hn7 hT
    refine p_fld fN4 rfl ?_
    refine v_load agg_ns rfl (by first | exact (M.B 0 rfl).at_ rfl | exact (M.B 1 rfl).at_ rfl | exact (M.B 2 rfl).at_ rfl | exact (M.B 3 rfl).at_ rfl | exact (M.B 4 rfl).at_ rfl | exact M.lc 0 rfl _ _ rfl | exact M.lc 1 rfl _ _ rfl | exact M.lc 2 rfl _ _ rfl | exact M.lc 3 rfl _ _ rfl | exact M.lc 4 rfl _ _ rfl | exact M.lc 5 rfl _ _ rfl | exact M.lc 6 rfl _ _ rfl | exact M.lc 7 rfl _ _ rfl) ?_
    refine p_len sln rfl ?_
    refine p_lt rfl rfl (fun hlt => ?_) (fun hge => ?_)
    · dsimp only at hlt
      obtain ⟨k, hki⟩ : ∃ k, t.kids[i]? = some k := ⟨_, List.getElem?_eq_getElem (by omega)⟩
      have hdr : t.kids.drop i = k :: t.kids.drop (i + 1) := by
        have h1 := (List.getElem?_eq_some_iff.1 hki)
        rw [List.drop_eq_getElem_cons h1.1, h1.2]
      rw [hdr] at hT
      unfold itemsK at hT
      have hkz := szs_mem (List.mem_of_getElem? hki)
      have hTl2 : don7.length ≤ T.length := by rw [hT, List.length_append]; omega
      replace M := M.nilR 5 1
      refine s_appB (l := []) M rfl rfl (M.rdb 1 rfl).2.2 (by omega) ?_
      clear M; rintro A4 c4 W M -
      rw [List.nil_append, Nat.zero_add] at M
      rw [Nat.zero_add]
      refine p_fld fN0 rfl ?_
      refine v_load agg_int rfl (by first | exact (M.B 0 rfl).at_ rfl | exact (M.B 1 rfl).at_ rfl | exact (M.B 2 rfl).at_ rfl | exact (M.B 3 rfl).at_ rfl | exact (M.B 4 rfl).at_ rfl | exact M.lc 0 rfl _ _ rfl | exact M.lc 1 rfl _ _ rfl | exact M.lc 2 rfl _ _ rfl | exact M.lc 3 rfl _ _ rfl | exact M.lc 4 rfl _ _ rfl | exact M.lc 5 rfl _ _ rfl | exact M.lc 6 rfl _ _ rfl | exact M.lc 7 rfl _ _ rfl) ?_
      refine p_eq rfl rfl (fun h3 => ?_) (fun h3 => ?_)
      · rw [decide_eq_true h3] at hT
        rw [decide_eq_true h3]
        simp only [if_true] at hT
        refine v_cvt u_int u_u8 rfl (r := ((i % 256 : Nat) : Int)) (by rw [IntKind.wrap_u8']; omega) ?_
        refine s_litB [.int .u8 ((i % 256 : Nat) : Int)] [UInt8.ofNat i] M (by decide) rfl (bvs1 i) rfl ?_
        clear M; rintro g9 W M
        replace M := M.frzO
        refine s_appB M rfl rfl (M.rdb 0 rfl).2.2 (by omega) ?_
        clear M; rintro A9 c9 W M -
        replace M := M.frzO
        replace M := M.drew
        obtain ⟨b, off, es, rfl, hel, M'⟩ := M.kid (by first | with_reducible exact M.d1_0 | with_reducible exact M.d1_1 | with_reducible exact M.d1_2 | with_reducible exact M.d1_3 | with_reducible exact M.d1_4 | with_reducible exact M.d1_5 | with_reducible exact M.d1_6 | with_reducible exact M.d1_7 | with_reducible exact M.d1_8 | with_reducible exact M.d1_9 | with_reducible exact M.d1_10 | with_reducible exact M.d1_11) hki
        replace M := M'; clear M'
        refine drT (Kp w gs [(g3, 25, ncs t Ap cp Av cv (some ⟨b, off, none⟩) ck Ah ch)] [.loc ((⟨b, off, none⟩ : Addr).add (i * 6)) es]) (.take 0 (.take 1 (.take 2 (.take 3 (.take 4 (.take 5 (.take 6 (.take 7 (.take 8 (.take 9 (.one 10 (.one 11 (.take 12 (.nil)))))))))))))) (by kernel_rfl) (M.kp (by simp) (by simp)) ?_
        refine p_fld fN4 rfl ?_
        refine t_load agg_ns rfl (fun W K => by first | exact (K.B 0 rfl).at_ rfl | exact (K.B 1 rfl).at_ rfl | exact (K.B 2 rfl).at_ rfl | exact (K.B 3 rfl).at_ rfl | exact K.lc 0 rfl _ _ rfl | exact K.lc 1 rfl _ _ rfl | exact K.lc 2 rfl _ _ rfl | exact K.lc 3 rfl _ _ rfl) ?_
        refine p_at sln rfl rfl rfl (by omega) ?_
        refine t_loadN es agg_nd rfl hel (fun W K => K.lc 0 rfl) ?_
        refine p_fld fN0 rfl ?_
        refine t_load agg_int rfl (fun W K => by first | exact (K.B 0 rfl).at_ rfl | exact (K.B 1 rfl).at_ rfl | exact (K.B 2 rfl).at_ rfl | exact (K.B 3 rfl).at_ rfl | exact K.lc 0 rfl _ _ rfl | exact K.lc 1 rfl _ _ rfl | exact K.lc 2 rfl _ _ rfl | exact K.lc 3 rfl _ _ rfl) ?_
        refine p_eqD rfl rfl ?_
        have hcall := ih k (by omega) _ _ es (AT ++ [UInt8.ofNat i]) A9 _ c9 (decide (t.kind = 2)) (by first | with_reducible exact M.da_0 | with_reducible exact M.da_1 | with_reducible exact M.da_2 | with_reducible exact M.da_3 | with_reducible exact M.da_4 | with_reducible exact M.da_5 | with_reducible exact M.da_6 | with_reducible exact M.da_7 | with_reducible exact M.da_8 | with_reducible exact M.da_9 | with_reducible exact M.da_10 | with_reducible exact M.da_11) (by first | with_reducible exact M.d1_0 | with_reducible exact M.d1_1 | with_reducible exact M.d1_2 | with_reducible exact M.d1_3 | with_reducible exact M.d1_4 | with_reducible exact M.d1_5 | with_reducible exact M.d1_6 | with_reducible exact M.d1_7 | with_reducible exact M.d1_8 | with_reducible exact M.d1_9 | with_reducible exact M.d1_10 | with_reducible exact M.d1_11) M.olt (by omega)
        refine cc is_items hcall ?_
        clear hcall
        rintro e W ⟨A8, n8, c8, rfl, h8, hb⟩
        have e8 := h8.slen
        subst e8
        replace M := (M.call hb).addD h8
        refine ⟨_, rfl, (M.kp (by simp) (by simp)), ?_⟩
        obtain ⟨ys, hrd, hys⟩ := h8.reads Fd.lt
        replace M := M.addL hys
        refine s_app M Try.underlying87 itinfo rfl (by decide) rfl rfl hrd (hys.ones (dIs_one _)) ⟨by have := itemsP_len k (AT ++ [UInt8.ofNat i]) (decide (t.kind = 2)); omega, by decide⟩ ?_
        clear M; rintro A9 c9 W M -
        refine ⟨(M.kp (by simp) (by simp)), ?_⟩
        have hX := (M.dw 6 rfl).app (M.dw 0 rfl)
        rw [← dIs_app] at hX
        refine p_addN (b := 1) rfl rfl (by omega) ?_
        refine ⟨(i + 1, A9, n7 + (itemsP k (AT ++ [UInt8.ofNat i]) (decide (t.kind = 2))).length, c9, xs7 ++ ys, don7 ++ itemsP k (AT ++ [UInt8.ofNat i]) (decide (t.kind = 2))), ⟨by dsimp only; omega, (M.addT hX).fsub _ (by simp), by dsimp only; rw [List.length_append]; omega, by rw [hT, List.append_assoc]⟩, (by repeat (first | exact trivial | refine ⟨rfl, ?_⟩)), by dsimp only; omega⟩
      · rw [decide_eq_false h3] at hT
        rw [decide_eq_false h3]
        simp only [Bool.false_eq_true, if_false] at hT
        replace M := M.frzO
        replace M := M.drew
        obtain ⟨b, off, es, rfl, hel, M'⟩ := M.kid (by first | with_reducible exact M.d1_0 | with_reducible exact M.d1_1 | with_reducible exact M.d1_2 | with_reducible exact M.d1_3 | with_reducible exact M.d1_4 | with_reducible exact M.d1_5 | with_reducible exact M.d1_6 | with_reducible exact M.d1_7 | with_reducible exact M.d1_8 | with_reducible exact M.d1_9 | with_reducible exact M.d1_10 | with_reducible exact M.d1_11) hki
        replace M := M'; clear M'
        refine drT (Kp w gs [(g3, 25, ncs t Ap cp Av cv (some ⟨b, off, none⟩) ck Ah ch)] [.loc ((⟨b, off, none⟩ : Addr).add (i * 6)) es]) (.take 0 (.take 1 (.take 2 (.take 3 (.take 4 (.take 5 (.take 6 (.take 7 (.take 8 (.take 9 (.one 10 (.one 11 (.take 12 (.nil)))))))))))))) (by kernel_rfl) (M.kp (by simp) (by simp)) ?_
        refine p_fld fN4 rfl ?_
        refine t_load agg_ns rfl (fun W K => by first | exact (K.B 0 rfl).at_ rfl | exact (K.B 1 rfl).at_ rfl | exact (K.B 2 rfl).at_ rfl | exact (K.B 3 rfl).at_ rfl | exact K.lc 0 rfl _ _ rfl | exact K.lc 1 rfl _ _ rfl | exact K.lc 2 rfl _ _ rfl | exact K.lc 3 rfl _ _ rfl) ?_
        refine p_at sln rfl rfl rfl (by omega) ?_
        refine t_loadN es agg_nd rfl hel (fun W K => K.lc 0 rfl) ?_
        refine p_fld fN0 rfl ?_
        refine t_load agg_int rfl (fun W K => by first | exact (K.B 0 rfl).at_ rfl | exact (K.B 1 rfl).at_ rfl | exact (K.B 2 rfl).at_ rfl | exact (K.B 3 rfl).at_ rfl | exact K.lc 0 rfl _ _ rfl | exact K.lc 1 rfl _ _ rfl | exact K.lc 2 rfl _ _ rfl | exact K.lc 3 rfl _ _ rfl) ?_
        refine p_eqD rfl rfl ?_
        have hcall := ih k (by omega) _ _ es (AT) A4 n3 c4 (decide (t.kind = 2)) (by first | with_reducible exact M.da_0 | with_reducible exact M.da_1 | with_reducible exact M.da_2 | with_reducible exact M.da_3 | with_reducible exact M.da_4 | with_reducible exact M.da_5 | with_reducible exact M.da_6 | with_reducible exact M.da_7 | with_reducible exact M.da_8 | with_reducible exact M.da_9 | with_reducible exact M.da_10 | with_reducible exact M.da_11) (by first | with_reducible exact M.d1_0 | with_reducible exact M.d1_1 | with_reducible exact M.d1_2 | with_reducible exact M.d1_3 | with_reducible exact M.d1_4 | with_reducible exact M.d1_5 | with_reducible exact M.d1_6 | with_reducible exact M.d1_7 | with_reducible exact M.d1_8 | with_reducible exact M.d1_9 | with_reducible exact M.d1_10 | with_reducible exact M.d1_11) M.olt (by omega)
        refine cc is_items hcall ?_
        clear hcall
        rintro e W ⟨A8, n8, c8, rfl, h8, hb⟩
        have e8 := h8.slen
        subst e8
        replace M := (M.call hb).addD h8
        refine ⟨_, rfl, (M.kp (by simp) (by simp)), ?_⟩
        obtain ⟨ys, hrd, hys⟩ := h8.reads Fd.lt
        replace M := M.addL hys
        refine s_app M Try.underlying87 itinfo rfl (by decide) rfl rfl hrd (hys.ones (dIs_one _)) ⟨by have := itemsP_len k (AT) (decide (t.kind = 2)); omega, by decide⟩ ?_
        clear M; rintro A9 c9 W M -
        refine ⟨(M.kp (by simp) (by simp)), ?_⟩
        have hX := (M.dw 5 rfl).app (M.dw 0 rfl)
        rw [← dIs_app] at hX
        refine p_addN (b := 1) rfl rfl (by omega) ?_
        refine ⟨(i + 1, A9, n7 + (itemsP k (AT) (decide (t.kind = 2))).length, c9, xs7 ++ ys, don7 ++ itemsP k (AT) (decide (t.kind = 2))), ⟨by dsimp only; omega, (M.addT hX).fsub _ (by simp), by dsimp only; rw [List.length_append]; omega, by rw [hT, List.append_assoc]⟩, (by repeat (first | exact trivial | refine ⟨rfl, ?_⟩)), by dsimp only; omega⟩
    · dsimp only at hge
      rw [List.drop_of_length_le (by omega)] at hT
      unfold itemsK at hT
      rw [List.append_nil] at hT
      subst hT
      subst hn7
      replace M := M.frzR (fr := false) (M.dt 0 rfl)
      exact ⟨A7, _, c7, rfl, M.fin1 0 rfl, M.below⟩
theorem items_any : ∀ (N : Nat), ∀ t : Nd, sz t < N → ItemsOk t
  | 0, t, h => by omega
  | N + 1, t, h => items_step N (fun k hk => items_any N k hk) t (by omega)
end Go.Proofs.Ytkfbkhahkkmcoaa
namespace Go.Proofs.Ytkfbkhahkkmcoaa
open Go.RowKit

theorem bytesE_no {l : List UInt8} (h : halvesB l = false) : bytesE l = 2 ∧ bytesL l = [] := by simp [bytesE, bytesL, h]
theorem bytesE_odd {l : List UInt8} (h : halvesB l = true) (k : l.length % 2 = 1) : bytesE l = 11 ∧ bytesL l = [] := by simp [bytesE, bytesL, h, k]
theorem bytesE_ok {l : List UInt8} (h : halvesB l = true) (k : l.length % 2 = 0) : bytesE l = 0 ∧ bytesL l = joinB l := by simp [bytesE, bytesL, h, k]
theorem ret_se {A A' : Option Addr} {n n' c c' : Nat} {x y : Int} (h : Value.slice A n c = Value.slice A' n' c') (k : x = y) : Ending.returned (.tuple #[.slice A n c, .int .i64 x]) = Ending.returned (.tuple #[.slice A' n' c', .int .i64 y]) := by rw [h, k]

set_option maxHeartbeats 800000 in
theorem bytes_any (A : Option Addr) (n c : Nat) (l : List UInt8) (w : World) (hr : Rd w w.heap.size A n l) (hn : n ≤ 100000000000) :
    Calls Try.prog 92 #[.slice A n c] w fun e w' => ∃ A' n' c', e = .returned (.tuple #[.slice A' n' c', .int .i64 (bytesE l)]) ∧ Own w' w.heap.size A' n' c' (bytesL l) ∧ Below w.heap.size w w' := by
  have hln := Lib.hid hr.len
  by_cases hh : halvesB l = true
  · by_cases hodd : n % 2 = 1
    · obtain ⟨he, hl⟩ := bytesE_odd hh (by rw [hln.out]; exact hodd)
      have He := Lib.hid he
      have Hl := Lib.hid hl
      clear he hl
      go_enter Try.func92, Try.ntmps92
      go_wp2_with (go_at_call 109; refine (halves_any _ _ _ _ _ _ hr hn).mono ?_; rintro e w' ⟨rfl, rfl⟩)
      go_ret2
      exact ⟨none, 0, 0, ret_se rfl He.out.symm, by rw [Hl.out]; exact Own.nil_ _ _, Below.refl _ _⟩
    · obtain ⟨he, hl⟩ := bytesE_ok hh (by rw [hln.out]; omega)
      have He := Lib.hid he
      have Hl := Lib.hid hl
      clear he hl
      go_enter Try.func92, Try.ntmps92
      go_wp2_with (first
        | (go_at_call 109; refine (halves_any _ _ _ _ _ _ hr hn).mono ?_; rintro e w' ⟨rfl, rfl⟩)
        | (go_at_call 110; refine (joined_any _ _ _ _ _ hr hn hh).mono ?_; rintro e w' ⟨A2, c2, rfl, hown2, hb2⟩))
      go_ret2
      exact ⟨A2, n / 2, c2, ret_se rfl He.out.symm, by rw [Hl.out]; exact hown2, hb2⟩
  · have hh' : halvesB l = false := by simpa using hh
    obtain ⟨he, hl⟩ := bytesE_no hh'
    have He := Lib.hid he
    have Hl := Lib.hid hl
    clear he hl hh
    go_enter Try.func92, Try.ntmps92
    go_wp2_with (go_at_call 109; refine (halves_any _ _ _ _ _ _ hr hn).mono ?_; rintro e w' ⟨rfl, rfl⟩)
    go_ret2
    exact ⟨none, 0, 0, ret_se rfl He.out.symm, by rw [Hl.out]; exact Own.nil_ _ _, Below.refl _ _⟩

theorem packE_no {l : List UInt8} (h : halvesB l = false) (leaf : Bool) : packE l = 2 ∧ packL l leaf = [] := by simp [packE, packL, h]
theorem packE_ok {l : List UInt8} (h : halvesB l = true) : packE l = 0 := by simp [packE, h]
theorem packL_even {l : List UInt8} (h : halvesB l = true) (k : l.length % 2 = 0) (leaf : Bool) (x : Int) (hx : x = if leaf = true then 32 else 0) : packL l leaf = [b8 x] ++ joinB l := by simp [packL, h, k, hx]
theorem packL_odd {l : List UInt8} (h : halvesB l = true) (k : l.length % 2 = 1) (leaf : Bool) (x : Int) (hx : x = (if leaf = true then 32 else 0) + 16 + at8 l 0) : packL l leaf = [b8 x] ++ joinB (l.drop 1) := by simp [packL, h, k, hx]
theorem halvesB_dropP {l : List UInt8} (h : halvesB l = true) (k : Nat) : halvesB (l.drop k) = true := by
  unfold halvesB at *
  rw [List.all_eq_true] at *
  exact fun x hx => h x (List.mem_of_mem_drop hx)
end Go.Proofs.Ytkfbkhahkkmcoaa
namespace Go.Proofs.Ytkfbkhahkkmcoaa
open Go.RowKit

theorem cmpB_eq {a b : List UInt8} {n : Nat} (h : commonB a b = n) (h1 : n = a.length) (h2 : n = b.length) : cmpB a b = 0 := by unfold cmpB; simp only [h]; rw [if_pos ⟨h1, h2⟩]
theorem cmpB_lt {a b : List UInt8} {n : Nat} (h : commonB a b = n) (h1 : n = a.length) (h2 : n ≠ b.length) : cmpB a b = -1 := by unfold cmpB; simp only [h]; rw [if_neg (fun e => h2 e.2), if_pos (.inl h1)]
theorem cmpB_gt {a b : List UInt8} {n : Nat} (h : commonB a b = n) (h1 : n ≠ a.length) (h2 : ¬ n < b.length) : cmpB a b = 1 := by unfold cmpB; simp only [h]; rw [if_neg (fun e => h1 e.1), if_neg (fun e => e.elim h1 (fun e => h2 e.1))]
theorem cmpB_at_lt {a b : List UInt8} {n : Nat} (h : commonB a b = n) (h1 : n < b.length) (h2 : at8 a n < at8 b n) (h3 : n ≠ a.length) : cmpB a b = -1 := by unfold cmpB; simp only [h]; rw [if_neg (fun e => h3 e.1), if_pos (.inr ⟨h1, h2⟩)]
theorem cmpB_at_ge {a b : List UInt8} {n : Nat} (h : commonB a b = n) (h1 : n ≠ a.length) (h2 : ¬ at8 a n < at8 b n) : cmpB a b = 1 := by unfold cmpB; simp only [h]; rw [if_neg (fun e => h1 e.1), if_neg (fun e => e.elim h1 (fun e => h2 e.2))]

set_option maxHeartbeats 1600000 in
theorem cmp_any (A1 A2 : Option Addr) (n m c1 c2 B : Nat) (a b : List UInt8) (w : World) (h1 : Rd w B A1 n a) (h2 : Rd w B A2 m b) (hn : n ≤ 100000000000) (hm : m ≤ 100000000000) :
    Calls Try.prog 116 #[.slice A1 n c1, .slice A2 m c2] w fun e w' => e = .returned (.int .i64 (cmpB a b)) ∧ ∃ d, w' = w.drewN d := by
  have hla := Lib.hid h1.len
  have hlb := Lib.hid h2.len
  obtain ⟨k, hk⟩ : ∃ k, commonB a b = k := ⟨_, rfl⟩
  have hle := commonB_le a b
  have hkn : k ≤ n := by rw [← hk, ← hla.out]; exact hle.1
  have hkm : k ≤ m := by rw [← hk, ← hlb.out]; exact hle.2
  have hcall : Hid (∀ W : World, Rd W B A1 n a → Rd W B A2 m b → Calls Try.prog 98 #[.slice A1 n c1, .slice A2 m c2] W fun e w' => e = .returned (.int .i64 k) ∧ ∃ d, w' = W.drewN d) :=
    Lib.hid (fun W g1 g2 => by rw [← hk]; exact common_any A1 A2 n m c1 c2 B a b W g1 g2 hn hm)
  have Hk := Lib.hid hk
  clear hk hle
  by_cases e1 : k = n
  · by_cases e2 : k = m
    · have hfin := Lib.hid (cmpB_eq Hk.out (by rw [hla.out]; exact e1) (by rw [hlb.out]; exact e2))
      subst e1
      subst e2
      go_enter Try.func116, Try.ntmps116
      go_wp2_with (go_at_call 98; refine (hcall.out _ h1 h2).mono ?_; rintro e w' ⟨rfl, d, rfl⟩)
      go_ret
      exact ⟨ret_int hfin.out.symm, _, rfl⟩
    · have hfin := Lib.hid (cmpB_lt Hk.out (by rw [hla.out]; exact e1) (by rw [hlb.out]; exact e2))
      have hb1 : ((k : Int) == (m : Int)) = false := by simp; omega
      subst e1
      go_enter Try.func116, Try.ntmps116
      go_wp2_with (go_at_call 98; refine (hcall.out _ h1 h2).mono ?_; rintro e w' ⟨rfl, d, rfl⟩)
      go_quiet (fail)
      go_wp2
      go_ret
      exact ⟨ret_int hfin.out.symm, _, World.drewN_drewN ..⟩
  · have hb1 : ((k : Int) == (n : Int)) = false := by simp; omega
    by_cases e2 : k < m
    · obtain ⟨bb1, off1, rfl, hc1⟩ := h1.at_ (k := k) (by omega)
      obtain ⟨bb2, off2, rfl, hc2⟩ := h2.at_ (k := k) (by omega)
      have hd : decide ((k : Int) < (m : Int)) = true := by simp; omega
      by_cases e3 : at8 a k < at8 b k
      · have hfin := Lib.hid (cmpB_at_lt Hk.out (by rw [hlb.out]; exact e2) e3 (by rw [hla.out]; exact e1))
        go_enter Try.func116, Try.ntmps116
        go_wp2_with (go_at_call 98; refine (hcall.out _ h1 h2).mono ?_; rintro e w' ⟨rfl, d, rfl⟩)
        go_quiet (fail)
        go_wp2
        go_ret
        exact ⟨ret_int hfin.out.symm, _, World.drewN_drewN ..⟩
      · have hfin := Lib.hid (cmpB_at_ge Hk.out (by rw [hla.out]; exact e1) e3)
        have hd2 : decide (at8 a k < at8 b k) = false := by simpa using e3
        go_enter Try.func116, Try.ntmps116
        go_wp2_with (go_at_call 98; refine (hcall.out _ h1 h2).mono ?_; rintro e w' ⟨rfl, d, rfl⟩)
        go_quiet (fail)
        go_wp2
        go_ret
        exact ⟨ret_int hfin.out.symm, _, World.drewN_drewN ..⟩
    · have hfin := Lib.hid (cmpB_gt Hk.out (by rw [hla.out]; exact e1) (by rw [hlb.out]; exact e2))
      have hd : decide ((k : Int) < (m : Int)) = false := by simp; omega
      go_enter Try.func116, Try.ntmps116
      go_wp2_with (go_at_call 98; refine (hcall.out _ h1 h2).mono ?_; rintro e w' ⟨rfl, d, rfl⟩)
      go_quiet (fail)
      go_wp2
      go_ret
      exact ⟨ret_int hfin.out.symm, _, World.drewN_drewN ..⟩
end Go.Proofs.Ytkfbkhahkkmcoaa
namespace Go.Proofs.Ytkfbkhahkkmcoaa
open Go.RowKit

theorem take_set1 (L P : List UInt8) (k : Nat) (x : UInt8) (h : k < L.length) (hp : L.take k = P) : (L.set k x).take (k + 1) = P ++ [x] := by
  subst hp
  rw [take_snoc _ _ (by simpa using h), List.take_set, List.set_eq_of_length_le (by simp; omega)]
  simp [h]
theorem take_set2 (L P : List UInt8) (k : Nat) (x y : UInt8) (h : 2 * k + 1 < L.length) (hp : L.take (2 * k) = P) : ((L.set (2 * k) x).set (2 * k + 1) y).take (2 * (k + 1)) = P ++ [x, y] := by
  have e1 := take_set1 L P (2 * k) x (by omega) hp
  have e2 := take_set1 (L.set (2 * k) x) (P ++ [x]) (2 * k + 1) y (by simpa using h) e1
  rw [show 2 * (k + 1) = 2 * k + 1 + 1 by omega, e2]
  simp
theorem other_cell {wr : World} {H bb o o' : Nat} {v : Value} (hne : bb < H) (h : wr.cell? ⟨bb, o, none⟩ = some v) : ∀ u, (wr.setCell ⟨H, o', none⟩ u).cell? ⟨bb, o, none⟩ = some v := fun u => by
  rw [World.cell?_setCell_other _ _ _ _ (by intro e; injection e with e; omega)]; exact h

set_option maxHeartbeats 800000 in
theorem refOf_any (A : Option Addr) (n c : Nat) (l : List UInt8) (w : World) (hr : Rd w w.heap.size A n l) (hn : n ≤ 100000000000) :
    Calls Try.prog 50 #[.slice A n c] w fun e w' => e = .returned (.slice (some ⟨w.heap.size, 0, none⟩) (2 * n) (2 * n)) ∧ Own w' w.heap.size (some ⟨w.heap.size, 0, none⟩) (2 * n) (2 * n) (ofB l) ∧ Below w.heap.size w w' := by
  go_enter Try.func50, Try.ntmps50
  go_wp2_with (at_make; refine wpList_mk rfl _ _ rfl (n := 2 * n) rfl rfl (by omega) (by omega) (by omega) (Nat.le_refl _) ?_; intro w1 hown1 hg1)
  have hb1 : Below w.heap.size w w1 := (Below.refl _ _).grown hg1 (Nat.le_refl _) (by intro k h; cases h)
  go_loopw [4] (fun i wr => ∃ (k : Nat) (L : List UInt8), k ≤ n ∧ i = .int .i64 k ∧ Own wr w.heap.size (some ⟨w.heap.size, 0, none⟩) (2 * n) (2 * n) L ∧ L.take (2 * k) = ofB (l.take k) ∧ Below w.heap.size w wr) (fun i _ => n - (intOf i).toNat)
  case atStart => exact ⟨0, _, Nat.zero_le _, rfl, hown1, rfl, hb1⟩
  case round =>
    obtain ⟨k, L, hk, rfl, hown, ht, hb⟩ := hrel
    have Ht := Lib.hid ht
    clear ht
    have hln := Lib.hid hr.len
    have hLn := Lib.hid hown.len
    by_cases hlt : k < n
    · obtain ⟨bb, off, rfl, hbl, hc⟩ := (hr.below hb).atB hlt
      have h0 := at8_lo l k
      have h1 := at8_hi l k
      have hs1 := hown.cell (j := 2 * k) (by omega)
      have hf1 := hown.free (2 * k)
      have hown1 := hown.set (j := 2 * k) (x := at8 l k / 16) (by omega) (by omega)
      have hs2 := hown1.cell (j := 2 * k + 1) (by omega)
      have hf2 := hown1.free (2 * k + 1)
      have hown2 := hown1.set (j := 2 * k + 1) (x := at8 l k % 16) (by omega) (by omega)
      have hco := other_cell (o' := 2 * k) hbl hc
      have hb2 := (hb.setCell (p := ⟨w.heap.size, 2 * k, none⟩) (Nat.le_refl _) (.int .u8 (at8 l k / 16))).setCell (p := ⟨w.heap.size, 2 * k + 1, none⟩) (Nat.le_refl _) (.int .u8 (at8 l k % 16))
      have Hown2 := Lib.hid hown2
      have Hb2 := Lib.hid hb2
      clear hown2 hb2 hown1 hbl
      go_wp2
      go_roundw
      case rel => exact ⟨k + 1, _, by omega, by go_num, Hown2.out, by rw [ofB_take l k (by rw [hln.out]; exact hlt)]; exact take_set2 L _ k _ _ (by rw [hLn.out]; omega) Ht.out, Hb2.out⟩
      case measure => simp [intOf]; omega
    · have hkn : k = n := by omega
      subst hkn
      go_wp2
      go_ret
      refine ⟨rfl, ?_, hb⟩
      have e := Ht.out
      rw [List.take_of_length_le (by rw [hLn.out]; omega), List.take_of_length_le (by rw [hln.out]; omega)] at e
      rw [← e]; exact hown

theorem common_step (a b : List UInt8) (k : Nat) (h1 : k < a.length) (h2 : k < b.length) (he : at8 a k = at8 b k) (ht : a.take k = b.take k) : a.take (k + 1) = b.take (k + 1) := take_both a b k ht h1 h2 ((at8_eq_iff a b k).1 he)

set_option maxHeartbeats 800000 in
theorem refCommon_any (A1 A2 : Option Addr) (n m c1 c2 B : Nat) (a b : List UInt8) (w : World) (h1 : Rd w B A1 n a) (h2 : Rd w B A2 m b) (hn : n ≤ 100000000000) (_hm : m ≤ 100000000000) :
    Calls Try.prog 97 #[.slice A1 n c1, .slice A2 m c2] w fun e w' => e = .returned (.int .i64 (commonB a b)) ∧ ∃ d, w' = w.drewN d := by
  go_enter Try.func97, Try.ntmps97
  go_wp2
  go_loopw [5] (fun i wr => ∃ (k d : Nat), k ≤ n ∧ k ≤ m ∧ i = .int .i64 k ∧ a.take k = b.take k ∧ wr = w.drewN d) (fun i _ => n - (intOf i).toNat)
  case atStart => exact ⟨0, 0, Nat.zero_le _, Nat.zero_le _, rfl, rfl, rfl⟩
  case round =>
    obtain ⟨k, d, hkn, hkm, rfl, ht, rfl⟩ := hrel
    have Ht := Lib.hid ht
    clear ht
    have hla := Lib.hid h1.len
    have hlb := Lib.hid h2.len
    by_cases hlt1 : k < n
    · by_cases hlt2 : k < m
      · obtain ⟨bb1, off1, rfl, hc1⟩ := h1.at_ hlt1
        obtain ⟨bb2, off2, rfl, hc2⟩ := h2.at_ hlt2
        have hg1 : (k : Int) < n := by omega
        have hg2 : (k : Int) < m := by omega
        by_cases heq : at8 a k = at8 b k
        · have hq : (at8 a k == at8 b k) = true := by simp [heq]
          have He := Lib.hid heq
          clear heq
          go_wp2
          go_quiet (fail)
          go_wp2
          go_roundw
          case rel => exact ⟨k + 1, _, by omega, by omega, by go_num, common_step a b k (by rw [hla.out]; exact hlt1) (by rw [hlb.out]; exact hlt2) He.out Ht.out, rfl⟩
          case measure => simp [intOf]; omega
        · have hq : (at8 a k == at8 b k) = false := by simp [heq]
          have He := Lib.hid heq
          clear heq
          go_wp2
          go_quiet (fail)
          go_wp2
          go_ret
          exact ⟨ret_int (by rw [commonB_at a b k Ht.out (by rw [hla.out]; exact hlt1) (by rw [hlb.out]; exact hlt2) (fun e => He.out ((at8_eq_iff a b k).2 e))]), _, World.drewN_drewN ..⟩
      · have hmi : Hid (k = min a.length b.length) := Lib.hid (by have := hla.out; have := hlb.out; omega)
        have hg1 : (k : Int) < n := by omega
        have hd : decide ((k : Int) < m) = false := by simp; omega
        go_wp2
        go_quiet (fail)
        go_wp2
        go_ret
        exact ⟨ret_int (by rw [commonB_end a b k Ht.out hmi.out]), _, World.drewN_drewN ..⟩
    · have hmi : Hid (k = min a.length b.length) := Lib.hid (by have := hla.out; have := hlb.out; omega)
      have hd : decide ((k : Int) < n) = false := by simp; omega
      go_wp2
      go_quiet (fail)
      go_wp2
      go_ret
      exact ⟨ret_int (by rw [commonB_end a b k Ht.out hmi.out]), _, World.drewN_drewN ..⟩

set_option maxHeartbeats 1600000 in
theorem refCmp_any (A1 A2 : Option Addr) (n m c1 c2 B : Nat) (a b : List UInt8) (w : World) (h1 : Rd w B A1 n a) (h2 : Rd w B A2 m b) (hn : n ≤ 100000000000) (hm : m ≤ 100000000000) :
    Calls Try.prog 74 #[.slice A1 n c1, .slice A2 m c2] w fun e w' => e = .returned (.int .i64 (cmpB a b)) ∧ ∃ d, w' = w.drewN d := by
  have hla := Lib.hid h1.len
  have hlb := Lib.hid h2.len
  obtain ⟨k, hk⟩ : ∃ k, commonB a b = k := ⟨_, rfl⟩
  have hle := commonB_le a b
  have hkn : k ≤ n := by rw [← hk, ← hla.out]; exact hle.1
  have hkm : k ≤ m := by rw [← hk, ← hlb.out]; exact hle.2
  have hcall : Hid (∀ W : World, Rd W B A1 n a → Rd W B A2 m b → Calls Try.prog 97 #[.slice A1 n c1, .slice A2 m c2] W fun e w' => e = .returned (.int .i64 k) ∧ ∃ d, w' = W.drewN d) :=
    Lib.hid (fun W g1 g2 => by rw [← hk]; exact refCommon_any A1 A2 n m c1 c2 B a b W g1 g2 hn hm)
  have Hk := Lib.hid hk
  clear hk hle
  by_cases e1 : k = n
  · by_cases e2 : k = m
    · have hfin := Lib.hid (cmpB_eq Hk.out (by rw [hla.out]; exact e1) (by rw [hlb.out]; exact e2))
      subst e1
      subst e2
      go_enter Try.func74, Try.ntmps74
      go_wp2_with (go_at_call 97; refine (hcall.out _ h1 h2).mono ?_; rintro e w' ⟨rfl, d, rfl⟩)
      go_ret
      exact ⟨ret_int hfin.out.symm, _, rfl⟩
    · have hfin := Lib.hid (cmpB_lt Hk.out (by rw [hla.out]; exact e1) (by rw [hlb.out]; exact e2))
      have hb1 : ((k : Int) == (m : Int)) = false := by simp; omega
      subst e1
      go_enter Try.func74, Try.ntmps74
      go_wp2_with (go_at_call 97; refine (hcall.out _ h1 h2).mono ?_; rintro e w' ⟨rfl, d, rfl⟩)
      go_ret
      exact ⟨ret_int hfin.out.symm, _, rfl⟩
  · have hb1 : ((k : Int) == (n : Int)) = false := by simp; omega
    by_cases e2 : k < m
    · obtain ⟨bb1, off1, rfl, hc1⟩ := h1.at_ (k := k) (by omega)
      obtain ⟨bb2, off2, rfl, hc2⟩ := h2.at_ (k := k) (by omega)
      have hb2 : ((k : Int) == (m : Int)) = false := by simp; omega
      have hg1 : (k : Int) < n := by omega
      have hg2 : (k : Int) < m := by omega
      have e4 : ¬ (at8 a k = at8 b k) := by
        intro e
        have hp := commonB_pre a b
        rw [Hk.out] at hp
        have := commonB_stop a b k Hk.out (by rw [hla.out]; omega) (by rw [hlb.out]; omega)
        exact this ((at8_eq_iff a b k).1 e)
      by_cases e3 : at8 a k < at8 b k
      · have hfin := Lib.hid (cmpB_at_lt Hk.out (by rw [hlb.out]; exact e2) e3 (by rw [hla.out]; exact e1))
        have hd2 : decide (at8 b k < at8 a k) = false := by simp; omega
        clear e4
        go_enter Try.func74, Try.ntmps74
        go_wp2_with (go_at_call 97; refine (hcall.out _ h1 h2).mono ?_; rintro e w' ⟨rfl, d, rfl⟩)
        go_quiet (fail)
        go_wp2
        go_ret
        exact ⟨ret_int hfin.out.symm, _, World.drewN_drewN ..⟩
      · have hfin := Lib.hid (cmpB_at_ge Hk.out (by rw [hla.out]; exact e1) e3)
        have hd2 : at8 b k < at8 a k := by omega
        clear e4
        go_enter Try.func74, Try.ntmps74
        go_wp2_with (go_at_call 97; refine (hcall.out _ h1 h2).mono ?_; rintro e w' ⟨rfl, d, rfl⟩)
        go_quiet (fail)
        go_wp2
        go_ret
        exact ⟨ret_int hfin.out.symm, _, World.drewN_drewN ..⟩
    · have hfin := Lib.hid (cmpB_gt Hk.out (by rw [hla.out]; exact e1) (by rw [hlb.out]; exact e2))
      have e5 : k = m := by omega
      subst e5
      go_enter Try.func74, Try.ntmps74
      go_wp2_with (go_at_call 97; refine (hcall.out _ h1 h2).mono ?_; rintro e w' ⟨rfl, d, rfl⟩)
      go_quiet (fail)
      go_wp2
      go_ret
      exact ⟨ret_int hfin.out.symm, _, World.drewN_drewN ..⟩

set_option maxHeartbeats 1600000 in
theorem cmp04_any (A1 A2 : Option Addr) (n m c1 c2 B : Nat) (a b : List UInt8) (w : World) (h1 : Rd w B A1 n a) (h2 : Rd w B A2 m b) (hn : n ≤ 100000000000) (hm : m ≤ 100000000000) :
    Calls Try.prog 26 #[.slice A1 n c1, .slice A2 m c2] w fun e w' => e = .returned (.int .i64 (cmpB a b)) ∧ ∃ d, w' = w.drewN d := by
  have hla := Lib.hid h1.len
  have hlb := Lib.hid h2.len
  go_enter Try.func26, Try.ntmps26
  go_wp2
  go_loopw [5] (fun i wr => ∃ (k d : Nat), k ≤ n ∧ k ≤ m ∧ i = .int .i64 k ∧ a.take k = b.take k ∧ wr = w.drewN d) (fun i _ => n - (intOf i).toNat)
  case atStart => exact ⟨0, 0, Nat.zero_le _, Nat.zero_le _, rfl, rfl, rfl⟩
  case round =>
    obtain ⟨k, d, hkn, hkm, rfl, ht, rfl⟩ := hrel
    have Ht := Lib.hid ht
    clear ht
    by_cases hlt : k < n ∧ k < m
    · obtain ⟨hlt1, hlt2⟩ := hlt
      obtain ⟨bb1, off1, rfl, hc1⟩ := h1.at_ hlt1
      obtain ⟨bb2, off2, rfl, hc2⟩ := h2.at_ hlt2
      have hg1 : (k : Int) < n := by omega
      have hg2 : (k : Int) < m := by omega
      have hka : k < a.length := by rw [hla.out]; exact hlt1
      have hkb : k < b.length := by rw [hlb.out]; exact hlt2
      rcases Int.lt_trichotomy (at8 a k) (at8 b k) with hx | hx | hx
      · have hk := commonB_at a b k Ht.out hka hkb (fun e => by have := (at8_eq_iff a b k).2 e; omega)
        have hfin := Lib.hid (cmpB_at_lt hk hkb hx (by omega))
        clear hk hka hkb
        go_wp2
        go_quiet (fail)
        go_wp2
        go_ret
        exact ⟨ret_int hfin.out.symm, _, World.drewN_drewN ..⟩
      · have hq : ¬ at8 a k < at8 b k := by omega
        have hq2 : ¬ at8 b k < at8 a k := by omega
        have hs := Lib.hid (common_step a b k hka hkb hx Ht.out)
        clear hx hka hkb
        go_wp2
        go_quiet (fail)
        go_wp2
        go_quiet (fail)
        go_wp2
        go_roundw
        case rel => exact ⟨k + 1, _, by omega, by omega, by go_num, hs.out, rfl⟩
        case measure => simp [intOf]; omega
      · have hk := commonB_at a b k Ht.out hka hkb (fun e => by have := (at8_eq_iff a b k).2 e; omega)
        have hfin := Lib.hid (cmpB_at_ge hk (by omega) (show ¬ at8 a k < at8 b k by omega))
        have hq : ¬ at8 a k < at8 b k := by omega
        clear hk hka hkb
        go_wp2
        go_quiet (fail)
        go_wp2
        go_quiet (fail)
        go_wp2
        go_ret
        exact ⟨ret_int hfin.out.symm, by simp only [World.drewN_drewN]; exact ⟨_, rfl⟩⟩
    · have hmi : k = min a.length b.length := by rw [hla.out, hlb.out]; omega
      have hk := commonB_end a b k Ht.out hmi
      rcases Nat.lt_trichotomy n m with hx | hx | hx
      · have hfin := Lib.hid (cmpB_lt hk (by rw [hla.out]; omega) (by rw [hlb.out]; omega))
        clear hk hmi
        go_wp2
        go_ret
        exact ⟨ret_int hfin.out.symm, _, rfl⟩
      · have hfin := Lib.hid (cmpB_eq hk (by rw [hla.out]; omega) (by rw [hlb.out]; omega))
        subst hx
        clear hk hmi
        go_wp2
        go_ret
        exact ⟨ret_int hfin.out.symm, _, rfl⟩
      · have hfin := Lib.hid (cmpB_gt hk (by rw [hla.out]; omega) (by rw [hlb.out]; omega))
        clear hk hmi
        go_wp2
        go_ret
        exact ⟨ret_int hfin.out.symm, _, rfl⟩
end Go.Proofs.Ytkfbkhahkkmcoaa
namespace Go.Proofs.Ytkfbkhahkkmcoaa
open Go.RowKit

set_option maxHeartbeats 800000 in
theorem refBytes_any (A : Option Addr) (n c : Nat) (l : List UInt8) (w : World) (hr : Rd w w.heap.size A n l) (hn : n ≤ 100000000000) :
    Calls Try.prog 57 #[.slice A n c] w fun e w' => ∃ A' n' c', e = .returned (.tuple #[.slice A' n' c', .int .i64 (bytesE l)]) ∧ Own w' w.heap.size A' n' c' (bytesL l) ∧ Below w.heap.size w w' := by
  have hln := Lib.hid hr.len
  by_cases hh : halvesB l = true
  · by_cases hodd : n % 2 = 1
    · have He := Lib.hid (bytesE_odd hh (by rw [hln.out]; exact hodd))
      go_enter Try.func57, Try.ntmps57
      go_wp2_with (go_at_call 75; refine (right_any _ _ _ _ _ _ hr hn).mono ?_; rintro e w' ⟨rfl, rfl⟩)
      go_ret2
      exact ⟨none, 0, 0, ret_se rfl He.out.1.symm, by rw [He.out.2]; exact Own.nil_ _ _, Below.refl _ _⟩
    · have He := Lib.hid (bytesE_ok hh (by rw [hln.out]; omega))
      go_enter Try.func57, Try.ntmps57
      go_wp2_with (first
        | (at_make; refine wpList_mk rfl _ _ rfl (n := n / 2) rfl rfl (by omega) (by omega) (by omega) (Nat.le_refl _) ?_; intro w1 hown1 hg1)
        | (go_at_call 75; refine (right_any _ _ _ _ _ _ hr hn).mono ?_; rintro e w' ⟨rfl, rfl⟩))
      have hb1 : Below w.heap.size w w1 := (Below.refl _ _).grown hg1 (Nat.le_refl _) (by intro k h; cases h)
      have Hh := Lib.hid hh
      clear hh
      go_loopw [5] (fun i wr => ∃ (k : Nat) (L : List UInt8), k ≤ n / 2 ∧ i = .int .i64 k ∧ Own wr w.heap.size (some ⟨w.heap.size, 0, none⟩) (n / 2) (n / 2) L ∧ L.take k = joinB (l.take (2 * k)) ∧ Below w.heap.size w wr) (fun i _ => n - (intOf i).toNat)
      case atStart => exact ⟨0, _, Nat.zero_le _, rfl, hown1, rfl, hb1⟩
      case round =>
        obtain ⟨k, L, hk, rfl, hown, ht, hb⟩ := hrel
        have Ht := Lib.hid ht
        clear ht
        have hLn := Lib.hid hown.len
        by_cases hlt : k < n / 2
        · obtain ⟨bb, off, rfl, hbl, hc⟩ := (hr.below hb).atB (k := 2 * k) (by omega)
          obtain ⟨bb', off', e, hc'⟩ := (hr.below hb).at_ (k := 2 * k + 1) (by omega)
          injection e with e
          injection e with e1 e2
          subst e1 e2
          have h0 := at8_lo l (2 * k)
          have h1 := at8_lo l (2 * k + 1)
          have h2 := halvesB_at l Hh.out (2 * k)
          have h3 := halvesB_at l Hh.out (2 * k + 1)
          have hs1 := hown.cell (j := k) (by omega)
          have hf1 := hown.free k
          have Hown2 := Lib.hid (hown.set (j := k) (x := 16 * at8 l (2 * k) + at8 l (2 * k + 1)) (by omega) (by omega))
          have Hb2 := Lib.hid (hb.setCell (p := ⟨w.heap.size, k, none⟩) (Nat.le_refl _) (.int .u8 (16 * at8 l (2 * k) + at8 l (2 * k + 1))))
          have hj := Lib.hid (joinB_take8 l k (by rw [hln.out]; omega) Hh.out)
          have hw1 : IntKind.i64.wrap (2 * (k : Int)) = 2 * (k : Int) := IntWalk.i64_in _ (by omega)
          have hw9 : IntKind.i64.wrap (2 * (k : Int) + 1) = 2 * (k : Int) + 1 := IntWalk.i64_in _ (by omega)
          have hw2 : (2 * (k : Int)).toNat = 2 * k := by omega
          have hw4 : (2 * (k : Int) + 1).toNat = 2 * k + 1 := by omega
          have hw5 : (0 : Int) ≤ 2 * (k : Int) := by omega
          have hw6 : (2 * (k : Int)) < (n : Int) := by omega
          have hw7 : (0 : Int) ≤ 2 * (k : Int) + 1 := by omega
          have hw8 : (2 * (k : Int) + 1) < (n : Int) := by omega
          have hw3 : IntKind.u8.wrap (16 * at8 l (2 * k)) = 16 * at8 l (2 * k) := IntWalk.u8_in _ (by omega)
          have hw0 : IntKind.u8.wrap (16 * at8 l (2 * k) + at8 l (2 * k + 1)) = 16 * at8 l (2 * k) + at8 l (2 * k + 1) := IntWalk.u8_in _ (by omega)
          go_wp2
          go_region
          all_goals
            clear hw1 hw9 hw2 hw4 hw5 hw6 hw7 hw8 hw3 hw0 hc hc' hs1 hf1 hown hb
            go_wp2
            go_roundw
            case rel => exact ⟨k + 1, _, by omega, by go_num, Hown2.out.drew, by rw [hj.out, Int.mul_comm (at8 l (2 * k)) 16]; exact take_set1 L _ k _ (by rw [hLn.out]; omega) Ht.out, Hb2.out.drew⟩
            case measure => simp [intOf]; omega
        · have hkn : k = n / 2 := by omega
          have hend := Lib.hid (joinB_all l k (by rw [hln.out]; omega) (by rw [hln.out]; omega))
          subst hkn
          go_wp2
          go_ret2
          refine ⟨_, _, _, ret_se rfl He.out.1.symm, ?_, hb⟩
          rw [He.out.2, ← hend.out, ← Ht.out, List.take_of_length_le (by rw [hLn.out]; omega)]
          exact hown
  · have hh' : halvesB l = false := by simpa using hh
    have He := Lib.hid (bytesE_no hh')
    clear hh
    go_enter Try.func57, Try.ntmps57
    go_wp2_with (go_at_call 75; refine (right_any _ _ _ _ _ _ hr hn).mono ?_; rintro e w' ⟨rfl, rfl⟩)
    go_ret2
    exact ⟨none, 0, 0, ret_se rfl He.out.1.symm, by rw [He.out.2]; exact Own.nil_ _ _, Below.refl _ _⟩

theorem halvesB_cons (x : UInt8) (l : List UInt8) (hx : x ≤ 15) (h : halvesB l = true) : halvesB (x :: l) = true := by
  unfold halvesB at *; rw [List.all_cons, h]; simp [hx]
theorem b8_le (x : Int) (h0 : 0 ≤ x) (h1 : x ≤ 15) : b8 x ≤ 15 := by
  unfold b8; rw [UInt8.le_iff_toNat_le, UInt8.toNat_ofNat']; simp; omega
theorem refPack_odd {l : List UInt8} (h : halvesB l = true) (k : l.length % 2 = 1) (leaf : Bool) (x : Int) (hx : x = if leaf = true then 3 else 1) :
    bytesE ([b8 x] ++ l) = 0 ∧ bytesL ([b8 x] ++ l) = packL l leaf := by
  have hx' : 0 ≤ x ∧ x ≤ 15 := by subst hx; split <;> omega
  have hh : halvesB (b8 x :: l) = true := halvesB_cons _ _ (b8_le x hx'.1 hx'.2) h
  obtain ⟨h1, h2⟩ := bytesE_ok (l := [b8 x] ++ l) hh (by simp; omega)
  refine ⟨h1, ?_⟩
  rw [h2, packL_odd h k leaf _ rfl]
  rcases l with _ | ⟨y, l⟩
  · simp at k
  · simp only [List.cons_append, List.nil_append, joinB, List.drop_succ_cons, List.drop_zero]
    congr 1
    have hy : y ≤ 15 := halvesB_le _ h y (by simp)
    have e : at8 (y :: l) 0 = (y.toNat : Int) := rfl
    rw [e]
    have := b8_add (b8 x) y (b8_le x hx'.1 hx'.2) hy
    rw [← this]
    congr 1
    subst hx
    cases leaf <;> simp [b8] <;> omega
theorem refPack_even {l : List UInt8} (h : halvesB l = true) (k : l.length % 2 = 0) (leaf : Bool) (x : Int) (hx : x = if leaf = true then 2 else 0) :
    bytesE ([b8 x] ++ [b8 0] ++ l) = 0 ∧ bytesL ([b8 x] ++ [b8 0] ++ l) = packL l leaf := by
  have hx' : 0 ≤ x ∧ x ≤ 15 := by subst hx; split <;> omega
  have hh : halvesB (b8 x :: b8 0 :: l) = true := halvesB_cons _ _ (b8_le x hx'.1 hx'.2) (halvesB_cons _ _ (b8_le 0 (by omega) (by omega)) h)
  obtain ⟨h1, h2⟩ := bytesE_ok (l := [b8 x] ++ [b8 0] ++ l) hh (by simp; omega)
  refine ⟨h1, ?_⟩
  rw [h2, packL_even h k leaf _ rfl]
  simp only [List.cons_append, List.nil_append, joinB]
  congr 1
  have := b8_add (b8 x) (b8 0) (b8_le x hx'.1 hx'.2) (b8_le 0 (by omega) (by omega))
  rw [← this]
  congr 1
  subst hx
  cases leaf <;> simp [b8]

set_option maxHeartbeats 1600000 in
theorem refPack_any (A : Option Addr) (n c : Nat) (leaf : Bool) (l : List UInt8) (w : World) (hr : Rd w w.heap.size A n l) (hn : n ≤ 10000000000) :
    Calls Try.prog 86 #[.slice A n c, .bool leaf] w fun e w' => ∃ A' n' c', e = .returned (.tuple #[.slice A' n' c', .int .i64 (packE l)]) ∧ Own w' w.heap.size A' n' c' (packL l leaf) ∧ Below w.heap.size w w' := by
  have hln := Lib.hid hr.len
  by_cases hh : halvesB l = true
  · have he := Lib.hid (packE_ok hh)
    by_cases hodd : n % 2 = 1
    · have hl := Lib.hid (refPack_odd hh (by rw [hln.out]; omega) leaf _ rfl)
      have hm : (n : Int) % 2 = 1 := by omega
      cases leaf
      all_goals
        go_enter Try.func86, Try.ntmps86
        go_wp2_with (first
          | (at_builtin; refine wpList_app rfl _ _ rfl rfl (Own.lit1 w w.heap.size (Nat.le_refl _) _ (by omega)) rfl (hr.upA _) (by omega) (sz1 _ _) ?_; intro A1 c1 w1 hown1 hg1)
          | (go_at_call 75; refine (right_any _ _ _ _ _ _ hr (by omega)).mono ?_; rintro e w' ⟨rfl, rfl⟩))
        have hb1 := below_own ((Below.refl _ _).alloc (Nat.le_refl _) _) (Own.lit1 w w.heap.size (Nat.le_refl _) _ (by omega)) hg1
        refine (refBytes_any _ _ _ _ _ hown1.rd (by omega)).mono ?_
        rintro e w2 ⟨A2, n2, c2, rfl, hown2, hb2⟩
        have e1 := hl.out.1
        have e2 := hl.out.2
        simp only [if_true, if_false, Bool.false_eq_true] at e1 e2
        rw [e1]
        rw [e2] at hown2
        clear e1 e2
        go_wp2
        go_ret2
        exact ⟨A2, n2, c2, ret_se rfl he.out.symm, hown2.less hb1.size, hb1.trans (hb2.mono hb1.size)⟩
    · have hl := Lib.hid (refPack_even hh (by rw [hln.out]; omega) leaf _ rfl)
      have hm : (n : Int) % 2 = 0 := by omega
      cases leaf
      all_goals
        go_enter Try.func86, Try.ntmps86
        go_wp2_with (first
          | (go_at_call 75; refine (right_any _ _ _ _ _ _ hr (by omega)).mono ?_; rintro e w' ⟨rfl, rfl⟩)
          | (at_builtin; refine wpList_app rfl _ _ rfl rfl ((Own.lit1 w w.heap.size (Nat.le_refl _) _ (by omega)).alloc _) rfl (Rd.lit1H _ _ (World.size_alloc ..) _ (by omega)) (by omega) (sz2 _ _ _) ?_; intro A1 c1 w1 hown1 hg1; have hb1 := below_own (((Below.refl _ _).alloc (Nat.le_refl _) _).alloc (sz1 _ _) _) ((Own.lit1 w w.heap.size (Nat.le_refl _) _ (by omega)).alloc _) hg1)
          | (at_builtin; refine wpList_app rfl _ _ rfl rfl hown1 rfl (hr.up hb1) (by omega) hb1.size ?_; intro A2 c2 w2 hown2 hg2))
        have hb2 := below_own hb1 hown1 hg2
        refine (refBytes_any _ _ _ _ _ hown2.rd (by omega)).mono ?_
        rintro e w3 ⟨A3, n3, c3, rfl, hown3, hb3⟩
        have e1 := hl.out.1
        have e2 := hl.out.2
        simp only [if_true, if_false, Bool.false_eq_true] at e1 e2
        rw [e1]
        rw [e2] at hown3
        clear e1 e2
        go_wp2
        go_ret2
        exact ⟨A3, n3, c3, ret_se rfl he.out.symm, hown3.less hb2.size, hb2.trans (hb3.mono hb2.size)⟩
  · have hh' : halvesB l = false := by simpa using hh
    have He := Lib.hid (packE_no hh' leaf)
    clear hh
    go_enter Try.func86, Try.ntmps86
    go_wp2_with (go_at_call 75; refine (right_any _ _ _ _ _ _ hr (by omega)).mono ?_; rintro e w' ⟨rfl, rfl⟩)
    go_ret2
    exact ⟨none, 0, 0, ret_se rfl He.out.1.symm, by rw [He.out.2]; exact Own.nil_ _ _, Below.refl _ _⟩

end Go.Proofs.Ytkfbkhahkkmcoaa
