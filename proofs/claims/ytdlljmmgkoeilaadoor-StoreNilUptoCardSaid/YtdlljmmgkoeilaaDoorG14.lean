/- Reference 08: items as data; the walk of Items. Halves of bytes: packed and unpacked: the program's own. Halves of bytes: unpacked; compared: the program's own. Halves of bytes: the reference's walks. Halves of bytes: the reference's walks of what is packed. -/
import Derived.Test.YtdlljmmgkoeilaaDoorG13
import Derived.Test.YtdlljmmgkoeilaaDoorG08
import Derived.Test.YtdlljmmgkoeilaaDoorG03
namespace Go.Proofs.YtdlljmmgkoeilaaDoor
open Go.RowKit
structure It where
  path : List UInt8
  val : List UInt8
  stub : Bool
  known : Bool
  hash : List UInt8
def dI (x : It) : List D := [dB x.path, dB x.val, .v (.bool x.stub), .v (.bool x.known), dB x.hash]
theorem dI_len (x : It) : (dI x).length = 5 := rfl
def dIs (l : List It) : List D := l.flatMap dI
abbrev dIl (l : List It) : D := .sl 5 l.length (dIs l)
theorem dIs_app (a b : List It) : dIs (a ++ b) = dIs a ++ dIs b := by unfold dIs; rw [List.flatMap_append]
theorem sli : slOf Tryd.prog 52 = some (58, 5) := by kernel_rfl
theorem agg_it : aggOf Tryd.prog 58 = some (true, 5) := by kernel_rfl
theorem fI0 : fieldOff Tryd.prog 58 0 = some 0 := by kernel_rfl
theorem fI1 : fieldOff Tryd.prog 58 1 = some 1 := by kernel_rfl
theorem fI2 : fieldOff Tryd.prog 58 2 = some 2 := by kernel_rfl
theorem fI3 : fieldOff Tryd.prog 58 3 = some 3 := by kernel_rfl
theorem fI4 : fieldOff Tryd.prog 58 4 = some 4 := by kernel_rfl
def zI : List Value := [.slice none 0 0, .slice none 0 0, .bool false, .bool false, .slice none 0 0]
theorem pl_it : placesOf Tryd.prog 58 = some [(0, 1), (1, 1), (2, 1), (3, 1), (4, 1)] := by kernel_rfl
theorem z_it : zeroOf Tryd.prog 58 = some zI := by kernel_rfl
theorem itinfo : (Tryd.prog.info? 58).map (fun i => (i.zero, i.size, i.bytes)) = some (some (.agg zI.toArray), 5, 80) := by kernel_rfl
def ics (x : It) (Ap : Option Addr) (cp : Nat) (Av : Option Addr) (cv : Nat) (Ah : Option Addr) (ch : Nat) : List Value := [.slice Ap x.path.length cp, .slice Av x.val.length cv, .bool x.stub, .bool x.known, .slice Ah x.hash.length ch]
theorem RdL.item {W : World} {F : Nat → Prop} {x : It} {cs : List Value} (h : RdL W F (dI x) cs) : ∃ Ap cp Av cv Ah ch, cs = ics x Ap cp Av cv Ah ch ∧ RdD W F (dB x.path) (.slice Ap x.path.length cp) ∧ RdD W F (dB x.val) (.slice Av x.val.length cv) ∧ RdD W F (dB x.hash) (.slice Ah x.hash.length ch) := by
  obtain ⟨u0, _, rfl, h0, h⟩ := (show RdL W F [dB x.path, dB x.val, .v (.bool x.stub), .v (.bool x.known), dB x.hash] cs from h).uncons
  obtain ⟨u1, _, rfl, h1, h⟩ := h.uncons
  obtain ⟨u2, _, rfl, h2, h⟩ := h.uncons
  obtain ⟨u3, _, rfl, h3, h⟩ := h.uncons
  obtain ⟨u4, _, rfl, h4, h⟩ := h.uncons
  rw [h.isnil]
  obtain ⟨A0, c0, e0, _⟩ := h0.open_
  obtain ⟨A1, c1, e1, _⟩ := h1.open_
  obtain ⟨A4, c4, e4, _⟩ := h4.open_
  have e2 := RdD.val.1 h2
  have e3 := RdD.val.1 h3
  subst e0; subst e1; subst e2; subst e3; subst e4
  exact ⟨A0, c0, A1, c1, A4, c4, rfl, h0, h1, h4⟩
/-- An item of a slice that stays. -/
theorem St.item {w W : World} {gs : List (Option Nat)} {L : Lc} {R : List Row} {fs : List Fact} (M : St w gs W L R fs) {l : List It} {A : Option Addr} {n c i : Nat} {x : It} (h : RdD W (Fd W (own L R gs)) (dIl l) (.slice A n c)) (hi : l[i]? = some x) :
    ∃ b off Ap cp Av cv Ah ch, A = some ⟨b, off, none⟩ ∧ St w gs W L R (.loc ((⟨b, off, none⟩ : Addr).add (i * 5)) (ics x Ap cp Av cv Ah ch) :: .dat false (dI x) (ics x Ap cp Av cv Ah ch) :: .dat false [dB x.path] [.slice Ap x.path.length cp] :: .dat false [dB x.val] [.slice Av x.val.length cv] :: .dat false [dB x.hash] [.slice Ah x.hash.length ch] :: fs) := by
  obtain ⟨b, off, es, e, hF, hes, hel, hc⟩ := RdD.elt dI 5 dI_len h hi
  have hes' := hes
  obtain ⟨Ap, cp, Av, cv, Ah, ch, rfl, h1, h2, h3⟩ := hes.item
  exact ⟨b, off, Ap, cp, Av, cv, Ah, ch, e, ((((M.addD h3).addD h2).addD h1).addL hes').addC (by rw [block_of_add]; exact hF) hc⟩
mutual
def itemsP : Nd → List UInt8 → Bool → List It
  | .mk k p has v ks h, way, known =>
    if k = 4 then [⟨way ++ p, [], true, known, h⟩]
    else (if k = 1 ∨ has = true then [⟨way ++ p, v, false, false, []⟩] else []) ++ itemsK ks (decide (k = 3)) (decide (k = 2)) 0 (way ++ p)
def itemsK : List Nd → Bool → Bool → Nat → List UInt8 → List It
  | [], _, _, _, _ => []
  | t :: ts, br, known, i, at_ => itemsP t (if br then at_ ++ [UInt8.ofNat i] else at_) known ++ itemsK ts br known (i + 1) at_
end
end Go.Proofs.YtdlljmmgkoeilaaDoor
namespace Go.Proofs.YtdlljmmgkoeilaaDoor
open Go.RowKit

theorem bytesE_no {l : List UInt8} (h : halvesB l = false) : bytesE l = 2 ∧ bytesL l = [] := by simp [bytesE, bytesL, h]
theorem bytesE_odd {l : List UInt8} (h : halvesB l = true) (k : l.length % 2 = 1) : bytesE l = 11 ∧ bytesL l = [] := by simp [bytesE, bytesL, h, k]
theorem bytesE_ok {l : List UInt8} (h : halvesB l = true) (k : l.length % 2 = 0) : bytesE l = 0 ∧ bytesL l = joinB l := by simp [bytesE, bytesL, h, k]
theorem ret_se {A A' : Option Addr} {n n' c c' : Nat} {x y : Int} (h : Value.slice A n c = Value.slice A' n' c') (k : x = y) : Ending.returned (.tuple #[.slice A n c, .int .i64 x]) = Ending.returned (.tuple #[.slice A' n' c', .int .i64 y]) := by rw [h, k]

set_option maxHeartbeats 800000 in
theorem bytes_any (A : Option Addr) (n c : Nat) (l : List UInt8) (w : World) (hr : Rd w w.heap.size A n l) (hn : n ≤ 100000000000) :
    Calls Tryd.prog 90 #[.slice A n c] w fun e w' => ∃ A' n' c', e = .returned (.tuple #[.slice A' n' c', .int .i64 (bytesE l)]) ∧ Own w' w.heap.size A' n' c' (bytesL l) ∧ Below w.heap.size w w' := by
  have hln := Lib.hid hr.len
  by_cases hh : halvesB l = true
  · by_cases hodd : n % 2 = 1
    · obtain ⟨he, hl⟩ := bytesE_odd hh (by rw [hln.out]; exact hodd)
      have He := Lib.hid he
      have Hl := Lib.hid hl
      clear he hl
      go_enter Tryd.func90, Tryd.ntmps90
      go_wp2_with (go_at_call 84; refine (halves_any _ _ _ _ _ _ hr hn).mono ?_; rintro e w' ⟨rfl, rfl⟩)
      go_ret2
      exact ⟨none, 0, 0, ret_se rfl He.out.symm, by rw [Hl.out]; exact Own.nil_ _ _, Below.refl _ _⟩
    · obtain ⟨he, hl⟩ := bytesE_ok hh (by rw [hln.out]; omega)
      have He := Lib.hid he
      have Hl := Lib.hid hl
      clear he hl
      go_enter Tryd.func90, Tryd.ntmps90
      go_wp2_with (first
        | (go_at_call 84; refine (halves_any _ _ _ _ _ _ hr hn).mono ?_; rintro e w' ⟨rfl, rfl⟩)
        | (go_at_call 85; refine (joined_any _ _ _ _ _ hr hn hh).mono ?_; rintro e w' ⟨A2, c2, rfl, hown2, hb2⟩))
      go_ret2
      exact ⟨A2, n / 2, c2, ret_se rfl He.out.symm, by rw [Hl.out]; exact hown2, hb2⟩
  · have hh' : halvesB l = false := by simpa using hh
    obtain ⟨he, hl⟩ := bytesE_no hh'
    have He := Lib.hid he
    have Hl := Lib.hid hl
    clear he hl hh
    go_enter Tryd.func90, Tryd.ntmps90
    go_wp2_with (go_at_call 84; refine (halves_any _ _ _ _ _ _ hr hn).mono ?_; rintro e w' ⟨rfl, rfl⟩)
    go_ret2
    exact ⟨none, 0, 0, ret_se rfl He.out.symm, by rw [Hl.out]; exact Own.nil_ _ _, Below.refl _ _⟩

theorem halvesB_dropP {l : List UInt8} (h : halvesB l = true) (k : Nat) : halvesB (l.drop k) = true := by
  unfold halvesB at *
  rw [List.all_eq_true] at *
  exact fun x hx => h x (List.mem_of_mem_drop hx)
end Go.Proofs.YtdlljmmgkoeilaaDoor
namespace Go.Proofs.YtdlljmmgkoeilaaDoor
open Go.RowKit

theorem cmpB_eq {a b : List UInt8} {n : Nat} (h : commonB a b = n) (h1 : n = a.length) (h2 : n = b.length) : cmpB a b = 0 := by unfold cmpB; simp only [h]; rw [if_pos ⟨h1, h2⟩]
theorem cmpB_lt {a b : List UInt8} {n : Nat} (h : commonB a b = n) (h1 : n = a.length) (h2 : n ≠ b.length) : cmpB a b = -1 := by unfold cmpB; simp only [h]; rw [if_neg (fun e => h2 e.2), if_pos (.inl h1)]
theorem cmpB_gt {a b : List UInt8} {n : Nat} (h : commonB a b = n) (h1 : n ≠ a.length) (h2 : ¬ n < b.length) : cmpB a b = 1 := by unfold cmpB; simp only [h]; rw [if_neg (fun e => h1 e.1), if_neg (fun e => e.elim h1 (fun e => h2 e.1))]
theorem cmpB_at_lt {a b : List UInt8} {n : Nat} (h : commonB a b = n) (h1 : n < b.length) (h2 : at8 a n < at8 b n) (h3 : n ≠ a.length) : cmpB a b = -1 := by unfold cmpB; simp only [h]; rw [if_neg (fun e => h3 e.1), if_pos (.inr ⟨h1, h2⟩)]
theorem cmpB_at_ge {a b : List UInt8} {n : Nat} (h : commonB a b = n) (h1 : n ≠ a.length) (h2 : ¬ at8 a n < at8 b n) : cmpB a b = 1 := by unfold cmpB; simp only [h]; rw [if_neg (fun e => h1 e.1), if_neg (fun e => e.elim h1 (fun e => h2 e.2))]

set_option maxHeartbeats 1600000 in
theorem cmp_any (A1 A2 : Option Addr) (n m c1 c2 B : Nat) (a b : List UInt8) (w : World) (h1 : Rd w B A1 n a) (h2 : Rd w B A2 m b) (hn : n ≤ 100000000000) (hm : m ≤ 100000000000) :
    Calls Tryd.prog 93 #[.slice A1 n c1, .slice A2 m c2] w fun e w' => e = .returned (.int .i64 (cmpB a b)) ∧ ∃ d, w' = w.drewN d := by
  have hla := Lib.hid h1.len
  have hlb := Lib.hid h2.len
  obtain ⟨k, hk⟩ : ∃ k, commonB a b = k := ⟨_, rfl⟩
  have hle := commonB_le a b
  have hkn : k ≤ n := by rw [← hk, ← hla.out]; exact hle.1
  have hkm : k ≤ m := by rw [← hk, ← hlb.out]; exact hle.2
  have hcall : Hid (∀ W : World, Rd W B A1 n a → Rd W B A2 m b → Calls Tryd.prog 77 #[.slice A1 n c1, .slice A2 m c2] W fun e w' => e = .returned (.int .i64 k) ∧ ∃ d, w' = W.drewN d) :=
    Lib.hid (fun W g1 g2 => by rw [← hk]; exact common_any A1 A2 n m c1 c2 B a b W g1 g2 hn hm)
  have Hk := Lib.hid hk
  clear hk hle
  by_cases e1 : k = n
  · by_cases e2 : k = m
    · have hfin := Lib.hid (cmpB_eq Hk.out (by rw [hla.out]; exact e1) (by rw [hlb.out]; exact e2))
      subst e1
      subst e2
      go_enter Tryd.func93, Tryd.ntmps93
      go_wp2_with (go_at_call 77; refine (hcall.out _ h1 h2).mono ?_; rintro e w' ⟨rfl, d, rfl⟩)
      go_ret
      exact ⟨ret_int hfin.out.symm, _, rfl⟩
    · have hfin := Lib.hid (cmpB_lt Hk.out (by rw [hla.out]; exact e1) (by rw [hlb.out]; exact e2))
      have hb1 : ((k : Int) == (m : Int)) = false := by simp; omega
      subst e1
      go_enter Tryd.func93, Tryd.ntmps93
      go_wp2_with (go_at_call 77; refine (hcall.out _ h1 h2).mono ?_; rintro e w' ⟨rfl, d, rfl⟩)
      go_quiet (fail)
      go_wp2
      go_ret
      exact ⟨ret_int hfin.out.symm, _, World.drewN_drewN ..⟩
  · have hb1 : ((k : Int) == (n : Int)) = false := by simp; omega
    by_cases e2 : k < m
    · obtain ⟨bb1, off1, rfl, hc1⟩ := h1.at_ (k := k) (by omega)
      obtain ⟨bb2, off2, rfl, hc2⟩ := h2.at_ (k := k) (by omega)
      have hd : decide ((k : Int) < (m : Int)) = true := by simp; omega
      by_cases e3 : at8 a k < at8 b k
      · have hfin := Lib.hid (cmpB_at_lt Hk.out (by rw [hlb.out]; exact e2) e3 (by rw [hla.out]; exact e1))
        go_enter Tryd.func93, Tryd.ntmps93
        go_wp2_with (go_at_call 77; refine (hcall.out _ h1 h2).mono ?_; rintro e w' ⟨rfl, d, rfl⟩)
        go_quiet (fail)
        go_wp2
        go_ret
        exact ⟨ret_int hfin.out.symm, _, World.drewN_drewN ..⟩
      · have hfin := Lib.hid (cmpB_at_ge Hk.out (by rw [hla.out]; exact e1) e3)
        have hd2 : decide (at8 a k < at8 b k) = false := by simpa using e3
        go_enter Tryd.func93, Tryd.ntmps93
        go_wp2_with (go_at_call 77; refine (hcall.out _ h1 h2).mono ?_; rintro e w' ⟨rfl, d, rfl⟩)
        go_quiet (fail)
        go_wp2
        go_ret
        exact ⟨ret_int hfin.out.symm, _, World.drewN_drewN ..⟩
    · have hfin := Lib.hid (cmpB_gt Hk.out (by rw [hla.out]; exact e1) (by rw [hlb.out]; exact e2))
      have hd : decide ((k : Int) < (m : Int)) = false := by simp; omega
      go_enter Tryd.func93, Tryd.ntmps93
      go_wp2_with (go_at_call 77; refine (hcall.out _ h1 h2).mono ?_; rintro e w' ⟨rfl, d, rfl⟩)
      go_quiet (fail)
      go_wp2
      go_ret
      exact ⟨ret_int hfin.out.symm, _, World.drewN_drewN ..⟩
end Go.Proofs.YtdlljmmgkoeilaaDoor
namespace Go.Proofs.YtdlljmmgkoeilaaDoor
open Go.RowKit

theorem take_set1 (L P : List UInt8) (k : Nat) (x : UInt8) (h : k < L.length) (hp : L.take k = P) : (L.set k x).take (k + 1) = P ++ [x] := by
  subst hp
  rw [take_snoc _ _ (by simpa using h), List.take_set, List.set_eq_of_length_le (by simp; omega)]
  simp [h]
theorem take_set2 (L P : List UInt8) (k : Nat) (x y : UInt8) (h : 2 * k + 1 < L.length) (hp : L.take (2 * k) = P) : ((L.set (2 * k) x).set (2 * k + 1) y).take (2 * (k + 1)) = P ++ [x, y] := by
  have e1 := take_set1 L P (2 * k) x (by omega) hp
  have e2 := take_set1 (L.set (2 * k) x) (P ++ [x]) (2 * k + 1) y (by simpa using h) e1
  rw [show 2 * (k + 1) = 2 * k + 1 + 1 by omega, e2]
  simp
theorem other_cell {wr : World} {H bb o o' : Nat} {v : Value} (hne : bb < H) (h : wr.cell? ⟨bb, o, none⟩ = some v) : ∀ u, (wr.setCell ⟨H, o', none⟩ u).cell? ⟨bb, o, none⟩ = some v := fun u => by
  rw [World.cell?_setCell_other _ _ _ _ (by intro e; injection e with e; omega)]; exact h

set_option maxHeartbeats 800000 in
theorem refOf_any (A : Option Addr) (n c : Nat) (l : List UInt8) (w : World) (hr : Rd w w.heap.size A n l) (hn : n ≤ 100000000000) :
    Calls Tryd.prog 22 #[.slice A n c] w fun e w' => e = .returned (.slice (some ⟨w.heap.size, 0, none⟩) (2 * n) (2 * n)) ∧ Own w' w.heap.size (some ⟨w.heap.size, 0, none⟩) (2 * n) (2 * n) (ofB l) ∧ Below w.heap.size w w' := by
  go_enter Tryd.func22, Tryd.ntmps22
  go_wp2_with (at_make; refine wpList_mk rfl _ _ rfl (n := 2 * n) rfl rfl (by omega) (by omega) (by omega) (Nat.le_refl _) ?_; intro w1 hown1 hg1)
  have hb1 : Below w.heap.size w w1 := (Below.refl _ _).grown hg1 (Nat.le_refl _) (by intro k h; cases h)
  go_loopw [4] (fun i wr => ∃ (k : Nat) (L : List UInt8), k ≤ n ∧ i = .int .i64 k ∧ Own wr w.heap.size (some ⟨w.heap.size, 0, none⟩) (2 * n) (2 * n) L ∧ L.take (2 * k) = ofB (l.take k) ∧ Below w.heap.size w wr) (fun i _ => n - (intOf i).toNat)
  case atStart => exact ⟨0, _, Nat.zero_le _, rfl, hown1, rfl, hb1⟩
  case round =>
    obtain ⟨k, L, hk, rfl, hown, ht, hb⟩ := hrel
    have Ht := Lib.hid ht
    clear ht
    have hln := Lib.hid hr.len
    have hLn := Lib.hid hown.len
    by_cases hlt : k < n
    · obtain ⟨bb, off, rfl, hbl, hc⟩ := (hr.below hb).atB hlt
      have h0 := at8_lo l k
      have h1 := at8_hi l k
      have hs1 := hown.cell (j := 2 * k) (by omega)
      have hf1 := hown.free (2 * k)
      have hown1 := hown.set (j := 2 * k) (x := at8 l k / 16) (by omega) (by omega)
      have hs2 := hown1.cell (j := 2 * k + 1) (by omega)
      have hf2 := hown1.free (2 * k + 1)
      have hown2 := hown1.set (j := 2 * k + 1) (x := at8 l k % 16) (by omega) (by omega)
      have hco := other_cell (o' := 2 * k) hbl hc
      have hb2 := (hb.setCell (p := ⟨w.heap.size, 2 * k, none⟩) (Nat.le_refl _) (.int .u8 (at8 l k / 16))).setCell (p := ⟨w.heap.size, 2 * k + 1, none⟩) (Nat.le_refl _) (.int .u8 (at8 l k % 16))
      have Hown2 := Lib.hid hown2
      have Hb2 := Lib.hid hb2
      clear hown2 hb2 hown1 hbl
      go_wp2
      go_roundw
      case rel => exact ⟨k + 1, _, by omega, by go_num, Hown2.out, by rw [ofB_take l k (by rw [hln.out]; exact hlt)]; exact take_set2 L _ k _ _ (by rw [hLn.out]; omega) Ht.out, Hb2.out⟩
      case measure => simp [intOf]; omega
    · have hkn : k = n := by omega
      subst hkn
      go_wp2
      go_ret
      refine ⟨rfl, ?_, hb⟩
      have e := Ht.out
      rw [List.take_of_length_le (by rw [hLn.out]; omega), List.take_of_length_le (by rw [hln.out]; omega)] at e
      rw [← e]; exact hown

theorem common_step (a b : List UInt8) (k : Nat) (h1 : k < a.length) (h2 : k < b.length) (he : at8 a k = at8 b k) (ht : a.take k = b.take k) : a.take (k + 1) = b.take (k + 1) := take_both a b k ht h1 h2 ((at8_eq_iff a b k).1 he)

set_option maxHeartbeats 800000 in
theorem refCommon_any (A1 A2 : Option Addr) (n m c1 c2 B : Nat) (a b : List UInt8) (w : World) (h1 : Rd w B A1 n a) (h2 : Rd w B A2 m b) (hn : n ≤ 100000000000) (_hm : m ≤ 100000000000) :
    Calls Tryd.prog 45 #[.slice A1 n c1, .slice A2 m c2] w fun e w' => e = .returned (.int .i64 (commonB a b)) ∧ ∃ d, w' = w.drewN d := by
  go_enter Tryd.func45, Tryd.ntmps45
  go_wp2
  go_loopw [5] (fun i wr => ∃ (k d : Nat), k ≤ n ∧ k ≤ m ∧ i = .int .i64 k ∧ a.take k = b.take k ∧ wr = w.drewN d) (fun i _ => n - (intOf i).toNat)
  case atStart => exact ⟨0, 0, Nat.zero_le _, Nat.zero_le _, rfl, rfl, rfl⟩
  case round =>
    obtain ⟨k, d, hkn, hkm, rfl, ht, rfl⟩ := hrel
    have Ht := Lib.hid ht
    clear ht
    have hla := Lib.hid h1.len
    have hlb := Lib.hid h2.len
    by_cases hlt1 : k < n
    · by_cases hlt2 : k < m
      · obtain ⟨bb1, off1, rfl, hc1⟩ := h1.at_ hlt1
        obtain ⟨bb2, off2, rfl, hc2⟩ := h2.at_ hlt2
        have hg1 : (k : Int) < n := by omega
        have hg2 : (k : Int) < m := by omega
        by_cases heq : at8 a k = at8 b k
        · have hq : (at8 a k == at8 b k) = true := by simp [heq]
          have He := Lib.hid heq
          clear heq
          go_wp2
          go_quiet (fail)
          go_wp2
          go_roundw
          case rel => exact ⟨k + 1, _, by omega, by omega, by go_num, common_step a b k (by rw [hla.out]; exact hlt1) (by rw [hlb.out]; exact hlt2) He.out Ht.out, rfl⟩
          case measure => simp [intOf]; omega
        · have hq : (at8 a k == at8 b k) = false := by simp [heq]
          have He := Lib.hid heq
          clear heq
          go_wp2
          go_quiet (fail)
          go_wp2
          go_ret
          exact ⟨ret_int (by rw [commonB_at a b k Ht.out (by rw [hla.out]; exact hlt1) (by rw [hlb.out]; exact hlt2) (fun e => He.out ((at8_eq_iff a b k).2 e))]), _, World.drewN_drewN ..⟩
      · have hmi : Hid (k = min a.length b.length) := Lib.hid (by have := hla.out; have := hlb.out; omega)
        have hg1 : (k : Int) < n := by omega
        have hd : decide ((k : Int) < m) = false := by simp; omega
        go_wp2
        go_quiet (fail)
        go_wp2
        go_ret
        exact ⟨ret_int (by rw [commonB_end a b k Ht.out hmi.out]), _, World.drewN_drewN ..⟩
    · have hmi : Hid (k = min a.length b.length) := Lib.hid (by have := hla.out; have := hlb.out; omega)
      have hd : decide ((k : Int) < n) = false := by simp; omega
      go_wp2
      go_quiet (fail)
      go_wp2
      go_ret
      exact ⟨ret_int (by rw [commonB_end a b k Ht.out hmi.out]), _, World.drewN_drewN ..⟩

set_option maxHeartbeats 1600000 in
theorem cmp04_any (A1 A2 : Option Addr) (n m c1 c2 B : Nat) (a b : List UInt8) (w : World) (h1 : Rd w B A1 n a) (h2 : Rd w B A2 m b) (hn : n ≤ 100000000000) (hm : m ≤ 100000000000) :
    Calls Tryd.prog 34 #[.slice A1 n c1, .slice A2 m c2] w fun e w' => e = .returned (.int .i64 (cmpB a b)) ∧ ∃ d, w' = w.drewN d := by
  have hla := Lib.hid h1.len
  have hlb := Lib.hid h2.len
  go_enter Tryd.func34, Tryd.ntmps34
  go_wp2
  go_loopw [5] (fun i wr => ∃ (k d : Nat), k ≤ n ∧ k ≤ m ∧ i = .int .i64 k ∧ a.take k = b.take k ∧ wr = w.drewN d) (fun i _ => n - (intOf i).toNat)
  case atStart => exact ⟨0, 0, Nat.zero_le _, Nat.zero_le _, rfl, rfl, rfl⟩
  case round =>
    obtain ⟨k, d, hkn, hkm, rfl, ht, rfl⟩ := hrel
    have Ht := Lib.hid ht
    clear ht
    by_cases hlt : k < n ∧ k < m
    · obtain ⟨hlt1, hlt2⟩ := hlt
      obtain ⟨bb1, off1, rfl, hc1⟩ := h1.at_ hlt1
      obtain ⟨bb2, off2, rfl, hc2⟩ := h2.at_ hlt2
      have hg1 : (k : Int) < n := by omega
      have hg2 : (k : Int) < m := by omega
      have hka : k < a.length := by rw [hla.out]; exact hlt1
      have hkb : k < b.length := by rw [hlb.out]; exact hlt2
      rcases Int.lt_trichotomy (at8 a k) (at8 b k) with hx | hx | hx
      · have hk := commonB_at a b k Ht.out hka hkb (fun e => by have := (at8_eq_iff a b k).2 e; omega)
        have hfin := Lib.hid (cmpB_at_lt hk hkb hx (by omega))
        clear hk hka hkb
        go_wp2
        go_quiet (fail)
        go_wp2
        go_ret
        exact ⟨ret_int hfin.out.symm, _, World.drewN_drewN ..⟩
      · have hq : ¬ at8 a k < at8 b k := by omega
        have hq2 : ¬ at8 b k < at8 a k := by omega
        have hs := Lib.hid (common_step a b k hka hkb hx Ht.out)
        clear hx hka hkb
        go_wp2
        go_quiet (fail)
        go_wp2
        go_quiet (fail)
        go_wp2
        go_roundw
        case rel => exact ⟨k + 1, _, by omega, by omega, by go_num, hs.out, rfl⟩
        case measure => simp [intOf]; omega
      · have hk := commonB_at a b k Ht.out hka hkb (fun e => by have := (at8_eq_iff a b k).2 e; omega)
        have hfin := Lib.hid (cmpB_at_ge hk (by omega) (show ¬ at8 a k < at8 b k by omega))
        have hq : ¬ at8 a k < at8 b k := by omega
        clear hk hka hkb
        go_wp2
        go_quiet (fail)
        go_wp2
        go_quiet (fail)
        go_wp2
        go_ret
        exact ⟨ret_int hfin.out.symm, by simp only [World.drewN_drewN]; exact ⟨_, rfl⟩⟩
    · have hmi : k = min a.length b.length := by rw [hla.out, hlb.out]; omega
      have hk := commonB_end a b k Ht.out hmi
      rcases Nat.lt_trichotomy n m with hx | hx | hx
      · have hfin := Lib.hid (cmpB_lt hk (by rw [hla.out]; omega) (by rw [hlb.out]; omega))
        clear hk hmi
        go_wp2
        go_ret
        exact ⟨ret_int hfin.out.symm, _, rfl⟩
      · have hfin := Lib.hid (cmpB_eq hk (by rw [hla.out]; omega) (by rw [hlb.out]; omega))
        subst hx
        clear hk hmi
        go_wp2
        go_ret
        exact ⟨ret_int hfin.out.symm, _, rfl⟩
      · have hfin := Lib.hid (cmpB_gt hk (by rw [hla.out]; omega) (by rw [hlb.out]; omega))
        clear hk hmi
        go_wp2
        go_ret
        exact ⟨ret_int hfin.out.symm, _, rfl⟩
end Go.Proofs.YtdlljmmgkoeilaaDoor
