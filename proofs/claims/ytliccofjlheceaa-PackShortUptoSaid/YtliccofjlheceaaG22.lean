/- Package pack: the reader's branch. -/
import Derived.Test.YtliccofjlheceaaG20
import Derived.Test.YtliccofjlheceaaG15
import Derived.Test.YtliccofjlheceaaG21
namespace Go.Proofs.Ytliccofjlheceaa
open Go.RowKit
inductive Rb where
  | bad (e : Int)
  | got (has : Bool) (v : List UInt8) (ks : List Nd) (b : List UInt8) (done : List Nd) (left : Int)
def brF (f : List UInt8 → List Nd → Int → Rr) (b : List UInt8) (done : List Nd) (left : Int) : Rb := match b with
    | [] => .bad 11
    | h :: b1 => (match (if h = 1 then textX b1 else some ([], b1)) with
      | none => .bad 11
      | some (v, b2) => if b2.length < 2 then .bad 11 else (match kidsA f (b2.take 2) 16 0 [] (b2.drop 2) done left with
        | .bad e => .bad e
        | .got ks b3 d3 l3 => .got (decide (h = 1)) v ks b3 d3 l3))
theorem body_3 (f : List UInt8 → List Nd → Int → Rr) (b : List UInt8) (done : List Nd) (left : Int) : bodyX f 3 b done left = match brF f b done left with
    | .bad e => .bad e
    | .got has v ks b3 d3 l3 => .got (.mk 3 [] has v ks []) b3 (d3 ++ [.mk 3 [] has v ks []]) l3 := by
  unfold bodyX brF
  rw [if_neg (by decide), if_pos rfl]
  cases b with
  | nil => rfl
  | cons h b1 =>
    dsimp only
    cases (if h = 1 then textX b1 else some ([], b1)) with
    | none => rfl
    | some r =>
      obtain ⟨v, b2⟩ := r
      dsimp only
      split
      · rfl
      · cases kidsA f (b2.take 2) 16 0 [] (b2.drop 2) done left <;> rfl
def Pbr (D : Nat) (r : Rb) (has : Bool) (v : List UInt8) (ks : List Nd) (b' : List UInt8) (done' : List Nd) (left' e' : Int) (A' : Option Addr) (n' c' : Nat) : Prop := match r with
  | .got h1 v1 ks1 b1 d1 l1 => e' = 0 ∧ has = h1 ∧ v = v1 ∧ ks = ks1 ∧ b' = b1 ∧ done' = d1 ∧ left' = l1
  | .bad x => e' = x ∧ e' ≠ 0 ∧ b' = [] ∧ A' = none ∧ n' = 0 ∧ c' = 0 ∧ done'.length ≤ D
def RnOk (F : Nat) : Prop := ∀ (B deep : Nat), deep + F = 403 → B ≤ 3200000 → ∀ (w W : World) (gs : List (Option Nat)) (g : Nat) (A : Option Addr) (n c : Nat) (Ad : Option Addr) (nd cd : Nat) (left : Int) (b : List UInt8) (done : List Nd) (xs : List Value) (L : Lc) (R : List Row) (fs : List Fact),
  0 ≤ left → left ≤ 5000 → (∀ x ∈ done, smC B x) → 3 * b.length + 32 ≤ B → done.length + b.length ≤ 2000000 →
  St w gs W ((g, 87, rc A n c Ad nd cd left 0) :: L) (⟨38, 6, Ad, nd, cd, xs⟩ :: R) (.dat false (dNs done) xs :: .dat false [dB b] [.slice A n c] :: fs) →
  Calls Try.prog 48 #[.pointer (some ⟨g, 0, none⟩), .int .i64 (deep : Nat)] W fun en W' => ∃ cs tn A' n' c' Ad' nd' cd' xs' b' done' left' e', en = .returned (.agg cs.toArray) ∧
    St w gs W' ((g, 87, rc A' n' c' Ad' nd' cd' left' e') :: L) (⟨38, 6, Ad', nd', cd', xs'⟩ :: R) (.dat false (dN tn) cs :: .dat false (dNs done') xs' :: .dat false [dB b'] [.slice A' n' c'] :: fs) ∧ Pst (done.length + b.length + F) (oneF F b done left) tn b' done' left' e' A' n' c'
theorem u8_one {h : UInt8} : ((h.toNat : Nat) : Int) = 1 ↔ h = 1 := by
  constructor
  · intro e
    have : h.toNat = 1 := by omega
    exact UInt8.toNat_inj.1 this
  · rintro rfl; rfl
set_option maxRecDepth 100000 in
set_option maxHeartbeats 8000000 in
theorem pbr_any (F : Nat) (ih : RnOk F) (B deep : Nat) (hdp : deep + (F + 1) = 403) (hB : B ≤ 3200000) (w W : World) (gs : List (Option Nat)) (g gn : Nat) (A : Option Addr) (n c : Nat) (Ad : Option Addr) (nd cd : Nat) (left e : Int) (b : List UInt8) (done : List Nd) (xs : List Value) (L : Lc) (R : List Row) (fs : List Fact)
    (hl0 : e = 0 → 0 ≤ left ∧ left ≤ 5000) (hds : ∀ x ∈ done, smC B x) (hbB : 3 * b.length + 32 ≤ B) (hdl : done.length + b.length ≤ 2000000) (he : e = 0 ∨ (e ≠ 0 ∧ b = [] ∧ A = none ∧ n = 0 ∧ c = 0))
    (M : St w gs W ((g, 87, rc A n c Ad nd cd left e) :: (gn, 38, [.int .i64 3, .slice none 0 0, .bool false, .slice none 0 0, .slice none 0 0, .slice none 0 0]) :: L) (⟨38, 6, Ad, nd, cd, xs⟩ :: R) (.dat false (dNs done) xs :: .dat false [dB b] [.slice A n c] :: fs)) :
    Calls Try.prog 75 #[.pointer (some ⟨g, 0, none⟩), .pointer (some ⟨gn, 0, none⟩), .int .i64 (deep : Nat)] W fun en W' => (∃ v, en = .returned v) ∧ ∃ has v ks Av cv gk A' n' c' Ad' nd' cd' xs' b' done' left' e', ks.length = 16 ∧
      St w gs W' ((g, 87, rc A' n' c' Ad' nd' cd' left' e') :: (gn, 38, ncs (.mk 3 [] has v ks []) none 0 Av cv (some ⟨gk, 0, none⟩) 16 none 0) :: L) (⟨38, 6, Ad', nd', cd', xs'⟩ :: R) (.dat false (dN (.mk 3 [] has v ks [])) (ncs (.mk 3 [] has v ks []) none 0 Av cv (some ⟨gk, 0, none⟩) 16 none 0) :: .dat false (dNs done') xs' :: .dat false [dB b'] [.slice A' n' c'] :: fs) ∧
      Pbr (done.length + b.length + F) (if e = 0 then brF (oneF F) b done left else .bad e) has v ks b' done' left' e' A' n' c' := by
  refine calls_ev (args := [.pointer (some ⟨g, 0, none⟩), .pointer (some ⟨gn, 0, none⟩), .int .i64 (deep : Nat)]) mixed Try.func75 rfl (by kernel_rfl) ?_
  have hbad : e ≠ 0 → A = none ∧ n = 0 ∧ c = 0 := fun h => by
    rcases he with h' | h'
    · exact absurd h' h
    · exact h'.2.2
  have en := (M.d1 1 rfl).slen
  obtain ⟨S0, hS0⟩ : ∃ S0, S0 = (if e = 0 then brF (oneF F) b done left else .bad e) := ⟨_, rfl⟩
  rw [← hS0]
  refine ev_assoc ?_
  refine cutS (Bool × List UInt8 × Option Addr × Nat × List UInt8 × Option Addr × Nat × Option Addr × Nat × Nat × List UInt8 × Int) (fun s W => St w gs W ((g, 87, rc s.2.2.2.2.2.2.2.1 s.2.2.2.2.2.2.2.2.1 s.2.2.2.2.2.2.2.2.2.1 Ad nd cd left s.2.2.2.2.2.2.2.2.2.2.2) :: (gn, 38, [.int .i64 3, .slice none 0 0, .bool s.1, .slice s.2.2.1 s.2.1.length s.2.2.2.1, .slice none 0 0, .slice none 0 0]) :: L) (⟨38, 6, Ad, nd, cd, xs⟩ :: R) (.dat false (dNs done) xs :: .dat false [dB s.2.2.2.2.2.2.2.2.2.2.1] [.slice s.2.2.2.2.2.2.2.1 s.2.2.2.2.2.2.2.2.1 s.2.2.2.2.2.2.2.2.2.1] :: .dat false [dB s.2.1] [.slice s.2.2.1 s.2.1.length s.2.2.2.1] :: .dat false [dB s.2.2.2.2.1] [.slice s.2.2.2.2.2.1 2 s.2.2.2.2.2.2.1] :: fs) ∧ s.2.2.2.2.1.length = 2 ∧
      ((s.2.2.2.2.2.2.2.2.2.2.2 = 0 ∧ e = 0 ∧ s.2.2.2.2.2.2.2.2.2.2.1.length ≤ b.length ∧ S0 = (match kidsA (oneF F) s.2.2.2.2.1 16 0 [] s.2.2.2.2.2.2.2.2.2.2.1 done left with | .bad x => .bad x | .got ks b3 d3 l3 => .got s.1 s.2.1 ks b3 d3 l3)) ∨
       (s.2.2.2.2.2.2.2.2.2.2.2 ≠ 0 ∧ s.2.2.2.2.2.2.2.2.2.2.1 = [] ∧ s.2.2.2.2.2.2.2.1 = none ∧ s.2.2.2.2.2.2.2.2.1 = 0 ∧ s.2.2.2.2.2.2.2.2.2.1 = 0 ∧ s.2.2.2.2.1 = [0, 0] ∧ S0 = .bad s.2.2.2.2.2.2.2.2.2.2.2)))
    (fun s => [(0, .pointer (some ⟨g, 0, none⟩)), (1, .pointer (some ⟨gn, 0, none⟩)), (2, .int .i64 (deep : Nat)), (6, .slice s.2.2.2.2.2.1 2 s.2.2.2.2.2.2.1)]) ?_ ?_
  · -- what stands ahead of the kids
    have hnl : ∀ {F : Nat → Prop} {W : World}, RdD W F (dB []) (.slice none 0 0) := RdD.nil_ (s := 1) none 0
    cases b with
    | nil =>
      refine cc is_pcut (rcutB 1 (b := []) (by decide) (by decide) hbad M (M.d1 1 rfl)) ?_
      clear M
      rintro en W ⟨A1, rfl, M⟩
      refine ⟨_, rfl, ?_⟩
      obtain ⟨bb, off, hA, hcell⟩ := (M.rdb 0 rfl).2.2.at_ (k := 0) (by decide)
      subst hA
      refine p_at (i := 0) slb rfl rfl rfl (by decide) ?_
      refine v_load agg_by' rfl (by rw [Addr.add_lit, Nat.zero_mul]; exact hcell) ?_
      refine p_eq rfl rfl (fun h => absurd (show (0 : Int) = 1 from h) (by decide)) (fun _ => ?_)
      refine p_nil rfl ?_
      refine p_fld fN2 rfl ?_
      refine s_set 1 (off := 2) (.bool false) [.int .i64 3, .slice none 0 0, .bool false, .slice none 0 0, .slice none 0 0, .slice none 0 0] M rfl sz_boS rfl rfl rfl (Nat.le_of_ble_eq_true rfl) rfl ?_
      clear M; rintro W M
      dsimp only [setL] at M
      refine p_nil rfl ?_
      refine p_fld fN2 rfl ?_
      refine v_load agg_bo rfl ((M.B 1 rfl).at_ rfl) ?_
      have hfe := fe_ne (x := 11) e (by decide)
      refine cc is_pcut (rcutB 2 (b := []) (by decide) (by decide) (fun _ => ⟨rfl, rfl, rfl⟩) M hnl) ?_
      clear M
      rintro en W ⟨A9, rfl, M⟩
      refine ⟨_, rfl, ?_⟩
      replace M := (((M.addD (M.d1 0 rfl)).addD hnl).addD hnl)
      have hfe2 : fe (fe e 11) 11 = fe e 11 := by rw [show fe (fe e 11) 11 = if fe e 11 = 0 then 11 else fe e 11 from rfl, if_neg hfe]
      rw [hfe2] at M
      refine ⟨(false, [], none, 0, [0, 0], A9, 2, none, 0, 0, [], fe e 11), ⟨M.fsub _ (by intro f hf; simp only [List.mem_cons] at hf ⊢; rcases hf with h | h | h | h | h <;> simp [h]), rfl, .inr ⟨hfe, rfl, rfl, rfl, rfl, rfl, ?_⟩⟩, (by repeat (first | exact trivial | refine ⟨rfl, ?_⟩))⟩
      rw [hS0]; unfold fe
      split <;> rfl
    | cons h b1 =>
      have he0 : e = 0 := he.resolve_right fun h' => by cases h'.2.1
      subst he0
      rw [if_pos rfl] at hS0
      rw [List.length_cons] at hbB hdl en
      refine cc is_pcut (rcutG 1 (by simp) (by omega) M (M.d1 1 rfl)) ?_
      clear M
      rintro en' W ⟨A1, c1, A2, n2, c2, rfl, M⟩
      refine ⟨_, rfl, ?_⟩
      rw [show (h :: b1).take 1 = [h] from rfl, show (h :: b1).drop 1 = b1 from rfl] at M
      have en2 := (M.d1 1 rfl).slen
      obtain ⟨bb, off, hA, hcell⟩ := (M.rdb 0 rfl).2.2.at_ (k := 0) Nat.one_pos
      subst hA
      refine p_at (i := 0) slb rfl rfl rfl Nat.one_pos ?_
      refine v_load agg_by' rfl (by rw [Addr.add_lit, Nat.zero_mul]; exact hcell) ?_
      refine p_eq rfl rfl (fun h1 => ?_) (fun h1 => ?_)
      · have h1 : h = 1 := u8_one.1 h1
        subst h1
        refine p_nil rfl ?_
        refine p_fld fN2 rfl ?_
        refine s_set 1 (off := 2) (.bool true) [.int .i64 3, .slice none 0 0, .bool true, .slice none 0 0, .slice none 0 0, .slice none 0 0] M rfl sz_boS rfl rfl rfl (Nat.le_of_ble_eq_true rfl) rfl ?_
        clear M; rintro W M
        dsimp only [setL] at M
        refine p_nil rfl ?_
        refine p_fld fN2 rfl ?_
        refine v_load agg_bo rfl ((M.B 1 rfl).at_ rfl) ?_
        cases ht : textX b1 with
        | none =>
          refine cc is_ptext (rtextB ht (fun h => absurd rfl h) (by omega) M (M.d1 1 rfl)) ?_
          clear M
          rintro en W ⟨rfl, M⟩
          refine ⟨_, rfl, ?_⟩
          refine p_nil rfl ?_
          refine p_fld fN3 rfl ?_
          refine s_set 1 (off := 3) (.slice none 0 0) [.int .i64 3, .slice none 0 0, .bool true, .slice none 0 0, .slice none 0 0, .slice none 0 0] M rfl sz_slP rfl rfl rfl (Nat.le_of_ble_eq_true rfl) rfl ?_
          clear M; rintro W M
          dsimp only [setL] at M
          rw [show fe 0 11 = 11 from rfl] at M
          refine cc is_pcut (rcutB 2 (b := []) (by decide) (by decide) (fun _ => ⟨rfl, rfl, rfl⟩) M hnl) ?_
          clear M
          rintro en W ⟨A9, rfl, M⟩
          refine ⟨_, rfl, ?_⟩
          replace M := (((M.addD (M.d1 0 rfl)).addD hnl).addD hnl)
          rw [show fe 11 11 = 11 from rfl] at M
          refine ⟨(true, [], none, 0, [0, 0], A9, 2, none, 0, 0, [], 11), ⟨M.fsub _ (by intro f hf; simp only [List.mem_cons] at hf ⊢; rcases hf with h | h | h | h | h <;> simp [h]), rfl, .inr ⟨(show (11 : Int) ≠ 0 by decide), rfl, rfl, rfl, rfl, rfl, ?_⟩⟩, (by repeat (first | exact trivial | refine ⟨rfl, ?_⟩))⟩
          rw [hS0]
          unfold brF
          dsimp only
          rw [if_pos rfl, ht]
        | some r =>
          obtain ⟨v, b2⟩ := r
          have hle := textX_le ht
          refine cc is_ptext (rtextG ht (by omega) M (M.d1 1 rfl)) ?_
          clear M
          rintro en W ⟨A3, c3, A4, n4, c4, rfl, M⟩
          refine ⟨_, rfl, ?_⟩
          replace M := M.fsub (.dat true [dB v] [.slice A3 v.length c3] :: .dat false [dB b2] [.slice A4 n4 c4] :: .dat false (dNs done) xs :: fs) (by intro f hf; simp only [List.mem_cons] at hf ⊢; rcases hf with h | h | h | h <;> simp [h])
          replace M := (M.addD (M.d1 0 rfl)).fsub (.dat false [dB v] [.slice A3 v.length c3] :: .dat false [dB b2] [.slice A4 n4 c4] :: .dat false (dNs done) xs :: fs) (by intro f hf; simp only [List.mem_cons] at hf ⊢; rcases hf with h | h | h | h <;> simp [h])
          have en4 := (M.d1 1 rfl).slen
          refine p_nil rfl ?_
          refine p_fld fN3 rfl ?_
          refine s_set 1 (off := 3) (.slice A3 v.length c3) [.int .i64 3, .slice none 0 0, .bool true, .slice A3 v.length c3, .slice none 0 0, .slice none 0 0] M rfl sz_slP rfl rfl rfl (Nat.le_of_ble_eq_true rfl) rfl ?_
          clear M; rintro W M
          dsimp only [setL] at M
          by_cases hl : b2.length < 2
          · refine cc is_pcut (rcutB 2 hl (by decide) (fun h => absurd rfl h) M (M.d1 1 rfl)) ?_
            clear M
            rintro en W ⟨A9, rfl, M⟩
            refine ⟨_, rfl, ?_⟩
            rw [show fe 0 11 = 11 from rfl] at M
            replace M := (M.addD (M.d1 0 rfl)).addD hnl
            refine ⟨(true, v, A3, c3, [0, 0], A9, 2, none, 0, 0, [], 11), ⟨M.fsub _ (by intro f hf; simp only [List.mem_cons] at hf ⊢; rcases hf with h | h | h | h | h <;> simp [h]), rfl, .inr ⟨(show (11 : Int) ≠ 0 by decide), rfl, rfl, rfl, rfl, rfl, ?_⟩⟩, (by repeat (first | exact trivial | refine ⟨rfl, ?_⟩))⟩
            rw [hS0]
            unfold brF
            dsimp only
            rw [if_pos rfl, ht]
            dsimp only
            rw [if_pos hl]
          · refine cc is_pcut (rcutG 2 (by omega) (by omega) M (M.d1 1 rfl)) ?_
            clear M
            rintro en W ⟨A9, c9, A10, n10, c10, rfl, M⟩
            refine ⟨_, rfl, ?_⟩
            refine ⟨(true, v, A3, c3, b2.take 2, A9, c9, A10, n10, c10, b2.drop 2, 0), ⟨M.fsub _ (by intro f hf; simp only [List.mem_cons] at hf ⊢; rcases hf with h | h | h | h | h <;> simp [h]), by dsimp only; rw [List.length_take]; omega, .inl ⟨rfl, rfl, by dsimp only; rw [List.length_drop, List.length_cons]; omega, ?_⟩⟩, (by repeat (first | exact trivial | refine ⟨rfl, ?_⟩))⟩
            rw [hS0]
            unfold brF
            dsimp only
            rw [if_pos rfl, ht]
            dsimp only
            rw [if_neg hl]
            rfl
      · have h1 : ¬ h = 1 := fun e => h1 (u8_one.2 e)
        refine p_nil rfl ?_
        refine p_fld fN2 rfl ?_
        refine s_set 1 (off := 2) (.bool false) [.int .i64 3, .slice none 0 0, .bool false, .slice none 0 0, .slice none 0 0, .slice none 0 0] M rfl sz_boS rfl rfl rfl (Nat.le_of_ble_eq_true rfl) rfl ?_
        clear M; rintro W M
        dsimp only [setL] at M
        refine p_nil rfl ?_
        refine p_fld fN2 rfl ?_
        refine v_load agg_bo rfl ((M.B 1 rfl).at_ rfl) ?_
        replace M := (M.addD (d := dB []) (u := .slice none 0 0) hnl).fsub (.dat false [dB []] [.slice none 0 0] :: .dat false [dB b1] [.slice A2 n2 c2] :: .dat false (dNs done) xs :: fs) (by intro f hf; simp only [List.mem_cons] at hf ⊢; rcases hf with h | h | h | h <;> simp [h])
        by_cases hl : b1.length < 2
        · refine cc is_pcut (rcutB 2 hl (by decide) (fun h => absurd rfl h) M (M.d1 1 rfl)) ?_
          clear M
          rintro en W ⟨A9, rfl, M⟩
          refine ⟨_, rfl, ?_⟩
          rw [show fe 0 11 = 11 from rfl] at M
          replace M := (M.addD (M.d1 0 rfl)).addD hnl
          refine ⟨(false, [], none, 0, [0, 0], A9, 2, none, 0, 0, [], 11), ⟨M.fsub _ (by intro f hf; simp only [List.mem_cons] at hf ⊢; rcases hf with h | h | h | h | h <;> simp [h]), rfl, .inr ⟨(show (11 : Int) ≠ 0 by decide), rfl, rfl, rfl, rfl, rfl, ?_⟩⟩, (by repeat (first | exact trivial | refine ⟨rfl, ?_⟩))⟩
          rw [hS0]
          unfold brF
          dsimp only
          rw [if_neg h1]
          dsimp only
          rw [if_pos hl]
        · refine cc is_pcut (rcutG 2 (by omega) (by omega) M (M.d1 1 rfl)) ?_
          clear M
          rintro en W ⟨A9, c9, A10, n10, c10, rfl, M⟩
          refine ⟨_, rfl, ?_⟩
          refine ⟨(false, [], none, 0, b1.take 2, A9, c9, A10, n10, c10, b1.drop 2, 0), ⟨M.fsub _ (by intro f hf; simp only [List.mem_cons] at hf ⊢; rcases hf with h | h | h | h | h <;> simp [h]), by dsimp only; rw [List.length_take]; omega, .inl ⟨rfl, rfl, by dsimp only; rw [List.length_drop, List.length_cons]; omega, ?_⟩⟩, (by repeat (first | exact trivial | refine ⟨rfl, ?_⟩))⟩
          rw [hS0]
          unfold brF
          dsimp only
          rw [if_neg h1]
          dsimp only
          rw [if_neg hl]
          rw [decide_eq_false h1]
  clear M
  rintro ⟨has, v, Av, cv, set, As, cs_, A2, n2, c2, b2, e2⟩ B0 W0 ⟨M, hset, hJ⟩
  dsimp only at M hset hJ
  refine s_mkN M rfl rfl ?_
  clear M; rintro gk W M
  refine p_nil rfl ?_
  refine p_fld fN4 rfl ?_
  refine s_set 2 (off := 4) (.slice (some ⟨gk, 0, none⟩) 16 16) [.int .i64 3, .slice none 0 0, .bool has, .slice Av v.length cv, .slice (some ⟨gk, 0, none⟩) 16 16, .slice none 0 0] M rfl sz_nsP rfl rfl rfl (Nat.le_of_ble_eq_true rfl) rfl ?_
  clear M; rintro W M
  dsimp only [setL] at M
  replace M := M.swp
  refine p_nil rfl ?_
  refine p_fld fN4 rfl ?_
  refine v_load agg_ns rfl ((M.B 2 rfl).at_ rfl) ?_
  refine p_len sln rfl ?_
  replace M := M.addT (fr := false) (ds := dNs (noneNs 16)) (cs := zNs 16) (RdL.znones 16)
  obtain ⟨T, hT⟩ : ∃ T, T = kidsA (oneF F) set 16 0 [] b2 done left := ⟨_, rfl⟩
  rw [← hT] at hJ
  refine lp (Nat × List Nd × List Value × Option Addr × Nat × Nat × Option Addr × Nat × Nat × Int × Int × List UInt8 × List Nd × List Value) (fun s W => s.1 ≤ 16 ∧ s.2.1.length = s.1 ∧ St w gs W ((g, 87, rc s.2.2.2.1 s.2.2.2.2.1 s.2.2.2.2.2.1 s.2.2.2.2.2.2.1 s.2.2.2.2.2.2.2.1 s.2.2.2.2.2.2.2.2.1 s.2.2.2.2.2.2.2.2.2.1 s.2.2.2.2.2.2.2.2.2.2.1) :: (gk, 38, s.2.2.1) :: (gn, 38, [.int .i64 3, .slice none 0 0, .bool has, .slice Av v.length cv, .slice (some ⟨gk, 0, none⟩) 16 16, .slice none 0 0]) :: L) (⟨38, 6, s.2.2.2.2.2.2.1, s.2.2.2.2.2.2.2.1, s.2.2.2.2.2.2.2.2.1, s.2.2.2.2.2.2.2.2.2.2.2.2.2⟩ :: R) (.dat false (dNs s.2.2.2.2.2.2.2.2.2.2.2.2.1) s.2.2.2.2.2.2.2.2.2.2.2.2.2 :: .dat false [dB s.2.2.2.2.2.2.2.2.2.2.2.1] [.slice s.2.2.2.1 s.2.2.2.2.1 s.2.2.2.2.2.1] :: .dat false (dNs (s.2.1 ++ noneNs (16 - s.1))) s.2.2.1 :: .dat false [dB v] [.slice Av v.length cv] :: .dat false [dB set] [.slice As 2 cs_] :: fs) ∧
      ((s.2.2.2.2.2.2.2.2.2.2.1 = 0 ∧ e2 = 0 ∧ T = kidsA (oneF F) set (16 - s.1) s.1 s.2.1 s.2.2.2.2.2.2.2.2.2.2.2.1 s.2.2.2.2.2.2.2.2.2.2.2.2.1 s.2.2.2.2.2.2.2.2.2.1 ∧ 0 ≤ s.2.2.2.2.2.2.2.2.2.1 ∧ s.2.2.2.2.2.2.2.2.2.1 ≤ 5000 ∧ (∀ x ∈ s.2.2.2.2.2.2.2.2.2.2.2.2.1, smC B x) ∧ s.2.2.2.2.2.2.2.2.2.2.2.1.length ≤ b.length ∧ s.2.2.2.2.2.2.2.2.2.2.2.2.1.length + s.2.2.2.2.2.2.2.2.2.2.2.1.length ≤ done.length + b.length) ∨
       (s.2.2.2.2.2.2.2.2.2.2.1 ≠ 0 ∧ s.2.2.2.2.2.2.2.2.2.2.1 = e2 ∧ s.2.2.2.2.2.2.2.2.2.2.2.1 = [] ∧ s.2.2.2.1 = none ∧ s.2.2.2.2.1 = 0 ∧ s.2.2.2.2.2.1 = 0 ∧ s.2.2.2.2.2.2.2.2.2.2.2.2.1 = done)))
    (fun s => [(0, .pointer (some ⟨g, 0, none⟩)), (1, .pointer (some ⟨gn, 0, none⟩)), (2, .int .i64 (deep : Nat)), (6, .slice As 2 cs_), (35, .int .i64 ((16 : Nat) : Int)), (36, .int .i64 (s.1 : Nat))]) (fun s => 16 - s.1) (0, [], zNs 16, A2, n2, c2, Ad, nd, cd, left, e2, b2, done, xs) ⟨Nat.zero_le _, rfl, M.fsub _ (by intro f hf; simp only [List.mem_cons, List.nil_append, Nat.sub_zero] at hf ⊢; rcases hf with h | h | h | h | h | h <;> simp [h]), ?_⟩ (by repeat (first | exact trivial | refine ⟨rfl, ?_⟩)) ?_
  · rcases hJ with ⟨j1, j2, j3, j4⟩ | ⟨j1, j2, j3, j4, j5, j6, j7⟩
    · exact .inl ⟨j1, j1, hT, (hl0 j2).1, (hl0 j2).2, hds, j3, by dsimp only; omega⟩
    · exact .inr ⟨j1, rfl, j2, j3, j4, j5, rfl⟩
  clear M
  rintro ⟨i, dn, xk, A3, n3, c3, Ad3, nd3, cd3, left3, e3, b3, done3, xs3⟩ E5 W5 ⟨hi, hdn, M, hK⟩
  dsimp only at hi hdn M hK
  refine p_lt rfl rfl (fun hlt => ?_) (fun hge => ?_)
  · have hi16 : i < 16 := by have h : (i : Int) < ((16 : Nat) : Int) := hlt; omega
    have hnn : noneNs (16 - i) = noneN :: noneNs (16 - (i + 1)) := by unfold noneNs; rw [show 16 - i = (16 - (i + 1)) + 1 by omega, List.replicate_succ]
    have hi8 : i / 8 < set.length := by omega
    obtain ⟨bb, off, hA, hcell⟩ := (M.rdb 4 rfl).2.2.at_ (k := i / 8) (by omega)
    subst hA
    refine p_quoN (b := 8) rfl rfl (by decide) (by omega) ?_
    refine p_at (i := i / 8) slb rfl rfl rfl (by omega) ?_
    refine v_load agg_by' rfl (by rw [Addr.add_lit, Nat.mul_one]; exact hcell) ?_
    refine p_remN (b := 8) rfl rfl (by decide) ?_
    refine p_subN (a := 7) (b := i % 8) rfl rfl (by omega) (by omega) ?_
    have hq256 := (set.getD (i / 8) 0).toNat_lt
    refine p_shr rfl rfl (by omega) (r := (((set.getD (i / 8) 0).toNat / 2 ^ (7 - i % 8) : Nat) : Int)) (shr7 (by omega)) ?_
    refine p_and rfl rfl (r := ((((set.getD (i / 8) 0).toNat / 2 ^ (7 - i % 8)) % 2 : Nat) : Int)) (and1 (Nat.lt_of_le_of_lt (Nat.div_le_self _ _) hq256)) ?_
    refine p_eq rfl rfl (fun hbit => ?_) (fun hbit => ?_)
    · have hbit : ((((set.getD (i / 8) 0).toNat / 2 ^ (7 - i % 8)) % 2 : Nat) : Int) = 0 := hbit
      have hno : ¬ bitB set i = true := fun h => by
        unfold bitB at h
        rw [decide_eq_true_eq] at h
        omega
      refine p_addN (b := 1) rfl rfl (by omega) ?_
      refine ⟨(i + 1, dn ++ [noneN], xk, A3, n3, c3, Ad3, nd3, cd3, left3, e3, b3, done3, xs3), ⟨by dsimp only; omega, by dsimp only; rw [List.length_append, hdn]; rfl, ?_, ?_⟩, (by repeat (first | exact trivial | refine ⟨rfl, ?_⟩)), by dsimp only; omega⟩
      · rw [hnn] at M
        dsimp only
        rw [List.append_assoc]
        exact M
      · rcases hK with ⟨k1, k2, k3, k4⟩ | hK
        · refine .inl ⟨k1, k2, ?_, k4⟩
          rw [k3, show 16 - i = (16 - (i + 1)) + 1 by omega, kidsA, if_neg hno]
        · exact .inr hK
    · have hbit : ¬ ((((set.getD (i / 8) 0).toNat / 2 ^ (7 - i % 8)) % 2 : Nat) : Int) = 0 := hbit
      have hyes : bitB set i = true := by unfold bitB; rw [decide_eq_true]; omega
      obtain ⟨k1, k2, k3, k4, k5, k6, k7, k8⟩ := hK.resolve_right fun hK => by
        obtain ⟨j1, j2, j3, j4, j5, j6, j7⟩ := hJ.resolve_left fun hJ => hK.1 (hK.2.1.trans hJ.1)
        rw [j6] at hbit
        refine hbit ?_
        have : ([0, 0] : List UInt8).getD (i / 8) 0 = 0 := by
          have : i / 8 = 0 ∨ i / 8 = 1 := by omega
          rcases this with h | h <;> rw [h] <;> rfl
        rw [this]
        show (((0 / 2 ^ (7 - i % 8)) % 2 : Nat) : Int) = 0
        rw [Nat.zero_div]; rfl
      subst k1
      rw [show 16 - i = (16 - (i + 1)) + 1 by omega, kidsA, if_pos hyes] at k3
      have hsz := one_sz (B := B) F b3 done3 left3 k4 k5 k6 (by omega)
      have hxl := (M.da 2 rfl).len
      rw [dNs_len, List.length_append, hdn, noneNs_len] at hxl
      replace M := M.drew
      refine drT (Kp w gs [(gn, 38, [.int .i64 3, .slice none 0 0, .bool has, .slice Av v.length cv, .slice (some ⟨gk, 0, none⟩) 16 16, .slice none 0 0])] []) (.take 0 (.take 1 (.take 2 (.take 3 (.take 4 (.take 5 (.take 6 (.take 7 (.one 8 (.take 9 (.one 10 (.nil)))))))))))) (by kernel_rfl) (M.kp (by simp) (by simp)) ?_
      refine p_nil rfl ?_
      refine p_fld fN4 rfl ?_
      refine t_load agg_ns rfl (fun W K => (K.B 0 rfl).at_ rfl) ?_
      refine p_addN (b := 1) rfl rfl (by omega) ?_
      refine cc is_pnode (ih B (deep + 1) (by omega) hB w _ gs g A3 n3 c3 Ad3 nd3 cd3 left3 b3 done3 xs3 _ R _ k4 k5 k6 (by omega) (by omega) M) ?_
      clear M
      rintro en' W ⟨cs, tn, A4, n4, c4, Ad4, nd4, cd4, xs4, b4, done4, left4, e4, rfl, M, hP⟩
      refine ⟨_, rfl, (M.kp (by simp) (by simp)), ?_⟩
      have hcl := (M.da 0 rfl).len
      rw [dN_len] at hcl
      refine p_atL (i := i) (q := i * 6) sln rfl rfl rfl hi16 (by omega) ?_
      refine s_storeP 1 (n := 6) (off := i * 6) cs _ M rfl sz_nd rfl rfl hcl ((M.da 0 rfl).ones (dN_one _)) (by omega) rfl ?_
      clear M; rintro W M
      dsimp only [setL] at M
      refine ⟨(M.kp (by simp) (by simp)), ?_⟩
      have hX := M.dw 3 rfl
      have hX2 := ((hX.take (i * 6)).app (M.dw 0 rfl)).app (hX.drop (i * 6 + 6))
      rw [← dNs_set tn (by rw [List.length_append, hdn, noneNs_len]; omega)] at hX2
      have hst : (dn ++ noneNs (16 - i)).set i tn = (dn ++ [tn]) ++ noneNs (16 - (i + 1)) := by
        rw [hnn, List.set_append_right _ _ (by omega), hdn, Nat.sub_self, List.set_cons_zero, List.append_assoc]; rfl
      rw [hst] at hX2
      replace M := M.addT hX2
      refine p_nil rfl ?_
      refine p_fld fp3 rfl ?_
      refine v_load agg_errP rfl ((M.B 0 rfl).at_ rfl) ?_
      cases hr : oneF F b3 done3 left3 with
      | bad x =>
        rw [hr] at hP hsz k3
        obtain ⟨p1, p2, p3, p4, p5, p6⟩ := hP
        have hx0 : x ≠ 0 := by rcases hsz with h | h <;> rw [h] <;> decide
        refine p_ne rfl rfl (fun h => absurd (p1.symm.trans h) hx0) (fun _ => ?_)
        obtain ⟨Kt, hKt⟩ : ∃ Kt, Kt = (dn ++ [tn]) ++ noneNs (16 - (i + 1)) := ⟨_, rfl⟩
        have hK16 : Kt.length = 16 := by rw [hKt, List.length_append, List.length_append, noneNs_len, hdn]; simp; omega
        rw [← hKt] at M
        replace M := M.swp
        replace M := M.frzB (fr := false) (s := 6) (n := 16) (c := 16) (M.dw 0 rfl) (by rw [dNs_len, hK16]) (Nat.le_refl _)
        have hks := (M.dw 0 rfl).hd
        have key : ∀ (V : World) F, RdD V F (.sl 6 16 (dNs Kt)) (.slice (some ⟨gk, 0, none⟩) 16 16) → RdD V F (dKs Kt) (.slice (some ⟨gk, 0, none⟩) Kt.length 16) := fun V F h => by unfold dKs; rw [hK16]; exact h
        have hn := RdL.ofnode (t := .mk 3 [] has v Kt []) (RdD.nil_ (s := 1) none 0) (M.dw 6 rfl).hd (key _ _ hks) (RdD.nil_ (s := 1) none 0)
        have hnc : ([.int .i64 3, .slice none 0 0, .bool has, .slice Av v.length cv, .slice (some ⟨gk, 0, none⟩) 16 16, .slice none 0 0] : List Value) = ncs (.mk 3 [] has v Kt []) none 0 Av cv (some ⟨gk, 0, none⟩) 16 none 0 := by simp only [ncs, Nd.kids, Nd.kind, Nd.path, Nd.has, Nd.val, Nd.hash, hK16, List.length_nil]
        replace M := M.addT hn
        rw [hnc] at M
        refine ⟨⟨_, rfl⟩, has, v, Kt, Av, cv, gk, _, _, _, _, _, _, _, b4, done4, left4, e4, hK16, M.fsub _ (by intro f hf; simp only [List.mem_cons] at hf ⊢; rcases hf with h | h | h | h <;> simp [h]), ?_⟩
        obtain ⟨j1, j2, j3, j4⟩ := hJ.resolve_right fun hJ => hJ.1 k2
        rw [j4, k3]
        exact ⟨p1, fun h => hx0 (p1.symm.trans h), p2, p3, p4, p5, by omega⟩
      | got nn b1 d1 l1 =>
        rw [hr] at hP hsz k3
        obtain ⟨p1, p2, p3, p4, p5⟩ := hP
        obtain ⟨s1, s2, s3, s4, s5, s6⟩ := hsz
        subst p1; subst p2; subst p3; subst p4; subst p5
        refine p_ne rfl rfl (fun _ => ?_) (fun h => absurd rfl h)
        refine p_addN (b := 1) rfl rfl (by omega) ?_
        exact ⟨(i + 1, dn ++ [tn], _, A4, n4, c4, Ad4, nd4, cd4, left4, 0, b4, done4, xs4), ⟨by dsimp only; omega, by dsimp only; rw [List.length_append, hdn]; rfl, M.fsub _ (by intro f hf; simp only [List.mem_cons] at hf ⊢; rcases hf with h | h | h | h | h | h <;> simp [h]), .inl ⟨rfl, k2, k3, s3, by dsimp only; omega, s2, by dsimp only; omega, by dsimp only; omega⟩⟩, (by repeat (first | exact trivial | refine ⟨rfl, ?_⟩)), by dsimp only; omega⟩
  · have hge : i = 16 := by have h : ¬ (i : Int) < ((16 : Nat) : Int) := hge; omega
    subst hge
    rw [show noneNs (16 - 16) = [] from rfl, List.append_nil] at M
    obtain ⟨Kt, hKt⟩ : ∃ Kt, Kt = dn := ⟨_, rfl⟩
    have hK16 : Kt.length = 16 := by rw [hKt]; exact hdn
    rw [← hKt] at M
    replace M := M.swp
    replace M := M.frzB (fr := false) (s := 6) (n := 16) (c := 16) (M.dw 2 rfl) (by rw [dNs_len, hK16]) (Nat.le_refl _)
    have hks := (M.dw 0 rfl).hd
    have key : ∀ (V : World) F, RdD V F (.sl 6 16 (dNs Kt)) (.slice (some ⟨gk, 0, none⟩) 16 16) → RdD V F (dKs Kt) (.slice (some ⟨gk, 0, none⟩) Kt.length 16) := fun V F h => by unfold dKs; rw [hK16]; exact h
    have hn := RdL.ofnode (t := .mk 3 [] has v Kt []) (RdD.nil_ (s := 1) none 0) (M.dw 4 rfl).hd (key _ _ hks) (RdD.nil_ (s := 1) none 0)
    have hnc : ([.int .i64 3, .slice none 0 0, .bool has, .slice Av v.length cv, .slice (some ⟨gk, 0, none⟩) 16 16, .slice none 0 0] : List Value) = ncs (.mk 3 [] has v Kt []) none 0 Av cv (some ⟨gk, 0, none⟩) 16 none 0 := by simp only [ncs, Nd.kids, Nd.kind, Nd.path, Nd.has, Nd.val, Nd.hash, hK16, List.length_nil]
    replace M := M.addT hn
    rw [hnc] at M
    refine ⟨⟨_, rfl⟩, has, v, Kt, Av, cv, gk, _, _, _, _, _, _, _, b3, done3, left3, e3, hK16, M.fsub _ (by intro f hf; simp only [List.mem_cons] at hf ⊢; rcases hf with h | h | h | h <;> simp [h]), ?_⟩
    rcases hK with ⟨k1, k2, k3, k4⟩ | ⟨k1, k2, k3, k4, k5, k6, k7⟩
    · obtain ⟨j1, j2, j3, j4⟩ := hJ.resolve_right fun hJ => hJ.1 k2
      rw [j4, k3, show 16 - 16 = 0 from rfl, kidsA]
      exact ⟨k1, rfl, rfl, hKt, rfl, rfl, rfl⟩
    · obtain ⟨j1, j2, j3, j4, j5, j6, j7⟩ := hJ.resolve_left fun hJ => k1 (k2.trans hJ.1)
      rw [j7]
      exact ⟨k2, k1, k3, k4, k5, k6, by rw [k7]; omega⟩
end Go.Proofs.Ytliccofjlheceaa
