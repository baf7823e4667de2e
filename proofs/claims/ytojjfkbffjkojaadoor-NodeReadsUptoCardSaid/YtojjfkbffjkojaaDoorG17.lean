/- Nodes' bytes, plainly: reference 07's Decode reads what node.Decode reads. The walk of the law NodeReads. What the rows' list of package variables gives: the tables of digest. -/
import Derived.Test.YtojjfkbffjkojaaDoorG15
import Derived.Test.YtojjfkbffjkojaaDoorG16
import Derived.Test.YtojjfkbffjkojaaDoorG14
import Derived.Test.YtojjfkbffjkojaaDoorG10
import Derived.Test.YtojjfkbffjkojaaDoorRows
import Derived.Lib.LaidTab
import Derived.MakeChecks
namespace Go.Proofs.YtojjfkbffjkojaaDoor
open Go.RowKit
theorem text_same {b s r : List UInt8} (h : textF b = (s, r, true)) : b = putB s ++ r ∧ s.length ≤ 1048576 := by
  unfold textF at h
  split at h
  · rename_i h0
    obtain ⟨E, e1, e2, -, -, e5, -, e7⟩ := gb_same (l := b) (a := 0) h0
    injection h with h1 h2
    injection h2 with h2 h3
    rw [show ((0 : Nat) : Int) = 0 from rfl] at e1 e5 e7
    rw [h1] at e5 e7
    rw [e1, Int.toNat_natCast] at h2
    rw [List.drop_zero, Nat.sub_zero] at e5
    exact ⟨by rw [← e5, ← h2, List.take_append_drop], e7⟩
  · injection h with _ h
    injection h with _ h
    cases h
theorem textF_put {s r : List UInt8} (h : s.length ≤ 1048576) : textF (putB s ++ r) = (s, r, true) := by
  obtain ⟨h1, h2, h3⟩ := gb_put [] s r h
  rw [List.nil_append] at h1 h2 h3
  have h1 : gbE (putB s ++ r) 0 = 0 := h1
  have h2 : gbL (putB s ++ r) 0 = s := h2
  have h3 : gbTo (putB s ++ r) 0 = (((putB s).length : Nat) : Int) := by simpa using h3
  unfold textF
  rw [if_pos h1, h2, h3, Int.toNat_natCast, List.drop_left]
def bitS (set i : Nat) : Bool := decide (set / 2 ^ (15 - i) % 2 = 1)
theorem stub_hashes (h : List UInt8) (ks : List Nd) : hashesP (stubN h :: ks) = h ++ hashesP ks := by
  rw [hashesP, if_pos (show (stubN h).kind ≠ 0 from show (4 : Int) ≠ 0 by decide), hashP_eq]; rfl
theorem none_hashes (ks : List Nd) : hashesP (noneN :: ks) = hashesP ks := by
  rw [hashesP, if_neg (by decide), List.nil_append]
theorem stubK_spec (set : Nat) : ∀ (n i : Nat) (l : List UInt8) (r : List Nd × List UInt8), stubK set n i l = some r → l = hashesP r.1 ++ r.2 ∧ (∀ k ∈ r.1, flatN k) ∧ ∀ j, j < n → nz r.1 j = bitS set (i + j)
  | 0, i, l, r, h => by
    rw [stubK] at h
    injection h with h
    subst h
    exact ⟨by rw [hashesP]; rfl, fun k hk => (by cases hk), fun j hj => by omega⟩
  | n + 1, i, l, r, h => by
    rw [stubK] at h
    split at h
    · rename_i h0
      obtain ⟨q, hq, rfl⟩ := Option.map_eq_some_iff.1 h
      obtain ⟨h1, h2, h3⟩ := stubK_spec set n (i + 1) l q hq
      refine ⟨by rw [none_hashes]; exact h1, fun k hk => ?_, fun j hj => ?_⟩
      · rcases List.mem_cons.1 hk with rfl | hk
        · exact .inl rfl
        · exact h2 k hk
      · cases j with
        | zero =>
          unfold bitS
          rw [decide_eq_false (by rw [Nat.add_zero]; omega)]
          rfl
        | succ j => rw [show i + (j + 1) = i + 1 + j by omega, ← h3 j (by omega)]; rfl
    · rename_i h0
      split at h
      · cases h
      · rename_i hl
        obtain ⟨q, hq, rfl⟩ := Option.map_eq_some_iff.1 h
        obtain ⟨h1, h2, h3⟩ := stubK_spec set n (i + 1) _ q hq
        refine ⟨by dsimp only; rw [stub_hashes, List.append_assoc, ← h1, List.take_append_drop], fun k hk => ?_, fun j hj => ?_⟩
        · rcases List.mem_cons.1 hk with rfl | hk
          · exact .inr ⟨_, rfl, by rw [List.length_take]; omega⟩
          · exact h2 k hk
        · cases j with
          | zero =>
            unfold bitS
            rw [decide_eq_true (by rw [Nat.add_zero]; omega)]
            rfl
          | succ j => rw [show i + (j + 1) = i + 1 + j by omega, ← h3 j (by omega)]; rfl
theorem stubK_all (set : Nat) : ∀ (n i : Nat) (ks : List Nd) (r : List UInt8), ks.length = n → (∀ k ∈ ks, flatN k) → (∀ j, j < n → nz ks j = bitS set (i + j)) → stubK set n i (hashesP ks ++ r) = some (ks, r)
  | 0, i, ks, r, hl, _, _ => by rw [List.eq_nil_of_length_eq_zero hl, stubK, hashesP]; rfl
  | n + 1, i, [], r, hl, _, _ => by cases hl
  | n + 1, i, k :: ks, r, hl, hf, hb => by
    have ih := stubK_all set n (i + 1) ks r (by simpa using hl) (fun k hk => hf k (by simp [hk])) (fun j hj => by rw [show i + 1 + j = i + (j + 1) by omega, ← hb (j + 1) (by omega)]; rfl)
    have h0 := hb 0 (by omega)
    rw [Nat.add_zero] at h0
    unfold bitS at h0
    rw [stubK]
    rcases hf k (by simp) with rfl | ⟨h, rfl, hh⟩
    · have e : nz (noneN :: ks) 0 = false := rfl
      rw [e] at h0
      have h0 := of_decide_eq_false h0.symm
      rw [if_pos (by omega), none_hashes, ih]
      rfl
    · have e : nz (stubN h :: ks) 0 = true := rfl
      rw [e] at h0
      have h0 := of_decide_eq_true h0.symm
      rw [if_neg (by omega), stub_hashes, List.append_assoc, if_neg (by rw [List.length_append]; omega), List.take_left' hh, List.drop_left' hh, ih]
      rfl
theorem bit_set (x y : UInt8) {i : Nat} (hi : i < 16) : bitB [x, y] i = bitS (256 * x.toNat + y.toNat) i := by
  have hx := x.toNat_lt
  have hy := y.toNat_lt
  unfold bitB bitS
  have hc : i = 0 ∨ i = 1 ∨ i = 2 ∨ i = 3 ∨ i = 4 ∨ i = 5 ∨ i = 6 ∨ i = 7 ∨ i = 8 ∨ i = 9 ∨ i = 10 ∨ i = 11 ∨ i = 12 ∨ i = 13 ∨ i = 14 ∨ i = 15 := by omega
  rcases hc with rfl | rfl | rfl | rfl | rfl | rfl | rfl | rfl | rfl | rfl | rfl | rfl | rfl | rfl | rfl | rfl <;> rw [decide_eq_decide]
  · show x.toNat / 128 % 2 = 1 ↔ (256 * x.toNat + y.toNat) / 32768 % 2 = 1; omega
  · show x.toNat / 64 % 2 = 1 ↔ (256 * x.toNat + y.toNat) / 16384 % 2 = 1; omega
  · show x.toNat / 32 % 2 = 1 ↔ (256 * x.toNat + y.toNat) / 8192 % 2 = 1; omega
  · show x.toNat / 16 % 2 = 1 ↔ (256 * x.toNat + y.toNat) / 4096 % 2 = 1; omega
  · show x.toNat / 8 % 2 = 1 ↔ (256 * x.toNat + y.toNat) / 2048 % 2 = 1; omega
  · show x.toNat / 4 % 2 = 1 ↔ (256 * x.toNat + y.toNat) / 1024 % 2 = 1; omega
  · show x.toNat / 2 % 2 = 1 ↔ (256 * x.toNat + y.toNat) / 512 % 2 = 1; omega
  · show x.toNat / 1 % 2 = 1 ↔ (256 * x.toNat + y.toNat) / 256 % 2 = 1; omega
  · show y.toNat / 128 % 2 = 1 ↔ (256 * x.toNat + y.toNat) / 128 % 2 = 1; omega
  · show y.toNat / 64 % 2 = 1 ↔ (256 * x.toNat + y.toNat) / 64 % 2 = 1; omega
  · show y.toNat / 32 % 2 = 1 ↔ (256 * x.toNat + y.toNat) / 32 % 2 = 1; omega
  · show y.toNat / 16 % 2 = 1 ↔ (256 * x.toNat + y.toNat) / 16 % 2 = 1; omega
  · show y.toNat / 8 % 2 = 1 ↔ (256 * x.toNat + y.toNat) / 8 % 2 = 1; omega
  · show y.toNat / 4 % 2 = 1 ↔ (256 * x.toNat + y.toNat) / 4 % 2 = 1; omega
  · show y.toNat / 2 % 2 = 1 ↔ (256 * x.toNat + y.toNat) / 2 % 2 = 1; omega
  · show y.toNat / 1 % 2 = 1 ↔ (256 * x.toNat + y.toNat) / 1 % 2 = 1; omega
theorem by8_all : ∀ x : Fin 256, by8 (decide (x.val / 128 % 2 = 1)) (decide (x.val / 64 % 2 = 1)) (decide (x.val / 32 % 2 = 1)) (decide (x.val / 16 % 2 = 1)) (decide (x.val / 8 % 2 = 1)) (decide (x.val / 4 % 2 = 1)) (decide (x.val / 2 % 2 = 1)) (decide (x.val / 1 % 2 = 1)) = x.val := by decide +kernel
theorem kbits_set {ks : List Nd} {x y : UInt8} (h : ∀ j, j < 16 → nz ks j = bitB [x, y] j) : kbits ks 16 = (x.toNat, y.toNat) := by
  rw [kbits_by8, h 0 (by omega), h 1 (by omega), h 2 (by omega), h 3 (by omega), h 4 (by omega), h 5 (by omega), h 6 (by omega), h 7 (by omega), h 8 (by omega), h 9 (by omega), h 10 (by omega), h 11 (by omega), h 12 (by omega), h 13 (by omega), h 14 (by omega), h 15 (by omega)]
  have hx := by8_all ⟨x.toNat, x.toNat_lt⟩
  have hy := by8_all ⟨y.toNat, y.toNat_lt⟩
  exact Prod.ext hx hy
theorem one_bit : ∀ i : Fin 16, 1 ≤ i.val → 32768 / 2 ^ (15 - i.val) % 2 = 0 := by decide
theorem stubK_one : ∀ (n i : Nat) (l : List UInt8), 1 ≤ i → i + n ≤ 16 → stubK 32768 n i l = some (List.replicate n noneN, l)
  | 0, i, l, _, _ => rfl
  | n + 1, i, l, h1, h2 => by
    rw [stubK, if_pos (one_bit ⟨i, by omega⟩ h1), stubK_one n (i + 1) l (by omega) (by omega)]
    rfl
theorem stubs_one {l : List UInt8} {ks : List Nd} (h : stubsF 32768 l = (ks, true)) : l.length = 32 ∧ ks.take 1 = [stubN l] := by
  unfold stubsF at h
  rw [stubK, if_neg (by decide)] at h
  by_cases hl : l.length < 32
  · rw [if_pos hl] at h
    injection h with _ h
    cases h
  · rw [if_neg hl, stubK_one 15 1 _ (by omega) (by omega)] at h
    dsimp only [Option.map_some] at h
    injection h with h1 h2
    have h2 := of_decide_eq_true h2
    rw [List.length_drop] at h2
    have e : l.length = 32 := by omega
    refine ⟨e, ?_⟩
    rw [← h1, List.take_succ_cons, List.take_zero, List.take_of_length_le (by omega)]
theorem stubs_one' {l : List UInt8} (h : l.length = 32) : (stubsF 32768 l).2 = true ∧ (stubsF 32768 l).1.take 1 = [stubN l] := by
  unfold stubsF
  rw [stubK, if_neg (by decide), if_neg (by omega), stubK_one 15 1 _ (by omega) (by omega)]
  dsimp only [Option.map_some]
  rw [List.take_succ_cons, List.take_zero, List.take_of_length_le (by omega), List.length_drop, h]
  exact ⟨rfl, rfl⟩
theorem b8_at {c : UInt8} {l : List UInt8} {k : Int} (h : at8 (c :: l) 0 = k) : c = b8 (k % 256) := by
  have e : at8 (c :: l) 0 = (c.toNat : Int) := rfl
  rw [← h, e]
  unfold b8
  apply UInt8.toNat_inj.1
  rw [UInt8.toNat_ofNat']
  have := c.toNat_lt
  omega
/-- What the reference reads is written so. -/
theorem dec_sound {b : List UInt8} (h : (decF b).2 = true) (hr : rightP false (decF b).1 0 = true) : (decF b).1.kind ≠ 4 ∧ encP (decF b).1 = b ∧ ∀ k ∈ (decF b).1.kids, flatN k := by
  match b, h, hr with
  | [], h, hr => cases h
  | c :: b', h, hr =>
    unfold decF at h hr ⊢
    by_cases h3 : 1 < (c :: b').length ∧ at8 (c :: b') 0 = 3
    · rw [if_pos h3] at h hr ⊢
      have hc := b8_at h3.2
      match b', h3, h, hr with
      | [], h3, _, _ => exact absurd h3.1 (by simp)
      | q :: b'', h3, h, hr =>
        have e1 : at8 (c :: q :: b'') 1 = (q.toNat : Int) := rfl
        have e2 : (c :: q :: b'').drop 2 = b'' := rfl
        unfold brF at h hr ⊢
        rw [e1, e2] at h hr ⊢
        have key : ∀ (has : Bool) (v r : List UInt8) (ok : Bool), (brG has v r ok).2 = true → b'' = (if has then putB v else []) ++ r → q = (if has then 1 else 0) → ok = ok → (brG has v r ok).1.kind ≠ 4 ∧ encP (brG has v r ok).1 = c :: q :: b'' ∧ ∀ k ∈ (brG has v r ok).1.kids, flatN k := by
          intro has v r ok h hb hq _
          unfold brG at h ⊢
          split at h
          · rename_i hok
            rw [if_pos hok]
            have h2 : 2 ≤ r.length := by
              rw [Bool.and_eq_true] at hok
              exact of_decide_eq_true hok.2
            match r, h2 with
            | x :: y :: r, _ =>
              have es : setF (x :: y :: r) = 256 * x.toNat + y.toNat := rfl
              have er : (x :: y :: r).drop 2 = r := rfl
              rw [es, er] at h ⊢
              dsimp only at h ⊢
              unfold stubsF at h ⊢
              cases hS : stubK (256 * x.toNat + y.toNat) 16 0 r with
              | none => rw [hS] at h; cases h
              | some s =>
                rw [hS] at h
                have h0 := of_decide_eq_true h
                obtain ⟨k1, k2, k3⟩ := stubK_spec _ 16 0 r s hS
                have h00 := List.eq_nil_of_length_eq_zero h0
                rw [h00, List.append_nil] at k1
                have hkb := kbits_set (ks := s.1) (x := x) (y := y) (fun j hj => by rw [k3 j hj, Nat.zero_add, bit_set x y hj])
                refine ⟨fun h => absurd (show (3 : Int) = 4 from h) (by decide), ?_, k2⟩
                have e : encP (.mk 3 [] has v s.1 []) = 3 :: ((if has then (1 : UInt8) :: putB v else [0]) ++ (UInt8.ofNat (kbits s.1 16).1 :: UInt8.ofNat (kbits s.1 16).2 :: hashesP s.1)) := rfl
                rw [e, hkb, hb, hq, hc, k1]
                have ex : UInt8.ofNat x.toNat = x := UInt8.ofNat_toNat
                have ey : UInt8.ofNat y.toNat = y := UInt8.ofNat_toNat
                dsimp only
                rw [ex, ey]
                cases has <;> rfl
          · cases h
        by_cases hq : (q.toNat : Int) = 1
        · rw [if_pos hq] at h hr ⊢
          obtain ⟨V, hV⟩ : ∃ V, V = textF b'' := ⟨_, rfl⟩
          rw [← hV] at h hr ⊢
          obtain ⟨V1, V2, Vq⟩ := V
          dsimp only at h hr ⊢
          cases Vq with
          | false => unfold brG at h; rw [Bool.false_and, if_neg (by decide)] at h; cases h
          | true =>
            exact key true V1 V2 true h (text_same hV.symm).1 (UInt8.toNat_inj.1 (by show q.toNat = 1; omega)) rfl
        · rw [if_neg hq] at h hr ⊢
          by_cases hq1 : (q.toNat : Int) ≤ 1
          · rw [decide_eq_true hq1] at h hr ⊢
            exact key false [] b'' true h rfl (UInt8.toNat_inj.1 (by show q.toNat = 0; omega)) rfl
          · rw [decide_eq_false hq1] at h
            unfold brG at h; rw [Bool.false_and, if_neg (by decide)] at h; cases h
    · rw [if_neg h3] at h hr ⊢
      unfold startF at h hr ⊢
      by_cases h12 : 1 < (c :: b').length ∧ (at8 (c :: b') 0 = 1 ∨ at8 (c :: b') 0 = 2)
      · rw [if_pos h12] at h hr ⊢
        unfold leafF at h hr ⊢
        have e1 : (c :: b').drop 1 = b' := rfl
        rw [e1] at h hr ⊢
        obtain ⟨T, hT⟩ : ∃ T, T = textF b' := ⟨_, rfl⟩
        rw [← hT] at h hr ⊢
        obtain ⟨T1, T2, Tq⟩ := T
        dsimp only at h hr ⊢
        split at h
        · rename_i hok
          rw [if_pos hok] at hr ⊢
          have hok : Tq = true ∧ unpackE T1 = 0 ∧ unpackB T1 = decide (at8 (c :: b') 0 = 1) := by simpa using hok
          obtain ⟨o1, o2, o3⟩ := hok
          subst o1
          obtain ⟨hb, hl⟩ := text_same hT.symm
          have hp := (pack_unpack T1 o2).2
          split at h
          · rename_i hub
            rw [if_pos hub] at hr ⊢
            rw [hub] at hp o3
            have k1 : at8 (c :: b') 0 = 1 := of_decide_eq_true o3.symm
            have hc := b8_at k1
            rw [k1] at hr ⊢
            rw [Bool.and_eq_true] at h
            obtain ⟨V, hV⟩ : ∃ V, V = textF T2 := ⟨_, rfl⟩
            rw [← hV] at h hr ⊢
            obtain ⟨V1, V2, Vq⟩ := V
            dsimp only at h hr ⊢
            obtain ⟨h1, h2⟩ := h
            subst h1
            have h2 := List.eq_nil_of_length_eq_zero (of_decide_eq_true h2)
            subst h2
            obtain ⟨hv, hvl⟩ := text_same hV.symm
            rw [List.append_nil] at hv
            refine ⟨fun h => absurd (show (1 : Int) = 4 from h) (by decide), ?_, fun k hk => (by cases hk)⟩
            have e : encP (.mk 1 (unpackL T1) false V1 [] []) = 1 :: (putB (packL (unpackL T1) true) ++ putB V1) := rfl
            rw [e, hp, ← hv, ← hb, hc]
            rfl
          · rename_i hub
            rw [if_neg hub] at hr ⊢
            have hub : unpackB T1 = false := by simpa using hub
            rw [hub] at hp o3
            have k1 : at8 (c :: b') 0 = 2 := by
              have := of_decide_eq_false o3.symm
              exact h12.2.resolve_left this
            have hc := b8_at k1
            rw [k1] at hr ⊢
            dsimp only at h
            obtain ⟨S, hS⟩ : ∃ S, S = stubsF 32768 T2 := ⟨_, rfl⟩
            rw [← hS] at h hr ⊢
            obtain ⟨S1, Sq⟩ := S
            dsimp only at h hr ⊢
            subst h
            obtain ⟨s1, s2⟩ := stubs_one hS.symm
            rw [if_pos rfl, s2]
            refine ⟨fun h => absurd (show (2 : Int) = 4 from h) (by decide), ?_, fun k hk => ?_⟩
            · have e : encP (.mk 2 (unpackL T1) false [] [stubN T2] []) = 2 :: (putB (packL (unpackL T1) false) ++ hashesP [stubN T2]) := rfl
              have eh : hashesP [stubN T2] = T2 := by rw [stub_hashes, hashesP, List.append_nil]
              rw [e, hp, eh, ← hb, hc]
              rfl
            · rcases List.mem_cons.1 hk with rfl | hk
              · exact .inr ⟨_, rfl, s1⟩
              · cases hk
        · cases h
      · rw [if_neg h12] at h hr ⊢
        rw [Bool.and_eq_true] at h
        have h1 := of_decide_eq_true h.1
        have h2 := of_decide_eq_true h.2
        have hb : b' = [] := List.eq_nil_of_length_eq_zero (by simpa using h1)
        have hc := b8_at h2
        refine ⟨fun h => absurd (show (0 : Int) = 4 from h) (by decide), ?_, fun k hk => (by cases hk)⟩
        rw [hb, hc]
        rfl
/-- What is written, the reference reads. -/
theorem dec_complete {s : Nd} {d : Nat} (h : Val false s d) (h4 : s.kind ≠ 4) (hf : ∀ k ∈ s.kids, flatN k) : decF (encP s) = (s, true) := by
  cases h with
  | none => rfl
  | stub => exact absurd rfl h4
  | leaf d p v hd hp hv he =>
    have hpl := packL_len p true
    have hen := endsP_le he
    obtain ⟨u1, u2, u3, u4⟩ := unpack_pack p true hp
    have e : encP (.mk 1 p false v [] []) = 1 :: (putB (packL p true) ++ putB v) := rfl
    have hpb : 0 < (putB (packL p true)).length := by
      unfold putB; rw [List.length_append]; omega
    rw [e]
    have a0 : at8 ((1 : UInt8) :: (putB (packL p true) ++ putB v)) 0 = 1 := rfl
    unfold decF
    rw [a0, if_neg (fun h => absurd h.2 (by decide))]
    unfold startF
    rw [a0, if_pos ⟨by rw [List.length_cons, List.length_append]; omega, .inl rfl⟩]
    unfold leafF
    rw [a0, show ((1 : UInt8) :: (putB (packL p true) ++ putB v)).drop 1 = putB (packL p true) ++ putB v from rfl, textF_put (by omega)]
    dsimp only
    rw [u1, u2, u3, if_pos (by decide), if_pos rfl]
    have hv2 := textF_put (s := v) (r := []) (by omega)
    rw [List.append_nil] at hv2
    rw [hv2]
    rfl
  | way d p k hd hp h0 hk hr =>
    have hpl := packL_len p false
    have hen := hr.le
    obtain ⟨u1, u2, u3, -⟩ := unpack_pack p false hp
    rcases hf k (by simp [Nd.kids]) with rfl | ⟨h, rfl, hh⟩
    · rcases hk with hk | hk <;> exact absurd (show (0 : Int) = _ from hk) (by decide)
    have e : encP (.mk 2 p false [] [stubN h] []) = 2 :: (putB (packL p false) ++ hashesP [stubN h]) := rfl
    have eh : hashesP [stubN h] = h := by rw [stub_hashes, hashesP, List.append_nil]
    rw [e, eh]
    have a0 : at8 ((2 : UInt8) :: (putB (packL p false) ++ h)) 0 = 2 := rfl
    unfold decF
    rw [a0, if_neg (fun h => absurd h.2 (by decide))]
    unfold startF
    rw [a0, if_pos ⟨by rw [List.length_cons, List.length_append]; omega, .inr rfl⟩]
    unfold leafF
    rw [a0, show ((2 : UInt8) :: (putB (packL p false) ++ h)).drop 1 = putB (packL p false) ++ h from rfl, textF_put (by omega)]
    dsimp only
    rw [u1, u2, u3, if_pos (by decide), if_neg (by decide)]
    obtain ⟨s1, s2⟩ := stubs_one' hh
    rw [s1, if_pos rfl, s2]
  | branch d has v ks hd hv hv0 he h16 hr hm =>
    have hks := stubK_all (256 * (UInt8.ofNat (kbits ks 16).1).toNat + (UInt8.ofNat (kbits ks 16).2).toNat) 16 0 ks [] h16 hf (fun j hj => by rw [Nat.zero_add, ← bit_set _ _ hj, bitB_nz ks hj])
    rw [List.append_nil] at hks
    have e : encP (.mk 3 [] has v ks []) = 3 :: ((if has then (1 : UInt8) :: putB v else [0]) ++ (UInt8.ofNat (kbits ks 16).1 :: UInt8.ofNat (kbits ks 16).2 :: hashesP ks)) := rfl
    rw [e]
    have last : ∀ (hs : Bool) (v : List UInt8), brG hs v (UInt8.ofNat (kbits ks 16).1 :: UInt8.ofNat (kbits ks 16).2 :: hashesP ks) true = (.mk 3 [] hs v ks [], true) := by
      intro hs v
      unfold brG
      have es : setF (UInt8.ofNat (kbits ks 16).1 :: UInt8.ofNat (kbits ks 16).2 :: hashesP ks) = 256 * (UInt8.ofNat (kbits ks 16).1).toNat + (UInt8.ofNat (kbits ks 16).2).toNat := rfl
      have er : (UInt8.ofNat (kbits ks 16).1 :: UInt8.ofNat (kbits ks 16).2 :: hashesP ks).drop 2 = hashesP ks := rfl
      rw [Bool.true_and, if_pos (decide_eq_true (by rw [List.length_cons, List.length_cons]; omega)), es, er]
      unfold stubsF
      rw [hks]
      rfl
    unfold decF
    cases has with
    | true =>
      rw [if_pos rfl, List.cons_append]
      rw [if_pos ⟨by rw [List.length_cons, List.length_cons]; omega, rfl⟩]
      unfold brF
      rw [if_pos (show at8 ((3 : UInt8) :: (1 : UInt8) :: (putB v ++ (UInt8.ofNat (kbits ks 16).1 :: UInt8.ofNat (kbits ks 16).2 :: hashesP ks))) 1 = 1 from rfl)]
      rw [show ((3 : UInt8) :: (1 : UInt8) :: (putB v ++ (UInt8.ofNat (kbits ks 16).1 :: UInt8.ofNat (kbits ks 16).2 :: hashesP ks))).drop 2 = putB v ++ (UInt8.ofNat (kbits ks 16).1 :: UInt8.ofNat (kbits ks 16).2 :: hashesP ks) from rfl, textF_put (by omega)]
      exact last true v
    | false =>
      have hv' : v = [] := hv0.resolve_left (by decide)
      subst hv'
      rw [if_neg (show ¬ (false = true) by decide)]
      rw [if_pos ⟨by rw [List.length_cons, List.length_append, List.length_cons, List.length_cons]; omega, rfl⟩]
      unfold brF
      rw [if_neg (show ¬ at8 ((3 : UInt8) :: ([0] ++ (UInt8.ofNat (kbits ks 16).1 :: UInt8.ofNat (kbits ks 16).2 :: hashesP ks))) 1 = 1 from fun h => absurd (show (0 : Int) = 1 from h) (by decide))]
      exact last false []
theorem kidsR_flat (set : List UInt8) : ∀ (n i : Nat) (s : RS), ∀ k ∈ (kidsR set n i s).1, k = noneN ∨ ∃ h, k = stubN h
  | 0, i, s, k, hk => by rw [kidsR] at hk; cases hk
  | n + 1, i, s, k, hk => by
    rw [kidsR] at hk
    split at hk
    · rcases List.mem_cons.1 hk with rfl | hk
      · exact .inr ⟨_, rfl⟩
      · exact kidsR_flat set n _ _ k hk
    · rcases List.mem_cons.1 hk with rfl | hk
      · exact .inl rfl
      · exact kidsR_flat set n _ _ k hk
theorem nodeR_flat (s : RS) : ∀ k ∈ (nodeR s).1.kids, k = noneN ∨ ∃ h, k = stubN h := by
  intro k hk
  unfold nodeR at hk
  dsimp only at hk
  split at hk
  · cases hk
  split at hk
  · unfold leafR at hk
    dsimp only at hk
    split at hk
    · rcases List.mem_cons.1 hk with rfl | hk
      · exact .inr ⟨_, rfl⟩
      · cases hk
    · cases hk
  split at hk
  · exact kidsR_flat _ 16 0 _ k hk
  · cases hk
theorem val_kids {even : Bool} {t : Nd} {d : Nat} (h : Val even t d) : ∀ k ∈ t.kids, ∃ d, Val even k d := by
  intro k hk
  cases h with
  | none => cases hk
  | leaf => cases hk
  | stub => cases hk
  | way d p k' hd hp h0 hk' hr =>
    have : k = k' := List.mem_singleton.1 hk
    rw [this]; exact ⟨_, hr⟩
  | branch d has v ks hd hv hv0 he h16 hr hm => exact ⟨_, hr k hk⟩
theorem stub_val {even : Bool} {h : List UInt8} {d : Nat} (hv : Val even (stubN h) d) : h.length = 32 := by
  unfold stubN at hv
  generalize ht : Nd.mk 4 [] false [] [] h = t at hv
  cases hv with
  | stub d h' hd hh => injection ht with _ _ _ _ _ e; rw [e]; exact hh
  | _ => injection ht with e; cases e
/-- The reference's Decode and node.Decode answer the same. -/
theorem decQ_eq (b : List UInt8) : decQ b = decP b := by
  unfold decQ
  by_cases h : (decF b).2 = true ∧ rightP false (decF b).1 0 = true
  · rw [if_pos h]
    obtain ⟨k4, he, hf⟩ := dec_sound h.1 h.2
    have hv := val_of_right false _ (decF b).1 0 (Nat.lt_succ_self _) h.2
    have hn := node_enc hv k4 hf
    rw [he] at hn
    have hes : encR (decF b).1 = (b, 0) := by unfold encR; rw [if_pos ⟨k4, h.2⟩, he]
    unfold decP
    rw [hn]
    dsimp only
    rw [if_neg (by simp), if_pos hes]
  · rw [if_neg h]
    by_cases h2 : (decP b).2 = 0
    · exfalso
      have he := decP_ok h2
      obtain ⟨k4, hv, he2⟩ := encR_ok (t := (decP b).1) (by rw [he])
      have hb : encP (decP b).1 = b := by rw [he] at he2; exact (congrArg Prod.fst he2).symm
      have hk : ∀ k ∈ (decP b).1.kids, flatN k := by
        intro k hk
        obtain ⟨d, hkv⟩ := val_kids hv k hk
        have hk2 : k = noneN ∨ ∃ h, k = stubN h := by
          unfold decP at hk
          split at hk
          · cases hk
          · split at hk
            · exact nodeR_flat _ k hk
            · cases hk
        rcases hk2 with rfl | ⟨h, rfl⟩
        · exact .inl rfl
        · exact .inr ⟨h, rfl, stub_val hkv⟩
      have hc := dec_complete hv k4 hk
      rw [hb] at hc
      exact h (by rw [hc]; exact ⟨rfl, right_of_val hv⟩)
    · have h1 := decP_bad h2
      refine Prod.ext h1.symm ?_
      unfold decP at h2 ⊢
      split
      · rfl
      · rename_i hc
        rw [if_neg hc] at h2
        split
        · rename_i hc2; rw [if_pos hc2] at h2; exact absurd rfl h2
        · rfl
end Go.Proofs.YtojjfkbffjkojaaDoor
namespace Go.Proofs.YtojjfkbffjkojaaDoor
open Go.RowKit


/-- What was made is between two sizes. -/
theorem St.toG {w W : World} {gs : List (Option Nat)} {L : Lc} {R : List Row} {fs : List Fact} {ds : List D} {cs : List Value} (M : St w gs W L R fs) (i : Nat) (h : nth fs i = some (.dat true ds cs)) : St w gs W L R (.rng w.heap.size W.heap.size ds cs :: fs) :=
  M.add (f := .rng w.heap.size W.heap.size ds cs) ((M.dt i h).to fun b hb => ⟨rfl, hb, (hb.2.2 rfl).1, hb.1⟩)
set_option maxRecDepth 100000 in
set_option maxHeartbeats 8000000 in
theorem nodeReads_walk (w : World) (hG : GL w []) {A1 : Option Addr} {n1 c1 : Nat} {b : List UInt8} (g1 : RdD w (Fd w []) (dB b) (.slice A1 n1 c1)) (_b1 : b.length ≤ 1048576) :
    Calls Tryd.prog 7 #[.slice A1 n1 c1] w (RetTrue w) := by
  refine calls_ev (args := [.slice A1 n1 c1]) mixed Tryd.func7 rfl (by kernel_rfl) ?_
  have en1 := g1.slen
  subst en1
  have M := (St.start (w := w) (gs := []) (fun b h => by cases h)).addD g1
  refine p_len slb rfl ?_
  refine p_gt rfl rfl (fun k1 => ?_) (fun k1 => ?_)
  ·
    refine cc is_kn7 (known7_any _ _ (M.gl hG) M.olt) ?_
    rintro e W ⟨rfl, hb⟩
    replace M := M.call hb
    clear hb
    exact ⟨_, rfl, rfl, M.below⟩
  have k1 : b.length ≤ 6000 := by have h : ¬ (6000 : Int) < ((b.length : Nat) : Int) := k1; omega
  have hsz := decP_sz b
  have cn := ndec_any b _ _ _ _ c1 (M.gl hG) (M.d1 0 rfl) M.olt (by omega)
  obtain ⟨D, hD⟩ : ∃ D, D = decP b := ⟨_, rfl⟩
  rw [← hD] at cn hsz
  obtain ⟨t, er⟩ := D
  dsimp only at cn hsz
  refine cc is_ndec cn ?_
  clear cn
  rintro e W ⟨cs3, rfl, r3, hb⟩
  replace M := M.callF hb r3
  clear r3 hb
  obtain ⟨Bp, dp, Bv, dv, Bk, dk, Bh, dh, rfl, -⟩ := (M.da 0 rfl).node
  refine ⟨_, rfl, ?_⟩
  refine s_alloc (zN) M al_nd ?_
  clear M
  rintro g3 W M
  first | refine s_storeA 0 (ncs t Bp dp Bv dv Bk dk Bh dh) M rfl (by kernel_rfl) rfl rfl rfl (all1 rfl) rfl ?_ | refine s_storeA 1 (ncs t Bp dp Bv dv Bk dk Bh dh) M rfl (by kernel_rfl) rfl rfl rfl (all1 rfl) rfl ?_ | refine s_storeA 2 (ncs t Bp dp Bv dv Bk dk Bh dh) M rfl (by kernel_rfl) rfl rfl rfl (all1 rfl) rfl ?_ | refine s_storeA 3 (ncs t Bp dp Bv dv Bk dk Bh dh) M rfl (by kernel_rfl) rfl rfl rfl (all1 rfl) rfl ?_
  clear M
  rintro W M
  dsimp only [setL] at M
  replace M := M.toG 0 rfl
  have cm := r7dec_any b _ _ _ _ c1 (M.d1 2 rfl) M.olt (by omega)
  rw [decQ_eq, ← hD] at cm
  dsimp only at cm
  obtain ⟨s1, hs1⟩ : ∃ s1, s1 = W.heap.size := ⟨_, rfl⟩
  refine cc is_r7dec cm ?_
  clear cm
  rintro e W ⟨cs5, rfl, r5, hb⟩
  replace M := M.callG hb r5
  obtain ⟨s2, hs2⟩ : ∃ s2, s2 = W.heap.size := ⟨_, rfl⟩
  rw [← hs1, ← hs2] at M
  clear r5 hb
  have hc5 := (M.rda 0 rfl).len
  rw [dN_len] at hc5
  refine ⟨_, rfl, ?_⟩
  refine s_alloc (zN) M al_nd ?_
  clear M
  rintro g5 W M
  refine s_storeA 0 cs5 M rfl sz_nd rfl rfl hc5 ((M.rda 0 rfl).ones (dN_one _)) rfl ?_
  clear M; rintro W M
  dsimp only [setL] at M
  refine v_loadN (ncs t Bp dp Bv dv Bk dk Bh dh) agg_nd rfl rfl (M.run 1 rfl) ?_
  refine v_loadN cs5 agg_nd rfl hc5 (M.run 0 rfl) ?_
  refine cc is_r7same (rsame_any 2000000 (by decide) t (by omega) t _ _ _ _ ((M.rda 1 rfl)) (M.rda 0 rfl) M.olt (by omega)) ?_
  rintro e W ⟨q, rfl, hq, hb⟩
  obtain rfl := hq.2 rfl
  replace M := M.call hb
  clear hb hq
  refine ⟨_, rfl, ?_⟩
  refine p_not rfl ?_
  refine p_ne rfl rfl (fun _ => ?_) (fun e => absurd rfl e)
  -- what was read is written over
  replace M := M.fsub [.rng w.heap.size s1 (dN t) (ncs t Bp dp Bv dv Bk dk Bh dh), .rng s1 s2 (dN t) cs5] (by simp)
  obtain ⟨L0, hL0⟩ : ∃ L0, L0 = [(g5, 26, cs5), (g3, 26, ncs t Bp dp Bv dv Bk dk Bh dh)] := ⟨_, rfl⟩
  rw [← hL0] at M
  obtain ⟨B, hB⟩ : ∃ B : Nat → Prop, B = fun b => Ft w W (own L0 [] []) true b ∧ w.heap.size ≤ b ∧ b < s1 := ⟨_, rfl⟩
  have hrg := M.rg 0 rfl
  rw [← hB] at hrg
  obtain ⟨q1, q3, q4, -⟩ := hrg.node6
  have hBlt : ∀ b, B b → b < W.heap.size := fun b hb => by rw [hB] at hb; exact hb.1.1
  have hBt : ∀ b, B b → Thaw W b := fun b hb => by rw [hB] at hb; exact (hb.1.2.2 rfl).2
  have hBo : ∀ b, B b → w.heap.size ≤ b ∧ b < s1 ∧ some b ∉ own L0 [] [] := fun b hb => by rw [hB] at hb; exact ⟨hb.2.1, hb.2.2, hb.1.2.1⟩
  have tm : ∀ W', Tame B W W' → St w [] W' L0 [] [.rng s1 s2 (dN t) cs5] := fun W' ta => M.tame ta hBo (Nat.le_refl _) (fun f hf => ⟨by simp only [List.mem_cons, List.not_mem_nil, or_false] at hf ⊢; exact .inr hf, by
    rw [List.mem_singleton.1 hf]; exact ⟨_, _, _, _, rfl, .inr (Nat.le_refl _)⟩⟩)
  have hsz2 := sz_eq t
  have hslc := szs_len t.kids
  rw [hL0] at M
  refine p_fld fN1 rfl ?_
  refine v_load agg_b rfl ((M.B 1 rfl).at_ rfl) ?_
  refine cc is_spoil (spoil_any B _ _ _ _ (SoftRd.of q1 (fun b h => h) hBlt) hBt (by omega)) ?_
  rintro e W1 ⟨⟨u, rfl⟩, t1⟩
  refine ⟨_, rfl, ?_⟩
  have M1 := tm W1 t1
  rw [hL0] at M1
  refine p_fld fN3 rfl ?_
  refine v_load agg_b rfl ((M1.B 1 rfl).at_ rfl) ?_
  refine cc is_spoil (spoil_any B _ _ _ _ ((SoftRd.of q3 (fun b h => h) hBlt).up t1) (fun b hb => t1.thaw b (hBt b hb)) (by omega)) ?_
  rintro e W2 ⟨⟨u, rfl⟩, t2⟩
  replace t2 := t1.trans t2
  clear M1 t1
  refine ⟨_, rfl, ?_⟩
  refine lp Nat (fun i W3 => i ≤ t.kids.length ∧ Tame B W W3) (fun i => [(0, .slice A1 b.length c1), (3, .pointer (some ⟨g3, 0, none⟩)), (5, .pointer (some ⟨g5, 0, none⟩)), (7, .int .i64 i)]) (fun i => t.kids.length - i) 0 ⟨Nat.zero_le _, t2⟩ (by repeat (first | exact trivial | refine ⟨rfl, ?_⟩)) ?_
  clear M t2
  rintro i E2 W2 ⟨hi, t2⟩
  have M := tm W2 t2
  rw [hL0] at M
  refine p_fld fN4 rfl ?_
  refine v_load agg_ns rfl ((M.B 1 rfl).at_ rfl) ?_
  refine p_len sln rfl ?_
  refine p_lt rfl rfl (fun hlt => ?_) (fun hge => ?_)
  · obtain ⟨k, hk⟩ : ∃ k, t.kids[i]? = some k := ⟨_, List.getElem?_eq_getElem (by omega)⟩
    have hkz := szs_mem (List.mem_of_getElem? hk)
    obtain ⟨b0, o0, es, e0, hb0, hes, hel, hcell⟩ := q4.kid hk
    obtain ⟨Kp, fp, Kv, fv, Kk, fk, Kh, fh, rfl, -, -, -, q5⟩ := hes.node
    have hkz2 := sz_eq k
    subst e0
    refine p_fld fN4 rfl ?_
    refine v_load agg_ns rfl ((M.B 1 rfl).at_ rfl) ?_
    refine p_at (i := i) sln rfl rfl rfl (by omega) ?_
    refine p_fld fN5 rfl ?_
    obtain ⟨u5, hu5, hs5⟩ := t2.inn _ _ (hcell 5 _ rfl)
    have hu5' := hs5.sl
    subst hu5'
    refine v_load agg_b rfl hu5 ?_
    refine cc is_spoil (spoil_any B _ _ _ _ ((SoftRd.of q5 (fun b h => h) hBlt).up t2) (fun b hb => t2.thaw b (hBt b hb)) (by omega)) ?_
    rintro e W3 ⟨⟨u, rfl⟩, t3⟩
    replace t3 := t2.trans t3
    refine ⟨_, rfl, ?_⟩
    refine p_addN (b := 1) rfl rfl (by omega) ?_
    exact ⟨i + 1, ⟨by omega, t3⟩, (by repeat (first | exact trivial | refine ⟨rfl, ?_⟩)), by omega⟩
  · clear tm
    replace M := M.arg (RdL.one g1)
    have cn := ndec_any b _ _ _ _ c1 (M.gl hG) (M.d1 0 rfl) M.olt (by omega)
    rw [← hD] at cn
    dsimp only at cn
    refine cc is_ndec cn ?_
    clear cn
    rintro e W ⟨cs8, rfl, r8, hb⟩
    replace M := M.callF hb r8
    clear r8 hb
    have hc8 := (M.da 0 rfl).len
    rw [dN_len] at hc8
    refine ⟨_, rfl, ?_⟩
    refine s_alloc (zN) M al_nd ?_
    clear M
    rintro g8 W M
    refine s_storeA 0 cs8 M rfl sz_nd rfl rfl hc8 ((M.da 0 rfl).ones (dN_one _)) rfl ?_
    clear M; rintro W M
    dsimp only [setL] at M
    refine v_loadN cs8 agg_nd rfl hc8 (M.run 0 rfl) ?_
    refine v_loadN cs5 agg_nd rfl hc5 (M.run 1 rfl) ?_
    refine cc is_r7same (rsame_any 2000000 (by decide) t (by omega) t _ _ _ _ ((M.da 0 rfl)) (M.rda 2 rfl) M.olt (by omega)) ?_
    rintro e W ⟨q, rfl, hq, hb⟩
    obtain rfl := hq.2 rfl
    replace M := M.call hb
    clear hb hq
    refine ⟨_, rfl, ?_⟩
    refine cc is_kn7 (known7_any _ _ (M.gl hG) M.olt) ?_
    rintro e W ⟨rfl, hb⟩
    replace M := M.call hb
    clear hb
    exact ⟨_, rfl, rfl, M.below⟩
end Go.Proofs.YtojjfkbffjkojaaDoor
namespace Go.Proofs.YtojjfkbffjkojaaDoor
open Go.RowKit Go.ChangeShapes
theorem gBegin : Tryd.prog.globalNamed "exchequer/digest.begin" = some 0 := by kernel_rfl
theorem gRoots : Tryd.prog.globalNamed "exchequer/digest.roots" = some 1 := by kernel_rfl
theorem tBegin : (Tryd.prog.globals[0]?).map (·.type) = some 130 := by kernel_rfl
theorem tRoots : (Tryd.prog.globals[1]?).map (·.type) = some 133 := by kernel_rfl
theorem cB : Tryd.prog.cellsOf 130 = 8 := by kernel_rfl
theorem cR : Tryd.prog.cellsOf 133 = 64 := by kernel_rfl
theorem cU : Tryd.prog.cellsOf 94 = 1 := by kernel_rfl
def laidL : List (String × DataW Unit) := [("exchequer/digest.begin", Rows.laid_exchequer_digest_begin), ("exchequer/digest.roots", Rows.laid_exchequer_digest_roots)]
theorem gl_of {W : World} (h : laidMetH Tryd.prog laidL W) : GL W [] := by
  rw [MakeChecks.laidMetH_plain _ _ _ (by kernel_rfl)] at h
  have hb : Lib.TabIs Tryd.prog W "exchequer/digest.begin" .u32 [1779033703, 3144134277, 1013904242, 2773480762, 1359893119, 2600822924, 528734635, 1541459225] :=
    Lib.tabIs_of_head (rest := [("exchequer/digest.roots", Rows.laid_exchequer_digest_roots)]) gBegin tBegin Tryd.underlying130 Tryd.underlying94 cU cB h
  obtain ⟨ps, ⟨g0, t0, cs0, f0, p0, q0, hg0, ht0, hv0, hd0, ⟨g1, t1, cs1, f1, p1, q1, hg1, ht1, hv1, hd1, _, _⟩, _⟩, _, _⟩ := h
  obtain rfl := Option.some.inj (gRoots.symm.trans hg1)
  obtain rfl := Option.some.inj (tRoots.symm.trans ht1)
  have hr : Lib.TabIs Tryd.prog W "exchequer/digest.roots" .u32 (List.map (fun (n : Nat) => (n : Int)) roots) := by
    unfold Lib.TabIs
    rw [hv1, ← Lib.cells_of_tab Tryd.underlying133 Tryd.underlying94 cU cR hd1]
  refine ⟨fun j hj => ?_, fun j v hv => ?_, ?_, by simp, by simp⟩
  · have := hr.cell gRoots j (by rw [List.length_map]; exact hj)
    rw [this]
    unfold cu
    congr 2
    rw [List.getD_eq_getElem?_getD, List.getD_eq_getElem?_getD, List.getElem?_map]
    have : j < roots.length := hj
    rw [List.getElem?_eq_getElem this]; rfl
  · have hj := (List.getElem?_eq_some_iff.1 hv).1
    have := hb.cell gBegin j hj
    rw [this]
    have hj8 : j = 0 ∨ j = 1 ∨ j = 2 ∨ j = 3 ∨ j = 4 ∨ j = 5 ∨ j = 6 ∨ j = 7 := by have : j < 8 := hj; omega
    rcases hj8 with rfl | rfl | rfl | rfl | rfl | rfl | rfl | rfl <;> exact hv
  · have := hr.cell gRoots 0 (by decide)
    have := World.block_lt_of_cell? W _ this
    exact this
/-- A world for the witness: the tables hold what their initialisers lay. -/
def layAt (cs : List Value) : Obj → Obj
  | .cells _ t frozen => .cells cs.toArray t frozen
  | o => o
noncomputable def laidWorld (os : Os) : World :=
  { World.holding Tryd.prog os ⟨#[], #[], []⟩ with heap := ((World.holding Tryd.prog os ⟨#[], #[], []⟩).heap.modify 0 (layAt (hc begin8))).modify 1 (layAt (roots.map cu)) }
end Go.Proofs.YtojjfkbffjkojaaDoor
