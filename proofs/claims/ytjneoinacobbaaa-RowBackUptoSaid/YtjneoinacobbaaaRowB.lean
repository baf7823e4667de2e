/- Rows as bytes: plain laws: what is read is written as it stands there. -/
import Derived.Test.YtjneoinacobbaaaRowP
namespace Go.Proofs.Ytjneoinacobbaaa

theorem drop_at8 {l : List UInt8} {a : Nat} (h : a < l.length) : l.drop a = b8 (at8 l a) :: l.drop (a + 1) := by
  rw [List.drop_eq_getElem_cons h, b8_at8]
  congr 1
  rw [List.getD_eq_getElem?_getD, List.getElem?_eq_getElem h]; rfl
theorem take_drop_cons {l : List UInt8} {a m : Nat} (h : a < l.length) (hm : a < m) : (l.drop a).take (m - a) = b8 (at8 l a) :: (l.drop (a + 1)).take (m - (a + 1)) := by
  rw [drop_at8 h, show m - a = (m - (a + 1)) + 1 by omega, List.take_succ_cons]
theorem vR_back {l : List UInt8} {a : Nat} (hl : l.length ≤ 9223372036854775807) (h : (vR l a).1 = 0) : (l.drop a).take ((vR l a).2.2 - a) = oneL (vR l a).2.1 := by
  have hok := vR_ok hl h
  have hal : a < l.length := by omega
  rw [take_drop_cons hal hok.1]
  clear hok
  unfold vR at h ⊢
  rw [if_neg (by omega)] at h ⊢
  by_cases c1 : at8 l a = 1
  · rw [if_pos c1, c1]
    show b8 1 :: (l.drop (a + 1)).take (a + 1 - (a + 1)) = [b8 1]
    rw [Nat.sub_self, List.take_zero]
  rw [if_neg c1] at h ⊢
  by_cases c2 : at8 l a = 2
  · rw [if_pos c2] at h ⊢
    by_cases c3 : l.length ≤ a + 1
    · rw [if_pos c3] at h; cases h
    rw [if_neg c3] at h ⊢
    have hf : rightB ⟨2, at8 l (a + 1), []⟩ = true := by
      unfold fin at h
      split at h
      · assumption
      · cases h
    rw [fin_right hf, c2]
    show b8 2 :: (l.drop (a + 1)).take (a + 2 - (a + 1)) = [b8 2, b8 (at8 l (a + 1))]
    rw [drop_at8 (by omega), show a + 2 - (a + 1) = 0 + 1 by omega, List.take_succ_cons, List.take_zero]
  rw [if_neg c2] at h ⊢
  by_cases c3 : at8 l a = 3
  · rw [if_pos c3] at h ⊢
    by_cases c4 : gE l ((a + 1 : Nat) : Int) ≠ 0
    · rw [if_pos c4] at h; exact absurd h c4
    rw [if_neg c4] at h ⊢
    obtain ⟨N, t, hN, hN2, hT, ht, h1, hle, htk, _⟩ := g_split (l := l) (a := a + 1) (by simpa using c4)
    rw [c3]
    show b8 3 :: (l.drop (a + 1)).take ((gTo l ((a + 1 : Nat) : Int)).toNat - (a + 1)) = b8 3 :: putN (zig (zag (gN l ((a + 1 : Nat) : Int))))
    rw [hN, zig_zag, hT, Int.toNat_natCast, show a + 1 + t - (a + 1) = t by omega, htk]
  rw [if_neg c3] at h ⊢
  by_cases c5 : at8 l a = 4 ∨ at8 l a = 5
  · rw [if_pos c5] at h ⊢
    by_cases c6 : gE l ((a + 1 : Nat) : Int) ≠ 0
    · rw [if_pos c6] at h; exact absurd h c6
    rw [if_neg c6] at h ⊢
    by_cases c7 : 1000 < gN l ((a + 1 : Nat) : Int)
    · rw [if_pos c7] at h; cases h
    rw [if_neg c7] at h ⊢
    by_cases c8 : gbE l ((a + 1 : Nat) : Int) ≠ 0
    · rw [if_pos c8] at h
      exfalso
      revert h
      show (if _ then (11 : Int) else 10) = 0 → False
      split <;> intro h <;> cases h
    rw [if_neg c8] at h ⊢
    have hf : rightB ⟨at8 l a, 0, gbL l ((a + 1 : Nat) : Int)⟩ = true := by
      unfold fin at h
      split at h
      · assumption
      · cases h
    obtain ⟨E, hE, hEl, _, haE, htk, _⟩ := gb_same (l := l) (a := a + 1) (by simpa using c8)
    rw [fin_right hf, hE, Int.toNat_natCast]
    have e : oneL ⟨at8 l a, 0, gbL l ((a + 1 : Nat) : Int)⟩ = b8 (at8 l a) :: putB (gbL l ((a + 1 : Nat) : Int)) := by
      unfold oneL
      rw [if_neg c2, if_neg c3, if_pos c5]
    show b8 (at8 l a) :: (l.drop (a + 1)).take (E - (a + 1)) = oneL ⟨at8 l a, 0, gbL l ((a + 1 : Nat) : Int)⟩
    rw [e, htk]
  · rw [if_neg c5] at h; cases h
theorem decF_back {l : List UInt8} (hl : l.length ≤ 9223372036854775807) : ∀ (n a : Nat), a ≤ l.length → (decF n l a).1 = 0 → (l.drop a).take ((decF n l a).2.2 - a) = (decF n l a).2.1.flatMap oneL
  | 0, a, _, _ => by
    show (l.drop a).take (a - a) = []
    rw [Nat.sub_self, List.take_zero]
  | n + 1, a, ha, h => by
    unfold decF at h ⊢
    split at h
    · rename_i hc; exact absurd h hc
    rename_i hc
    rw [if_neg hc]
    obtain ⟨h1, h2, _⟩ := vR_ok hl (by simpa using hc : (vR l a).1 = 0)
    have hb := vR_back hl (by simpa using hc : (vR l a).1 = 0)
    have ih := decF_back hl n (vR l a).2.2 h2 h
    obtain ⟨i1, i2, _⟩ := decF_ok hl n (vR l a).2.2 h2 h
    show (l.drop a).take ((decF n l (vR l a).2.2).2.2 - a) = ((vR l a).2.1 :: (decF n l (vR l a).2.2).2.1).flatMap oneL
    rw [List.flatMap_cons, ← ih, ← hb, show (decF n l (vR l a).2.2).2.2 - a = ((vR l a).2.2 - a) + ((decF n l (vR l a).2.2).2.2 - (vR l a).2.2) by omega, List.take_add, List.drop_drop, show a + ((vR l a).2.2 - a) = (vR l a).2.2 by omega]
/-- Bytes that are a row are its bytes. -/
theorem enc_dec {l : List UInt8} (hl : l.length ≤ 9223372036854775807) (h : decE l = 0) : encE (decL l) = 0 ∧ encB (decL l) = l := by
  have hL : decL l = (decR l).2.1 := by unfold decL; rw [if_pos h]
  have hok := decL_ok hl
  rw [hL] at hok ⊢
  unfold decE at h
  split at h
  · rename_i h0; exact absurd h h0
  rename_i h0
  split at h
  · cases h
  rename_i h1
  split at h
  · rename_i h2; exact absurd h h2
  rename_i h2
  split at h
  · cases h
  rename_i h3
  obtain ⟨N, t, hN, hN2, hT, ht, g1, hle, htk, _⟩ := g_split (l := l) (a := 0) (by simpa using h0)
  replace hN : gN l 0 = N := hN
  replace hT : gTo l 0 = ((0 + t : Nat) : Int) := hT
  rw [Nat.zero_add] at hT hle
  have hR : decR l = decF N l t := by unfold decR; rw [hN, hT, Int.toNat_natCast, Int.toNat_natCast]
  rw [hR] at h2 h3 hok ⊢
  have h20 : (decF N l t).1 = 0 := by simpa using h2
  obtain ⟨i1, i2, i3, _⟩ := decF_ok hl N t hle h20
  have hb := decF_back hl N t hle h20
  have hall : allR (decF N l t).2.1 = true := by
    unfold allR; rw [List.all_eq_true]; exact fun v hv => (hok v hv).1
  have hE : encE (decF N l t).2.1 = 0 := by
    unfold encE
    rw [if_pos hall, if_neg (by rw [i3]; omega)]
  refine ⟨hE, ?_⟩
  unfold encB
  rw [if_pos hE, i3, ← hb, ← htk, List.drop_zero, show (decF N l t).2.2 - t = l.length - t by omega, List.take_of_length_le (l := l.drop t) (by rw [List.length_drop]; omega), List.take_append_drop]
end Go.Proofs.Ytjneoinacobbaaa
