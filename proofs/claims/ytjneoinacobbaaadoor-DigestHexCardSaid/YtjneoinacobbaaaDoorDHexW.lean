/- The walk of law 05's DigestHex. -/
import Derived.Test.YtjneoinacobbaaaDoorDHexR
import Derived.Test.YtjneoinacobbaaaDoorDParts
namespace Go.Proofs.YtjneoinacobbaaaDoor
open Go.RowKit
theorem is_unhex : isFn Tryd.prog 13 = true := by kernel_rfl
theorem is_runhex : isFn Tryd.prog 14 = true := by kernel_rfl
theorem is_rhex : isFn Tryd.prog 16 = true := by kernel_rfl
theorem uhL_len (s : List UInt8) : (uhL s).length ≤ s.length := by
  unfold uhL
  cases h : unhexF s with
  | none => simp
  | some l =>
    have := hex_unhexF s l h
    have h2 := hexL_len l
    rw [this] at h2
    simp only [Option.getD_some]
    omega
set_option maxRecDepth 100000 in
theorem digestHex_walk (w : World) (hG : GL w []) {A : Option Addr} {n c : Nat} {b : List UInt8} (hr : Rd w w.heap.size A n b) (hc : n ≤ c) (sx : ByteArray) :
    Calls Tryd.prog 4 #[.slice A n c, .string sx] w (RetTrue w) := by
  obtain ⟨s, rfl⟩ : ∃ s, sx = sb s := ⟨sx.data.toList, by simp [sb]⟩
  refine calls_ev (args := [.slice A n c, .string (sb s)]) mixed Tryd.func4 rfl (by kernel_rfl) ?_
  have hl := hr.len
  have kn : ∀ W, Below w.heap.size w W → Calls Tryd.prog 6 #[] W fun e w' => ∃ v, e = .returned v ∧ v = .bool true ∧ Below w.heap.size w w' := fun W hb =>
    (known05_any W (hG.up (Stp.below hb))).mono fun e w' ⟨he, hb2⟩ => ⟨_, he, rfl, hb.trans (hb2.mono hb.size)⟩
  refine p_len slb rfl ?_
  refine p_gt rfl rfl (fun h => ?_) (fun h => ?_)
  · refine cc is_known05 (kn w (Below.refl _ _)) ?_
    rintro e W2 ⟨v, rfl, rfl, b2⟩
    exact ⟨_, rfl, rfl, b2⟩
  refine p_lenS u_str' rfl ?_
  rw [sb_size]
  refine p_gt rfl rfl (fun h' => ?_) (fun h' => ?_)
  · refine cc is_known05 (kn w (Below.refl _ _)) ?_
    rintro e W2 ⟨v, rfl, rfl, b2⟩
    exact ⟨_, rfl, rfl, b2⟩
  have hs3 : s.length ≤ 3000 := by omega
  refine cc is_unhex (unhex_any s w (by omega)) ?_
  rintro e W1 ⟨A1, m1, c1, rfl, o1, b1⟩
  refine ⟨_, rfl, ?_⟩
  refine cc is_runhex (runhex_any s W1 (by omega)) ?_
  rintro e W2 ⟨A2, m2, c2, rfl, o2, b2⟩
  refine ⟨_, rfl, ?_⟩
  have C2 := b1.trans (b2.mono b1.size)
  refine cc is_hex (hex_any A n c b W2 ((hr.below C2).more C2.size) (by omega)) ?_
  rintro e W3 ⟨rfl, b3⟩
  refine ⟨_, rfl, ?_⟩
  have C3 := C2.trans (b3.mono C2.size)
  refine cc is_unhex (unhex_any (hexL b) W3 (by rw [hexL_len]; omega)) ?_
  rintro e W4 ⟨A4, m4, c4, rfl, o4, b4⟩
  refine ⟨_, rfl, ?_⟩
  have C4 := C3.trans (b4.mono C3.size)
  refine cc is_hex (hex_any A n c b W4 ((hr.below C4).more C4.size) (by omega)) ?_
  rintro e W5 ⟨rfl, b5⟩
  refine ⟨_, rfl, ?_⟩
  have C5 := C4.trans (b5.mono C4.size)
  refine cc is_rhex (rhex_any A n c b W5 ((hr.below C5).more C5.size) (by omega)) ?_
  rintro e W6 ⟨rfl, b6⟩
  refine ⟨_, rfl, ?_⟩
  have C6 := C5.trans (b6.mono C5.size)
  refine p_seq rfl rfl (fun _ => ?_) (fun h => absurd rfl h)
  have o1' := ((((o1.below b2).below b3).below b4).below b5).below b6
  have o2' := (((o2.below b3).below b4).below b5).below b6
  have o4' := (o4.below b5).below b6
  refine cc is_same (same_any A1 A2 m1 m2 c1 c2 _ _ _ _ W6 o1'.rd o2'.rd) ?_
  rintro e W7 ⟨rfl, rfl⟩
  refine ⟨_, rfl, ?_⟩
  rw [decide_eq_true rfl]
  refine p_eq rfl rfl (fun _ => ?_) (fun h => absurd rfl h)
  have e4 : uhL (hexL b) = b := by unfold uhL; rw [unhexF_hex]; rfl
  have e4' : uhE (hexL b) = 0 := by unfold uhE; rw [unhexF_hex]; rfl
  rw [e4] at o4'
  refine cc is_same (same_any A4 A m4 n c4 c _ _ _ _ W6 o4'.rd (hr.below C6)) ?_
  rintro e W7 ⟨rfl, rfl⟩
  refine ⟨_, rfl, ?_⟩
  rw [decide_eq_true rfl, e4']
  refine p_eq rfl rfl (fun _ => ?_) (fun h => absurd rfl h)
  refine p_ne rfl rfl (fun h0 => ?_) (fun h0 => ?_)
  · have hm1 := o1.len
    have hul := uhL_len s
    refine cc is_hex (hex_any A1 m1 c1 _ W6 o1'.rd (by omega)) ?_
    rintro e W7 ⟨rfl, b7⟩
    refine ⟨_, rfl, ?_⟩
    have eh : hexL (uhL s) = s := by
      unfold uhE at h0
      unfold uhL
      cases hq : unhexF s with
      | none => rw [hq] at h0; cases h0
      | some l => exact hex_unhexF s l hq
    rw [eh]
    refine p_seq rfl rfl (fun _ => ?_) (fun h => absurd rfl h)
    refine cc is_known05 (kn W7 (C6.trans (b7.mono C6.size))) ?_
    rintro e W8 ⟨v, rfl, rfl, b8⟩
    exact ⟨_, rfl, rfl, b8⟩
  · refine cc is_known05 (kn W6 C6) ?_
    rintro e W8 ⟨v, rfl, rfl, b8⟩
    exact ⟨_, rfl, rfl, b8⟩
end Go.Proofs.YtjneoinacobbaaaDoor
