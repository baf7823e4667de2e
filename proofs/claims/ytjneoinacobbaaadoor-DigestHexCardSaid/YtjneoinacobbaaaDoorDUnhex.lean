/- The walks of digest.digit, Unhex, and of the reference's Hex and Unhex. -/
import Derived.Test.YtjneoinacobbaaaDoorDHex
import Derived.Laws.Concat
namespace Go.Proofs.YtjneoinacobbaaaDoor
open Go.RowKit
def digV (c : UInt8) : Option Nat := if 48 ≤ c.toNat ∧ c.toNat ≤ 57 then some (c.toNat - 48) else if 97 ≤ c.toNat ∧ c.toNat ≤ 102 then some (c.toNat - 87) else none
theorem digV_lt {c : UInt8} {x : Nat} (h : digV c = some x) : x < 16 := by
  unfold digV at h
  split at h
  · injection h; omega
  · split at h
    · injection h; omega
    · cases h
def unhexF : List UInt8 → Option (List UInt8)
  | [] => some []
  | [_] => none
  | a :: b :: r => match digV a, digV b, unhexF r with
    | some x, some y, some l => some (UInt8.ofNat (16 * x + y) :: l)
    | _, _, _ => none
def uhE (s : List UInt8) : Int := if (unhexF s).isSome then 0 else 11
def uhL (s : List UInt8) : List UInt8 := (unhexF s).getD []
theorem unhexF_odd : ∀ (s : List UInt8), s.length % 2 = 1 → unhexF s = none
  | [], h => by simp at h
  | [_], _ => rfl
  | a :: b :: r, h => by
    unfold unhexF
    rw [unhexF_odd r (by simp only [List.length_cons] at h; omega)]
    cases digV a <;> cases digV b <;> rfl
theorem unhexF_snoc : ∀ (j : Nat) (s : List UInt8) (l : List UInt8) (x y : Nat), 2 * j + 1 < s.length → unhexF (s.take (2 * j)) = some l → digV (s.getD (2 * j) 0) = some x → digV (s.getD (2 * j + 1) 0) = some y → unhexF (s.take (2 * (j + 1))) = some (l ++ [UInt8.ofNat (16 * x + y)])
  | 0, a :: b :: r, l, x, y, _, h, hx, hy => by
    simp [unhexF] at h
    subst h
    simp at hx hy
    simp [unhexF, hx, hy]
  | j + 1, a :: b :: r, l, x, y, hl, h, hx, hy => by
    rw [show 2 * (j + 1) = 2 * j + 1 + 1 by omega, List.take_succ_cons, List.take_succ_cons] at h
    unfold unhexF at h
    rw [show 2 * (j + 1 + 1) = 2 * (j + 1) + 1 + 1 by omega, List.take_succ_cons, List.take_succ_cons]
    unfold unhexF
    cases ha : digV a with
    | none => rw [ha] at h; simp at h
    | some p =>
      cases hb : digV b with
      | none => rw [ha, hb] at h; simp at h
      | some q =>
        cases hr : unhexF (r.take (2 * j)) with
        | none => rw [ha, hb, hr] at h; simp at h
        | some m =>
          rw [ha, hb, hr] at h
          simp only [Option.some.injEq] at h
          subst h
          rw [unhexF_snoc j r m x y (by simp only [List.length_cons] at hl; omega) hr (by simpa [show 2 * (j + 1) = 2 * j + 2 by omega] using hx) (by simpa [show 2 * (j + 1) + 1 = 2 * j + 1 + 2 by omega] using hy)]
          rfl
  | _, [], _, _, _, h, _, _, _ => by simp at h
  | _, [_], _, _, _, h, _, _, _ => by simp at h
theorem unhexF_bad : ∀ (j : Nat) (s : List UInt8), 2 * j + 1 < s.length → (digV (s.getD (2 * j) 0) = none ∨ digV (s.getD (2 * j + 1) 0) = none) → unhexF s = none
  | 0, a :: b :: r, _, h => by
    simp at h
    unfold unhexF
    rcases h with h | h
    · rw [h]
    · rw [h]; cases digV a <;> rfl
  | j + 1, a :: b :: r, hl, h => by
    unfold unhexF
    rw [unhexF_bad j r (by simp only [List.length_cons] at hl; omega) (by simpa [show 2 * (j + 1) = 2 * j + 2 by omega, show 2 * j + 2 + 1 = 2 * j + 1 + 2 by omega] using h)]
    cases digV a <;> cases digV b <;> rfl
  | _, [], h, _ => by simp at h
  | _, [_], h, _ => by simp at h
/-- There and back. -/
theorem digV_hexd {i : Nat} (h : i < 16) : digV (hexd i) = some i := by
  have : ∀ i : Fin 16, digV (hexd i.val) = some i.val := by decide +kernel
  exact this ⟨i, h⟩
theorem unhexF_hex : ∀ b : List UInt8, unhexF (hexL b) = some b
  | [] => rfl
  | c :: b => by
    have hc := c.toNat_lt
    have e : hexL (c :: b) = hexd (c.toNat / 16) :: hexd (c.toNat % 16) :: hexL b := rfl
    rw [e]
    unfold unhexF
    rw [digV_hexd (by omega), digV_hexd (by omega), unhexF_hex b]
    simp only [Option.some.injEq, List.cons.injEq, and_true]
    apply UInt8.toNat_inj.1
    simp only [UInt8.toNat_ofNat']
    omega
theorem hexd_digV {c : UInt8} {x : Nat} (h : digV c = some x) : hexd x = c := by
  have key : ∀ n : Fin 256, ∀ x : Fin 16, digV (UInt8.ofNat n.val) = some x.val → hexd x.val = UInt8.ofNat n.val := by decide +kernel
  have := key ⟨c.toNat, c.toNat_lt⟩ ⟨x, digV_lt h⟩
  simp only [UInt8.ofNat_toNat] at this
  exact this h
theorem hex_unhexF : ∀ (s l : List UInt8), unhexF s = some l → hexL l = s
  | [], l, h => by simp [unhexF] at h; subst h; rfl
  | [_], l, h => by simp [unhexF] at h
  | a :: b :: r, l, h => by
    unfold unhexF at h
    cases ha : digV a with
    | none => rw [ha] at h; simp at h
    | some p =>
      cases hb : digV b with
      | none => rw [ha, hb] at h; simp at h
      | some q =>
        cases hr : unhexF r with
        | none => rw [ha, hb, hr] at h; simp at h
        | some m =>
          rw [ha, hb, hr] at h
          simp only [Option.some.injEq] at h
          subst h
          have h1 := digV_lt ha
          have h2 := digV_lt hb
          have e : hexL (UInt8.ofNat (16 * p + q) :: m) = hexd ((UInt8.ofNat (16 * p + q)).toNat / 16) :: hexd ((UInt8.ofNat (16 * p + q)).toNat % 16) :: hexL m := rfl
          have e2 : (UInt8.ofNat (16 * p + q)).toNat = 16 * p + q := by simp only [UInt8.toNat_ofNat']; omega
          rw [e, e2, show (16 * p + q) / 16 = p by omega, show (16 * p + q) % 16 = q by omega, hexd_digV ha, hexd_digV hb, hex_unhexF r m hr]
set_option maxRecDepth 100000 in
theorem digit_any (c : UInt8) (w : World) :
    Calls Tryd.prog 18 #[.int .u8 c.toNat] w fun e w' => (∃ x : Nat, x < 16 ∧ e = .returned (.tuple #[.int .u8 x, .bool (digV c).isSome]) ∧ ∀ y, digV c = some y → x = y) ∧ w = w' := by
  refine calls_ev (args := [.int .u8 c.toNat]) mixed Tryd.func18 rfl (by kernel_rfl) ?_
  have hc := c.toNat_lt
  have fin1 : ∀ x, digV c = some x → ∃ x' : Nat, x' < 16 ∧ Ending.returned (.tuple #[.int .u8 (x : Int), .bool true]) = .returned (.tuple #[.int .u8 x', .bool (digV c).isSome]) ∧ ∀ y, digV c = some y → x' = y := fun x hx => ⟨x, digV_lt hx, by rw [hx]; rfl, fun y hy => by rw [hx] at hy; injection hy⟩
  have fin0 : digV c = none → ∃ x' : Nat, x' < 16 ∧ Ending.returned (.tuple #[.int .u8 0, .bool false]) = .returned (.tuple #[.int .u8 x', .bool (digV c).isSome]) ∧ ∀ y, digV c = some y → x' = y := fun hx => ⟨0, by decide, by rw [hx]; rfl, fun y hy => by rw [hx] at hy; cases hy⟩
  refine p_ge rfl rfl (fun h1 => ?_) (fun h1 => ?_)
  · refine p_le rfl rfl (fun h2 => ?_) (fun h2 => ?_)
    · refine p_sub rfl rfl (r := ((c.toNat - 48 : Nat) : Int)) ((wu8 (by omega)).trans (by omega)) ?_
      exact ⟨fin1 _ (by unfold digV; rw [if_pos (by omega)]), rfl⟩
    refine p_ge rfl rfl (fun h3 => ?_) (fun h3 => ?_)
    · refine p_le rfl rfl (fun h4 => ?_) (fun h4 => ?_)
      · refine p_sub rfl rfl (r := ((c.toNat - 97 : Nat) : Int)) ((wu8 (by omega)).trans (by omega)) ?_
        refine p_add rfl rfl (r := ((c.toNat - 87 : Nat) : Int)) ((wu8 (by omega)).trans (by omega)) ?_
        exact ⟨fin1 _ (by unfold digV; rw [if_neg (by omega), if_pos (by omega)]), rfl⟩
      · exact ⟨fin0 (by unfold digV; rw [if_neg (by omega), if_neg (by omega)]), rfl⟩
    · exact ⟨fin0 (by unfold digV; rw [if_neg (by omega), if_neg (by omega)]), rfl⟩
  · refine p_ge rfl rfl (fun h3 => ?_) (fun h3 => ?_)
    · omega
    · exact ⟨fin0 (by unfold digV; rw [if_neg (by omega), if_neg (by omega)]), rfl⟩
theorem is_digit : isFn Tryd.prog 18 = true := by kernel_rfl
theorem sb_get (l : List UInt8) (i : Nat) (h : i < l.length) : (sb l)[i]? = some (l.getD i 0) := by
  have h' : i < (sb l).size := by simpa [sb, ByteArray.size] using h
  rw [getElem?_pos (sb l) i h', List.getD_eq_getElem?_getD, List.getElem?_eq_getElem h]
  rfl
theorem sb_size (l : List UInt8) : (sb l).size = l.length := by simp [sb, ByteArray.size]
theorem orH {x y : Nat} (hx : x < 16) (hy : y < 16) : bits .or .u8 ((16 * x : Nat) : Int) (y : Int) = ((16 * x + y : Nat) : Int) := by
  have h : ∀ x y : Fin 16, bits .or .u8 ((16 * x.val : Nat) : Int) ((y.val : Nat) : Int) = ((16 * x.val + y.val : Nat) : Int) := by decide +kernel
  exact h ⟨x, hx⟩ ⟨y, hy⟩
theorem tmod2 (a : Nat) : ((a : Nat) : Int).tmod 2 = ((a % 2 : Nat) : Int) := by rw [Int.tmod_eq_emod_of_nonneg (by omega)]; omega
theorem nb_of (x : Nat) (h : x < 256) : [Value.int .u8 (x : Int)] = bvs [UInt8.ofNat x] := by rw [← bvs1, Nat.mod_eq_of_lt h]
set_option maxRecDepth 100000 in
theorem unhex_any (s : List UInt8) (w : World) (hs : s.length ≤ 1000000000) :
    Calls Tryd.prog 13 #[.string (sb s)] w fun e w' => ∃ A m c, e = .returned (.tuple #[.slice A m c, .int .i64 (uhE s)]) ∧ Own w' w.heap.size A m c (uhL s) ∧ Below w.heap.size w w' := by
  refine calls_ev (args := [.string (sb s)]) mixed Tryd.func13 rfl (by kernel_rfl) ?_
  refine p_lenS u_str' rfl ?_
  rw [sb_size]
  refine p_rem rfl rfl (by decide) (tmod2 _) ?_
  have bad : ∀ W, unhexF s = none → Below w.heap.size w W → ∃ A m c, Ending.returned (.tuple #[.slice none 0 0, .int .i64 11]) = .returned (.tuple #[.slice A m c, .int .i64 (uhE s)]) ∧ Own W w.heap.size A m c (uhL s) ∧ Below w.heap.size w W := fun W h hb =>
    ⟨none, 0, 0, by unfold uhE; rw [h]; rfl, by unfold uhL; rw [h]; exact Own.nil_ _ _, hb⟩
  refine p_ne rfl rfl (fun h0 => ?_) (fun h0 => ?_)
  rotate_left
  · exact bad w (unhexF_odd s (by omega)) (Below.refl _ _)
  have A0 : At w w [none] := (At.start (gs := []) (by simp)).new (Below.refl _ _) (fun b e => by cases e)
  refine lp (Nat × Option Addr × Nat × List UInt8) (fun t W => 2 * t.1 ≤ s.length ∧ Own W w.heap.size t.2.1 t.1 t.2.2.1 t.2.2.2 ∧ At w W [bk t.2.1] ∧ unhexF (s.take (2 * t.1)) = some t.2.2.2) (fun t => [(0, .string (sb s)), (4, .slice t.2.1 t.1 t.2.2.1), (5, .int .i64 (2 * t.1 : Nat))]) (fun t => s.length - t.1) (0, none, 0, []) ⟨Nat.zero_le _, Own.nil_ _ _, A0, by simp [unhexF]⟩ ⟨rfl, rfl, rfl, trivial⟩ ?_
  rintro ⟨j, A1, c1, l⟩ E W ⟨hj, o1, A1', hl⟩
  dsimp only at hj o1 A1' hl
  refine p_lenS u_str' rfl ?_
  rw [sb_size]
  refine p_lt rfl rfl (fun hlt => ?_) (fun hge => ?_)
  · have hlt' : 2 * j < s.length := by exact Int.ofNat_lt.1 hlt
    refine p_atS u_str' rfl rfl rfl (sb_get s _ hlt') ?_
    refine cc is_digit (digit_any _ W) ?_
    rintro e W2 ⟨⟨x, hx, rfl, hx2⟩, rfl⟩
    refine ⟨_, rfl, ?_⟩
    refine p_add rfl rfl (r := ((2 * j + 1 : Nat) : Int)) ((w64 (by dsimp only; omega)).trans (by dsimp only; omega)) ?_
    refine p_atS u_str' rfl rfl rfl (sb_get s (2 * j + 1) (by omega)) ?_
    refine cc is_digit (digit_any _ W) ?_
    rintro e W2 ⟨⟨y, hy, rfl, hy2⟩, rfl⟩
    refine ⟨_, rfl, ?_⟩
    refine p_not rfl ?_
    cases h1 : digV (s.getD (2 * j) 0) with
    | none => exact bad W (unhexF_bad j s (by omega) (.inl h1)) A1'.below
    | some x' =>
      refine p_not rfl ?_
      cases h2 : digV (s.getD (2 * j + 1) 0) with
      | none => exact bad W (unhexF_bad j s (by omega) (.inr h2)) A1'.below
      | some y' =>
        have ex := hx2 _ h1
        have ey := hy2 _ h2
        subst ex; subst ey
        refine p_shl rfl rfl (by decide) (r := ((16 * x : Nat) : Int)) ((wu8 (by show 0 ≤ (x : Int) * 16 ∧ (x : Int) * 16 < 256; omega)).trans (by show (x : Int) * 16 = _; omega)) ?_
        refine p_or rfl rfl (orH hx hy) ?_
        refine v_litB _ [UInt8.ofNat (16 * x + y)] (by decide) rfl (nb_of _ (by omega)) rfl A1' ?_
        rintro g9 W9 hg9 o9 s9 A9' b9 hs9
        refine v_appS rfl (o1.below b9) rfl o9.rd (by dsimp only; omega) A9' ?_
        rintro A10 c10 W10 o10 s10 A10' - h10
        refine p_add rfl rfl (r := ((2 * (j + 1) : Nat) : Int)) ((w64 (by dsimp only; omega)).trans (by dsimp only; omega)) ?_
        exact ⟨(j + 1, A10, c10, l ++ [UInt8.ofNat (16 * x + y)]), ⟨by dsimp only; omega, o10, A10', unhexF_snoc j s l x y (by omega) hl h1 h2⟩, ⟨rfl, rfl, rfl, trivial⟩, by dsimp only; omega⟩
  · have e2 : s.take (2 * j) = s := List.take_of_length_le (by have := Int.not_lt.1 hge; dsimp only at this; omega)
    rw [e2] at hl
    exact ⟨A1, j, c1, by unfold uhE; rw [hl]; rfl, by unfold uhL; rw [hl]; exact o1, A1'.below⟩
end Go.Proofs.YtjneoinacobbaaaDoor
