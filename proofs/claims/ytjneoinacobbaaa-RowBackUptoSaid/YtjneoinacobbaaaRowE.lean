/- Rows read from bytes, plainly; append of values. -/
import Derived.Test.YtjneoinacobbaaaRowD
import Derived.Test.YtjneoinacobbaaaBuild
import Derived.Test.YtjneoinacobbaaaVal
namespace Go.Proofs.Ytjneoinacobbaaa
open Go.RowKit

theorem fin_ok {v : Val} {to : Nat} (h : (fin v to).1 = 0) : fin v to = (0, v, to) ∧ rightB v = true := by
  unfold fin at h ⊢
  cases hb : rightB v
  · rw [hb] at h; cases h
  · exact ⟨rfl, rfl⟩
theorem gbL_len (l : List UInt8) (a : Int) : (gbL l a).length ≤ l.length := by
  unfold gbL
  split
  · rw [List.length_take, List.length_drop]; omega
  · simp
theorem zag_ok {x : Int} (h0 : 0 ≤ x) (h1 : x < 18446744073709551616) : -9223372036854775808 ≤ zag x ∧ zag x ≤ 9223372036854775807 := by unfold zag; split <;> omega
/-- What is read may be, and stands within. -/
theorem vR_ok {l : List UInt8} {a : Nat} (hl : l.length ≤ 9223372036854775807) (h : (vR l a).1 = 0) : a < (vR l a).2.2 ∧ (vR l a).2.2 ≤ l.length ∧ rightB (vR l a).2.1 = true ∧ VOk (vR l a).2.1 ∧ (vR l a).2.1.s.length ≤ l.length := by
  unfold vR at h ⊢
  split at h
  · cases h
  rename_i c1
  rw [if_neg c1]
  split at h
  · rename_i c2
    rw [if_pos c2]
    exact ⟨by show a < a + 1; omega, by show a + 1 ≤ _; omega, rfl, ⟨by simp, by simp, by simp⟩, by simp⟩
  rename_i c2
  rw [if_neg c2]
  split at h
  · rename_i c3
    rw [if_pos c3]
    split at h
    · cases h
    rename_i c4
    rw [if_neg c4]
    obtain ⟨e, hr⟩ := fin_ok h
    rw [e]
    have := at8_lo l (a + 1)
    have := at8_hi l (a + 1)
    exact ⟨by show a < a + 2; omega, by show a + 2 ≤ _; omega, hr, ⟨by simp, ⟨by show _ ≤ at8 l (a + 1); omega, by show at8 l (a + 1) ≤ _; omega⟩, by simp⟩, by simp⟩
  rename_i c3
  rw [if_neg c3]
  split at h
  · rename_i c4
    rw [if_pos c4]
    split at h
    · rename_i c5; exact absurd h c5
    rename_i c5
    rw [if_neg c5]
    obtain ⟨x, t, hx, hxl, _, hT, h1, hle, _⟩ := g_ok (l := l) (a := ((a + 1 : Nat) : Int)) (by simpa using c5)
    have hz := zag_ok (gN_nonneg l ((a + 1 : Nat) : Int)) (gN_lt l _)
    exact ⟨by show a < (gTo l _).toNat; rw [hT]; omega, by show (gTo l _).toNat ≤ _; rw [hT]; omega, rfl, ⟨by simp, hz, by simp⟩, by simp⟩
  rename_i c4
  rw [if_neg c4]
  split at h
  · rename_i c5
    rw [if_pos c5]
    split at h
    · rename_i c6; exact absurd h c6
    rename_i c6
    rw [if_neg c6]
    split at h
    · cases h
    rename_i c7
    rw [if_neg c7]
    split at h
    · exfalso; revert h; show (if _ then (11 : Int) else 10) = 0 → False
      split <;> intro h <;> cases h
    rename_i c8
    rw [if_neg c8]
    obtain ⟨e, hr⟩ := fin_ok h
    rw [e]
    obtain ⟨x, t, hx, hxl, _, hT, h1, hle, _⟩ := g_ok (l := l) (a := ((a + 1 : Nat) : Int)) (by simpa using c6)
    have c8' : gbE l ((a + 1 : Nat) : Int) = 0 := by simpa using c8
    have hn := gN_nonneg l ((a + 1 : Nat) : Int)
    have hgb := gbL_len l ((a + 1 : Nat) : Int)
    have h8 := at8_lo l a
    have h82 := at8_hi l a
    have hgt : gbTo l ((a + 1 : Nat) : Int) = gTo l ((a + 1 : Nat) : Int) + gN l ((a + 1 : Nat) : Int) := by unfold gbTo; rw [if_pos c8']
    have hin : ¬ (l.length : Int) - gTo l ((a + 1 : Nat) : Int) < gN l ((a + 1 : Nat) : Int) := by
      intro m
      have := (gb_err3 (l := l) (a := ((a + 1 : Nat) : Int)) (by simpa using c6) (by omega) m).1
      omega
    refine ⟨by show a < (gbTo l _).toNat; rw [hgt, hT]; omega, by show (gbTo l _).toNat ≤ _; rw [hgt]; omega, hr, ⟨⟨by show _ ≤ at8 l a; omega, by show at8 l a ≤ _; omega⟩, by simp, by show (gbL l _).length ≤ _; omega⟩, hgb⟩
  · cases h
theorem gE_err (l : List UInt8) (a : Nat) (ha : a ≤ l.length) : gE l (a : Int) = 0 ∨ gE l (a : Int) = 10 ∨ gE l (a : Int) = 11 := by
  rw [(g_in ha).1]
  rcases getF_err (l.drop a) 0 0 with h | h | h
  · exact .inl h
  · exact .inr (.inl h.1)
  · exact .inr (.inr h.1)
theorem vR_err {l : List UInt8} {a : Nat} (h : (vR l a).1 ≠ 0) : (vR l a).1 = 10 ∨ (vR l a).1 = 11 := by
  unfold vR at h ⊢
  by_cases c1 : l.length ≤ a
  · rw [if_pos c1]; exact .inl rfl
  have hg := gE_err l (a + 1) (by omega)
  have hf : ∀ (v : Val) (m : Nat), (fin v m).1 ≠ 0 → (fin v m).1 = 10 ∨ (fin v m).1 = 11 := by
    intro v m h
    unfold fin at h ⊢
    cases hb : rightB v
    · exact .inr rfl
    · rw [hb] at h; exact absurd rfl h
  repeat' split at h
  all_goals (repeat' split)
  all_goals first
    | exact absurd rfl h
    | exact .inl rfl
    | exact .inr rfl
    | exact hf _ _ h
    | (exfalso; simp_all; done)
    | (rcases hg with hg | hg | hg
       · exact absurd hg h
       · exact .inl hg
       · exact .inr hg)
/-- So many values from a place on. -/
def decF : Nat → List UInt8 → Nat → Int × List Val × Nat
  | 0, _, a => (0, [], a)
  | n + 1, l, a => if (vR l a).1 ≠ 0 then ((vR l a).1, [], 0) else ((decF n l (vR l a).2.2).1, (vR l a).2.1 :: (decF n l (vR l a).2.2).2.1, (decF n l (vR l a).2.2).2.2)
def decR (l : List UInt8) : Int × List Val × Nat := decF (gN l 0).toNat l (gTo l 0).toNat
def decE (l : List UInt8) : Int := if gE l 0 ≠ 0 then gE l 0 else if 100 < gN l 0 then 11 else if (decR l).1 ≠ 0 then (decR l).1 else if (decR l).2.2 < l.length then 11 else 0
def decL (l : List UInt8) : List Val := if decE l = 0 then (decR l).2.1 else []
theorem decF_ok {l : List UInt8} (hl : l.length ≤ 9223372036854775807) : ∀ (n a : Nat), a ≤ l.length → (decF n l a).1 = 0 → a ≤ (decF n l a).2.2 ∧ (decF n l a).2.2 ≤ l.length ∧ (decF n l a).2.1.length = n ∧ (∀ v ∈ (decF n l a).2.1, rightB v = true ∧ VOk v ∧ v.s.length ≤ l.length)
  | 0, a, ha, _ => ⟨Nat.le_refl _, ha, rfl, fun v hv => by cases hv⟩
  | n + 1, a, ha, h => by
    unfold decF at h ⊢
    split at h
    · rename_i hc; exact absurd h hc
    rename_i hc
    rw [if_neg hc]
    obtain ⟨h1, h2, h3, h4, h5⟩ := vR_ok hl (by simpa using hc : (vR l a).1 = 0)
    obtain ⟨i1, i2, i3, i4⟩ := decF_ok hl n (vR l a).2.2 h2 h
    refine ⟨by show a ≤ (decF n l _).2.2; omega, i2, by show (_ :: (decF n l _).2.1).length = n + 1; rw [List.length_cons, i3], ?_⟩
    intro v hv
    rcases List.mem_cons.1 hv with rfl | hv
    · exact ⟨h3, h4, h5⟩
    · exact i4 v hv
theorem decL_ok {l : List UInt8} (hl : l.length ≤ 9223372036854775807) : ∀ v ∈ decL l, rightB v = true ∧ VOk v ∧ v.s.length ≤ l.length := by
  intro v hv
  unfold decL at hv
  split at hv
  · rename_i h
    unfold decE at h
    split at h
    · rename_i h0; exact absurd h h0
    rename_i h0
    split at h
    · cases h
    split at h
    · rename_i h1; exact absurd h h1
    rename_i h1
    obtain ⟨x, t, hx, hxl, _, hT, _, hle, _⟩ := g_ok (l := l) (a := 0) (by simpa using h0)
    exact (decF_ok hl _ _ (by rw [hT]; omega) (by simpa [decR] using h1)).2.2.2 v hv
  · cases hv

section
variable {P : Program} {E : Env} {d : Option Nat} {ty : TypeId} {p : String} {af : Array Edge} {gd : Option (Nat × Bool)} {x y : Operand} {t : TypeId} {kw : Value → World → Prop} {w : World}
/-- append, of whatever. -/
theorem v_appG {e : TypeId} {z : Value} {size bytes : Nat} (hT : P.underlying t = some (.slice e)) (hi : (P.info? e).map (fun i => (i.zero, i.size, i.bytes)) = some (some z, size, bytes)) (hzs : z.cells.size = size) (hs0 : 0 < size)
    {base : Nat} {A : Option Addr} {n c : Nat} {xs : List Value} (hx : val E x = .slice A n c) (hown : w.ownsRow base e size (.slice A n c) n xs) {B : Nat} {A2 : Option Addr} {m c2 : Nat} {news : List Value} (hy : val E y = .slice A2 m c2) (hr : Reads w B size A2 m news) (h1 : ∀ u ∈ news, u.oneCell' = true)
    (hsz : n + m ≤ 1000000000 ∧ bytes ≤ 1000) (hbase : base ≤ w.heap.size)
    (h : ∀ A' c' w', w'.ownsRow base e size (.slice A' (n + m) c') (n + m) (xs ++ news) → w.grownBy w' (Value.slice A n c).ownBlock → kw (.slice A' (n + m) c') w') :
    VVal P E { dst := d, op := .call { callee := .builtin .append, args := #[x, y], argTypes := #[t, t] }, type := ty, pos := p, after := af, guard := gd } w kw := by
  obtain ⟨i, hi0, hz0, hz1, hz2⟩ := info_parts hi
  have hb : (n + m) * bytes ≤ 140737488355328 := by
    have := Nat.mul_le_mul hsz.1 hsz.2
    omega
  obtain ⟨v', w', hrun, h2, h3, h4, h5⟩ := run_append_any (P := P) w base t ty e i z size bytes hT hi0 hz0 hz1 hz2 hzs hs0 _ n _ hown B A2 m c2 _ hr h1 (by unfold maxLen; omega) hb hbase
  obtain ⟨A', c', rfl⟩ := own_slice h2
  refine vv (v := .slice A' (n + m) c') (w' := w') ?_ (h A' c' w' h2 h3)
  simp [execOp, resolve, invoke, builtin, hx, hy, hrun]
/-- A block reads as its cells. -/
theorem Reads.blk {g : Nat} {e : TypeId} {size n : Nat} {cs : List Value} (h : Blk w g e cs) (hl : cs.length = n * size) : Reads w w.heap.size size (some ⟨g, 0, none⟩) n cs :=
  ⟨hl, fun _ => ⟨g, 0, rfl, h.lt, fun j u hu => by rw [Nat.zero_add]; exact h.at_ hu⟩⟩
theorem ownsRow_below {base : Nat} {e : TypeId} {size n : Nat} {v : Value} {xs : List Value} {w' : World} (h : w.ownsRow base e size v n xs) (hb : Below w.heap.size w w') : w'.ownsRow base e size v n xs :=
  World.ownsRow.kept h (row := none) ⟨hb.os, hb.tape, hb.output, hb.size, fun k hk _ => hb.block k hk⟩ (by cases v.ownBlock <;> simp)
/-- What is owned lies in a block of its own type. -/
theorem ownsRow_ne {base : Nat} {e T : TypeId} {size n : Nat} {v : Value} {xs cs : List Value} {g : Nat} (h : w.ownsRow base e size v n xs) (hB : Blk w g T cs) (hne : e ≠ T) : v.ownBlock ≠ some g := by
  intro he
  rcases h.2 with ⟨hv, _⟩ | ⟨g', cap, cur, hv, _, hh, _⟩
  · rw [hv] at he; cases he
  · rw [hv] at he
    have he : g' = g := by simpa [Value.ownBlock] using he
    subst he
    have := hh.symm.trans hB
    injection this with this
    injection this with _ this
    exact hne this
end
end Go.Proofs.Ytjneoinacobbaaa
