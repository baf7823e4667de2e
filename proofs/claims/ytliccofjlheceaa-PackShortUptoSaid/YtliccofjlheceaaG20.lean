/- Package pack: what is sent is read. A state's own blocks and rows, in another order. Package pack: the sender. Package pack: the reader's small methods. Package pack: the reader's again. -/
import Derived.Test.YtliccofjlheceaaG19
import Derived.Test.YtliccofjlheceaaG04
import Derived.Test.YtliccofjlheceaaG18
import Derived.Test.YtliccofjlheceaaG06
import Derived.Test.YtliccofjlheceaaG11
import Derived.Test.YtliccofjlheceaaG14
namespace Go.Proofs.Ytliccofjlheceaa
open Go.RowKit
theorem sdP_none {t : Nd} {done : List Nd} (h : idxN done t = none) : sdP t done = (headP t ++ (sdK t.kids done).1, (sdK t.kids done).2 ++ [t]) := by rw [sdP_eq, h]
theorem sdP_some {t : Nd} {done : List Nd} {i : Nat} (h : idxN done t = some i) : sdP t done = (5 :: putN i, done) := by rw [sdP_eq, h]
mutual
theorem sd_len : ∀ (t : Nd) (done : List Nd), (sdP t done).2.length ≤ done.length + sz t
  | .mk k p has v ks h, done => by
    rw [sdP, sz]
    split
    · dsimp only; omega
    · have := sdK_len ks done
      dsimp only
      rw [List.length_append, List.length_singleton]; omega
theorem sdK_len : ∀ (ks : List Nd) (done : List Nd), (sdK ks done).2.length ≤ done.length + szs ks
  | [], done => by rw [sdK]; exact Nat.le_add_right _ _
  | t :: ts, done => by
    rw [sdK, szs]
    split
    · have := sdK_len ts done; omega
    · have h1 := sd_len t done
      have h2 := sdK_len ts (sdP t done).2
      dsimp only
      omega
end
theorem textX_put {s r : List UInt8} (h : s.length ≤ 1048576) : textX (putB s ++ r) = some (s, r) := by
  obtain ⟨h1, h2, h3⟩ := gb_put [] s r h
  rw [List.nil_append] at h1 h2 h3
  have h1 : gbE (putB s ++ r) 0 = 0 := h1
  have h2 : gbL (putB s ++ r) 0 = s := h2
  have h3 : gbTo (putB s ++ r) 0 = (((putB s).length : Nat) : Int) := by simpa using h3
  unfold textX
  rw [if_pos h1, h2, h3, Int.toNat_natCast, List.drop_left]
theorem g_put0 (n : Nat) (r : List UInt8) (h : n < 18446744073709551616) : gE (putN n ++ r) 0 = 0 ∧ gN (putN n ++ r) 0 = (n : Int) ∧ (gTo (putN n ++ r) 0).toNat = (putN n).length := by
  have := g_put [] n r h
  simp only [List.nil_append, List.length_nil, Nat.zero_add] at this
  obtain ⟨h1, h2, h3⟩ := this
  refine ⟨h1, h2, ?_⟩
  have h3 : gTo (putN n ++ r) 0 = (((putN n).length : Nat) : Int) := h3
  rw [h3, Int.toNat_natCast]
theorem again_put {i : Nat} {done : List Nd} {r : List UInt8} {left : Int} (hi : i < done.length) (hb : done.length ≤ 1000000000000000000) (hl : ((cntP (done.getD i noneN)).1 : Int) ≤ left) : againX (putN i ++ r) done left = .got (done.getD i noneN) r done (left - ((cntP (done.getD i noneN)).1 : Int)) := by
  obtain ⟨h1, h2, h3⟩ := g_put0 i r (by omega)
  unfold againX
  rw [h1, h2, h3, if_pos ⟨rfl, by omega⟩, Int.toNat_natCast, if_neg (by omega), List.drop_left]
theorem one_again {F i : Nat} {t : Nd} {done : List Nd} {rest : List UInt8} {left : Int} (h : idxN done t = some i) (hb : done.length ≤ 1000000000000000000) (hl : ((cntP t).1 : Int) ≤ left) : oneF (F + 1) ((sdP t done).1 ++ rest) done left = .got t rest (sdP t done).2 (left - ((cntP t).1 : Int)) := by
  obtain ⟨h1, h2, -⟩ := idxN_some h
  rw [sdP_some h]
  show oneF (F + 1) (5 :: (putN i ++ rest)) done left = _
  rw [oneF_cons, if_pos rfl, again_put h1 hb (by rw [h2]; exact hl), h2]
theorem one_head {F : Nat} {c : UInt8} {b : List UInt8} {done : List Nd} {left : Int} (h5 : c ≠ 5) (h4 : c.toNat ≤ 4) (h0 : c ≠ 0 → 1 ≤ left) : oneF (F + 1) (c :: b) done left = bodyX (oneF F) c b done (if c = 0 then left else left - 1) := by
  rw [oneF_cons, if_neg h5, if_neg (by omega), if_neg (fun h => by have := h0 h.1; omega)]
theorem kids_rt {f : List UInt8 → List Nd → Int → Rr} {set : List UInt8} {all : List Nd} (hb : ∀ i, i < 16 → bitB set i = nz all i) :
    ∀ (n i : Nat) (acc ks done : List Nd) (left : Int) (rest : List UInt8), i + n = 16 → ks.length = n → ks = all.drop i → (∀ k ∈ ks, k.kind = 0 → k = noneN) →
    (∀ k ∈ ks, k.kind ≠ 0 → ∀ done left rest, ((cntP k).1 : Int) ≤ left → done.length + sz k ≤ 1000000000000000000 → f ((sdP k done).1 ++ rest) done left = .got k rest (sdP k done).2 (left - ((cntP k).1 : Int))) →
    ((cntsP ks).1 : Int) ≤ left → done.length + szs ks ≤ 1000000000000000000 → kidsA f set n i acc ((sdK ks done).1 ++ rest) done left = .got (acc ++ ks) rest (sdK ks done).2 (left - ((cntsP ks).1 : Int))
  | 0, i, acc, ks, done, left, rest, _, hl, _, _, _, _, _ => by
    obtain rfl := List.eq_nil_of_length_eq_zero hl
    rw [kidsA, sdK, cntsP, List.append_nil]
    simp
  | n + 1, i, acc, [], done, left, rest, _, hl, _, _, _, _, _ => by cases hl
  | n + 1, i, acc, k :: ks, done, left, rest, hin, hl, hdr, hnone, hf, hc, hz => by
    have hk : all.getD i noneN = k := by
      have : (all.drop i)[0]? = some k := by rw [← hdr]; rfl
      rw [List.getElem?_drop, Nat.add_zero] at this
      rw [List.getD_eq_getElem?_getD, this]; rfl
    have hdr2 : ks = all.drop (i + 1) := by
      rw [← List.drop_drop, ← hdr]; rfl
    rw [szs] at hz
    rw [cntsP] at hc
    dsimp only at hc
    have hl2 : ks.length = n := by simpa using hl
    by_cases h0 : k.kind = 0
    · have hkn := hnone k (List.mem_cons_self ..) h0
      have e0 : (cntP noneN).1 = 0 := rfl
      rw [kidsA, hb i (by omega)]
      have : nz all i = false := by unfold nz; rw [hk]; exact decide_eq_false (fun h => h h0)
      rw [this, if_neg (by decide), sdK, if_pos h0, kids_rt hb n (i + 1) (acc ++ [noneN]) ks done left rest (by omega) hl2 hdr2 (fun k hk => hnone k (List.mem_cons_of_mem _ hk)) (fun k hk => hf k (List.mem_cons_of_mem _ hk)) (by omega) (by omega), hkn, cntsP]
      dsimp only
      rw [e0, Nat.zero_add, List.append_assoc]; rfl
    · rw [kidsA, hb i (by omega)]
      have : nz all i = true := by unfold nz; rw [hk]; exact decide_eq_true h0
      rw [this, if_pos rfl, sdK, if_neg h0]
      dsimp only
      rw [List.append_assoc, hf k (List.mem_cons_self ..) h0 done left _ (by omega) (by omega)]
      dsimp only
      have hl3 := sd_len k done
      rw [kids_rt hb n (i + 1) (acc ++ [k]) ks (sdP k done).2 (left - ((cntP k).1 : Int)) rest (by omega) hl2 hdr2 (fun k hk => hnone k (List.mem_cons_of_mem _ hk)) (fun k hk => hf k (List.mem_cons_of_mem _ hk)) (by omega) (by omega), cntsP]
      dsimp only
      rw [List.append_assoc]
      congr 1
      omega
theorem one_rt {even : Bool} {t : Nd} {d : Nat} (hv : Val even t d) : ∀ (F : Nat), 403 ≤ F + d → ∀ (done : List Nd) (left : Int) (rest : List UInt8), ((cntP t).1 : Int) ≤ left → done.length + sz t ≤ 1000000000000000000 → oneF F ((sdP t done).1 ++ rest) done left = .got t rest (sdP t done).2 (left - ((cntP t).1 : Int)) := by
  induction hv with
  | none d hd =>
    intro F hF done left rest hl hz
    obtain ⟨F, rfl⟩ : ∃ F', F = F' + 1 := ⟨F - 1, by omega⟩
    cases hi : idxN done noneN with
    | some i => exact one_again hi (by omega) hl
    | none =>
      have e0 : (cntP noneN).1 = 0 := rfl
      rw [sdP_none hi, e0]
      have e1 : headP noneN ++ (sdK noneN.kids done).1 ++ rest = 0 :: rest := by
        have : (sdK noneN.kids done).1 = [] := by show (sdK [] done).1 = []; rw [sdK]
        rw [this, List.append_nil]; rfl
      have e2 : (sdK noneN.kids done).2 = done := by show (sdK [] done).2 = done; rw [sdK]
      dsimp only
      rw [e1, e2, one_head (by decide) (by decide) (fun h => absurd rfl h), if_pos rfl]
      unfold bodyX
      rw [if_neg (by decide), if_neg (by decide), if_neg (by decide)]
      simp
  | leaf d p v hd hp hv he =>
    intro F hF done left rest hl hz
    obtain ⟨F, rfl⟩ : ∃ F', F = F' + 1 := ⟨F - 1, by omega⟩
    cases hi : idxN done (.mk 1 p false v [] []) with
    | some i => exact one_again hi (by omega) hl
    | none =>
      have hpl := packL_len p true
      have hen := endsP_le he
      obtain ⟨u1, u2, u3, -⟩ := unpack_pack p true hp
      have ec : (cntP (.mk 1 p false v [] [])).1 = 1 := by rw [cntP, cntsP]; rfl
      rw [ec] at hl ⊢
      rw [sdP_none hi]
      have e1 : headP (.mk 1 p false v [] []) ++ (sdK (Nd.mk 1 p false v [] []).kids done).1 ++ rest = 1 :: (putB (packL p true) ++ (putB v ++ rest)) := by
        have : (sdK (Nd.mk 1 p false v [] []).kids done).1 = [] := by show (sdK [] done).1 = []; rw [sdK]
        rw [this, List.append_nil, ← List.append_assoc]; rfl
      have e2 : (sdK (Nd.mk 1 p false v [] []).kids done).2 = done := by show (sdK [] done).2 = done; rw [sdK]
      dsimp only
      rw [e1, e2, one_head (by decide) (by decide) (fun _ => hl), if_neg (by decide)]
      unfold bodyX
      rw [if_pos (.inl rfl), textX_put (by omega)]
      dsimp only
      rw [u1, u2, u3, if_neg (by simp), if_pos rfl, textX_put (by omega)]
      rfl
  | stub d h hd hh =>
    intro F hF done left rest hl hz
    obtain ⟨F, rfl⟩ : ∃ F', F = F' + 1 := ⟨F - 1, by omega⟩
    cases hi : idxN done (.mk 4 [] false [] [] h) with
    | some i => exact one_again hi (by omega) hl
    | none =>
      have ec : (cntP (.mk 4 [] false [] [] h)).1 = 1 := by rw [cntP, cntsP]; rfl
      rw [ec] at hl ⊢
      rw [sdP_none hi]
      have e1 : headP (.mk 4 [] false [] [] h) ++ (sdK (Nd.mk 4 [] false [] [] h).kids done).1 ++ rest = 4 :: (h ++ rest) := by
        have : (sdK (Nd.mk 4 [] false [] [] h).kids done).1 = [] := by show (sdK [] done).1 = []; rw [sdK]
        rw [this, List.append_nil]; rfl
      have e2 : (sdK (Nd.mk 4 [] false [] [] h).kids done).2 = done := by show (sdK [] done).2 = done; rw [sdK]
      dsimp only
      rw [e1, e2, one_head (by decide) (by decide) (fun _ => hl), if_neg (by decide)]
      unfold bodyX
      rw [if_neg (by decide), if_neg (by decide), if_pos rfl, if_neg (by rw [List.length_append]; omega)]
      have t1 : (h ++ rest).take 32 = h := by rw [← hh, List.take_left]
      have t2 : (h ++ rest).drop 32 = rest := by rw [← hh, List.drop_left]
      rw [t1, t2]
      rfl
  | way d p k hd hp h0 hk hr ih =>
    intro F hF done left rest hl hz
    obtain ⟨F, rfl⟩ : ∃ F', F = F' + 1 := ⟨F - 1, by omega⟩
    cases hi : idxN done (.mk 2 p false [] [k] []) with
    | some i => exact one_again hi (by omega) hl
    | none =>
      have hpl := packL_len p false
      have hen := hr.le
      have hp1 : 1 ≤ p.length := by cases p with | nil => exact absurd rfl h0 | cons _ _ => simp
      have hk0 : k.kind ≠ 0 := by rcases hk with h | h <;> rw [h] <;> decide
      obtain ⟨u1, u2, u3, -⟩ := unpack_pack p false hp
      have ec : (cntP (.mk 2 p false [] [k] [])).1 = 1 + (cntP k).1 := by rw [cntP, cntsP, cntsP]; simp
      have es : sz (.mk 2 p false [] [k] []) = 6 + p.length + sz k := by rw [sz, szs, szs]; simp
      rw [ec] at hl ⊢
      rw [es] at hz
      rw [sdP_none hi]
      have eK : sdK (Nd.mk 2 p false [] [k] []).kids done = ((sdP k done).1 ++ [], (sdP k done).2) := by
        show sdK [k] done = _
        rw [sdK, if_neg hk0, sdK]
      rw [eK]
      dsimp only
      have e1 : headP (.mk 2 p false [] [k] []) ++ ((sdP k done).1 ++ []) ++ rest = 2 :: (putB (packL p false) ++ ((sdP k done).1 ++ rest)) := by
        have eh : headP (.mk 2 p false [] [k] []) = 2 :: (putB (packL p false) ++ []) := rfl
        rw [eh, List.append_nil, List.append_nil, List.cons_append, List.cons_append, List.append_assoc]
      rw [e1, one_head (by decide) (by decide) (fun _ => by omega), if_neg (by decide)]
      unfold bodyX
      rw [if_pos (.inr rfl), textX_put (by omega)]
      dsimp only
      rw [u1, u2, u3, if_neg (by simp), if_neg (by decide), ih F (by omega) done (left - 1) rest (by omega) (by omega)]
      dsimp only
      congr 1
      omega
  | branch d has v ks hd hv hv0 he h16 hr hm ih =>
    intro F hF done left rest hl hz
    obtain ⟨F, rfl⟩ : ∃ F', F = F' + 1 := ⟨F - 1, by omega⟩
    cases hi : idxN done (.mk 3 [] has v ks []) with
    | some i => exact one_again hi (by omega) hl
    | none =>
      have ec : (cntP (.mk 3 [] has v ks [])).1 = 1 + (cntsP ks).1 := by rw [cntP]; simp
      have es : sz (.mk 3 [] has v ks []) = 6 + v.length + szs ks := by rw [sz]; simp
      rw [ec] at hl ⊢
      rw [es] at hz
      rw [sdP_none hi]
      show oneF (F + 1) (headP (.mk 3 [] has v ks []) ++ (sdK ks done).1 ++ rest) done left = .got (.mk 3 [] has v ks []) rest ((sdK ks done).2 ++ [.mk 3 [] has v ks []]) _
      have eh : headP (.mk 3 [] has v ks []) = 3 :: ((if has then (1 : UInt8) :: putB v else [0]) ++ (UInt8.ofNat (kbits ks 16).1 :: UInt8.ofNat (kbits ks 16).2 :: [])) := rfl
      have hks := kids_rt (f := oneF F) (set := [UInt8.ofNat (kbits ks 16).1, UInt8.ofNat (kbits ks 16).2]) (all := ks) (fun i hi => bitB_nz ks hi) 16 0 [] ks done (left - 1) rest rfl h16 List.drop_zero.symm (fun k hk h0 => kind0 (hr k hk) h0)
        (fun k hk h0 done left rest h1 h2 => ih k hk F (by omega) done left rest h1 h2) (by omega) (by omega)
      rw [List.nil_append] at hks
      obtain ⟨s0, hs0⟩ : ∃ x, x = UInt8.ofNat (kbits ks 16).1 := ⟨_, rfl⟩
      obtain ⟨s1, hs1⟩ : ∃ x, x = UInt8.ofNat (kbits ks 16).2 := ⟨_, rfl⟩
      rw [← hs0, ← hs1] at hks eh
      have efin : left - 1 - ((cntsP ks).1 : Int) = left - ((1 + (cntsP ks).1 : Nat) : Int) := by omega
      rw [eh]
      cases has with
      | true =>
        have e1 : 3 :: ((if true = true then (1 : UInt8) :: putB v else [0]) ++ [s0, s1]) ++ (sdK ks done).1 ++ rest = 3 :: 1 :: (putB v ++ (s0 :: s1 :: ((sdK ks done).1 ++ rest))) := by
          rw [if_pos rfl]
          simp only [List.cons_append, List.append_assoc, List.nil_append]
        rw [e1, one_head (by decide) (by decide) (fun _ => by omega), if_neg (by decide)]
        unfold bodyX
        rw [if_neg (by decide), if_pos rfl]
        dsimp only
        rw [if_pos rfl, textX_put (by omega)]
        dsimp only
        rw [if_neg (by simp only [List.length_cons]; omega)]
        show (match kidsA (oneF F) [s0, s1] 16 0 [] ((sdK ks done).1 ++ rest) done (left - 1) with | .bad e => Rr.bad e | .got ks b3 d3 l3 => Rr.got (.mk 3 [] (decide ((1 : UInt8) = 1)) v ks []) b3 (d3 ++ [Nd.mk 3 [] (decide ((1 : UInt8) = 1)) v ks []]) l3) = _
        rw [hks, efin]
        rfl
      | false =>
        have hv' : v = [] := hv0.resolve_left (by decide)
        subst hv'
        have e1 : 3 :: ((if false = true then (1 : UInt8) :: putB [] else [0]) ++ [s0, s1]) ++ (sdK ks done).1 ++ rest = 3 :: 0 :: s0 :: s1 :: ((sdK ks done).1 ++ rest) := by
          rw [if_neg (by decide)]
          simp only [List.cons_append, List.append_assoc, List.nil_append]
        rw [e1, one_head (by decide) (by decide) (fun _ => by omega), if_neg (by decide)]
        unfold bodyX
        rw [if_neg (by decide), if_pos rfl]
        dsimp only
        rw [if_neg (by decide)]
        dsimp only
        rw [if_neg (by simp only [List.length_cons]; omega)]
        show (match kidsA (oneF F) [s0, s1] 16 0 [] ((sdK ks done).1 ++ rest) done (left - 1) with | .bad e => Rr.bad e | .got ks b3 d3 l3 => Rr.got (.mk 3 [] (decide ((0 : UInt8) = 1)) [] ks []) b3 (d3 ++ [Nd.mk 3 [] (decide ((0 : UInt8) = 1)) [] ks []]) l3) = _
        rw [hks, efin]
        rfl
/-- How many bytes are sent. -/
theorem head_len (t : Nd) (h : t.path.length + t.val.length ≤ 1000000000000000000) : (headP t).length ≤ 24 + t.path.length + t.val.length + t.hash.length := by
  have hn : ∀ n : Nat, n ≤ 1000000000000000001 → (putN n).length ≤ 10 := fun n hn => putN_len10 (by omega)
  have hp := packL_len t.path true
  have hp2 := packL_len t.path false
  unfold headP
  split
  · rw [List.length_cons]; omega
  · unfold encF
    rw [List.length_cons]
    split
    · have h1 := hn (packL t.path true).length (by omega)
      have h2 := hn t.val.length (by omega)
      unfold putB
      simp only [List.length_append]; omega
    · split
      · have h1 := hn (packL t.path false).length (by omega)
        unfold putB
        simp only [List.length_append, List.length_nil]; omega
      · split
        · have h2 := hn t.val.length (by omega)
          cases t.has with
          | true => rw [if_pos rfl]; unfold putB; simp only [List.length_append, List.length_cons, List.length_nil]; omega
          | false => rw [if_neg (by decide)]; simp only [List.length_append, List.length_cons, List.length_nil]; omega
        · rw [List.length_nil]; omega
mutual
theorem sd_size : ∀ (t : Nd) (done : List Nd), done.length + sz t ≤ 1000000000000000000 → (sdP t done).1.length ≤ 5 * sz t
  | .mk k p has v ks h, done, hz => by
    have hh := head_len (.mk k p has v ks h)
    have ep : (Nd.mk k p has v ks h).path = p := rfl
    have ev : (Nd.mk k p has v ks h).val = v := rfl
    have es : (Nd.mk k p has v ks h).hash = h := rfl
    rw [ep, ev, es] at hh
    rw [sz] at hz ⊢
    rw [sdP]
    split
    · rename_i i hi
      have := (idxN_some hi).1
      have := putN_len10 (n := i) (by omega)
      rw [List.length_cons]; omega
    · have := sdK_size ks done (by omega)
      have := hh (by omega)
      dsimp only
      rw [List.length_append]; omega
theorem sdK_size : ∀ (ks : List Nd) (done : List Nd), done.length + szs ks ≤ 1000000000000000000 → (sdK ks done).1.length ≤ 5 * szs ks
  | [], done, _ => by rw [sdK]; exact Nat.zero_le _
  | t :: ts, done, hz => by
    rw [szs] at hz ⊢
    rw [sdK]
    split
    · have := sdK_size ts done (by omega); omega
    · have h1 := sd_size t done (by omega)
      have h2 := sd_len t done
      have h3 := sdK_size ts (sdP t done).2 (by omega)
      dsimp only
      rw [List.length_append]; omega
end
end Go.Proofs.Ytliccofjlheceaa
namespace Go.Proofs.Ytliccofjlheceaa
open Go.RowKit
section
variable {w W : World} {gs : List (Option Nat)} {L L' : Lc} {R R' : List Row} {fs : List Fact}
theorem own_perm (hL : L.Perm L') (hR : R.Perm R') (gs : List (Option Nat)) {b : Option Nat} : b ∈ own L' R' gs → b ∈ own L R gs := by
  unfold own
  intro h
  rcases List.mem_append.1 h with h | h
  · exact List.mem_append_left _ ((hL.map _).mem_iff.2 h)
  · rcases List.mem_append.1 h with h | h
    · exact List.mem_append_right _ (List.mem_append_left _ ((hR.map _).mem_iff.2 h))
    · exact List.mem_append_right _ (List.mem_append_right _ h)
theorem St.perm (M : St w gs W L R fs) (hL : L.Perm L') (hR : R.Perm R') : St w gs W L' R' fs :=
  ⟨M.below, M.lt, fun x hx => M.blk x (hL.mem_iff.2 hx), fun r hr => M.row r (hR.mem_iff.2 hr), List.Perm.pairwise ((hL.map _).append (hR.map _)) M.ap (fun h => apart_comm h),
    fun f hf => (M.fct f hf).up ⟨Nat.le_refl _, fun _ _ _ => rfl, fun _ _ e => own_perm hL hR gs e⟩⟩
theorem St.permL (M : St w gs W L R fs) (hL : L.Perm L') : St w gs W L' R fs := M.perm hL (List.Perm.refl _)
theorem St.permR (M : St w gs W L R fs) (hR : R.Perm R') : St w gs W L R' fs := M.perm (List.Perm.refl _) hR
theorem St.swpR {x y : Row} (M : St w gs W L (x :: y :: R) fs) : St w gs W L (y :: x :: R) fs := M.permR (List.Perm.swap ..)
/-- The third one first. -/
theorem perm3 {α : Type} (x y z : α) (l : List α) : (x :: y :: z :: l).Perm (z :: x :: y :: l) := ((List.Perm.swap z y l).cons x).trans (List.Perm.swap z x (y :: l))
theorem perm3' {α : Type} (x y z : α) (l : List α) : (z :: x :: y :: l).Perm (x :: y :: z :: l) := (perm3 x y z l).symm
end
end Go.Proofs.Ytliccofjlheceaa
namespace Go.Proofs.Ytliccofjlheceaa
open Go.RowKit
/-- An element of a row that grows. -/
theorem St.rowN {w W : World} {gs : List (Option Nat)} {L : Lc} {R : List Row} {fs : List Fact} (M : St w gs W L R fs) (j f : Nat) {A : Option Addr} {n c i : Nat} {xs : List Value} {ks : List Nd} {k : Nd} {fr : Bool} (hR : nth R j = some ⟨38, 6, A, n, c, xs⟩) (hf : nth fs f = some (.dat fr (dNs ks) xs)) (hk : ks[i]? = some k) :
    ∃ g es, A = some ⟨g, 0, none⟩ ∧ i < n ∧ es.length = 6 ∧ RdL W (Ft w W (own L R gs) fr) (dN k) es ∧ ∀ j v, es[j]? = some v → W.cell? (((⟨g, 0, none⟩ : Addr).add (i * 6)).add j) = some v := by
  have hrow := M.row _ (nth_mem hR)
  have hd := M.dt f hf
  have hxl := hrow.1
  have hdl := hd.len
  rw [dNs_len] at hdl
  have hi := (List.getElem?_eq_some_iff.1 hk).1
  dsimp only at hxl
  have hcells := row_cells hrow
  rcases hrow.2 with ⟨hv, h0⟩ | ⟨g, cap, cur, hv, _⟩
  · dsimp only at h0; omega
  · injection hv with e1 e2 e3
    dsimp only at e1
    subst e1
    refine ⟨g, (xs.drop (i * 6)).take 6, rfl, by omega, ?_, ?_, ?_⟩
    · rw [List.length_take, List.length_drop]; omega
    · have := (hd.drop (i * 6)).take 6
      rw [dNs_at hk] at this
      exact this
    · intro j v hj
      have hj6 : j < 6 := by
        have := (List.getElem?_eq_some_iff.1 hj).1
        rw [List.length_take] at this; omega
      rw [List.getElem?_take_of_lt hj6, List.getElem?_drop] at hj
      have := hcells ⟨g, 0, none⟩ rfl (i * 6 + j) v hj
      rw [Addr.add_lit] at this
      rw [Addr.add_lit, Addr.add_lit]
      rw [← Nat.add_assoc] at this
      exact this
/-- A row as a block, and back. -/
theorem St.rowBlkS {w W : World} {gs : List (Option Nat)} {L : Lc} {R : List Row} {fs : List Fact} {e : TypeId} {s n c : Nat} {A : Option Addr} {xs : List Value} (M : St w gs W L (⟨e, s, A, n, c, xs⟩ :: R) fs) (hn : 0 < n) : ∃ g rest, A = some ⟨g, 0, none⟩ ∧ n ≤ c ∧ c ≤ maxLen ∧ xs.length = n * s ∧ (xs ++ rest).length = c * s ∧ St w gs W ((g, e, xs ++ rest) :: L) R fs := by
  have hrow := M.row _ (List.mem_cons_self ..)
  obtain ⟨g, rest, hA, hnc, M2⟩ := M.rowBlk hn
  subst hA
  rcases hrow.2 with ⟨hv, h0⟩ | ⟨g', cap, cur, hv, hb, hh, h1, h2, h3, h4⟩
  · simp only at h0; omega
  · injection hv with e1 e2 e3
    dsimp only at e1 e3 h4
    injection e1 with e1
    injection e1 with e1 _ _
    subst e1; subst e3
    refine ⟨_, rest, rfl, hnc, h2, hrow.1, ?_, M2⟩
    have hB := M2.B 0 rfl
    unfold Blk at hB
    dsimp only at hh
    rw [hh] at hB
    injection hB with hB
    injection hB with hB _ _
    have := congrArg Array.size hB
    simp only [List.size_toArray] at this
    rw [← this, h3]
theorem St.blkRow {w W : World} {gs : List (Option Nat)} {L : Lc} {R : List Row} {fs : List Fact} {e : TypeId} {s n c g : Nat} {xs rest : List Value} (M : St w gs W ((g, e, xs ++ rest) :: L) R fs) (hnc : n ≤ c) (hm : c ≤ maxLen) (hx : xs.length = n * s) (hc : (xs ++ rest).length = c * s) : St w gs W L (⟨e, s, some ⟨g, 0, none⟩, n, c, xs⟩ :: R) fs := by
  have hB := M.blk _ (List.mem_cons_self ..)
  refine ⟨M.below, M.lt, fun y hy => M.blk y (List.mem_cons_of_mem _ hy), fun r hr => ?_, ?_, fun f hf => ?_⟩
  · rcases List.mem_cons.1 hr with rfl | hr
    · refine ⟨hx, .inr ⟨g, c, (xs ++ rest).toArray, rfl, hB.2, hB.1, hnc, hm, by simpa using hc, ?_⟩⟩
      dsimp only
      rw [← hx, List.take_left]
    · exact M.row r hr
  · have hp := List.Perm.pairwise (l' := L.map (fun x => some x.1) ++ (bk (some (⟨g, 0, none⟩ : Addr)) :: R.map (fun r => bk r.A))) (by rw [List.map_cons]; exact List.perm_middle.symm) M.ap (fun h => apart_comm h)
    exact hp
  · refine (M.fct f hf).up ⟨Nat.le_refl _, fun _ _ _ => rfl, fun b _ e => ?_⟩
    unfold own at *
    simp only [List.map_cons, List.cons_append, List.mem_append, List.mem_cons] at e ⊢
    rcases e with e | e | e | e
    · exact .inr (.inl e)
    · exact .inl (by rw [e]; rfl)
    · exact .inr (.inr (.inl e))
    · exact .inr (.inr (.inr e))
theorem is_pfn : isFn Try.prog 63 = true := by kernel_rfl
theorem is_pidx : isFn Try.prog 62 = true := by kernel_rfl
def fsn (g : Nat) : Value := .func (.func 63) #[] #[.pointer (some ⟨g, 0, none⟩)]
set_option maxRecDepth 100000 in
set_option maxHeartbeats 2000000 in
theorem pfn_any (t x : Nd) (ht : sz t < 1000000000) (hx : sz x < 1000000000) (w W : World) (gs : List (Option Nat)) (g : Nat) (T : TypeId) (hT : T = 38) (cs es : List Value) (L : Lc) (R : List Row) (fs : List Fact) (M : St w gs W ((g, T, cs) :: L) R fs)
    (ht' : RdL W (Fd W (own ((g, T, cs) :: L) R gs)) (dN t) cs) (hx' : RdL W (Fd W (own ((g, T, cs) :: L) R gs)) (dN x) es) :
    Calls Try.prog 63 #[.agg es.toArray, .pointer (some ⟨g, 0, none⟩)] W fun e W' => ∃ q : Bool, e = .returned (.bool q) ∧ (q = true ↔ x = t) ∧ St w gs W' ((g, T, cs) :: L) R fs := by
  refine calls_ev (args := [.agg es.toArray, .pointer (some ⟨g, 0, none⟩)]) mixed Try.func63 rfl (by kernel_rfl) ?_
  have h1 := ht'.len
  have h2 := hx'.len
  rw [dN_len] at h1 h2
  replace M := (M.addL hx').addL ht'
  clear hx' ht'
  subst hT
  refine s_box (es) M rfl ?_
  clear M
  rintro g2 W M
  refine v_loadN es agg_nd rfl h2 (M.run 0 rfl) ?_
  refine v_loadN cs agg_nd rfl h1 (M.run 1 rfl) ?_
  refine cc is_nsame (nsame_any 1000000000 (Nat.le_refl _) x hx t _ _ _ _ (M.da 1 rfl) (M.da 0 rfl) M.olt (Nat.le_of_lt ht)) ?_
  rintro e W ⟨q, rfl, hq, hb⟩
  replace M := M.call hb
  exact ⟨_, rfl, q, rfl, hq, M.dropL.fsub _ (fun f h => by simp [h])⟩
theorem idxN_of {l : List Nd} {t : Nd} {i : Nat} (h1 : i < l.length) (h2 : l.getD i noneN = t) (h3 : ∀ j, j < i → l.getD j noneN ≠ t) : idxN l t = some i := by
  unfold idxN
  rw [List.findIdx?_eq_some_iff_getElem]
  refine ⟨h1, ?_, fun j hj e => ?_⟩
  · rw [List.getD_eq_getElem?_getD, List.getElem?_eq_getElem h1] at h2
    exact (eqN_iff _ _).2 h2
  · have := h3 j hj
    rw [List.getD_eq_getElem?_getD, List.getElem?_eq_getElem (by omega)] at this
    exact this ((eqN_iff _ _).1 e)
def idxI (l : List Nd) (t : Nd) : Int := match idxN l t with | some i => (i : Int) | none => -1
set_option maxRecDepth 100000 in
set_option maxHeartbeats 2000000 in
theorem pidx_any (t : Nd) (ht : sz t < 1000000000) (done : List Nd) (hds : ∀ x ∈ done, sz x < 1000000000) (hdl : done.length ≤ 1000000000) (w W : World) (gs : List (Option Nat)) (g : Nat) (cs : List Value) (Ad : Option Addr) (nd cd : Nat) (xs : List Value) (L : Lc) (r0 : Row) (R : List Row) (fs : List Fact)
    (M : St w gs W ((g, 38, cs) :: L) (r0 :: ⟨38, 6, Ad, nd, cd, xs⟩ :: R) (.dat false (dN t) cs :: .dat false (dNs done) xs :: fs)) :
    Calls Try.prog 62 #[.slice Ad nd cd, fsn g] W fun e W' => e = .returned (.int .i64 (idxI done t)) ∧
      St w gs W' ((g, 38, cs) :: L) (r0 :: ⟨38, 6, Ad, nd, cd, xs⟩ :: R) (.dat false (dN t) cs :: .dat false (dNs done) xs :: fs) := by
  refine calls_ev (args := [.slice Ad nd cd, fsn g]) mixed Try.func62 rfl (by kernel_rfl) ?_
  have hnd : nd = done.length := by
    have h1 := (M.dt 1 rfl).len
    have h2 := (M.row _ (List.mem_cons_of_mem _ (List.mem_cons_self ..))).1
    rw [dNs_len] at h1
    dsimp only at h2
    omega
  subst hnd
  refine p_len sln rfl ?_
  refine lp Nat (fun i W => i ≤ done.length ∧ (∀ j, j < i → done.getD j noneN ≠ t) ∧ St w gs W ((g, 38, cs) :: L) (r0 :: ⟨38, 6, Ad, done.length, cd, xs⟩ :: R) (.dat false (dN t) cs :: .dat false (dNs done) xs :: fs))
    (fun i => [(0, .slice Ad done.length cd), (1, fsn g), (7, .int .i64 (done.length : Nat)), (8, .int .i64 (i : Nat))]) (fun i => done.length - i) 0 ⟨Nat.zero_le _, (fun j hj => absurd hj (Nat.not_lt_zero j)), M⟩ (by repeat (first | exact trivial | refine ⟨rfl, ?_⟩)) ?_
  clear M
  rintro i E W ⟨hi, hne, M⟩
  refine p_lt rfl rfl (fun hlt => ?_) (fun hge => ?_)
  · have hlt : i < done.length := by have h : (i : Int) < (done.length : Int) := hlt; omega
    obtain ⟨k, hk⟩ : ∃ k, done[i]? = some k := ⟨_, List.getElem?_eq_getElem hlt⟩
    have hkd : done.getD i noneN = k := by rw [List.getD_eq_getElem?_getD, hk]; rfl
    have hkz := hds k (List.mem_of_getElem? hk)
    obtain ⟨gd, es, e1, -, hel, hes, hcell⟩ := M.rowN 1 1 rfl rfl hk
    subst e1
    refine p_at (i := i) sln rfl rfl rfl hlt ?_
    refine v_loadN es agg_nd rfl hel hcell ?_
    refine cc is_pfn (pfn_any t k ht hkz w _ gs g _ rfl cs es L _ _ M (M.da 0 rfl) (hes.to fun b hb => ⟨rfl, hb.1, hb.2.1⟩)) ?_
    clear M hes hcell
    rintro e W ⟨q, rfl, hq, M⟩
    refine ⟨_, rfl, ?_⟩
    cases q with
    | true =>
      have hkt := hq.1 rfl
      refine ⟨?_, M⟩
      unfold idxI
      rw [idxN_of hlt (hkd.trans hkt) hne]
      rfl
    | false =>
      have hkt : k ≠ t := fun e => by have := hq.2 e; cases this
      refine p_addN (b := 1) rfl rfl (by omega) ?_
      exact ⟨i + 1, ⟨by omega, fun j hj => by
        rcases Nat.lt_or_ge j i with h | h
        · exact hne j h
        · have : j = i := by omega
          rw [this, hkd]; exact hkt, M⟩, (by repeat (first | exact trivial | refine ⟨rfl, ?_⟩)), by omega⟩
  · have hge : i = done.length := by have h : ¬ (i : Int) < (done.length : Int) := hge; omega
    subst hge
    refine ⟨?_, M⟩
    unfold idxI
    rw [idxN_none.2 fun x hx e => by
      obtain ⟨j, hj⟩ := List.getElem?_of_mem hx
      have hjl := (List.getElem?_eq_some_iff.1 hj).1
      exact hne j hjl (by rw [List.getD_eq_getElem?_getD, hj]; exact e)]
    rfl
end Go.Proofs.Ytliccofjlheceaa
namespace Go.Proofs.Ytliccofjlheceaa
open Go.RowKit
theorem is_pfail : isFn Try.prog 71 = true := by kernel_rfl
theorem is_pcut : isFn Try.prog 69 = true := by kernel_rfl
theorem is_ptext : isFn Try.prog 74 = true := by kernel_rfl
theorem is_pcount : isFn Try.prog 72 = true := by kernel_rfl
theorem is_pagain : isFn Try.prog 70 = true := by kernel_rfl
theorem is_pnode : isFn Try.prog 48 = true := by kernel_rfl
theorem is_pbr : isFn Try.prog 75 = true := by kernel_rfl
theorem is_pgb : isFn Try.prog 37 = true := by kernel_rfl
theorem is_pget : isFn Try.prog 33 = true := by kernel_rfl
theorem is_pup : isFn Try.prog 73 = true := by kernel_rfl
theorem is_pcnt : isFn Try.prog 44 = true := by kernel_rfl
theorem fp0 : fieldOff Try.prog 87 0 = some 0 := by kernel_rfl
theorem fp1 : fieldOff Try.prog 87 1 = some 1 := by kernel_rfl
theorem fp2 : fieldOff Try.prog 87 2 = some 2 := by kernel_rfl
theorem fp3 : fieldOff Try.prog 87 3 = some 3 := by kernel_rfl
theorem sz_slP : (Try.prog.info? 23).map (·.size) = some 1 := by kernel_rfl
theorem sz_nsP : (Try.prog.info? 36).map (·.size) = some 1 := by kernel_rfl
theorem sz_intP : (Try.prog.info? 3).map (·.size) = some 1 := by kernel_rfl
theorem sz_errP : (Try.prog.info? 26).map (·.size) = some 1 := by kernel_rfl
theorem agg_errP : aggOf Try.prog 26 = some (false, 1) := by kernel_rfl
theorem u_u64r : Try.prog.underlying 67 = some (.int .u64) := by kernel_rfl
def rc (A : Option Addr) (n c : Nat) (Ad : Option Addr) (nd cd : Nat) (left e : Int) : List Value := [.slice A n c, .slice Ad nd cd, .int .i64 left, .int .i64 e]
section
variable {w W : World} {gs : List (Option Nat)} {g : Nat} {L : Lc} {R : List Row} {fs : List Fact} {A : Option Addr} {n c : Nat} {Ad : Option Addr} {nd cd : Nat} {left e : Int} {b : List UInt8}
set_option maxRecDepth 100000 in
theorem rfail0 (x : Int) (M : St w gs W ((g, 87, rc A n c Ad nd cd left 0) :: L) R fs) :
    Calls Try.prog 71 #[.pointer (some ⟨g, 0, none⟩), .int .i64 x] W fun en W' => (∃ v, en = .returned v) ∧ St w gs W' ((g, 87, rc none 0 0 Ad nd cd left x) :: L) R fs := by
  refine calls_ev (args := [.pointer (some ⟨g, 0, none⟩), .int .i64 x]) mixed Try.func71 rfl (by kernel_rfl) ?_
  refine p_nil rfl ?_
  refine p_fld fp3 rfl ?_
  refine v_load agg_errP rfl ((M.B 0 rfl).at_ rfl) ?_
  refine p_eq rfl rfl (fun _ => ?_) (fun h => absurd rfl h)
  refine p_nil rfl ?_
  refine p_fld fp3 rfl ?_
  refine s_set 0 (off := 3) (.int .i64 x) (rc A n c Ad nd cd left x) M rfl sz_errP rfl rfl rfl (by show 3 < 4; decide) rfl ?_
  clear M; rintro W M
  dsimp only [setL] at M
  refine p_nil rfl ?_
  refine p_fld fp0 rfl ?_
  refine s_set 0 (off := 0) (.slice none 0 0) (rc none 0 0 Ad nd cd left x) M rfl sz_slP rfl rfl rfl (by show 0 < 4; decide) rfl ?_
  clear M; rintro W M
  dsimp only [setL] at M
  exact ⟨⟨_, rfl⟩, M⟩
set_option maxRecDepth 100000 in
theorem rfail1 (x : Int) (he : e ≠ 0) (M : St w gs W ((g, 87, rc A n c Ad nd cd left e) :: L) R fs) :
    Calls Try.prog 71 #[.pointer (some ⟨g, 0, none⟩), .int .i64 x] W fun en W' => (∃ v, en = .returned v) ∧ St w gs W' ((g, 87, rc A n c Ad nd cd left e) :: L) R fs := by
  refine calls_ev (args := [.pointer (some ⟨g, 0, none⟩), .int .i64 x]) mixed Try.func71 rfl (by kernel_rfl) ?_
  refine p_nil rfl ?_
  refine p_fld fp3 rfl ?_
  refine v_load agg_errP rfl ((M.B 0 rfl).at_ rfl) ?_
  refine p_eq rfl rfl (fun h => absurd h he) (fun _ => ?_)
  exact ⟨⟨_, rfl⟩, M⟩
/-- What a reader is that has failed. -/
def fe (e x : Int) : Int := if e = 0 then x else e
theorem rfail (x : Int) (hb : e ≠ 0 → A = none ∧ n = 0 ∧ c = 0) (M : St w gs W ((g, 87, rc A n c Ad nd cd left e) :: L) R fs) :
    Calls Try.prog 71 #[.pointer (some ⟨g, 0, none⟩), .int .i64 x] W fun en W' => (∃ v, en = .returned v) ∧ St w gs W' ((g, 87, rc none 0 0 Ad nd cd left (fe e x)) :: L) R fs := by
  unfold fe
  by_cases he : e = 0
  · rw [if_pos he]
    subst he
    exact rfail0 x M
  · rw [if_neg he]
    obtain ⟨rfl, rfl, rfl⟩ := hb he
    exact rfail1 x he M
theorem fe_ne {x : Int} (e : Int) (hx : x ≠ 0) : fe e x ≠ 0 := by
  unfold fe
  split
  · exact hx
  · assumption
set_option maxRecDepth 100000 in
/-- make([]byte, k) -/
theorem s_mkBy {E : Env} {d : Option Nat} {ty : TypeId} {p : String} {af : Array Edge} {gd : Option (Nat × Bool)} {l c : Operand} {kw : Value → World → Prop} (k : Nat) (hk : k ≤ 1000000) (M : St w gs W L R fs) (hl : val E l = .int .i64 (k : Int)) (hc : val E c = .int .i64 (k : Int))
    (h : ∀ g W', St w gs W' L R (.dat true [dB (List.replicate k 0)] [.slice (some ⟨g, 0, none⟩) k k] :: fs) → kw (.slice (some ⟨g, 0, none⟩) k k) W') :
    VVal Try.prog E { dst := d, op := .makeSlice 23 l c, type := ty, pos := p, after := af, guard := gd } W kw := by
  obtain ⟨i, hi0, hz0, hz1, hz2⟩ := info_parts u8info
  obtain ⟨w', hrun, hrow, hg⟩ := run_make_full (P := Try.prog) (w := W) W.heap.size 23 5 i _ 1 Try.underlying23 hi0 hz0 hz1 .i64 .i64 k (by rw [hz2]; omega) (by unfold maxLen; omega) (Nat.le_refl _)
  have hown : Own w' W.heap.size (some ⟨W.heap.size, 0, none⟩) k k (List.replicate k 0) := by
    unfold Own
    have e : bvs (List.replicate k 0) = (madeCells (Value.int .u8 0).cells (k * 1)).toList := by
      rw [Nat.mul_one]
      show _ = (madeCells #[Value.int .u8 0] k).toList
      rw [toList_madeCells_one]
      unfold bvs
      rw [List.map_replicate]
      rfl
    rw [e]
    exact hrow
  refine vv (v := .slice (some ⟨W.heap.size, 0, none⟩) k k) (w' := w') ?_ (h _ _ (M.callO ⟨hg.os, hg.tape, hg.output, hg.size, fun b hb => hg.block b hb (by simp)⟩ hown))
  have hrun' : (Instr.makeSlice 23 (.int .i64 (k : Int)) (.int .i64 (k : Int))).run Try.prog W = _ := hrun
  simp [execOp, hl, hc, hrun']
set_option maxRecDepth 100000 in
set_option maxHeartbeats 1000000 in
theorem rcutG (k : Nat) (hk : k ≤ b.length) (hz : n ≤ 1000000000) (M : St w gs W ((g, 87, rc A n c Ad nd cd left e) :: L) R fs) (h : RdD W (Fd W (own ((g, 87, rc A n c Ad nd cd left e) :: L) R gs)) (dB b) (.slice A n c)) :
    Calls Try.prog 69 #[.pointer (some ⟨g, 0, none⟩), .int .i64 k] W fun en W' => ∃ A1 c1 A2 n2 c2, en = .returned (.slice A1 k c1) ∧
      St w gs W' ((g, 87, rc A2 n2 c2 Ad nd cd left e) :: L) R (.dat false [dB (b.take k)] [.slice A1 k c1] :: .dat false [dB (b.drop k)] [.slice A2 n2 c2] :: fs) := by
  refine calls_ev (args := [.pointer (some ⟨g, 0, none⟩), .int .i64 k]) mixed Try.func69 rfl (by kernel_rfl) ?_
  have en := h.slen
  have hcap := h.scap
  replace M := M.addD h
  have hkn : k ≤ n := by omega
  refine p_nil rfl ?_
  refine p_fld fp0 rfl ?_
  refine v_load agg_b rfl ((M.B 0 rfl).at_ rfl) ?_
  refine p_len slb rfl ?_
  refine p_gt rfl rfl (fun hgt => ?_) (fun _ => ?_)
  · exfalso
    have hgt : (n : Int) < (k : Int) := hgt
    omega
  have h1 := (M.d1 0 rfl).cutB (i := 0) (j := k) (m := k) (Nat.zero_le _) hkn (Nat.le_refl _)
  have h2 := (M.d1 0 rfl).cutB (i := k) (j := n) (m := c) hkn (Nat.le_refl _) hcap
  rw [List.drop_zero, Nat.sub_zero] at h1
  rw [List.take_of_length_le (by rw [List.length_drop]; omega)] at h2
  refine p_nil rfl ?_
  refine p_fld fp0 rfl ?_
  refine v_load agg_b rfl ((M.B 0 rfl).at_ rfl) ?_
  refine p_slice (i := 0) (j := k) (m := k) slb rfl rfl (bnd_i rfl) (bnd_i rfl) rfl (Nat.zero_le _) (Nat.le_refl _) (by omega) ?_
  rw [Nat.sub_zero]
  replace M := (M.addD h2).addD h1
  refine p_nil rfl ?_
  refine p_fld fp0 rfl ?_
  refine v_load agg_b rfl ((M.B 0 rfl).at_ rfl) ?_
  refine p_slice (i := k) (j := n) (m := c) slb rfl (bnd_i rfl) rfl rfl rfl hkn hcap (Nat.le_refl _) ?_
  refine p_nil rfl ?_
  refine p_fld fp0 rfl ?_
  refine s_set 0 (off := 0) (.slice (slA A c k 1) (n - k) (c - k)) (rc (slA A c k 1) (n - k) (c - k) Ad nd cd left e) M rfl sz_slP rfl rfl rfl (by show 0 < 4; decide) rfl ?_
  clear M; rintro W M
  dsimp only [setL] at M
  exact ⟨_, _, _, _, _, rfl, M.fsub _ (by intro f hf; simp only [List.mem_cons] at hf ⊢; rcases hf with h | h | h <;> simp [h])⟩
set_option maxRecDepth 100000 in
set_option maxHeartbeats 1000000 in
theorem rcutB (k : Nat) (hk : b.length < k) (hk2 : k ≤ 1000000) (hb : e ≠ 0 → A = none ∧ n = 0 ∧ c = 0) (M : St w gs W ((g, 87, rc A n c Ad nd cd left e) :: L) R fs) (h : RdD W (Fd W (own ((g, 87, rc A n c Ad nd cd left e) :: L) R gs)) (dB b) (.slice A n c)) :
    Calls Try.prog 69 #[.pointer (some ⟨g, 0, none⟩), .int .i64 k] W fun en W' => ∃ A1, en = .returned (.slice A1 k k) ∧
      St w gs W' ((g, 87, rc none 0 0 Ad nd cd left (fe e 11)) :: L) R (.dat true [dB (List.replicate k 0)] [.slice A1 k k] :: fs) := by
  refine calls_ev (args := [.pointer (some ⟨g, 0, none⟩), .int .i64 k]) mixed Try.func69 rfl (by kernel_rfl) ?_
  have en := h.slen
  clear h
  refine p_nil rfl ?_
  refine p_fld fp0 rfl ?_
  refine v_load agg_b rfl ((M.B 0 rfl).at_ rfl) ?_
  refine p_len slb rfl ?_
  refine p_gt rfl rfl (fun _ => ?_) (fun hgt => ?_)
  rotate_left
  · exfalso
    have hgt : ¬ (n : Int) < (k : Int) := hgt
    omega
  refine cc is_pfail (rfail 11 hb M) ?_
  clear M
  rintro en W ⟨⟨v, rfl⟩, M⟩
  refine ⟨_, rfl, ?_⟩
  refine s_mkBy k hk2 M rfl rfl ?_
  clear M; rintro g1 W M
  exact ⟨_, rfl, M⟩
set_option maxRecDepth 100000 in
set_option maxHeartbeats 1000000 in
theorem rtextG {s r : List UInt8} (ht : textX b = some (s, r)) (hz : n ≤ 1000000000) (M : St w gs W ((g, 87, rc A n c Ad nd cd left e) :: L) R fs) (h : RdD W (Fd W (own ((g, 87, rc A n c Ad nd cd left e) :: L) R gs)) (dB b) (.slice A n c)) :
    Calls Try.prog 74 #[.pointer (some ⟨g, 0, none⟩)] W fun en W' => ∃ A1 c1 A2 n2 c2, en = .returned (.slice A1 s.length c1) ∧
      St w gs W' ((g, 87, rc A2 n2 c2 Ad nd cd left e) :: L) R (.dat true [dB s] [.slice A1 s.length c1] :: .dat false [dB r] [.slice A2 n2 c2] :: fs) := by
  refine calls_ev (args := [.pointer (some ⟨g, 0, none⟩)]) mixed Try.func74 rfl (by kernel_rfl) ?_
  have en := h.slen
  have hcap := h.scap
  have hto := gbTo_le b
  obtain ⟨K, hK⟩ : ∃ K : Nat, gbTo b 0 = (K : Int) := ⟨(gbTo b 0).toNat, by omega⟩
  unfold textX at ht
  split at ht
  rotate_left
  · cases ht
  rename_i hE
  injection ht with ht
  injection ht with es er
  rw [hK, Int.toNat_natCast] at er
  replace M := M.addD h
  refine p_nil rfl ?_
  refine p_fld fp0 rfl ?_
  refine v_load agg_b rfl ((M.B 0 rfl).at_ rfl) ?_
  refine cc is_pgb (getBytes_any A n c 0 b _ (M.rdb 0 rfl).2.2 (by omega) hcap) ?_
  rintro en W ⟨A1, n1, c1, rfl, o, hb⟩
  have el := o.len
  replace M := M.callO hb o
  clear o hb
  rw [hK, hE]
  rw [es] at M el
  subst el
  refine ⟨_, rfl, ?_⟩
  have hkn : K ≤ n := by omega
  have h2 := (M.d1 1 rfl).cutB (i := K) (j := n) (m := c) hkn (Nat.le_refl _) hcap
  rw [List.take_of_length_le (by rw [List.length_drop]; omega), er] at h2
  replace M := M.addD h2
  refine p_ne rfl rfl (fun _ => ?_) (fun h => absurd rfl h)
  refine p_nil rfl ?_
  refine p_fld fp0 rfl ?_
  refine v_load agg_b rfl ((M.B 0 rfl).at_ rfl) ?_
  refine p_slice (i := K) (j := n) (m := c) slb rfl (bnd_i rfl) rfl rfl rfl hkn hcap (Nat.le_refl _) ?_
  refine p_nil rfl ?_
  refine p_fld fp0 rfl ?_
  refine s_set 0 (off := 0) (.slice (slA A c K 1) (n - K) (c - K)) (rc (slA A c K 1) (n - K) (c - K) Ad nd cd left e) M rfl sz_slP rfl rfl rfl (by show 0 < 4; decide) rfl ?_
  clear M; rintro W M
  dsimp only [setL] at M
  exact ⟨_, _, _, _, _, rfl, M.fsub _ (by intro f hf; simp only [List.mem_cons] at hf ⊢; rcases hf with h | h | h <;> simp [h])⟩
set_option maxRecDepth 100000 in
set_option maxHeartbeats 1000000 in
theorem rtextB (ht : textX b = none) (hb : e ≠ 0 → A = none ∧ n = 0 ∧ c = 0) (hz : n ≤ 1000000000) (M : St w gs W ((g, 87, rc A n c Ad nd cd left e) :: L) R fs) (h : RdD W (Fd W (own ((g, 87, rc A n c Ad nd cd left e) :: L) R gs)) (dB b) (.slice A n c)) :
    Calls Try.prog 74 #[.pointer (some ⟨g, 0, none⟩)] W fun en W' => en = .returned (.slice none 0 0) ∧
      St w gs W' ((g, 87, rc none 0 0 Ad nd cd left (fe e 11)) :: L) R fs := by
  refine calls_ev (args := [.pointer (some ⟨g, 0, none⟩)]) mixed Try.func74 rfl (by kernel_rfl) ?_
  have en := h.slen
  have hcap := h.scap
  unfold textX at ht
  split at ht
  · cases ht
  rename_i hE
  replace M := M.addD h
  refine p_nil rfl ?_
  refine p_fld fp0 rfl ?_
  refine v_load agg_b rfl ((M.B 0 rfl).at_ rfl) ?_
  refine cc is_pgb (getBytes_any A n c 0 b _ (M.rdb 0 rfl).2.2 (by omega) hcap) ?_
  rintro en W ⟨A1, n1, c1, rfl, o, hb2⟩
  replace M := M.callO hb2 o
  clear o hb2
  refine ⟨_, rfl, ?_⟩
  refine p_ne rfl rfl (fun h => absurd h hE) (fun _ => ?_)
  refine cc is_pfail (rfail 11 hb M) ?_
  clear M
  rintro en W ⟨⟨v, rfl⟩, M⟩
  refine ⟨_, rfl, ?_⟩
  exact ⟨rfl, M.fsub _ (fun f h => by simp [h])⟩
set_option maxRecDepth 100000 in
set_option maxHeartbeats 1000000 in
theorem rcount (k : Nat) (hk : (k : Int) ≤ 1000000000000) (hl : 0 ≤ left) (hl2 : left ≤ 5000) (M : St w gs W ((g, 87, rc A n c Ad nd cd left 0) :: L) R fs) :
    Calls Try.prog 72 #[.pointer (some ⟨g, 0, none⟩), .int .i64 (k : Nat)] W fun en W' => (∃ v, en = .returned v) ∧
      St w gs W' ((g, 87, if left - (k : Int) < 0 then rc none 0 0 Ad nd cd (left - (k : Int)) 3 else rc A n c Ad nd cd (left - (k : Int)) 0) :: L) R fs := by
  refine calls_ev (args := [.pointer (some ⟨g, 0, none⟩), .int .i64 (k : Nat)]) mixed Try.func72 rfl (by kernel_rfl) ?_
  refine p_nil rfl ?_
  refine p_fld fp2 rfl ?_
  refine v_load agg_int rfl ((M.B 0 rfl).at_ rfl) ?_
  refine p_sub rfl rfl (r := left - (k : Int)) (by rw [w64 (by omega)]) ?_
  refine p_nil rfl ?_
  refine p_fld fp2 rfl ?_
  refine s_set 0 (off := 2) (.int .i64 (left - (k : Int))) (rc A n c Ad nd cd (left - (k : Int)) 0) M rfl sz_intP rfl rfl rfl (by show 2 < 4; decide) rfl ?_
  clear M; rintro W M
  dsimp only [setL] at M
  refine p_nil rfl ?_
  refine p_fld fp2 rfl ?_
  refine v_load agg_int rfl ((M.B 0 rfl).at_ rfl) ?_
  refine p_lt rfl rfl (fun hlt => ?_) (fun hge => ?_)
  · have hlt : left - (k : Int) < 0 := hlt
    refine cc is_pfail (rfail0 3 M) ?_
    clear M
    rintro en W ⟨⟨v, rfl⟩, M⟩
    refine ⟨_, rfl, ?_⟩
    rw [if_pos hlt]
    exact ⟨⟨_, rfl⟩, M⟩
  · have hge : ¬ left - (k : Int) < 0 := hge
    rw [if_neg hge]
    exact ⟨⟨_, rfl⟩, M⟩
end
end Go.Proofs.Ytliccofjlheceaa
namespace Go.Proofs.Ytliccofjlheceaa
open Go.RowKit
/-- What stands when a node has been read, or not. -/
def Pst (D : Nat) (r : Rr) (tn : Nd) (b' : List UInt8) (done' : List Nd) (left' e' : Int) (A' : Option Addr) (n' c' : Nat) : Prop := match r with
  | .got n b1 d1 l1 => e' = 0 ∧ tn = n ∧ b' = b1 ∧ done' = d1 ∧ left' = l1
  | .bad x => e' = x ∧ b' = [] ∧ A' = none ∧ n' = 0 ∧ c' = 0 ∧ done'.length ≤ D
set_option maxRecDepth 100000 in
set_option maxHeartbeats 4000000 in
theorem ragain_any (B : Nat) (hB : B ≤ 3200000) (w W : World) (gs : List (Option Nat)) (g : Nat) (A : Option Addr) (n c : Nat) (Ad : Option Addr) (nd cd : Nat) (left : Int) (b : List UInt8) (done : List Nd) (xs : List Value) (L : Lc) (R : List Row) (fs : List Fact) (D : Nat)
    (hl0 : 0 ≤ left) (hl5 : left ≤ 5000) (hds : ∀ x ∈ done, smC B x) (hdl : done.length ≤ 100000000) (hbl : b.length ≤ 100000000) (hD : done.length ≤ D)
    (M : St w gs W ((g, 87, rc A n c Ad nd cd left 0) :: L) (⟨38, 6, Ad, nd, cd, xs⟩ :: R) (.dat false (dNs done) xs :: .dat false [dB b] [.slice A n c] :: fs)) :
    Calls Try.prog 70 #[.pointer (some ⟨g, 0, none⟩)] W fun en W' => ∃ cs tn A' n' c' b' left' e', en = .returned (.agg cs.toArray) ∧
      St w gs W' ((g, 87, rc A' n' c' Ad nd cd left' e') :: L) (⟨38, 6, Ad, nd, cd, xs⟩ :: R) (.dat false (dN tn) cs :: .dat false (dNs done) xs :: .dat false [dB b'] [.slice A' n' c'] :: fs) ∧ Pst D (againX b done left) tn b' done left' e' A' n' c' := by
  refine calls_ev (args := [.pointer (some ⟨g, 0, none⟩)]) mixed Try.func70 rfl (by kernel_rfl) ?_
  have en := (M.d1 1 rfl).slen
  have hcap := (M.d1 1 rfl).scap
  have hnd : nd = done.length := by
    have h1 := (M.dt 0 rfl).len
    have h2 := (M.row _ (List.mem_cons_self ..)).1
    rw [dNs_len] at h1
    dsimp only at h2
    omega
  subst hnd
  refine s_alloc (zN) M al_nd ?_
  clear M
  rintro g2 W M
  replace M := M.swp
  refine p_nil rfl ?_
  refine p_fld fp0 rfl ?_
  refine v_load agg_b rfl ((M.B 0 rfl).at_ rfl) ?_
  refine cc is_pget (get_any A n c _ 0 b _ (M.rdb 1 rfl).2.2 (by omega) hcap) ?_
  rintro e W' ⟨rfl, rfl⟩
  refine ⟨_, rfl, ?_⟩
  unfold againX
  refine p_ne rfl rfl (fun hE => ?_) (fun hE => ?_)
  rotate_left
  · have hE : ¬ gE b 0 = 0 := hE
    rw [if_neg (fun h => hE h.1)]
    refine cc is_pfail (rfail0 11 M) ?_
    clear M
    rintro en W ⟨⟨v, rfl⟩, M⟩
    refine ⟨_, rfl, ?_⟩
    refine p_build (vs := zN) pl_nd z_nd rfl ?_
    refine s_storeA 1 zN M rfl sz_nd rfl rfl rfl (all1 rfl) rfl ?_
    clear M; rintro W M
    dsimp only [setL] at M
    refine c_loadN zN agg_nd rfl rfl (M.run 1 rfl) ?_
    exact ⟨zN, noneN, none, 0, 0, [], left, 11, rfl, (((M.addD (d := dB []) (u := .slice none 0 0) (RdD.nil_ _ _)).addL RdL.znone).drop2).fsub _ (by intro f hf; simp only [List.mem_cons] at hf ⊢; rcases hf with h | h | h | h <;> simp [h]), rfl, rfl, rfl, rfl, rfl, hD⟩
  have hE : gE b 0 = 0 := hE
  obtain ⟨N, t, h1, h2, h3, h4, h5, h6, h7, h8⟩ := g_split (l := b) (a := 0) hE
  have h1 : gN b 0 = (N : Int) := h1
  have h3 : gTo b 0 = (t : Int) := by have := h3; simpa using this
  refine p_nil rfl ?_
  refine p_fld fp1 rfl ?_
  refine v_load agg_ns rfl ((M.B 0 rfl).at_ rfl) ?_
  refine p_len sln rfl ?_
  refine v_cvt u_int u_u64r rfl (r := ((done.length : Nat) : Int)) (by rw [IntKind.wrap_u64]; omega) ?_
  refine p_ge rfl rfl (fun hge => ?_) (fun hge => ?_)
  · have hge : ((done.length : Nat) : Int) ≤ gN b 0 := hge
    rw [if_neg (fun h => by have := h.2; omega)]
    refine cc is_pfail (rfail0 11 M) ?_
    clear M
    rintro en W ⟨⟨v, rfl⟩, M⟩
    refine ⟨_, rfl, ?_⟩
    refine p_build (vs := zN) pl_nd z_nd rfl ?_
    refine s_storeA 1 zN M rfl sz_nd rfl rfl rfl (all1 rfl) rfl ?_
    clear M; rintro W M
    dsimp only [setL] at M
    refine c_loadN zN agg_nd rfl rfl (M.run 1 rfl) ?_
    exact ⟨zN, noneN, none, 0, 0, [], left, 11, rfl, (((M.addD (d := dB []) (u := .slice none 0 0) (RdD.nil_ _ _)).addL RdL.znone).drop2).fsub _ (by intro f hf; simp only [List.mem_cons] at hf ⊢; rcases hf with h | h | h | h <;> simp [h]), rfl, rfl, rfl, rfl, rfl, hD⟩
  have hge : ¬ ((done.length : Nat) : Int) ≤ gN b 0 := hge
  rw [if_pos ⟨hE, by omega⟩, h1, h3, Int.toNat_natCast, Int.toNat_natCast]
  have hN : N < done.length := by omega
  obtain ⟨k, hk⟩ : ∃ k, done[N]? = some k := ⟨_, List.getElem?_eq_getElem hN⟩
  have hkd : done.getD N noneN = k := by rw [List.getD_eq_getElem?_getD, hk]; rfl
  rw [hkd]
  have hkm := hds k (List.mem_of_getElem? hk)
  have hksz := sm_sz B k hkm.1
  have hkc := hkm.2
  have hkz : sz k ≤ 100000000000 := by
    have : (102 + B) * (cntP k).1 ≤ 3200102 * 5000 := Nat.mul_le_mul (by omega) hkc
    omega
  have htn : t ≤ n := by omega
  have hcut := (M.d1 1 rfl).cutB (i := t) (j := n) (m := c) htn (Nat.le_refl _) hcap
  rw [List.take_of_length_le (by rw [List.length_drop]; omega)] at hcut
  replace M := M.addD hcut
  clear hcut
  refine p_nil rfl ?_
  refine p_fld fp0 rfl ?_
  refine v_load agg_b rfl ((M.B 0 rfl).at_ rfl) ?_
  refine p_slice (i := t) (j := n) (m := c) slb rfl (bnd_i rfl) rfl rfl rfl htn hcap (Nat.le_refl _) ?_
  refine p_nil rfl ?_
  refine p_fld fp0 rfl ?_
  refine s_set 0 (off := 0) (.slice (slA A c t 1) (n - t) (c - t)) (rc (slA A c t 1) (n - t) (c - t) Ad done.length cd left 0) M rfl sz_slP rfl rfl rfl (by show 0 < 4; decide) rfl ?_
  clear M; rintro W M
  dsimp only [setL] at M
  obtain ⟨gd, es, e1, -, hel, hes, hcell⟩ := M.rowN 0 1 rfl rfl hk
  subst e1
  refine p_nil rfl ?_
  refine p_fld fp1 rfl ?_
  refine v_load agg_ns rfl ((M.B 0 rfl).at_ rfl) ?_
  refine p_at (i := N) sln rfl rfl rfl hN ?_
  refine v_loadN es agg_nd rfl hel hcell ?_
  replace M := M.addL (hes.to fun b hb => ⟨rfl, hb.1, hb.2.1⟩)
  clear hes hcell
  refine s_alloc (zN) M al_nd ?_
  clear M
  rintro g6 W M
  refine s_storeA 0 es M rfl sz_nd rfl rfl hel ((M.da 0 rfl).ones (dN_one _)) rfl ?_
  clear M; rintro W M
  dsimp only [setL] at M
  refine v_loadN es agg_nd rfl hel (M.run 0 rfl) ?_
  refine cc is_pcnt (ncount_any k (by omega) _ _ es (M.da 0 rfl) M.olt) ?_
  rintro en W ⟨rfl, hb⟩
  replace M := (M.call hb).swp
  clear hb
  refine ⟨_, rfl, ?_⟩
  refine cc is_pcount (rcount (cntP k).1 (by omega) hl0 hl5 M) ?_
  clear M
  rintro en W ⟨⟨v, rfl⟩, M⟩
  refine ⟨_, rfl, ?_⟩
  refine v_loadN es agg_nd rfl hel (M.run 1 rfl) ?_
  refine s_storeA 2 es M rfl sz_nd rfl rfl hel ((M.da 0 rfl).ones (dN_one _)) rfl ?_
  clear M; rintro W M
  dsimp only [setL] at M
  refine c_loadN es agg_nd rfl hel (M.run 2 rfl) ?_
  by_cases hneg : left - ((cntP k).1 : Int) < 0
  · rw [if_pos hneg] at M ⊢
    exact ⟨es, k, none, 0, 0, [], _, 3, rfl, ((M.addD (d := dB []) (u := .slice none 0 0) (RdD.nil_ _ _)).drop2.drop2).fsub _ (by intro f hf; simp only [List.mem_cons] at hf ⊢; rcases hf with h | h | h | h <;> simp [h]), rfl, rfl, rfl, rfl, rfl, hD⟩
  · rw [if_neg hneg] at M ⊢
    exact ⟨es, k, _, _, _, b.drop t, _, 0, rfl, (M.drop2.drop2).fsub _ (by intro f hf; simp only [List.mem_cons] at hf ⊢; rcases hf with h | h | h | h <;> simp [h]), rfl, rfl, rfl, rfl, rfl⟩
end Go.Proofs.Ytliccofjlheceaa
