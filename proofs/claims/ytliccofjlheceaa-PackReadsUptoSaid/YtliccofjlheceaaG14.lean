/- Package pack: the reader's small methods. Package pack: the reader's again. Package pack: the sender's node and branch. -/
import Derived.Test.YtliccofjlheceaaG13
import Derived.Test.YtliccofjlheceaaG11
import Derived.Test.YtliccofjlheceaaG09
import Derived.Test.YtliccofjlheceaaG10
namespace Go.Proofs.Ytliccofjlheceaa
open Go.RowKit
theorem is_pfail : isFn Try.prog 71 = true := by kernel_rfl
theorem is_pcut : isFn Try.prog 69 = true := by kernel_rfl
theorem is_ptext : isFn Try.prog 74 = true := by kernel_rfl
theorem is_pcount : isFn Try.prog 72 = true := by kernel_rfl
theorem is_pagain : isFn Try.prog 70 = true := by kernel_rfl
theorem is_pnode : isFn Try.prog 48 = true := by kernel_rfl
theorem is_pbr : isFn Try.prog 75 = true := by kernel_rfl
theorem is_pgb : isFn Try.prog 37 = true := by kernel_rfl
theorem is_pget : isFn Try.prog 33 = true := by kernel_rfl
theorem is_pup : isFn Try.prog 73 = true := by kernel_rfl
theorem is_pcnt : isFn Try.prog 44 = true := by kernel_rfl
theorem fp0 : fieldOff Try.prog 87 0 = some 0 := by kernel_rfl
theorem fp1 : fieldOff Try.prog 87 1 = some 1 := by kernel_rfl
theorem fp2 : fieldOff Try.prog 87 2 = some 2 := by kernel_rfl
theorem fp3 : fieldOff Try.prog 87 3 = some 3 := by kernel_rfl
theorem sz_slP : (Try.prog.info? 23).map (·.size) = some 1 := by kernel_rfl
theorem sz_nsP : (Try.prog.info? 36).map (·.size) = some 1 := by kernel_rfl
theorem sz_intP : (Try.prog.info? 3).map (·.size) = some 1 := by kernel_rfl
theorem sz_errP : (Try.prog.info? 26).map (·.size) = some 1 := by kernel_rfl
theorem agg_errP : aggOf Try.prog 26 = some (false, 1) := by kernel_rfl
theorem u_u64r : Try.prog.underlying 67 = some (.int .u64) := by kernel_rfl
def rc (A : Option Addr) (n c : Nat) (Ad : Option Addr) (nd cd : Nat) (left e : Int) : List Value := [.slice A n c, .slice Ad nd cd, .int .i64 left, .int .i64 e]
section
variable {w W : World} {gs : List (Option Nat)} {g : Nat} {L : Lc} {R : List Row} {fs : List Fact} {A : Option Addr} {n c : Nat} {Ad : Option Addr} {nd cd : Nat} {left e : Int} {b : List UInt8}
set_option maxRecDepth 100000 in
theorem rfail0 (x : Int) (M : St w gs W ((g, 87, rc A n c Ad nd cd left 0) :: L) R fs) :
    Calls Try.prog 71 #[.pointer (some ⟨g, 0, none⟩), .int .i64 x] W fun en W' => (∃ v, en = .returned v) ∧ St w gs W' ((g, 87, rc none 0 0 Ad nd cd left x) :: L) R fs := by
  refine calls_ev (args := [.pointer (some ⟨g, 0, none⟩), .int .i64 x]) mixed Try.func71 rfl (by kernel_rfl) ?_
  refine p_nil rfl ?_
  refine p_fld fp3 rfl ?_
  refine v_load agg_errP rfl ((M.B 0 rfl).at_ rfl) ?_
  refine p_eq rfl rfl (fun _ => ?_) (fun h => absurd rfl h)
  refine p_nil rfl ?_
  refine p_fld fp3 rfl ?_
  refine s_set 0 (off := 3) (.int .i64 x) (rc A n c Ad nd cd left x) M rfl sz_errP rfl rfl rfl (by show 3 < 4; decide) rfl ?_
  clear M; rintro W M
  dsimp only [setL] at M
  refine p_nil rfl ?_
  refine p_fld fp0 rfl ?_
  refine s_set 0 (off := 0) (.slice none 0 0) (rc none 0 0 Ad nd cd left x) M rfl sz_slP rfl rfl rfl (by show 0 < 4; decide) rfl ?_
  clear M; rintro W M
  dsimp only [setL] at M
  exact ⟨⟨_, rfl⟩, M⟩
set_option maxRecDepth 100000 in
theorem rfail1 (x : Int) (he : e ≠ 0) (M : St w gs W ((g, 87, rc A n c Ad nd cd left e) :: L) R fs) :
    Calls Try.prog 71 #[.pointer (some ⟨g, 0, none⟩), .int .i64 x] W fun en W' => (∃ v, en = .returned v) ∧ St w gs W' ((g, 87, rc A n c Ad nd cd left e) :: L) R fs := by
  refine calls_ev (args := [.pointer (some ⟨g, 0, none⟩), .int .i64 x]) mixed Try.func71 rfl (by kernel_rfl) ?_
  refine p_nil rfl ?_
  refine p_fld fp3 rfl ?_
  refine v_load agg_errP rfl ((M.B 0 rfl).at_ rfl) ?_
  refine p_eq rfl rfl (fun h => absurd h he) (fun _ => ?_)
  exact ⟨⟨_, rfl⟩, M⟩
/-- What a reader is that has failed. -/
def fe (e x : Int) : Int := if e = 0 then x else e
theorem rfail (x : Int) (hb : e ≠ 0 → A = none ∧ n = 0 ∧ c = 0) (M : St w gs W ((g, 87, rc A n c Ad nd cd left e) :: L) R fs) :
    Calls Try.prog 71 #[.pointer (some ⟨g, 0, none⟩), .int .i64 x] W fun en W' => (∃ v, en = .returned v) ∧ St w gs W' ((g, 87, rc none 0 0 Ad nd cd left (fe e x)) :: L) R fs := by
  unfold fe
  by_cases he : e = 0
  · rw [if_pos he]
    subst he
    exact rfail0 x M
  · rw [if_neg he]
    obtain ⟨rfl, rfl, rfl⟩ := hb he
    exact rfail1 x he M
theorem fe_ne {x : Int} (e : Int) (hx : x ≠ 0) : fe e x ≠ 0 := by
  unfold fe
  split
  · exact hx
  · assumption
set_option maxRecDepth 100000 in
/-- make([]byte, k) -/
theorem s_mkBy {E : Env} {d : Option Nat} {ty : TypeId} {p : String} {af : Array Edge} {gd : Option (Nat × Bool)} {l c : Operand} {kw : Value → World → Prop} (k : Nat) (hk : k ≤ 1000000) (M : St w gs W L R fs) (hl : val E l = .int .i64 (k : Int)) (hc : val E c = .int .i64 (k : Int))
    (h : ∀ g W', St w gs W' L R (.dat true [dB (List.replicate k 0)] [.slice (some ⟨g, 0, none⟩) k k] :: fs) → kw (.slice (some ⟨g, 0, none⟩) k k) W') :
    VVal Try.prog E { dst := d, op := .makeSlice 23 l c, type := ty, pos := p, after := af, guard := gd } W kw := by
  obtain ⟨i, hi0, hz0, hz1, hz2⟩ := info_parts u8info
  obtain ⟨w', hrun, hrow, hg⟩ := run_make_full (P := Try.prog) (w := W) W.heap.size 23 5 i _ 1 Try.underlying23 hi0 hz0 hz1 .i64 .i64 k (by rw [hz2]; omega) (by unfold maxLen; omega) (Nat.le_refl _)
  have hown : Own w' W.heap.size (some ⟨W.heap.size, 0, none⟩) k k (List.replicate k 0) := by
    unfold Own
    have e : bvs (List.replicate k 0) = (madeCells (Value.int .u8 0).cells (k * 1)).toList := by
      rw [Nat.mul_one]
      show _ = (madeCells #[Value.int .u8 0] k).toList
      rw [toList_madeCells_one]
      unfold bvs
      rw [List.map_replicate]
      rfl
    rw [e]
    exact hrow
  refine vv (v := .slice (some ⟨W.heap.size, 0, none⟩) k k) (w' := w') ?_ (h _ _ (M.callO ⟨hg.os, hg.tape, hg.output, hg.size, fun b hb => hg.block b hb (by simp)⟩ hown))
  have hrun' : (Instr.makeSlice 23 (.int .i64 (k : Int)) (.int .i64 (k : Int))).run Try.prog W = _ := hrun
  simp [execOp, hl, hc, hrun']
set_option maxRecDepth 100000 in
set_option maxHeartbeats 1000000 in
theorem rcutG (k : Nat) (hk : k ≤ b.length) (hz : n ≤ 1000000000) (M : St w gs W ((g, 87, rc A n c Ad nd cd left e) :: L) R fs) (h : RdD W (Fd W (own ((g, 87, rc A n c Ad nd cd left e) :: L) R gs)) (dB b) (.slice A n c)) :
    Calls Try.prog 69 #[.pointer (some ⟨g, 0, none⟩), .int .i64 k] W fun en W' => ∃ A1 c1 A2 n2 c2, en = .returned (.slice A1 k c1) ∧
      St w gs W' ((g, 87, rc A2 n2 c2 Ad nd cd left e) :: L) R (.dat false [dB (b.take k)] [.slice A1 k c1] :: .dat false [dB (b.drop k)] [.slice A2 n2 c2] :: fs) := by
  refine calls_ev (args := [.pointer (some ⟨g, 0, none⟩), .int .i64 k]) mixed Try.func69 rfl (by kernel_rfl) ?_
  have en := h.slen
  have hcap := h.scap
  replace M := M.addD h
  have hkn : k ≤ n := by omega
  refine p_nil rfl ?_
  refine p_fld fp0 rfl ?_
  refine v_load agg_b rfl ((M.B 0 rfl).at_ rfl) ?_
  refine p_len slb rfl ?_
  refine p_gt rfl rfl (fun hgt => ?_) (fun _ => ?_)
  · exfalso
    have hgt : (n : Int) < (k : Int) := hgt
    omega
  have h1 := (M.d1 0 rfl).cutB (i := 0) (j := k) (m := k) (Nat.zero_le _) hkn (Nat.le_refl _)
  have h2 := (M.d1 0 rfl).cutB (i := k) (j := n) (m := c) hkn (Nat.le_refl _) hcap
  rw [List.drop_zero, Nat.sub_zero] at h1
  rw [List.take_of_length_le (by rw [List.length_drop]; omega)] at h2
  refine p_nil rfl ?_
  refine p_fld fp0 rfl ?_
  refine v_load agg_b rfl ((M.B 0 rfl).at_ rfl) ?_
  refine p_slice (i := 0) (j := k) (m := k) slb rfl rfl (bnd_i rfl) (bnd_i rfl) rfl (Nat.zero_le _) (Nat.le_refl _) (by omega) ?_
  rw [Nat.sub_zero]
  replace M := (M.addD h2).addD h1
  refine p_nil rfl ?_
  refine p_fld fp0 rfl ?_
  refine v_load agg_b rfl ((M.B 0 rfl).at_ rfl) ?_
  refine p_slice (i := k) (j := n) (m := c) slb rfl (bnd_i rfl) rfl rfl rfl hkn hcap (Nat.le_refl _) ?_
  refine p_nil rfl ?_
  refine p_fld fp0 rfl ?_
  refine s_set 0 (off := 0) (.slice (slA A c k 1) (n - k) (c - k)) (rc (slA A c k 1) (n - k) (c - k) Ad nd cd left e) M rfl sz_slP rfl rfl rfl (by show 0 < 4; decide) rfl ?_
  clear M; rintro W M
  dsimp only [setL] at M
  exact ⟨_, _, _, _, _, rfl, M.fsub _ (by intro f hf; simp only [List.mem_cons] at hf ⊢; rcases hf with h | h | h <;> simp [h])⟩
set_option maxRecDepth 100000 in
set_option maxHeartbeats 1000000 in
theorem rcutB (k : Nat) (hk : b.length < k) (hk2 : k ≤ 1000000) (hb : e ≠ 0 → A = none ∧ n = 0 ∧ c = 0) (M : St w gs W ((g, 87, rc A n c Ad nd cd left e) :: L) R fs) (h : RdD W (Fd W (own ((g, 87, rc A n c Ad nd cd left e) :: L) R gs)) (dB b) (.slice A n c)) :
    Calls Try.prog 69 #[.pointer (some ⟨g, 0, none⟩), .int .i64 k] W fun en W' => ∃ A1, en = .returned (.slice A1 k k) ∧
      St w gs W' ((g, 87, rc none 0 0 Ad nd cd left (fe e 11)) :: L) R (.dat true [dB (List.replicate k 0)] [.slice A1 k k] :: fs) := by
  refine calls_ev (args := [.pointer (some ⟨g, 0, none⟩), .int .i64 k]) mixed Try.func69 rfl (by kernel_rfl) ?_
  have en := h.slen
  clear h
  refine p_nil rfl ?_
  refine p_fld fp0 rfl ?_
  refine v_load agg_b rfl ((M.B 0 rfl).at_ rfl) ?_
  refine p_len slb rfl ?_
  refine p_gt rfl rfl (fun _ => ?_) (fun hgt => ?_)
  rotate_left
  · exfalso
    have hgt : ¬ (n : Int) < (k : Int) := hgt
    omega
  refine cc is_pfail (rfail 11 hb M) ?_
  clear M
  rintro en W ⟨⟨v, rfl⟩, M⟩
  refine ⟨_, rfl, ?_⟩
  refine s_mkBy k hk2 M rfl rfl ?_
  clear M; rintro g1 W M
  exact ⟨_, rfl, M⟩
set_option maxRecDepth 100000 in
set_option maxHeartbeats 1000000 in
theorem rtextG {s r : List UInt8} (ht : textX b = some (s, r)) (hz : n ≤ 1000000000) (M : St w gs W ((g, 87, rc A n c Ad nd cd left e) :: L) R fs) (h : RdD W (Fd W (own ((g, 87, rc A n c Ad nd cd left e) :: L) R gs)) (dB b) (.slice A n c)) :
    Calls Try.prog 74 #[.pointer (some ⟨g, 0, none⟩)] W fun en W' => ∃ A1 c1 A2 n2 c2, en = .returned (.slice A1 s.length c1) ∧
      St w gs W' ((g, 87, rc A2 n2 c2 Ad nd cd left e) :: L) R (.dat true [dB s] [.slice A1 s.length c1] :: .dat false [dB r] [.slice A2 n2 c2] :: fs) := by
  refine calls_ev (args := [.pointer (some ⟨g, 0, none⟩)]) mixed Try.func74 rfl (by kernel_rfl) ?_
  have en := h.slen
  have hcap := h.scap
  have hto := gbTo_le b
  obtain ⟨K, hK⟩ : ∃ K : Nat, gbTo b 0 = (K : Int) := ⟨(gbTo b 0).toNat, by omega⟩
  unfold textX at ht
  split at ht
  rotate_left
  · cases ht
  rename_i hE
  injection ht with ht
  injection ht with es er
  rw [hK, Int.toNat_natCast] at er
  replace M := M.addD h
  refine p_nil rfl ?_
  refine p_fld fp0 rfl ?_
  refine v_load agg_b rfl ((M.B 0 rfl).at_ rfl) ?_
  refine cc is_pgb (getBytes_any A n c 0 b _ (M.rdb 0 rfl).2.2 (by omega) hcap) ?_
  rintro en W ⟨A1, n1, c1, rfl, o, hb⟩
  have el := o.len
  replace M := M.callO hb o
  clear o hb
  rw [hK, hE]
  rw [es] at M el
  subst el
  refine ⟨_, rfl, ?_⟩
  have hkn : K ≤ n := by omega
  have h2 := (M.d1 1 rfl).cutB (i := K) (j := n) (m := c) hkn (Nat.le_refl _) hcap
  rw [List.take_of_length_le (by rw [List.length_drop]; omega), er] at h2
  replace M := M.addD h2
  refine p_ne rfl rfl (fun _ => ?_) (fun h => absurd rfl h)
  refine p_nil rfl ?_
  refine p_fld fp0 rfl ?_
  refine v_load agg_b rfl ((M.B 0 rfl).at_ rfl) ?_
  refine p_slice (i := K) (j := n) (m := c) slb rfl (bnd_i rfl) rfl rfl rfl hkn hcap (Nat.le_refl _) ?_
  refine p_nil rfl ?_
  refine p_fld fp0 rfl ?_
  refine s_set 0 (off := 0) (.slice (slA A c K 1) (n - K) (c - K)) (rc (slA A c K 1) (n - K) (c - K) Ad nd cd left e) M rfl sz_slP rfl rfl rfl (by show 0 < 4; decide) rfl ?_
  clear M; rintro W M
  dsimp only [setL] at M
  exact ⟨_, _, _, _, _, rfl, M.fsub _ (by intro f hf; simp only [List.mem_cons] at hf ⊢; rcases hf with h | h | h <;> simp [h])⟩
set_option maxRecDepth 100000 in
set_option maxHeartbeats 1000000 in
theorem rtextB (ht : textX b = none) (hb : e ≠ 0 → A = none ∧ n = 0 ∧ c = 0) (hz : n ≤ 1000000000) (M : St w gs W ((g, 87, rc A n c Ad nd cd left e) :: L) R fs) (h : RdD W (Fd W (own ((g, 87, rc A n c Ad nd cd left e) :: L) R gs)) (dB b) (.slice A n c)) :
    Calls Try.prog 74 #[.pointer (some ⟨g, 0, none⟩)] W fun en W' => en = .returned (.slice none 0 0) ∧
      St w gs W' ((g, 87, rc none 0 0 Ad nd cd left (fe e 11)) :: L) R fs := by
  refine calls_ev (args := [.pointer (some ⟨g, 0, none⟩)]) mixed Try.func74 rfl (by kernel_rfl) ?_
  have en := h.slen
  have hcap := h.scap
  unfold textX at ht
  split at ht
  · cases ht
  rename_i hE
  replace M := M.addD h
  refine p_nil rfl ?_
  refine p_fld fp0 rfl ?_
  refine v_load agg_b rfl ((M.B 0 rfl).at_ rfl) ?_
  refine cc is_pgb (getBytes_any A n c 0 b _ (M.rdb 0 rfl).2.2 (by omega) hcap) ?_
  rintro en W ⟨A1, n1, c1, rfl, o, hb2⟩
  replace M := M.callO hb2 o
  clear o hb2
  refine ⟨_, rfl, ?_⟩
  refine p_ne rfl rfl (fun h => absurd h hE) (fun _ => ?_)
  refine cc is_pfail (rfail 11 hb M) ?_
  clear M
  rintro en W ⟨⟨v, rfl⟩, M⟩
  refine ⟨_, rfl, ?_⟩
  exact ⟨rfl, M.fsub _ (fun f h => by simp [h])⟩
set_option maxRecDepth 100000 in
set_option maxHeartbeats 1000000 in
theorem rcount (k : Nat) (hk : (k : Int) ≤ 1000000000000) (hl : 0 ≤ left) (hl2 : left ≤ 5000) (M : St w gs W ((g, 87, rc A n c Ad nd cd left 0) :: L) R fs) :
    Calls Try.prog 72 #[.pointer (some ⟨g, 0, none⟩), .int .i64 (k : Nat)] W fun en W' => (∃ v, en = .returned v) ∧
      St w gs W' ((g, 87, if left - (k : Int) < 0 then rc none 0 0 Ad nd cd (left - (k : Int)) 3 else rc A n c Ad nd cd (left - (k : Int)) 0) :: L) R fs := by
  refine calls_ev (args := [.pointer (some ⟨g, 0, none⟩), .int .i64 (k : Nat)]) mixed Try.func72 rfl (by kernel_rfl) ?_
  refine p_nil rfl ?_
  refine p_fld fp2 rfl ?_
  refine v_load agg_int rfl ((M.B 0 rfl).at_ rfl) ?_
  refine p_sub rfl rfl (r := left - (k : Int)) (by rw [w64 (by omega)]) ?_
  refine p_nil rfl ?_
  refine p_fld fp2 rfl ?_
  refine s_set 0 (off := 2) (.int .i64 (left - (k : Int))) (rc A n c Ad nd cd (left - (k : Int)) 0) M rfl sz_intP rfl rfl rfl (by show 2 < 4; decide) rfl ?_
  clear M; rintro W M
  dsimp only [setL] at M
  refine p_nil rfl ?_
  refine p_fld fp2 rfl ?_
  refine v_load agg_int rfl ((M.B 0 rfl).at_ rfl) ?_
  refine p_lt rfl rfl (fun hlt => ?_) (fun hge => ?_)
  · have hlt : left - (k : Int) < 0 := hlt
    refine cc is_pfail (rfail0 3 M) ?_
    clear M
    rintro en W ⟨⟨v, rfl⟩, M⟩
    refine ⟨_, rfl, ?_⟩
    rw [if_pos hlt]
    exact ⟨⟨_, rfl⟩, M⟩
  · have hge : ¬ left - (k : Int) < 0 := hge
    rw [if_neg hge]
    exact ⟨⟨_, rfl⟩, M⟩
end
end Go.Proofs.Ytliccofjlheceaa
namespace Go.Proofs.Ytliccofjlheceaa
open Go.RowKit
/-- What stands when a node has been read, or not. -/
def Pst (D : Nat) (r : Rr) (tn : Nd) (b' : List UInt8) (done' : List Nd) (left' e' : Int) (A' : Option Addr) (n' c' : Nat) : Prop := match r with
  | .got n b1 d1 l1 => e' = 0 ∧ tn = n ∧ b' = b1 ∧ done' = d1 ∧ left' = l1
  | .bad x => e' = x ∧ b' = [] ∧ A' = none ∧ n' = 0 ∧ c' = 0 ∧ done'.length ≤ D
set_option maxRecDepth 100000 in
set_option maxHeartbeats 4000000 in
theorem ragain_any (B : Nat) (hB : B ≤ 3200000) (w W : World) (gs : List (Option Nat)) (g : Nat) (A : Option Addr) (n c : Nat) (Ad : Option Addr) (nd cd : Nat) (left : Int) (b : List UInt8) (done : List Nd) (xs : List Value) (L : Lc) (R : List Row) (fs : List Fact) (D : Nat)
    (hl0 : 0 ≤ left) (hl5 : left ≤ 5000) (hds : ∀ x ∈ done, smC B x) (hdl : done.length ≤ 100000000) (hbl : b.length ≤ 100000000) (hD : done.length ≤ D)
    (M : St w gs W ((g, 87, rc A n c Ad nd cd left 0) :: L) (⟨38, 6, Ad, nd, cd, xs⟩ :: R) (.dat false (dNs done) xs :: .dat false [dB b] [.slice A n c] :: fs)) :
    Calls Try.prog 70 #[.pointer (some ⟨g, 0, none⟩)] W fun en W' => ∃ cs tn A' n' c' b' left' e', en = .returned (.agg cs.toArray) ∧
      St w gs W' ((g, 87, rc A' n' c' Ad nd cd left' e') :: L) (⟨38, 6, Ad, nd, cd, xs⟩ :: R) (.dat false (dN tn) cs :: .dat false (dNs done) xs :: .dat false [dB b'] [.slice A' n' c'] :: fs) ∧ Pst D (againX b done left) tn b' done left' e' A' n' c' := by
  refine calls_ev (args := [.pointer (some ⟨g, 0, none⟩)]) mixed Try.func70 rfl (by kernel_rfl) ?_
  have en := (M.d1 1 rfl).slen
  have hcap := (M.d1 1 rfl).scap
  have hnd : nd = done.length := by
    have h1 := (M.dt 0 rfl).len
    have h2 := (M.row _ (List.mem_cons_self ..)).1
    rw [dNs_len] at h1
    dsimp only at h2
    omega
  subst hnd
  refine s_alloc (zN) M al_nd ?_
  clear M
  rintro g2 W M
  replace M := M.swp
  refine p_nil rfl ?_
  refine p_fld fp0 rfl ?_
  refine v_load agg_b rfl ((M.B 0 rfl).at_ rfl) ?_
  refine cc is_pget (get_any A n c _ 0 b _ (M.rdb 1 rfl).2.2 (by omega) hcap) ?_
  rintro e W' ⟨rfl, rfl⟩
  refine ⟨_, rfl, ?_⟩
  unfold againX
  refine p_ne rfl rfl (fun hE => ?_) (fun hE => ?_)
  rotate_left
  · have hE : ¬ gE b 0 = 0 := hE
    rw [if_neg (fun h => hE h.1)]
    refine cc is_pfail (rfail0 11 M) ?_
    clear M
    rintro en W ⟨⟨v, rfl⟩, M⟩
    refine ⟨_, rfl, ?_⟩
    refine p_build (vs := zN) pl_nd z_nd rfl ?_
    refine s_storeA 1 zN M rfl sz_nd rfl rfl rfl (all1 rfl) rfl ?_
    clear M; rintro W M
    dsimp only [setL] at M
    refine c_loadN zN agg_nd rfl rfl (M.run 1 rfl) ?_
    exact ⟨zN, noneN, none, 0, 0, [], left, 11, rfl, (((M.addD (d := dB []) (u := .slice none 0 0) (RdD.nil_ _ _)).addL RdL.znone).drop2).fsub _ (by intro f hf; simp only [List.mem_cons] at hf ⊢; rcases hf with h | h | h | h <;> simp [h]), rfl, rfl, rfl, rfl, rfl, hD⟩
  have hE : gE b 0 = 0 := hE
  obtain ⟨N, t, h1, h2, h3, h4, h5, h6, h7, h8⟩ := g_split (l := b) (a := 0) hE
  have h1 : gN b 0 = (N : Int) := h1
  have h3 : gTo b 0 = (t : Int) := by have := h3; simpa using this
  refine p_nil rfl ?_
  refine p_fld fp1 rfl ?_
  refine v_load agg_ns rfl ((M.B 0 rfl).at_ rfl) ?_
  refine p_len sln rfl ?_
  refine v_cvt u_int u_u64r rfl (r := ((done.length : Nat) : Int)) (by rw [IntKind.wrap_u64]; omega) ?_
  refine p_ge rfl rfl (fun hge => ?_) (fun hge => ?_)
  · have hge : ((done.length : Nat) : Int) ≤ gN b 0 := hge
    rw [if_neg (fun h => by have := h.2; omega)]
    refine cc is_pfail (rfail0 11 M) ?_
    clear M
    rintro en W ⟨⟨v, rfl⟩, M⟩
    refine ⟨_, rfl, ?_⟩
    refine p_build (vs := zN) pl_nd z_nd rfl ?_
    refine s_storeA 1 zN M rfl sz_nd rfl rfl rfl (all1 rfl) rfl ?_
    clear M; rintro W M
    dsimp only [setL] at M
    refine c_loadN zN agg_nd rfl rfl (M.run 1 rfl) ?_
    exact ⟨zN, noneN, none, 0, 0, [], left, 11, rfl, (((M.addD (d := dB []) (u := .slice none 0 0) (RdD.nil_ _ _)).addL RdL.znone).drop2).fsub _ (by intro f hf; simp only [List.mem_cons] at hf ⊢; rcases hf with h | h | h | h <;> simp [h]), rfl, rfl, rfl, rfl, rfl, hD⟩
  have hge : ¬ ((done.length : Nat) : Int) ≤ gN b 0 := hge
  rw [if_pos ⟨hE, by omega⟩, h1, h3, Int.toNat_natCast, Int.toNat_natCast]
  have hN : N < done.length := by omega
  obtain ⟨k, hk⟩ : ∃ k, done[N]? = some k := ⟨_, List.getElem?_eq_getElem hN⟩
  have hkd : done.getD N noneN = k := by rw [List.getD_eq_getElem?_getD, hk]; rfl
  rw [hkd]
  have hkm := hds k (List.mem_of_getElem? hk)
  have hksz := sm_sz B k hkm.1
  have hkc := hkm.2
  have hkz : sz k ≤ 100000000000 := by
    have : (102 + B) * (cntP k).1 ≤ 3200102 * 5000 := Nat.mul_le_mul (by omega) hkc
    omega
  have htn : t ≤ n := by omega
  have hcut := (M.d1 1 rfl).cutB (i := t) (j := n) (m := c) htn (Nat.le_refl _) hcap
  rw [List.take_of_length_le (by rw [List.length_drop]; omega)] at hcut
  replace M := M.addD hcut
  clear hcut
  refine p_nil rfl ?_
  refine p_fld fp0 rfl ?_
  refine v_load agg_b rfl ((M.B 0 rfl).at_ rfl) ?_
  refine p_slice (i := t) (j := n) (m := c) slb rfl (bnd_i rfl) rfl rfl rfl htn hcap (Nat.le_refl _) ?_
  refine p_nil rfl ?_
  refine p_fld fp0 rfl ?_
  refine s_set 0 (off := 0) (.slice (slA A c t 1) (n - t) (c - t)) (rc (slA A c t 1) (n - t) (c - t) Ad done.length cd left 0) M rfl sz_slP rfl rfl rfl (by show 0 < 4; decide) rfl ?_
  clear M; rintro W M
  dsimp only [setL] at M
  obtain ⟨gd, es, e1, -, hel, hes, hcell⟩ := M.rowN 0 1 rfl rfl hk
  subst e1
  refine p_nil rfl ?_
  refine p_fld fp1 rfl ?_
  refine v_load agg_ns rfl ((M.B 0 rfl).at_ rfl) ?_
  refine p_at (i := N) sln rfl rfl rfl hN ?_
  refine v_loadN es agg_nd rfl hel hcell ?_
  replace M := M.addL (hes.to fun b hb => ⟨rfl, hb.1, hb.2.1⟩)
  clear hes hcell
  refine s_alloc (zN) M al_nd ?_
  clear M
  rintro g6 W M
  refine s_storeA 0 es M rfl sz_nd rfl rfl hel ((M.da 0 rfl).ones (dN_one _)) rfl ?_
  clear M; rintro W M
  dsimp only [setL] at M
  refine v_loadN es agg_nd rfl hel (M.run 0 rfl) ?_
  refine cc is_pcnt (ncount_any k (by omega) _ _ es (M.da 0 rfl) M.olt) ?_
  rintro en W ⟨rfl, hb⟩
  replace M := (M.call hb).swp
  clear hb
  refine ⟨_, rfl, ?_⟩
  refine cc is_pcount (rcount (cntP k).1 (by omega) hl0 hl5 M) ?_
  clear M
  rintro en W ⟨⟨v, rfl⟩, M⟩
  refine ⟨_, rfl, ?_⟩
  refine v_loadN es agg_nd rfl hel (M.run 1 rfl) ?_
  refine s_storeA 2 es M rfl sz_nd rfl rfl hel ((M.da 0 rfl).ones (dN_one _)) rfl ?_
  clear M; rintro W M
  dsimp only [setL] at M
  refine c_loadN es agg_nd rfl hel (M.run 2 rfl) ?_
  by_cases hneg : left - ((cntP k).1 : Int) < 0
  · rw [if_pos hneg] at M ⊢
    exact ⟨es, k, none, 0, 0, [], _, 3, rfl, ((M.addD (d := dB []) (u := .slice none 0 0) (RdD.nil_ _ _)).drop2.drop2).fsub _ (by intro f hf; simp only [List.mem_cons] at hf ⊢; rcases hf with h | h | h | h <;> simp [h]), rfl, rfl, rfl, rfl, rfl, hD⟩
  · rw [if_neg hneg] at M ⊢
    exact ⟨es, k, _, _, _, b.drop t, _, 0, rfl, (M.drop2.drop2).fsub _ (by intro f hf; simp only [List.mem_cons] at hf ⊢; rcases hf with h | h | h | h <;> simp [h]), rfl, rfl, rfl, rfl, rfl⟩
end Go.Proofs.Ytliccofjlheceaa
namespace Go.Proofs.Ytliccofjlheceaa
open Go.RowKit
theorem is_snode : isFn Try.prog 45 = true := by kernel_rfl
theorem is_sbr : isFn Try.prog 66 = true := by kernel_rfl
theorem is_vputS : isFn Try.prog 34 = true := by kernel_rfl
theorem fsd0 : fieldOff Try.prog 81 0 = some 0 := by kernel_rfl
theorem fsd1 : fieldOff Try.prog 81 1 = some 1 := by kernel_rfl
theorem sz_slS : (Try.prog.info? 23).map (·.size) = some 1 := by kernel_rfl
theorem sz_nsS : (Try.prog.info? 36).map (·.size) = some 1 := by kernel_rfl
mutual
theorem sd_mem : ∀ (t : Nd) (done : List Nd), ∀ x ∈ (sdP t done).2, x ∈ done ∨ sz x ≤ sz t
  | .mk k p has v ks h, done => by
    intro x hx
    rw [sdP] at hx
    split at hx
    · exact .inl hx
    · rcases List.mem_append.1 hx with hx | hx
      · rcases sdK_mem ks done x hx with h1 | h1
        · exact .inl h1
        · right; rw [sz]; omega
      · rw [List.mem_singleton] at hx
        right; rw [hx]; exact Nat.le_refl _
theorem sdK_mem : ∀ (ks : List Nd) (done : List Nd), ∀ x ∈ (sdK ks done).2, x ∈ done ∨ sz x ≤ szs ks
  | [], done => by intro x hx; rw [sdK] at hx; exact .inl hx
  | t :: ts, done => by
    intro x hx
    rw [sdK] at hx
    rw [szs]
    split at hx
    · rcases sdK_mem ts done x hx with h | h
      · exact .inl h
      · right; omega
    · rcases sdK_mem ts _ x hx with h | h
      · rcases sd_mem t done x h with h | h
        · exact .inl h
        · right; omega
      · right; omega
end
theorem sdK_snoc : ∀ (ks : List Nd) (k : Nd) (done : List Nd), sdK (ks ++ [k]) done = if k.kind = 0 then sdK ks done else ((sdK ks done).1 ++ (sdP k (sdK ks done).2).1, (sdP k (sdK ks done).2).2)
  | [], k, done => by
    rw [List.nil_append, sdK, sdK]
    split
    · rfl
    · rw [sdK]; dsimp only; rw [List.append_nil]; rfl
  | t :: ts, k, done => by
    rw [List.cons_append, sdK, sdK]
    by_cases h : t.kind = 0
    · rw [if_pos h, if_pos h]; exact sdK_snoc ts k done
    · rw [if_neg h, if_neg h, sdK_snoc ts k]
      split
      · rfl
      · dsimp only; rw [List.append_assoc]
def SndOk (t : Nd) : Prop := ∀ (even : Bool) (d : Nat) (w W : World) (gs : List (Option Nat)) (g : Nat) (Ao : Option Addr) (no co : Nat) (Ad : Option Addr) (nd cd : Nat) (out : List UInt8) (done : List Nd) (xs : List Value) (L : Lc) (R : List Row) (fs : List Fact) (cs : List Value), Val even t d →
  St w gs W ((g, 81, [.slice Ao no co, .slice Ad nd cd]) :: L) (⟨5, 1, Ao, no, co, bvs out⟩ :: ⟨38, 6, Ad, nd, cd, xs⟩ :: R) (.dat false (dNs done) xs :: fs) →
  RdL W (Fd W (own ((g, 81, [.slice Ao no co, .slice Ad nd cd]) :: L) (⟨5, 1, Ao, no, co, bvs out⟩ :: ⟨38, 6, Ad, nd, cd, xs⟩ :: R) gs)) (dN t) cs →
  out.length + 5 * sz t ≤ 900000000 → done.length + sz t ≤ 100000000 → (∀ x ∈ done, sz x < 1000000000) →
  Calls Try.prog 45 #[.pointer (some ⟨g, 0, none⟩), .agg cs.toArray] W fun e W' => (∃ v, e = .returned v) ∧ ∃ Ao' co' Ad' nd' cd' xs',
    St w gs W' ((g, 81, [.slice Ao' (out ++ (sdP t done).1).length co', .slice Ad' nd' cd']) :: L) (⟨5, 1, Ao', (out ++ (sdP t done).1).length, co', bvs (out ++ (sdP t done).1)⟩ :: ⟨38, 6, Ad', nd', cd', xs'⟩ :: R) (.dat false (dNs (sdP t done).2) xs' :: fs)
/-- The row's length. -/
theorem St.rowLen {w W : World} {gs : List (Option Nat)} {L : Lc} {R : List Row} {fs : List Fact} (M : St w gs W L R fs) (j : Nat) {A : Option Addr} {n c : Nat} {l : List UInt8} (h : nth R j = some ⟨5, 1, A, n, c, bvs l⟩) : n = l.length := by
  have := (M.row _ (nth_mem h)).1
  dsimp only at this
  rw [bvs_length] at this
  omega
set_option maxRecDepth 100000 in
set_option maxHeartbeats 8000000 in
theorem sbr_any (t : Nd) (ih : ∀ k ∈ t.kids, SndOk k) (even : Bool) (d : Nat) (w W : World) (gs : List (Option Nat)) (g : Nat) (Ao : Option Addr) (no co : Nat) (Ad : Option Addr) (nd cd : Nat) (out : List UInt8) (done : List Nd) (xs : List Value) (L : Lc) (R : List Row) (fs : List Fact) (cs : List Value) (hv : Val even t d) (h3 : t.kind = 3)
    (M : St w gs W ((g, 81, [.slice Ao no co, .slice Ad nd cd]) :: L) (⟨5, 1, Ao, no, co, bvs out⟩ :: ⟨38, 6, Ad, nd, cd, xs⟩ :: R) (.dat false (dNs done) xs :: fs))
    (hr : RdL W (Fd W (own ((g, 81, [.slice Ao no co, .slice Ad nd cd]) :: L) (⟨5, 1, Ao, no, co, bvs out⟩ :: ⟨38, 6, Ad, nd, cd, xs⟩ :: R) gs)) (dN t) cs)
    (ho : out.length + 24 + t.val.length + 5 * szs t.kids ≤ 900000000) (hdn : done.length + szs t.kids ≤ 100000000) (hds : ∀ x ∈ done, sz x < 1000000000) (hzt : sz t ≤ 200000000) :
    Calls Try.prog 66 #[.pointer (some ⟨g, 0, none⟩), .agg cs.toArray] W fun e W' => (∃ v, e = .returned v) ∧ ∃ Ao' co' Ad' nd' cd' xs' X, X = out ++ ((if t.has then (1 : UInt8) :: putB t.val else [0]) ++ (UInt8.ofNat (kbits t.kids 16).1 :: UInt8.ofNat (kbits t.kids 16).2 :: [])) ++ (sdK t.kids done).1 ∧
      St w gs W' ((g, 81, [.slice Ao' X.length co', .slice Ad' nd' cd']) :: L) (⟨5, 1, Ao', X.length, co', bvs X⟩ :: ⟨38, 6, Ad', nd', cd', xs'⟩ :: R) (.dat false (dNs (sdK t.kids done).2) xs' :: fs) := by
  refine calls_ev (args := [.pointer (some ⟨g, 0, none⟩), .agg cs.toArray]) mixed Try.func66 rfl (by kernel_rfl) ?_
  obtain ⟨Ap, cp, Av, cv, Ak, ck, Ah, ch, rfl, r1, r3, r4, r5⟩ := hr.node
  have hsz := sz_eq t
  have hvn := putN_len10 (n := t.val.length) (by omega)
  have eno := M.rowLen 0 rfl
  subst eno
  obtain ⟨h16, hvk⟩ := hv.br_kids h3
  replace M := (M.addD r4).addD r3
  clear r1 r3 r4 r5 hr
  refine s_box (ncs t Ap cp Av cv Ak ck Ah ch) M rfl ?_
  clear M
  rintro g3 W M
  obtain ⟨P, hP⟩ : ∃ P, P = out ++ (if t.has then (1 : UInt8) :: putB t.val else [0]) := ⟨_, rfl⟩
  have hPl : P.length ≤ out.length + 11 + t.val.length := by
    rw [hP, List.length_append]
    split
    · rw [List.length_cons, putB_lenE]; omega
    · simp only [List.length_cons, List.length_nil]; omega
  refine ev_assoc ?_
  refine cutS (Option Addr × Nat) (fun s W => St w gs W ((g3, 38, ncs t Ap cp Av cv Ak ck Ah ch) :: (g, 81, [.slice s.1 P.length s.2, .slice Ad nd cd]) :: L) (⟨5, 1, s.1, P.length, s.2, bvs P⟩ :: ⟨38, 6, Ad, nd, cd, xs⟩ :: R) (.dat false (dNs done) xs :: .dat false [dKs t.kids] [.slice Ak t.kids.length ck] :: fs)) (fun s => [(0, .pointer (some ⟨g, 0, none⟩)), (3, .pointer (some ⟨g3, 0, none⟩)), (4, .int .i64 0)]) ?_ ?_
  · refine p_fld fN2 rfl ?_
    refine v_load agg_bo rfl ((M.B 0 rfl).at_ rfl) ?_
    cases hh : t.has with
    | true =>
      rw [hh, if_pos rfl] at hP
      replace M := M.drew
      refine drZ 13 (Kp w gs [(g3, 38, ncs t Ap cp Av cv Ak ck Ah ch), (g, 81, [.slice Ao out.length co, .slice Ad nd cd])] []) [(0, true), (1, true), (2, true), (3, true), (4, true), (7, true), (8, true), (5, false), (6, false), (9, false), (10, false), (11, true), (12, true)] (by kernel_rfl) (M.kp (by simp) (by simp)) ?_
      refine p_nil rfl ?_
      refine p_fld fsd0 rfl ?_
      refine t_load agg_b rfl (fun W K => (K.B 1 rfl).at_ rfl) ?_
      refine p_fld fN3 rfl ?_
      refine t_load agg_b rfl (fun W K => (K.B 0 rfl).at_ rfl) ?_
      refine s_litB [.int .u8 1] [1] M (by decide) rfl rfl rfl ?_
      clear M; rintro g9 W M
      replace M := M.frzO
      refine ⟨(M.kp (by simp) (by simp)), ?_⟩
      refine s_appB M rfl rfl (M.rdb 0 rfl).2.2 (by omega) ?_
      clear M; rintro A6 c6 W M -
      refine ⟨(M.kp (by simp) (by simp)), ?_⟩
      refine cc is_npb (putBytes_any _ _ _ t.val _ (M.rdb 1 rfl).2.2 (by omega)) ?_
      rintro e W ⟨A7, c7, rfl, o7, hb⟩
      replace M := M.callO hb o7
      clear o7 hb
      refine ⟨_, rfl, (M.kp (by simp) (by simp)), ?_⟩
      refine s_appB M rfl rfl (M.rdb 0 rfl).2.2 (by omega) ?_
      clear M; rintro A8 c8 W M -
      refine ⟨(M.kp (by simp) (by simp)), ?_⟩
      refine p_nil rfl ?_
      refine p_fld fsd0 rfl ?_
      refine s_set 1 (.slice A8 (out.length + 1 + ((putN t.val.length).length + t.val.length)) c8) [.slice A8 (out.length + 1 + ((putN t.val.length).length + t.val.length)) c8, .slice Ad nd cd] M rfl sz_slS rfl rfl rfl (Nat.le_of_ble_eq_true rfl) rfl ?_
      clear M; rintro W M
      dsimp only [setL] at M
      have e : out ++ [1] ++ putB t.val = P := by rw [hP, List.append_assoc]; rfl
      have hl : out.length + 1 + ((putN t.val.length).length + t.val.length) = P.length := by rw [hP, List.length_append, List.length_cons, putB_lenE]; omega
      rw [e, hl] at M
      exact ⟨(A8, c8), M.fsub _ (by intro f hf; simp only [List.mem_cons] at hf ⊢; rcases hf with h | h | h <;> simp [h]), (by repeat (first | exact trivial | refine ⟨rfl, ?_⟩))⟩
    | false =>
      rw [hh, if_neg (by simp)] at hP
      refine p_nil rfl ?_
      refine p_fld fsd0 rfl ?_
      refine v_load agg_b rfl ((M.B 1 rfl).at_ rfl) ?_
      refine s_litB [.int .u8 0] [0] M (by decide) rfl rfl rfl ?_
      clear M; rintro g9 W M
      replace M := M.frzO
      refine s_appB M rfl rfl (M.rdb 0 rfl).2.2 (by omega) ?_
      clear M; rintro A8 c8 W M -
      refine p_nil rfl ?_
      refine p_fld fsd0 rfl ?_
      refine s_set 1 (.slice A8 (out.length + 1) c8) [.slice A8 (out.length + 1) c8, .slice Ad nd cd] M rfl sz_slS rfl rfl rfl (Nat.le_of_ble_eq_true rfl) rfl ?_
      clear M; rintro W M
      dsimp only [setL] at M
      have hl : out.length + 1 = P.length := by rw [hP, List.length_append]; rfl
      rw [← hP, hl] at M
      exact ⟨(A8, c8), M.fsub _ (by intro f hf; simp only [List.mem_cons] at hf ⊢; rcases hf with h | h | h <;> simp [h]), (by repeat (first | exact trivial | refine ⟨rfl, ?_⟩))⟩
  clear M
  rintro ⟨A0, c0⟩ B0 W0 M
  dsimp only at M
  refine p_fld fN4 rfl ?_
  refine v_load agg_ns rfl ((M.B 0 rfl).at_ rfl) ?_
  refine p_len sln rfl ?_
  refine lp Nat (fun i W => i ≤ 16 ∧ St w gs W ((g3, 38, ncs t Ap cp Av cv Ak ck Ah ch) :: (g, 81, [.slice A0 P.length c0, .slice Ad nd cd]) :: L) (⟨5, 1, A0, P.length, c0, bvs P⟩ :: ⟨38, 6, Ad, nd, cd, xs⟩ :: R) (.dat false (dNs done) xs :: .dat false [dKs t.kids] [.slice Ak t.kids.length ck] :: fs))
    (fun i => [(0, .pointer (some ⟨g, 0, none⟩)), (3, .pointer (some ⟨g3, 0, none⟩)), (4, .int .i64 (setN t.kids i)), (34, .slice Ak t.kids.length ck), (35, .int .i64 t.kids.length), (36, .int .i64 i)]) (fun i => 16 - i) 0 ⟨Nat.zero_le _, M⟩ (by rw [show setN t.kids 0 = 0 from rfl]; exact (by repeat (first | exact trivial | refine ⟨rfl, ?_⟩))) ?_
  clear M
  rintro i E5 W5 ⟨hi, M⟩
  refine p_lt rfl rfl (fun hlt => ?_) (fun hge => ?_)
  · have hi16 : i < 16 := by have h : (i : Int) < (t.kids.length : Int) := hlt; omega
    obtain ⟨k, hki⟩ : ∃ k, t.kids[i]? = some k := ⟨_, List.getElem?_eq_getElem (by omega)⟩
    have hkd : t.kids.getD i noneN = k := by rw [List.getD_eq_getElem?_getD, hki]; rfl
    obtain ⟨b, off, es, e0, hel, M'⟩ := M.kid (M.d1 1 rfl) hki
    replace M := M'; clear M'
    obtain ⟨Ap5, cp5, Av5, cv5, Ak5, ck5, Ah5, ch5, rfl, -⟩ := (M.da 1 rfl).node
    refine p_at sln (by show (Value.slice Ak t.kids.length ck) = _; rw [e0]) rfl rfl (by omega) ?_
    refine v_loadN (ncs k Ap5 cp5 Av5 cv5 Ak5 ck5 Ah5 ch5) agg_nd rfl hel (M.lc 0 rfl) ?_
    refine s_alloc (zN) M al_nd ?_
    clear M
    rintro g9 W M
    first | refine s_storeA 0 (ncs k Ap5 cp5 Av5 cv5 Ak5 ck5 Ah5 ch5) M rfl (by kernel_rfl) rfl rfl rfl (all1 rfl) rfl ?_ | refine s_storeA 1 (ncs k Ap5 cp5 Av5 cv5 Ak5 ck5 Ah5 ch5) M rfl (by kernel_rfl) rfl rfl rfl (all1 rfl) rfl ?_ | refine s_storeA 2 (ncs k Ap5 cp5 Av5 cv5 Ak5 ck5 Ah5 ch5) M rfl (by kernel_rfl) rfl rfl rfl (all1 rfl) rfl ?_ | refine s_storeA 3 (ncs k Ap5 cp5 Av5 cv5 Ak5 ck5 Ah5 ch5) M rfl (by kernel_rfl) rfl rfl rfl (all1 rfl) rfl ?_
    clear M
    rintro W M
    dsimp only [setL] at M
    refine p_fld fN0 rfl ?_
    refine v_load agg_int rfl ((M.B 0 rfl).at_ rfl) ?_
    refine p_ne rfl rfl (fun hk0 => ?_) (fun hk0 => ?_)
    · have hsn := setN_no (ks := t.kids) (i := i) (by rw [hkd]; exact hk0)
      refine p_addN (b := 1) rfl rfl (by omega) ?_
      exact ⟨i + 1, ⟨by omega, M.dropL.fsub _ (by intro f hf; simp only [List.mem_cons] at hf ⊢; rcases hf with h | h | h <;> simp [h])⟩, (by rw [hsn]; exact ⟨rfl, rfl, rfl, rfl, rfl, rfl, trivial⟩), by omega⟩
    · have hso := setN_or (ks := t.kids) hi16 (by rw [hkd]; exact hk0)
      refine p_subN (a := 15) (b := i) rfl rfl (by omega) (by omega) ?_
      refine p_shl rfl rfl (by omega) (shl15 hi16) ?_
      refine p_or rfl rfl hso ?_
      refine p_addN (b := 1) rfl rfl (by omega) ?_
      exact ⟨i + 1, ⟨by omega, M.dropL.fsub _ (by intro f hf; simp only [List.mem_cons] at hf ⊢; rcases hf with h | h | h <;> simp [h])⟩, (by repeat (first | exact trivial | refine ⟨rfl, ?_⟩)), by omega⟩
  have hge : i = 16 := by have h : ¬ (i : Int) < (t.kids.length : Int) := hge; omega
  subst hge
  have hkb := kbits_le t.kids 16 (Nat.le_refl _)
  refine p_nil rfl ?_
  refine p_fld fsd0 rfl ?_
  refine v_load agg_b rfl ((M.B 1 rfl).at_ rfl) ?_
  refine p_shr rfl rfl (by decide) (r := (((kbits t.kids 16).1 : Nat) : Int)) (by show ((setN t.kids 16 : Nat) : Int).fdiv 256 = _; rw [Int.fdiv_eq_ediv_of_nonneg _ (by decide)]; unfold setN; omega) ?_
  refine v_cvt u_int u_u8 rfl (r := (((kbits t.kids 16).1 : Nat) : Int)) (by rw [IntKind.wrap_u8']; omega) ?_
  refine v_cvt u_int u_u8 rfl (r := (((kbits t.kids 16).2 : Nat) : Int)) (by rw [IntKind.wrap_u8']; show ((setN t.kids 16 : Nat) : Int) % 256 = _; unfold setN; omega) ?_
  refine s_litB [.int .u8 (((kbits t.kids 16).1 : Nat) : Int), .int .u8 (((kbits t.kids 16).2 : Nat) : Int)] [UInt8.ofNat (kbits t.kids 16).1, UInt8.ofNat (kbits t.kids 16).2] M (by decide) rfl (by
    have e1 := bvs1 (kbits t.kids 16).1
    have e2 := bvs1 (kbits t.kids 16).2
    rw [Nat.mod_eq_of_lt (by omega)] at e1 e2
    show [Value.int .u8 _] ++ [Value.int .u8 _] = bvs ([UInt8.ofNat (kbits t.kids 16).1] ++ [UInt8.ofNat (kbits t.kids 16).2])
    rw [bvs_append, ← e1, ← e2]) rfl ?_
  clear M; rintro g10 W M
  replace M := M.frzO
  refine s_appB M rfl rfl (M.rdb 0 rfl).2.2 (by omega) ?_
  clear M; rintro A11 c11 W M -
  refine p_nil rfl ?_
  refine p_fld fsd0 rfl ?_
  refine s_set 1 (.slice A11 (P.length + 2) c11) [.slice A11 (P.length + 2) c11, .slice Ad nd cd] M rfl sz_slS rfl rfl rfl (Nat.le_of_ble_eq_true rfl) rfl ?_
  clear M; rintro W M
  dsimp only [setL] at M
  obtain ⟨Q, hQ⟩ : ∃ Q, Q = P ++ [UInt8.ofNat (kbits t.kids 16).1, UInt8.ofNat (kbits t.kids 16).2] := ⟨_, rfl⟩
  have hQl : P.length + 2 = Q.length := by rw [hQ, List.length_append]; rfl
  rw [← hQ, hQl] at M
  obtain ⟨X, hX⟩ : ∃ X : Nat → List UInt8, X = fun i => Q ++ (sdK (t.kids.take i) done).1 := ⟨_, rfl⟩
  have hX0 : X 0 = Q := by rw [hX]; dsimp only; rw [List.take_zero, sdK, List.append_nil]
  have hD0 : (sdK (t.kids.take 0) done).2 = done := by rw [List.take_zero, sdK]
  refine p_fld fN4 rfl ?_
  refine v_load agg_ns rfl ((M.B 0 rfl).at_ rfl) ?_
  refine p_len sln rfl ?_
  refine lp (Nat × Option Addr × Nat × Option Addr × Nat × Nat × List Value) (fun s W => s.1 ≤ 16 ∧ St w gs W ((g3, 38, ncs t Ap cp Av cv Ak ck Ah ch) :: (g, 81, [.slice s.2.1 (X s.1).length s.2.2.1, .slice s.2.2.2.1 s.2.2.2.2.1 s.2.2.2.2.2.1]) :: L) (⟨5, 1, s.2.1, (X s.1).length, s.2.2.1, bvs (X s.1)⟩ :: ⟨38, 6, s.2.2.2.1, s.2.2.2.2.1, s.2.2.2.2.2.1, s.2.2.2.2.2.2⟩ :: R) (.dat false (dNs (sdK (t.kids.take s.1) done).2) s.2.2.2.2.2.2 :: .dat false [dKs t.kids] [.slice Ak t.kids.length ck] :: fs))
    (fun s => [(0, .pointer (some ⟨g, 0, none⟩)), (65, .slice Ak t.kids.length ck), (66, .int .i64 t.kids.length), (67, .int .i64 (s.1 : Nat))]) (fun s => 16 - s.1) (0, A11, c11, Ad, nd, cd, xs) ⟨Nat.zero_le _, by dsimp only; rw [hX0, hD0]; exact M.fsub _ (by intro f hf; simp only [List.mem_cons] at hf ⊢; rcases hf with h | h | h <;> simp [h])⟩ (by repeat (first | exact trivial | refine ⟨rfl, ?_⟩)) ?_
  clear M
  rintro ⟨i, A1, c1, A2, n2, c2, xs2⟩ E5 W5 ⟨hi, M⟩
  dsimp only at hi M
  refine p_lt rfl rfl (fun hlt => ?_) (fun hge => ?_)
  · have hi16 : i < 16 := by have h : (i : Int) < (t.kids.length : Int) := hlt; omega
    obtain ⟨k, hki⟩ : ∃ k, t.kids[i]? = some k := ⟨_, List.getElem?_eq_getElem (by omega)⟩
    have hkm := List.mem_of_getElem? hki
    have hst : t.kids.take (i + 1) = t.kids.take i ++ [k] := by rw [List.take_add_one, hki]; rfl
    have hsn := sdK_snoc (t.kids.take i) k done
    rw [← hst] at hsn
    have hsum : szs (t.kids.take i) + sz k ≤ szs t.kids := by
      have e : t.kids = t.kids.take (i + 1) ++ t.kids.drop (i + 1) := (List.take_append_drop ..).symm
      have h := congrArg szs e
      rw [hst, szs_appC, szs_appC, szs, szs] at h
      omega
    have hXl : (X i).length ≤ Q.length + 5 * szs (t.kids.take i) := by
      rw [hX]; dsimp only; rw [List.length_append]
      have := sdK_size (t.kids.take i) done (by omega)
      omega
    have hDl := sdK_len (t.kids.take i) done
    have hDm := sdK_mem (t.kids.take i) done
    obtain ⟨b, off, es, e0, hel, M'⟩ := M.kid (M.d1 1 rfl) hki
    replace M := M'; clear M'
    obtain ⟨Ap5, cp5, Av5, cv5, Ak5, ck5, Ah5, ch5, rfl, -⟩ := (M.da 1 rfl).node
    refine p_at sln (by show (Value.slice Ak t.kids.length ck) = _; rw [e0]) rfl rfl (by omega) ?_
    refine v_loadN (ncs k Ap5 cp5 Av5 cv5 Ak5 ck5 Ah5 ch5) agg_nd rfl hel (M.lc 0 rfl) ?_
    refine s_alloc (zN) M al_nd ?_
    clear M
    rintro g9 W M
    first | refine s_storeA 0 (ncs k Ap5 cp5 Av5 cv5 Ak5 ck5 Ah5 ch5) M rfl (by kernel_rfl) rfl rfl rfl (all1 rfl) rfl ?_ | refine s_storeA 1 (ncs k Ap5 cp5 Av5 cv5 Ak5 ck5 Ah5 ch5) M rfl (by kernel_rfl) rfl rfl rfl (all1 rfl) rfl ?_ | refine s_storeA 2 (ncs k Ap5 cp5 Av5 cv5 Ak5 ck5 Ah5 ch5) M rfl (by kernel_rfl) rfl rfl rfl (all1 rfl) rfl ?_ | refine s_storeA 3 (ncs k Ap5 cp5 Av5 cv5 Ak5 ck5 Ah5 ch5) M rfl (by kernel_rfl) rfl rfl rfl (all1 rfl) rfl ?_
    clear M
    rintro W M
    dsimp only [setL] at M
    refine p_fld fN0 rfl ?_
    refine v_load agg_int rfl ((M.B 0 rfl).at_ rfl) ?_
    refine p_ne rfl rfl (fun hk0 => ?_) (fun hk0 => ?_)
    · have hk0 : k.kind = 0 := hk0
      rw [if_pos hk0] at hsn
      refine p_addN (b := 1) rfl rfl (by omega) ?_
      have hX1 : X (i + 1) = X i := by rw [hX]; dsimp only; rw [hsn]
      exact ⟨(i + 1, A1, c1, A2, n2, c2, xs2), ⟨by dsimp only; omega, by dsimp only; rw [hX1, hsn]; exact M.dropL.fsub _ (by intro f hf; simp only [List.mem_cons] at hf ⊢; rcases hf with h | h | h <;> simp [h])⟩, (by repeat (first | exact trivial | refine ⟨rfl, ?_⟩)), by dsimp only; omega⟩
    · have hk0 : ¬ k.kind = 0 := hk0
      rw [if_neg hk0] at hsn
      refine v_loadN (ncs k Ap5 cp5 Av5 cv5 Ak5 ck5 Ah5 ch5) agg_nd rfl rfl (M.run 0 rfl) ?_
      replace M := M.fsub (.dat false (dNs (sdK (t.kids.take i) done).2) xs2 :: .dat false (dN k) (ncs k Ap5 cp5 Av5 cv5 Ak5 ck5 Ah5 ch5) :: .dat false [dKs t.kids] [.slice Ak t.kids.length ck] :: fs) (by intro f hf; simp only [List.mem_cons] at hf ⊢; rcases hf with h | h | h | h <;> simp [h])
      replace M := M.permL (perm3 ..)
      refine cc is_snode (ih k hkm _ _ w _ gs g A1 _ c1 A2 n2 c2 (X i) (sdK (t.kids.take i) done).2 xs2 _ R _ _ (hvk k hkm) M (M.da 1 rfl) (by omega) (by omega) (fun x hx => by
        rcases hDm x hx with h | h
        · exact hds x h
        · omega)) ?_
      clear M
      rintro e W ⟨⟨v, rfl⟩, A3, c3, A4, n4, c4, xs4, M⟩
      refine ⟨_, rfl, ?_⟩
      have hX1 : X i ++ (sdP k (sdK (t.kids.take i) done).2).1 = X (i + 1) := by rw [hX]; dsimp only; rw [hsn, List.append_assoc]
      have hD1 : (sdP k (sdK (t.kids.take i) done).2).2 = (sdK (t.kids.take (i + 1)) done).2 := by rw [hsn]
      rw [hX1, hD1] at M
      refine p_addN (b := 1) rfl rfl (by omega) ?_
      exact ⟨(i + 1, A3, c3, A4, n4, c4, xs4), ⟨by dsimp only; omega, (M.permL (perm3' ..)).dropL.fsub _ (by intro f hf; simp only [List.mem_cons] at hf ⊢; rcases hf with h | h | h <;> simp [h])⟩, (by repeat (first | exact trivial | refine ⟨rfl, ?_⟩)), by dsimp only; omega⟩
  have hge : i = 16 := by have h : ¬ (i : Int) < (t.kids.length : Int) := hge; omega
  subst hge
  have hall : t.kids.take 16 = t.kids := List.take_of_length_le (by omega)
  have hXE : X 16 = Q ++ (sdK t.kids done).1 := by rw [hX]; dsimp only; rw [hall]
  rw [hall] at M
  refine ⟨⟨_, rfl⟩, A1, c1, A2, n2, c2, xs2, X 16, ?_, M.dropL.fsub _ (by intro f hf; simp only [List.mem_cons] at hf ⊢; rcases hf with h | h <;> simp [h])⟩
  rw [hXE, hQ, hP]
  simp only [List.append_assoc]
end Go.Proofs.Ytliccofjlheceaa
