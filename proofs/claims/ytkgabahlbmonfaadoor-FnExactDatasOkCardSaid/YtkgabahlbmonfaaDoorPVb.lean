import Derived.Test.YtkgabahlbmonfaaDoorPVa
set_option linter.unusedVariables false
set_option linter.unusedSimpArgs false
/-
  Words, names and literals: both sides come to the same.
-/
namespace Go.Ev
open Go
/-- A text's bytes as numbers. -/
def u8s (p : List UInt8) : List Int := p.map fun b => ((b.toNat : Nat) : Int)
theorem u8s_len (p : List UInt8) : (u8s p).length = p.length := by simp [u8s]
def ub (p : List UInt8) : Sl := bytes (u8s p)
theorem ub_n (p : List UInt8) : (ub p).1 = p.length := by unfold ub; rw [bytes_n, u8s_len]
theorem ub_es (p : List UInt8) : (ub p).2 = p.map fun b => [D.int .u8 ((b.toNat : Nat) : Int)] := by simp [ub, bytes, sl, u8s, vDs, LS.encs, LS.enc, vD]
def tx (l : List UInt8) : ByteArray := ⟨l.toArray⟩
theorem tx_size (l : List UInt8) : (tx l).size = l.length := by simp [tx, ByteArray.size]
theorem bytesD_ub : ∀ p : List UInt8, bytesD (ub p).2 = some p := by
  intro p
  rw [ub_es]
  induction p with
  | nil => rfl
  | cons b p ih => simp only [List.map_cons, bytesD, ih]; simp
theorem ostr_ub {R : Type} {p : List UInt8} {f : ByteArray → Option R} : ostr (ub p).2 f = f (tx p) := ostr_t (bytesD_ub p)
theorem tx_inj {p q : List UInt8} : ((tx p).toList == (tx q).toList) = decide (p = q) := by
  have h : ∀ l : List UInt8, (tx l).toList = l := fun l => by
    rw [ByteArray.toList_eq]
    simp [tx]
  rw [h, h]
  by_cases e : p = q
  · simp [e]
  · simp [e]
/-- Small bytes are a text's. -/
theorem byteL_ub {l : List Int} (h : byteL l) : bytes l = ub (l.map fun x => UInt8.ofNat x.toNat) := by
  unfold ub
  congr 1
  induction l with
  | nil => rfl
  | cons x l ih =>
    have hx := h x (by simp)
    simp only [u8s, List.map_cons, List.map_map] at ih ⊢
    congr 1
    · rw [UInt8.toNat_ofNat']
      omega
    · exact ih fun y hy => h y (by simp [hy])
def smB (b : UInt8) : Bool := decide (97 ≤ b.toNat ∧ b.toNat ≤ 122)
def grB (b : UInt8) : Bool := decide (65 ≤ b.toNat ∧ b.toNat ≤ 90)
def dgB (b : UInt8) : Bool := decide (48 ≤ b.toNat ∧ b.toNat ≤ 57)
/-- Is it a word? -/
def wordB (great : Bool) : List UInt8 → Bool
  | [] => false
  | a :: r => (if great = true then grB a else smB a) && (r.all (fun b => smB b || dgB b) && decide (r.length ≤ 7))
def keysU : List (List UInt8) := [[102, 110], [108, 101, 116], [114, 101, 99], [105, 102], [112, 97, 105, 114], [102, 115, 116], [115, 110, 100], [114, 101, 102], [114, 101, 97, 100], [119, 114, 105, 116, 101], [109, 97, 116, 99, 104], [114, 97, 105, 115, 101], [116, 114, 121], [97, 100, 100], [115, 117, 98], [109, 117, 108], [108, 101, 115, 115], [115, 97, 109, 101], [99, 97, 116], [108, 101, 110], [112, 114, 105, 110, 116], [116, 105, 99, 107], [100, 114, 97, 119], [103, 101, 116], [112, 117, 116], [100, 97, 116, 97], [117, 110, 105, 116], [105, 110, 116], [116, 101, 120, 116], [102, 117, 110]]
def keyB (u : List UInt8) : Bool := keysU.any fun k => decide (u = k)
def nameB (u : List UInt8) : Bool := wordB false u && !keyB u
/-- Texts, one a cell. -/
def strs (q : List (List UInt8)) : Sl := sl (sh := [.str]) (fun b => (tx b, ())) q
theorem strs_n (q : List (List UInt8)) : (strs q).1 = q.length := rfl
namespace Q
open Go Go.Ev

theorem l5lower_ok (b : UInt8) : spec_l5lower ((b.toNat : Nat) : Int) = some (.d (.bool (smB b)), []) := by
  rw [spec_l5lower_eq, oite_dec]
  unfold smB
  split
  · exact resB (decide_eq_decide.2 (by omega))
  · exact resB (decide_eq_false (by omega)).symm
theorem l5upper_ok (b : UInt8) : spec_l5upper ((b.toNat : Nat) : Int) = some (.d (.bool (grB b)), []) := by
  rw [spec_l5upper_eq, oite_dec]
  unfold grB
  split
  · exact resB (decide_eq_decide.2 (by omega))
  · exact resB (decide_eq_false (by omega)).symm
theorem l5digit_ok (b : UInt8) : spec_l5digit ((b.toNat : Nat) : Int) = some (.d (.bool (dgB b)), []) := by
  rw [spec_l5digit_eq, oite_dec]
  unfold dgB
  split
  · exact resB (decide_eq_decide.2 (by omega))
  · exact resB (decide_eq_false (by omega)).symm
theorem oat_ub {R : Type} {pre q u : List UInt8} {a : UInt8} (h : pre ++ a :: q = u) {f : (Int × Unit) → Option R} : oat [.int .u8] (ub u).1 (ub u).2 (pre.length : Int) f = f (((a.toNat : Nat) : Int), ()) := by
  have := oat_mid (sh := [.int .u8]) (g := fun x : Int => (x, ())) (pre := u8s pre) (q := u8s q) (l := u8s u) (a := ((a.toNat : Nat) : Int)) (by rw [← h]; simp [u8s]) rfl (f := f)
  rw [u8s_len] at this
  exact this
/-- Behind the first byte. -/
theorem l5word_rest (g : Bool) (u : List UInt8) (hl : u.length ≤ 8) : ∀ (q pre : List UInt8), pre ≠ [] → pre ++ q = u → spec_l5word_j3 (pre.length : Int) (ub u) g = some (.d (.bool (q.all fun b => smB b || dgB b)), []) := by
  intro q
  induction q with
  | nil =>
    intro pre hp h
    rw [List.append_nil] at h; subst h
    rw [spec_l5word_j3_eq, oite_dec, if_neg (by rw [ub_n]; omega)]
    rfl
  | cons a q ih =>
    intro pre hp h
    have hlt := len_mid h
    have h0 : pre.length ≠ 0 := fun e => hp (List.length_eq_zero_iff.1 e)
    have hn := ih (pre ++ [a]) (by simp) (by simpa using h)
    rw [List.length_append, List.length_singleton] at hn
    rw [spec_l5word_j3_eq, oite_dec, if_pos (by rw [ub_n]; omega), oite_if, if_neg (by simp; omega), spec_l5word_j5_eq, oite_f, spec_l5word_j4_eq, oat_ub h]
    simp only
    rw [l5lower_ok, ocall_bool, oite_nbool]
    have j6 : ∀ c : Bool, spec_l5word_j6 (ub u) g (pre.length : Int) c = if c = true then some (.d (.bool false), []) else some (.d (.bool (q.all fun b => smB b || dgB b)), []) := by
      intro c
      rw [spec_l5word_j6_eq, oite_bool, w64_succ (by omega), hn]
    by_cases hs : smB a = true
    · rw [if_pos hs, j6]
      simp [hs]
    · rw [if_neg hs, oite_dec, if_pos (by omega), oat_ub h]
      simp only
      rw [l5digit_ok, ocall_bool, j6]
      by_cases hd : dgB a = true <;> simp [hs, hd]
theorem l5word_ok (g : Bool) (u : List UInt8) : spec_l5word (ub u) g = some (.d (.bool (wordB g u)), []) := by
  have j2 : ∀ c : Bool, spec_l5word_j2 (ub u) g c = if c = true then some (.d (.bool false), []) else spec_l5word_j3 0 (ub u) g := by
    intro c
    rw [spec_l5word_j2_eq, oite_bool, spec_l5word_j1_eq]
  rw [spec_l5word_eq, oite_dec, j2, j2]
  cases u with
  | nil => rw [if_pos (by rw [ub_n]; simp)]; rfl
  | cons a r =>
    rw [if_neg (by rw [ub_n]; simp only [List.length_cons]; omega)]
    by_cases hl : r.length ≤ 7
    · rw [if_neg (by rw [ub_n]; simp only [List.length_cons]; simp; omega)]
      have hn := l5word_rest g (a :: r) (by simp only [List.length_cons]; omega) r [a] (by simp) rfl
      simp only [List.length_singleton] at hn
      have hat : ∀ {R : Type} {f : (Int × Unit) → Option R}, oat [.int .u8] (ub (a :: r)).1 (ub (a :: r)).2 0 f = f (((a.toNat : Nat) : Int), ()) := fun {R f} => oat_ub (pre := []) rfl
      have hw : w64 ((0 : Int) + 1) = ((1 : Nat) : Int) := by simp [w64, IntKind.wrap, IntKind.bits, IntKind.signed]
      rw [spec_l5word_j3_eq, oite_dec, if_pos (by rw [ub_n]; simp only [List.length_cons]; omega), oite_if, if_pos (by rfl), spec_l5word_j5_eq, oite_bool, hat]
      simp only
      rw [l5upper_ok, ocall_bool, oite_nbool, hw, hn]
      unfold wordB
      cases g with
      | true =>
        rw [if_pos rfl]
        by_cases hg : grB a = true
        · rw [if_pos hg]; simp [hg, hl]
        · rw [if_neg hg]; simp [hg]
      | false =>
        rw [if_neg (by simp), spec_l5word_j4_eq, hat]
        simp only
        rw [l5lower_ok, ocall_bool, oite_nbool]
        have j6 : ∀ c : Bool, spec_l5word_j6 (ub (a :: r)) false 0 c = if c = true then some (.d (.bool false), []) else some (.d (.bool (r.all fun b => smB b || dgB b)), []) := by
          intro c
          rw [spec_l5word_j6_eq, oite_bool, hw, hn]
        by_cases hs : smB a = true
        · rw [if_pos hs, j6]; simp [hs, hl]
        · rw [if_neg hs, oite_dec, if_neg (by omega), j6]; simp [hs]
    · rw [if_pos (by rw [ub_n]; simp only [List.length_cons]; simp; omega)]
      unfold wordB
      simp [hl]
theorem l5key_ok (u : List UInt8) : spec_l5key (ub u) = some (.d (.bool (keyB u)), []) := by
  have hk : spec_l5keys = some (.d (.sl false 1 (strs keysU).1 (strs keysU).2), []) := by rw [spec_l5keys_eq]; rfl
  rw [spec_l5key_eq, hk, ocall_sl]
  have hs : ∀ pre a q, pre ++ a :: q = keysU → spec_l5key_j1 (pre.length : Int) (strs keysU) (ub u) = if (!decide (u = a)) = true then spec_l5key_j1 ((pre.length + 1 : Nat) : Int) (strs keysU) (ub u) else some (.d (.bool true), []) := by
    intro pre a q h
    have hlt := len_mid h
    have h30 : keysU.length = 30 := rfl
    rw [spec_l5key_j1_eq, oite_dec, if_pos (by rw [strs_n]; omega), show strs keysU = sl (sh := [.str]) (fun b => (tx b, ())) keysU from rfl, oat_mid h rfl, show sl (sh := [.str]) (fun b => (tx b, ())) keysU = strs keysU from rfl]
    simp only
    rw [spec_l5is_eq, ostr_ub, ocall_bool, tx_inj, oite_bool, w64_succ (by omega)]
    by_cases e : u = a <;> simp [e]
  have := loop_all (l := keysU) (p := fun a => !decide (u = a)) (J := fun i => spec_l5key_j1 i (strs keysU) (ub u)) (bad := some (.d (.bool true), [])) (K := some (.d (.bool false), [])) hs (by
    rw [spec_l5key_j1_eq, oite_dec, if_neg (by rw [strs_n]; omega)])
  rw [this]
  unfold keyB
  rw [List.all_eq_not_any_not]
  simp only [Bool.not_not]
  cases (keysU.any fun k => decide (u = k)) <;> rfl
theorem l5name_ok (u : List UInt8) : spec_l5name (ub u) = some (.d (.bool (nameB u)), []) := by
  rw [spec_l5name_eq, l5word_ok, ocall_bool, oite_bool, l5key_ok]
  unfold nameB
  by_cases h : wordB false u = true
  · rw [if_pos h, ocall_bool]; simp [h]
  · rw [if_neg h]; simp [h]
end Q
end Go.Ev

/-
  Words, names and literals by the program.
-/
namespace Go.Ev.Q
open Go Go.Ev

theorem isSmall_ok (b : UInt8) : impl_isSmall ((b.toNat : Nat) : Int) = some (.d (.bool (smB b)), []) := by
  rw [impl_isSmall_eq, oite_dec]
  unfold smB
  split
  · exact resB (decide_eq_decide.2 (by omega))
  · exact resB (decide_eq_false (by omega)).symm
theorem isGreat_ok (b : UInt8) : impl_isGreat ((b.toNat : Nat) : Int) = some (.d (.bool (grB b)), []) := by
  rw [impl_isGreat_eq, oite_dec]
  unfold grB
  split
  · exact resB (decide_eq_decide.2 (by omega))
  · exact resB (decide_eq_false (by omega)).symm
theorem isDigit_ok (b : UInt8) : impl_isDigit ((b.toNat : Nat) : Int) = some (.d (.bool (dgB b)), []) := by
  rw [impl_isDigit_eq, oite_dec]
  unfold dgB
  split
  · exact resB (decide_eq_decide.2 (by omega))
  · exact resB (decide_eq_false (by omega)).symm
theorem W_byte (u pre q : List UInt8) (a : UInt8) (h : pre ++ a :: q = u) : byteAt (tx u) (Int.toNat (pre.length : Int)) = ((a.toNat : Nat) : Int) := by
  unfold byteAt
  have : (tx u).data.toList.getD (Int.toNat (pre.length : Int)) 0 = a := by
    rw [← h]; simp [tx]
  rw [this]
theorem isSmall_step (u pre q : List UInt8) (a : UInt8) (h : pre ++ a :: q = u) (hl : u.length < 4611686018427387904) : impl_wordLike_Fimpl_isSmall_j1 (pre.length : Int) (tx u) (u.length : Int) = if (if pre = [] then smB a else smB a || dgB a) = true then impl_wordLike_Fimpl_isSmall_j1 ((pre.length + 1 : Nat) : Int) (tx u) (u.length : Int) else some (.d (.bool false), []) := by
  have hlt := len_mid h
  have j2 : ∀ c : Bool, impl_wordLike_Fimpl_isSmall_j2 (tx u) (u.length : Int) (pre.length : Int) c = if c = true then some (.d (.bool false), []) else impl_wordLike_Fimpl_isSmall_j1 ((pre.length + 1 : Nat) : Int) (tx u) (u.length : Int) := by
    intro c
    rw [impl_wordLike_Fimpl_isSmall_j2_eq, oite_bool, w64_succ (by omega)]
  have hg : (0 : Int) ≤ (pre.length : Int) ∧ (pre.length : Int) < (((tx u).size : Nat) : Int) := by rw [tx_size]; omega
  rw [impl_wordLike_Fimpl_isSmall_j1_eq, oite_dec, if_pos (by omega), oite_if]
  by_cases hp : pre = []
  · subst hp
    rw [if_pos (by rfl), if_pos rfl, oguard_dec hg, W_byte u [] q a h, isSmall_ok, ocall_bool, oite_nbool]
    by_cases hf : smB a = true
    · rw [if_pos hf, if_pos hf, oite_dec, if_neg (by simp), j2]; simp
    · rw [if_neg hf, if_neg hf, j2]; simp
  · have h0 : pre.length ≠ 0 := fun e => hp (List.length_eq_zero_iff.1 e)
    rw [if_neg (by simp; omega), if_neg hp, oite_dec, if_pos (by omega), oguard_dec hg, W_byte u pre q a h, isSmall_ok, ocall_bool, oite_nbool]
    by_cases hs : smB a = true
    · rw [if_pos hs, j2]; simp [hs]
    · rw [if_neg hs, oguard_dec hg, isDigit_ok, ocall_bool, j2]
      by_cases hd : dgB a = true <;> simp [hs, hd]
theorem isSmall_word (u : List UInt8) (hl : u.length < 4611686018427387904) : impl_wordLike_Fimpl_isSmall (tx u) = some (.d (.bool (wordB false u)), []) := by
  have hw : ∀ n : Nat, impl_within (n : Int) 1 8 = some (.d (.bool (decide (1 ≤ n ∧ n ≤ 8))), []) := by
    intro n
    rw [impl_within_eq, oite_dec]
    split
    · exact resB (decide_eq_decide.2 (by omega))
    · exact resB (decide_eq_false (by omega)).symm
  have he : impl_wordLike_Fimpl_isSmall_j1 (u.length : Int) (tx u) (u.length : Int) = some (.d (.bool (decide (1 ≤ u.length ∧ u.length ≤ 8))), []) := by
    rw [impl_wordLike_Fimpl_isSmall_j1_eq, oite_dec, if_neg (by omega), tx_size, hw, ocall_bool]
  have rest : ∀ (q pre : List UInt8), pre ≠ [] → pre ++ q = u → impl_wordLike_Fimpl_isSmall_j1 (pre.length : Int) (tx u) (u.length : Int) = some (.d (.bool (q.all (fun b => smB b || dgB b) && decide (1 ≤ u.length ∧ u.length ≤ 8))), []) := by
    intro q
    induction q with
    | nil =>
      intro pre hp h
      rw [List.append_nil] at h; subst h
      rw [he]; simp
    | cons a q ih =>
      intro pre hp h
      have hn := ih (pre ++ [a]) (by simp) (by simpa using h)
      rw [List.length_append, List.length_singleton] at hn
      rw [isSmall_step u pre q a h hl, if_neg hp, hn]
      by_cases hs : (smB a || dgB a) = true
      · rw [if_pos hs]; simp only [List.all_cons, hs, Bool.true_and]
      · rw [if_neg hs]
        have hs' : (smB a || dgB a) = false := by simpa using hs
        simp only [List.all_cons, hs', Bool.false_and]
  rw [impl_wordLike_Fimpl_isSmall_eq, tx_size]
  cases u with
  | nil =>
    have := he
    simp only [List.length_nil] at this
    exact this
  | cons a r =>
    have h0 := isSmall_step (a :: r) [] r a rfl hl
    have h1 := rest r [a] (by simp) rfl
    simp only [List.length_nil, List.length_singleton] at h0 h1
    rw [if_pos trivial] at h0
    refine h0.trans ?_
    have e1 : (((0 + 1 : Nat) : Nat) : Int) = ((1 : Nat) : Int) := rfl
    rw [e1, h1]
    unfold wordB
    have e : decide (1 ≤ (a :: r).length ∧ (a :: r).length ≤ 8) = decide (r.length ≤ 7) := decide_eq_decide.2 (by simp only [List.length_cons]; omega)
    rw [e]
    by_cases hf : smB a = true <;> simp [hf]
theorem isGreat_step (u pre q : List UInt8) (a : UInt8) (h : pre ++ a :: q = u) (hl : u.length < 4611686018427387904) : impl_wordLike_Fimpl_isGreat_j1 (pre.length : Int) (tx u) (u.length : Int) = if (if pre = [] then grB a else smB a || dgB a) = true then impl_wordLike_Fimpl_isGreat_j1 ((pre.length + 1 : Nat) : Int) (tx u) (u.length : Int) else some (.d (.bool false), []) := by
  have hlt := len_mid h
  have j2 : ∀ c : Bool, impl_wordLike_Fimpl_isGreat_j2 (tx u) (u.length : Int) (pre.length : Int) c = if c = true then some (.d (.bool false), []) else impl_wordLike_Fimpl_isGreat_j1 ((pre.length + 1 : Nat) : Int) (tx u) (u.length : Int) := by
    intro c
    rw [impl_wordLike_Fimpl_isGreat_j2_eq, oite_bool, w64_succ (by omega)]
  have hg : (0 : Int) ≤ (pre.length : Int) ∧ (pre.length : Int) < (((tx u).size : Nat) : Int) := by rw [tx_size]; omega
  rw [impl_wordLike_Fimpl_isGreat_j1_eq, oite_dec, if_pos (by omega), oite_if]
  by_cases hp : pre = []
  · subst hp
    rw [if_pos (by rfl), if_pos rfl, oguard_dec hg, W_byte u [] q a h, isGreat_ok, ocall_bool, oite_nbool]
    by_cases hf : grB a = true
    · rw [if_pos hf, if_pos hf, oite_dec, if_neg (by simp), j2]; simp
    · rw [if_neg hf, if_neg hf, j2]; simp
  · have h0 : pre.length ≠ 0 := fun e => hp (List.length_eq_zero_iff.1 e)
    rw [if_neg (by simp; omega), if_neg hp, oite_dec, if_pos (by omega), oguard_dec hg, W_byte u pre q a h, isSmall_ok, ocall_bool, oite_nbool]
    by_cases hs : smB a = true
    · rw [if_pos hs, j2]; simp [hs]
    · rw [if_neg hs, oguard_dec hg, isDigit_ok, ocall_bool, j2]
      by_cases hd : dgB a = true <;> simp [hs, hd]
theorem isGreat_word (u : List UInt8) (hl : u.length < 4611686018427387904) : impl_wordLike_Fimpl_isGreat (tx u) = some (.d (.bool (wordB true u)), []) := by
  have hw : ∀ n : Nat, impl_within (n : Int) 1 8 = some (.d (.bool (decide (1 ≤ n ∧ n ≤ 8))), []) := by
    intro n
    rw [impl_within_eq, oite_dec]
    split
    · exact resB (decide_eq_decide.2 (by omega))
    · exact resB (decide_eq_false (by omega)).symm
  have he : impl_wordLike_Fimpl_isGreat_j1 (u.length : Int) (tx u) (u.length : Int) = some (.d (.bool (decide (1 ≤ u.length ∧ u.length ≤ 8))), []) := by
    rw [impl_wordLike_Fimpl_isGreat_j1_eq, oite_dec, if_neg (by omega), tx_size, hw, ocall_bool]
  have rest : ∀ (q pre : List UInt8), pre ≠ [] → pre ++ q = u → impl_wordLike_Fimpl_isGreat_j1 (pre.length : Int) (tx u) (u.length : Int) = some (.d (.bool (q.all (fun b => smB b || dgB b) && decide (1 ≤ u.length ∧ u.length ≤ 8))), []) := by
    intro q
    induction q with
    | nil =>
      intro pre hp h
      rw [List.append_nil] at h; subst h
      rw [he]; simp
    | cons a q ih =>
      intro pre hp h
      have hn := ih (pre ++ [a]) (by simp) (by simpa using h)
      rw [List.length_append, List.length_singleton] at hn
      rw [isGreat_step u pre q a h hl, if_neg hp, hn]
      by_cases hs : (smB a || dgB a) = true
      · rw [if_pos hs]; simp only [List.all_cons, hs, Bool.true_and]
      · rw [if_neg hs]
        have hs' : (smB a || dgB a) = false := by simpa using hs
        simp only [List.all_cons, hs', Bool.false_and]
  rw [impl_wordLike_Fimpl_isGreat_eq, tx_size]
  cases u with
  | nil =>
    have := he
    simp only [List.length_nil] at this
    exact this
  | cons a r =>
    have h0 := isGreat_step (a :: r) [] r a rfl hl
    have h1 := rest r [a] (by simp) rfl
    simp only [List.length_nil, List.length_singleton] at h0 h1
    rw [if_pos trivial] at h0
    refine h0.trans ?_
    have e1 : (((0 + 1 : Nat) : Nat) : Int) = ((1 : Nat) : Int) := rfl
    rw [e1, h1]
    unfold wordB
    have e : decide (1 ≤ (a :: r).length ∧ (a :: r).length ≤ 8) = decide (r.length ≤ 7) := decide_eq_decide.2 (by simp only [List.length_cons]; omega)
    rw [e]
    by_cases hf : grB a = true <;> simp [hf]
def wordsU : List UInt8 := [102, 110, 32, 108, 101, 116, 32, 114, 101, 99, 32, 105, 102, 32, 112, 97, 105, 114, 32, 102, 115, 116, 32, 115, 110, 100, 32, 114, 101, 102, 32, 114, 101, 97, 100, 32, 119, 114, 105, 116, 101, 32, 109, 97, 116, 99, 104, 32, 114, 97, 105, 115, 101, 32, 116, 114, 121, 32, 97, 100, 100, 32, 115, 117, 98, 32, 109, 117, 108, 32, 108, 101, 115, 115, 32, 115, 97, 109, 101, 32, 99, 97, 116, 32, 108, 101, 110, 32, 112, 114, 105, 110, 116, 32, 116, 105, 99, 107, 32, 100, 114, 97, 119, 32, 103, 101, 116, 32, 112, 117, 116, 32, 100, 97, 116, 97, 32, 117, 110, 105, 116, 32, 105, 110, 116, 32, 116, 101, 120, 116, 32, 102, 117, 110]
theorem Index_ok (u : List UInt8) (l : List (List UInt8)) (hl : l.length < 4611686018427387904) : ∀ (q pre : List (List UInt8)), pre ++ q = l → ∃ r : Int, slices_Index_string_string_j1 (pre.length : Int) (strs l) (tx u) (l.length : Int) = some (.d (.int .i64 r), []) ∧ decide (r ≥ 0) = q.any fun k => decide (u = k) := by
  intro q
  induction q with
  | nil =>
    intro pre h
    rw [List.append_nil] at h; subst h
    exact ⟨-1, by rw [slices_Index_string_string_j1_eq, oite_dec, if_neg (by omega)], rfl⟩
  | cons a q ih =>
    intro pre h
    have hlt := len_mid h
    obtain ⟨r, h1, h2⟩ := ih (pre ++ [a]) (by simpa using h)
    rw [List.length_append, List.length_singleton] at h1
    rw [slices_Index_string_string_j1_eq, oite_dec, if_pos (by omega), show strs l = sl (sh := [.str]) (fun b => (tx b, ())) l from rfl, oat_mid h rfl, show sl (sh := [.str]) (fun b => (tx b, ())) l = strs l from rfl]
    simp only
    rw [tx_inj, oite_bool, w64_succ (by omega), h1]
    by_cases e : u = a
    · exact ⟨(pre.length : Int), by simp [e], by simp [e]⟩
    · exact ⟨r, by simp [e], by rw [h2]; simp [e]⟩
theorem isKey_ok (u : List UInt8) : impl_isKey (tx u) = some (.d (.bool (keyB u)), []) := by
  have hF : strings_Fields (tx wordsU) = some (.d (.sl false 1 (strs keysU).1 (strs keysU).2), []) := by
    have h1 : (asciiB (tx wordsU) && decide ((tx wordsU).size < 4294967281)) = true := by decide +kernel
    have h2 : fieldN (tx wordsU) = (strs keysU).1 := by decide +kernel
    have h4 : Lib.fields wordsU = keysU := by decide +kernel
    have h3 : fieldEs (tx wordsU) = (strs keysU).2 := by
      unfold fieldEs
      rw [show (tx wordsU).data.toList = wordsU from rfl, h4]
      rfl
    rw [strings_Fields_eq, h1, oguard_true, h2, h3]
  obtain ⟨r, h1, h2⟩ := Index_ok u keysU (by decide) keysU [] rfl
  rw [impl_isKey_eq]
  refine Eq.trans (congrArg (fun z => ocall _ _ z _) (show strings_Fields _ = _ from hF)) ?_
  rw [ocall_sl, slices_Contains_string_string_eq, slices_Index_string_string_eq]
  have h1' : slices_Index_string_string_j1 0 (strs keysU) (tx u) (((strs keysU).1 : Nat) : Int) = some (.d (.int .i64 r), []) := h1
  rw [h1', ocall_int, ocall_bool]
  exact resB h2
theorem isName_ok (u : List UInt8) (hl : u.length < 4611686018427387904) : impl_isName (tx u) = some (.d (.bool (nameB u)), []) := by
  rw [impl_isName_eq, isSmall_word u hl, ocall_bool, oite_bool, isKey_ok]
  unfold nameB
  by_cases h : wordB false u = true
  · rw [if_pos h, ocall_bool]; simp [h]
  · rw [if_neg h]; simp [h]
theorem isCon_ok (u : List UInt8) (hl : u.length < 4611686018427387904) : impl_isCon (tx u) = some (.d (.bool (wordB true u)), []) := by
  rw [impl_isCon_eq, isGreat_word u hl, ocall_bool]
end Go.Ev.Q

/-
  Datas are taken over, weighed and compared as wanted.
-/
namespace Go.Ev.Q
open Go Go.Ev

abbrev szR (n s : Nat) : Res := some (.d (.int .i64 (if s ≤ n then ((n - s : Nat) : Int) else -1)), [])
theorem sz_step {n s t : Nat} {x : Res} (h : x = szR n s) {K : Int → Unit → Res} (hK : ∀ m : Nat, m ≤ n → K m () = szR m t) :
    (ocall (.m (.one (.int .i64))) [] x fun (r0 : Int) (m1 : Unit) => oite (decide (r0 < (0 : Int))) (some ((.d (.int .i64 (-1 : Int))), [])) (K r0 m1)) = szR n (s + t) := by
  subst h
  rw [ocall_int, oite_dec]
  by_cases h1 : s ≤ n
  · rw [if_pos h1, if_neg (by omega)]
    show K ((n - s : Nat) : Int) () = _
    rw [hK (n - s) (by omega)]
    unfold szR
    by_cases h2 : t ≤ n - s
    · rw [if_pos h2, if_pos (by omega), Nat.sub_sub]
    · rw [if_neg h2, if_neg (by omega)]
  · rw [if_neg h1, if_pos (by omega)]
    unfold szR
    rw [if_neg (by omega)]
theorem sz_end {n s : Nat} {x : Res} (h : x = szR n s) :
    (ocall (.m (.one (.int .i64))) [] x fun (r0 : Int) (m1 : Unit) => oite (decide (r0 < (0 : Int))) (some ((.d (.int .i64 (-1 : Int))), [])) (some ((.d (.int .i64 r0)), []))) = szR n s := by
  subst h
  rw [ocall_int, oite_dec]
  by_cases h1 : s ≤ n
  · rw [if_pos h1, if_neg (by omega)]; unfold szR; rw [if_pos h1]
  · rw [if_neg h1, if_pos (by omega)]; unfold szR; rw [if_neg h1]

theorem toByteS_ok (l : List Int) (hl : l.length ≤ 1048576) : laws_toByteS (bytes l) = some (.d (.sl false 1 (bytes l).1 (bytes l).2), []) :=
  to_leaf laws_toByteS_eq laws_toByteS_j1_eq l (by omega) (by omega)
theorem eqByteS_ok (l : List Int) (hl : l.length ≤ 1048576) : laws_eqByteS (bytes l) (bytes l) = some (.d (.bool true), []) :=
  eq_leaf laws_eqByteS_eq laws_eqByteS_j1_eq l (by omega)
theorem szByteS_ok (l : List Int) (hl : lenOk l) (n : Nat) (hn : (n : Int) < 9223372036854775807) : laws_szByteS (bytes l) n = some (.d (.int .i64 (if l.length ≤ n then ((n - l.length : Nat) : Int) else -1)), []) :=
  sz_leaf laws_szByteS_eq (bytes l) hl n hn
theorem szTy_ok (t : Ty) : t.ok → ∀ n : Nat, (n : Int) < 9223372036854775807 → laws_szTy t.ts n = some (.d (.int .i64 (if t.size ≤ n then ((n - t.size : Nat) : Int) else -1)), []) := by
  induction t using Ty.ind with
  | h k n l ih =>
    intro ho m hm
    cases ho with
    | mk hk hn hl ha =>
      rw [laws_szTy_eq, Ty.ts_mk]
      have h := sz_gen (sh := sh_Ty) rfl laws_szTyS_eq laws_szTyS_j1_eq (g := Ty.ts) (size := Ty.size) l hl (fun a h => ih a h (ha a h)) m hm
      rw [show tys l = sl (sh := sh_Ty) Ty.ts l from rfl, h, ocall_int, oite_dec, ← Ty.size_mk (k := k) (n := n)]
      by_cases h1 : (Ty.mk k n l).size ≤ m
      · simp only [if_pos h1]; rw [if_neg (show ¬ (((m - (Ty.mk k n l).size : Nat) : Int) < 0) by omega)]
      · simp only [if_neg h1]; rw [if_pos (by decide)]
theorem toTy_ok (t : Ty) : t.size ≤ 1048576 → laws_toTy t.ts = some (.agg (LS.encs sh_Ty t.ts), []) := by
  induction t using Ty.ind with
  | h k n l ih =>
    intro hs
    rw [Ty.size_mk] at hs
    rw [laws_toTy_eq, Ty.ts_mk]
    have h := to_gen (sh := sh_Ty) rfl laws_toTyS_eq laws_toTyS_j1_eq (g := Ty.ts) l (by omega) (by omega) (fun a h => ih a h (by have := sizes_mem (f := Ty.size) h; omega))
    rw [show tys l = sl (sh := sh_Ty) Ty.ts l from rfl, h, ocall_sl]
theorem eqTy_ok (t : Ty) : t.size ≤ 1048576 → laws_eqTy t.ts t.ts = some (.d (.bool true), []) := by
  induction t using Ty.ind with
  | h k n l ih =>
    intro hs
    rw [Ty.size_mk] at hs
    rw [laws_eqTy_eq, Ty.ts_mk]
    have h := eq_gen (sh := sh_Ty) rfl laws_eqTyS_eq laws_eqTyS_j1_eq (g := Ty.ts) l (by omega) (fun a h => ih a h (by have := sizes_mem (f := Ty.size) h; omega))
    rw [show tys l = sl (sh := sh_Ty) Ty.ts l from rfl, h, ocall_bool]
    simp only [oite_not, beq_self_eq_true, oite_t]
theorem szTyS_ok (l : List Ty) (hl : lenOk l) (ha : ∀ x ∈ l, x.ok) (n : Nat) (hn : (n : Int) < 9223372036854775807) : laws_szTyS (tys l) n = szR n (tysSize l) :=
  sz_gen (sh := sh_Ty) rfl laws_szTyS_eq laws_szTyS_j1_eq (g := Ty.ts) (size := Ty.size) l hl (fun a h => szTy_ok a (ha a h)) n hn
theorem toTyS_ok (l : List Ty) (hs : tysSize l ≤ 1048576) : laws_toTyS (tys l) = some (.d (.sl false 3 (tys l).1 (tys l).2), []) := by
  unfold tysSize at hs
  exact to_gen (sh := sh_Ty) rfl laws_toTyS_eq laws_toTyS_j1_eq (g := Ty.ts) l (by omega) (by omega) (fun a h => toTy_ok a (by have := sizes_mem (f := Ty.size) h; omega))
theorem eqTyS_ok (l : List Ty) (hs : tysSize l ≤ 1048576) : laws_eqTyS (tys l) (tys l) = some (.d (.bool true), []) := by
  unfold tysSize at hs
  exact eq_gen (sh := sh_Ty) rfl laws_eqTyS_eq laws_eqTyS_j1_eq (g := Ty.ts) l (by omega) (fun a h => eqTy_ok a (by have := sizes_mem (f := Ty.size) h; omega))
theorem szCon_ok (x : Con1) (ho : x.ok) (n : Nat) (hn : (n : Int) < 9223372036854775807) : laws_szCon x.ts n = szR n x.size := by
  cases ho with
  | mk h1 hf hfs =>
    rw [laws_szCon_eq, Con1.ts_mk]
    exact sz_step (szByteS_ok _ h1.1 n hn) fun m hm => sz_end (szTyS_ok _ hf hfs m (by omega))
theorem toCon_ok (x : Con1) (hs : x.size ≤ 1048576) : laws_toCon x.ts = some (.agg (LS.encs sh_Con x.ts), []) := by
  obtain ⟨nm, fs⟩ := x
  unfold Con1.size at hs
  rw [laws_toCon_eq, Con1.ts_mk]
  simp only at hs ⊢
  rw [toByteS_ok nm (by omega), ocall_sl, toTyS_ok fs (by omega), ocall_sl]
theorem eqCon_ok (x : Con1) (hs : x.size ≤ 1048576) : laws_eqCon x.ts x.ts = some (.d (.bool true), []) := by
  obtain ⟨nm, fs⟩ := x
  unfold Con1.size at hs
  rw [laws_eqCon_eq, Con1.ts_mk]
  simp only at hs ⊢
  simp only [oite_not, oite_t, eqByteS_ok nm (by omega), eqTyS_ok fs (by omega), ocall_bool]
noncomputable def consSize (l : List Con1) : Nat := l.length + (l.map Con1.size).sum
theorem szConS_ok (l : List Con1) (hl : lenOk l) (ha : ∀ x ∈ l, x.ok) (n : Nat) (hn : (n : Int) < 9223372036854775807) : laws_szConS (cons l) n = szR n (consSize l) :=
  sz_gen (sh := sh_Con) rfl laws_szConS_eq laws_szConS_j1_eq (g := Con1.ts) (size := Con1.size) l hl (fun a h => szCon_ok a (ha a h)) n hn
theorem toConS_ok (l : List Con1) (hs : consSize l ≤ 1048576) : laws_toConS (cons l) = some (.d (.sl false 2 (cons l).1 (cons l).2), []) := by
  unfold consSize at hs
  exact to_gen (sh := sh_Con) rfl laws_toConS_eq laws_toConS_j1_eq (g := Con1.ts) l (by omega) (by omega) (fun a h => toCon_ok a (by have := sizes_mem (f := Con1.size) h; omega))
theorem eqConS_ok (l : List Con1) (hs : consSize l ≤ 1048576) : laws_eqConS (cons l) (cons l) = some (.d (.bool true), []) := by
  unfold consSize at hs
  exact eq_gen (sh := sh_Con) rfl laws_eqConS_eq laws_eqConS_j1_eq (g := Con1.ts) l (by omega) (fun a h => eqCon_ok a (by have := sizes_mem (f := Con1.size) h; omega))
theorem szData_ok (x : Data) (ho : x.ok) (n : Nat) (hn : (n : Int) < 9223372036854775807) : laws_szData x.ts n = szR n x.size := by
  cases ho with
  | mk h1 hv hf hfs =>
    rw [laws_szData_eq, Data.ts_mk]
    exact sz_step (szByteS_ok _ h1.1 n hn) fun m hm => sz_end (szConS_ok _ hf hfs m (by omega))
theorem toData_ok (x : Data) (hs : x.size ≤ 1048576) : laws_toData x.ts = some (.agg (LS.encs sh_Data x.ts), []) := by
  obtain ⟨nm, v, cs⟩ := x
  unfold Data.size at hs
  rw [laws_toData_eq, Data.ts_mk]
  simp only at hs ⊢
  rw [toByteS_ok nm (by omega), ocall_sl, toConS_ok cs (by unfold consSize; omega), ocall_sl]
theorem eqData_ok (x : Data) (hs : x.size ≤ 1048576) : laws_eqData x.ts x.ts = some (.d (.bool true), []) := by
  obtain ⟨nm, v, cs⟩ := x
  unfold Data.size at hs
  rw [laws_eqData_eq, Data.ts_mk]
  simp only at hs ⊢
  simp only [oite_not, oite_t, beq_self_eq_true, eqByteS_ok nm (by omega), eqConS_ok cs (by unfold consSize; omega), ocall_bool]
noncomputable def datasSize (l : List Data) : Nat := l.length + (l.map Data.size).sum
theorem szDataS_ok (l : List Data) (hl : lenOk l) (ha : ∀ x ∈ l, x.ok) (n : Nat) (hn : (n : Int) < 9223372036854775807) : laws_szDataS (datas l) n = szR n (datasSize l) :=
  sz_gen (sh := sh_Data) rfl laws_szDataS_eq laws_szDataS_j1_eq (g := Data.ts) (size := Data.size) l hl (fun a h => szData_ok a (ha a h)) n hn
theorem toDataS_ok (l : List Data) (hs : datasSize l ≤ 1048576) : laws_toDataS (datas l) = some (.d (.sl false 3 (datas l).1 (datas l).2), []) := by
  unfold datasSize at hs
  exact to_gen (sh := sh_Data) rfl laws_toDataS_eq laws_toDataS_j1_eq (g := Data.ts) l (by omega) (by omega) (fun a h => toData_ok a (by have := sizes_mem (f := Data.size) h; omega))
theorem eqDataS_ok (l : List Data) (hs : datasSize l ≤ 1048576) : laws_eqDataS (datas l) (datas l) = some (.d (.bool true), []) := by
  unfold datasSize at hs
  exact eq_gen (sh := sh_Data) rfl laws_eqDataS_eq laws_eqDataS_j1_eq (g := Data.ts) l (by omega) (fun a h => eqData_ok a (by have := sizes_mem (f := Data.size) h; omega))
end Go.Ev.Q
