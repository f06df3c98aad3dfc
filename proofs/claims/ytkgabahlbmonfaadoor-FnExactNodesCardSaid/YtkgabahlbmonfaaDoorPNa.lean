import Derived.Test.YtkgabahlbmonfaaDoorQNodes
import Derived.Test.YtkgabahlbmonfaaDoorEvOwn
set_option linter.unusedVariables false
set_option linter.unusedSimpArgs false
/-
  Sizes of lists.
-/
namespace Go.Ev.Q
open Go Go.Ev

theorem sizes_mem {α : Type} {f : α → Nat} : ∀ {l : List α} {a : α}, a ∈ l → f a ≤ (l.map f).sum
  | b :: l, a, h => by
    simp only [List.map_cons, List.sum_cons]
    rcases List.mem_cons.1 h with rfl | h
    · omega
    · have := sizes_mem (f := f) h; omega
end Go.Ev.Q

/-
  Loops over lists, by what each round does.
-/
namespace Go.Ev.Q
open Go Go.Ev

section
variable {α R σ : Type}
/-- A loop that ends where something does not hold of an element. -/
theorem loop_all {J : Int → R} {l : List α} {p : α → Bool} {bad K : R} (hs : ∀ pre a q, pre ++ a :: q = l → J (pre.length : Int) = if p a = true then J ((pre.length + 1 : Nat) : Int) else bad) (he : J (l.length : Int) = K) :
    J 0 = if l.all p = true then K else bad := by
  have key : ∀ (q pre : List α), pre ++ q = l → J (pre.length : Int) = if q.all p = true then K else bad := by
    intro q
    induction q with
    | nil => intro pre h; simp at h; subst h; simpa using he
    | cons a q ih =>
      intro pre h
      rw [hs pre a q h]
      have := ih (pre ++ [a]) (by simpa using h)
      rw [List.length_append, List.length_singleton] at this
      rw [this]
      by_cases hp : p a = true
      · simp [hp]
      · simp [hp]
  exact key l [] rfl
/-- A loop that goes on to the end; its state is told by what lies behind. -/
theorem loop_state {J : Int → σ → R} {l : List α} {f : List α → σ} {K : R} (hs : ∀ pre a q, pre ++ a :: q = l → J (pre.length : Int) (f pre) = J ((pre.length + 1 : Nat) : Int) (f (pre ++ [a]))) (he : J (l.length : Int) (f l) = K) :
    J 0 (f []) = K := by
  have key : ∀ (q pre : List α), pre ++ q = l → J (pre.length : Int) (f pre) = K := by
    intro q
    induction q with
    | nil => intro pre h; simp at h; subst h; exact he
    | cons a q ih =>
      intro pre h
      rw [hs pre a q h]
      have := ih (pre ++ [a]) (by simpa using h)
      rw [List.length_append, List.length_singleton] at this
      exact this
  exact key l [] rfl
/-- A loop that may end early, with what it comes to by what is left. -/
theorem loop_rec {J : Int → σ → R} {l : List α} {f : List α → σ → R} (hs : ∀ pre a q s, pre ++ a :: q = l → (∀ s', J ((pre.length + 1 : Nat) : Int) s' = f q s') → J (pre.length : Int) s = f (a :: q) s) (he : ∀ s, J (l.length : Int) s = f [] s) (s : σ) :
    J 0 s = f l s := by
  have key : ∀ (q pre : List α), pre ++ q = l → ∀ s, J (pre.length : Int) s = f q s := by
    intro q
    induction q with
    | nil => intro pre h s; simp at h; subst h; exact he s
    | cons a q ih =>
      intro pre h s
      refine hs pre a q s h (fun s' => ?_)
      have := ih (pre ++ [a]) (by simpa using h) s'
      rw [List.length_append, List.length_singleton] at this
      exact this
  exact key l [] rfl s
end
theorem mem_mid {α : Type} {pre q l : List α} {a : α} (h : pre ++ a :: q = l) : a ∈ l := by rw [← h]; simp
theorem len_mid {α : Type} {pre q l : List α} {a : α} (h : pre ++ a :: q = l) : pre.length < l.length := by rw [← h]; simp
theorem oat_mid {α R : Type} {sh : List LS} {g : α → LS.Ts sh} {pre q l : List α} {a : α} (h : pre ++ a :: q = l) (hs : LS.alld sh = true) {f : LS.Ts sh → Option R} : oat sh (sl g l).1 (sl g l).2 (pre.length : Int) f = f (g a) := by
  rw [← h]; exact oat_at hs
theorem oat_hd {α R : Type} {sh : List LS} {g : α → LS.Ts sh} {q : List α} {a : α} (hs : LS.alld sh = true) {f : LS.Ts sh → Option R} : oat sh (sl g (a :: q)).1 (sl g (a :: q)).2 0 f = f (g a) := oat_at (p := []) hs
theorem resB {b c : Bool} {M : Mem} (h : b = c) : (some (V.d (.bool b), M) : Res) = some (V.d (.bool c), M) := by rw [h]
theorem resI {b c : Int} {M : Mem} (h : b = c) : (some (V.d (.int .i64 b), M) : Res) = some (V.d (.int .i64 c), M) := by rw [h]
theorem oite_bool {R : Type} {b : Bool} {x y : Option R} : oite b x y = if b = true then x else y := oite_if
theorem oite_nbool {R : Type} {b : Bool} {x y : Option R} : oite (!b) x y = if b = true then y else x := by rw [oite_not, oite_if]
end Go.Ev.Q

/-
  Loops that end in truth values.
-/
namespace Go.Ev.Q
open Go Go.Ev

abbrev rB (b : Bool) : Res := some (.d (.bool b), [])
abbrev rI (n : Int) : Res := some (.d (.int .i64 n), [])
theorem oite_rB {b c : Bool} : oite b (rB false) (rB c) = rB (!b && c) := by cases b <;> simp [oite_t, oite_f]
theorem oite_rB' {b c : Bool} : oite b (rB c) (rB false) = rB (b && c) := by cases b <;> simp [oite_t, oite_f]
theorem if_rB {p : Prop} [Decidable p] {c : Bool} : (if p then rB c else rB false) = rB (decide p && c) := by split <;> simp [*]
theorem loopB {α : Type} {J : Int → Res} {l : List α} {p : α → Bool} {c : Bool} (hs : ∀ pre a q, pre ++ a :: q = l → J (pre.length : Int) = if p a = true then J ((pre.length + 1 : Nat) : Int) else rB false) (he : J (l.length : Int) = rB c) :
    J 0 = rB (l.all p && c) := by
  rw [loop_all hs he]
  cases l.all p <;> simp
/-- The place of the first element that is not as wanted. -/
theorem index_all {α : Type} {J : Int → Res} {l : List α} {p : α → Bool} {Mm : Mem} (hs : ∀ pre a q, pre ++ a :: q = l → J (pre.length : Int) = if p a = true then J ((pre.length + 1 : Nat) : Int) else some (.d (.int .i64 (pre.length : Int)), Mm)) (he : J (l.length : Int) = some (.d (.int .i64 (-1)), Mm)) :
    ∃ k : Int, J 0 = some (.d (.int .i64 k), Mm) ∧ decide (k ≥ 0) = !(l.all p) := by
  have key : ∀ (q pre : List α), pre ++ q = l → ∃ k : Int, J (pre.length : Int) = some (.d (.int .i64 k), Mm) ∧ decide (k ≥ 0) = !(q.all p) := by
    intro q
    induction q with
    | nil => intro pre h; simp at h; subst h; exact ⟨-1, he, by simp⟩
    | cons a q ih =>
      intro pre h
      rw [hs pre a q h]
      by_cases hp : p a = true
      · obtain ⟨k, h1, h2⟩ := ih (pre ++ [a]) (by simpa using h)
        rw [List.length_append, List.length_singleton] at h1
        exact ⟨k, by rw [if_pos hp, h1], by simp [hp, h2]⟩
      · exact ⟨pre.length, by rw [if_neg hp], by simp [hp]⟩
  exact key l [] rfl

theorem within_ok (x a b : Int) : impl_within x a b = rB (decide (a ≤ x ∧ x ≤ b)) := by
  rw [impl_within_eq, oite_rB']
  rw [← Bool.decide_and]

/-- Two ways that end in truth values. -/
theorem resP {b c : Bool} (h : b = true ↔ c = true) : rB b = rB c := by rw [Bool.eq_iff_iff.2 h]
end Go.Ev.Q

/-
  Words, names and literals: both sides come to the same.
-/
namespace Go.Ev
open Go
/-- A text's bytes as numbers. -/
def u8s (p : List UInt8) : List Int := p.map fun b => ((b.toNat : Nat) : Int)
theorem u8s_len (p : List UInt8) : (u8s p).length = p.length := by simp [u8s]
def ub (p : List UInt8) : Sl := bytes (u8s p)
theorem ub_n (p : List UInt8) : (ub p).1 = p.length := by unfold ub; rw [bytes_n, u8s_len]
theorem ub_es (p : List UInt8) : (ub p).2 = p.map fun b => [D.int .u8 ((b.toNat : Nat) : Int)] := by simp [ub, bytes, sl, u8s, vDs, LS.encs, LS.enc, vD]
def tx (l : List UInt8) : ByteArray := ⟨l.toArray⟩
theorem tx_size (l : List UInt8) : (tx l).size = l.length := by simp [tx, ByteArray.size]
theorem bytesD_ub : ∀ p : List UInt8, bytesD (ub p).2 = some p := by
  intro p
  rw [ub_es]
  induction p with
  | nil => rfl
  | cons b p ih => simp only [List.map_cons, bytesD, ih]; simp
theorem ostr_ub {R : Type} {p : List UInt8} {f : ByteArray → Option R} : ostr (ub p).2 f = f (tx p) := ostr_t (bytesD_ub p)
theorem tx_inj {p q : List UInt8} : ((tx p).toList == (tx q).toList) = decide (p = q) := by
  have h : ∀ l : List UInt8, (tx l).toList = l := fun l => by
    rw [ByteArray.toList_eq]
    simp [tx]
  rw [h, h]
  by_cases e : p = q
  · simp [e]
  · simp [e]
/-- Small bytes are a text's. -/
theorem byteL_ub {l : List Int} (h : byteL l) : bytes l = ub (l.map fun x => UInt8.ofNat x.toNat) := by
  unfold ub
  congr 1
  induction l with
  | nil => rfl
  | cons x l ih =>
    have hx := h x (by simp)
    simp only [u8s, List.map_cons, List.map_map] at ih ⊢
    congr 1
    · rw [UInt8.toNat_ofNat']
      omega
    · exact ih fun y hy => h y (by simp [hy])
def smB (b : UInt8) : Bool := decide (97 ≤ b.toNat ∧ b.toNat ≤ 122)
def grB (b : UInt8) : Bool := decide (65 ≤ b.toNat ∧ b.toNat ≤ 90)
def dgB (b : UInt8) : Bool := decide (48 ≤ b.toNat ∧ b.toNat ≤ 57)
/-- Is it a word? -/
def wordB (great : Bool) : List UInt8 → Bool
  | [] => false
  | a :: r => (if great = true then grB a else smB a) && (r.all (fun b => smB b || dgB b) && decide (r.length ≤ 7))
def keysU : List (List UInt8) := [[102, 110], [108, 101, 116], [114, 101, 99], [105, 102], [112, 97, 105, 114], [102, 115, 116], [115, 110, 100], [114, 101, 102], [114, 101, 97, 100], [119, 114, 105, 116, 101], [109, 97, 116, 99, 104], [114, 97, 105, 115, 101], [116, 114, 121], [97, 100, 100], [115, 117, 98], [109, 117, 108], [108, 101, 115, 115], [115, 97, 109, 101], [99, 97, 116], [108, 101, 110], [112, 114, 105, 110, 116], [116, 105, 99, 107], [100, 114, 97, 119], [103, 101, 116], [112, 117, 116], [100, 97, 116, 97], [117, 110, 105, 116], [105, 110, 116], [116, 101, 120, 116], [102, 117, 110]]
def keyB (u : List UInt8) : Bool := keysU.any fun k => decide (u = k)
def nameB (u : List UInt8) : Bool := wordB false u && !keyB u
/-- Texts, one a cell. -/
def strs (q : List (List UInt8)) : Sl := sl (sh := [.str]) (fun b => (tx b, ())) q
theorem strs_n (q : List (List UInt8)) : (strs q).1 = q.length := rfl
namespace Q
open Go Go.Ev

theorem l5lower_ok (b : UInt8) : spec_l5lower ((b.toNat : Nat) : Int) = some (.d (.bool (smB b)), []) := by
  rw [spec_l5lower_eq, oite_dec]
  unfold smB
  split
  · exact resB (decide_eq_decide.2 (by omega))
  · exact resB (decide_eq_false (by omega)).symm
theorem l5upper_ok (b : UInt8) : spec_l5upper ((b.toNat : Nat) : Int) = some (.d (.bool (grB b)), []) := by
  rw [spec_l5upper_eq, oite_dec]
  unfold grB
  split
  · exact resB (decide_eq_decide.2 (by omega))
  · exact resB (decide_eq_false (by omega)).symm
theorem l5digit_ok (b : UInt8) : spec_l5digit ((b.toNat : Nat) : Int) = some (.d (.bool (dgB b)), []) := by
  rw [spec_l5digit_eq, oite_dec]
  unfold dgB
  split
  · exact resB (decide_eq_decide.2 (by omega))
  · exact resB (decide_eq_false (by omega)).symm
theorem oat_ub {R : Type} {pre q u : List UInt8} {a : UInt8} (h : pre ++ a :: q = u) {f : (Int × Unit) → Option R} : oat [.int .u8] (ub u).1 (ub u).2 (pre.length : Int) f = f (((a.toNat : Nat) : Int), ()) := by
  have := oat_mid (sh := [.int .u8]) (g := fun x : Int => (x, ())) (pre := u8s pre) (q := u8s q) (l := u8s u) (a := ((a.toNat : Nat) : Int)) (by rw [← h]; simp [u8s]) rfl (f := f)
  rw [u8s_len] at this
  exact this
/-- Behind the first byte. -/
theorem l5word_rest (g : Bool) (u : List UInt8) (hl : u.length ≤ 8) : ∀ (q pre : List UInt8), pre ≠ [] → pre ++ q = u → spec_l5word_j3 (pre.length : Int) (ub u) g = some (.d (.bool (q.all fun b => smB b || dgB b)), []) := by
  intro q
  induction q with
  | nil =>
    intro pre hp h
    rw [List.append_nil] at h; subst h
    rw [spec_l5word_j3_eq, oite_dec, if_neg (by rw [ub_n]; omega)]
    rfl
  | cons a q ih =>
    intro pre hp h
    have hlt := len_mid h
    have h0 : pre.length ≠ 0 := fun e => hp (List.length_eq_zero_iff.1 e)
    have hn := ih (pre ++ [a]) (by simp) (by simpa using h)
    rw [List.length_append, List.length_singleton] at hn
    rw [spec_l5word_j3_eq, oite_dec, if_pos (by rw [ub_n]; omega), oite_if, if_neg (by simp; omega), spec_l5word_j5_eq, oite_f, spec_l5word_j4_eq, oat_ub h]
    simp only
    rw [l5lower_ok, ocall_bool, oite_nbool]
    have j6 : ∀ c : Bool, spec_l5word_j6 (ub u) g (pre.length : Int) c = if c = true then some (.d (.bool false), []) else some (.d (.bool (q.all fun b => smB b || dgB b)), []) := by
      intro c
      rw [spec_l5word_j6_eq, oite_bool, w64_succ (by omega), hn]
    by_cases hs : smB a = true
    · rw [if_pos hs, j6]
      simp [hs]
    · rw [if_neg hs, oite_dec, if_pos (by omega), oat_ub h]
      simp only
      rw [l5digit_ok, ocall_bool, j6]
      by_cases hd : dgB a = true <;> simp [hs, hd]
theorem l5word_ok (g : Bool) (u : List UInt8) : spec_l5word (ub u) g = some (.d (.bool (wordB g u)), []) := by
  have j2 : ∀ c : Bool, spec_l5word_j2 (ub u) g c = if c = true then some (.d (.bool false), []) else spec_l5word_j3 0 (ub u) g := by
    intro c
    rw [spec_l5word_j2_eq, oite_bool, spec_l5word_j1_eq]
  rw [spec_l5word_eq, oite_dec, j2, j2]
  cases u with
  | nil => rw [if_pos (by rw [ub_n]; simp)]; rfl
  | cons a r =>
    rw [if_neg (by rw [ub_n]; simp only [List.length_cons]; omega)]
    by_cases hl : r.length ≤ 7
    · rw [if_neg (by rw [ub_n]; simp only [List.length_cons]; simp; omega)]
      have hn := l5word_rest g (a :: r) (by simp only [List.length_cons]; omega) r [a] (by simp) rfl
      simp only [List.length_singleton] at hn
      have hat : ∀ {R : Type} {f : (Int × Unit) → Option R}, oat [.int .u8] (ub (a :: r)).1 (ub (a :: r)).2 0 f = f (((a.toNat : Nat) : Int), ()) := fun {R f} => oat_ub (pre := []) rfl
      have hw : w64 ((0 : Int) + 1) = ((1 : Nat) : Int) := by simp [w64, IntKind.wrap, IntKind.bits, IntKind.signed]
      rw [spec_l5word_j3_eq, oite_dec, if_pos (by rw [ub_n]; simp only [List.length_cons]; omega), oite_if, if_pos (by rfl), spec_l5word_j5_eq, oite_bool, hat]
      simp only
      rw [l5upper_ok, ocall_bool, oite_nbool, hw, hn]
      unfold wordB
      cases g with
      | true =>
        rw [if_pos rfl]
        by_cases hg : grB a = true
        · rw [if_pos hg]; simp [hg, hl]
        · rw [if_neg hg]; simp [hg]
      | false =>
        rw [if_neg (by simp), spec_l5word_j4_eq, hat]
        simp only
        rw [l5lower_ok, ocall_bool, oite_nbool]
        have j6 : ∀ c : Bool, spec_l5word_j6 (ub (a :: r)) false 0 c = if c = true then some (.d (.bool false), []) else some (.d (.bool (r.all fun b => smB b || dgB b)), []) := by
          intro c
          rw [spec_l5word_j6_eq, oite_bool, hw, hn]
        by_cases hs : smB a = true
        · rw [if_pos hs, j6]; simp [hs, hl]
        · rw [if_neg hs, oite_dec, if_neg (by omega), j6]; simp [hs]
    · rw [if_pos (by rw [ub_n]; simp only [List.length_cons]; simp; omega)]
      unfold wordB
      simp [hl]
theorem l5key_ok (u : List UInt8) : spec_l5key (ub u) = some (.d (.bool (keyB u)), []) := by
  have hk : spec_l5keys = some (.d (.sl false 1 (strs keysU).1 (strs keysU).2), []) := by rw [spec_l5keys_eq]; rfl
  rw [spec_l5key_eq, hk, ocall_sl]
  have hs : ∀ pre a q, pre ++ a :: q = keysU → spec_l5key_j1 (pre.length : Int) (strs keysU) (ub u) = if (!decide (u = a)) = true then spec_l5key_j1 ((pre.length + 1 : Nat) : Int) (strs keysU) (ub u) else some (.d (.bool true), []) := by
    intro pre a q h
    have hlt := len_mid h
    have h30 : keysU.length = 30 := rfl
    rw [spec_l5key_j1_eq, oite_dec, if_pos (by rw [strs_n]; omega), show strs keysU = sl (sh := [.str]) (fun b => (tx b, ())) keysU from rfl, oat_mid h rfl, show sl (sh := [.str]) (fun b => (tx b, ())) keysU = strs keysU from rfl]
    simp only
    rw [spec_l5is_eq, ostr_ub, ocall_bool, tx_inj, oite_bool, w64_succ (by omega)]
    by_cases e : u = a <;> simp [e]
  have := loop_all (l := keysU) (p := fun a => !decide (u = a)) (J := fun i => spec_l5key_j1 i (strs keysU) (ub u)) (bad := some (.d (.bool true), [])) (K := some (.d (.bool false), [])) hs (by
    rw [spec_l5key_j1_eq, oite_dec, if_neg (by rw [strs_n]; omega)])
  rw [this]
  unfold keyB
  rw [List.all_eq_not_any_not]
  simp only [Bool.not_not]
  cases (keysU.any fun k => decide (u = k)) <;> rfl
theorem l5name_ok (u : List UInt8) : spec_l5name (ub u) = some (.d (.bool (nameB u)), []) := by
  rw [spec_l5name_eq, l5word_ok, ocall_bool, oite_bool, l5key_ok]
  unfold nameB
  by_cases h : wordB false u = true
  · rw [if_pos h, ocall_bool]; simp [h]
  · rw [if_neg h]; simp [h]
end Q
end Go.Ev

/-
  Words, names and literals by the program.
-/
namespace Go.Ev.Q
open Go Go.Ev

theorem isSmall_ok (b : UInt8) : impl_isSmall ((b.toNat : Nat) : Int) = some (.d (.bool (smB b)), []) := by
  rw [impl_isSmall_eq, oite_dec]
  unfold smB
  split
  · exact resB (decide_eq_decide.2 (by omega))
  · exact resB (decide_eq_false (by omega)).symm
theorem isGreat_ok (b : UInt8) : impl_isGreat ((b.toNat : Nat) : Int) = some (.d (.bool (grB b)), []) := by
  rw [impl_isGreat_eq, oite_dec]
  unfold grB
  split
  · exact resB (decide_eq_decide.2 (by omega))
  · exact resB (decide_eq_false (by omega)).symm
theorem isDigit_ok (b : UInt8) : impl_isDigit ((b.toNat : Nat) : Int) = some (.d (.bool (dgB b)), []) := by
  rw [impl_isDigit_eq, oite_dec]
  unfold dgB
  split
  · exact resB (decide_eq_decide.2 (by omega))
  · exact resB (decide_eq_false (by omega)).symm
theorem W_byte (u pre q : List UInt8) (a : UInt8) (h : pre ++ a :: q = u) : byteAt (tx u) (Int.toNat (pre.length : Int)) = ((a.toNat : Nat) : Int) := by
  unfold byteAt
  have : (tx u).data.toList.getD (Int.toNat (pre.length : Int)) 0 = a := by
    rw [← h]; simp [tx]
  rw [this]
theorem isSmall_step (u pre q : List UInt8) (a : UInt8) (h : pre ++ a :: q = u) (hl : u.length < 4611686018427387904) : impl_wordLike_Fimpl_isSmall_j1 (pre.length : Int) (tx u) (u.length : Int) = if (if pre = [] then smB a else smB a || dgB a) = true then impl_wordLike_Fimpl_isSmall_j1 ((pre.length + 1 : Nat) : Int) (tx u) (u.length : Int) else some (.d (.bool false), []) := by
  have hlt := len_mid h
  have j2 : ∀ c : Bool, impl_wordLike_Fimpl_isSmall_j2 (tx u) (u.length : Int) (pre.length : Int) c = if c = true then some (.d (.bool false), []) else impl_wordLike_Fimpl_isSmall_j1 ((pre.length + 1 : Nat) : Int) (tx u) (u.length : Int) := by
    intro c
    rw [impl_wordLike_Fimpl_isSmall_j2_eq, oite_bool, w64_succ (by omega)]
  have hg : (0 : Int) ≤ (pre.length : Int) ∧ (pre.length : Int) < (((tx u).size : Nat) : Int) := by rw [tx_size]; omega
  rw [impl_wordLike_Fimpl_isSmall_j1_eq, oite_dec, if_pos (by omega), oite_if]
  by_cases hp : pre = []
  · subst hp
    rw [if_pos (by rfl), if_pos rfl, oguard_dec hg, W_byte u [] q a h, isSmall_ok, ocall_bool, oite_nbool]
    by_cases hf : smB a = true
    · rw [if_pos hf, if_pos hf, oite_dec, if_neg (by simp), j2]; simp
    · rw [if_neg hf, if_neg hf, j2]; simp
  · have h0 : pre.length ≠ 0 := fun e => hp (List.length_eq_zero_iff.1 e)
    rw [if_neg (by simp; omega), if_neg hp, oite_dec, if_pos (by omega), oguard_dec hg, W_byte u pre q a h, isSmall_ok, ocall_bool, oite_nbool]
    by_cases hs : smB a = true
    · rw [if_pos hs, j2]; simp [hs]
    · rw [if_neg hs, oguard_dec hg, isDigit_ok, ocall_bool, j2]
      by_cases hd : dgB a = true <;> simp [hs, hd]
theorem isSmall_word (u : List UInt8) (hl : u.length < 4611686018427387904) : impl_wordLike_Fimpl_isSmall (tx u) = some (.d (.bool (wordB false u)), []) := by
  have hw : ∀ n : Nat, impl_within (n : Int) 1 8 = some (.d (.bool (decide (1 ≤ n ∧ n ≤ 8))), []) := by
    intro n
    rw [impl_within_eq, oite_dec]
    split
    · exact resB (decide_eq_decide.2 (by omega))
    · exact resB (decide_eq_false (by omega)).symm
  have he : impl_wordLike_Fimpl_isSmall_j1 (u.length : Int) (tx u) (u.length : Int) = some (.d (.bool (decide (1 ≤ u.length ∧ u.length ≤ 8))), []) := by
    rw [impl_wordLike_Fimpl_isSmall_j1_eq, oite_dec, if_neg (by omega), tx_size, hw, ocall_bool]
  have rest : ∀ (q pre : List UInt8), pre ≠ [] → pre ++ q = u → impl_wordLike_Fimpl_isSmall_j1 (pre.length : Int) (tx u) (u.length : Int) = some (.d (.bool (q.all (fun b => smB b || dgB b) && decide (1 ≤ u.length ∧ u.length ≤ 8))), []) := by
    intro q
    induction q with
    | nil =>
      intro pre hp h
      rw [List.append_nil] at h; subst h
      rw [he]; simp
    | cons a q ih =>
      intro pre hp h
      have hn := ih (pre ++ [a]) (by simp) (by simpa using h)
      rw [List.length_append, List.length_singleton] at hn
      rw [isSmall_step u pre q a h hl, if_neg hp, hn]
      by_cases hs : (smB a || dgB a) = true
      · rw [if_pos hs]; simp only [List.all_cons, hs, Bool.true_and]
      · rw [if_neg hs]
        have hs' : (smB a || dgB a) = false := by simpa using hs
        simp only [List.all_cons, hs', Bool.false_and]
  rw [impl_wordLike_Fimpl_isSmall_eq, tx_size]
  cases u with
  | nil =>
    have := he
    simp only [List.length_nil] at this
    exact this
  | cons a r =>
    have h0 := isSmall_step (a :: r) [] r a rfl hl
    have h1 := rest r [a] (by simp) rfl
    simp only [List.length_nil, List.length_singleton] at h0 h1
    rw [if_pos trivial] at h0
    refine h0.trans ?_
    have e1 : (((0 + 1 : Nat) : Nat) : Int) = ((1 : Nat) : Int) := rfl
    rw [e1, h1]
    unfold wordB
    have e : decide (1 ≤ (a :: r).length ∧ (a :: r).length ≤ 8) = decide (r.length ≤ 7) := decide_eq_decide.2 (by simp only [List.length_cons]; omega)
    rw [e]
    by_cases hf : smB a = true <;> simp [hf]
theorem isGreat_step (u pre q : List UInt8) (a : UInt8) (h : pre ++ a :: q = u) (hl : u.length < 4611686018427387904) : impl_wordLike_Fimpl_isGreat_j1 (pre.length : Int) (tx u) (u.length : Int) = if (if pre = [] then grB a else smB a || dgB a) = true then impl_wordLike_Fimpl_isGreat_j1 ((pre.length + 1 : Nat) : Int) (tx u) (u.length : Int) else some (.d (.bool false), []) := by
  have hlt := len_mid h
  have j2 : ∀ c : Bool, impl_wordLike_Fimpl_isGreat_j2 (tx u) (u.length : Int) (pre.length : Int) c = if c = true then some (.d (.bool false), []) else impl_wordLike_Fimpl_isGreat_j1 ((pre.length + 1 : Nat) : Int) (tx u) (u.length : Int) := by
    intro c
    rw [impl_wordLike_Fimpl_isGreat_j2_eq, oite_bool, w64_succ (by omega)]
  have hg : (0 : Int) ≤ (pre.length : Int) ∧ (pre.length : Int) < (((tx u).size : Nat) : Int) := by rw [tx_size]; omega
  rw [impl_wordLike_Fimpl_isGreat_j1_eq, oite_dec, if_pos (by omega), oite_if]
  by_cases hp : pre = []
  · subst hp
    rw [if_pos (by rfl), if_pos rfl, oguard_dec hg, W_byte u [] q a h, isGreat_ok, ocall_bool, oite_nbool]
    by_cases hf : grB a = true
    · rw [if_pos hf, if_pos hf, oite_dec, if_neg (by simp), j2]; simp
    · rw [if_neg hf, if_neg hf, j2]; simp
  · have h0 : pre.length ≠ 0 := fun e => hp (List.length_eq_zero_iff.1 e)
    rw [if_neg (by simp; omega), if_neg hp, oite_dec, if_pos (by omega), oguard_dec hg, W_byte u pre q a h, isSmall_ok, ocall_bool, oite_nbool]
    by_cases hs : smB a = true
    · rw [if_pos hs, j2]; simp [hs]
    · rw [if_neg hs, oguard_dec hg, isDigit_ok, ocall_bool, j2]
      by_cases hd : dgB a = true <;> simp [hs, hd]
theorem isGreat_word (u : List UInt8) (hl : u.length < 4611686018427387904) : impl_wordLike_Fimpl_isGreat (tx u) = some (.d (.bool (wordB true u)), []) := by
  have hw : ∀ n : Nat, impl_within (n : Int) 1 8 = some (.d (.bool (decide (1 ≤ n ∧ n ≤ 8))), []) := by
    intro n
    rw [impl_within_eq, oite_dec]
    split
    · exact resB (decide_eq_decide.2 (by omega))
    · exact resB (decide_eq_false (by omega)).symm
  have he : impl_wordLike_Fimpl_isGreat_j1 (u.length : Int) (tx u) (u.length : Int) = some (.d (.bool (decide (1 ≤ u.length ∧ u.length ≤ 8))), []) := by
    rw [impl_wordLike_Fimpl_isGreat_j1_eq, oite_dec, if_neg (by omega), tx_size, hw, ocall_bool]
  have rest : ∀ (q pre : List UInt8), pre ≠ [] → pre ++ q = u → impl_wordLike_Fimpl_isGreat_j1 (pre.length : Int) (tx u) (u.length : Int) = some (.d (.bool (q.all (fun b => smB b || dgB b) && decide (1 ≤ u.length ∧ u.length ≤ 8))), []) := by
    intro q
    induction q with
    | nil =>
      intro pre hp h
      rw [List.append_nil] at h; subst h
      rw [he]; simp
    | cons a q ih =>
      intro pre hp h
      have hn := ih (pre ++ [a]) (by simp) (by simpa using h)
      rw [List.length_append, List.length_singleton] at hn
      rw [isGreat_step u pre q a h hl, if_neg hp, hn]
      by_cases hs : (smB a || dgB a) = true
      · rw [if_pos hs]; simp only [List.all_cons, hs, Bool.true_and]
      · rw [if_neg hs]
        have hs' : (smB a || dgB a) = false := by simpa using hs
        simp only [List.all_cons, hs', Bool.false_and]
  rw [impl_wordLike_Fimpl_isGreat_eq, tx_size]
  cases u with
  | nil =>
    have := he
    simp only [List.length_nil] at this
    exact this
  | cons a r =>
    have h0 := isGreat_step (a :: r) [] r a rfl hl
    have h1 := rest r [a] (by simp) rfl
    simp only [List.length_nil, List.length_singleton] at h0 h1
    rw [if_pos trivial] at h0
    refine h0.trans ?_
    have e1 : (((0 + 1 : Nat) : Nat) : Int) = ((1 : Nat) : Int) := rfl
    rw [e1, h1]
    unfold wordB
    have e : decide (1 ≤ (a :: r).length ∧ (a :: r).length ≤ 8) = decide (r.length ≤ 7) := decide_eq_decide.2 (by simp only [List.length_cons]; omega)
    rw [e]
    by_cases hf : grB a = true <;> simp [hf]
def wordsU : List UInt8 := [102, 110, 32, 108, 101, 116, 32, 114, 101, 99, 32, 105, 102, 32, 112, 97, 105, 114, 32, 102, 115, 116, 32, 115, 110, 100, 32, 114, 101, 102, 32, 114, 101, 97, 100, 32, 119, 114, 105, 116, 101, 32, 109, 97, 116, 99, 104, 32, 114, 97, 105, 115, 101, 32, 116, 114, 121, 32, 97, 100, 100, 32, 115, 117, 98, 32, 109, 117, 108, 32, 108, 101, 115, 115, 32, 115, 97, 109, 101, 32, 99, 97, 116, 32, 108, 101, 110, 32, 112, 114, 105, 110, 116, 32, 116, 105, 99, 107, 32, 100, 114, 97, 119, 32, 103, 101, 116, 32, 112, 117, 116, 32, 100, 97, 116, 97, 32, 117, 110, 105, 116, 32, 105, 110, 116, 32, 116, 101, 120, 116, 32, 102, 117, 110]
theorem Index_ok (u : List UInt8) (l : List (List UInt8)) (hl : l.length < 4611686018427387904) : ∀ (q pre : List (List UInt8)), pre ++ q = l → ∃ r : Int, slices_Index_string_string_j1 (pre.length : Int) (strs l) (tx u) (l.length : Int) = some (.d (.int .i64 r), []) ∧ decide (r ≥ 0) = q.any fun k => decide (u = k) := by
  intro q
  induction q with
  | nil =>
    intro pre h
    rw [List.append_nil] at h; subst h
    exact ⟨-1, by rw [slices_Index_string_string_j1_eq, oite_dec, if_neg (by omega)], rfl⟩
  | cons a q ih =>
    intro pre h
    have hlt := len_mid h
    obtain ⟨r, h1, h2⟩ := ih (pre ++ [a]) (by simpa using h)
    rw [List.length_append, List.length_singleton] at h1
    rw [slices_Index_string_string_j1_eq, oite_dec, if_pos (by omega), show strs l = sl (sh := [.str]) (fun b => (tx b, ())) l from rfl, oat_mid h rfl, show sl (sh := [.str]) (fun b => (tx b, ())) l = strs l from rfl]
    simp only
    rw [tx_inj, oite_bool, w64_succ (by omega), h1]
    by_cases e : u = a
    · exact ⟨(pre.length : Int), by simp [e], by simp [e]⟩
    · exact ⟨r, by simp [e], by rw [h2]; simp [e]⟩
theorem isKey_ok (u : List UInt8) : impl_isKey (tx u) = some (.d (.bool (keyB u)), []) := by
  have hF : strings_Fields (tx wordsU) = some (.d (.sl false 1 (strs keysU).1 (strs keysU).2), []) := by
    have h1 : (asciiB (tx wordsU) && decide ((tx wordsU).size < 4294967281)) = true := by decide +kernel
    have h2 : fieldN (tx wordsU) = (strs keysU).1 := by decide +kernel
    have h4 : Lib.fields wordsU = keysU := by decide +kernel
    have h3 : fieldEs (tx wordsU) = (strs keysU).2 := by
      unfold fieldEs
      rw [show (tx wordsU).data.toList = wordsU from rfl, h4]
      rfl
    rw [strings_Fields_eq, h1, oguard_true, h2, h3]
  obtain ⟨r, h1, h2⟩ := Index_ok u keysU (by decide) keysU [] rfl
  rw [impl_isKey_eq]
  refine Eq.trans (congrArg (fun z => ocall _ _ z _) (show strings_Fields _ = _ from hF)) ?_
  rw [ocall_sl, slices_Contains_string_string_eq, slices_Index_string_string_eq]
  have h1' : slices_Index_string_string_j1 0 (strs keysU) (tx u) (((strs keysU).1 : Nat) : Int) = some (.d (.int .i64 r), []) := h1
  rw [h1', ocall_int, ocall_bool]
  exact resB h2
theorem isName_ok (u : List UInt8) (hl : u.length < 4611686018427387904) : impl_isName (tx u) = some (.d (.bool (nameB u)), []) := by
  rw [impl_isName_eq, isSmall_word u hl, ocall_bool, oite_bool, isKey_ok]
  unfold nameB
  by_cases h : wordB false u = true
  · rw [if_pos h, ocall_bool]; simp [h]
  · rw [if_neg h]; simp [h]
theorem isCon_ok (u : List UInt8) (hl : u.length < 4611686018427387904) : impl_isCon (tx u) = some (.d (.bool (wordB true u)), []) := by
  rw [impl_isCon_eq, isGreat_word u hl, ocall_bool]
end Go.Ev.Q
