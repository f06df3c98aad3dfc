import Derived.Test.YtkgabahlbmonfaaDoorEvMi
set_option linter.unusedVariables false
set_option linter.unusedSimpArgs false
/-
  The evaluator's operations go on at one point: what goes on there decides.
-/
namespace Go.Ev
open Go

section
variable {R : Type}
theorem oguard_true {x : Option R} : oguard true x = x := oguard_t rfl
theorem bif_not {R : Type} {c : Bool} {x y : Option R} (h : c = false) : (bif c then x else y) = y := by subst h; rfl

theorem evBin_pt {bt : Bool} {op : BinOp} {x y : D} {k : D → Option R} {r : R} (h : evBin bt op x y k = some r) :
    ∃ d, k d = some r ∧ ∀ (k' : D → Option R) r', k' d = some r' → evBin bt op x y k' = some r' := by
  cases x with
  | int ka a =>
    cases y with
    | int kb b =>
      simp only [evBin] at h
      split at h
      · obtain ⟨hc, h⟩ := oguard_some h; exact ⟨_, h, fun k' r' h' => by simp only [evBin, hc, oguard_true]; exact h'⟩
      · obtain ⟨hc, h⟩ := oguard_some h; exact ⟨_, h, fun k' r' h' => by simp only [evBin, hc, oguard_true]; exact h'⟩
      · rename_i h1 h2
        split at h
        · rename_i hk
          subst hk
          split at h
          all_goals first
            | exact ⟨_, h, fun k' r' h' => by simp only [evBin, ↓reduceIte]; exact h'⟩
            | (obtain ⟨hc, h⟩ := oguard_some h; exact ⟨_, h, fun k' r' h' => by simp only [evBin, hc, oguard_true, ↓reduceIte]; exact h'⟩)
            | (split at h
               · rename_i t ht
                 exact ⟨_, h, fun k' r' h' => by simp only [evBin, ↓reduceIte, ht]; exact h'⟩
               · cases h)
        · cases h
    | _ => simp [evBin] at h
  | bool a =>
    cases y with
    | bool b =>
      simp only [evBin] at h
      obtain ⟨hc, h⟩ := bif_some h
      split at h
      · exact ⟨_, h, fun k' r' h' => by simp only [evBin, hc, cond_true]; exact h'⟩
      · exact ⟨_, h, fun k' r' h' => by simp only [evBin, hc, cond_true]; exact h'⟩
      · cases h
    | _ => simp [evBin] at h
  | str a =>
    cases y with
    | str b =>
      simp only [evBin] at h
      split at h
      · exact ⟨_, h, fun k' r' h' => by simp only [evBin]; exact h'⟩
      · exact ⟨_, h, fun k' r' h' => by simp only [evBin]; exact h'⟩
      · obtain ⟨hc, h⟩ := oguard_some h; exact ⟨_, h, fun k' r' h' => by simp only [evBin, hc, oguard_true]; exact h'⟩
      · cases h
    | _ => simp [evBin] at h
  | sl f sz n es => simp [evBin] at h

theorem evLoad_pt {T : TI} {M : Mem} {a : V} {k : V → Option R} {r : R} (h : evLoad T M a k = some r) :
    ∃ v, k v = some r ∧ ∀ (k' : V → Option R) r', k' v = some r' → evLoad T M a k' = some r' := by
  unfold evLoad at h
  split at h
  · split at h
    · obtain ⟨hc, h⟩ := bif_some h
      cases ha : T.agg with
      | true => rw [ha] at h; exact ⟨_, h, fun k' r' h' => by simp [evLoad, *]⟩
      | false =>
        rw [ha] at h
        simp only [cond_false] at h
        split at h
        · exact ⟨_, h, fun k' r' h' => by simp [evLoad, *]⟩
        · cases h
    · cases h
  · split at h
    · obtain ⟨hc, h⟩ := bif_some h
      obtain ⟨t, ht, h⟩ := ocells_some h
      cases ha : T.agg with
      | true => rw [ha] at h; exact ⟨_, h, fun k' r' h' => by simp only [evLoad, *, cond_true]; rw [ocells_t ht]; exact h'⟩
      | false =>
        rw [ha] at h
        simp only [cond_false] at h
        split at h
        · rename_i he
          exact ⟨_, h, fun k' r' h' => by simp only [evLoad, *, cond_true, cond_false]; rw [ocells_t ht]; simp only [he]; exact h'⟩
        · cases h
    · obtain ⟨hc, h⟩ := bif_some h
      obtain ⟨t, ht, h⟩ := ocells_some h
      cases ha : T.agg with
      | true => rw [ha] at h; exact ⟨_, h, fun k' r' h' => by simp only [evLoad, *, cond_true]; rw [ocells_t ht]; exact h'⟩
      | false =>
        rw [ha] at h
        simp only [cond_false] at h
        split at h
        · rename_i he
          exact ⟨_, h, fun k' r' h' => by simp only [evLoad, *, cond_true, cond_false]; rw [ocells_t ht]; simp only [he]; exact h'⟩
        · cases h
    · cases h
  · obtain ⟨hc, h⟩ := bif_some h
    cases ha : T.agg with
    | true => rw [ha] at h; exact ⟨_, h, fun k' r' h' => by simp [evLoad, *]⟩
    | false =>
      rw [ha] at h
      simp only [cond_false] at h
      split at h
      · exact ⟨_, h, fun k' r' h' => by simp [evLoad, *]⟩
      · cases h
  · cases h

theorem evLen_pt {T : TI} {M : Mem} {v : V} {k : Int → Option R} {r : R} (h : evLen T M v k = some r) :
    ∃ n, k n = some r ∧ ∀ (k' : Int → Option R) r', k' n = some r' → evLen T M v k' = some r' := by
  unfold evLen at h
  repeat' split at h
  all_goals first
    | (cases h; done)
    | exact ⟨_, h, fun k' r' h' => by simp [evLen, *]⟩

theorem evSlice_pt {E : Option TI} {M : Mem} {x : V} {lo hi : Option Int} {k : V → Option R} {r : R} (h : evSlice E M x lo hi k = some r) :
    ∃ v, k v = some r ∧ ∀ (k' : V → Option R) r', k' v = some r' → evSlice E M x lo hi k' = some r' := by
  unfold evSlice at h
  split at h
  · obtain ⟨hs, h⟩ := bif_some h
    repeat' split at h
    all_goals first
      | exact ⟨_, h, fun k' r' h' => by simp [evSlice, *]⟩
      | (obtain ⟨hc, h⟩ := oguard_some h; rw [olet_eq] at h; exact ⟨_, h, fun k' r' h' => by simp only [evSlice, hs, cond_true, hc, oguard_true, olet_eq]; exact h'⟩)
  · split at h
    · obtain ⟨hs, h⟩ := bif_some h
      repeat' split at h
      all_goals first
        | exact ⟨_, h, fun k' r' h' => by simp [evSlice, *]⟩
        | (obtain ⟨hc, h⟩ := oguard_some h; exact ⟨_, h, fun k' r' h' => by simp only [evSlice, *, cond_true, oguard_true]⟩)
    · cases h
  · split at h
    · obtain ⟨hs, h⟩ := bif_some h
      repeat' split at h
      all_goals first
        | exact ⟨_, h, fun k' r' h' => by simp [evSlice, *]⟩
        | (obtain ⟨hc, h⟩ := oguard_some h; exact ⟨_, h, fun k' r' h' => by simp only [evSlice, *, cond_true, oguard_true]⟩)
    · cases h
  · cases h

theorem evIndexAddr_pt {E : TI} {M : Mem} {x : V} {i : Int} {k : V → Option R} {r : R} (h : evIndexAddr E M x i k = some r) :
    ∃ v, k v = some r ∧ ∀ (k' : V → Option R) r', k' v = some r' → evIndexAddr E M x i k' = some r' := by
  unfold evIndexAddr at h
  split at h
  · obtain ⟨hs, h⟩ := bif_some h
    obtain ⟨hi, t, ht, h⟩ := oat_some h
    exact ⟨_, h, fun k' r' h' => by simp only [evIndexAddr, hs, cond_true]; rw [oat_t hi ht]; exact h'⟩
  · split at h
    · obtain ⟨hs, h⟩ := bif_some h
      obtain ⟨hc, h⟩ := oguard_some h
      exact ⟨_, h, fun k' r' h' => by simp only [evIndexAddr, *, cond_true, hc, oguard_true]⟩
    · obtain ⟨hs, h⟩ := bif_some h
      obtain ⟨hc, h⟩ := oguard_some h
      exact ⟨_, h, fun k' r' h' => by simp only [evIndexAddr, *, cond_true, hc, oguard_true]⟩
    · cases h
  · split at h
    · obtain ⟨hs, h⟩ := bif_some h
      obtain ⟨hc, h⟩ := oguard_some h
      exact ⟨_, h, fun k' r' h' => by simp only [evIndexAddr, *, cond_true, hc, oguard_true]⟩
    · cases h
  · cases h

theorem evStore_pt {T : TI} {M : Mem} {a x : V} {k : Mem → Option R} {r : R} (h : evStore T M a x k = some r) :
    ∃ M', k M' = some r ∧ ∀ (k' : Mem → Option R) r', k' M' = some r' → evStore T M a x k' = some r' := by
  unfold evStore at h
  obtain ⟨hc, h⟩ := bif_some h
  split at h
  · split at h
    · obtain ⟨hs, h⟩ := bif_some h
      exact ⟨_, h, fun k' r' h' => by simp only [evStore, *, cond_true]⟩
    · cases h
  · split at h
    · split at h
      · obtain ⟨hs, h⟩ := bif_some h
        rw [olet_eq] at h
        exact ⟨_, h, fun k' r' h' => by simp only [evStore, *, cond_true, olet_eq]⟩
      · cases h
    · cases h
  · cases h

theorem evAppend_pt {E : TI} {M : Mem} {s x : V} {k : V → Mem → List Nat → Option R} {r : R} (h : evAppend E M s x k = some r) :
    ∃ v M' ks, k v M' ks = some r ∧ ∀ (k' : V → Mem → List Nat → Option R) r', k' v M' ks = some r' → evAppend E M s x k' = some r' := by
  unfold evAppend at h
  split at h
  · cases h
  · obtain ⟨hs, h⟩ := bif_some h
    split at h
    · split at h
      · obtain ⟨h1, h⟩ := bif_some h
        obtain ⟨hc, h⟩ := oguard_some h
        rw [olet_eq] at h
        exact ⟨_, _, _, h, fun k' r' h' => by simp only [evAppend, *, cond_true, hc, oguard_true, olet_eq]⟩
      · cases h
    · split at h
      · obtain ⟨h1, h⟩ := bif_some h
        obtain ⟨hc, h⟩ := oguard_some h
        rw [olet_eq] at h
        exact ⟨_, _, _, h, fun k' r' h' => by simp only [evAppend, *, cond_true, hc, oguard_true, olet_eq]⟩
      · cases h
    · obtain ⟨hc, h⟩ := oguard_some h
      exact ⟨_, _, _, h, fun k' r' h' => by simp only [evAppend, *, cond_true, hc, oguard_true]⟩
    · split at h
      · cases h
      · obtain ⟨h1, h⟩ := bif_some h
        obtain ⟨hc, h⟩ := oguard_some h
        rw [olet_eq] at h
        exact ⟨_, _, _, h, fun k' r' h' => by simp only [evAppend, *, cond_true, hc, oguard_true, olet_eq]⟩
    · cases h

theorem evCallQ_pt {cx : Cx} {call : CallF} {f : FuncId} {args : List V} {M : Mem} {k : V → Option R} {r : R} (h : evCallQ cx call f args M k = some r) :
    ∃ as S v Mc pv, call f as S = some (v, Mc) ∧ k pv = some r ∧ ∀ (call' : CallF) (k' : V → Option R) r', call' f as S = some (v, Mc) → k' pv = some r' → evCallQ cx call' f args M k' = some r' := by
  unfold evCallQ at h
  cases hF : find cx.fns f with
  | none => rw [hF] at h; cases h
  | some F =>
    rw [hF] at h; simp only at h
    cases hm : quietArgs M args with
    | none => rw [hm] at h; cases h
    | some xs =>
      rw [hm] at h; simp only [fVs_eq] at h
      obtain ⟨v, Mc, t, u, hc, hdv, hdm, h⟩ := ocall_some h
      refine ⟨_, _, v, Mc, _, hc, h, fun call' k' r' h1 h2 => ?_⟩
      unfold evCallQ
      rw [hF]; simp only [hm, fVs_eq]
      rw [ocall_t h1 hdv hdm]
      exact h2

theorem evCallQL_pt {cx : Cx} {call : CallF} {f : FuncId} {args : List V} {M : Mem} {k : V → Option R} {r : R} (h : evCallQL cx call f args M k = some r) :
    ∃ as S v Mc pv, call f as S = some (v, Mc) ∧ k pv = some r ∧ ∀ (call' : CallF) (k' : V → Option R) r', call' f as S = some (v, Mc) → k' pv = some r' → evCallQL cx call' f args M k' = some r' := by
  unfold evCallQL at h
  cases hF : find cx.fns f with
  | none => rw [hF] at h; cases h
  | some F =>
    rw [hF] at h; simp only at h
    split at h
    · rename_i xs hfs hm
      simp only [fVs_eq] at h
      obtain ⟨v, Mc, t, u, hc, hdv, hdm, h⟩ := ocall_some h
      obtain ⟨hcl, h⟩ := bif_some h
      refine ⟨_, _, v, Mc, _, hc, h, fun call' k' r' h1 h2 => ?_⟩
      unfold evCallQL
      rw [hF]; simp only [hfs, hm, fVs_eq]
      rw [ocall_t h1 hdv hdm, hcl]
      exact h2
    · cases h

/-- What x is, the row comes to in the end. -/
def Up (x : Option R) (y : Nat → Option R) : Prop := ∀ r, x = some r → ∃ i0, ∀ i, i0 ≤ i → y i = some r

theorem Up.none {y : Nat → Option R} : Up none y := fun r h => by cases h
theorem Up.const (x : Option R) : Up x fun _ => x := fun r h => ⟨0, fun _ _ => h⟩

section
variable {cx : Cx} {call : CallF} {call' : Nat → CallF} (hc : ∀ f a M, Up (call f a M) fun i => call' i f a M)
include hc

theorem evCall_up {f : FuncId} {args : List V} {M : Mem} {k : V → Mem → List Nat → Option R} {k' : Nat → V → Mem → List Nat → Option R} (hk : ∀ v M ks, Up (k v M ks) fun i => k' i v M ks) :
    Up (evCall cx call f args M k) fun i => evCall cx (call' i) f args M (k' i) := by
  intro r h
  obtain ⟨as, S, v, Mc, pv, pM, pk, h1, h2, h3⟩ := evCall_pt h
  obtain ⟨i1, h1⟩ := hc _ _ _ _ h1
  obtain ⟨i2, h2⟩ := hk _ _ _ _ h2
  exact ⟨max i1 i2, fun i hi => h3 _ _ _ (h1 i (by omega)) (h2 i (by omega))⟩

theorem evCallQ_up {f : FuncId} {args : List V} {M : Mem} {k : V → Option R} {k' : Nat → V → Option R} (hk : ∀ v, Up (k v) fun i => k' i v) :
    Up (evCallQ cx call f args M k) fun i => evCallQ cx (call' i) f args M (k' i) := by
  intro r h
  obtain ⟨as, S, v, Mc, pv, h1, h2, h3⟩ := evCallQ_pt h
  obtain ⟨i1, h1⟩ := hc _ _ _ _ h1
  obtain ⟨i2, h2⟩ := hk _ _ h2
  exact ⟨max i1 i2, fun i hi => h3 _ _ _ (h1 i (by omega)) (h2 i (by omega))⟩
theorem evCallQL_up {f : FuncId} {args : List V} {M : Mem} {k : V → Option R} {k' : Nat → V → Option R} (hk : ∀ v, Up (k v) fun i => k' i v) :
    Up (evCallQL cx call f args M k) fun i => evCallQL cx (call' i) f args M (k' i) := by
  intro r h
  obtain ⟨as, S, v, Mc, pv, h1, h2, h3⟩ := evCallQL_pt h
  obtain ⟨i1, h1⟩ := hc _ _ _ _ h1
  obtain ⟨i2, h2⟩ := hk _ _ h2
  exact ⟨max i1 i2, fun i hi => h3 _ _ _ (h1 i (by omega)) (h2 i (by omega))⟩
omit hc
theorem oguard_up {c : Bool} {x : Option R} {y : Nat → Option R} (h : Up x y) : Up (oguard c x) fun i => oguard c (y i) := by
  intro r hr
  obtain ⟨h1, h2⟩ := oguard_some hr
  subst h1
  obtain ⟨i, h3⟩ := h r h2
  exact ⟨i, fun j hj => oguard_true.trans (h3 j hj)⟩
theorem olet_up {α : Type} {a : α} {f : α → Option R} {g : Nat → α → Option R} (h : Up (f a) fun i => g i a) : Up (olet a f) fun i => olet a (g i) := by
  simp only [olet_eq]; exact h
theorem oite_up {b : Bool} {x y : Option R} {x' y' : Nat → Option R} (hx : Up x x') (hy : Up y y') : Up (oite b x y) fun i => oite b (x' i) (y' i) := by
  simp only [oite_eq]; cases b
  · exact hy
  · exact hx
theorem bif_up {b : Bool} {x y : Option R} {x' y' : Nat → Option R} (hx : Up x x') (hy : Up y y') : Up (bif b then x else y) fun i => bif b then x' i else y' i := by
  cases b
  · exact hy
  · exact hx
theorem evLoad_up {T : TI} {M : Mem} {a : V} {k : V → Option R} {k' : Nat → V → Option R} (hk : ∀ v, Up (k v) fun i => k' i v) : Up (evLoad T M a k) fun i => evLoad T M a (k' i) := by
  intro r h
  obtain ⟨v, h1, h2⟩ := evLoad_pt h
  obtain ⟨i1, h1⟩ := hk _ _ h1
  exact ⟨i1, fun i hi => h2 _ _ (h1 i hi)⟩
theorem evBin_up {bt : Bool} {op : BinOp} {x y : D} {k : D → Option R} {k' : Nat → D → Option R} (hk : ∀ v, Up (k v) fun i => k' i v) : Up (evBin bt op x y k) fun i => evBin bt op x y (k' i) := by
  intro r h
  obtain ⟨v, h1, h2⟩ := evBin_pt h
  obtain ⟨i1, h1⟩ := hk _ _ h1
  exact ⟨i1, fun i hi => h2 _ _ (h1 i hi)⟩
theorem evLen_up {T : TI} {M : Mem} {v : V} {k : Int → Option R} {k' : Nat → Int → Option R} (hk : ∀ v, Up (k v) fun i => k' i v) : Up (evLen T M v k) fun i => evLen T M v (k' i) := by
  intro r h
  obtain ⟨v, h1, h2⟩ := evLen_pt h
  obtain ⟨i1, h1⟩ := hk _ _ h1
  exact ⟨i1, fun i hi => h2 _ _ (h1 i hi)⟩
theorem evSlice_up {E : Option TI} {M : Mem} {x : V} {lo hi : Option Int} {k : V → Option R} {k' : Nat → V → Option R} (hk : ∀ v, Up (k v) fun i => k' i v) : Up (evSlice E M x lo hi k) fun i => evSlice E M x lo hi (k' i) := by
  intro r h
  obtain ⟨v, h1, h2⟩ := evSlice_pt h
  obtain ⟨i1, h1⟩ := hk _ _ h1
  exact ⟨i1, fun i hi => h2 _ _ (h1 i hi)⟩
theorem evIndexAddr_up {E : TI} {M : Mem} {x : V} {n : Int} {k : V → Option R} {k' : Nat → V → Option R} (hk : ∀ v, Up (k v) fun i => k' i v) : Up (evIndexAddr E M x n k) fun i => evIndexAddr E M x n (k' i) := by
  intro r h
  obtain ⟨v, h1, h2⟩ := evIndexAddr_pt h
  obtain ⟨i1, h1⟩ := hk _ _ h1
  exact ⟨i1, fun i hi => h2 _ _ (h1 i hi)⟩
theorem onil_up {n : Nat} {x y : Option R} {x' y' : Nat → Option R} (hx : Up x x') (hy : Up y y') : Up (onil n x y) fun i => onil n (x' i) (y' i) := by
  intro r h
  rcases onil_some h with ⟨rfl, h1, h2⟩ | ⟨h0, h2⟩
  · obtain ⟨i1, h1⟩ := hx _ h1
    obtain ⟨i2, h2⟩ := hy _ h2
    exact ⟨max i1 i2, fun i hi => by
      simp only
      rw [h1 i (by omega), h2 i (by omega), onil_same]⟩
  · obtain ⟨i2, h2⟩ := hy _ h2
    exact ⟨i2, fun i hi => by simp only; rw [onil_pos h0, h2 i hi]⟩
theorem evNil_up {op : BinOp} {t : TypeId} {M : Mem} {x : V} {k : V → Option R} {k' : Nat → V → Option R} (hk : ∀ v, Up (k v) fun i => k' i v) : Up (evNil cx op t M x k) fun i => evNil cx op t M x (k' i) := by
  unfold evNil
  refine bif_up ?_ Up.none
  split
  · split
    · exact onil_up (hk _) (hk _)
    · exact onil_up (hk _) (hk _)
    · exact Up.none
  · exact Up.none
theorem evClear_up {z : List D} {M : Mem} {x : V} {k : Mem → Option R} {k' : Nat → Mem → Option R} (hk : ∀ M, Up (k M) fun i => k' i M) : Up (evClear z M x k) fun i => evClear z M x (k' i) := by
  unfold evClear
  split
  · split
    · exact bif_up (hk _) Up.none
    · exact Up.none
  · split
    · exact bif_up (olet_up (hk _)) Up.none
    · exact Up.none
  · exact Up.none
theorem evBytes_up {M : Mem} {x : V} {k : V → Option R} {k' : Nat → V → Option R} (hk : ∀ v, Up (k v) fun i => k' i v) : Up (evBytes M x k) fun i => evBytes M x (k' i) := by
  unfold evBytes
  split
  · exact Up.none
  · split
    · intro r h
      obtain ⟨l, h1, h2⟩ := ostr_some h
      obtain ⟨i1, h3⟩ := hk _ _ h2
      exact ⟨i1, fun i hi => (ostr_t h1).trans (h3 i hi)⟩
    · exact Up.none
theorem evOpR_up {ty : TypeId} {o : Op} {rd : Operand → V} {M : Mem} {k : V → Option R} {k' : Nat → V → Option R} (hk : ∀ v, Up (k v) fun i => k' i v) :
    Up (evOpR cx ty o rd M k) fun i => evOpR cx ty o rd M (k' i) := by
  unfold evOpR
  repeat' first
    | exact Up.none
    | exact hk _
    | exact evLoad_up hk
    | exact evSlice_up hk
    | exact evIndexAddr_up hk
    | exact evBin_up fun d => hk _
    | exact evLen_up fun n => hk _
    | exact evNil_up hk
    | exact evBytes_up hk
    | refine oguard_up ?_
    | refine oite_up ?_ ?_
    | refine bif_up ?_ ?_
    | split
theorem evStore_up {T : TI} {M : Mem} {a x : V} {k : Mem → Option R} {k' : Nat → Mem → Option R} (hk : ∀ M, Up (k M) fun i => k' i M) : Up (evStore T M a x k) fun i => evStore T M a x (k' i) := by
  intro r h
  obtain ⟨v, h1, h2⟩ := evStore_pt h
  obtain ⟨i1, h1⟩ := hk _ _ h1
  exact ⟨i1, fun i hi => h2 _ _ (h1 i hi)⟩
theorem evAppend_up {E : TI} {M : Mem} {s x : V} {k : V → Mem → List Nat → Option R} {k' : Nat → V → Mem → List Nat → Option R} (hk : ∀ v M ks, Up (k v M ks) fun i => k' i v M ks) : Up (evAppend E M s x k) fun i => evAppend E M s x (k' i) := by
  intro r h
  obtain ⟨v, M', ks, h1, h2⟩ := evAppend_pt h
  obtain ⟨i1, h1⟩ := hk _ _ _ _ h1
  exact ⟨i1, fun i hi => h2 _ _ (h1 i hi)⟩
theorem evZeros_up {E : TI} {M : Mem} {s x : V} {k : V → Mem → List Nat → Option R} {k' : Nat → V → Mem → List Nat → Option R} (hk : ∀ v M ks, Up (k v M ks) fun i => k' i v M ks) : Up (evZeros E M s x k) fun i => evZeros E M s x (k' i) := by
  unfold evZeros
  repeat' first
    | exact Up.none
    | exact hk _ _ _
    | refine oguard_up ?_
    | refine olet_up ?_
    | split
theorem evStoreL_up {T : TI} {M : Mem} {a x : V} {k : Mem → List Nat → Option R} {k' : Nat → Mem → List Nat → Option R} (hk : ∀ M ks, Up (k M ks) fun i => k' i M ks) : Up (evStoreL T M a x k) fun i => evStoreL T M a x (k' i) := by
  unfold evStoreL
  repeat' first
    | exact Up.none
    | exact hk _ _
    | refine olet_up ?_
    | refine bif_up ?_ ?_
    | split
theorem evOpen_up {T : TI} {M : Mem} {a : V} {k : V → Mem → Option R} {k' : Nat → V → Mem → Option R} (hk : ∀ v M, Up (k v M) fun i => k' i v M) : Up (evOpen T M a k) fun i => evOpen T M a (k' i) := by
  unfold evOpen
  split
  · split
    · refine bif_up ?_ Up.none
      intro r h
      obtain ⟨t, h1, h2⟩ := ocells_some h
      split at h2
      · obtain ⟨i0, h3⟩ := hk _ _ _ h2
        refine ⟨i0, fun i hi => (ocells_t h1).trans ?_⟩
        simp only [*]
      · cases h2
    · exact Up.none
  · exact Up.none
theorem evAppendL_up {E : TI} {M : Mem} {s x : V} {k : V → Mem → List Nat → Option R} {k' : Nat → V → Mem → List Nat → Option R} (hk : ∀ v M ks, Up (k v M ks) fun i => k' i v M ks) : Up (evAppendL E M s x k) fun i => evAppendL E M s x (k' i) := by
  unfold evAppendL
  repeat' first
    | exact Up.none
    | exact hk _ _ _
    | refine olet_up ?_
    | refine oguard_up ?_
    | refine bif_up ?_ ?_
    | split
theorem closeK_up {M : Mem} {v : V} {ks : List Nat} {k : V → Mem → List Nat → Option R} {k' : Nat → V → Mem → List Nat → Option R} (hk : ∀ v M ks, Up (k v M ks) fun i => k' i v M ks) : Up (closeK M v ks k) fun i => closeK M v ks (k' i) := by
  unfold closeK
  repeat' first
    | exact hk _ _ _
    | split
theorem cleanM_up : ∀ {S : Mem} {x : Option R} {x' : Nat → Option R}, Up x x' → Up (cleanM S x) fun i => cleanM S (x' i)
  | [], _, _, h => by unfold cleanM; exact h
  | .row .. :: S, _, _, h => by unfold cleanM; exact oguard_up (cleanM_up h)
  | .lrow .. :: S, _, _, h => by unfold cleanM; exact cleanM_up h
  | .box _ :: S, _, _, h => by unfold cleanM; exact Up.none
  | .hole .. :: S, _, _, h => by unfold cleanM; exact Up.none
include hc
theorem evCallL_up {f : FuncId} {args : List V} {M : Mem} {k : V → Mem → Option R} {k' : Nat → V → Mem → Option R} (hk : ∀ v X, Up (k v X) fun i => k' i v X) :
    Up (evCallL cx call f args M k) fun i => evCallL cx (call' i) f args M (k' i) := by
  unfold evCallL
  split
  · exact Up.none
  · split
    · exact Up.none
    · simp only [fVs_eq]
      intro r h
      obtain ⟨v, Mc, t, u, h1, h2, h3, h4⟩ := ocall_some h
      obtain ⟨hb, h4⟩ := bif_some h4
      obtain ⟨i1, h1⟩ := hc _ _ _ _ h1
      obtain ⟨i2, h4⟩ := cleanM_up (hk _ _) _ h4
      refine ⟨max i1 i2, fun i hi => (ocall_t (h1 i (by omega)) h2 h3).trans ?_⟩
      rw [hb, cond_true]
      exact h4 i (by omega)

theorem evOp_up {ty : TypeId} {o : Op} {rd : Operand → V} {M : Mem} {k : V → Mem → List Nat → Option R} {k' : Nat → V → Mem → List Nat → Option R} (hk : ∀ v M ks, Up (k v M ks) fun i => k' i v M ks) :
    Up (evOp cx call ty o rd M k) fun i => evOp cx (call' i) ty o rd M (k' i) := by
  unfold evOp
  repeat' first
    | exact Up.none
    | exact hk _ _ _
    | exact evOpR_up fun v => hk _ _ _
    | exact evCall_up hc hk
    | exact evCall_up hc fun _ _ _ => closeK_up hk
    | exact evCallL_up hc fun _ _ => hk _ _ _
    | exact evAppend_up hk
    | exact evAppendL_up hk
    | exact evZeros_up hk
    | exact evStore_up fun M => hk _ _ _
    | exact evStoreL_up fun M ks => hk _ _ _
    | exact evOpen_up fun v M => hk _ _ _
    | exact evClear_up fun M => hk _ _ _
    | refine oguard_up ?_
    | refine olet_up ?_
    | refine bif_up ?_ ?_
    | split

theorem evOpQ_up {ty : TypeId} {o : Op} {rd : Operand → V} {M : Mem} {k : V → Option R} {k' : Nat → V → Option R} (hk : ∀ v, Up (k v) fun i => k' i v) :
    Up (evOpQ cx call ty o rd M k) fun i => evOpQ cx (call' i) ty o rd M (k' i) := by
  unfold evOpQ
  repeat' first
    | exact Up.none
    | refine bif_up ?_ ?_
    | exact hk _
    | exact evOpR_up fun v => hk _
    | exact evCallQL_up hc hk
    | exact evCallQ_up hc hk
    | split

theorem evOps_up {nt : Nat} {all : List Oper} : ∀ (l : List Oper) {e : Env} {M : Mem} {k : Env → Mem → Option R} {k' : Nat → Env → Mem → Option R}, (∀ e M, Up (k e M) fun i => k' i e M) →
    Up (evOps cx call nt all l e M k) fun i => evOps cx (call' i) nt all l e M (k' i)
  | [], e, M, k, k', hk => by unfold evOps; exact hk _ _
  | o :: l, e, M, k, k', hk => by
    unfold evOps
    simp only [fV_eq, fM_eq]
    repeat' first
      | exact Up.none
      | exact evOps_up l hk
      | exact evOp_up hc fun v M ks => evOps_up l hk
      | refine bif_up ?_ ?_
      | refine oite_up ?_ ?_
      | split

theorem evCallG_up {f : FuncId} {args : List V} {M : Mem} {k : V → Mem → Option R} {k' : Nat → V → Mem → Option R} (hk : ∀ v X, Up (k v X) fun i => k' i v X) :
    Up (evCallG cx call f args M k) fun i => evCallG cx (call' i) f args M (k' i) := by
  unfold evCallG
  split
  · exact Up.none
  · split
    · refine bif_up Up.none ?_
      refine evCall_up hc fun v M' ks r h => ?_
      obtain ⟨h0, h⟩ := bif_some h
      obtain ⟨X, e, hk2⟩ := osames_some h
      obtain ⟨i0, h1⟩ := hk _ _ _ hk2
      refine ⟨i0, fun i hi => ?_⟩
      show (bif ks.isEmpty then osames M M' fun X => k' i v X else none) = some r
      rw [h0, cond_true, e, osames_t]; exact h1 i hi
    · simp only [fVs_eq]
      intro r h
      obtain ⟨v, Mc, t, u, h1, h2, h3, h4⟩ := ocall_some h
      obtain ⟨i1, h1⟩ := hc _ _ _ _ h1
      obtain ⟨i2, h4⟩ := hk _ _ _ h4
      exact ⟨max i1 i2, fun i hi => (ocall_t (h1 i (by omega)) h2 h3).trans (h4 i (by omega))⟩
omit hc
theorem evAppendG_up {E : TI} {M : Mem} {s x : V} {k : V → Mem → Option R} {k' : Nat → V → Mem → Option R} (hk : ∀ v X, Up (k v X) fun i => k' i v X) : Up (evAppendG E M s x k) fun i => evAppendG E M s x (k' i) := by
  unfold evAppendG
  repeat' first
    | exact Up.none
    | exact hk _ _
    | refine oguard_up ?_
    | refine olet_up ?_
    | refine bif_up ?_ ?_
    | split
include hc
theorem evOpM_up {ty : TypeId} {gr : Bool} {o : Op} {rd : Operand → V} {M : Mem} {k : V → Mem → Option R} {k' : Nat → V → Mem → Option R} (hk : ∀ v X, Up (k v X) fun i => k' i v X) :
    Up (evOpM cx call ty gr o rd M k) fun i => evOpM cx (call' i) ty gr o rd M (k' i) := by
  unfold evOpM
  refine bif_up ?_ (evOpQ_up hc fun v => hk _ _)
  unfold evOpG
  repeat' first
    | exact Up.none
    | exact hk _ _
    | exact evCallG_up hc hk
    | exact evAppendG_up hk
    | refine oguard_up ?_
    | refine olet_up ?_
    | refine bif_up ?_ ?_
    | split

theorem evM_up {nt : Nat} {all : List Oper} : ∀ (l : List (Bool × Oper)) {e : Env} {M : Mem} {k : Env → Mem → Option R} {k' : Nat → Env → Mem → Option R}, (∀ e M, Up (k e M) fun i => k' i e M) →
    Up (evM cx call nt all l e M k) fun i => evM cx (call' i) nt all l e M (k' i)
  | [], e, M, k, k', hk => by unfold evM; exact hk _ _
  | (gr, o) :: l, e, M, k, k', hk => by
    unfold evM
    simp only [fV_eq, fM_eq]
    repeat' first
      | exact Up.none
      | exact evM_up l hk
      | exact evOpM_up hc fun v X => evM_up l hk
      | refine bif_up ?_ ?_
      | refine oite_up ?_ ?_
      | split

omit hc in
theorem osame_up {α : Type} {a b : α} {x : Option R} {y : Nat → Option R} (h : Up x y) : Up (osame a b x) fun i => osame a b (y i) := by
  unfold osame
  split
  · exact h
  · exact Up.none
theorem evPre_up : ∀ (l : List Oper) {e : Env} {M : Mem} {k : List V → Option R} {k' : Nat → List V → Option R}, (∀ vs, Up (k vs) fun i => k' i vs) →
    Up (evPre cx call l e M k) fun i => evPre cx (call' i) l e M (k' i)
  | [], e, M, k, k', hk => by unfold evPre; exact hk _
  | o :: l, e, M, k, k', hk => by
    unfold evPre
    split
    · exact evOpQ_up hc fun v => by simp only [fV_eq]; exact evPre_up l fun vs => hk _
    · exact Up.none
theorem evPost_up : ∀ (l : List Oper) {vs : List V} {e : Env} {M : Mem} {x : Option R} {x' : Nat → Option R}, Up x x' →
    Up (evPost cx call l vs e M x) fun i => evPost cx (call' i) l vs e M (x' i)
  | [], vs, e, M, x, x', hx => by simp only [evPost]; exact hx
  | o :: l, [], e, M, x, x', hx => by simp only [evPost]; exact Up.none
  | o :: l, v :: vs, e, M, x, x', hx => by
    simp only [evPost]
    split
    · exact evOpQ_up hc fun v' => osame_up (evPost_up l hx)
    · exact Up.none
theorem evFl_up {nt : Nat} {all : List Oper} : ∀ (l : List (Bool × List Oper × Oper)) {e : Env} {M : Mem} {k : Env → Mem → Option R} {k' : Nat → Env → Mem → Option R}, (∀ e M, Up (k e M) fun i => k' i e M) →
    Up (evFl cx call nt all l e M k) fun i => evFl cx (call' i) nt all l e M (k' i)
  | [], e, M, k, k', hk => by unfold evFl; exact hk _ _
  | (f, ck, o) :: l, e, M, k, k', hk => by
    unfold evFl
    refine bif_up ?_ ?_
    · split
      · exact bif_up (evOpQ_up hc fun v => by simp only [fV_eq]; exact evFl_up l hk) Up.none
      · exact Up.none
    · exact evPre_up hc ck fun vs => bif_up (evOps_up hc _ fun e M => evPost_up hc ck (evFl_up l hk)) Up.none

section
variable {J : Nat → Env → Mem → Option R} {J' : Nat → Nat → Env → Mem → Option R} (hJ : ∀ l e M, Up (J l e M) fun i => J' i l e M) {nt m0 : Nat}
include hJ
omit hc
theorem enter_up {N : Norm} {e : Env} {M : Mem} : Up (enter N m0 J e M) fun i => enter N m0 (J' i) e M := by
  unfold enter
  split
  · simp only [fE_eq, fM_eq]; exact hJ _ _ _
  · exact Up.none
theorem kseq_up {ann : Ann} {next : Env → Mem → Option R} {next' : Nat → Env → Mem → Option R} {K : Ex → Env → Mem → Option R} {K' : Nat → Ex → Env → Mem → Option R} (hn : ∀ e M, Up (next e M) fun i => next' i e M) (hK : ∀ x e M, Up (K x e M) fun i => K' i x e M) (x : Ex) (e : Env) (M : Mem) :
    Up (kseq ann m0 J next K x e M) fun i => kseq ann m0 (J' i) (next' i) (K' i) x e M := by
  unfold kseq
  cases x with
  | norm => cases ann <;> first | exact enter_up hJ | exact hn _ _
  | ex i => exact hK _ _ _
  | ret => exact hK _ _ _
theorem kloop_up {N : Norm} {K : Ex → Env → Mem → Option R} {K' : Nat → Ex → Env → Mem → Option R} (hK : ∀ x e M, Up (K x e M) fun i => K' i x e M) (x : Ex) (e : Env) (M : Mem) :
    Up (kloop N m0 J K x e M) fun i => kloop N m0 (J' i) (K' i) x e M := by
  unfold kloop
  cases x with
  | norm => exact enter_up hJ
  | ex i => exact hK _ _ _
  | ret => exact hK _ _ _
omit hJ
theorem kblock_up {id : Nat} {K : Ex → Env → Mem → Option R} {K' : Nat → Ex → Env → Mem → Option R} (hK : ∀ x e M, Up (K x e M) fun i => K' i x e M) (x : Ex) (e : Env) (M : Mem) :
    Up (kblock id K x e M) fun i => kblock id (K' i) x e M := by
  unfold kblock
  cases x with
  | norm => exact hK _ _ _
  | ex i => exact bif_up (hK _ _ _) (hK _ _ _)
  | ret => exact hK _ _ _
include hJ hc
theorem evC_up : ∀ (c : Code) {ann : Ann} {K : Ex → Env → Mem → Option R} {K' : Nat → Ex → Env → Mem → Option R}, (∀ x e M, Up (K x e M) fun i => K' i x e M) → ∀ (e : Env) (M : Mem),
    Up (evC cx call J nt m0 c ann K e M) fun i => evC cx (call' i) (J' i) nt m0 c ann (K' i) e M
  | .skip, ann, K, K', hK, e, M => by unfold evC; exact hK _ _ _
  | .region id ops draw, ann, K, K', hK, e, M => by
    unfold evC
    refine bif_up ?_ (evOps_up hc _ fun e M => hK _ _ _)
    split
    · exact evM_up hc _ fun e M => evOps_up hc _ fun e M => hK _ _ _
    · refine evM_up hc _ fun e M => bif_up ?_ Up.none
      simp only [fE_eq]
      exact evFl_up hc _ fun e M => hK _ _ _
    · exact Up.none
  | .seq a b, ann, K, K', hK, e, M => by
    unfold evC
    exact evC_up a (kseq_up hJ (fun e M => evC_up b hK e M) hK) e M
  | .cond c x y, ann, K, K', hK, e, M => by
    unfold evC
    split
    · exact bif_up (evC_up x hK e M) (evC_up y hK e M)
    · exact oite_up (evC_up x hK e M) (evC_up y hK e M)
    · exact Up.none
  | .block id b, ann, K, K', hK, e, M => by
    unfold evC
    exact evC_up b (kblock_up hK) e M
  | .loop b, ann, K, K', hK, e, M => by
    unfold evC
    split
    · exact enter_up hJ
    · exact Up.none
  | .exit id, ann, K, K', hK, e, M => by unfold evC; exact hK _ _ _
  | .ret, ann, K, K', hK, e, M => by unfold evC; exact hK _ _ _
  | .rangeFunc .., ann, K, K', hK, e, M => by simp only [evC]; exact Up.none
  | .scope .., ann, K, K', hK, e, M => by simp only [evC]; exact Up.none
  | .label .., ann, K, K', hK, e, M => by simp only [evC]; exact Up.none
  | .goto .., ann, K, K', hK, e, M => by simp only [evC]; exact Up.none
  | .refuse .., ann, K, K', hK, e, M => by simp only [evC]; exact Up.none

/-- The same places are told. -/
def UpL (x : Option (Env → Mem → Option R)) (y : Nat → Option (Env → Mem → Option R)) : Prop :=
  (x = none ∧ ∀ i, y i = none) ∨ ∃ (r : Env → Mem → Option R) (r' : Nat → Env → Mem → Option R), x = some r ∧ (∀ i, y i = some (r' i)) ∧ ∀ e M, Up (r e M) fun i => r' i e M
omit hJ hc
theorem UpL.or {x x2 : Option (Env → Mem → Option R)} {y y2 : Nat → Option (Env → Mem → Option R)} (h : UpL x y) (h2 : UpL x2 y2) : UpL (orE x x2) fun i => orE (y i) (y2 i) := by
  rcases h with ⟨rfl, h⟩ | ⟨r, r', rfl, h, u⟩
  · simp only [h, orE]; exact h2
  · simp only [h, orE]; exact .inr ⟨r, r', rfl, fun _ => rfl, u⟩
theorem UpL.nil : UpL (R := R) none fun _ => none := .inl ⟨rfl, fun _ => rfl⟩
theorem UpL.bif {b : Bool} {r : Env → Mem → Option R} {r' : Nat → Env → Mem → Option R} (h : ∀ e M, Up (r e M) fun i => r' i e M) : UpL (bif b then some r else none) fun i => bif b then some (r' i) else none := by
  cases b
  · exact UpL.nil
  · exact .inr ⟨r, r', rfl, fun _ => rfl, h⟩
include hJ hc
theorem evL_up {l : Nat} : ∀ (c : Code) {ann : Ann} {K : Ex → Env → Mem → Option R} {K' : Nat → Ex → Env → Mem → Option R}, (∀ x e M, Up (K x e M) fun i => K' i x e M) →
    UpL (evL cx call J nt m0 l c ann K) fun i => evL cx (call' i) (J' i) nt m0 l c ann (K' i)
  | .seq a b, ann, K, K', hK => by
    unfold evL
    refine UpL.or ?_ (UpL.or (evL_up a (kseq_up hJ (fun e M => evC_up hc hJ b hK e M) hK)) (evL_up b hK))
    split
    · exact UpL.bif fun e M => evC_up hc hJ b hK e M
    · exact UpL.nil
  | .cond c x y, ann, K, K', hK => by
    unfold evL
    exact UpL.or (evL_up x hK) (evL_up y hK)
  | .block id b, ann, K, K', hK => by
    unfold evL
    exact evL_up b (kblock_up hK)
  | .loop b, ann, K, K', hK => by
    unfold evL
    split
    · exact UpL.or (UpL.bif fun e M => evC_up hc hJ b (kloop_up hJ hK) e M) (evL_up b (kloop_up hJ hK))
    · exact UpL.nil
  | .skip, ann, K, K', hK => by simp only [evL]; exact UpL.nil
  | .region .., ann, K, K', hK => by simp only [evL]; exact UpL.nil
  | .exit .., ann, K, K', hK => by simp only [evL]; exact UpL.nil
  | .ret, ann, K, K', hK => by simp only [evL]; exact UpL.nil
  | .rangeFunc .., ann, K, K', hK => by simp only [evL]; exact UpL.nil
  | .scope .., ann, K, K', hK => by simp only [evL]; exact UpL.nil
  | .label .., ann, K, K', hK => by simp only [evL]; exact UpL.nil
  | .goto .., ann, K, K', hK => by simp only [evL]; exact UpL.nil
  | .refuse .., ann, K, K', hK => by simp only [evL]; exact UpL.nil
end
end
end

theorem evG_succ {cx : Cx} {k : Nat} {f : FuncId} {m0 l : Nat} {e : Env} {M : Mem} : evG cx (k + 1) f m0 l e M = evS cx (evG cx k) f m0 l e M := rfl

section
variable {cx : Cx} {G : FuncId → Nat → Nat → Env → Mem → Option (V × Mem)} {G' : Nat → FuncId → Nat → Nat → Env → Mem → Option (V × Mem)} (hG : ∀ f m0 l e M, Up (G f m0 l e M) fun i => G' i f m0 l e M)
include hG
theorem callOf_up (f : FuncId) (a : List V) (M : Mem) : Up (callOf cx G f a M) fun i => callOf cx (G' i) f a M := by
  unfold callOf
  split
  · exact Up.none
  · split
    · exact Up.const _
    · exact bif_up (hG _ _ _ _ _) Up.none
theorem evS_up (f : FuncId) (m0 l : Nat) (e : Env) (M : Mem) : Up (evS cx G f m0 l e M) fun i => evS cx (G' i) f m0 l e M := by
  unfold evS
  split
  · exact Up.none
  · rename_i F hF
    cases l with
    | zero => exact evC_up (callOf_up hG) (hG f m0) F.body (fun x e M => Up.const _) e M
    | succ l =>
      simp only
      rcases evL_up (cx := cx.at F) (l := l + 1) (nt := F.fn.ntmps) (m0 := m0) (callOf_up (cx := cx) hG) (hG f m0) F.body (ann := F.ann) (K := finish cx F m0) (K' := fun _ => finish cx F m0) (fun x e M => Up.const _) with ⟨h, h'⟩ | ⟨r, r', h, h', u⟩
      · simp only [h, h']; exact Up.none
      · simp only [h, h']; exact u e M
end

theorem evG_mono {cx : Cx} : ∀ (k : Nat) (f : FuncId) (m0 l : Nat) (e : Env) (M : Mem) (r : V × Mem), evG cx k f m0 l e M = some r → evG cx (k + 1) f m0 l e M = some r
  | 0, _, _, _, _, _, _, h => by simp [evG] at h
  | k + 1, f, m0, l, e, M, r, h => by
    rw [evG_succ] at h ⊢
    obtain ⟨i, hi⟩ := evS_up (G' := fun _ => evG cx (k + 1)) (fun f m0 l e M r h => ⟨0, fun _ _ => evG_mono k f m0 l e M r h⟩) f m0 l e M r h
    exact hi i (Nat.le_refl _)
theorem evG_le {cx : Cx} {k n : Nat} (hk : k ≤ n) {f : FuncId} {m0 l : Nat} {e : Env} {M : Mem} {r : V × Mem} (h : evG cx k f m0 l e M = some r) : evG cx n f m0 l e M = some r := by
  obtain ⟨d, rfl⟩ := Nat.exists_eq_add_of_le hk
  induction d with
  | zero => exact h
  | succ d ih => exact evG_mono _ _ _ _ _ _ _ (ih (by omega))

open Classical in
/-- What a function comes to from a place on, with however many calls and goings on. -/
noncomputable def evI (cx : Cx) (f : FuncId) (m0 l : Nat) (e : Env) (M : Mem) : Option (V × Mem) :=
  if h : ∃ q : Nat × (V × Mem), evG cx q.1 f m0 l e M = some q.2 then some h.choose.2 else none

theorem evI_some {cx : Cx} {f : FuncId} {m0 l : Nat} {e : Env} {M : Mem} {r : V × Mem} : evI cx f m0 l e M = some r ↔ ∃ k, evG cx k f m0 l e M = some r := by
  unfold evI
  constructor
  · intro h
    split at h
    · rename_i hq
      cases h
      exact ⟨_, hq.choose_spec⟩
    · cases h
  · rintro ⟨k, hk⟩
    have hq : ∃ q : Nat × (V × Mem), evG cx q.1 f m0 l e M = some q.2 := ⟨(k, r), hk⟩
    rw [dif_pos hq]
    have h1 := evG_le (Nat.le_max_left k hq.choose.1) hk
    have h2 := evG_le (Nat.le_max_right k hq.choose.1) hq.choose_spec
    rw [h1] at h2
    cases h2
    rfl

/-- The equation of a function's run. -/
theorem evI_eq (cx : Cx) (f : FuncId) (m0 l : Nat) (e : Env) (M : Mem) : evI cx f m0 l e M = evS cx (evI cx) f m0 l e M := by
  apply Option.ext
  intro r
  constructor
  · intro h
    obtain ⟨k, hk⟩ := evI_some.1 h
    cases k with
    | zero => simp [evG] at hk
    | succ k =>
      rw [evG_succ] at hk
      obtain ⟨i, hi⟩ := evS_up (G' := fun _ => evI cx) (fun f m0 l e M r h => ⟨0, fun _ _ => evI_some.2 ⟨k, h⟩⟩) f m0 l e M r hk
      exact hi i (Nat.le_refl _)
  · intro h
    obtain ⟨i, hi⟩ := evS_up (G' := fun i => evG cx i) (fun f m0 l e M r h => by
      obtain ⟨k, hk⟩ := evI_some.1 h
      exact ⟨k, fun i hi => evG_le hi hk⟩) f m0 l e M r h
    exact evI_some.2 ⟨i + 1, hi i (Nat.le_refl _)⟩

/-- A function's run. -/
noncomputable def evF (cx : Cx) : CallF := callOf cx (evI cx)

theorem evF_eq (cx : Cx) (f : FuncId) (a : List V) (M : Mem) : evF cx f a M = callOf cx (evS cx (evI cx)) f a M := by
  unfold evF callOf
  split
  · rfl
  · rw [evI_eq]

theorem evF_ok {P : Program} {cx : Cx} (hcx : CxOk P cx) : CallOk P (tlOf cx.fns) (evF cx) := by
  intro f args M v M' h
  have : ∃ k, evFn cx k f args M = some (v, M') := by
    unfold evF callOf at h
    unfold evFn callOf
    split at h
    · cases h
    · split at h
      · exact ⟨0, h⟩
      · obtain ⟨hb, h⟩ := bif_some h
        obtain ⟨k, hk⟩ := evI_some.1 h
        exact ⟨k, by simp only [hb, cond_true, hk]⟩
  obtain ⟨k, hk⟩ := this
  exact evFn_ok hcx k f args M v M' hk
end Go.Ev
