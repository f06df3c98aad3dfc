/-
  What an operation that writes nothing comes to does not hang on what goes on behind it, nor on slots that it does not name.
-/
import Derived.Test.YtkaolpcfpnckcaaEvReg
set_option linter.unusedVariables false
set_option linter.unusedSimpArgs false
namespace Go.Ev
open Go

section
variable {R : Type} {k : V → Option R} {q : R}

theorem evLoad_par {T : TI} {M : Mem} {a : V} (h : evLoad T M a k = some q) : ∃ v, evLoad T M a some = some v ∧ k v = some q := by
  unfold evLoad at h ⊢
  split at h
  · split at h
    · obtain ⟨h1, h2⟩ := bif_some h
      rw [h1] at *
      simp only [cond_true] at *
      cases hA : T.agg <;> rw [hA] at h2 <;> simp only [cond_true, cond_false] at h2 ⊢
      · split at h2
        · exact ⟨_, rfl, h2⟩
        · cases h2
      · exact ⟨_, rfl, h2⟩
    · cases h
  · split at h
    · obtain ⟨h1, h2⟩ := bif_some h
      obtain ⟨t, h3, h4⟩ := ocells_some h2
      rw [h1]
      simp only [cond_true]
      rw [ocells_t h3]
      cases hA : T.agg <;> rw [hA] at h4 <;> simp only [cond_true, cond_false] at h4 ⊢
      · split at h4
        · exact ⟨_, rfl, h4⟩
        · cases h4
      · exact ⟨_, rfl, h4⟩
    · cases h
  · obtain ⟨h1, h2⟩ := bif_some h
    rw [h1] at *
    simp only [cond_true] at *
    cases hA : T.agg <;> rw [hA] at h2 <;> simp only [cond_true, cond_false] at h2 ⊢
    · split at h2
      · exact ⟨_, rfl, h2⟩
      · cases h2
    · exact ⟨_, rfl, h2⟩
  · cases h

theorem evBin_par {bt : Bool} {op : BinOp} {x y : D} {f : D → V} (h : evBin bt op x y (fun d => k (f d)) = some q) : ∃ v, evBin bt op x y (fun d => some (f d)) = some v ∧ k v = some q := by
  cases x with
  | int ka na =>
    cases y with
    | int kb nb =>
      by_cases hkk : ka = kb
      · subst hkk
        cases op <;> simp only [evBin, if_true, intCmp] at h ⊢ <;> first
          | exact ⟨_, rfl, h⟩
          | (obtain ⟨h1, h2⟩ := oguard_some h; rw [oguard_t h1]; exact ⟨_, rfl, h2⟩)
          | cases h
      · cases op <;> simp only [evBin, if_neg hkk] at h ⊢ <;> first
          | (obtain ⟨h1, h2⟩ := oguard_some h; rw [oguard_t h1]; exact ⟨_, rfl, h2⟩)
          | cases h
    | _ => simp [evBin] at h
  | bool pa =>
    cases y with
    | bool pb =>
      simp only [evBin] at h ⊢
      obtain ⟨hb, h⟩ := bif_some h
      rw [hb]
      cases op <;> simp only [cond_true] at h ⊢ <;> first
        | exact ⟨_, rfl, h⟩
        | cases h
    | _ => simp [evBin] at h
  | str sa =>
    cases y with
    | str sb =>
      simp only [evBin] at h ⊢
      cases op <;> simp only at h ⊢ <;> first
        | exact ⟨_, rfl, h⟩
        | (obtain ⟨h1, h2⟩ := oguard_some h; rw [oguard_t h1]; exact ⟨_, rfl, h2⟩)
        | cases h
    | _ => simp [evBin] at h
  | sl f sz n es => cases y <;> simp [evBin] at h

theorem evLen_par {T : TI} {M : Mem} {v : V} {f : Int → V} (h : evLen T M v (fun n => k (f n)) = some q) : ∃ u, evLen T M v (fun n => some (f n)) = some u ∧ k u = some q := by
  unfold evLen at h ⊢
  split at h
  · exact ⟨_, rfl, h⟩
  · exact ⟨_, rfl, h⟩
  · split at h
    · exact ⟨_, rfl, h⟩
    · cases h
  · exact ⟨_, rfl, h⟩
  · cases h

theorem evIndexAddr_par {E : TI} {M : Mem} {x : V} {i : Int} (h : evIndexAddr E M x i k = some q) : ∃ u, evIndexAddr E M x i some = some u ∧ k u = some q := by
  unfold evIndexAddr at h ⊢
  split at h
  · obtain ⟨h1, h2⟩ := bif_some h
    obtain ⟨h3, t, h4, h5⟩ := oat_some h2
    rw [h1, cond_true, oat_t h3 h4]
    exact ⟨_, rfl, h5⟩
  · split at h
    · obtain ⟨h1, h2⟩ := bif_some h
      obtain ⟨h3, h4⟩ := oguard_some h2
      rw [h1, cond_true, oguard_t h3]
      exact ⟨_, rfl, h4⟩
    · cases h
  · split at h
    · obtain ⟨h1, h2⟩ := bif_some h
      obtain ⟨h3, h4⟩ := oguard_some h2
      rw [h1, cond_true, oguard_t h3]
      exact ⟨_, rfl, h4⟩
    · cases h
  · cases h

theorem evSlice_par {E : Option TI} {M : Mem} {x : V} {lo hi : Option Int} (h : evSlice E M x lo hi k = some q) : ∃ u, evSlice E M x lo hi some = some u ∧ k u = some q := by
  unfold evSlice at h ⊢
  split at h
  · obtain ⟨h1, h2⟩ := bif_some h
    rw [h1, cond_true]
    split at h2
    · exact ⟨_, rfl, h2⟩
    all_goals
      obtain ⟨h3, h4⟩ := oguard_some h2
      rw [olet_eq] at h4
      rw [oguard_t h3, olet_eq]
      exact ⟨_, rfl, h4⟩
  · split at h
    · obtain ⟨h1, h2⟩ := bif_some h
      rw [h1, cond_true]
      split at h2
      · exact ⟨_, rfl, h2⟩
      all_goals
        obtain ⟨h3, h4⟩ := oguard_some h2
        rw [oguard_t h3]
        exact ⟨_, rfl, h4⟩
    · cases h
  · split at h
    · obtain ⟨h1, h2⟩ := bif_some h
      rw [h1, cond_true]
      split at h2
      · exact ⟨_, rfl, h2⟩
      all_goals
        obtain ⟨h3, h4⟩ := oguard_some h2
        rw [oguard_t h3]
        exact ⟨_, rfl, h4⟩
    · cases h
  · cases h

theorem evBytes_par {M : Mem} {x : V} (h : evBytes M x k = some q) : ∃ u, evBytes M x some = some u ∧ k u = some q := by
  unfold evBytes at h ⊢
  split at h
  · cases h
  · split at h
    · obtain ⟨l, h1, h2⟩ := ostr_some h
      exact ⟨_, ostr_t h1, h2⟩
    · cases h

theorem evOpR_par {cx : Cx} {ty : TypeId} {o : Op} {rd : Operand → V} {M : Mem} (hno : nilOp o = false) (h : evOpR cx ty o rd M k = some q) : ∃ v, evOpR cx ty o rd M some = some v ∧ k v = some q := by
  unfold evOpR at h ⊢
  split at h
  · exact ⟨_, rfl, h⟩
  · exact ⟨_, rfl, h⟩
  · split at h
    · exact ⟨_, rfl, h⟩
    · rename_i t _
      rw [oite_eq] at h ⊢
      cases t <;> exact ⟨_, rfl, h⟩
    · cases h
  · split at h
    · split at h
      · split at h
        · exact ⟨_, rfl, h⟩
        · cases h
      · cases h
    · cases h
  · split at h
    · exact evLoad_par h
    · cases h
  · split at h
    all_goals first
      | exact ⟨_, rfl, h⟩
      | cases h
  · simp only [nilOp] at hno
    rw [hno] at h ⊢
    simp only at h ⊢
    split at h
    · exact evBin_par (f := V.d) h
    · cases h
  · split at h
    all_goals first
      | exact ⟨_, rfl, h⟩
      | cases h
  · split at h
    · exact ⟨_, rfl, h⟩
    · cases h
  · split at h
    · exact evSlice_par h
    · split at h
      · exact evSlice_par h
      · cases h
    · split at h
      · exact evSlice_par h
      · cases h
    · split at h
      · exact evSlice_par h
      · cases h
  · split at h
    · split at h
      · split at h
        · split at h
          · obtain ⟨h1, h2⟩ := bif_some h
            rw [h1, cond_true]
            split at h2
            all_goals first
              | exact ⟨_, rfl, h2⟩
              | (obtain ⟨h3, h4⟩ := bif_some h2; exact ⟨_, by rw [h3]; rfl, h4⟩)
              | cases h2
          · cases h
        · cases h
      · cases h
    · cases h
  · split at h
    · split at h
      · split at h
        · split at h
          · split at h
            · obtain ⟨h1, h2⟩ := bif_some h
              rw [h1, cond_true]
              rename_i U _ _ _ _
              cases hA : U.agg <;> rw [hA] at h2 <;> simp only [cond_true, cond_false] at h2 ⊢
              · split at h2
                · exact ⟨_, rfl, h2⟩
                · cases h2
              · exact ⟨_, rfl, h2⟩
            · cases h
          · cases h
        · cases h
      · cases h
    · cases h
  · split at h
    · exact evIndexAddr_par h
    · cases h
  · split at h
    · split at h
      · obtain ⟨h1, h2⟩ := oguard_some h
        rw [oguard_t h1]
        exact ⟨_, rfl, h2⟩
      · cases h
    · cases h
  · split at h
    · split at h
      · exact ⟨_, rfl, h⟩
      · cases h
    · cases h
  · split at h
    · split at h
      · exact ⟨_, rfl, h⟩
      · exact ⟨_, rfl, h⟩
      · split at h
        · split at h
          · exact evBytes_par h
          · cases h
        · cases h
      · cases h
    · cases h
  · split at h
    · split at h
      · split at h
        · split at h
          · exact evLen_par (f := fun n => .d (.int .i64 n)) h
          · cases h
        · cases h
      · split at h
        · split at h
          · split at h
            · exact ⟨_, rfl, h⟩
            · cases h
          · cases h
        · cases h
      · split at h
        · exact ⟨_, rfl, h⟩
        · cases h
      · split at h
        · exact ⟨_, rfl, h⟩
        · cases h
      · cases h
    · cases h
  · cases h

theorem evOpQ_par {cx : Cx} {call : CallF} {ty : TypeId} {o : Op} {rd : Operand → V} {M : Mem} (h : evOpQ cx call ty o rd M k = some q) : ∃ v, evOpQ cx call ty o rd M some = some v ∧ k v = some q := by
  unfold evOpQ at h ⊢
  split at h
  · split at h
    · split at h
      · unfold evCallQ at h ⊢
        split at h
        · cases h
        · split at h
          · cases h
          · rw [fVs_eq] at h ⊢
            obtain ⟨v, M', t, u, h1, h2, h3, hk⟩ := ocall_some h
            rw [ocall_t h1 h2 h3]; exact ⟨_, rfl, hk⟩
      · cases h
    · exact evOpR_par rfl h
  · split at h
    · split at h
      · split at h
        · obtain ⟨h1, h2⟩ := bif_some h
          rw [h1, cond_true]
          split at h2
          · exact ⟨_, rfl, h2⟩
          · cases h2
        · cases h
      · cases h
    · cases h
  · cases hno : nilOp o with
    | true => rw [hno] at h; cases h
    | false => rw [hno] at h; exact evOpR_par hno h
end
end Go.Ev
