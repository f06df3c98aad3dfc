import Derived.Test.YtkgabahlbmonfaaDoorEvOp2
set_option linter.unusedVariables false
set_option linter.unusedSimpArgs false
/-
  Trees that nobody else has: their rows by place.
-/
namespace Go.Ev
open Go

section
variable {w : World} {g g' : Nat → Option Value}

theorem LCs.append : ∀ {xs ys : List D} {off : Nat} {F : List Nat}, LCs w g off (xs ++ ys) F ↔ ∃ F1 F2, F = F1 ++ F2 ∧ LCs w g off xs F1 ∧ LCs w g (off + xs.length) ys F2
  | [], ys, off, F => by
    constructor
    · intro h; exact ⟨[], F, rfl, by unfold LCs; rfl, by simpa using h⟩
    · rintro ⟨F1, F2, rfl, h1, h2⟩
      unfold LCs at h1; subst h1; simpa using h2
  | x :: xs, ys, off, F => by
    have ih := fun F => LCs.append (xs := xs) (ys := ys) (off := off + 1) (F := F)
    simp only [List.cons_append]
    constructor
    · intro h
      unfold LCs at h
      obtain ⟨F1, F2, rfl, hu, h2⟩ := h
      obtain ⟨F3, F4, rfl, h3, h4⟩ := (ih _).1 h2
      refine ⟨F1 ++ F3, F4, by simp, by unfold LCs; exact ⟨F1, F3, rfl, hu, h3⟩, ?_⟩
      rw [List.length_cons, show off + (xs.length + 1) = off + 1 + xs.length by omega]; exact h4
    · rintro ⟨F1, F2, rfl, h1, h2⟩
      unfold LCs at h1 ⊢
      obtain ⟨F3, F4, rfl, hu, h4⟩ := h1
      refine ⟨F3, F4 ++ F2, by simp, hu, (ih _).2 ⟨F4, F2, rfl, h4, ?_⟩⟩
      rw [List.length_cons, show off + (xs.length + 1) = off + 1 + xs.length by omega] at h2; exact h2
theorem LEs.append {sz : Nat} : ∀ {es fs : List (List D)} {off : Nat} {F : List Nat}, (∀ c ∈ es, c.length = sz) → (LEs w g off (es ++ fs) F ↔ ∃ F1 F2, F = F1 ++ F2 ∧ LEs w g off es F1 ∧ LEs w g (off + es.length * sz) fs F2)
  | [], fs, off, F, _ => by
    constructor
    · intro h; exact ⟨[], F, rfl, by unfold LEs; rfl, by simpa using h⟩
    · rintro ⟨F1, F2, rfl, h1, h2⟩
      unfold LEs at h1; subst h1; simpa using h2
  | c :: es, fs, off, F, hl => by
    have hc := hl c (by simp)
    have ih := fun F => LEs.append (sz := sz) (es := es) (fs := fs) (off := off + sz) (F := F) (fun c' h => hl c' (by simp [h]))
    have ho : off + (c :: es).length * sz = off + sz + es.length * sz := by rw [List.length_cons, Nat.add_mul, Nat.one_mul]; omega
    simp only [List.cons_append]
    constructor
    · intro h
      unfold LEs at h
      obtain ⟨F1, F2, rfl, hu, h2⟩ := h
      rw [hc] at h2
      obtain ⟨F3, F4, rfl, h3, h4⟩ := (ih _).1 h2
      refine ⟨F1 ++ F3, F4, by simp, by unfold LEs; rw [hc]; exact ⟨F1, F3, rfl, hu, h3⟩, ?_⟩
      rw [ho]; exact h4
    · rintro ⟨F1, F2, rfl, h1, h2⟩
      unfold LEs at h1 ⊢
      obtain ⟨F3, F4, rfl, hu, h4⟩ := h1
      rw [hc] at h4 ⊢
      refine ⟨F3, F4 ++ F2, by simp, hu, (ih _).2 ⟨F4, F2, rfl, h4, ?_⟩⟩
      rw [ho] at h2; exact h2

/-- Only the cells that are told count. -/
theorem LCs.cong : ∀ {xs : List D} {off : Nat} {F : List Nat}, (∀ o, off ≤ o → o < off + xs.length → g' o = g o) → LCs w g off xs F → LCs w g' off xs F
  | [], _, _, _, h => by unfold LCs at h ⊢; exact h
  | x :: xs, off, F, hg, h => by
    unfold LCs at h ⊢
    obtain ⟨F1, F2, rfl, ⟨u, hu, h1⟩, h2⟩ := h
    exact ⟨F1, F2, rfl, ⟨u, by rw [hg off (Nat.le_refl _) (by simp)]; exact hu, h1⟩, LCs.cong (fun o h1 h2 => hg o (by omega) (by simp; omega)) h2⟩
theorem LEs.cong {sz : Nat} : ∀ {es : List (List D)} {off : Nat} {F : List Nat}, (∀ c ∈ es, c.length = sz) → (∀ o, off ≤ o → o < off + es.length * sz → g' o = g o) → LEs w g off es F → LEs w g' off es F
  | [], _, _, _, _, h => by unfold LEs at h ⊢; exact h
  | c :: es, off, F, hl, hg, h => by
    have hc := hl c (by simp)
    have ho : off + (c :: es).length * sz = off + sz + es.length * sz := by rw [List.length_cons, Nat.add_mul, Nat.one_mul]; omega
    unfold LEs at h ⊢
    obtain ⟨F1, F2, rfl, h1, h2⟩ := h
    rw [hc] at h2 ⊢
    exact ⟨F1, F2, rfl, h1.cong (fun o h1 h2 => hg o h1 (by rw [ho]; omega)), LEs.cong (fun c' h => hl c' (by simp [h])) (fun o h1 h2 => hg o (by omega) (by rw [ho]; omega)) h2⟩

/-- One element, and the others. -/
theorem LEs.split {sz : Nat} {es : List (List D)} {off : Nat} {F : List Nat} {i : Nat} (hl : ∀ c ∈ es, c.length = sz) (hi : i < es.length) (h : LEs w g off es F) :
    ∃ F1 F2 F3, F = F1 ++ (F2 ++ F3) ∧ LEs w g off (es.take i) F1 ∧ LCs w g (off + i * sz) (es.getD i []) F2 ∧ LEs w g (off + (i + 1) * sz) (es.drop (i + 1)) F3 := by
  have e : es = es.take i ++ (es.getD i [] :: es.drop (i + 1)) := by
    have h1 : es.getD i [] = es[i] := by rw [List.getD_eq_getElem?_getD, List.getElem?_eq_getElem hi]; rfl
    rw [h1, ← List.drop_eq_getElem_cons hi, List.take_append_drop]
  have hlt : ∀ c ∈ es.take i, c.length = sz := fun c hc => hl c (List.take_subset _ _ hc)
  have hti : (es.take i).length = i := by simp; omega
  have hci : (es.getD i []).length = sz := by
    apply hl; rw [List.getD_eq_getElem?_getD, List.getElem?_eq_getElem hi]; exact List.getElem_mem hi
  rw [e] at h
  obtain ⟨F1, F2, rfl, h1, h2⟩ := (LEs.append hlt).1 h
  rw [hti] at h2
  unfold LEs at h2
  obtain ⟨F3, F4, rfl, h3, h4⟩ := h2
  rw [hci] at h4
  exact ⟨F1, F3, F4, rfl, h1, h3, by rw [Nat.add_mul, Nat.one_mul, ← Nat.add_assoc]; exact h4⟩
/-- An element is another one, cells elsewhere are what they were. -/
theorem LEs.join {sz : Nat} {es : List (List D)} {off : Nat} {F1 F2 F3 : List Nat} {i : Nat} {c : List D} (hl : ∀ c ∈ es, c.length = sz) (hi : i < es.length) (hc : c.length = sz) (h1 : LEs w g off (es.take i) F1) (h2 : LCs w g (off + i * sz) c F2) (h3 : LEs w g (off + (i + 1) * sz) (es.drop (i + 1)) F3) : LEs w g off (es.set i c) (F1 ++ (F2 ++ F3)) := by
  have hlt : ∀ c ∈ es.take i, c.length = sz := fun c hc => hl c (List.take_subset _ _ hc)
  have hti : (es.take i).length = i := by simp; omega
  have e : es.set i c = es.take i ++ (c :: es.drop (i + 1)) := by rw [List.set_eq_take_append_cons_drop, if_pos hi]
  rw [e]
  refine (LEs.append hlt).2 ⟨F1, F2 ++ F3, rfl, h1, ?_⟩
  rw [hti]
  unfold LEs
  refine ⟨F2, F3, rfl, h2, ?_⟩
  rw [hc]
  rwa [Nat.add_mul, Nat.one_mul, ← Nat.add_assoc] at h3
/-- Some cells, and the others. -/
theorem LCs.split {c : List D} {off j m : Nat} {F : List Nat} (hj : j + m ≤ c.length) (h : LCs w g off c F) :
    ∃ F1 F2 F3, F = F1 ++ (F2 ++ F3) ∧ LCs w g off (c.take j) F1 ∧ LCs w g (off + j) ((c.drop j).take m) F2 ∧ LCs w g (off + (j + m)) (c.drop (j + m)) F3 := by
  have e : c = c.take j ++ ((c.drop j).take m ++ c.drop (j + m)) := by
    have : c.drop (j + m) = (c.drop j).drop m := by rw [List.drop_drop]
    rw [this, List.take_append_drop, List.take_append_drop]
  rw [e] at h
  obtain ⟨F1, F2, rfl, h1, h2⟩ := LCs.append.1 h
  obtain ⟨F3, F4, rfl, h3, h4⟩ := LCs.append.1 h2
  have l1 : (c.take j).length = j := by simp; omega
  have l2 : ((c.drop j).take m).length = m := by simp; omega
  rw [l1] at h3 h4
  rw [l2] at h4
  exact ⟨F1, F3, F4, rfl, h1, h3, by rw [← Nat.add_assoc]; exact h4⟩
theorem LCs.join {c ds : List D} {off j : Nat} {F1 F2 F3 : List Nat} (hj : j + ds.length ≤ c.length) (h1 : LCs w g off (c.take j) F1) (h2 : LCs w g (off + j) ds F2) (h3 : LCs w g (off + (j + ds.length)) (c.drop (j + ds.length)) F3) : LCs w g off (c.take j ++ ds ++ c.drop (j + ds.length)) (F1 ++ (F2 ++ F3)) := by
  have l1 : (c.take j).length = j := by simp; omega
  rw [List.append_assoc]
  refine LCs.append.2 ⟨F1, F2 ++ F3, rfl, h1, LCs.append.2 ⟨F2, F3, rfl, by rw [l1]; exact h2, ?_⟩⟩
  rw [l1, Nat.add_assoc]; exact h3

/-- Cells in which no list stands are data. -/
theorem LT.leaf {C : Com} {v : Value} {x : D} {F : List Nat} (hx : x.flat = true) (h : LT w v x F) : RD w C v x ∧ F = [] := by
  cases x with
  | sl f sz n es => cases hx
  | _ => unfold LT at h; unfold RD; exact h
theorem RD.lt {C : Com} {v : Value} {x : D} (hx : x.flat = true) (h : RD w C v x) : LT w v x [] := by
  cases x with
  | sl f sz n es => cases hx
  | _ => unfold RD at h; unfold LT; exact ⟨h, rfl⟩
theorem dec_flat {s : LS} (hs : s.isF = true) {x : D} {t : s.T} (h : s.dec (.d x) = some t) : x.flat = true := by
  cases s with
  | int k =>
    cases x with
    | sl f sz n es => simp [LS.dec] at h
    | _ => rfl
  | bool =>
    cases x with
    | sl f sz n es => simp [LS.dec] at h
    | _ => rfl
  | str =>
    cases x with
    | sl f sz n es => simp [LS.dec] at h
    | _ => rfl
  | _ => cases hs
theorem LCs.flat {C : Com} {ι : Locs} : ∀ {l : List LS} {xs : List D} {t : LS.Ts l} {off : Nat} {F : List Nat}, LS.allf l = true → LS.decD l xs = some t → LCs w g off xs F → F = [] ∧ ∃ us : List Value, us.length = xs.length ∧ (∀ j u, us[j]? = some u → g (off + j) = some u) ∧ RVs w C ι us (toVs xs)
  | [], [], _, _, F, _, _, h => by unfold LCs at h; exact ⟨h, [], rfl, fun j u h => by simp at h, by simp [toVs, RVs]⟩
  | [], _ :: _, _, _, _, _, h, _ => by simp [LS.decD] at h
  | _ :: _, [], _, _, _, _, h, _ => by simp [LS.decD] at h
  | s :: l, x :: xs, t, off, F, ha, hd, h => by
    simp only [LS.allf, Bool.and_eq_true] at ha
    simp only [LS.decD] at hd
    split at hd
    · rename_i t1 t2 h1 h2
      unfold LCs at h
      obtain ⟨F1, F2, rfl, ⟨u, hu, hx⟩, hr⟩ := h
      obtain ⟨r1, rfl⟩ := LT.leaf (C := C) (dec_flat ha.1 h1) hx
      obtain ⟨rfl, us, e1, e2, e3⟩ := LCs.flat (C := C) (ι := ι) ha.2 h2 hr
      refine ⟨rfl, u :: us, by simp [e1], fun j v hj => ?_, by simp only [toVs]; unfold RVs; exact ⟨by unfold RV; exact r1, e3⟩⟩
      cases j with
      | zero => simp at hj; subst hj; simpa using hu
      | succ j => simp at hj; have := e2 j v hj; rwa [show off + (j + 1) = off + 1 + j by omega]
    · cases hd
end
end Go.Ev
