import Derived.Test.YtkgabahlbmonfaaDoorEvMd
import Derived.Test.YtkgabahlbmonfaaDoorEvMc
set_option linter.unusedVariables false
set_option linter.unusedSimpArgs false
/-
  Rows that all their trees belong to: what belongs to whom turns.
-/
namespace Go.Ev
open Go

/-- Blocks get another owner: those of F' belong to B, the others of S to nobody. -/
def Com.relab (C : Com) (S F' : List Nat) (B : Nat) : Com := ⟨C.lim, fun b => if b ∈ F' then some B else if b ∈ S then none else C.own b⟩

/-- S: all that belongs to B, or is under way. -/
structure Cls (C : Com) (S : List Nat) (B : Nat) : Prop where
  cls : ∀ b ∈ S, ∃ X, C.own b = some X ∧ (X = B ∨ C.own X = some X) ∧ ∀ b', C.own b' = some X → b' ∈ S

section
variable {C : Com} {ι : Locs} {n n' : Nat} {S F' : List Nat} {B B1 : Nat}

theorem relab_in {b : Nat} (h : b ∈ F') : (C.relab S F' B).own b = some B := by simp [Com.relab, h]
theorem relab_out {b : Nat} (h : b ∉ S) (hF : ∀ b ∈ F', b ∈ S) : (C.relab S F' B).own b = C.own b := by
  have : b ∉ F' := fun h' => h (hF b h')
  simp [Com.relab, h, this]
theorem relab_some {b m : Nat} (hF : ∀ b ∈ F', b ∈ S) (h : (C.relab S F' B).own b = some m) : (b ∈ F' ∧ m = B) ∨ (b ∉ S ∧ C.own b = some m) := by
  by_cases h1 : b ∈ F'
  · rw [relab_in h1] at h; exact .inl ⟨h1, (Option.some.inj h).symm⟩
  · by_cases h2 : b ∈ S
    · simp [Com.relab, h1, h2] at h
    · rw [relab_out h2 hF] at h; exact .inr ⟨h2, h⟩

theorem Cls.ok (c : Cls C S B1) (h : C.Ok ι n) (hB1 : C.own B1 = none) (hF : ∀ b ∈ F', b ∈ S) (hn : n ≤ n') (hB : B < n') (hfree : C.own B = none) {ι' : Locs} (hι : ∀ (i : Nat) (L : Loc), ι'[i]? = some L → L.located → L.b = B ∨ ∃ (i : Nat) (L0 : Loc), ι[i]? = some L0 ∧ L0.located ∧ L0.b = L.b) : (C.relab S F' B).Ok ι' n' := by
  have inS : ∀ b ∈ S, ∃ X, C.own b = some X := fun b hb => by obtain ⟨X, h1, _⟩ := c.cls b hb; exact ⟨X, h1⟩
  intro b m hm
  have hloc : ∀ X, C.own b = some X → ∀ (i : Nat) (L : Loc), ι'[i]? = some L → L.located → L.b ≠ b := by
    intro X hX i L hi hl e
    rcases hι i L hi hl with h1 | ⟨i0, L0, h1, h2, h3⟩
    · rw [← e, h1, hfree] at hX; cases hX
    · exact (h b X hX).2.2.2.2 i0 L0 h1 h2 (h3.trans e)
  rcases relab_some hF hm with ⟨hb, rfl⟩ | ⟨hb, hm⟩
  · obtain ⟨X, hX⟩ := inS b (hF b hb)
    obtain ⟨q1, q2, q3, _⟩ := h b X hX
    have hBS : m ∉ S := fun hs => by obtain ⟨Y, hY⟩ := inS m hs; rw [hfree] at hY; cases hY
    exact ⟨hB, by omega, q3, .inl (by rw [relab_out hBS hF]; exact hfree), hloc X hX⟩
  · obtain ⟨q1, q2, q3, q4, q5⟩ := h b m hm
    refine ⟨by omega, by omega, q3, ?_, hloc m hm⟩
    have hmS : m ∉ S := by
      intro hs
      obtain ⟨X, h1, h2, h3⟩ := c.cls m hs
      rcases q4 with q4 | q4
      · rw [q4] at h1; cases h1
      · rw [q4] at h1; cases h1
        exact hb (h3 b hm)
    rw [relab_out hmS hF]
    exact q4

theorem Cls.stay (c : Cls C S B1) (h : C.Ok ι n) (hF : ∀ b ∈ F', b ∈ S) {i : Nat} {L : Loc} (hi : ι[i]? = some L) (hl : L.located) (h1 : L.b ≠ B1) (h2 : L.b ≠ B) (b' : Nat) : (C.relab S F' B).own b' = some L.b ↔ C.own b' = some L.b := by
  by_cases hb : b' ∈ S
  · obtain ⟨X, hX, hc, _⟩ := c.cls b' hb
    have hne : X ≠ L.b := by
      rcases hc with hc | hc
      · rw [hc]; exact fun e => h1 e.symm
      · intro e; subst e; exact (h _ _ hc).2.2.2.2 i L hi hl rfl
    constructor
    · intro hm
      rcases relab_some hF hm with ⟨_, e⟩ | ⟨hn, _⟩
      · exact absurd e h2
      · exact absurd hb hn
    · intro hm; rw [hX] at hm; exact absurd (Option.some.inj hm) hne
  · rw [relab_out hb hF]

theorem Cls.outo (c : Cls C S B1) (hF : ∀ b ∈ F', b ∈ S) (hB : ∀ b, C.own b = some B1 → Has C ι b) (b : Nat) (hb : ¬ Has C ι b) : (C.relab S F' B).own b = C.own b := by
  refine relab_out (fun hs => ?_) hF
  obtain ⟨X, hX, hc, _⟩ := c.cls b hs
  rcases hc with hc | hc
  · subst hc; exact hb (hB b hX)
  · exact hb (.inr ⟨X, hc, hX⟩)
end

/-- Values of trees, and their blocks. -/
def LVs (w : World) : List Value → List D → List Nat → Prop
  | [], [], F => F = []
  | u :: us, x :: xs, F => ∃ F1 F2, F = F1 ++ F2 ∧ LT w u x F1 ∧ LVs w us xs F2
  | _, _, _ => False

section
variable {w w' : World}
theorem LVs.mono : ∀ {us : List Value} {xs : List D} {F : List Nat}, (∀ b ∈ F, w'.heap[b]? = w.heap[b]?) → LVs w us xs F → LVs w' us xs F
  | [], [], _, _, h => by unfold LVs at h ⊢; exact h
  | [], _ :: _, _, _, h => by simp [LVs] at h
  | _ :: _, [], _, _, h => by simp [LVs] at h
  | u :: us, x :: xs, F, hf, h => by
    unfold LVs at h ⊢
    obtain ⟨F1, F2, rfl, h1, h2⟩ := h
    exact ⟨F1, F2, rfl, h1.mono _ (fun b hb => hf b (by simp [hb])), h2.mono (fun b hb => hf b (by simp [hb]))⟩
theorem LVs.length : ∀ {us : List Value} {xs : List D} {F : List Nat}, LVs w us xs F → us.length = xs.length
  | [], [], _, _ => rfl
  | [], _ :: _, _, h => by simp [LVs] at h
  | _ :: _, [], _, h => by simp [LVs] at h
  | u :: us, x :: xs, F, h => by
    unfold LVs at h
    obtain ⟨F1, F2, rfl, h1, h2⟩ := h
    simp [h2.length]
theorem LVs.append : ∀ {us vs : List Value} {xs ys : List D} {F G : List Nat}, LVs w us xs F → LVs w vs ys G → LVs w (us ++ vs) (xs ++ ys) (F ++ G)
  | [], _, [], _, _, _, h, h' => by unfold LVs at h; subst h; simpa using h'
  | [], _, _ :: _, _, _, _, h, _ => by simp [LVs] at h
  | _ :: _, _, [], _, _, _, h, _ => by simp [LVs] at h
  | u :: us, vs, x :: xs, ys, F, G, h, h' => by
    unfold LVs at h
    obtain ⟨F1, F2, rfl, h1, h2⟩ := h
    simp only [List.cons_append]
    unfold LVs
    exact ⟨F1, F2 ++ G, by simp, h1, h2.append h'⟩
theorem LCs.of_LVs {g : Nat → Option Value} : ∀ {us : List Value} {xs : List D} {off : Nat} {F : List Nat}, LVs w us xs F → (∀ j u, us[j]? = some u → g (off + j) = some u) → LCs w g off xs F
  | [], [], _, _, h, _ => by unfold LVs at h; unfold LCs; exact h
  | [], _ :: _, _, _, h, _ => by simp [LVs] at h
  | _ :: _, [], _, _, h, _ => by simp [LVs] at h
  | u :: us, x :: xs, off, F, h, hg => by
    unfold LVs at h
    obtain ⟨F1, F2, rfl, h1, h2⟩ := h
    unfold LCs
    refine ⟨F1, F2, rfl, ⟨u, hg 0 u rfl, h1⟩, LCs.of_LVs h2 fun j v hj => ?_⟩
    have := hg (j + 1) v (by simpa using hj)
    rwa [show off + 1 + j = off + (j + 1) by omega]
theorem LVs.of_LCs {g : Nat → Option Value} : ∀ {xs : List D} {off : Nat} {F : List Nat}, LCs w g off xs F → ∃ us : List Value, LVs w us xs F ∧ ∀ j u, us[j]? = some u → g (off + j) = some u
  | [], _, _, h => by unfold LCs at h; exact ⟨[], by unfold LVs; exact h, fun j u h => by simp at h⟩
  | x :: xs, off, F, h => by
    unfold LCs at h
    obtain ⟨F1, F2, rfl, ⟨u, hu, h1⟩, h2⟩ := h
    obtain ⟨us, h3, h4⟩ := LVs.of_LCs h2
    refine ⟨u :: us, by unfold LVs; exact ⟨F1, F2, rfl, h1, h3⟩, fun j v hj => ?_⟩
    cases j with
    | zero => simp at hj; subst hj; simpa using hu
    | succ j => simp at hj; have := h4 j v hj; rwa [show off + (j + 1) = off + 1 + j by omega]
theorem LEs.flat {g : Nat → Option Value} {sz : Nat} : ∀ {es : List (List D)} {off : Nat} {F : List Nat}, (∀ c ∈ es, c.length = sz) → LEs w g off es F → LCs w g off es.flatten F
  | [], _, _, _, h => by unfold LEs at h; simp only [List.flatten_nil]; unfold LCs; exact h
  | c :: es, off, F, hl, h => by
    unfold LEs at h
    obtain ⟨F1, F2, rfl, h1, h2⟩ := h
    simp only [List.flatten_cons]
    exact LCs.append.2 ⟨F1, F2, rfl, h1, LEs.flat (fun c' hc' => hl c' (by simp [hc'])) h2⟩
theorem LEs.of_flat {g : Nat → Option Value} : ∀ {es : List (List D)} {off : Nat} {F : List Nat}, LCs w g off es.flatten F → LEs w g off es F
  | [], _, _, h => by simp only [List.flatten_nil] at h; unfold LCs at h; unfold LEs; exact h
  | c :: es, off, F, h => by
    simp only [List.flatten_cons] at h
    obtain ⟨F1, F2, rfl, h1, h2⟩ := LCs.append.1 h
    unfold LEs
    exact ⟨F1, F2, rfl, h1, LEs.of_flat h2⟩
theorem LT.oneCell {v : Value} {x : D} {F : List Nat} (h : LT w v x F) : v.oneCell' = true := by
  cases x with
  | sl f sz n es => unfold LT at h; obtain ⟨a, cap, rfl, _⟩ := h; rfl
  | int k n => unfold LT at h; rw [h.1]; rfl
  | bool b => unfold LT at h; rw [h.1]; rfl
  | str b => unfold LT at h; rw [h.1]; rfl
theorem LVs.one : ∀ {us : List Value} {xs : List D} {F : List Nat}, LVs w us xs F → ∀ u ∈ us, u.oneCell' = true
  | [], _, _, _, _, h => by simp at h
  | _ :: _, [], _, h, _, _ => by simp [LVs] at h
  | u :: us, x :: xs, F, h, v, hv => by
    unfold LVs at h
    obtain ⟨F1, F2, rfl, h1, h2⟩ := h
    rcases List.mem_cons.1 hv with rfl | hv
    · exact h1.oneCell
    · exact h2.one v hv
theorem LVs.of_flat {C : Com} {ι : Locs} : ∀ {us : List Value} {xs : List D}, flatL xs = true → RVs w C ι us (toVs xs) → LVs w us xs []
  | [], [], _, _ => by unfold LVs; rfl
  | [], _ :: _, _, h => by simp [toVs, RVs] at h
  | _ :: _, [], _, h => by simp [toVs, RVs] at h
  | u :: us, x :: xs, hf, h => by
    simp only [flatL, Bool.and_eq_true] at hf
    simp only [toVs] at h
    unfold RVs at h
    unfold LVs
    have h1 := h.1
    unfold RV at h1
    exact ⟨[], [], rfl, h1.lt hf.1, LVs.of_flat hf.2 h.2⟩
end

/-- What is under way from one owner to another. -/
structure Pd (C : Com) (F : List Nat) : Prop where
  nd : F.Nodup
  cls : ∀ b ∈ F, ∃ X, C.own b = some X ∧ C.own X = some X ∧ ∀ b', C.own b' = some X → b' ∈ F
theorem Pd.nil {C : Com} : Pd C [] := ⟨by simp, fun b h => by simp at h⟩

section
variable {C : Com} {ι : Locs} {M : Mem} {w : World}

theorem killV_rv {u : Value} {v : V} {C' : Com} {ι' : Locs} {M' : Mem} {w' : World} {ks : List Nat} (g : Go1 C ι M w C' ι' M' w' (· ∈ ks)) (h : RV w C ι u v) : RV w' C' ι' u (killV ks v) := by
  have key : RV w' C' ι' u (v.ren (notIn ks)) := RV.ren g.stp.keeps (fun a b La hab ha => by
    by_cases hmem : a ∈ ks
    · rw [notIn_none hmem] at hab; cases hab
    · rw [notIn_some hmem] at hab; cases hab
      exact g.stp.same a La ha hmem) v h
  cases ks with
  | nil => exact RV.mono g.stp.keeps (fun i L hi => g.stp.same i L hi (by simp)) v h
  | cons a r => exact key

/-- A row with all that belongs to it is handed over. -/
theorem give (hst : St C ι M w) {i sz n : Nat} {mv : Bool} {es : List (List D)} (hM : M[i]? = some (.lrow sz n mv es)) {u : Value} (hu : RV w C ι u (.own i)) {F : List Nat} (pd : Pd C F) :
    ∃ C' ι' F1, Go1 C ι M w C' ι' (killM [i] (M.set i (.lrow sz 0 true []))) w (· ∈ [i]) ∧ LT w u (.sl false sz n es) F1 ∧ Pd C' (F ++ F1) ∧ C'.lim = C.lim := by
  have hu' := hu
  unfold RV at hu'
  obtain ⟨L, hL, hrow, a, rfl, ha⟩ := hu'
  obtain ⟨_, q1, q2, q3, q4, q5, q6⟩ := hst.ent i L _ hL hM
  have hlt := lt_of_get hL
  let L' : Loc := ⟨true, sz, 0, 0, 0, 0⟩
  have hnl : ¬ L'.located := by simp [Loc.located, L']
  have hE : ∀ C' ι', EntOk w C' ι' L' (.lrow sz 0 true []) := fun C' ι' => ⟨rfl, rfl, rfl, Nat.le_refl _, rfl, fun c hc => by simp at hc, .inl rfl⟩
  by_cases h0 : L.cap = 0
  · have u' : Upd C ι w i L L' C w := ⟨rfl, hst.own, rfl, rfl, rfl, Nat.le_refl _, hL, .refl _ _, fun _ _ _ => ⟨rfl, rfl⟩, fun hl => absurd hl hnl, hrow.symm, q1.symm, hst.com⟩
    refine ⟨C, ι.set i L', [], ⟨u'.st hst _ (.inr ⟨_, _, _, _, rfl⟩) (hE _ _), u'.stp (.inr (by simp)), fun j _ hm => mvs_kill hM rfl hm⟩, ?_, by simpa using pd, rfl⟩
    unfold LT
    exact ⟨a, L.cap, by rw [q2], q3, fun h => (by cases h), q4, q5, .inl ⟨h0, rfl⟩⟩
  · rcases q6 with q6 | ⟨us, T, fr, Fi, hh, hs, hz, hc, hnd, ho, he⟩
    · exact absurd q6 h0
    have ha := ha.resolve_left h0
    subst ha
    have hloc : L.located := .inr h0
    have hblt := hst.blt hL hloc
    have hfree : ∀ m, C.own L.b ≠ some m := fun m hm => (hst.own _ _ hm).2.2.2.2 i L hL hloc rfl
    let C' : Com := ⟨C.lim, fun b => if b = L.b then some L.b else C.own b⟩
    have hne : ∀ b, b ≠ L.b → C'.own b = C.own b := fun b hb => by simp [C', hb]
    have hse : C'.own L.b = some L.b := by simp [C']
    have hother : ∀ (j : Nat) (L1 : Loc), ι[j]? = some L1 → L1.located → j ≠ i → L1.b ≠ L.b := fun j L1 hj hl hne eb => hne (hst.inj j i L1 L hj hL hl hloc eb)
    have u' : UpdG C ι w i L L' C' w := by
      refine ⟨hst.own, ?_, fun b _ hb => hne b (fun e => hb (.inl ⟨i, L, hL, hloc, .inl e.symm⟩)), ?_, ?_, rfl, rfl, rfl, Nat.le_refl _, hL, ⟨fun _ _ _ => rfl, fun _ => Nat.le_refl _⟩, fun _ _ _ => ⟨rfl, rfl⟩, fun hl => absurd hl hnl, hrow.symm, q1.symm, hst.com⟩
      · intro b m hm
        by_cases hb : b = L.b
        · subst hb
          rw [hse] at hm; cases hm
          refine ⟨hblt, hblt, hc, .inr hse, fun j L1 hj hl => ?_⟩
          by_cases e : j = i
          · subst e; rw [List.getElem?_set_self hlt] at hj; cases hj; exact absurd hl hnl
          · rw [List.getElem?_set_ne (fun h => e h.symm)] at hj; exact hother j L1 hj hl e
        · rw [hne b hb] at hm
          obtain ⟨p1, p2, p3, p4, p5⟩ := hst.own b m hm
          refine ⟨p1, p2, p3, ?_, fun j L1 hj hl => ?_⟩
          · by_cases em : m = L.b
            · subst em; exact .inr hse
            · rw [hne m em]; exact p4
          · by_cases e : j = i
            · subst e; rw [List.getElem?_set_self hlt] at hj; cases hj; exact absurd hl hnl
            · rw [List.getElem?_set_ne (fun h => e h.symm)] at hj; exact p5 j L1 hj hl
      · intro b m hm
        by_cases hb : b = L.b
        · subst hb
          rw [hse] at hm; cases hm
          exact .inr (.inr (.inl ⟨i, L, hL, hloc, .inl rfl⟩))
        · rw [hne b hb] at hm; exact .inl hm
      · intro j L1 hj hl e b'
        by_cases hb : b' = L.b
        · subst hb
          rw [hse]
          constructor
          · intro h; exact absurd (Option.some.inj h).symm (hother j L1 hj hl e)
          · intro h; exact absurd h (hfree _)
        · rw [hne b' hb]
    refine ⟨C', ι.set i L', L.b :: Fi, ⟨u'.st hst _ (.inr ⟨_, _, _, _, rfl⟩) (hE _ _), u'.stp (.inr (by simp)), fun j _ hm => mvs_kill hM rfl hm⟩, ?_, ⟨?_, ?_⟩, rfl⟩
    · unfold LT
      exact ⟨_, L.cap, by rw [q2], q3, fun h => (by cases h), q4, q5, .inr ⟨_, _, _, rfl, rfl, us, T, fr, hh, hs, hz, he⟩⟩
    · have hLF : L.b ∉ Fi := fun h => hfree _ ((ho _).2 h)
      have hdis : ∀ b ∈ F, b ∉ L.b :: Fi := by
        intro b hb hm
        obtain ⟨X, h1, h2, _⟩ := pd.cls b hb
        rcases List.mem_cons.1 hm with rfl | hm
        · exact hfree _ h1
        · have := (ho b).2 hm
          rw [h1] at this; cases this
          exact hfree _ h2
      rw [List.nodup_append]
      exact ⟨pd.nd, List.nodup_cons.2 ⟨hLF, hnd⟩, fun a ha b hb e => hdis a ha (e ▸ hb)⟩
    · intro b hb
      rcases List.mem_append.1 hb with hb | hb
      · obtain ⟨X, h1, h2, h3⟩ := pd.cls b hb
        have hbn : b ≠ L.b := fun e => by subst e; exact hfree _ h1
        have hXn : X ≠ L.b := fun e => by subst e; exact hfree _ h2
        refine ⟨X, by rw [hne b hbn]; exact h1, by rw [hne X hXn]; exact h2, fun b' hb' => ?_⟩
        by_cases e : b' = L.b
        · subst e; rw [hse] at hb'; exact absurd (Option.some.inj hb').symm hXn
        · rw [hne b' e] at hb'; exact List.mem_append.2 (.inl (h3 b' hb'))
      · refine ⟨L.b, ?_, hse, fun b' hb' => ?_⟩
        · rcases List.mem_cons.1 hb with rfl | hb
          · exact hse
          · have := (ho b).2 hb
            have hbn : b ≠ L.b := fun e => by subst e; exact hfree _ this
            rw [hne b hbn]; exact this
        · by_cases e : b' = L.b
          · subst e; simp
          · rw [hne b' e] at hb'
            exact List.mem_append.2 (.inr (List.mem_cons_of_mem _ ((ho b').1 hb')))

theorem absorb1_ok {id : Nat} {v : V} {x : D} {M' : Mem} {ks : List Nat} (h : absorb1 M id v = some (x, M', ks)) (hst : St C ι M w) {u : Value} (hu : RV w C ι u v) {F : List Nat} (pd : Pd C F) :
    ∃ C' ι' F1, Go1 C ι M w C' ι' M' w (· ∈ ks) ∧ LT w u x F1 ∧ Pd C' (F ++ F1) ∧ C'.lim = C.lim ∧ (∀ k ∈ ks, k ≠ id) ∧ M'.length = M.length := by
  have leaf : ∀ {y : D}, y.flat = true → v = .d y → some (y, M, ([] : List Nat)) = some (x, M', ks) → ∃ C' ι' F1, Go1 C ι M w C' ι' M' w (· ∈ ks) ∧ LT w u x F1 ∧ Pd C' (F ++ F1) ∧ C'.lim = C.lim ∧ (∀ k ∈ ks, k ≠ id) ∧ M'.length = M.length := by
    intro y hy hv e
    cases e
    subst hv
    unfold RV at hu
    exact ⟨C, ι, [], Go1.refl' hst, hu.lt hy, by simpa using pd, rfl, fun k hk => by simp at hk, rfl⟩
  unfold absorb1 at h
  split at h
  · cases h
    unfold RV RD at hu
    obtain ⟨a, cap, rfl, h1, h2, h3, h4, _⟩ := hu
    have := h2 rfl; subst this
    refine ⟨C, ι, [], Go1.refl' hst, ?_, by simpa using pd, rfl, fun k hk => by simp at hk, rfl⟩
    unfold LT
    exact ⟨a, 0, rfl, Nat.le_refl _, fun _ => rfl, rfl, fun c hc => by simp at hc, .inl ⟨rfl, rfl⟩⟩
  · exact leaf rfl rfl h
  · exact leaf rfl rfl h
  · exact leaf rfl rfl h
  · cases h
    unfold RV at hu
    refine ⟨C, ι, [], Go1.refl' hst, ?_, by simpa using pd, rfl, fun k hk => by simp at hk, rfl⟩
    unfold LT; exact ⟨hu, rfl⟩
  · rename_i i
    cases hb : Nat.beq i id with
    | true => rw [hb] at h; cases h
    | false =>
      rw [hb] at h
      simp only [cond_false, getM] at h
      split at h
      · rename_i sz n mv es hM
        cases h
        obtain ⟨C', ι', F1, g, h1, h2, h3⟩ := give hst hM hu pd
        refine ⟨C', ι', F1, g, h1, h2, h3, ?_, by simp [killM_len]⟩
        intro k hk e
        simp at hk
        subst hk e
        rw [Nat.beq_refl] at hb; cases hb
      · cases h
  · cases h

theorem absorbL_ok {id : Nat} : ∀ {vs : List V} {M0 : Mem} {C0 : Com} {ι0 : Locs} {M : Mem} {C : Com} {ι : Locs} {ks0 : List Nat} {xs : List D} {M' : Mem} {ks : List Nat}, absorbL M id ks0 vs = some (xs, M', ks) → St C0 ι0 M0 w → St C ι M w → Go1 C0 ι0 M0 w C ι M w (· ∈ ks0) → ∀ {us : List Value}, RVs w C0 ι0 us vs → ∀ {F : List Nat}, Pd C F → (∀ k ∈ ks0, k ≠ id) →
    ∃ C' ι' F1, Go1 C0 ι0 M0 w C' ι' M' w (· ∈ ks) ∧ LVs w us xs F1 ∧ Pd C' (F ++ F1) ∧ C'.lim = C.lim ∧ (∀ k ∈ ks, k ≠ id) ∧ M'.length = M.length
  | [], M0, C0, ι0, M, C, ι, ks0, xs, M', ks, h, h0, hst, g, us, hu, F, pd, hk => by
    simp [absorbL] at h
    obtain ⟨rfl, rfl, rfl⟩ := h
    cases us with
    | nil => exact ⟨C, ι, [], g, by unfold LVs; rfl, by simpa using pd, rfl, hk, rfl⟩
    | cons u us => simp [RVs] at hu
  | v :: vs, M0, C0, ι0, M, C, ι, ks0, xs, M', ks, h, h0, hst, g, [], hu, F, pd, hk => by simp [RVs] at hu
  | v :: vs, M0, C0, ι0, M, C, ι, ks0, xs, M', ks, h, h0, hst, g, u :: us, hu, F, pd, hk => by
    unfold RVs at hu
    simp only [absorbL] at h
    cases h1 : absorb1 M id (killV ks0 v) with
    | none => rw [h1] at h; cases h
    | some p =>
      obtain ⟨x, M1, ks1⟩ := p
      rw [h1] at h; simp only at h
      cases h2 : absorbL M1 id (ks0 ++ ks1) vs with
      | none => rw [h2] at h; cases h
      | some q =>
        obtain ⟨ys, M2, ks2⟩ := q
        rw [h2] at h
        simp only [Option.some.injEq, Prod.mk.injEq] at h
        obtain ⟨rfl, rfl, rfl⟩ := h
        obtain ⟨C1, ι1, F1, g1, t1, p1, l1, k1, m1⟩ := absorb1_ok h1 hst (killV_rv g hu.1) pd
        have g01 := g.trans h0 g1 (k := (· ∈ ks0 ++ ks1)) (fun i => by simp)
        obtain ⟨C2, ι2, F2, g2, t2, p2, l2, k2, m2⟩ := absorbL_ok h2 h0 g1.st g01 hu.2 p1 (fun k hk' => by
          rcases List.mem_append.1 hk' with h | h
          · exact hk k h
          · exact k1 k h)
        exact ⟨C2, ι2, F1 ++ F2, g2, by unfold LVs; exact ⟨F1, F2, rfl, t1, t2⟩, by rw [← List.append_assoc]; exact p2, l2.trans l1, k2, m2.trans m1⟩
end
end Go.Ev

/-
  Rows that all their trees belong to: stores, looks at lists, what goes back.
-/
namespace Go.Ev
open Go

section
variable {R : Type} {P : Program} {C : Com} {ι : Locs} {M : Mem} {w : World}

/-- Something is put into an entry's row, which may be in a new block then. -/
theorem lput (hst : St C ι M w) {id : Nat} {L L' : Loc} (hL : ι[id]? = some L) {S F' : List Nat} {B B1 : Nat} {w' : World} (c : Cls C S B1) (hF : ∀ b ∈ F', b ∈ S) (hB1 : (L.located ∧ B1 = L.b) ∨ w.heap.size ≤ B1) (hB : (L.located ∧ B = L.b) ∨ (w.heap.size ≤ B ∧ B < w'.heap.size)) (hLB : L'.located → L'.b = B) (hC0 : L.located → C L.b = 0) (hrow : L'.row = L.row) (hsz : L'.sz = L.sz)
    (os : w'.os = w.os) (tape : w'.tape = w.tape) (output : w'.output = w.output) (hsize : w.heap.size ≤ w'.heap.size) (hheap : ∀ b, b < w.heap.size → (L.located → b ≠ L.b) → w'.heap[b]? = w.heap[b]?) : UpdG C ι w id L L' (C.relab S F' B) w' := by
  have hfreeL : L.located → C.own L.b = none := fun hl => by
    cases h : C.own L.b with
    | none => rfl
    | some m => exact absurd rfl ((hst.own _ _ h).2.2.2.2 id L hL hl)
  have hbig : ∀ b, w.heap.size ≤ b → C.own b = none := fun b hb => by
    cases h : C.own b with
    | none => rfl
    | some m => have := (hst.own _ _ h).2.1; omega
  have hnolab : ∀ b m, w.heap.size ≤ m → C.own b ≠ some m := fun b m hm h => by have := (hst.own _ _ h).1; omega
  have hf1 : C.own B1 = none := by
    rcases hB1 with ⟨hl, rfl⟩ | h
    · exact hfreeL hl
    · exact hbig _ h
  have hf : C.own B = none := by
    rcases hB with ⟨hl, rfl⟩ | ⟨h, _⟩
    · exact hfreeL hl
    · exact hbig _ h
  have hBlt : B < w'.heap.size := by
    rcases hB with ⟨hl, rfl⟩ | ⟨_, h⟩
    · have := hst.blt hL hl; omega
    · exact h
  have hltid := lt_of_get hL
  refine ⟨hst.own, ?_, fun b _ hb => c.outo hF (fun b hb => ?_) b hb, ?_, ?_, os, tape, output, hsize, hL, ⟨fun b o ho => ?_, fun _ => Nat.le_refl _⟩, fun b hb hn => ⟨hheap b hb hn, rfl⟩, fun hl => ?_, hrow, hsz, fun b => ?_⟩
  · refine c.ok hst.own hf1 hF hsize hBlt hf (fun i L1 hi hl => ?_)
    by_cases e : i = id
    · subst e
      rw [List.getElem?_set_self hltid] at hi; cases hi
      exact .inl (hLB hl)
    · rw [List.getElem?_set_ne (fun h => e h.symm)] at hi
      exact .inr ⟨i, L1, hi, hl, rfl⟩
  · rcases hB1 with ⟨hl, rfl⟩ | h
    · exact .inl ⟨id, L, hL, hl, .inr hb⟩
    · exact absurd hb (hnolab _ _ h)
  · intro b m hm
    rcases relab_some hF hm with ⟨_, rfl⟩ | ⟨_, h⟩
    · rcases hB with ⟨hl, rfl⟩ | ⟨h, _⟩
      · exact .inr (.inr (.inl ⟨id, L, hL, hl, .inl rfl⟩))
      · exact .inr (.inl h)
    · exact .inl h
  · intro i L1 hi hl hne b'
    have hn : L.located → L1.b ≠ L.b := fun hl' eb => hne (hst.inj i id L1 L hi hL hl hl' eb)
    have hlt := hst.blt hi hl
    refine c.stay hst.own hF hi hl ?_ ?_ b'
    · rcases hB1 with ⟨hl', rfl⟩ | h
      · exact hn hl'
      · omega
    · rcases hB with ⟨hl', rfl⟩ | ⟨h, _⟩
      · exact hn hl'
      · omega
  · have hb := hst.clt ho
    refine cell_of_heap (hheap b hb (fun hl e => ?_))
    subst e
    rw [hC0 hl] at ho; omega
  · have := hLB hl
    rcases hB with ⟨hl', rfl⟩ | ⟨h, _⟩
    · exact .inl ⟨hl', this⟩
    · exact .inr (by omega)
  · by_cases hb : b < w.heap.size
    · by_cases e : L.located ∧ b = L.b
      · obtain ⟨hl, rfl⟩ := e
        exact .inl (hC0 hl)
      · have hh := hheap b hb (fun hl e' => e ⟨hl, e'⟩)
        rcases hst.com b with h | ⟨us, T, fr, h1, h2⟩
        · exact .inl h
        · exact .inr ⟨us, T, fr, hh.trans h1, h2⟩
    · exact .inl (hst.czero (by omega))

theorem relab_iff {S F' : List Nat} {B : Nat} (hF : ∀ b ∈ F', b ∈ S) (hS : ∀ b, C.own b = some B → b ∈ S) (b : Nat) : (C.relab S F' B).own b = some B ↔ b ∈ F' := by
  constructor
  · intro h
    rcases relab_some hF h with ⟨h, _⟩ | ⟨h, h'⟩
    · exact h
    · exact absurd (hS b h') h
  · exact relab_in

theorem evStoreL_ok {t : TypeId} {T : TI} (hT : TIok P t T) (hst : St C ι M w) {a x : V} {k : Mem → List Nat → Option R} {r : R} (h : evStoreL T M a x k = some r) {av xv : Value} (ha : RV w C ι av a) (hx : RV w C ι xv x) :
    ∃ M' ks C' ι' w', (Instr.storeAt t av xv).run P w = .ok () w' ∧ Go1 C ι M w C' ι' M' w' (· ∈ ks) ∧ k M' ks = some r := by
  unfold evStoreL at h
  obtain ⟨hc, h⟩ := bif_some h
  simp only [Bool.and_eq_true] at hc
  obtain ⟨hl, hs, hlf⟩ := hc
  have hl := Nat.eq_of_beq_eq_true hl
  have hcells := hx.cells hs
  have hclen := hcells.length
  have hvs : xv.cells.size = T.size := by rw [← hl, ← hclen]; simp
  have pre : ∀ (b o : Nat), av = .pointer (some ⟨b, o, none⟩) → (Instr.storeAt t av xv).run P w = (storeCells ⟨b, o, none⟩ xv.cells.toList).run P w := by
    intro b o e; subst e
    unfold Instr.storeAt Instr.sureAddr storeVar
    simp only [Sem.run_bind, Sem.run_pure, Result.andThen_ok, hT.size, hvs, ne_eq, not_true_eq_false, if_false]
  cases a with
  | ep id i j =>
    simp only at h
    cases hf : absorbL M id [] x.cells with
    | none => rw [hf] at h; cases h
    | some p =>
      obtain ⟨ds, M1, ks⟩ := p
      rw [hf] at h
      simp only [getM] at h
      obtain ⟨C1, ι1, Fp, g1, lv, pd, hlim, hks, _⟩ := absorbL_ok hf hst hst (Go1.refl' hst) hcells Pd.nil (fun k hk => by simp at hk)
      simp only [List.nil_append] at pd
      cases hM : M1[id]? with
      | none => rw [hM] at h; cases h
      | some e =>
        rw [hM] at h
        cases e with
        | box => cases h
        | row => cases h
        | hole => cases h
        | lrow sz n mv es =>
          simp only at h
          obtain ⟨hle, hk⟩ := bif_some h
          clear h
          have hle := Nat.le_of_ble_eq_true hle
          rw [olet_eq] at hk
          have ha' := ha
          unfold RV at ha'
          obtain ⟨L, hL0, hrow, hi, rfl⟩ := ha'
          have hL := g1.stp.same id L hL0 (fun hm => hks id hm rfl)
          obtain ⟨_, q1, q2, q3, q4, q5, q6⟩ := g1.st.ent id L _ hL hM
          subst q1 q2
          rcases q6 with q6 | ⟨us, T', fr, F, hh, hsoft, hz, hC, hnd, ho, hre⟩
          · omega
          have hloc : L.located := .inr (by omega)
          have hsz : xv.cells.toList.length = T.size := by simpa using hvs
          have hdl : ds.length = T.size := by rw [← lv.length]; exact hsz
          have hin : (i + 1) * L.sz ≤ L.cap * L.sz := Nat.mul_le_mul_right _ (by omega)
          rw [Nat.add_mul, Nat.one_mul] at hin
          obtain ⟨w', hr, e1, e2, e3, e4, e5, e6⟩ := run_storeCells' (P := P) L.b (L.base + i * L.sz + j) T' fr xv.cells.toList 0 us w hh hsoft (by omega) lv.one
          simp only [Nat.add_zero] at e6
          have hsz' : (us.toList.take (L.base + i * L.sz + j) ++ xv.cells.toList ++ us.toList.drop (L.base + i * L.sz + j + xv.cells.toList.length)).toArray.size = us.size := by simp at hsz ⊢; omega
          have gg : ∀ o, (us.toList.take (L.base + i * L.sz + j) ++ xv.cells.toList ++ us.toList.drop (L.base + i * L.sz + j + xv.cells.toList.length)).toArray[o]? = if L.base + i * L.sz + j ≤ o ∧ o < L.base + i * L.sz + j + T.size then xv.cells.toList[o - (L.base + i * L.sz + j)]? else us[o]? := by
            intro o
            have := seg_get (us := us.toList) (vs := xv.cells.toList) (off := L.base + i * L.sz + j) (o := o) (by simp at hsz ⊢; omega)
            rw [hsz] at this
            simpa [hsz] using this
          have hcl : (es.getD i []).length = L.sz := by
            apply q5; rw [List.getD_eq_getElem?_getD, List.getElem?_eq_getElem (by omega)]; exact List.getElem_mem _
          obtain ⟨A1, A2, A3, rfl, h1, h2, h3⟩ := LEs.split (i := i) q5 (by omega) hre
          obtain ⟨G1, G2, G3, rfl, h4, h5, h6⟩ := LCs.split (j := j) (m := T.size) (by omega) h2
          let F' := A1 ++ ((G1 ++ (Fp ++ G3)) ++ A3)
          let S := (A1 ++ ((G1 ++ (G2 ++ G3)) ++ A3)) ++ Fp
          have hF : ∀ b ∈ F', b ∈ S := by
            intro b hb
            simp only [F', S, List.mem_append] at hb ⊢
            rcases hb with hb | (hb | hb | hb) | hb <;> simp [hb]
          have hcls : Cls C1 S L.b := by
            refine ⟨fun b hb => ?_⟩
            rcases List.mem_append.1 hb with hb | hb
            · exact ⟨L.b, (ho b).2 hb, .inl rfl, fun b' hb' => List.mem_append.2 (.inl ((ho b').1 hb'))⟩
            · obtain ⟨X, p1, p2, p3⟩ := pd.cls b hb
              exact ⟨X, p1, .inr p2, fun b' hb' => List.mem_append.2 (.inr (p3 b' hb'))⟩
          have hheap : ∀ b, b ≠ L.b → w'.heap[b]? = w.heap[b]? := e5
          have hne : ∀ b ∈ S, b ≠ L.b := by
            intro b hb e
            obtain ⟨X, p1, _⟩ := hcls.cls b hb
            exact (g1.st.own _ _ p1).2.2.2.2 id L hL hloc e.symm
          have u : UpdG C1 ι1 w id L L (C1.relab S F' L.b) w' := lput g1.st hL hcls hF (.inl ⟨hloc, rfl⟩) (.inl ⟨hloc, rfl⟩) (fun _ => rfl) (fun _ => hC) rfl rfl e1 e2 e3 (by omega) (fun b _ hb => e5 b (hb hloc))
          have hS : ∀ b, C1.own b = some L.b → b ∈ S := fun b hb => List.mem_append.2 (.inl ((ho b).1 hb))
          have hnd' : F'.Nodup := by
            rw [List.nodup_iff_count] at hnd ⊢
            intro b
            have n1 := hnd b
            have n2 := List.nodup_iff_count.1 pd.nd b
            simp only [F', List.count_append] at n1 ⊢
            by_cases hb : b ∈ Fp
            · have hz1 : ∀ l : List Nat, (∀ c ∈ l, C1.own c = some L.b) → List.count b l = 0 := by
                intro l hl
                refine List.count_eq_zero.2 (fun hm => ?_)
                obtain ⟨X, p1, p2, _⟩ := pd.cls b hb
                have := hl b hm
                rw [p1] at this; cases this
                exact (g1.st.own _ _ p2).2.2.2.2 id L hL hloc rfl
              have z1 := hz1 A1 (fun c hc => (ho c).2 (by simp [hc]))
              have z2 := hz1 G1 (fun c hc => (ho c).2 (by simp [hc]))
              have z3 := hz1 G3 (fun c hc => (ho c).2 (by simp [hc]))
              have z4 := hz1 A3 (fun c hc => (ho c).2 (by simp [hc]))
              omega
            · have := List.count_eq_zero.2 hb
              omega
          have hm : ∀ l : List Nat, (∀ b ∈ l, b ∈ S) → ∀ b ∈ l, w'.heap[b]? = w.heap[b]? := fun l hl b hb => e5 b (hne b (hl b hb))
          have sub : ∀ b, (b ∈ A1 ∨ b ∈ G1 ∨ b ∈ G3 ∨ b ∈ A3 ∨ b ∈ Fp) → b ∈ S := by
            intro b hb
            simp only [S, List.mem_append]
            rcases hb with hb | hb | hb | hb | hb <;> simp [hb]
          have hnew : LEs w' (fun o => (us.toList.take (L.base + i * L.sz + j) ++ xv.cells.toList ++ us.toList.drop (L.base + i * L.sz + j + xv.cells.toList.length)).toArray[o]?) L.base (es.set i (putD (es.getD i []) j ds)) F' := by
            rw [putD_eq _ _ _ (by omega)]
            refine LEs.join q5 (by omega) (by simp only [List.length_append, List.length_take, List.length_drop]; omega) ?_ ?_ ?_
            · refine LEs.cong (sz := L.sz) (g := fun o => us[o]?) (fun c hc => q5 c (List.take_subset _ _ hc)) (fun o o1 o2 => ?_) (h1.mono _ (hm _ (fun b hb => sub b (.inl hb))))
              simp only [List.length_take] at o2
              rw [Nat.min_eq_left (by omega)] at o2
              show _ = _; rw [gg, if_neg (by omega)]
            · refine LCs.join (by omega) ?_ ?_ ?_
              · refine LCs.cong (g := fun o => us[o]?) (fun o o1 o2 => ?_) (h4.mono _ (hm _ (fun b hb => sub b (.inr (.inl hb)))))
                simp only [List.length_take] at o2
                show _ = _; rw [gg, if_neg (by omega)]
              · refine LCs.of_LVs (lv.mono (hm _ (fun b hb => sub b (.inr (.inr (.inr (.inr hb))))))) (fun q v hq => ?_)
                have hql := lt_of_get hq
                show _ = _
                rw [gg, if_pos (by omega), show L.base + i * L.sz + j + q - (L.base + i * L.sz + j) = q by omega]; exact hq
              · rw [hdl]
                refine LCs.cong (g := fun o => us[o]?) (fun o o1 o2 => ?_) (h6.mono _ (hm _ (fun b hb => sub b (.inr (.inr (.inl hb))))))
                show _ = _; rw [gg, if_neg (by omega)]
            · refine LEs.cong (sz := L.sz) (g := fun o => us[o]?) (fun c hc => q5 c (List.mem_of_mem_drop hc)) (fun o o1 o2 => ?_) (h3.mono _ (hm _ (fun b hb => sub b (.inr (.inr (.inr (.inl hb)))))))
              rw [Nat.add_mul, Nat.one_mul] at o1
              show _ = _; rw [gg, if_neg (by omega)]
          have go2 : Go1 C1 ι1 M1 w (C1.relab S F' L.b) ι1 (M1.set id (.lrow L.sz L.n mv (es.set i (putD (es.getD i []) j ds)))) w' (fun _ => False) := by
            refine ⟨u.st0 g1.st _ ⟨hrow, rfl, rfl, q3, by simpa using q4, ?_, .inr ⟨_, T', fr, F', e6, hsoft.of_size hsz', by rw [hsz']; omega, hC, hnd', relab_iff hF hS, hnew⟩⟩, u.stp0, fun i' _ hm => mvs_setE (e' := .lrow L.sz L.n mv (es.set i (putD (es.getD i []) j ds))) hM (fun h => h) (hm.elim (fun h => h) False.elim)⟩
            intro c hc
            rcases List.mem_or_eq_of_mem_set hc with hc | hc
            · exact q5 c hc
            · rw [hc, putD_eq _ _ _ (by omega)]; simp only [List.length_append, List.length_take, List.length_drop]; omega
          exact ⟨_, ks, _, ι1, w', (pre _ _ rfl).trans hr, g1.trans hst go2 (fun i => by simp), hk⟩
  | _ => cases h
end
end Go.Ev

/-
  Rows that all their trees belong to: lists in their cells that are looked at, and go back.
-/
namespace Go.Ev
open Go

theorem set_mid {α : Type} {c : List α} {j : Nat} {x : α} (h : j < c.length) : c.set j x = c.take j ++ [x] ++ c.drop (j + 1) := by
  rw [List.set_eq_take_append_cons_drop, if_pos h]; simp

section
variable {R : Type} {P : Program} {C : Com} {ι : Locs} {M : Mem} {w : World}

theorem lopen (hst : St C ι M w) {id i j : Nat} {sz n : Nat} {mv : Bool} {es : List (List D)} (hM : M[id]? = some (.lrow sz n mv es)) (hi : i < n) (hj : j < sz) {f : Bool} {sz' n' : Nat} {es' : List (List D)} (hx : ((es.getD i []).drop j).take 1 = [.sl f sz' n' es']) {L : Loc} (hL : ι[id]? = some L) :
    ∃ u C' ι', w.cell? ⟨L.b, L.base + i * L.sz + j, none⟩ = some u ∧ Go1 C ι M w C' ι' (M.set id (.hole sz n mv es i j (.own M.length)) ++ [.lrow sz' n' false es']) w (fun _ => False) ∧ RV w C' ι' u (.own M.length) := by
  obtain ⟨hrow, q1, q2, q3, q4, q5, q6⟩ := hst.ent id L _ hL hM
  subst q1 q2
  rcases q6 with q6 | ⟨us, T', fr, F, hh, hsoft, hz, hC, hnd, ho, hre⟩
  · omega
  have hloc : L.located := .inr (by omega)
  have hltM := lt_of_get hM
  have hcl : (es.getD i []).length = L.sz := by
    apply q5; rw [List.getD_eq_getElem?_getD, List.getElem?_eq_getElem (by omega)]; exact List.getElem_mem _
  obtain ⟨A1, A2, A3, rfl, h1, h2, h3⟩ := LEs.split (i := i) q5 (by omega) hre
  obtain ⟨G1, G2, G3, rfl, h4, h5, h6⟩ := LCs.split (j := j) (m := 1) (by omega) h2
  rw [hx] at h5
  unfold LCs at h5
  obtain ⟨G2, Gn, rfl, ⟨u, hu, hlt⟩, hgn⟩ := h5
  unfold LCs at hgn
  subst hgn
  simp only [List.append_nil] at hnd ho
  have hu' : us[L.base + i * L.sz + j]? = some u := hu
  have hcell : w.cell? ⟨L.b, L.base + i * L.sz + j, none⟩ = some u := by rw [cell_of_row hh]; exact hu'
  let F0 := A1 ++ ((G1 ++ G3) ++ A3)
  have hole : LEs w (fun o => if o = L.base + i * L.sz + j then some (.bool false) else us[o]?) L.base (es.set i ((es.getD i []).set j (.bool false))) F0 := by
    rw [set_mid (show j < (es.getD i []).length by omega)]
    have hF0 : F0 = A1 ++ ((G1 ++ ([] ++ G3)) ++ A3) := by simp [F0]
    rw [hF0]
    refine LEs.join q5 (by omega) (by simp only [List.length_append, List.length_take, List.length_drop, List.length_singleton]; omega) ?_ (LCs.join (ds := [.bool false]) (by simp only [List.length_singleton]; omega) ?_ ?_ ?_) ?_
    · refine LEs.cong (sz := L.sz) (g := fun o => us[o]?) (fun c hc => q5 c (List.take_subset _ _ hc)) (fun o o1 o2 => ?_) h1
      simp only [List.length_take] at o2
      rw [Nat.min_eq_left (by omega)] at o2
      show (if _ then _ else _) = _; rw [if_neg (by omega)]
    · refine LCs.cong (g := fun o => us[o]?) (fun o o1 o2 => ?_) h4
      simp only [List.length_take] at o2
      show (if _ then _ else _) = _; rw [if_neg (by omega)]
    · unfold LCs
      refine ⟨[], [], rfl, ⟨.bool false, if_pos rfl, by unfold LT; exact ⟨rfl, rfl⟩⟩, by unfold LCs; rfl⟩
    · refine LCs.cong (g := fun o => us[o]?) (fun o o1 o2 => ?_) h6
      simp only [List.length_singleton] at o1
      show (if _ then _ else _) = _; rw [if_neg (by omega)]
    · refine LEs.cong (sz := L.sz) (g := fun o => us[o]?) (fun c hc => q5 c (List.mem_of_mem_drop hc)) (fun o o1 o2 => ?_) h3
      rw [Nat.add_mul, Nat.one_mul] at o1
      show (if _ then _ else _) = _; rw [if_neg (by omega)]
  unfold LT at hlt
  obtain ⟨a, cap, rfl, t1, _, t3, t4, t5⟩ := hlt
  have hget : ∀ {L1 : Loc} (k : Nat) (L2 : Loc), (ι ++ [L1])[k]? = some L2 → ι[k]? = some L2 ∨ (k = ι.length ∧ L2 = L1) := by
    intro L1 k L2 hk
    rcases Nat.lt_or_ge k ι.length with g | g
    · rw [List.getElem?_append_left g] at hk; exact .inl hk
    · rw [List.getElem?_append_right g] at hk
      have := lt_of_get hk
      simp at this
      have e : k = ι.length := by omega
      subst e; simp at hk; exact .inr ⟨rfl, hk.symm⟩
  -- all that is asked, for the places and owners behind it
  have fin : ∀ (Lk : Loc) (C' : Com), C'.lim = C.lim → Lk.row = true → (Lk.cap = 0 ∨ a = some ⟨Lk.b, Lk.base, none⟩) → Lk.n = n' → Lk.cap = cap → (Lk.located → C.own Lk.b = some L.b) →
      C'.Ok (ι ++ [Lk]) w.heap.size → (∀ b, ¬ Has C ι b → C'.own b = C.own b) → (∀ b m, C'.own b = some m → C.own b = some m ∨ Has C ι m) →
      (∀ b, C'.own b = some L.b ↔ b ∈ F0) → (∀ (k : Nat) (L1 : Loc), ι[k]? = some L1 → L1.located → k ≠ id → ∀ b', C'.own b' = some L1.b ↔ C.own b' = some L1.b) → EntOk w C' (ι ++ [Lk]) Lk (.lrow sz' n' false es') →
      ∃ u C' ι', w.cell? ⟨L.b, L.base + i * L.sz + j, none⟩ = some u ∧ Go1 C ι M w C' ι' (M.set id (.hole L.sz L.n mv es i j (.own M.length)) ++ [.lrow sz' n' false es']) w (fun _ => False) ∧ RV w C' ι' u (.own M.length) := by
    intro Lk C' hlim r1 r2 r3 r4 r5 r6 r7 r8 r9 r10 r11
    have hRV : RV w C' (ι ++ [Lk]) (.slice a n' cap) (.own M.length) := by
      unfold RV
      exact ⟨Lk, by rw [← hst.len]; simp, r1, a, by rw [r3, r4], r2⟩
    have hk : Keeps w C w C' := ⟨fun _ _ _ => rfl, fun b => by rw [hlim]; exact Nat.le_refl _⟩
    refine ⟨_, C', ι ++ [Lk], hcell, ⟨⟨by simp [hst.len], ?_, ?_, fun b => by rw [hlim]; exact hst.com b, r6⟩, ⟨rfl, rfl, rfl, Nat.le_refl _, hst.own, fun b _ hb => ⟨rfl, by rw [hlim], r7 b hb⟩, fun b m hm => (r8 b m hm).imp (fun h => h) .inr, hk, fun k L1 hk1 _ => grow_get hk1, fun k L1 hk1 _ => ⟨L1, grow_get hk1, rfl, rfl, fun hl => .inl (.inl ⟨_, _, hk1, hl, .inl rfl⟩)⟩, ?_⟩, fun k hk1 hm => ?_⟩, hRV⟩
    · intro k L1 e1 hk1 he1
      rcases hget k L1 hk1 with hk2 | ⟨rfl, rfl⟩
      · have hkl : k < (M.set id (.hole L.sz L.n mv es i j (.own M.length))).length := by rw [List.length_set, ← hst.len]; exact lt_of_get hk2
        rw [List.getElem?_append_left hkl] at he1
        by_cases e : k = id
        · subst e
          rw [hL] at hk2; cases hk2
          rw [List.getElem?_set_self hltM] at he1; cases he1
          refine ⟨hrow, rfl, rfl, q3, q4, q5, hi, hj, us, T', fr, F0, hh, hsoft, hz, by rw [hlim]; exact hC, ?_, r9, hole, _, hu', hRV⟩
          rw [List.nodup_iff_count] at hnd ⊢
          intro b
          have := hnd b
          simp only [F0, List.count_append] at this ⊢
          omega
        · rw [List.getElem?_set_ne (fun h => e h.symm)] at he1
          exact (hst.ent k L1 e1 hk2 he1).mono hk (fun _ _ h => grow_get h) (fun hl => ⟨rfl, by rw [hlim], fun _ _ => rfl, r10 k L1 hk2 hl e⟩)
      · rw [hst.len] at he1
        have : (M.set id (.hole L.sz L.n mv es i j (.own M.length)) ++ [Ent.lrow sz' n' false es'])[M.length]? = some (.lrow sz' n' false es') := by
          rw [List.getElem?_append_right (by simp)]; simp
        rw [this] at he1; cases he1
        exact r11
    · intro k1 k2 L1 L2 hk1 hk2 l1 l2 eb
      have own_ne : ∀ (k : Nat) (L1 : Loc), ι[k]? = some L1 → L1.located → Lk.located → L1.b ≠ Lk.b := fun k L1 hk hl hlk => (hst.own _ _ (r5 hlk)).2.2.2.2 k L1 hk hl
      rcases hget k1 L1 hk1 with a1 | ⟨e1, e2⟩
      · rcases hget k2 L2 hk2 with a2 | ⟨e3, e4⟩
        · exact hst.inj k1 k2 L1 L2 a1 a2 l1 l2 eb
        · subst e4; exact absurd eb (own_ne k1 L1 a1 l1 l2)
      · rcases hget k2 L2 hk2 with a2 | ⟨e3, e4⟩
        · subst e2; exact absurd eb.symm (own_ne k2 L2 a2 l2 l1)
        · omega
    · intro k L1 hge hk1 hl
      rcases hget k L1 hk1 with a1 | ⟨e1, e2⟩
      · have := lt_of_get a1; omega
      · subst e2
        exact .inl (.inl ⟨id, L, hL, hloc, .inr (r5 hl)⟩)
    · exact mvs_more (mvs_setE (e' := .hole L.sz L.n mv es i j (.own M.length)) hM (fun h => h) (hm.elim (fun h => h) False.elim))
  rcases t5 with ⟨hc0, rfl⟩ | ⟨b, off, F'', rfl, rfl, us2, T2, fr2, hh2, hs2, hz2, he2⟩
  · subst hc0
    have hn0 : n' = 0 := by omega
    subst hn0
    have hnl : ¬ (⟨true, sz', 0, 0, 0, 0⟩ : Loc).located := by simp [Loc.located]
    refine fin ⟨true, sz', 0, 0, 0, 0⟩ C rfl rfl (.inl rfl) rfl rfl (fun hl => absurd hl hnl) (hst.own.more (Nat.le_refl _) (fun hl => absurd hl hnl)) (fun _ _ => rfl) (fun _ _ h => .inl h) (fun b => ?_) (fun _ _ _ _ _ _ => .rfl) ⟨rfl, rfl, rfl, Nat.le_refl _, t3, t4, .inl rfl⟩
    rw [ho b]; simp [F0]
  · have hob : ∀ c, c ∈ b :: F'' → C.own c = some L.b := fun c hc => (ho c).2 (by
      simp only [List.mem_append]
      exact .inr (.inl (.inr (.inl hc))))
    have hbL := hob b (by simp)
    have hnd2 : (b :: F'').Nodup := by
      rw [List.nodup_iff_count] at hnd ⊢
      intro c
      have := hnd c
      simp only [List.count_append] at this
      omega
    have hbF : b ∉ F'' := (List.nodup_cons.1 hnd2).1
    have hfreeL : ∀ m, C.own L.b ≠ some m := fun m hm => (hst.own _ _ hm).2.2.2.2 id L hL hloc rfl
    have hLb : L.b ≠ b := fun e => by rw [← e] at hbL; exact hfreeL _ hbL
    let C' : Com := ⟨C.lim, fun c => if c ∈ F'' then some b else if c = b then none else C.own c⟩
    have o1 : ∀ c ∈ F'', C'.own c = some b := fun c hc => by simp [C', hc]
    have o2 : C'.own b = none := by simp [C', hbF]
    have o3 : ∀ c, c ∉ b :: F'' → C'.own c = C.own c := fun c hc => by
      simp only [List.mem_cons, not_or] at hc
      simp [C', hc.1, hc.2]
    have o4 : ∀ c m, C'.own c = some m → (c ∈ F'' ∧ m = b) ∨ (c ∉ b :: F'' ∧ C.own c = some m) := by
      intro c m hm
      by_cases h1 : c ∈ F''
      · rw [o1 c h1] at hm; exact .inl ⟨h1, (Option.some.inj hm).symm⟩
      · by_cases h2 : c = b
        · subst h2; rw [o2] at hm; cases hm
        · have : c ∉ b :: F'' := by simp [h1, h2]
          rw [o3 c this] at hm; exact .inr ⟨this, hm⟩
    have hnob : ∀ c, C.own c ≠ some b := fun c hc => by
      rcases (hst.own _ _ hc).2.2.2.1 with h | h
      · rw [hbL] at h; cases h
      · rw [hbL] at h; exact hLb (Option.some.inj h)
    have hcapn : cap ≠ 0 ∨ cap = 0 := by omega
    let Lk : Loc := ⟨true, sz', n', b, off, cap⟩
    have hlk : Lk.b = b := rfl
    refine fin Lk C' rfl rfl (.inr rfl) rfl rfl (fun _ => hbL) ?_ ?_ ?_ ?_ ?_ ⟨rfl, rfl, rfl, t1, t3, t4, .inr ⟨us2, T2, fr2, F'', hh2, hs2, hz2, (hst.own _ _ hbL).2.2.1, (List.nodup_cons.1 hnd2).2, fun c => ?_, he2⟩⟩
    · intro c m hm
      have hl2 : ∀ X, C.own c = some X → c ≠ b → ∀ (k : Nat) (L1 : Loc), (ι ++ [Lk])[k]? = some L1 → L1.located → L1.b ≠ c := by
        intro X hX hcb k L1 hk hl e
        rcases hget k L1 hk with a1 | ⟨_, e2⟩
        · exact (hst.own _ _ hX).2.2.2.2 k L1 a1 hl e
        · subst e2; exact hcb e.symm
      rcases o4 c m hm with ⟨hc, rfl⟩ | ⟨hc, hm'⟩
      · have hoc := hob c (List.mem_cons_of_mem _ hc)
        exact ⟨(hst.own.some hbL).2, (hst.own.some hoc).2, (hst.own _ _ hoc).2.2.1, .inl o2, hl2 _ hoc (fun e => hbF (e ▸ hc))⟩
      · obtain ⟨p1, p2, p3, p4, p5⟩ := hst.own c m hm'
        have hcb : c ≠ b := fun e => hc (by simp [e])
        refine ⟨p1, p2, p3, ?_, hl2 _ hm' hcb⟩
        have hmn : m ∉ b :: F'' := by
          intro hmm
          have := hob m hmm
          rcases p4 with p4 | p4
          · rw [this] at p4; cases p4
          · rw [this] at p4
            have := Option.some.inj p4
            subst this
            exact hfreeL _ (hob _ hmm)
        rw [o3 m hmn]; exact p4
    · intro c hc
      refine o3 c (fun hm => hc (.inl ⟨id, L, hL, hloc, .inr (hob c hm)⟩))
    · intro c m hm
      rcases o4 c m hm with ⟨_, rfl⟩ | ⟨_, h⟩
      · exact .inr (.inl ⟨id, L, hL, hloc, .inr hbL⟩)
      · exact .inl h
    · intro c
      constructor
      · intro hm
        rcases o4 c _ hm with ⟨_, e⟩ | ⟨hc, h⟩
        · exact absurd e hLb
        · have := (ho c).1 h
          simp only [List.mem_append] at this
          simp only [F0, List.mem_append]
          rcases this with h | (h | h | h) | h
          · exact .inl h
          · exact .inr (.inl (.inl h))
          · exact absurd h hc
          · exact .inr (.inl (.inr h))
          · exact .inr (.inr h)
      · intro hc
        have hcF : C.own c = some L.b := (ho c).2 (by
          simp only [F0, List.mem_append] at hc
          simp only [List.mem_append]
          rcases hc with h | (h | h) | h
          · exact .inl h
          · exact .inr (.inl (.inl h))
          · exact .inr (.inl (.inr (.inr h)))
          · exact .inr (.inr h))
        rw [o3 c ?_]
        · exact hcF
        · intro hm
          rw [List.nodup_iff_count] at hnd
          have := hnd c
          have n1 : 1 ≤ List.count c (b :: F'') := List.count_pos_iff.2 hm
          have n2 : 1 ≤ List.count c F0 := List.count_pos_iff.2 hc
          simp only [F0, List.count_append] at this n2
          omega
    · intro k L1 hk hl hne c
      have hL1 : L1.b ≠ L.b := fun eb => hne (hst.inj k id L1 L hk hL hl hloc eb)
      have hL1b : L1.b ≠ b := (hst.own _ _ hbL).2.2.2.2 k L1 hk hl
      by_cases hc : c ∈ b :: F''
      · constructor
        · intro hm
          rcases o4 c _ hm with ⟨_, e⟩ | ⟨hn, _⟩
          · exact absurd e hL1b
          · exact absurd hc hn
        · intro hm
          rw [hob c hc] at hm
          exact absurd (Option.some.inj hm).symm hL1
      · rw [o3 c hc]
    · constructor
      · intro hm
        rcases o4 c _ hm with ⟨h, _⟩ | ⟨_, h⟩
        · exact h
        · exact absurd h (hnob c)
      · exact o1 c

theorem evOpen_ok {t : TypeId} {T : TI} (hT : TIok P t T) (hst : St C ι M w) {a : V} {k : V → Mem → Option R} {r : R} (h : evOpen T M a k = some r) {x : Value} (hx : RV w C ι x a) :
    ∃ u v M' C' ι', (Instr.loadAt t x).run P w = .ok u w ∧ Go1 C ι M w C' ι' M' w (fun _ => False) ∧ RV w C' ι' u v ∧ k v M' = some r := by
  unfold evOpen at h
  cases a with
  | ep id i j =>
    simp only [getM] at h
    cases hM : M[id]? with
    | none => rw [hM] at h; cases h
    | some e =>
      rw [hM] at h
      cases e with
      | box => cases h
      | row => cases h
      | hole => cases h
      | lrow sz n mv es =>
        simp only at h
        obtain ⟨hc, h'⟩ := bif_some h; clear h; have h := h'; clear h'
        simp only [Bool.and_eq_true, Bool.not_eq_true'] at hc
        obtain ⟨hj, hs1, hag⟩ := hc
        have hj := Nat.le_of_ble_eq_true hj
        have hs1 := Nat.eq_of_beq_eq_true hs1
        obtain ⟨t', hdt, h'⟩ := ocells_some h; clear h; have h := h'; clear h'
        split at h
        · rename_i f sz' n' es' henc
          have hx' := hx
          unfold RV at hx'
          obtain ⟨L, hL, hrow, hi, rfl⟩ := hx'
          obtain ⟨_, q1, q2, _, q4, q5, _⟩ := hst.ent id L _ hL hM
          subst q1 q2
          -- the cell holds a list
          have hcells : ∃ f, ((es.getD i []).drop j).take 1 = [.sl f sz' n' es'] := by
            rw [hs1] at hdt
            revert hdt henc t'
            generalize ((es.getD i []).drop j).take 1 = c
            generalize T.sh = l
            intro t' hdt henc
            cases l with
            | nil => simp [LS.encs] at henc
            | cons s l =>
              cases l with
              | cons s2 l => have : (s.enc t'.1 :: s2.enc t'.2.1 :: LS.encs l t'.2.2) = [.d (.sl f sz' n' es')] := henc; simp at this
              | nil =>
                have henc : [s.enc t'.1] = [.d (.sl f sz' n' es')] := henc
                have henc := (List.cons.inj henc).1
                cases c with
                | nil => simp [LS.decD] at hdt
                | cons y c =>
                  cases c with
                  | cons _ _ =>
                    simp only [LS.decD] at hdt
                    split at hdt
                    · rename_i hd2; cases hd2
                    · cases hdt
                  | nil =>
                    simp only [LS.decD] at hdt
                    split at hdt
                    · rename_i t1 t2 hd1 hd2
                      cases hdt
                      cases s with
                      | sl szz =>
                        have henc : V.d (.sl false szz t1.1 t1.2) = .d (.sl f sz' n' es') := henc
                        simp only [V.d.injEq, D.sl.injEq] at henc
                        obtain ⟨_, w1, w2, w3⟩ := henc
                        cases y with
                        | sl f0 sz0 n0 es0 =>
                          have hd1 : (bif Nat.beq sz0 szz then some (n0, es0) else none) = some t1 := hd1
                          obtain ⟨hb, e⟩ := bif_some hd1
                          have hb := Nat.eq_of_beq_eq_true hb
                          have e := Option.some.inj e
                          rw [← e] at w2 w3
                          exact ⟨f0, by rw [hb, w1, ← w2, ← w3]⟩
                        | int kk nn => exact nomatch (show (none : Option (Nat × List (List D))) = some t1 from hd1)
                        | bool b => exact nomatch (show (none : Option (Nat × List (List D))) = some t1 from hd1)
                        | str b => exact nomatch (show (none : Option (Nat × List (List D))) = some t1 from hd1)
                      | _ => cases henc
                    · cases hdt
          obtain ⟨f0, hcells⟩ := hcells
          obtain ⟨u, C', ι', hu, g, hr⟩ := lopen hst hM hi (by omega) hcells hL
          refine ⟨u, _, _, C', ι', ?_, g, hr, h⟩
          have hrun := run_loadVar' (P := P) hT (b := L.b) (o := L.base + i * L.sz + j) (us := [u]) (w := w) (by rw [hs1]; rfl) (fun q v hq => by
            cases q with
            | zero => simp at hq; subst hq; exact hu
            | succ q => simp at hq)
          rw [hag] at hrun
          unfold Instr.loadAt Instr.sureAddr
          simp only [Sem.run_bind, Sem.run_pure, Result.andThen_ok]
          exact hrun
        · cases h
  | _ => cases h

theorem close1_ok (hst : St C ι M w) {i j : Nat} {M' : Mem} (h : close1 M i = some (M', j)) : ∃ C' ι', Go1 C ι M w C' ι' M' w (· ∈ [j]) := by
  unfold close1 at h
  simp only [getM] at h
  split at h
  · rename_i sz n mv es a b j0 hM
    obtain ⟨hij, h'⟩ : Nat.beq i j0 = false ∧ (match M[j0]? with
      | some (.lrow sz' n' _ es') => some (killM [j0] ((M.set i (.lrow sz n mv (es.set a (putD (es.getD a []) b [.sl false sz' n' es'])))).set j0 (.lrow sz' 0 true [])), j0)
      | _ => none) = some (M', j) := by
      cases hb : Nat.beq i j0 with
      | true => rw [hb] at h; cases h
      | false => rw [hb] at h; exact ⟨rfl, h⟩
    have hij : i ≠ j0 := fun e => by subst e; rw [Nat.beq_refl] at hij; cases hij
    split at h'
    · rename_i sz' n' mv' es' hMj
      simp only [Option.some.injEq, Prod.mk.injEq] at h'
      obtain ⟨rfl, rfl⟩ := h'
      obtain ⟨L, hL, hE⟩ := hst.get hM
      obtain ⟨hrow, q1, q2, q3, q4, q5, hi, hj, us, T', fr, F, hh, hsoft, hz, hC, hnd, ho, hre, u, hu, hrv⟩ := hE
      obtain ⟨C1, ι1, F1, g1, t1, pd, hlim⟩ := give hst hMj hrv Pd.nil
      simp only [List.nil_append] at pd
      have hL1 := g1.stp.same i L hL (by simp [hij])
      have hltM := lt_of_get hM
      have hM1 : (killM [j0] (M.set j0 (.lrow sz' 0 true [])))[i]? = some (.hole sz n mv es a b .undef) := by
        rw [killM_get, List.getElem?_set_ne (fun h => hij h.symm), hM]
        simp [Ent.ren, V.ren, notIn_none]
      obtain ⟨_, _, _, _, _, _, _, _, us1, T1, fr1, Fh, hh1, hsoft1, hz1, hC1, hnd1, ho1, hre1, _⟩ := g1.st.ent i L _ hL1 hM1
      rw [hh] at hh1
      cases hh1
      subst q1 q2
      have hloc : L.located := .inr (by omega)
      have hcl : (es.getD a []).length = L.sz := by
        apply q5; rw [List.getD_eq_getElem?_getD, List.getElem?_eq_getElem (by omega)]; exact List.getElem_mem _
      have hset5 : ∀ c ∈ es.set a ((es.getD a []).set b (.bool false)), c.length = L.sz := by
        intro c hc
        rcases List.mem_or_eq_of_mem_set hc with hc | hc
        · exact q5 c hc
        · rw [hc, List.length_set]; exact hcl
      obtain ⟨A1, A2, A3, rfl, h1, h2, h3⟩ := LEs.split (i := a) hset5 (by simp; omega) hre1
      have e1 : (es.set a ((es.getD a []).set b (.bool false))).take a = es.take a := by rw [List.take_set_of_le (Nat.le_refl _)]
      have e2 : (es.set a ((es.getD a []).set b (.bool false))).drop (a + 1) = es.drop (a + 1) := by rw [List.drop_set_of_lt (by omega)]
      have e3 : (es.set a ((es.getD a []).set b (.bool false))).getD a [] = (es.getD a []).set b (.bool false) := by
        rw [List.getD_eq_getElem?_getD, List.getElem?_set_self (by omega)]; rfl
      rw [e1] at h1
      rw [e2] at h3
      rw [e3] at h2
      obtain ⟨G1, G2, G3, rfl, h4, h5, h6⟩ := LCs.split (j := b) (m := 1) (by rw [List.length_set]; omega) h2
      have f1 : ((es.getD a []).set b (.bool false)).take b = (es.getD a []).take b := by rw [List.take_set_of_le (Nat.le_refl _)]
      have f2 : ((es.getD a []).set b (.bool false)).drop (b + 1) = (es.getD a []).drop (b + 1) := by rw [List.drop_set_of_lt (by omega)]
      have f3 : (((es.getD a []).set b (.bool false)).drop b).take 1 = [.bool false] := by
        rw [List.drop_eq_getElem_cons (by rw [List.length_set]; omega)]; simp
      rw [f1] at h4
      rw [f2] at h6
      rw [f3] at h5
      unfold LCs at h5
      obtain ⟨Ga, Gb, rfl, ⟨u0, hu0, hlt⟩, hgb⟩ := h5
      unfold LCs at hgb
      unfold LT at hlt
      obtain ⟨_, rfl⟩ := hlt
      subst hgb
      let F' := A1 ++ ((G1 ++ (F1 ++ G3)) ++ A3)
      let S := (A1 ++ ((G1 ++ ([] ++ [] ++ G3)) ++ A3)) ++ F1
      have hF : ∀ c ∈ F', c ∈ S := by
        intro c hc
        simp only [F', S, List.mem_append] at hc ⊢
        rcases hc with hc | (hc | hc | hc) | hc <;> simp [hc]
      have hcls : Cls C1 S L.b := by
        refine ⟨fun c hc => ?_⟩
        rcases List.mem_append.1 hc with hc | hc
        · exact ⟨L.b, (ho1 c).2 hc, .inl rfl, fun b' hb' => List.mem_append.2 (.inl ((ho1 b').1 hb'))⟩
        · obtain ⟨X, p1, p2, p3⟩ := pd.cls c hc
          exact ⟨X, p1, .inr p2, fun b' hb' => List.mem_append.2 (.inr (p3 b' hb'))⟩
      have u' : UpdG C1 ι1 w i L L (C1.relab S F' L.b) w := lput g1.st hL1 hcls hF (.inl ⟨hloc, rfl⟩) (.inl ⟨hloc, rfl⟩) (fun _ => rfl) (fun _ => hC1) rfl rfl rfl rfl rfl (Nat.le_refl _) (fun _ _ _ => rfl)
      have hS : ∀ c, C1.own c = some L.b → c ∈ S := fun c hc => List.mem_append.2 (.inl ((ho1 c).1 hc))
      have hnd' : F'.Nodup := by
        rw [List.nodup_iff_count] at hnd1 ⊢
        intro c
        have n1 := hnd1 c
        have n2 := List.nodup_iff_count.1 pd.nd c
        simp only [F', List.count_append, List.count_nil] at n1 ⊢
        by_cases hc : c ∈ F1
        · have hz1 : ∀ l : List Nat, (∀ c ∈ l, C1.own c = some L.b) → List.count c l = 0 := by
            intro l hl
            refine List.count_eq_zero.2 (fun hm => ?_)
            obtain ⟨X, p1, p2, _⟩ := pd.cls c hc
            have := hl c hm
            rw [p1] at this; cases this
            exact (g1.st.own _ _ p2).2.2.2.2 i L hL1 hloc rfl
          have z1 := hz1 A1 (fun c hc => (ho1 c).2 (by simp [hc]))
          have z2 := hz1 G1 (fun c hc => (ho1 c).2 (by simp [hc]))
          have z3 := hz1 G3 (fun c hc => (ho1 c).2 (by simp [hc]))
          have z4 := hz1 A3 (fun c hc => (ho1 c).2 (by simp [hc]))
          omega
        · have := List.count_eq_zero.2 hc
          omega
      have hnew : LEs w (fun o => us[o]?) L.base (es.set a (putD (es.getD a []) b [.sl false sz' n' es'])) F' := by
        rw [putD_eq _ _ _ (by simp only [List.length_singleton]; omega)]
        refine LEs.join q5 (by omega) (by simp only [List.length_append, List.length_take, List.length_drop, List.length_singleton]; omega) ?_ (LCs.join (ds := [.sl false sz' n' es']) (by simp only [List.length_singleton]; omega) ?_ ?_ ?_) ?_
        · refine LEs.cong (sz := L.sz) (g := fun o => if o = L.base + a * L.sz + b then some (.bool false) else us[o]?) (fun c hc => q5 c (List.take_subset _ _ hc)) (fun o o1 o2 => ?_) h1
          simp only [List.length_take] at o2
          rw [Nat.min_eq_left (by omega)] at o2
          show _ = (if _ then _ else _); rw [if_neg (by omega)]
        · refine LCs.cong (g := fun o => if o = L.base + a * L.sz + b then some (.bool false) else us[o]?) (fun o o1 o2 => ?_) h4
          simp only [List.length_take] at o2
          show _ = (if _ then _ else _); rw [if_neg (by omega)]
        · unfold LCs
          exact ⟨F1, [], by simp, ⟨u, hu, t1⟩, by unfold LCs; rfl⟩
        · refine LCs.cong (g := fun o => if o = L.base + a * L.sz + b then some (.bool false) else us[o]?) (fun o o1 o2 => ?_) h6
          simp only [List.length_singleton] at o1
          show _ = (if _ then _ else _); rw [if_neg (by omega)]
        · refine LEs.cong (sz := L.sz) (g := fun o => if o = L.base + a * L.sz + b then some (.bool false) else us[o]?) (fun c hc => q5 c (List.mem_of_mem_drop hc)) (fun o o1 o2 => ?_) h3
          rw [Nat.add_mul, Nat.one_mul] at o1
          show _ = (if _ then _ else _); rw [if_neg (by omega)]
      have go2 : Go1 C1 ι1 (killM [j0] (M.set j0 (.lrow sz' 0 true []))) w (C1.relab S F' L.b) ι1 ((killM [j0] (M.set j0 (.lrow sz' 0 true []))).set i (.lrow L.sz L.n mv (es.set a (putD (es.getD a []) b [.sl false sz' n' es'])))) w (fun _ => False) := by
        refine ⟨u'.st0 g1.st _ ⟨hrow, rfl, rfl, q3, by simpa using q4, ?_, .inr ⟨_, T', fr, F', hh, hsoft, hz, hC1, hnd', relab_iff hF hS, hnew⟩⟩, u'.stp0, fun i' _ hm => mvs_setE (e' := .lrow L.sz L.n mv (es.set a (putD (es.getD a []) b [.sl false sz' n' es']))) hM1 (fun h => h) (hm.elim (fun h => h) False.elim)⟩
        intro c hc
        rcases List.mem_or_eq_of_mem_set hc with hc | hc
        · exact q5 c hc
        · rw [hc, putD_eq _ _ _ (by simp only [List.length_singleton]; omega)]; simp only [List.length_append, List.length_take, List.length_drop, List.length_singleton]; omega
      have hlist : (killM [j0] (M.set j0 (.lrow sz' 0 true []))).set i (.lrow L.sz L.n mv (es.set a (putD (es.getD a []) b [.sl false sz' n' es']))) = killM [j0] ((M.set i (.lrow L.sz L.n mv (es.set a (putD (es.getD a []) b [.sl false sz' n' es'])))).set j0 (.lrow sz' 0 true [])) := by
        apply List.ext_getElem?
        intro q
        rw [killM_get]
        by_cases e : i = q
        · subst e
          rw [List.getElem?_set_self (by simp [killM_len]; exact hltM), List.getElem?_set_ne (fun h => hij h.symm), List.getElem?_set_self hltM]
          rfl
        · rw [List.getElem?_set_ne e, killM_get]
          by_cases e' : j0 = q
          · subst e'
            rw [List.getElem?_set_self (lt_of_get hMj), List.getElem?_set_self (by simp; exact lt_of_get hMj)]
          · rw [List.getElem?_set_ne e', List.getElem?_set_ne e', List.getElem?_set_ne e]
      rw [hlist] at go2
      exact ⟨_, ι1, g1.trans hst go2 (fun i => by simp)⟩
    · cases h'
  · cases h

theorem closeAll_ok : ∀ (l : List Nat) {M : Mem} {C : Com} {ι : Locs}, St C ι M w → ∃ C' ι', Go1 C ι M w C' ι' (closeAll l M).1 w (· ∈ (closeAll l M).2)
  | [], M, C, ι, hst => ⟨C, ι, Go1.refl' hst⟩
  | i :: r, M, C, ι, hst => by
    unfold closeAll
    split
    · rename_i M1 j h
      obtain ⟨C1, ι1, g1⟩ := close1_ok hst h
      obtain ⟨C2, ι2, g2⟩ := closeAll_ok r g1.st
      exact ⟨C2, ι2, g1.trans hst g2 (fun i => by simp)⟩
    · exact closeAll_ok r hst

theorem closeK_ok (hst : St C ι M w) {k : V → Mem → List Nat → Option R} {r : R} {Nx : Value → World → Prop} (hn : Nxt C ι M w k r Nx) : Nxt C ι M w (fun v M ks => closeK M v ks k) r Nx := by
  intro u v M' ks C' ι' w' h g hu
  have h : closeK M' v ks k = some r := h
  unfold closeK at h
  obtain ⟨C2, ι2, g2⟩ := closeAll_ok (w := w') (List.range M'.length) g.st
  cases hp : closeAll (List.range M'.length) M' with
  | mk M2 ks2 =>
    rw [hp] at h g2
    simp only at h g2
    have hv := killV_rv g2 hu
    cases ks2 with
    | nil => exact hn u v M' ks C' ι' w' h g hu
    | cons a t => exact hn u _ M2 _ C2 ι2 w' h (g.trans hst g2 (fun i => by simp)) hv
end
end Go.Ev
