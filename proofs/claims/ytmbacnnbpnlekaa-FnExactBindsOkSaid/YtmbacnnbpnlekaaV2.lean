/- Sorted insertion, plain. -/
import Derived.Test.YtmbacnnbpnlekaaB
namespace Go.Proofs.Ytmbacnnbpnlekaa.M
open Go

def insR : List Int → Int → List Int
  | [], n => [n]
  | a :: t, n => if a < n then a :: insR t n else if a = n then a :: t else n :: a :: t
theorem insR_len (l : List Int) (n : Int) : (insR l n).length ≤ l.length + 1 := by
  induction l with
  | nil => simp [insR]
  | cons a t ih =>
    rw [insR]
    split
    · simp; exact ih
    · split <;> simp
theorem insR_mem (l : List Int) (n x : Int) : x ∈ insR l n ↔ x = n ∨ x ∈ l := by
  induction l with
  | nil => simp [insR]
  | cons a t ih =>
    rw [insR]
    split
    · rw [List.mem_cons, ih, List.mem_cons]
      constructor
      · rintro (h | h | h)
        · exact .inr (.inl h)
        · exact .inl h
        · exact .inr (.inr h)
      · rintro (h | h | h)
        · exact .inr (.inl h)
        · exact .inl h
        · exact .inr (.inr h)
    · split
      · rename_i h
        subst h
        rw [List.mem_cons]
        constructor
        · exact fun h => .inr h
        · rintro (h | h)
          · exact .inl h
          · exact h
      · rw [List.mem_cons]
theorem insR_lt (l : List Int) (n : Int) (h : l.Pairwise (· < ·)) : (insR l n).Pairwise (· < ·) := by
  induction l with
  | nil => simp [insR]
  | cons a t ih =>
    rw [List.pairwise_cons] at h
    rw [insR]
    split
    · rename_i c
      rw [List.pairwise_cons]
      refine ⟨fun b hb => ?_, ih h.2⟩
      rcases (insR_mem t n b).1 hb with h1 | h1
      · rw [h1]; exact c
      · exact h.1 b h1
    · split
      · exact List.pairwise_cons.2 h
      · rename_i c1 c2
        rw [List.pairwise_cons]
        refine ⟨fun b hb => ?_, List.pairwise_cons.2 h⟩
        rcases List.mem_cons.1 hb with h1 | h1
        · omega
        · have := h.1 b h1; omega
theorem fold_ins (v : List Int) : ∀ l : List Int, l.Pairwise (· < ·) → (v.foldl insR l).Pairwise (· < ·) ∧ ∀ x, x ∈ v.foldl insR l ↔ x ∈ v ∨ x ∈ l := by
  induction v with
  | nil => intro l h; exact ⟨h, fun x => by simp⟩
  | cons a t ih =>
    intro l h
    obtain ⟨h1, h2⟩ := ih (insR l a) (insR_lt l a h)
    refine ⟨h1, fun x => ?_⟩
    rw [List.foldl_cons, h2, insR_mem, List.mem_cons]
    constructor
    · rintro (h | h | h)
      · exact .inl (.inr h)
      · exact .inl (.inl h)
      · exact .inr h
    · rintro ((h | h) | h)
      · exact .inr (.inl h)
      · exact .inl h
      · exact .inr (.inr h)
theorem fold_len1 (v : List Int) : ∀ l : List Int, (v.foldl insR l).length ≤ l.length + v.length := by
  induction v with
  | nil => intro l; simp
  | cons a t ih =>
    intro l
    have := ih (insR l a)
    have := insR_len l a
    rw [List.foldl_cons, List.length_cons]
    omega
end Go.Proofs.Ytmbacnnbpnlekaa.M
