/- What the laws' helpers on lists of numbers and of accesses come to. -/
import Derived.Test.YtblaelhcgemdeaaB
import Derived.Test.YtblaelhcgemdeaaE0
import Derived.Test.YtblaelhcgemdeaaPAx0
import Derived.Test.YtblaelhcgemdeaaPAx3
import Derived.Test.YtblaelhcgemdeaaPAx4
import Derived.Test.YtblaelhcgemdeaaPAx5
import Derived.Test.YtblaelhcgemdeaaPAx8
import Derived.Test.YtblaelhcgemdeaaPAx9
import Derived.Test.YtblaelhcgemdeaaPAx10
import Derived.Test.YtblaelhcgemdeaaPAx14
import Derived.Test.YtblaelhcgemdeaaPAx17
namespace Go.Proofs.Ytblaelhcgemdeaa.E
open Go Go.RowKit Go.Proofs.Ytblaelhcgemdeaa.PA Go.Proofs.Ytblaelhcgemdeaa.M Go.Proofs.YtblaelhcgemdeaaW.PrintWords Go.Proofs.YtblaelhcgemdeaaW.PrintLast Go.Proofs.YtblaelhcgemdeaaW.PrintMore

abbrev AL := S77
abbrev AI := S61

theorem wl {α : Type} (p : List α) (a : α) (h : p.length ≤ 281474976710656) : wrap64 ((p.length : Int) + 1) = ((p ++ [a]).length : Int) := by rw [w64 (by omega) (by omega)]; simp
theorem appl {α : Type} (p t : List α) (a : α) : p ++ a :: t = p ++ [a] ++ t := by simp
theorem rdI (p t : List Int) (a : Int) : rd (p ++ a :: t) (p.length : Int) = a := by simp [rd]
theorem rdA1 (p t : List AL) (a : AL) : rd_T77 (p ++ a :: t) (p.length : Int) = a := by simp [rd_T77]
theorem rdA2 (p t : List AI) (a : AI) : rd_T61 (p ++ a :: t) (p.length : Int) = a := by simp [rd_T61]

theorem toIntS_l (l : List Int) : ∀ (p : List Int), p.length + l.length ≤ 281474976710656 → Ev (fun k => laws_toIntS.l0 k (p ++ l) (p ++ List.replicate l.length 0) (p.length : Int)) (p ++ l) := by
  induction l with
  | nil =>
    intro p _
    refine Ev.at1 fun k => ?_
    rw [laws_toIntS.l0, if_neg (by simp)]
    simp
  | cons a t ih =>
    intro p hp
    rw [List.length_cons] at hp
    have := ih (p ++ [a]) (by simp; omega)
    refine Ev.val (Ev.step (fun k => ?_) this) (by simp)
    rw [laws_toIntS.l0, if_pos (by simp; omega), if_pos (by omega), if_pos (by simp; omega), rdI, wl p a (by omega), Int.toNat_natCast, ← appl]
    congr 1
    simp [List.replicate_succ]
theorem toIntS {l : List Int} (hl : l.length ≤ 35184372088832) : Ev (fun k => laws_toIntS.f k l) l := by
  refine Ev.congr (fun k => ?_) (by simpa using toIntS_l l [] (by simp; omega))
  rw [laws_toIntS.f, if_pos (by omega), if_pos (by rw [Int.toNat_natCast]; exact hl), Int.toNat_natCast]

theorem eqIntS_l (l : List Int) : ∀ (p : List Int), p.length + l.length ≤ 281474976710656 → Ev (fun k => laws_eqIntS.l0 k (p ++ l) (p ++ l) (p.length : Int)) true := by
  induction l with
  | nil =>
    intro p _
    refine Ev.at1 fun k => ?_
    rw [laws_eqIntS.l0, if_neg (by simp)]
  | cons a t ih =>
    intro p hp
    rw [List.length_cons] at hp
    have := ih (p ++ [a]) (by simp; omega)
    refine Ev.step (fun k => ?_) this
    rw [laws_eqIntS.l0, if_pos (by simp; omega), if_pos (by omega), if_pos (by simp; omega), if_pos rfl, wl p a (by omega), appl p t a]
theorem eqIntS {l : List Int} (hl : l.length ≤ 281474976710656) : Ev (fun k => laws_eqIntS.f k l l) true := by
  refine Ev.congr (fun k => ?_) (by simpa using eqIntS_l l [] (by simpa using hl))
  rw [laws_eqIntS.f, if_pos rfl]

theorem toAccessS_l (l : List AL) : ∀ (p : List AL) (q : List AI), p.length = q.length → p.length + l.length ≤ 281474976710656 →
    Ev (fun k => laws_toAccessS.l0 k (p ++ l) (q ++ List.replicate l.length z61) (p.length : Int)) (q ++ l.map fun a => ⟨a.f0, a.f1, a.f2⟩) := by
  induction l with
  | nil =>
    intro p q _ _
    refine Ev.at1 fun k => ?_
    rw [laws_toAccessS.l0, if_neg (by simp)]
    simp
  | cons a t ih =>
    intro p q hpq hp
    rw [List.length_cons] at hp
    have := ih (p ++ [a]) (q ++ [⟨a.f0, a.f1, a.f2⟩]) (by simp [hpq]) (by simp; omega)
    refine Ev.val (Ev.step (fun k => ?_) this) (by simp)
    rw [laws_toAccessS.l0, if_pos (by simp; omega), if_pos (by omega), rdA1, laws_toAccess.f, Option.bind_some, if_pos (by simp; omega), wl p a (by omega), Int.toNat_natCast, appl p t a, hpq]
    congr 1
    simp [List.replicate_succ]
theorem toAccessS {l : List AL} (hl : l.length ≤ 1048576) : Ev (fun k => laws_toAccessS.f k l) (l.map fun a => ⟨a.f0, a.f1, a.f2⟩) := by
  refine Ev.congr (fun k => ?_) (by simpa using toAccessS_l l [] [] rfl (by simp; omega))
  rw [laws_toAccessS.f, if_pos (by omega), if_pos (by rw [Int.toNat_natCast]; omega), Int.toNat_natCast]

theorem eqAccessS_l (l : List AI) : ∀ (p : List AI), p.length + l.length ≤ 281474976710656 → Ev (fun k => laws_eqAccessS.l0 k (p ++ l) (p ++ l) (p.length : Int)) true := by
  induction l with
  | nil =>
    intro p _
    refine Ev.at1 fun k => ?_
    rw [laws_eqAccessS.l0, if_neg (by simp)]
  | cons a t ih =>
    intro p hp
    rw [List.length_cons] at hp
    have := ih (p ++ [a]) (by simp; omega)
    refine Ev.step (fun k => ?_) this
    rw [laws_eqAccessS.l0, if_pos (by simp; omega), if_pos (by omega), if_pos (by simp; omega), laws_eqAccess.f, if_pos rfl, if_pos rfl, if_pos rfl, Option.bind_some, if_pos rfl, wl p a (by omega), appl p t a]
theorem eqAccessS {l : List AI} (hl : l.length ≤ 281474976710656) : Ev (fun k => laws_eqAccessS.f k l l) true := by
  refine Ev.congr (fun k => ?_) (by simpa using eqAccessS_l l [] (by simpa using hl))
  rw [laws_eqAccessS.f, if_pos rfl]

def imarks : Nat → Int → List Int
  | 0, _ => []
  | n + 1, a => a :: imarks n (a + 1)
theorem imarks_len (n : Nat) : ∀ a, (imarks n a).length = n := by
  induction n with
  | zero => intro a; rfl
  | succ n ih => intro a; simp [imarks, ih]
theorem markI_l (l : List Int) : ∀ (p : List Int) (a : Int), p.length + l.length ≤ 281474976710656 → -281474976710656 ≤ a → a + l.length ≤ 9223372036854775807 →
    Ev (fun k => laws_markIntS.l0 k (p ++ l) a (p.length : Int)) (a + l.length, p ++ imarks l.length a) := by
  induction l with
  | nil =>
    intro p a hp h0 h1
    refine Ev.at1 fun k => ?_
    rw [laws_markIntS.l0, if_neg (by simp)]
    simp [imarks]
  | cons c t ih =>
    intro p a hp h0 h1
    rw [List.length_cons] at hp h1
    have := ih (p ++ [a]) (a + 1) (by simp; omega) (by omega) (by omega)
    refine Ev.val (Ev.step (fun k => ?_) this) ?_
    · rw [laws_markIntS.l0, if_pos (by simp; omega), if_pos (by omega), Int.toNat_natCast, wl p a (by omega), w64 (n := a + 1) (by omega) (by omega)]
      congr 1
      simp
    · simp only [imarks, List.length_cons, List.append_assoc, List.singleton_append, Prod.mk.injEq, and_true]
      omega
theorem markI {l : List Int} {a : Int} (hl : l.length ≤ 281474976710656) (h0 : -281474976710656 ≤ a) (h1 : a + l.length ≤ 9223372036854775807) : Ev (fun k => laws_markIntS.f k l a) (a + l.length, imarks l.length a) :=
  Ev.congr (f := fun k => laws_markIntS.l0 k l a 0) (fun k => rfl) (by simpa using markI_l l [] a (by simpa using hl) h0 h1)
theorem heldI_l (n : Nat) : ∀ (p : List Int) (a : Int), p.length + n ≤ 281474976710656 → -281474976710656 ≤ a → a + n ≤ 9223372036854775807 →
    Ev (fun k => laws_heldIntS.l0 k (p ++ imarks n a) a (p.length : Int)) (a + n) := by
  induction n with
  | zero =>
    intro p a hp h0 h1
    refine Ev.at1 fun k => ?_
    rw [laws_heldIntS.l0, if_neg (by simp [imarks])]
    simp
  | succ n ih =>
    intro p a hp h0 h1
    have := ih (p ++ [a]) (a + 1) (by simp; omega) (by omega) (by omega)
    refine Ev.val (Ev.step (fun k => ?_) this) (by omega)
    rw [imarks, laws_heldIntS.l0, if_pos (by simp [imarks_len]; omega), if_pos (by omega), rdI, if_pos rfl, wl p a (by omega), w64 (n := a + 1) (by omega) (by omega), appl]
theorem heldI {n : Nat} {a : Int} (hl : n ≤ 281474976710656) (h0 : -281474976710656 ≤ a) (h1 : a + n ≤ 9223372036854775807) : Ev (fun k => laws_heldIntS.f k (imarks n a) a) (a + n) :=
  Ev.congr (f := fun k => laws_heldIntS.l0 k (imarks n a) a 0) (fun k => rfl) (by simpa using heldI_l n [] a (by simpa using hl) h0 h1)

end Go.Proofs.Ytblaelhcgemdeaa.E
