/- What the laws' helpers on bytes and on lists of numbers come to. -/
import Derived.Test.YtmbacnnbpnlekaaB
import Derived.Test.YtmbacnnbpnlekaaPAx0
import Derived.Test.YtmbacnnbpnlekaaPAx8
import Derived.Test.YtmbacnnbpnlekaaPAx9
import Derived.Test.YtmbacnnbpnlekaaPAx22
import Derived.Test.YtmbacnnbpnlekaaPAx23
namespace Go.Proofs.Ytmbacnnbpnlekaa.E
open Go Go.RowKit Go.Proofs.Ytmbacnnbpnlekaa.PA Go.Proofs.Ytmbacnnbpnlekaa.M Go.Proofs.YtmbacnnbpnlekaaW.PrintWords Go.Proofs.YtmbacnnbpnlekaaW.PrintLast Go.Proofs.YtmbacnnbpnlekaaW.PrintMore

theorem wl {α : Type} (p : List α) (a : α) (h : p.length ≤ 281474976710656) : wrap64 ((p.length : Int) + 1) = ((p ++ [a]).length : Int) := by rw [w64 (by omega) (by omega)]; simp
theorem appl {α : Type} (p t : List α) (a : α) : p ++ a :: t = p ++ [a] ++ t := by simp
theorem rdI (p t : List Int) (a : Int) : rd (p ++ a :: t) (p.length : Int) = a := by simp [rd]
theorem toByteS_l {l : List Int} (hl : l.length ≤ 281474976710656) (d : Nat) : ∀ (i : Nat) (x : List Int), i + d = l.length → x.length = l.length → x.take i = l.take i → Ev (fun k => laws_toByteS.l0 k l x (i : Int)) l := by
  induction d with
  | zero =>
    intro i x hi hx ht
    refine Ev.at1 fun k => ?_
    rw [laws_toByteS.l0, if_neg (by omega)]
    have h1 : x.take i = x := by rw [List.take_of_length_le (by omega)]
    have h2 : l.take i = l := by rw [List.take_of_length_le (by omega)]
    rw [← h1, ht, h2]
  | succ d ih =>
    intro i x hi hx ht
    have hw : wrap64 ((i : Int) + 1) = ((i + 1 : Nat) : Int) := by rw [w64 (by omega) (by omega)]; omega
    refine Ev.step (fun k => ?_) ((ih (i + 1) (x.set i (rd l i)) (by omega) (by simpa using hx) ?_))
    · rw [laws_toByteS.l0, if_pos (by omega), if_pos (by omega), if_pos (by omega), hw, Int.toNat_natCast]
    · have hlt : i < l.length := by omega
      rw [List.take_add_one, List.take_add_one, List.take_set_of_le (by omega), ht]
      congr 1
      rw [List.getElem?_set_self (by omega), List.getElem?_eq_getElem hlt]
      obtain ⟨h, e⟩ := rd_lt (l := l) (i := (i : Int)) (by omega) (by omega)
      rw [e]
      rfl

theorem toByteS {l : List Int} (hl : l.length ≤ 281474976710656) : Ev (fun k => laws_toByteS.f k l) l := by
  refine Ev.congr (fun k => ?_) (toByteS_l hl l.length 0 (List.replicate l.length 0) (by omega) (by simp) (by simp))
  rw [laws_toByteS.f, if_pos (by omega), if_pos (by rw [Int.toNat_natCast]; exact hl), Int.toNat_natCast]
  rfl

theorem eqByteS_l {a b : List Int} (hl : a.length = b.length) (hb : a.length ≤ 281474976710656) (d : Nat) : ∀ (i : Nat), i + d = a.length → Ev (fun k => laws_eqByteS.l0 k a b (i : Int)) (decide (a.drop i = b.drop i)) := by
  induction d with
  | zero =>
    intro i hi
    refine Ev.at1 fun k => ?_
    rw [laws_eqByteS.l0, if_neg (by omega), List.drop_of_length_le (by omega), List.drop_of_length_le (by omega)]
    simp
  | succ d ih =>
    intro i hi
    have hw : wrap64 ((i : Int) + 1) = ((i + 1 : Nat) : Int) := by rw [w64 (by omega) (by omega)]; omega
    have ha := drop_rd (l := a) (i := (i : Int)) (by omega) (by omega)
    have hb := drop_rd (l := b) (i := (i : Int)) (by omega) (by omega)
    have e1 : ((i : Int) + 1).toNat = i + 1 := by omega
    rw [Int.toNat_natCast, e1] at ha hb
    rw [ha, hb]
    by_cases h : rd a i = rd b i
    · refine Ev.val (Ev.step (fun k => ?_) (ih (i + 1) (by omega))) ?_
      · rw [laws_eqByteS.l0, if_pos (by omega), if_pos (by omega), if_pos (by omega), if_pos h, hw]
      · simp [h]
    · refine Ev.at1 fun k => ?_
      rw [laws_eqByteS.l0, if_pos (by omega), if_pos (by omega), if_pos (by omega), if_neg h]
      simp [h]

theorem eqByteS {a b : List Int} (hb : a.length ≤ 281474976710656) : Ev (fun k => laws_eqByteS.f k a b) (decide (a = b)) := by
  by_cases hl : a.length = b.length
  · refine Ev.congr (fun k => ?_) (eqByteS_l hl hb a.length 0 (by omega))
    rw [laws_eqByteS.f, if_pos (by omega)]
    rfl
  · refine Ev.const fun k => ?_
    rw [laws_eqByteS.f, if_neg (by omega)]
    have : a ≠ b := fun e => hl (by rw [e])
    simp [this]

theorem toIntS_l (l : List Int) : ∀ (p : List Int), p.length + l.length ≤ 281474976710656 → Ev (fun k => laws_toIntS.l0 k (p ++ l) (p ++ List.replicate l.length 0) (p.length : Int)) (p ++ l) := by
  induction l with
  | nil =>
    intro p _
    refine Ev.at1 fun k => ?_
    rw [laws_toIntS.l0, if_neg (by simp)]
    simp
  | cons a t ih =>
    intro p hp
    rw [List.length_cons] at hp
    have := ih (p ++ [a]) (by simp; omega)
    refine Ev.val (Ev.step (fun k => ?_) this) (by simp)
    rw [laws_toIntS.l0, if_pos (by simp; omega), if_pos (by omega), if_pos (by simp; omega), rdI, wl p a (by omega), Int.toNat_natCast, ← appl]
    congr 1
    simp [List.replicate_succ]
theorem toIntS {l : List Int} (hl : l.length ≤ 35184372088832) : Ev (fun k => laws_toIntS.f k l) l := by
  refine Ev.congr (fun k => ?_) (by simpa using toIntS_l l [] (by simp; omega))
  rw [laws_toIntS.f, if_pos (by omega), if_pos (by rw [Int.toNat_natCast]; exact hl), Int.toNat_natCast]

theorem eqIntS_l (l : List Int) : ∀ (p : List Int), p.length + l.length ≤ 281474976710656 → Ev (fun k => laws_eqIntS.l0 k (p ++ l) (p ++ l) (p.length : Int)) true := by
  induction l with
  | nil =>
    intro p _
    refine Ev.at1 fun k => ?_
    rw [laws_eqIntS.l0, if_neg (by simp)]
  | cons a t ih =>
    intro p hp
    rw [List.length_cons] at hp
    have := ih (p ++ [a]) (by simp; omega)
    refine Ev.step (fun k => ?_) this
    rw [laws_eqIntS.l0, if_pos (by simp; omega), if_pos (by omega), if_pos (by simp; omega), if_pos rfl, wl p a (by omega), appl p t a]
theorem eqIntS {l : List Int} (hl : l.length ≤ 281474976710656) : Ev (fun k => laws_eqIntS.f k l l) true := by
  refine Ev.congr (fun k => ?_) (by simpa using eqIntS_l l [] (by simpa using hl))
  rw [laws_eqIntS.f, if_pos rfl]

end Go.Proofs.Ytmbacnnbpnlekaa.E
