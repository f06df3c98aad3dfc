/- What TyBoxed and TySize come to, in the program and in the reference. -/
import Derived.Test.YtbifoajnmikhiaaE3
import Derived.Test.YtbifoajnmikhiaaPAx0
import Derived.Test.YtbifoajnmikhiaaPAx14
import Derived.Test.YtbifoajnmikhiaaPAx15
import Derived.Test.YtbifoajnmikhiaaPAx17
namespace Go.Proofs.Ytbifoajnmikhiaa.E
open Go Go.RowKit Go.Proofs.Ytbifoajnmikhiaa.PA Go.Proofs.Ytbifoajnmikhiaa.M Go.Proofs.YtbifoajnmikhiaaW.PrintWords Go.Proofs.YtbifoajnmikhiaaW.PrintLast Go.Proofs.YtbifoajnmikhiaaW.PrintMore

def TyBoxed (t : T) : Bool := TyOk t && !(t.f0 == 0 || t.f0 == 1 || t.f0 == 7)
def TySize (t : T) : Int := if meas 10 t ≤ 60 then meas 10 t else 0

theorem boxed_kind {t : T} (h : TyOk t = true) : (t.f0 = 0 ∨ t.f0 = 1 ∨ t.f0 = 2 ∨ t.f0 = 3) ∨ (t.f0 = 4 ∨ t.f0 = 5 ∨ t.f0 = 6 ∨ t.f0 = 7) := by
  by_cases hk : 0 ≤ t.f0 ∧ t.f0 ≤ 7
  · omega
  · have ha2 : argsN t.f0 = -2 := by
      unfold argsN
      rw [if_neg (by omega), if_neg (by omega), if_neg (by omega), if_neg (by omega)]
    have hb : headB t = false := by
      unfold headB manyB
      simp only [ha2]
      rw [if_neg (by decide), decide_eq_false (by omega)]
      rfl
    have hm : meas 10 t = 61 := by rw [meas, if_neg (by rw [hb]; decide)]
    unfold TyOk at h
    have h := of_decide_eq_true h
    omega

theorem impl_boxed (t : T) : impl_boxed.f t.f0 t.f1 t.f2 = some (!(t.f0 == 0 || t.f0 == 1 || t.f0 == 7)) := by
  unfold impl_boxed.f
  by_cases h0 : t.f0 = 0
  · simp [h0]
  · by_cases h1 : t.f0 = 1
    · simp [h1]
    · have g0 : (t.f0 == 0) = false := by simp [h0]
      have g1 : (t.f0 == 1) = false := by simp [h1]
      rw [if_neg h0, if_neg h1, g0, g1]
      rfl

theorem spec_boxed {t : T} (h : TyOk t = true) : spec_l3boxed.f t.f0 t.f1 t.f2 = some (!(t.f0 == 0 || t.f0 == 1 || t.f0 == 7)) := by
  unfold spec_l3boxed.f
  rcases boxed_kind h with (h | h | h | h) | (h | h | h | h) <;> rw [h] <;> rfl

theorem impl_TyBoxed (t : T) : Ev (fun k => impl_TyBoxed.f k t.f0 t.f1 t.f2) (TyBoxed t) := by
  refine Ev.congr (fun k => ?_) (Ev.bind (impl_TyOk t) (f := fun _ x => if x = true then (impl_boxed.f t.f0 t.f1 t.f2).bind fun y => some y else some false) (Ev.const fun k => ?_))
  · rw [impl_TyBoxed.f]
  · unfold TyBoxed
    cases TyOk t with
    | true => rw [if_pos rfl, impl_boxed, Option.bind_some, Bool.true_and]
    | false => rw [if_neg (by decide), Bool.false_and]

theorem spec_TyBoxed (t : T) : Ev (fun k => spec_TyBoxed.f k t.f0 t.f1 t.f2) (TyBoxed t) := by
  refine Ev.congr (fun k => ?_) (Ev.bind (spec_TyOk t) (f := fun _ x => if x = true then (spec_l3boxed.f t.f0 t.f1 t.f2).bind fun y => some y else some false) (Ev.const fun k => ?_))
  · rw [spec_TyBoxed.f]
  · unfold TyBoxed
    cases h : TyOk t with
    | true => rw [if_pos rfl, spec_boxed h, Option.bind_some, Bool.true_and]
    | false => rw [if_neg (by decide), Bool.false_and]

theorem impl_TySize (t : T) : Ev (fun k => impl_TySize.f k t.f0 t.f1 t.f2) (TySize t) := by
  refine Ev.congr (fun k => ?_) (Ev.bind (impl_measure 10 t 1 (by omega) (by omega)) (f := fun _ x => if x ≤ 60 then some x else some 0) (Ev.const fun k => ?_))
  · rw [impl_TySize.f]
  · unfold TySize
    split <;> rfl

theorem spec_TySize (t : T) : Ev (fun k => spec_TySize.f k t.f0 t.f1 t.f2) (TySize t) := by
  have hm := meas_le 10 t
  refine Ev.congr (fun k => ?_) (Ev.bind (spec_l3ok 10 t 1 (by omega) (by omega)) (f := fun _ x => if x < 0 then some 0 else some x) (Ev.const fun k => ?_))
  · rw [spec_TySize.f]
  · unfold TySize sized
    by_cases c : meas 10 t ≤ 60
    · rw [if_pos c, if_pos c, if_neg (by omega)]
    · rw [if_neg c, if_neg c, if_pos (by decide)]

end Go.Proofs.Ytbifoajnmikhiaa.E
