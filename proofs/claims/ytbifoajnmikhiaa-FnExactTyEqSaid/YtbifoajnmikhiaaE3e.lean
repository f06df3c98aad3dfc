/- What TyEq comes to, in the program and in the reference: the same. -/
import Derived.Test.YtbifoajnmikhiaaE3
import Derived.Test.YtbifoajnmikhiaaPAx0
import Derived.Test.YtbifoajnmikhiaaPAx22
import Derived.Test.YtbifoajnmikhiaaPAx23
import Derived.Test.YtbifoajnmikhiaaPAx25
import Derived.Test.YtbifoajnmikhiaaPAx26
namespace Go.Proofs.Ytbifoajnmikhiaa.E
open Go Go.RowKit Go.Proofs.Ytbifoajnmikhiaa.PA Go.Proofs.Ytbifoajnmikhiaa.M Go.Proofs.YtbifoajnmikhiaaW.PrintWords Go.Proofs.YtbifoajnmikhiaaW.PrintLast Go.Proofs.YtbifoajnmikhiaaW.PrintMore

theorem sameTy (n : Nat) : ∀ (x y : T), N2 n x → ∃ b, Ev (fun k => impl_sameTy.f k x.f0 x.f1 x.f2 y.f0 y.f1 y.f2) b ∧ Ev (fun k => spec_l3eq.f k x.f0 x.f1 x.f2 y.f0 y.f1 y.f2) b := by
  induction n with
  | zero => intro x y h; exact h.elim
  | succ n ih =>
    have loop : ∀ (l p l' p' : List T), (∀ a ∈ l, N2 n a) → p.length = p'.length → l.length = l'.length → p.length + l.length ≤ 281474976710656 →
        ∃ b, Ev (fun k => slices_EqualFunc_impl_sameTy.l0 k (p' ++ l') (p ++ l) ((p ++ l).length : Int) (p.length : Int)) b ∧
          ∀ x0 x1 y0 y1 : Int, Ev (fun k => spec_l3eq.l0 k (p.length : Int) x0 x1 (p ++ l) y0 y1 (p' ++ l')) b := by
      intro l
      induction l with
      | nil =>
        intro p l' p' _ _ hl _
        refine ⟨true, Ev.at1 fun k => ?_, fun x0 x1 y0 y1 => Ev.at1 fun k => ?_⟩
        · rw [slices_EqualFunc_impl_sameTy.l0, if_neg (by simp)]
        · rw [spec_l3eq.l0, if_neg (by simp)]
      | cons a t iht =>
        intro p l' p' hq hp hl hlen
        obtain ⟨a', t', rfl⟩ : ∃ a' t', l' = a' :: t' := by
          cases l' with
          | nil => simp at hl
          | cons a' t' => exact ⟨a', t', rfl⟩
        rw [List.length_cons] at hlen
        have hl2 : t.length = t'.length := by simpa using hl
        obtain ⟨b, e1, e2⟩ := ih a a' (hq a List.mem_cons_self)
        have g1 : ∀ k, slices_EqualFunc_impl_sameTy.l0 (k + 1) (p' ++ a' :: t') (p ++ a :: t) ((p ++ a :: t).length : Int) (p.length : Int) = (impl_sameTy.f k a.f0 a.f1 a.f2 a'.f0 a'.f1 a'.f2).bind fun v => if v = true then slices_EqualFunc_impl_sameTy.l0 k (p' ++ a' :: t') (p ++ a :: t) ((p ++ a :: t).length : Int) (wrap64 ((p.length : Int) + 1)) else some false := fun k => by
          rw [slices_EqualFunc_impl_sameTy.l0, if_pos (by simp; omega), if_pos (by omega), if_pos (by simp; omega), if_pos (by simp; omega), rdT]
          conv => lhs; rw [hp]
          rw [rdT, hp]
        have g2 : ∀ k (x0 x1 y0 y1 : Int), spec_l3eq.l0 (k + 1) (p.length : Int) x0 x1 (p ++ a :: t) y0 y1 (p' ++ a' :: t') = (spec_l3eq.f k a.f0 a.f1 a.f2 a'.f0 a'.f1 a'.f2).bind fun v => if v = true then spec_l3eq.l0 k (wrap64 ((p.length : Int) + 1)) x0 x1 (p ++ a :: t) y0 y1 (p' ++ a' :: t') else some false := fun k x0 x1 y0 y1 => by
          rw [spec_l3eq.l0, if_pos (by simp; omega), if_pos (by omega), if_pos (by simp; omega), rdT]
          conv => lhs; rw [hp]
          rw [rdT, hp]
        cases b with
        | false =>
          refine ⟨false, Ev.step g1 (Ev.bind e1 (Ev.const fun k => ?_)), fun x0 x1 y0 y1 => Ev.step (fun k => g2 k x0 x1 y0 y1) (Ev.bind e2 (Ev.const fun k => ?_))⟩
          · rw [if_neg (by decide)]
          · rw [if_neg (by decide)]
        | true =>
          obtain ⟨b, f1, f2⟩ := iht (p ++ [a]) t' (p' ++ [a']) (fun c hc => hq c (List.mem_cons_of_mem _ hc)) (by simp [hp]) hl2 (by simp; omega)
          refine ⟨b, Ev.step g1 (Ev.bind e1 (Ev.congr (fun k => ?_) f1)), fun x0 x1 y0 y1 => Ev.step (fun k => g2 k x0 x1 y0 y1) (Ev.bind e2 (Ev.congr (fun k => ?_) (f2 x0 x1 y0 y1)))⟩
          · rw [if_pos rfl, w1 p a (by omega), app1 p t a, app1 p' t' a']
          · rw [if_pos rfl, w1 p a (by omega), app1 p t a, app1 p' t' a']
    intro x y hx
    obtain ⟨hl, hq⟩ := hx
    by_cases c0 : x.f0 = y.f0
    · by_cases c1 : x.f1 = y.f1
      · by_cases c2 : (x.f2.length : Int) = (y.f2.length : Int)
        · obtain ⟨b, e1, e2⟩ := loop x.f2 [] y.f2 [] hq rfl (by omega) (by simp; omega)
          have e1' : Ev (fun k => slices_EqualFunc_impl_sameTy.f k x.f2 y.f2) b := Ev.step (fun k => by rw [slices_EqualFunc_impl_sameTy.f, if_pos c2]; rfl) e1
          refine ⟨b, Ev.step (fun k => ?_) (Ev.bind e1' (f := fun _ t => some t) (Ev.now _)), Ev.step2 (fun k => ?_) (e2 x.f0 x.f1 y.f0 y.f1)⟩
          · rw [impl_sameTy.f, if_pos c0, if_pos c1]
          · have : ((x.f2.length : Int) != (y.f2.length : Int)) = false := by simp [c2]
            rw [spec_l3eq.f, if_pos c0, if_pos c1, this, spec_l3eq.j0, if_neg (by decide)]
            rfl
        · refine ⟨false, Ev.at2 fun k => ?_, Ev.at2 fun k => ?_⟩
          · rw [impl_sameTy.f, if_pos c0, if_pos c1, slices_EqualFunc_impl_sameTy.f, if_neg c2]
            rfl
          · have : ((x.f2.length : Int) != (y.f2.length : Int)) = true := by rw [bne_iff_ne]; exact c2
            rw [spec_l3eq.f, if_pos c0, if_pos c1, this, spec_l3eq.j0, if_pos rfl]
      · refine ⟨false, Ev.at2 fun k => ?_, Ev.at2 fun k => ?_⟩
        · rw [impl_sameTy.f, if_pos c0, if_neg c1]
        · rw [spec_l3eq.f, if_pos c0, if_neg c1, spec_l3eq.j0, if_pos rfl]
    · refine ⟨false, Ev.at2 fun k => ?_, Ev.at2 fun k => ?_⟩
      · rw [impl_sameTy.f, if_neg c0]
      · rw [spec_l3eq.f, if_neg c0, spec_l3eq.j0, if_pos rfl]

theorem tyEq {n : Nat} (x y : T) (h : N2 n x) : ∃ b, Ev (fun k => impl_TyEq.f k x.f0 x.f1 x.f2 y.f0 y.f1 y.f2) b ∧ Ev (fun k => spec_TyEq.f k x.f0 x.f1 x.f2 y.f0 y.f1 y.f2) b := by
  obtain ⟨b, e1, e2⟩ := sameTy n x y h
  have i1 := impl_TyOk x
  have s1 := spec_TyOk x
  have i2 := impl_TyOk y
  have s2 := spec_TyOk y
  refine ⟨TyOk x && (TyOk y && b), ?_, ?_⟩
  · refine Ev.congr (fun k => by rw [impl_TyEq.f]) (Ev.bind i1 ?_)
    cases TyOk x with
    | false => exact Ev.const fun k => by rw [if_neg (by decide)]; rfl
    | true =>
      refine Ev.congr (fun k => by rw [if_pos rfl]) (Ev.bind i2 ?_)
      cases TyOk y with
      | false => exact Ev.const fun k => by rw [if_neg (by decide)]; rfl
      | true => exact Ev.congr (fun k => by rw [if_pos rfl]) (Ev.bind e1 (Ev.now _))
  · refine Ev.congr (fun k => by rw [spec_TyEq.f]) (Ev.bind s1 ?_)
    cases TyOk x with
    | false => exact Ev.const fun k => by rw [if_neg (by decide)]; rfl
    | true =>
      refine Ev.congr (fun k => by rw [if_pos rfl]) (Ev.bind s2 ?_)
      cases TyOk y with
      | false => exact Ev.const fun k => by rw [if_neg (by decide)]; rfl
      | true => exact Ev.congr (fun k => by rw [if_pos rfl]) (Ev.bind e2 (Ev.now _))

end Go.Proofs.Ytbifoajnmikhiaa.E
