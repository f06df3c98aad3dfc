import Derived.Test.YtbifoajnmikhiaaB
import Derived.Test.YtbifoajnmikhiaaPFx0
import Derived.Test.YtbifoajnmikhiaaPFx1
import Derived.Test.YtbifoajnmikhiaaPFx3
import Derived.Test.YtbifoajnmikhiaaPFx5
import Derived.Test.YtbifoajnmikhiaaPFx7
import Derived.Test.YtbifoajnmikhiaaPFx8
import Derived.Test.YtbifoajnmikhiaaPFx9
import Derived.Test.YtbifoajnmikhiaaPFx10
import Derived.Test.YtbifoajnmikhiaaPFx11
import Derived.Test.YtbifoajnmikhiaaPFx12
import Derived.Test.YtbifoajnmikhiaaPFx13
import Derived.Test.YtbifoajnmikhiaaPFx14
import Derived.Test.YtbifoajnmikhiaaPFx15
import Derived.Test.YtbifoajnmikhiaaPFx16
import Derived.Test.YtbifoajnmikhiaaPFx17
import Derived.Test.YtbifoajnmikhiaaPFx18
import Derived.Test.YtbifoajnmikhiaaPFx19
import Derived.Test.YtbifoajnmikhiaaPFx20
import Derived.Test.YtbifoajnmikhiaaPFx21
import Derived.Test.YtbifoajnmikhiaaPFx36
import Derived.Test.YtbifoajnmikhiaaPFx37
import Derived.Test.YtbifoajnmikhiaaPFx38
import Derived.Test.YtbifoajnmikhiaaPFx39
import Derived.Test.YtbifoajnmikhiaaPFx40
import Derived.Test.YtbifoajnmikhiaaPFx43
import Derived.Test.YtbifoajnmikhiaaPFR
import Derived.Test.YtbifoajnmikhiaaPFSFnExactTyVars
import Derived.Test.YtbifoajnmikhiaaM3
import Derived.Shelf.Slices.CompactI
import Derived.Lib.RowBridge
/- What within,Fold,Unfold and Wrap come to. -/
namespace Go.Proofs.Ytbifoajnmikhiaa.E
open Go Go.RowKit Go.Proofs.Ytbifoajnmikhiaa.PF Go.Proofs.Ytbifoajnmikhiaa.M Go.Proofs.YtbifoajnmikhiaaW.PrintWords Go.Proofs.YtbifoajnmikhiaaW.PrintLast Go.Proofs.YtbifoajnmikhiaaW.PrintMore

theorem within (a b c : Int) : impl_within.f a b c = some (decide (b ≤ a ∧ a ≤ c)) := by
  unfold impl_within.f
  by_cases h : a ≥ b
  · rw [if_pos h]
    have : b ≤ a := h
    simp [this]
  · rw [if_neg h]
    have : ¬ b ≤ a := h
    simp [this]
theorem within_in {a b c : Int} (h0 : b ≤ a) (h1 : a ≤ c) : impl_within.f a b c = some true := by rw [within,decide_eq_true ⟨h0,h1⟩]
theorem within_out {a b c : Int} (h : ¬ (b ≤ a ∧ a ≤ c)) : impl_within.f a b c = some false := by rw [within,decide_eq_false h]

end Go.Proofs.Ytbifoajnmikhiaa.E

/- What the laws' helpers on types come to,and the program's and the reference's measure of a type. -/
namespace Go.Proofs.Ytbifoajnmikhiaa.E
open Go Go.RowKit Go.Proofs.Ytbifoajnmikhiaa.PF Go.Proofs.Ytbifoajnmikhiaa.M Go.Proofs.YtbifoajnmikhiaaW.PrintWords Go.Proofs.YtbifoajnmikhiaaW.PrintLast Go.Proofs.YtbifoajnmikhiaaW.PrintMore

theorem rdL (p t : List TL) (a : TL) : rd_T24 (p ++ a :: t) (p.length : Int) = a := by simp [rd_T24]
theorem rdT (p t : List T) (a : T) : rd_T29 (p ++ a :: t) (p.length : Int) = a := by simp [rd_T29]
theorem w1 {α : Type} (p : List α) (a : α) (h : p.length ≤ 281474976710656) : wrap64 ((p.length : Int) + 1) = ((p ++ [a]).length : Int) := by rw [w64 (by omega) (by omega)]; simp
theorem app1 {α : Type} (p t : List α) (a : α) : p ++ a :: t = p ++ [a] ++ t := by simp

theorem szTy (n : Nat) : ∀ (x : TL),Q24 n x → ∀ left : Int,0 ≤ left → left ≤ 1048576 →
    ∃ r,Ev (fun k => laws_szTy.f k x.f0 x.f1 x.f2 left) r ∧ -1 ≤ r ∧ r ≤ left ∧ (0 ≤ r → N1 n x) := by
  induction n with
  | zero => intro x h; exact h.elim
  | succ n ih =>
    have loop : ∀ (l p : List TL) (left : Int),(∀ a ∈ l,Q24 n a) → p.length + l.length ≤ 281474976710656 → 0 ≤ left → left ≤ 1048576 →
        ∃ r,Ev (fun k => laws_szTyS.l0 k (p ++ l) left (p.length : Int)) r ∧ -1 ≤ r ∧ r ≤ left ∧ (0 ≤ r → ∀ a ∈ l,N1 n a) := by
      intro l
      induction l with
      | nil =>
        intro p left _ _ h0 h1
        refine ⟨left,Ev.at1 fun k => ?_,by omega,by omega,fun _ a h => by cases h⟩
        rw [laws_szTyS.l0,if_neg (by simp)]
      | cons a t iht =>
        intro p left hq hlen h0 h1
        rw [List.length_cons] at hlen
        obtain ⟨r1,e1,ha,hb,hn⟩ := ih a (hq a List.mem_cons_self) left h0 h1
        by_cases hr : r1 < 0
        · refine ⟨-1,Ev.step (fun k => ?_) (Ev.bind e1 (f := fun k t104 => if t104 < 0 then some (-1) else laws_szTyS.l0 k (p ++ a :: t) t104 (wrap64 ((p.length : Int) + 1))) (Ev.const fun k => ?_)),by omega,by omega,fun h => by omega⟩
          · rw [laws_szTyS.l0,if_pos (by simp; omega),if_pos (by omega),rdL]
          · rw [if_pos hr]
        · obtain ⟨r2,e2,ha2,hb2,hn2⟩ := iht (p ++ [a]) r1 (fun b hb => hq b (List.mem_cons_of_mem _ hb)) (by simp; omega) (by omega) (by omega)
          refine ⟨r2,Ev.step (fun k => ?_) (Ev.bind e1 (f := fun k t104 => if t104 < 0 then some (-1) else laws_szTyS.l0 k (p ++ a :: t) t104 (wrap64 ((p.length : Int) + 1))) (Ev.congr (fun k => ?_) e2)),ha2,by omega,fun h b hb => ?_⟩
          · rw [laws_szTyS.l0,if_pos (by simp; omega),if_pos (by omega),rdL]
          · rw [if_neg hr,w1 p a (by omega),app1 p t a]
          · rcases List.mem_cons.1 hb with h1 | h1
            · subst h1; exact hn (by omega)
            · exact hn2 h b h1
    intro x hx left h0 h1
    obtain ⟨_,_,hl,hq⟩ := hx
    simp only [maxLen] at hl
    have hw : wrap64 (left - (x.f2.length : Int)) = left - (x.f2.length : Int) := w64 (by omega) (by omega)
    by_cases hneg : left - (x.f2.length : Int) < 0
    · refine ⟨-1,Ev.step2 (fun k => ?_) (Ev.now _),by omega,by omega,fun h => by omega⟩
      rw [laws_szTy.f,laws_szTyS.f,hw,if_pos hneg,Option.bind_some,if_pos (by omega)]
    · obtain ⟨r,e,ha,hb,hn⟩ := loop x.f2 [] (left - (x.f2.length : Int)) hq (by simp; omega) (by omega) (by omega)
      have e' : Ev (fun k => laws_szTyS.f k x.f2 left) r := Ev.step (fun k => by rw [laws_szTyS.f,hw,if_neg hneg]; rfl) e
      by_cases hr : r < 0
      · refine ⟨-1,Ev.step (fun k => ?_) (Ev.bind e' (f := fun k t102 => if t102 < 0 then some (-1) else some t102) (Ev.const fun k => ?_)),by omega,by omega,fun h => by omega⟩
        · rw [laws_szTy.f]
        · rw [if_pos hr]
      · refine ⟨r,Ev.step (fun k => ?_) (Ev.bind e' (f := fun k t102 => if t102 < 0 then some (-1) else some t102) (Ev.const fun k => ?_)),ha,by omega,fun h => ⟨by omega,hn h⟩⟩
        · rw [laws_szTy.f]
        · rw [if_neg hr]

theorem toTy (n : Nat) : ∀ (x : TL),N1 n x → ∃ y : T,Ev (fun k => laws_toTy.f k x.f0 x.f1 x.f2) (y.f0,y.f1,y.f2) ∧ N2 n y := by
  induction n with
  | zero => intro x h; exact h.elim
  | succ n ih =>
    have loop : ∀ (l p : List TL) (q : List T),(∀ a ∈ l,N1 n a) → p.length = q.length → p.length + l.length ≤ 281474976710656 →
        ∃ r,Ev (fun k => laws_toTyS.l0 k (p ++ l) (q ++ List.replicate l.length z29) (p.length : Int)) (q ++ r) ∧ r.length = l.length ∧ ∀ a ∈ r,N2 n a := by
      intro l
      induction l with
      | nil =>
        intro p q _ hpq _
        refine ⟨[],Ev.at1 fun k => ?_,rfl,fun a h => by cases h⟩
        rw [laws_toTyS.l0,if_neg (by simp)]
        simp
      | cons a t iht =>
        intro p q hq hpq hlen
        rw [List.length_cons] at hlen
        obtain ⟨y,e1,hy⟩ := ih a (hq a List.mem_cons_self)
        obtain ⟨r,e2,hrl,hr⟩ := iht (p ++ [a]) (q ++ [y]) (fun b hb => hq b (List.mem_cons_of_mem _ hb)) (by simp [hpq]) (by simp; omega)
        refine ⟨y :: r,Ev.val (Ev.step (fun k => ?_) (Ev.bind e1 (f := fun k bt => if (p.length : Int) < ((q ++ List.replicate (a :: t).length z29).length : Int) then laws_toTyS.l0 k (p ++ a :: t) ((q ++ List.replicate (a :: t).length z29).set (p.length : Int).toNat (⟨bt.1,bt.2.1,bt.2.2⟩ : S29)) (wrap64 ((p.length : Int) + 1)) else none) (Ev.congr (fun k => ?_) e2))) (by simp),by simp [hrl],fun b hb => ?_⟩
        · rw [laws_toTyS.l0,if_pos (by simp; omega),if_pos (by omega),rdL]
        · rw [if_pos (by simp; omega),w1 p a (by omega),app1 p t a,Int.toNat_natCast,hpq]
          congr 1
          simp [List.replicate_succ]
          cases y
          rfl
        · rcases List.mem_cons.1 hb with h1 | h1
          · subst h1; exact hy
          · exact hr b h1
    intro x hx
    obtain ⟨hl,hq⟩ := hx
    obtain ⟨r,e,hrl,hr⟩ := loop x.f2 [] [] hq rfl (by simp; omega)
    have e' : Ev (fun k => laws_toTyS.f k x.f2) r := Ev.step (fun k => by rw [laws_toTyS.f,if_pos (by omega),if_pos (by rw [Int.toNat_natCast]; omega),Int.toNat_natCast]; rfl) e
    refine ⟨⟨x.f0,x.f1,r⟩,Ev.step (fun k => ?_) (Ev.bind e' (f := fun k t113 => some (x.f0,x.f1,t113)) (Ev.now _)),by show r.length ≤ 1048576; omega,hr⟩
    rw [laws_toTy.f]

theorem eqTy (n : Nat) : ∀ (y : T),N2 n y → Ev (fun k => laws_eqTy.f k y.f0 y.f1 y.f2 y.f0 y.f1 y.f2) true := by
  induction n with
  | zero => intro x h; exact h.elim
  | succ n ih =>
    have loop : ∀ (l p : List T),(∀ a ∈ l,N2 n a) → p.length + l.length ≤ 281474976710656 → Ev (fun k => laws_eqTyS.l0 k (p ++ l) (p ++ l) (p.length : Int)) true := by
      intro l
      induction l with
      | nil =>
        intro p _ _
        refine Ev.at1 fun k => ?_
        rw [laws_eqTyS.l0,if_neg (by simp)]
      | cons a t iht =>
        intro p hq hlen
        rw [List.length_cons] at hlen
        have e1 := ih a (hq a List.mem_cons_self)
        have e2 := iht (p ++ [a]) (fun b hb => hq b (List.mem_cons_of_mem _ hb)) (by simp; omega)
        refine Ev.step (fun k => ?_) (Ev.bind e1 (f := fun k t142 => if t142 = true then laws_eqTyS.l0 k (p ++ a :: t) (p ++ a :: t) (wrap64 ((p.length : Int) + 1)) else some false) (Ev.congr (fun k => ?_) e2))
        · rw [laws_eqTyS.l0,if_pos (by simp; omega),if_pos (by omega),if_pos (by simp; omega),rdT]
        · rw [if_pos rfl,w1 p a (by omega),app1 p t a]
    intro y hy
    obtain ⟨hl,hq⟩ := hy
    have e := loop y.f2 [] hq (by simp; omega)
    have e' : Ev (fun k => laws_eqTyS.f k y.f2 y.f2) true := Ev.step (fun k => by rw [laws_eqTyS.f,if_pos rfl]; rfl) e
    refine Ev.step (fun k => ?_) (Ev.bind e' (f := fun k t139 => if t139 = true then some true else some false) (Ev.const fun k => ?_))
    · rw [laws_eqTy.f,if_pos rfl,if_pos rfl]
    · rw [if_pos rfl]

theorem argsOf (a : Int) : Ev (fun k => impl_argsOf.f k a) (argsN a) := by
  refine ⟨2,fun k hk => ?_⟩
  obtain ⟨k,rfl⟩ : ∃ m,k = m + 1 + 1 := ⟨k - 2,by omega⟩
  show impl_argsOf.f (k + 1 + 1) a = _
  by_cases h0 : a = 0
  · subst h0; rfl
  by_cases h1 : a = 1
  · subst h1; rfl
  by_cases h2 : a = 2
  · subst h2; rfl
  by_cases h3 : a = 3
  · subst h3; rfl
  by_cases h4 : a = 4
  · subst h4; rfl
  by_cases h5 : a = 5
  · subst h5; rfl
  by_cases h6 : a = 6
  · subst h6; rfl
  by_cases h7 : a = 7
  · subst h7; rfl
  have g4 : (a == 4) = false := by simp [h4]
  have g7 : (a == 7) = false := by simp [h7]
  unfold impl_argsOf.f argsN
  rw [if_neg h0,if_neg h1,if_neg h2,g7,impl_argsOf.j0,if_neg (by decide),if_neg h3,g4,impl_argsOf.j1,if_neg (by decide),if_neg h5,if_neg h6,if_neg (by omega),if_neg (by omega),if_neg h5,if_neg h6]

theorem headOk_j (t : T) (k : Nat) : impl_headOk.j0 (k + 1) false t.f0 t.f1 t.f2 = some (numB t.f0 t.f1) ∧ impl_headOk.j0 (k + 1) true t.f0 t.f1 t.f2 = some false := by
  constructor
  · rw [impl_headOk.j0,if_neg (by decide)]
    unfold numB
    by_cases h6 : t.f0 = 6
    · rw [if_pos h6,if_pos h6,within,Option.bind_some]
    · rw [if_neg h6,if_neg h6]
      by_cases h7 : t.f0 = 7
      · rw [if_pos h7,if_pos h7,within,Option.bind_some]
      · rw [if_neg h7,if_neg h7]
        rfl
  · rw [impl_headOk.j0,if_pos rfl]

theorem headOk (t : T) : Ev (fun k => impl_headOk.f k t.f0 t.f1 t.f2) (headB t) := by
  obtain ⟨K,h⟩ := argsOf t.f0
  refine ⟨K + 1,fun k hk => ?_⟩
  obtain ⟨k,rfl⟩ : ∃ m,k = m + 1 := ⟨k - 1,by omega⟩
  show impl_headOk.f (k + 1) t.f0 t.f1 t.f2 = _
  have h' := h (k + 1) (by omega)
  dsimp only at h'
  obtain ⟨j1,j2⟩ := headOk_j t k
  rw [impl_headOk.f,h',Option.bind_some]
  unfold headB manyB
  by_cases c : argsN t.f0 = -1
  · rw [if_pos c,if_pos c]
    by_cases c2 : (t.f2.length : Int) > 3
    · rw [if_pos c2,j2,decide_eq_false (by omega)]
      rfl
    · rw [if_neg c2,j1,decide_eq_true (by omega)]
      simp
  · rw [if_neg c,if_neg c]
    by_cases c2 : argsN t.f0 = (t.f2.length : Int)
    · have : (argsN t.f0 != (t.f2.length : Int)) = false := by simp [c2]
      rw [this,j1,decide_eq_true c2]
      simp
    · have : (argsN t.f0 != (t.f2.length : Int)) = true := by simp [c2]
      rw [this,j2,decide_eq_false c2]
      rfl

theorem impl_measure (d : Nat) : ∀ (t : T) (a : Int),a + d = 11 → 1 ≤ a → Ev (fun k => impl_measure.f k t.f0 t.f1 t.f2 a) (meas d t) := by
  induction d with
  | zero =>
    intro t a ha _
    refine Ev.at2 fun k => ?_
    rw [impl_measure.f,if_pos (by omega),impl_measure.j0,if_pos rfl]
    rfl
  | succ d ih =>
    have loop : ∀ (a : Int),a + (d + 1 : Nat) = 11 → 1 ≤ a → ∀ (l p : List T) (s : Int),p.length + l.length ≤ 281474976710656 → 1 ≤ s → s ≤ 60 →
        Ev (fun k => impl_measure.l0 k a s (p ++ l) ((p ++ l).length : Int) (p.length : Int)) (measL (meas d) l s) := by
      intro a ha ha1 l
      induction l with
      | nil =>
        intro p s _ _ _
        refine Ev.at1 fun k => ?_
        rw [impl_measure.l0,if_neg (by simp)]
        rfl
      | cons b t iht =>
        intro p s hlen hs0 hs1
        rw [List.length_cons] at hlen
        have e1 := ih b (a + 1) (by omega) (by omega)
        have hb := meas_le d b
        have hw : wrap64 (s + meas d b) = s + meas d b := w64 (by omega) (by omega)
        have hwa : wrap64 (a + 1) = a + 1 := w64 (by omega) (by omega)
        unfold measL
        by_cases c : s + meas d b > 60
        · rw [if_pos c]
          refine Ev.step (fun k => ?_) (Ev.bind e1 (f := fun k x => if wrap64 (s + x) > 60 then some 61 else impl_measure.l0 k a (wrap64 (s + x)) (p ++ b :: t) ((p ++ b :: t).length : Int) (wrap64 ((p.length : Int) + 1))) (Ev.const fun k => ?_))
          · rw [impl_measure.l0,if_pos (by simp; omega),if_pos (by omega),if_pos (by simp; omega),rdT,hwa]
          · rw [hw,if_pos c]
        · rw [if_neg c]
          refine Ev.step (fun k => ?_) (Ev.bind e1 (f := fun k x => if wrap64 (s + x) > 60 then some 61 else impl_measure.l0 k a (wrap64 (s + x)) (p ++ b :: t) ((p ++ b :: t).length : Int) (wrap64 ((p.length : Int) + 1))) (Ev.congr (fun k => ?_) (iht (p ++ [b]) (s + meas d b) (by simp; omega) (by omega) (by omega))))
          · rw [impl_measure.l0,if_pos (by simp; omega),if_pos (by omega),if_pos (by simp; omega),rdT,hwa]
          · rw [hw,if_neg c,w1 p b (by omega),app1 p t b]
    intro t a ha ha1
    obtain ⟨K,h⟩ := headOk t
    by_cases c : headB t = true
    · have hl := headB_len c
      obtain ⟨K2,e⟩ := loop a ha ha1 t.f2 [] 1 (by simp; omega) (by omega) (by omega)
      refine ⟨K + K2 + 2,fun k hk => ?_⟩
      obtain ⟨k,rfl⟩ : ∃ m,k = m + 1 + 1 := ⟨k - 2,by omega⟩
      have h' := h (k + 1) (by omega)
      have e' := e k (by omega)
      dsimp only [List.nil_append,List.length_nil] at h' e'
      show impl_measure.f (k + 1 + 1) t.f0 t.f1 t.f2 a = _
      rw [impl_measure.f,if_neg (by omega),h',Option.bind_some,c,impl_measure.j0,if_neg (by decide),meas,if_pos c]
      exact e'
    · refine ⟨K + 2,fun k hk => ?_⟩
      obtain ⟨k,rfl⟩ : ∃ m,k = m + 1 + 1 := ⟨k - 2,by omega⟩
      have h' := h (k + 1) (by omega)
      dsimp only at h'
      show impl_measure.f (k + 1 + 1) t.f0 t.f1 t.f2 a = _
      have c' : headB t = false := by simpa using c
      rw [impl_measure.f,if_neg (by omega),h',Option.bind_some,c',impl_measure.j0,if_pos (by decide),meas,if_neg (by rw [c']; decide)]

section
variable (t : T) (a r : Int)

theorem l3ok_j3 (b : Bool) (hL : b = false → Ev (fun k => spec_l3ok.l0 k a 1 0 t.f0 t.f1 t.f2) r) (hr : b = true → r = -1) : Ev (fun k => spec_l3ok.j3 k a b t.f0 t.f1 t.f2) r := by
  cases b with
  | true =>
    rw [hr rfl]
    refine Ev.at1 fun k => ?_
    rw [spec_l3ok.j3,if_pos rfl]
  | false =>
    refine Ev.step (fun k => ?_) (hL rfl)
    rw [spec_l3ok.j3,if_neg (by decide)]

theorem l3ok_j2 (want most : Int) (hL : (t.f2.length : Int) = want → 0 ≤ t.f1 → t.f1 ≤ most → Ev (fun k => spec_l3ok.l0 k a 1 0 t.f0 t.f1 t.f2) r) (hr : ¬ ((t.f2.length : Int) = want ∧ 0 ≤ t.f1 ∧ t.f1 ≤ most) → r = -1) :
    Ev (fun k => spec_l3ok.j2 k a want most t.f0 t.f1 t.f2) r := by
  by_cases c1 : (t.f2.length : Int) = want
  · by_cases c2 : t.f1 < 0
    · refine Ev.step (fun k => ?_) (l3ok_j3 t a r true (fun h => by cases h) (fun _ => hr (by omega)))
      rw [spec_l3ok.j2,if_pos c1,if_pos c2]
    · refine Ev.step (fun k => ?_) (l3ok_j3 t a r (decide (t.f1 > most)) (fun h => hL c1 (by omega) (by simpa using h)) (fun h => hr (by have := of_decide_eq_true h; omega)))
      rw [spec_l3ok.j2,if_pos c1,if_neg c2]
  · refine Ev.step (fun k => ?_) (l3ok_j3 t a r true (fun h => by cases h) (fun _ => hr (fun h => c1 h.1)))
    rw [spec_l3ok.j2,if_neg c1]

theorem l3ok_head (ha : ¬ a > 10) (hL : headB t = true → Ev (fun k => spec_l3ok.l0 k a 1 0 t.f0 t.f1 t.f2) r) (hr : headB t = false → r = -1) : Ev (fun k => spec_l3ok.f k t.f0 t.f1 t.f2 a) r := by
  have hf : ∀ k,spec_l3ok.f (k + 1) t.f0 t.f1 t.f2 a = if t.f0 = 0 then (spec_l3ok.j0 k a 0 0 t.f0 (t.f0 == 0) t.f0 t.f1 t.f2) else (if t.f0 = 1 then (spec_l3ok.j0 k a 0 0 t.f0 (t.f0 == 1) t.f0 t.f1 t.f2) else (spec_l3ok.j0 k a 0 0 t.f0 (t.f0 == 2) t.f0 t.f1 t.f2)) := fun k => by rw [spec_l3ok.f,if_neg ha]
  obtain ⟨x,y,l⟩ := t
  have go : ∀ want most : Int,(headB ⟨x,y,l⟩ = decide ((l.length : Int) = want ∧ 0 ≤ y ∧ y ≤ most)) → Ev (fun k => spec_l3ok.j2 k a want most x y l) r := fun want most h =>
    l3ok_j2 ⟨x,y,l⟩ a r want most (fun h1 h2 h3 => hL (by rw [h]; exact decide_eq_true ⟨h1,h2,h3⟩)) (fun h1 => hr (by rw [h]; exact decide_eq_false h1))
  by_cases h0 : x = 0
  · subst h0
    refine Ev.step2 (fun k => by rw [hf]; rfl) (go 0 0 ?_)
    have e : headB ⟨0,y,l⟩ = (decide ((0 : Int) = l.length) && decide (y = 0)) := rfl
    rw [e,← Bool.decide_and]
    exact decide_eq_decide.2 (by omega)
  by_cases h1 : x = 1
  · subst h1
    refine Ev.step2 (fun k => by rw [hf]; rfl) (go 0 0 ?_)
    have e : headB ⟨1,y,l⟩ = (decide ((0 : Int) = l.length) && decide (y = 0)) := rfl
    rw [e,← Bool.decide_and]
    exact decide_eq_decide.2 (by omega)
  by_cases h2 : x = 2
  · subst h2
    refine Ev.step2 (fun k => by rw [hf]; rfl) (go 0 0 ?_)
    have e : headB ⟨2,y,l⟩ = (decide ((0 : Int) = l.length) && decide (y = 0)) := rfl
    rw [e,← Bool.decide_and]
    exact decide_eq_decide.2 (by omega)
  by_cases h3 : x = 3
  · subst h3
    refine Ev.step2 (fun k => by rw [hf]) (Ev.step (f := fun k => spec_l3ok.j2 k a 2 0 3 y l) (fun k => rfl) (go 2 0 ?_))
    have e : headB ⟨3,y,l⟩ = (decide ((2 : Int) = l.length) && decide (y = 0)) := rfl
    rw [e,← Bool.decide_and]
    exact decide_eq_decide.2 (by omega)
  by_cases h4 : x = 4
  · subst h4
    refine Ev.step2 (fun k => by rw [hf]) (Ev.step (f := fun k => spec_l3ok.j2 k a 2 0 4 y l) (fun k => rfl) (go 2 0 ?_))
    have e : headB ⟨4,y,l⟩ = (decide ((2 : Int) = l.length) && decide (y = 0)) := rfl
    rw [e,← Bool.decide_and]
    exact decide_eq_decide.2 (by omega)
  by_cases h5 : x = 5
  · subst h5
    refine Ev.step2 (fun k => by rw [hf]) (Ev.step (f := fun k => spec_l3ok.j2 k a 1 0 5 y l) (fun k => rfl) (go 1 0 ?_))
    have e : headB ⟨5,y,l⟩ = (decide ((1 : Int) = l.length) && decide (y = 0)) := rfl
    rw [e,← Bool.decide_and]
    exact decide_eq_decide.2 (by omega)
  by_cases h6 : x = 6
  · subst h6
    have e : headB ⟨6,y,l⟩ = (decide (l.length ≤ 3) && decide (0 ≤ y ∧ y ≤ 19)) := rfl
    by_cases hl : (l.length : Int) > 3
    · have hb : headB ⟨6,y,l⟩ = false := by rw [e,decide_eq_false (by omega)]; rfl
      rw [hr hb]
      refine Ev.step2 (f := fun k => spec_l3ok.j1 k a 0 0 6 false 6 y l) (fun k => by rw [hf]; rfl) (Ev.at1 fun k => ?_)
      rw [spec_l3ok.j1,if_neg (by decide),if_neg (by decide),if_pos rfl,if_pos hl]
    · refine Ev.step2 (f := fun k => spec_l3ok.j1 k a 0 0 6 false 6 y l) (fun k => by rw [hf]; rfl) (Ev.step (f := fun k => spec_l3ok.j2 k a (l.length : Int) 19 6 y l) (fun k => ?_) (go (l.length : Int) 19 ?_))
      · rw [spec_l3ok.j1,if_neg (by decide),if_neg (by decide),if_pos rfl,if_neg hl]
      · rw [e,← Bool.decide_and]
        exact decide_eq_decide.2 (by omega)
  by_cases h7 : x = 7
  · subst h7
    refine Ev.step2 (fun k => by rw [hf]) (Ev.step (f := fun k => spec_l3ok.j2 k a 0 99999 7 y l) (fun k => rfl) (go 0 99999 ?_))
    have e : headB ⟨7,y,l⟩ = (decide ((0 : Int) = l.length) && decide (0 ≤ y ∧ y ≤ 99999)) := rfl
    rw [e,← Bool.decide_and]
    exact decide_eq_decide.2 (by omega)
  · have ha2 : argsN x = -2 := by
      unfold argsN
      rw [if_neg (by omega),if_neg (by omega),if_neg h5,if_neg h6]
    have hb : headB ⟨x,y,l⟩ = false := by
      unfold headB manyB
      simp only [ha2]
      rw [if_neg (by decide),decide_eq_false (by omega)]
      rfl
    rw [hr hb]
    refine Ev.step2 (f := fun k => spec_l3ok.j1 k a 0 0 x false x y l) (fun k => ?_) (Ev.at1 fun k => ?_)
    · have g2 : (x == 2) = false := by simp [h2]
      have g4 : (x == 4) = false := by simp [h4]
      rw [hf,if_neg h0,if_neg h1,g2,spec_l3ok.j0,if_neg (by decide),if_neg h3,g4]
    · rw [spec_l3ok.j1,if_neg (by decide),if_neg h5,if_neg h6,if_neg h7]
end

def sized (m : Int) : Int := if m ≤ 60 then m else -1

theorem spec_l3ok (d : Nat) : ∀ (t : T) (a : Int),a + d = 11 → 1 ≤ a → Ev (fun k => spec_l3ok.f k t.f0 t.f1 t.f2 a) (sized (meas d t)) := by
  induction d with
  | zero =>
    intro t a ha _
    refine Ev.at1 fun k => ?_
    rw [spec_l3ok.f,if_pos (by omega)]
    rfl
  | succ d ih =>
    intro t a ha ha1
    have loop : ∀ (l p : List T) (s x y : Int),p.length + l.length ≤ 281474976710656 → 1 ≤ s → s ≤ 60 → Ev (fun k => spec_l3ok.l0 k a s (p.length : Int) x y (p ++ l)) (sized (measL (meas d) l s)) := by
      intro l
      induction l with
      | nil =>
        intro p s x y _ h0 h1
        refine Ev.at1 fun k => ?_
        rw [spec_l3ok.l0,if_neg (by simp),measL,sized,if_pos h1]
      | cons b t iht =>
        intro p s x y hlen hs0 hs1
        rw [List.length_cons] at hlen
        have e1 := ih b (a + 1) (by omega) (by omega)
        have hb := meas_le d b
        have hwa : wrap64 (a + 1) = a + 1 := w64 (by omega) (by omega)
        have hstep : ∀ k,spec_l3ok.l0 (k + 1) a s (p.length : Int) x y (p ++ b :: t) = (spec_l3ok.f k b.f0 b.f1 b.f2 (a + 1)).bind fun v => if v < 0 then some (-1) else if wrap64 (s + v) > 60 then some (-1) else spec_l3ok.l0 k a (wrap64 (s + v)) (wrap64 ((p.length : Int) + 1)) x y (p ++ b :: t) := fun k => by
          rw [spec_l3ok.l0,if_pos (by simp; omega),if_pos (by omega),rdT,hwa]
        by_cases c0 : meas d b ≤ 60
        · have hs : sized (meas d b) = meas d b := by rw [sized,if_pos c0]
          have hw : wrap64 (s + meas d b) = s + meas d b := w64 (by omega) (by omega)
          rw [hs] at e1
          unfold measL
          by_cases c : s + meas d b > 60
          · rw [if_pos c]
            refine Ev.step hstep (Ev.bind e1 (Ev.const fun k => ?_))
            rw [if_neg (by omega),hw,if_pos c]
            rfl
          · rw [if_neg c]
            refine Ev.step hstep (Ev.bind e1 (Ev.congr (fun k => ?_) (iht (p ++ [b]) (s + meas d b) x y (by simp; omega) (by omega) (by omega))))
            rw [if_neg (by omega),hw,if_neg c,w1 p b (by omega),app1 p t b]
        · have hs : sized (meas d b) = -1 := by rw [sized,if_neg c0]
          rw [hs] at e1
          have hm : measL (meas d) (b :: t) s = 61 := by rw [measL,if_pos (by omega)]
          rw [hm]
          refine Ev.step hstep (Ev.bind e1 (Ev.const fun k => ?_))
          rw [if_pos (by decide)]
          rfl
    refine l3ok_head t a _ (by omega) (fun h => ?_) (fun h => ?_)
    · have hl := headB_len h
      rw [meas,if_pos h]
      exact loop t.f2 [] 1 t.f0 t.f1 (by simp; omega) (by omega) (by omega)
    · rw [meas,if_neg (by rw [h]; decide)]
      rfl

theorem impl_TyOk (t : T) : Ev (fun k => impl_TyOk.f k t.f0 t.f1 t.f2) (TyOk t) := by
  refine Ev.congr (fun k => ?_) (Ev.bind (impl_measure 10 t 1 (by omega) (by omega)) (f := fun k x => some (decide (x ≤ 60))) (Ev.now _))
  rw [impl_TyOk.f]

theorem spec_TyOk (t : T) : Ev (fun k => spec_TyOk.f k t.f0 t.f1 t.f2) (TyOk t) := by
  have hm := meas_le 10 t
  refine Ev.congr (fun k => ?_) (Ev.bind (spec_l3ok 10 t 1 (by omega) (by omega)) (f := fun k x => some (decide (x > 0))) (Ev.const fun k => ?_))
  · rw [spec_TyOk.f]
  · unfold TyOk sized
    by_cases c : meas 10 t ≤ 60
    · rw [if_pos c,decide_eq_true c,decide_eq_true (by omega)]
    · rw [if_neg c,decide_eq_false c]
      rfl

/-- What all laws on one type begin with. -/
theorem tyStart (x : TL) (hx : W24 x) : (∃ r,Ev (fun k => laws_szTy.f k x.f0 x.f1 x.f2 1048576) r ∧ r < 0) ∨
    ∃ r n y,Ev (fun k => laws_szTy.f k x.f0 x.f1 x.f2 1048576) r ∧ ¬ r < 0 ∧ r ≤ 1048576 ∧ Ev (fun k => laws_toTy.f k x.f0 x.f1 x.f2) (y.f0,y.f1,y.f2) ∧ N2 n y ∧ Ev (fun k => laws_eqTy.f k y.f0 y.f1 y.f2 y.f0 y.f1 y.f2) true := by
  obtain ⟨n,hx⟩ := hx
  obtain ⟨r,e,_,h2,h3⟩ := szTy n x hx 1048576 (by omega) (by omega)
  by_cases c : r < 0
  · exact .inl ⟨r,e,c⟩
  · obtain ⟨y,ey,hy⟩ := toTy n x (h3 (by omega))
    exact .inr ⟨r,n,y,e,c,h2,ey,hy,eqTy n y hy⟩

end Go.Proofs.Ytbifoajnmikhiaa.E

/- Marks on trees: each part's numbers are told anew,and are held. -/
namespace Go.Proofs.Ytbifoajnmikhiaa.E
open Go Go.RowKit Go.Proofs.Ytbifoajnmikhiaa.PF Go.Proofs.Ytbifoajnmikhiaa.M Go.Proofs.YtbifoajnmikhiaaW.PrintWords Go.Proofs.YtbifoajnmikhiaaW.PrintLast Go.Proofs.YtbifoajnmikhiaaW.PrintMore

/-- How many parts a list of trees has. -/
def cl : Nat → List T → Nat
  | 0,_ => 0
  | n + 1,l => (l.map (fun a => 1 + cl n a.f2)).sum

theorem markS (n : Nat) : ∀ (l : List T) (x : Int),(∀ a ∈ l,N2 n a) → l.length ≤ 281474976710656 → 0 ≤ x → x + 2 * (cl n l : Int) ≤ 4611686018427387904 →
    ∃ l',Ev (fun k => laws_markTyS.l0 k l x 0) (x + 2 * (cl n l : Int),l') ∧ Ev (fun k => laws_heldTyS.f k l' x) (x + 2 * (cl n l : Int)) := by
  induction n with
  | zero =>
    intro l x hl _ _ _
    obtain rfl : l = [] := by
      cases l with
      | nil => rfl
      | cons a t => exact (hl a List.mem_cons_self).elim
    refine ⟨[],Ev.at1 fun k => ?_,Ev.at2 fun k => ?_⟩
    · rw [laws_markTyS.l0,if_neg (by simp)]
      simp [cl]
    · rw [laws_heldTyS.f,laws_heldTyS.l0,if_neg (by simp)]
      simp [cl]
  | succ n ih =>
    have loop : ∀ (l p : List T) (x : Int),(∀ a ∈ l,N2 (n + 1) a) → p.length + l.length ≤ 281474976710656 → 0 ≤ x → x + 2 * (cl (n + 1) l : Int) ≤ 4611686018427387904 →
        ∃ l',Ev (fun k => laws_markTyS.l0 k (p ++ l) x (p.length : Int)) (x + 2 * (cl (n + 1) l : Int),p ++ l') ∧ Ev (fun k => laws_heldTyS.l0 k (p ++ l') x (p.length : Int)) (x + 2 * (cl (n + 1) l : Int)) := by
      intro l
      induction l with
      | nil =>
        intro p x _ _ _ _
        refine ⟨[],Ev.at1 fun k => ?_,Ev.at1 fun k => ?_⟩
        · rw [laws_markTyS.l0,if_neg (by simp)]
          simp [cl]
        · rw [laws_heldTyS.l0,if_neg (by simp)]
          simp [cl]
      | cons a t iht =>
        intro p x hq hp h0 h1
        rw [List.length_cons] at hp
        have hcl : cl (n + 1) (a :: t) = 1 + cl n a.f2 + cl (n + 1) t := by simp [cl]
        rw [hcl] at h1
        obtain ⟨hla,hqa⟩ := hq a List.mem_cons_self
        obtain ⟨l1,m1,e1⟩ := ih a.f2 (x + 2) hqa (by omega) (by omega) (by omega)
        obtain ⟨l2,m2,e2⟩ := iht (p ++ [⟨x,x + 1,l1⟩]) (x + 2 + 2 * (cl n a.f2 : Int)) (fun b hb => hq b (List.mem_cons_of_mem _ hb)) (by simp; omega) (by omega) (by omega)
        have hw1 : wrap64 (x + 1) = x + 1 := w64 (by omega) (by omega)
        have hw2 : wrap64 (x + 1 + 1) = x + 2 := by rw [w64 (by omega) (by omega)]; omega
        have hp1 : wrap64 ((p.length : Int) + 1) = ((p ++ [(⟨x,x + 1,l1⟩ : T)]).length : Int) := by rw [w64 (by omega) (by omega)]; simp
        have hs : ∀ (b c : T),(p ++ b :: t).set p.length c = p ++ c :: t := fun b c => by simp
        have hfin : x + 2 + 2 * (cl n a.f2 : Int) + 2 * (cl (n + 1) t : Int) = x + 2 * (cl (n + 1) (a :: t) : Int) := by rw [hcl]; omega
        refine ⟨⟨x,x + 1,l1⟩ :: l2,?_,?_⟩
        · refine Ev.val (Ev.step (fun k => ?_) (Ev.bind m1 (f := fun k t116 => laws_markTyS.l0 k (p ++ [⟨x,x + 1,t116.2⟩] ++ t) t116.1 ((p ++ [(⟨x,x + 1,l1⟩ : T)]).length : Int)) m2)) ?_
          · rw [laws_markTyS.l0,if_pos (by simp; omega),if_pos (by omega),Option.bind_some,Option.bind_some]
            simp only [Int.toNat_natCast,hs,rdT,hw1,hw2,hp1,List.append_assoc,List.singleton_append]
          · rw [hfin]; simp
        · have e3 := e2
          rw [List.append_assoc,List.singleton_append] at e3
          refine Ev.val (Ev.step (fun k => ?_) (Ev.bind e1 (f := fun k t112 => if t112 < 0 then some (-1) else laws_heldTyS.l0 k (p ++ ⟨x,x + 1,l1⟩ :: l2) t112 ((p ++ [(⟨x,x + 1,l1⟩ : T)]).length : Int)) (Ev.congr (fun k => ?_) e3))) hfin
          · rw [laws_heldTyS.l0,if_pos (by simp; omega),if_pos (by omega),rdT]
            simp only [hw1,hw2,hp1,↓reduceIte]
          · rw [if_neg (by omega)]
    intro l x hl hlen h0 h1
    obtain ⟨l',e1,e2⟩ := loop l [] x hl (by simpa using hlen) h0 h1
    exact ⟨l',e1,Ev.step (fun k => by rw [laws_heldTyS.f]; rfl) e2⟩

theorem markT (n : Nat) (y : T) (x : Int) (h : N2 (n + 1) y) (h0 : 0 ≤ x) (h1 : x + 2 * (cl n y.f2 : Int) ≤ 4611686018427387904) :
    ∃ m l',0 ≤ m ∧ Ev (fun k => laws_markTy.f k y.f0 y.f1 y.f2 x) (m,l') ∧ Ev (fun k => laws_heldTy.f k y.f0 y.f1 l' x) m := by
  obtain ⟨l',e1,e2⟩ := markS n y.f2 x h.2 (by have := h.1; omega) h0 h1
  refine ⟨x + 2 * (cl n y.f2 : Int),l',by omega,?_,?_⟩
  · exact Ev.congr (fun k => by rw [laws_markTy.f,laws_markTyS.f]) (Ev.bind e1 (f := fun _ t118 => some (t118.1,t118.2)) (Ev.now _))
  · exact Ev.congr (fun k => by rw [laws_heldTy.f]) (Ev.bind e2 (f := fun _ t => if t < 0 then some (-1) else some t) (Ev.const fun k => by rw [if_neg (by omega)]))

end Go.Proofs.Ytbifoajnmikhiaa.E

/- Copies of trees,with how many parts they have. -/
namespace Go.Proofs.Ytbifoajnmikhiaa.E
open Go Go.RowKit Go.Proofs.Ytbifoajnmikhiaa.PF Go.Proofs.Ytbifoajnmikhiaa.M Go.Proofs.YtbifoajnmikhiaaW.PrintWords Go.Proofs.YtbifoajnmikhiaaW.PrintLast Go.Proofs.YtbifoajnmikhiaaW.PrintMore

def c1 : Nat → List TL → Nat
  | 0,_ => 0
  | n + 1,l => (l.map (fun a => 1 + c1 n a.f2)).sum
theorem sum1 {α : Type} (f : α → Nat) (l : List α) : (l.map (fun a => 1 + f a)).sum = l.length + (l.map f).sum := by
  induction l with
  | nil => rfl
  | cons a t ih => simp only [List.map_cons,List.sum_cons,List.length_cons,ih]; omega
theorem cl_up (n : Nat) : ∀ l,cl n l ≤ cl (n + 1) l := by
  induction n with
  | zero => intro l; exact Nat.zero_le _
  | succ n ih =>
    intro l
    rw [cl,cl]
    induction l with
    | nil => exact Nat.le_refl _
    | cons a t iht =>
      rw [List.map_cons,List.sum_cons,List.map_cons,List.sum_cons]
      have := ih a.f2
      omega

theorem szTyC (n : Nat) : ∀ (x : TL),Q24 n x → ∀ left : Int,0 ≤ left → left ≤ 1048576 →
    ∃ r,Ev (fun k => laws_szTy.f k x.f0 x.f1 x.f2 left) r ∧ -1 ≤ r ∧ r ≤ left ∧ (0 ≤ r → N1 n x ∧ r + (c1 n x.f2 : Int) ≤ left) := by
  induction n with
  | zero => intro x h; exact h.elim
  | succ n ih =>
    have loop : ∀ (l p : List TL) (left : Int),(∀ a ∈ l,Q24 n a) → p.length + l.length ≤ 281474976710656 → 0 ≤ left → left ≤ 1048576 →
        ∃ r,Ev (fun k => laws_szTyS.l0 k (p ++ l) left (p.length : Int)) r ∧ -1 ≤ r ∧ r ≤ left ∧ (0 ≤ r → (∀ a ∈ l,N1 n a) ∧ r + (((l.map (fun a => c1 n a.f2)).sum : Nat) : Int) ≤ left) := by
      intro l
      induction l with
      | nil =>
        intro p left _ _ h0 h1
        refine ⟨left,Ev.at1 fun k => ?_,by omega,by omega,fun _ => ⟨(fun a h => by cases h),(by simp)⟩⟩
        rw [laws_szTyS.l0,if_neg (by simp)]
      | cons a t iht =>
        intro p left hq hlen h0 h1
        rw [List.length_cons] at hlen
        obtain ⟨r1,e1,ha,hb,hn⟩ := ih a (hq a List.mem_cons_self) left h0 h1
        by_cases hr : r1 < 0
        · refine ⟨-1,Ev.step (fun k => ?_) (Ev.bind e1 (f := fun k t104 => if t104 < 0 then some (-1) else laws_szTyS.l0 k (p ++ a :: t) t104 (wrap64 ((p.length : Int) + 1))) (Ev.const fun k => ?_)),by omega,by omega,fun h => by omega⟩
          · rw [laws_szTyS.l0,if_pos (by simp; omega),if_pos (by omega),rdL]
          · rw [if_pos hr]
        · obtain ⟨r2,e2,ha2,hb2,hn2⟩ := iht (p ++ [a]) r1 (fun b hb => hq b (List.mem_cons_of_mem _ hb)) (by simp; omega) (by omega) (by omega)
          refine ⟨r2,Ev.step (fun k => ?_) (Ev.bind e1 (f := fun k t104 => if t104 < 0 then some (-1) else laws_szTyS.l0 k (p ++ a :: t) t104 (wrap64 ((p.length : Int) + 1))) (Ev.congr (fun k => ?_) e2)),ha2,by omega,fun h => ⟨fun b hb => ?_,?_⟩⟩
          · rw [laws_szTyS.l0,if_pos (by simp; omega),if_pos (by omega),rdL]
          · rw [if_neg hr,w1 p a (by omega),app1 p t a]
          · rcases List.mem_cons.1 hb with h1 | h1
            · subst h1; exact (hn (by omega)).1
            · exact (hn2 h).1 b h1
          · rw [List.map_cons,List.sum_cons]
            have g1 := (hn (by omega)).2
            have g2 := (hn2 h).2
            omega
    intro x hx left h0 h1
    obtain ⟨_,_,hl,hq⟩ := hx
    simp only [maxLen] at hl
    have hw : wrap64 (left - (x.f2.length : Int)) = left - (x.f2.length : Int) := w64 (by omega) (by omega)
    by_cases hneg : left - (x.f2.length : Int) < 0
    · refine ⟨-1,Ev.step2 (fun k => ?_) (Ev.now _),by omega,by omega,fun h => by omega⟩
      rw [laws_szTy.f,laws_szTyS.f,hw,if_pos hneg,Option.bind_some,if_pos (by omega)]
    · obtain ⟨r,e,ha,hb,hn⟩ := loop x.f2 [] (left - (x.f2.length : Int)) hq (by simp; omega) (by omega) (by omega)
      have e' : Ev (fun k => laws_szTyS.f k x.f2 left) r := Ev.step (fun k => by rw [laws_szTyS.f,hw,if_neg hneg]; rfl) e
      by_cases hr : r < 0
      · refine ⟨-1,Ev.step (fun k => ?_) (Ev.bind e' (f := fun k t102 => if t102 < 0 then some (-1) else some t102) (Ev.const fun k => ?_)),by omega,by omega,fun h => by omega⟩
        · rw [laws_szTy.f]
        · rw [if_pos hr]
      · refine ⟨r,Ev.step (fun k => ?_) (Ev.bind e' (f := fun k t102 => if t102 < 0 then some (-1) else some t102) (Ev.const fun k => ?_)),ha,by omega,fun h => ⟨⟨by omega,(hn h).1⟩,by rw [c1,sum1]; have g := (hn h).2; omega⟩⟩
        · rw [laws_szTy.f]
        · rw [if_neg hr]

theorem toTyC (n : Nat) : ∀ (x : TL),N1 n x → ∃ y : T,Ev (fun k => laws_toTy.f k x.f0 x.f1 x.f2) (y.f0,y.f1,y.f2) ∧ N2 n y ∧ cl n y.f2 = c1 n x.f2 := by
  induction n with
  | zero => intro x h; exact h.elim
  | succ n ih =>
    have loop : ∀ (l p : List TL) (q : List T),(∀ a ∈ l,N1 n a) → p.length = q.length → p.length + l.length ≤ 281474976710656 →
        ∃ r,Ev (fun k => laws_toTyS.l0 k (p ++ l) (q ++ List.replicate l.length z29) (p.length : Int)) (q ++ r) ∧ r.length = l.length ∧ (∀ a ∈ r,N2 n a) ∧ (r.map (fun a => 1 + cl n a.f2)).sum = (l.map (fun a => 1 + c1 n a.f2)).sum := by
      intro l
      induction l with
      | nil =>
        intro p q _ hpq _
        refine ⟨[],Ev.at1 fun k => ?_,rfl,(fun a h => by cases h),rfl⟩
        rw [laws_toTyS.l0,if_neg (by simp)]
        simp
      | cons a t iht =>
        intro p q hq hpq hlen
        rw [List.length_cons] at hlen
        obtain ⟨y,e1,hy,hcy⟩ := ih a (hq a List.mem_cons_self)
        obtain ⟨r,e2,hrl,hr,hcr⟩ := iht (p ++ [a]) (q ++ [y]) (fun b hb => hq b (List.mem_cons_of_mem _ hb)) (by simp [hpq]) (by simp; omega)
        refine ⟨y :: r,Ev.val (Ev.step (fun k => ?_) (Ev.bind e1 (f := fun k bt => if (p.length : Int) < ((q ++ List.replicate (a :: t).length z29).length : Int) then laws_toTyS.l0 k (p ++ a :: t) ((q ++ List.replicate (a :: t).length z29).set (p.length : Int).toNat (⟨bt.1,bt.2.1,bt.2.2⟩ : S29)) (wrap64 ((p.length : Int) + 1)) else none) (Ev.congr (fun k => ?_) e2))) (by simp),by simp [hrl],(fun b hb => ?_),by simp only [List.map_cons,List.sum_cons,hcy,hcr]⟩
        · rw [laws_toTyS.l0,if_pos (by simp; omega),if_pos (by omega),rdL]
        · rw [if_pos (by simp; omega),w1 p a (by omega),app1 p t a,Int.toNat_natCast,hpq]
          congr 1
          simp [List.replicate_succ]
          cases y
          rfl
        · rcases List.mem_cons.1 hb with h1 | h1
          · subst h1; exact hy
          · exact hr b h1
    intro x hx
    obtain ⟨hl,hq⟩ := hx
    obtain ⟨r,e,hrl,hr,hcr⟩ := loop x.f2 [] [] hq rfl (by simp; omega)
    have e' : Ev (fun k => laws_toTyS.f k x.f2) r := Ev.step (fun k => by rw [laws_toTyS.f,if_pos (by omega),if_pos (by rw [Int.toNat_natCast]; omega),Int.toNat_natCast]; rfl) e
    refine ⟨⟨x.f0,x.f1,r⟩,Ev.step (fun k => ?_) (Ev.bind e' (f := fun k t113 => some (x.f0,x.f1,t113)) (Ev.now _)),⟨by show r.length ≤ 1048576; omega,hr⟩,hcr⟩
    rw [laws_toTy.f]


/-- What all laws on one type begin with,and that marks fit on it. -/
theorem tyStart2 (x : TL) (hx : W24 x) : (∃ r,Ev (fun k => laws_szTy.f k x.f0 x.f1 x.f2 1048576) r ∧ r < 0) ∨
    ∃ r n y,Ev (fun k => laws_szTy.f k x.f0 x.f1 x.f2 1048576) r ∧ ¬ r < 0 ∧ Ev (fun k => laws_toTy.f k x.f0 x.f1 x.f2) (y.f0,y.f1,y.f2) ∧ N2 (n + 1) y ∧ cl n y.f2 ≤ 1048576 ∧ Ev (fun k => laws_eqTy.f k y.f0 y.f1 y.f2 y.f0 y.f1 y.f2) true := by
  obtain ⟨n,hx⟩ := hx
  obtain ⟨r,e,_,h2,h3⟩ := szTyC n x hx 1048576 (by omega) (by omega)
  by_cases c : r < 0
  · exact .inl ⟨r,e,c⟩
  · obtain ⟨h4,h5⟩ := h3 (by omega)
    obtain ⟨y,ey,hy,hc⟩ := toTyC n x h4
    cases n with
    | zero => exact hy.elim
    | succ n =>
      have := cl_up n y.f2
      exact .inr ⟨r,n,y,e,c,ey,hy,by omega,eqTy (n + 1) y hy⟩

end Go.Proofs.Ytbifoajnmikhiaa.E

/- Plain facts on sorted lists: what slices.Compact leaves of a sorted list,and what inserting one by one comes to. -/
namespace Go.Proofs.Ytbifoajnmikhiaa.M
open Go Go.Lib

def insR : List Int → Int → List Int
  | [],n => [n]
  | a :: t,n => if a < n then a :: insR t n else if a = n then a :: t else n :: a :: t
theorem insR_len (l : List Int) (n : Int) : (insR l n).length ≤ l.length + 1 := by
  induction l with
  | nil => simp [insR]
  | cons a t ih =>
    rw [insR]
    split
    · simp; exact ih
    · split <;> simp
theorem insR_mem (l : List Int) (n x : Int) : x ∈ insR l n ↔ x = n ∨ x ∈ l := by
  induction l with
  | nil => simp [insR]
  | cons a t ih =>
    rw [insR]
    split
    · rw [List.mem_cons,ih,List.mem_cons]
      constructor
      · rintro (h | h | h)
        · exact .inr (.inl h)
        · exact .inl h
        · exact .inr (.inr h)
      · rintro (h | h | h)
        · exact .inr (.inl h)
        · exact .inl h
        · exact .inr (.inr h)
    · split
      · rename_i h
        subst h
        rw [List.mem_cons]
        constructor
        · exact fun h => .inr h
        · rintro (h | h)
          · exact .inl h
          · exact h
      · rw [List.mem_cons]
theorem insR_lt (l : List Int) (n : Int) (h : l.Pairwise (· < ·)) : (insR l n).Pairwise (· < ·) := by
  induction l with
  | nil => simp [insR]
  | cons a t ih =>
    rw [List.pairwise_cons] at h
    rw [insR]
    split
    · rename_i c
      rw [List.pairwise_cons]
      refine ⟨fun b hb => ?_,ih h.2⟩
      rcases (insR_mem t n b).1 hb with h1 | h1
      · rw [h1]; exact c
      · exact h.1 b h1
    · split
      · exact List.pairwise_cons.2 h
      · rename_i c1 c2
        rw [List.pairwise_cons]
        refine ⟨fun b hb => ?_,List.pairwise_cons.2 h⟩
        rcases List.mem_cons.1 hb with h1 | h1
        · omega
        · have := h.1 b h1; omega
theorem fold_ins (v : List Int) : ∀ l : List Int,l.Pairwise (· < ·) → (v.foldl insR l).Pairwise (· < ·) ∧ ∀ x,x ∈ v.foldl insR l ↔ x ∈ v ∨ x ∈ l := by
  induction v with
  | nil => intro l h; exact ⟨h,fun x => by simp⟩
  | cons a t ih =>
    intro l h
    obtain ⟨h1,h2⟩ := ih (insR l a) (insR_lt l a h)
    refine ⟨h1,fun x => ?_⟩
    rw [List.foldl_cons,h2,insR_mem,List.mem_cons]
    constructor
    · rintro (h | h | h)
      · exact .inl (.inr h)
      · exact .inl (.inl h)
      · exact .inr h
    · rintro ((h | h) | h)
      · exact .inr (.inl h)
      · exact .inl h
      · exact .inr (.inr h)
theorem fold_len1 (v : List Int) : ∀ l : List Int,(v.foldl insR l).length ≤ l.length + v.length := by
  induction v with
  | nil => intro l; simp
  | cons a t ih =>
    intro l
    have := ih (insR l a)
    have := insR_len l a
    rw [List.foldl_cons,List.length_cons]
    omega
theorem ssorted_ext : ∀ (a b : List Int),a.Pairwise (· < ·) → b.Pairwise (· < ·) → (∀ x,x ∈ a ↔ x ∈ b) → a = b := by
  intro a
  induction a with
  | nil =>
    intro b _ _ h
    cases b with
    | nil => rfl
    | cons y t => exact absurd ((h y).2 List.mem_cons_self) (by simp)
  | cons x t ih =>
    intro b ha hb h
    cases b with
    | nil => exact absurd ((h x).1 List.mem_cons_self) (by simp)
    | cons y s =>
      rw [List.pairwise_cons] at ha hb
      have hx := (h x).1 List.mem_cons_self
      have hy := (h y).2 List.mem_cons_self
      have e : x = y := by
        rcases List.mem_cons.1 hx with h1 | h1
        · exact h1
        · rcases List.mem_cons.1 hy with h2 | h2
          · exact h2.symm
          · have := hb.1 x h1; have := ha.1 y h2; omega
      subst e
      congr 1
      refine ih s ha.2 hb.2 (fun z => ⟨fun hz => ?_,fun hz => ?_⟩)
      · have := ha.1 z hz
        rcases List.mem_cons.1 ((h z).1 (List.mem_cons_of_mem _ hz)) with h1 | h1
        · omega
        · exact h1
      · have := hb.1 z hz
        rcases List.mem_cons.1 ((h z).2 (List.mem_cons_of_mem _ hz)) with h1 | h1
        · omega
        · exact h1

theorem get_arr (zs : List Int) (i : Nat) (h : i < zs.length) : zs.toArray[i]! = zs[i] := by simp [getElem!_pos,h]
theorem compact_mem (zs : List Int) (x : Int) : x ∈ Lib.compact zs ↔ x ∈ zs := by
  unfold Lib.compact Lib.compactUpTo
  constructor
  · intro h
    obtain ⟨i,hi,rfl⟩ := List.mem_map.1 h
    have hi' : i < zs.length := List.mem_range.1 (List.mem_filter.1 hi).1
    show zs.toArray[i]! ∈ zs
    rw [get_arr zs i hi']
    exact List.getElem_mem hi'
  · have go : ∀ i (h : i < zs.length),zs[i] ∈ ((List.range zs.length).filter (keeps zs.toArray)).map (zs.toArray[·]!) := by
      intro i
      induction i using Nat.strongRecOn with
      | _ i ih =>
        intro h
        by_cases c : keeps zs.toArray i = true
        · exact List.mem_map.2 ⟨i,List.mem_filter.2 ⟨List.mem_range.2 h,c⟩,get_arr zs i h⟩
        · unfold keeps at c
          rw [decide_eq_true_iff,not_or,Classical.not_not] at c
          rw [get_arr zs i h,get_arr zs (i - 1) (by omega)] at c
          rw [c.2]
          exact ih (i - 1) (by omega) (by omega)
    intro h
    obtain ⟨i,hi,rfl⟩ := List.mem_iff_getElem.1 h
    exact go i hi
theorem compact_lt (zs : List Int) (h : zs.Pairwise (· ≤ ·)) : (Lib.compact zs).Pairwise (· < ·) := by
  have hm : ∀ i j (hi : i < zs.length) (hj : j < zs.length),i ≤ j → zs[i] ≤ zs[j] := by
    intro i j hi hj hij
    rcases Nat.lt_or_eq_of_le hij with h1 | h1
    · exact List.pairwise_iff_getElem.1 h i j hi hj h1
    · subst h1; exact Int.le_refl _
  unfold Lib.compact Lib.compactUpTo
  rw [List.pairwise_map,List.pairwise_filter]
  refine List.Pairwise.imp_of_mem (fun {i j} hi hj hij => ?_) List.pairwise_lt_range
  intro _ kj
  have hi' := List.mem_range.1 hi
  have hj' := List.mem_range.1 hj
  show zs.toArray[i]! < zs.toArray[j]!
  rw [get_arr zs i hi',get_arr zs j hj']
  unfold keeps at kj
  rw [decide_eq_true_iff,get_arr zs j hj',get_arr zs (j - 1) (by omega)] at kj
  have h1 := hm i (j - 1) hi' (by omega) (by omega)
  have h2 := hm (j - 1) j (by omega) hj' (by omega)
  rcases kj with h3 | h3
  · omega
  · omega
/-- Sorted and compacted: just what is inserted one by one. -/
theorem compact_sort (v : List Int) : Lib.compact (v.mergeSort fun x y => decide (x ≤ y)) = v.foldl insR [] := by
  have hs : (v.mergeSort fun x y => decide (x ≤ y)).Pairwise (· ≤ ·) := by
    have := List.pairwise_mergeSort (le := fun x y : Int => decide (x ≤ y)) (by intro a b c; simp; omega) (by intro a b; simp; omega) v
    exact this.imp (fun h => of_decide_eq_true h)
  obtain ⟨h1,h2⟩ := fold_ins v [] List.Pairwise.nil
  refine ssorted_ext _ _ (compact_lt _ hs) h1 (fun x => ?_)
  rw [compact_mem,List.mem_mergeSort,h2]
  simp
end Go.Proofs.Ytbifoajnmikhiaa.M

/- What the laws' helpers on whole numbers come to. -/
namespace Go.Proofs.Ytbifoajnmikhiaa.E
open Go Go.RowKit Go.Proofs.Ytbifoajnmikhiaa.PF Go.Proofs.Ytbifoajnmikhiaa.M Go.Proofs.YtbifoajnmikhiaaW.PrintWords Go.Proofs.YtbifoajnmikhiaaW.PrintLast Go.Proofs.YtbifoajnmikhiaaW.PrintMore

theorem wl {α : Type} (p : List α) (a : α) (h : p.length ≤ 281474976710656) : wrap64 ((p.length : Int) + 1) = ((p ++ [a]).length : Int) := by rw [w64 (by omega) (by omega)]; simp
theorem appl {α : Type} (p t : List α) (a : α) : p ++ a :: t = p ++ [a] ++ t := by simp
theorem rdI (p t : List Int) (a : Int) : rd (p ++ a :: t) (p.length : Int) = a := by simp [rd]
theorem eqIntS_l (l : List Int) : ∀ (p : List Int),p.length + l.length ≤ 281474976710656 → Ev (fun k => laws_eqIntS.l0 k (p ++ l) (p ++ l) (p.length : Int)) true := by
  induction l with
  | nil =>
    intro p _
    refine Ev.at1 fun k => ?_
    rw [laws_eqIntS.l0,if_neg (by simp)]
  | cons a t ih =>
    intro p hp
    rw [List.length_cons] at hp
    have := ih (p ++ [a]) (by simp; omega)
    refine Ev.step (fun k => ?_) this
    rw [laws_eqIntS.l0,if_pos (by simp; omega),if_pos (by omega),if_pos (by simp; omega),if_pos rfl,wl p a (by omega),appl p t a]
theorem eqIntS {l : List Int} (hl : l.length ≤ 281474976710656) : Ev (fun k => laws_eqIntS.f k l l) true := by
  refine Ev.congr (fun k => ?_) (by simpa using eqIntS_l l [] (by simpa using hl))
  rw [laws_eqIntS.f,if_pos rfl]

def imarks : Nat → Int → List Int
  | 0,_ => []
  | n + 1,a => a :: imarks n (a + 1)
theorem imarks_len (n : Nat) : ∀ a,(imarks n a).length = n := by
  induction n with
  | zero => intro a; rfl
  | succ n ih => intro a; simp [imarks,ih]
theorem markI_l (l : List Int) : ∀ (p : List Int) (a : Int),p.length + l.length ≤ 281474976710656 → -281474976710656 ≤ a → a + l.length ≤ 9223372036854775807 →
    Ev (fun k => laws_markIntS.l0 k (p ++ l) a (p.length : Int)) (a + l.length,p ++ imarks l.length a) := by
  induction l with
  | nil =>
    intro p a hp h0 h1
    refine Ev.at1 fun k => ?_
    rw [laws_markIntS.l0,if_neg (by simp)]
    simp [imarks]
  | cons c t ih =>
    intro p a hp h0 h1
    rw [List.length_cons] at hp h1
    have := ih (p ++ [a]) (a + 1) (by simp; omega) (by omega) (by omega)
    refine Ev.val (Ev.step (fun k => ?_) this) ?_
    · rw [laws_markIntS.l0,if_pos (by simp; omega),if_pos (by omega),Int.toNat_natCast,wl p a (by omega),w64 (n := a + 1) (by omega) (by omega)]
      congr 1
      simp
    · simp only [imarks,List.length_cons,List.append_assoc,List.singleton_append,Prod.mk.injEq,and_true]
      omega
theorem markI {l : List Int} {a : Int} (hl : l.length ≤ 281474976710656) (h0 : -281474976710656 ≤ a) (h1 : a + l.length ≤ 9223372036854775807) : Ev (fun k => laws_markIntS.f k l a) (a + l.length,imarks l.length a) :=
  Ev.congr (f := fun k => laws_markIntS.l0 k l a 0) (fun k => rfl) (by simpa using markI_l l [] a (by simpa using hl) h0 h1)
theorem heldI_l (n : Nat) : ∀ (p : List Int) (a : Int),p.length + n ≤ 281474976710656 → -281474976710656 ≤ a → a + n ≤ 9223372036854775807 →
    Ev (fun k => laws_heldIntS.l0 k (p ++ imarks n a) a (p.length : Int)) (a + n) := by
  induction n with
  | zero =>
    intro p a hp h0 h1
    refine Ev.at1 fun k => ?_
    rw [laws_heldIntS.l0,if_neg (by simp [imarks])]
    simp
  | succ n ih =>
    intro p a hp h0 h1
    have := ih (p ++ [a]) (a + 1) (by simp; omega) (by omega) (by omega)
    refine Ev.val (Ev.step (fun k => ?_) this) (by omega)
    rw [imarks,laws_heldIntS.l0,if_pos (by simp [imarks_len]; omega),if_pos (by omega),rdI,if_pos rfl,wl p a (by omega),w64 (n := a + 1) (by omega) (by omega),appl]
theorem heldI {n : Nat} {a : Int} (hl : n ≤ 281474976710656) (h0 : -281474976710656 ≤ a) (h1 : a + n ≤ 9223372036854775807) : Ev (fun k => laws_heldIntS.f k (imarks n a) a) (a + n) :=
  Ev.congr (f := fun k => laws_heldIntS.l0 k (imarks n a) a 0) (fun k => rfl) (by simpa using heldI_l n [] a (by simpa using hl) h0 h1)

end Go.Proofs.Ytbifoajnmikhiaa.E

/- What TyVars comes to,in the program and in the reference. -/
namespace Go.Proofs.Ytbifoajnmikhiaa.E
open Go Go.RowKit Go.Proofs.Ytbifoajnmikhiaa.PF Go.Proofs.Ytbifoajnmikhiaa.M Go.Proofs.YtbifoajnmikhiaaW.PrintWords Go.Proofs.YtbifoajnmikhiaaW.PrintLast Go.Proofs.YtbifoajnmikhiaaW.PrintMore

/-- No more than three parts each; a variable has none. -/
def N5 : Nat → T → Prop
  | 0,_ => False
  | n + 1,x => x.f2.length ≤ 3 ∧ (x.f0 = 7 → x.f2 = []) ∧ ∀ a ∈ x.f2,N5 n a
theorem measL_all (f : T → Int) (hf : ∀ a,1 ≤ f a) : ∀ (l : List T) (s : Int),0 ≤ s → measL f l s ≤ 60 → ∀ a ∈ l,f a ≤ 60 := by
  intro l
  induction l with
  | nil => intro s _ _ a h; cases h
  | cons b t ih =>
    intro s h0 h a ha
    rw [measL] at h
    have hb := hf b
    split at h
    · omega
    · rcases List.mem_cons.1 ha with h1 | h1
      · subst h1; omega
      · exact ih _ (by omega) h a h1
theorem head7 {t : T} (h : headB t = true) (h7 : t.f0 = 7) : t.f2 = [] := by
  unfold headB manyB at h
  rw [Bool.and_eq_true] at h
  have h := h.1
  rw [h7] at h
  have e : argsN 7 = 0 := rfl
  rw [e,if_neg (by decide)] at h
  have := of_decide_eq_true h
  exact List.eq_nil_of_length_eq_zero (by omega)
theorem meas_N5 (d : Nat) : ∀ t,meas d t ≤ 60 → N5 d t := by
  induction d with
  | zero => intro t h; simp [meas] at h
  | succ d ih =>
    intro t h
    rw [meas] at h
    split at h
    · rename_i hh
      exact ⟨headB_len hh,head7 hh,fun a ha => ih a (measL_all _ (fun a => (meas_le d a).1) _ _ (by omega) h a ha)⟩
    · omega

/-- The numbers of all variables,from the left. -/
def vs : Nat → T → List Int
  | 0,_ => []
  | n + 1,t => if t.f0 = 7 then [t.f1] else (t.f2.map (vs n)).flatten
def vl : Nat → Nat
  | 0 => 0
  | n + 1 => 1 + 3 * vl n
theorem flat_len (d : Nat) (hd : ∀ t : T,N5 d t → (vs d t).length ≤ vl d) : ∀ l : List T,(∀ a ∈ l,N5 d a) → (l.map (vs d)).flatten.length ≤ l.length * vl d := by
  intro l
  induction l with
  | nil => intro _; simp
  | cons a t ih =>
    intro h
    have h1 := ih (fun c hc => h c (List.mem_cons_of_mem _ hc))
    have h2 := hd a (h a List.mem_cons_self)
    rw [List.map_cons,List.flatten_cons,List.length_append,List.length_cons,Nat.add_mul,Nat.one_mul]
    omega
theorem vs_len (d : Nat) : ∀ t : T,N5 d t → (vs d t).length ≤ vl d := by
  induction d with
  | zero => intro t h; exact h.elim
  | succ d ih =>
    intro t h
    rw [vs,vl]
    split
    · simp
    · have h1 := flat_len d ih t.f2 h.2.2
      have h3 : t.f2.length * vl d ≤ 3 * vl d := Nat.mul_le_mul_right _ h.1
      omega

theorem l3ins (n : Int) (l : List Int) : ∀ p : List Int,p.length + l.length ≤ 1000000 → Ev (fun k => spec_l3insert.l0 k (p ++ l) n (p.length : Int)) (p ++ insR l n) := by
  induction l with
  | nil =>
    intro p hp
    rw [List.length_nil] at hp
    refine Ev.at1 fun k => ?_
    rw [spec_l3insert.l0,if_neg (by simp),if_pos (by omega),if_pos (by simp)]
    simp only [Int.toNat_natCast,List.append_nil,List.take_length,List.drop_length,Option.bind_some,List.nil_append,List.length_nil,List.length_append,List.length_cons,Nat.zero_add,Nat.add_zero]
    rw [if_pos (by omega),if_pos (by omega),if_pos (by omega),insR]
  | cons a t ih =>
    intro p hp
    rw [List.length_cons] at hp
    rw [insR]
    by_cases c : a < n
    · rw [if_pos c]
      refine Ev.val (Ev.step (fun k => ?_) (ih (p ++ [a]) (by simp; omega))) (by simp)
      rw [spec_l3insert.l0,if_pos (by simp; omega),if_pos (by omega),rdI,if_pos c,wl p a (by omega),appl p t a]
    · rw [if_neg c]
      by_cases c2 : a = n
      · rw [if_pos c2]
        refine Ev.at1 fun k => ?_
        rw [spec_l3insert.l0,if_pos (by simp; omega),if_pos (by omega),rdI,if_neg c,if_pos c2]
      · rw [if_neg c2]
        refine Ev.at1 fun k => ?_
        rw [spec_l3insert.l0,if_pos (by simp; omega),if_pos (by omega),rdI,if_neg c,if_neg c2,if_pos (by simp; omega)]
        simp only [Int.toNat_natCast,List.take_left,List.drop_left,Option.bind_some,List.nil_append,List.length_nil,List.length_append,List.length_cons,Nat.zero_add]
        rw [if_pos (by omega),if_pos (by omega),if_pos (by omega)]
        simp

theorem fold_flat {f : List Int → Int → List Int} (d : Nat) : ∀ (l : List T) (b : List Int),((l.map (vs d)).flatten).foldl f b = l.foldl (fun b a => (vs d a).foldl f b) b := by
  intro l
  induction l with
  | nil => intro b; rfl
  | cons a t ih => intro b; rw [List.map_cons,List.flatten_cons,List.foldl_append,List.foldl_cons,ih]

theorem spec_vars (d : Nat) : ∀ (t : T) (b : List Int),N5 d t → b.length + vl d ≤ 900000 → Ev (fun k => spec_l3vars.f k b t.f0 t.f1 t.f2) ((vs d t).foldl insR b) := by
  induction d with
  | zero => intro t b h; exact h.elim
  | succ d ih =>
    have loop : ∀ (l p : List T) (b : List Int),(∀ a ∈ l,N5 d a) → p.length + l.length ≤ 3 → b.length + l.length * vl d ≤ 900000 → Ev (fun k => spec_l3vars.l0 k (p ++ l) (p.length : Int) b) (l.foldl (fun b a => (vs d a).foldl insR b) b) := by
      intro l
      induction l with
      | nil =>
        intro p b _ _ _
        refine Ev.at1 fun k => ?_
        rw [spec_l3vars.l0,if_neg (by simp)]
        rfl
      | cons a t iht =>
        intro p b hq hp hb
        rw [List.length_cons] at hp
        rw [List.length_cons,Nat.add_mul,Nat.one_mul] at hb
        have h1 := vs_len d a (hq a List.mem_cons_self)
        have h2 := fold_len1 (vs d a) b
        refine Ev.step (fun k => ?_) (Ev.bind (ih a b (hq a List.mem_cons_self) (by omega)) (f := fun k t1 => spec_l3vars.l0 k (p ++ a :: t) (wrap64 ((p.length : Int) + 1)) t1) (Ev.congr (fun k => ?_) (iht (p ++ [a]) ((vs d a).foldl insR b) (fun c hc => hq c (List.mem_cons_of_mem _ hc)) (by simp; omega) (by omega))))
        · rw [spec_l3vars.l0,if_pos (by simp; omega),if_pos (by omega),rdT]
        · rw [w1 p a (by omega),app1 p t a]
    intro t b h hb
    rw [vl] at hb
    rw [vs]
    by_cases c7 : t.f0 = 7
    · rw [if_pos c7]
      refine Ev.step (f := fun k => spec_l3insert.f k b t.f1) (fun k => by rw [spec_l3vars.f,if_pos c7]) ?_
      exact Ev.congr (fun k => by rw [spec_l3insert.f]; rfl) (l3ins t.f1 b [] (by simp; omega))
    · rw [if_neg c7,fold_flat]
      have h3 : t.f2.length * vl d ≤ 3 * vl d := Nat.mul_le_mul_right _ h.1
      exact Ev.step (fun k => by rw [spec_l3vars.f,if_neg c7]; rfl) (loop t.f2 [] b h.2.2 (by simpa using h.1) (by omega))

theorem impl_vars (d : Nat) : ∀ (t : T) (b : List Int),N5 d t → b.length + vl d ≤ 900000 → Ev (fun k => impl_eachVar.f k b t.f0 t.f1 t.f2) (b ++ vs d t) := by
  induction d with
  | zero => intro t b h; exact h.elim
  | succ d ih =>
    have loop : ∀ (l p : List T) (b : List Int),(∀ a ∈ l,N5 d a) → p.length + l.length ≤ 3 → b.length + l.length * vl d ≤ 900000 → Ev (fun k => impl_eachVar.l0 k (p ++ l) (p.length : Int) b) (b ++ (l.map (vs d)).flatten) := by
      intro l
      induction l with
      | nil =>
        intro p b _ _ _
        refine Ev.at1 fun k => ?_
        rw [impl_eachVar.l0,if_neg (by simp)]
        simp
      | cons a t iht =>
        intro p b hq hp hb
        rw [List.length_cons] at hp
        rw [List.length_cons,Nat.add_mul,Nat.one_mul] at hb
        have h1 := vs_len d a (hq a List.mem_cons_self)
        refine Ev.val (Ev.step (fun k => ?_) (Ev.bind (ih a b (hq a List.mem_cons_self) (by omega)) (f := fun k t1 => impl_eachVar.l0 k (p ++ a :: t) (wrap64 ((p.length : Int) + 1)) t1) (Ev.congr (fun k => ?_) (iht (p ++ [a]) (b ++ vs d a) (fun c hc => hq c (List.mem_cons_of_mem _ hc)) (by simp; omega) (by rw [List.length_append]; omega))))) (by simp)
        · rw [impl_eachVar.l0,if_pos (by simp; omega),if_pos (by omega),rdT]
        · rw [w1 p a (by omega),app1 p t a]
    intro t b h hb
    rw [vl] at hb
    rw [vs]
    by_cases c7 : t.f0 = 7
    · rw [if_pos c7]
      have hn := h.2.1 c7
      refine Ev.step2 (f := fun _ => some (b ++ [t.f1])) (fun k => ?_) (Ev.now _)
      rw [impl_eachVar.f,if_pos c7,impl_TyVars_1.f,if_pos (by omega),Option.bind_some,hn,impl_eachVar.l0,if_neg (by simp)]
    · rw [if_neg c7]
      have h3 : t.f2.length * vl d ≤ 3 * vl d := Nat.mul_le_mul_right _ h.1
      exact Ev.step (fun k => by rw [impl_eachVar.f,if_neg c7]; rfl) (loop t.f2 [] b h.2.2 (by simpa using h.1) (by omega))

def tyVars (t : T) : List Int := if TyOk t = true then (vs 10 t).foldl insR [] else []
theorem vl10 : vl 10 = 29524 := by decide
theorem tyVars_len (t : T) : (tyVars t).length ≤ 400000 := by
  unfold tyVars
  split
  · rename_i h
    have h1 := vs_len 10 t (meas_N5 10 t (of_decide_eq_true h))
    have h2 := fold_len1 (vs 10 t) []
    have h3 := vl10
    rw [List.length_nil] at h2
    omega
  · simp
theorem spec_TyVars (t : T) : Ev (fun k => spec_TyVars.f k t.f0 t.f1 t.f2) (tyVars t) := by
  refine Ev.congr (fun k => by rw [spec_TyVars.f]) (Ev.bind (spec_TyOk t) ?_)
  unfold tyVars
  by_cases c : TyOk t = true
  · rw [if_pos c]
    exact Ev.congr (fun k => by rw [if_pos c]) (spec_vars 10 t [] (meas_N5 10 t (of_decide_eq_true c)) (by rw [vl10,List.length_nil]; omega))
  · rw [if_neg c]
    exact Ev.const fun k => by rw [if_neg c]
theorem impl_TyVars (t : T) : Ev (fun k => impl_TyVars.f k t.f0 t.f1 t.f2) (tyVars t) := by
  refine Ev.congr (fun k => by rw [impl_TyVars.f]) (Ev.bind (impl_TyOk t) ?_)
  unfold tyVars
  by_cases c : TyOk t = true
  · have h5 := meas_N5 10 t (of_decide_eq_true c)
    have hl := vs_len 10 t h5
    have h3 := vl10
    rw [if_pos c]
    refine Ev.congr (fun k => by rw [if_pos c]) (Ev.bind (impl_vars 10 t [] h5 (by rw [vl10,List.length_nil]; omega)) (Ev.const fun k => ?_))
    rw [List.nil_append,if_pos (by omega),compact_sort]
  · rw [if_neg c]
    exact Ev.const fun k => by rw [if_neg c]

end Go.Proofs.Ytbifoajnmikhiaa.E

/- The program's TyVars returns what the reference's TyVars returns,at every tree,in new memory,and leaves its argument. No condition. -/
namespace Go.Proofs.Ytbifoajnmikhiaa.Pure
open Go Go.RowKit Go.Proofs.Ytbifoajnmikhiaa.PF Go.Proofs.Ytbifoajnmikhiaa.M Go.Proofs.Ytbifoajnmikhiaa.E Go.Proofs.YtbifoajnmikhiaaW.PrintWords Go.Proofs.YtbifoajnmikhiaaW.PrintLast

theorem FnExactTyVars : laws_FnExactTyVars.Pure := by
  intro x hx
  rcases tyStart2 x hx with ⟨r,e1,hr⟩ | ⟨r,n,y,e1,hr,e2,hy,hc,e5⟩
  · obtain ⟨K1,h1⟩ := Ev.use e1
    exact ⟨K1,by rw [laws_FnExactTyVars.f,h1 _ (by omega),if_pos hr]⟩
  · have hlen := tyVars_len y
    obtain ⟨K1,h1⟩ := e1
    obtain ⟨K2,h2⟩ := e2
    obtain ⟨K3,h3⟩ := spec_TyVars y
    obtain ⟨K4,h4⟩ := impl_TyVars y
    obtain ⟨K5,h5⟩ := e5
    obtain ⟨K6,h6⟩ := eqIntS (l := tyVars y) (by omega)
    obtain ⟨m,l',hm0,⟨K7,h7⟩,_⟩ := markT n y 1 hy (by omega) (by omega)
    obtain ⟨K8,h8⟩ := markI (l := tyVars y) (a := 1) (by omega) (by omega) (by omega)
    obtain ⟨K9,h9⟩ := heldI (n := (tyVars y).length) (a := 1) (by omega) (by omega) (by omega)
    refine ⟨K1 + K2 + K3 + K4 + K5 + K6 + K7 + K8 + K9,?_⟩
    have g1 := h1 (K1 + K2 + K3 + K4 + K5 + K6 + K7 + K8 + K9) (by omega)
    have g2 := h2 (K1 + K2 + K3 + K4 + K5 + K6 + K7 + K8 + K9) (by omega)
    have g3 := h3 (K1 + K2 + K3 + K4 + K5 + K6 + K7 + K8 + K9) (by omega)
    have g4 := h4 (K1 + K2 + K3 + K4 + K5 + K6 + K7 + K8 + K9) (by omega)
    have g5 := h5 (K1 + K2 + K3 + K4 + K5 + K6 + K7 + K8 + K9) (by omega)
    have g6 := h6 (K1 + K2 + K3 + K4 + K5 + K6 + K7 + K8 + K9) (by omega)
    have g7 := h7 (K1 + K2 + K3 + K4 + K5 + K6 + K7 + K8 + K9) (by omega)
    have g8 := h8 (K1 + K2 + K3 + K4 + K5 + K6 + K7 + K8 + K9) (by omega)
    have g9 := h9 (K1 + K2 + K3 + K4 + K5 + K6 + K7 + K8 + K9) (by omega)
    generalize K1 + K2 + K3 + K4 + K5 + K6 + K7 + K8 + K9 = K at *
    dsimp only at g1 g2 g3 g4 g5 g6 g7 g8 g9
    rw [laws_FnExactTyVars.f,g1,Option.bind_some,if_neg hr,g2,Option.bind_some,g3,Option.bind_some,g7,Option.bind_some,g8,Option.bind_some]
    exact if_pos ⟨g4,g6,g5,hm0,g9,by simp only; omega⟩

end Go.Proofs.Ytbifoajnmikhiaa.Pure

