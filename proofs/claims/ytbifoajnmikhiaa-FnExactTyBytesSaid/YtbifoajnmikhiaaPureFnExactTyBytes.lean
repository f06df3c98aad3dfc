import Derived.Test.YtbifoajnmikhiaaB
import Derived.Test.YtbifoajnmikhiaaPEx0
import Derived.Test.YtbifoajnmikhiaaPEx1
import Derived.Test.YtbifoajnmikhiaaPEx2
import Derived.Test.YtbifoajnmikhiaaPEx3
import Derived.Test.YtbifoajnmikhiaaPEx5
import Derived.Test.YtbifoajnmikhiaaPEx6
import Derived.Test.YtbifoajnmikhiaaPEx7
import Derived.Test.YtbifoajnmikhiaaPEx8
import Derived.Test.YtbifoajnmikhiaaPEx9
import Derived.Test.YtbifoajnmikhiaaPEx10
import Derived.Test.YtbifoajnmikhiaaPEx11
import Derived.Test.YtbifoajnmikhiaaPEx12
import Derived.Test.YtbifoajnmikhiaaPEx13
import Derived.Test.YtbifoajnmikhiaaPEx14
import Derived.Test.YtbifoajnmikhiaaPEx15
import Derived.Test.YtbifoajnmikhiaaPEx16
import Derived.Test.YtbifoajnmikhiaaPEx17
import Derived.Test.YtbifoajnmikhiaaPER
import Derived.Test.YtbifoajnmikhiaaPESFnExactTyBytes
import Derived.Test.YtbifoajnmikhiaaM1
import Derived.Test.YtbifoajnmikhiaaM3
/- What within,Fold,Unfold and Wrap come to. -/
namespace Go.Proofs.Ytbifoajnmikhiaa.E
open Go Go.RowKit Go.Proofs.Ytbifoajnmikhiaa.PE Go.Proofs.Ytbifoajnmikhiaa.M Go.Proofs.YtbifoajnmikhiaaW.PrintWords Go.Proofs.YtbifoajnmikhiaaW.PrintLast Go.Proofs.YtbifoajnmikhiaaW.PrintMore

theorem within (a b c : Int) : impl_within.f a b c = some (decide (b ≤ a ∧ a ≤ c)) := by
  unfold impl_within.f
  by_cases h : a ≥ b
  · rw [if_pos h]
    have : b ≤ a := h
    simp [this]
  · rw [if_neg h]
    have : ¬ b ≤ a := h
    simp [this]
theorem within_in {a b c : Int} (h0 : b ≤ a) (h1 : a ≤ c) : impl_within.f a b c = some true := by rw [within,decide_eq_true ⟨h0,h1⟩]
theorem within_out {a b c : Int} (h : ¬ (b ≤ a ∧ a ≤ c)) : impl_within.f a b c = some false := by rw [within,decide_eq_false h]

end Go.Proofs.Ytbifoajnmikhiaa.E

/- What the functions on bytes come to: the program's and the reference's GetNum,PutNum,GetText,PutText; the laws' own helpers. -/
namespace Go.Proofs.Ytbifoajnmikhiaa.E
open Go Go.RowKit Go.Proofs.Ytbifoajnmikhiaa.PE Go.Proofs.Ytbifoajnmikhiaa.M Go.Proofs.YtbifoajnmikhiaaW.PrintWords Go.Proofs.YtbifoajnmikhiaaW.PrintLast Go.Proofs.YtbifoajnmikhiaaW.PrintMore

theorem eqByteS_l {a b : List Int} (hl : a.length = b.length) (hb : a.length ≤ 281474976710656) (d : Nat) : ∀ (i : Nat),i + d = a.length → Ev (fun k => laws_eqByteS.l0 k a b (i : Int)) (decide (a.drop i = b.drop i)) := by
  induction d with
  | zero =>
    intro i hi
    refine Ev.at1 fun k => ?_
    rw [laws_eqByteS.l0,if_neg (by omega),List.drop_of_length_le (by omega),List.drop_of_length_le (by omega)]
    simp
  | succ d ih =>
    intro i hi
    have hw : wrap64 ((i : Int) + 1) = ((i + 1 : Nat) : Int) := by rw [w64 (by omega) (by omega)]; omega
    have ha := drop_rd (l := a) (i := (i : Int)) (by omega) (by omega)
    have hb := drop_rd (l := b) (i := (i : Int)) (by omega) (by omega)
    have e1 : ((i : Int) + 1).toNat = i + 1 := by omega
    rw [Int.toNat_natCast,e1] at ha hb
    rw [ha,hb]
    by_cases h : rd a i = rd b i
    · refine Ev.val (Ev.step (fun k => ?_) (ih (i + 1) (by omega))) ?_
      · rw [laws_eqByteS.l0,if_pos (by omega),if_pos (by omega),if_pos (by omega),if_pos h,hw]
      · simp [h]
    · refine Ev.at1 fun k => ?_
      rw [laws_eqByteS.l0,if_pos (by omega),if_pos (by omega),if_pos (by omega),if_neg h]
      simp [h]

theorem eqByteS {a b : List Int} (hb : a.length ≤ 281474976710656) : Ev (fun k => laws_eqByteS.f k a b) (decide (a = b)) := by
  by_cases hl : a.length = b.length
  · refine Ev.congr (fun k => ?_) (eqByteS_l hl hb a.length 0 (by omega))
    rw [laws_eqByteS.f,if_pos (by omega)]
    rfl
  · refine Ev.const fun k => ?_
    rw [laws_eqByteS.f,if_neg (by omega)]
    have : a ≠ b := fun e => hl (by rw [e])
    simp [this]

end Go.Proofs.Ytbifoajnmikhiaa.E

/- What the laws' helpers on types come to,and the program's and the reference's measure of a type. -/
namespace Go.Proofs.Ytbifoajnmikhiaa.E
open Go Go.RowKit Go.Proofs.Ytbifoajnmikhiaa.PE Go.Proofs.Ytbifoajnmikhiaa.M Go.Proofs.YtbifoajnmikhiaaW.PrintWords Go.Proofs.YtbifoajnmikhiaaW.PrintLast Go.Proofs.YtbifoajnmikhiaaW.PrintMore

theorem rdL (p t : List TL) (a : TL) : rd_T24 (p ++ a :: t) (p.length : Int) = a := by simp [rd_T24]
theorem rdT (p t : List T) (a : T) : rd_T29 (p ++ a :: t) (p.length : Int) = a := by simp [rd_T29]
theorem w1 {α : Type} (p : List α) (a : α) (h : p.length ≤ 281474976710656) : wrap64 ((p.length : Int) + 1) = ((p ++ [a]).length : Int) := by rw [w64 (by omega) (by omega)]; simp
theorem app1 {α : Type} (p t : List α) (a : α) : p ++ a :: t = p ++ [a] ++ t := by simp

theorem szTy (n : Nat) : ∀ (x : TL),Q24 n x → ∀ left : Int,0 ≤ left → left ≤ 1048576 →
    ∃ r,Ev (fun k => laws_szTy.f k x.f0 x.f1 x.f2 left) r ∧ -1 ≤ r ∧ r ≤ left ∧ (0 ≤ r → N1 n x) := by
  induction n with
  | zero => intro x h; exact h.elim
  | succ n ih =>
    have loop : ∀ (l p : List TL) (left : Int),(∀ a ∈ l,Q24 n a) → p.length + l.length ≤ 281474976710656 → 0 ≤ left → left ≤ 1048576 →
        ∃ r,Ev (fun k => laws_szTyS.l0 k (p ++ l) left (p.length : Int)) r ∧ -1 ≤ r ∧ r ≤ left ∧ (0 ≤ r → ∀ a ∈ l,N1 n a) := by
      intro l
      induction l with
      | nil =>
        intro p left _ _ h0 h1
        refine ⟨left,Ev.at1 fun k => ?_,by omega,by omega,fun _ a h => by cases h⟩
        rw [laws_szTyS.l0,if_neg (by simp)]
      | cons a t iht =>
        intro p left hq hlen h0 h1
        rw [List.length_cons] at hlen
        obtain ⟨r1,e1,ha,hb,hn⟩ := ih a (hq a List.mem_cons_self) left h0 h1
        by_cases hr : r1 < 0
        · refine ⟨-1,Ev.step (fun k => ?_) (Ev.bind e1 (f := fun k t104 => if t104 < 0 then some (-1) else laws_szTyS.l0 k (p ++ a :: t) t104 (wrap64 ((p.length : Int) + 1))) (Ev.const fun k => ?_)),by omega,by omega,fun h => by omega⟩
          · rw [laws_szTyS.l0,if_pos (by simp; omega),if_pos (by omega),rdL]
          · rw [if_pos hr]
        · obtain ⟨r2,e2,ha2,hb2,hn2⟩ := iht (p ++ [a]) r1 (fun b hb => hq b (List.mem_cons_of_mem _ hb)) (by simp; omega) (by omega) (by omega)
          refine ⟨r2,Ev.step (fun k => ?_) (Ev.bind e1 (f := fun k t104 => if t104 < 0 then some (-1) else laws_szTyS.l0 k (p ++ a :: t) t104 (wrap64 ((p.length : Int) + 1))) (Ev.congr (fun k => ?_) e2)),ha2,by omega,fun h b hb => ?_⟩
          · rw [laws_szTyS.l0,if_pos (by simp; omega),if_pos (by omega),rdL]
          · rw [if_neg hr,w1 p a (by omega),app1 p t a]
          · rcases List.mem_cons.1 hb with h1 | h1
            · subst h1; exact hn (by omega)
            · exact hn2 h b h1
    intro x hx left h0 h1
    obtain ⟨_,_,hl,hq⟩ := hx
    simp only [maxLen] at hl
    have hw : wrap64 (left - (x.f2.length : Int)) = left - (x.f2.length : Int) := w64 (by omega) (by omega)
    by_cases hneg : left - (x.f2.length : Int) < 0
    · refine ⟨-1,Ev.step2 (fun k => ?_) (Ev.now _),by omega,by omega,fun h => by omega⟩
      rw [laws_szTy.f,laws_szTyS.f,hw,if_pos hneg,Option.bind_some,if_pos (by omega)]
    · obtain ⟨r,e,ha,hb,hn⟩ := loop x.f2 [] (left - (x.f2.length : Int)) hq (by simp; omega) (by omega) (by omega)
      have e' : Ev (fun k => laws_szTyS.f k x.f2 left) r := Ev.step (fun k => by rw [laws_szTyS.f,hw,if_neg hneg]; rfl) e
      by_cases hr : r < 0
      · refine ⟨-1,Ev.step (fun k => ?_) (Ev.bind e' (f := fun k t102 => if t102 < 0 then some (-1) else some t102) (Ev.const fun k => ?_)),by omega,by omega,fun h => by omega⟩
        · rw [laws_szTy.f]
        · rw [if_pos hr]
      · refine ⟨r,Ev.step (fun k => ?_) (Ev.bind e' (f := fun k t102 => if t102 < 0 then some (-1) else some t102) (Ev.const fun k => ?_)),ha,by omega,fun h => ⟨by omega,hn h⟩⟩
        · rw [laws_szTy.f]
        · rw [if_neg hr]

theorem toTy (n : Nat) : ∀ (x : TL),N1 n x → ∃ y : T,Ev (fun k => laws_toTy.f k x.f0 x.f1 x.f2) (y.f0,y.f1,y.f2) ∧ N2 n y := by
  induction n with
  | zero => intro x h; exact h.elim
  | succ n ih =>
    have loop : ∀ (l p : List TL) (q : List T),(∀ a ∈ l,N1 n a) → p.length = q.length → p.length + l.length ≤ 281474976710656 →
        ∃ r,Ev (fun k => laws_toTyS.l0 k (p ++ l) (q ++ List.replicate l.length z29) (p.length : Int)) (q ++ r) ∧ r.length = l.length ∧ ∀ a ∈ r,N2 n a := by
      intro l
      induction l with
      | nil =>
        intro p q _ hpq _
        refine ⟨[],Ev.at1 fun k => ?_,rfl,fun a h => by cases h⟩
        rw [laws_toTyS.l0,if_neg (by simp)]
        simp
      | cons a t iht =>
        intro p q hq hpq hlen
        rw [List.length_cons] at hlen
        obtain ⟨y,e1,hy⟩ := ih a (hq a List.mem_cons_self)
        obtain ⟨r,e2,hrl,hr⟩ := iht (p ++ [a]) (q ++ [y]) (fun b hb => hq b (List.mem_cons_of_mem _ hb)) (by simp [hpq]) (by simp; omega)
        refine ⟨y :: r,Ev.val (Ev.step (fun k => ?_) (Ev.bind e1 (f := fun k bt => if (p.length : Int) < ((q ++ List.replicate (a :: t).length z29).length : Int) then laws_toTyS.l0 k (p ++ a :: t) ((q ++ List.replicate (a :: t).length z29).set (p.length : Int).toNat (⟨bt.1,bt.2.1,bt.2.2⟩ : S29)) (wrap64 ((p.length : Int) + 1)) else none) (Ev.congr (fun k => ?_) e2))) (by simp),by simp [hrl],fun b hb => ?_⟩
        · rw [laws_toTyS.l0,if_pos (by simp; omega),if_pos (by omega),rdL]
        · rw [if_pos (by simp; omega),w1 p a (by omega),app1 p t a,Int.toNat_natCast,hpq]
          congr 1
          simp [List.replicate_succ]
          cases y
          rfl
        · rcases List.mem_cons.1 hb with h1 | h1
          · subst h1; exact hy
          · exact hr b h1
    intro x hx
    obtain ⟨hl,hq⟩ := hx
    obtain ⟨r,e,hrl,hr⟩ := loop x.f2 [] [] hq rfl (by simp; omega)
    have e' : Ev (fun k => laws_toTyS.f k x.f2) r := Ev.step (fun k => by rw [laws_toTyS.f,if_pos (by omega),if_pos (by rw [Int.toNat_natCast]; omega),Int.toNat_natCast]; rfl) e
    refine ⟨⟨x.f0,x.f1,r⟩,Ev.step (fun k => ?_) (Ev.bind e' (f := fun k t113 => some (x.f0,x.f1,t113)) (Ev.now _)),by show r.length ≤ 1048576; omega,hr⟩
    rw [laws_toTy.f]

theorem eqTy (n : Nat) : ∀ (y : T),N2 n y → Ev (fun k => laws_eqTy.f k y.f0 y.f1 y.f2 y.f0 y.f1 y.f2) true := by
  induction n with
  | zero => intro x h; exact h.elim
  | succ n ih =>
    have loop : ∀ (l p : List T),(∀ a ∈ l,N2 n a) → p.length + l.length ≤ 281474976710656 → Ev (fun k => laws_eqTyS.l0 k (p ++ l) (p ++ l) (p.length : Int)) true := by
      intro l
      induction l with
      | nil =>
        intro p _ _
        refine Ev.at1 fun k => ?_
        rw [laws_eqTyS.l0,if_neg (by simp)]
      | cons a t iht =>
        intro p hq hlen
        rw [List.length_cons] at hlen
        have e1 := ih a (hq a List.mem_cons_self)
        have e2 := iht (p ++ [a]) (fun b hb => hq b (List.mem_cons_of_mem _ hb)) (by simp; omega)
        refine Ev.step (fun k => ?_) (Ev.bind e1 (f := fun k t142 => if t142 = true then laws_eqTyS.l0 k (p ++ a :: t) (p ++ a :: t) (wrap64 ((p.length : Int) + 1)) else some false) (Ev.congr (fun k => ?_) e2))
        · rw [laws_eqTyS.l0,if_pos (by simp; omega),if_pos (by omega),if_pos (by simp; omega),rdT]
        · rw [if_pos rfl,w1 p a (by omega),app1 p t a]
    intro y hy
    obtain ⟨hl,hq⟩ := hy
    have e := loop y.f2 [] hq (by simp; omega)
    have e' : Ev (fun k => laws_eqTyS.f k y.f2 y.f2) true := Ev.step (fun k => by rw [laws_eqTyS.f,if_pos rfl]; rfl) e
    refine Ev.step (fun k => ?_) (Ev.bind e' (f := fun k t139 => if t139 = true then some true else some false) (Ev.const fun k => ?_))
    · rw [laws_eqTy.f,if_pos rfl,if_pos rfl]
    · rw [if_pos rfl]

theorem argsOf (a : Int) : Ev (fun k => impl_argsOf.f k a) (argsN a) := by
  refine ⟨2,fun k hk => ?_⟩
  obtain ⟨k,rfl⟩ : ∃ m,k = m + 1 + 1 := ⟨k - 2,by omega⟩
  show impl_argsOf.f (k + 1 + 1) a = _
  by_cases h0 : a = 0
  · subst h0; rfl
  by_cases h1 : a = 1
  · subst h1; rfl
  by_cases h2 : a = 2
  · subst h2; rfl
  by_cases h3 : a = 3
  · subst h3; rfl
  by_cases h4 : a = 4
  · subst h4; rfl
  by_cases h5 : a = 5
  · subst h5; rfl
  by_cases h6 : a = 6
  · subst h6; rfl
  by_cases h7 : a = 7
  · subst h7; rfl
  have g4 : (a == 4) = false := by simp [h4]
  have g7 : (a == 7) = false := by simp [h7]
  unfold impl_argsOf.f argsN
  rw [if_neg h0,if_neg h1,if_neg h2,g7,impl_argsOf.j0,if_neg (by decide),if_neg h3,g4,impl_argsOf.j1,if_neg (by decide),if_neg h5,if_neg h6,if_neg (by omega),if_neg (by omega),if_neg h5,if_neg h6]

theorem headOk_j (t : T) (k : Nat) : impl_headOk.j0 (k + 1) false t.f0 t.f1 t.f2 = some (numB t.f0 t.f1) ∧ impl_headOk.j0 (k + 1) true t.f0 t.f1 t.f2 = some false := by
  constructor
  · rw [impl_headOk.j0,if_neg (by decide)]
    unfold numB
    by_cases h6 : t.f0 = 6
    · rw [if_pos h6,if_pos h6,within,Option.bind_some]
    · rw [if_neg h6,if_neg h6]
      by_cases h7 : t.f0 = 7
      · rw [if_pos h7,if_pos h7,within,Option.bind_some]
      · rw [if_neg h7,if_neg h7]
        rfl
  · rw [impl_headOk.j0,if_pos rfl]

theorem headOk (t : T) : Ev (fun k => impl_headOk.f k t.f0 t.f1 t.f2) (headB t) := by
  obtain ⟨K,h⟩ := argsOf t.f0
  refine ⟨K + 1,fun k hk => ?_⟩
  obtain ⟨k,rfl⟩ : ∃ m,k = m + 1 := ⟨k - 1,by omega⟩
  show impl_headOk.f (k + 1) t.f0 t.f1 t.f2 = _
  have h' := h (k + 1) (by omega)
  dsimp only at h'
  obtain ⟨j1,j2⟩ := headOk_j t k
  rw [impl_headOk.f,h',Option.bind_some]
  unfold headB manyB
  by_cases c : argsN t.f0 = -1
  · rw [if_pos c,if_pos c]
    by_cases c2 : (t.f2.length : Int) > 3
    · rw [if_pos c2,j2,decide_eq_false (by omega)]
      rfl
    · rw [if_neg c2,j1,decide_eq_true (by omega)]
      simp
  · rw [if_neg c,if_neg c]
    by_cases c2 : argsN t.f0 = (t.f2.length : Int)
    · have : (argsN t.f0 != (t.f2.length : Int)) = false := by simp [c2]
      rw [this,j1,decide_eq_true c2]
      simp
    · have : (argsN t.f0 != (t.f2.length : Int)) = true := by simp [c2]
      rw [this,j2,decide_eq_false c2]
      rfl

theorem impl_measure (d : Nat) : ∀ (t : T) (a : Int),a + d = 11 → 1 ≤ a → Ev (fun k => impl_measure.f k t.f0 t.f1 t.f2 a) (meas d t) := by
  induction d with
  | zero =>
    intro t a ha _
    refine Ev.at2 fun k => ?_
    rw [impl_measure.f,if_pos (by omega),impl_measure.j0,if_pos rfl]
    rfl
  | succ d ih =>
    have loop : ∀ (a : Int),a + (d + 1 : Nat) = 11 → 1 ≤ a → ∀ (l p : List T) (s : Int),p.length + l.length ≤ 281474976710656 → 1 ≤ s → s ≤ 60 →
        Ev (fun k => impl_measure.l0 k a s (p ++ l) ((p ++ l).length : Int) (p.length : Int)) (measL (meas d) l s) := by
      intro a ha ha1 l
      induction l with
      | nil =>
        intro p s _ _ _
        refine Ev.at1 fun k => ?_
        rw [impl_measure.l0,if_neg (by simp)]
        rfl
      | cons b t iht =>
        intro p s hlen hs0 hs1
        rw [List.length_cons] at hlen
        have e1 := ih b (a + 1) (by omega) (by omega)
        have hb := meas_le d b
        have hw : wrap64 (s + meas d b) = s + meas d b := w64 (by omega) (by omega)
        have hwa : wrap64 (a + 1) = a + 1 := w64 (by omega) (by omega)
        unfold measL
        by_cases c : s + meas d b > 60
        · rw [if_pos c]
          refine Ev.step (fun k => ?_) (Ev.bind e1 (f := fun k x => if wrap64 (s + x) > 60 then some 61 else impl_measure.l0 k a (wrap64 (s + x)) (p ++ b :: t) ((p ++ b :: t).length : Int) (wrap64 ((p.length : Int) + 1))) (Ev.const fun k => ?_))
          · rw [impl_measure.l0,if_pos (by simp; omega),if_pos (by omega),if_pos (by simp; omega),rdT,hwa]
          · rw [hw,if_pos c]
        · rw [if_neg c]
          refine Ev.step (fun k => ?_) (Ev.bind e1 (f := fun k x => if wrap64 (s + x) > 60 then some 61 else impl_measure.l0 k a (wrap64 (s + x)) (p ++ b :: t) ((p ++ b :: t).length : Int) (wrap64 ((p.length : Int) + 1))) (Ev.congr (fun k => ?_) (iht (p ++ [b]) (s + meas d b) (by simp; omega) (by omega) (by omega))))
          · rw [impl_measure.l0,if_pos (by simp; omega),if_pos (by omega),if_pos (by simp; omega),rdT,hwa]
          · rw [hw,if_neg c,w1 p b (by omega),app1 p t b]
    intro t a ha ha1
    obtain ⟨K,h⟩ := headOk t
    by_cases c : headB t = true
    · have hl := headB_len c
      obtain ⟨K2,e⟩ := loop a ha ha1 t.f2 [] 1 (by simp; omega) (by omega) (by omega)
      refine ⟨K + K2 + 2,fun k hk => ?_⟩
      obtain ⟨k,rfl⟩ : ∃ m,k = m + 1 + 1 := ⟨k - 2,by omega⟩
      have h' := h (k + 1) (by omega)
      have e' := e k (by omega)
      dsimp only [List.nil_append,List.length_nil] at h' e'
      show impl_measure.f (k + 1 + 1) t.f0 t.f1 t.f2 a = _
      rw [impl_measure.f,if_neg (by omega),h',Option.bind_some,c,impl_measure.j0,if_neg (by decide),meas,if_pos c]
      exact e'
    · refine ⟨K + 2,fun k hk => ?_⟩
      obtain ⟨k,rfl⟩ : ∃ m,k = m + 1 + 1 := ⟨k - 2,by omega⟩
      have h' := h (k + 1) (by omega)
      dsimp only at h'
      show impl_measure.f (k + 1 + 1) t.f0 t.f1 t.f2 a = _
      have c' : headB t = false := by simpa using c
      rw [impl_measure.f,if_neg (by omega),h',Option.bind_some,c',impl_measure.j0,if_pos (by decide),meas,if_neg (by rw [c']; decide)]

section
variable (t : T) (a r : Int)

theorem l3ok_j3 (b : Bool) (hL : b = false → Ev (fun k => spec_l3ok.l0 k a 1 0 t.f0 t.f1 t.f2) r) (hr : b = true → r = -1) : Ev (fun k => spec_l3ok.j3 k a b t.f0 t.f1 t.f2) r := by
  cases b with
  | true =>
    rw [hr rfl]
    refine Ev.at1 fun k => ?_
    rw [spec_l3ok.j3,if_pos rfl]
  | false =>
    refine Ev.step (fun k => ?_) (hL rfl)
    rw [spec_l3ok.j3,if_neg (by decide)]

theorem l3ok_j2 (want most : Int) (hL : (t.f2.length : Int) = want → 0 ≤ t.f1 → t.f1 ≤ most → Ev (fun k => spec_l3ok.l0 k a 1 0 t.f0 t.f1 t.f2) r) (hr : ¬ ((t.f2.length : Int) = want ∧ 0 ≤ t.f1 ∧ t.f1 ≤ most) → r = -1) :
    Ev (fun k => spec_l3ok.j2 k a want most t.f0 t.f1 t.f2) r := by
  by_cases c1 : (t.f2.length : Int) = want
  · by_cases c2 : t.f1 < 0
    · refine Ev.step (fun k => ?_) (l3ok_j3 t a r true (fun h => by cases h) (fun _ => hr (by omega)))
      rw [spec_l3ok.j2,if_pos c1,if_pos c2]
    · refine Ev.step (fun k => ?_) (l3ok_j3 t a r (decide (t.f1 > most)) (fun h => hL c1 (by omega) (by simpa using h)) (fun h => hr (by have := of_decide_eq_true h; omega)))
      rw [spec_l3ok.j2,if_pos c1,if_neg c2]
  · refine Ev.step (fun k => ?_) (l3ok_j3 t a r true (fun h => by cases h) (fun _ => hr (fun h => c1 h.1)))
    rw [spec_l3ok.j2,if_neg c1]

theorem l3ok_head (ha : ¬ a > 10) (hL : headB t = true → Ev (fun k => spec_l3ok.l0 k a 1 0 t.f0 t.f1 t.f2) r) (hr : headB t = false → r = -1) : Ev (fun k => spec_l3ok.f k t.f0 t.f1 t.f2 a) r := by
  have hf : ∀ k,spec_l3ok.f (k + 1) t.f0 t.f1 t.f2 a = if t.f0 = 0 then (spec_l3ok.j0 k a 0 0 t.f0 (t.f0 == 0) t.f0 t.f1 t.f2) else (if t.f0 = 1 then (spec_l3ok.j0 k a 0 0 t.f0 (t.f0 == 1) t.f0 t.f1 t.f2) else (spec_l3ok.j0 k a 0 0 t.f0 (t.f0 == 2) t.f0 t.f1 t.f2)) := fun k => by rw [spec_l3ok.f,if_neg ha]
  obtain ⟨x,y,l⟩ := t
  have go : ∀ want most : Int,(headB ⟨x,y,l⟩ = decide ((l.length : Int) = want ∧ 0 ≤ y ∧ y ≤ most)) → Ev (fun k => spec_l3ok.j2 k a want most x y l) r := fun want most h =>
    l3ok_j2 ⟨x,y,l⟩ a r want most (fun h1 h2 h3 => hL (by rw [h]; exact decide_eq_true ⟨h1,h2,h3⟩)) (fun h1 => hr (by rw [h]; exact decide_eq_false h1))
  by_cases h0 : x = 0
  · subst h0
    refine Ev.step2 (fun k => by rw [hf]; rfl) (go 0 0 ?_)
    have e : headB ⟨0,y,l⟩ = (decide ((0 : Int) = l.length) && decide (y = 0)) := rfl
    rw [e,← Bool.decide_and]
    exact decide_eq_decide.2 (by omega)
  by_cases h1 : x = 1
  · subst h1
    refine Ev.step2 (fun k => by rw [hf]; rfl) (go 0 0 ?_)
    have e : headB ⟨1,y,l⟩ = (decide ((0 : Int) = l.length) && decide (y = 0)) := rfl
    rw [e,← Bool.decide_and]
    exact decide_eq_decide.2 (by omega)
  by_cases h2 : x = 2
  · subst h2
    refine Ev.step2 (fun k => by rw [hf]; rfl) (go 0 0 ?_)
    have e : headB ⟨2,y,l⟩ = (decide ((0 : Int) = l.length) && decide (y = 0)) := rfl
    rw [e,← Bool.decide_and]
    exact decide_eq_decide.2 (by omega)
  by_cases h3 : x = 3
  · subst h3
    refine Ev.step2 (fun k => by rw [hf]) (Ev.step (f := fun k => spec_l3ok.j2 k a 2 0 3 y l) (fun k => rfl) (go 2 0 ?_))
    have e : headB ⟨3,y,l⟩ = (decide ((2 : Int) = l.length) && decide (y = 0)) := rfl
    rw [e,← Bool.decide_and]
    exact decide_eq_decide.2 (by omega)
  by_cases h4 : x = 4
  · subst h4
    refine Ev.step2 (fun k => by rw [hf]) (Ev.step (f := fun k => spec_l3ok.j2 k a 2 0 4 y l) (fun k => rfl) (go 2 0 ?_))
    have e : headB ⟨4,y,l⟩ = (decide ((2 : Int) = l.length) && decide (y = 0)) := rfl
    rw [e,← Bool.decide_and]
    exact decide_eq_decide.2 (by omega)
  by_cases h5 : x = 5
  · subst h5
    refine Ev.step2 (fun k => by rw [hf]) (Ev.step (f := fun k => spec_l3ok.j2 k a 1 0 5 y l) (fun k => rfl) (go 1 0 ?_))
    have e : headB ⟨5,y,l⟩ = (decide ((1 : Int) = l.length) && decide (y = 0)) := rfl
    rw [e,← Bool.decide_and]
    exact decide_eq_decide.2 (by omega)
  by_cases h6 : x = 6
  · subst h6
    have e : headB ⟨6,y,l⟩ = (decide (l.length ≤ 3) && decide (0 ≤ y ∧ y ≤ 19)) := rfl
    by_cases hl : (l.length : Int) > 3
    · have hb : headB ⟨6,y,l⟩ = false := by rw [e,decide_eq_false (by omega)]; rfl
      rw [hr hb]
      refine Ev.step2 (f := fun k => spec_l3ok.j1 k a 0 0 6 false 6 y l) (fun k => by rw [hf]; rfl) (Ev.at1 fun k => ?_)
      rw [spec_l3ok.j1,if_neg (by decide),if_neg (by decide),if_pos rfl,if_pos hl]
    · refine Ev.step2 (f := fun k => spec_l3ok.j1 k a 0 0 6 false 6 y l) (fun k => by rw [hf]; rfl) (Ev.step (f := fun k => spec_l3ok.j2 k a (l.length : Int) 19 6 y l) (fun k => ?_) (go (l.length : Int) 19 ?_))
      · rw [spec_l3ok.j1,if_neg (by decide),if_neg (by decide),if_pos rfl,if_neg hl]
      · rw [e,← Bool.decide_and]
        exact decide_eq_decide.2 (by omega)
  by_cases h7 : x = 7
  · subst h7
    refine Ev.step2 (fun k => by rw [hf]) (Ev.step (f := fun k => spec_l3ok.j2 k a 0 99999 7 y l) (fun k => rfl) (go 0 99999 ?_))
    have e : headB ⟨7,y,l⟩ = (decide ((0 : Int) = l.length) && decide (0 ≤ y ∧ y ≤ 99999)) := rfl
    rw [e,← Bool.decide_and]
    exact decide_eq_decide.2 (by omega)
  · have ha2 : argsN x = -2 := by
      unfold argsN
      rw [if_neg (by omega),if_neg (by omega),if_neg h5,if_neg h6]
    have hb : headB ⟨x,y,l⟩ = false := by
      unfold headB manyB
      simp only [ha2]
      rw [if_neg (by decide),decide_eq_false (by omega)]
      rfl
    rw [hr hb]
    refine Ev.step2 (f := fun k => spec_l3ok.j1 k a 0 0 x false x y l) (fun k => ?_) (Ev.at1 fun k => ?_)
    · have g2 : (x == 2) = false := by simp [h2]
      have g4 : (x == 4) = false := by simp [h4]
      rw [hf,if_neg h0,if_neg h1,g2,spec_l3ok.j0,if_neg (by decide),if_neg h3,g4]
    · rw [spec_l3ok.j1,if_neg (by decide),if_neg h5,if_neg h6,if_neg h7]
end

def sized (m : Int) : Int := if m ≤ 60 then m else -1

theorem spec_l3ok (d : Nat) : ∀ (t : T) (a : Int),a + d = 11 → 1 ≤ a → Ev (fun k => spec_l3ok.f k t.f0 t.f1 t.f2 a) (sized (meas d t)) := by
  induction d with
  | zero =>
    intro t a ha _
    refine Ev.at1 fun k => ?_
    rw [spec_l3ok.f,if_pos (by omega)]
    rfl
  | succ d ih =>
    intro t a ha ha1
    have loop : ∀ (l p : List T) (s x y : Int),p.length + l.length ≤ 281474976710656 → 1 ≤ s → s ≤ 60 → Ev (fun k => spec_l3ok.l0 k a s (p.length : Int) x y (p ++ l)) (sized (measL (meas d) l s)) := by
      intro l
      induction l with
      | nil =>
        intro p s x y _ h0 h1
        refine Ev.at1 fun k => ?_
        rw [spec_l3ok.l0,if_neg (by simp),measL,sized,if_pos h1]
      | cons b t iht =>
        intro p s x y hlen hs0 hs1
        rw [List.length_cons] at hlen
        have e1 := ih b (a + 1) (by omega) (by omega)
        have hb := meas_le d b
        have hwa : wrap64 (a + 1) = a + 1 := w64 (by omega) (by omega)
        have hstep : ∀ k,spec_l3ok.l0 (k + 1) a s (p.length : Int) x y (p ++ b :: t) = (spec_l3ok.f k b.f0 b.f1 b.f2 (a + 1)).bind fun v => if v < 0 then some (-1) else if wrap64 (s + v) > 60 then some (-1) else spec_l3ok.l0 k a (wrap64 (s + v)) (wrap64 ((p.length : Int) + 1)) x y (p ++ b :: t) := fun k => by
          rw [spec_l3ok.l0,if_pos (by simp; omega),if_pos (by omega),rdT,hwa]
        by_cases c0 : meas d b ≤ 60
        · have hs : sized (meas d b) = meas d b := by rw [sized,if_pos c0]
          have hw : wrap64 (s + meas d b) = s + meas d b := w64 (by omega) (by omega)
          rw [hs] at e1
          unfold measL
          by_cases c : s + meas d b > 60
          · rw [if_pos c]
            refine Ev.step hstep (Ev.bind e1 (Ev.const fun k => ?_))
            rw [if_neg (by omega),hw,if_pos c]
            rfl
          · rw [if_neg c]
            refine Ev.step hstep (Ev.bind e1 (Ev.congr (fun k => ?_) (iht (p ++ [b]) (s + meas d b) x y (by simp; omega) (by omega) (by omega))))
            rw [if_neg (by omega),hw,if_neg c,w1 p b (by omega),app1 p t b]
        · have hs : sized (meas d b) = -1 := by rw [sized,if_neg c0]
          rw [hs] at e1
          have hm : measL (meas d) (b :: t) s = 61 := by rw [measL,if_pos (by omega)]
          rw [hm]
          refine Ev.step hstep (Ev.bind e1 (Ev.const fun k => ?_))
          rw [if_pos (by decide)]
          rfl
    refine l3ok_head t a _ (by omega) (fun h => ?_) (fun h => ?_)
    · have hl := headB_len h
      rw [meas,if_pos h]
      exact loop t.f2 [] 1 t.f0 t.f1 (by simp; omega) (by omega) (by omega)
    · rw [meas,if_neg (by rw [h]; decide)]
      rfl

theorem impl_TyOk (t : T) : Ev (fun k => impl_TyOk.f k t.f0 t.f1 t.f2) (TyOk t) := by
  refine Ev.congr (fun k => ?_) (Ev.bind (impl_measure 10 t 1 (by omega) (by omega)) (f := fun k x => some (decide (x ≤ 60))) (Ev.now _))
  rw [impl_TyOk.f]

theorem spec_TyOk (t : T) : Ev (fun k => spec_TyOk.f k t.f0 t.f1 t.f2) (TyOk t) := by
  have hm := meas_le 10 t
  refine Ev.congr (fun k => ?_) (Ev.bind (spec_l3ok 10 t 1 (by omega) (by omega)) (f := fun k x => some (decide (x > 0))) (Ev.const fun k => ?_))
  · rw [spec_TyOk.f]
  · unfold TyOk sized
    by_cases c : meas 10 t ≤ 60
    · rw [if_pos c,decide_eq_true c,decide_eq_true (by omega)]
    · rw [if_neg c,decide_eq_false c]
      rfl

/-- What all laws on one type begin with. -/
theorem tyStart (x : TL) (hx : W24 x) : (∃ r,Ev (fun k => laws_szTy.f k x.f0 x.f1 x.f2 1048576) r ∧ r < 0) ∨
    ∃ r n y,Ev (fun k => laws_szTy.f k x.f0 x.f1 x.f2 1048576) r ∧ ¬ r < 0 ∧ r ≤ 1048576 ∧ Ev (fun k => laws_toTy.f k x.f0 x.f1 x.f2) (y.f0,y.f1,y.f2) ∧ N2 n y ∧ Ev (fun k => laws_eqTy.f k y.f0 y.f1 y.f2 y.f0 y.f1 y.f2) true := by
  obtain ⟨n,hx⟩ := hx
  obtain ⟨r,e,_,h2,h3⟩ := szTy n x hx 1048576 (by omega) (by omega)
  by_cases c : r < 0
  · exact .inl ⟨r,e,c⟩
  · obtain ⟨y,ey,hy⟩ := toTy n x (h3 (by omega))
    exact .inr ⟨r,n,y,e,c,h2,ey,hy,eqTy n y hy⟩

end Go.Proofs.Ytbifoajnmikhiaa.E

/- What the functions on bytes come to: the program's and the reference's PutNum,PutText,GetText; the laws' marks. -/
namespace Go.Proofs.Ytbifoajnmikhiaa.E
open Go Go.RowKit Go.Proofs.Ytbifoajnmikhiaa.PE Go.Proofs.Ytbifoajnmikhiaa.M Go.Proofs.YtbifoajnmikhiaaW.PrintWords Go.Proofs.YtbifoajnmikhiaaW.PrintLast Go.Proofs.YtbifoajnmikhiaaW.PrintMore

theorem eqB {a : List Int} (hb : a.length ≤ 281474976710656) : Ev (fun k => laws_eqByteS.f k a a) true := Ev.val (eqByteS hb) (by simp)

theorem clone {l : List Int} (h : l.length < 140737488355328) : slices_Clone_byte_byte.f l = some l := by
  unfold slices_Clone_byte_byte.f
  simp only [Option.bind_some,List.length_nil,Nat.zero_add,List.nil_append]
  rw [if_pos h]

theorem impl_PutNum_l (d : Nat) : ∀ (n : Int) (x : List Int),0 ≤ n → n < 128 ^ (d + 1) → n < 9223372036854775808 → x.length + d < 140737488355328 → Ev (fun k => impl_PutNum.l0 k n x) (x ++ pnl d n) := by
  induction d with
  | zero =>
    intro n x h0 h1 h3 hx
    refine Ev.at1 fun k => ?_
    rw [impl_PutNum.l0,if_neg (by omega),if_pos (by omega)]
    rfl
  | succ d ih =>
    intro n x h0 h1 h3 hx
    rw [Int.pow_succ] at h1
    by_cases h : n ≥ 128
    · have hm : (Int.tmod n 128) % 256 = n % 128 := by rw [Int.tmod_eq_emod_of_nonneg h0]; omega
      have e : pnl (d + 1) n = (128 + n % 128) :: pnl d (n / 128) := by rw [pnl,if_pos (by omega)]
      refine Ev.val (Ev.step (fun k => ?_) (ih (n / 128) (x ++ [128 + n % 128]) (by omega) (by omega) (by omega) (by simp only [List.length_append,List.length_cons,List.length_nil]; omega))) ?_
      · rw [impl_PutNum.l0,if_pos h,if_pos (by omega),hm,or128 (by omega) (by omega)]
      · rw [e,List.append_assoc]; rfl
    · have e : pnl (d + 1) n = [n] := by rw [pnl,if_neg (by omega)]
      have hn : n % 256 = n := by omega
      refine Ev.at1 fun k => ?_
      rw [impl_PutNum.l0,if_neg h,if_pos (by omega),hn,e]

theorem spec_PutNum_l (d : Nat) : ∀ (n : Int) (x : List Int),0 ≤ n → n < 128 ^ (d + 1) → n < 9223372036854775808 → x.length + d < 140737488355328 → Ev (fun k => spec_PutNum.l0 k n x) (x ++ pnl d n) := by
  induction d with
  | zero =>
    intro n x h0 h1 h3 hx
    refine Ev.at1 fun k => ?_
    rw [spec_PutNum.l0,if_neg (by omega),if_pos (by omega)]
    rfl
  | succ d ih =>
    intro n x h0 h1 h3 hx
    rw [Int.pow_succ] at h1
    by_cases h : n > 127
    · have hm : wrap64 (128 + Int.tmod n 128) % 256 = 128 + n % 128 := by rw [Int.tmod_eq_emod_of_nonneg h0,w64 (by omega) (by omega)]; omega
      have hq : wrap64 (Int.tdiv n 128) = n / 128 := by rw [Int.tdiv_eq_ediv_of_nonneg h0]; exact w64 (by omega) (by omega)
      have e : pnl (d + 1) n = (128 + n % 128) :: pnl d (n / 128) := by rw [pnl,if_pos (by omega)]
      refine Ev.val (Ev.step (fun k => ?_) (ih (n / 128) (x ++ [128 + n % 128]) (by omega) (by omega) (by omega) (by simp only [List.length_append,List.length_cons,List.length_nil]; omega))) ?_
      · rw [spec_PutNum.l0,if_pos h,if_pos (by omega),hm,hq]
      · rw [e,List.append_assoc]; rfl
    · have e : pnl (d + 1) n = [n] := by rw [pnl,if_neg (by omega)]
      have hn : n % 256 = n := by omega
      refine Ev.at1 fun k => ?_
      rw [spec_PutNum.l0,if_neg h,if_pos (by omega),hn,e]

theorem impl_PutNum {l : List Int} (n : Int) (hl : l.length + 4 < 140737488355328) : Ev (fun k => impl_PutNum.f k l n) (putNum l n) := by
  unfold putNum
  by_cases h : 0 ≤ n ∧ n ≤ 2147483647
  · rw [if_pos h]
    refine Ev.congr (fun k => ?_) (impl_PutNum_l 4 n l h.1 (by omega) (by omega) (by omega))
    rw [impl_PutNum.f,clone (by omega),Option.bind_some,within_in h.1 h.2,Option.bind_some,if_pos rfl]
  · rw [if_neg h]
    refine Ev.const fun k => ?_
    rw [impl_PutNum.f,clone (by omega),Option.bind_some,within_out h,Option.bind_some,if_neg (by decide)]

theorem spec_PutNum {l : List Int} (n : Int) (hl : l.length + 4 < 140737488355328) : Ev (fun k => spec_PutNum.f k l n) (putNum l n) := by
  unfold putNum
  by_cases h0 : n < 0
  · rw [if_neg (by omega)]
    refine Ev.at1 fun k => ?_
    simp only [spec_PutNum.f,Option.bind_some,List.length_nil,Nat.zero_add,List.nil_append]
    rw [if_pos (by omega),if_pos h0]
    rfl
  · by_cases h1 : n > 2147483647
    · rw [if_neg (by omega)]
      refine Ev.at1 fun k => ?_
      simp only [spec_PutNum.f,Option.bind_some,List.length_nil,Nat.zero_add,List.nil_append]
      rw [if_pos (by omega),if_neg h0,decide_eq_true h1]
      rfl
    · rw [if_pos (by omega)]
      refine Ev.step (fun k => ?_) (spec_PutNum_l 4 n l (by omega) (by omega) (by omega) (by omega))
      simp only [spec_PutNum.f,Option.bind_some,List.length_nil,Nat.zero_add,List.nil_append]
      rw [if_pos (by omega),if_neg h0,decide_eq_false h1]
      simp only [spec_PutNum.j0]
      rw [if_neg (by decide)]

def marks : Nat → Int → List Int
  | 0,_ => []
  | n + 1,a => a % 256 :: marks n (a + 1)
theorem marks_len (n : Nat) : ∀ a,(marks n a).length = n := by
  induction n with
  | zero => intro a; rfl
  | succ n ih => intro a; simp [marks,ih]

theorem markB_l (l : List Int) : ∀ (p : List Int) (a : Int),p.length + l.length ≤ 281474976710656 → -281474976710656 ≤ a → a + l.length ≤ 9223372036854775807 →
    Ev (fun k => laws_markByteS.l0 k (p ++ l) a (p.length : Int)) (a + l.length,p ++ marks l.length a) := by
  induction l with
  | nil =>
    intro p a hp h0 h1
    refine Ev.at1 fun k => ?_
    rw [laws_markByteS.l0,if_neg (by simp)]
    simp [marks]
  | cons c l ih =>
    intro p a hp h0 h1
    rw [List.length_cons] at hp h1
    have := ih (p ++ [a % 256]) (a + 1) (by simp; omega) (by omega) (by omega)
    have e1 : (p ++ c :: l).set p.length (a % 256) = p ++ [a % 256] ++ l := by simp
    have e2 : wrap64 (a + 1) = a + 1 := w64 (by omega) (by omega)
    have e3 : wrap64 ((p.length : Int) + 1) = ((p ++ [a % 256]).length : Int) := by rw [w64 (by omega) (by omega)]; simp
    refine Ev.val (Ev.step (fun k => ?_) this) ?_
    · rw [laws_markByteS.l0,if_pos (by simp; omega),if_pos (by omega),Int.toNat_natCast,e1,e2,e3]
    · simp only [marks,List.length_cons,List.append_assoc,List.singleton_append,Prod.mk.injEq,and_true]
      omega

theorem markB {l : List Int} {a : Int} (hl : l.length ≤ 281474976710656) (h0 : -281474976710656 ≤ a) (h1 : a + l.length ≤ 9223372036854775807) : Ev (fun k => laws_markByteS.f k l a) (a + l.length,marks l.length a) := by
  exact Ev.congr (f := fun k => laws_markByteS.l0 k l a 0) (fun k => rfl) (by simpa using markB_l l [] a (by simpa using hl) h0 h1)

theorem heldB_l (n : Nat) : ∀ (p : List Int) (a : Int),p.length + n ≤ 281474976710656 → -281474976710656 ≤ a → a + n ≤ 9223372036854775807 →
    Ev (fun k => laws_heldByteS.l0 k (p ++ marks n a) a (p.length : Int)) (a + n) := by
  induction n with
  | zero =>
    intro p a hp h0 h1
    refine Ev.at1 fun k => ?_
    rw [laws_heldByteS.l0,if_neg (by simp [marks])]
    simp
  | succ n ih =>
    intro p a hp h0 h1
    have := ih (p ++ [a % 256]) (a + 1) (by simp; omega) (by omega) (by omega)
    have e0 : p ++ marks (n + 1) a = p ++ [a % 256] ++ marks n (a + 1) := by simp [marks]
    have e1 : rd (p ++ marks (n + 1) a) (p.length : Int) = a % 256 := by simp [rd,marks]
    have e2 : wrap64 (a + 1) = a + 1 := w64 (by omega) (by omega)
    have e3 : wrap64 ((p.length : Int) + 1) = ((p ++ [a % 256]).length : Int) := by rw [w64 (by omega) (by omega)]; simp
    refine Ev.val (Ev.step (fun k => ?_) this) ?_
    · rw [laws_heldByteS.l0,if_pos (by simp [marks,marks_len]; omega),if_pos (by omega),e1,if_pos rfl,e2,e3,e0]
    · omega

theorem heldB {n : Nat} {a : Int} (hl : n ≤ 281474976710656) (h0 : -281474976710656 ≤ a) (h1 : a + n ≤ 9223372036854775807) : Ev (fun k => laws_heldByteS.f k (marks n a) a) (a + n) := by
  exact Ev.congr (f := fun k => laws_heldByteS.l0 k (marks n a) a 0) (fun k => rfl) (by simpa using heldB_l n [] a (by simpa using hl) h0 h1)

end Go.Proofs.Ytbifoajnmikhiaa.E

/- Marks on trees: each part's numbers are told anew,and are held. -/
namespace Go.Proofs.Ytbifoajnmikhiaa.E
open Go Go.RowKit Go.Proofs.Ytbifoajnmikhiaa.PE Go.Proofs.Ytbifoajnmikhiaa.M Go.Proofs.YtbifoajnmikhiaaW.PrintWords Go.Proofs.YtbifoajnmikhiaaW.PrintLast Go.Proofs.YtbifoajnmikhiaaW.PrintMore

/-- How many parts a list of trees has. -/
def cl : Nat → List T → Nat
  | 0,_ => 0
  | n + 1,l => (l.map (fun a => 1 + cl n a.f2)).sum

theorem markS (n : Nat) : ∀ (l : List T) (x : Int),(∀ a ∈ l,N2 n a) → l.length ≤ 281474976710656 → 0 ≤ x → x + 2 * (cl n l : Int) ≤ 4611686018427387904 →
    ∃ l',Ev (fun k => laws_markTyS.l0 k l x 0) (x + 2 * (cl n l : Int),l') ∧ Ev (fun k => laws_heldTyS.f k l' x) (x + 2 * (cl n l : Int)) := by
  induction n with
  | zero =>
    intro l x hl _ _ _
    obtain rfl : l = [] := by
      cases l with
      | nil => rfl
      | cons a t => exact (hl a List.mem_cons_self).elim
    refine ⟨[],Ev.at1 fun k => ?_,Ev.at2 fun k => ?_⟩
    · rw [laws_markTyS.l0,if_neg (by simp)]
      simp [cl]
    · rw [laws_heldTyS.f,laws_heldTyS.l0,if_neg (by simp)]
      simp [cl]
  | succ n ih =>
    have loop : ∀ (l p : List T) (x : Int),(∀ a ∈ l,N2 (n + 1) a) → p.length + l.length ≤ 281474976710656 → 0 ≤ x → x + 2 * (cl (n + 1) l : Int) ≤ 4611686018427387904 →
        ∃ l',Ev (fun k => laws_markTyS.l0 k (p ++ l) x (p.length : Int)) (x + 2 * (cl (n + 1) l : Int),p ++ l') ∧ Ev (fun k => laws_heldTyS.l0 k (p ++ l') x (p.length : Int)) (x + 2 * (cl (n + 1) l : Int)) := by
      intro l
      induction l with
      | nil =>
        intro p x _ _ _ _
        refine ⟨[],Ev.at1 fun k => ?_,Ev.at1 fun k => ?_⟩
        · rw [laws_markTyS.l0,if_neg (by simp)]
          simp [cl]
        · rw [laws_heldTyS.l0,if_neg (by simp)]
          simp [cl]
      | cons a t iht =>
        intro p x hq hp h0 h1
        rw [List.length_cons] at hp
        have hcl : cl (n + 1) (a :: t) = 1 + cl n a.f2 + cl (n + 1) t := by simp [cl]
        rw [hcl] at h1
        obtain ⟨hla,hqa⟩ := hq a List.mem_cons_self
        obtain ⟨l1,m1,e1⟩ := ih a.f2 (x + 2) hqa (by omega) (by omega) (by omega)
        obtain ⟨l2,m2,e2⟩ := iht (p ++ [⟨x,x + 1,l1⟩]) (x + 2 + 2 * (cl n a.f2 : Int)) (fun b hb => hq b (List.mem_cons_of_mem _ hb)) (by simp; omega) (by omega) (by omega)
        have hw1 : wrap64 (x + 1) = x + 1 := w64 (by omega) (by omega)
        have hw2 : wrap64 (x + 1 + 1) = x + 2 := by rw [w64 (by omega) (by omega)]; omega
        have hp1 : wrap64 ((p.length : Int) + 1) = ((p ++ [(⟨x,x + 1,l1⟩ : T)]).length : Int) := by rw [w64 (by omega) (by omega)]; simp
        have hs : ∀ (b c : T),(p ++ b :: t).set p.length c = p ++ c :: t := fun b c => by simp
        have hfin : x + 2 + 2 * (cl n a.f2 : Int) + 2 * (cl (n + 1) t : Int) = x + 2 * (cl (n + 1) (a :: t) : Int) := by rw [hcl]; omega
        refine ⟨⟨x,x + 1,l1⟩ :: l2,?_,?_⟩
        · refine Ev.val (Ev.step (fun k => ?_) (Ev.bind m1 (f := fun k t116 => laws_markTyS.l0 k (p ++ [⟨x,x + 1,t116.2⟩] ++ t) t116.1 ((p ++ [(⟨x,x + 1,l1⟩ : T)]).length : Int)) m2)) ?_
          · rw [laws_markTyS.l0,if_pos (by simp; omega),if_pos (by omega),Option.bind_some,Option.bind_some]
            simp only [Int.toNat_natCast,hs,rdT,hw1,hw2,hp1,List.append_assoc,List.singleton_append]
          · rw [hfin]; simp
        · have e3 := e2
          rw [List.append_assoc,List.singleton_append] at e3
          refine Ev.val (Ev.step (fun k => ?_) (Ev.bind e1 (f := fun k t112 => if t112 < 0 then some (-1) else laws_heldTyS.l0 k (p ++ ⟨x,x + 1,l1⟩ :: l2) t112 ((p ++ [(⟨x,x + 1,l1⟩ : T)]).length : Int)) (Ev.congr (fun k => ?_) e3))) hfin
          · rw [laws_heldTyS.l0,if_pos (by simp; omega),if_pos (by omega),rdT]
            simp only [hw1,hw2,hp1,↓reduceIte]
          · rw [if_neg (by omega)]
    intro l x hl hlen h0 h1
    obtain ⟨l',e1,e2⟩ := loop l [] x hl (by simpa using hlen) h0 h1
    exact ⟨l',e1,Ev.step (fun k => by rw [laws_heldTyS.f]; rfl) e2⟩

theorem markT (n : Nat) (y : T) (x : Int) (h : N2 (n + 1) y) (h0 : 0 ≤ x) (h1 : x + 2 * (cl n y.f2 : Int) ≤ 4611686018427387904) :
    ∃ m l',0 ≤ m ∧ Ev (fun k => laws_markTy.f k y.f0 y.f1 y.f2 x) (m,l') ∧ Ev (fun k => laws_heldTy.f k y.f0 y.f1 l' x) m := by
  obtain ⟨l',e1,e2⟩ := markS n y.f2 x h.2 (by have := h.1; omega) h0 h1
  refine ⟨x + 2 * (cl n y.f2 : Int),l',by omega,?_,?_⟩
  · exact Ev.congr (fun k => by rw [laws_markTy.f,laws_markTyS.f]) (Ev.bind e1 (f := fun _ t118 => some (t118.1,t118.2)) (Ev.now _))
  · exact Ev.congr (fun k => by rw [laws_heldTy.f]) (Ev.bind e2 (f := fun _ t => if t < 0 then some (-1) else some t) (Ev.const fun k => by rw [if_neg (by omega)]))

end Go.Proofs.Ytbifoajnmikhiaa.E

/- Copies of trees,with how many parts they have. -/
namespace Go.Proofs.Ytbifoajnmikhiaa.E
open Go Go.RowKit Go.Proofs.Ytbifoajnmikhiaa.PE Go.Proofs.Ytbifoajnmikhiaa.M Go.Proofs.YtbifoajnmikhiaaW.PrintWords Go.Proofs.YtbifoajnmikhiaaW.PrintLast Go.Proofs.YtbifoajnmikhiaaW.PrintMore

def c1 : Nat → List TL → Nat
  | 0,_ => 0
  | n + 1,l => (l.map (fun a => 1 + c1 n a.f2)).sum
theorem sum1 {α : Type} (f : α → Nat) (l : List α) : (l.map (fun a => 1 + f a)).sum = l.length + (l.map f).sum := by
  induction l with
  | nil => rfl
  | cons a t ih => simp only [List.map_cons,List.sum_cons,List.length_cons,ih]; omega
theorem cl_up (n : Nat) : ∀ l,cl n l ≤ cl (n + 1) l := by
  induction n with
  | zero => intro l; exact Nat.zero_le _
  | succ n ih =>
    intro l
    rw [cl,cl]
    induction l with
    | nil => exact Nat.le_refl _
    | cons a t iht =>
      rw [List.map_cons,List.sum_cons,List.map_cons,List.sum_cons]
      have := ih a.f2
      omega

theorem szTyC (n : Nat) : ∀ (x : TL),Q24 n x → ∀ left : Int,0 ≤ left → left ≤ 1048576 →
    ∃ r,Ev (fun k => laws_szTy.f k x.f0 x.f1 x.f2 left) r ∧ -1 ≤ r ∧ r ≤ left ∧ (0 ≤ r → N1 n x ∧ r + (c1 n x.f2 : Int) ≤ left) := by
  induction n with
  | zero => intro x h; exact h.elim
  | succ n ih =>
    have loop : ∀ (l p : List TL) (left : Int),(∀ a ∈ l,Q24 n a) → p.length + l.length ≤ 281474976710656 → 0 ≤ left → left ≤ 1048576 →
        ∃ r,Ev (fun k => laws_szTyS.l0 k (p ++ l) left (p.length : Int)) r ∧ -1 ≤ r ∧ r ≤ left ∧ (0 ≤ r → (∀ a ∈ l,N1 n a) ∧ r + (((l.map (fun a => c1 n a.f2)).sum : Nat) : Int) ≤ left) := by
      intro l
      induction l with
      | nil =>
        intro p left _ _ h0 h1
        refine ⟨left,Ev.at1 fun k => ?_,by omega,by omega,fun _ => ⟨(fun a h => by cases h),(by simp)⟩⟩
        rw [laws_szTyS.l0,if_neg (by simp)]
      | cons a t iht =>
        intro p left hq hlen h0 h1
        rw [List.length_cons] at hlen
        obtain ⟨r1,e1,ha,hb,hn⟩ := ih a (hq a List.mem_cons_self) left h0 h1
        by_cases hr : r1 < 0
        · refine ⟨-1,Ev.step (fun k => ?_) (Ev.bind e1 (f := fun k t104 => if t104 < 0 then some (-1) else laws_szTyS.l0 k (p ++ a :: t) t104 (wrap64 ((p.length : Int) + 1))) (Ev.const fun k => ?_)),by omega,by omega,fun h => by omega⟩
          · rw [laws_szTyS.l0,if_pos (by simp; omega),if_pos (by omega),rdL]
          · rw [if_pos hr]
        · obtain ⟨r2,e2,ha2,hb2,hn2⟩ := iht (p ++ [a]) r1 (fun b hb => hq b (List.mem_cons_of_mem _ hb)) (by simp; omega) (by omega) (by omega)
          refine ⟨r2,Ev.step (fun k => ?_) (Ev.bind e1 (f := fun k t104 => if t104 < 0 then some (-1) else laws_szTyS.l0 k (p ++ a :: t) t104 (wrap64 ((p.length : Int) + 1))) (Ev.congr (fun k => ?_) e2)),ha2,by omega,fun h => ⟨fun b hb => ?_,?_⟩⟩
          · rw [laws_szTyS.l0,if_pos (by simp; omega),if_pos (by omega),rdL]
          · rw [if_neg hr,w1 p a (by omega),app1 p t a]
          · rcases List.mem_cons.1 hb with h1 | h1
            · subst h1; exact (hn (by omega)).1
            · exact (hn2 h).1 b h1
          · rw [List.map_cons,List.sum_cons]
            have g1 := (hn (by omega)).2
            have g2 := (hn2 h).2
            omega
    intro x hx left h0 h1
    obtain ⟨_,_,hl,hq⟩ := hx
    simp only [maxLen] at hl
    have hw : wrap64 (left - (x.f2.length : Int)) = left - (x.f2.length : Int) := w64 (by omega) (by omega)
    by_cases hneg : left - (x.f2.length : Int) < 0
    · refine ⟨-1,Ev.step2 (fun k => ?_) (Ev.now _),by omega,by omega,fun h => by omega⟩
      rw [laws_szTy.f,laws_szTyS.f,hw,if_pos hneg,Option.bind_some,if_pos (by omega)]
    · obtain ⟨r,e,ha,hb,hn⟩ := loop x.f2 [] (left - (x.f2.length : Int)) hq (by simp; omega) (by omega) (by omega)
      have e' : Ev (fun k => laws_szTyS.f k x.f2 left) r := Ev.step (fun k => by rw [laws_szTyS.f,hw,if_neg hneg]; rfl) e
      by_cases hr : r < 0
      · refine ⟨-1,Ev.step (fun k => ?_) (Ev.bind e' (f := fun k t102 => if t102 < 0 then some (-1) else some t102) (Ev.const fun k => ?_)),by omega,by omega,fun h => by omega⟩
        · rw [laws_szTy.f]
        · rw [if_pos hr]
      · refine ⟨r,Ev.step (fun k => ?_) (Ev.bind e' (f := fun k t102 => if t102 < 0 then some (-1) else some t102) (Ev.const fun k => ?_)),ha,by omega,fun h => ⟨⟨by omega,(hn h).1⟩,by rw [c1,sum1]; have g := (hn h).2; omega⟩⟩
        · rw [laws_szTy.f]
        · rw [if_neg hr]

theorem toTyC (n : Nat) : ∀ (x : TL),N1 n x → ∃ y : T,Ev (fun k => laws_toTy.f k x.f0 x.f1 x.f2) (y.f0,y.f1,y.f2) ∧ N2 n y ∧ cl n y.f2 = c1 n x.f2 := by
  induction n with
  | zero => intro x h; exact h.elim
  | succ n ih =>
    have loop : ∀ (l p : List TL) (q : List T),(∀ a ∈ l,N1 n a) → p.length = q.length → p.length + l.length ≤ 281474976710656 →
        ∃ r,Ev (fun k => laws_toTyS.l0 k (p ++ l) (q ++ List.replicate l.length z29) (p.length : Int)) (q ++ r) ∧ r.length = l.length ∧ (∀ a ∈ r,N2 n a) ∧ (r.map (fun a => 1 + cl n a.f2)).sum = (l.map (fun a => 1 + c1 n a.f2)).sum := by
      intro l
      induction l with
      | nil =>
        intro p q _ hpq _
        refine ⟨[],Ev.at1 fun k => ?_,rfl,(fun a h => by cases h),rfl⟩
        rw [laws_toTyS.l0,if_neg (by simp)]
        simp
      | cons a t iht =>
        intro p q hq hpq hlen
        rw [List.length_cons] at hlen
        obtain ⟨y,e1,hy,hcy⟩ := ih a (hq a List.mem_cons_self)
        obtain ⟨r,e2,hrl,hr,hcr⟩ := iht (p ++ [a]) (q ++ [y]) (fun b hb => hq b (List.mem_cons_of_mem _ hb)) (by simp [hpq]) (by simp; omega)
        refine ⟨y :: r,Ev.val (Ev.step (fun k => ?_) (Ev.bind e1 (f := fun k bt => if (p.length : Int) < ((q ++ List.replicate (a :: t).length z29).length : Int) then laws_toTyS.l0 k (p ++ a :: t) ((q ++ List.replicate (a :: t).length z29).set (p.length : Int).toNat (⟨bt.1,bt.2.1,bt.2.2⟩ : S29)) (wrap64 ((p.length : Int) + 1)) else none) (Ev.congr (fun k => ?_) e2))) (by simp),by simp [hrl],(fun b hb => ?_),by simp only [List.map_cons,List.sum_cons,hcy,hcr]⟩
        · rw [laws_toTyS.l0,if_pos (by simp; omega),if_pos (by omega),rdL]
        · rw [if_pos (by simp; omega),w1 p a (by omega),app1 p t a,Int.toNat_natCast,hpq]
          congr 1
          simp [List.replicate_succ]
          cases y
          rfl
        · rcases List.mem_cons.1 hb with h1 | h1
          · subst h1; exact hy
          · exact hr b h1
    intro x hx
    obtain ⟨hl,hq⟩ := hx
    obtain ⟨r,e,hrl,hr,hcr⟩ := loop x.f2 [] [] hq rfl (by simp; omega)
    have e' : Ev (fun k => laws_toTyS.f k x.f2) r := Ev.step (fun k => by rw [laws_toTyS.f,if_pos (by omega),if_pos (by rw [Int.toNat_natCast]; omega),Int.toNat_natCast]; rfl) e
    refine ⟨⟨x.f0,x.f1,r⟩,Ev.step (fun k => ?_) (Ev.bind e' (f := fun k t113 => some (x.f0,x.f1,t113)) (Ev.now _)),⟨by show r.length ≤ 1048576; omega,hr⟩,hcr⟩
    rw [laws_toTy.f]


/-- What all laws on one type begin with,and that marks fit on it. -/
theorem tyStart2 (x : TL) (hx : W24 x) : (∃ r,Ev (fun k => laws_szTy.f k x.f0 x.f1 x.f2 1048576) r ∧ r < 0) ∨
    ∃ r n y,Ev (fun k => laws_szTy.f k x.f0 x.f1 x.f2 1048576) r ∧ ¬ r < 0 ∧ Ev (fun k => laws_toTy.f k x.f0 x.f1 x.f2) (y.f0,y.f1,y.f2) ∧ N2 (n + 1) y ∧ cl n y.f2 ≤ 1048576 ∧ Ev (fun k => laws_eqTy.f k y.f0 y.f1 y.f2 y.f0 y.f1 y.f2) true := by
  obtain ⟨n,hx⟩ := hx
  obtain ⟨r,e,_,h2,h3⟩ := szTyC n x hx 1048576 (by omega) (by omega)
  by_cases c : r < 0
  · exact .inl ⟨r,e,c⟩
  · obtain ⟨h4,h5⟩ := h3 (by omega)
    obtain ⟨y,ey,hy,hc⟩ := toTyC n x h4
    cases n with
    | zero => exact hy.elim
    | succ n =>
      have := cl_up n y.f2
      exact .inr ⟨r,n,y,e,c,ey,hy,by omega,eqTy (n + 1) y hy⟩

end Go.Proofs.Ytbifoajnmikhiaa.E

/- What TyBytes comes to,in the program and in the reference. -/
namespace Go.Proofs.Ytbifoajnmikhiaa.E
open Go Go.RowKit Go.Proofs.Ytbifoajnmikhiaa.PE Go.Proofs.Ytbifoajnmikhiaa.M Go.Proofs.YtbifoajnmikhiaaW.PrintWords Go.Proofs.YtbifoajnmikhiaaW.PrintLast Go.Proofs.YtbifoajnmikhiaaW.PrintMore

/-- No more than three parts each. -/
def N3 : Nat → T → Prop
  | 0,_ => False
  | n + 1,x => x.f2.length ≤ 3 ∧ ∀ a ∈ x.f2,N3 n a
theorem measL_all (f : T → Int) (hf : ∀ a,1 ≤ f a) : ∀ (l : List T) (s : Int),0 ≤ s → measL f l s ≤ 60 → ∀ a ∈ l,f a ≤ 60 := by
  intro l
  induction l with
  | nil => intro s _ _ a h; cases h
  | cons b t ih =>
    intro s h0 h a ha
    rw [measL] at h
    have hb := hf b
    split at h
    · omega
    · rcases List.mem_cons.1 ha with h1 | h1
      · subst h1; omega
      · exact ih _ (by omega) h a h1
theorem meas_N3 (d : Nat) : ∀ t,meas d t ≤ 60 → N3 d t := by
  induction d with
  | zero => intro t h; simp [meas] at h
  | succ d ih =>
    intro t h
    rw [meas] at h
    split at h
    · rename_i hh
      exact ⟨headB_len hh,fun a ha => ih a (measL_all _ (fun a => (meas_le d a).1) _ _ (by omega) h a ha)⟩
    · omega

def headL (b : List Int) (t : T) : List Int := if t.f0 = 6 then putNum (putNum (b ++ [t.f0 % 256]) t.f1) t.f2.length else if t.f0 = 7 then putNum (b ++ [t.f0 % 256]) t.f1 else b ++ [t.f0 % 256]
def byL : Nat → List Int → T → List Int
  | 0,b,_ => b
  | n + 1,b,t => t.f2.foldl (byL n) (headL b t)
def cb : Nat → Nat
  | 0 => 0
  | n + 1 => 11 + 3 * cb n
theorem headL_len (b : List Int) (t : T) : (headL b t).length ≤ b.length + 11 := by
  unfold headL
  have h1 := putNum_len (b ++ [t.f0 % 256]) t.f1
  have h2 := putNum_len (putNum (b ++ [t.f0 % 256]) t.f1) (t.f2.length : Int)
  have h3 : (b ++ [t.f0 % 256]).length = b.length + 1 := by simp
  split
  · omega
  · split <;> omega
theorem fold_len (d : Nat) (hd : ∀ (t : T) (b : List Int),N3 d t → (byL d b t).length ≤ b.length + cb d) : ∀ (l : List T) (b : List Int),(∀ a ∈ l,N3 d a) → (l.foldl (byL d) b).length ≤ b.length + l.length * cb d := by
  intro l
  induction l with
  | nil => intro b _; simp
  | cons a t ih =>
    intro b h
    have h1 := ih (byL d b a) (fun c hc => h c (List.mem_cons_of_mem _ hc))
    have h2 := hd a b (h a List.mem_cons_self)
    rw [List.foldl_cons,List.length_cons,Nat.add_mul,Nat.one_mul]
    omega
theorem byL_len (d : Nat) : ∀ (t : T) (b : List Int),N3 d t → (byL d b t).length ≤ b.length + cb d := by
  induction d with
  | zero => intro t b h; exact h.elim
  | succ d ih =>
    intro t b h
    have h1 := fold_len d ih t.f2 (headL b t) h.2
    have h2 := headL_len b t
    have h3 : t.f2.length * cb d ≤ 3 * cb d := Nat.mul_le_mul_right _ h.1
    rw [byL,cb]
    omega

theorem impl_bytes (d : Nat) : ∀ (t : T) (b : List Int),N3 d t → b.length + cb d ≤ 70368744177664 → Ev (fun k => impl_putTy.f k b t.f0 t.f1 t.f2) (byL d b t) := by
  induction d with
  | zero => intro t b h; exact h.elim
  | succ d ih =>
    have loop : ∀ (l p : List T) (b : List Int),(∀ a ∈ l,N3 d a) → p.length + l.length ≤ 3 → b.length + l.length * cb d ≤ 70368744177664 → Ev (fun k => impl_putTy.l0 k (p ++ l) (p.length : Int) b) (l.foldl (byL d) b) := by
      intro l
      induction l with
      | nil =>
        intro p b _ _ _
        refine Ev.at1 fun k => ?_
        rw [impl_putTy.l0,if_neg (by simp)]
        rfl
      | cons a t iht =>
        intro p b hq hp hb
        rw [List.length_cons] at hp
        rw [List.length_cons,Nat.add_mul,Nat.one_mul] at hb
        have h2 := byL_len d a b (hq a List.mem_cons_self)
        refine Ev.step (fun k => ?_) (Ev.bind (ih a b (hq a List.mem_cons_self) (by omega)) (f := fun k t1 => impl_putTy.l0 k (p ++ a :: t) (wrap64 ((p.length : Int) + 1)) t1) (Ev.congr (fun k => ?_) (iht (p ++ [a]) (byL d b a) (fun c hc => hq c (List.mem_cons_of_mem _ hc)) (by simp; omega) (by omega))))
        · rw [impl_putTy.l0,if_pos (by simp; omega),if_pos (by omega),rdT]
        · rw [w1 p a (by omega),app1 p t a]
    intro t b h hb
    rw [cb] at hb
    have hl := h.1
    have h3 : t.f2.length * cb d ≤ 3 * cb d := Nat.mul_le_mul_right _ hl
    have hh := headL_len b t
    have e := loop t.f2 [] (headL b t) h.2 (by simpa using hl) (by omega)
    have h4 : (b ++ [t.f0 % 256]).length = b.length + 1 := by simp
    have hp1 := putNum_len (b ++ [t.f0 % 256]) t.f1
    have p1 := impl_PutNum (l := b ++ [t.f0 % 256]) t.f1 (by omega)
    have p2 := impl_PutNum (l := putNum (b ++ [t.f0 % 256]) t.f1) (t.f2.length : Int) (by omega)
    rw [byL]
    unfold headL at e ⊢
    by_cases c6 : t.f0 = 6
    · rw [if_pos c6] at e ⊢
      refine Ev.step (fun k => ?_) (Ev.bind p1 (f := fun k b2 => (impl_PutNum.f k b2 (t.f2.length : Int)).bind fun b3 => impl_putTy.l0 k t.f2 0 b3) (Ev.bind p2 (f := fun k b3 => impl_putTy.l0 k t.f2 0 b3) e))
      rw [impl_putTy.f,if_pos (by omega),if_pos c6]
    · rw [if_neg c6] at e ⊢
      by_cases c7 : t.f0 = 7
      · rw [if_pos c7] at e ⊢
        refine Ev.step (fun k => ?_) (Ev.bind p1 (f := fun k b3 => impl_putTy.l0 k t.f2 0 b3) e)
        rw [impl_putTy.f,if_pos (by omega),if_neg c6,if_pos c7]
      · rw [if_neg c7] at e ⊢
        refine Ev.step (fun k => ?_) e
        rw [impl_putTy.f,if_pos (by omega),if_neg c6,if_neg c7]
        rfl
theorem spec_bytes (d : Nat) : ∀ (t : T) (b : List Int),N3 d t → b.length + cb d ≤ 70368744177664 → Ev (fun k => spec_l3bytes.f k b t.f0 t.f1 t.f2) (byL d b t) := by
  induction d with
  | zero => intro t b h; exact h.elim
  | succ d ih =>
    have loop : ∀ (l p : List T) (b : List Int),(∀ a ∈ l,N3 d a) → p.length + l.length ≤ 3 → b.length + l.length * cb d ≤ 70368744177664 → Ev (fun k => spec_l3bytes.l0 k (p ++ l) (p.length : Int) b) (l.foldl (byL d) b) := by
      intro l
      induction l with
      | nil =>
        intro p b _ _ _
        refine Ev.at1 fun k => ?_
        rw [spec_l3bytes.l0,if_neg (by simp)]
        rfl
      | cons a t iht =>
        intro p b hq hp hb
        rw [List.length_cons] at hp
        rw [List.length_cons,Nat.add_mul,Nat.one_mul] at hb
        have h2 := byL_len d a b (hq a List.mem_cons_self)
        refine Ev.step (fun k => ?_) (Ev.bind (ih a b (hq a List.mem_cons_self) (by omega)) (f := fun k t1 => spec_l3bytes.l0 k (p ++ a :: t) (wrap64 ((p.length : Int) + 1)) t1) (Ev.congr (fun k => ?_) (iht (p ++ [a]) (byL d b a) (fun c hc => hq c (List.mem_cons_of_mem _ hc)) (by simp; omega) (by omega))))
        · rw [spec_l3bytes.l0,if_pos (by simp; omega),if_pos (by omega),rdT]
        · rw [w1 p a (by omega),app1 p t a]
    intro t b h hb
    rw [cb] at hb
    have hl := h.1
    have h3 : t.f2.length * cb d ≤ 3 * cb d := Nat.mul_le_mul_right _ hl
    have hh := headL_len b t
    have e := loop t.f2 [] (headL b t) h.2 (by simpa using hl) (by omega)
    have h4 : (b ++ [t.f0 % 256]).length = b.length + 1 := by simp
    have hp1 := putNum_len (b ++ [t.f0 % 256]) t.f1
    have p1 := spec_PutNum (l := b ++ [t.f0 % 256]) t.f1 (by omega)
    have p2 := spec_PutNum (l := putNum (b ++ [t.f0 % 256]) t.f1) (t.f2.length : Int) (by omega)
    rw [byL]
    unfold headL at e ⊢
    by_cases c6 : t.f0 = 6
    · rw [if_pos c6] at e ⊢
      refine Ev.step (fun k => ?_) (Ev.bind p1 (f := fun k b2 => (spec_PutNum.f k b2 (t.f2.length : Int)).bind fun b3 => spec_l3bytes.l0 k t.f2 0 b3) (Ev.bind p2 (f := fun k b3 => spec_l3bytes.l0 k t.f2 0 b3) e))
      rw [spec_l3bytes.f,if_pos (by omega),if_pos c6]
    · rw [if_neg c6] at e ⊢
      by_cases c7 : t.f0 = 7
      · rw [if_pos c7] at e ⊢
        refine Ev.step (fun k => ?_) (Ev.bind p1 (f := fun k b3 => spec_l3bytes.l0 k t.f2 0 b3) e)
        rw [spec_l3bytes.f,if_pos (by omega),if_neg c6,if_pos c7]
      · rw [if_neg c7] at e ⊢
        refine Ev.step (fun k => ?_) e
        rw [spec_l3bytes.f,if_pos (by omega),if_neg c6,if_neg c7]
        rfl
def tyBytes (t : T) : List Int := if TyOk t = true then byL 10 [] t else []
theorem tyBytes_len (t : T) : (tyBytes t).length ≤ 400000 := by
  unfold tyBytes
  split
  · rename_i h
    have h1 := byL_len 10 t [] (meas_N3 10 t (of_decide_eq_true h))
    have h2 : cb 10 = 324764 := by decide
    rw [List.length_nil] at h1
    omega
  · simp
theorem impl_TyBytes (t : T) : Ev (fun k => impl_TyBytes.f k t.f0 t.f1 t.f2) (tyBytes t) := by
  refine Ev.congr (fun k => by rw [impl_TyBytes.f]) (Ev.bind (impl_TyOk t) ?_)
  unfold tyBytes
  by_cases c : TyOk t = true
  · rw [if_pos c]
    refine Ev.congr (fun k => by rw [if_pos c]) (impl_bytes 10 t [] (meas_N3 10 t (of_decide_eq_true c)) (by rw [show cb 10 = 324764 from by decide,List.length_nil]; omega))
  · rw [if_neg c]
    exact Ev.const fun k => by rw [if_neg c]
theorem spec_TyBytes (t : T) : Ev (fun k => spec_TyBytes.f k t.f0 t.f1 t.f2) (tyBytes t) := by
  refine Ev.congr (fun k => by rw [spec_TyBytes.f]) (Ev.bind (spec_TyOk t) ?_)
  unfold tyBytes
  by_cases c : TyOk t = true
  · rw [if_pos c]
    refine Ev.congr (fun k => by rw [if_pos c]) (spec_bytes 10 t [] (meas_N3 10 t (of_decide_eq_true c)) (by rw [show cb 10 = 324764 from by decide,List.length_nil]; omega))
  · rw [if_neg c]
    exact Ev.const fun k => by rw [if_neg c]
end Go.Proofs.Ytbifoajnmikhiaa.E

/- The program's TyBytes returns what the reference's TyBytes returns,at every tree,in new memory,and leaves its argument. No condition. -/
namespace Go.Proofs.Ytbifoajnmikhiaa.Pure
open Go Go.RowKit Go.Proofs.Ytbifoajnmikhiaa.PE Go.Proofs.Ytbifoajnmikhiaa.M Go.Proofs.Ytbifoajnmikhiaa.E Go.Proofs.YtbifoajnmikhiaaW.PrintWords Go.Proofs.YtbifoajnmikhiaaW.PrintLast

theorem FnExactTyBytes : laws_FnExactTyBytes.Pure := by
  intro x hx
  rcases tyStart2 x hx with ⟨r,e1,hr⟩ | ⟨r,n,y,e1,hr,e2,hy,hc,e5⟩
  · obtain ⟨K1,h1⟩ := Ev.use e1
    exact ⟨K1,by rw [laws_FnExactTyBytes.f,h1 _ (by omega),if_pos hr]⟩
  · have hlen := tyBytes_len y
    obtain ⟨K1,h1⟩ := e1
    obtain ⟨K2,h2⟩ := e2
    obtain ⟨K3,h3⟩ := spec_TyBytes y
    obtain ⟨K4,h4⟩ := impl_TyBytes y
    obtain ⟨K5,h5⟩ := e5
    obtain ⟨K6,h6⟩ := eqB (a := tyBytes y) (by omega)
    obtain ⟨m,l',hm0,⟨K7,h7⟩,_⟩ := markT n y 1 hy (by omega) (by omega)
    obtain ⟨K8,h8⟩ := markB (l := tyBytes y) (a := 1) (by omega) (by omega) (by omega)
    obtain ⟨K9,h9⟩ := heldB (n := (tyBytes y).length) (a := 1) (by omega) (by omega) (by omega)
    refine ⟨K1 + K2 + K3 + K4 + K5 + K6 + K7 + K8 + K9,?_⟩
    have g1 := h1 (K1 + K2 + K3 + K4 + K5 + K6 + K7 + K8 + K9) (by omega)
    have g2 := h2 (K1 + K2 + K3 + K4 + K5 + K6 + K7 + K8 + K9) (by omega)
    have g3 := h3 (K1 + K2 + K3 + K4 + K5 + K6 + K7 + K8 + K9) (by omega)
    have g4 := h4 (K1 + K2 + K3 + K4 + K5 + K6 + K7 + K8 + K9) (by omega)
    have g5 := h5 (K1 + K2 + K3 + K4 + K5 + K6 + K7 + K8 + K9) (by omega)
    have g6 := h6 (K1 + K2 + K3 + K4 + K5 + K6 + K7 + K8 + K9) (by omega)
    have g7 := h7 (K1 + K2 + K3 + K4 + K5 + K6 + K7 + K8 + K9) (by omega)
    have g8 := h8 (K1 + K2 + K3 + K4 + K5 + K6 + K7 + K8 + K9) (by omega)
    have g9 := h9 (K1 + K2 + K3 + K4 + K5 + K6 + K7 + K8 + K9) (by omega)
    generalize K1 + K2 + K3 + K4 + K5 + K6 + K7 + K8 + K9 = K at *
    dsimp only at g1 g2 g3 g4 g5 g6 g7 g8 g9
    rw [laws_FnExactTyBytes.f,g1,Option.bind_some,if_neg hr,g2,Option.bind_some,g3,Option.bind_some,g7,Option.bind_some,g8,Option.bind_some]
    exact if_pos ⟨g4,g6,g5,hm0,g9,by simp only; omega⟩

end Go.Proofs.Ytbifoajnmikhiaa.Pure

