import Derived.Test.YtbifoajnmikhiaaE1
import Derived.Test.YtbifoajnmikhiaaE3r
import Derived.Test.YtbifoajnmikhiaaPDx0
import Derived.Test.YtbifoajnmikhiaaPDx4
import Derived.Test.YtbifoajnmikhiaaPDx5
import Derived.Test.YtbifoajnmikhiaaPDx6
import Derived.Test.YtbifoajnmikhiaaPDx7
import Derived.Test.YtbifoajnmikhiaaPDx8
import Derived.Test.YtbifoajnmikhiaaPDx11
import Derived.Test.YtbifoajnmikhiaaPDx12
import Derived.Test.YtbifoajnmikhiaaPDx13
import Derived.Test.YtbifoajnmikhiaaPDx15
import Derived.Test.YtbifoajnmikhiaaPDx16
import Derived.Test.YtbifoajnmikhiaaPDx20
import Derived.Test.YtbifoajnmikhiaaPDx21
import Derived.Test.YtbifoajnmikhiaaPDx22
import Derived.Test.YtbifoajnmikhiaaPDx23
import Derived.Test.YtbifoajnmikhiaaB
import Derived.Test.YtbifoajnmikhiaaM3r
/- What TyRead comes to,in the program and in the reference; marks on trees,and whether they are held. -/
namespace Go.Proofs.Ytbifoajnmikhiaa.E
open Go Go.RowKit Go.Proofs.Ytbifoajnmikhiaa.PD Go.Proofs.Ytbifoajnmikhiaa.M Go.Proofs.YtbifoajnmikhiaaW.PrintWords Go.Proofs.YtbifoajnmikhiaaW.PrintLast Go.Proofs.YtbifoajnmikhiaaW.PrintMore

def marks : Nat → Int → List Int
  | 0,_ => []
  | n + 1,a => a % 256 :: marks n (a + 1)
theorem marks_len (n : Nat) : ∀ a,(marks n a).length = n := by
  induction n with
  | zero => intro a; rfl
  | succ n ih => intro a; simp [marks,ih]

theorem markB_l (l : List Int) : ∀ (p : List Int) (a : Int),p.length + l.length ≤ 281474976710656 → -281474976710656 ≤ a → a + l.length ≤ 9223372036854775807 →
    Ev (fun k => laws_markByteS.l0 k (p ++ l) a (p.length : Int)) (a + l.length,p ++ marks l.length a) := by
  induction l with
  | nil =>
    intro p a hp h0 h1
    refine Ev.at1 fun k => ?_
    rw [laws_markByteS.l0,if_neg (by simp)]
    simp [marks]
  | cons c l ih =>
    intro p a hp h0 h1
    rw [List.length_cons] at hp h1
    have := ih (p ++ [a % 256]) (a + 1) (by simp; omega) (by omega) (by omega)
    have e1 : (p ++ c :: l).set p.length (a % 256) = p ++ [a % 256] ++ l := by simp
    have e2 : wrap64 (a + 1) = a + 1 := w64 (by omega) (by omega)
    have e3 : wrap64 ((p.length : Int) + 1) = ((p ++ [a % 256]).length : Int) := by rw [w64 (by omega) (by omega)]; simp
    refine Ev.val (Ev.step (fun k => ?_) this) ?_
    · rw [laws_markByteS.l0,if_pos (by simp; omega),if_pos (by omega),Int.toNat_natCast,e1,e2,e3]
    · simp only [marks,List.length_cons,List.append_assoc,List.singleton_append,Prod.mk.injEq,and_true]
      omega

theorem markB {l : List Int} {a : Int} (hl : l.length ≤ 281474976710656) (h0 : -281474976710656 ≤ a) (h1 : a + l.length ≤ 9223372036854775807) : Ev (fun k => laws_markByteS.f k l a) (a + l.length,marks l.length a) := by
  exact Ev.congr (f := fun k => laws_markByteS.l0 k l a 0) (fun k => rfl) (by simpa using markB_l l [] a (by simpa using hl) h0 h1)

/-! ### reading -/
/-- No more than three parts each. -/
def N3 : Nat → T → Prop
  | 0,_ => False
  | n + 1,x => x.f2.length ≤ 3 ∧ ∀ a ∈ x.f2,N3 n a
theorem N3.to (n : Nat) : ∀ x,N3 n x → N2 n x := by
  induction n with
  | zero => exact fun x h => h
  | succ n ih => exact fun x h => ⟨by have := h.1; omega,fun a ha => ih a (h.2 a ha)⟩
abbrev R4 := Int × Int × List T × Int
def noTy : R4 := (0,0,[],-1)
def readL (f : Int → R4) : Nat → Int → List T → Option (List T × Int)
  | 0,at_,acc => some (acc,at_)
  | m + 1,at_,acc => if (f at_).2.2.2 < 0 then none else readL f m (f at_).2.2.2 (acc ++ [⟨(f at_).1,(f at_).2.1,(f at_).2.2.1⟩])
def close (f : Int → R4) (k n many a : Int) : R4 :=
  if a < 0 ∨ many > 3 then noTy else match readL f many.toNat a [] with
    | none => noTy
    | some (l,e) => (k,n,l,e)
def readM (l : List Int) : Nat → Int → R4
  | 0,_ => noTy
  | d + 1,a =>
    if a < 0 ∨ (l.length : Int) ≤ a ∨ argsN (rd l a) = -2 then noTy
    else if rd l a = 6 then
      if (getNum l (a + 1)).2 < 0 then noTy else close (readM l d) 6 (getNum l (a + 1)).1 (getNum l (getNum l (a + 1)).2).1 (getNum l (getNum l (a + 1)).2).2
    else if rd l a = 7 then close (readM l d) 7 (getNum l (a + 1)).1 0 (getNum l (a + 1)).2
    else close (readM l d) (rd l a) 0 (argsN (rd l a)) (a + 1)

theorem readL_ok {l : List Int} {d : Nat} (f : Int → R4) (hf : ∀ a,(f a).2.2.2 ≤ l.length ∧ N3 d ⟨(f a).1,(f a).2.1,(f a).2.2.1⟩) : ∀ (m : Nat) (a : Int) (acc r : List T) (e : Int),a ≤ l.length → (∀ y ∈ acc,N3 d y) → readL f m a acc = some (r,e) → e ≤ l.length ∧ r.length = acc.length + m ∧ ∀ y ∈ r,N3 d y := by
  intro m
  induction m with
  | zero =>
    intro a acc r e ha hacc h
    simp only [readL,Option.some.injEq,Prod.mk.injEq] at h
    obtain ⟨rfl,rfl⟩ := h
    exact ⟨ha,rfl,hacc⟩
  | succ m ih =>
    intro a acc r e ha hacc h
    rw [readL] at h
    split at h
    · cases h
    · have hx := hf a
      obtain ⟨h1,h2,h3⟩ := ih _ _ _ _ hx.1 (fun y hy => by
        rcases List.mem_append.1 hy with hy | hy
        · exact hacc y hy
        · rw [List.mem_singleton] at hy; subst hy; exact hx.2) h
      exact ⟨h1,by rw [h2]; simp; omega,h3⟩
theorem close_ok {l : List Int} {d : Nat} (f : Int → R4) (hf : ∀ a,(f a).2.2.2 ≤ l.length ∧ N3 d ⟨(f a).1,(f a).2.1,(f a).2.2.1⟩) (k n many a : Int) (ha : a ≤ l.length) :
    (close f k n many a).2.2.2 ≤ l.length ∧ N3 (d + 1) ⟨(close f k n many a).1,(close f k n many a).2.1,(close f k n many a).2.2.1⟩ ∧ (close f k n many a).2.2.1.length ≤ 3 := by
  have h0 : (noTy).2.2.2 ≤ l.length ∧ N3 (d + 1) ⟨(noTy).1,(noTy).2.1,(noTy).2.2.1⟩ ∧ (noTy).2.2.1.length ≤ 3 := ⟨by simp only [noTy]; omega,⟨by simp [noTy],fun a h => by cases h⟩,by simp [noTy]⟩
  unfold close
  split
  · exact h0
  · rename_i hc
    cases e : readL f many.toNat a [] with
    | none => exact h0
    | some p =>
      obtain ⟨r,e2⟩ := p
      obtain ⟨h1,h2,h3⟩ := readL_ok f hf _ _ _ _ _ ha (fun y hy => by cases hy) e
      rw [List.length_nil] at h2
      exact ⟨h1,⟨by simp only; omega,h3⟩,by simp only; omega⟩
theorem readM_ok {l : List Int} (hl : Byt l) : ∀ (d : Nat) (a : Int),(readM l d a).2.2.2 ≤ l.length ∧ N3 (d + 1) ⟨(readM l d a).1,(readM l d a).2.1,(readM l d a).2.2.1⟩ := by
  intro d
  have h0 : ∀ d,(noTy).2.2.2 ≤ (l.length : Int) ∧ N3 (d + 1) ⟨(noTy).1,(noTy).2.1,(noTy).2.2.1⟩ := fun d => ⟨by simp only [noTy]; omega,⟨by simp [noTy],fun a h => by cases h⟩⟩
  induction d with
  | zero => exact fun a => h0 0
  | succ d ih =>
    intro a
    rw [readM]
    split
    · exact h0 _
    · rename_i hc
      have c := fun k n many b hb => close_ok (readM l d) ih k n many b hb
      split
      · split
        · exact h0 _
        · have := c 6 (getNum l (a + 1)).1 (getNum l (getNum l (a + 1)).2).1 _ (getNum_le hl (getNum l (a + 1)).2).2.2.2
          exact ⟨this.1,this.2.1⟩
      · split
        · have := c 7 (getNum l (a + 1)).1 0 _ (getNum_le hl (a + 1)).2.2.2
          exact ⟨this.1,this.2.1⟩
        · have := c (rd l a) 0 (argsN (rd l a)) (a + 1) (by omega)
          exact ⟨this.1,this.2.1⟩

section
theorem impl_readL {l : List Int} (f : Int → R4) (hf : ∀ a,(f a).2.2.2 ≤ l.length) (x2 k0 n0 : Int) (hx : -1000 ≤ x2 ∧ x2 ≤ 1000) (he : ∀ a : Int,a ≤ l.length → Ev (fun k => impl_readTy.f k l a (x2 + 1)) (f a)) : ∀ (m : Nat) (i : Nat) (a : Int) (acc : List T),a ≤ l.length → acc.length + m ≤ 10000 → i + m ≤ 1000 → 
    Ev (fun k => impl_readTy.l0 k l a x2 ((i + m : Nat) : Int) (i : Int) k0 n0 acc) (match readL f m a acc with | none => noTy | some (r,e) => (k0,n0,r,e)) := by
  intro m
  induction m with
  | zero =>
    intro i a acc _ _ _
    refine Ev.at1 fun k => ?_
    rw [impl_readTy.l0,if_neg (by omega)]
    rfl
  | succ m ih =>
    intro i a acc ha hacc him
    have hw : wrap64 (x2 + 1) = x2 + 1 := w64 (by omega) (by omega)
    have hi : wrap64 ((i : Int) + 1) = ((i + 1 : Nat) : Int) := by rw [w64 (by omega) (by omega)]; omega
    have hstep : ∀ k,impl_readTy.l0 (k + 1) l a x2 ((i + (m + 1) : Nat) : Int) (i : Int) k0 n0 acc = (impl_readTy.f k l a (x2 + 1)).bind fun r => if r.2.2.2 < 0 then some (0,0,[],-1) else if acc.length < 3518437208883 then impl_readTy.l0 k l r.2.2.2 x2 ((i + 1 + m : Nat) : Int) ((i + 1 : Nat) : Int) k0 n0 (acc ++ [⟨r.1,r.2.1,r.2.2.1⟩]) else none := fun k => by
      rw [impl_readTy.l0,if_pos (by omega),hw,hi,show i + (m + 1) = i + 1 + m from by omega]
    rw [readL]
    by_cases c : (f a).2.2.2 < 0
    · rw [if_pos c]
      refine Ev.step hstep (Ev.bind (he a ha) (Ev.const fun k => ?_))
      rw [if_pos c]
      rfl
    · rw [if_neg c]
      refine Ev.step hstep (Ev.bind (he a ha) (Ev.congr (fun k => ?_) (ih (i + 1) (f a).2.2.2 (acc ++ [⟨(f a).1,(f a).2.1,(f a).2.2.1⟩]) (hf a) (by simp; omega) (by omega))))
      rw [if_neg c,if_pos (by omega)]
theorem spec_readL {l : List Int} (f : Int → R4) (hf : ∀ a,(f a).2.2.2 ≤ l.length) (x2 k0 n0 : Int) (hx : -1000 ≤ x2 ∧ x2 ≤ 1000) (he : ∀ a : Int,a ≤ l.length → Ev (fun k => spec_l3read.f k l a (x2 + 1)) (f a)) : ∀ (m : Nat) (i : Nat) (a : Int) (acc : List T),a ≤ l.length → acc.length + m ≤ 10000 → i + m ≤ 1000 → 
    Ev (fun k => spec_l3read.l0 k l a x2 ((i + m : Nat) : Int) (i : Int) k0 n0 acc) (match readL f m a acc with | none => noTy | some (r,e) => (k0,n0,r,e)) := by
  intro m
  induction m with
  | zero =>
    intro i a acc _ _ _
    refine Ev.at1 fun k => ?_
    rw [spec_l3read.l0,if_neg (by omega)]
    rfl
  | succ m ih =>
    intro i a acc ha hacc him
    have hw : wrap64 (x2 + 1) = x2 + 1 := w64 (by omega) (by omega)
    have hi : wrap64 ((i : Int) + 1) = ((i + 1 : Nat) : Int) := by rw [w64 (by omega) (by omega)]; omega
    have hstep : ∀ k,spec_l3read.l0 (k + 1) l a x2 ((i + (m + 1) : Nat) : Int) (i : Int) k0 n0 acc = (spec_l3read.f k l a (x2 + 1)).bind fun r => if r.2.2.2 < 0 then some (0,0,[],-1) else if acc.length < 3518437208883 then spec_l3read.l0 k l r.2.2.2 x2 ((i + 1 + m : Nat) : Int) ((i + 1 : Nat) : Int) k0 n0 (acc ++ [⟨r.1,r.2.1,r.2.2.1⟩]) else none := fun k => by
      rw [spec_l3read.l0,if_pos (by omega),hw,hi,show i + (m + 1) = i + 1 + m from by omega]
    rw [readL]
    by_cases c : (f a).2.2.2 < 0
    · rw [if_pos c]
      refine Ev.step hstep (Ev.bind (he a ha) (Ev.const fun k => ?_))
      rw [if_pos c]
      rfl
    · rw [if_neg c]
      refine Ev.step hstep (Ev.bind (he a ha) (Ev.congr (fun k => ?_) (ih (i + 1) (f a).2.2.2 (acc ++ [⟨(f a).1,(f a).2.1,(f a).2.2.1⟩]) (hf a) (by simp; omega) (by omega))))
      rw [if_neg c,if_pos (by omega)]

/-- From the number of parts on. -/
theorem impl_close {l : List Int} (f : Int → R4) (hf : ∀ a,(f a).2.2.2 ≤ l.length) (x2 k0 n0 many a : Int) (hx : -1000 ≤ x2 ∧ x2 ≤ 1000) (he : ∀ a : Int,a ≤ l.length → Ev (fun k => impl_readTy.f k l a (x2 + 1)) (f a)) (ha : a ≤ l.length) : Ev (fun k => impl_readTy.j4 k l a x2 many k0 n0) (close f k0 n0 many a) := by
  unfold close
  by_cases c : a < 0
  · rw [if_pos (.inl c)]
    exact Ev.at2 fun k => by rw [impl_readTy.j4,if_pos c,impl_readTy.j5,if_pos rfl]; rfl
  · by_cases c2 : many > 3
    · rw [if_pos (.inr c2)]
      exact Ev.at2 fun k => by rw [impl_readTy.j4,if_neg c,impl_readTy.j5,if_pos (decide_eq_true c2)]; rfl
    · rw [if_neg (by omega)]
      refine Ev.step2 (f := fun k => impl_readTy.l0 k l a x2 many 0 k0 n0 []) (fun k => by rw [impl_readTy.j4,if_neg c,impl_readTy.j5,if_neg (by simpa using c2)]) ?_
      by_cases c3 : 0 ≤ many
      · have e := impl_readL f hf x2 k0 n0 hx he many.toNat 0 a [] ha (by simp; omega) (by omega)
        rw [Nat.zero_add,Int.toNat_of_nonneg c3] at e
        exact e
      · rw [show many.toNat = 0 from by omega,readL]
        exact Ev.at1 fun k => by rw [impl_readTy.l0,if_neg (by omega)]
theorem spec_close {l : List Int} (f : Int → R4) (hf : ∀ a,(f a).2.2.2 ≤ l.length) (x2 k0 n0 many a : Int) (hx : -1000 ≤ x2 ∧ x2 ≤ 1000) (he : ∀ a : Int,a ≤ l.length → Ev (fun k => spec_l3read.f k l a (x2 + 1)) (f a)) (ha : a ≤ l.length) (h0 : ¬ a < 0) (h3 : ¬ many > 3) : Ev (fun k => spec_l3read.j5 k l a x2 many k0 n0) (close f k0 n0 many a) := by
  unfold close
  rw [if_neg (by omega)]
  refine Ev.step (f := fun k => spec_l3read.l0 k l a x2 many 0 k0 n0 []) (fun k => by rw [spec_l3read.j5]) ?_
  by_cases c3 : 0 ≤ many
  · have e := spec_readL f hf x2 k0 n0 hx he many.toNat 0 a [] ha (by simp; omega) (by omega)
    rw [Nat.zero_add,Int.toNat_of_nonneg c3] at e
    exact e
  · rw [show many.toNat = 0 from by omega,readL]
    exact Ev.at1 fun k => by rw [spec_l3read.l0,if_neg (by omega)]
end

theorem rd_byte {l : List Int} (hl : Byt l) {a : Int} (h0 : 0 ≤ a) (h1 : a < (l.length : Int)) : 0 ≤ rd l a ∧ rd l a < 256 := hl _ (rd_mem h0 h1)

theorem argsN_cases (k : Int) : ((k = 0 ∨ k = 1 ∨ k = 2) ∧ argsN k = 0) ∨ (k = 7 ∧ argsN k = 0) ∨ ((k = 3 ∨ k = 4) ∧ argsN k = 2) ∨ (k = 5 ∧ argsN k = 1) ∨ (k = 6 ∧ argsN k = -1) ∨ (k ≠ 0 ∧ k ≠ 1 ∧ k ≠ 2 ∧ k ≠ 3 ∧ k ≠ 4 ∧ k ≠ 5 ∧ k ≠ 6 ∧ k ≠ 7 ∧ argsN k = -2) := by
  unfold argsN
  split
  · omega
  · split
    · omega
    · split
      · omega
      · split <;> omega

theorem impl_read {l : List Int} (hl : Byt l) (hlen : l.length ≤ 281474976710656) (d : Nat) : ∀ (a x : Int),a ≤ 9223372036854775807 → x + d = 11 → 1 ≤ x → Ev (fun k => impl_readTy.f k l a x) (readM l d a) := by
  induction d with
  | zero =>
    intro a x _ hx _
    exact Ev.at2 fun k => by rw [impl_readTy.f,if_pos (by omega),impl_readTy.j0,if_pos rfl,readM]; rfl
  | succ d ih =>
    intro a x ha hx hx1
    have hwl : wrap64 ((l.length : Int) - 1) = (l.length : Int) - 1 := w64 (by omega) (by omega)
    have hin : impl_within.f a 0 ((l.length : Int) - 1) = some (decide (0 ≤ a ∧ a ≤ (l.length : Int) - 1)) := within _ _ _
    have hf : ∀ k,impl_readTy.f (k + 1) l a x = impl_readTy.j0 k l a x (!(decide (0 ≤ a ∧ a ≤ (l.length : Int) - 1))) := fun k => by
      rw [impl_readTy.f,if_neg (by omega),hwl,hin,Option.bind_some]
    rw [readM]
    by_cases c : 0 ≤ a ∧ a ≤ (l.length : Int) - 1
    · have hb := rd_byte hl c.1 (by omega)
      have hr : wrap64 (rd l a) = rd l a := w64 (by omega) (by omega)
      have ha1 : wrap64 (a + 1) = a + 1 := w64 (by omega) (by omega)
      have hf2 : ∀ k,impl_readTy.j0 (k + 1) l a x false = (impl_argsOf.f k (rd l a)).bind fun t => if t = -2 then some (0,0,[],-1) else if rd l a = 6 then impl_readTy.j1 k l (a + 1) x t true (rd l a) 0 else impl_readTy.j1 k l (a + 1) x t (rd l a == 7) (rd l a) 0 := fun k => by
        rw [impl_readTy.j0,if_neg (by decide),if_pos c.1,if_pos (by omega),hr,ha1]
      have hg : ∀ k,impl_readTy.f (k + 1 + 1) l a x = (impl_argsOf.f k (rd l a)).bind fun t => if t = -2 then some (0,0,[],-1) else if rd l a = 6 then impl_readTy.j1 k l (a + 1) x t true (rd l a) 0 else impl_readTy.j1 k l (a + 1) x t (rd l a == 7) (rd l a) 0 := fun k => (hf (k + 1)).trans (by rw [decide_eq_true c,Bool.not_true]; exact hf2 k)
      have ea := argsOf (rd l a)
      have hgn := getNum_le hl (a + 1)
      have hgn2 := getNum_le hl (getNum l (a + 1)).2
      have cl := fun k0 n0 many b hb => impl_close (l := l) (readM l d) (fun a => (readM_ok hl d a).1) x k0 n0 many b (by omega) (fun b hb => ih b (x + 1) (by omega) (by omega) (by omega)) hb
      by_cases c2 : argsN (rd l a) = -2
      · rw [if_pos (.inr (.inr c2))]
        refine Ev.step2 hg (Ev.bind ea (Ev.const fun k => ?_))
        rw [if_pos c2]; rfl
      · rw [if_neg (by omega)]
        by_cases c6 : rd l a = 6
        · rw [if_pos c6]
          have s3 : ∀ (n0 b : Int),b ≤ l.length → Ev (fun k => impl_readTy.j2 k l b x (argsN (rd l a)) 6 n0) (if b < 0 then noTy else close (readM l d) 6 n0 (getNum l b).1 (getNum l b).2) := by
            intro n0 b hb2
            by_cases c0 : b < 0
            · rw [if_pos c0]
              refine Ev.step2 (f := fun k => impl_readTy.j4 k l b x (argsN (rd l a)) 6 n0) (fun k => by rw [impl_readTy.j2,if_pos rfl,impl_readTy.j3,if_neg (by simp; omega)]) ?_
              exact Ev.at2 fun k => by rw [impl_readTy.j4,if_pos c0,impl_readTy.j5,if_pos rfl]; rfl
            · rw [if_neg c0]
              refine Ev.step2 (f := fun k => (impl_GetNum.f k l b).bind fun bt178 => impl_readTy.j4 k l bt178.2 x bt178.1 6 n0) (fun k => by rw [impl_readTy.j2,if_pos rfl,impl_readTy.j3,if_pos (decide_eq_true (by omega))]) ?_
              exact Ev.bind (impl_GetNum (l := l) (a := b) hl hlen (by omega)) (cl 6 n0 _ _ (getNum_le hl b).2.2.2)
          refine Ev.step2 hg (Ev.bind ea ?_)
          refine Ev.step (f := fun k => (impl_GetNum.f k l (a + 1)).bind fun bt176 => impl_readTy.j2 k l bt176.2 x (argsN (rd l a)) (rd l a) bt176.1) (fun k => by rw [if_neg c2,if_pos c6,impl_readTy.j1,if_pos rfl]) ?_
          refine Ev.bind (impl_GetNum (l := l) (a := a + 1) hl hlen (by omega)) ?_
          have := s3 (getNum l (a + 1)).1 (getNum l (a + 1)).2 hgn.2.2.2
          rw [c6] at this ⊢
          exact this
        · rw [if_neg c6]
          have s2 : ∀ (k0 n0 b : Int),k0 ≠ 6 → b ≤ l.length → Ev (fun k => impl_readTy.j2 k l b x (argsN (rd l a)) k0 n0) (close (readM l d) k0 n0 (argsN (rd l a)) b) := by
            intro k0 n0 b h6 hb2
            exact Ev.step2 (f := fun k => impl_readTy.j4 k l b x (argsN (rd l a)) k0 n0) (fun k => by rw [impl_readTy.j2,if_neg h6,impl_readTy.j3,if_neg (by decide)]) (cl k0 n0 _ b hb2)
          by_cases c7 : rd l a = 7
          · rw [if_pos c7]
            have h0 : argsN (rd l a) = 0 := by rw [c7]; rfl
            refine Ev.step2 hg (Ev.bind ea ?_)
            refine Ev.step (f := fun k => (impl_GetNum.f k l (a + 1)).bind fun bt176 => impl_readTy.j2 k l bt176.2 x (argsN (rd l a)) (rd l a) bt176.1) (fun k => by rw [if_neg c2,if_neg c6,show (rd l a == 7) = true from by simp [c7],impl_readTy.j1,if_pos rfl]) ?_
            refine Ev.bind (impl_GetNum (l := l) (a := a + 1) hl hlen (by omega)) ?_
            have := s2 7 (getNum l (a + 1)).1 (getNum l (a + 1)).2 (by decide) hgn.2.2.2
            rw [h0] at this
            rw [h0]
            rw [c7]
            exact this
          · rw [if_neg c7]
            refine Ev.step2 hg (Ev.bind ea ?_)
            refine Ev.step (f := fun k => impl_readTy.j2 k l (a + 1) x (argsN (rd l a)) (rd l a) 0) (fun k => by rw [if_neg c2,if_neg c6,show (rd l a == 7) = false from by simp [c7],impl_readTy.j1,if_neg (by decide)]) ?_
            exact s2 (rd l a) 0 (a + 1) c6 (by omega)
    · rw [if_pos (by omega)]
      refine Ev.step2 (f := fun _ => some noTy) (fun k => ?_) (Ev.now _)
      rw [hf,decide_eq_false c,Bool.not_false,impl_readTy.j0,if_pos rfl]
      rfl

theorem spec_read {l : List Int} (hl : Byt l) (hlen : l.length ≤ 281474976710656) (d : Nat) : ∀ (a x : Int),a ≤ 9223372036854775807 → x + d = 11 → 1 ≤ x → Ev (fun k => spec_l3read.f k l a x) (readM l d a) := by
  induction d with
  | zero =>
    intro a x _ hx _
    refine Ev.at2 fun k => ?_
    rw [spec_l3read.f]
    by_cases c : a < 0
    · rw [if_pos c,spec_l3read.j0,if_pos rfl]; rfl
    · by_cases c1 : a ≥ (l.length : Int)
      · rw [if_neg c,if_pos c1,spec_l3read.j0,if_pos rfl]; rfl
      · rw [if_neg c,if_neg c1,decide_eq_true (by omega),spec_l3read.j0,if_pos rfl]; rfl
  | succ d ih =>
    intro a x ha hx hx1
    rw [readM]
    by_cases c0 : a < 0
    · rw [if_pos (.inl c0)]
      exact Ev.at2 fun k => by rw [spec_l3read.f,if_pos c0,spec_l3read.j0,if_pos rfl]; rfl
    · by_cases c1 : a ≥ (l.length : Int)
      · rw [if_pos (.inr (.inl c1))]
        exact Ev.at2 fun k => by rw [spec_l3read.f,if_neg c0,if_pos c1,spec_l3read.j0,if_pos rfl]; rfl
      · have hb := rd_byte hl (a := a) (by omega) (by omega)
        have hr : wrap64 (rd l a) = rd l a := w64 (by omega) (by omega)
        have ha1 : wrap64 (a + 1) = a + 1 := w64 (by omega) (by omega)
        have hgn := getNum_le hl (a + 1)
        have cl := fun k0 n0 many b hb h0 h3 => spec_close (l := l) (readM l d) (fun a => (readM_ok hl d a).1) x k0 n0 many b (by omega) (fun b hb => ih b (x + 1) (by omega) (by omega) (by omega)) hb h0 h3
        have hf : ∀ k,spec_l3read.f (k + 1 + 1) l a x = if rd l a = 0 then spec_l3read.j1 k l (a + 1) x 0 (rd l a) (rd l a == 0) (rd l a) 0 else if rd l a = 1 then spec_l3read.j1 k l (a + 1) x 0 (rd l a) (rd l a == 1) (rd l a) 0 else spec_l3read.j1 k l (a + 1) x 0 (rd l a) (rd l a == 2) (rd l a) 0 := fun k => by
          rw [spec_l3read.f,if_neg c0,if_neg c1,decide_eq_false (by omega),spec_l3read.j0,if_neg (by decide),if_pos (by omega),if_pos (by omega),hr,ha1]
        generalize rd l a = q at *
        have flat : ∀ (b : Bool),(∀ k,spec_l3read.f (k + 1 + 1) l a x = spec_l3read.j1 k l (a + 1) x 0 q b q 0) → b = true → argsN q = 0 → q ≠ 6 → q ≠ 7 → Ev (fun k => spec_l3read.f k l a x) (if a < 0 ∨ (l.length : Int) ≤ a ∨ argsN q = -2 then noTy else if q = 6 then (if (getNum l (a + 1)).2 < 0 then noTy else close (readM l d) 6 (getNum l (a + 1)).1 (getNum l (getNum l (a + 1)).2).1 (getNum l (getNum l (a + 1)).2).2) else if q = 7 then close (readM l d) 7 (getNum l (a + 1)).1 0 (getNum l (a + 1)).2 else close (readM l d) q 0 (argsN q) (a + 1)) := by
          intro b h1 h2 h3 h6 h7
          rw [if_neg (by omega),if_neg h6,if_neg h7,h3]
          subst h2
          exact Ev.step2 h1 (Ev.step (f := fun k => spec_l3read.j5 k l (a + 1) x 0 q 0) (fun k => by rw [spec_l3read.j1,if_pos rfl]) (cl q 0 0 (a + 1) (by omega) (by omega) (by omega)))
        by_cases q0 : q = 0
        · exact flat (q == 0) (fun k => by rw [hf,if_pos q0]) (by simp [q0]) (by rw [q0]; rfl) (by omega) (by omega)
        by_cases q1 : q = 1
        · exact flat (q == 1) (fun k => by rw [hf,if_neg q0,if_pos q1]) (by simp [q1]) (by rw [q1]; rfl) (by omega) (by omega)
        by_cases q2 : q = 2
        · exact flat (q == 2) (fun k => by rw [hf,if_neg q0,if_neg q1]) (by simp [q2]) (by rw [q2]; rfl) (by omega) (by omega)
        have g2 : (q == 2) = false := by simp [q2]
        have two : ∀ (b : Bool) ,(∀ k,spec_l3read.j1 (k + 1) l (a + 1) x 0 q false q 0 = spec_l3read.j2 k l (a + 1) x 0 q b q 0) → b = true → Ev (fun k => spec_l3read.f k l a x) (close (readM l d) q 0 2 (a + 1)) := by
          intro b h1 h2
          subst h2
          refine Ev.step2 (f := fun k => spec_l3read.j1 k l (a + 1) x 0 q false q 0) (fun k => by rw [hf,if_neg q0,if_neg q1,g2]) ?_
          exact Ev.step2 (f := fun k => spec_l3read.j5 k l (a + 1) x 2 q 0) (fun k => by rw [h1,spec_l3read.j2,if_pos rfl]) (cl q 0 2 (a + 1) (by omega) (by omega) (by omega))
        by_cases q3 : q = 3
        · have e := two (q == 3) (fun k => by rw [spec_l3read.j1,if_neg (by decide),if_pos q3]) (by simp [q3])
          have h3 : argsN q = 2 := by rw [q3]; rfl
          rw [if_neg (by omega),if_neg (by omega),if_neg (by omega),h3]
          exact e
        by_cases q4 : q = 4
        · have e := two (q == 4) (fun k => by rw [spec_l3read.j1,if_neg (by decide),if_neg q3]) (by simp [q4])
          have h3 : argsN q = 2 := by rw [q4]; rfl
          rw [if_neg (by omega),if_neg (by omega),if_neg (by omega),h3]
          exact e
        have g4 : (q == 4) = false := by simp [q4]
        have hf3 : ∀ k,spec_l3read.f (k + 1 + 1 + 1 + 1) l a x = if q = 5 then spec_l3read.j5 k l (a + 1) x 1 q 0 else if q = 7 then spec_l3read.j3 k l (a + 1) x 0 (q == 7) q 0 else spec_l3read.j3 k l (a + 1) x 0 (q == 6) q 0 := fun k => by
          rw [hf,if_neg q0,if_neg q1,g2,spec_l3read.j1,if_neg (by decide),if_neg q3,g4,spec_l3read.j2,if_neg (by decide)]
        by_cases q5 : q = 5
        · have h3 : argsN q = 1 := by rw [q5]; rfl
          rw [if_neg (by omega),if_neg (by omega),if_neg (by omega),h3]
          exact Ev.step2 (f := fun k => spec_l3read.f (k + 1 + 1) l a x) (fun _ => rfl) (Ev.step2 (f := fun k => spec_l3read.j5 k l (a + 1) x 1 q 0) (fun k => by rw [hf3,if_pos q5]) (cl q 0 1 (a + 1) (by omega) (by omega) (by omega)))
        by_cases q7 : q = 7
        · have h3 : argsN q = 0 := by rw [q7]; rfl
          rw [if_neg (by omega),if_neg (by omega),if_pos q7]
          refine Ev.step2 (f := fun k => spec_l3read.f (k + 1 + 1) l a x) (fun _ => rfl) (Ev.step2 (f := fun k => spec_l3read.j3 k l (a + 1) x 0 true q 0) (fun k => by rw [hf3,if_neg q5,if_pos q7,show (q == 7) = true from by simp [q7]]) ?_)
          refine Ev.step (f := fun k => (spec_GetNum.f k l (a + 1)).bind fun bt131 => if bt131.2 ≥ 0 then spec_l3read.j4 k l bt131.2 x 0 (q == 6) q bt131.1 else spec_l3read.j4 k l bt131.2 x 0 false q bt131.1) (fun k => by rw [spec_l3read.j3,if_pos rfl]) ?_
          refine Ev.bind (spec_GetNum (l := l) (a := a + 1) hl hlen (by omega)) ?_
          refine Ev.congr (f := fun k => spec_l3read.j4 k l (getNum l (a + 1)).2 x 0 false q (getNum l (a + 1)).1) (fun k => by rw [show (q == 6) = false from by simp [q7],ite_self]) ?_
          by_cases c2 : (getNum l (a + 1)).2 < 0
          · rw [close,if_pos (.inl c2)]
            exact Ev.at1 fun k => by rw [spec_l3read.j4,if_neg (by decide),if_pos c2]; rfl
          · refine Ev.step (f := fun k => spec_l3read.j5 k l (getNum l (a + 1)).2 x 0 q (getNum l (a + 1)).1) (fun k => by rw [spec_l3read.j4,if_neg (by decide),if_neg c2,if_neg (by decide)]) ?_
            have := cl 7 (getNum l (a + 1)).1 0 (getNum l (a + 1)).2 hgn.2.2.2 c2 (by decide)
            rw [q7]
            exact this
        by_cases q6 : q = 6
        · have h3 : argsN q = -1 := by rw [q6]; rfl
          rw [if_neg (by omega),if_pos q6]
          refine Ev.step2 (f := fun k => spec_l3read.f (k + 1 + 1) l a x) (fun _ => rfl) (Ev.step2 (f := fun k => spec_l3read.j3 k l (a + 1) x 0 true q 0) (fun k => by rw [hf3,if_neg q5,if_neg q7,show (q == 6) = true from by simp [q6]]) ?_)
          refine Ev.step (f := fun k => (spec_GetNum.f k l (a + 1)).bind fun bt131 => if bt131.2 ≥ 0 then spec_l3read.j4 k l bt131.2 x 0 (q == 6) q bt131.1 else spec_l3read.j4 k l bt131.2 x 0 false q bt131.1) (fun k => by rw [spec_l3read.j3,if_pos rfl]) ?_
          refine Ev.bind (spec_GetNum (l := l) (a := a + 1) hl hlen (by omega)) ?_
          by_cases c2 : (getNum l (a + 1)).2 < 0
          · rw [if_pos c2]
            refine Ev.at1 fun k => ?_
            rw [if_neg (by omega),spec_l3read.j4,if_neg (by decide),if_pos c2]; rfl
          · rw [if_neg c2]
            refine Ev.step (f := fun k => (spec_GetNum.f k l (getNum l (a + 1)).2).bind fun bt133 => if bt133.2 < 0 then some (0,0,[],-1) else if bt133.1 > 3 then some (0,0,[],-1) else spec_l3read.j5 k l bt133.2 x bt133.1 q (getNum l (a + 1)).1) (fun k => by rw [if_pos (by omega),show (q == 6) = true from by simp [q6],spec_l3read.j4,if_pos rfl]) ?_
            refine Ev.bind (spec_GetNum (l := l) (a := (getNum l (a + 1)).2) hl hlen (by omega)) ?_
            have hgn2 := getNum_le hl (getNum l (a + 1)).2
            by_cases c3 : (getNum l (getNum l (a + 1)).2).2 < 0
            · rw [close,if_pos (.inl c3)]
              exact Ev.const fun k => by rw [if_pos c3]; rfl
            · by_cases c4 : (getNum l (getNum l (a + 1)).2).1 > 3
              · rw [close,if_pos (.inr c4)]
                exact Ev.const fun k => by rw [if_neg c3,if_pos c4]; rfl
              · refine Ev.congr (f := fun k => spec_l3read.j5 k l (getNum l (getNum l (a + 1)).2).2 x (getNum l (getNum l (a + 1)).2).1 q (getNum l (a + 1)).1) (fun k => by rw [if_neg c3,if_neg c4]) ?_
                rw [q6]
                exact cl 6 (getNum l (a + 1)).1 _ _ hgn2.2.2.2 c3 c4
        · rcases argsN_cases q with h | h | h | h | h | h <;> try omega
          rw [if_pos (.inr (.inr h.2.2.2.2.2.2.2.2))]
          refine Ev.step2 (f := fun k => spec_l3read.f (k + 1 + 1) l a x) (fun _ => rfl) (Ev.step2 (f := fun k => spec_l3read.j3 k l (a + 1) x 0 false q 0) (fun k => by rw [hf3,if_neg q5,if_neg q7,show (q == 6) = false from by simp [q6]]) ?_)
          exact Ev.at1 fun k => by rw [spec_l3read.j3,if_neg (by decide)]; rfl

def tyRead (l : List Int) (a : Int) : R4 := if (readM l 10 a).2.2.2 < 0 then noTy else if TyOk ⟨(readM l 10 a).1,(readM l 10 a).2.1,(readM l 10 a).2.2.1⟩ = true then readM l 10 a else noTy
theorem impl_TyRead {l : List Int} {a : Int} (hl : Byt l) (hlen : l.length ≤ 281474976710656) (ha : a ≤ 9223372036854775807) : Ev (fun k => impl_TyRead.f k l a) (tyRead l a) := by
  refine Ev.congr (fun k => by rw [impl_TyRead.f]) (Ev.bind (impl_read hl hlen 10 a 1 ha (by omega) (by omega)) ?_)
  unfold tyRead
  by_cases c : (readM l 10 a).2.2.2 < 0
  · rw [if_pos c]
    exact Ev.const fun k => by rw [if_pos c]; rfl
  · rw [if_neg c]
    refine Ev.congr (fun k => by rw [if_neg c]) (Ev.bind (impl_TyOk ⟨(readM l 10 a).1,(readM l 10 a).2.1,(readM l 10 a).2.2.1⟩) ?_)
    by_cases c2 : TyOk ⟨(readM l 10 a).1,(readM l 10 a).2.1,(readM l 10 a).2.2.1⟩ = true
    · exact Ev.const fun k => by rw [if_pos c2,if_pos c2]
    · exact Ev.const fun k => by rw [if_neg c2,if_neg c2]; rfl
theorem spec_TyRead {l : List Int} {a : Int} (hl : Byt l) (hlen : l.length ≤ 281474976710656) (ha : a ≤ 9223372036854775807) : Ev (fun k => spec_TyRead.f k l a) (tyRead l a) := by
  refine Ev.congr (fun k => by rw [spec_TyRead.f]) (Ev.bind (spec_read hl hlen 10 a 1 ha (by omega) (by omega)) ?_)
  unfold tyRead
  by_cases c : (readM l 10 a).2.2.2 < 0
  · rw [if_pos c]
    exact Ev.const fun k => by rw [if_pos c]; rfl
  · rw [if_neg c]
    refine Ev.congr (fun k => by rw [if_neg c]) (Ev.bind (spec_TyOk ⟨(readM l 10 a).1,(readM l 10 a).2.1,(readM l 10 a).2.2.1⟩) ?_)
    by_cases c2 : TyOk ⟨(readM l 10 a).1,(readM l 10 a).2.1,(readM l 10 a).2.2.1⟩ = true
    · exact Ev.const fun k => by rw [if_pos c2,if_pos c2]
    · exact Ev.const fun k => by rw [if_neg c2,if_neg c2]; rfl
theorem tyRead_ok {l : List Int} (hl : Byt l) (a : Int) : N3 11 ⟨(tyRead l a).1,(tyRead l a).2.1,(tyRead l a).2.2.1⟩ := by
  unfold tyRead
  have h0 : N3 11 ⟨(noTy).1,(noTy).2.1,(noTy).2.2.1⟩ := ⟨by simp [noTy],fun a h => by cases h⟩
  split
  · exact h0
  · split
    · exact (readM_ok hl 10 a).2
    · exact h0

/-- A bound on how many parts there are. -/
def most : Nat → Nat
  | 0 => 0
  | n + 1 => 3 * (1 + most n)
end Go.Proofs.Ytbifoajnmikhiaa.E

/- Marks on trees: each part's numbers are told anew,and are held. -/
namespace Go.Proofs.Ytbifoajnmikhiaa.E
open Go Go.RowKit Go.Proofs.Ytbifoajnmikhiaa.PD Go.Proofs.Ytbifoajnmikhiaa.M Go.Proofs.YtbifoajnmikhiaaW.PrintWords Go.Proofs.YtbifoajnmikhiaaW.PrintLast Go.Proofs.YtbifoajnmikhiaaW.PrintMore

/-- How many parts a list of trees has. -/
def cl : Nat → List T → Nat
  | 0,_ => 0
  | n + 1,l => (l.map (fun a => 1 + cl n a.f2)).sum

theorem markS (n : Nat) : ∀ (l : List T) (x : Int),(∀ a ∈ l,N2 n a) → l.length ≤ 281474976710656 → 0 ≤ x → x + 2 * (cl n l : Int) ≤ 4611686018427387904 →
    ∃ l',Ev (fun k => laws_markTyS.l0 k l x 0) (x + 2 * (cl n l : Int),l') ∧ Ev (fun k => laws_heldTyS.f k l' x) (x + 2 * (cl n l : Int)) := by
  induction n with
  | zero =>
    intro l x hl _ _ _
    obtain rfl : l = [] := by
      cases l with
      | nil => rfl
      | cons a t => exact (hl a List.mem_cons_self).elim
    refine ⟨[],Ev.at1 fun k => ?_,Ev.at2 fun k => ?_⟩
    · rw [laws_markTyS.l0,if_neg (by simp)]
      simp [cl]
    · rw [laws_heldTyS.f,laws_heldTyS.l0,if_neg (by simp)]
      simp [cl]
  | succ n ih =>
    have loop : ∀ (l p : List T) (x : Int),(∀ a ∈ l,N2 (n + 1) a) → p.length + l.length ≤ 281474976710656 → 0 ≤ x → x + 2 * (cl (n + 1) l : Int) ≤ 4611686018427387904 →
        ∃ l',Ev (fun k => laws_markTyS.l0 k (p ++ l) x (p.length : Int)) (x + 2 * (cl (n + 1) l : Int),p ++ l') ∧ Ev (fun k => laws_heldTyS.l0 k (p ++ l') x (p.length : Int)) (x + 2 * (cl (n + 1) l : Int)) := by
      intro l
      induction l with
      | nil =>
        intro p x _ _ _ _
        refine ⟨[],Ev.at1 fun k => ?_,Ev.at1 fun k => ?_⟩
        · rw [laws_markTyS.l0,if_neg (by simp)]
          simp [cl]
        · rw [laws_heldTyS.l0,if_neg (by simp)]
          simp [cl]
      | cons a t iht =>
        intro p x hq hp h0 h1
        rw [List.length_cons] at hp
        have hcl : cl (n + 1) (a :: t) = 1 + cl n a.f2 + cl (n + 1) t := by simp [cl]
        rw [hcl] at h1
        obtain ⟨hla,hqa⟩ := hq a List.mem_cons_self
        obtain ⟨l1,m1,e1⟩ := ih a.f2 (x + 2) hqa (by omega) (by omega) (by omega)
        obtain ⟨l2,m2,e2⟩ := iht (p ++ [⟨x,x + 1,l1⟩]) (x + 2 + 2 * (cl n a.f2 : Int)) (fun b hb => hq b (List.mem_cons_of_mem _ hb)) (by simp; omega) (by omega) (by omega)
        have hw1 : wrap64 (x + 1) = x + 1 := w64 (by omega) (by omega)
        have hw2 : wrap64 (x + 1 + 1) = x + 2 := by rw [w64 (by omega) (by omega)]; omega
        have hp1 : wrap64 ((p.length : Int) + 1) = ((p ++ [(⟨x,x + 1,l1⟩ : T)]).length : Int) := by rw [w64 (by omega) (by omega)]; simp
        have hs : ∀ (b c : T),(p ++ b :: t).set p.length c = p ++ c :: t := fun b c => by simp
        have hfin : x + 2 + 2 * (cl n a.f2 : Int) + 2 * (cl (n + 1) t : Int) = x + 2 * (cl (n + 1) (a :: t) : Int) := by rw [hcl]; omega
        refine ⟨⟨x,x + 1,l1⟩ :: l2,?_,?_⟩
        · refine Ev.val (Ev.step (fun k => ?_) (Ev.bind m1 (f := fun k t116 => laws_markTyS.l0 k (p ++ [⟨x,x + 1,t116.2⟩] ++ t) t116.1 ((p ++ [(⟨x,x + 1,l1⟩ : T)]).length : Int)) m2)) ?_
          · rw [laws_markTyS.l0,if_pos (by simp; omega),if_pos (by omega),Option.bind_some,Option.bind_some]
            simp only [Int.toNat_natCast,hs,rdT,hw1,hw2,hp1,List.append_assoc,List.singleton_append]
          · rw [hfin]; simp
        · have e3 := e2
          rw [List.append_assoc,List.singleton_append] at e3
          refine Ev.val (Ev.step (fun k => ?_) (Ev.bind e1 (f := fun k t112 => if t112 < 0 then some (-1) else laws_heldTyS.l0 k (p ++ ⟨x,x + 1,l1⟩ :: l2) t112 ((p ++ [(⟨x,x + 1,l1⟩ : T)]).length : Int)) (Ev.congr (fun k => ?_) e3))) hfin
          · rw [laws_heldTyS.l0,if_pos (by simp; omega),if_pos (by omega),rdT]
            simp only [hw1,hw2,hp1,↓reduceIte]
          · rw [if_neg (by omega)]
    intro l x hl hlen h0 h1
    obtain ⟨l',e1,e2⟩ := loop l [] x hl (by simpa using hlen) h0 h1
    exact ⟨l',e1,Ev.step (fun k => by rw [laws_heldTyS.f]; rfl) e2⟩

theorem markT (n : Nat) (y : T) (x : Int) (h : N2 (n + 1) y) (h0 : 0 ≤ x) (h1 : x + 2 * (cl n y.f2 : Int) ≤ 4611686018427387904) :
    ∃ m l',0 ≤ m ∧ Ev (fun k => laws_markTy.f k y.f0 y.f1 y.f2 x) (m,l') ∧ Ev (fun k => laws_heldTy.f k y.f0 y.f1 l' x) m := by
  obtain ⟨l',e1,e2⟩ := markS n y.f2 x h.2 (by have := h.1; omega) h0 h1
  refine ⟨x + 2 * (cl n y.f2 : Int),l',by omega,?_,?_⟩
  · exact Ev.congr (fun k => by rw [laws_markTy.f,laws_markTyS.f]) (Ev.bind e1 (f := fun _ t118 => some (t118.1,t118.2)) (Ev.now _))
  · exact Ev.congr (fun k => by rw [laws_heldTy.f]) (Ev.bind e2 (f := fun _ t => if t < 0 then some (-1) else some t) (Ev.const fun k => by rw [if_neg (by omega)]))

end Go.Proofs.Ytbifoajnmikhiaa.E

/- The program's TyRead returns what the reference's TyRead returns,at all bytes and places,in new memory,and leaves its argument. No condition. -/
namespace Go.Proofs.Ytbifoajnmikhiaa.Pure
open Go Go.RowKit Go.Proofs.Ytbifoajnmikhiaa.PD Go.Proofs.Ytbifoajnmikhiaa.M Go.Proofs.Ytbifoajnmikhiaa.E Go.Proofs.YtbifoajnmikhiaaW.PrintWords Go.Proofs.YtbifoajnmikhiaaW.PrintLast

theorem cl_most (n : Nat) : ∀ l : List T,l.length ≤ 3 → (∀ a ∈ l,N3 n a) → cl n l ≤ most n := by
  induction n with
  | zero => intro l _ _; exact Nat.le_refl _
  | succ n ih =>
    intro l hl hq
    have h1 : ∀ a ∈ l,1 + cl n a.f2 ≤ 1 + most n := fun a ha => by
      have := hq a ha
      have := ih a.f2 this.1 this.2
      omega
    have h2 : ∀ l : List T,(∀ a ∈ l,1 + cl n a.f2 ≤ 1 + most n) → (l.map (fun a => 1 + cl n a.f2)).sum ≤ l.length * (1 + most n) := by
      intro l
      induction l with
      | nil => intro _; simp
      | cons a t iht =>
        intro h
        have h3 := iht (fun b hb => h b (List.mem_cons_of_mem _ hb))
        have h4 := h a List.mem_cons_self
        rw [List.map_cons,List.sum_cons,List.length_cons,Nat.add_mul,Nat.one_mul]
        omega
    have h5 := h2 l h1
    have h6 : l.length * (1 + most n) ≤ 3 * (1 + most n) := Nat.mul_le_mul_right _ hl
    rw [cl,most]
    omega

theorem FnExactTyRead : laws_FnExactTyRead.Pure := by
  intro l a _ hlen hb ha
  have hl : Byt l := fun x hx => wf_u8 (hb x hx)
  have ha2 := wf_i64 ha
  by_cases hbig : (l.length : Int) > 1048576
  · exact ⟨0,by rw [laws_FnExactTyRead.f,if_pos hbig]⟩
  · obtain ⟨K1,h1⟩ := toByteS (l := l) (by omega)
    obtain ⟨K2,h2⟩ := spec_TyRead (l := l) (a := a) hl (by omega) ha2.2
    obtain ⟨K3,h3⟩ := impl_TyRead (l := l) (a := a) hl (by omega) ha2.2
    have hn := tyRead_ok hl a
    have hb2 : cl 10 (tyRead l a).2.2.1 ≤ most 10 := cl_most 10 _ hn.1 hn.2
    have hm10 : most 10 = 88572 := by decide
    obtain ⟨K4,h4⟩ := eqTy 11 ⟨(tyRead l a).1,(tyRead l a).2.1,(tyRead l a).2.2.1⟩ (hn.to 11 _)
    obtain ⟨K5,h5⟩ := eqByteS (a := l) (b := l) (by omega)
    obtain ⟨K6,h6⟩ := markB (l := l) (a := 1) (by omega) (by omega) (by omega)
    obtain ⟨m,l',hm0,⟨K7,h7⟩,⟨K8,h8⟩⟩ := markT 10 ⟨(tyRead l a).1,(tyRead l a).2.1,(tyRead l a).2.2.1⟩ 1 (hn.to 11 _) (by omega) (by simp only; omega)
    refine ⟨K1 + K2 + K3 + K4 + K5 + K6 + K7 + K8,?_⟩
    have g1 := h1 (K1 + K2 + K3 + K4 + K5 + K6 + K7 + K8) (by omega)
    have g2 := h2 (K1 + K2 + K3 + K4 + K5 + K6 + K7 + K8) (by omega)
    have g3 := h3 (K1 + K2 + K3 + K4 + K5 + K6 + K7 + K8) (by omega)
    have g4 := h4 (K1 + K2 + K3 + K4 + K5 + K6 + K7 + K8) (by omega)
    have g5 := h5 (K1 + K2 + K3 + K4 + K5 + K6 + K7 + K8) (by omega)
    have g6 := h6 (K1 + K2 + K3 + K4 + K5 + K6 + K7 + K8) (by omega)
    have g7 := h7 (K1 + K2 + K3 + K4 + K5 + K6 + K7 + K8) (by omega)
    have g8 := h8 (K1 + K2 + K3 + K4 + K5 + K6 + K7 + K8) (by omega)
    generalize K1 + K2 + K3 + K4 + K5 + K6 + K7 + K8 = K at *
    dsimp only at g1 g2 g3 g4 g5 g6 g7 g8
    rw [decide_eq_true rfl] at g5
    rw [laws_FnExactTyRead.f,if_neg hbig,g2,Option.bind_some,g3,Option.bind_some,g6,Option.bind_some,g7,Option.bind_some]
    exact if_pos ⟨g1,g4,rfl,g5,by simp only; omega,g8,hm0⟩

end Go.Proofs.Ytbifoajnmikhiaa.Pure

