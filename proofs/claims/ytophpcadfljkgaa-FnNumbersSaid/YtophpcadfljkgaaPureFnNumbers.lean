import Derived.Laws.BitsLemmas
import Derived.RowKit
import Derived.Test.YtophpcadfljkgaaWMore
import Derived.Test.YtophpcadfljkgaaPAx0
import Derived.Test.YtophpcadfljkgaaPAx2
import Derived.Test.YtophpcadfljkgaaPAx3
import Derived.Test.YtophpcadfljkgaaPAx4
import Derived.Test.YtophpcadfljkgaaPAx5
import Derived.Test.YtophpcadfljkgaaPAx8
import Derived.Test.YtophpcadfljkgaaPAx9
import Derived.Test.YtophpcadfljkgaaPAx10
import Derived.Test.YtophpcadfljkgaaPAx11
import Derived.Test.YtophpcadfljkgaaPAx12
import Derived.Test.YtophpcadfljkgaaPAx13
import Derived.Test.YtophpcadfljkgaaPAx14
import Derived.Test.YtophpcadfljkgaaPAx16
import Derived.Test.YtophpcadfljkgaaPAx17
import Derived.Test.YtophpcadfljkgaaPAx18
import Derived.Test.YtophpcadfljkgaaPAx19
import Derived.Test.YtophpcadfljkgaaPAx20
import Derived.Test.YtophpcadfljkgaaPAx22
import Derived.Test.YtophpcadfljkgaaPAx24
import Derived.Test.YtophpcadfljkgaaPAx26
import Derived.Test.YtophpcadfljkgaaPAx27
import Derived.Test.YtophpcadfljkgaaPAx29
import Derived.Test.YtophpcadfljkgaaPAx30
import Derived.Test.YtophpcadfljkgaaPAx31
import Derived.Test.YtophpcadfljkgaaPAx32
import Derived.Test.YtophpcadfljkgaaPAx33
/- Plain facts on Go's words: bounds of numbers,masks,lists. -/
namespace Go.Proofs.Ytophpcadfljkgaa.M
open Go Go.RowKit Go.Proofs.YtophpcadfljkgaaW.PrintWords Go.Proofs.YtophpcadfljkgaaW.PrintMore

theorem wf_u8 {x : Int} (h : (Lit.int .u8 x).wf = true) : 0 ≤ x ∧ x < 256 := by
  simp only [Lit.wf,IntKind.min,IntKind.max,IntKind.signed,IntKind.bits,Bool.and_eq_true] at h
  simp at h
  omega
theorem wf_i64 {x : Int} (h : (Lit.int .i64 x).wf = true) : -9223372036854775808 ≤ x ∧ x ≤ 9223372036854775807 := by
  simp only [Lit.wf,IntKind.min,IntKind.max,IntKind.signed,IntKind.bits,Bool.and_eq_true] at h
  simp at h
  omega
theorem w64 {n : Int} (h0 : -9223372036854775808 ≤ n) (h1 : n ≤ 9223372036854775807) : wrap64 n = n := by
  unfold wrap64
  omega
theorem w64_le (n : Int) : -9223372036854775808 ≤ wrap64 n ∧ wrap64 n ≤ 9223372036854775807 := by
  unfold wrap64
  omega
theorem and_mask (x : Int) (i : Nat) (hi : i ≤ 62) : Go.bits .and .i64 x (2 ^ i - 1) = x % 2 ^ i := by
  have hpos : 0 < 2 ^ i := Nat.two_pow_pos i
  have hle : 2 ^ i ≤ 2 ^ 62 := Nat.pow_le_pow_right (by decide) hi
  have hc : ((2 : Int) ^ i - 1) = ((2 ^ i - 1 : Nat) : Int) := by
    rw [Int.natCast_sub hpos]; simp
  have hm : (2 ^ i - 1) % 2 ^ 64 = 2 ^ i - 1 := Nat.mod_eq_of_lt (by omega)
  rw [hc]
  have hb : Go.bits .and .i64 x ((2 ^ i - 1 : Nat) : Int) = IntKind.i64.wrap (((BitVec.ofInt 64 x &&& BitVec.ofInt 64 ((2 ^ i - 1 : Nat) : Int)).toNat : Nat) : Int) := rfl
  rw [hb,BitVec.ofInt_natCast,BitVec.toNat_and,BitVec.toNat_ofNat,BitVec.toNat_ofInt,hm,Nat.and_two_pow_sub_one_eq_mod]
  have e : (((x % ((2 ^ 64 : Nat) : Int)).toNat % 2 ^ i : Nat) : Int) = x % 2 ^ i := by
    rw [Int.natCast_emod,Int.toNat_of_nonneg (Int.emod_nonneg _ (by decide))]
    have : ((2 ^ i : Nat) : Int) = (2 : Int) ^ i := by simp
    rw [this]
    apply Int.emod_emod_of_dvd
    refine ⟨2 ^ (64 - i),?_⟩
    rw [← Int.pow_add,Nat.add_sub_cancel' (by omega)]
    rfl
  rw [e,IntKind.wrap_i64]
  have h0 : 0 ≤ x % 2 ^ i := Int.emod_nonneg _ (by have : (0 : Int) < 2 ^ i := Int.pow_pos (by decide); omega)
  have h1 : x % 2 ^ i < 2 ^ i := Int.emod_lt_of_pos _ (Int.pow_pos (by decide))
  have h2 : (2 : Int) ^ i ≤ 2 ^ 62 := by exact_mod_cast hle
  omega
theorem and127 (x : Int) : Go.bits .and .i64 x 127 = x % 128 := and_mask x 7 (by decide)
theorem and255 (x : Int) : Go.bits .and .i64 x 255 = x % 256 := and_mask x 8 (by decide)
theorem or128 {x : Int} (h0 : 0 ≤ x) (h1 : x < 128) : Go.bits .or .u8 x 128 = 128 + x := by
  have e : ∀ y : Fin 128,Go.bits .or .u8 (y.val : Int) 128 = 128 + (y.val : Int) := by decide +kernel
  have := e ⟨x.toNat,by omega⟩
  simp only [Int.toNat_of_nonneg h0] at this
  exact this

theorem rd_lt {l : List Int} {i : Int} (h0 : 0 ≤ i) (h1 : i < (l.length : Int)) : ∃ h : i.toNat < l.length,rd l i = l[i.toNat]'h :=
  ⟨by omega,by unfold rd; rw [List.getD_eq_getElem?_getD,List.getElem?_eq_getElem (by omega)]; rfl⟩
theorem rd_mem {l : List Int} {i : Int} (h0 : 0 ≤ i) (h1 : i < (l.length : Int)) : rd l i ∈ l := by
  obtain ⟨h,e⟩ := rd_lt h0 h1
  rw [e]
  exact List.getElem_mem h
theorem drop_rd {l : List Int} {i : Int} (h0 : 0 ≤ i) (h1 : i < (l.length : Int)) : l.drop i.toNat = rd l i :: l.drop (i + 1).toNat := by
  obtain ⟨h,e⟩ := rd_lt h0 h1
  rw [e,List.drop_eq_getElem_cons h]
  congr 2
  omega

theorem p128 {i : Nat} (h : i ≤ 4) : (128 : Int) ^ i ≤ 128 ^ 4 := by exact_mod_cast Nat.pow_le_pow_right (by decide : 0 < 128) h

theorem Ev.to {α : Type} {g f : Nat → Option α} {r : α} (k : Ev f r) (h : ∀ k,g k = f k) : Ev g r := Ev.congr h k
theorem Ev.val {α : Type} {g : Nat → Option α} {r r' : α} (k : Ev g r) (h : r = r') : Ev g r' := h ▸ k
theorem Ev.const {α : Type} {g : Nat → Option α} {r : α} (h : ∀ k,g k = some r) : Ev g r := ⟨0,fun k _ => h k⟩

theorem Ev.use {α : Type} {g : Nat → Option α} {r : α} (h : Ev g r) : ∃ K,∀ k,K ≤ k → ∀ {β : Type} (f : α → Option β),(g k).bind f = f r := by
  obtain ⟨K,h⟩ := h
  exact ⟨K,fun k hk β f => by rw [h k hk,Option.bind_some]⟩
theorem Ev.step2 {α : Type} {g f : Nat → Option α} {r : α} (h : ∀ k,g (k + 1 + 1) = f k) (k : Ev f r) : Ev g r := Ev.step (fun _ => rfl) (Ev.step h k)
theorem Ev.at1 {α : Type} {g : Nat → Option α} {r : α} (h : ∀ k,g (k + 1) = some r) : Ev g r := Ev.step (f := fun _ => some r) h (Ev.now r)
theorem Ev.at2 {α : Type} {g : Nat → Option α} {r : α} (h : ∀ k,g (k + 1 + 1) = some r) : Ev g r := Ev.step2 (f := fun _ => some r) h (Ev.now r)

end Go.Proofs.Ytophpcadfljkgaa.M

/- Plain facts on numbers as bytes: what getNum reads,what putNum writes. -/
namespace Go.Proofs.Ytophpcadfljkgaa.M

def Byt (l : List Int) : Prop := ∀ x ∈ l,0 ≤ x ∧ x < 256

theorem Byt.nil : Byt [] := fun x h => by cases h
theorem Byt.append {a b : List Int} (ha : Byt a) (hb : Byt b) : Byt (a ++ b) := fun x h => by
  rcases List.mem_append.1 h with h | h
  · exact ha x h
  · exact hb x h
theorem Byt.left {a b : List Int} (h : Byt (a ++ b)) : Byt a := fun x hx => h x (List.mem_append_left _ hx)
theorem Byt.right {a b : List Int} (h : Byt (a ++ b)) : Byt b := fun x hx => h x (List.mem_append_right _ hx)
theorem Byt.cons {c : Int} {a : List Int} (h0 : 0 ≤ c) (h1 : c < 256) (ha : Byt a) : Byt (c :: a) := fun x h => by
  rcases List.mem_cons.1 h with h | h
  · subst h
    exact ⟨h0,h1⟩
  · exact ha x h
theorem Byt.take {a : List Int} (n : Nat) (h : Byt a) : Byt (a.take n) := fun x hx => h x (List.mem_of_mem_take hx)
theorem Byt.drop {a : List Int} (n : Nat) (h : Byt a) : Byt (a.drop n) := fun x hx => h x (List.mem_of_mem_drop hx)

def gnl : Nat → Nat → Int → List Int → Option (Int × Nat)
  | 0,_,_,_ => none
  | _ + 1,_,_,[] => none
  | d + 1,i,n,c :: t =>
    if 128 ≤ c then gnl d (i + 1) (n + c % 128 * 128 ^ i) t
    else if (0 < i ∧ c = 0) ∨ 2147483647 < n + c % 128 * 128 ^ i then none else some (n + c % 128 * 128 ^ i,i + 1)

def gres (a : Int) : Option (Int × Nat) → Int × Int
  | none => (0,-1)
  | some (m,c) => (m,a + c)
def getNum (l : List Int) (a : Int) : Int × Int := if a < 0 then (0,-1) else gres a (gnl 5 0 0 (l.drop a.toNat))

def pnl : Nat → Int → List Int
  | 0,n => [n % 256]
  | d + 1,n => if 127 < n then (128 + n % 128) :: pnl d (n / 128) else [n]

def putNum (b : List Int) (n : Int) : List Int := if 0 ≤ n ∧ n ≤ 2147483647 then b ++ pnl 4 n else b

theorem pnl_len (d : Nat) : ∀ n,1 ≤ (pnl d n).length ∧ (pnl d n).length ≤ d + 1 := by
  induction d with
  | zero => intro n; simp [pnl]
  | succ d ih =>
    intro n
    unfold pnl
    have := ih (n / 128)
    split
    · simp only [List.length_cons]; omega
    · simp only [List.length_cons,List.length_nil]; omega

theorem pnl_byt (d : Nat) : ∀ n,0 ≤ n → Byt (pnl d n) := by
  induction d with
  | zero =>
    intro n h0
    exact Byt.cons (by omega) (by omega) Byt.nil
  | succ d ih =>
    intro n h0
    unfold pnl
    split
    · exact Byt.cons (by omega) (by omega) (ih _ (by omega))
    · exact Byt.cons (by omega) (by omega) Byt.nil

theorem putNum_byt {b : List Int} (n : Int) (hb : Byt b) : Byt (putNum b n) := by
  unfold putNum
  split
  · rename_i h
    exact hb.append (pnl_byt 4 n h.1)
  · exact hb

theorem putNum_len (b : List Int) (n : Int) : (putNum b n).length ≤ b.length + 5 := by
  unfold putNum
  have := (pnl_len 4 n).2
  split
  · rw [List.length_append]; omega
  · omega

theorem split128 (v u : Int) : v % 128 * u + v / 128 * (u * 128) = v * u := by
  have h := Int.emod_add_mul_ediv v 128
  calc v % 128 * u + v / 128 * (u * 128) = (v % 128 + 128 * (v / 128)) * u := by
        rw [Int.add_mul]; congr 1; rw [Int.mul_comm u 128,← Int.mul_assoc,Int.mul_comm (v / 128) 128]
    _ = v * u := by rw [h]

theorem gnl_pnl (d : Nat) : ∀ (i : Nat) (n v : Int) (t : List Int),0 ≤ v → v < 128 ^ (d + 1) → (0 < i → v ≠ 0) → n + v * 128 ^ i ≤ 2147483647 →
    gnl (d + 1) i n (pnl d v ++ t) = some (n + v * 128 ^ i,i + (pnl d v).length) := by
  induction d with
  | zero =>
    intro i n v t h0 h1 h2 h3
    have hv : v % 256 = v := by omega
    have hv2 : v % 128 = v := by omega
    have hc : ¬ ((0 < i ∧ v = 0) ∨ 2147483647 < n + v * 128 ^ i) := by
      rintro (⟨a,b⟩ | a)
      · exact h2 a b
      · omega
    simp only [pnl,hv,List.cons_append,List.nil_append,gnl,hv2,List.length_cons,List.length_nil]
    rw [if_neg (by omega),if_neg hc]
  | succ d ih =>
    intro i n v t h0 h1 h2 h3
    by_cases h : 127 < v
    · have e : pnl (d + 1) v = (128 + v % 128) :: pnl d (v / 128) := by rw [pnl,if_pos h]
      have e2 : (128 + v % 128) % 128 = v % 128 := by omega
      have hs := split128 v (128 ^ i)
      have h128 : v / 128 < 128 ^ (d + 1) := by
        rw [Int.pow_succ] at h1
        omega
      have := ih (i + 1) (n + v % 128 * 128 ^ i) (v / 128) t (by omega) h128 (fun _ => by omega) (by rw [Int.pow_succ,Int.add_assoc,hs]; exact h3)
      rw [e,List.cons_append,gnl,if_pos (by omega),e2,this,Int.pow_succ,Int.add_assoc,hs,List.length_cons]
      congr 2
      omega
    · have hv2 : v % 128 = v := by omega
      have hc : ¬ ((0 < i ∧ v = 0) ∨ 2147483647 < n + v * 128 ^ i) := by
        rintro (⟨a,b⟩ | a)
        · exact h2 a b
        · omega
      have e : pnl (d + 1) v = [v] := by rw [pnl,if_neg h]
      rw [e,List.cons_append,gnl,if_neg (by omega),hv2,if_neg hc]
      rfl

theorem gnl_some (d : Nat) : ∀ (i : Nat) (n : Int) (l : List Int) (m : Int) (c : Nat),Byt l → gnl (d + 1) i n l = some (m,c) →
    ∃ v t,0 ≤ v ∧ v < 128 ^ (d + 1) ∧ (0 < i → v ≠ 0) ∧ m = n + v * 128 ^ i ∧ l = pnl d v ++ t ∧ c = i + (pnl d v).length ∧ m ≤ 2147483647 := by
  induction d with
  | zero =>
    intro i n l m c hl h
    cases l with
    | nil => simp [gnl] at h
    | cons x t =>
      have hx := hl x List.mem_cons_self
      rw [gnl] at h
      split at h
      · simp [gnl] at h
      · split at h
        · cases h
        · rename_i h1 h2
          have e : x % 128 = x := by omega
          simp only [Option.some.injEq,Prod.mk.injEq,e] at h
          rw [e] at h2
          refine ⟨x,t,hx.1,by omega,fun a b => h2 (.inl ⟨a,b⟩),h.1.symm,?_,?_,?_⟩
          · have : x % 256 = x := by omega
            simp [pnl,this]
          · simp [pnl,h.2]
          · have : ¬ (2147483647 < n + x * 128 ^ i) := fun a => h2 (.inr a)
            omega
  | succ d ih =>
    intro i n l m c hl h
    cases l with
    | nil => simp [gnl] at h
    | cons x t =>
      have hx := hl x List.mem_cons_self
      rw [gnl] at h
      split at h
      · rename_i h1
        obtain ⟨v,t',hv0,hv1,hv2,hm,ht,hc,hmm⟩ := ih _ _ _ _ _ (fun y hy => hl y (List.mem_cons_of_mem _ hy)) h
        have hv3 := hv2 (by omega)
        have hd : (x % 128 + 128 * v) / 128 = v := by omega
        have hmo : (x % 128 + 128 * v) % 128 = x % 128 := by omega
        have e : pnl (d + 1) (x % 128 + 128 * v) = x :: pnl d v := by
          rw [pnl,if_pos (by omega),hd,hmo]
          congr 1
          omega
        refine ⟨x % 128 + 128 * v,t',by omega,?_,fun _ => by omega,?_,?_,?_,hmm⟩
        · rw [Int.pow_succ]
          omega
        · rw [hm,Int.pow_succ,Int.add_mul,Int.add_assoc,Int.mul_comm 128 v,Int.mul_assoc,Int.mul_comm 128]
        · rw [e,ht]; rfl
        · rw [e,hc,List.length_cons]; omega
      · split at h
        · cases h
        · rename_i h1 h2
          have e : x % 128 = x := by omega
          simp only [Option.some.injEq,Prod.mk.injEq,e] at h
          rw [e] at h2
          have e3 : pnl (d + 1) x = [x] := by rw [pnl,if_neg (by omega)]
          have hp : (128 : Int) ≤ 128 ^ (d + 1 + 1) := by
            rw [Int.pow_succ]
            have : (0 : Int) < 128 ^ (d + 1) := Int.pow_pos (by omega)
            omega
          refine ⟨x,t,hx.1,by omega,fun a b => h2 (.inl ⟨a,b⟩),h.1.symm,?_,?_,?_⟩
          · rw [e3]; rfl
          · rw [e3,← h.2]; rfl
          · have : ¬ (2147483647 < n + x * 128 ^ i) := fun a => h2 (.inr a)
            omega

theorem getNum_put (b t : List Int) (n : Int) (h0 : 0 ≤ n) (h1 : n ≤ 2147483647) : getNum (b ++ pnl 4 n ++ t) b.length = (n,(b.length : Int) + ((pnl 4 n).length : Int)) := by
  unfold getNum
  rw [if_neg (by omega),Int.toNat_natCast,List.append_assoc,List.drop_left]
  rw [gnl_pnl 4 0 0 n t h0 (by omega) (fun h => by omega) (by omega)]
  simp [gres]

/-- What is read: nothing,or just the bytes of a number. -/
theorem getNum_cases {l : List Int} (a : Int) (hl : Byt l) : getNum l a = (0,-1) ∨
    ∃ m t,0 ≤ a ∧ 0 ≤ m ∧ m ≤ 2147483647 ∧ a.toNat ≤ l.length ∧ l = l.take a.toNat ++ (pnl 4 m ++ t) ∧ getNum l a = (m,a + (pnl 4 m).length) := by
  unfold getNum
  split
  · exact .inl rfl
  · rename_i h
    cases e : gnl 5 0 0 (l.drop a.toNat) with
    | none => exact .inl rfl
    | some p =>
      obtain ⟨m,c⟩ := p
      obtain ⟨v,t,hv0,hv1,_,hm,ht,hc,hmm⟩ := gnl_some 4 _ _ _ _ _ (hl.drop _) e
      have hmv : m = v := by omega
      subst hmv
      refine .inr ⟨m,t,by omega,hv0,hmm,?_,?_,?_⟩
      · have h1 := congrArg List.length ht
        have h2 := pnl_len 4 m
        rw [List.length_drop,List.length_append] at h1
        omega
      · rw [← ht,List.take_append_drop]
      · simp only [gres,hc,Nat.zero_add]

theorem getNum_fst (l : List Int) (a : Int) (h : (getNum l a).2 < 0) (hl : Byt l) : getNum l a = (0,-1) := by
  rcases getNum_cases a hl with e | ⟨m,t,h0,_,_,_,_,e⟩
  · exact e
  · rw [e] at h
    simp only at h
    omega

theorem getNum_le {l : List Int} (hl : Byt l) (a : Int) : 0 ≤ (getNum l a).1 ∧ (getNum l a).1 ≤ 2147483647 ∧ -1 ≤ (getNum l a).2 ∧ (getNum l a).2 ≤ l.length := by
  rcases getNum_cases a hl with e | ⟨m,t,h0,h1,h2,h3,h4,e⟩
  · rw [e]
    simp only
    omega
  · have hll := congrArg List.length h4
    rw [List.length_append,List.length_append,List.length_take] at hll
    rw [e]
    simp only
    omega

def putText (b t : List Int) : List Int := if t.length ≤ 40 then putNum b t.length ++ t else b

def getText (l : List Int) (a : Int) : List Int × Int :=
  if (getNum l a).2 < 0 ∨ 40 < (getNum l a).1 ∨ (l.length : Int) - (getNum l a).2 < (getNum l a).1 then ([],-1)
  else ((l.drop (getNum l a).2.toNat).take (getNum l a).1.toNat,(getNum l a).2 + (getNum l a).1)

theorem putText_len (b t : List Int) : (putText b t).length ≤ b.length + 45 := by
  unfold putText
  have := putNum_len b (t.length : Int)
  split
  · rw [List.length_append]; omega
  · omega

theorem getText_len (l : List Int) (a : Int) : (getText l a).1.length ≤ l.length := by
  unfold getText
  split
  · simp
  · rw [List.length_take,List.length_drop]
    omega

theorem getText_put (b t c : List Int) (h : t.length ≤ 40) : getText (putText b t ++ c) b.length = (t,((putText b t).length : Int)) := by
  have e : putText b t ++ c = b ++ pnl 4 t.length ++ (t ++ c) := by
    unfold putText putNum
    rw [if_pos h,if_pos (by omega)]
    simp
  have e2 : (putText b t).length = b.length + (pnl 4 t.length).length + t.length := by
    unfold putText putNum
    rw [if_pos h,if_pos (by omega),List.length_append,List.length_append]
  have g := getNum_put b (t ++ c) t.length (by omega) (by omega)
  rw [e]
  unfold getText
  rw [g]
  have hlen : ((b ++ pnl 4 (t.length : Int) ++ (t ++ c)).length : Int) = b.length + (pnl 4 (t.length : Int)).length + t.length + c.length := by
    simp only [List.length_append]; omega
  rw [if_neg (by simp only [hlen]; omega),e2]
  simp only
  have hd : ((b.length : Int) + ((pnl 4 (t.length : Int)).length : Int)).toNat = (b ++ pnl 4 (t.length : Int)).length := by rw [List.length_append]; omega
  rw [hd,List.drop_left,Int.toNat_natCast,List.take_left]
  congr 1

theorem getText_cases {l : List Int} (a : Int) (hl : Byt l) : getText l a = ([],-1) ∨
    ∃ t r,0 ≤ a ∧ a.toNat ≤ l.length ∧ t.length ≤ 40 ∧ l = putText (l.take a.toNat) t ++ r ∧ getText l a = (t,((putText (l.take a.toNat) t).length : Int)) := by
  unfold getText
  split
  · exact .inl rfl
  · rename_i h
    rcases getNum_cases a hl with e | ⟨m,t,h0,hm0,hm1,hal,hl2,e⟩
    · rw [e] at h
      exact absurd (Or.inl (by decide)) h
    · rw [e] at h ⊢
      simp only at h ⊢
      have h1 : m ≤ 40 := by omega
      have hll := congrArg List.length hl2
      have hmin : min a.toNat l.length = a.toNat := by omega
      rw [List.length_append,List.length_append,List.length_take,hmin] at hll
      have hmt : m ≤ t.length := by omega
      have hd : l.drop (a + (pnl 4 m).length).toNat = t := by
        have e3 : (a + ((pnl 4 m).length : Int)).toNat = (l.take a.toNat ++ pnl 4 m).length := by
          rw [List.length_append,List.length_take,hmin]
          omega
        conv => lhs; rw [hl2]
        rw [← List.append_assoc,e3,List.drop_left]
      rw [hd]
      have htl : (t.take m.toNat).length = m.toNat := by rw [List.length_take]; omega
      have hpt : putText (l.take a.toNat) (t.take m.toNat) = l.take a.toNat ++ pnl 4 m ++ t.take m.toNat := by
        unfold putText putNum
        rw [htl,if_pos (by omega),Int.toNat_of_nonneg hm0,if_pos ⟨hm0,by omega⟩]
      refine .inr ⟨t.take m.toNat,t.drop m.toNat,h0,hal,by omega,?_,?_⟩
      · rw [hpt,List.append_assoc,List.append_assoc,List.take_append_drop]
        exact hl2
      · rw [hpt,List.length_append,List.length_append,htl,List.length_take,hmin]
        congr 1
        omega

end Go.Proofs.Ytophpcadfljkgaa.M

/- What within,Fold,Unfold and Wrap come to. -/
namespace Go.Proofs.Ytophpcadfljkgaa.E
open Go Go.RowKit Go.Proofs.Ytophpcadfljkgaa.PA Go.Proofs.Ytophpcadfljkgaa.M Go.Proofs.YtophpcadfljkgaaW.PrintWords Go.Proofs.YtophpcadfljkgaaW.PrintLast Go.Proofs.YtophpcadfljkgaaW.PrintMore

theorem within (a b c : Int) : impl_within.f a b c = some (decide (b ≤ a ∧ a ≤ c)) := by
  unfold impl_within.f
  by_cases h : a ≥ b
  · rw [if_pos h]
    have : b ≤ a := h
    simp [this]
  · rw [if_neg h]
    have : ¬ b ≤ a := h
    simp [this]
theorem within_in {a b c : Int} (h0 : b ≤ a) (h1 : a ≤ c) : impl_within.f a b c = some true := by rw [within,decide_eq_true ⟨h0,h1⟩]
theorem within_out {a b c : Int} (h : ¬ (b ≤ a ∧ a ≤ c)) : impl_within.f a b c = some false := by rw [within,decide_eq_false h]

end Go.Proofs.Ytophpcadfljkgaa.E

/- What the functions on bytes come to: the program's and the reference's GetNum,PutNum,GetText,PutText; the laws' own helpers. -/
namespace Go.Proofs.Ytophpcadfljkgaa.E
open Go Go.RowKit Go.Proofs.Ytophpcadfljkgaa.PA Go.Proofs.Ytophpcadfljkgaa.M Go.Proofs.YtophpcadfljkgaaW.PrintWords Go.Proofs.YtophpcadfljkgaaW.PrintLast Go.Proofs.YtophpcadfljkgaaW.PrintMore

theorem toByteS_l {l : List Int} (hl : l.length ≤ 281474976710656) (d : Nat) : ∀ (i : Nat) (x : List Int),i + d = l.length → x.length = l.length → x.take i = l.take i → Ev (fun k => laws_toByteS.l0 k l x (i : Int)) l := by
  induction d with
  | zero =>
    intro i x hi hx ht
    refine Ev.at1 fun k => ?_
    rw [laws_toByteS.l0,if_neg (by omega)]
    have h1 : x.take i = x := by rw [List.take_of_length_le (by omega)]
    have h2 : l.take i = l := by rw [List.take_of_length_le (by omega)]
    rw [← h1,ht,h2]
  | succ d ih =>
    intro i x hi hx ht
    have hw : wrap64 ((i : Int) + 1) = ((i + 1 : Nat) : Int) := by rw [w64 (by omega) (by omega)]; omega
    refine Ev.step (fun k => ?_) ((ih (i + 1) (x.set i (rd l i)) (by omega) (by simpa using hx) ?_))
    · rw [laws_toByteS.l0,if_pos (by omega),if_pos (by omega),if_pos (by omega),hw,Int.toNat_natCast]
    · have hlt : i < l.length := by omega
      rw [List.take_add_one,List.take_add_one,List.take_set_of_le (by omega),ht]
      congr 1
      rw [List.getElem?_set_self (by omega),List.getElem?_eq_getElem hlt]
      obtain ⟨h,e⟩ := rd_lt (l := l) (i := (i : Int)) (by omega) (by omega)
      rw [e]
      rfl

theorem toByteS {l : List Int} (hl : l.length ≤ 281474976710656) : Ev (fun k => laws_toByteS.f k l) l := by
  refine Ev.congr (fun k => ?_) (toByteS_l hl l.length 0 (List.replicate l.length 0) (by omega) (by simp) (by simp))
  rw [laws_toByteS.f,if_pos (by omega),if_pos (by rw [Int.toNat_natCast]; exact hl),Int.toNat_natCast]
  rfl

theorem eqByteS_l {a b : List Int} (hl : a.length = b.length) (hb : a.length ≤ 281474976710656) (d : Nat) : ∀ (i : Nat),i + d = a.length → Ev (fun k => laws_eqByteS.l0 k a b (i : Int)) (decide (a.drop i = b.drop i)) := by
  induction d with
  | zero =>
    intro i hi
    refine Ev.at1 fun k => ?_
    rw [laws_eqByteS.l0,if_neg (by omega),List.drop_of_length_le (by omega),List.drop_of_length_le (by omega)]
    simp
  | succ d ih =>
    intro i hi
    have hw : wrap64 ((i : Int) + 1) = ((i + 1 : Nat) : Int) := by rw [w64 (by omega) (by omega)]; omega
    have ha := drop_rd (l := a) (i := (i : Int)) (by omega) (by omega)
    have hb := drop_rd (l := b) (i := (i : Int)) (by omega) (by omega)
    have e1 : ((i : Int) + 1).toNat = i + 1 := by omega
    rw [Int.toNat_natCast,e1] at ha hb
    rw [ha,hb]
    by_cases h : rd a i = rd b i
    · refine Ev.val (Ev.step (fun k => ?_) (ih (i + 1) (by omega))) ?_
      · rw [laws_eqByteS.l0,if_pos (by omega),if_pos (by omega),if_pos (by omega),if_pos h,hw]
      · simp [h]
    · refine Ev.at1 fun k => ?_
      rw [laws_eqByteS.l0,if_pos (by omega),if_pos (by omega),if_pos (by omega),if_neg h]
      simp [h]

theorem eqByteS {a b : List Int} (hb : a.length ≤ 281474976710656) : Ev (fun k => laws_eqByteS.f k a b) (decide (a = b)) := by
  by_cases hl : a.length = b.length
  · refine Ev.congr (fun k => ?_) (eqByteS_l hl hb a.length 0 (by omega))
    rw [laws_eqByteS.f,if_pos (by omega)]
    rfl
  · refine Ev.const fun k => ?_
    rw [laws_eqByteS.f,if_neg (by omega)]
    have : a ≠ b := fun e => hl (by rw [e])
    simp [this]

theorem shl7 {c : Int} {i : Nat} (h0 : 0 ≤ c) (h1 : c < 128) (hi : i ≤ 4) : shl .i64 c (7 * (i : Int)) = c * 128 ^ i := by
  have e : min (7 * (i : Int)).toNat IntKind.i64.bits = 7 * i := by
    show min (7 * (i : Int)).toNat 64 = 7 * i
    omega
  unfold shl
  rw [e,Int.pow_mul,IntKind.wrap_i64]
  have hu : ((2 : Int) ^ 7) ^ i = 128 ^ i := rfl
  rw [hu]
  have hp : (0 : Int) < 128 ^ i := Int.pow_pos (by decide)
  have hp4 : (128 : Int) ^ i ≤ 128 ^ 4 := p128 hi
  have h2 : c * 128 ^ i ≤ 127 * 128 ^ i := Int.mul_le_mul_of_nonneg_right (by omega) (by omega)
  have h3 : 0 ≤ c * 128 ^ i := Int.mul_nonneg h0 (by omega)
  omega

theorem gnl_step {l : List Int} {a : Int} (hl : Byt l) (ha : 0 ≤ a) {d i : Nat} {n : Int} (h : a + i < (l.length : Int)) (hi : i ≤ 4) (hn0 : 0 ≤ n) (hn : n < 128 ^ i) :
    ∃ c m : Int,rd l (a + i) = c ∧ 0 ≤ c ∧ c < 256 ∧ m = n + c % 128 * 128 ^ i ∧ 0 ≤ m ∧ m < 128 ^ (i + 1) ∧ (128 : Int) ^ i ≤ 128 ^ 4 ∧ 0 ≤ c % 128 * 128 ^ i ∧ c % 128 * 128 ^ i ≤ 127 * 128 ^ i ∧
      gnl (d + 1) i n (l.drop (a + i).toNat) = if 128 ≤ c then gnl d (i + 1) m (l.drop (a + (i + 1 : Nat)).toNat) else if (0 < i ∧ c = 0) ∨ 2147483647 < m then none else some (m,i + 1) := by
  have hd := drop_rd (l := l) (i := a + i) (by omega) h
  have hm := hl _ (rd_mem (l := l) (i := a + i) (by omega) h)
  have hp : (0 : Int) < 128 ^ i := Int.pow_pos (by decide)
  have hp4 : (128 : Int) ^ i ≤ 128 ^ 4 := p128 hi
  have h2 : rd l (a + i) % 128 * 128 ^ i ≤ 127 * 128 ^ i := Int.mul_le_mul_of_nonneg_right (by omega) (by omega)
  have h3 : 0 ≤ rd l (a + i) % 128 * 128 ^ i := Int.mul_nonneg (by omega) (by omega)
  refine ⟨rd l (a + i),_,rfl,hm.1,hm.2,rfl,by omega,?_,hp4,h3,h2,?_⟩
  · rw [Int.pow_succ]
    omega
  · have e : (a + ((i + 1 : Nat) : Int)) = a + i + 1 := by omega
    rw [hd,gnl,e]

theorem impl_GetNum_l {l : List Int} {a : Int} (hl : Byt l) (hlen : l.length ≤ 281474976710656) (ha : 0 ≤ a) (ha2 : a ≤ 9223372036854775807) (d : Nat) :
    ∀ (i : Nat) (n : Int),d + i = 5 → 0 ≤ n → n < 128 ^ i → Ev (fun k => impl_GetNum.l0 k l a n (i : Int)) (gres a (gnl d i n (l.drop (a + i).toNat))) := by
  induction d with
  | zero =>
    intro i n hi hn0 hn
    refine Ev.at2 fun k => ?_
    rw [impl_GetNum.l0,if_neg (by omega)]
    rfl
  | succ d ih =>
    intro i n hi hn0 hn
    have hw1 : wrap64 ((l.length : Int) - a) = (l.length : Int) - a := w64 (by omega) (by omega)
    have hw2 : wrap64 (7 * (i : Int)) = 7 * (i : Int) := w64 (by omega) (by omega)
    have hw3 : wrap64 ((i : Int) + 1) = ((i + 1 : Nat) : Int) := by rw [w64 (by omega) (by omega)]; omega
    by_cases h : a + i < (l.length : Int)
    · have hw4 : wrap64 (a + (i : Int)) = a + i := w64 (by omega) (by omega)
      have hw5 : wrap64 (a + (i : Int) + 1) = a + ((i + 1 : Nat) : Int) := by rw [w64 (by omega) (by omega)]; omega
      have hdc : decide ((i : Int) < (l.length : Int) - a) = true := decide_eq_true (by omega)
      obtain ⟨c,m,hc,hc0,hc1,hm,hm0,hm1,hp4,hx0,hx1,hg⟩ := gnl_step (d := d) hl ha h (by omega) hn0 hn
      have hwc : wrap64 c = c := w64 (by omega) (by omega)
      have htm : Int.tmod c 128 = c % 128 := Int.tmod_eq_emod_of_nonneg hc0
      have hsh : shl .i64 (c % 128) (7 * (i : Int)) = c % 128 * 128 ^ i := shl7 (by omega) (by omega) (by omega)
      have hwm : wrap64 (n + c % 128 * 128 ^ i) = m := by rw [hm]; exact w64 (by omega) (by omega)
      rw [hg]
      by_cases h1 : 128 ≤ c
      · rw [if_pos h1]
        refine Ev.step2 (fun k => ?_) ((ih (i + 1) m (by omega) hm0 hm1))
        rw [impl_GetNum.l0,if_pos (by omega),hw1,hdc]
        simp only [impl_GetNum.j1,hw2,hw3,hw4,hc,hwc,htm,hsh,hwm,if_true]
        rw [if_pos (by omega),if_pos h,if_pos (by omega),if_pos h1]
      · rw [if_neg h1]
        refine Ev.at2 fun k => ?_
        rw [impl_GetNum.l0,if_pos (by omega),hw1,hdc]
        simp only [impl_GetNum.j1,hw2,hw3,hw4,hw5,hc,hwc,htm,hsh,hwm,if_true]
        rw [if_pos (by omega),if_pos h,if_pos (by omega),if_neg (by omega)]
        by_cases h2 : 0 < i
        · rw [if_pos (by omega)]
          by_cases h3 : c = 0
          · rw [if_pos h3,if_pos (.inl ⟨h2,h3⟩)]; rfl
          · rw [if_neg h3]
            by_cases h4 : 2147483647 < m
            · rw [if_pos h4,if_pos (.inr h4)]; rfl
            · rw [if_neg h4,if_neg (by omega)]; rfl
        · rw [if_neg (by omega)]
          by_cases h4 : 2147483647 < m
          · rw [if_pos h4,if_pos (.inr h4)]; rfl
          · rw [if_neg h4,if_neg (by omega)]; rfl
    · have hdc : decide ((i : Int) < (l.length : Int) - a) = false := decide_eq_false (by omega)
      have hd : l.drop (a + i).toNat = [] := List.drop_of_length_le (by omega)
      rw [hd]
      refine Ev.at2 fun k => ?_
      rw [impl_GetNum.l0,if_pos (by omega),hw1,hdc]
      rfl

theorem impl_GetNum {l : List Int} {a : Int} (hl : Byt l) (hlen : l.length ≤ 281474976710656) (ha2 : a ≤ 9223372036854775807) : Ev (fun k => impl_GetNum.f k l a) (getNum l a) := by
  unfold getNum
  by_cases h : a < 0
  · rw [if_pos h]
    exact Ev.const fun k => by rw [impl_GetNum.f,if_pos h]
  · rw [if_neg h]
    refine Ev.congr (fun k => ?_) (by simpa using impl_GetNum_l hl hlen (by omega) ha2 5 0 0 (by omega) (by omega) (by omega))
    rw [impl_GetNum.f,if_neg h]

theorem spec_GetNum_l {l : List Int} {a : Int} (hl : Byt l) (hlen : l.length ≤ 281474976710656) (ha : 0 ≤ a) (ha2 : a ≤ 9223372036854775807) (d : Nat) :
    ∀ (i : Nat) (n : Int),d + i = 5 → (0 < i → a + i ≤ (l.length : Int)) → 0 ≤ n → n < 128 ^ i → Ev (fun k => spec_GetNum.l0 k l a n (128 ^ i) (i : Int)) (gres a (gnl d i n (l.drop (a + i).toNat))) := by
  induction d with
  | zero =>
    intro i n hi hai hn0 hn
    refine Ev.at2 fun k => ?_
    rw [spec_GetNum.l0,if_neg (by omega)]
    rfl
  | succ d ih =>
    intro i n hi hai hn0 hn
    have hw3 : wrap64 ((i : Int) + 1) = ((i + 1 : Nat) : Int) := by rw [w64 (by omega) (by omega)]; omega
    have hw4 : wrap64 (a + (i : Int)) = a + i := w64 (by omega) (by omega)
    by_cases h : a + i < (l.length : Int)
    · have hw5 : wrap64 (a + (i : Int) + 1) = a + ((i + 1 : Nat) : Int) := by rw [w64 (by omega) (by omega)]; omega
      have hdc : decide (a + (i : Int) < (l.length : Int)) = true := decide_eq_true h
      obtain ⟨c,m,hc,hc0,hc1,hm,hm0,hm1,hp4,hx0,hx1,hg⟩ := gnl_step (d := d) hl ha h (by omega) hn0 hn
      have hwc : wrap64 c = c := w64 (by omega) (by omega)
      have hsh : wrap64 (c % 128 * 128 ^ i) = c % 128 * 128 ^ i := w64 (by omega) (by omega)
      have hwm : wrap64 (n + c % 128 * 128 ^ i) = m := by rw [hm]; exact w64 (by omega) (by omega)
      have hwu : wrap64 (128 ^ i * 128) = 128 ^ (i + 1) := by rw [← Int.pow_succ]; refine w64 ?_ ?_ <;> rw [Int.pow_succ] <;> omega
      rw [hg]
      by_cases h1 : 128 ≤ c
      · rw [if_pos h1]
        refine Ev.step2 (fun k => ?_) ((ih (i + 1) m (by omega) (fun _ => by omega) hm0 hm1))
        rw [spec_GetNum.l0,if_pos (by omega),hw4,hdc]
        simp only [spec_GetNum.j1,hw3,hw4,hc,hwc,and127,hsh,hwm,hwu,if_true]
        rw [if_pos (by omega),if_pos h,if_pos (by omega)]
      · rw [if_neg h1]
        refine Ev.at2 fun k => ?_
        rw [spec_GetNum.l0,if_pos (by omega),hw4,hdc]
        simp only [spec_GetNum.j1,hw3,hw4,hw5,hc,hwc,and127,hsh,hwm,if_true]
        rw [if_pos (by omega),if_pos h,if_neg (by omega)]
        by_cases h3 : c = 0
        · rw [if_pos h3]
          by_cases h2 : 0 < i
          · rw [if_pos (by omega),if_pos (.inl ⟨h2,h3⟩)]; rfl
          · rw [if_neg (by omega)]
            by_cases h4 : 2147483647 < m
            · rw [if_pos h4,if_pos (.inr h4)]; rfl
            · rw [if_neg h4,if_neg (by omega)]; rfl
        · rw [if_neg h3]
          by_cases h4 : 2147483647 < m
          · rw [if_pos h4,if_pos (.inr h4)]; rfl
          · rw [if_neg h4,if_neg (by omega)]; rfl
    · have hdc : decide (a + (i : Int) < (l.length : Int)) = false := decide_eq_false h
      have hd : l.drop (a + i).toNat = [] := List.drop_of_length_le (by omega)
      rw [hd]
      refine Ev.at2 fun k => ?_
      rw [spec_GetNum.l0,if_pos (by omega),hw4,hdc]
      rfl

theorem spec_GetNum {l : List Int} {a : Int} (hl : Byt l) (hlen : l.length ≤ 281474976710656) (ha2 : a ≤ 9223372036854775807) : Ev (fun k => spec_GetNum.f k l a) (getNum l a) := by
  unfold getNum
  by_cases h : a < 0
  · rw [if_pos h]
    exact Ev.const fun k => by rw [spec_GetNum.f,if_pos h]
  · rw [if_neg h]
    refine Ev.congr (fun k => ?_) (by simpa using spec_GetNum_l hl hlen (by omega) ha2 5 0 0 (by omega) (by omega) (by omega) (by omega))
    rw [spec_GetNum.f,if_neg h]

end Go.Proofs.Ytophpcadfljkgaa.E

/- What the functions on bytes come to: the program's and the reference's PutNum,PutText,GetText; the laws' marks. -/
namespace Go.Proofs.Ytophpcadfljkgaa.E
open Go Go.RowKit Go.Proofs.Ytophpcadfljkgaa.PA Go.Proofs.Ytophpcadfljkgaa.M Go.Proofs.YtophpcadfljkgaaW.PrintWords Go.Proofs.YtophpcadfljkgaaW.PrintLast Go.Proofs.YtophpcadfljkgaaW.PrintMore

theorem eqB {a : List Int} (hb : a.length ≤ 281474976710656) : Ev (fun k => laws_eqByteS.f k a a) true := Ev.val (eqByteS hb) (by simp)

theorem clone {l : List Int} (h : l.length < 140737488355328) : slices_Clone_byte_byte.f l = some l := by
  unfold slices_Clone_byte_byte.f
  simp only [Option.bind_some,List.length_nil,Nat.zero_add,List.nil_append]
  rw [if_pos h]

theorem impl_PutNum_l (d : Nat) : ∀ (n : Int) (x : List Int),0 ≤ n → n < 128 ^ (d + 1) → n < 9223372036854775808 → x.length + d < 140737488355328 → Ev (fun k => impl_PutNum.l0 k n x) (x ++ pnl d n) := by
  induction d with
  | zero =>
    intro n x h0 h1 h3 hx
    refine Ev.at1 fun k => ?_
    rw [impl_PutNum.l0,if_neg (by omega),if_pos (by omega)]
    rfl
  | succ d ih =>
    intro n x h0 h1 h3 hx
    rw [Int.pow_succ] at h1
    by_cases h : n ≥ 128
    · have hm : (Int.tmod n 128) % 256 = n % 128 := by rw [Int.tmod_eq_emod_of_nonneg h0]; omega
      have e : pnl (d + 1) n = (128 + n % 128) :: pnl d (n / 128) := by rw [pnl,if_pos (by omega)]
      refine Ev.val (Ev.step (fun k => ?_) (ih (n / 128) (x ++ [128 + n % 128]) (by omega) (by omega) (by omega) (by simp only [List.length_append,List.length_cons,List.length_nil]; omega))) ?_
      · rw [impl_PutNum.l0,if_pos h,if_pos (by omega),hm,or128 (by omega) (by omega)]
      · rw [e,List.append_assoc]; rfl
    · have e : pnl (d + 1) n = [n] := by rw [pnl,if_neg (by omega)]
      have hn : n % 256 = n := by omega
      refine Ev.at1 fun k => ?_
      rw [impl_PutNum.l0,if_neg h,if_pos (by omega),hn,e]

theorem spec_PutNum_l (d : Nat) : ∀ (n : Int) (x : List Int),0 ≤ n → n < 128 ^ (d + 1) → n < 9223372036854775808 → x.length + d < 140737488355328 → Ev (fun k => spec_PutNum.l0 k n x) (x ++ pnl d n) := by
  induction d with
  | zero =>
    intro n x h0 h1 h3 hx
    refine Ev.at1 fun k => ?_
    rw [spec_PutNum.l0,if_neg (by omega),if_pos (by omega)]
    rfl
  | succ d ih =>
    intro n x h0 h1 h3 hx
    rw [Int.pow_succ] at h1
    by_cases h : n > 127
    · have hm : wrap64 (128 + Int.tmod n 128) % 256 = 128 + n % 128 := by rw [Int.tmod_eq_emod_of_nonneg h0,w64 (by omega) (by omega)]; omega
      have hq : wrap64 (Int.tdiv n 128) = n / 128 := by rw [Int.tdiv_eq_ediv_of_nonneg h0]; exact w64 (by omega) (by omega)
      have e : pnl (d + 1) n = (128 + n % 128) :: pnl d (n / 128) := by rw [pnl,if_pos (by omega)]
      refine Ev.val (Ev.step (fun k => ?_) (ih (n / 128) (x ++ [128 + n % 128]) (by omega) (by omega) (by omega) (by simp only [List.length_append,List.length_cons,List.length_nil]; omega))) ?_
      · rw [spec_PutNum.l0,if_pos h,if_pos (by omega),hm,hq]
      · rw [e,List.append_assoc]; rfl
    · have e : pnl (d + 1) n = [n] := by rw [pnl,if_neg (by omega)]
      have hn : n % 256 = n := by omega
      refine Ev.at1 fun k => ?_
      rw [spec_PutNum.l0,if_neg h,if_pos (by omega),hn,e]

theorem impl_PutNum {l : List Int} (n : Int) (hl : l.length + 4 < 140737488355328) : Ev (fun k => impl_PutNum.f k l n) (putNum l n) := by
  unfold putNum
  by_cases h : 0 ≤ n ∧ n ≤ 2147483647
  · rw [if_pos h]
    refine Ev.congr (fun k => ?_) (impl_PutNum_l 4 n l h.1 (by omega) (by omega) (by omega))
    rw [impl_PutNum.f,clone (by omega),Option.bind_some,within_in h.1 h.2,Option.bind_some,if_pos rfl]
  · rw [if_neg h]
    refine Ev.const fun k => ?_
    rw [impl_PutNum.f,clone (by omega),Option.bind_some,within_out h,Option.bind_some,if_neg (by decide)]

theorem spec_PutNum {l : List Int} (n : Int) (hl : l.length + 4 < 140737488355328) : Ev (fun k => spec_PutNum.f k l n) (putNum l n) := by
  unfold putNum
  by_cases h0 : n < 0
  · rw [if_neg (by omega)]
    refine Ev.at1 fun k => ?_
    simp only [spec_PutNum.f,Option.bind_some,List.length_nil,Nat.zero_add,List.nil_append]
    rw [if_pos (by omega),if_pos h0]
    rfl
  · by_cases h1 : n > 2147483647
    · rw [if_neg (by omega)]
      refine Ev.at1 fun k => ?_
      simp only [spec_PutNum.f,Option.bind_some,List.length_nil,Nat.zero_add,List.nil_append]
      rw [if_pos (by omega),if_neg h0,decide_eq_true h1]
      rfl
    · rw [if_pos (by omega)]
      refine Ev.step (fun k => ?_) (spec_PutNum_l 4 n l (by omega) (by omega) (by omega) (by omega))
      simp only [spec_PutNum.f,Option.bind_some,List.length_nil,Nat.zero_add,List.nil_append]
      rw [if_pos (by omega),if_neg h0,decide_eq_false h1]
      simp only [spec_PutNum.j0]
      rw [if_neg (by decide)]

theorem impl_PutText {l t : List Int} (hl : l.length + 50 < 140737488355328) : Ev (fun k => impl_PutText.f k l t) (putText l t) := by
  unfold putText
  by_cases h : t.length ≤ 40
  · rw [if_pos h]
    obtain ⟨K,hK⟩ := impl_PutNum (l := l) (t.length : Int) (by omega)
    dsimp only at hK
    refine ⟨K,fun k hk => ?_⟩
    have hlen : (putNum l (t.length : Int)).length ≤ l.length + 5 := by
      unfold putNum
      have := (pnl_len 4 (t.length : Int)).2
      split
      · rw [List.length_append]; omega
      · omega
    show impl_PutText.f k l t = _
    rw [impl_PutText.f,if_neg (by omega),hK k hk,Option.bind_some,if_pos (by omega)]
  · rw [if_neg h]
    refine Ev.const fun k => ?_
    rw [impl_PutText.f,if_pos (by omega),clone (by omega),Option.bind_some]

theorem spec_PutText {l t : List Int} (hl : l.length + 50 < 140737488355328) : Ev (fun k => spec_PutText.f k l t) (putText l t) := by
  unfold putText
  by_cases h : t.length ≤ 40
  · rw [if_pos h]
    obtain ⟨K,hK⟩ := spec_PutNum (l := l) (t.length : Int) (by omega)
    dsimp only at hK
    refine ⟨K,fun k hk => ?_⟩
    have hlen : (putNum l (t.length : Int)).length ≤ l.length + 5 := by
      unfold putNum
      have := (pnl_len 4 (t.length : Int)).2
      split
      · rw [List.length_append]; omega
      · omega
    show spec_PutText.f k l t = _
    rw [spec_PutText.f,if_neg (by omega),hK k hk,Option.bind_some,if_pos (by omega)]
  · rw [if_neg h]
    refine Ev.const fun k => ?_
    rw [spec_PutText.f,if_pos (by omega)]
    simp only [Option.bind_some,List.length_nil,Nat.zero_add,List.nil_append]
    rw [if_pos (by omega)]

/-- What GetText does behind GetNum,in both. -/
theorem getText_parts {l : List Int} {a : Int} (hl : Byt l) : getText l a = ([],-1) ∧ ((getNum l a).2 < 0 ∨ 40 < (getNum l a).1 ∨ (l.length : Int) - (getNum l a).2 < (getNum l a).1) ∨
    ¬ (getNum l a).2 < 0 ∧ ¬ (getNum l a).1 > 40 ∧ ¬ (getNum l a).1 > (l.length : Int) - (getNum l a).2 ∧ 0 ≤ (getNum l a).1 ∧ (getNum l a).2 ≤ (l.length : Int) ∧
      getText l a = ((l.take ((getNum l a).2 + (getNum l a).1).toNat).drop ((getNum l a).2).toNat,(getNum l a).2 + (getNum l a).1) := by
  by_cases h : (getNum l a).2 < 0 ∨ 40 < (getNum l a).1 ∨ (l.length : Int) - (getNum l a).2 < (getNum l a).1
  · exact .inl ⟨by unfold getText; rw [if_pos h],h⟩
  · right
    rcases getNum_cases a hl with e | ⟨m,t,h0,hm0,hm1,hal,hl2,e⟩
    · rw [e] at h
      exact absurd (Or.inl (by decide)) h
    · have hg : getText l a = ((l.drop (getNum l a).2.toNat).take (getNum l a).1.toNat,(getNum l a).2 + (getNum l a).1) := by unfold getText; rw [if_neg h]
      rw [hg,e]
      rw [e] at h
      simp only at h ⊢
      refine ⟨by omega,by omega,by omega,hm0,by omega,?_⟩
      rw [List.take_drop]
      congr 3
      omega

theorem impl_GetText {l : List Int} {a : Int} (hl : Byt l) (hlen : l.length < 140737488355328) (ha2 : a ≤ 9223372036854775807) : Ev (fun k => impl_GetText.f k l a) (getText l a) := by
  obtain ⟨K,hK⟩ := impl_GetNum hl (by omega) ha2
  dsimp only at hK
  refine ⟨K,fun k hk => ?_⟩
  show impl_GetText.f k l a = _
  rw [impl_GetText.f,hK k hk,Option.bind_some]
  rcases getText_parts (a := a) hl with ⟨e,h⟩ | ⟨h1,h2,h3,h4,h5,e⟩
  · rw [e]
    by_cases h1 : (getNum l a).2 < 0
    · rw [if_pos h1]
    · rw [if_neg h1]
      by_cases h2 : (getNum l a).1 > 40
      · rw [if_pos h2]
      · have hb := getNum_le hl a
        rw [if_neg h2,if_pos (by rw [w64 (by omega) (by omega)]; omega)]
  · rw [e,if_neg h1,if_neg h2,w64 (n := (l.length : Int) - (getNum l a).2) (by omega) (by omega),if_neg h3,if_pos (by omega),w64 (n := (getNum l a).2 + (getNum l a).1) (by omega) (by omega),if_pos (by omega),if_pos (by omega),clone (by rw [List.length_drop,List.length_take]; omega),Option.bind_some]

theorem spec_GetText {l : List Int} {a : Int} (hl : Byt l) (hlen : l.length < 140737488355328) (ha2 : a ≤ 9223372036854775807) : Ev (fun k => spec_GetText.f k l a) (getText l a) := by
  obtain ⟨K,hK⟩ := spec_GetNum hl (by omega) ha2
  dsimp only at hK
  refine ⟨K,fun k hk => ?_⟩
  show spec_GetText.f k l a = _
  rw [spec_GetText.f,hK k hk,Option.bind_some]
  rcases getText_parts (a := a) hl with ⟨e,h⟩ | ⟨h1,h2,h3,h4,h5,e⟩
  · rw [e]
    by_cases h1 : (getNum l a).2 < 0
    · rw [if_pos h1]
    · rw [if_neg h1]
      by_cases h2 : (getNum l a).1 > 40
      · rw [if_pos h2]
      · have hb := getNum_le hl a
        rw [if_neg h2,if_pos (by rw [w64 (by omega) (by omega)]; omega)]
  · rw [e,if_neg h1,if_neg h2,w64 (n := (l.length : Int) - (getNum l a).2) (by omega) (by omega),if_neg h3,Option.bind_some,if_pos (by omega),w64 (n := (getNum l a).2 + (getNum l a).1) (by omega) (by omega),if_pos (by omega),if_pos (by omega),if_pos (by rw [List.length_nil,List.length_drop,List.length_take]; omega),List.nil_append]

def marks : Nat → Int → List Int
  | 0,_ => []
  | n + 1,a => a % 256 :: marks n (a + 1)
theorem marks_len (n : Nat) : ∀ a,(marks n a).length = n := by
  induction n with
  | zero => intro a; rfl
  | succ n ih => intro a; simp [marks,ih]

theorem markB_l (l : List Int) : ∀ (p : List Int) (a : Int),p.length + l.length ≤ 281474976710656 → -281474976710656 ≤ a → a + l.length ≤ 9223372036854775807 →
    Ev (fun k => laws_markByteS.l0 k (p ++ l) a (p.length : Int)) (a + l.length,p ++ marks l.length a) := by
  induction l with
  | nil =>
    intro p a hp h0 h1
    refine Ev.at1 fun k => ?_
    rw [laws_markByteS.l0,if_neg (by simp)]
    simp [marks]
  | cons c l ih =>
    intro p a hp h0 h1
    rw [List.length_cons] at hp h1
    have := ih (p ++ [a % 256]) (a + 1) (by simp; omega) (by omega) (by omega)
    have e1 : (p ++ c :: l).set p.length (a % 256) = p ++ [a % 256] ++ l := by simp
    have e2 : wrap64 (a + 1) = a + 1 := w64 (by omega) (by omega)
    have e3 : wrap64 ((p.length : Int) + 1) = ((p ++ [a % 256]).length : Int) := by rw [w64 (by omega) (by omega)]; simp
    refine Ev.val (Ev.step (fun k => ?_) this) ?_
    · rw [laws_markByteS.l0,if_pos (by simp; omega),if_pos (by omega),Int.toNat_natCast,e1,e2,e3]
    · simp only [marks,List.length_cons,List.append_assoc,List.singleton_append,Prod.mk.injEq,and_true]
      omega

theorem markB {l : List Int} {a : Int} (hl : l.length ≤ 281474976710656) (h0 : -281474976710656 ≤ a) (h1 : a + l.length ≤ 9223372036854775807) : Ev (fun k => laws_markByteS.f k l a) (a + l.length,marks l.length a) := by
  exact Ev.congr (f := fun k => laws_markByteS.l0 k l a 0) (fun k => rfl) (by simpa using markB_l l [] a (by simpa using hl) h0 h1)

theorem heldB_l (n : Nat) : ∀ (p : List Int) (a : Int),p.length + n ≤ 281474976710656 → -281474976710656 ≤ a → a + n ≤ 9223372036854775807 →
    Ev (fun k => laws_heldByteS.l0 k (p ++ marks n a) a (p.length : Int)) (a + n) := by
  induction n with
  | zero =>
    intro p a hp h0 h1
    refine Ev.at1 fun k => ?_
    rw [laws_heldByteS.l0,if_neg (by simp [marks])]
    simp
  | succ n ih =>
    intro p a hp h0 h1
    have := ih (p ++ [a % 256]) (a + 1) (by simp; omega) (by omega) (by omega)
    have e0 : p ++ marks (n + 1) a = p ++ [a % 256] ++ marks n (a + 1) := by simp [marks]
    have e1 : rd (p ++ marks (n + 1) a) (p.length : Int) = a % 256 := by simp [rd,marks]
    have e2 : wrap64 (a + 1) = a + 1 := w64 (by omega) (by omega)
    have e3 : wrap64 ((p.length : Int) + 1) = ((p ++ [a % 256]).length : Int) := by rw [w64 (by omega) (by omega)]; simp
    refine Ev.val (Ev.step (fun k => ?_) this) ?_
    · rw [laws_heldByteS.l0,if_pos (by simp [marks,marks_len]; omega),if_pos (by omega),e1,if_pos rfl,e2,e3,e0]
    · omega

theorem heldB {n : Nat} {a : Int} (hl : n ≤ 281474976710656) (h0 : -281474976710656 ≤ a) (h1 : a + n ≤ 9223372036854775807) : Ev (fun k => laws_heldByteS.f k (marks n a) a) (a + n) := by
  exact Ev.congr (f := fun k => laws_heldByteS.l0 k (marks n a) a 0) (fun k => rfl) (by simpa using heldB_l n [] a (by simpa using hl) h0 h1)

end Go.Proofs.Ytophpcadfljkgaa.E

/- What is drawn: bytes,numbers,lists of bytes; each drawing comes to an end,within its bounds. -/
namespace Go.Proofs.Ytophpcadfljkgaa.E
open Go Go.RowKit Go.Proofs.Ytophpcadfljkgaa.PA Go.Proofs.Ytophpcadfljkgaa.M Go.Proofs.YtophpcadfljkgaaW.PrintWords Go.Proofs.YtophpcadfljkgaaW.PrintLast Go.Proofs.YtophpcadfljkgaaW.PrintMore

def St (l : List Int) (i : Int) : Prop := 0 ≤ i ∧ i ≤ (l.length : Int) ∧ l.length ≤ 140737488351232

theorem l1New_l {l : List Int} (d : Nat) : ∀ (i : Nat) (h : Int),d + i = 4000 → ∃ h',Ev (fun k => spec_l1New.l0 k l h (i : Int)) (l,0,h') := by
  induction d with
  | zero =>
    intro i h hi
    refine ⟨h,Ev.at1 fun k => ?_⟩
    rw [spec_l1New.l0]
    by_cases c : (i : Int) < (l.length : Int)
    · rw [if_pos c,if_neg (by omega)]
    · rw [if_neg c]
  | succ d ih =>
    intro i h hi
    by_cases c : (i : Int) < (l.length : Int)
    · have hw : wrap64 ((i : Int) + 1) = ((i + 1 : Nat) : Int) := by rw [w64 (by omega) (by omega)]; omega
      obtain ⟨h',e⟩ := ih (i + 1) _ (by omega)
      refine ⟨h',Ev.step (fun k => ?_) e⟩
      rw [spec_l1New.l0,if_pos c,if_pos (by omega),if_pos (by omega),hw]
    · refine ⟨h,Ev.at1 fun k => ?_⟩
      rw [spec_l1New.l0,if_neg c]

theorem l1New {l : List Int} (hl : l.length ≤ 140737488351232) : ∃ h,Ev (fun k => spec_l1New.f k l) (l,0,h) ∧ St l 0 := by
  obtain ⟨h',e⟩ := l1New_l 4000 0 (wrap64 (29393 + (l.length : Int))) (by omega)
  exact ⟨h',e,by unfold St; omega⟩

theorem l1Byte {l : List Int} {i : Int} (h : Int) (hs : St l i) : ∃ x i' h',spec_l1Byte.f l i h = some (x,i',h') ∧ 0 ≤ x ∧ x < 256 ∧ St l i' := by
  unfold St at hs ⊢
  unfold spec_l1Byte.f
  by_cases c : i < (l.length : Int)
  · rw [if_pos c,if_pos hs.1,w64 (n := i + 1) (by omega) (by omega),and255]
    exact ⟨_,_,_,rfl,by omega,by omega,by omega⟩
  · rw [if_neg c,and255]
    exact ⟨_,_,_,rfl,by omega,by omega,hs⟩

theorem l1Below {l : List Int} {i : Int} (h : Int) (hs : St l i) (n : Int) : ∃ x i' h',spec_l1Below.f l i h n = some (x,i',h') ∧ 0 ≤ x ∧ (0 < n → x < n) ∧ St l i' := by
  unfold spec_l1Below.f
  by_cases c : n ≤ 0
  · rw [if_pos c]
    exact ⟨_,_,_,rfl,by omega,fun h => by omega,hs⟩
  · rw [if_neg c]
    obtain ⟨x1,i1,h1,e1,a1,b1,s1⟩ := l1Byte h hs
    by_cases c2 : n ≤ 256
    · rw [if_pos c2,e1,Option.bind_some,if_neg (by omega)]
      have hm : Int.tmod x1 n = x1 % n := Int.tmod_eq_emod_of_nonneg a1
      simp only [hm]
      exact ⟨_,_,_,rfl,Int.emod_nonneg _ (by omega),fun _ => Int.emod_lt_of_pos _ (by omega),s1⟩
    · rw [if_neg c2,e1,Option.bind_some]
      simp only
      obtain ⟨x2,i2,h2,e2,a2,b2,s2⟩ := l1Byte h1 s1
      rw [e2,Option.bind_some]
      simp only
      obtain ⟨x3,i3,h3,e3,a3,b3,s3⟩ := l1Byte h2 s2
      rw [e3,Option.bind_some]
      simp only
      obtain ⟨x4,i4,h4,e4,a4,b4,s4⟩ := l1Byte h3 s3
      rw [e4,Option.bind_some]
      simp only
      have hv : 0 ≤ wrap64 (wrap64 (wrap64 (wrap64 (x1 * 16777216) + wrap64 (x2 * 65536)) + wrap64 (x3 * 256)) + x4) := by unfold wrap64; omega
      rw [if_neg (by omega),Int.tmod_eq_emod_of_nonneg hv]
      exact ⟨_,_,_,rfl,Int.emod_nonneg _ (by omega),fun _ => Int.emod_lt_of_pos _ (by omega),s4⟩

theorem l1Once {l : List Int} {i : Int} (h : Int) (hs : St l i) (n : Int) : ∃ b i' h',spec_l1Once.f l i h n = some (b,i',h') ∧ St l i' := by
  obtain ⟨x,i',h',e,_,_,s⟩ := l1Below h hs n
  unfold spec_l1Once.f
  rw [e,Option.bind_some]
  exact ⟨_,_,_,rfl,s⟩

theorem l1PickInt {l : List Int} {i : Int} (h : Int) (hs : St l i) {m : List Int} (hm : 0 < m.length) : ∃ x i' h',spec_l1PickInt.f l i h m = some (x,i',h') ∧ x ∈ m ∧ St l i' := by
  obtain ⟨x,i',h',e,a,b,s⟩ := l1Below h hs (m.length : Int)
  have hx := b (by omega)
  unfold spec_l1PickInt.f
  rw [e,Option.bind_some]
  simp only
  rw [if_pos a,if_pos hx]
  exact ⟨_,_,_,rfl,rd_mem a hx,s⟩

def I64 (x : Int) : Prop := -9223372036854775808 ≤ x ∧ x ≤ 9223372036854775807

theorem l1num {l : List Int} {i : Int} (h : Int) (hs : St l i) : ∃ x i' h',spec_l1num.f l i h = some (x,i',h') ∧ I64 x ∧ St l i' := by
  unfold spec_l1num.f
  obtain ⟨x,i',h',e,a,b,s⟩ := l1Below h hs 5
  rw [e,Option.bind_some]
  simp only
  split
  · obtain ⟨x,i',h',e,a,b,s⟩ := l1Below h' s 4
    rw [e,Option.bind_some]
    exact ⟨_,_,_,rfl,by have := b (by omega); unfold I64; omega,s⟩
  · split
    · obtain ⟨x,i',h',e,a,s⟩ := l1PickInt h' s (m := [126,127,128,129,16383,16384,2097151,2097152,2147483646,2147483647]) (by simp)
      rw [e,Option.bind_some]
      refine ⟨_,_,_,rfl,?_,s⟩
      simp only [List.mem_cons,List.not_mem_nil,or_false] at a
      unfold I64
      omega
    · split
      · obtain ⟨x,i',h',e,a,b,s⟩ := l1Below h' s 40000
        rw [e,Option.bind_some]
        exact ⟨_,_,_,rfl,by have := b (by omega); unfold I64; omega,s⟩
      · split
        · obtain ⟨x,i',h',e,a,s⟩ := l1PickInt h' s (m := [-1,-2,2147483648,4611686018427387904,-9223372036854775808,9223372036854775807]) (by simp)
          rw [e,Option.bind_some]
          refine ⟨_,_,_,rfl,?_,s⟩
          simp only [List.mem_cons,List.not_mem_nil,or_false] at a
          unfold I64
          omega
        · obtain ⟨x,i',h',e,a,b,s⟩ := l1Below h' s 2147483647
          rw [e,Option.bind_some]
          exact ⟨_,_,_,rfl,by have := b (by omega); unfold I64; omega,s⟩

theorem l1signed {l : List Int} {i : Int} (h : Int) (hs : St l i) : ∃ x i' h',spec_l1signed.f l i h = some (x,i',h') ∧ I64 x ∧ St l i' := by
  unfold spec_l1signed.f
  obtain ⟨x,i',h',e,a,b,s⟩ := l1Below h hs 4
  rw [e,Option.bind_some]
  simp only
  split
  · obtain ⟨x,i',h',e,a,b,s⟩ := l1Below h' s 9
    rw [e,Option.bind_some]
    exact ⟨_,_,_,rfl,w64_le _,s⟩
  · split
    · obtain ⟨x,i',h',e,a,s⟩ := l1PickInt h' s (m := [1073741823,1073741824,-1073741824,-1073741825,-9223372036854775808,9223372036854775807,4611686018427387904,-4611686018427387904,4611686018427387903,-4611686018427387905]) (by simp)
      rw [e,Option.bind_some]
      refine ⟨_,_,_,rfl,?_,s⟩
      simp only [List.mem_cons,List.not_mem_nil,or_false] at a
      unfold I64
      omega
    · split
      · obtain ⟨x,i',h',e,a,s⟩ := l1num h' s
        rw [e,Option.bind_some]
        exact ⟨_,_,_,rfl,a,s⟩
      · obtain ⟨x,i',h',e,a,b,s⟩ := l1Below h' s 1073741824
        rw [e,Option.bind_some]
        exact ⟨_,_,_,rfl,w64_le _,s⟩

theorem shl_i64 (x y : Int) : I64 (shl .i64 x y) := by
  unfold shl I64
  rw [IntKind.wrap_i64]
  omega

theorem DrawWrap {l : List Int} (hl : l.length ≤ 140737488351232) : ∃ x,Ev (fun k => spec_DrawWrap.f k l) x ∧ I64 x := by
  obtain ⟨h,⟨K,e⟩,s⟩ := l1New hl
  dsimp only at e
  obtain ⟨b,i1,h1,e1,s1⟩ := l1Once h s 3
  obtain ⟨x,i2,h2,e2,a2,s2⟩ := l1signed h1 s1
  obtain ⟨y,i3,h3,e3,a3,b3,s3⟩ := l1Below h2 s2 64
  cases b with
  | true =>
    refine ⟨shl .i64 x y,⟨K,fun k hk => ?_⟩,shl_i64 x y⟩
    show spec_DrawWrap.f k l = _
    rw [spec_DrawWrap.f,e k hk,Option.bind_some]
    simp only [e1,Option.bind_some,if_true,e2,e3]
    rw [if_pos a3]
  | false =>
    refine ⟨x,⟨K,fun k hk => ?_⟩,a2⟩
    show spec_DrawWrap.f k l = _
    rw [spec_DrawWrap.f,e k hk,Option.bind_some]
    simp only [e1,Option.bind_some,Bool.false_eq_true,if_false,e2]

theorem DrawFold {l : List Int} (hl : l.length ≤ 140737488351232) : ∃ x,Ev (fun k => spec_DrawFold.f k l) x ∧ I64 x := by
  obtain ⟨h,⟨K,e⟩,s⟩ := l1New hl
  dsimp only at e
  obtain ⟨x,i2,h2,e2,a2,s2⟩ := l1signed h s
  refine ⟨x,⟨K,fun k hk => ?_⟩,a2⟩
  show spec_DrawFold.f k l = _
  rw [spec_DrawFold.f,e k hk,Option.bind_some]
  simp only [Option.bind_some,e2]

theorem DrawUnfold {l : List Int} (hl : l.length ≤ 140737488351232) : ∃ x,Ev (fun k => spec_DrawUnfold.f k l) x ∧ I64 x := by
  obtain ⟨h,⟨K,e⟩,s⟩ := l1New hl
  dsimp only at e
  obtain ⟨x,i2,h2,e2,a2,s2⟩ := l1num h s
  refine ⟨x,⟨K,fun k hk => ?_⟩,a2⟩
  show spec_DrawUnfold.f k l = _
  rw [spec_DrawUnfold.f,e k hk,Option.bind_some]
  simp only [Option.bind_some,e2]

end Go.Proofs.Ytophpcadfljkgaa.E

/- What is drawn: bytes in a row,spoilt bytes. -/
namespace Go.Proofs.Ytophpcadfljkgaa.E
open Go Go.RowKit Go.Proofs.Ytophpcadfljkgaa.PA Go.Proofs.Ytophpcadfljkgaa.M Go.Proofs.YtophpcadfljkgaaW.PrintWords Go.Proofs.YtophpcadfljkgaaW.PrintLast Go.Proofs.YtophpcadfljkgaaW.PrintMore

theorem Byt_set {a : List Int} (n : Nat) {c : Int} (h0 : 0 ≤ c) (h1 : c < 256) (h : Byt a) : Byt (a.set n c) := fun x hx => by
  rcases List.mem_or_eq_of_mem_set hx with hx | rfl
  · exact h x hx
  · exact ⟨h0,h1⟩
theorem Byt_replicate (n : Nat) : Byt (List.replicate n 0) := fun x hx => by
  have := (List.mem_replicate.mp hx).2
  omega
theorem Byt_snoc {a : List Int} (c : Int) (h : Byt a) : Byt (a ++ [c % 256]) := h.append (Byt.cons (by omega) (by omega) Byt.nil)

theorem l1some_l {l : List Int} (n : Nat) (hn : n ≤ 1000) (d : Nat) : ∀ (x : List Int) (i h : Int),St l i → x.length + d = n → Byt x →
    ∃ y i' h',Ev (fun k => spec_l1some.l0 k (n : Int) x (x.length : Int) l i h) (y,i',h') ∧ Byt y ∧ y.length = n ∧ St l i' := by
  induction d with
  | zero =>
    intro x i h hs hx hb
    refine ⟨x,i,h,Ev.at1 fun k => ?_,hb,by omega,hs⟩
    rw [spec_l1some.l0,if_neg (by omega)]
  | succ d ih =>
    intro x i h hs hx hb
    obtain ⟨c,i1,h1,e1,a1,b1,s1⟩ := l1Byte h hs
    obtain ⟨y,i2,h2,e2,r⟩ := ih (x ++ [c % 256]) i1 h1 s1 (by simp; omega) (Byt_snoc c hb)
    refine ⟨y,i2,h2,Ev.step (fun k => ?_) e2,r⟩
    have hw : wrap64 ((x.length : Int) + 1) = ((x ++ [c % 256]).length : Int) := by rw [w64 (by omega) (by omega)]; simp
    rw [spec_l1some.l0,if_pos (by omega),e1,Option.bind_some,if_pos (by omega),hw]

theorem l1some {l : List Int} {i : Int} (h : Int) (hs : St l i) (n : Int) (h0 : 0 ≤ n) (hn : n ≤ 1000) :
    ∃ y i' h',Ev (fun k => spec_l1some.f k l i h n) (y,i',h') ∧ Byt y ∧ (y.length : Int) ≤ n ∧ St l i' := by
  obtain ⟨x,i1,h1,e1,a1,b1,s1⟩ := l1Below h hs (n + 1)
  have hb := b1 (by omega)
  obtain ⟨y,i2,h2,e2,hy,hl,s2⟩ := l1some_l (l := l) x.toNat (by omega) x.toNat [] i1 h1 s1 (by simp) Byt.nil
  refine ⟨y,i2,h2,Ev.congr (fun k => ?_) e2,hy,by omega,s2⟩
  rw [spec_l1some.f,w64 (n := n + 1) (by omega) (by omega),e1,Option.bind_some,Int.toNat_of_nonneg a1]
  rfl

theorem l1spoil {l : List Int} {i : Int} (h : Int) (hs : St l i) {x : List Int} (hx : Byt x) (hl : x.length ≤ 10000) :
    ∃ y i' h',spec_l1spoil.f l i h x = some (y,i',h') ∧ Byt y ∧ y.length ≤ x.length + 1 ∧ St l i' := by
  unfold spec_l1spoil.f
  rw [Option.bind_some,if_pos (by simp; omega),Option.bind_some,List.nil_append]
  by_cases c0 : (x.length : Int) = 0
  · rw [if_pos c0]
    obtain ⟨c,i1,h1,e1,a1,b1,s1⟩ := l1Byte h hs
    rw [e1,Option.bind_some,if_pos (by omega)]
    exact ⟨_,_,_,rfl,Byt_snoc c hx,by simp,s1⟩
  · rw [if_neg c0]
    obtain ⟨p,i1,h1,e1,a1,b1,s1⟩ := l1Below h hs (x.length : Int)
    have hp := b1 (by omega)
    rw [e1,Option.bind_some]
    obtain ⟨q,i2,h2,e2,a2,b2,s2⟩ := l1Below h1 s1 5
    dsimp only
    rw [e2,Option.bind_some]
    dsimp only
    by_cases q0 : q = 0
    · rw [if_pos q0,if_pos a1,if_pos (by omega)]
      exact ⟨_,_,_,rfl,hx.take _,by rw [List.length_take]; omega,s2⟩
    rw [if_neg q0]
    by_cases q1 : q = 1
    · obtain ⟨c,i3,h3,e3,a3,b3,s3⟩ := l1Byte h2 s2
      rw [if_pos q1,e3,Option.bind_some,if_pos (by omega)]
      exact ⟨_,_,_,rfl,Byt_snoc c hx,by simp,s3⟩
    rw [if_neg q1]
    by_cases q2 : q = 2
    · obtain ⟨c,i3,h3,e3,a3,b3,s3⟩ := l1Byte h2 s2
      rw [if_pos q2,e3,Option.bind_some,if_pos a1,if_pos hp]
      exact ⟨_,_,_,rfl,Byt_set _ (by omega) (by omega) hx,by rw [List.length_set]; omega,s3⟩
    rw [if_neg q2]
    by_cases q3 : q = 3
    · obtain ⟨c,i3,h3,e3,a3,s3⟩ := l1PickInt h2 s2 (m := [1,255,128,2]) (by simp)
      rw [if_pos q3,if_pos a1,if_pos hp,e3,Option.bind_some]
      exact ⟨_,_,_,rfl,Byt_set _ (by omega) (by omega) hx,by rw [List.length_set]; omega,s3⟩
    rw [if_neg q3,if_pos a1,if_pos (by omega),Option.bind_some,if_pos (by simp only [List.length_nil,List.length_take]; omega),Option.bind_some,w64 (n := p + 1) (by omega) (by omega),if_pos (by omega),if_pos (by omega),Option.bind_some,if_pos (by simp only [List.nil_append,List.length_take,List.length_drop]; omega)]
    exact ⟨_,_,_,rfl,(Byt.append (fun _ h => by cases h) (hx.take _)).append (hx.drop _),by simp only [List.nil_append,List.length_append,List.length_take,List.length_drop]; omega,s2⟩

end Go.Proofs.Ytophpcadfljkgaa.E

/- A drawn number comes back from its bytes; whatever bytes are read as a number are just the bytes of it. No condition. -/
namespace Go.Proofs.Ytophpcadfljkgaa.Pure
open Go Go.RowKit Go.Proofs.Ytophpcadfljkgaa.PA Go.Proofs.Ytophpcadfljkgaa.M Go.Proofs.Ytophpcadfljkgaa.E Go.Proofs.YtophpcadfljkgaaW.PrintWords Go.Proofs.YtophpcadfljkgaaW.PrintLast

theorem same (l : List Int) : laws_sameBytes.f l l = some true := by rw [laws_sameBytes.f,beq_self_eq_true]

theorem DrawPutNum {l : List Int} (hl : l.length ≤ 140737488351232) : ∃ b n,Ev (fun k => spec_DrawPutNum.f k l) (b,n) ∧ Byt b ∧ b.length ≤ 6 := by
  obtain ⟨h,e0,s⟩ := l1New hl
  obtain ⟨b,i1,h1,e1,hb,hbl,s1⟩ := l1some h s 6 (by omega) (by omega)
  obtain ⟨n,i2,h2,e2,hn,s2⟩ := l1num h1 s1
  refine ⟨b,n,Ev.congr (fun k => by rw [spec_DrawPutNum.f]) (Ev.bind e0 (Ev.bind e1 (Ev.const fun k => ?_))),hb,by omega⟩
  dsimp only
  rw [e2,Option.bind_some]

theorem DrawGetNum_j1 {l : List Int} {i : Int} (h : Int) (hs : St l i) {x : List Int} {a : Int} (hb : Byt x) (hx : x.length ≤ 9000) (ha : a ≤ 9223372036854775807) : ∃ y a',Ev (fun k => spec_DrawGetNum.j1 k x a l i h) (y,a') ∧ Byt y ∧ y.length ≤ 10000 ∧ a' ≤ 9223372036854775807 := by
  obtain ⟨o,i1,h1,e1,s1⟩ := l1Once h hs 8
  obtain ⟨c,i2,h2,e2,a2,b2,s2⟩ := l1Below h1 s1 20
  cases o with
  | true =>
    have hw : wrap64 ((x.length : Int) / 2) = (x.length : Int) / 2 := w64 (by omega) (by omega)
    refine ⟨x.take ((x.length : Int) / 2).toNat ++ [255,255,255,255,c % 256],a,Ev.at1 fun k => ?_,(hb.take _).append (fun z hz => ?_),?_,ha⟩
    · rw [spec_DrawGetNum.j1,e1,Option.bind_some,if_pos rfl,hw,if_pos (by omega),if_pos (by omega),Option.bind_some]
      dsimp only
      rw [e2,Option.bind_some,Option.bind_some,if_pos (by simp only [List.length_take,List.length_cons,List.length_nil]; omega)]
    · simp only [List.mem_cons,List.not_mem_nil,or_false] at hz
      omega
    · simp only [List.length_append,List.length_take,List.length_cons,List.length_nil]
      omega
  | false =>
    refine ⟨x,a,Ev.at1 fun k => ?_,hb,by omega,ha⟩
    rw [spec_DrawGetNum.j1,e1,Option.bind_some]
    rfl

theorem DrawGetNum_j0 {l : List Int} {i : Int} (h : Int) (hs : St l i) {x : List Int} {a : Int} (hb : Byt x) (hx : x.length ≤ 9000) (ha : a ≤ 9223372036854775807) : ∃ y a',Ev (fun k => spec_DrawGetNum.j0 k x a l i h) (y,a') ∧ Byt y ∧ y.length ≤ 10000 ∧ a' ≤ 9223372036854775807 := by
  obtain ⟨o,i1,h1,e1,s1⟩ := l1Once h hs 6
  have hw : wrap64 ((x.length : Int) + 1) = (x.length : Int) + 1 := w64 (by omega) (by omega)
  cases o with
  | true =>
    obtain ⟨c,i2,h2,e2,a2,s2⟩ := l1PickInt h1 s1 (m := [-1,0,(x.length : Int),wrap64 ((x.length : Int) + 1),4611686018427387904]) (by simp)
    rw [hw] at a2
    simp only [List.mem_cons,List.not_mem_nil,or_false] at a2
    obtain ⟨y,a',e3,r⟩ := DrawGetNum_j1 h2 s2 (a := c) hb hx (by omega)
    refine ⟨y,a',Ev.step (fun k => ?_) e3,r⟩
    rw [spec_DrawGetNum.j0,e1,Option.bind_some,if_pos rfl]
    dsimp only
    rw [e2,Option.bind_some]
  | false =>
    obtain ⟨y,a',e3,r⟩ := DrawGetNum_j1 h1 s1 hb hx ha
    refine ⟨y,a',Ev.step (fun k => ?_) e3,r⟩
    rw [spec_DrawGetNum.j0,e1,Option.bind_some]
    rfl

theorem DrawGetNum {l : List Int} (hl : l.length ≤ 140737488351232) : ∃ y a,Ev (fun k => spec_DrawGetNum.f k l) (y,a) ∧ Byt y ∧ y.length ≤ 10000 ∧ a ≤ 9223372036854775807 := by
  obtain ⟨h,e0,s⟩ := l1New hl
  obtain ⟨b,i1,h1,e1,hb,hbl,s1⟩ := l1some h s 4 (by omega) (by omega)
  obtain ⟨n,i2,h2,e2,hn,s2⟩ := l1num h1 s1
  obtain ⟨t,i3,h3,e3,ht,htl,s3⟩ := l1some h2 s2 3 (by omega) (by omega)
  obtain ⟨o,i4,h4,e4,s4⟩ := l1Once h3 s3 3
  have hp := putNum_len b n
  have hpb := putNum_byt (b := b) n hb
  have ep := spec_PutNum (l := b) n (by omega)
  have hll : (putNum b n ++ t).length = (putNum b n).length + t.length := List.length_append
  cases o with
  | true =>
    obtain ⟨z,i5,h5,e5,hz,hzl,s5⟩ := l1spoil h4 s4 (hpb.append ht) (by omega)
    obtain ⟨y,a',e6,r⟩ := DrawGetNum_j0 h5 s5 (a := (b.length : Int)) hz (by omega) (by omega)
    refine ⟨y,a',Ev.congr (fun k => by rw [spec_DrawGetNum.f]) (Ev.bind e0 (Ev.bind e1 ?_)),r⟩
    simp only [e2,Option.bind_some]
    refine Ev.bind ep ?_
    refine Ev.bind e3 ?_
    refine Ev.congr (fun k => ?_) e6
    dsimp only
    rw [if_pos (by omega),e4,Option.bind_some]
    dsimp only
    rw [if_pos rfl,e5,Option.bind_some]
  | false =>
    obtain ⟨y,a',e6,r⟩ := DrawGetNum_j0 h4 s4 (a := (b.length : Int)) (hpb.append ht) (by omega) (by omega)
    refine ⟨y,a',Ev.congr (fun k => by rw [spec_DrawGetNum.f]) (Ev.bind e0 (Ev.bind e1 ?_)),r⟩
    simp only [e2,Option.bind_some]
    refine Ev.bind ep ?_
    refine Ev.bind e3 ?_
    refine Ev.congr (fun k => ?_) e6
    dsimp only
    rw [if_pos (by omega),e4,Option.bind_some]
    rfl

theorem FnNumbers : laws_FnNumbers.Pure := by
  intro l _ hlen hb
  obtain ⟨b,n,e1,hbb,hbl⟩ := DrawPutNum (l := l) (by omega)
  obtain ⟨y,a,e2,hy,hyl,ha⟩ := DrawGetNum (l := l) (by omega)
  have hpl := putNum_len b n
  have hpb := putNum_byt (b := b) n hbb
  have e3 := impl_PutNum (l := b) n (by omega)
  have e4 := impl_GetNum (l := putNum b n ++ [7]) (a := (b.length : Int)) (hpb.append (Byt.cons (by omega) (by omega) Byt.nil)) (by rw [List.length_append,List.length_singleton]; omega) (by omega)
  have e5 := impl_GetNum (l := y) (a := a) hy (by omega) ha
  have hj1 : Ev (fun k => laws_FnNumbers.j1 k l false) true := by
    refine Ev.step (fun k => by rw [laws_FnNumbers.j1,if_neg (by decide)]) (Ev.bind e2 (Ev.bind e5 ?_))
    dsimp only
    rcases getNum_cases a hy with hc | ⟨m,t,h0,hm0,hm1,hal,hyr,hc⟩
    · rw [hc]
      exact Ev.const fun k => by rw [if_pos (by decide)]
    · rw [hc]
      dsimp only
      have e7 := impl_PutNum (l := y.take a.toNat) m (by rw [List.length_take]; omega)
      have hput : putNum (y.take a.toNat) m = y.take a.toNat ++ pnl 4 m := by unfold putNum; rw [if_pos ⟨hm0,hm1⟩]
      have hmin : min a.toNat y.length = a.toNat := by omega
      have hlen2 := congrArg List.length hyr
      rw [List.length_append,List.length_append,List.length_take,hmin] at hlen2
      rw [hput] at e7
      refine Ev.congr (fun k => by rw [if_neg (by omega),if_pos h0,if_pos (by omega)]) (Ev.bind e7 (Ev.const fun k => ?_))
      rw [if_pos (by omega),if_pos (by omega)]
      have : y.take (a + ((pnl 4 m).length : Int)).toNat = y.take a.toNat ++ pnl 4 m := by
        have e3 : (a + ((pnl 4 m).length : Int)).toNat = (y.take a.toNat ++ pnl 4 m).length := by
          rw [List.length_append,List.length_take,hmin]
          omega
        conv => lhs; arg 2; rw [hyr]
        rw [← List.append_assoc,e3,List.take_left]
      rw [this,same]
      rfl
  suffices h : Ev (fun k => laws_FnNumbers.f k l) true by
    obtain ⟨K,h⟩ := h
    exact ⟨K,h K (Nat.le_refl _)⟩
  refine Ev.congr (fun k => by rw [laws_FnNumbers.f]) (Ev.bind e1 ?_)
  refine Ev.bind e3 ?_
  have hlt : (putNum b n).length < 140737488355328 := by omega
  simp only [hlt,↓reduceIte]
  refine Ev.bind e4 ?_
  by_cases c : 0 ≤ n ∧ n ≤ 2147483647
  · have hput : putNum b n = b ++ pnl 4 n := by unfold putNum; rw [if_pos c]
    have hg := getNum_put b [7] n c.1 c.2
    have hp := pnl_len 4 n
    have hl1 : (b ++ pnl 4 n).length = b.length + (pnl 4 n).length := List.length_append
    rw [hput,hg]
    refine Ev.congr (fun k => by rw [if_neg (by omega),decide_eq_false (by omega)]) (Ev.step (fun k => ?_) hj1)
    rw [laws_FnNumbers.j0,if_neg (by decide),if_pos rfl,if_pos (by omega),decide_eq_false (by omega)]
  · have hput : putNum b n = b := by unfold putNum; rw [if_neg c]
    rw [hput]
    have hj : ∀ k m next,laws_FnNumbers.j0 (k + 1) l b n b m next true = some true := fun k m next => by
      rw [laws_FnNumbers.j0,if_pos rfl,same]; rfl
    by_cases c2 : n < 0
    · exact Ev.step (fun k => by rw [if_pos c2]) (Ev.const fun k => hj _ _ _)
    · exact Ev.step (fun k => by rw [if_neg c2,decide_eq_true (by omega)]) (Ev.const fun k => hj _ _ _)

end Go.Proofs.Ytophpcadfljkgaa.Pure

