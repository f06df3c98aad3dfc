/- What the laws' helpers on rows of binds come to. -/
import Derived.Test.YtmbacnnbpnlekaaE13
import Derived.Test.YtmbacnnbpnlekaaPDx0
import Derived.Test.YtmbacnnbpnlekaaPDx1
import Derived.Test.YtmbacnnbpnlekaaPDx2
import Derived.Test.YtmbacnnbpnlekaaPDx8
import Derived.Test.YtmbacnnbpnlekaaPDx9
import Derived.Test.YtmbacnnbpnlekaaPDx16
import Derived.Test.YtmbacnnbpnlekaaPDx17
import Derived.Test.YtmbacnnbpnlekaaPDR
namespace Go.Proofs.Ytmbacnnbpnlekaa.E
open Go Go.RowKit Go.Proofs.Ytmbacnnbpnlekaa.PD Go.Proofs.Ytmbacnnbpnlekaa.M Go.Proofs.YtmbacnnbpnlekaaW.PrintWords Go.Proofs.YtmbacnnbpnlekaaW.PrintLast Go.Proofs.YtmbacnnbpnlekaaW.PrintMore

theorem szBindS_l : ∀ (l p : List BL) (left : Int), (∀ a ∈ l, W114 a) → p.length + l.length ≤ 281474976710656 → 0 ≤ left → left ≤ 1048576 →
    ∃ r, Ev (fun k => laws_szBindS.l0 k (p ++ l) left (p.length : Int)) r ∧ -1 ≤ r ∧ r ≤ left ∧ (0 ≤ r → ∀ a ∈ l, ∃ n, N1 n a.f1) := by
  intro l
  induction l with
  | nil =>
    intro p left _ _ h0 h1
    refine ⟨left, Ev.at1 fun k => ?_, by omega, by omega, fun _ a h => by cases h⟩
    rw [laws_szBindS.l0, if_neg (by simp)]
  | cons a t iht =>
    intro p left hq hlen h0 h1
    rw [List.length_cons] at hlen
    obtain ⟨_, n, hw⟩ := hq a List.mem_cons_self
    obtain ⟨r1, e1, ha, hb, hn⟩ := szTy n a.f1 hw left h0 h1
    have e1' : Ev (fun k => laws_szBind.f k a.f0 a.f1.f0 a.f1.f1 a.f1.f2 left) (if r1 < 0 then -1 else r1) := by
      refine Ev.congr (fun k => by rw [laws_szBind.f]) (Ev.bind e1 (f := fun k t106 => if t106 < 0 then some (-1) else some t106) (Ev.const fun k => ?_))
      by_cases c : r1 < 0
      · rw [if_pos c, if_pos c]
      · rw [if_neg c, if_neg c]
    by_cases hr : r1 < 0
    · rw [if_pos hr] at e1'
      refine ⟨-1, Ev.step (fun k => ?_) (Ev.bind e1' (f := fun k t108 => if t108 < 0 then some (-1) else laws_szBindS.l0 k (p ++ a :: t) t108 (wrap64 ((p.length : Int) + 1))) (Ev.const fun k => ?_)), by omega, by omega, fun h => by omega⟩
      · rw [laws_szBindS.l0, if_pos (by simp; omega), if_pos (by omega), rdBL]
      · rw [if_pos (by decide)]
    · rw [if_neg hr] at e1'
      obtain ⟨r2, e2, ha2, hb2, hn2⟩ := iht (p ++ [a]) r1 (fun b hb => hq b (List.mem_cons_of_mem _ hb)) (by simp; omega) (by omega) (by omega)
      refine ⟨r2, Ev.step (fun k => ?_) (Ev.bind e1' (f := fun k t108 => if t108 < 0 then some (-1) else laws_szBindS.l0 k (p ++ a :: t) t108 (wrap64 ((p.length : Int) + 1))) (Ev.congr (fun k => ?_) e2)), ha2, by omega, fun h b hb => ?_⟩
      · rw [laws_szBindS.l0, if_pos (by simp; omega), if_pos (by omega), rdBL]
      · rw [if_neg hr, w1 p a (by omega), app1 p t a]
      · rcases List.mem_cons.1 hb with h1 | h1
        · subst h1; exact ⟨n, hn (by omega)⟩
        · exact hn2 h b h1

theorem toBindS_l : ∀ (l p : List BL) (q : List Bd), (∀ a ∈ l, ∃ n, N1 n a.f1) → p.length = q.length → p.length + l.length ≤ 281474976710656 →
    ∃ r, Ev (fun k => laws_toBindS.l0 k (p ++ l) (q ++ List.replicate l.length z84) (p.length : Int)) (q ++ r) ∧ r.length = l.length ∧ ∀ a ∈ r, ∃ n, N2 n a.f1 := by
  intro l
  induction l with
  | nil =>
    intro p q _ hpq _
    refine ⟨[], Ev.at1 fun k => ?_, rfl, fun a h => by cases h⟩
    rw [laws_toBindS.l0, if_neg (by simp)]
    simp
  | cons a t iht =>
    intro p q hq hpq hlen
    rw [List.length_cons] at hlen
    obtain ⟨n, hn⟩ := hq a List.mem_cons_self
    obtain ⟨y, e1, hy⟩ := toTy n a.f1 hn
    have e1' : Ev (fun k => laws_toBind.f k a.f0 a.f1.f0 a.f1.f1 a.f1.f2) (a.f0, y.f0, y.f1, y.f2) :=
      Ev.congr (fun k => by rw [laws_toBind.f]) (Ev.bind e1 (f := fun k bt => some (a.f0, bt.1, bt.2.1, bt.2.2)) (Ev.now _))
    obtain ⟨r, e2, hrl, hr⟩ := iht (p ++ [a]) (q ++ [⟨a.f0, y⟩]) (fun b hb => hq b (List.mem_cons_of_mem _ hb)) (by simp [hpq]) (by simp; omega)
    refine ⟨⟨a.f0, y⟩ :: r, Ev.val (Ev.step (fun k => ?_) (Ev.bind e1' (f := fun k bt => if (p.length : Int) < ((q ++ List.replicate (a :: t).length z84).length : Int) then laws_toBindS.l0 k (p ++ a :: t) ((q ++ List.replicate (a :: t).length z84).set (p.length : Int).toNat (⟨bt.1, (⟨bt.2.1, bt.2.2.1, bt.2.2.2⟩ : S63)⟩ : S84)) (wrap64 ((p.length : Int) + 1)) else none) (Ev.congr (fun k => ?_) e2))) (by simp), by simp [hrl], fun b hb => ?_⟩
    · rw [laws_toBindS.l0, if_pos (by simp; omega), if_pos (by omega), rdBL]
    · rw [if_pos (by simp; omega), w1 p a (by omega), app1 p t a, Int.toNat_natCast, hpq]
      congr 1
      simp [List.replicate_succ]
      cases y
      rfl
    · rcases List.mem_cons.1 hb with h1 | h1
      · subst h1; exact ⟨n, hy⟩
      · exact hr b h1

theorem eqBindS_l : ∀ (l p : List Bd), (∀ a ∈ l, ∃ n, N2 n a.f1) → p.length + l.length ≤ 281474976710656 → Ev (fun k => laws_eqBindS.l0 k (p ++ l) (p ++ l) (p.length : Int)) true := by
  intro l
  induction l with
  | nil =>
    intro p _ _
    refine Ev.at1 fun k => ?_
    rw [laws_eqBindS.l0, if_neg (by simp)]
  | cons a t iht =>
    intro p hq hlen
    rw [List.length_cons] at hlen
    obtain ⟨n, hn⟩ := hq a List.mem_cons_self
    have e0 := eqTy n a.f1 hn
    have e1 : Ev (fun k => laws_eqBind.f k a.f0 a.f1.f0 a.f1.f1 a.f1.f2 a.f0 a.f1.f0 a.f1.f1 a.f1.f2) true :=
      Ev.congr (fun k => by rw [laws_eqBind.f, if_pos rfl]) (Ev.bind e0 (f := fun k t223 => if t223 = true then some true else some false) (Ev.const fun k => by rw [if_pos rfl]))
    have e2 := iht (p ++ [a]) (fun b hb => hq b (List.mem_cons_of_mem _ hb)) (by simp; omega)
    refine Ev.step (fun k => ?_) (Ev.bind e1 (f := fun k t226 => if t226 = true then laws_eqBindS.l0 k (p ++ a :: t) (p ++ a :: t) (wrap64 ((p.length : Int) + 1)) else some false) (Ev.congr (fun k => ?_) e2))
    · rw [laws_eqBindS.l0, if_pos (by simp; omega), if_pos (by omega), if_pos (by simp; omega), rdB]
    · rw [if_pos rfl, w1 p a (by omega), app1 p t a]

/-- What all laws on one row of binds begin with. -/
theorem bindsStart (x : List BL) (hl : x.length ≤ maxLen) (hx : ∀ a ∈ x, W114 a) : (∃ r, Ev (fun k => laws_szBindS.f k x 1048576) r ∧ r < 0) ∨
    ∃ r y, Ev (fun k => laws_szBindS.f k x 1048576) r ∧ ¬ r < 0 ∧ Ev (fun k => laws_toBindS.f k x) y ∧ y.length ≤ 1048576 ∧ (∀ a ∈ y, ∃ n, N2 n a.f1) ∧ Ev (fun k => laws_eqBindS.f k y y) true := by
  simp only [maxLen] at hl
  have hw : wrap64 (1048576 - (x.length : Int)) = 1048576 - (x.length : Int) := w64 (by omega) (by omega)
  by_cases hneg : 1048576 - (x.length : Int) < 0
  · exact .inl ⟨-1, Ev.const fun k => by rw [laws_szBindS.f, hw, if_pos hneg], by decide⟩
  · obtain ⟨r, e, ha, hb, hn⟩ := szBindS_l x [] (1048576 - (x.length : Int)) hx (by simp; omega) (by omega) (by omega)
    have e' : Ev (fun k => laws_szBindS.f k x 1048576) r := Ev.congr (fun k => by rw [laws_szBindS.f, hw, if_neg hneg]; rfl) e
    by_cases c : r < 0
    · exact .inl ⟨r, e', c⟩
    · obtain ⟨y, ey, hyl, hy⟩ := toBindS_l x [] [] (hn (by omega)) rfl (by simp; omega)
      have ey' : Ev (fun k => laws_toBindS.f k x) y := Ev.congr (fun k => by rw [laws_toBindS.f, if_pos (by omega), if_pos (by rw [Int.toNat_natCast]; omega), Int.toNat_natCast]; rfl) ey
      exact .inr ⟨r, y, e', c, ey', by omega, hy, Ev.congr (fun k => by rw [laws_eqBindS.f, if_pos rfl]; rfl) (eqBindS_l y [] hy (by simp; omega))⟩

end Go.Proofs.Ytmbacnnbpnlekaa.E
