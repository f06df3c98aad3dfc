import Derived.Test.YtkgabahlbmonfaaDoorEvLim
set_option linter.unusedVariables false
set_option linter.unusedSimpArgs false
/-
  How the equations of runs are counted out.
-/
namespace Go.Ev
open Go

abbrev Sl := Nat × List (List D)
abbrev Res := Option (V × Mem)
abbrev w64 (x : Int) : Int := IntKind.wrap .i64 x

theorem w64_id {x : Int} (h1 : -9223372036854775808 ≤ x) (h2 : x < 9223372036854775808) : w64 x = x := by
  simp only [w64, IntKind.wrap, IntKind.bits, IntKind.signed]
  simp
  omega

section
variable {R : Type}
theorem oite_t {x y : Option R} : oite true x y = x := by rw [oite_eq]; rfl
theorem oite_f {x y : Option R} : oite false x y = y := by rw [oite_eq]; rfl
theorem oite_dec {p : Prop} [Decidable p] {x y : Option R} : oite (decide p) x y = if p then x else y := by
  rw [oite_eq]; by_cases h : p <;> simp [h]
theorem oite_not {b : Bool} {x y : Option R} : oite (!b) x y = oite b y x := by
  rw [oite_eq, oite_eq]; cases b <;> rfl
theorem oite_if {b : Bool} {x y : Option R} : oite b x y = if b = true then x else y := by
  rw [oite_eq]; cases b <;> rfl
theorem oguard_dec {p : Prop} [Decidable p] {x : Option R} (h : p) : oguard (decide p) x = x := oguard_t (decide_eq_true h)

/-! Forms -/
theorem LS.dec_enc {s : LS} (h : s.isD = true) (t : s.T) : s.dec (s.enc t) = some t := by
  cases s with
  | int k => simp [LS.dec, LS.enc]
  | sl sz => simp [LS.dec, LS.enc]
  | bool => rfl
  | str => rfl
  | own i => cases h
  | ptr i o => cases h
  | undef => cases h
theorem LS.decs_encs : ∀ {l : List LS} (_ : LS.alld l = true) (t : LS.Ts l), LS.decs l (LS.encs l t) = some t
  | [], _, () => rfl
  | s :: l, h, (a, t) => by
    have h' : (s.isD && LS.alld l) = true := h
    rw [Bool.and_eq_true] at h'
    show LS.decs (s :: l) (s.enc a :: LS.encs l t) = _
    simp only [LS.decs, LS.dec_enc h'.1, LS.decs_encs h'.2]
theorem vD_enc {s : LS} (h : s.isD = true) (t : s.T) : V.d (vD (s.enc t)) = s.enc t := by
  cases s <;> first | rfl | cases h
theorem LS.decD_encs : ∀ {l : List LS} (_ : LS.alld l = true) (t : LS.Ts l), LS.decD l (vDs (LS.encs l t)) = some t
  | [], _, () => rfl
  | s :: l, h, (a, t) => by
    have h' : (s.isD && LS.alld l) = true := h
    rw [Bool.and_eq_true] at h'
    show LS.decD (s :: l) (vD (s.enc a) :: vDs (LS.encs l t)) = _
    simp only [LS.decD, vD_enc h'.1, LS.dec_enc h'.1, LS.decD_encs h'.2]
theorem vDs_encs_len (l : List LS) (t : LS.Ts l) : (vDs (LS.encs l t)).length = l.length := by rw [vDs_len, LS.encs_len]

/-! What calls return -/
theorem ocall_v {s : Sh} {m : List ES} {v : V} {M : Mem} {f : s.T → ES.Ts m → Option R} : ocall s m (some (v, M)) f = match s.dec v, ES.decs m M with
    | some t, some u => f t u
    | _, _ => none := by
  simp only [ocall]; rfl
theorem ocall_int {k : IntKind} {n : Int} {f : Int → Unit → Option R} : ocall (.m (.one (.int k))) [] (some (.d (.int k n), [])) f = f n () := by
  exact ocall_t rfl (LS.dec_enc (s := .int k) rfl n) rfl
theorem ocall_bool {b : Bool} {f : Bool → Unit → Option R} : ocall (.m (.one .bool)) [] (some (.d (.bool b), [])) f = f b () := ocall_t rfl rfl rfl
theorem ocall_str {b : ByteArray} {f : ByteArray → Unit → Option R} : ocall (.m (.one .str)) [] (some (.d (.str b), [])) f = f b () := ocall_t rfl rfl rfl
theorem ocall_sl {sz : Nat} {s : Sl} {f : Sl → Unit → Option R} : ocall (.m (.one (.sl sz))) [] (some (.d (.sl false sz s.1 s.2), [])) f = f s () := ocall_t rfl (LS.dec_enc (s := .sl sz) rfl s) rfl
theorem ocall_agg {l : List LS} (h : LS.alld l = true) {t : LS.Ts l} {f : LS.Ts l → Unit → Option R} : ocall (.m (.agg l)) [] (some (.agg (LS.encs l t), [])) f = f t () := ocall_t rfl (LS.decs_encs h t) rfl

theorem ES.decs_box {l : List LS} (h : LS.alld l = true) (t : LS.Ts l) : ES.decs [.box l] [.box (LS.encs l t)] = some (t, ()) := by
  have : (ES.box l).dec (.box (LS.encs l t)) = some t := LS.decs_encs h t
  simp only [ES.decs, this]
theorem ocall_int_box {k : IntKind} {n : Int} {l : List LS} (h : LS.alld l = true) {t : LS.Ts l} {f : Int → LS.Ts l × Unit → Option R} : ocall (.m (.one (.int k))) [.box l] (some (.d (.int k n), [.box (LS.encs l t)])) f = f n (t, ()) :=
  ocall_t (s := .m (.one (.int k))) (m := [.box l]) rfl (LS.dec_enc (s := .int k) rfl n) (ES.decs_box h t)
theorem ocall_bool_box {b : Bool} {l : List LS} (h : LS.alld l = true) {t : LS.Ts l} {f : Bool → LS.Ts l × Unit → Option R} : ocall (.m (.one .bool)) [.box l] (some (.d (.bool b), [.box (LS.encs l t)])) f = f b (t, ()) :=
  ocall_t (s := .m (.one .bool)) (m := [.box l]) rfl rfl (ES.decs_box h t)

/-! Lists of data -/
/-- A list of things that are told by cells of a form. -/
def sl {α : Type} {sh : List LS} (g : α → LS.Ts sh) (l : List α) : Sl := (l.length, l.map fun a => vDs (LS.encs sh (g a)))
theorem sl_n {α : Type} {sh : List LS} {g : α → LS.Ts sh} {l : List α} : (sl g l).1 = l.length := rfl
theorem sl_es {α : Type} {sh : List LS} {g : α → LS.Ts sh} {l : List α} : (sl g l).2 = l.map fun a => vDs (LS.encs sh (g a)) := rfl
theorem sl_pair {α : Type} {sh : List LS} {g : α → LS.Ts sh} {l : List α} : (l.length, l.map fun a => vDs (LS.encs sh (g a))) = sl g l := rfl

theorem oat_sl {α : Type} {sh : List LS} {g : α → LS.Ts sh} {l : List α} (hs : LS.alld sh = true) {i : Int} {a : α} (hi : 0 ≤ i) (ha : l[i.toNat]? = some a) {f : LS.Ts sh → Option R} : oat sh (sl g l).1 (sl g l).2 i f = f (g a) := by
  have hlt := (List.getElem?_eq_some_iff.1 ha).1
  refine oat_t ⟨hi, ?_⟩ ?_
  · rw [sl_n]; omega
  · rw [sl_es, List.getD_eq_getElem?_getD, List.getElem?_map, ha]
    exact LS.decD_encs hs _
theorem oat_at {α : Type} {sh : List LS} {g : α → LS.Ts sh} {p q : List α} {a : α} (hs : LS.alld sh = true) {f : LS.Ts sh → Option R} : oat sh (sl g (p ++ a :: q)).1 (sl g (p ++ a :: q)).2 (p.length : Int) f = f (g a) :=
  oat_sl hs (by omega) (by simp)

/-- An element is written over. -/
theorem sl_set {α : Type} {sh : List LS} {g : α → LS.Ts sh} {p q : List α} {a b : α} : (sl g (p ++ a :: q)).2.set p.length (putD ((sl g (p ++ a :: q)).2.getD p.length []) 0 (vDs (LS.encs sh (g b)))) = (sl g (p ++ b :: q)).2 := by
  have h1 : (sl g (p ++ a :: q)).2.getD p.length [] = vDs (LS.encs sh (g a)) := by
    rw [sl_es, List.getD_eq_getElem?_getD, List.getElem?_map]; simp
  rw [h1, putD_eq _ _ _ (by rw [vDs_encs_len, vDs_encs_len]; omega)]
  have h2 : vDs (LS.encs sh (g b)) = List.take 0 (vDs (LS.encs sh (g a))) ++ vDs (LS.encs sh (g b)) ++ List.drop (0 + (vDs (LS.encs sh (g b))).length) (vDs (LS.encs sh (g a))) := by
    rw [List.drop_eq_nil_of_le (by rw [vDs_encs_len, vDs_encs_len]; omega)]; simp
  rw [← h2]
  simp [sl_es]
end
end Go.Ev
