import Derived.Test.YtkgabahlbmonfaaDoorEvDraw5
set_option linter.unusedVariables false
set_option linter.unusedSimpArgs false
/-
  The evaluator's regions are the machine's: operations that only read are taken whenever the machine takes them.
-/
namespace Go.Ev
open Go

section
variable {ops : Array Oper}

abbrev Bf (ops : Array Oper) (i j : Nat) : Prop := ((clos ops.toList []).getD i 0).testBit j = true

structure RegF (ops : Array Oper) (p : List Nat) (nr : Nat) (fl : List Nat) (ck : List (Nat × List Nat)) : Prop where
  base : RegOk0 ops p nr 0
  self : ∀ (y j : Nat) (q : Oper), p[y]? = some j → ops[j]? = some q → isFl fl j = true → nr ≤ y ∧ q.guard = none ∧ ∃ d, q.dst = some d ∧ d ∉ q.looksAt ops
  dst : ∀ (x y i j : Nat) (o q : Oper) (d : Nat), x ≠ y → p[x]? = some i → p[y]? = some j → ops[i]? = some o → ops[j]? = some q → isFl fl j = true → q.dst = some d → o.dst ≠ some d ∧ (d ∈ o.looksAt ops → Bf ops i j ∧ y < x)
  nil : ∀ (x i : Nat) (o : Oper), nr ≤ x → p[x]? = some i → ops[i]? = some o → isFl fl i = false → nilOp o.op = false
  anch : ∀ x y i j : Nat, nr ≤ y → y < x → p[x]? = some i → p[y]? = some j → isFl fl i = false → Bf ops i j
  flt : ∀ x y i j : Nat, nr ≤ y → y < x → p[x]? = some i → p[y]? = some j → isFl fl i = true → isFl fl j = false → Bf ops i j ∨ (idx (ckAt ck j) i).isSome = true
  ckf : ∀ x y i j : Nat, y < x → p[x]? = some i → p[y]? = some j → (idx (ckAt ck j) i).isSome = true → isFl fl i = true

theorem RegF.of {p : List Nat} {nr : Nat} {fl : List Nat} {ck : List (Nat × List Nat)} (h : regOkF ops p nr fl ck = true) : RegF ops p nr fl ck := by
  unfold regOkF at h
  simp only [Bool.and_eq_true] at h
  obtain ⟨h1, h0, h2, h3, h4, h5, h6, h7, h8⟩ := h
  have h1 := Nat.eq_of_beq_eq_true h1
  have h4 := Nat.le_of_ble_eq_true h4
  simp only [List.all_eq_true, List.mem_range] at h0 h3 h7 h8
  have hlt : ∀ i ∈ p, i < ops.size := fun i hi => by simpa [Nat.blt_eq] using h3 i hi
  have at1 : ∀ x i o, p[x]? = some i → ops[i]? = some o → _ := fun x i o hx ho => by
    have hxl := (List.getElem?_eq_some_iff.1 hx).1
    have hl : ops.toList[i]? = some o := by simpa using ho
    have := h8 x hxl
    simp only [hx, hl, Bool.and_eq_true] at this
    exact this
  have get : ∀ x i, p[x]? = some i → ∃ o, ops[i]? = some o := fun x i hx => by
    have := hlt i (List.mem_of_getElem? hx)
    exact ⟨ops[i], Array.getElem?_eq_getElem this⟩
  have at2 : ∀ x y i j o q, x ≠ y → p[x]? = some i → p[y]? = some j → ops[i]? = some o → ops[j]? = some q → _ := fun x y i j o q hne hpx hpy ho hq => by
    have h9 := (at1 x i o hpx ho).2
    have hyl := (List.getElem?_eq_some_iff.1 hpy).1
    simp only [List.all_eq_true, List.mem_range] at h9
    have h10 := h9 y hyl
    have hb : Nat.beq x y = false := by rw [Bool.eq_false_iff]; intro e'; exact hne (Nat.eq_of_beq_eq_true e')
    have hl : ops.toList[j]? = some q := by simpa using hq
    rw [hb, hpy] at h10
    simp only [hl, Bool.false_or, Bool.and_eq_true] at h10
    exact h10
  refine ⟨⟨h1, fun i hi => ?all, nodupB_nodup' h2, hlt, h4, h5, h6, fun i o ho e he hb => ?back, fun x y i j o q d hx hy hne hpx hpy ho hq hd => ?early⟩, fun y j q hpy hq hf => ?self, fun x y i j o q d hne hpx hpy ho hq hf hd => ?dst, fun x i o hnx hpx ho hf => ?nil, fun x y i j hny hyx hpx hpy hf => ?anch, fun x y i j hny hyx hpx hpy hf hg => ?flt, fun x y i j hyx hpx hpy hk => ?ckf⟩
  case all =>
    have := h0 i hi
    cases hx : idx p i with
    | none => rw [hx] at this; cases this
    | some x => exact ⟨x, idx_get hx⟩
  case back =>
    have hi := (Array.getElem?_eq_some_iff.1 ho).1
    have hl : ops.toList[i]? = some o := by simpa using ho
    have := h7 i hi
    rw [hl] at this
    simp only [List.all_eq_true] at this
    have := this e he
    simp only [hb, Bool.not_true, Bool.false_or] at this
    simpa [Nat.blt_eq] using this
  case early =>
    have h9 := (at2 x y i j o q hne hpx hpy ho hq).1
    have e1 : Nat.blt x nr = true := by simpa [Nat.blt_eq] using hx
    have e2 : Nat.blt y nr = true := by simpa [Nat.blt_eq] using hy
    rw [e1, e2, hd] at h9
    simp only [Bool.and_self, Bool.not_true, Bool.false_or, Bool.and_eq_true, Bool.not_eq_true', beq_eq_false_iff_ne, Bool.or_eq_true] at h9
    refine ⟨h9.1, fun hm => ?_⟩
    rcases h9.2 with h10 | h10
    · simp only [List.contains_eq_mem, decide_eq_false_iff_not] at h10
      exact absurd hm h10
    · exact ⟨by simpa [Nat.blt_eq] using h10, .inl (by omega)⟩
  case nil =>
    have h9 := (at1 x i o hpx ho).1.1
    have e1 : Nat.blt x nr = false := by rw [Bool.eq_false_iff]; intro h; simp [Nat.blt_eq] at h; omega
    rw [hf, e1] at h9
    simpa using h9
  case self =>
    have h9 := (at1 y j q hpy hq).1.2
    rw [hf] at h9
    simp only [Bool.not_true, Bool.false_or, Bool.and_eq_true] at h9
    obtain ⟨a1, a2, a3⟩ := h9
    refine ⟨Nat.le_of_ble_eq_true a1, ?_, ?_⟩
    · cases hg : q.guard with | none => rfl | some _ => rw [hg] at a2; cases a2
    · cases hd : q.dst with
      | none => rw [hd] at a3; cases a3
      | some d =>
        rw [hd] at a3
        exact ⟨d, rfl, by simpa using a3⟩
  case dst =>
    have h9 := (at2 x y i j o q hne hpx hpy ho hq).2.1
    rw [hf, hd] at h9
    simp only [Bool.not_true, Bool.false_or, Bool.and_eq_true, Bool.not_eq_true', beq_eq_false_iff_ne, Bool.or_eq_true] at h9
    refine ⟨h9.1, fun hm => ?_⟩
    rcases h9.2 with h10 | h10
    · simp only [List.contains_eq_mem, decide_eq_false_iff_not] at h10
      exact absurd hm h10
    · exact ⟨h10.1, by simpa [Nat.blt_eq] using h10.2⟩
  case anch =>
    obtain ⟨o, ho⟩ := get x i hpx
    obtain ⟨q, hq⟩ := get y j hpy
    have h9 := (at2 x y i j o q (by omega) hpx hpy ho hq).2.2.1
    have e1 : Nat.ble nr y = true := by simpa using hny
    have e2 : Nat.blt y x = true := by simpa [Nat.blt_eq] using hyx
    rw [e1, e2, hf] at h9
    simpa [Bf] using h9
  case flt =>
    obtain ⟨o, ho⟩ := get x i hpx
    obtain ⟨q, hq⟩ := get y j hpy
    have h9 := (at2 x y i j o q (by omega) hpx hpy ho hq).2.2.1
    have e1 : Nat.ble nr y = true := by simpa using hny
    have e2 : Nat.blt y x = true := by simpa [Nat.blt_eq] using hyx
    rw [e1, e2, hf, hg] at h9
    simpa [Bf] using h9
  case ckf =>
    obtain ⟨o, ho⟩ := get x i hpx
    obtain ⟨q, hq⟩ := get y j hpy
    have h9 := (at2 x y i j o q (by omega) hpx hpy ho hq).2.2.2
    have e2 : Nat.blt y x = true := by simpa [Nat.blt_eq] using hyx
    rw [e2, hk] at h9
    simpa using h9
end

/-! Environments -/
theorem find_append {α : Type} {t : Nat} : ∀ {s e : List (Nat × α)}, find (s ++ e) t = match find s t with | some v => some v | none => find e t
  | [], e => by simp [find]
  | (d, v) :: s, e => by
    simp only [List.cons_append, find]
    cases h : Nat.beq d t with
    | true => rfl
    | false => simpa using find_append (s := s) (e := e)
theorem find_filter {α : Type} {f : Nat → Bool} {t : Nat} : ∀ {s : List (Nat × α)}, find (s.filter fun p => f p.1) t = bif f t then find s t else none
  | [] => by simp [find]
  | (d, v) :: s => by
    have ih := find_filter (f := f) (t := t) (s := s)
    simp only [List.filter_cons]
    by_cases hd : f d = true
    · rw [if_pos hd]
      simp only [find]
      cases h : Nat.beq d t with
      | true =>
        have := Nat.eq_of_beq_eq_true h
        subst this
        rw [hd]; rfl
      | false => simpa using ih
    · rw [if_neg hd, ih]
      simp only [find]
      cases h : Nat.beq d t with
      | true =>
        have := Nat.eq_of_beq_eq_true h
        subst this
        simp at hd
        rw [hd]; rfl
      | false => rfl
theorem getE_find {e : Env} {t : Nat} : getE e t = match find e t with | some v => v | none => .undef := rfl
theorem find_mapV {g : V → V} {t : Nat} : ∀ {e : Env}, find (e.map fun p => (p.1, g p.2)) t = (find e t).map g
  | [] => by simp [find]
  | (d, v) :: e => by
    have ih := find_mapV (g := g) (t := t) (e := e)
    simp only [List.map_cons, find]
    cases h : Nat.beq d t with
    | true => rfl
    | false => simpa using ih

theorem noIds_ren {g : Nat → Option Nat} : ∀ (v : V), ids v = [] → v.ren g = v
  | .agg vs, h => by
    simp only [V.ren]
    rw [go vs (by simpa [ids] using h)]
  | .tup vs, h => by
    simp only [V.ren]
    rw [go vs (by simpa [ids] using h)]
  | .fn f vs, h => by
    simp only [V.ren]
    rw [go vs (by simpa [ids] using h)]
  | .own i, h => by simp [ids] at h
  | .ref i _ _, h => by simp [ids] at h
  | .ptr i _, h => by simp [ids] at h
  | .ep i _ _, h => by simp [ids] at h
  | .undef, _ => rfl
  | .d _, _ => rfl
  | .kb _, _ => rfl
  | .rp _ _, _ => rfl
where go : ∀ (vs : List V), ids.go vs = [] → V.ren.go g vs = vs
  | [], _ => rfl
  | v :: vs, h => by
    simp only [ids.go, List.append_eq_nil_iff] at h
    simp only [V.ren.go]
    rw [noIds_ren v h.1, go vs h.2]
theorem noIds_eq {v : V} (h : noIds v = true) : ids v = [] := by
  unfold noIds at h
  split at h
  · assumption
  · cases h

theorem puts_miss {t : Nat} : ∀ {L : List Oper} {vs : List V} {e : Env}, (∀ o ∈ L, o.dst ≠ some t) → getE (puts e L vs) t = getE e t
  | [], vs, e, _ => by cases vs <;> rfl
  | _ :: _, [], e, _ => rfl
  | o :: L, v :: vs, e, h => by
    simp only [puts]
    rw [puts_miss (fun q hq => h q (by simp [hq]))]
    have hd := h o (by simp)
    cases hdo : o.dst with
    | none => rfl
    | some d =>
      rw [getE_put, if_neg (fun e => hd (by rw [hdo, e]))]
theorem puts_hit {t : Nat} : ∀ {L : List Oper} {vs : List V} {e : Env} {z : Nat} {o : Oper} {v : V}, L[z]? = some o → vs[z]? = some v → o.dst = some t → (∀ (z' : Nat) (q : Oper), z < z' → L[z']? = some q → q.dst ≠ some t) → getE (puts e L vs) t = v
  | [], _, _, _, _, _, h, _, _, _ => by simp at h
  | _ :: _, [], _, _, _, _, _, h, _, _ => by simp at h
  | o' :: L, v' :: vs, e, 0, o, v, h1, h2, h3, h4 => by
    simp at h1 h2; subst h1 h2
    simp only [puts]
    rw [puts_miss (fun q hq => by
      obtain ⟨i, hi⟩ := List.getElem?_of_mem hq
      exact h4 (i + 1) q (by omega) (by simpa using hi)), h3, getE_put, if_pos rfl]
  | o' :: L, v' :: vs, e, z + 1, o, v, h1, h2, h3, h4 => by
    simp only [puts]
    exact puts_hit (z := z) (by simpa using h1) (by simpa using h2) h3 (fun z' q hz hq => h4 (z' + 1) q (by omega) (by simpa using hq))

section
variable {R : Type} {P : Program} {C0 : Com} {ι0 : Locs} {w0 : World}

theorem evOpR_congr {cx : Cx} {ty : TypeId} {o : Op} {rd rd' : Operand → V} {M : Mem} {k : V → Option R} (hno : nilOp o = false) (h : ∀ x ∈ o.operands, rd x = rd' x) : evOpR cx ty o rd M k = evOpR cx ty o rd' M k := by
  by_cases hb : (∃ t n ps, o = .buildSlice t n ps) ∨ ∃ x as ts, o = .call ⟨.value x, as, ts⟩
  · rcases hb with ⟨t, n, ps, rfl⟩ | ⟨x, as, ts, rfl⟩ <;> simp only [evOpR]
  · have e : ∀ rd : Operand → V, evOpR cx ty o rd M k = evOpQ cx (fun _ _ _ => none) ty o rd M k := by
      intro rd
      cases o with
      | buildSlice t n ps => exact absurd (.inl ⟨t, n, ps, rfl⟩) hb
      | call c =>
        obtain ⟨callee, args, ats⟩ := c
        cases callee with
        | value f => exact absurd (.inr ⟨f, args, ats, rfl⟩) hb
        | _ => simp only [evOpQ]
      | _ => simp only [evOpQ, hno, cond_false]
    rw [e, e, evOpQ_congr h]

theorem evOp_congr {cx : Cx} {call : CallF} {ty : TypeId} {o : Op} {rd rd' : Operand → V} {M : Mem} {k : V → Mem → List Nat → Option R} (hno : nilOp o = false) (h : ∀ x ∈ o.operands, rd x = rd' x) : evOp cx call ty o rd M k = evOp cx call ty o rd' M k := by
  have RR := fun k => evOpR_congr (cx := cx) (ty := ty) (M := M) (R := R) (k := k) hno h
  cases o with
  | alloc t => simp only [evOp]
  | box t x => have hx := h x (by simp [Op.operands]); simp only [evOp, hx]
  | store t a x => have h1 := h a (by simp [Op.operands]); have h2 := h x (by simp [Op.operands]); simp only [evOp, h1, h2]
  | makeSlice t l c => have h1 := h l (by simp [Op.operands]); have h2 := h c (by simp [Op.operands]); simp only [evOp, h1, h2]
  | load t a =>
    have h1 := h a (by simp [Op.operands])
    have hr := RR (fun v => k v M [])
    simp only [evOp, h1, hr]
  | buildSlice t n ps =>
    have : ∀ e, (ps.toList.map fun p => (p.1, fixNil cx e (rd p.2))) = ps.toList.map fun p => (p.1, fixNil cx e (rd' p.2)) := fun e =>
      List.map_congr_left fun p hp => by rw [h p.2 (by simp only [Op.operands]; simpa using ⟨p.1, by simpa using hp⟩)]
    simp only [evOp, this]
  | convert s t x =>
    have hx := h x (by simp [Op.operands])
    have hr := RR (fun v => k v M [])
    simp only [evOp, hx, hr]
  | call c =>
    obtain ⟨callee, args, ats⟩ := c
    have h1 : args.toList.map rd = args.toList.map rd' := List.map_congr_left fun x hx => h x (by simp [Op.operands, Call.operands]; exact .inr (by simpa using hx))
    cases callee with
    | value f =>
      have hf := h f (by simp [Op.operands, Call.operands])
      simp only [evOp, hf, h1]
    | invoke r m => simp only [evOp]
    | builtin b =>
      have hr := RR (fun v => k v M [])
      simp only [evOp]
      split
      · rename_i s x hx
        have e : args = #[s, x] := by apply Array.ext'; simpa using hx
        have h1 : rd s = rd' s := h s (by simp [Op.operands, Call.operands, e])
        have h2 : rd x = rd' x := h x (by simp [Op.operands, Call.operands, e])
        simp only [h1, h2]
      · rename_i x hx
        have e : args = #[x] := by apply Array.ext'; simpa using hx
        have h1 : rd x = rd' x := h x (by simp [Op.operands, Call.operands, e])
        simp only [h1]
      · exact hr
  | _ => exact RR (fun v => k v M [])

/-! Operations that only read, one by one -/
/-- What operations come to one by one. -/
def SeqV (cx : Cx) (call : CallF) (e : Env) (M : Mem) (L : List Oper) (vs : List V) : Prop :=
  ∀ (z : Nat) (o : Oper) (v : V), L[z]? = some o → vs[z]? = some v → evOpQ cx call o.type o.op (rdE (puts e (L.take z) (vs.take z))) M some = some v

theorem SeqV.cons {cx : Cx} {call : CallF} {e : Env} {M : Mem} {o : Oper} {L : List Oper} {v : V} {vs : List V} (h : evOpQ cx call o.type o.op (rdE e) M some = some v) (t : SeqV cx call (putE o.dst v e) M L vs) : SeqV cx call e M (o :: L) (v :: vs) := by
  intro z o' v' h1 h2
  cases z with
  | zero => simp at h1 h2; subst h1 h2; simpa [puts] using h
  | succ z => simpa [puts] using t z o' v' (by simpa using h1) (by simpa using h2)

theorem pre_spec {cx : Cx} {call : CallF} {q : R} : ∀ {L : List Oper} {e : Env} {M : Mem} {k : List V → Option R}, evPre cx call L e M k = some q →
    ∃ vs, vs.length = L.length ∧ SeqV cx call e M L vs ∧ k vs = some q
  | [], e, M, k, h => ⟨[], rfl, fun z o v h => by simp at h, h⟩
  | o :: L, e, M, k, h => by
    unfold evPre at h
    cases hd : o.dst with
    | none => rw [hd] at h; cases h
    | some d =>
      rw [hd] at h
      simp only at h
      obtain ⟨v, h1, h2⟩ := evOpQ_par h
      rw [fV_eq] at h2
      obtain ⟨vs, e1, e2, e4⟩ := pre_spec h2
      exact ⟨v :: vs, by simp [e1], SeqV.cons h1 (by rw [hd]; exact e2), e4⟩
theorem noIdsL_mem : ∀ {vs : List V}, noIdsL vs = true → ∀ v ∈ vs, ids v = []
  | [], _, v, hv => by simp at hv
  | x :: vs, h, v, hv => by
    simp only [noIdsL, Bool.and_eq_true] at h
    rcases List.mem_cons.1 hv with rfl | hv
    · exact noIds_eq h.1
    · exact noIdsL_mem h.2 v hv
theorem evOp_noKill {cx : Cx} {call : CallF} {ty : TypeId} {o : Op} {rd : Operand → V} {M : Mem} {k k' : V → Mem → List Nat → Option R} (h : noKill cx M rd o = true) (hk : ∀ v M', k v M' [] = k' v M' []) : evOp cx call ty o rd M k = evOp cx call ty o rd M k' := by
  cases o with
  | load t a => simp only [evOp, hk]
  | store t a x =>
    have h0 : isLep M (rd a) = false := by simpa [noKill] using h
    simp only [evOp, h0, cond_false, hk]
  | call c =>
    obtain ⟨callee, args, ats⟩ := c
    cases callee with
    | value x =>
      simp only [noKill] at h
      simp only [evOp]
      cases hr : rd x with
      | fn f caps =>
        rw [hr] at h
        simp only at h
        simp only [h, cond_true, hk]
      | _ => rfl
    | _ => cases h
  | _ => cases h
theorem noKill_pre {cx : Cx} {o : Op} {M : Mem} {e : Env} {t : Nat} {b : Bool} (h : noKill cx M (rdE e) o = true) : noKill cx M (rdE ((t, .kb b) :: e)) o = true := by
  have hx : ∀ x, rdE ((t, .kb b) :: e) x = .kb b ∨ rdE ((t, .kb b) :: e) x = rdE e x := by
    intro x
    cases x with
    | tmp t' =>
      simp only [rdE, getE, find]
      cases Nat.beq t t' with
      | true => exact .inl rfl
      | false => exact .inr rfl
    | const v => exact .inr (rdE_const v)
    | _ => exact .inr rfl
  cases o with
  | load t a => rfl
  | store t' a x =>
    simp only [noKill] at h ⊢
    rcases hx a with e1 | e1
    · rw [e1]; rfl
    · rw [e1]; exact h
  | call c =>
    obtain ⟨callee, args, ats⟩ := c
    cases callee with
    | value x =>
      simp only [noKill] at h ⊢
      rcases hx x with e1 | e1
      · rw [e1]
      · rw [e1]; exact h
    | _ => cases h
  | _ => cases h
theorem post_spec {cx : Cx} {call : CallF} {q : R} : ∀ {L : List Oper} {vs : List V} {e : Env} {M : Mem} {x : Option R}, evPost cx call L vs e M x = some q → SeqV cx call e M L vs ∧ x = some q
  | [], vs, e, M, x, h => ⟨fun z o v h => by simp at h, by unfold evPost at h; exact h⟩
  | o :: L, [], e, M, x, h => by unfold evPost at h; cases h
  | o :: L, v :: vs, e, M, x, h => by
    unfold evPost at h
    cases hd : o.dst with
    | none => rw [hd] at h; cases h
    | some d =>
      rw [hd] at h
      simp only at h
      obtain ⟨v', h1, h2⟩ := evOpQ_par h
      obtain ⟨he, h3⟩ := osame_some h2
      simp at he; subst he
      obtain ⟨e1, e2⟩ := post_spec h3
      exact ⟨SeqV.cons h1 (by rw [hd]; exact e1), e2⟩

theorem ckOps_spec {l : List Oper} {c : List Nat} : ∀ {r : List Nat} {m : Nat} {p : List Nat}, p.drop m = r → ∃ xs : List Nat, (∀ (a b : Nat) (x y : Nat), xs[a]? = some x → xs[b]? = some y → a < b → x < y) ∧ (∀ x ∈ xs, m ≤ x ∧ x < p.length ∧ ∀ j, p[x]? = some j → (idx c j).isSome = true) ∧
    xs.length = (ckOps l c r).length ∧ (∀ (z x j : Nat), xs[z]? = some x → p[x]? = some j → l[j]? = (ckOps l c r)[z]?) ∧ (∀ (x j : Nat), m ≤ x → p[x]? = some j → (idx c j).isSome = true → l[j]?.isSome = true → x ∈ xs)
  | [], m, p, h => ⟨[], by simp, by simp, rfl, by simp, fun x j hm hx _ _ => by
      have := lt_of_get hx
      rw [List.drop_eq_nil_iff] at h; omega⟩
  | i :: r, m, p, h => by
    have hm : m < p.length := by
      rcases Nat.lt_or_ge m p.length with h' | h'
      · exact h'
      · rw [List.drop_of_length_le h'] at h; cases h
    rw [List.drop_eq_getElem_cons hm] at h
    have hi : p[m] = i := (List.cons.inj h).1
    have hr := (List.cons.inj h).2
    have hpm : p[m]? = some i := by simp [hm, hi]
    obtain ⟨xs, q1, q2, q3, q4, q5⟩ := ckOps_spec (l := l) (c := c) hr
    by_cases hc : (idx c i).isSome = true ∧ l[i]?.isSome = true
    · obtain ⟨hc1, hc2⟩ := hc
      obtain ⟨a, ha⟩ := Option.isSome_iff_exists.1 hc1
      obtain ⟨o, ho⟩ := Option.isSome_iff_exists.1 hc2
      have e : ckOps l c (i :: r) = o :: ckOps l c r := by simp only [ckOps, ha, ho]
      rw [e]
      refine ⟨m :: xs, ?_, ?_, by simp [q3], ?_, ?_⟩
      · intro a b x y h1 h2 hab
        cases b with
        | zero => omega
        | succ b =>
          cases a with
          | zero =>
            simp at h1; subst h1
            have := q2 y (List.mem_of_getElem? (by simpa using h2)); omega
          | succ a => exact q1 a b x y (by simpa using h1) (by simpa using h2) (by omega)
      · intro x hx
        rcases List.mem_cons.1 hx with rfl | hx
        · exact ⟨Nat.le_refl _, hm, fun j hj => by rw [hpm] at hj; cases hj; exact hc1⟩
        · have := q2 x hx; exact ⟨by omega, this.2⟩
      · intro z x j hz hj
        cases z with
        | zero => simp at hz; subst hz; rw [hpm] at hj; cases hj; simpa using ho
        | succ z => simpa using q4 z x j (by simpa using hz) hj
      · intro x j hx hj h1 h2
        by_cases e : x = m
        · subst e; simp
        · exact List.mem_cons_of_mem _ (q5 x j (by omega) hj h1 h2)
    · have e : ckOps l c (i :: r) = ckOps l c r := by
        simp only [ckOps]
        split
        · rename_i h1 h2; exact absurd ⟨by rw [h1]; rfl, by rw [h2]; rfl⟩ hc
        · rfl
      rw [e]
      refine ⟨xs, q1, fun x hx => by have := q2 x hx; exact ⟨by omega, this.2⟩, q3, q4, ?_⟩
      intro x j hx hj h1 h2
      by_cases e : x = m
      · subst e; rw [hpm] at hj; cases hj; exact absurd ⟨h1, h2⟩ hc
      · exact q5 x j (by omega) hj h1 h2

section
variable {ops : Array Oper} {p : List Nat} {nr : Nat} {fl : List Nat} {ck : List (Nat × List Nat)}

/-- Places of operations that only read, and these. -/
structure Plc (ops : Array Oper) (p : List Nat) (fl : List Nat) (m : Nat) (xs : List Nat) (L : List Oper) : Prop where
  inc : ∀ (a b x y : Nat), xs[a]? = some x → xs[b]? = some y → a < b → x < y
  ge : ∀ x ∈ xs, m ≤ x
  len : xs.length = L.length
  at_ : ∀ (z x : Nat), xs[z]? = some x → ∃ j o, p[x]? = some j ∧ ops[j]? = some o ∧ L[z]? = some o ∧ isFl fl j = true

theorem Plc.lt {m : Nat} {xs : List Nat} {L : List Oper} (h : Plc ops p fl m xs L) {a b x y : Nat} (ha : xs[a]? = some x) (hb : xs[b]? = some y) (hxy : x < y) : a < b := by
  rcases Nat.lt_trichotomy a b with h1 | h1 | h1
  · exact h1
  · subst h1; rw [ha] at hb; cases hb; omega
  · have := h.inc b a y x hb ha h1; omega

theorem agree {cx : Cx} {call : CallF} (hr : RegF ops p nr fl ck) {m : Nat} {sE e : Env} {M : Mem} {L : List Oper} {vs : List V} {xs : List Nat} (hp : Plc ops p fl m xs L) (hseq : SeqV cx call e M L vs)
    {z y j : Nat} {o : Oper} {v : V} (hz : xs[z]? = some y) (hpj : p[y]? = some j) (ho : ops[j]? = some o) (hv : vs[z]? = some v)
    (hk : ∀ (x i : Nat) (q : Oper) (t : Nat), m ≤ x → p[x]? = some i → ops[i]? = some q → isFl fl i = true → q.dst = some t → t ∈ o.looksAt ops → ∃ (z' : Nat) (v' : V), xs[z']? = some x ∧ vs[z']? = some v' ∧ find sE t = some v')
    (hn : ∀ t ∈ o.looksAt ops, (∀ (x i : Nat) (q : Oper), m ≤ x → p[x]? = some i → ops[i]? = some q → isFl fl i = true → q.dst ≠ some t) → find sE t = none) :
    evOpQ cx call o.type o.op (rdE (sE ++ e)) M some = some v := by
  obtain ⟨j', o', hpj', ho', hLz, hfj⟩ := hp.at_ z y hz
  rw [hpj] at hpj'; cases hpj'
  rw [ho] at ho'; cases ho'
  have h1 := hseq z o v hLz hv
  rw [← h1]
  refine (evOpQ_congr (fun x hx => ?_)).symm
  cases x with
  | tmp t =>
    have htl : t ∈ o.looksAt ops := by
      unfold Oper.looksAt
      exact List.mem_append_left _ (List.mem_filterMap.2 ⟨.tmp t, by simpa using hx, rfl⟩)
    simp only [rdE]
    by_cases hex : ∃ (x i : Nat) (q : Oper), m ≤ x ∧ p[x]? = some i ∧ ops[i]? = some q ∧ isFl fl i = true ∧ q.dst = some t
    · obtain ⟨x, i, q, hmx, hpx, hq, hfi, hdt⟩ := hex
      obtain ⟨z', v', e1, e2, e3⟩ := hk x i q t hmx hpx hq hfi hdt htl
      have hne : x ≠ y := by
        intro e
        subst e
        rw [hpj] at hpx; cases hpx
        rw [ho] at hq; cases hq
        obtain ⟨_, _, d, hd, hnd⟩ := hr.self x j o hpj ho hfj
        rw [hdt] at hd; cases hd
        exact hnd htl
      have hxy := (hr.dst y x j i o q t (fun e => hne e.symm) hpj hpx ho hq hfi hdt).2 htl
      have hzz := hp.lt e1 hz hxy.2
      obtain ⟨i', q', hp1, hq1, hL1, _⟩ := hp.at_ z' x e1
      rw [hpx] at hp1; cases hp1
      rw [hq] at hq1; cases hq1
      rw [puts_hit (z := z') (o := q) (v := v') (by rw [List.getElem?_take, if_pos hzz]; exact hL1) (by rw [List.getElem?_take, if_pos hzz]; exact e2) hdt (fun a q2 ha hq2 => ?_)]
      · rw [getE_find, find_append, e3]
      · rw [List.getElem?_take] at hq2
        split at hq2
        · rename_i haz
          have hal : a < xs.length := by rw [hp.len]; exact lt_of_get hq2
          have hxa : xs[a]? = some xs[a] := by simp [hal]
          obtain ⟨i3, q3, hp3, hq3, hL3, _⟩ := hp.at_ a _ hxa
          rw [hq2] at hL3; cases hL3
          have hlt := hp.inc z' a x _ e1 hxa ha
          exact (hr.dst _ x i3 i q2 q t (by omega) hp3 hpx hq3 hq hfi hdt).1
        · cases hq2
    · rw [puts_miss (fun q hq hd => ?_)]
      · rw [getE_find, getE_find, find_append, hn t htl (fun x i q a b c d h => hex ⟨x, i, q, a, b, c, d, h⟩)]
      · obtain ⟨a, ha⟩ := List.getElem?_of_mem hq
        rw [List.getElem?_take] at ha
        split at ha
        · have hal : a < xs.length := by rw [hp.len]; exact lt_of_get ha
          have hxa : xs[a]? = some xs[a] := by simp [hal]
          obtain ⟨i3, q3, hp3, hq3, hL3, hf3⟩ := hp.at_ a _ hxa
          rw [ha] at hL3; cases hL3
          exact hex ⟨_, i3, q, hp.ge _ (List.mem_of_getElem? hxa), hp3, hq3, hf3, hd⟩
        · cases ha
  | const v => rw [rdE_const]
  | _ => rfl

theorem lam {cx : Cx} {call : CallF} {nt : Nat} (hr : RegF ops p nr fl ck) {q : R} : ∀ (n m : Nat) {e : Env} {M : Mem} {k : Env → Mem → Option R}, n + m = p.length → nr ≤ m → evFl cx call nt ops.toList (pickF ops.toList fl ck (p.drop m)) e M k = some q →
    ∃ (xs : List Nat) (vs : List V) (L : List Oper), Plc ops p fl m xs L ∧ vs.length = L.length ∧ SeqV cx call e M L vs ∧ ∀ (y j : Nat), m ≤ y → p[y]? = some j → isFl fl j = true → (∀ (x i : Nat), m ≤ x → x < y → p[x]? = some i → isFl fl i = false → (idx (ckAt ck i) j).isSome = true) → y ∈ xs
  | 0, m, e, M, k, hm, _, h => ⟨[], [], [], ⟨by simp, by simp, rfl, by simp⟩, rfl, fun z o v h => by simp at h, fun y j hy hj _ _ => by have := lt_of_get hj; omega⟩
  | n + 1, m, e, M, k, hm, hnm, h => by
    have hmlt : m < p.length := by omega
    have hpm : p[m]? = some p[m] := by simp [hmlt]
    generalize hi : p[m] = i at hpm
    have hilt : i < ops.size := hr.base.lt i (List.mem_of_getElem? hpm)
    have ho : ops[i]? = some ops[i] := by simp [hilt]
    generalize ops[i] = o at ho
    have hol : ops.toList[i]? = some o := by simpa using ho
    rw [List.drop_eq_getElem_cons hmlt, hi] at h
    simp only [pickF, hol] at h
    cases hf : isFl fl i with
    | true =>
      rw [hf] at h
      obtain ⟨_, hg, d, hd, hself⟩ := hr.self m i o hpm ho hf
      simp only [evFl, cond_true, hg, hd] at h
      obtain ⟨_, h⟩ := bif_some h
      obtain ⟨v, h1, h2⟩ := evOpQ_par h
      rw [fV_eq] at h2
      obtain ⟨xs, vs, L, hp, hvl, hseq, hc⟩ := lam hr n (m + 1) (by omega) (by omega) h2
      refine ⟨m :: xs, v :: vs, o :: L, ⟨?_, ?_, by simp [hp.len], ?_⟩, by simp [hvl], SeqV.cons h1 (by rw [hd]; exact hseq), ?_⟩
      · intro a b x y h1 h2 hab
        cases b with
        | zero => omega
        | succ b =>
          cases a with
          | zero =>
            simp at h1; subst h1
            have := hp.ge y (List.mem_of_getElem? (by simpa using h2)); omega
          | succ a => exact hp.inc a b x y (by simpa using h1) (by simpa using h2) (by omega)
      · intro x hx
        rcases List.mem_cons.1 hx with rfl | hx
        · exact Nat.le_refl _
        · have := hp.ge x hx; omega
      · intro z x hz
        cases z with
        | zero => simp at hz; subst hz; exact ⟨i, o, hpm, ho, rfl, hf⟩
        | succ z => simpa using hp.at_ z x (by simpa using hz)
      · intro y j hy hj hfj hck
        by_cases e : y = m
        · subst e; simp
        · exact List.mem_cons_of_mem _ (hc y j (by omega) hj hfj (fun x i h1 h2 => hck x i (by omega) h2))
    | false =>
      rw [hf] at h
      simp only [evFl, cond_false] at h
      obtain ⟨vs, hvl, hseq, _⟩ := pre_spec h
      obtain ⟨xs, q1, q2, q3, q4, q5⟩ := ckOps_spec (l := ops.toList) (c := ckAt ck i) (p := p) (r := p.drop (m + 1)) (m := m + 1) rfl
      refine ⟨xs, vs, _, ⟨q1, fun x hx => by have := q2 x hx; omega, q3, ?_⟩, hvl, hseq, ?_⟩
      · intro z x hz
        obtain ⟨h1, h2, h3⟩ := q2 x (List.mem_of_getElem? hz)
        have hpx : p[x]? = some p[x] := by simp [h2]
        have hxl : p[x] < ops.size := hr.base.lt _ (List.mem_of_getElem? hpx)
        have hl := q4 z x _ hz hpx
        have ho2 : ops[p[x]]? = some ops[p[x]] := by simp [hxl]
        exact ⟨_, _, hpx, ho2, by rw [← hl]; simp, hr.ckf x m _ i (by omega) hpx hpm (h3 _ hpx)⟩
      · intro y j hy hj hfj hck
        by_cases e : y = m
        · subst e; rw [hpm] at hj; cases hj; rw [hf] at hfj; cases hfj
        · have hjl : j < ops.size := hr.base.lt j (List.mem_of_getElem? hj)
          exact q5 y j (by omega) hj (hck m i (Nat.le_refl _) (by omega) hpm hf) (by simp [hjl])

theorem find_mem {s : Env} {x : Nat × V} (h : x ∈ s) : (find s x.1).isSome = true := by
  induction s with
  | nil => simp at h
  | cons a s ih =>
    obtain ⟨d, v⟩ := a
    simp only [find]
    cases hb : Nat.beq d x.1 with
    | true => rfl
    | false =>
      simp only [cond_false]
      rcases List.mem_cons.1 h with rfl | h
      · simp at hb
      · exact ih h

theorem find_kill {ks : List Nat} {e : Env} {t : Nat} : find (killE ks e) t = (find e t).map fun v => match ks with | [] => v | _ => v.ren (notIn ks) := by
  cases ks with
  | nil => simp [killE]
  | cons a ks => exact find_mapV (g := fun v => v.ren (notIn (a :: ks)))
theorem filter_kill {ks : List Nat} {e : Env} {f : Nat → Bool} : (killE ks e).filter (fun p => f p.1) = killE ks (e.filter fun p => f p.1) := by
  cases ks with
  | nil => rfl
  | cons a ks =>
    simp only [killE]
    induction e with
    | nil => rfl
    | cons x e ih =>
      simp only [List.map_cons, List.filter_cons]
      split <;> simp [ih]

open Classical in
/-- What goes on behind an operation, when some slots are told ahead of their time. -/
noncomputable def kpsi (sE : Env) (F : Nat → Prop) (k : Env → Mem → Option R) : Env → Mem → Option R := fun e'' M'' =>
  if (∀ t v, find sE t = some v → getE e'' t = v) ∧ (∀ t, F t → find sE t = none → find e'' t = none) then k (e''.filter fun p => (find sE p.1).isNone) M'' else none

theorem psi {sE pre e : Env} {F : Nat → Prop} {k : Env → Mem → Option R} {d : Option Nat} (h1 : ∀ t v, find sE t = some v → F t) {ks : List Nat} (h0 : (∀ t v, find sE t = some v → ids v = []) ∨ ks = []) (h2 : ∀ t, F t → find e t = none ∧ d ≠ some t ∧ find pre t = none) (v : V) (M' : Mem) :
    kpsi sE F k (putE d v (killE ks (pre ++ (sE ++ e)))) M' = k (putE d v (killE ks (pre ++ e))) M' := by
  have fp : ∀ t (E : Env), d ≠ some t → find (putE d v E) t = find E t := by
    intro t E hd
    cases d with
    | none => rfl
    | some d' =>
      simp only [putE, find]
      have : Nat.beq d' t = false := by rw [Bool.eq_false_iff]; intro e; exact hd (by rw [Nat.eq_of_beq_eq_true e])
      rw [this]; rfl
  have c1 : ∀ t v', find sE t = some v' → getE (putE d v (killE ks (pre ++ (sE ++ e)))) t = v' := by
    intro t v' hs
    have hF := h1 t v' hs
    obtain ⟨_, b, c⟩ := h2 t hF
    rw [getE_find, fp t _ b, find_kill, find_append, c, find_append, hs]
    simp only [Option.map_some]
    cases ks with
    | nil => rfl
    | cons a ks => exact noIds_ren v' ((h0.resolve_right (by simp)) t v' hs)
  have c2 : ∀ t, F t → find sE t = none → find (putE d v (killE ks (pre ++ (sE ++ e)))) t = none := by
    intro t hF hs
    obtain ⟨a, b, c⟩ := h2 t hF
    rw [fp t _ b, find_kill, find_append, c, find_append, hs, a]
    rfl
  unfold kpsi
  rw [if_pos ⟨c1, c2⟩]
  congr 1
  have fin : (killE ks (pre ++ (sE ++ e))).filter (fun p => (find sE p.1).isNone) = killE ks (pre ++ e) := by
    rw [filter_kill (f := fun t => (find sE t).isNone)]
    congr 1
    rw [List.filter_append, List.filter_append]
    have e1 : pre.filter (fun p => (find sE p.1).isNone) = pre := List.filter_eq_self.2 (fun x hx => by
      cases hs : find sE x.1 with
      | none => rfl
      | some v' =>
        have := (h2 x.1 (h1 _ _ hs)).2.2
        have h3 := find_mem hx
        rw [this] at h3; cases h3)
    have e2 : sE.filter (fun p => (find sE p.1).isNone) = [] := List.filter_eq_nil_iff.2 (fun x hx => by
      have := find_mem hx
      cases hs : find sE x.1 with
      | none => rw [hs] at this; cases this
      | some _ => simp)
    have e3 : e.filter (fun p => (find sE p.1).isNone) = e := List.filter_eq_self.2 (fun x hx => by
      cases hs : find sE x.1 with
      | none => rfl
      | some v' =>
        have := (h2 x.1 (h1 _ _ hs)).1
        have h3 := find_mem hx
        rw [this] at h3; cases h3)
    rw [e1, e2, e3]; rfl
  cases d with
  | none => simpa [putE] using fin
  | some d' =>
    simp only [putE, List.filter_cons]
    have : find sE d' = none := by
      cases hs : find sE d' with
      | none => rfl
      | some v' => exact absurd rfl (h2 d' (h1 _ _ hs)).2.1
    rw [this]
    simp only [Option.isNone_none, if_true]
    rw [fin]

theorem evOps1_shift {cx : Cx} {call : CallF} {nt : Nat} {ops : Array Oper} {o : Oper} {sE e : Env} {M : Mem} {F : Nat → Prop} {k : Env → Mem → Option R} (hno : nilOp o.op = false) (h1 : ∀ t v, find sE t = some v → F t) (h0 : (∀ t v, find sE t = some v → ids v = []) ∨ noKill cx M (rdE e) o.op = true) (h2 : ∀ t, F t → find e t = none ∧ o.dst ≠ some t ∧ t ∉ o.looksAt ops) :
    evOps cx call nt ops.toList [o] (sE ++ e) M (kpsi sE F k) = evOps cx call nt ops.toList [o] e M k := by
  have hsn : ∀ t, t ∈ o.looksAt ops → find sE t = none := by
    intro t ht
    cases hs : find sE t with
    | none => rfl
    | some v => exact absurd ht (h2 t (h1 t v hs)).2.2
  have hget : ∀ t, t ∈ o.looksAt ops → getE (sE ++ e) t = getE e t := by
    intro t ht
    rw [getE_find, getE_find, find_append, hsn t ht]
  have hrd : ∀ pre : Env, ∀ x ∈ o.op.operands, rdE (pre ++ (sE ++ e)) x = rdE (pre ++ e) x := by
    intro pre x hx
    cases x with
    | tmp t =>
      have htl : t ∈ o.looksAt ops := by
        unfold Oper.looksAt
        exact List.mem_append_left _ (List.mem_filterMap.2 ⟨.tmp t, by simpa using hx, rfl⟩)
      simp only [rdE]
      rw [getE_find, getE_find, find_append, find_append, find_append, hsn t htl]
    | const v => rw [rdE_const]
    | _ => rfl
  have run : ∀ pre : Env, (noKill cx M (rdE e) o.op = true → noKill cx M (rdE (pre ++ e)) o.op = true) → (∀ t, F t → find pre t = none) → (evOp cx call o.type o.op (rdE (pre ++ (sE ++ e))) M fun v M' ks => kpsi sE F k (putE o.dst v (killE ks (pre ++ (sE ++ e)))) M') = evOp cx call o.type o.op (rdE (pre ++ e)) M fun v M' ks => k (putE o.dst v (killE ks (pre ++ e))) M' := by
    intro pre hnk hpre
    rcases h0 with h0 | h0
    · have e1 : (fun v M' ks => kpsi sE F k (putE o.dst v (killE ks (pre ++ (sE ++ e)))) M') = fun v M' ks => k (putE o.dst v (killE ks (pre ++ e))) M' := by
        funext v M' ks
        exact psi h1 (.inl h0) (fun t hF => ⟨(h2 t hF).1, (h2 t hF).2.1, hpre t hF⟩) v M'
      rw [e1]
      exact evOp_congr hno (hrd pre)
    · rw [evOp_congr hno (hrd pre)]
      exact evOp_noKill (hnk h0) (fun v M' => psi h1 (.inr rfl) (fun t hF => ⟨(h2 t hF).1, (h2 t hF).2.1, hpre t hF⟩) v M')
  have skip : ∀ pre : Env, (∀ t, F t → find pre t = none) → kpsi sE F k (putE o.dst (.tup []) (pre ++ (sE ++ e))) M = k (putE o.dst (.tup []) (pre ++ e)) M := fun pre hpre =>
    psi (pre := pre) h1 (.inr rfl) (fun t hF => ⟨(h2 t hF).1, (h2 t hF).2.1, hpre t hF⟩) (.tup []) M
  have p0 : ∀ t, F t → find ([] : Env) t = none := fun t _ => rfl
  simp only [evOps, fV_eq, fM_eq]
  congr 1
  cases hg : o.guard with
  | none => exact run [] (fun h => h) p0
  | some jw =>
    obtain ⟨j, want⟩ := jw
    simp only
    cases hj : ops.toList[j]? with
    | none => rfl
    | some g =>
      simp only
      cases hd : g.dst with
      | none => rfl
      | some t =>
        simp only
        have htl : t ∈ o.looksAt ops := by
          unfold Oper.looksAt
          refine List.mem_append_right _ ?_
          have hjo : ops[j]? = some g := by simpa using hj
          simp [hg, hjo, hd]
        have p1 : ∀ b : V, ∀ t', F t' → find ([(t, b)] : Env) t' = none := by
          intro b t' hF
          simp only [find]
          have : Nat.beq t t' = false := by
            rw [Bool.eq_false_iff]; intro e
            have := Nat.eq_of_beq_eq_true e
            subst this
            exact (h2 t hF).2.2 htl
          rw [this]; rfl
        rw [hget t htl]
        have r0 := run [] (fun h => h) p0
        have r1 := fun b : Bool => run [(t, .kb b)] (fun h => noKill_pre h) (p1 (.kb b))
        have s0 := skip [] p0
        have s1 := fun b => skip [(t, b)] (p1 b)
        simp only [List.nil_append] at r0 s0
        simp only [List.singleton_append] at r1 s1
        cases hv : getE e t with
        | kb b => simp only [r0, s0]
        | d x =>
          cases x with
          | bool b => simp only [r1, s1]
          | _ => rfl
        | tup xs => simp only [s0]
        | _ => rfl

theorem nd_len : ∀ (n : Nat) {S : List Nat} {a : Nat}, S.Nodup → (∀ y ∈ S, a ≤ y ∧ y < a + n) → S.length ≤ n
  | 0, S, a, _, h => by
    cases S with
    | nil => simp
    | cons y S => have := h y (by simp); omega
  | n + 1, S, a, hnd, h => by
    have h1 := nd_len n (S := S.erase (a + n)) (a := a) (hnd.erase _) (fun y hy => by
      obtain ⟨h2, h3⟩ := hnd.mem_erase_iff.1 hy
      have := h y h3; omega)
    have : S.length ≤ (S.erase (a + n)).length + 1 := by rw [List.length_erase]; split <;> omega
    omega
theorem isFl_mem {fl : List Nat} {j : Nat} (h : isFl fl j = true) : j ∈ fl := by
  unfold isFl at h
  split at h
  · rename_i a ha
    exact List.mem_of_getElem? (idx_get ha)
  · cases h

/-- What was taken ahead of its time has the value that it will have. -/
theorem known {cx : Cx} {call : CallF} (hr : RegF ops p nr fl ck) {m : Nat} {S : List Nat} {sE e : Env} {M : Mem} {L : List Oper} {vs : List V} {xs : List Nat} (hp : Plc ops p fl m xs L) (hseq : SeqV cx call e M L vs)
    (hSx : ∀ y ∈ S, y ∈ xs)
    (hdone : ∀ (y j x i : Nat) (o q : Oper) (t : Nat), y ∈ S → p[y]? = some j → ops[j]? = some o → m ≤ x → p[x]? = some i → ops[i]? = some q → isFl fl i = true → q.dst = some t → t ∈ o.looksAt ops → x ∈ S)
    (hfl : ∀ y ∈ S, m ≤ y ∧ ∃ j, p[y]? = some j ∧ isFl fl j = true)
    (hvl : vs.length = L.length)
    (hsE : ∀ t v, find sE t = some v → ∃ y ∈ S, ∃ j o, p[y]? = some j ∧ ops[j]? = some o ∧ o.dst = some t)
    (hS : ∀ y ∈ S, ∀ (j : Nat) (o : Oper) (t : Nat), p[y]? = some j → ops[j]? = some o → o.dst = some t → ∃ v, find sE t = some v ∧ evOpQ cx call o.type o.op (rdE (sE ++ e)) M some = some v) :
    ∀ (z y j : Nat) (o : Oper) (t : Nat) (v : V), xs[z]? = some y → y ∈ S → p[y]? = some j → ops[j]? = some o → o.dst = some t → vs[z]? = some v → find sE t = some v := by
  intro z
  induction z using Nat.strongRecOn with
  | _ z ih =>
    intro y j o t v hz hy hpj ho hd hv
    obtain ⟨v', hf, he'⟩ := hS y hy j o t hpj ho hd
    have ha := agree (sE := sE) hr hp hseq hz hpj ho hv (fun x i q t' hmx hpx hq hfi hdt htl => by
      have hxS := hdone y j x i o q t' hy hpj ho hmx hpx hq hfi hdt htl
      obtain ⟨z', hz'⟩ := List.getElem?_of_mem (hSx x hxS)
      have hne : x ≠ y := by
        intro e
        subst e
        rw [hpj] at hpx; cases hpx
        rw [ho] at hq; cases hq
        obtain ⟨_, _, d, hd', hnd⟩ := hr.self x j o hpj ho hfi
        rw [hdt] at hd'; cases hd'
        exact hnd htl
      have hxy := ((hr.dst y x j i o q t' (fun e => hne e.symm) hpj hpx ho hq hfi hdt).2 htl).2
      have hzz := hp.lt hz' hz hxy
      have hlt : z' < vs.length := by rw [hvl, ← hp.len]; exact lt_of_get hz'
      exact ⟨z', vs[z'], hz', by simp [hlt], ih z' hzz x i q t' _ hz' hxS hpx hq hdt (by simp [hlt])⟩)
      (fun t' htl hno => by
        cases hs : find sE t' with
        | none => rfl
        | some v2 =>
          obtain ⟨x, hx, i, q, hpx, hq, hdt⟩ := hsE t' v2 hs
          obtain ⟨hmx, i', hpx', hfi⟩ := hfl x hx
          rw [hpx] at hpx'; cases hpx'
          exact absurd hdt (hno x i q hmx hpx hq hfi))
    rw [ha] at he'
    cases he'
    exact hf

theorem fl_main {tl : List String} {cx : Cx} (hcx : CxOk0 P cx) {call : CallF} (hcall : CallOk P tl call) (htab : Tabs P tl C0 ι0 w0) {nt : Nat} (hr : RegF ops p nr fl ck) (hnt : flIn ops.toList nt fl = true) {Q : Exit → Act → World → Prop} {d : List Deferred} {k : Env → Mem → Option R} {q : R} (ht : Then C0 ι0 w0 nt d k q (Q .normal)) :
    ∀ (N fuel m : Nat) (S : List Nat) (listed : Array Bool) {e sE : Env} {M : Mem} {a : Act} {C : Com} {ι : Locs} {w : World},
      fuel + (ops.size - m) ≤ N → fuel + m + S.length = ops.size → m ≤ ops.size → nr ≤ m → listed.size = ops.size → S.Nodup →
      (∀ y ∈ S, m ≤ y ∧ ∃ j, p[y]? = some j ∧ isFl fl j = true) →
      (∀ j, listed.getD j false = true ↔ ∃ x, (x < m ∨ x ∈ S) ∧ p[x]? = some j) →
      Down ops (fun j => listed.getD j false = true) →
      evFl cx call nt ops.toList (pickF ops.toList fl ck (p.drop m)) e M k = some q →
      (∀ (y j : Nat) (o : Oper) (t : Nat), m ≤ y → p[y]? = some j → ops[j]? = some o → isFl fl j = true → o.dst = some t → find e t = none) →
      (∀ t v, find sE t = some v → ∃ y ∈ S, ∃ j o, p[y]? = some j ∧ ops[j]? = some o ∧ o.dst = some t) →
      (∀ y ∈ S, ∀ (j : Nat) (o : Oper) (t : Nat), p[y]? = some j → ops[j]? = some o → o.dst = some t → ∃ v, find sE t = some v ∧ evOpQ cx call o.type o.op (rdE (sE ++ e)) M some = some v) →
      a.tmps.size = nt → a.defers = d → Inv C0 ι0 w0 C ι M w → ER w C ι a (sE ++ e) → wpAny P .any ops Q fuel listed a w := by
  have pl := hr.base.len
  have inp : ∀ {x i : Nat}, p[x]? = some i → i < ops.size := fun h => hr.base.lt _ (List.mem_of_getElem? h)
  have finish : ∀ (fuel m : Nat) (S : List Nat) (listed : Array Bool) {e sE : Env} {M : Mem} {a : Act} {C : Com} {ι : Locs} {w : World}, m = ops.size → fuel + m + S.length = ops.size → listed.size = ops.size →
      (∀ j, listed.getD j false = true ↔ ∃ x, (x < m ∨ x ∈ S) ∧ p[x]? = some j) → evFl cx call nt ops.toList (pickF ops.toList fl ck (p.drop m)) e M k = some q →
      (∀ t v, find sE t = some v → ∃ y ∈ S, ∃ j o, p[y]? = some j ∧ ops[j]? = some o ∧ o.dst = some t) →
      a.tmps.size = nt → a.defers = d → Inv C0 ι0 w0 C ι M w → ER w C ι a (sE ++ e) → wpAny P .any ops Q fuel listed a w := by
    intro fuel m S listed e sE M a C ι w hm' hf hs hl h hsE hn hdf hi he
    have hS0 : S = [] := List.eq_nil_of_length_eq_zero (by omega)
    have hf0 : fuel = 0 := by omega
    subst hf0 hS0
    refine ⟨?_, ?_⟩
    · cases hrd : Region.ready .any ops listed with
      | nil => rfl
      | cons i r =>
        have hi' : i ∈ Region.ready .any ops listed := by rw [hrd]; simp
        obtain ⟨h0, o, ho, _⟩ := mem_ready.1 hi'
        have hlt := (Array.getElem?_eq_some_iff.1 ho).1
        obtain ⟨x, hx⟩ := hr.base.all i hlt
        have hxl := (List.getElem?_eq_some_iff.1 hx).1
        have := (hl i).2 ⟨x, .inl (by omega), hx⟩
        have e2 : listed.getD i false = listed.getD i true := by simp [hs, hlt]
        rw [e2, h0] at this; cases this
    · rw [List.drop_of_length_le (by omega)] at h
      refine ht a e M C ι w h hn hdf hi (fun t => ?_)
      have := he t
      rw [getE_find, find_append] at this
      cases hs2 : find sE t with
      | none => rw [hs2] at this; rw [getE_find]; exact this
      | some v => obtain ⟨y, hy, _⟩ := hsE t v hs2; simp at hy
  intro N
  induction N with
  | zero =>
    intro fuel m S listed e sE M a C ι w hN hf hm _ hs _ hSf hl hdown h hfree hsE hS hn hdf hi he
    exact finish fuel m S listed (by omega) hf hs hl h hsE hn hdf hi he
  | succ N ih =>
    intro fuel m S listed e sE M a C ι w hN hf hm hnm hs hnd hSf hl hdown h hfree hsE hS hn hdf hi he
    by_cases hend : m = ops.size
    · exact finish fuel m S listed hend hf hs hl h hsE hn hdf hi he
    have hmlt : m < p.length := by omega
    have hpm : p[m]? = some p[m] := by simp [hmlt]
    generalize hi0 : p[m] = i0 at hpm
    have hi0lt := inp hpm
    have ho0 : ops[i0]? = some ops[i0] := by simp [hi0lt]
    generalize ops[i0] = o0 at ho0
    have hol : ops.toList[i0]? = some o0 := by simpa using ho0
    have hdrop : p.drop m = i0 :: p.drop (m + 1) := by rw [List.drop_eq_getElem_cons hmlt, hi0]
    have unl : ∀ j, j < ops.size → listed.getD j true = listed.getD j false := fun j hj => by simp [hs, hj]
    by_cases hv : m ∈ S
    · -- it was taken already
      obtain ⟨_, j', hj', hf0⟩ := hSf m hv
      rw [hpm] at hj'; cases hj'
      obtain ⟨_, hg0, t0, hd0, hself⟩ := hr.self m i0 o0 hpm ho0 hf0
      have h2 := h
      rw [hdrop] at h2
      simp only [pickF, hol, hf0, evFl, cond_true, hg0, hd0] at h2
      obtain ⟨_, h2⟩ := bif_some h2
      obtain ⟨v, h1, h2⟩ := evOpQ_par h2
      rw [fV_eq] at h2
      obtain ⟨v', hfs, hev⟩ := hS m hv i0 o0 t0 hpm ho0 hd0
      have hvv : v = v' := by
        have : evOpQ cx call o0.type o0.op (rdE e) M some = evOpQ cx call o0.type o0.op (rdE (sE ++ e)) M some := evOpQ_congr (fun x hx => by
          cases x with
          | tmp t =>
            have htl : t ∈ o0.looksAt ops := by
              unfold Oper.looksAt
              exact List.mem_append_left _ (List.mem_filterMap.2 ⟨.tmp t, by simpa using hx, rfl⟩)
            simp only [rdE]
            have : find sE t = none := by
              cases hs2 : find sE t with
              | none => rfl
              | some v2 =>
                obtain ⟨y, hy, j, oy, hpy, hoy, hdy⟩ := hsE t v2 hs2
                obtain ⟨hmy, j2, hpy2, hfy⟩ := hSf y hy
                rw [hpy] at hpy2; cases hpy2
                by_cases e1 : y = m
                · subst e1
                  rw [hpm] at hpy; cases hpy
                  rw [ho0] at hoy; cases hoy
                  rw [hd0] at hdy; cases hdy
                  exact absurd htl hself
                · have := (hr.dst m y i0 j o0 oy t (fun e => e1 e.symm) hpm hpy ho0 hoy hfy hdy).2 htl
                  omega
            rw [getE_find, getE_find, find_append, this]
          | const v => rw [rdE_const]
          | _ => rfl)
        rw [h1, hev] at this
        cases this; rfl
      subst hvv
      have hget : ∀ t, getE (sE.filter (fun q => !(q.1 == t0)) ++ ((t0, v) :: e)) t = getE (sE ++ e) t := by
        intro t
        rw [getE_find, getE_find, find_append, find_append, find_filter (f := fun x => !(x == t0))]
        by_cases e1 : t = t0
        · subst e1
          simp [find, hfs]
        · have : Nat.beq t0 t = false := by rw [Bool.eq_false_iff]; intro e2; exact e1 (Nat.eq_of_beq_eq_true e2).symm
          have e2 : (!(t == t0)) = true := by simp [e1]
          simp only [e2, cond_true, find, this, cond_false]
      have hdist : ∀ (y j : Nat) (o : Oper) (t : Nat), y ≠ m → p[y]? = some j → ops[j]? = some o → o.dst = some t → t ≠ t0 := by
        intro y j o t hy hpy hoy hdy e1
        subst e1
        exact (hr.dst y m j i0 o o0 t hy hpy hpm hoy ho0 hf0 hd0).1 hdy
      have hmem : ∀ y, y ∈ S.erase m ↔ y ≠ m ∧ y ∈ S := fun y => hnd.mem_erase_iff
      have hSl := List.length_erase_of_mem hv
      have hSp : 1 ≤ S.length := by cases S with | nil => simp at hv | cons _ _ => simp
      refine ih fuel (m + 1) (S.erase m) listed (e := (t0, v) :: e) (sE := sE.filter (fun q => !(q.1 == t0))) (by omega) (by omega) (by omega) (by omega) hs (hnd.erase m) (fun y hy => ?_) (fun j => ?_) hdown h2 (fun y j o t hy hpy hoy hfy hdy => ?_) (fun t v2 hs2 => ?_) (fun y hy j o t hpy hoy hdy => ?_) hn hdf hi (fun t => by rw [hget]; exact he t)
      · obtain ⟨h1, h3⟩ := (hmem y).1 hy
        obtain ⟨h4, h5⟩ := hSf y h3
        exact ⟨by omega, h5⟩
      · rw [hl j]
        constructor
        · rintro ⟨x, h1, h3⟩
          refine ⟨x, ?_, h3⟩
          rcases h1 with h1 | h1
          · exact .inl (by omega)
          · by_cases e1 : x = m
            · exact .inl (by omega)
            · exact .inr ((hmem x).2 ⟨e1, h1⟩)
        · rintro ⟨x, h1, h3⟩
          refine ⟨x, ?_, h3⟩
          rcases h1 with h1 | h1
          · by_cases e1 : x = m
            · subst e1; exact .inr hv
            · exact .inl (by omega)
          · exact .inr ((hmem x).1 h1).2
      · have hne := hdist y j o t (by omega) hpy hoy hdy
        simp only [find]
        have : Nat.beq t0 t = false := by rw [Bool.eq_false_iff]; intro e2; exact hne (Nat.eq_of_beq_eq_true e2).symm
        rw [this]
        exact hfree y j o t (by omega) hpy hoy hfy hdy
      · rw [find_filter (f := fun x => !(x == t0))] at hs2
        obtain ⟨hne, hs2⟩ := bif_some hs2
        obtain ⟨y, hy, j, o, hpy, hoy, hdy⟩ := hsE t v2 hs2
        refine ⟨y, (hmem y).2 ⟨fun e1 => ?_, hy⟩, j, o, hpy, hoy, hdy⟩
        subst e1
        rw [hpm] at hpy; cases hpy
        rw [ho0] at hoy; cases hoy
        rw [hd0] at hdy; cases hdy
        simp at hne
      · obtain ⟨h1, h3⟩ := (hmem y).1 hy
        obtain ⟨v2, h4, h5⟩ := hS y h3 j o t hpy hoy hdy
        have hne := hdist y j o t h1 hpy hoy hdy
        refine ⟨v2, ?_, ?_⟩
        · rw [find_filter (f := fun x => !(x == t0))]
          have : (!(t == t0)) = true := by simp [hne]
          rw [this]; exact h4
        · rw [rdE_of hget]; exact h5
    -- the machine takes one
    have hfp : 1 ≤ fuel := by
      have : S.length ≤ ops.size - (m + 1) := by
        refine nd_len _ (a := m + 1) hnd (fun y hy => ?_)
        obtain ⟨h2, j, h3, _⟩ := hSf y hy
        have h4 := lt_of_get h3
        have h5 : y ≠ m := fun e1 => hv (e1 ▸ hy)
        omega
      omega
    obtain ⟨fuel', rfl⟩ : ∃ f, fuel = f + 1 := ⟨fuel - 1, by omega⟩
    have hnl : ∀ {x i : Nat}, p[x]? = some i → m ≤ x → x ∉ S → listed.getD i false = false := fun {x i} hx hmx hxS => by
      rw [Bool.eq_false_iff]
      intro h1
      obtain ⟨y, hy1, hy2⟩ := (hl i).1 h1
      have := nodup_inj hr.base.nd hy2 hx
      subst this
      rcases hy1 with h2 | h2
      · omega
      · exact hxS h2
    have hready : Region.ready .any ops listed ≠ [] := by
      obtain ⟨z, hz1, hz2⟩ := least ((List.range ops.size).filter fun x => decide (m ≤ x ∧ x ∉ S)) (fun x => p.getD x 0) (by
        intro h0
        have : m ∈ (List.range ops.size).filter fun x => decide (m ≤ x ∧ x ∉ S) := by simp; exact ⟨by omega, hv⟩
        rw [h0] at this; simp at this)
      simp only [List.mem_filter, List.mem_range, decide_eq_true_eq] at hz1 hz2
      have hzl : z < p.length := by omega
      have hpz : p[z]? = some p[z] := by simp [hzl]
      generalize p[z] = iz at hpz
      have hizlt := inp hpz
      have hoz : ops[iz]? = some ops[iz] := by simp [hizlt]
      intro h0
      have : iz ∈ Region.ready .any ops listed := by
        refine mem_ready.2 ⟨by rw [unl _ hizlt]; exact hnl hpz hz1.2.1 hz1.2.2, _, hoz, fun e1 he1 hb => ?_⟩
        have hlt2 := hr.base.back iz _ hoz e1 (by simpa using he1) hb
        obtain ⟨y, hy⟩ := hr.base.all e1.on (by omega)
        by_cases hin : y < m ∨ y ∈ S
        · exact (hl e1.on).2 ⟨y, hin, hy⟩
        · have hyl := lt_of_get hy
          have := hz2 y ⟨by omega, by omega, fun h => hin (.inr h)⟩
          simp only [List.getD_eq_getElem?_getD, hpz, hy, Option.getD_some] at this
          omega
      rw [h0] at this; simp at this
    refine ⟨fun h0 => absurd h0 hready, fun i hir => ?_⟩
    obtain ⟨h0, o, ho, hall⟩ := mem_ready.1 hir
    have hilt := (Array.getElem?_eq_some_iff.1 ho).1
    have hSi : Down ops (fun j => listed.getD j false = true ∨ j = i) := by
      intro j o' hj hS' e1 he1 hb
      rcases hS' with hS' | rfl
      · exact .inl (hdown j o' hj hS' e1 he1 hb)
      · rw [ho] at hj; cases hj
        exact .inl (hall e1 (by simpa using he1) hb)
    obtain ⟨x, hx⟩ := hr.base.all i hilt
    have hxl := lt_of_get hx
    have hxm : m ≤ x ∧ x ∉ S := by
      constructor
      · rcases Nat.lt_or_ge x m with h1 | h1
        · have := (hl i).2 ⟨x, .inl h1, hx⟩
          rw [← unl _ hilt, h0] at this; cases this
        · exact h1
      · intro h1
        have := (hl i).2 ⟨x, .inr h1, hx⟩
        rw [← unl _ hilt, h0] at this; cases this
    have e3 : ∀ j, (listed.setIfInBounds i true).getD j false = true ↔ listed.getD j false = true ∨ j = i := by
      intro j
      by_cases e1 : i = j
      · subst e1; simp [hs, hilt]
      · rw [getD_set_ne false e1]
        exact ⟨.inl, fun h => h.resolve_right (fun h => e1 h.symm)⟩
    have hdown' : Down ops (fun j => (listed.setIfInBounds i true).getD j false = true) := by
      intro j o' hj hS' e1 he1 hb
      exact (e3 _).2 (hSi j o' hj ((e3 _).1 hS') e1 he1 hb)
    -- a reader that is done comes behind what is done
    have sure : ∀ (y j x1 i1 : Nat), (listed.getD j false = true ∨ j = i) → p[x1]? = some i1 → i1 ≠ i → Bf ops j i1 → m ≤ x1 → x1 ∈ S := by
      intro y j x1 i1 hj hp1 hne hb hm1
      rcases clos_down hSi (i := j) hj hb with h1 | h1
      · by_cases h2 : x1 ∈ S
        · exact h2
        · rw [hnl hp1 hm1 h2] at h1; cases h1
      · exact absurd h1 hne
    have hSlisted : ∀ y ∈ S, ∀ j, p[y]? = some j → listed.getD j false = true := fun y hy j hj => (hl j).2 ⟨y, .inr hy, hj⟩
    have hnotF : ∀ y ∈ S, ∀ j, p[y]? = some j → isFl fl j = true := fun y hy j hj => by
      obtain ⟨_, j', h1, h2⟩ := hSf y hy
      rw [hj] at h1; cases h1; exact h2
    have hdone : ∀ (y j x1 i1 : Nat) (o1 q1 : Oper) (t : Nat), y ∈ S → p[y]? = some j → ops[j]? = some o1 → m ≤ x1 → p[x1]? = some i1 → ops[i1]? = some q1 → isFl fl i1 = true → q1.dst = some t → t ∈ o1.looksAt ops → x1 ∈ S := by
      intro y j x1 i1 o1 q1 t hy hpj ho1 hm1 hp1 hq1 hf1 hdt htl
      by_cases e1 : y = x1
      · rw [← e1]; exact hy
      · have hb := ((hr.dst y x1 j i1 o1 q1 t e1 hpj hp1 ho1 hq1 hf1 hdt).2 htl).1
        by_cases e2 : i1 = i
        · exfalso
          have hlj := hSlisted y hy j hpj
          have := clos_down hdown (i := j) hlj hb
          rw [e2, ← unl _ hilt, h0] at this; cases this
        · exact sure y j x1 i1 (.inl (hSlisted y hy j hpj)) hp1 e2 hb hm1
    unfold wpOp
    rw [ho]
    simp only
    cases hfi : isFl fl i with
    | true =>
      obtain ⟨_, hg, t0, hd0, hself⟩ := hr.self x i o hx ho hfi
      obtain ⟨xs, vs, L, hp, hvl, hseq, hc⟩ := lam hr (p.length - m) m (by omega) hnm h
      have hcomp : ∀ (y j : Nat), m ≤ y → p[y]? = some j → isFl fl j = true → (listed.getD j false = true ∨ j = i) → y ∈ xs := by
        intro y j hmy hpj hfj hj
        refine hc y j hmy hpj hfj (fun x1 i1 hm1 h1y hp1 hf1 => ?_)
        rcases hr.flt y x1 j i1 (by omega) h1y hpj hp1 hfj hf1 with hb | hb
        · exfalso
          have := sure y j x1 i1 hj hp1 (fun e1 => by rw [e1, hfi] at hf1; cases hf1) hb hm1
          have := hnotF x1 this i1 hp1
          rw [hf1] at this; cases this
        · exact hb
      have hSx : ∀ y ∈ S, y ∈ xs := fun y hy => by
        obtain ⟨hmy, j, hpj, hfj⟩ := hSf y hy
        exact hcomp y j hmy hpj hfj (.inl (hSlisted y hy j hpj))
      have hkn := known hr hp hseq hSx hdone hSf hvl hsE hS
      obtain ⟨z, hz⟩ := List.getElem?_of_mem (hcomp x i hxm.1 hx hfi (.inr rfl))
      have hzl : z < vs.length := by rw [hvl, ← hp.len]; exact lt_of_get hz
      have hvz : vs[z]? = some vs[z] := by simp [hzl]
      generalize vs[z] = v at hvz
      have hev := agree (sE := sE) hr hp hseq hz hx ho hvz (fun x1 i1 q1 t hm1 hp1 hq1 hf1 hdt htl => by
          have hne : x1 ≠ x := by
            intro e1
            subst e1
            rw [hx] at hp1; cases hp1
            rw [ho] at hq1; cases hq1
            rw [hd0] at hdt; cases hdt
            exact hself htl
          have hb := ((hr.dst x x1 i i1 o q1 t (fun e1 => hne e1.symm) hx hp1 ho hq1 hf1 hdt).2 htl).1
          have hin := sure x i x1 i1 (.inr rfl) hp1 (fun e1 => by subst e1; exact hne (nodup_inj hr.base.nd hp1 hx)) hb hm1
          obtain ⟨z', hz'⟩ := List.getElem?_of_mem (hSx x1 hin)
          have hlt : z' < vs.length := by rw [hvl, ← hp.len]; exact lt_of_get hz'
          exact ⟨z', vs[z'], hz', by simp [hlt], hkn z' x1 i1 q1 t _ hz' hin hp1 hq1 hdt (by simp [hlt])⟩)
        (fun t htl hno => by
          cases hs2 : find sE t with
          | none => rfl
          | some v2 =>
            obtain ⟨x1, h1, i1, q1, hp1, hq1, hdt⟩ := hsE t v2 hs2
            obtain ⟨hm1, i', hp1', hf1⟩ := hSf x1 h1
            rw [hp1] at hp1'; cases hp1'
            exact absurd hdt (hno x1 i1 q1 hm1 hp1 hq1 hf1))
      rw [if_pos (by simp [Region.wanted, hg])]
      refine .inl (upon_of_after (evOpQ_ok hcx hcall (htab.stp hi.stp) (o := o) (ρ := a.eval) hi.st he.rd (fun _ => rfl) hev (Nx := fun u w' => wpAny P .any ops Q fuel' (listed.setIfInBounds i true) (a.put o.dst u) w') ?_) (fun u w' h => h))
      intro u v' C' w' hv' g1 hu
      cases hv'
      have hdok : dstOk nt o.dst = true := by
        have hnt' := hnt
        unfold flIn at hnt'
        rw [List.all_eq_true] at hnt'
        have := hnt' i (isFl_mem hfi)
        have hol2 : ops.toList[i]? = some o := by simpa using ho
        rw [hol2] at this
        exact this
      have he2 : ER w' C' ι a (sE ++ e) := fun t => g1.rv (he t)
      have he3 := he2.put hn hdok hu
      rw [hd0] at he3
      have hdist : ∀ (y j : Nat) (oy : Oper) (t : Nat), y ≠ x → p[y]? = some j → ops[j]? = some oy → oy.dst = some t → t ≠ t0 := by
        intro y j oy t hy hpy hoy hdy e1
        subst e1
        exact (hr.dst y x j i oy o t hy hpy hx hoy ho hfi hd0).1 hdy
      have hb0 : ∀ t, t ≠ t0 → find ((t0, v) :: sE) t = find sE t := by
        intro t hne
        simp only [find]
        have : Nat.beq t0 t = false := by rw [Bool.eq_false_iff]; intro e2; exact hne (Nat.eq_of_beq_eq_true e2).symm
        rw [this]; rfl
      have hb1 : find ((t0, v) :: sE) t0 = some v := by simp [find]
      refine ih fuel' m (x :: S) (listed.setIfInBounds i true) (e := e) (sE := (t0, v) :: sE) (by omega) (by simp; omega) hm hnm (by simpa using hs) (by simp; exact ⟨hxm.2, hnd⟩) (fun y hy => ?_) (fun j => ?_) hdown' h hfree (fun t v2 hs2 => ?_) (fun y hy j oy t hpy hoy hdy => ?_) (put_size.trans hn) (put_defers.trans hdf) (hi.go g1) (by rw [hd0]; exact he3)
      · rcases List.mem_cons.1 hy with rfl | hy
        · exact ⟨hxm.1, i, hx, hfi⟩
        · exact hSf y hy
      · rw [e3 j, hl j]
        constructor
        · rintro (⟨y, h1, h2⟩ | rfl)
          · exact ⟨y, h1.imp id (fun h => List.mem_cons_of_mem _ h), h2⟩
          · exact ⟨x, .inr (by simp), hx⟩
        · rintro ⟨y, h1, h2⟩
          rcases h1 with h1 | h1
          · exact .inl ⟨y, .inl h1, h2⟩
          · rcases List.mem_cons.1 h1 with rfl | h1
            · rw [hx] at h2; cases h2; exact .inr rfl
            · exact .inl ⟨y, .inr h1, h2⟩
      · by_cases e1 : t = t0
        · subst e1
          exact ⟨x, by simp, i, o, hx, ho, hd0⟩
        · rw [hb0 t e1] at hs2
          obtain ⟨y, hy, hh⟩ := hsE t v2 hs2
          exact ⟨y, List.mem_cons_of_mem _ hy, hh⟩
      · -- what was taken is what it was
        have hcong : ∀ (oy : Oper), t0 ∉ oy.looksAt ops → evOpQ cx call oy.type oy.op (rdE ((t0, v) :: sE ++ e)) M some = evOpQ cx call oy.type oy.op (rdE (sE ++ e)) M some := fun oy hno => evOpQ_congr (fun x2 hx2 => by
          cases x2 with
          | tmp t =>
            have htl : t ∈ oy.looksAt ops := by
              unfold Oper.looksAt
              exact List.mem_append_left _ (List.mem_filterMap.2 ⟨.tmp t, by simpa using hx2, rfl⟩)
            simp only [rdE]
            rw [getE_find, getE_find, find_append, find_append, hb0 t (fun e1 => hno (e1 ▸ htl))]
          | const v => rw [rdE_const]
          | _ => rfl)
        rcases List.mem_cons.1 hy with rfl | hy
        · rw [hx] at hpy; cases hpy
          rw [ho] at hoy; cases hoy
          rw [hd0] at hdy; cases hdy
          exact ⟨v, hb1, by rw [hcong o hself]; exact hev⟩
        · obtain ⟨v2, h1, h2⟩ := hS y hy j oy t hpy hoy hdy
          have hyx : y ≠ x := fun e1 => hxm.2 (e1 ▸ hy)
          refine ⟨v2, by rw [hb0 t (hdist y j oy t hyx hpy hoy hdy)]; exact h1, ?_⟩
          rw [hcong oy (fun htl => hxm.2 (hdone y j x i oy o t0 hy hpy hoy hxm.1 hx ho hfi hd0 htl))]
          exact h2
    | false =>
      have hxe : x = m := by
        rcases Nat.lt_or_ge m x with h1 | h1
        · exfalso
          have hb := hr.anch x m i i0 hnm h1 hx hpm hfi
          have := sure x i m i0 (.inr rfl) hpm (fun e1 => by subst e1; have := nodup_inj hr.base.nd hpm hx; omega) hb (Nat.le_refl _)
          exact hv this
        · omega
      subst hxe
      rw [hpm] at hx; cases hx
      rw [ho0] at ho; cases ho
      have h2 := h
      rw [hdrop] at h2
      simp only [pickF, hol, hfi, evFl, cond_false] at h2
      obtain ⟨vs, hvl, hseq, h3⟩ := pre_spec h2
      obtain ⟨hids, h3⟩ := bif_some h3
      obtain ⟨xs, q1, q2, q3, q4, q5⟩ := ckOps_spec (l := ops.toList) (c := ckAt ck i0) (p := p) (r := p.drop (x + 1)) (m := x + 1) rfl
      have hp : Plc ops p fl x xs (ckOps ops.toList (ckAt ck i0) (p.drop (x + 1))) := ⟨q1, fun y hy => by have := q2 y hy; omega, q3, by
        intro z y hz
        obtain ⟨h1, h2, h3⟩ := q2 y (List.mem_of_getElem? hz)
        have hpx : p[y]? = some p[y] := by simp [h2]
        have hxl : p[y] < ops.size := inp hpx
        have hl2 := q4 z y _ hz hpx
        have ho2 : ops[p[y]]? = some ops[p[y]] := by simp [hxl]
        exact ⟨_, _, hpx, ho2, by rw [← hl2]; simp, hr.ckf y x _ i0 (by omega) hpx hpm (h3 _ hpx)⟩⟩
      have hSx : ∀ y ∈ S, y ∈ xs := fun y hy => by
        obtain ⟨hmy, j, hpj, hfj⟩ := hSf y hy
        have hne : y ≠ x := fun e1 => hv (e1 ▸ hy)
        rcases hr.flt y x j i0 hnm (by omega) hpj hpm hfj hfi with hb | hb
        · exfalso
          have := clos_down hdown (i := j) (hSlisted y hy j hpj) hb
          rw [← unl _ hilt, h0] at this; cases this
        · have hjl := inp hpj
          exact q5 y j (by omega) hpj hb (by simp [hjl])
      have hkn := known hr hp hseq hSx hdone hSf hvl hsE hS
      let F : Nat → Prop := fun t => ∃ (y j : Nat) (oy : Oper), x ≤ y ∧ p[y]? = some j ∧ ops[j]? = some oy ∧ isFl fl j = true ∧ oy.dst = some t
      have hFne : ∀ {y j : Nat}, p[y]? = some j → isFl fl j = true → y ≠ x := fun {y j} hpy hfy e1 => by
        subst e1; rw [hpm] at hpy; cases hpy; rw [hfi] at hfy; cases hfy
      have hsv : ∀ t v, find sE t = some v → v ∈ vs ∧ F t := by
        intro t v hs2
        obtain ⟨y, hy, j, oy, hpy, hoy, hdy⟩ := hsE t v hs2
        obtain ⟨hmy, j', hpy', hfy⟩ := hSf y hy
        rw [hpy] at hpy'; cases hpy'
        obtain ⟨z, hz⟩ := List.getElem?_of_mem (hSx y hy)
        have hzl : z < vs.length := by rw [hvl, ← hp.len]; exact lt_of_get hz
        have := hkn z y j oy t vs[z] hz hy hpy hoy hdy (by simp [hzl])
        rw [hs2] at this
        cases this
        exact ⟨List.getElem_mem hzl, y, j, oy, hmy, hpy, hoy, hfy, hdy⟩
      have hF2 : ∀ t, F t → find e t = none ∧ o0.dst ≠ some t ∧ t ∉ o0.looksAt ops := by
        rintro t ⟨y, j, oy, hmy, hpy, hoy, hfy, hdy⟩
        have hne := hFne hpy hfy
        have hd2 := hr.dst x y i0 j o0 oy t (fun e1 => hne e1.symm) hpm hpy ho0 hoy hfy hdy
        refine ⟨hfree y j oy t hmy hpy hoy hfy hdy, hd2.1, fun htl => ?_⟩
        have := (hd2.2 htl).2
        omega
      have h4 := evOps1_shift (cx := cx) (call := call) (nt := nt) (ops := ops) (o := o0) (sE := sE) (e := e) (M := M) (F := F) (k := fun e' M' => evPost cx call (ckOps ops.toList (ckAt ck i0) (p.drop (x + 1))) vs e' M' (evFl cx call nt ops.toList (pickF ops.toList fl ck (p.drop (x + 1))) e' M' k)) (hr.nil x i0 o0 hnm hpm ho0 hfi) (fun t v h => (hsv t v h).2) (by
        rcases (Bool.or_eq_true _ _).mp hids with h | h
        · exact .inl fun t v hs2 => noIdsL_mem h v (hsv t v hs2).1
        · exact .inr h) hF2
      rw [h3] at h4
      refine evOps_step hcx hcall htab rfl h4 hn hdf hi he (fun a' e2 M' C' ι' w' g1 g2 g3 g4 g5 => ?_)
      have g1 : kpsi sE F _ e2 M' = some q := g1
      unfold kpsi at g1
      split at g1
      rotate_left
      · cases g1
      rename_i hcond
      obtain ⟨c1, c2⟩ := hcond
      obtain ⟨hseq2, g1⟩ := post_spec g1
      have hget : ∀ t, getE (sE ++ e2.filter fun p => (find sE p.1).isNone) t = getE e2 t := by
        intro t
        rw [getE_find, find_append, find_filter (f := fun x => (find sE x).isNone)]
        cases hs2 : find sE t with
        | none => rfl
        | some v => exact (c1 t v hs2).symm
      refine ih fuel' (x + 1) S (listed.setIfInBounds i0 true) (e := e2.filter fun p => (find sE p.1).isNone) (sE := sE) (by omega) (by omega) (by omega) (by omega) (by simpa using hs) hnd (fun y hy => ?_) (fun j => ?_) hdown' g1 (fun y j oy t hy hpy hoy hfy hdy => ?_) hsE (fun y hy j oy t hpy hoy hdy => ?_) g2 g3 g4 (fun t => by rw [hget]; exact g5 t)
      · obtain ⟨h1, h3⟩ := hSf y hy
        have : y ≠ x := fun e1 => hv (e1 ▸ hy)
        exact ⟨by omega, h3⟩
      · rw [e3 j, hl j]
        constructor
        · rintro (⟨y, h1, h2⟩ | rfl)
          · exact ⟨y, h1.imp (fun h => by omega) id, h2⟩
          · exact ⟨x, .inl (by omega), hpm⟩
        · rintro ⟨y, h1, h9⟩
          by_cases e1 : y = x
          · rw [e1, hpm] at h9; cases h9; exact .inr rfl
          · exact .inl ⟨y, h1.imp (fun h => by omega) id, h9⟩
      · rw [find_filter (f := fun x => (find sE x).isNone)]
        cases hs2 : find sE t with
        | none =>
          have := c2 t ⟨y, j, oy, by omega, hpy, hoy, hfy, hdy⟩ hs2
          rw [this]; rfl
        | some v => rfl
      · obtain ⟨hmy, j', hpy', hfy⟩ := hSf y hy
        rw [hpy] at hpy'; cases hpy'
        obtain ⟨z, hz⟩ := List.getElem?_of_mem (hSx y hy)
        have hzl : z < vs.length := by rw [hvl, ← hp.len]; exact lt_of_get hz
        have hvz : vs[z]? = some vs[z] := by simp [hzl]
        refine ⟨vs[z], hkn z y j oy t _ hz hy hpy hoy hdy hvz, ?_⟩
        exact agree (sE := sE) hr hp hseq2 hz hpy hoy hvz (fun x1 i1 q1 t1 hm1 hp1 hq1 hf1 hdt htl => by
            have hin := hdone y j x1 i1 oy q1 t1 hy hpy hoy hm1 hp1 hq1 hf1 hdt htl
            obtain ⟨z', hz'⟩ := List.getElem?_of_mem (hSx x1 hin)
            have hlt : z' < vs.length := by rw [hvl, ← hp.len]; exact lt_of_get hz'
            exact ⟨z', vs[z'], hz', by simp [hlt], hkn z' x1 i1 q1 t1 _ hz' hin hp1 hq1 hdt (by simp [hlt])⟩)
          (fun t1 htl hno => by
            cases hs2 : find sE t1 with
            | none => rfl
            | some v2 =>
              obtain ⟨x1, h1, i1, q1, hp1, hq1, hdt⟩ := hsE t1 v2 hs2
              obtain ⟨hm1, i', hp1', hf1⟩ := hSf x1 h1
              rw [hp1] at hp1'; cases hp1'
              exact absurd hdt (hno x1 i1 q1 hm1 hp1 hq1 hf1))

theorem drawF_ok {tl : List String} {cx : Cx} (hcx : CxOk0 P cx) (hm : P.follows .mixedOrders = true) {call : CallF} (hcall : CallOk P tl call) (htab : Tabs P tl C0 ι0 w0) {nt : Nat} (hr : regOkF ops p nr fl ck = true) {Q : Exit → Act → World → Prop} {d : List Deferred} {k : Env → Mem → Option R} {q : R} (ht : Then C0 ι0 w0 nt d k q (Q .normal))
    {e0 : Env} {M : Mem} (h : (evM cx call nt ops.toList (pickO ops.toList [] (p.take nr)) e0 M fun e M => bif flIn ops.toList nt fl then fE (e.filter fun q => notDst ops.toList fl q.1) fun e => evFl cx call nt ops.toList (pickF ops.toList fl ck (p.drop nr)) e M k else none) = some q) {a : Act} {C : Com} {ι : Locs} {w : World} (hn : a.tmps.size = nt) (hdf : a.defers = d) (hi : Inv C0 ι0 w0 C ι M w) (he : ER w C ι a e0) (id : Nat) :
    (Code.region id ops true).wp P Q a w := by
  have hrf := RegF.of hr
  have hr' := hrf.base
  have hlt' : ∀ i ∈ p, i < ops.toList.length := fun i hi => by simpa using hr'.lt i hi
  have hltT : ∀ i ∈ p.take nr, i < ops.toList.length := fun i hi => hlt' i (List.mem_of_mem_take hi)
  obtain ⟨vs, Xs, ef, h1, h2, hef, h3, h4⟩ := evM_rec h
  have g : Go1 C ι M w C ι M { w with drawn := w.drawn + 1 } (fun _ => False) := Go1.drew hi.st
  have hple : nr ≤ p.length := by have := hr'.le; omega
  have hlenL : (pickO ops.toList [] (p.take nr)).length = nr := by rw [pickO_len hltT]; simp; omega
  have hL : ∀ x : Nat, (pickO ops.toList [] (p.take nr))[x]? = if x < nr + 0 then (p[x]?).bind fun i => (ops[i]?).map fun o => ((match idx ([] : List Nat) i with | some _ => true | none => false), o) else none := by
    intro x
    rw [pickO_get hltT, List.getElem?_take]
    simp only [Nat.add_zero]
    split
    · simp only [Array.getElem?_toList]
      rfl
    · rfl
  obtain ⟨hnt, h3⟩ := bif_some h3
  rw [fE_eq] at h3
  let Qn : Exit → Act → World → Prop := fun x a w => match x with | .panic _ => False | x => Q x a w
  refine Code.wp_mono (Q := Qn) (fun x a w hx => by cases x <;> first | exact hx | exact hx.elim) ?_
  have ht' : Then C0 ι0 w0 nt d k q (Qn .normal) := ht
  refine wp_region_any hm ?_
  have := stage0 (gs := []) hcx hr' (Q := Qn) (fun c a w h => h) (d := d) (C := C) (ι := ι) (w := { w with drawn := w.drawn + 1 }) hL (by rw [h1, hlenL]; rfl) (by rw [h2, hlenL]; rfl) h4 (fun listed a' hs hl hdown hn' hdf' hv hX => ?_) nr 0 (Array.replicate ops.size false) a (by omega) (by simpa using hr'.r) (by simp) (fun j => ?_) (fun j o _ hS => ?_) hn hdf (fun t => ?_) (fun x hx => absurd hx (Nat.not_lt_zero _))
  · simpa using this
  · have hXn : ∀ X ∈ Xs, X = [] := fun X hX' => by
      obtain ⟨x, hx⟩ := List.getElem?_of_mem hX'
      have hxl := lt_of_get hx
      rw [h2, hlenL] at hxl
      rw [hX x hxl] at hx; cases hx; rfl
    have hXf : Xs.flatten = [] := List.flatten_eq_nil_iff.2 hXn
    rw [hXf, List.append_nil] at h3
    have hmap : ∀ x, ((pickO ops.toList [] (p.take nr)).map (·.2))[x]? = if x < nr then (p[x]?).bind fun i => ops[i]? else none := by
      intro x
      rw [List.getElem?_map, hL]
      simp only [Nat.add_zero]
      split
      · cases p[x]? with
        | none => rfl
        | some i => cases h : ops[i]? with
          | none => simp [h]
          | some o => simp [h]
      · rfl
    have uniq : ∀ (t x y : Nat) (o o' : Oper), ((pickO ops.toList [] (p.take nr)).map (·.2))[x]? = some o → ((pickO ops.toList [] (p.take nr)).map (·.2))[y]? = some o' → o.dst = some t → o'.dst = some t → x = y := by
      intro t x y o o' hx hy h1 h2
      rw [hmap] at hx hy
      split at hx
      · rename_i hx1
        split at hy
        · rename_i hy1
          cases hpx : p[x]? with
          | none => rw [hpx] at hx; cases hx
          | some i =>
            rw [hpx] at hx
            cases hpy : p[y]? with
            | none => rw [hpy] at hy; cases hy
            | some j =>
              rw [hpy] at hy
              by_cases e : x = y
              · exact e
              · exact absurd h1 ((hr'.early x y i j o o' t (by omega) (by omega) e hpx hpy hx hy h2).1)
        · cases hy
      · cases hx
    have hER : ER { w with drawn := w.drawn + 1 } C ι a' ef := fun t => by
      have := hv t
      rw [hef, puts_get (i := 0) (fun x y o o' h1 h2 h3 h4 => uniq t x y o o' h1 h2 h3 h4)]
      rw [valD_congr (D' := fun _ => true) (fun j o hj _ => by
        have := lt_of_get hj
        rw [List.length_map, hlenL] at this
        simp only [Nat.zero_add, decide_eq_true_eq]; exact this)] at this
      exact this
    refine fl_main hcx hcall htab hrf hnt ht' _ (ops.size - nr) nr [] listed (sE := []) (Nat.le_refl _) (by have := hr'.len; simp; omega) (by have := hr'.len; omega) (Nat.le_refl _) hs (by simp) (by simp) (fun j => ?_) hdown h3 (fun y j o t hy hpy hoy hfy hdy => ?_) (fun t v hs2 => by simp [find] at hs2) (fun y hy => by simp at hy) hn' hdf' (hi.go g) (fun t => ?_)
    · rw [hl j]
      constructor
      · rintro ⟨x, h5, h6⟩; exact ⟨x, .inl h5, h6⟩
      · rintro ⟨x, h5, h6⟩
        rcases h5 with h5 | h5
        · exact ⟨x, h5, h6⟩
        · simp at h5
    · rw [find_filter (f := fun x => notDst ops.toList fl x)]
      have : notDst ops.toList fl t = false := by
        rw [Bool.eq_false_iff]
        intro h5
        unfold notDst at h5
        rw [List.all_eq_true] at h5
        have h6 := h5 j (isFl_mem hfy)
        have hol : ops.toList[j]? = some o := by simpa using hoy
        rw [hol] at h6
        simp [hdy] at h6
      rw [this]; rfl
    · rw [List.nil_append, getE_find, find_filter (f := fun x => notDst ops.toList fl x)]
      cases notDst ops.toList fl t with
      | true => exact hER t
      | false => simp [RV]
  · have h0 : (Array.replicate ops.size false).getD j false = false := by
      by_cases hj : j < ops.size <;> simp [hj]
    rw [h0]
    constructor
    · intro h; cases h
    · rintro ⟨x, hx, _⟩; exact absurd hx (Nat.not_lt_zero _)
  · have h0 : (Array.replicate ops.size false).getD j false = false := by
      by_cases hj : j < ops.size <;> simp [hj]
    have hS : (Array.replicate ops.size false).getD j false = true := hS
    rw [h0] at hS; cases hS
  · rw [valD_none (fun j o hj _ => by simp)]
    exact g.rv (he t)
end
end
end Go.Ev
