import Derived.Test.YtkgabahlbmonfaaDoorPUa
set_option linter.unusedVariables false
set_option linter.unusedSimpArgs false
/-
  The text of a type: both sides come to the same.
-/
namespace Go.Ev
open Go
/-- A text's bytes as numbers. -/
def u8s (p : List UInt8) : List Int := p.map fun b => ((b.toNat : Nat) : Int)
theorem u8s_len (p : List UInt8) : (u8s p).length = p.length := by simp [u8s]
def ub (p : List UInt8) : Sl := bytes (u8s p)
theorem ub_n (p : List UInt8) : (ub p).1 = p.length := by unfold ub; rw [bytes_n, u8s_len]
theorem ub_es (p : List UInt8) : (ub p).2 = p.map fun b => [D.int .u8 ((b.toNat : Nat) : Int)] := by simp [ub, bytes, sl, u8s, vDs, LS.encs, LS.enc, vD]
theorem ub_app (p q : List UInt8) : ((ub p).1 + (ub q).1, (ub p).2 ++ (ub q).2) = ub (p ++ q) := by
  refine Prod.ext ?_ ?_
  · simp only [ub_n, List.length_append]
  · simp only [ub_es, List.map_append]
def tx (l : List UInt8) : ByteArray := ⟨l.toArray⟩
theorem tx_size (l : List UInt8) : (tx l).size = l.length := by simp [tx, ByteArray.size]
theorem tx_app (a b : List UInt8) : tx a ++ tx b = tx (a ++ b) := by
  apply ByteArray.ext
  simp [tx, ByteArray.data_append]
theorem byteEs_tx (l : List UInt8) : byteEs (tx l) = (ub l).2 := by rw [ub_es]; simp [byteEs, tx]

/-- Types whose heads are right, all of them. -/
inductive Ty.fine : Ty → Prop where
  | mk {k n : Int} {l : List Ty} (h : headOk k n l.length) (ha : ∀ a ∈ l, a.fine) : Ty.fine (.mk k n l)
theorem meass_mem : ∀ {l : List Ty} {d acc : Nat}, Ty.meass l d acc ≤ 60 → ∀ a ∈ l, Ty.meas a d ≤ 60
  | b :: l, d, acc, h, a, ha => by
    rw [Ty.meass] at h
    split at h
    · omega
    · rename_i h1
      rcases List.mem_cons.1 ha with rfl | ha
      · omega
      · exact meass_mem h a ha
theorem Ty.meas_fine (t : Ty) : ∀ d : Nat, Ty.meas t d ≤ 60 → t.fine := by
  induction t using Ty.ind with
  | h k n l ih =>
    intro d h
    rw [Ty.meas] at h
    split at h
    · omega
    · rename_i h1
      exact .mk (Classical.byContradiction fun hc => h1 (.inr hc)) (fun a ha => ih a ha (d + 1) (meass_mem h a ha))
mutual
theorem Ty.meas_z : ∀ (t : Ty) (d : Nat), Ty.meas t d ≤ 60 → Ty.meas t d = 1 + t.size
  | .mk k n l, d, h => by
    rw [Ty.meas] at h ⊢
    split at h
    · omega
    · rename_i h1
      rw [if_neg h1, Ty.meass_z l (d + 1) 1 h, Ty.size_mk]
theorem Ty.meass_z : ∀ (l : List Ty) (d acc : Nat), Ty.meass l d acc ≤ 60 → Ty.meass l d acc = acc + (l.length + (l.map Ty.size).sum)
  | [], d, acc, h => by rw [Ty.meass]; simp
  | a :: l, d, acc, h => by
    rw [Ty.meass] at h ⊢
    split at h
    · omega
    · rename_i h1
      rw [if_neg h1, Ty.meass_z l d _ h, Ty.meas_z a d (by have := Ty.meas_pos a d; omega)]
      simp only [List.length_cons, List.map_cons, List.sum_cons]
      omega
end
theorem Ty.okB_fine {t : Ty} (h : t.okB = true) : t.fine ∧ 1 + t.size ≤ 60 := by
  unfold Ty.okB at h
  have h := of_decide_eq_true h
  exact ⟨Ty.meas_fine t 1 h, by rw [← Ty.meas_z t 1 h]; exact h⟩

/-- The words of kinds. -/
def wordU (k : Int) : List UInt8 := if k = 0 then [117, 110, 105, 116] else if k = 1 then [105, 110, 116] else if k = 2 then [116, 101, 120, 116] else if k = 3 then [112, 97, 105, 114] else if k = 4 then [102, 117, 110] else if k = 5 then [114, 101, 102] else if k = 6 then [100, 97, 116, 97] else [39]
/-- What stands behind a bracket. -/
def headU (k n : Int) : List UInt8 := if k = 6 then wordU 6 ++ [32] ++ Lib.itoa n else wordU k
mutual
def Ty.say : Ty → List UInt8
  | .mk k n l => if k = 0 ∨ k = 1 ∨ k = 2 then wordU k else if k = 7 then wordU 7 ++ Lib.itoa n else [40] ++ headU k n ++ Ty.says l ++ [41]
def Ty.says : List Ty → List UInt8
  | [] => []
  | a :: l => [32] ++ Ty.say a ++ Ty.says l
end
theorem Ty.says_app : ∀ (p : List Ty) (a : Ty), Ty.says (p ++ [a]) = Ty.says p ++ ([32] ++ a.say)
  | [], a => by simp [Ty.says]
  | b :: p, a => by simp only [List.cons_append, Ty.says, Ty.says_app p a, List.append_assoc]
theorem decDigits_len5 (u : Nat) (h : u < 100000) : (Lib.decDigits u).length ≤ 5 := by
  have h1 : ∀ (k u : Nat), u < 10 ^ (k + 1) → (Lib.decDigits u).length ≤ k + 1 := by
    intro k
    induction k with
    | zero => intro u hu; rw [Lib.decDigits, dif_pos (by simpa using hu)]; simp
    | succ k ih =>
      intro u hu
      rw [Lib.decDigits]
      split
      · simp
      · have := ih (u / 10) (by rw [Nat.div_lt_iff_lt_mul (by decide)]; rw [Nat.pow_succ] at hu; exact hu)
        simp; omega
  exact h1 4 u (by omega)
theorem itoa_pos (n : Int) (h : 0 ≤ n) : Lib.itoa n = Lib.decDigits n.toNat := by unfold Lib.itoa; rw [if_neg (by omega)]
theorem itoa_len (n : Int) (h : 0 ≤ n) (h2 : n ≤ 99999) : (Lib.itoa n).length ≤ 5 := by rw [itoa_pos n h]; exact decDigits_len5 _ (by omega)
theorem wordU_len (k : Int) : (wordU k).length ≤ 4 := by
  unfold wordU
  repeat' split
  all_goals simp
theorem Ty.say_len (t : Ty) : t.fine → t.say.length ≤ 21 * (1 + t.size) := by
  induction t using Ty.ind with
  | h k n l ih =>
    intro hf
    cases hf with
    | mk h ha =>
    rw [Ty.say, Ty.size_mk]
    have hw := wordU_len k
    have hls : ∀ q : List Ty, (∀ a ∈ q, a.say.length ≤ 21 * (1 + a.size)) → (Ty.says q).length ≤ 22 * q.length + 21 * (q.map Ty.size).sum := by
      intro q
      induction q with
      | nil => intro _; simp [Ty.says]
      | cons a q ihq =>
        intro h
        have h1 := h a (by simp)
        have h2 := ihq fun b hb => h b (by simp [hb])
        rw [Ty.says]
        simp only [List.length_append, List.length_cons, List.length_nil, List.map_cons, List.sum_cons]
        omega
    have hl := hls l (fun a h => ih a h (ha a h))
    have hl3 : l.length ≤ 3 := by unfold headOk at h; omega
    have hn : k = 6 ∨ k = 7 → 0 ≤ n ∧ n ≤ 99999 := fun hk => by unfold headOk at h; omega
    have hd : (headU k n).length ≤ 10 := by
      unfold headU
      split
      · rename_i h6
        have := itoa_len n (hn (.inl h6)).1 (hn (.inl h6)).2
        have := wordU_len 6
        simp only [List.length_append, List.length_singleton]
        omega
      · omega
    split
    · omega
    · split
      · rename_i h7
        have := itoa_len n (hn (.inr h7)).1 (hn (.inr h7)).2
        have := wordU_len 7
        simp only [List.length_append]
        omega
      · simp only [List.length_append, List.length_singleton]
        omega
namespace Q
open Go Go.Ev

/-- A row of bytes of one's own. -/
def PU (x : Res) (p : List UInt8) : Prop := ∃ mv, x = some (.own 0, [.row 1 (ub p).1 false mv (ub p).2])
theorem PU.call {x : Res} {p : List UInt8} (h : PU x p) {R : Type} {f : Unit → Sl × Unit → Option R} : ocall (.m (.one (.own 0))) [(.row 1 false true)] x f = f () (ub p, ()) := by
  obtain ⟨mv, rfl⟩ := h
  refine ocall_t (s := .m (.one (.own 0))) (m := [(.row 1 false true)]) (t := ()) (u := (ub p, ())) rfl rfl ?_
  cases mv <;> rfl
theorem PU.mk {p q : List UInt8} {n : Nat} {es : List (List D)} {mv : Bool} (h1 : (ub q).1 = n) (h2 : (ub q).2 = es) : PU (some (.own 0, [.row 1 ((ub p).1 + n) false mv ((ub p).2 ++ es)])) (p ++ q) := by
  subst h1 h2
  exact ⟨mv, by rw [← ub_app]⟩

/-! the reference -/
theorem w64u {x : Int} (h0 : 0 ≤ x) (h1 : x < 18446744073709551616) : IntKind.wrap .u64 x = x := by
  simp only [IntKind.wrap, IntKind.bits, IntKind.signed]
  simp
  omega
theorem w8u {x : Int} (h0 : 0 ≤ x) (h1 : x < 256) : IntKind.wrap .u8 x = x := by
  simp only [IntKind.wrap, IntKind.bits, IntKind.signed]
  simp
  omega
theorem dig_cell {u : Nat} (h : u < 10) : D.int .u8 (IntKind.wrap .u8 (IntKind.wrap .u64 ((48 : Int) + (u : Nat)))) = D.int .u8 (((UInt8.ofNat (48 + u)).toNat : Nat) : Int) := by
  rw [w64u (by omega) (by omega), w8u (by omega) (by omega)]
  have : (UInt8.ofNat (48 + u)).toNat = 48 + u := by simp [UInt8.toNat_ofNat']; omega
  rw [this]
  rfl
theorem l3tens_ok : ∀ (k u : Nat), u < 10 ^ (k + 1) → k ≤ 10 → PU (spec_l3tens (u : Nat)) (Lib.decDigits u) := by
  intro k
  induction k with
  | zero =>
    intro u hu _
    have hu : u < 10 := by simpa using hu
    rw [spec_l3tens_eq, oite_dec, if_pos (by omega), Lib.decDigits, dif_pos hu, dig_cell hu]
    exact ⟨false, by simp [ub_n, ub_es]⟩
  | succ k ih =>
    intro u hu hk
    have hp : 10 ^ (k + 1 + 1) ≤ 10 ^ 12 := Nat.pow_le_pow_right (by omega) (by omega)
    have hlt : u / 10 < 10 ^ (k + 1) := by rw [Nat.div_lt_iff_lt_mul (by decide)]; rw [Nat.pow_succ] at hu; exact hu
    rw [spec_l3tens_eq, oite_dec, Lib.decDigits]
    by_cases h : u < 10
    · rw [if_pos (by omega), dif_pos h, dig_cell h]
      exact ⟨false, by simp [ub_n, ub_es]⟩
    · rw [if_neg (by omega), dif_neg h]
      have e1 : Int.tdiv ((u : Nat) : Int) 10 = ((u / 10 : Nat) : Int) := by rw [Int.tdiv_eq_ediv_of_nonneg (by omega)]; omega
      have e2 : Int.tmod ((u : Nat) : Int) 10 = ((u % 10 : Nat) : Int) := by rw [Int.tmod_eq_emod_of_nonneg (by omega)]; omega
      have hl : (Lib.decDigits (u / 10)).length ≤ 12 := by
        rw [Lib.decDigits_length]
        have : ∀ (k u : Nat), u < 10 ^ (k + 1) → Lib.nDigits u ≤ k + 1 := by
          intro k
          induction k with
          | zero => intro u hu; rw [Lib.nDigits, dif_pos (by simpa using hu)]; exact Nat.le_refl _
          | succ k ih =>
            intro u hu
            rw [Lib.nDigits]
            split
            · omega
            · have := ih (u / 10) (by rw [Nat.div_lt_iff_lt_mul (by decide)]; rw [Nat.pow_succ] at hu; exact hu)
              omega
        have := this k _ hlt
        omega
      simp only [oguard_true, e1, e2]
      rw [w64u (by omega) (by omega), (ih (u / 10) hlt (by omega)).call]
      simp only
      rw [dig_cell (by omega), oguard_dec (by rw [ub_n]; omega), olet_eq]
      exact PU.mk (by simp [ub_n]) (by simp [ub_es])
theorem l3digits_ok (n : Int) (h : 0 ≤ n) (h2 : n ≤ 99999) : spec_l3digits n = some (.d (.sl false 1 (ub (Lib.itoa n)).1 (ub (Lib.itoa n)).2), []) := by
  have hu : ((n.toNat : Nat) : Int) = n := by omega
  rw [spec_l3digits_eq, oite_dec, if_neg (by omega), w64u h (by omega), itoa_pos n h, ← hu, (l3tens_ok 4 n.toNat (by omega) (by omega)).call]
  rw [hu]

theorem bE (w : List UInt8) : byteEs (ByteArray.mk (Array.mk w)) = (ub w).2 := byteEs_tx w
theorem ocall_ub {R : Type} {p : List UInt8} {f : Sl → Unit → Option R} : ocall (.m (.one (.sl 1))) [] (some (.d (.sl false 1 (ub p).1 (ub p).2), [])) f = f (ub p) () := ocall_sl
theorem l3say_ok (t : Ty) : t.fine → t.size ≤ 100 → ∀ p : List UInt8, p.length + 5000 * (1 + t.size) ≤ 1000000 → PU (spec_l3say_o t.ts (ub p)) (p ++ t.say) := by
  induction t using Ty.ind with
  | h k n l ih =>
    intro hf hs p hp
    have hlen := Ty.say_len _ hf
    rw [Ty.size_mk] at hs hlen hp
    cases hf with
    | mk h ha =>
    have hsum : ∀ a ∈ l, a.size ≤ (l.map Ty.size).sum := fun a h => sizes_mem (f := Ty.size) h
    have loop : ∀ (q pre : List Ty) (z : List UInt8), pre ++ q = l → z.length + 5000 * (q.length + (q.map Ty.size).sum) + 1000 ≤ 1000000 → PU (spec_l3say_o_j2 (pre.length : Int) (ub z) (k, n, tys l, ())) (z ++ (Ty.says q ++ [41])) := by
      intro q
      induction q with
      | nil =>
        intro pre z hpq hz
        rw [List.append_nil] at hpq; subst hpq
        rw [spec_l3say_o_j2_eq, oite_dec, if_neg (by simp [tys, sl]), oguard_dec (by rw [ub_n]; omega), olet_eq, Ty.says, List.nil_append]
        exact PU.mk (by simp [ub_n]) (by simp [ub_es])
      | cons a q ihq =>
        intro pre z hpq hz
        have hm := mem_mid hpq
        have hlt := len_mid hpq
        have hsa := hsum a hm
        have hal := Ty.say_len a (ha a hm)
        simp only [List.length_cons, List.map_cons, List.sum_cons] at hz
        have hat : ∀ {R : Type} {f : T_Ty → Option R}, oat sh_Ty (tys l).1 (tys l).2 (pre.length : Int) f = f a.ts := fun {R f} => oat_mid (sh := sh_Ty) (g := Ty.ts) hpq rfl
        rw [spec_l3say_o_j2_eq, oite_dec, if_pos (show (pre.length : Int) < ((tys l).1 : Nat) by show (pre.length : Int) < (l.length : Nat); omega)]
        simp only [hat, osame_t]
        rw [oguard_dec (by rw [ub_n]; omega), olet_eq]
        have e1 : ((ub z).1 + 1, (ub z).2 ++ (((D.int .u8 (32 : Int)) :: []) :: [])) = ub (z ++ [32]) := by
          rw [← ub_app]; simp [ub_n, ub_es]
        rw [e1, (ih a hm (ha a hm) (by omega) (z ++ [32]) (by simp only [List.length_append, List.length_singleton]; omega)).call, w64_succ (by omega)]
        have := ihq (pre ++ [a]) (z ++ [32] ++ a.say) (by simpa using hpq) (by simp only [List.length_append, List.length_singleton]; omega)
        rw [List.length_append, List.length_singleton] at this
        have e2 : z ++ [32] ++ a.say ++ (Ty.says q ++ [41]) = z ++ (Ty.says (a :: q) ++ [41]) := by rw [Ty.says]; simp
        rw [← e2]
        exact this
    have hl3 : l.length ≤ 3 := by unfold headOk at h; omega
    have j1 : ∀ z : List UInt8, z.length ≤ p.length + 20 → PU (spec_l3say_o_j1 (ub z) (k, n, tys l, ())) (z ++ (Ty.says l ++ [41])) := by
      intro z hz
      rw [spec_l3say_o_j1_eq]
      exact loop l [] z rfl (by omega)
    have app : ∀ (w : List UInt8) (m : Nat) (es : List (List D)), (ub w).1 = m → (ub w).2 = es → ((ub p).1 + m, (ub p).2 ++ es) = ub (p ++ w) := by
      intro w m es h1 h2
      subst h1 h2
      exact ub_app p w
    rw [spec_l3say_o_eq, Ty.ts_mk, Ty.say]
    simp only [oite_if, beq_iff_eq]
    unfold headOk at h
    by_cases h0 : k = 0
    · subst h0
      rw [if_pos rfl, if_pos (.inl rfl), oguard_dec (by rw [ub_n]; omega), olet_eq]
      exact PU.mk (by simp [ub_n, wordU]) (by rw [show wordU 0 = [117, 110, 105, 116] from rfl]; rfl)
    rw [if_neg h0]
    by_cases h1 : k = 1
    · subst h1
      rw [if_pos rfl, if_pos (.inr (.inl rfl)), oguard_dec (by rw [ub_n]; omega), olet_eq]
      exact PU.mk (by simp [ub_n, wordU]) (by rw [show wordU 1 = [105, 110, 116] from rfl]; rfl)
    rw [if_neg h1]
    by_cases h2 : k = 2
    · subst h2
      rw [if_pos rfl, if_pos (.inr (.inr rfl)), oguard_dec (by rw [ub_n]; omega), olet_eq]
      exact PU.mk (by simp [ub_n, wordU]) (by rw [show wordU 2 = [116, 101, 120, 116] from rfl]; rfl)
    rw [if_neg h2, if_neg (show ¬ (k = 0 ∨ k = 1 ∨ k = 2) by omega)]
    by_cases h7 : k = 7
    · subst h7
      have hn : 0 ≤ n ∧ n ≤ 99999 := by omega
      have hi := itoa_len n hn.1 hn.2
      rw [if_pos rfl, if_pos rfl, oguard_dec (by rw [ub_n]; omega), olet_eq]
      simp only [osame_t]
      rw [l3digits_ok n hn.1 hn.2, ocall_ub, oguard_dec (by rw [ub_n, ub_n]; omega), olet_eq]
      refine ⟨true, ?_⟩
      have e : p ++ (wordU 7 ++ Lib.itoa n) = (p ++ [39]) ++ Lib.itoa n := by rw [show wordU 7 = [39] from rfl]; simp
      rw [e, ← ub_app, ← app [39] 1 [[D.int .u8 39]] (by simp [ub_n]) (by simp [ub_es])]
    rw [if_neg h7, if_neg h7]
    by_cases h3 : k = 3
    · subst h3
      rw [if_pos rfl, oguard_dec (by rw [ub_n]; omega), olet_eq, bE, app [40, 112, 97, 105, 114] 5 _ (by simp [ub_n]) rfl]
      have := j1 (p ++ [40, 112, 97, 105, 114]) (by simp only [List.length_append, List.length_cons, List.length_nil]; omega)
      have e : p ++ [40, 112, 97, 105, 114] ++ (Ty.says l ++ [41]) = p ++ ([40] ++ headU 3 n ++ Ty.says l ++ [41]) := by rw [show headU 3 n = [112, 97, 105, 114] from rfl]; simp only [List.append_assoc, List.cons_append, List.nil_append]
      rw [← e]; exact this
    rw [if_neg h3]
    by_cases h4 : k = 4
    · subst h4
      rw [if_pos rfl, oguard_dec (by rw [ub_n]; omega), olet_eq, bE, app [40, 102, 117, 110] 4 _ (by simp [ub_n]) rfl]
      have := j1 (p ++ [40, 102, 117, 110]) (by simp only [List.length_append, List.length_cons, List.length_nil]; omega)
      have e : p ++ [40, 102, 117, 110] ++ (Ty.says l ++ [41]) = p ++ ([40] ++ headU 4 n ++ Ty.says l ++ [41]) := by rw [show headU 4 n = [102, 117, 110] from rfl]; simp only [List.append_assoc, List.cons_append, List.nil_append]
      rw [← e]; exact this
    rw [if_neg h4]
    by_cases h5 : k = 5
    · subst h5
      rw [if_pos rfl, oguard_dec (by rw [ub_n]; omega), olet_eq, bE, app [40, 114, 101, 102] 4 _ (by simp [ub_n]) rfl]
      have := j1 (p ++ [40, 114, 101, 102]) (by simp only [List.length_append, List.length_cons, List.length_nil]; omega)
      have e : p ++ [40, 114, 101, 102] ++ (Ty.says l ++ [41]) = p ++ ([40] ++ headU 5 n ++ Ty.says l ++ [41]) := by rw [show headU 5 n = [114, 101, 102] from rfl]; simp only [List.append_assoc, List.cons_append, List.nil_append]
      rw [← e]; exact this
    rw [if_neg h5]
    have h6 : k = 6 := by omega
    subst h6
    have hn : 0 ≤ n ∧ n ≤ 99999 := by omega
    have hi := itoa_len n hn.1 hn.2
    rw [oguard_dec (by rw [ub_n]; omega), olet_eq]
    simp only [osame_t]
    rw [l3digits_ok n hn.1 hn.2, ocall_ub, oguard_dec (by rw [ub_n, ub_n]; omega), olet_eq]
    have e0 : (((ub p).1 + 6) + (ub (Lib.itoa n)).1, ((ub p).2 ++ byteEs (ByteArray.mk (Array.mk [40, 100, 97, 116, 97, 32]))) ++ (ub (Lib.itoa n)).2) = ub (p ++ [40, 100, 97, 116, 97, 32] ++ Lib.itoa n) := by
      rw [← ub_app, ← app [40, 100, 97, 116, 97, 32] 6 _ (by simp [ub_n]) rfl, bE]
    rw [e0]
    have := j1 (p ++ [40, 100, 97, 116, 97, 32] ++ Lib.itoa n) (by simp; omega)
    have e : p ++ [40, 100, 97, 116, 97, 32] ++ Lib.itoa n ++ (Ty.says l ++ [41]) = p ++ ([40] ++ headU 6 n ++ Ty.says l ++ [41]) := by rw [show headU 6 n = [100, 97, 116, 97] ++ [32] ++ Lib.itoa n from rfl]; simp
    rw [← e]; exact this
end Q
end Go.Ev

/-
  The text of a type, by the program.
-/
namespace Go.Ev.Q
open Go Go.Ev

abbrev rS (l : List UInt8) : Res := some (.d (.str (tx l)), [])
theorem ocall_rS {R : Type} {l : List UInt8} {f : ByteArray → Unit → Option R} : ocall (.m (.one .str)) [] (rS l) f = f (tx l) () := ocall_str
theorem Itoa_ok (n : Int) (h : 0 ≤ n) (h2 : n ≤ 99999) : strconv_Itoa n = rS (Lib.itoa n) := by
  rw [strconv_Itoa_eq, oguard_dec ⟨by omega, by omega⟩]; rfl
theorem wordOf_ok (k : Int) (h : 0 ≤ k) (h2 : k ≤ 7) : impl_wordOf k = rS (wordU k) := by
  rw [impl_wordOf_eq, oguard_dec ⟨h, by omega⟩]
  have c : ∀ (X : ByteArray) (f : LS.Ts [.str] → Res), ocells [.str] [D.str X] f = f (X, ()) := fun X f => ocells_t (LS.decD_encs (l := [.str]) rfl (X, ()))
  rcases (by omega : k = 0 ∨ k = 1 ∨ k = 2 ∨ k = 3 ∨ k = 4 ∨ k = 5 ∨ k = 6 ∨ k = 7) with rfl | rfl | rfl | rfl | rfl | rfl | rfl | rfl <;> exact (c _ _).trans rfl
/-- Texts, one a cell. -/
def strs (q : List (List UInt8)) : Sl := sl (sh := [.str]) (fun b => (tx b, ())) q
theorem strs_n (q : List (List UInt8)) : (strs q).1 = q.length := rfl
theorem strs_app (q : List (List UInt8)) (b : List UInt8) : ((strs q).1 + 1, (strs q).2 ++ (((D.str (tx b)) :: []) :: [])) = strs (q ++ [b]) := by
  simp [strs, sl, vDs, LS.encs, LS.enc, vD]
/-- Texts with a blank between each two. -/
def joinU : List (List UInt8) → List UInt8
  | [] => []
  | a :: q => a ++ (q.map fun b => 32 :: b).flatten
theorem joinU_app (q : List (List UInt8)) (b : List UInt8) : joinU (q ++ [b]) = (if q = [] then [] else joinU q ++ [32]) ++ b := by
  cases q with
  | nil => simp [joinU]
  | cons a q => simp [joinU]
theorem bracketed_ok (l : List (List UInt8)) (hl : (joinU l).length ≤ 1000000) (hn : l.length ≤ 1000000) : impl_bracketed (strs l) = rS ([40] ++ joinU l ++ [41]) := by
  have hmono : ∀ (p q : List (List UInt8)), (joinU p).length ≤ (joinU (p ++ q)).length := by
    intro p q
    cases p with
    | nil => simp [joinU]
    | cons a p => simp [joinU]
  have loop : ∀ (q pre : List (List UInt8)), pre ++ q = l → impl_bracketed_j1 (pre.length : Int) (tx ([40] ++ joinU pre)) (strs l) (((strs l).1 : Nat) : Int) = rS ([40] ++ joinU l ++ [41]) := by
    intro q
    induction q with
    | nil =>
      intro pre hp
      rw [List.append_nil] at hp; subst hp
      rw [impl_bracketed_j1_eq, oite_dec, if_neg (by rw [strs_n]; omega), oguard_dec (by rw [tx_size]; simp; omega)]
      rw [show (ByteArray.mk (Array.mk [41])) = tx [41] from rfl, tx_app]
    | cons a q ih =>
      intro pre hp
      have hlt := len_mid hp
      have h1 := hmono pre [a]
      have h2 := hmono (pre ++ [a]) q
      rw [show pre ++ [a] ++ q = l by simpa using hp] at h2
      have hj := joinU_app pre a
      have hnext := ih (pre ++ [a]) (by simpa using hp)
      rw [List.length_append, List.length_singleton] at hnext
      have h3 : (joinU (pre ++ [a])).length = (if pre = [] then [] else joinU pre ++ [32]).length + a.length := by rw [hj, List.length_append]
      rw [impl_bracketed_j1_eq, oite_dec, if_pos (by rw [strs_n]; omega), show strs l = sl (sh := [.str]) (fun b => (tx b, ())) l from rfl, oat_mid hp rfl, show sl (sh := [.str]) (fun b => (tx b, ())) l = strs l from rfl]
      simp only
      rw [oite_dec]
      cases pre with
      | nil =>
        rw [if_neg (by simp), impl_bracketed_j2_eq]
        have h4 : a.length ≤ 1000000 := by have : (joinU ([] ++ [a])).length = a.length := by simp [joinU]
                                           omega
        rw [oguard_dec (by rw [tx_size, tx_size]; simp [joinU]; omega), tx_app, w64_succ (by simp)]
        have e : [40] ++ joinU [] ++ a = [40] ++ joinU ([] ++ [a]) := by simp [joinU]
        rw [e]
        exact hnext
      | cons b pre =>
        have h3 : (joinU (b :: pre ++ [a])).length = (joinU (b :: pre)).length + 1 + a.length := by rw [h3, if_neg (by simp)]; simp
        rw [if_pos (by simp only [List.length_cons]; omega), oguard_dec (by rw [tx_size]; simp only [List.length_append, List.length_singleton]; omega), show (ByteArray.mk (Array.mk [32])) = tx [32] from rfl, tx_app, impl_bracketed_j2_eq, oguard_dec (by rw [tx_size, tx_size]; simp only [List.length_append, List.length_singleton]; omega), tx_app, w64_succ (by omega)]
        have e : [40] ++ joinU (b :: pre) ++ [32] ++ a = [40] ++ joinU (b :: pre ++ [a]) := by rw [hj, if_neg (by simp)]; simp
        rw [e]
        exact hnext
  rw [impl_bracketed_eq]
  exact loop l [] rfl
theorem joinU_head (h : List UInt8) (l : List Ty) : joinU (h :: l.map Ty.say) = h ++ Ty.says l := by
  have : ∀ q : List Ty, ((q.map Ty.say).map fun b => 32 :: b).flatten = Ty.says q := by
    intro q
    induction q with
    | nil => simp [Ty.says]
    | cons a q ih => rw [Ty.says, ← ih]; simp
  rw [joinU, this]

theorem say1_ok (n : Int) (h : 0 ≤ n) (h2 : n ≤ 99999) : impl_TySay_1 n = rS (headU 6 n) := by
  have hi := itoa_len n h h2
  rw [impl_TySay_1_eq, wordOf_ok 6 (by omega) (by omega), ocall_rS, oguard_dec (by rw [tx_size]; simp [wordU]), Itoa_ok n h h2, ocall_rS, show (ByteArray.mk (Array.mk [32])) = tx [32] from rfl, tx_app, oguard_dec (by rw [tx_size, tx_size]; simp [wordU]; omega), tx_app]
  rfl
theorem sayTy_ok (t : Ty) : t.fine → t.size ≤ 100 → impl_sayTy_Fimpl_TySay_1 t.ts = rS t.say := by
  induction t using Ty.ind with
  | h k n l ih =>
    intro hf hs
    have hlen := Ty.say_len _ hf
    rw [Ty.size_mk] at hs hlen
    cases hf with
    | mk h ha =>
    have hl3 : l.length ≤ 3 := by unfold headOk at h; omega
    have hk : 0 ≤ k ∧ k ≤ 7 := by unfold headOk at h; omega
    -- the parts
    have parts : ∀ hd : List UInt8, hd.length ≤ 20 → impl_sayTy_Fimpl_TySay_1_j3 (strs [hd]) (k, n, tys l, ()) = rS ([40] ++ joinU (hd :: l.map Ty.say) ++ [41]) := by
      intro hd hhd
      have hjl : (joinU (hd :: l.map Ty.say)).length ≤ 1000000 := by
        rw [joinU_head, List.length_append]
        have : ∀ q : List Ty, (∀ a ∈ q, a ∈ l) → (Ty.says q).length ≤ 3000 * q.length := by
          intro q
          induction q with
          | nil => intro _; simp [Ty.says]
          | cons a q ihq =>
            intro hm
            have h1 := Ty.say_len a (ha a (hm a (by simp)))
            have h2 := ihq fun b hb => hm b (by simp [hb])
            have h3 := sizes_mem (f := Ty.size) (hm a (by simp))
            rw [Ty.says]
            simp only [List.length_append, List.length_cons, List.length_nil]
            omega
        have := this l (fun _ h => h)
        omega
      have loop : ∀ (q pre : List Ty), pre ++ q = l → impl_sayTy_Fimpl_TySay_1_j4v1 (pre.length : Int) (tys l) (((tys l).1 : Nat) : Int) (strs (hd :: pre.map Ty.say)) = rS ([40] ++ joinU (hd :: l.map Ty.say) ++ [41]) := by
        intro q
        induction q with
        | nil =>
          intro pre hp
          rw [List.append_nil] at hp; subst hp
          rw [impl_sayTy_Fimpl_TySay_1_j4v1_eq, oite_dec, if_neg (by simp [tys, sl]), bracketed_ok _ hjl (by simp; omega), ocall_rS]
        | cons a q ihq =>
          intro pre hp
          have hm := mem_mid hp
          have hlt := len_mid hp
          have hsz := sizes_mem (f := Ty.size) hm
          rw [impl_sayTy_Fimpl_TySay_1_j4v1_eq, oite_dec, if_pos (show (pre.length : Int) < ((tys l).1 : Nat) by show (pre.length : Int) < (l.length : Nat); omega)]
          rw [show tys l = sl (sh := sh_Ty) Ty.ts l from rfl, oat_mid hp rfl, ih a hm (ha a hm) (by omega), ocall_rS, oguard_dec (by rw [strs_n]; simp; omega), olet_eq, strs_app, w64_succ (by omega)]
          have := ihq (pre ++ [a]) (by simpa using hp)
          rw [List.length_append, List.length_singleton, List.map_append] at this
          exact this
      rw [impl_sayTy_Fimpl_TySay_1_j3_eq]
      simp only
      cases l with
      | nil =>
        rw [impl_sayTy_Fimpl_TySay_1_j4_eq, oite_dec, if_neg (by simp [tys, sl]), show strs [hd] = strs (hd :: List.map Ty.say []) from rfl, bracketed_ok _ hjl (by simp), ocall_rS]
      | cons a q =>
        have hm : a ∈ a :: q := by simp
        have hsz := sizes_mem (f := Ty.size) hm
        rw [impl_sayTy_Fimpl_TySay_1_j4_eq, oite_dec, if_pos (by simp [tys, sl])]
        rw [show tys (a :: q) = sl (sh := sh_Ty) Ty.ts (a :: q) from rfl, oat_hd rfl, ih a hm (ha a hm) (by omega), ocall_rS, oguard_dec (by rw [strs_n]; simp), olet_eq, strs_app]
        exact loop q [a] rfl
    rw [impl_sayTy_Fimpl_TySay_1_eq, Ty.ts_mk, Ty.say]
    simp only [oite_if, beq_iff_eq, impl_sayTy_Fimpl_TySay_1_j2_eq]
    unfold headOk at h
    by_cases h012 : k = 0 ∨ k = 1 ∨ k = 2
    · rw [if_pos h012, wordOf_ok k hk.1 hk.2]
      rcases h012 with rfl | rfl | rfl <;> exact ocall_rS
    rw [if_neg h012, if_neg (by omega), if_neg (by omega), if_neg (by omega)]
    by_cases h7 : k = 7
    · subst h7
      have hn : 0 ≤ n ∧ n ≤ 99999 := by omega
      have hi := itoa_len n hn.1 hn.2
      rw [if_pos rfl, if_pos rfl, wordOf_ok 7 hk.1 hk.2, ocall_rS]
      simp only [osame_t]
      rw [Itoa_ok n hn.1 hn.2, ocall_rS, oguard_dec (by rw [tx_size, tx_size]; simp [wordU]; omega), tx_app]
    rw [if_neg h7, if_neg h7, impl_sayTy_Fimpl_TySay_1_j1_eq, wordOf_ok k hk.1 hk.2, ocall_rS]
    simp only [oite_if, beq_iff_eq]
    by_cases h6 : k = 6
    · subst h6
      have hn : 0 ≤ n ∧ n ≤ 99999 := by omega
      have hi := itoa_len n hn.1 hn.2
      rw [if_pos rfl, say1_ok n hn.1 hn.2, ocall_rS, oguard_true, olet_eq]
      have e : (1, List.set [[D.str (tx (wordU 6))]] 0 (putD (List.getD [[D.str (tx (wordU 6))]] 0 []) 0 [D.str (tx (headU 6 n))])) = strs [headU 6 n] := rfl
      rw [e, parts (headU 6 n) (by unfold headU; rw [if_pos rfl]; simp [wordU]; omega), joinU_head]
      simp
    · rw [if_neg h6]
      have e : (1, [[D.str (tx (wordU k))]]) = strs [wordU k] := rfl
      have hw := wordU_len k
      rw [e, parts (wordU k) (by omega), joinU_head, show headU k n = wordU k from if_neg h6]
      simp
end Go.Ev.Q

/-
  Types are taken over, weighed, compared and marked as wanted.
-/
namespace Go.Ev.Q
open Go Go.Ev

theorem szTy_ok (t : Ty) : t.ok → ∀ n : Nat, (n : Int) < 9223372036854775807 → laws_szTy t.ts n = some (.d (.int .i64 (if t.size ≤ n then ((n - t.size : Nat) : Int) else -1)), []) := by
  induction t using Ty.ind with
  | h k n l ih =>
    intro ho m hm
    cases ho with
    | mk hk hn hl ha =>
      rw [laws_szTy_eq, Ty.ts_mk]
      have h := sz_gen (sh := sh_Ty) rfl laws_szTyS_eq laws_szTyS_j1_eq (g := Ty.ts) (size := Ty.size) l hl (fun a h => ih a h (ha a h)) m hm
      rw [show tys l = sl (sh := sh_Ty) Ty.ts l from rfl, h, ocall_int, oite_dec, ← Ty.size_mk (k := k) (n := n)]
      by_cases h1 : (Ty.mk k n l).size ≤ m
      · simp only [if_pos h1]; rw [if_neg (show ¬ (((m - (Ty.mk k n l).size : Nat) : Int) < 0) by omega)]
      · simp only [if_neg h1]; rw [if_pos (by decide)]
/-- A type of one's own, as a call returns it. -/
abbrev tyO (t : T_Ty) : Res := some (.agg [.d (.int .i64 t.1), .d (.int .i64 t.2.1), .own 0], [.lrow 3 t.2.2.1.1 false t.2.2.1.2])
theorem ocall_tyO {R : Type} {t : T_Ty} {f : Int × Int × Unit × Unit → Sl × Unit → Option R} : ocall (.m (.agg [.int .i64, .int .i64, .own 0])) [.lrow 3 false] (tyO t) f = f (t.1, t.2.1, (), ()) (t.2.2.1, ()) :=
  ocall_t (s := .m (.agg [.int .i64, .int .i64, .own 0])) (m := [.lrow 3 false]) (t := (t.1, t.2.1, (), ())) (u := (t.2.2.1, ())) rfl rfl ES.decs_lrow
theorem toTy_ok (t : Ty) : t.size ≤ 1048576 → laws_toTy t.ts = tyO t.ts := by
  induction t using Ty.ind with
  | h k n l ih =>
    intro hs
    rw [Ty.size_mk] at hs
    rw [laws_toTy_eq, Ty.ts_mk]
    have h := to_genG (sh := sh_Ty) rfl (K := rO 3) (z := vDs (LS.encs sh_Ty ((0 : Int), (0 : Int), (0, []), ()))) rfl (G := fun t k => ocall (.m (.agg [.int .i64, .int .i64, .own 0])) [.lrow 3 false] (laws_toTy t) fun r m => k (vDs (LS.encs sh_Ty (r.1, r.2.1, m.1, ())))) laws_toTyS_eq laws_toTyS_j1_eq (g := Ty.ts) l (by omega) (by omega) (fun a h k => by
      show ocall _ _ (laws_toTy a.ts) _ = _
      rw [ih a h (by have := sizes_mem (f := Ty.size) h; omega), ocall_tyO])
    rw [show tys l = sl (sh := sh_Ty) Ty.ts l from rfl, h, ocall_own]
theorem eqTy_ok (t : Ty) : t.size ≤ 1048576 → laws_eqTy t.ts t.ts = some (.d (.bool true), []) := by
  induction t using Ty.ind with
  | h k n l ih =>
    intro hs
    rw [Ty.size_mk] at hs
    rw [laws_eqTy_eq, Ty.ts_mk]
    have h := eq_gen (sh := sh_Ty) rfl laws_eqTyS_eq laws_eqTyS_j1_eq (g := Ty.ts) l (by omega) (fun a h => ih a h (by have := sizes_mem (f := Ty.size) h; omega))
    rw [show tys l = sl (sh := sh_Ty) Ty.ts l from rfl, h, ocall_bool]
    simp only [oite_not, beq_self_eq_true, oite_t]

/-! marks -/
theorem ty_cells {k n : Int} {s : Sl} : vDs (LS.encs sh_Ty (k, n, s, ())) = [D.int .i64 k, D.int .i64 n, D.sl false 3 s.1 s.2] := rfl
theorem markTy_ok (t : Ty) : ∀ k : Nat, t.size ≤ 1048576 → (k : Int) + 4 * t.size < 4611686018427387904 → Mk 3 t.ts.2.2.1.1 (laws_markTyS_o k t.ts.2.2.1) k t.size := by
  induction t using Ty.ind with
  | h k0 n0 l ih =>
    intro k hs hk
    rw [Ty.size_mk] at hs hk ⊢
    rw [Ty.ts_mk]
    refine mark_gen (sh := sh_Ty) (g := Ty.ts) laws_markTyS_o_eq l hs (fun k es => ?_) (fun i k es a ha hi he hg hk => ?_) k hk
    · rw [laws_markTyS_o_j1_eq, oite_dec, if_neg (by simp)]
    · obtain ⟨ka, na, la⟩ := a
      have hgd : (0 : Int) ≤ (i : Int) ∧ (i : Int) < (l.length : Nat) := ⟨by omega, by omega⟩
      rw [Ty.ts_mk, ty_cells] at hg
      have hsa : (Ty.mk ka na la).size ≤ 1048576 := by have := sizes_mem (f := Ty.size) ha; omega
      have w1 : w64 ((k : Int) + 1) = ((k + 1 : Nat) : Int) := w64_succ (by omega)
      have w2 : w64 (((k + 1 : Nat) : Int) + 1) = ((k + 2 : Nat) : Int) := w64_succ (by omega)
      have wi : w64 ((i : Int) + 1) = ((i + 1 : Nat) : Int) := w64_succ (by omega)
      obtain ⟨k2, es2, e1, e2, e3⟩ := ih _ ha (k + 2) hsa (by omega)
      rw [Ty.ts_mk] at e1
      rw [laws_markTyS_o_j1_eq, oite_dec, if_pos (show (i : Int) < (l.length : Nat) by omega)]
      simp only [oguard_dec hgd, olet_eq, w1, w2, wi, Int.toNat_natCast, hg, getD_set_self (es := es) (i := i) (by omega), List.set_set, putD, List.set_cons_zero, List.set_cons_succ, List.drop_succ_cons, List.drop_zero, List.take_succ_cons, List.take_zero, ocells_sl]
      rw [show laws_markTyS_o ((k + 2 : Nat) : Int) ((tys la).1, (tys la).2) = _ from e1, ocall_mk]
      exact ⟨k2, _, by omega, by omega, rfl⟩
end Go.Ev.Q
