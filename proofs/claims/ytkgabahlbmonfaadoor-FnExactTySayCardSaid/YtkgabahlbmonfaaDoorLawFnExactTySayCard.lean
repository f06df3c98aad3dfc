/-
  FnExactTySay is true, whatever its arguments are, and leaves them as they were.
-/
import Derived.Test.YtkgabahlbmonfaaDoorRows
import Derived.Test.YtkgabahlbmonfaaDoorPUc
import Derived.Test.YtkgabahlbmonfaaDoorEvRd
import Derived.WalkKit
import Derived.ProofKit
import Derived.OpenShut
import Derived.ShutString
import Derived.ChangeOld
import Derived.SizedLaws
import Derived.Carry
import Derived.Deep.DeepHandedRow
import Derived.JoinedCond
import Derived.Lib.LaidTab
import Derived.Lib.LaidU8
import Derived.Stop.LaidErr
import Derived.Test.YtkgabahlbmonfaaDoorCards
import Derived.Test.YtkgabahlbmonfaaDoorTie
import Derived.SevenTiedAt
namespace Go.Ev.Q
open Go Go.Ev Go.RowKit Go.Proofs Go.Proofs.YtkgabahlbmonfaaDoor
set_option linter.unusedVariables false
theorem len3_ {cs : List Value} (h : cs.length = 3) : ∃ v0 v1 v2, cs = [v0, v1, v2] := by
  match cs, h with
  | [v0, v1, v2], _ => exact ⟨v0, v1, v2, rfl⟩
theorem rd_Ty {H : Type} {enc : TypeId × Value → H} {w : World} {base : Nat} {spare : Nat → Bool} {held : Bool} : ∀ (n : Nat), ∀ cs y, DataW.trod enc Tryd.prog w base spare held n 61 cs = some y → ∃ t : Ty, RVs w (allC w) [] cs (LS.encs sh_Ty t.ts) ∧ t.ok := by
  intro n
  induction n using Nat.strongRecOn with
  | _ n ih =>
  intro cs y h
  obtain ⟨xs, m, rfl, _, hl, hlen, hf⟩ := DataW.trod_struct Tryd.underlying61 h
  obtain ⟨v0, v1, v2, rfl⟩ := len3_ (hl.trans (by kernel_rfl))
  obtain ⟨y0, h0⟩ := read_field hlen hf 0 _ rfl (t := 3) (off := 0) rfl rfl (s := 1) (by kernel_rfl)
  replace h0 : DataW.trod enc Tryd.prog w base spare held m 3 [v0] = some y0 := h0
  obtain ⟨x0, e0, q0⟩ := read_int Tryd.underlying3 h0
  obtain rfl := List.head_eq_of_cons_eq e0
  obtain ⟨y1, h1⟩ := read_field hlen hf 1 _ rfl (t := 3) (off := 1) rfl rfl (s := 1) (by kernel_rfl)
  replace h1 : DataW.trod enc Tryd.prog w base spare held m 3 [v1] = some y1 := h1
  obtain ⟨x1, e1, q1⟩ := read_int Tryd.underlying3 h1
  obtain rfl := List.head_eq_of_cons_eq e1
  obtain ⟨y2, h2⟩ := read_field hlen hf 2 _ rfl (t := 59) (off := 2) rfl rfl (s := 1) (by kernel_rfl)
  replace h2 : DataW.trod enc Tryd.prog w base spare held m 59 [v2] = some y2 := h2
  obtain ⟨u2, x2, e2, r2, l2, q2⟩ := rd_rows (sh := sh_Ty) rfl Ty.ts Tryd.underlying59 (by kernel_rfl) (by decide) (Q := Ty.ok) (fun j hj => (ih j (by omega))) h2
  obtain rfl := List.head_eq_of_cons_eq e2
  exact ⟨.mk x0 x1 x2, by rw [Ty.ts_mk]; exact (z_cons z_int (z_cons z_int (z_cons (z_d r2) z_end))), .mk (wf_in q0) (wf_in q1) l2 q2⟩
end Go.Ev.Q
namespace Go.Proofs.YtkgabahlbmonfaaDoor.fnExactTySay
open Go Go.Ev Go.Ev.Q Go.ChangeShapes Go.WideShapes Go.ChangeAt Go.RowKit
open Go.ChangeMaps (open_string shut_string)
set_option linter.unusedVariables false
theorem own : ownKnob Tryd.prog.godebug = none := by kernel_rfl
theorem laidOut : laidOutB Tryd.prog = true := by kernel_rfl
/-- The settled world, the listed variables as they are laid: the witness. -/
noncomputable def laidWorld (os : Os) : World :=
  let w0 := World.holding Tryd.prog os ⟨#[], #[], []⟩
  let put (h : Array Obj) (g : Nat) (cs : Array Value) : Array Obj := h.modify g fun
    | .cells _ t frozen => .cells cs t frozen
    | o => o
  { w0 with heap := (put (put (put w0.heap 6 (([0, 1, 28, 2, 29, 14, 24, 3, 30, 22, 20, 15, 25, 17, 4, 8, 31, 27, 13, 23, 21, 19, 16, 7, 26, 12, 18, 6, 11, 5, 10, 9] : List Int).map fun z => Value.int .u8 z).toArray) 7 (([0, 1, 56, 2, 57, 49, 28, 3, 61, 58, 42, 50, 38, 29, 17, 4, 62, 47, 59, 36, 45, 43, 51, 22, 53, 39, 33, 30, 24, 18, 12, 5, 63, 55, 48, 27, 60, 41, 37, 16, 46, 35, 44, 21, 52, 32, 23, 11, 54, 26, 40, 15, 34, 20, 31, 10, 25, 14, 19, 9, 13, 8, 7, 6] : List Int).map fun z => Value.int .u8 z).toArray) 2 (Lib.pow10Tab.map fun z => Value.int .u64 z).toArray) }
theorem laid_met (os : Os) (args : Array Value) : laidMet Tryd.prog Rows.fnExactTySayRow.laid ((laidWorld os).forCall (fun _ _ => 0) ⟨#[], args, []⟩).memory :=
  laidMet_of_run' 8 (by kernel_rfl) (by kernel_rfl)
theorem witness_row (os : Os) {H : Type} (enc : TypeId × Value → H) :
    (OpenSpec.ofChange Rows.fnExactTySaySpec).preRow enc Tryd.prog Tryd.f6 Rows.fnExactTySayRow.domain false Rows.fnExactTySayRow.laid ((laidWorld os).forCall (fun _ _ => 0) ⟨#[], #[.agg #[.int .i64 0, .int .i64 0, .slice none 0 0]], []⟩).memory #[.agg #[.int .i64 0, .int .i64 0, .slice none 0 0]] := by
  have hw : (DataW.whole enc Tryd.prog ((laidWorld os).forCall (fun _ _ => 0) ⟨#[], #[.agg #[.int .i64 0, .int .i64 0, .slice none 0 0]], []⟩).memory Tryd.f6.params.toList (OpenSpec.ofChange Rows.fnExactTySaySpec).vars false (#[.agg #[.int .i64 0, .int .i64 0, .slice none 0 0]] : Array Value).toList 8).map (fun x => (x.1, x.2.1)) =
      some ([.agg [.lit (.int .i64 0), .lit (.int .i64 0), .nil]], []) := by kernel_rfl
  obtain ⟨⟨x1, x2, x3⟩, hx, hx1⟩ := Option.map_eq_some_iff.1 hw
  simp only [Prod.mk.injEq] at hx1
  obtain ⟨rfl, rfl⟩ := hx1
  exact OpenSpec.preRow_of_cond 8 hx (by kernel_rfl) (fun k hk => by cases hk) (by kernel_rfl) (laid_met os _)
set_option maxRecDepth 100000 in
theorem lifted (os : Os) (started : os.Started) (H : Type) (enc : TypeId × Value → H) (F : Stop.Interp) :
    ReturnsInHanded {} Tryd.checked os 6 .any ((OpenSpec.ofChange Rows.fnExactTySaySpec).preRow enc Tryd.prog Tryd.f6 Rows.fnExactTySayRow.domain false Rows.fnExactTySayRow.laid) (((OpenSpec.ofChange Rows.fnExactTySaySpec).at F).post enc Tryd.prog Tryd.f6 false true false false) := by
  refine returnsInHanded_of_row (C := Tryd.checked) (s := OpenSpec.ofChange Rows.fnExactTySaySpec) own started (by kernel_rfl) Tryd.func6
    (witness_row_at (enc := enc) (C := Tryd.checked) false (laidWorld os) #[.agg #[.int .i64 0, .int .i64 0, .slice none 0 0]] rfl (by kernel_rfl) (by kernel_rfl) (by kernel_rfl) (witness_row os enc)) ?_
  intro W base args ds gs before hval0 hW hcnd _ hsz0 hL hsh _
  have hval : ∀ (j : Nat) t v, Tryd.f6.params[j]? = some t → args[j]? = some v → Value.okWide Tryd.prog W .any base t v := hval0
  have hW' := hW
  obtain ⟨p, q, hA0, hV, rfl, hfz, hnd⟩ := hW
  have hA : DataW.TrodAll enc Tryd.prog W 0 (fun _ => true) true Tryd.f6.params.toList args.toList ds p := hA0
  rw [Tryd.params6] at hA hval
  obtain ⟨v0, vs0, d0, ds0, p0, q0, hargs, rfl, rfl, h0, r0⟩ := trodAll_cons hA
  obtain ⟨rfl, rfl, rfl⟩ := trodAll_nil r0
  obtain rfl : args = #[v0] := by cases args; simp_all
  obtain ⟨rfl, rfl⟩ := trodVars_none hV
  obtain ⟨cs0, rfl, _⟩ := okWide_struct Tryd.underlying61 (hval 0 61 v0 rfl rfl)
  have k0 := h0
  have lt0 : ∀ x ∈ p0, x.block < W.heap.size := by obtain ⟨m, hm⟩ := k0; exact DataW.trod_lt m _ _ _ hm
  obtain ⟨fuel0, hf0⟩ := h0
  obtain ⟨x0, K0, w0⟩ := rd_Ty fuel0 cs0.toList _ hf0
  have Z0 : RV W (allC W) [] (.agg cs0) (.agg (LS.encs sh_Ty x0.ts)) := by unfold RV; exact ⟨cs0, rfl, K0⟩
  clear hA0 hval0 hsz0
  have hl2 : Rows.fnExactTySayRow.laid = [("math/bits.deBruijn32tab", Rows.laid_math_bits_deBruijn32tab), ("math/bits.deBruijn64tab", Rows.laid_math_bits_deBruijn64tab), ("internal/strconv.uint64pow10", Lib.tabData .u64 Lib.pow10Tab)] := by kernel_rfl
  have ht2 : Lib.TabIs Tryd.prog W "internal/strconv.uint64pow10" .u64 Lib.pow10Tab := by
    have h : laidMet Tryd.prog Rows.fnExactTySayRow.laid W := hL
    rw [hl2] at h
    exact Lib.tabIs_of_head (g := 2) (t := 212) (e := 185) (by kernel_rfl) (by kernel_rfl) Tryd.underlying212 Tryd.underlying185 (by kernel_rfl) (by kernel_rfl) h.tail.tail
  have htl : tlOf cx.fns = ["internal/strconv.uint64pow10"] := by kernel_rfl
  have htab : Tabs Tryd.prog (tlOf cx.fns) (allC W) [] W := by
    refine Tabs.begin fun x hx hw g hg => ?_
    rw [htl] at hw
    simp only [tabs, List.mem_cons, List.not_mem_nil, or_false] at hx
    rcases hx with rfl | rfl
    · exact absurd hw (by decide)
    · exact ht2
  refine (law_calls cxOk (TySay_ok x0 w0) (z_cons Z0 z_end) htab).mono fun e W' ⟨he, bel⟩ => ?_
  subst he
  exact ⟨_, rfl, _, _, _, [], _, [], hW', trodAll_mk1 (shut_bool Tryd.underlying4 _), (trodAll_cons_mk (Below.trod laidOut (by kernel_rfl) (of_decide_eq_true (by kernel_rfl)) k0 bel lt0) trodAll_mk0), rfl, bel.frame _, fun h => by cases h⟩
theorem over : Rows.fnExactTySayRow.holds Tryd.pinned (OpenSpec.ofChange Rows.fnExactTySaySpec) :=
  OpenClaim.holds_of_cond 6 Tryd.f6 rfl rfl rfl rfl rfl rfl rfl ⟨rfl, rfl, rfl, rfl, rfl⟩ rfl rfl rfl rfl rfl (by kernel_rfl) Tryd.func6 (by kernel_rfl)
    (of_decide_eq_true (by kernel_rfl)) (by unfold Func.isWrapper; first | (rw [if_pos (by decide +kernel)]; kernel_rfl) | (rw [if_neg (by decide +kernel)]; exact ⟨rfl, rfl⟩))
    (fun os started H enc _ F0 => by rw [OpenClaim.pre_eq_preRow]; exact lifted os started H enc F0)
/-- THE CARD. -/
theorem proved : Rows.FnExactTySayCardSaid :=
  Claim7.holds_tied_plain_at .later [] [.data, .data, .data] true (true, "74022c0e58c510f360ab0ed3f26498549ef6230dbf1180892d4c1b418e8e6d4f") true
    over (fun _ h => by cases h) (by kernel_rfl) (fun _ h => by cases h) fnExactTySay_row_tie rfl ⟨rfl, rfl⟩ (by kernel_rfl) rfl
    (fun f fn hf hfn => by
      obtain rfl : f = 6 := Option.some.inj ((show Tryd.prog.funcNamed "loop.example/g00293/laws.FnExactTySay" = some 6 by kernel_rfl).symm.trans hf) |>.symm
      obtain rfl : fn = Tryd.f6 := (Option.some.inj (Tryd.func6.symm.trans hfn)).symm
      exact ⟨by kernel_rfl, fun j t ht => by
          rw [Tryd.params6] at ht
          rcases j with _ | j
          · obtain rfl : t = 61 := by simpa using ht.symm
            exact (show Tryd.prog.wantsStandIn 61 = false by kernel_rfl)
          simp at ht⟩)
    (by kernel_rfl)
#print axioms proved
end Go.Proofs.YtkgabahlbmonfaaDoor.fnExactTySay
namespace Go.Proofs.YtkgabahlbmonfaaDoor
/-- The card, under a short name, for the claim. -/
theorem fnExactTySayCard_holds : Rows.FnExactTySayCardSaid := fnExactTySay.proved
end Go.Proofs.YtkgabahlbmonfaaDoor
