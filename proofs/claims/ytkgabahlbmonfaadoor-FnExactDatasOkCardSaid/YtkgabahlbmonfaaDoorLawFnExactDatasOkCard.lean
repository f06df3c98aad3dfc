/-
  FnExactDatasOk is true, whatever its arguments are, and leaves them as they were.
-/
import Derived.Test.YtkgabahlbmonfaaDoorRows
import Derived.Test.YtkgabahlbmonfaaDoorPVc
import Derived.Test.YtkgabahlbmonfaaDoorEvRd
import Derived.WalkKit
import Derived.ProofKit
import Derived.OpenShut
import Derived.ShutString
import Derived.ChangeOld
import Derived.SizedLaws
import Derived.Carry
import Derived.Deep.DeepHandedRow
import Derived.JoinedCond
import Derived.Lib.LaidTab
import Derived.Lib.LaidU8
import Derived.Stop.LaidErr
import Derived.Deep.DeepWitnessRowRef
import Derived.Test.YtkgabahlbmonfaaDoorCards
import Derived.Test.YtkgabahlbmonfaaDoorTie
import Derived.SevenTiedAt
namespace Go.Ev.Q
open Go Go.Ev Go.RowKit Go.Proofs Go.Proofs.YtkgabahlbmonfaaDoor
set_option linter.unusedVariables false
theorem len2_ {cs : List Value} (h : cs.length = 2) : ∃ v0 v1, cs = [v0, v1] := by
  match cs, h with
  | [v0, v1], _ => exact ⟨v0, v1, rfl⟩
theorem len3_ {cs : List Value} (h : cs.length = 3) : ∃ v0 v1 v2, cs = [v0, v1, v2] := by
  match cs, h with
  | [v0, v1, v2], _ => exact ⟨v0, v1, v2, rfl⟩
theorem rd_Ty {H : Type} {enc : TypeId × Value → H} {w : World} {base : Nat} {spare : Nat → Bool} {held : Bool} : ∀ (n : Nat), ∀ cs y, DataW.trod enc Tryd.prog w base spare held n 61 cs = some y → ∃ t : Ty, RVs w (allC w) [] cs (LS.encs sh_Ty t.ts) ∧ t.ok := by
  intro n
  induction n using Nat.strongRecOn with
  | _ n ih =>
  intro cs y h
  obtain ⟨xs, m, rfl, _, hl, hlen, hf⟩ := DataW.trod_struct Tryd.underlying61 h
  obtain ⟨v0, v1, v2, rfl⟩ := len3_ (hl.trans (by kernel_rfl))
  obtain ⟨y0, h0⟩ := read_field hlen hf 0 _ rfl (t := 3) (off := 0) rfl rfl (s := 1) (by kernel_rfl)
  replace h0 : DataW.trod enc Tryd.prog w base spare held m 3 [v0] = some y0 := h0
  obtain ⟨x0, e0, q0⟩ := read_int Tryd.underlying3 h0
  obtain rfl := List.head_eq_of_cons_eq e0
  obtain ⟨y1, h1⟩ := read_field hlen hf 1 _ rfl (t := 3) (off := 1) rfl rfl (s := 1) (by kernel_rfl)
  replace h1 : DataW.trod enc Tryd.prog w base spare held m 3 [v1] = some y1 := h1
  obtain ⟨x1, e1, q1⟩ := read_int Tryd.underlying3 h1
  obtain rfl := List.head_eq_of_cons_eq e1
  obtain ⟨y2, h2⟩ := read_field hlen hf 2 _ rfl (t := 59) (off := 2) rfl rfl (s := 1) (by kernel_rfl)
  replace h2 : DataW.trod enc Tryd.prog w base spare held m 59 [v2] = some y2 := h2
  obtain ⟨u2, x2, e2, r2, l2, q2⟩ := rd_rows (sh := sh_Ty) rfl Ty.ts Tryd.underlying59 (by kernel_rfl) (by decide) (Q := Ty.ok) (fun j hj => (ih j (by omega))) h2
  obtain rfl := List.head_eq_of_cons_eq e2
  exact ⟨.mk x0 x1 x2, by rw [Ty.ts_mk]; exact (z_cons z_int (z_cons z_int (z_cons (z_d r2) z_end))), .mk (wf_in q0) (wf_in q1) l2 q2⟩
theorem rd_Con {H : Type} {enc : TypeId × Value → H} {w : World} {base : Nat} {spare : Nat → Bool} {held : Bool} : ∀ (n : Nat), ∀ cs y, DataW.trod enc Tryd.prog w base spare held n 165 cs = some y → ∃ t : Con1, RVs w (allC w) [] cs (LS.encs sh_Con t.ts) ∧ t.ok := by
  intro n
  induction n using Nat.strongRecOn with
  | _ n ih =>
  intro cs y h
  obtain ⟨xs, m, rfl, _, hl, hlen, hf⟩ := DataW.trod_struct Tryd.underlying165 h
  obtain ⟨v0, v1, rfl⟩ := len2_ (hl.trans (by kernel_rfl))
  obtain ⟨y0, h0⟩ := read_field hlen hf 0 _ rfl (t := 29) (off := 0) rfl rfl (s := 1) (by kernel_rfl)
  replace h0 : DataW.trod enc Tryd.prog w base spare held m 29 [v0] = some y0 := h0
  obtain ⟨u0, x0, e0, r0, l0, q0⟩ := rd_nums Tryd.underlying29 Tryd.underlying5 (by kernel_rfl) h0
  obtain rfl := List.head_eq_of_cons_eq e0
  obtain ⟨y1, h1⟩ := read_field hlen hf 1 _ rfl (t := 59) (off := 1) rfl rfl (s := 1) (by kernel_rfl)
  replace h1 : DataW.trod enc Tryd.prog w base spare held m 59 [v1] = some y1 := h1
  obtain ⟨u1, x1, e1, r1, l1, q1⟩ := rd_rows (sh := sh_Ty) rfl Ty.ts Tryd.underlying59 (by kernel_rfl) (by decide) (Q := Ty.ok) (fun j _ => rd_Ty j) h1
  obtain rfl := List.head_eq_of_cons_eq e1
  exact ⟨.mk x0 x1, by rw [Con1.ts_mk]; exact (z_cons (z_d r0) (z_cons (z_d r1) z_end)), .mk ⟨l0, wf_bytes q0⟩ l1 q1⟩
theorem rd_Data {H : Type} {enc : TypeId × Value → H} {w : World} {base : Nat} {spare : Nat → Bool} {held : Bool} : ∀ (n : Nat), ∀ cs y, DataW.trod enc Tryd.prog w base spare held n 76 cs = some y → ∃ t : Data, RVs w (allC w) [] cs (LS.encs sh_Data t.ts) ∧ t.ok := by
  intro n
  induction n using Nat.strongRecOn with
  | _ n ih =>
  intro cs y h
  obtain ⟨xs, m, rfl, _, hl, hlen, hf⟩ := DataW.trod_struct Tryd.underlying76 h
  obtain ⟨v0, v1, v2, rfl⟩ := len3_ (hl.trans (by kernel_rfl))
  obtain ⟨y0, h0⟩ := read_field hlen hf 0 _ rfl (t := 29) (off := 0) rfl rfl (s := 1) (by kernel_rfl)
  replace h0 : DataW.trod enc Tryd.prog w base spare held m 29 [v0] = some y0 := h0
  obtain ⟨u0, x0, e0, r0, l0, q0⟩ := rd_nums Tryd.underlying29 Tryd.underlying5 (by kernel_rfl) h0
  obtain rfl := List.head_eq_of_cons_eq e0
  obtain ⟨y1, h1⟩ := read_field hlen hf 1 _ rfl (t := 3) (off := 1) rfl rfl (s := 1) (by kernel_rfl)
  replace h1 : DataW.trod enc Tryd.prog w base spare held m 3 [v1] = some y1 := h1
  obtain ⟨x1, e1, q1⟩ := read_int Tryd.underlying3 h1
  obtain rfl := List.head_eq_of_cons_eq e1
  obtain ⟨y2, h2⟩ := read_field hlen hf 2 _ rfl (t := 74) (off := 2) rfl rfl (s := 1) (by kernel_rfl)
  replace h2 : DataW.trod enc Tryd.prog w base spare held m 74 [v2] = some y2 := h2
  obtain ⟨u2, x2, e2, r2, l2, q2⟩ := rd_rows (sh := sh_Con) rfl Con1.ts Tryd.underlying74 (by kernel_rfl) (by decide) (Q := Con1.ok) (fun j _ => rd_Con j) h2
  obtain rfl := List.head_eq_of_cons_eq e2
  exact ⟨.mk x0 x1 x2, by rw [Data.ts_mk]; exact (z_cons (z_d r0) (z_cons z_int (z_cons (z_d r2) z_end))), .mk ⟨l0, wf_bytes q0⟩ (wf_in q1) l2 q2⟩
end Go.Ev.Q
namespace Go.Proofs.YtkgabahlbmonfaaDoor.fnExactDatasOk
open Go Go.Ev Go.Ev.Q Go.ChangeShapes Go.WideShapes Go.ChangeAt Go.RowKit
open Go.ChangeMaps (open_string shut_string)
set_option linter.unusedVariables false
theorem own : ownKnob Tryd.prog.godebug = none := by kernel_rfl
theorem laidOut : laidOutB Tryd.prog = true := by kernel_rfl
/-- The settled world, the listed variables as they are laid: the witness. -/
noncomputable def laidWorld (os : Os) : World :=
  let N := (World.settled Tryd.prog os).heap.size
  let w0 := World.holding Tryd.prog os ⟨#[.cells (([9, 13, 1, 32, 133, 101, 160, 5760, 5600, 8192, 8202, 1, 8232, 8233, 1, 8239, 8287, 48, 12288, 12288, 1] : List Int).map fun z => Value.int .u16 z).toArray 227, .cells #[.slice (some ⟨N + 0, 0, none⟩) 7 7, .slice none 0 0, .int .i64 2] 224], #[], []⟩
  let put (h : Array Obj) (g : Nat) (cs : Array Value) : Array Obj := h.modify g fun
    | .cells _ t frozen => .cells cs t frozen
    | o => o
  { w0 with heap := (put (put w0.heap 1 #[.pointer (some ⟨N + 1, 0, none⟩)]) 0 (Lib.asciiSpaceTab.map fun z => Value.int .u8 z).toArray) }
theorem laid_met (os : Os) (args : Array Value) : laidMet Tryd.prog Rows.fnExactDatasOkRow.laid ((laidWorld os).forCall (fun _ _ => 0) ⟨#[], args, []⟩).memory :=
  laidMet_of_run' 8 (by kernel_rfl) (by kernel_rfl)
theorem witness_row (os : Os) {H : Type} (enc : TypeId × Value → H) :
    (OpenSpec.ofChange Rows.fnExactDatasOkSpec).preRow enc Tryd.prog Tryd.f3 Rows.fnExactDatasOkRow.domain false Rows.fnExactDatasOkRow.laid ((laidWorld os).forCall (fun _ _ => 0) ⟨#[], #[.slice none 0 0], []⟩).memory #[.slice none 0 0] := by
  have hw : (DataW.whole enc Tryd.prog ((laidWorld os).forCall (fun _ _ => 0) ⟨#[], #[.slice none 0 0], []⟩).memory Tryd.f3.params.toList (OpenSpec.ofChange Rows.fnExactDatasOkSpec).vars false (#[.slice none 0 0] : Array Value).toList 8).map (fun x => (x.1, x.2.1)) =
      some ([.nil], []) := by kernel_rfl
  obtain ⟨⟨x1, x2, x3⟩, hx, hx1⟩ := Option.map_eq_some_iff.1 hw
  simp only [Prod.mk.injEq] at hx1
  obtain ⟨rfl, rfl⟩ := hx1
  exact OpenSpec.preRow_of_cond 8 hx (by kernel_rfl) (fun k hk => by cases hk) (by kernel_rfl) (laid_met os _)
set_option maxRecDepth 100000 in
theorem lifted (os : Os) (started : os.Started) (H : Type) (enc : TypeId × Value → H) (F : Stop.Interp) :
    ReturnsInHanded {} Tryd.checked os 3 .any ((OpenSpec.ofChange Rows.fnExactDatasOkSpec).preRow enc Tryd.prog Tryd.f3 Rows.fnExactDatasOkRow.domain false Rows.fnExactDatasOkRow.laid) (((OpenSpec.ofChange Rows.fnExactDatasOkSpec).at F).post enc Tryd.prog Tryd.f3 false true false false) := by
  refine returnsInHanded_of_row (C := Tryd.checked) (s := OpenSpec.ofChange Rows.fnExactDatasOkSpec) own started (by kernel_rfl) Tryd.func3
    (witness_row_atRef (enc := enc) (C := Tryd.checked) false (laidWorld os) #[.slice none 0 0] rfl (by kernel_rfl) (by kernel_rfl) (by kernel_rfl) (witness_row os enc)) ?_
  intro W base args ds gs before hval0 hW hcnd _ hsz0 hL hsh _
  have hval : ∀ (j : Nat) t v, Tryd.f3.params[j]? = some t → args[j]? = some v → Value.okWide Tryd.prog W .any base t v := hval0
  have hW' := hW
  obtain ⟨p, q, hA0, hV, rfl, hfz, hnd⟩ := hW
  have hA : DataW.TrodAll enc Tryd.prog W 0 (fun _ => true) true Tryd.f3.params.toList args.toList ds p := hA0
  rw [Tryd.params3] at hA hval
  obtain ⟨v0, vs0, d0, ds0, p0, q0, hargs, rfl, rfl, h0, r0⟩ := trodAll_cons hA
  obtain ⟨rfl, rfl, rfl⟩ := trodAll_nil r0
  obtain rfl : args = #[v0] := by cases args; simp_all
  obtain ⟨rfl, rfl⟩ := trodVars_none hV
  obtain ⟨a0, len0, cap0, rfl⟩ := okWide_slice Tryd.underlying22 (hval 0 22 v0 rfl rfl)
  have k0 := h0
  have lt0 : ∀ x ∈ p0, x.block < W.heap.size := by obtain ⟨m, hm⟩ := k0; exact DataW.trod_lt m _ _ _ hm
  obtain ⟨fuel0, hf0⟩ := h0
  obtain ⟨u0, x0, e0, g0, l0, w0⟩ := rd_rows (sh := sh_Data) rfl Data.ts Tryd.underlying22 (by kernel_rfl) (by decide) (Q := Data.ok) (fun j _ => rd_Data j) hf0
  have e0' := List.head_eq_of_cons_eq e0
  rw [← e0'] at g0
  clear hA0 hval0 hsz0
  have hl1 : Rows.fnExactDatasOkRow.laid = [("unicode.White_Space", Rows.laid_unicode_White_Space), ("strings.asciiSpace", Lib.tabData .u8 Lib.asciiSpaceTab)] := by kernel_rfl
  have ht1 : Lib.TabIs Tryd.prog W "strings.asciiSpace" .u8 Lib.asciiSpaceTab := by
    have h : laidMet Tryd.prog Rows.fnExactDatasOkRow.laid W := hL
    rw [hl1] at h
    exact Lib.tabIs_of_head (g := 0) (t := 192) (e := 5) (by kernel_rfl) (by kernel_rfl) Tryd.underlying192 Tryd.underlying5 (by kernel_rfl) (by kernel_rfl) h.tail
  have htl : tlOf cx.fns = ["strings.asciiSpace"] := by kernel_rfl
  have htab : Tabs Tryd.prog (tlOf cx.fns) (allC W) [] W := by
    refine Tabs.begin fun x hx hw g hg => ?_
    rw [htl] at hw
    simp only [tabs, List.mem_cons, List.not_mem_nil, or_false] at hx
    rcases hx with rfl | rfl
    · exact ht1
    · exact absurd hw (by decide)
  refine (law_calls cxOk (DatasOk_ok x0 l0 w0) (z_cons (z_d g0) z_end) htab).mono fun e W' ⟨he, bel⟩ => ?_
  subst he
  exact ⟨_, rfl, _, _, _, [], _, [], hW', trodAll_mk1 (shut_bool Tryd.underlying4 _), (trodAll_cons_mk (Below.trod laidOut (by kernel_rfl) (of_decide_eq_true (by kernel_rfl)) k0 bel lt0) trodAll_mk0), rfl, bel.frame _, fun h => by cases h⟩
theorem over : Rows.fnExactDatasOkRow.holds Tryd.pinned (OpenSpec.ofChange Rows.fnExactDatasOkSpec) :=
  OpenClaim.holds_of_cond 3 Tryd.f3 rfl rfl rfl rfl rfl rfl rfl ⟨rfl, rfl, rfl, rfl, rfl⟩ rfl rfl rfl rfl rfl (by kernel_rfl) Tryd.func3 (by kernel_rfl)
    (of_decide_eq_true (by kernel_rfl)) (by unfold Func.isWrapper; first | (rw [if_pos (by decide +kernel)]; kernel_rfl) | (rw [if_neg (by decide +kernel)]; exact ⟨rfl, rfl⟩))
    (fun os started H enc _ F0 => by rw [OpenClaim.pre_eq_preRow]; exact lifted os started H enc F0)
/-- THE CARD. -/
theorem proved : Rows.FnExactDatasOkCardSaid :=
  Claim7.holds_tied_plain_at .later [] [.listed, .data] true (true, "74022c0e58c510f360ab0ed3f26498549ef6230dbf1180892d4c1b418e8e6d4f") true
    over (fun _ h => by cases h) (by kernel_rfl) (fun _ h => by cases h) fnExactDatasOk_row_tie rfl ⟨rfl, rfl⟩ (by kernel_rfl) rfl
    (fun f fn hf hfn => by
      obtain rfl : f = 3 := Option.some.inj ((show Tryd.prog.funcNamed "loop.example/g00293/laws.FnExactDatasOk" = some 3 by kernel_rfl).symm.trans hf) |>.symm
      obtain rfl : fn = Tryd.f3 := (Option.some.inj (Tryd.func3.symm.trans hfn)).symm
      exact ⟨by kernel_rfl, fun j t ht => by
          rw [Tryd.params3] at ht
          rcases j with _ | j
          · obtain rfl : t = 22 := by simpa using ht.symm
            exact (show Tryd.prog.wantsStandIn 22 = false by kernel_rfl)
          simp at ht⟩)
    (by kernel_rfl)
#print axioms proved
end Go.Proofs.YtkgabahlbmonfaaDoor.fnExactDatasOk
namespace Go.Proofs.YtkgabahlbmonfaaDoor
/-- The card, under a short name, for the claim. -/
theorem fnExactDatasOkCard_holds : Rows.FnExactDatasOkCardSaid := fnExactDatasOk.proved
end Go.Proofs.YtkgabahlbmonfaaDoor
