/-
  FnExactNodes is true, whatever its arguments are, and leaves them as they were.
-/
import Derived.Test.YtkgabahlbmonfaaDoorRows
import Derived.Test.YtkgabahlbmonfaaDoorPNd
import Derived.Test.YtkgabahlbmonfaaDoorEvRd
import Derived.WalkKit
import Derived.ProofKit
import Derived.OpenShut
import Derived.ShutString
import Derived.ChangeOld
import Derived.SizedLaws
import Derived.Carry
import Derived.Deep.DeepHandedRow
import Derived.JoinedCond
import Derived.Lib.LaidTab
import Derived.Lib.LaidU8
import Derived.Stop.LaidErr
import Derived.Deep.DeepWitnessRowRef
import Derived.Test.YtkgabahlbmonfaaDoorCards
import Derived.Test.YtkgabahlbmonfaaDoorTie
import Derived.SevenTiedAt
namespace Go.Ev.Q
open Go Go.Ev Go.RowKit Go.Proofs Go.Proofs.YtkgabahlbmonfaaDoor
set_option linter.unusedVariables false
theorem len7_ {cs : List Value} (h : cs.length = 7) : ∃ v0 v1 v2 v3 v4 v5 v6, cs = [v0, v1, v2, v3, v4, v5, v6] := by
  match cs, h with
  | [v0, v1, v2, v3, v4, v5, v6], _ => exact ⟨v0, v1, v2, v3, v4, v5, v6, rfl⟩
theorem len9_ {cs : List Value} (h : cs.length = 9) : ∃ v0 v1 v2 v3 v4 v5 v6 v7 v8, cs = [v0, v1, v2, v3, v4, v5, v6, v7, v8] := by
  match cs, h with
  | [v0, v1, v2, v3, v4, v5, v6, v7, v8], _ => exact ⟨v0, v1, v2, v3, v4, v5, v6, v7, v8, rfl⟩
theorem rd_Expr_Arm {H : Type} {enc : TypeId × Value → H} {w : World} {base : Nat} {spare : Nat → Bool} {held : Bool} : ∀ (n : Nat), (∀ cs y, DataW.trod enc Tryd.prog w base spare held n 33 cs = some y → ∃ t : Expr, RVs w (allC w) [] cs (LS.encs sh_Expr t.ts) ∧ t.ok) ∧ (∀ cs y, DataW.trod enc Tryd.prog w base spare held n 137 cs = some y → ∃ t : Arm, RVs w (allC w) [] cs (LS.encs sh_Arm t.ts) ∧ t.ok) := by
  intro n
  induction n using Nat.strongRecOn with
  | _ n ih =>
  refine ⟨?_, ?_⟩
  · intro cs y h
    obtain ⟨xs, m, rfl, _, hl, hlen, hf⟩ := DataW.trod_struct Tryd.underlying33 h
    obtain ⟨v0, v1, v2, v3, v4, v5, v6, rfl⟩ := len7_ (hl.trans (by kernel_rfl))
    obtain ⟨y0, h0⟩ := read_field hlen hf 0 _ rfl (t := 3) (off := 0) rfl rfl (s := 1) (by kernel_rfl)
    replace h0 : DataW.trod enc Tryd.prog w base spare held m 3 [v0] = some y0 := h0
    obtain ⟨x0, e0, q0⟩ := read_int Tryd.underlying3 h0
    obtain rfl := List.head_eq_of_cons_eq e0
    obtain ⟨y1, h1⟩ := read_field hlen hf 1 _ rfl (t := 3) (off := 1) rfl rfl (s := 1) (by kernel_rfl)
    replace h1 : DataW.trod enc Tryd.prog w base spare held m 3 [v1] = some y1 := h1
    obtain ⟨x1, e1, q1⟩ := read_int Tryd.underlying3 h1
    obtain rfl := List.head_eq_of_cons_eq e1
    obtain ⟨y2, h2⟩ := read_field hlen hf 2 _ rfl (t := 29) (off := 2) rfl rfl (s := 1) (by kernel_rfl)
    replace h2 : DataW.trod enc Tryd.prog w base spare held m 29 [v2] = some y2 := h2
    obtain ⟨u2, x2, e2, r2, l2, q2⟩ := rd_nums Tryd.underlying29 Tryd.underlying5 (by kernel_rfl) h2
    obtain rfl := List.head_eq_of_cons_eq e2
    obtain ⟨y3, h3⟩ := read_field hlen hf 3 _ rfl (t := 29) (off := 3) rfl rfl (s := 1) (by kernel_rfl)
    replace h3 : DataW.trod enc Tryd.prog w base spare held m 29 [v3] = some y3 := h3
    obtain ⟨u3, x3, e3, r3, l3, q3⟩ := rd_nums Tryd.underlying29 Tryd.underlying5 (by kernel_rfl) h3
    obtain rfl := List.head_eq_of_cons_eq e3
    obtain ⟨y4, h4⟩ := read_field hlen hf 4 _ rfl (t := 29) (off := 4) rfl rfl (s := 1) (by kernel_rfl)
    replace h4 : DataW.trod enc Tryd.prog w base spare held m 29 [v4] = some y4 := h4
    obtain ⟨u4, x4, e4, r4, l4, q4⟩ := rd_nums Tryd.underlying29 Tryd.underlying5 (by kernel_rfl) h4
    obtain rfl := List.head_eq_of_cons_eq e4
    obtain ⟨y5, h5⟩ := read_field hlen hf 5 _ rfl (t := 30) (off := 5) rfl rfl (s := 1) (by kernel_rfl)
    replace h5 : DataW.trod enc Tryd.prog w base spare held m 30 [v5] = some y5 := h5
    obtain ⟨u5, x5, e5, r5, l5, q5⟩ := rd_rows (sh := sh_Expr) rfl Expr.ts Tryd.underlying30 (by kernel_rfl) (by decide) (Q := Expr.ok) (fun j hj => (ih j (by omega)).1) h5
    obtain rfl := List.head_eq_of_cons_eq e5
    obtain ⟨y6, h6⟩ := read_field hlen hf 6 _ rfl (t := 31) (off := 6) rfl rfl (s := 1) (by kernel_rfl)
    replace h6 : DataW.trod enc Tryd.prog w base spare held m 31 [v6] = some y6 := h6
    obtain ⟨u6, x6, e6, r6, l6, q6⟩ := rd_rows (sh := sh_Arm) rfl Arm.ts Tryd.underlying31 (by kernel_rfl) (by decide) (Q := Arm.ok) (fun j hj => (ih j (by omega)).2) h6
    obtain rfl := List.head_eq_of_cons_eq e6
    exact ⟨.mk x0 x1 x2 x3 x4 x5 x6, by rw [Expr.ts_mk]; exact (z_cons z_int (z_cons z_int (z_cons (z_d r2) (z_cons (z_d r3) (z_cons (z_d r4) (z_cons (z_d r5) (z_cons (z_d r6) z_end))))))), .mk (wf_in q0) (wf_in q1) ⟨l2, wf_bytes q2⟩ ⟨l3, wf_bytes q3⟩ ⟨l4, wf_bytes q4⟩ l5 q5 l6 q6⟩
  · intro cs y h
    obtain ⟨xs, m, rfl, _, hl, hlen, hf⟩ := DataW.trod_struct Tryd.underlying137 h
    obtain ⟨v0, v1, v2, v3, v4, v5, v6, v7, v8, rfl⟩ := len9_ (hl.trans (by kernel_rfl))
    obtain ⟨y0, h0⟩ := read_field hlen hf 0 _ rfl (t := 29) (off := 0) rfl rfl (s := 1) (by kernel_rfl)
    replace h0 : DataW.trod enc Tryd.prog w base spare held m 29 [v0] = some y0 := h0
    obtain ⟨u0, x0, e0, r0, l0, q0⟩ := rd_nums Tryd.underlying29 Tryd.underlying5 (by kernel_rfl) h0
    obtain rfl := List.head_eq_of_cons_eq e0
    obtain ⟨y1, h1⟩ := read_field hlen hf 1 _ rfl (t := 135) (off := 1) rfl rfl (s := 1) (by kernel_rfl)
    replace h1 : DataW.trod enc Tryd.prog w base spare held m 135 [v1] = some y1 := h1
    obtain ⟨u1, x1, e1, r1, l1, q1⟩ := rd_rows (sh := [.sl 1]) rfl (fun b => (bytes b, ())) Tryd.underlying135 (by kernel_rfl) (by decide) (Q := textOk) (fun j _ cs y h => by
      obtain ⟨u, x, e, r, l, q⟩ := rd_nums Tryd.underlying29 Tryd.underlying5 (by kernel_rfl) h
      subst e
      exact ⟨x, z_cons (z_d r) z_end, l, wf_bytes q⟩) h1
    obtain rfl := List.head_eq_of_cons_eq e1
    obtain ⟨y2, h2⟩ := read_field hlen hf 2 _ rfl (t := 33) (off := 2) rfl rfl (s := 7) (by kernel_rfl)
    replace h2 : DataW.trod enc Tryd.prog w base spare held m 33 [v2, v3, v4, v5, v6, v7, v8] = some y2 := h2
    obtain ⟨x2, k2, q2⟩ := (ih m (by omega)).1 _ _ h2
    have p2_0 := z_un_cons k2
    have p2_1 := z_un_cons p2_0.2
    have p2_2 := z_un_cons p2_1.2
    have p2_3 := z_un_cons p2_2.2
    have p2_4 := z_un_cons p2_3.2
    have p2_5 := z_un_cons p2_4.2
    have p2_6 := z_un_cons p2_5.2
    exact ⟨.mk x0 x1 x2, by rw [Arm.ts_mk]; exact (z_cons (z_d r0) (z_cons (z_d r1) (z_cons p2_0.1 (z_cons p2_1.1 (z_cons p2_2.1 (z_cons p2_3.1 (z_cons p2_4.1 (z_cons p2_5.1 (z_cons p2_6.1 z_end))))))))), .mk ⟨l0, wf_bytes q0⟩ l1 q1 q2⟩
theorem rd_Expr {H : Type} {enc : TypeId × Value → H} {w : World} {base : Nat} {spare : Nat → Bool} {held : Bool} (n : Nat) : ∀ cs y, DataW.trod enc Tryd.prog w base spare held n 33 cs = some y → ∃ t : Expr, RVs w (allC w) [] cs (LS.encs sh_Expr t.ts) ∧ t.ok := (rd_Expr_Arm n).1
theorem rd_Arm {H : Type} {enc : TypeId × Value → H} {w : World} {base : Nat} {spare : Nat → Bool} {held : Bool} (n : Nat) : ∀ cs y, DataW.trod enc Tryd.prog w base spare held n 137 cs = some y → ∃ t : Arm, RVs w (allC w) [] cs (LS.encs sh_Arm t.ts) ∧ t.ok := (rd_Expr_Arm n).2
end Go.Ev.Q
namespace Go.Proofs.YtkgabahlbmonfaaDoor.fnExactNodes
open Go Go.Ev Go.Ev.Q Go.ChangeShapes Go.WideShapes Go.ChangeAt Go.RowKit
open Go.ChangeMaps (open_string shut_string)
set_option linter.unusedVariables false
theorem own : ownKnob Tryd.prog.godebug = none := by kernel_rfl
theorem laidOut : laidOutB Tryd.prog = true := by kernel_rfl
/-- The settled world, the listed variables as they are laid: the witness. -/
noncomputable def laidWorld (os : Os) : World :=
  let N := (World.settled Tryd.prog os).heap.size
  let w0 := World.holding Tryd.prog os ⟨#[.cells (([9, 13, 1, 32, 133, 101, 160, 5760, 5600, 8192, 8202, 1, 8232, 8233, 1, 8239, 8287, 48, 12288, 12288, 1] : List Int).map fun z => Value.int .u16 z).toArray 227, .cells #[.slice (some ⟨N + 0, 0, none⟩) 7 7, .slice none 0 0, .int .i64 2] 224], #[], []⟩
  let put (h : Array Obj) (g : Nat) (cs : Array Value) : Array Obj := h.modify g fun
    | .cells _ t frozen => .cells cs t frozen
    | o => o
  { w0 with heap := (put (put w0.heap 1 #[.pointer (some ⟨N + 1, 0, none⟩)]) 0 (Lib.asciiSpaceTab.map fun z => Value.int .u8 z).toArray) }
theorem laid_met (os : Os) (args : Array Value) : laidMet Tryd.prog Rows.fnExactNodesRow.laid ((laidWorld os).forCall (fun _ _ => 0) ⟨#[], args, []⟩).memory :=
  laidMet_of_run' 8 (by kernel_rfl) (by kernel_rfl)
theorem witness_row (os : Os) {H : Type} (enc : TypeId × Value → H) :
    (OpenSpec.ofChange Rows.fnExactNodesSpec).preRow enc Tryd.prog Tryd.f4 Rows.fnExactNodesRow.domain false Rows.fnExactNodesRow.laid ((laidWorld os).forCall (fun _ _ => 0) ⟨#[], #[.agg #[.int .i64 0, .int .i64 0, .slice none 0 0, .slice none 0 0, .slice none 0 0, .slice none 0 0, .slice none 0 0]], []⟩).memory #[.agg #[.int .i64 0, .int .i64 0, .slice none 0 0, .slice none 0 0, .slice none 0 0, .slice none 0 0, .slice none 0 0]] := by
  have hw : (DataW.whole enc Tryd.prog ((laidWorld os).forCall (fun _ _ => 0) ⟨#[], #[.agg #[.int .i64 0, .int .i64 0, .slice none 0 0, .slice none 0 0, .slice none 0 0, .slice none 0 0, .slice none 0 0]], []⟩).memory Tryd.f4.params.toList (OpenSpec.ofChange Rows.fnExactNodesSpec).vars false (#[.agg #[.int .i64 0, .int .i64 0, .slice none 0 0, .slice none 0 0, .slice none 0 0, .slice none 0 0, .slice none 0 0]] : Array Value).toList 8).map (fun x => (x.1, x.2.1)) =
      some ([.agg [.lit (.int .i64 0), .lit (.int .i64 0), .nil, .nil, .nil, .nil, .nil]], []) := by kernel_rfl
  obtain ⟨⟨x1, x2, x3⟩, hx, hx1⟩ := Option.map_eq_some_iff.1 hw
  simp only [Prod.mk.injEq] at hx1
  obtain ⟨rfl, rfl⟩ := hx1
  exact OpenSpec.preRow_of_cond 8 hx (by kernel_rfl) (fun k hk => by cases hk) (by kernel_rfl) (laid_met os _)
set_option maxRecDepth 100000 in
theorem lifted (os : Os) (started : os.Started) (H : Type) (enc : TypeId × Value → H) (F : Stop.Interp) :
    ReturnsInHanded {} Tryd.checked os 4 .any ((OpenSpec.ofChange Rows.fnExactNodesSpec).preRow enc Tryd.prog Tryd.f4 Rows.fnExactNodesRow.domain false Rows.fnExactNodesRow.laid) (((OpenSpec.ofChange Rows.fnExactNodesSpec).at F).post enc Tryd.prog Tryd.f4 false true false false) := by
  refine returnsInHanded_of_row (C := Tryd.checked) (s := OpenSpec.ofChange Rows.fnExactNodesSpec) own started (by kernel_rfl) Tryd.func4
    (witness_row_atRef (enc := enc) (C := Tryd.checked) false (laidWorld os) #[.agg #[.int .i64 0, .int .i64 0, .slice none 0 0, .slice none 0 0, .slice none 0 0, .slice none 0 0, .slice none 0 0]] rfl (by kernel_rfl) (by kernel_rfl) (by kernel_rfl) (witness_row os enc)) ?_
  intro W base args ds gs before hval0 hW hcnd _ hsz0 hL hsh _
  have hval : ∀ (j : Nat) t v, Tryd.f4.params[j]? = some t → args[j]? = some v → Value.okWide Tryd.prog W .any base t v := hval0
  have hW' := hW
  obtain ⟨p, q, hA0, hV, rfl, hfz, hnd⟩ := hW
  have hA : DataW.TrodAll enc Tryd.prog W 0 (fun _ => true) true Tryd.f4.params.toList args.toList ds p := hA0
  rw [Tryd.params4] at hA hval
  obtain ⟨v0, vs0, d0, ds0, p0, q0, hargs, rfl, rfl, h0, r0⟩ := trodAll_cons hA
  obtain ⟨rfl, rfl, rfl⟩ := trodAll_nil r0
  obtain rfl : args = #[v0] := by cases args; simp_all
  obtain ⟨rfl, rfl⟩ := trodVars_none hV
  obtain ⟨cs0, rfl, _⟩ := okWide_struct Tryd.underlying33 (hval 0 33 v0 rfl rfl)
  have k0 := h0
  have lt0 : ∀ x ∈ p0, x.block < W.heap.size := by obtain ⟨m, hm⟩ := k0; exact DataW.trod_lt m _ _ _ hm
  obtain ⟨fuel0, hf0⟩ := h0
  obtain ⟨x0, K0, w0⟩ := rd_Expr fuel0 cs0.toList _ hf0
  have Z0 : RV W (allC W) [] (.agg cs0) (.agg (LS.encs sh_Expr x0.ts)) := by unfold RV; exact ⟨cs0, rfl, K0⟩
  clear hA0 hval0 hsz0
  have hl1 : Rows.fnExactNodesRow.laid = [("unicode.White_Space", Rows.laid_unicode_White_Space), ("strings.asciiSpace", Lib.tabData .u8 Lib.asciiSpaceTab)] := by kernel_rfl
  have ht1 : Lib.TabIs Tryd.prog W "strings.asciiSpace" .u8 Lib.asciiSpaceTab := by
    have h : laidMet Tryd.prog Rows.fnExactNodesRow.laid W := hL
    rw [hl1] at h
    exact Lib.tabIs_of_head (g := 0) (t := 192) (e := 5) (by kernel_rfl) (by kernel_rfl) Tryd.underlying192 Tryd.underlying5 (by kernel_rfl) (by kernel_rfl) h.tail
  have htl : tlOf cx.fns = ["strings.asciiSpace"] := by kernel_rfl
  have htab : Tabs Tryd.prog (tlOf cx.fns) (allC W) [] W := by
    refine Tabs.begin fun x hx hw g hg => ?_
    rw [htl] at hw
    simp only [tabs, List.mem_cons, List.not_mem_nil, or_false] at hx
    rcases hx with rfl | rfl
    · exact ht1
    · exact absurd hw (by decide)
  refine (law_calls cxOk (Nodes_ok x0 w0) (z_cons Z0 z_end) htab).mono fun e W' ⟨he, bel⟩ => ?_
  subst he
  exact ⟨_, rfl, _, _, _, [], _, [], hW', trodAll_mk1 (shut_bool Tryd.underlying4 _), (trodAll_cons_mk (Below.trod laidOut (by kernel_rfl) (of_decide_eq_true (by kernel_rfl)) k0 bel lt0) trodAll_mk0), rfl, bel.frame _, fun h => by cases h⟩
theorem over : Rows.fnExactNodesRow.holds Tryd.pinned (OpenSpec.ofChange Rows.fnExactNodesSpec) :=
  OpenClaim.holds_of_cond 4 Tryd.f4 rfl rfl rfl rfl rfl rfl rfl ⟨rfl, rfl, rfl, rfl, rfl⟩ rfl rfl rfl rfl rfl (by kernel_rfl) Tryd.func4 (by kernel_rfl)
    (of_decide_eq_true (by kernel_rfl)) (by unfold Func.isWrapper; first | (rw [if_pos (by decide +kernel)]; kernel_rfl) | (rw [if_neg (by decide +kernel)]; exact ⟨rfl, rfl⟩))
    (fun os started H enc _ F0 => by rw [OpenClaim.pre_eq_preRow]; exact lifted os started H enc F0)
/-- THE CARD. -/
theorem proved : Rows.FnExactNodesCardSaid :=
  Claim7.holds_tied_plain_at .later [] [.listed, .data] true (true, "74022c0e58c510f360ab0ed3f26498549ef6230dbf1180892d4c1b418e8e6d4f") true
    over (fun _ h => by cases h) (by kernel_rfl) (fun _ h => by cases h) fnExactNodes_row_tie rfl ⟨rfl, rfl⟩ (by kernel_rfl) rfl
    (fun f fn hf hfn => by
      obtain rfl : f = 4 := Option.some.inj ((show Tryd.prog.funcNamed "loop.example/g00293/laws.FnExactNodes" = some 4 by kernel_rfl).symm.trans hf) |>.symm
      obtain rfl : fn = Tryd.f4 := (Option.some.inj (Tryd.func4.symm.trans hfn)).symm
      exact ⟨by kernel_rfl, fun j t ht => by
          rw [Tryd.params4] at ht
          rcases j with _ | j
          · obtain rfl : t = 33 := by simpa using ht.symm
            exact (show Tryd.prog.wantsStandIn 33 = false by kernel_rfl)
          simp at ht⟩)
    (by kernel_rfl)
#print axioms proved
end Go.Proofs.YtkgabahlbmonfaaDoor.fnExactNodes
namespace Go.Proofs.YtkgabahlbmonfaaDoor
/-- The card, under a short name, for the claim. -/
theorem fnExactNodesCard_holds : Rows.FnExactNodesCardSaid := fnExactNodes.proved
end Go.Proofs.YtkgabahlbmonfaaDoor
