/- append onto a row of bytes of one's own: what the old slice leads to is still read behind it. -/
import Derived.Maps.AppendAt
import Derived.Test.YtophpcadfljkgaaPAx0
namespace Go.Proofs.Ytophpcadfljkgaa.MK
open Go Go.RowKit Go.Proofs.YtophpcadfljkgaaW.PrintWords Go.Proofs.YtophpcadfljkgaaW.PrintLast Go.Proofs.YtophpcadfljkgaaW.PrintMore

theorem append_kept {P : Program} (w : World) (base : Nat) (t ty e : TypeId) (i : TypeInfo) (z : Value) (size bytes : Nat) (ht : P.underlying t = some (.slice e)) (hi : P.info? e = some i) (hz : i.zero = some z)
    (hsize : i.size = size) (hby : i.bytes = bytes) (hzs : z.cells.size = size) (hsz : 0 < size)
    (g n cap : Nat) (xs : List Value) (hown : w.ownsRow base e size (.slice (some ⟨g, 0, none⟩) n cap) n xs)
    (a : Addr) (m c : Nat) (news : List Value) (hl : news.length = m * size) (hnews : ∀ j u, news[j]? = some u → w.cell? (a.add j) = some u) (h1 : ∀ u ∈ news, u.oneCell' = true)
    (h63 : n + m ≤ maxLen) (hbytes : (n + m) * bytes ≤ 140737488355328) (hbase : base ≤ w.heap.size) {v' : Value} {w' : World}
    (hr : (Builtin.append_ #[t, t] ty #[.slice (some ⟨g, 0, none⟩) n cap, .slice (some a) m c]).run P w = .ok v' w') :
    ∀ j u, xs[j]? = some u → w'.cell? ((⟨g, 0, none⟩ : Addr).add j) = some u := by
  intro j u hj
  obtain ⟨v2, w2, hr2, hown2, _, _, _⟩ := run_append_own_at (P := P) w base t ty e i z size bytes ht hi hz hsize hby hzs hsz (.slice (some ⟨g, 0, none⟩) n cap) n xs hown a m c news hl hnews h1 h63 hbytes hbase
  rw [hr] at hr2
  injection hr2 with hv hw
  subst hv hw
  subst hsize
  subst hby
  have hsmall : n + m ≤ 9223372036854775807 := by simp only [maxLen] at h63; omega
  rcases hown.2 with ⟨h, _⟩ | ⟨g', cap', cur, hv, hbg, hg, hnc, hcm, hcs, htake⟩
  · cases h
  · injection hv with hv1 hv2 hv3
    injection hv1 with hv1
    injection hv1 with hv1
    subst hv1 hv3
    by_cases hroom : n + m ≤ cap
    · have hfit : n * i.size + news.length ≤ cur.size := by rw [hl, hcs, ← Nat.add_mul]; exact Nat.mul_le_mul_right _ hroom
      have hr3 := run_append_room (P := P) w t ty e i ht hi g n cap cur hg a m c news hl hnews h1 hroom hfit
      rw [hr] at hr3
      injection hr3 with hv _
      refine hown2.cells (g := g) (by rw [hv]; rfl) j u ?_
      rw [List.getElem?_append_left (List.getElem?_eq_some_iff.mp hj).1]
      exact hj
    · have holds : ∀ j u, xs[j]? = some u → w.cell? ((⟨g, 0, none⟩ : Addr).add j) = some u := hown.cells (g := g) rfl
      have hr3 := run_append_grow (P := P) w t ty e i z ht hi hz ⟨g, 0, none⟩ n cap xs hown.1 holds a m c news hl hnews (by omega) (by omega) (growslice_fits (by omega) hbytes)
      rw [hr] at hr3
      injection hr3 with _ hw
      rw [← holds j u hj, hw]
      have hlt : g < w.heap.size := by
        rcases Nat.lt_or_ge g w.heap.size with h | h
        · exact h
        · rw [Array.getElem?_eq_none h] at hg; cases hg
      exact World.cell?_of_block (by apply heap_alloc_old; rw [Addr.add_lit]; exact hlt)

variable {P : Program} {ops : Array Oper} {rest : List Oper} {o : Oper} {a : Act} {Q : Exit → Act → World → Prop}

theorem R_append_keep {w0 W : World} (base : Nat) (hgd : o.guard = none) (s x : Operand) (t e : TypeId) (z : Value) (bytes : Nat)
    (ho : o.op = .call { callee := .builtin .append, args := #[s, x], argTypes := #[t, t] })
    (ht : P.underlying t = some (.slice e)) (hinfo : (P.info? e).map (fun i => (i.zero, i.size, i.bytes)) = some (some z, 1, bytes)) (hz : z.cells.size = 1) (hb0 : 0 < bytes)
    (A : Option Addr) (n c : Nat) (xs : List Int) (p : Int) (ok : Nat → Prop) (hs : a.eval s = .slice A n c) (hx : a.eval x = .slice (some ⟨W.heap.size, 0, none⟩) 1 1) (hfresh : ∀ k, W.heap.size ≤ k → ok k)
    (HO : Kd.R (Kd.int .u8) e W base ok (.slice A n c) xs) (HB : Below base w0 W) (hbase : base ≤ W.heap.size) (hl : (xs.length + 1) * bytes ≤ 140737488355328)
    (h : ∀ v1 w1, Kd.R (Kd.int .u8) e w1 base ok v1 (xs ++ [p]) → Below base w0 w1 → W.grownBy w1 (Value.slice A n c).ownBlock → (v1.ownBlock = (Value.slice A n c).ownBlock ∨ ∃ b, v1.ownBlock = some b ∧ W.heap.size ≤ b) → Kd.C (Kd.int .u8) w1 A xs.length xs → wpList P ops Q rest (a.put o.dst v1) w1) :
    wpList P ops Q (o :: rest) a (W.alloc (.cells #[.int .u8 p] e)) := by
  have hC := (Kd.R_reads' HO).2.2
  have hnl := (Kd.R_reads' HO).1
  have hlt := Kd.R_lt HO
  obtain ⟨h0, inner, hown, hr⟩ := HO
  obtain ⟨i0, hi, hzz⟩ := Option.map_eq_some_iff.1 hinfo
  simp only [Prod.mk.injEq] at hzz
  obtain ⟨hz0, hz1, hz2⟩ := hzz
  have hlen : xs.length + 1 ≤ 140737488355328 := Nat.le_trans (Nat.le_mul_of_pos_right _ hb0) hl
  have hnews := World.news_of_block (cs := #[.int .u8 p]) (t := e) (fr := (0, 0)) (heap_alloc_new W (.cells #[.int .u8 p] e))
  refine wpList_plain hgd fun K hK => ?_
  obtain ⟨v1, w1, hrun, hown1, hg, _, hat⟩ := run_append_own_at (P := P) (W.alloc (.cells #[.int .u8 p] e)) base t o.type e i0 z 1 bytes ht hi hz0 hz1 hz2 hz (by decide) (.slice A n c) xs.length inner (hown.alloc _) ⟨W.heap.size, 0, none⟩ 1 1 [.int .u8 p] (by simp)
    (by simpa using hnews) (by simp [Value.oneCell']) (by simp only [maxLen]; omega) hl (by simp; omega)
  have hat' : v1.ownBlock = (Value.slice A n c).ownBlock ∨ ∃ b, v1.ownBlock = some b ∧ W.heap.size ≤ b := by
    rcases hat with hat | hat
    · exact .inl hat
    · exact .inr ⟨_, hat, by simp⟩
  have hg' := World.grownBy.trans (World.grownBy_alloc W (.cells #[.int .u8 p] e) (Value.slice A n c).ownBlock) hg
  have hR : Kd.R (Kd.int .u8) e w1 base ok v1 (xs ++ [p]) := Kd.R_appended (okp := fun _ => False) (cs := [.int .u8 p]) h0 hr rfl (fun _ hk => hk.elim) hfresh hown1 hg' hat'
  have hB : Below base w0 w1 := (HB.alloc hbase _).grown hg (by simp; omega) (own_base hown)
  have hkeep : Kd.C (Kd.int .u8) w1 A xs.length xs := by
    refine ⟨hC.1, hC.2.1, fun hpos => ?_⟩
    rcases hown.2 with ⟨hv, hn0⟩ | ⟨g, cap, cur, hv, hbg, hgg, hnc, hcm, hcs, htake⟩
    · omega
    · injection hv with hv1 hv2 hv3
      subst hv1 hv2 hv3
      have hk := append_kept (P := P) (W.alloc (.cells #[.int .u8 p] e)) base t o.type e i0 z 1 bytes ht hi hz0 hz1 hz2 hz (by decide) g _ _ inner (hown.alloc _) ⟨W.heap.size, 0, none⟩ 1 1 [.int .u8 p] (by simp)
        (by simpa using hnews) (by simp [Value.oneCell']) (by simp only [maxLen]; omega) hl (by simp; omega) hrun
      refine ⟨⟨g, 0, none⟩, rfl, fun j q hj => ?_⟩
      have hq := hr.2 j q hj
      have hq2 : (Kd.int .u8).K W q ((inner.drop (j * (Kd.int .u8).sz)).take (Kd.int .u8).sz) := (Kd.int .u8).K_of_M (base := base) (ok := fun k => ok k ∧ some k ≠ (Value.slice (some ⟨g, 0, none⟩) xs.length c).ownBlock) hq
      refine ⟨_, ?_, hq2, fun i u hu => ?_⟩
      · exact (Kd.int .u8).K_len hq2
      · rw [List.getElem?_take] at hu
        split at hu
        · rw [List.getElem?_drop] at hu
          exact hk _ _ hu
        · cases hu
  unfold Oper.wp execOp
  simp only [ho, resolve, invoke, builtin, Sem.run_bind, Sem.run_pure, Result.andThen_ok, List.map_toArray, List.map_cons, List.map_nil, hs, hx, hrun]
  exact hK _ _ (h v1 w1 hR hB hg' hat' hkeep)

end Go.Proofs.Ytophpcadfljkgaa.MK
