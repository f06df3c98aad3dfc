/- The program's InsOk returns what the reference's InsOk returns, at every instruction, and leaves its argument. No condition. -/
import Derived.Test.YtmbacnnbpnlekaaE6
import Derived.Test.YtmbacnnbpnlekaaPAx0
import Derived.Test.YtmbacnnbpnlekaaPAx1
import Derived.Test.YtmbacnnbpnlekaaPAx2
import Derived.Test.YtmbacnnbpnlekaaPAx3
import Derived.Test.YtmbacnnbpnlekaaPAx10
import Derived.Test.YtmbacnnbpnlekaaPAx24
import Derived.Test.YtmbacnnbpnlekaaPAx25
import Derived.Test.YtmbacnnbpnlekaaPASFnExactInsOk
namespace Go.Proofs.Ytmbacnnbpnlekaa.Pure
open Go Go.RowKit Go.Proofs.Ytmbacnnbpnlekaa.PA Go.Proofs.Ytmbacnnbpnlekaa.M Go.Proofs.Ytmbacnnbpnlekaa.E Go.Proofs.YtmbacnnbpnlekaaW.PrintWords Go.Proofs.YtmbacnnbpnlekaaW.PrintLast

theorem FnExactInsOk : laws_FnExactInsOk.Pure := by
  intro x hx
  obtain ⟨_, _, _, ⟨h3, _⟩, h4, _⟩ := hx
  simp only [maxLen] at h3 h4
  by_cases c3 : (x.f3.length : Int) ≤ 1048576
  · by_cases c4 : (x.f3.length : Int) + x.f4.length ≤ 1048576
    · have e1 : laws_szIns.f x.f0 x.f1 x.f2 x.f3 x.f4 1048576 = some (1048576 - (x.f3.length : Int) - (x.f4.length : Int)) := by
        rw [laws_szIns.f, laws_szByteS.f, w64 (n := 1048576 - (x.f3.length : Int)) (by omega) (by omega), if_neg (by omega), Option.bind_some, if_neg (by omega), laws_szIntS.f, w64 (n := 1048576 - (x.f3.length : Int) - x.f4.length) (by omega) (by omega), if_neg (by omega), Option.bind_some, if_neg (by omega)]
      have h3 : x.f3.length ≤ 281474976710656 := by omega
      have h4 : x.f4.length ≤ 281474976710656 := by omega
      obtain ⟨K1, t1⟩ := toByteS h3
      obtain ⟨K2, t2⟩ := toIntS (l := x.f4) (by omega)
      obtain ⟨K3, t3⟩ := eqByteS (a := x.f3) (b := x.f3) h3
      obtain ⟨K4, t4⟩ := eqIntS h4
      obtain ⟨K5, t5⟩ := impl_InsOk x.f0 x.f1 x.f2 x.f3 x.f4 h3 h4
      obtain ⟨K6, t6⟩ := spec_InsOk x.f0 x.f1 x.f2 x.f3 x.f4 h3 h4
      refine ⟨K1 + K2 + K3 + K4 + K5 + K6, ?_⟩
      have u1 := t1 (K1 + K2 + K3 + K4 + K5 + K6) (by omega)
      have u2 := t2 (K1 + K2 + K3 + K4 + K5 + K6) (by omega)
      have u3 := t3 (K1 + K2 + K3 + K4 + K5 + K6) (by omega)
      have u4 := t4 (K1 + K2 + K3 + K4 + K5 + K6) (by omega)
      have u5 := t5 (K1 + K2 + K3 + K4 + K5 + K6) (by omega)
      have u6 := t6 (K1 + K2 + K3 + K4 + K5 + K6) (by omega)
      dsimp only at u1 u2 u3 u4 u5 u6
      have v : laws_toIns.f (K1 + K2 + K3 + K4 + K5 + K6) x.f0 x.f1 x.f2 x.f3 x.f4 = some (x.f0, x.f1, x.f2, x.f3, x.f4) := by rw [laws_toIns.f, u1, Option.bind_some, u2, Option.bind_some]
      have v2 : laws_eqIns.f (K1 + K2 + K3 + K4 + K5 + K6) x.f0 x.f1 x.f2 x.f3 x.f4 x.f0 x.f1 x.f2 x.f3 x.f4 = some true := by
        rw [laws_eqIns.f, if_pos rfl, if_pos rfl, if_pos rfl, u3, decide_eq_true rfl, Option.bind_some, if_pos rfl, u4, Option.bind_some, if_pos rfl]
      rw [laws_FnExactInsOk.f, e1, Option.bind_some, if_neg (by omega), v, Option.bind_some, u6, Option.bind_some, Option.bind_some, u5, Option.bind_some, bne_self_eq_false, if_neg (by decide), Option.bind_some, v2, Option.bind_some, if_pos rfl]
    · refine ⟨0, ?_⟩
      rw [laws_FnExactInsOk.f, laws_szIns.f, laws_szByteS.f, w64 (n := 1048576 - (x.f3.length : Int)) (by omega) (by omega), if_neg (by omega), Option.bind_some, if_neg (by omega), laws_szIntS.f, w64 (n := 1048576 - (x.f3.length : Int) - x.f4.length) (by omega) (by omega), if_pos (by omega)]
      rfl
  · refine ⟨0, ?_⟩
    rw [laws_FnExactInsOk.f, laws_szIns.f, laws_szByteS.f, w64 (n := 1048576 - (x.f3.length : Int)) (by omega) (by omega), if_pos (by omega)]
    rfl

end Go.Proofs.Ytmbacnnbpnlekaa.Pure
