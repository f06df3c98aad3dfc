/- The program's BindsOk returns what the reference's BindsOk returns, at every row of binds, and leaves its argument. No condition. -/
import Derived.Test.YtmbacnnbpnlekaaE14
import Derived.Test.YtmbacnnbpnlekaaPDx0
import Derived.Test.YtmbacnnbpnlekaaPDx18
import Derived.Test.YtmbacnnbpnlekaaPDSFnExactBindsOk
namespace Go.Proofs.Ytmbacnnbpnlekaa.Pure
open Go Go.RowKit Go.Proofs.Ytmbacnnbpnlekaa.PD Go.Proofs.Ytmbacnnbpnlekaa.M Go.Proofs.Ytmbacnnbpnlekaa.E Go.Proofs.YtmbacnnbpnlekaaW.PrintWords Go.Proofs.YtmbacnnbpnlekaaW.PrintLast

theorem FnExactBindsOk : laws_FnExactBindsOk.Pure := by
  intro x hx
  rcases bindsStart x hx.1 hx.2 with ⟨r, e1, hr⟩ | ⟨r, y, e1, hr, e2, hl, hy, e5⟩
  · obtain ⟨K1, h1⟩ := Ev.use e1
    exact ⟨K1, by rw [laws_FnExactBindsOk.f, h1 _ (by omega), if_pos hr]⟩
  · obtain ⟨K1, h1⟩ := Ev.use e1
    obtain ⟨K2, h2⟩ := Ev.use e2
    obtain ⟨K3, h3⟩ := Ev.use (spec_BindsOk y)
    obtain ⟨K4, h4⟩ := Ev.use (impl_BindsOk y)
    obtain ⟨K5, h5⟩ := Ev.use e5
    refine ⟨K1 + K2 + K3 + K4 + K5, ?_⟩
    rw [laws_FnExactBindsOk.f, h1 _ (by omega), if_neg hr, h2 _ (by omega), h3 _ (by omega), h2 _ (by omega), h4 _ (by omega), bne_self_eq_false, if_neg (by decide), h2 _ (by omega), h5 _ (by omega), if_pos rfl]

end Go.Proofs.Ytmbacnnbpnlekaa.Pure
