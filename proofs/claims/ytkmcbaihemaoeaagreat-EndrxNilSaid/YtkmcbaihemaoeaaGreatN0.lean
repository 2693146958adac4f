/- What a call answers of itself, it answers whatever else there is. -/
import Derived.Test.YtkmcbaihemaoeaaGreatT50
import Derived.Test.YtkmcbaihemaoeaaGreatD2
set_option linter.unusedVariables false
set_option linter.unusedSimpArgs false
namespace Go.Proofs.YtkmcbaihemaoeaaGreat
open Go.TM
theorem TPure.any {P : Program} {f : FuncId} {v : TV} (h : TPure P f [] [] v) (hv : ∀ (g : G) (σ : TS) (g' : G) (σ' : TS) (u : Value), VR g σ v u → VR g' σ' v u) (σ : TS) : TPure P f [] σ v :=
  ⟨h.1, fun g w va hw hva => (h.2 (g0 w) w va (g0_WR w) (by simpa only [VRL] using hva)).mono fun e w' ⟨u, tv, s, g', h1, h2, h3, h4, h5, h6⟩ => by
    subst h5 h6
    have hb := h3.below
    rw [h2.w0] at hb
    exact ⟨u, _, σ, g, h1, Ext.refl _ _, hw.grow hb, hv _ _ _ _ _ h4, rfl, rfl⟩⟩
theorem TPure.any_bool {P : Program} {f : FuncId} {b : Bool} (h : TPure P f [] [] (.bool b)) (σ : TS) : TPure P f [] σ (.bool b) := TPure.any h (fun _ _ _ _ _ q => by simpa only [VR] using q) σ
end Go.Proofs.YtkmcbaihemaoeaaGreat
