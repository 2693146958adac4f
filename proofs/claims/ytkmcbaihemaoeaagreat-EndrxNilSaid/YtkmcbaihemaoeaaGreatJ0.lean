/- What every statement of this seat asks of the program itself: laid out, its maps, its marks; each by the kernel, one by one. -/
import Derived.Test.YtkmcbaihemaoeaaGreatRows
import Derived.WalkKit
import Derived.ProofKit
import Derived.OpenShut
import Derived.ShutString
import Derived.ChangeOld
import Derived.Below
set_option maxRecDepth 100000
namespace Go.Proofs.YtkmcbaihemaoeaaGreat
open Go.ChangeShapes Go.WideShapes Go.ChangeAt Go.RowKit
theorem own : ownKnob Tryz.prog.godebug = none := by kernel_rfl
theorem laidOut : laidOutB Tryz.prog = true := by kernel_rfl
theorem jMaps : mapsRowed Tryz.prog = true := by kernel_rfl
theorem jHeard : Tryz.prog.stopsHeard = true := by kernel_rfl
theorem jMay : Tryz.prog.mayEnter = true := by kernel_rfl
theorem jLift : Tryz.prog.liftsFinal = false := by kernel_rfl
theorem jMake : Tryz.prog.make = some Rows.avswitchNilRow.make := by kernel_rfl
theorem jPlain : Tryz.prog.plainKeys = Rows.avswitchNilRow.plainKeys := by kernel_rfl
end Go.Proofs.YtkmcbaihemaoeaaGreat
