/- What every statement of this seat asks of the program itself: laid out, its maps, its marks; each by the kernel, one by one. -/
import Derived.Test.YtgkcackpffimmaaRows
import Derived.WalkKit
import Derived.ProofKit
import Derived.OpenShut
import Derived.ShutString
import Derived.ChangeOld
import Derived.Below
set_option maxRecDepth 100000
namespace Go.Proofs.Ytgkcackpffimmaa
open Go.ChangeShapes Go.WideShapes Go.ChangeAt Go.RowKit
theorem own : ownKnob Try.prog.godebug = none := by kernel_rfl
theorem laidOut : laidOutB Try.prog = true := by kernel_rfl
theorem jMaps : mapsRowed Try.prog = true := by kernel_rfl
theorem jHeard : Try.prog.stopsHeard = true := by kernel_rfl
theorem jMay : Try.prog.mayEnter = true := by kernel_rfl
theorem jLift : Try.prog.liftsFinal = false := by kernel_rfl
theorem jMake : Try.prog.make = some Rows.configChecksRow.make := by kernel_rfl
theorem jPlain : Try.prog.plainKeys = Rows.configChecksRow.plainKeys := by kernel_rfl
end Go.Proofs.Ytgkcackpffimmaa
