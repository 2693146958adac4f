/-
  No cell of these rows narrows 'for every input' (looked for: loops, veiled, ifaces, maps, wideKeys, modest, calm, conditions, laid).
  DERIVED. THE GIVEN ROWS OF THIS SEAT. 6 by the template 'for every input the law returns true; each argument reads behind the call as it read before'; 0 by the template 'total and deterministic' (their statements: YtbhhmnfjjnnkiaaGreatTotals.lean).
  GIVEN WITH THE SEED: the statements are not yours to turn. If you find one false, say at which input.
  Laid BY PROGRAM, IN A SANDBOX (cutbox-rows.mjs): the forced cells as the released guide's own fill.sh prints them over the translation ed1b460a2af674e0… (all of the seat's roots in one cut). By AI agents, Wed Nov 11 2026. No macro, syntax, notation, axiom, sorry.
-/
import Derived.Test.YtbhhmnfjjnnkiaaGreatChecked
import GoSem.Claim
import GoSem.ClaimJoined
import GoSem.ClaimMapViews
import Derived.JoinedTies
import Derived.KernelRfl
namespace Go.Proofs.YtbhhmnfjjnnkiaaGreat
/- THE CELL 'sum', in the pinned program and in every row, IS THE sha256 OF THE DUMP (.gsa) THAT YtbhhmnfjjnnkiaaGreatProg.lean LOADS. Nothing in Lean hashes anything: it is a label: what it is worth is what the hold of that sum in a sandbox is worth. -/
noncomputable def Tryz.pinned : Pinned := { name := "ytbhhmnfjjnnkiaagreat", sum := "ed1b460a2af674e0eabc49d97742b4776399ebf2f9274118fbabd32d52a075f9", checked := Tryz.checked }
namespace Rows
def none {H : Type} : Left H := { results := [], args := [] }

/-- 'pitotlaw23.KernelWindows': WHATEVER THE INPUT: true; the input reads as it did. -/
def kernelWindowsSpec : ChangeSpec := { name := "kernelWindows", fn := fun _ => fun
  | [d1, d2, d3] => { results := [.lit (.bool true)], args := [d1, d2, d3] }
  | _ => none }
def kernelWindowsRow : OpenClaim := { program := "ytbhhmnfjjnnkiaagreat", sum := "ed1b460a2af674e0eabc49d97742b4776399ebf2f9274118fbabd32d52a075f9", func := "pitot/pitotlaw23.KernelWindows", spec := "kernelWindows", inPlace := ["internal/abi.NoEscape", "internal/bytealg.MakeNoZero"], unfollowed := true, recurses := true, plainKeys := false, apart := false }
def KernelWindowsSaid : Prop := kernelWindowsRow.holds Tryz.pinned (OpenSpec.ofChange kernelWindowsSpec)

/-- ITS FALSE NEIGHBOUR: 'it returns false'. Refute it at one input. -/
def kernelWindowsWrong : ChangeSpec := { name := "kernelWindows", fn := fun _ => fun
  | [d1, d2, d3] => { results := [.lit (.bool false)], args := [d1, d2, d3] }
  | _ => none }
def KernelWindowsWrongFalsely : Prop := kernelWindowsRow.holds Tryz.pinned (OpenSpec.ofChange kernelWindowsWrong)

/-- 'pitotlaw23.KernelFrame': WHATEVER THE INPUT: true; the input reads as it did. -/
def kernelFrameSpec : ChangeSpec := { name := "kernelFrame", fn := fun _ => fun
  | [d1, d2] => { results := [.lit (.bool true)], args := [d1, d2] }
  | _ => none }
def kernelFrameRow : OpenClaim := { program := "ytbhhmnfjjnnkiaagreat", sum := "ed1b460a2af674e0eabc49d97742b4776399ebf2f9274118fbabd32d52a075f9", func := "pitot/pitotlaw23.KernelFrame", spec := "kernelFrame", inPlace := ["internal/abi.NoEscape", "internal/bytealg.MakeNoZero"], unfollowed := true, recurses := true, plainKeys := false, apart := false }
def KernelFrameSaid : Prop := kernelFrameRow.holds Tryz.pinned (OpenSpec.ofChange kernelFrameSpec)

/-- ITS FALSE NEIGHBOUR: 'it returns false'. Refute it at one input. -/
def kernelFrameWrong : ChangeSpec := { name := "kernelFrame", fn := fun _ => fun
  | [d1, d2] => { results := [.lit (.bool false)], args := [d1, d2] }
  | _ => none }
def KernelFrameWrongFalsely : Prop := kernelFrameRow.holds Tryz.pinned (OpenSpec.ofChange kernelFrameWrong)

/-- 'pitotlaw23.KernelQuiet': WHATEVER THE INPUT: true; the input reads as it did. -/
def kernelQuietSpec : ChangeSpec := { name := "kernelQuiet", fn := fun _ => fun
  | [d1, d2, d3] => { results := [.lit (.bool true)], args := [d1, d2, d3] }
  | _ => none }
def kernelQuietRow : OpenClaim := { program := "ytbhhmnfjjnnkiaagreat", sum := "ed1b460a2af674e0eabc49d97742b4776399ebf2f9274118fbabd32d52a075f9", func := "pitot/pitotlaw23.KernelQuiet", spec := "kernelQuiet", inPlace := ["internal/abi.NoEscape", "internal/bytealg.MakeNoZero"], unfollowed := true, recurses := true, plainKeys := false, apart := false }
def KernelQuietSaid : Prop := kernelQuietRow.holds Tryz.pinned (OpenSpec.ofChange kernelQuietSpec)

/-- ITS FALSE NEIGHBOUR: 'it returns false'. Refute it at one input. -/
def kernelQuietWrong : ChangeSpec := { name := "kernelQuiet", fn := fun _ => fun
  | [d1, d2, d3] => { results := [.lit (.bool false)], args := [d1, d2, d3] }
  | _ => none }
def KernelQuietWrongFalsely : Prop := kernelQuietRow.holds Tryz.pinned (OpenSpec.ofChange kernelQuietWrong)

/-- 'pitotlaw23.KernelSpace': WHATEVER THE INPUT: true; the input reads as it did. -/
def kernelSpaceSpec : ChangeSpec := { name := "kernelSpace", fn := fun _ => fun
  | [d1, d2, d3] => { results := [.lit (.bool true)], args := [d1, d2, d3] }
  | _ => none }
def kernelSpaceRow : OpenClaim := { program := "ytbhhmnfjjnnkiaagreat", sum := "ed1b460a2af674e0eabc49d97742b4776399ebf2f9274118fbabd32d52a075f9", func := "pitot/pitotlaw23.KernelSpace", spec := "kernelSpace", inPlace := ["internal/abi.NoEscape", "internal/bytealg.MakeNoZero"], unfollowed := true, recurses := true, plainKeys := false, apart := false }
def KernelSpaceSaid : Prop := kernelSpaceRow.holds Tryz.pinned (OpenSpec.ofChange kernelSpaceSpec)

/-- ITS FALSE NEIGHBOUR: 'it returns false'. Refute it at one input. -/
def kernelSpaceWrong : ChangeSpec := { name := "kernelSpace", fn := fun _ => fun
  | [d1, d2, d3] => { results := [.lit (.bool false)], args := [d1, d2, d3] }
  | _ => none }
def KernelSpaceWrongFalsely : Prop := kernelSpaceRow.holds Tryz.pinned (OpenSpec.ofChange kernelSpaceWrong)

/-- 'pitotlaw23.KernelTime': WHATEVER THE INPUT: true; the input reads as it did. -/
def kernelTimeSpec : ChangeSpec := { name := "kernelTime", fn := fun _ => fun
  | [d1, d2, d3] => { results := [.lit (.bool true)], args := [d1, d2, d3] }
  | _ => none }
def kernelTimeRow : OpenClaim := { program := "ytbhhmnfjjnnkiaagreat", sum := "ed1b460a2af674e0eabc49d97742b4776399ebf2f9274118fbabd32d52a075f9", func := "pitot/pitotlaw23.KernelTime", spec := "kernelTime", inPlace := ["internal/abi.NoEscape", "internal/bytealg.MakeNoZero"], unfollowed := true, recurses := true, plainKeys := false, apart := false }
def KernelTimeSaid : Prop := kernelTimeRow.holds Tryz.pinned (OpenSpec.ofChange kernelTimeSpec)

/-- ITS FALSE NEIGHBOUR: 'it returns false'. Refute it at one input. -/
def kernelTimeWrong : ChangeSpec := { name := "kernelTime", fn := fun _ => fun
  | [d1, d2, d3] => { results := [.lit (.bool false)], args := [d1, d2, d3] }
  | _ => none }
def KernelTimeWrongFalsely : Prop := kernelTimeRow.holds Tryz.pinned (OpenSpec.ofChange kernelTimeWrong)

/-- 'pitotlaw23.KernelNil': WHATEVER THE INPUT: true; the input reads as it did. -/
def kernelNilSpec : ChangeSpec := { name := "kernelNil", fn := fun _ => fun
  | [d1, d2, d3] => { results := [.lit (.bool true)], args := [d1, d2, d3] }
  | _ => none }
def kernelNilRow : OpenClaim := { program := "ytbhhmnfjjnnkiaagreat", sum := "ed1b460a2af674e0eabc49d97742b4776399ebf2f9274118fbabd32d52a075f9", func := "pitot/pitotlaw23.KernelNil", spec := "kernelNil", inPlace := ["internal/abi.NoEscape", "internal/bytealg.MakeNoZero"], unfollowed := true, recurses := true, plainKeys := false, apart := false }
def KernelNilSaid : Prop := kernelNilRow.holds Tryz.pinned (OpenSpec.ofChange kernelNilSpec)

/-- ITS FALSE NEIGHBOUR: 'it returns false'. Refute it at one input. -/
def kernelNilWrong : ChangeSpec := { name := "kernelNil", fn := fun _ => fun
  | [d1, d2, d3] => { results := [.lit (.bool false)], args := [d1, d2, d3] }
  | _ => none }
def KernelNilWrongFalsely : Prop := kernelNilRow.holds Tryz.pinned (OpenSpec.ofChange kernelNilWrong)

/- THE SECOND FORM. 'bulk': how many values and letters a reading holds, each counted each time it is reached (what is shared counts as often as it is met; a slice's spare places count too). A statement '..UptoSaid' is the law's where the arguments, and the package variables that the reading takes, are together of bulk at most 1048576: NARROWER than '..Said'. Prove '..Said' where nothing that the law and all that it calls make is longer than what came in: it says more and counts as full. Else prove '..UptoSaid'. A law counts once. -/
mutual
def uptoBulk {H : Type} : DataW H → Nat
  | .lit (.string bytes) => bytes.length + 1
  | .lit _ => 1
  | .nil => 1
  | .ptr d => uptoBulk d + 1
  | .slice elems spare => uptoBulkAll elems + uptoBulkAll spare + 1
  | .agg parts => uptoBulkAll parts + 1
  | .iface _ d => uptoBulk d + 1
  | .map entries => uptoBulkEntries entries + 1
  | .held _ => 1
def uptoBulkAll {H : Type} : List (DataW H) → Nat
  | [] => 0
  | d :: r => uptoBulk d + uptoBulkAll r
def uptoBulkEntries {H : Type} : List (Lit × DataW H) → Nat
  | [] => 0
  | x :: r => uptoBulkEntry x + uptoBulkEntries r
def uptoBulkEntry {H : Type} : Lit × DataW H → Nat
  | (.string bytes, d) => bytes.length + uptoBulk d + 1
  | (_, d) => uptoBulk d + 1
 end
def uptoSmall : (H : Type) → List (DataW H) → Bool := fun _ ds => decide (uptoBulkAll ds ≤ 1048576)
def OpenSpec.upto (s : _root_.Go.ChangeSpec) : _root_.Go.OpenSpec := { _root_.Go.OpenSpec.ofChange s with cond := some uptoSmall }

/-- 'pitotlaw23.KernelWindows', WHERE WHAT IT READS IS OF BULK AT MOST 1048576: true; the input reads as it did. -/
def kernelWindowsUptoRow : OpenClaim := { program := "ytbhhmnfjjnnkiaagreat", sum := "ed1b460a2af674e0eabc49d97742b4776399ebf2f9274118fbabd32d52a075f9", func := "pitot/pitotlaw23.KernelWindows", spec := "kernelWindows", inPlace := ["internal/abi.NoEscape", "internal/bytealg.MakeNoZero"], unfollowed := true, recurses := true, plainKeys := false, apart := false, narrowed := true }
def KernelWindowsUptoSaid : Prop := kernelWindowsUptoRow.holds Tryz.pinned (OpenSpec.upto kernelWindowsSpec)

/-- 'pitotlaw23.KernelFrame', WHERE WHAT IT READS IS OF BULK AT MOST 1048576: true; the input reads as it did. -/
def kernelFrameUptoRow : OpenClaim := { program := "ytbhhmnfjjnnkiaagreat", sum := "ed1b460a2af674e0eabc49d97742b4776399ebf2f9274118fbabd32d52a075f9", func := "pitot/pitotlaw23.KernelFrame", spec := "kernelFrame", inPlace := ["internal/abi.NoEscape", "internal/bytealg.MakeNoZero"], unfollowed := true, recurses := true, plainKeys := false, apart := false, narrowed := true }
def KernelFrameUptoSaid : Prop := kernelFrameUptoRow.holds Tryz.pinned (OpenSpec.upto kernelFrameSpec)

/-- 'pitotlaw23.KernelQuiet', WHERE WHAT IT READS IS OF BULK AT MOST 1048576: true; the input reads as it did. -/
def kernelQuietUptoRow : OpenClaim := { program := "ytbhhmnfjjnnkiaagreat", sum := "ed1b460a2af674e0eabc49d97742b4776399ebf2f9274118fbabd32d52a075f9", func := "pitot/pitotlaw23.KernelQuiet", spec := "kernelQuiet", inPlace := ["internal/abi.NoEscape", "internal/bytealg.MakeNoZero"], unfollowed := true, recurses := true, plainKeys := false, apart := false, narrowed := true }
def KernelQuietUptoSaid : Prop := kernelQuietUptoRow.holds Tryz.pinned (OpenSpec.upto kernelQuietSpec)

/-- 'pitotlaw23.KernelSpace', WHERE WHAT IT READS IS OF BULK AT MOST 1048576: true; the input reads as it did. -/
def kernelSpaceUptoRow : OpenClaim := { program := "ytbhhmnfjjnnkiaagreat", sum := "ed1b460a2af674e0eabc49d97742b4776399ebf2f9274118fbabd32d52a075f9", func := "pitot/pitotlaw23.KernelSpace", spec := "kernelSpace", inPlace := ["internal/abi.NoEscape", "internal/bytealg.MakeNoZero"], unfollowed := true, recurses := true, plainKeys := false, apart := false, narrowed := true }
def KernelSpaceUptoSaid : Prop := kernelSpaceUptoRow.holds Tryz.pinned (OpenSpec.upto kernelSpaceSpec)

/-- 'pitotlaw23.KernelTime', WHERE WHAT IT READS IS OF BULK AT MOST 1048576: true; the input reads as it did. -/
def kernelTimeUptoRow : OpenClaim := { program := "ytbhhmnfjjnnkiaagreat", sum := "ed1b460a2af674e0eabc49d97742b4776399ebf2f9274118fbabd32d52a075f9", func := "pitot/pitotlaw23.KernelTime", spec := "kernelTime", inPlace := ["internal/abi.NoEscape", "internal/bytealg.MakeNoZero"], unfollowed := true, recurses := true, plainKeys := false, apart := false, narrowed := true }
def KernelTimeUptoSaid : Prop := kernelTimeUptoRow.holds Tryz.pinned (OpenSpec.upto kernelTimeSpec)

/-- 'pitotlaw23.KernelNil', WHERE WHAT IT READS IS OF BULK AT MOST 1048576: true; the input reads as it did. -/
def kernelNilUptoRow : OpenClaim := { program := "ytbhhmnfjjnnkiaagreat", sum := "ed1b460a2af674e0eabc49d97742b4776399ebf2f9274118fbabd32d52a075f9", func := "pitot/pitotlaw23.KernelNil", spec := "kernelNil", inPlace := ["internal/abi.NoEscape", "internal/bytealg.MakeNoZero"], unfollowed := true, recurses := true, plainKeys := false, apart := false, narrowed := true }
def KernelNilUptoSaid : Prop := kernelNilUptoRow.holds Tryz.pinned (OpenSpec.upto kernelNilSpec)

end Rows
end Go.Proofs.YtbhhmnfjjnnkiaaGreat
