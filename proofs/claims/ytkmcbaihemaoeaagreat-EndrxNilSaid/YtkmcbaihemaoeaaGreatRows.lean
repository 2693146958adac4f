/-
  No cell of these rows narrows 'for every input' (looked for: loops, veiled, ifaces, maps, wideKeys, modest, calm, conditions, laid).
  DERIVED. THE GIVEN ROWS OF THIS SEAT. 17 by the template 'for every input the law returns true; each argument reads behind the call as it read before'; 0 by the template 'total and deterministic' (their statements: YtkmcbaihemaoeaaGreatTotals.lean).
  GIVEN WITH THE SEED: the statements are not yours to turn. If you find one false, say at which input.
  Laid BY PROGRAM, IN A SANDBOX (cutbox-rows.mjs): the forced cells as the released guide's own fill.sh prints them over the translation 23902ab8b5544316… (all of the seat's roots in one cut). By AI agents, Wed Nov 11 2026. No macro, syntax, notation, axiom, sorry.
-/
import Derived.Test.YtkmcbaihemaoeaaGreatChecked
import GoSem.Claim
import GoSem.ClaimJoined
import GoSem.ClaimMapViews
import Derived.JoinedTies
import Derived.KernelRfl
namespace Go.Proofs.YtkmcbaihemaoeaaGreat
/- THE CELL 'sum', in the pinned program and in every row, IS THE sha256 OF THE DUMP (.gsa) THAT YtkmcbaihemaoeaaGreatProg.lean LOADS. Nothing in Lean hashes anything: it is a label: what it is worth is what the hold of that sum in a sandbox is worth. -/
noncomputable def Tryz.pinned : Pinned := { name := "ytkmcbaihemaoeaagreat", sum := "23902ab8b5544316be3bc997c7c8fa50d23a15f1d7a600a063b3a9bca6d9e7aa", checked := Tryz.checked }
namespace Rows
def none {H : Type} : Left H := { results := [], args := [] }

/-- 'pitotlaw20.AvswitchShare': WHATEVER THE INPUT: true; the input reads as it did. -/
def avswitchShareSpec : ChangeSpec := { name := "avswitchShare", fn := fun _ => fun
  | [d1, d2, d3] => { results := [.lit (.bool true)], args := [d1, d2, d3] }
  | _ => none }
def avswitchShareRow : OpenClaim := { program := "ytkmcbaihemaoeaagreat", sum := "23902ab8b5544316be3bc997c7c8fa50d23a15f1d7a600a063b3a9bca6d9e7aa", func := "pitot/pitotlaw20.AvswitchShare", spec := "avswitchShare", inPlace := ["internal/abi.NoEscape", "internal/bytealg.MakeNoZero", "slices.overlaps[pitot/avswitch.waiting]"], unfollowed := true, recurses := true, plainKeys := false, apart := false }
def AvswitchShareSaid : Prop := avswitchShareRow.holds Tryz.pinned (OpenSpec.ofChange avswitchShareSpec)

/-- ITS FALSE NEIGHBOUR: 'it returns false'. Refute it at one input. -/
def avswitchShareWrong : ChangeSpec := { name := "avswitchShare", fn := fun _ => fun
  | [d1, d2, d3] => { results := [.lit (.bool false)], args := [d1, d2, d3] }
  | _ => none }
def AvswitchShareWrongFalsely : Prop := avswitchShareRow.holds Tryz.pinned (OpenSpec.ofChange avswitchShareWrong)

/-- 'pitotlaw20.AvswitchOrder': WHATEVER THE INPUT: true; the input reads as it did. -/
def avswitchOrderSpec : ChangeSpec := { name := "avswitchOrder", fn := fun _ => fun
  | [d1, d2, d3] => { results := [.lit (.bool true)], args := [d1, d2, d3] }
  | _ => none }
def avswitchOrderRow : OpenClaim := { program := "ytkmcbaihemaoeaagreat", sum := "23902ab8b5544316be3bc997c7c8fa50d23a15f1d7a600a063b3a9bca6d9e7aa", func := "pitot/pitotlaw20.AvswitchOrder", spec := "avswitchOrder", inPlace := ["internal/abi.NoEscape", "internal/bytealg.MakeNoZero", "slices.overlaps[pitot/avswitch.waiting]"], unfollowed := true, recurses := true, plainKeys := false, apart := false }
def AvswitchOrderSaid : Prop := avswitchOrderRow.holds Tryz.pinned (OpenSpec.ofChange avswitchOrderSpec)

/-- ITS FALSE NEIGHBOUR: 'it returns false'. Refute it at one input. -/
def avswitchOrderWrong : ChangeSpec := { name := "avswitchOrder", fn := fun _ => fun
  | [d1, d2, d3] => { results := [.lit (.bool false)], args := [d1, d2, d3] }
  | _ => none }
def AvswitchOrderWrongFalsely : Prop := avswitchOrderRow.holds Tryz.pinned (OpenSpec.ofChange avswitchOrderWrong)

/-- 'pitotlaw20.AvswitchPlays': WHATEVER THE INPUT: true; the input reads as it did. -/
def avswitchPlaysSpec : ChangeSpec := { name := "avswitchPlays", fn := fun _ => fun
  | [d1, d2, d3] => { results := [.lit (.bool true)], args := [d1, d2, d3] }
  | _ => none }
def avswitchPlaysRow : OpenClaim := { program := "ytkmcbaihemaoeaagreat", sum := "23902ab8b5544316be3bc997c7c8fa50d23a15f1d7a600a063b3a9bca6d9e7aa", func := "pitot/pitotlaw20.AvswitchPlays", spec := "avswitchPlays", inPlace := ["internal/abi.NoEscape", "internal/bytealg.MakeNoZero", "slices.overlaps[pitot/avswitch.waiting]"], unfollowed := true, recurses := true, plainKeys := false, apart := false }
def AvswitchPlaysSaid : Prop := avswitchPlaysRow.holds Tryz.pinned (OpenSpec.ofChange avswitchPlaysSpec)

/-- ITS FALSE NEIGHBOUR: 'it returns false'. Refute it at one input. -/
def avswitchPlaysWrong : ChangeSpec := { name := "avswitchPlays", fn := fun _ => fun
  | [d1, d2, d3] => { results := [.lit (.bool false)], args := [d1, d2, d3] }
  | _ => none }
def AvswitchPlaysWrongFalsely : Prop := avswitchPlaysRow.holds Tryz.pinned (OpenSpec.ofChange avswitchPlaysWrong)

/-- 'pitotlaw20.AvswitchNil': WHATEVER THE INPUT: true; the input reads as it did. -/
def avswitchNilSpec : ChangeSpec := { name := "avswitchNil", fn := fun _ => fun
  | [d1, d2, d3] => { results := [.lit (.bool true)], args := [d1, d2, d3] }
  | _ => none }
def avswitchNilRow : OpenClaim := { program := "ytkmcbaihemaoeaagreat", sum := "23902ab8b5544316be3bc997c7c8fa50d23a15f1d7a600a063b3a9bca6d9e7aa", func := "pitot/pitotlaw20.AvswitchNil", spec := "avswitchNil", inPlace := ["internal/abi.NoEscape", "internal/bytealg.MakeNoZero", "slices.overlaps[pitot/avswitch.waiting]"], unfollowed := true, recurses := true, plainKeys := false, apart := false }
def AvswitchNilSaid : Prop := avswitchNilRow.holds Tryz.pinned (OpenSpec.ofChange avswitchNilSpec)

/-- ITS FALSE NEIGHBOUR: 'it returns false'. Refute it at one input. -/
def avswitchNilWrong : ChangeSpec := { name := "avswitchNil", fn := fun _ => fun
  | [d1, d2, d3] => { results := [.lit (.bool false)], args := [d1, d2, d3] }
  | _ => none }
def AvswitchNilWrongFalsely : Prop := avswitchNilRow.holds Tryz.pinned (OpenSpec.ofChange avswitchNilWrong)

/-- 'pitotlaw20.AvswitchRoutes': WHATEVER THE INPUT: true; the input reads as it did. -/
def avswitchRoutesSpec : ChangeSpec := { name := "avswitchRoutes", fn := fun _ => fun
  | [d1, d2, d3] => { results := [.lit (.bool true)], args := [d1, d2, d3] }
  | _ => none }
def avswitchRoutesRow : OpenClaim := { program := "ytkmcbaihemaoeaagreat", sum := "23902ab8b5544316be3bc997c7c8fa50d23a15f1d7a600a063b3a9bca6d9e7aa", func := "pitot/pitotlaw20.AvswitchRoutes", spec := "avswitchRoutes", inPlace := ["internal/abi.NoEscape", "internal/bytealg.MakeNoZero", "slices.overlaps[pitot/avswitch.waiting]"], unfollowed := true, recurses := true, plainKeys := false, apart := false }
def AvswitchRoutesSaid : Prop := avswitchRoutesRow.holds Tryz.pinned (OpenSpec.ofChange avswitchRoutesSpec)

/-- ITS FALSE NEIGHBOUR: 'it returns false'. Refute it at one input. -/
def avswitchRoutesWrong : ChangeSpec := { name := "avswitchRoutes", fn := fun _ => fun
  | [d1, d2, d3] => { results := [.lit (.bool false)], args := [d1, d2, d3] }
  | _ => none }
def AvswitchRoutesWrongFalsely : Prop := avswitchRoutesRow.holds Tryz.pinned (OpenSpec.ofChange avswitchRoutesWrong)

/-- 'pitotlaw15.EndtxBags': WHATEVER THE INPUT: true; the input reads as it did. -/
def endtxBagsSpec : ChangeSpec := { name := "endtxBags", fn := fun _ => fun
  | [d1, d2, d3] => { results := [.lit (.bool true)], args := [d1, d2, d3] }
  | _ => none }
def endtxBagsRow : OpenClaim := { program := "ytkmcbaihemaoeaagreat", sum := "23902ab8b5544316be3bc997c7c8fa50d23a15f1d7a600a063b3a9bca6d9e7aa", func := "pitot/pitotlaw15.EndtxBags", spec := "endtxBags", inPlace := ["internal/abi.NoEscape", "internal/bytealg.MakeNoZero"], unfollowed := true, recurses := true, plainKeys := false, apart := false }
def EndtxBagsSaid : Prop := endtxBagsRow.holds Tryz.pinned (OpenSpec.ofChange endtxBagsSpec)

/-- ITS FALSE NEIGHBOUR: 'it returns false'. Refute it at one input. -/
def endtxBagsWrong : ChangeSpec := { name := "endtxBags", fn := fun _ => fun
  | [d1, d2, d3] => { results := [.lit (.bool false)], args := [d1, d2, d3] }
  | _ => none }
def EndtxBagsWrongFalsely : Prop := endtxBagsRow.holds Tryz.pinned (OpenSpec.ofChange endtxBagsWrong)

/-- 'pitotlaw15.EndtxPlays': WHATEVER THE INPUT: true; the input reads as it did. -/
def endtxPlaysSpec : ChangeSpec := { name := "endtxPlays", fn := fun _ => fun
  | [d1, d2, d3] => { results := [.lit (.bool true)], args := [d1, d2, d3] }
  | _ => none }
def endtxPlaysRow : OpenClaim := { program := "ytkmcbaihemaoeaagreat", sum := "23902ab8b5544316be3bc997c7c8fa50d23a15f1d7a600a063b3a9bca6d9e7aa", func := "pitot/pitotlaw15.EndtxPlays", spec := "endtxPlays", inPlace := ["internal/abi.NoEscape", "internal/bytealg.MakeNoZero"], unfollowed := true, recurses := true, plainKeys := false, apart := false }
def EndtxPlaysSaid : Prop := endtxPlaysRow.holds Tryz.pinned (OpenSpec.ofChange endtxPlaysSpec)

/-- ITS FALSE NEIGHBOUR: 'it returns false'. Refute it at one input. -/
def endtxPlaysWrong : ChangeSpec := { name := "endtxPlays", fn := fun _ => fun
  | [d1, d2, d3] => { results := [.lit (.bool false)], args := [d1, d2, d3] }
  | _ => none }
def EndtxPlaysWrongFalsely : Prop := endtxPlaysRow.holds Tryz.pinned (OpenSpec.ofChange endtxPlaysWrong)

/-- 'pitotlaw15.EndtxNil': WHATEVER THE INPUT: true; the input reads as it did. -/
def endtxNilSpec : ChangeSpec := { name := "endtxNil", fn := fun _ => fun
  | [d1, d2, d3] => { results := [.lit (.bool true)], args := [d1, d2, d3] }
  | _ => none }
def endtxNilRow : OpenClaim := { program := "ytkmcbaihemaoeaagreat", sum := "23902ab8b5544316be3bc997c7c8fa50d23a15f1d7a600a063b3a9bca6d9e7aa", func := "pitot/pitotlaw15.EndtxNil", spec := "endtxNil", inPlace := ["internal/abi.NoEscape", "internal/bytealg.MakeNoZero"], unfollowed := true, recurses := true, plainKeys := false, apart := false }
def EndtxNilSaid : Prop := endtxNilRow.holds Tryz.pinned (OpenSpec.ofChange endtxNilSpec)

/-- ITS FALSE NEIGHBOUR: 'it returns false'. Refute it at one input. -/
def endtxNilWrong : ChangeSpec := { name := "endtxNil", fn := fun _ => fun
  | [d1, d2, d3] => { results := [.lit (.bool false)], args := [d1, d2, d3] }
  | _ => none }
def EndtxNilWrongFalsely : Prop := endtxNilRow.holds Tryz.pinned (OpenSpec.ofChange endtxNilWrong)

/-- 'pitotlaw15.EndtxNumbers': WHATEVER THE INPUT: true; the input reads as it did. -/
def endtxNumbersSpec : ChangeSpec := { name := "endtxNumbers", fn := fun _ => fun
  | [d1, d2, d3] => { results := [.lit (.bool true)], args := [d1, d2, d3] }
  | _ => none }
def endtxNumbersRow : OpenClaim := { program := "ytkmcbaihemaoeaagreat", sum := "23902ab8b5544316be3bc997c7c8fa50d23a15f1d7a600a063b3a9bca6d9e7aa", func := "pitot/pitotlaw15.EndtxNumbers", spec := "endtxNumbers", inPlace := ["internal/abi.NoEscape", "internal/bytealg.MakeNoZero"], unfollowed := true, recurses := true, plainKeys := false, apart := false }
def EndtxNumbersSaid : Prop := endtxNumbersRow.holds Tryz.pinned (OpenSpec.ofChange endtxNumbersSpec)

/-- ITS FALSE NEIGHBOUR: 'it returns false'. Refute it at one input. -/
def endtxNumbersWrong : ChangeSpec := { name := "endtxNumbers", fn := fun _ => fun
  | [d1, d2, d3] => { results := [.lit (.bool false)], args := [d1, d2, d3] }
  | _ => none }
def EndtxNumbersWrongFalsely : Prop := endtxNumbersRow.holds Tryz.pinned (OpenSpec.ofChange endtxNumbersWrong)

/-- 'pitotlaw15.EndtxReset': WHATEVER THE INPUT: true; the input reads as it did. -/
def endtxResetSpec : ChangeSpec := { name := "endtxReset", fn := fun _ => fun
  | [d1, d2, d3] => { results := [.lit (.bool true)], args := [d1, d2, d3] }
  | _ => none }
def endtxResetRow : OpenClaim := { program := "ytkmcbaihemaoeaagreat", sum := "23902ab8b5544316be3bc997c7c8fa50d23a15f1d7a600a063b3a9bca6d9e7aa", func := "pitot/pitotlaw15.EndtxReset", spec := "endtxReset", inPlace := ["internal/abi.NoEscape", "internal/bytealg.MakeNoZero"], unfollowed := true, recurses := true, plainKeys := false, apart := false }
def EndtxResetSaid : Prop := endtxResetRow.holds Tryz.pinned (OpenSpec.ofChange endtxResetSpec)

/-- ITS FALSE NEIGHBOUR: 'it returns false'. Refute it at one input. -/
def endtxResetWrong : ChangeSpec := { name := "endtxReset", fn := fun _ => fun
  | [d1, d2, d3] => { results := [.lit (.bool false)], args := [d1, d2, d3] }
  | _ => none }
def EndtxResetWrongFalsely : Prop := endtxResetRow.holds Tryz.pinned (OpenSpec.ofChange endtxResetWrong)

/-- 'pitotlaw15.EndtxWhole': WHATEVER THE INPUT: true; the input reads as it did. -/
def endtxWholeSpec : ChangeSpec := { name := "endtxWhole", fn := fun _ => fun
  | [d1, d2, d3] => { results := [.lit (.bool true)], args := [d1, d2, d3] }
  | _ => none }
def endtxWholeRow : OpenClaim := { program := "ytkmcbaihemaoeaagreat", sum := "23902ab8b5544316be3bc997c7c8fa50d23a15f1d7a600a063b3a9bca6d9e7aa", func := "pitot/pitotlaw15.EndtxWhole", spec := "endtxWhole", inPlace := ["internal/abi.NoEscape", "internal/bytealg.MakeNoZero"], unfollowed := true, recurses := true, plainKeys := false, apart := false }
def EndtxWholeSaid : Prop := endtxWholeRow.holds Tryz.pinned (OpenSpec.ofChange endtxWholeSpec)

/-- ITS FALSE NEIGHBOUR: 'it returns false'. Refute it at one input. -/
def endtxWholeWrong : ChangeSpec := { name := "endtxWhole", fn := fun _ => fun
  | [d1, d2, d3] => { results := [.lit (.bool false)], args := [d1, d2, d3] }
  | _ => none }
def EndtxWholeWrongFalsely : Prop := endtxWholeRow.holds Tryz.pinned (OpenSpec.ofChange endtxWholeWrong)

/-- 'pitotlaw21.EndrxOnce': WHATEVER THE INPUT: true; the input reads as it did. -/
def endrxOnceSpec : ChangeSpec := { name := "endrxOnce", fn := fun _ => fun
  | [d1, d2, d3] => { results := [.lit (.bool true)], args := [d1, d2, d3] }
  | _ => none }
def endrxOnceRow : OpenClaim := { program := "ytkmcbaihemaoeaagreat", sum := "23902ab8b5544316be3bc997c7c8fa50d23a15f1d7a600a063b3a9bca6d9e7aa", func := "pitot/pitotlaw21.EndrxOnce", spec := "endrxOnce", inPlace := ["internal/abi.NoEscape", "internal/bytealg.MakeNoZero"], unfollowed := true, recurses := true, plainKeys := false, apart := false }
def EndrxOnceSaid : Prop := endrxOnceRow.holds Tryz.pinned (OpenSpec.ofChange endrxOnceSpec)

/-- ITS FALSE NEIGHBOUR: 'it returns false'. Refute it at one input. -/
def endrxOnceWrong : ChangeSpec := { name := "endrxOnce", fn := fun _ => fun
  | [d1, d2, d3] => { results := [.lit (.bool false)], args := [d1, d2, d3] }
  | _ => none }
def EndrxOnceWrongFalsely : Prop := endrxOnceRow.holds Tryz.pinned (OpenSpec.ofChange endrxOnceWrong)

/-- 'pitotlaw21.EndrxOnly': WHATEVER THE INPUT: true; the input reads as it did. -/
def endrxOnlySpec : ChangeSpec := { name := "endrxOnly", fn := fun _ => fun
  | [d1, d2, d3] => { results := [.lit (.bool true)], args := [d1, d2, d3] }
  | _ => none }
def endrxOnlyRow : OpenClaim := { program := "ytkmcbaihemaoeaagreat", sum := "23902ab8b5544316be3bc997c7c8fa50d23a15f1d7a600a063b3a9bca6d9e7aa", func := "pitot/pitotlaw21.EndrxOnly", spec := "endrxOnly", inPlace := ["internal/abi.NoEscape", "internal/bytealg.MakeNoZero"], unfollowed := true, recurses := true, plainKeys := false, apart := false }
def EndrxOnlySaid : Prop := endrxOnlyRow.holds Tryz.pinned (OpenSpec.ofChange endrxOnlySpec)

/-- ITS FALSE NEIGHBOUR: 'it returns false'. Refute it at one input. -/
def endrxOnlyWrong : ChangeSpec := { name := "endrxOnly", fn := fun _ => fun
  | [d1, d2, d3] => { results := [.lit (.bool false)], args := [d1, d2, d3] }
  | _ => none }
def EndrxOnlyWrongFalsely : Prop := endrxOnlyRow.holds Tryz.pinned (OpenSpec.ofChange endrxOnlyWrong)

/-- 'pitotlaw21.EndrxCounts': WHATEVER THE INPUT: true; the input reads as it did. -/
def endrxCountsSpec : ChangeSpec := { name := "endrxCounts", fn := fun _ => fun
  | [d1, d2, d3] => { results := [.lit (.bool true)], args := [d1, d2, d3] }
  | _ => none }
def endrxCountsRow : OpenClaim := { program := "ytkmcbaihemaoeaagreat", sum := "23902ab8b5544316be3bc997c7c8fa50d23a15f1d7a600a063b3a9bca6d9e7aa", func := "pitot/pitotlaw21.EndrxCounts", spec := "endrxCounts", inPlace := ["internal/abi.NoEscape", "internal/bytealg.MakeNoZero"], unfollowed := true, recurses := true, plainKeys := false, apart := false }
def EndrxCountsSaid : Prop := endrxCountsRow.holds Tryz.pinned (OpenSpec.ofChange endrxCountsSpec)

/-- ITS FALSE NEIGHBOUR: 'it returns false'. Refute it at one input. -/
def endrxCountsWrong : ChangeSpec := { name := "endrxCounts", fn := fun _ => fun
  | [d1, d2, d3] => { results := [.lit (.bool false)], args := [d1, d2, d3] }
  | _ => none }
def EndrxCountsWrongFalsely : Prop := endrxCountsRow.holds Tryz.pinned (OpenSpec.ofChange endrxCountsWrong)

/-- 'pitotlaw21.EndrxPlays': WHATEVER THE INPUT: true; the input reads as it did. -/
def endrxPlaysSpec : ChangeSpec := { name := "endrxPlays", fn := fun _ => fun
  | [d1, d2, d3] => { results := [.lit (.bool true)], args := [d1, d2, d3] }
  | _ => none }
def endrxPlaysRow : OpenClaim := { program := "ytkmcbaihemaoeaagreat", sum := "23902ab8b5544316be3bc997c7c8fa50d23a15f1d7a600a063b3a9bca6d9e7aa", func := "pitot/pitotlaw21.EndrxPlays", spec := "endrxPlays", inPlace := ["internal/abi.NoEscape", "internal/bytealg.MakeNoZero"], unfollowed := true, recurses := true, plainKeys := false, apart := false }
def EndrxPlaysSaid : Prop := endrxPlaysRow.holds Tryz.pinned (OpenSpec.ofChange endrxPlaysSpec)

/-- ITS FALSE NEIGHBOUR: 'it returns false'. Refute it at one input. -/
def endrxPlaysWrong : ChangeSpec := { name := "endrxPlays", fn := fun _ => fun
  | [d1, d2, d3] => { results := [.lit (.bool false)], args := [d1, d2, d3] }
  | _ => none }
def EndrxPlaysWrongFalsely : Prop := endrxPlaysRow.holds Tryz.pinned (OpenSpec.ofChange endrxPlaysWrong)

/-- 'pitotlaw21.EndrxNil': WHATEVER THE INPUT: true; the input reads as it did. -/
def endrxNilSpec : ChangeSpec := { name := "endrxNil", fn := fun _ => fun
  | [d1, d2, d3] => { results := [.lit (.bool true)], args := [d1, d2, d3] }
  | _ => none }
def endrxNilRow : OpenClaim := { program := "ytkmcbaihemaoeaagreat", sum := "23902ab8b5544316be3bc997c7c8fa50d23a15f1d7a600a063b3a9bca6d9e7aa", func := "pitot/pitotlaw21.EndrxNil", spec := "endrxNil", inPlace := ["internal/abi.NoEscape", "internal/bytealg.MakeNoZero"], unfollowed := true, recurses := true, plainKeys := false, apart := false }
def EndrxNilSaid : Prop := endrxNilRow.holds Tryz.pinned (OpenSpec.ofChange endrxNilSpec)

/-- ITS FALSE NEIGHBOUR: 'it returns false'. Refute it at one input. -/
def endrxNilWrong : ChangeSpec := { name := "endrxNil", fn := fun _ => fun
  | [d1, d2, d3] => { results := [.lit (.bool false)], args := [d1, d2, d3] }
  | _ => none }
def EndrxNilWrongFalsely : Prop := endrxNilRow.holds Tryz.pinned (OpenSpec.ofChange endrxNilWrong)

/-- 'pitotlaw20.AvswitchHonest': WHATEVER THE INPUT: true; the input reads as it did. -/
def avswitchHonestSpec : ChangeSpec := { name := "avswitchHonest", fn := fun _ => fun
  | [d1, d2, d3] => { results := [.lit (.bool true)], args := [d1, d2, d3] }
  | _ => none }
def avswitchHonestRow : OpenClaim := { program := "ytkmcbaihemaoeaagreat", sum := "23902ab8b5544316be3bc997c7c8fa50d23a15f1d7a600a063b3a9bca6d9e7aa", func := "pitot/pitotlaw20.AvswitchHonest", spec := "avswitchHonest", inPlace := ["internal/abi.NoEscape", "internal/bytealg.MakeNoZero", "slices.overlaps[pitot/avswitch.waiting]"], unfollowed := true, recurses := true, plainKeys := false, apart := false }
def AvswitchHonestSaid : Prop := avswitchHonestRow.holds Tryz.pinned (OpenSpec.ofChange avswitchHonestSpec)

/-- ITS FALSE NEIGHBOUR: 'it returns false'. Refute it at one input. -/
def avswitchHonestWrong : ChangeSpec := { name := "avswitchHonest", fn := fun _ => fun
  | [d1, d2, d3] => { results := [.lit (.bool false)], args := [d1, d2, d3] }
  | _ => none }
def AvswitchHonestWrongFalsely : Prop := avswitchHonestRow.holds Tryz.pinned (OpenSpec.ofChange avswitchHonestWrong)

/- THE SECOND FORM. 'bulk': how many values and letters a reading holds, each counted each time it is reached (what is shared counts as often as it is met; a slice's spare places count too). A statement '..UptoSaid' is the law's where the arguments, and the package variables that the reading takes, are together of bulk at most 1048576: NARROWER than '..Said'. Prove '..Said' where nothing that the law and all that it calls make is longer than what came in: it says more and counts as full. Else prove '..UptoSaid'. A law counts once. -/
mutual
def uptoBulk {H : Type} : DataW H → Nat
  | .lit (.string bytes) => bytes.length + 1
  | .lit _ => 1
  | .nil => 1
  | .ptr d => uptoBulk d + 1
  | .slice elems spare => uptoBulkAll elems + uptoBulkAll spare + 1
  | .agg parts => uptoBulkAll parts + 1
  | .iface _ d => uptoBulk d + 1
  | .map entries => uptoBulkEntries entries + 1
  | .held _ => 1
def uptoBulkAll {H : Type} : List (DataW H) → Nat
  | [] => 0
  | d :: r => uptoBulk d + uptoBulkAll r
def uptoBulkEntries {H : Type} : List (Lit × DataW H) → Nat
  | [] => 0
  | x :: r => uptoBulkEntry x + uptoBulkEntries r
def uptoBulkEntry {H : Type} : Lit × DataW H → Nat
  | (.string bytes, d) => bytes.length + uptoBulk d + 1
  | (_, d) => uptoBulk d + 1
 end
def uptoSmall : (H : Type) → List (DataW H) → Bool := fun _ ds => decide (uptoBulkAll ds ≤ 1048576)
def OpenSpec.upto (s : _root_.Go.ChangeSpec) : _root_.Go.OpenSpec := { _root_.Go.OpenSpec.ofChange s with cond := some uptoSmall }

/-- 'pitotlaw20.AvswitchShare', WHERE WHAT IT READS IS OF BULK AT MOST 1048576: true; the input reads as it did. -/
def avswitchShareUptoRow : OpenClaim := { program := "ytkmcbaihemaoeaagreat", sum := "23902ab8b5544316be3bc997c7c8fa50d23a15f1d7a600a063b3a9bca6d9e7aa", func := "pitot/pitotlaw20.AvswitchShare", spec := "avswitchShare", inPlace := ["internal/abi.NoEscape", "internal/bytealg.MakeNoZero", "slices.overlaps[pitot/avswitch.waiting]"], unfollowed := true, recurses := true, plainKeys := false, apart := false, narrowed := true }
def AvswitchShareUptoSaid : Prop := avswitchShareUptoRow.holds Tryz.pinned (OpenSpec.upto avswitchShareSpec)

/-- 'pitotlaw20.AvswitchOrder', WHERE WHAT IT READS IS OF BULK AT MOST 1048576: true; the input reads as it did. -/
def avswitchOrderUptoRow : OpenClaim := { program := "ytkmcbaihemaoeaagreat", sum := "23902ab8b5544316be3bc997c7c8fa50d23a15f1d7a600a063b3a9bca6d9e7aa", func := "pitot/pitotlaw20.AvswitchOrder", spec := "avswitchOrder", inPlace := ["internal/abi.NoEscape", "internal/bytealg.MakeNoZero", "slices.overlaps[pitot/avswitch.waiting]"], unfollowed := true, recurses := true, plainKeys := false, apart := false, narrowed := true }
def AvswitchOrderUptoSaid : Prop := avswitchOrderUptoRow.holds Tryz.pinned (OpenSpec.upto avswitchOrderSpec)

/-- 'pitotlaw20.AvswitchPlays', WHERE WHAT IT READS IS OF BULK AT MOST 1048576: true; the input reads as it did. -/
def avswitchPlaysUptoRow : OpenClaim := { program := "ytkmcbaihemaoeaagreat", sum := "23902ab8b5544316be3bc997c7c8fa50d23a15f1d7a600a063b3a9bca6d9e7aa", func := "pitot/pitotlaw20.AvswitchPlays", spec := "avswitchPlays", inPlace := ["internal/abi.NoEscape", "internal/bytealg.MakeNoZero", "slices.overlaps[pitot/avswitch.waiting]"], unfollowed := true, recurses := true, plainKeys := false, apart := false, narrowed := true }
def AvswitchPlaysUptoSaid : Prop := avswitchPlaysUptoRow.holds Tryz.pinned (OpenSpec.upto avswitchPlaysSpec)

/-- 'pitotlaw20.AvswitchNil', WHERE WHAT IT READS IS OF BULK AT MOST 1048576: true; the input reads as it did. -/
def avswitchNilUptoRow : OpenClaim := { program := "ytkmcbaihemaoeaagreat", sum := "23902ab8b5544316be3bc997c7c8fa50d23a15f1d7a600a063b3a9bca6d9e7aa", func := "pitot/pitotlaw20.AvswitchNil", spec := "avswitchNil", inPlace := ["internal/abi.NoEscape", "internal/bytealg.MakeNoZero", "slices.overlaps[pitot/avswitch.waiting]"], unfollowed := true, recurses := true, plainKeys := false, apart := false, narrowed := true }
def AvswitchNilUptoSaid : Prop := avswitchNilUptoRow.holds Tryz.pinned (OpenSpec.upto avswitchNilSpec)

/-- 'pitotlaw20.AvswitchRoutes', WHERE WHAT IT READS IS OF BULK AT MOST 1048576: true; the input reads as it did. -/
def avswitchRoutesUptoRow : OpenClaim := { program := "ytkmcbaihemaoeaagreat", sum := "23902ab8b5544316be3bc997c7c8fa50d23a15f1d7a600a063b3a9bca6d9e7aa", func := "pitot/pitotlaw20.AvswitchRoutes", spec := "avswitchRoutes", inPlace := ["internal/abi.NoEscape", "internal/bytealg.MakeNoZero", "slices.overlaps[pitot/avswitch.waiting]"], unfollowed := true, recurses := true, plainKeys := false, apart := false, narrowed := true }
def AvswitchRoutesUptoSaid : Prop := avswitchRoutesUptoRow.holds Tryz.pinned (OpenSpec.upto avswitchRoutesSpec)

/-- 'pitotlaw15.EndtxBags', WHERE WHAT IT READS IS OF BULK AT MOST 1048576: true; the input reads as it did. -/
def endtxBagsUptoRow : OpenClaim := { program := "ytkmcbaihemaoeaagreat", sum := "23902ab8b5544316be3bc997c7c8fa50d23a15f1d7a600a063b3a9bca6d9e7aa", func := "pitot/pitotlaw15.EndtxBags", spec := "endtxBags", inPlace := ["internal/abi.NoEscape", "internal/bytealg.MakeNoZero"], unfollowed := true, recurses := true, plainKeys := false, apart := false, narrowed := true }
def EndtxBagsUptoSaid : Prop := endtxBagsUptoRow.holds Tryz.pinned (OpenSpec.upto endtxBagsSpec)

/-- 'pitotlaw15.EndtxPlays', WHERE WHAT IT READS IS OF BULK AT MOST 1048576: true; the input reads as it did. -/
def endtxPlaysUptoRow : OpenClaim := { program := "ytkmcbaihemaoeaagreat", sum := "23902ab8b5544316be3bc997c7c8fa50d23a15f1d7a600a063b3a9bca6d9e7aa", func := "pitot/pitotlaw15.EndtxPlays", spec := "endtxPlays", inPlace := ["internal/abi.NoEscape", "internal/bytealg.MakeNoZero"], unfollowed := true, recurses := true, plainKeys := false, apart := false, narrowed := true }
def EndtxPlaysUptoSaid : Prop := endtxPlaysUptoRow.holds Tryz.pinned (OpenSpec.upto endtxPlaysSpec)

/-- 'pitotlaw15.EndtxNil', WHERE WHAT IT READS IS OF BULK AT MOST 1048576: true; the input reads as it did. -/
def endtxNilUptoRow : OpenClaim := { program := "ytkmcbaihemaoeaagreat", sum := "23902ab8b5544316be3bc997c7c8fa50d23a15f1d7a600a063b3a9bca6d9e7aa", func := "pitot/pitotlaw15.EndtxNil", spec := "endtxNil", inPlace := ["internal/abi.NoEscape", "internal/bytealg.MakeNoZero"], unfollowed := true, recurses := true, plainKeys := false, apart := false, narrowed := true }
def EndtxNilUptoSaid : Prop := endtxNilUptoRow.holds Tryz.pinned (OpenSpec.upto endtxNilSpec)

/-- 'pitotlaw15.EndtxNumbers', WHERE WHAT IT READS IS OF BULK AT MOST 1048576: true; the input reads as it did. -/
def endtxNumbersUptoRow : OpenClaim := { program := "ytkmcbaihemaoeaagreat", sum := "23902ab8b5544316be3bc997c7c8fa50d23a15f1d7a600a063b3a9bca6d9e7aa", func := "pitot/pitotlaw15.EndtxNumbers", spec := "endtxNumbers", inPlace := ["internal/abi.NoEscape", "internal/bytealg.MakeNoZero"], unfollowed := true, recurses := true, plainKeys := false, apart := false, narrowed := true }
def EndtxNumbersUptoSaid : Prop := endtxNumbersUptoRow.holds Tryz.pinned (OpenSpec.upto endtxNumbersSpec)

/-- 'pitotlaw15.EndtxReset', WHERE WHAT IT READS IS OF BULK AT MOST 1048576: true; the input reads as it did. -/
def endtxResetUptoRow : OpenClaim := { program := "ytkmcbaihemaoeaagreat", sum := "23902ab8b5544316be3bc997c7c8fa50d23a15f1d7a600a063b3a9bca6d9e7aa", func := "pitot/pitotlaw15.EndtxReset", spec := "endtxReset", inPlace := ["internal/abi.NoEscape", "internal/bytealg.MakeNoZero"], unfollowed := true, recurses := true, plainKeys := false, apart := false, narrowed := true }
def EndtxResetUptoSaid : Prop := endtxResetUptoRow.holds Tryz.pinned (OpenSpec.upto endtxResetSpec)

/-- 'pitotlaw15.EndtxWhole', WHERE WHAT IT READS IS OF BULK AT MOST 1048576: true; the input reads as it did. -/
def endtxWholeUptoRow : OpenClaim := { program := "ytkmcbaihemaoeaagreat", sum := "23902ab8b5544316be3bc997c7c8fa50d23a15f1d7a600a063b3a9bca6d9e7aa", func := "pitot/pitotlaw15.EndtxWhole", spec := "endtxWhole", inPlace := ["internal/abi.NoEscape", "internal/bytealg.MakeNoZero"], unfollowed := true, recurses := true, plainKeys := false, apart := false, narrowed := true }
def EndtxWholeUptoSaid : Prop := endtxWholeUptoRow.holds Tryz.pinned (OpenSpec.upto endtxWholeSpec)

/-- 'pitotlaw21.EndrxOnce', WHERE WHAT IT READS IS OF BULK AT MOST 1048576: true; the input reads as it did. -/
def endrxOnceUptoRow : OpenClaim := { program := "ytkmcbaihemaoeaagreat", sum := "23902ab8b5544316be3bc997c7c8fa50d23a15f1d7a600a063b3a9bca6d9e7aa", func := "pitot/pitotlaw21.EndrxOnce", spec := "endrxOnce", inPlace := ["internal/abi.NoEscape", "internal/bytealg.MakeNoZero"], unfollowed := true, recurses := true, plainKeys := false, apart := false, narrowed := true }
def EndrxOnceUptoSaid : Prop := endrxOnceUptoRow.holds Tryz.pinned (OpenSpec.upto endrxOnceSpec)

/-- 'pitotlaw21.EndrxOnly', WHERE WHAT IT READS IS OF BULK AT MOST 1048576: true; the input reads as it did. -/
def endrxOnlyUptoRow : OpenClaim := { program := "ytkmcbaihemaoeaagreat", sum := "23902ab8b5544316be3bc997c7c8fa50d23a15f1d7a600a063b3a9bca6d9e7aa", func := "pitot/pitotlaw21.EndrxOnly", spec := "endrxOnly", inPlace := ["internal/abi.NoEscape", "internal/bytealg.MakeNoZero"], unfollowed := true, recurses := true, plainKeys := false, apart := false, narrowed := true }
def EndrxOnlyUptoSaid : Prop := endrxOnlyUptoRow.holds Tryz.pinned (OpenSpec.upto endrxOnlySpec)

/-- 'pitotlaw21.EndrxCounts', WHERE WHAT IT READS IS OF BULK AT MOST 1048576: true; the input reads as it did. -/
def endrxCountsUptoRow : OpenClaim := { program := "ytkmcbaihemaoeaagreat", sum := "23902ab8b5544316be3bc997c7c8fa50d23a15f1d7a600a063b3a9bca6d9e7aa", func := "pitot/pitotlaw21.EndrxCounts", spec := "endrxCounts", inPlace := ["internal/abi.NoEscape", "internal/bytealg.MakeNoZero"], unfollowed := true, recurses := true, plainKeys := false, apart := false, narrowed := true }
def EndrxCountsUptoSaid : Prop := endrxCountsUptoRow.holds Tryz.pinned (OpenSpec.upto endrxCountsSpec)

/-- 'pitotlaw21.EndrxPlays', WHERE WHAT IT READS IS OF BULK AT MOST 1048576: true; the input reads as it did. -/
def endrxPlaysUptoRow : OpenClaim := { program := "ytkmcbaihemaoeaagreat", sum := "23902ab8b5544316be3bc997c7c8fa50d23a15f1d7a600a063b3a9bca6d9e7aa", func := "pitot/pitotlaw21.EndrxPlays", spec := "endrxPlays", inPlace := ["internal/abi.NoEscape", "internal/bytealg.MakeNoZero"], unfollowed := true, recurses := true, plainKeys := false, apart := false, narrowed := true }
def EndrxPlaysUptoSaid : Prop := endrxPlaysUptoRow.holds Tryz.pinned (OpenSpec.upto endrxPlaysSpec)

/-- 'pitotlaw21.EndrxNil', WHERE WHAT IT READS IS OF BULK AT MOST 1048576: true; the input reads as it did. -/
def endrxNilUptoRow : OpenClaim := { program := "ytkmcbaihemaoeaagreat", sum := "23902ab8b5544316be3bc997c7c8fa50d23a15f1d7a600a063b3a9bca6d9e7aa", func := "pitot/pitotlaw21.EndrxNil", spec := "endrxNil", inPlace := ["internal/abi.NoEscape", "internal/bytealg.MakeNoZero"], unfollowed := true, recurses := true, plainKeys := false, apart := false, narrowed := true }
def EndrxNilUptoSaid : Prop := endrxNilUptoRow.holds Tryz.pinned (OpenSpec.upto endrxNilSpec)

/-- 'pitotlaw20.AvswitchHonest', WHERE WHAT IT READS IS OF BULK AT MOST 1048576: true; the input reads as it did. -/
def avswitchHonestUptoRow : OpenClaim := { program := "ytkmcbaihemaoeaagreat", sum := "23902ab8b5544316be3bc997c7c8fa50d23a15f1d7a600a063b3a9bca6d9e7aa", func := "pitot/pitotlaw20.AvswitchHonest", spec := "avswitchHonest", inPlace := ["internal/abi.NoEscape", "internal/bytealg.MakeNoZero", "slices.overlaps[pitot/avswitch.waiting]"], unfollowed := true, recurses := true, plainKeys := false, apart := false, narrowed := true }
def AvswitchHonestUptoSaid : Prop := avswitchHonestUptoRow.holds Tryz.pinned (OpenSpec.upto avswitchHonestSpec)

end Rows
end Go.Proofs.YtkmcbaihemaoeaaGreat
