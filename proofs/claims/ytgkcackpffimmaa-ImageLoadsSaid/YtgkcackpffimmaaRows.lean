/-
  No cell of these rows narrows 'for every input' (looked for: loops, veiled, ifaces, maps, wideKeys, modest, calm, conditions, laid).
  DERIVED. THE GIVEN ROWS OF THIS SEAT. 23 by the template 'for every input the law returns true; each argument reads behind the call as it read before'; 0 by the template 'total and deterministic' (their statements: YtgkcackpffimmaaTotals.lean).
  GIVEN WITH THE SEED: the statements are not yours to turn. If you find one false, say at which input.
  Laid BY PROGRAM, IN A SANDBOX (cutbox-rows.mjs): the forced cells as the released guide's own fill.sh prints them over the translation 912d2a07b4eb1fdb… (all of the seat's roots in one cut). By AI agents, Wed Nov 11 2026. No macro, syntax, notation, axiom, sorry.
-/
import Derived.Test.YtgkcackpffimmaaChecked
import GoSem.Claim
import GoSem.ClaimJoined
import GoSem.ClaimMapViews
import Derived.JoinedTies
import Derived.KernelRfl
namespace Go.Proofs.Ytgkcackpffimmaa
/- THE CELL 'sum', in the pinned program and in every row, IS THE sha256 OF THE DUMP (.gsa) THAT YtgkcackpffimmaaProg.lean LOADS. Nothing in Lean hashes anything: it is a label: what it is worth is what the hold of that sum in a sandbox is worth. -/
noncomputable def Try.pinned : Pinned := { name := "ytgkcackpffimmaa", sum := "912d2a07b4eb1fdb8a658811733d994c97118bdd7ef2f45594ca087a9f0a8b08", checked := Try.checked }
namespace Rows
def none {H : Type} : Left H := { results := [], args := [] }

/-- 'pitotlaw10.ConfigChecks': WHATEVER THE INPUT: true; the input reads as it did. -/
def configChecksSpec : ChangeSpec := { name := "configChecks", fn := fun _ => fun
  | [d] => { results := [.lit (.bool true)], args := [d] }
  | _ => none }
def configChecksRow : OpenClaim := { program := "ytgkcackpffimmaa", sum := "912d2a07b4eb1fdb8a658811733d994c97118bdd7ef2f45594ca087a9f0a8b08", func := "pitot/pitotlaw10.ConfigChecks", spec := "configChecks", unfollowed := true, recurses := true, plainKeys := false, apart := false }
def ConfigChecksSaid : Prop := configChecksRow.holds Try.pinned (OpenSpec.ofChange configChecksSpec)

/-- ITS FALSE NEIGHBOUR: 'it returns false'. Refute it at one input. -/
def configChecksWrong : ChangeSpec := { name := "configChecks", fn := fun _ => fun
  | [d] => { results := [.lit (.bool false)], args := [d] }
  | _ => none }
def ConfigChecksWrongFalsely : Prop := configChecksRow.holds Try.pinned (OpenSpec.ofChange configChecksWrong)

/-- 'pitotlaw10.ConfigLess': WHATEVER THE INPUT: true; the input reads as it did. -/
def configLessSpec : ChangeSpec := { name := "configLess", fn := fun _ => fun
  | [d] => { results := [.lit (.bool true)], args := [d] }
  | _ => none }
def configLessRow : OpenClaim := { program := "ytgkcackpffimmaa", sum := "912d2a07b4eb1fdb8a658811733d994c97118bdd7ef2f45594ca087a9f0a8b08", func := "pitot/pitotlaw10.ConfigLess", spec := "configLess", unfollowed := true, recurses := true, plainKeys := false, apart := false }
def ConfigLessSaid : Prop := configLessRow.holds Try.pinned (OpenSpec.ofChange configLessSpec)

/-- ITS FALSE NEIGHBOUR: 'it returns false'. Refute it at one input. -/
def configLessWrong : ChangeSpec := { name := "configLess", fn := fun _ => fun
  | [d] => { results := [.lit (.bool false)], args := [d] }
  | _ => none }
def ConfigLessWrongFalsely : Prop := configLessRow.holds Try.pinned (OpenSpec.ofChange configLessWrong)

/-- 'pitotlaw10.ConfigFirst': WHATEVER THE INPUT: true; the input reads as it did. -/
def configFirstSpec : ChangeSpec := { name := "configFirst", fn := fun _ => fun
  | [d] => { results := [.lit (.bool true)], args := [d] }
  | _ => none }
def configFirstRow : OpenClaim := { program := "ytgkcackpffimmaa", sum := "912d2a07b4eb1fdb8a658811733d994c97118bdd7ef2f45594ca087a9f0a8b08", func := "pitot/pitotlaw10.ConfigFirst", spec := "configFirst", unfollowed := true, recurses := true, plainKeys := false, apart := false }
def ConfigFirstSaid : Prop := configFirstRow.holds Try.pinned (OpenSpec.ofChange configFirstSpec)

/-- ITS FALSE NEIGHBOUR: 'it returns false'. Refute it at one input. -/
def configFirstWrong : ChangeSpec := { name := "configFirst", fn := fun _ => fun
  | [d] => { results := [.lit (.bool false)], args := [d] }
  | _ => none }
def ConfigFirstWrongFalsely : Prop := configFirstRow.holds Try.pinned (OpenSpec.ofChange configFirstWrong)

/-- 'pitotlaw10.ConfigHolds': WHATEVER THE INPUT: true; the input reads as it did. -/
def configHoldsSpec : ChangeSpec := { name := "configHolds", fn := fun _ => fun
  | [d] => { results := [.lit (.bool true)], args := [d] }
  | _ => none }
def configHoldsRow : OpenClaim := { program := "ytgkcackpffimmaa", sum := "912d2a07b4eb1fdb8a658811733d994c97118bdd7ef2f45594ca087a9f0a8b08", func := "pitot/pitotlaw10.ConfigHolds", spec := "configHolds", unfollowed := true, recurses := true, plainKeys := false, apart := false }
def ConfigHoldsSaid : Prop := configHoldsRow.holds Try.pinned (OpenSpec.ofChange configHoldsSpec)

/-- ITS FALSE NEIGHBOUR: 'it returns false'. Refute it at one input. -/
def configHoldsWrong : ChangeSpec := { name := "configHolds", fn := fun _ => fun
  | [d] => { results := [.lit (.bool false)], args := [d] }
  | _ => none }
def ConfigHoldsWrongFalsely : Prop := configHoldsRow.holds Try.pinned (OpenSpec.ofChange configHoldsWrong)

/-- 'pitotlaw11.ImageEncodes': WHATEVER THE INPUT: true; the input reads as it did. -/
def imageEncodesSpec : ChangeSpec := { name := "imageEncodes", fn := fun _ => fun
  | [d] => { results := [.lit (.bool true)], args := [d] }
  | _ => none }
def imageEncodesRow : OpenClaim := { program := "ytgkcackpffimmaa", sum := "912d2a07b4eb1fdb8a658811733d994c97118bdd7ef2f45594ca087a9f0a8b08", func := "pitot/pitotlaw11.ImageEncodes", spec := "imageEncodes", unfollowed := true, recurses := true, plainKeys := false, apart := false }
def ImageEncodesSaid : Prop := imageEncodesRow.holds Try.pinned (OpenSpec.ofChange imageEncodesSpec)

/-- ITS FALSE NEIGHBOUR: 'it returns false'. Refute it at one input. -/
def imageEncodesWrong : ChangeSpec := { name := "imageEncodes", fn := fun _ => fun
  | [d] => { results := [.lit (.bool false)], args := [d] }
  | _ => none }
def ImageEncodesWrongFalsely : Prop := imageEncodesRow.holds Try.pinned (OpenSpec.ofChange imageEncodesWrong)

/-- 'pitotlaw04.EtherEncodes': WHATEVER THE INPUT: true; the input reads as it did. -/
def etherEncodesSpec : ChangeSpec := { name := "etherEncodes", fn := fun _ => fun
  | [d1, d2] => { results := [.lit (.bool true)], args := [d1, d2] }
  | _ => none }
def etherEncodesRow : OpenClaim := { program := "ytgkcackpffimmaa", sum := "912d2a07b4eb1fdb8a658811733d994c97118bdd7ef2f45594ca087a9f0a8b08", func := "pitot/pitotlaw04.EtherEncodes", spec := "etherEncodes", inPlace := ["internal/abi.NoEscape", "internal/bytealg.MakeNoZero"], plainKeys := false, apart := false }
def EtherEncodesSaid : Prop := etherEncodesRow.holds Try.pinned (OpenSpec.ofChange etherEncodesSpec)

/-- ITS FALSE NEIGHBOUR: 'it returns false'. Refute it at one input. -/
def etherEncodesWrong : ChangeSpec := { name := "etherEncodes", fn := fun _ => fun
  | [d1, d2] => { results := [.lit (.bool false)], args := [d1, d2] }
  | _ => none }
def EtherEncodesWrongFalsely : Prop := etherEncodesRow.holds Try.pinned (OpenSpec.ofChange etherEncodesWrong)

/-- 'pitotlaw04.EtherAgain': WHATEVER THE INPUT: true; the input reads as it did. -/
def etherAgainSpec : ChangeSpec := { name := "etherAgain", fn := fun _ => fun
  | [d] => { results := [.lit (.bool true)], args := [d] }
  | _ => none }
def etherAgainRow : OpenClaim := { program := "ytgkcackpffimmaa", sum := "912d2a07b4eb1fdb8a658811733d994c97118bdd7ef2f45594ca087a9f0a8b08", func := "pitot/pitotlaw04.EtherAgain", spec := "etherAgain", inPlace := ["internal/abi.NoEscape", "internal/bytealg.MakeNoZero"], plainKeys := false, apart := false }
def EtherAgainSaid : Prop := etherAgainRow.holds Try.pinned (OpenSpec.ofChange etherAgainSpec)

/-- ITS FALSE NEIGHBOUR: 'it returns false'. Refute it at one input. -/
def etherAgainWrong : ChangeSpec := { name := "etherAgain", fn := fun _ => fun
  | [d] => { results := [.lit (.bool false)], args := [d] }
  | _ => none }
def EtherAgainWrongFalsely : Prop := etherAgainRow.holds Try.pinned (OpenSpec.ofChange etherAgainWrong)

/-- 'pitotlaw04.EtherTold': WHATEVER THE INPUT: true; the input reads as it did. -/
def etherToldSpec : ChangeSpec := { name := "etherTold", fn := fun _ => fun
  | [d1, d2, d3] => { results := [.lit (.bool true)], args := [d1, d2, d3] }
  | _ => none }
def etherToldRow : OpenClaim := { program := "ytgkcackpffimmaa", sum := "912d2a07b4eb1fdb8a658811733d994c97118bdd7ef2f45594ca087a9f0a8b08", func := "pitot/pitotlaw04.EtherTold", spec := "etherTold", inPlace := ["internal/abi.NoEscape", "internal/bytealg.MakeNoZero"], plainKeys := false, apart := false }
def EtherToldSaid : Prop := etherToldRow.holds Try.pinned (OpenSpec.ofChange etherToldSpec)

/-- ITS FALSE NEIGHBOUR: 'it returns false'. Refute it at one input. -/
def etherToldWrong : ChangeSpec := { name := "etherTold", fn := fun _ => fun
  | [d1, d2, d3] => { results := [.lit (.bool false)], args := [d1, d2, d3] }
  | _ => none }
def EtherToldWrongFalsely : Prop := etherToldRow.holds Try.pinned (OpenSpec.ofChange etherToldWrong)

/-- 'pitotlaw04.EtherSides': WHATEVER THE INPUT: true; the input reads as it did. -/
def etherSidesSpec : ChangeSpec := { name := "etherSides", fn := fun _ => fun
  | [d] => { results := [.lit (.bool true)], args := [d] }
  | _ => none }
def etherSidesRow : OpenClaim := { program := "ytgkcackpffimmaa", sum := "912d2a07b4eb1fdb8a658811733d994c97118bdd7ef2f45594ca087a9f0a8b08", func := "pitot/pitotlaw04.EtherSides", spec := "etherSides", inPlace := ["internal/abi.NoEscape", "internal/bytealg.MakeNoZero"], plainKeys := false, apart := false }
def EtherSidesSaid : Prop := etherSidesRow.holds Try.pinned (OpenSpec.ofChange etherSidesSpec)

/-- ITS FALSE NEIGHBOUR: 'it returns false'. Refute it at one input. -/
def etherSidesWrong : ChangeSpec := { name := "etherSides", fn := fun _ => fun
  | [d] => { results := [.lit (.bool false)], args := [d] }
  | _ => none }
def EtherSidesWrongFalsely : Prop := etherSidesRow.holds Try.pinned (OpenSpec.ofChange etherSidesWrong)

/-- 'pitotlaw04.EtherDecodes': WHATEVER THE INPUT: true; the input reads as it did. -/
def etherDecodesSpec : ChangeSpec := { name := "etherDecodes", fn := fun _ => fun
  | [d] => { results := [.lit (.bool true)], args := [d] }
  | _ => none }
def etherDecodesRow : OpenClaim := { program := "ytgkcackpffimmaa", sum := "912d2a07b4eb1fdb8a658811733d994c97118bdd7ef2f45594ca087a9f0a8b08", func := "pitot/pitotlaw04.EtherDecodes", spec := "etherDecodes", inPlace := ["internal/abi.NoEscape", "internal/bytealg.MakeNoZero"], plainKeys := false, apart := false }
def EtherDecodesSaid : Prop := etherDecodesRow.holds Try.pinned (OpenSpec.ofChange etherDecodesSpec)

/-- ITS FALSE NEIGHBOUR: 'it returns false'. Refute it at one input. -/
def etherDecodesWrong : ChangeSpec := { name := "etherDecodes", fn := fun _ => fun
  | [d] => { results := [.lit (.bool false)], args := [d] }
  | _ => none }
def EtherDecodesWrongFalsely : Prop := etherDecodesRow.holds Try.pinned (OpenSpec.ofChange etherDecodesWrong)

/-- 'pitotlaw04.EtherBack': WHATEVER THE INPUT: true; the input reads as it did. -/
def etherBackSpec : ChangeSpec := { name := "etherBack", fn := fun _ => fun
  | [d] => { results := [.lit (.bool true)], args := [d] }
  | _ => none }
def etherBackRow : OpenClaim := { program := "ytgkcackpffimmaa", sum := "912d2a07b4eb1fdb8a658811733d994c97118bdd7ef2f45594ca087a9f0a8b08", func := "pitot/pitotlaw04.EtherBack", spec := "etherBack", inPlace := ["internal/abi.NoEscape", "internal/bytealg.MakeNoZero"], plainKeys := false, apart := false }
def EtherBackSaid : Prop := etherBackRow.holds Try.pinned (OpenSpec.ofChange etherBackSpec)

/-- ITS FALSE NEIGHBOUR: 'it returns false'. Refute it at one input. -/
def etherBackWrong : ChangeSpec := { name := "etherBack", fn := fun _ => fun
  | [d] => { results := [.lit (.bool false)], args := [d] }
  | _ => none }
def EtherBackWrongFalsely : Prop := etherBackRow.holds Try.pinned (OpenSpec.ofChange etherBackWrong)

/-- 'pitotlaw22.PortsQueue': WHATEVER THE INPUT: true; the input reads as it did. -/
def portsQueueSpec : ChangeSpec := { name := "portsQueue", fn := fun _ => fun
  | [d1, d2, d3] => { results := [.lit (.bool true)], args := [d1, d2, d3] }
  | _ => none }
def portsQueueRow : OpenClaim := { program := "ytgkcackpffimmaa", sum := "912d2a07b4eb1fdb8a658811733d994c97118bdd7ef2f45594ca087a9f0a8b08", func := "pitot/pitotlaw22.PortsQueue", spec := "portsQueue", unfollowed := true, recurses := true, plainKeys := false, apart := false }
def PortsQueueSaid : Prop := portsQueueRow.holds Try.pinned (OpenSpec.ofChange portsQueueSpec)

/-- ITS FALSE NEIGHBOUR: 'it returns false'. Refute it at one input. -/
def portsQueueWrong : ChangeSpec := { name := "portsQueue", fn := fun _ => fun
  | [d1, d2, d3] => { results := [.lit (.bool false)], args := [d1, d2, d3] }
  | _ => none }
def PortsQueueWrongFalsely : Prop := portsQueueRow.holds Try.pinned (OpenSpec.ofChange portsQueueWrong)

/-- 'pitotlaw22.PortsSample': WHATEVER THE INPUT: true; the input reads as it did. -/
def portsSampleSpec : ChangeSpec := { name := "portsSample", fn := fun _ => fun
  | [d1, d2, d3] => { results := [.lit (.bool true)], args := [d1, d2, d3] }
  | _ => none }
def portsSampleRow : OpenClaim := { program := "ytgkcackpffimmaa", sum := "912d2a07b4eb1fdb8a658811733d994c97118bdd7ef2f45594ca087a9f0a8b08", func := "pitot/pitotlaw22.PortsSample", spec := "portsSample", unfollowed := true, recurses := true, plainKeys := false, apart := false }
def PortsSampleSaid : Prop := portsSampleRow.holds Try.pinned (OpenSpec.ofChange portsSampleSpec)

/-- ITS FALSE NEIGHBOUR: 'it returns false'. Refute it at one input. -/
def portsSampleWrong : ChangeSpec := { name := "portsSample", fn := fun _ => fun
  | [d1, d2, d3] => { results := [.lit (.bool false)], args := [d1, d2, d3] }
  | _ => none }
def PortsSampleWrongFalsely : Prop := portsSampleRow.holds Try.pinned (OpenSpec.ofChange portsSampleWrong)

/-- 'pitotlaw22.PortsRoom': WHATEVER THE INPUT: true; the input reads as it did. -/
def portsRoomSpec : ChangeSpec := { name := "portsRoom", fn := fun _ => fun
  | [d1, d2, d3] => { results := [.lit (.bool true)], args := [d1, d2, d3] }
  | _ => none }
def portsRoomRow : OpenClaim := { program := "ytgkcackpffimmaa", sum := "912d2a07b4eb1fdb8a658811733d994c97118bdd7ef2f45594ca087a9f0a8b08", func := "pitot/pitotlaw22.PortsRoom", spec := "portsRoom", unfollowed := true, recurses := true, plainKeys := false, apart := false }
def PortsRoomSaid : Prop := portsRoomRow.holds Try.pinned (OpenSpec.ofChange portsRoomSpec)

/-- ITS FALSE NEIGHBOUR: 'it returns false'. Refute it at one input. -/
def portsRoomWrong : ChangeSpec := { name := "portsRoom", fn := fun _ => fun
  | [d1, d2, d3] => { results := [.lit (.bool false)], args := [d1, d2, d3] }
  | _ => none }
def PortsRoomWrongFalsely : Prop := portsRoomRow.holds Try.pinned (OpenSpec.ofChange portsRoomWrong)

/-- 'pitotlaw22.PortsPlays': WHATEVER THE INPUT: true; the input reads as it did. -/
def portsPlaysSpec : ChangeSpec := { name := "portsPlays", fn := fun _ => fun
  | [d1, d2, d3] => { results := [.lit (.bool true)], args := [d1, d2, d3] }
  | _ => none }
def portsPlaysRow : OpenClaim := { program := "ytgkcackpffimmaa", sum := "912d2a07b4eb1fdb8a658811733d994c97118bdd7ef2f45594ca087a9f0a8b08", func := "pitot/pitotlaw22.PortsPlays", spec := "portsPlays", unfollowed := true, recurses := true, plainKeys := false, apart := false }
def PortsPlaysSaid : Prop := portsPlaysRow.holds Try.pinned (OpenSpec.ofChange portsPlaysSpec)

/-- ITS FALSE NEIGHBOUR: 'it returns false'. Refute it at one input. -/
def portsPlaysWrong : ChangeSpec := { name := "portsPlays", fn := fun _ => fun
  | [d1, d2, d3] => { results := [.lit (.bool false)], args := [d1, d2, d3] }
  | _ => none }
def PortsPlaysWrongFalsely : Prop := portsPlaysRow.holds Try.pinned (OpenSpec.ofChange portsPlaysWrong)

/-- 'pitotlaw22.PortsOwn': WHATEVER THE INPUT: true; the input reads as it did. -/
def portsOwnSpec : ChangeSpec := { name := "portsOwn", fn := fun _ => fun
  | [d] => { results := [.lit (.bool true)], args := [d] }
  | _ => none }
def portsOwnRow : OpenClaim := { program := "ytgkcackpffimmaa", sum := "912d2a07b4eb1fdb8a658811733d994c97118bdd7ef2f45594ca087a9f0a8b08", func := "pitot/pitotlaw22.PortsOwn", spec := "portsOwn", unfollowed := true, recurses := true, plainKeys := false, apart := false }
def PortsOwnSaid : Prop := portsOwnRow.holds Try.pinned (OpenSpec.ofChange portsOwnSpec)

/-- ITS FALSE NEIGHBOUR: 'it returns false'. Refute it at one input. -/
def portsOwnWrong : ChangeSpec := { name := "portsOwn", fn := fun _ => fun
  | [d] => { results := [.lit (.bool false)], args := [d] }
  | _ => none }
def PortsOwnWrongFalsely : Prop := portsOwnRow.holds Try.pinned (OpenSpec.ofChange portsOwnWrong)

/-- 'pitotlaw22.PortsNil': WHATEVER THE INPUT: true; the input reads as it did. -/
def portsNilSpec : ChangeSpec := { name := "portsNil", fn := fun _ => fun
  | [d1, d2, d3] => { results := [.lit (.bool true)], args := [d1, d2, d3] }
  | _ => none }
def portsNilRow : OpenClaim := { program := "ytgkcackpffimmaa", sum := "912d2a07b4eb1fdb8a658811733d994c97118bdd7ef2f45594ca087a9f0a8b08", func := "pitot/pitotlaw22.PortsNil", spec := "portsNil", unfollowed := true, recurses := true, plainKeys := false, apart := false }
def PortsNilSaid : Prop := portsNilRow.holds Try.pinned (OpenSpec.ofChange portsNilSpec)

/-- ITS FALSE NEIGHBOUR: 'it returns false'. Refute it at one input. -/
def portsNilWrong : ChangeSpec := { name := "portsNil", fn := fun _ => fun
  | [d1, d2, d3] => { results := [.lit (.bool false)], args := [d1, d2, d3] }
  | _ => none }
def PortsNilWrongFalsely : Prop := portsNilRow.holds Try.pinned (OpenSpec.ofChange portsNilWrong)

/-- 'pitotlaw11.ImageLoads': WHATEVER THE INPUT: true; the input reads as it did. -/
def imageLoadsSpec : ChangeSpec := { name := "imageLoads", fn := fun _ => fun
  | [d] => { results := [.lit (.bool true)], args := [d] }
  | _ => none }
def imageLoadsRow : OpenClaim := { program := "ytgkcackpffimmaa", sum := "912d2a07b4eb1fdb8a658811733d994c97118bdd7ef2f45594ca087a9f0a8b08", func := "pitot/pitotlaw11.ImageLoads", spec := "imageLoads", unfollowed := true, recurses := true, plainKeys := false, apart := false }
def ImageLoadsSaid : Prop := imageLoadsRow.holds Try.pinned (OpenSpec.ofChange imageLoadsSpec)

/-- ITS FALSE NEIGHBOUR: 'it returns false'. Refute it at one input. -/
def imageLoadsWrong : ChangeSpec := { name := "imageLoads", fn := fun _ => fun
  | [d] => { results := [.lit (.bool false)], args := [d] }
  | _ => none }
def ImageLoadsWrongFalsely : Prop := imageLoadsRow.holds Try.pinned (OpenSpec.ofChange imageLoadsWrong)

/-- 'pitotlaw11.ImageBack': WHATEVER THE INPUT: true; the input reads as it did. -/
def imageBackSpec : ChangeSpec := { name := "imageBack", fn := fun _ => fun
  | [d] => { results := [.lit (.bool true)], args := [d] }
  | _ => none }
def imageBackRow : OpenClaim := { program := "ytgkcackpffimmaa", sum := "912d2a07b4eb1fdb8a658811733d994c97118bdd7ef2f45594ca087a9f0a8b08", func := "pitot/pitotlaw11.ImageBack", spec := "imageBack", unfollowed := true, recurses := true, plainKeys := false, apart := false }
def ImageBackSaid : Prop := imageBackRow.holds Try.pinned (OpenSpec.ofChange imageBackSpec)

/-- ITS FALSE NEIGHBOUR: 'it returns false'. Refute it at one input. -/
def imageBackWrong : ChangeSpec := { name := "imageBack", fn := fun _ => fun
  | [d] => { results := [.lit (.bool false)], args := [d] }
  | _ => none }
def ImageBackWrongFalsely : Prop := imageBackRow.holds Try.pinned (OpenSpec.ofChange imageBackWrong)

/-- 'pitotlaw11.ImageAgain': WHATEVER THE INPUT: true; the input reads as it did. -/
def imageAgainSpec : ChangeSpec := { name := "imageAgain", fn := fun _ => fun
  | [d] => { results := [.lit (.bool true)], args := [d] }
  | _ => none }
def imageAgainRow : OpenClaim := { program := "ytgkcackpffimmaa", sum := "912d2a07b4eb1fdb8a658811733d994c97118bdd7ef2f45594ca087a9f0a8b08", func := "pitot/pitotlaw11.ImageAgain", spec := "imageAgain", unfollowed := true, recurses := true, plainKeys := false, apart := false }
def ImageAgainSaid : Prop := imageAgainRow.holds Try.pinned (OpenSpec.ofChange imageAgainSpec)

/-- ITS FALSE NEIGHBOUR: 'it returns false'. Refute it at one input. -/
def imageAgainWrong : ChangeSpec := { name := "imageAgain", fn := fun _ => fun
  | [d] => { results := [.lit (.bool false)], args := [d] }
  | _ => none }
def ImageAgainWrongFalsely : Prop := imageAgainRow.holds Try.pinned (OpenSpec.ofChange imageAgainWrong)

/-- 'pitotlaw11.ImageTold': WHATEVER THE INPUT: true; the input reads as it did. -/
def imageToldSpec : ChangeSpec := { name := "imageTold", fn := fun _ => fun
  | [d1, d2, d3] => { results := [.lit (.bool true)], args := [d1, d2, d3] }
  | _ => none }
def imageToldRow : OpenClaim := { program := "ytgkcackpffimmaa", sum := "912d2a07b4eb1fdb8a658811733d994c97118bdd7ef2f45594ca087a9f0a8b08", func := "pitot/pitotlaw11.ImageTold", spec := "imageTold", unfollowed := true, recurses := true, plainKeys := false, apart := false }
def ImageToldSaid : Prop := imageToldRow.holds Try.pinned (OpenSpec.ofChange imageToldSpec)

/-- ITS FALSE NEIGHBOUR: 'it returns false'. Refute it at one input. -/
def imageToldWrong : ChangeSpec := { name := "imageTold", fn := fun _ => fun
  | [d1, d2, d3] => { results := [.lit (.bool false)], args := [d1, d2, d3] }
  | _ => none }
def ImageToldWrongFalsely : Prop := imageToldRow.holds Try.pinned (OpenSpec.ofChange imageToldWrong)

/-- 'pitotlaw10.ConfigHosts': WHATEVER THE INPUT: true; the input reads as it did. -/
def configHostsSpec : ChangeSpec := { name := "configHosts", fn := fun _ => fun
  | [d] => { results := [.lit (.bool true)], args := [d] }
  | _ => none }
def configHostsRow : OpenClaim := { program := "ytgkcackpffimmaa", sum := "912d2a07b4eb1fdb8a658811733d994c97118bdd7ef2f45594ca087a9f0a8b08", func := "pitot/pitotlaw10.ConfigHosts", spec := "configHosts", unfollowed := true, recurses := true, plainKeys := false, apart := false }
def ConfigHostsSaid : Prop := configHostsRow.holds Try.pinned (OpenSpec.ofChange configHostsSpec)

/-- ITS FALSE NEIGHBOUR: 'it returns false'. Refute it at one input. -/
def configHostsWrong : ChangeSpec := { name := "configHosts", fn := fun _ => fun
  | [d] => { results := [.lit (.bool false)], args := [d] }
  | _ => none }
def ConfigHostsWrongFalsely : Prop := configHostsRow.holds Try.pinned (OpenSpec.ofChange configHostsWrong)

/-- 'pitotlaw10.ConfigFinds': WHATEVER THE INPUT: true; the input reads as it did. -/
def configFindsSpec : ChangeSpec := { name := "configFinds", fn := fun _ => fun
  | [d1, d2, d3] => { results := [.lit (.bool true)], args := [d1, d2, d3] }
  | _ => none }
def configFindsRow : OpenClaim := { program := "ytgkcackpffimmaa", sum := "912d2a07b4eb1fdb8a658811733d994c97118bdd7ef2f45594ca087a9f0a8b08", func := "pitot/pitotlaw10.ConfigFinds", spec := "configFinds", unfollowed := true, recurses := true, plainKeys := false, apart := false }
def ConfigFindsSaid : Prop := configFindsRow.holds Try.pinned (OpenSpec.ofChange configFindsSpec)

/-- ITS FALSE NEIGHBOUR: 'it returns false'. Refute it at one input. -/
def configFindsWrong : ChangeSpec := { name := "configFinds", fn := fun _ => fun
  | [d1, d2, d3] => { results := [.lit (.bool false)], args := [d1, d2, d3] }
  | _ => none }
def ConfigFindsWrongFalsely : Prop := configFindsRow.holds Try.pinned (OpenSpec.ofChange configFindsWrong)

/- THE SECOND FORM. 'bulk': how many values and letters a reading holds, each counted each time it is reached (what is shared counts as often as it is met; a slice's spare places count too). A statement '..UptoSaid' is the law's where the arguments, and the package variables that the reading takes, are together of bulk at most 1048576: NARROWER than '..Said'. Prove '..Said' where nothing that the law and all that it calls make is longer than what came in: it says more and counts as full. Else prove '..UptoSaid'. A law counts once. -/
mutual
def uptoBulk {H : Type} : DataW H → Nat
  | .lit (.string bytes) => bytes.length + 1
  | .lit _ => 1
  | .nil => 1
  | .ptr d => uptoBulk d + 1
  | .slice elems spare => uptoBulkAll elems + uptoBulkAll spare + 1
  | .agg parts => uptoBulkAll parts + 1
  | .iface _ d => uptoBulk d + 1
  | .map entries => uptoBulkEntries entries + 1
  | .held _ => 1
def uptoBulkAll {H : Type} : List (DataW H) → Nat
  | [] => 0
  | d :: r => uptoBulk d + uptoBulkAll r
def uptoBulkEntries {H : Type} : List (Lit × DataW H) → Nat
  | [] => 0
  | x :: r => uptoBulkEntry x + uptoBulkEntries r
def uptoBulkEntry {H : Type} : Lit × DataW H → Nat
  | (.string bytes, d) => bytes.length + uptoBulk d + 1
  | (_, d) => uptoBulk d + 1
 end
def uptoSmall : (H : Type) → List (DataW H) → Bool := fun _ ds => decide (uptoBulkAll ds ≤ 1048576)
def OpenSpec.upto (s : _root_.Go.ChangeSpec) : _root_.Go.OpenSpec := { _root_.Go.OpenSpec.ofChange s with cond := some uptoSmall }

/-- 'pitotlaw10.ConfigChecks', WHERE WHAT IT READS IS OF BULK AT MOST 1048576: true; the input reads as it did. -/
def configChecksUptoRow : OpenClaim := { program := "ytgkcackpffimmaa", sum := "912d2a07b4eb1fdb8a658811733d994c97118bdd7ef2f45594ca087a9f0a8b08", func := "pitot/pitotlaw10.ConfigChecks", spec := "configChecks", unfollowed := true, recurses := true, plainKeys := false, apart := false, narrowed := true }
def ConfigChecksUptoSaid : Prop := configChecksUptoRow.holds Try.pinned (OpenSpec.upto configChecksSpec)

/-- 'pitotlaw10.ConfigLess', WHERE WHAT IT READS IS OF BULK AT MOST 1048576: true; the input reads as it did. -/
def configLessUptoRow : OpenClaim := { program := "ytgkcackpffimmaa", sum := "912d2a07b4eb1fdb8a658811733d994c97118bdd7ef2f45594ca087a9f0a8b08", func := "pitot/pitotlaw10.ConfigLess", spec := "configLess", unfollowed := true, recurses := true, plainKeys := false, apart := false, narrowed := true }
def ConfigLessUptoSaid : Prop := configLessUptoRow.holds Try.pinned (OpenSpec.upto configLessSpec)

/-- 'pitotlaw10.ConfigFirst', WHERE WHAT IT READS IS OF BULK AT MOST 1048576: true; the input reads as it did. -/
def configFirstUptoRow : OpenClaim := { program := "ytgkcackpffimmaa", sum := "912d2a07b4eb1fdb8a658811733d994c97118bdd7ef2f45594ca087a9f0a8b08", func := "pitot/pitotlaw10.ConfigFirst", spec := "configFirst", unfollowed := true, recurses := true, plainKeys := false, apart := false, narrowed := true }
def ConfigFirstUptoSaid : Prop := configFirstUptoRow.holds Try.pinned (OpenSpec.upto configFirstSpec)

/-- 'pitotlaw10.ConfigHolds', WHERE WHAT IT READS IS OF BULK AT MOST 1048576: true; the input reads as it did. -/
def configHoldsUptoRow : OpenClaim := { program := "ytgkcackpffimmaa", sum := "912d2a07b4eb1fdb8a658811733d994c97118bdd7ef2f45594ca087a9f0a8b08", func := "pitot/pitotlaw10.ConfigHolds", spec := "configHolds", unfollowed := true, recurses := true, plainKeys := false, apart := false, narrowed := true }
def ConfigHoldsUptoSaid : Prop := configHoldsUptoRow.holds Try.pinned (OpenSpec.upto configHoldsSpec)

/-- 'pitotlaw11.ImageEncodes', WHERE WHAT IT READS IS OF BULK AT MOST 1048576: true; the input reads as it did. -/
def imageEncodesUptoRow : OpenClaim := { program := "ytgkcackpffimmaa", sum := "912d2a07b4eb1fdb8a658811733d994c97118bdd7ef2f45594ca087a9f0a8b08", func := "pitot/pitotlaw11.ImageEncodes", spec := "imageEncodes", unfollowed := true, recurses := true, plainKeys := false, apart := false, narrowed := true }
def ImageEncodesUptoSaid : Prop := imageEncodesUptoRow.holds Try.pinned (OpenSpec.upto imageEncodesSpec)

/-- 'pitotlaw04.EtherEncodes', WHERE WHAT IT READS IS OF BULK AT MOST 1048576: true; the input reads as it did. -/
def etherEncodesUptoRow : OpenClaim := { program := "ytgkcackpffimmaa", sum := "912d2a07b4eb1fdb8a658811733d994c97118bdd7ef2f45594ca087a9f0a8b08", func := "pitot/pitotlaw04.EtherEncodes", spec := "etherEncodes", inPlace := ["internal/abi.NoEscape", "internal/bytealg.MakeNoZero"], plainKeys := false, apart := false, narrowed := true }
def EtherEncodesUptoSaid : Prop := etherEncodesUptoRow.holds Try.pinned (OpenSpec.upto etherEncodesSpec)

/-- 'pitotlaw04.EtherAgain', WHERE WHAT IT READS IS OF BULK AT MOST 1048576: true; the input reads as it did. -/
def etherAgainUptoRow : OpenClaim := { program := "ytgkcackpffimmaa", sum := "912d2a07b4eb1fdb8a658811733d994c97118bdd7ef2f45594ca087a9f0a8b08", func := "pitot/pitotlaw04.EtherAgain", spec := "etherAgain", inPlace := ["internal/abi.NoEscape", "internal/bytealg.MakeNoZero"], plainKeys := false, apart := false, narrowed := true }
def EtherAgainUptoSaid : Prop := etherAgainUptoRow.holds Try.pinned (OpenSpec.upto etherAgainSpec)

/-- 'pitotlaw04.EtherTold', WHERE WHAT IT READS IS OF BULK AT MOST 1048576: true; the input reads as it did. -/
def etherToldUptoRow : OpenClaim := { program := "ytgkcackpffimmaa", sum := "912d2a07b4eb1fdb8a658811733d994c97118bdd7ef2f45594ca087a9f0a8b08", func := "pitot/pitotlaw04.EtherTold", spec := "etherTold", inPlace := ["internal/abi.NoEscape", "internal/bytealg.MakeNoZero"], plainKeys := false, apart := false, narrowed := true }
def EtherToldUptoSaid : Prop := etherToldUptoRow.holds Try.pinned (OpenSpec.upto etherToldSpec)

/-- 'pitotlaw04.EtherSides', WHERE WHAT IT READS IS OF BULK AT MOST 1048576: true; the input reads as it did. -/
def etherSidesUptoRow : OpenClaim := { program := "ytgkcackpffimmaa", sum := "912d2a07b4eb1fdb8a658811733d994c97118bdd7ef2f45594ca087a9f0a8b08", func := "pitot/pitotlaw04.EtherSides", spec := "etherSides", inPlace := ["internal/abi.NoEscape", "internal/bytealg.MakeNoZero"], plainKeys := false, apart := false, narrowed := true }
def EtherSidesUptoSaid : Prop := etherSidesUptoRow.holds Try.pinned (OpenSpec.upto etherSidesSpec)

/-- 'pitotlaw04.EtherDecodes', WHERE WHAT IT READS IS OF BULK AT MOST 1048576: true; the input reads as it did. -/
def etherDecodesUptoRow : OpenClaim := { program := "ytgkcackpffimmaa", sum := "912d2a07b4eb1fdb8a658811733d994c97118bdd7ef2f45594ca087a9f0a8b08", func := "pitot/pitotlaw04.EtherDecodes", spec := "etherDecodes", inPlace := ["internal/abi.NoEscape", "internal/bytealg.MakeNoZero"], plainKeys := false, apart := false, narrowed := true }
def EtherDecodesUptoSaid : Prop := etherDecodesUptoRow.holds Try.pinned (OpenSpec.upto etherDecodesSpec)

/-- 'pitotlaw04.EtherBack', WHERE WHAT IT READS IS OF BULK AT MOST 1048576: true; the input reads as it did. -/
def etherBackUptoRow : OpenClaim := { program := "ytgkcackpffimmaa", sum := "912d2a07b4eb1fdb8a658811733d994c97118bdd7ef2f45594ca087a9f0a8b08", func := "pitot/pitotlaw04.EtherBack", spec := "etherBack", inPlace := ["internal/abi.NoEscape", "internal/bytealg.MakeNoZero"], plainKeys := false, apart := false, narrowed := true }
def EtherBackUptoSaid : Prop := etherBackUptoRow.holds Try.pinned (OpenSpec.upto etherBackSpec)

/-- 'pitotlaw22.PortsQueue', WHERE WHAT IT READS IS OF BULK AT MOST 1048576: true; the input reads as it did. -/
def portsQueueUptoRow : OpenClaim := { program := "ytgkcackpffimmaa", sum := "912d2a07b4eb1fdb8a658811733d994c97118bdd7ef2f45594ca087a9f0a8b08", func := "pitot/pitotlaw22.PortsQueue", spec := "portsQueue", unfollowed := true, recurses := true, plainKeys := false, apart := false, narrowed := true }
def PortsQueueUptoSaid : Prop := portsQueueUptoRow.holds Try.pinned (OpenSpec.upto portsQueueSpec)

/-- 'pitotlaw22.PortsSample', WHERE WHAT IT READS IS OF BULK AT MOST 1048576: true; the input reads as it did. -/
def portsSampleUptoRow : OpenClaim := { program := "ytgkcackpffimmaa", sum := "912d2a07b4eb1fdb8a658811733d994c97118bdd7ef2f45594ca087a9f0a8b08", func := "pitot/pitotlaw22.PortsSample", spec := "portsSample", unfollowed := true, recurses := true, plainKeys := false, apart := false, narrowed := true }
def PortsSampleUptoSaid : Prop := portsSampleUptoRow.holds Try.pinned (OpenSpec.upto portsSampleSpec)

/-- 'pitotlaw22.PortsRoom', WHERE WHAT IT READS IS OF BULK AT MOST 1048576: true; the input reads as it did. -/
def portsRoomUptoRow : OpenClaim := { program := "ytgkcackpffimmaa", sum := "912d2a07b4eb1fdb8a658811733d994c97118bdd7ef2f45594ca087a9f0a8b08", func := "pitot/pitotlaw22.PortsRoom", spec := "portsRoom", unfollowed := true, recurses := true, plainKeys := false, apart := false, narrowed := true }
def PortsRoomUptoSaid : Prop := portsRoomUptoRow.holds Try.pinned (OpenSpec.upto portsRoomSpec)

/-- 'pitotlaw22.PortsPlays', WHERE WHAT IT READS IS OF BULK AT MOST 1048576: true; the input reads as it did. -/
def portsPlaysUptoRow : OpenClaim := { program := "ytgkcackpffimmaa", sum := "912d2a07b4eb1fdb8a658811733d994c97118bdd7ef2f45594ca087a9f0a8b08", func := "pitot/pitotlaw22.PortsPlays", spec := "portsPlays", unfollowed := true, recurses := true, plainKeys := false, apart := false, narrowed := true }
def PortsPlaysUptoSaid : Prop := portsPlaysUptoRow.holds Try.pinned (OpenSpec.upto portsPlaysSpec)

/-- 'pitotlaw22.PortsOwn', WHERE WHAT IT READS IS OF BULK AT MOST 1048576: true; the input reads as it did. -/
def portsOwnUptoRow : OpenClaim := { program := "ytgkcackpffimmaa", sum := "912d2a07b4eb1fdb8a658811733d994c97118bdd7ef2f45594ca087a9f0a8b08", func := "pitot/pitotlaw22.PortsOwn", spec := "portsOwn", unfollowed := true, recurses := true, plainKeys := false, apart := false, narrowed := true }
def PortsOwnUptoSaid : Prop := portsOwnUptoRow.holds Try.pinned (OpenSpec.upto portsOwnSpec)

/-- 'pitotlaw22.PortsNil', WHERE WHAT IT READS IS OF BULK AT MOST 1048576: true; the input reads as it did. -/
def portsNilUptoRow : OpenClaim := { program := "ytgkcackpffimmaa", sum := "912d2a07b4eb1fdb8a658811733d994c97118bdd7ef2f45594ca087a9f0a8b08", func := "pitot/pitotlaw22.PortsNil", spec := "portsNil", unfollowed := true, recurses := true, plainKeys := false, apart := false, narrowed := true }
def PortsNilUptoSaid : Prop := portsNilUptoRow.holds Try.pinned (OpenSpec.upto portsNilSpec)

/-- 'pitotlaw11.ImageLoads', WHERE WHAT IT READS IS OF BULK AT MOST 1048576: true; the input reads as it did. -/
def imageLoadsUptoRow : OpenClaim := { program := "ytgkcackpffimmaa", sum := "912d2a07b4eb1fdb8a658811733d994c97118bdd7ef2f45594ca087a9f0a8b08", func := "pitot/pitotlaw11.ImageLoads", spec := "imageLoads", unfollowed := true, recurses := true, plainKeys := false, apart := false, narrowed := true }
def ImageLoadsUptoSaid : Prop := imageLoadsUptoRow.holds Try.pinned (OpenSpec.upto imageLoadsSpec)

/-- 'pitotlaw11.ImageBack', WHERE WHAT IT READS IS OF BULK AT MOST 1048576: true; the input reads as it did. -/
def imageBackUptoRow : OpenClaim := { program := "ytgkcackpffimmaa", sum := "912d2a07b4eb1fdb8a658811733d994c97118bdd7ef2f45594ca087a9f0a8b08", func := "pitot/pitotlaw11.ImageBack", spec := "imageBack", unfollowed := true, recurses := true, plainKeys := false, apart := false, narrowed := true }
def ImageBackUptoSaid : Prop := imageBackUptoRow.holds Try.pinned (OpenSpec.upto imageBackSpec)

/-- 'pitotlaw11.ImageAgain', WHERE WHAT IT READS IS OF BULK AT MOST 1048576: true; the input reads as it did. -/
def imageAgainUptoRow : OpenClaim := { program := "ytgkcackpffimmaa", sum := "912d2a07b4eb1fdb8a658811733d994c97118bdd7ef2f45594ca087a9f0a8b08", func := "pitot/pitotlaw11.ImageAgain", spec := "imageAgain", unfollowed := true, recurses := true, plainKeys := false, apart := false, narrowed := true }
def ImageAgainUptoSaid : Prop := imageAgainUptoRow.holds Try.pinned (OpenSpec.upto imageAgainSpec)

/-- 'pitotlaw11.ImageTold', WHERE WHAT IT READS IS OF BULK AT MOST 1048576: true; the input reads as it did. -/
def imageToldUptoRow : OpenClaim := { program := "ytgkcackpffimmaa", sum := "912d2a07b4eb1fdb8a658811733d994c97118bdd7ef2f45594ca087a9f0a8b08", func := "pitot/pitotlaw11.ImageTold", spec := "imageTold", unfollowed := true, recurses := true, plainKeys := false, apart := false, narrowed := true }
def ImageToldUptoSaid : Prop := imageToldUptoRow.holds Try.pinned (OpenSpec.upto imageToldSpec)

/-- 'pitotlaw10.ConfigHosts', WHERE WHAT IT READS IS OF BULK AT MOST 1048576: true; the input reads as it did. -/
def configHostsUptoRow : OpenClaim := { program := "ytgkcackpffimmaa", sum := "912d2a07b4eb1fdb8a658811733d994c97118bdd7ef2f45594ca087a9f0a8b08", func := "pitot/pitotlaw10.ConfigHosts", spec := "configHosts", unfollowed := true, recurses := true, plainKeys := false, apart := false, narrowed := true }
def ConfigHostsUptoSaid : Prop := configHostsUptoRow.holds Try.pinned (OpenSpec.upto configHostsSpec)

/-- 'pitotlaw10.ConfigFinds', WHERE WHAT IT READS IS OF BULK AT MOST 1048576: true; the input reads as it did. -/
def configFindsUptoRow : OpenClaim := { program := "ytgkcackpffimmaa", sum := "912d2a07b4eb1fdb8a658811733d994c97118bdd7ef2f45594ca087a9f0a8b08", func := "pitot/pitotlaw10.ConfigFinds", spec := "configFinds", unfollowed := true, recurses := true, plainKeys := false, apart := false, narrowed := true }
def ConfigFindsUptoSaid : Prop := configFindsUptoRow.holds Try.pinned (OpenSpec.upto configFindsSpec)

end Rows
end Go.Proofs.Ytgkcackpffimmaa
