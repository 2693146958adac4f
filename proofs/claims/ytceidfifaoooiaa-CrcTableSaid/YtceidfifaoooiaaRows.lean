/-
  No cell of these rows narrows 'for every input' (looked for: loops, veiled, ifaces, maps, wideKeys, modest, calm, conditions, laid).
  DERIVED. THE GIVEN ROWS OF THIS SEAT. 6 by the template 'for every input the law returns true; each argument reads behind the call as it read before'; 0 by the template 'total and deterministic' (their statements: YtceidfifaoooiaaTotals.lean).
  GIVEN WITH THE SEED: the statements are not yours to turn. If you find one false, say at which input.
  Laid BY PROGRAM, IN A SANDBOX (cutbox-rows.mjs): the forced cells as the released guide's own fill.sh prints them over the translation 8bcde4cf4f966f54… (all of the seat's roots in one cut). By AI agents, Wed Nov 11 2026. No macro, syntax, notation, axiom, sorry.
-/
import Derived.Test.YtceidfifaoooiaaChecked
import GoSem.Claim
import GoSem.ClaimJoined
import GoSem.ClaimMapViews
import Derived.JoinedTies
import Derived.KernelRfl
namespace Go.Proofs.Ytceidfifaoooiaa
/- THE CELL 'sum', in the pinned program and in every row, IS THE sha256 OF THE DUMP (.gsa) THAT YtceidfifaoooiaaProg.lean LOADS. Nothing in Lean hashes anything: it is a label: what it is worth is what the hold of that sum in a sandbox is worth. -/
noncomputable def Try.pinned : Pinned := { name := "ytceidfifaoooiaa", sum := "8bcde4cf4f966f5434f35f0f5797f23ee0f565482b6be92a31d2e5fb69f4a250", checked := Try.checked }
namespace Rows
def none {H : Type} : Left H := { results := [], args := [] }

/-- 'pitotlaw02.CrcTable': WHATEVER THE INPUT: true; the input reads as it did. -/
def crcTableSpec : ChangeSpec := { name := "crcTable", fn := fun _ => fun
  | [d1, d2] => { results := [.lit (.bool true)], args := [d1, d2] }
  | _ => none }
def crcTableRow : OpenClaim := { program := "ytceidfifaoooiaa", sum := "8bcde4cf4f966f5434f35f0f5797f23ee0f565482b6be92a31d2e5fb69f4a250", func := "pitot/pitotlaw02.CrcTable", spec := "crcTable", apart := false }
def CrcTableSaid : Prop := crcTableRow.holds Try.pinned (OpenSpec.ofChange crcTableSpec)

/-- ITS FALSE NEIGHBOUR: 'it returns false'. Refute it at one input. -/
def crcTableWrong : ChangeSpec := { name := "crcTable", fn := fun _ => fun
  | [d1, d2] => { results := [.lit (.bool false)], args := [d1, d2] }
  | _ => none }
def CrcTableWrongFalsely : Prop := crcTableRow.holds Try.pinned (OpenSpec.ofChange crcTableWrong)

/-- 'pitotlaw02.CrcSums': WHATEVER THE INPUT: true; the input reads as it did. -/
def crcSumsSpec : ChangeSpec := { name := "crcSums", fn := fun _ => fun
  | [d] => { results := [.lit (.bool true)], args := [d] }
  | _ => none }
def crcSumsRow : OpenClaim := { program := "ytceidfifaoooiaa", sum := "8bcde4cf4f966f5434f35f0f5797f23ee0f565482b6be92a31d2e5fb69f4a250", func := "pitot/pitotlaw02.CrcSums", spec := "crcSums", apart := false }
def CrcSumsSaid : Prop := crcSumsRow.holds Try.pinned (OpenSpec.ofChange crcSumsSpec)

/-- ITS FALSE NEIGHBOUR: 'it returns false'. Refute it at one input. -/
def crcSumsWrong : ChangeSpec := { name := "crcSums", fn := fun _ => fun
  | [d] => { results := [.lit (.bool false)], args := [d] }
  | _ => none }
def CrcSumsWrongFalsely : Prop := crcSumsRow.holds Try.pinned (OpenSpec.ofChange crcSumsWrong)

/-- 'pitotlaw02.CrcOpens': WHATEVER THE INPUT: true; the input reads as it did. -/
def crcOpensSpec : ChangeSpec := { name := "crcOpens", fn := fun _ => fun
  | [d] => { results := [.lit (.bool true)], args := [d] }
  | _ => none }
def crcOpensRow : OpenClaim := { program := "ytceidfifaoooiaa", sum := "8bcde4cf4f966f5434f35f0f5797f23ee0f565482b6be92a31d2e5fb69f4a250", func := "pitot/pitotlaw02.CrcOpens", spec := "crcOpens", apart := false }
def CrcOpensSaid : Prop := crcOpensRow.holds Try.pinned (OpenSpec.ofChange crcOpensSpec)

/-- ITS FALSE NEIGHBOUR: 'it returns false'. Refute it at one input. -/
def crcOpensWrong : ChangeSpec := { name := "crcOpens", fn := fun _ => fun
  | [d] => { results := [.lit (.bool false)], args := [d] }
  | _ => none }
def CrcOpensWrongFalsely : Prop := crcOpensRow.holds Try.pinned (OpenSpec.ofChange crcOpensWrong)

/-- 'pitotlaw02.CrcBack': WHATEVER THE INPUT: true; the input reads as it did. -/
def crcBackSpec : ChangeSpec := { name := "crcBack", fn := fun _ => fun
  | [d1, d2, d3] => { results := [.lit (.bool true)], args := [d1, d2, d3] }
  | _ => none }
def crcBackRow : OpenClaim := { program := "ytceidfifaoooiaa", sum := "8bcde4cf4f966f5434f35f0f5797f23ee0f565482b6be92a31d2e5fb69f4a250", func := "pitot/pitotlaw02.CrcBack", spec := "crcBack", apart := false }
def CrcBackSaid : Prop := crcBackRow.holds Try.pinned (OpenSpec.ofChange crcBackSpec)

/-- ITS FALSE NEIGHBOUR: 'it returns false'. Refute it at one input. -/
def crcBackWrong : ChangeSpec := { name := "crcBack", fn := fun _ => fun
  | [d1, d2, d3] => { results := [.lit (.bool false)], args := [d1, d2, d3] }
  | _ => none }
def CrcBackWrongFalsely : Prop := crcBackRow.holds Try.pinned (OpenSpec.ofChange crcBackWrong)

/-- 'pitotlaw02.CrcGoes': WHATEVER THE INPUT: true; the input reads as it did. -/
def crcGoesSpec : ChangeSpec := { name := "crcGoes", fn := fun _ => fun
  | [d1, d2] => { results := [.lit (.bool true)], args := [d1, d2] }
  | _ => none }
def crcGoesRow : OpenClaim := { program := "ytceidfifaoooiaa", sum := "8bcde4cf4f966f5434f35f0f5797f23ee0f565482b6be92a31d2e5fb69f4a250", func := "pitot/pitotlaw02.CrcGoes", spec := "crcGoes", apart := false }
def CrcGoesSaid : Prop := crcGoesRow.holds Try.pinned (OpenSpec.ofChange crcGoesSpec)

/-- ITS FALSE NEIGHBOUR: 'it returns false'. Refute it at one input. -/
def crcGoesWrong : ChangeSpec := { name := "crcGoes", fn := fun _ => fun
  | [d1, d2] => { results := [.lit (.bool false)], args := [d1, d2] }
  | _ => none }
def CrcGoesWrongFalsely : Prop := crcGoesRow.holds Try.pinned (OpenSpec.ofChange crcGoesWrong)

/-- 'pitotlaw02.CrcShort': WHATEVER THE INPUT: true; the input reads as it did. -/
def crcShortSpec : ChangeSpec := { name := "crcShort", fn := fun _ => fun
  | [d1, d2] => { results := [.lit (.bool true)], args := [d1, d2] }
  | _ => none }
def crcShortRow : OpenClaim := { program := "ytceidfifaoooiaa", sum := "8bcde4cf4f966f5434f35f0f5797f23ee0f565482b6be92a31d2e5fb69f4a250", func := "pitot/pitotlaw02.CrcShort", spec := "crcShort", apart := false }
def CrcShortSaid : Prop := crcShortRow.holds Try.pinned (OpenSpec.ofChange crcShortSpec)

/-- ITS FALSE NEIGHBOUR: 'it returns false'. Refute it at one input. -/
def crcShortWrong : ChangeSpec := { name := "crcShort", fn := fun _ => fun
  | [d1, d2] => { results := [.lit (.bool false)], args := [d1, d2] }
  | _ => none }
def CrcShortWrongFalsely : Prop := crcShortRow.holds Try.pinned (OpenSpec.ofChange crcShortWrong)

/- THE SECOND FORM. 'bulk': how many values and letters a reading holds, each counted each time it is reached (what is shared counts as often as it is met; a slice's spare places count too). A statement '..UptoSaid' is the law's where the arguments, and the package variables that the reading takes, are together of bulk at most 1048576: NARROWER than '..Said'. Prove '..Said' where nothing that the law and all that it calls make is longer than what came in: it says more and counts as full. Else prove '..UptoSaid'. A law counts once. -/
mutual
def uptoBulk {H : Type} : DataW H → Nat
  | .lit (.string bytes) => bytes.length + 1
  | .lit _ => 1
  | .nil => 1
  | .ptr d => uptoBulk d + 1
  | .slice elems spare => uptoBulkAll elems + uptoBulkAll spare + 1
  | .agg parts => uptoBulkAll parts + 1
  | .iface _ d => uptoBulk d + 1
  | .map entries => uptoBulkEntries entries + 1
  | .held _ => 1
def uptoBulkAll {H : Type} : List (DataW H) → Nat
  | [] => 0
  | d :: r => uptoBulk d + uptoBulkAll r
def uptoBulkEntries {H : Type} : List (Lit × DataW H) → Nat
  | [] => 0
  | x :: r => uptoBulkEntry x + uptoBulkEntries r
def uptoBulkEntry {H : Type} : Lit × DataW H → Nat
  | (.string bytes, d) => bytes.length + uptoBulk d + 1
  | (_, d) => uptoBulk d + 1
 end
def uptoSmall : (H : Type) → List (DataW H) → Bool := fun _ ds => decide (uptoBulkAll ds ≤ 1048576)
def OpenSpec.upto (s : _root_.Go.ChangeSpec) : _root_.Go.OpenSpec := { _root_.Go.OpenSpec.ofChange s with cond := some uptoSmall }

/-- 'pitotlaw02.CrcTable', WHERE WHAT IT READS IS OF BULK AT MOST 1048576: true; the input reads as it did. -/
def crcTableUptoRow : OpenClaim := { program := "ytceidfifaoooiaa", sum := "8bcde4cf4f966f5434f35f0f5797f23ee0f565482b6be92a31d2e5fb69f4a250", func := "pitot/pitotlaw02.CrcTable", spec := "crcTable", apart := false, narrowed := true }
def CrcTableUptoSaid : Prop := crcTableUptoRow.holds Try.pinned (OpenSpec.upto crcTableSpec)

/-- 'pitotlaw02.CrcSums', WHERE WHAT IT READS IS OF BULK AT MOST 1048576: true; the input reads as it did. -/
def crcSumsUptoRow : OpenClaim := { program := "ytceidfifaoooiaa", sum := "8bcde4cf4f966f5434f35f0f5797f23ee0f565482b6be92a31d2e5fb69f4a250", func := "pitot/pitotlaw02.CrcSums", spec := "crcSums", apart := false, narrowed := true }
def CrcSumsUptoSaid : Prop := crcSumsUptoRow.holds Try.pinned (OpenSpec.upto crcSumsSpec)

/-- 'pitotlaw02.CrcOpens', WHERE WHAT IT READS IS OF BULK AT MOST 1048576: true; the input reads as it did. -/
def crcOpensUptoRow : OpenClaim := { program := "ytceidfifaoooiaa", sum := "8bcde4cf4f966f5434f35f0f5797f23ee0f565482b6be92a31d2e5fb69f4a250", func := "pitot/pitotlaw02.CrcOpens", spec := "crcOpens", apart := false, narrowed := true }
def CrcOpensUptoSaid : Prop := crcOpensUptoRow.holds Try.pinned (OpenSpec.upto crcOpensSpec)

/-- 'pitotlaw02.CrcBack', WHERE WHAT IT READS IS OF BULK AT MOST 1048576: true; the input reads as it did. -/
def crcBackUptoRow : OpenClaim := { program := "ytceidfifaoooiaa", sum := "8bcde4cf4f966f5434f35f0f5797f23ee0f565482b6be92a31d2e5fb69f4a250", func := "pitot/pitotlaw02.CrcBack", spec := "crcBack", apart := false, narrowed := true }
def CrcBackUptoSaid : Prop := crcBackUptoRow.holds Try.pinned (OpenSpec.upto crcBackSpec)

/-- 'pitotlaw02.CrcGoes', WHERE WHAT IT READS IS OF BULK AT MOST 1048576: true; the input reads as it did. -/
def crcGoesUptoRow : OpenClaim := { program := "ytceidfifaoooiaa", sum := "8bcde4cf4f966f5434f35f0f5797f23ee0f565482b6be92a31d2e5fb69f4a250", func := "pitot/pitotlaw02.CrcGoes", spec := "crcGoes", apart := false, narrowed := true }
def CrcGoesUptoSaid : Prop := crcGoesUptoRow.holds Try.pinned (OpenSpec.upto crcGoesSpec)

/-- 'pitotlaw02.CrcShort', WHERE WHAT IT READS IS OF BULK AT MOST 1048576: true; the input reads as it did. -/
def crcShortUptoRow : OpenClaim := { program := "ytceidfifaoooiaa", sum := "8bcde4cf4f966f5434f35f0f5797f23ee0f565482b6be92a31d2e5fb69f4a250", func := "pitot/pitotlaw02.CrcShort", spec := "crcShort", apart := false, narrowed := true }
def CrcShortUptoSaid : Prop := crcShortUptoRow.holds Try.pinned (OpenSpec.upto crcShortSpec)

end Rows
end Go.Proofs.Ytceidfifaoooiaa
