/-
  No cell of these rows narrows 'for every input' (looked for: loops, veiled, ifaces, maps, wideKeys, modest, calm, conditions, laid).
  DERIVED. THE GIVEN ROWS OF THIS SEAT. 12 by the template 'for every input the law returns true; each argument reads behind the call as it read before'; 0 by the template 'total and deterministic' (their statements: YtnbiiphkefhkcaaGreatTotals.lean).
  GIVEN WITH THE SEED: the statements are not yours to turn. If you find one false, say at which input.
  Laid BY PROGRAM, IN A SANDBOX (cutbox-rows.mjs): the forced cells as the released guide's own fill.sh prints them over the translation 9fac5ef66f9b28dd… (all of the seat's roots in one cut). By AI agents, Wed Nov 11 2026. No macro, syntax, notation, axiom, sorry.
-/
import Derived.Test.YtnbiiphkefhkcaaGreatChecked
import GoSem.Claim
import GoSem.ClaimJoined
import GoSem.ClaimMapViews
import Derived.JoinedTies
import Derived.KernelRfl
namespace Go.Proofs.YtnbiiphkefhkcaaGreat
/- THE CELL 'sum', in the pinned program and in every row, IS THE sha256 OF THE DUMP (.gsa) THAT YtnbiiphkefhkcaaGreatProg.lean LOADS. Nothing in Lean hashes anything: it is a label: what it is worth is what the hold of that sum in a sandbox is worth. -/
noncomputable def Tryz.pinned : Pinned := { name := "ytnbiiphkefhkcaagreat", sum := "9fac5ef66f9b28ddf2b1beacde7ee0a78e9b677b74209a924420a1c962596320", checked := Tryz.checked }
namespace Rows
def none {H : Type} : Left H := { results := [], args := [] }

/-- 'chanfabriclaw21.ChanopNothing': WHATEVER THE INPUT: true; the input reads as it did. -/
def chanopNothingSpec : ChangeSpec := { name := "chanopNothing", fn := fun _ => fun
  | [d1, d2, d3, d4] => { results := [.lit (.bool true)], args := [d1, d2, d3, d4] }
  | _ => none }
def chanopNothingRow : OpenClaim := { program := "ytnbiiphkefhkcaagreat", sum := "9fac5ef66f9b28ddf2b1beacde7ee0a78e9b677b74209a924420a1c962596320", func := "chanfabric/chanfabriclaw21.ChanopNothing", spec := "chanopNothing", unfollowed := true, recurses := true, apart := false }
def ChanopNothingSaid : Prop := chanopNothingRow.holds Tryz.pinned (OpenSpec.ofChange chanopNothingSpec)

/-- ITS FALSE NEIGHBOUR: 'it returns false'. Refute it at one input. -/
def chanopNothingWrong : ChangeSpec := { name := "chanopNothing", fn := fun _ => fun
  | [d1, d2, d3, d4] => { results := [.lit (.bool false)], args := [d1, d2, d3, d4] }
  | _ => none }
def ChanopNothingWrongFalsely : Prop := chanopNothingRow.holds Tryz.pinned (OpenSpec.ofChange chanopNothingWrong)

/-- 'chanfabriclaw21.ChanopLen': WHATEVER THE INPUT: true; the input reads as it did. -/
def chanopLenSpec : ChangeSpec := { name := "chanopLen", fn := fun _ => fun
  | [d1, d2] => { results := [.lit (.bool true)], args := [d1, d2] }
  | _ => none }
def chanopLenRow : OpenClaim := { program := "ytnbiiphkefhkcaagreat", sum := "9fac5ef66f9b28ddf2b1beacde7ee0a78e9b677b74209a924420a1c962596320", func := "chanfabric/chanfabriclaw21.ChanopLen", spec := "chanopLen", unfollowed := true, recurses := true, apart := false }
def ChanopLenSaid : Prop := chanopLenRow.holds Tryz.pinned (OpenSpec.ofChange chanopLenSpec)

/-- ITS FALSE NEIGHBOUR: 'it returns false'. Refute it at one input. -/
def chanopLenWrong : ChangeSpec := { name := "chanopLen", fn := fun _ => fun
  | [d1, d2] => { results := [.lit (.bool false)], args := [d1, d2] }
  | _ => none }
def ChanopLenWrongFalsely : Prop := chanopLenRow.holds Tryz.pinned (OpenSpec.ofChange chanopLenWrong)

/-- 'chanfabriclaw21.ChanopClose': WHATEVER THE INPUT: true; the input reads as it did. -/
def chanopCloseSpec : ChangeSpec := { name := "chanopClose", fn := fun _ => fun
  | [d1, d2] => { results := [.lit (.bool true)], args := [d1, d2] }
  | _ => none }
def chanopCloseRow : OpenClaim := { program := "ytnbiiphkefhkcaagreat", sum := "9fac5ef66f9b28ddf2b1beacde7ee0a78e9b677b74209a924420a1c962596320", func := "chanfabric/chanfabriclaw21.ChanopClose", spec := "chanopClose", unfollowed := true, recurses := true, apart := false }
def ChanopCloseSaid : Prop := chanopCloseRow.holds Tryz.pinned (OpenSpec.ofChange chanopCloseSpec)

/-- ITS FALSE NEIGHBOUR: 'it returns false'. Refute it at one input. -/
def chanopCloseWrong : ChangeSpec := { name := "chanopClose", fn := fun _ => fun
  | [d1, d2] => { results := [.lit (.bool false)], args := [d1, d2] }
  | _ => none }
def ChanopCloseWrongFalsely : Prop := chanopCloseRow.holds Tryz.pinned (OpenSpec.ofChange chanopCloseWrong)

/-- 'chanfabriclaw21.ChanopPlaces': WHATEVER THE INPUT: true; the input reads as it did. -/
def chanopPlacesSpec : ChangeSpec := { name := "chanopPlaces", fn := fun _ => fun
  | [d1, d2] => { results := [.lit (.bool true)], args := [d1, d2] }
  | _ => none }
def chanopPlacesRow : OpenClaim := { program := "ytnbiiphkefhkcaagreat", sum := "9fac5ef66f9b28ddf2b1beacde7ee0a78e9b677b74209a924420a1c962596320", func := "chanfabric/chanfabriclaw21.ChanopPlaces", spec := "chanopPlaces", unfollowed := true, recurses := true, apart := false }
def ChanopPlacesSaid : Prop := chanopPlacesRow.holds Tryz.pinned (OpenSpec.ofChange chanopPlacesSpec)

/-- ITS FALSE NEIGHBOUR: 'it returns false'. Refute it at one input. -/
def chanopPlacesWrong : ChangeSpec := { name := "chanopPlaces", fn := fun _ => fun
  | [d1, d2] => { results := [.lit (.bool false)], args := [d1, d2] }
  | _ => none }
def ChanopPlacesWrongFalsely : Prop := chanopPlacesRow.holds Tryz.pinned (OpenSpec.ofChange chanopPlacesWrong)

/-- 'chanfabriclaw21.ChanopWaits': WHATEVER THE INPUT: true; the input reads as it did. -/
def chanopWaitsSpec : ChangeSpec := { name := "chanopWaits", fn := fun _ => fun
  | [d1, d2] => { results := [.lit (.bool true)], args := [d1, d2] }
  | _ => none }
def chanopWaitsRow : OpenClaim := { program := "ytnbiiphkefhkcaagreat", sum := "9fac5ef66f9b28ddf2b1beacde7ee0a78e9b677b74209a924420a1c962596320", func := "chanfabric/chanfabriclaw21.ChanopWaits", spec := "chanopWaits", unfollowed := true, recurses := true, apart := false }
def ChanopWaitsSaid : Prop := chanopWaitsRow.holds Tryz.pinned (OpenSpec.ofChange chanopWaitsSpec)

/-- ITS FALSE NEIGHBOUR: 'it returns false'. Refute it at one input. -/
def chanopWaitsWrong : ChangeSpec := { name := "chanopWaits", fn := fun _ => fun
  | [d1, d2] => { results := [.lit (.bool false)], args := [d1, d2] }
  | _ => none }
def ChanopWaitsWrongFalsely : Prop := chanopWaitsRow.holds Tryz.pinned (OpenSpec.ofChange chanopWaitsWrong)

/-- 'chanfabriclaw21.ChanopShort': WHATEVER THE INPUT: true; the input reads as it did. -/
def chanopShortSpec : ChangeSpec := { name := "chanopShort", fn := fun _ => fun
  | [d1, d2, d3] => { results := [.lit (.bool true)], args := [d1, d2, d3] }
  | _ => none }
def chanopShortRow : OpenClaim := { program := "ytnbiiphkefhkcaagreat", sum := "9fac5ef66f9b28ddf2b1beacde7ee0a78e9b677b74209a924420a1c962596320", func := "chanfabric/chanfabriclaw21.ChanopShort", spec := "chanopShort", unfollowed := true, recurses := true, apart := false }
def ChanopShortSaid : Prop := chanopShortRow.holds Tryz.pinned (OpenSpec.ofChange chanopShortSpec)

/-- ITS FALSE NEIGHBOUR: 'it returns false'. Refute it at one input. -/
def chanopShortWrong : ChangeSpec := { name := "chanopShort", fn := fun _ => fun
  | [d1, d2, d3] => { results := [.lit (.bool false)], args := [d1, d2, d3] }
  | _ => none }
def ChanopShortWrongFalsely : Prop := chanopShortRow.holds Tryz.pinned (OpenSpec.ofChange chanopShortWrong)

/-- 'chanfabriclaw22.ChooseNothing': WHATEVER THE INPUT: true; the input reads as it did. -/
def chooseNothingSpec : ChangeSpec := { name := "chooseNothing", fn := fun _ => fun
  | [d1, d2, d3] => { results := [.lit (.bool true)], args := [d1, d2, d3] }
  | _ => none }
def chooseNothingRow : OpenClaim := { program := "ytnbiiphkefhkcaagreat", sum := "9fac5ef66f9b28ddf2b1beacde7ee0a78e9b677b74209a924420a1c962596320", func := "chanfabric/chanfabriclaw22.ChooseNothing", spec := "chooseNothing", unfollowed := true, recurses := true, apart := false }
def ChooseNothingSaid : Prop := chooseNothingRow.holds Tryz.pinned (OpenSpec.ofChange chooseNothingSpec)

/-- ITS FALSE NEIGHBOUR: 'it returns false'. Refute it at one input. -/
def chooseNothingWrong : ChangeSpec := { name := "chooseNothing", fn := fun _ => fun
  | [d1, d2, d3] => { results := [.lit (.bool false)], args := [d1, d2, d3] }
  | _ => none }
def ChooseNothingWrongFalsely : Prop := chooseNothingRow.holds Tryz.pinned (OpenSpec.ofChange chooseNothingWrong)

/-- 'chanfabriclaw22.ChooseFirst': WHATEVER THE INPUT: true; the input reads as it did. -/
def chooseFirstSpec : ChangeSpec := { name := "chooseFirst", fn := fun _ => fun
  | [d1, d2] => { results := [.lit (.bool true)], args := [d1, d2] }
  | _ => none }
def chooseFirstRow : OpenClaim := { program := "ytnbiiphkefhkcaagreat", sum := "9fac5ef66f9b28ddf2b1beacde7ee0a78e9b677b74209a924420a1c962596320", func := "chanfabric/chanfabriclaw22.ChooseFirst", spec := "chooseFirst", unfollowed := true, recurses := true, apart := false }
def ChooseFirstSaid : Prop := chooseFirstRow.holds Tryz.pinned (OpenSpec.ofChange chooseFirstSpec)

/-- ITS FALSE NEIGHBOUR: 'it returns false'. Refute it at one input. -/
def chooseFirstWrong : ChangeSpec := { name := "chooseFirst", fn := fun _ => fun
  | [d1, d2] => { results := [.lit (.bool false)], args := [d1, d2] }
  | _ => none }
def ChooseFirstWrongFalsely : Prop := chooseFirstRow.holds Tryz.pinned (OpenSpec.ofChange chooseFirstWrong)

/-- 'chanfabriclaw22.ChooseLocks': WHATEVER THE INPUT: true; the input reads as it did. -/
def chooseLocksSpec : ChangeSpec := { name := "chooseLocks", fn := fun _ => fun
  | [d1, d2] => { results := [.lit (.bool true)], args := [d1, d2] }
  | _ => none }
def chooseLocksRow : OpenClaim := { program := "ytnbiiphkefhkcaagreat", sum := "9fac5ef66f9b28ddf2b1beacde7ee0a78e9b677b74209a924420a1c962596320", func := "chanfabric/chanfabriclaw22.ChooseLocks", spec := "chooseLocks", unfollowed := true, recurses := true, apart := false }
def ChooseLocksSaid : Prop := chooseLocksRow.holds Tryz.pinned (OpenSpec.ofChange chooseLocksSpec)

/-- ITS FALSE NEIGHBOUR: 'it returns false'. Refute it at one input. -/
def chooseLocksWrong : ChangeSpec := { name := "chooseLocks", fn := fun _ => fun
  | [d1, d2] => { results := [.lit (.bool false)], args := [d1, d2] }
  | _ => none }
def ChooseLocksWrongFalsely : Prop := chooseLocksRow.holds Tryz.pinned (OpenSpec.ofChange chooseLocksWrong)

/-- 'chanfabriclaw22.ChooseWaits': WHATEVER THE INPUT: true; the input reads as it did. -/
def chooseWaitsSpec : ChangeSpec := { name := "chooseWaits", fn := fun _ => fun
  | [d1, d2] => { results := [.lit (.bool true)], args := [d1, d2] }
  | _ => none }
def chooseWaitsRow : OpenClaim := { program := "ytnbiiphkefhkcaagreat", sum := "9fac5ef66f9b28ddf2b1beacde7ee0a78e9b677b74209a924420a1c962596320", func := "chanfabric/chanfabriclaw22.ChooseWaits", spec := "chooseWaits", unfollowed := true, recurses := true, apart := false }
def ChooseWaitsSaid : Prop := chooseWaitsRow.holds Tryz.pinned (OpenSpec.ofChange chooseWaitsSpec)

/-- ITS FALSE NEIGHBOUR: 'it returns false'. Refute it at one input. -/
def chooseWaitsWrong : ChangeSpec := { name := "chooseWaits", fn := fun _ => fun
  | [d1, d2] => { results := [.lit (.bool false)], args := [d1, d2] }
  | _ => none }
def ChooseWaitsWrongFalsely : Prop := chooseWaitsRow.holds Tryz.pinned (OpenSpec.ofChange chooseWaitsWrong)

/-- 'chanfabriclaw22.ChoosePlaces': WHATEVER THE INPUT: true; the input reads as it did. -/
def choosePlacesSpec : ChangeSpec := { name := "choosePlaces", fn := fun _ => fun
  | [d1, d2] => { results := [.lit (.bool true)], args := [d1, d2] }
  | _ => none }
def choosePlacesRow : OpenClaim := { program := "ytnbiiphkefhkcaagreat", sum := "9fac5ef66f9b28ddf2b1beacde7ee0a78e9b677b74209a924420a1c962596320", func := "chanfabric/chanfabriclaw22.ChoosePlaces", spec := "choosePlaces", unfollowed := true, recurses := true, apart := false }
def ChoosePlacesSaid : Prop := choosePlacesRow.holds Tryz.pinned (OpenSpec.ofChange choosePlacesSpec)

/-- ITS FALSE NEIGHBOUR: 'it returns false'. Refute it at one input. -/
def choosePlacesWrong : ChangeSpec := { name := "choosePlaces", fn := fun _ => fun
  | [d1, d2] => { results := [.lit (.bool false)], args := [d1, d2] }
  | _ => none }
def ChoosePlacesWrongFalsely : Prop := choosePlacesRow.holds Tryz.pinned (OpenSpec.ofChange choosePlacesWrong)

/-- 'chanfabriclaw23.FabricBegins': WHATEVER THE INPUT: true; the input reads as it did. -/
def fabricBeginsSpec : ChangeSpec := { name := "fabricBegins", fn := fun _ => fun
  | [d1, d2, d3] => { results := [.lit (.bool true)], args := [d1, d2, d3] }
  | _ => none }
def fabricBeginsRow : OpenClaim := { program := "ytnbiiphkefhkcaagreat", sum := "9fac5ef66f9b28ddf2b1beacde7ee0a78e9b677b74209a924420a1c962596320", func := "chanfabric/chanfabriclaw23.FabricBegins", spec := "fabricBegins", unfollowed := true, recurses := true, apart := false }
def FabricBeginsSaid : Prop := fabricBeginsRow.holds Tryz.pinned (OpenSpec.ofChange fabricBeginsSpec)

/-- ITS FALSE NEIGHBOUR: 'it returns false'. Refute it at one input. -/
def fabricBeginsWrong : ChangeSpec := { name := "fabricBegins", fn := fun _ => fun
  | [d1, d2, d3] => { results := [.lit (.bool false)], args := [d1, d2, d3] }
  | _ => none }
def FabricBeginsWrongFalsely : Prop := fabricBeginsRow.holds Tryz.pinned (OpenSpec.ofChange fabricBeginsWrong)

/- THE SECOND FORM. 'bulk': how many values and letters a reading holds, each counted each time it is reached (what is shared counts as often as it is met; a slice's spare places count too). A statement '..UptoSaid' is the law's where the arguments, and the package variables that the reading takes, are together of bulk at most 1048576: NARROWER than '..Said'. Prove '..Said' where nothing that the law and all that it calls make is longer than what came in: it says more and counts as full. Else prove '..UptoSaid'. A law counts once. -/
mutual
def uptoBulk {H : Type} : DataW H → Nat
  | .lit (.string bytes) => bytes.length + 1
  | .lit _ => 1
  | .nil => 1
  | .ptr d => uptoBulk d + 1
  | .slice elems spare => uptoBulkAll elems + uptoBulkAll spare + 1
  | .agg parts => uptoBulkAll parts + 1
  | .iface _ d => uptoBulk d + 1
  | .map entries => uptoBulkEntries entries + 1
  | .held _ => 1
def uptoBulkAll {H : Type} : List (DataW H) → Nat
  | [] => 0
  | d :: r => uptoBulk d + uptoBulkAll r
def uptoBulkEntries {H : Type} : List (Lit × DataW H) → Nat
  | [] => 0
  | x :: r => uptoBulkEntry x + uptoBulkEntries r
def uptoBulkEntry {H : Type} : Lit × DataW H → Nat
  | (.string bytes, d) => bytes.length + uptoBulk d + 1
  | (_, d) => uptoBulk d + 1
 end
def uptoSmall : (H : Type) → List (DataW H) → Bool := fun _ ds => decide (uptoBulkAll ds ≤ 1048576)
def OpenSpec.upto (s : _root_.Go.ChangeSpec) : _root_.Go.OpenSpec := { _root_.Go.OpenSpec.ofChange s with cond := some uptoSmall }

/-- 'chanfabriclaw21.ChanopNothing', WHERE WHAT IT READS IS OF BULK AT MOST 1048576: true; the input reads as it did. -/
def chanopNothingUptoRow : OpenClaim := { program := "ytnbiiphkefhkcaagreat", sum := "9fac5ef66f9b28ddf2b1beacde7ee0a78e9b677b74209a924420a1c962596320", func := "chanfabric/chanfabriclaw21.ChanopNothing", spec := "chanopNothing", unfollowed := true, recurses := true, apart := false, narrowed := true }
def ChanopNothingUptoSaid : Prop := chanopNothingUptoRow.holds Tryz.pinned (OpenSpec.upto chanopNothingSpec)

/-- 'chanfabriclaw21.ChanopLen', WHERE WHAT IT READS IS OF BULK AT MOST 1048576: true; the input reads as it did. -/
def chanopLenUptoRow : OpenClaim := { program := "ytnbiiphkefhkcaagreat", sum := "9fac5ef66f9b28ddf2b1beacde7ee0a78e9b677b74209a924420a1c962596320", func := "chanfabric/chanfabriclaw21.ChanopLen", spec := "chanopLen", unfollowed := true, recurses := true, apart := false, narrowed := true }
def ChanopLenUptoSaid : Prop := chanopLenUptoRow.holds Tryz.pinned (OpenSpec.upto chanopLenSpec)

/-- 'chanfabriclaw21.ChanopClose', WHERE WHAT IT READS IS OF BULK AT MOST 1048576: true; the input reads as it did. -/
def chanopCloseUptoRow : OpenClaim := { program := "ytnbiiphkefhkcaagreat", sum := "9fac5ef66f9b28ddf2b1beacde7ee0a78e9b677b74209a924420a1c962596320", func := "chanfabric/chanfabriclaw21.ChanopClose", spec := "chanopClose", unfollowed := true, recurses := true, apart := false, narrowed := true }
def ChanopCloseUptoSaid : Prop := chanopCloseUptoRow.holds Tryz.pinned (OpenSpec.upto chanopCloseSpec)

/-- 'chanfabriclaw21.ChanopPlaces', WHERE WHAT IT READS IS OF BULK AT MOST 1048576: true; the input reads as it did. -/
def chanopPlacesUptoRow : OpenClaim := { program := "ytnbiiphkefhkcaagreat", sum := "9fac5ef66f9b28ddf2b1beacde7ee0a78e9b677b74209a924420a1c962596320", func := "chanfabric/chanfabriclaw21.ChanopPlaces", spec := "chanopPlaces", unfollowed := true, recurses := true, apart := false, narrowed := true }
def ChanopPlacesUptoSaid : Prop := chanopPlacesUptoRow.holds Tryz.pinned (OpenSpec.upto chanopPlacesSpec)

/-- 'chanfabriclaw21.ChanopWaits', WHERE WHAT IT READS IS OF BULK AT MOST 1048576: true; the input reads as it did. -/
def chanopWaitsUptoRow : OpenClaim := { program := "ytnbiiphkefhkcaagreat", sum := "9fac5ef66f9b28ddf2b1beacde7ee0a78e9b677b74209a924420a1c962596320", func := "chanfabric/chanfabriclaw21.ChanopWaits", spec := "chanopWaits", unfollowed := true, recurses := true, apart := false, narrowed := true }
def ChanopWaitsUptoSaid : Prop := chanopWaitsUptoRow.holds Tryz.pinned (OpenSpec.upto chanopWaitsSpec)

/-- 'chanfabriclaw21.ChanopShort', WHERE WHAT IT READS IS OF BULK AT MOST 1048576: true; the input reads as it did. -/
def chanopShortUptoRow : OpenClaim := { program := "ytnbiiphkefhkcaagreat", sum := "9fac5ef66f9b28ddf2b1beacde7ee0a78e9b677b74209a924420a1c962596320", func := "chanfabric/chanfabriclaw21.ChanopShort", spec := "chanopShort", unfollowed := true, recurses := true, apart := false, narrowed := true }
def ChanopShortUptoSaid : Prop := chanopShortUptoRow.holds Tryz.pinned (OpenSpec.upto chanopShortSpec)

/-- 'chanfabriclaw22.ChooseNothing', WHERE WHAT IT READS IS OF BULK AT MOST 1048576: true; the input reads as it did. -/
def chooseNothingUptoRow : OpenClaim := { program := "ytnbiiphkefhkcaagreat", sum := "9fac5ef66f9b28ddf2b1beacde7ee0a78e9b677b74209a924420a1c962596320", func := "chanfabric/chanfabriclaw22.ChooseNothing", spec := "chooseNothing", unfollowed := true, recurses := true, apart := false, narrowed := true }
def ChooseNothingUptoSaid : Prop := chooseNothingUptoRow.holds Tryz.pinned (OpenSpec.upto chooseNothingSpec)

/-- 'chanfabriclaw22.ChooseFirst', WHERE WHAT IT READS IS OF BULK AT MOST 1048576: true; the input reads as it did. -/
def chooseFirstUptoRow : OpenClaim := { program := "ytnbiiphkefhkcaagreat", sum := "9fac5ef66f9b28ddf2b1beacde7ee0a78e9b677b74209a924420a1c962596320", func := "chanfabric/chanfabriclaw22.ChooseFirst", spec := "chooseFirst", unfollowed := true, recurses := true, apart := false, narrowed := true }
def ChooseFirstUptoSaid : Prop := chooseFirstUptoRow.holds Tryz.pinned (OpenSpec.upto chooseFirstSpec)

/-- 'chanfabriclaw22.ChooseLocks', WHERE WHAT IT READS IS OF BULK AT MOST 1048576: true; the input reads as it did. -/
def chooseLocksUptoRow : OpenClaim := { program := "ytnbiiphkefhkcaagreat", sum := "9fac5ef66f9b28ddf2b1beacde7ee0a78e9b677b74209a924420a1c962596320", func := "chanfabric/chanfabriclaw22.ChooseLocks", spec := "chooseLocks", unfollowed := true, recurses := true, apart := false, narrowed := true }
def ChooseLocksUptoSaid : Prop := chooseLocksUptoRow.holds Tryz.pinned (OpenSpec.upto chooseLocksSpec)

/-- 'chanfabriclaw22.ChooseWaits', WHERE WHAT IT READS IS OF BULK AT MOST 1048576: true; the input reads as it did. -/
def chooseWaitsUptoRow : OpenClaim := { program := "ytnbiiphkefhkcaagreat", sum := "9fac5ef66f9b28ddf2b1beacde7ee0a78e9b677b74209a924420a1c962596320", func := "chanfabric/chanfabriclaw22.ChooseWaits", spec := "chooseWaits", unfollowed := true, recurses := true, apart := false, narrowed := true }
def ChooseWaitsUptoSaid : Prop := chooseWaitsUptoRow.holds Tryz.pinned (OpenSpec.upto chooseWaitsSpec)

/-- 'chanfabriclaw22.ChoosePlaces', WHERE WHAT IT READS IS OF BULK AT MOST 1048576: true; the input reads as it did. -/
def choosePlacesUptoRow : OpenClaim := { program := "ytnbiiphkefhkcaagreat", sum := "9fac5ef66f9b28ddf2b1beacde7ee0a78e9b677b74209a924420a1c962596320", func := "chanfabric/chanfabriclaw22.ChoosePlaces", spec := "choosePlaces", unfollowed := true, recurses := true, apart := false, narrowed := true }
def ChoosePlacesUptoSaid : Prop := choosePlacesUptoRow.holds Tryz.pinned (OpenSpec.upto choosePlacesSpec)

/-- 'chanfabriclaw23.FabricBegins', WHERE WHAT IT READS IS OF BULK AT MOST 1048576: true; the input reads as it did. -/
def fabricBeginsUptoRow : OpenClaim := { program := "ytnbiiphkefhkcaagreat", sum := "9fac5ef66f9b28ddf2b1beacde7ee0a78e9b677b74209a924420a1c962596320", func := "chanfabric/chanfabriclaw23.FabricBegins", spec := "fabricBegins", unfollowed := true, recurses := true, apart := false, narrowed := true }
def FabricBeginsUptoSaid : Prop := fabricBeginsUptoRow.holds Tryz.pinned (OpenSpec.upto fabricBeginsSpec)

end Rows
end Go.Proofs.YtnbiiphkefhkcaaGreat
