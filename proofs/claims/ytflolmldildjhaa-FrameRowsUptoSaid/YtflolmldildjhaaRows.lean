/-
  No cell of these rows narrows 'for every input' (looked for: loops, veiled, ifaces, maps, wideKeys, modest, calm, conditions, laid).
  DERIVED. THE GIVEN ROWS OF THIS SEAT. 15 by the template 'for every input the law returns true; each argument reads behind the call as it read before'; 0 by the template 'total and deterministic' (their statements: YtflolmldildjhaaTotals.lean).
  GIVEN WITH THE SEED: the statements are not yours to turn. If you find one false, say at which input.
  Laid BY PROGRAM, IN A SANDBOX (cutbox-rows.mjs): the forced cells as the released guide's own fill.sh prints them over the translation c0b974fcfc19ca2d… (all of the seat's roots in one cut). By AI agents, Wed Nov 11 2026. No macro, syntax, notation, axiom, sorry.
-/
import Derived.Test.YtflolmldildjhaaChecked
import GoSem.Claim
import GoSem.ClaimJoined
import GoSem.ClaimMapViews
import Derived.JoinedTies
import Derived.KernelRfl
namespace Go.Proofs.Ytflolmldildjhaa
/- THE CELL 'sum', in the pinned program and in every row, IS THE sha256 OF THE DUMP (.gsa) THAT YtflolmldildjhaaProg.lean LOADS. Nothing in Lean hashes anything: it is a label: what it is worth is what the hold of that sum in a sandbox is worth. -/
noncomputable def Try.pinned : Pinned := { name := "ytflolmldildjhaa", sum := "c0b974fcfc19ca2d978f11b5960afe40cae7883670f03a67e41455d44fb577d4", checked := Try.checked }
namespace Rows
def none {H : Type} : Left H := { results := [], args := [] }

/-- 'tephralaw02.CheckTable': WHATEVER THE INPUT: true; the input reads as it did. -/
def checkTableSpec : ChangeSpec := { name := "checkTable", fn := fun _ => fun
  | [d1, d2] => { results := [.lit (.bool true)], args := [d1, d2] }
  | _ => none }
def checkTableRow : OpenClaim := { program := "ytflolmldildjhaa", sum := "c0b974fcfc19ca2d978f11b5960afe40cae7883670f03a67e41455d44fb577d4", func := "tephra/tephralaw02.CheckTable", spec := "checkTable", apart := false }
def CheckTableSaid : Prop := checkTableRow.holds Try.pinned (OpenSpec.ofChange checkTableSpec)

/-- ITS FALSE NEIGHBOUR: 'it returns false'. Refute it at one input. -/
def checkTableWrong : ChangeSpec := { name := "checkTable", fn := fun _ => fun
  | [d1, d2] => { results := [.lit (.bool false)], args := [d1, d2] }
  | _ => none }
def CheckTableWrongFalsely : Prop := checkTableRow.holds Try.pinned (OpenSpec.ofChange checkTableWrong)

/-- 'tephralaw02.CheckSum': WHATEVER THE INPUT: true; the input reads as it did. -/
def checkSumSpec : ChangeSpec := { name := "checkSum", fn := fun _ => fun
  | [d1, d2] => { results := [.lit (.bool true)], args := [d1, d2] }
  | _ => none }
def checkSumRow : OpenClaim := { program := "ytflolmldildjhaa", sum := "c0b974fcfc19ca2d978f11b5960afe40cae7883670f03a67e41455d44fb577d4", func := "tephra/tephralaw02.CheckSum", spec := "checkSum", apart := false }
def CheckSumSaid : Prop := checkSumRow.holds Try.pinned (OpenSpec.ofChange checkSumSpec)

/-- ITS FALSE NEIGHBOUR: 'it returns false'. Refute it at one input. -/
def checkSumWrong : ChangeSpec := { name := "checkSum", fn := fun _ => fun
  | [d1, d2] => { results := [.lit (.bool false)], args := [d1, d2] }
  | _ => none }
def CheckSumWrongFalsely : Prop := checkSumRow.holds Try.pinned (OpenSpec.ofChange checkSumWrong)

/-- 'tephralaw02.CheckOne': WHATEVER THE INPUT: true; the input reads as it did. -/
def checkOneSpec : ChangeSpec := { name := "checkOne", fn := fun _ => fun
  | [d1, d2, d3] => { results := [.lit (.bool true)], args := [d1, d2, d3] }
  | _ => none }
def checkOneRow : OpenClaim := { program := "ytflolmldildjhaa", sum := "c0b974fcfc19ca2d978f11b5960afe40cae7883670f03a67e41455d44fb577d4", func := "tephra/tephralaw02.CheckOne", spec := "checkOne", apart := false }
def CheckOneSaid : Prop := checkOneRow.holds Try.pinned (OpenSpec.ofChange checkOneSpec)

/-- ITS FALSE NEIGHBOUR: 'it returns false'. Refute it at one input. -/
def checkOneWrong : ChangeSpec := { name := "checkOne", fn := fun _ => fun
  | [d1, d2, d3] => { results := [.lit (.bool false)], args := [d1, d2, d3] }
  | _ => none }
def CheckOneWrongFalsely : Prop := checkOneRow.holds Try.pinned (OpenSpec.ofChange checkOneWrong)

/-- 'tephralaw02.CheckBurst': WHATEVER THE INPUT: true; the input reads as it did. -/
def checkBurstSpec : ChangeSpec := { name := "checkBurst", fn := fun _ => fun
  | [d1, d2, d3] => { results := [.lit (.bool true)], args := [d1, d2, d3] }
  | _ => none }
def checkBurstRow : OpenClaim := { program := "ytflolmldildjhaa", sum := "c0b974fcfc19ca2d978f11b5960afe40cae7883670f03a67e41455d44fb577d4", func := "tephra/tephralaw02.CheckBurst", spec := "checkBurst", apart := false }
def CheckBurstSaid : Prop := checkBurstRow.holds Try.pinned (OpenSpec.ofChange checkBurstSpec)

/-- ITS FALSE NEIGHBOUR: 'it returns false'. Refute it at one input. -/
def checkBurstWrong : ChangeSpec := { name := "checkBurst", fn := fun _ => fun
  | [d1, d2, d3] => { results := [.lit (.bool false)], args := [d1, d2, d3] }
  | _ => none }
def CheckBurstWrongFalsely : Prop := checkBurstRow.holds Try.pinned (OpenSpec.ofChange checkBurstWrong)

/-- 'tephralaw02.CheckThree': WHATEVER THE INPUT: true; the input reads as it did. -/
def checkThreeSpec : ChangeSpec := { name := "checkThree", fn := fun _ => fun
  | [d1, d2, d3] => { results := [.lit (.bool true)], args := [d1, d2, d3] }
  | _ => none }
def checkThreeRow : OpenClaim := { program := "ytflolmldildjhaa", sum := "c0b974fcfc19ca2d978f11b5960afe40cae7883670f03a67e41455d44fb577d4", func := "tephra/tephralaw02.CheckThree", spec := "checkThree", apart := false }
def CheckThreeSaid : Prop := checkThreeRow.holds Try.pinned (OpenSpec.ofChange checkThreeSpec)

/-- ITS FALSE NEIGHBOUR: 'it returns false'. Refute it at one input. -/
def checkThreeWrong : ChangeSpec := { name := "checkThree", fn := fun _ => fun
  | [d1, d2, d3] => { results := [.lit (.bool false)], args := [d1, d2, d3] }
  | _ => none }
def CheckThreeWrongFalsely : Prop := checkThreeRow.holds Try.pinned (OpenSpec.ofChange checkThreeWrong)

/-- 'tephralaw02.CheckPoly': WHATEVER THE INPUT: true; the input reads as it did. -/
def checkPolySpec : ChangeSpec := { name := "checkPoly", fn := fun _ => fun
  | [d1, d2, d3] => { results := [.lit (.bool true)], args := [d1, d2, d3] }
  | _ => none }
def checkPolyRow : OpenClaim := { program := "ytflolmldildjhaa", sum := "c0b974fcfc19ca2d978f11b5960afe40cae7883670f03a67e41455d44fb577d4", func := "tephra/tephralaw02.CheckPoly", spec := "checkPoly", apart := false }
def CheckPolySaid : Prop := checkPolyRow.holds Try.pinned (OpenSpec.ofChange checkPolySpec)

/-- ITS FALSE NEIGHBOUR: 'it returns false'. Refute it at one input. -/
def checkPolyWrong : ChangeSpec := { name := "checkPoly", fn := fun _ => fun
  | [d1, d2, d3] => { results := [.lit (.bool false)], args := [d1, d2, d3] }
  | _ => none }
def CheckPolyWrongFalsely : Prop := checkPolyRow.holds Try.pinned (OpenSpec.ofChange checkPolyWrong)

/-- 'tephralaw02.CheckTables': WHATEVER THE INPUT: true; the input reads as it did. -/
def checkTablesSpec : ChangeSpec := { name := "checkTables", fn := fun _ => fun
  | [d1, d2, d3] => { results := [.lit (.bool true)], args := [d1, d2, d3] }
  | _ => none }
def checkTablesRow : OpenClaim := { program := "ytflolmldildjhaa", sum := "c0b974fcfc19ca2d978f11b5960afe40cae7883670f03a67e41455d44fb577d4", func := "tephra/tephralaw02.CheckTables", spec := "checkTables", apart := false }
def CheckTablesSaid : Prop := checkTablesRow.holds Try.pinned (OpenSpec.ofChange checkTablesSpec)

/-- ITS FALSE NEIGHBOUR: 'it returns false'. Refute it at one input. -/
def checkTablesWrong : ChangeSpec := { name := "checkTables", fn := fun _ => fun
  | [d1, d2, d3] => { results := [.lit (.bool false)], args := [d1, d2, d3] }
  | _ => none }
def CheckTablesWrongFalsely : Prop := checkTablesRow.holds Try.pinned (OpenSpec.ofChange checkTablesWrong)

/-- 'tephralaw03.FrameMake': WHATEVER THE INPUT: true; the input reads as it did. -/
def frameMakeSpec : ChangeSpec := { name := "frameMake", fn := fun _ => fun
  | [d1, d2] => { results := [.lit (.bool true)], args := [d1, d2] }
  | _ => none }
def frameMakeRow : OpenClaim := { program := "ytflolmldildjhaa", sum := "c0b974fcfc19ca2d978f11b5960afe40cae7883670f03a67e41455d44fb577d4", func := "tephra/tephralaw03.FrameMake", spec := "frameMake", apart := false }
def FrameMakeSaid : Prop := frameMakeRow.holds Try.pinned (OpenSpec.ofChange frameMakeSpec)

/-- ITS FALSE NEIGHBOUR: 'it returns false'. Refute it at one input. -/
def frameMakeWrong : ChangeSpec := { name := "frameMake", fn := fun _ => fun
  | [d1, d2] => { results := [.lit (.bool false)], args := [d1, d2] }
  | _ => none }
def FrameMakeWrongFalsely : Prop := frameMakeRow.holds Try.pinned (OpenSpec.ofChange frameMakeWrong)

/-- 'tephralaw03.FrameOne': WHATEVER THE INPUT: true; the input reads as it did. -/
def frameOneSpec : ChangeSpec := { name := "frameOne", fn := fun _ => fun
  | [d1, d2, d3, d4] => { results := [.lit (.bool true)], args := [d1, d2, d3, d4] }
  | _ => none }
def frameOneRow : OpenClaim := { program := "ytflolmldildjhaa", sum := "c0b974fcfc19ca2d978f11b5960afe40cae7883670f03a67e41455d44fb577d4", func := "tephra/tephralaw03.FrameOne", spec := "frameOne", apart := false }
def FrameOneSaid : Prop := frameOneRow.holds Try.pinned (OpenSpec.ofChange frameOneSpec)

/-- ITS FALSE NEIGHBOUR: 'it returns false'. Refute it at one input. -/
def frameOneWrong : ChangeSpec := { name := "frameOne", fn := fun _ => fun
  | [d1, d2, d3, d4] => { results := [.lit (.bool false)], args := [d1, d2, d3, d4] }
  | _ => none }
def FrameOneWrongFalsely : Prop := frameOneRow.holds Try.pinned (OpenSpec.ofChange frameOneWrong)

/-- 'tephralaw03.FrameFlip': WHATEVER THE INPUT: true; the input reads as it did. -/
def frameFlipSpec : ChangeSpec := { name := "frameFlip", fn := fun _ => fun
  | [d1, d2, d3] => { results := [.lit (.bool true)], args := [d1, d2, d3] }
  | _ => none }
def frameFlipRow : OpenClaim := { program := "ytflolmldildjhaa", sum := "c0b974fcfc19ca2d978f11b5960afe40cae7883670f03a67e41455d44fb577d4", func := "tephra/tephralaw03.FrameFlip", spec := "frameFlip", apart := false }
def FrameFlipSaid : Prop := frameFlipRow.holds Try.pinned (OpenSpec.ofChange frameFlipSpec)

/-- ITS FALSE NEIGHBOUR: 'it returns false'. Refute it at one input. -/
def frameFlipWrong : ChangeSpec := { name := "frameFlip", fn := fun _ => fun
  | [d1, d2, d3] => { results := [.lit (.bool false)], args := [d1, d2, d3] }
  | _ => none }
def FrameFlipWrongFalsely : Prop := frameFlipRow.holds Try.pinned (OpenSpec.ofChange frameFlipWrong)

/-- 'tephralaw03.FrameApart': WHATEVER THE INPUT: true; the input reads as it did. -/
def frameApartSpec : ChangeSpec := { name := "frameApart", fn := fun _ => fun
  | [d1, d2] => { results := [.lit (.bool true)], args := [d1, d2] }
  | _ => none }
def frameApartRow : OpenClaim := { program := "ytflolmldildjhaa", sum := "c0b974fcfc19ca2d978f11b5960afe40cae7883670f03a67e41455d44fb577d4", func := "tephra/tephralaw03.FrameApart", spec := "frameApart", apart := false }
def FrameApartSaid : Prop := frameApartRow.holds Try.pinned (OpenSpec.ofChange frameApartSpec)

/-- ITS FALSE NEIGHBOUR: 'it returns false'. Refute it at one input. -/
def frameApartWrong : ChangeSpec := { name := "frameApart", fn := fun _ => fun
  | [d1, d2] => { results := [.lit (.bool false)], args := [d1, d2] }
  | _ => none }
def FrameApartWrongFalsely : Prop := frameApartRow.holds Try.pinned (OpenSpec.ofChange frameApartWrong)

/-- 'tephralaw03.FrameAll': WHATEVER THE INPUT: true; the input reads as it did. -/
def frameAllSpec : ChangeSpec := { name := "frameAll", fn := fun _ => fun
  | [d1, d2] => { results := [.lit (.bool true)], args := [d1, d2] }
  | _ => none }
def frameAllRow : OpenClaim := { program := "ytflolmldildjhaa", sum := "c0b974fcfc19ca2d978f11b5960afe40cae7883670f03a67e41455d44fb577d4", func := "tephra/tephralaw03.FrameAll", spec := "frameAll", unfollowed := true, recurses := true, apart := false }
def FrameAllSaid : Prop := frameAllRow.holds Try.pinned (OpenSpec.ofChange frameAllSpec)

/-- ITS FALSE NEIGHBOUR: 'it returns false'. Refute it at one input. -/
def frameAllWrong : ChangeSpec := { name := "frameAll", fn := fun _ => fun
  | [d1, d2] => { results := [.lit (.bool false)], args := [d1, d2] }
  | _ => none }
def FrameAllWrongFalsely : Prop := frameAllRow.holds Try.pinned (OpenSpec.ofChange frameAllWrong)

/-- 'tephralaw03.FrameRows': WHATEVER THE INPUT: true; the input reads as it did. -/
def frameRowsSpec : ChangeSpec := { name := "frameRows", fn := fun _ => fun
  | [d1, d2] => { results := [.lit (.bool true)], args := [d1, d2] }
  | _ => none }
def frameRowsRow : OpenClaim := { program := "ytflolmldildjhaa", sum := "c0b974fcfc19ca2d978f11b5960afe40cae7883670f03a67e41455d44fb577d4", func := "tephra/tephralaw03.FrameRows", spec := "frameRows", unfollowed := true, recurses := true, apart := false }
def FrameRowsSaid : Prop := frameRowsRow.holds Try.pinned (OpenSpec.ofChange frameRowsSpec)

/-- ITS FALSE NEIGHBOUR: 'it returns false'. Refute it at one input. -/
def frameRowsWrong : ChangeSpec := { name := "frameRows", fn := fun _ => fun
  | [d1, d2] => { results := [.lit (.bool false)], args := [d1, d2] }
  | _ => none }
def FrameRowsWrongFalsely : Prop := frameRowsRow.holds Try.pinned (OpenSpec.ofChange frameRowsWrong)

/-- 'tephralaw03.FrameTorn': WHATEVER THE INPUT: true; the input reads as it did. -/
def frameTornSpec : ChangeSpec := { name := "frameTorn", fn := fun _ => fun
  | [d1, d2] => { results := [.lit (.bool true)], args := [d1, d2] }
  | _ => none }
def frameTornRow : OpenClaim := { program := "ytflolmldildjhaa", sum := "c0b974fcfc19ca2d978f11b5960afe40cae7883670f03a67e41455d44fb577d4", func := "tephra/tephralaw03.FrameTorn", spec := "frameTorn", unfollowed := true, recurses := true, apart := false }
def FrameTornSaid : Prop := frameTornRow.holds Try.pinned (OpenSpec.ofChange frameTornSpec)

/-- ITS FALSE NEIGHBOUR: 'it returns false'. Refute it at one input. -/
def frameTornWrong : ChangeSpec := { name := "frameTorn", fn := fun _ => fun
  | [d1, d2] => { results := [.lit (.bool false)], args := [d1, d2] }
  | _ => none }
def FrameTornWrongFalsely : Prop := frameTornRow.holds Try.pinned (OpenSpec.ofChange frameTornWrong)

/-- 'tephralaw03.FrameEmpty': WHATEVER THE INPUT: true; the input reads as it did. -/
def frameEmptySpec : ChangeSpec := { name := "frameEmpty", fn := fun _ => fun
  | [d1, d2] => { results := [.lit (.bool true)], args := [d1, d2] }
  | _ => none }
def frameEmptyRow : OpenClaim := { program := "ytflolmldildjhaa", sum := "c0b974fcfc19ca2d978f11b5960afe40cae7883670f03a67e41455d44fb577d4", func := "tephra/tephralaw03.FrameEmpty", spec := "frameEmpty", unfollowed := true, recurses := true, apart := false }
def FrameEmptySaid : Prop := frameEmptyRow.holds Try.pinned (OpenSpec.ofChange frameEmptySpec)

/-- ITS FALSE NEIGHBOUR: 'it returns false'. Refute it at one input. -/
def frameEmptyWrong : ChangeSpec := { name := "frameEmpty", fn := fun _ => fun
  | [d1, d2] => { results := [.lit (.bool false)], args := [d1, d2] }
  | _ => none }
def FrameEmptyWrongFalsely : Prop := frameEmptyRow.holds Try.pinned (OpenSpec.ofChange frameEmptyWrong)

/- THE SECOND FORM. 'bulk': how many values and letters a reading holds, each counted each time it is reached (what is shared counts as often as it is met; a slice's spare places count too). A statement '..UptoSaid' is the law's where the arguments, and the package variables that the reading takes, are together of bulk at most 1048576: NARROWER than '..Said'. Prove '..Said' where nothing that the law and all that it calls make is longer than what came in: it says more and counts as full. Else prove '..UptoSaid'. A law counts once. -/
mutual
def uptoBulk {H : Type} : DataW H → Nat
  | .lit (.string bytes) => bytes.length + 1
  | .lit _ => 1
  | .nil => 1
  | .ptr d => uptoBulk d + 1
  | .slice elems spare => uptoBulkAll elems + uptoBulkAll spare + 1
  | .agg parts => uptoBulkAll parts + 1
  | .iface _ d => uptoBulk d + 1
  | .map entries => uptoBulkEntries entries + 1
  | .held _ => 1
def uptoBulkAll {H : Type} : List (DataW H) → Nat
  | [] => 0
  | d :: r => uptoBulk d + uptoBulkAll r
def uptoBulkEntries {H : Type} : List (Lit × DataW H) → Nat
  | [] => 0
  | x :: r => uptoBulkEntry x + uptoBulkEntries r
def uptoBulkEntry {H : Type} : Lit × DataW H → Nat
  | (.string bytes, d) => bytes.length + uptoBulk d + 1
  | (_, d) => uptoBulk d + 1
 end
def uptoSmall : (H : Type) → List (DataW H) → Bool := fun _ ds => decide (uptoBulkAll ds ≤ 1048576)
def OpenSpec.upto (s : _root_.Go.ChangeSpec) : _root_.Go.OpenSpec := { _root_.Go.OpenSpec.ofChange s with cond := some uptoSmall }

/-- 'tephralaw02.CheckTable', WHERE WHAT IT READS IS OF BULK AT MOST 1048576: true; the input reads as it did. -/
def checkTableUptoRow : OpenClaim := { program := "ytflolmldildjhaa", sum := "c0b974fcfc19ca2d978f11b5960afe40cae7883670f03a67e41455d44fb577d4", func := "tephra/tephralaw02.CheckTable", spec := "checkTable", apart := false, narrowed := true }
def CheckTableUptoSaid : Prop := checkTableUptoRow.holds Try.pinned (OpenSpec.upto checkTableSpec)

/-- 'tephralaw02.CheckSum', WHERE WHAT IT READS IS OF BULK AT MOST 1048576: true; the input reads as it did. -/
def checkSumUptoRow : OpenClaim := { program := "ytflolmldildjhaa", sum := "c0b974fcfc19ca2d978f11b5960afe40cae7883670f03a67e41455d44fb577d4", func := "tephra/tephralaw02.CheckSum", spec := "checkSum", apart := false, narrowed := true }
def CheckSumUptoSaid : Prop := checkSumUptoRow.holds Try.pinned (OpenSpec.upto checkSumSpec)

/-- 'tephralaw02.CheckOne', WHERE WHAT IT READS IS OF BULK AT MOST 1048576: true; the input reads as it did. -/
def checkOneUptoRow : OpenClaim := { program := "ytflolmldildjhaa", sum := "c0b974fcfc19ca2d978f11b5960afe40cae7883670f03a67e41455d44fb577d4", func := "tephra/tephralaw02.CheckOne", spec := "checkOne", apart := false, narrowed := true }
def CheckOneUptoSaid : Prop := checkOneUptoRow.holds Try.pinned (OpenSpec.upto checkOneSpec)

/-- 'tephralaw02.CheckBurst', WHERE WHAT IT READS IS OF BULK AT MOST 1048576: true; the input reads as it did. -/
def checkBurstUptoRow : OpenClaim := { program := "ytflolmldildjhaa", sum := "c0b974fcfc19ca2d978f11b5960afe40cae7883670f03a67e41455d44fb577d4", func := "tephra/tephralaw02.CheckBurst", spec := "checkBurst", apart := false, narrowed := true }
def CheckBurstUptoSaid : Prop := checkBurstUptoRow.holds Try.pinned (OpenSpec.upto checkBurstSpec)

/-- 'tephralaw02.CheckThree', WHERE WHAT IT READS IS OF BULK AT MOST 1048576: true; the input reads as it did. -/
def checkThreeUptoRow : OpenClaim := { program := "ytflolmldildjhaa", sum := "c0b974fcfc19ca2d978f11b5960afe40cae7883670f03a67e41455d44fb577d4", func := "tephra/tephralaw02.CheckThree", spec := "checkThree", apart := false, narrowed := true }
def CheckThreeUptoSaid : Prop := checkThreeUptoRow.holds Try.pinned (OpenSpec.upto checkThreeSpec)

/-- 'tephralaw02.CheckPoly', WHERE WHAT IT READS IS OF BULK AT MOST 1048576: true; the input reads as it did. -/
def checkPolyUptoRow : OpenClaim := { program := "ytflolmldildjhaa", sum := "c0b974fcfc19ca2d978f11b5960afe40cae7883670f03a67e41455d44fb577d4", func := "tephra/tephralaw02.CheckPoly", spec := "checkPoly", apart := false, narrowed := true }
def CheckPolyUptoSaid : Prop := checkPolyUptoRow.holds Try.pinned (OpenSpec.upto checkPolySpec)

/-- 'tephralaw02.CheckTables', WHERE WHAT IT READS IS OF BULK AT MOST 1048576: true; the input reads as it did. -/
def checkTablesUptoRow : OpenClaim := { program := "ytflolmldildjhaa", sum := "c0b974fcfc19ca2d978f11b5960afe40cae7883670f03a67e41455d44fb577d4", func := "tephra/tephralaw02.CheckTables", spec := "checkTables", apart := false, narrowed := true }
def CheckTablesUptoSaid : Prop := checkTablesUptoRow.holds Try.pinned (OpenSpec.upto checkTablesSpec)

/-- 'tephralaw03.FrameMake', WHERE WHAT IT READS IS OF BULK AT MOST 1048576: true; the input reads as it did. -/
def frameMakeUptoRow : OpenClaim := { program := "ytflolmldildjhaa", sum := "c0b974fcfc19ca2d978f11b5960afe40cae7883670f03a67e41455d44fb577d4", func := "tephra/tephralaw03.FrameMake", spec := "frameMake", apart := false, narrowed := true }
def FrameMakeUptoSaid : Prop := frameMakeUptoRow.holds Try.pinned (OpenSpec.upto frameMakeSpec)

/-- 'tephralaw03.FrameOne', WHERE WHAT IT READS IS OF BULK AT MOST 1048576: true; the input reads as it did. -/
def frameOneUptoRow : OpenClaim := { program := "ytflolmldildjhaa", sum := "c0b974fcfc19ca2d978f11b5960afe40cae7883670f03a67e41455d44fb577d4", func := "tephra/tephralaw03.FrameOne", spec := "frameOne", apart := false, narrowed := true }
def FrameOneUptoSaid : Prop := frameOneUptoRow.holds Try.pinned (OpenSpec.upto frameOneSpec)

/-- 'tephralaw03.FrameFlip', WHERE WHAT IT READS IS OF BULK AT MOST 1048576: true; the input reads as it did. -/
def frameFlipUptoRow : OpenClaim := { program := "ytflolmldildjhaa", sum := "c0b974fcfc19ca2d978f11b5960afe40cae7883670f03a67e41455d44fb577d4", func := "tephra/tephralaw03.FrameFlip", spec := "frameFlip", apart := false, narrowed := true }
def FrameFlipUptoSaid : Prop := frameFlipUptoRow.holds Try.pinned (OpenSpec.upto frameFlipSpec)

/-- 'tephralaw03.FrameApart', WHERE WHAT IT READS IS OF BULK AT MOST 1048576: true; the input reads as it did. -/
def frameApartUptoRow : OpenClaim := { program := "ytflolmldildjhaa", sum := "c0b974fcfc19ca2d978f11b5960afe40cae7883670f03a67e41455d44fb577d4", func := "tephra/tephralaw03.FrameApart", spec := "frameApart", apart := false, narrowed := true }
def FrameApartUptoSaid : Prop := frameApartUptoRow.holds Try.pinned (OpenSpec.upto frameApartSpec)

/-- 'tephralaw03.FrameAll', WHERE WHAT IT READS IS OF BULK AT MOST 1048576: true; the input reads as it did. -/
def frameAllUptoRow : OpenClaim := { program := "ytflolmldildjhaa", sum := "c0b974fcfc19ca2d978f11b5960afe40cae7883670f03a67e41455d44fb577d4", func := "tephra/tephralaw03.FrameAll", spec := "frameAll", unfollowed := true, recurses := true, apart := false, narrowed := true }
def FrameAllUptoSaid : Prop := frameAllUptoRow.holds Try.pinned (OpenSpec.upto frameAllSpec)

/-- 'tephralaw03.FrameRows', WHERE WHAT IT READS IS OF BULK AT MOST 1048576: true; the input reads as it did. -/
def frameRowsUptoRow : OpenClaim := { program := "ytflolmldildjhaa", sum := "c0b974fcfc19ca2d978f11b5960afe40cae7883670f03a67e41455d44fb577d4", func := "tephra/tephralaw03.FrameRows", spec := "frameRows", unfollowed := true, recurses := true, apart := false, narrowed := true }
def FrameRowsUptoSaid : Prop := frameRowsUptoRow.holds Try.pinned (OpenSpec.upto frameRowsSpec)

/-- 'tephralaw03.FrameTorn', WHERE WHAT IT READS IS OF BULK AT MOST 1048576: true; the input reads as it did. -/
def frameTornUptoRow : OpenClaim := { program := "ytflolmldildjhaa", sum := "c0b974fcfc19ca2d978f11b5960afe40cae7883670f03a67e41455d44fb577d4", func := "tephra/tephralaw03.FrameTorn", spec := "frameTorn", unfollowed := true, recurses := true, apart := false, narrowed := true }
def FrameTornUptoSaid : Prop := frameTornUptoRow.holds Try.pinned (OpenSpec.upto frameTornSpec)

/-- 'tephralaw03.FrameEmpty', WHERE WHAT IT READS IS OF BULK AT MOST 1048576: true; the input reads as it did. -/
def frameEmptyUptoRow : OpenClaim := { program := "ytflolmldildjhaa", sum := "c0b974fcfc19ca2d978f11b5960afe40cae7883670f03a67e41455d44fb577d4", func := "tephra/tephralaw03.FrameEmpty", spec := "frameEmpty", unfollowed := true, recurses := true, apart := false, narrowed := true }
def FrameEmptyUptoSaid : Prop := frameEmptyUptoRow.holds Try.pinned (OpenSpec.upto frameEmptySpec)

end Rows
end Go.Proofs.Ytflolmldildjhaa
