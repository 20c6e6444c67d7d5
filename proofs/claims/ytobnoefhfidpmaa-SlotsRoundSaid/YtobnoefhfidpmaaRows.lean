/-
  No cell of these rows narrows 'for every input' (looked for: loops, veiled, ifaces, maps, wideKeys, modest, calm, conditions, laid).
  DERIVED. THE GIVEN ROWS OF THIS SEAT. 3 by the template 'for every input the law returns true; each argument reads behind the call as it read before'; 0 by the template 'total and deterministic' (their statements: YtobnoefhfidpmaaTotals.lean).
  GIVEN WITH THE SEED: the statements are not yours to turn. If you find one false, say at which input.
  Laid BY PROGRAM, IN A SANDBOX (cutbox-rows.mjs): the forced cells as the released guide's own fill.sh prints them over the translation 9dd54530a8cbba40… (all of the seat's roots in one cut). By AI agents, Wed Nov 11 2026. No macro, syntax, notation, axiom, sorry.
-/
import Derived.Test.YtobnoefhfidpmaaChecked
import GoSem.Claim
import GoSem.ClaimJoined
import GoSem.ClaimMapViews
import Derived.JoinedTies
import Derived.KernelRfl
namespace Go.Proofs.Ytobnoefhfidpmaa
/- THE CELL 'sum', in the pinned program and in every row, IS THE sha256 OF THE DUMP (.gsa) THAT YtobnoefhfidpmaaProg.lean LOADS. Nothing in Lean hashes anything: it is a label: what it is worth is what the hold of that sum in a sandbox is worth. -/
noncomputable def Try.pinned : Pinned := { name := "ytobnoefhfidpmaa", sum := "9dd54530a8cbba4007759bac9247ffee6bd2e8d4d235484db9132422ded1fd87", checked := Try.checked }
namespace Rows
def none {H : Type} : Left H := { results := [], args := [] }

/-- 'mailguardlaw23.SlotsTell': WHATEVER THE INPUT: true; the input reads as it did. -/
def slotsTellSpec : ChangeSpec := { name := "slotsTell", fn := fun _ => fun
  | [d1, d2, d3] => { results := [.lit (.bool true)], args := [d1, d2, d3] }
  | _ => none }
def slotsTellRow : OpenClaim := { program := "ytobnoefhfidpmaa", sum := "9dd54530a8cbba4007759bac9247ffee6bd2e8d4d235484db9132422ded1fd87", func := "mailguard/mailguardlaw23.SlotsTell", spec := "slotsTell", inPlace := ["sync/atomic.AddInt64", "sync/atomic.LoadInt64"], apart := false }
def SlotsTellSaid : Prop := slotsTellRow.holds Try.pinned (OpenSpec.ofChange slotsTellSpec)

/-- ITS FALSE NEIGHBOUR: 'it returns false'. Refute it at one input. -/
def slotsTellWrong : ChangeSpec := { name := "slotsTell", fn := fun _ => fun
  | [d1, d2, d3] => { results := [.lit (.bool false)], args := [d1, d2, d3] }
  | _ => none }
def SlotsTellWrongFalsely : Prop := slotsTellRow.holds Try.pinned (OpenSpec.ofChange slotsTellWrong)

/-- 'mailguardlaw23.SlotsRound': WHATEVER THE INPUT: true; the input reads as it did. -/
def slotsRoundSpec : ChangeSpec := { name := "slotsRound", fn := fun _ => fun
  | [d1, d2] => { results := [.lit (.bool true)], args := [d1, d2] }
  | _ => none }
def slotsRoundRow : OpenClaim := { program := "ytobnoefhfidpmaa", sum := "9dd54530a8cbba4007759bac9247ffee6bd2e8d4d235484db9132422ded1fd87", func := "mailguard/mailguardlaw23.SlotsRound", spec := "slotsRound", inPlace := ["sync/atomic.AddInt64", "sync/atomic.LoadInt64"], apart := false }
def SlotsRoundSaid : Prop := slotsRoundRow.holds Try.pinned (OpenSpec.ofChange slotsRoundSpec)

/-- ITS FALSE NEIGHBOUR: 'it returns false'. Refute it at one input. -/
def slotsRoundWrong : ChangeSpec := { name := "slotsRound", fn := fun _ => fun
  | [d1, d2] => { results := [.lit (.bool false)], args := [d1, d2] }
  | _ => none }
def SlotsRoundWrongFalsely : Prop := slotsRoundRow.holds Try.pinned (OpenSpec.ofChange slotsRoundWrong)

/-- 'mailguardlaw23.SlotsNext': WHATEVER THE INPUT: true; the input reads as it did. -/
def slotsNextSpec : ChangeSpec := { name := "slotsNext", fn := fun _ => fun
  | [d1, d2, d3] => { results := [.lit (.bool true)], args := [d1, d2, d3] }
  | _ => none }
def slotsNextRow : OpenClaim := { program := "ytobnoefhfidpmaa", sum := "9dd54530a8cbba4007759bac9247ffee6bd2e8d4d235484db9132422ded1fd87", func := "mailguard/mailguardlaw23.SlotsNext", spec := "slotsNext", inPlace := ["sync/atomic.AddInt64", "sync/atomic.LoadInt64"], apart := false }
def SlotsNextSaid : Prop := slotsNextRow.holds Try.pinned (OpenSpec.ofChange slotsNextSpec)

/-- ITS FALSE NEIGHBOUR: 'it returns false'. Refute it at one input. -/
def slotsNextWrong : ChangeSpec := { name := "slotsNext", fn := fun _ => fun
  | [d1, d2, d3] => { results := [.lit (.bool false)], args := [d1, d2, d3] }
  | _ => none }
def SlotsNextWrongFalsely : Prop := slotsNextRow.holds Try.pinned (OpenSpec.ofChange slotsNextWrong)

/- THE SECOND FORM. 'bulk': how many values and letters a reading holds, each counted each time it is reached (what is shared counts as often as it is met; a slice's spare places count too). A statement '..UptoSaid' is the law's where the arguments, and the package variables that the reading takes, are together of bulk at most 1048576: NARROWER than '..Said'. Prove '..Said' where nothing that the law and all that it calls make is longer than what came in: it says more and counts as full. Else prove '..UptoSaid'. A law counts once. -/
mutual
def uptoBulk {H : Type} : DataW H → Nat
  | .lit (.string bytes) => bytes.length + 1
  | .lit _ => 1
  | .nil => 1
  | .ptr d => uptoBulk d + 1
  | .slice elems spare => uptoBulkAll elems + uptoBulkAll spare + 1
  | .agg parts => uptoBulkAll parts + 1
  | .iface _ d => uptoBulk d + 1
  | .map entries => uptoBulkEntries entries + 1
  | .held _ => 1
def uptoBulkAll {H : Type} : List (DataW H) → Nat
  | [] => 0
  | d :: r => uptoBulk d + uptoBulkAll r
def uptoBulkEntries {H : Type} : List (Lit × DataW H) → Nat
  | [] => 0
  | x :: r => uptoBulkEntry x + uptoBulkEntries r
def uptoBulkEntry {H : Type} : Lit × DataW H → Nat
  | (.string bytes, d) => bytes.length + uptoBulk d + 1
  | (_, d) => uptoBulk d + 1
 end
def uptoSmall : (H : Type) → List (DataW H) → Bool := fun _ ds => decide (uptoBulkAll ds ≤ 1048576)
def OpenSpec.upto (s : _root_.Go.ChangeSpec) : _root_.Go.OpenSpec := { _root_.Go.OpenSpec.ofChange s with cond := some uptoSmall }

/-- 'mailguardlaw23.SlotsTell', WHERE WHAT IT READS IS OF BULK AT MOST 1048576: true; the input reads as it did. -/
def slotsTellUptoRow : OpenClaim := { program := "ytobnoefhfidpmaa", sum := "9dd54530a8cbba4007759bac9247ffee6bd2e8d4d235484db9132422ded1fd87", func := "mailguard/mailguardlaw23.SlotsTell", spec := "slotsTell", inPlace := ["sync/atomic.AddInt64", "sync/atomic.LoadInt64"], apart := false, narrowed := true }
def SlotsTellUptoSaid : Prop := slotsTellUptoRow.holds Try.pinned (OpenSpec.upto slotsTellSpec)

/-- 'mailguardlaw23.SlotsRound', WHERE WHAT IT READS IS OF BULK AT MOST 1048576: true; the input reads as it did. -/
def slotsRoundUptoRow : OpenClaim := { program := "ytobnoefhfidpmaa", sum := "9dd54530a8cbba4007759bac9247ffee6bd2e8d4d235484db9132422ded1fd87", func := "mailguard/mailguardlaw23.SlotsRound", spec := "slotsRound", inPlace := ["sync/atomic.AddInt64", "sync/atomic.LoadInt64"], apart := false, narrowed := true }
def SlotsRoundUptoSaid : Prop := slotsRoundUptoRow.holds Try.pinned (OpenSpec.upto slotsRoundSpec)

/-- 'mailguardlaw23.SlotsNext', WHERE WHAT IT READS IS OF BULK AT MOST 1048576: true; the input reads as it did. -/
def slotsNextUptoRow : OpenClaim := { program := "ytobnoefhfidpmaa", sum := "9dd54530a8cbba4007759bac9247ffee6bd2e8d4d235484db9132422ded1fd87", func := "mailguard/mailguardlaw23.SlotsNext", spec := "slotsNext", inPlace := ["sync/atomic.AddInt64", "sync/atomic.LoadInt64"], apart := false, narrowed := true }
def SlotsNextUptoSaid : Prop := slotsNextUptoRow.holds Try.pinned (OpenSpec.upto slotsNextSpec)

end Rows
end Go.Proofs.Ytobnoefhfidpmaa
