/-
  No cell of these rows narrows 'for every input' (looked for: loops, veiled, ifaces, maps, wideKeys, modest, calm, conditions, laid).
  DERIVED. THE GIVEN ROWS OF THIS SEAT. 4 by the template 'for every input the law returns true; each argument reads behind the call as it read before'; 0 by the template 'total and deterministic' (their statements: YtehekapmbipagaaTotals.lean).
  GIVEN WITH THE SEED: the statements are not yours to turn. If you find one false, say at which input.
  Laid BY PROGRAM, IN A SANDBOX (cutbox-rows.mjs): the forced cells as the released guide's own fill.sh prints them over the translation d80641462ce408c6… (all of the seat's roots in one cut). By AI agents, Wed Nov 11 2026. No macro, syntax, notation, axiom, sorry.
-/
import Derived.Test.YtehekapmbipagaaChecked
import GoSem.Claim
import GoSem.ClaimJoined
import GoSem.ClaimMapViews
import Derived.JoinedTies
import Derived.KernelRfl
namespace Go.Proofs.Ytehekapmbipagaa
/- THE CELL 'sum', in the pinned program and in every row, IS THE sha256 OF THE DUMP (.gsa) THAT YtehekapmbipagaaProg.lean LOADS. Nothing in Lean hashes anything: it is a label: what it is worth is what the hold of that sum in a sandbox is worth. -/
noncomputable def Try.pinned : Pinned := { name := "ytehekapmbipagaa", sum := "d80641462ce408c62e17a652a26f9f195bd8e22eec9f32c8cf5e41af9c81157c", checked := Try.checked }
namespace Rows
def none {H : Type} : Left H := { results := [], args := [] }

/-- 'mailguardlaw15.RetryTells': WHATEVER THE INPUT: true; the input reads as it did. -/
def retryTellsSpec : ChangeSpec := { name := "retryTells", fn := fun _ => fun
  | [d1, d2] => { results := [.lit (.bool true)], args := [d1, d2] }
  | _ => none }
def retryTellsRow : OpenClaim := { program := "ytehekapmbipagaa", sum := "d80641462ce408c62e17a652a26f9f195bd8e22eec9f32c8cf5e41af9c81157c", func := "mailguard/mailguardlaw15.RetryTells", spec := "retryTells", unfollowed := true, recurses := true, apart := false }
def RetryTellsSaid : Prop := retryTellsRow.holds Try.pinned (OpenSpec.ofChange retryTellsSpec)

/-- ITS FALSE NEIGHBOUR: 'it returns false'. Refute it at one input. -/
def retryTellsWrong : ChangeSpec := { name := "retryTells", fn := fun _ => fun
  | [d1, d2] => { results := [.lit (.bool false)], args := [d1, d2] }
  | _ => none }
def RetryTellsWrongFalsely : Prop := retryTellsRow.holds Try.pinned (OpenSpec.ofChange retryTellsWrong)

/-- 'mailguardlaw15.RetryEnds': WHATEVER THE INPUT: true; the input reads as it did. -/
def retryEndsSpec : ChangeSpec := { name := "retryEnds", fn := fun _ => fun
  | [d1, d2] => { results := [.lit (.bool true)], args := [d1, d2] }
  | _ => none }
def retryEndsRow : OpenClaim := { program := "ytehekapmbipagaa", sum := "d80641462ce408c62e17a652a26f9f195bd8e22eec9f32c8cf5e41af9c81157c", func := "mailguard/mailguardlaw15.RetryEnds", spec := "retryEnds", unfollowed := true, recurses := true, apart := false }
def RetryEndsSaid : Prop := retryEndsRow.holds Try.pinned (OpenSpec.ofChange retryEndsSpec)

/-- ITS FALSE NEIGHBOUR: 'it returns false'. Refute it at one input. -/
def retryEndsWrong : ChangeSpec := { name := "retryEnds", fn := fun _ => fun
  | [d1, d2] => { results := [.lit (.bool false)], args := [d1, d2] }
  | _ => none }
def RetryEndsWrongFalsely : Prop := retryEndsRow.holds Try.pinned (OpenSpec.ofChange retryEndsWrong)

/-- 'mailguardlaw15.RetryGrows': WHATEVER THE INPUT: true; the input reads as it did. -/
def retryGrowsSpec : ChangeSpec := { name := "retryGrows", fn := fun _ => fun
  | [d1, d2] => { results := [.lit (.bool true)], args := [d1, d2] }
  | _ => none }
def retryGrowsRow : OpenClaim := { program := "ytehekapmbipagaa", sum := "d80641462ce408c62e17a652a26f9f195bd8e22eec9f32c8cf5e41af9c81157c", func := "mailguard/mailguardlaw15.RetryGrows", spec := "retryGrows", unfollowed := true, recurses := true, apart := false }
def RetryGrowsSaid : Prop := retryGrowsRow.holds Try.pinned (OpenSpec.ofChange retryGrowsSpec)

/-- ITS FALSE NEIGHBOUR: 'it returns false'. Refute it at one input. -/
def retryGrowsWrong : ChangeSpec := { name := "retryGrows", fn := fun _ => fun
  | [d1, d2] => { results := [.lit (.bool false)], args := [d1, d2] }
  | _ => none }
def RetryGrowsWrongFalsely : Prop := retryGrowsRow.holds Try.pinned (OpenSpec.ofChange retryGrowsWrong)

/-- 'mailguardlaw15.RetryPlans': WHATEVER THE INPUT: true; the input reads as it did. -/
def retryPlansSpec : ChangeSpec := { name := "retryPlans", fn := fun _ => fun
  | [d1, d2] => { results := [.lit (.bool true)], args := [d1, d2] }
  | _ => none }
def retryPlansRow : OpenClaim := { program := "ytehekapmbipagaa", sum := "d80641462ce408c62e17a652a26f9f195bd8e22eec9f32c8cf5e41af9c81157c", func := "mailguard/mailguardlaw15.RetryPlans", spec := "retryPlans", unfollowed := true, recurses := true, apart := false }
def RetryPlansSaid : Prop := retryPlansRow.holds Try.pinned (OpenSpec.ofChange retryPlansSpec)

/-- ITS FALSE NEIGHBOUR: 'it returns false'. Refute it at one input. -/
def retryPlansWrong : ChangeSpec := { name := "retryPlans", fn := fun _ => fun
  | [d1, d2] => { results := [.lit (.bool false)], args := [d1, d2] }
  | _ => none }
def RetryPlansWrongFalsely : Prop := retryPlansRow.holds Try.pinned (OpenSpec.ofChange retryPlansWrong)

/- THE SECOND FORM. 'bulk': how many values and letters a reading holds, each counted each time it is reached (what is shared counts as often as it is met; a slice's spare places count too). A statement '..UptoSaid' is the law's where the arguments, and the package variables that the reading takes, are together of bulk at most 1048576: NARROWER than '..Said'. Prove '..Said' where nothing that the law and all that it calls make is longer than what came in: it says more and counts as full. Else prove '..UptoSaid'. A law counts once. -/
mutual
def uptoBulk {H : Type} : DataW H → Nat
  | .lit (.string bytes) => bytes.length + 1
  | .lit _ => 1
  | .nil => 1
  | .ptr d => uptoBulk d + 1
  | .slice elems spare => uptoBulkAll elems + uptoBulkAll spare + 1
  | .agg parts => uptoBulkAll parts + 1
  | .iface _ d => uptoBulk d + 1
  | .map entries => uptoBulkEntries entries + 1
  | .held _ => 1
def uptoBulkAll {H : Type} : List (DataW H) → Nat
  | [] => 0
  | d :: r => uptoBulk d + uptoBulkAll r
def uptoBulkEntries {H : Type} : List (Lit × DataW H) → Nat
  | [] => 0
  | x :: r => uptoBulkEntry x + uptoBulkEntries r
def uptoBulkEntry {H : Type} : Lit × DataW H → Nat
  | (.string bytes, d) => bytes.length + uptoBulk d + 1
  | (_, d) => uptoBulk d + 1
 end
def uptoSmall : (H : Type) → List (DataW H) → Bool := fun _ ds => decide (uptoBulkAll ds ≤ 1048576)
def OpenSpec.upto (s : _root_.Go.ChangeSpec) : _root_.Go.OpenSpec := { _root_.Go.OpenSpec.ofChange s with cond := some uptoSmall }

/-- 'mailguardlaw15.RetryTells', WHERE WHAT IT READS IS OF BULK AT MOST 1048576: true; the input reads as it did. -/
def retryTellsUptoRow : OpenClaim := { program := "ytehekapmbipagaa", sum := "d80641462ce408c62e17a652a26f9f195bd8e22eec9f32c8cf5e41af9c81157c", func := "mailguard/mailguardlaw15.RetryTells", spec := "retryTells", unfollowed := true, recurses := true, apart := false, narrowed := true }
def RetryTellsUptoSaid : Prop := retryTellsUptoRow.holds Try.pinned (OpenSpec.upto retryTellsSpec)

/-- 'mailguardlaw15.RetryEnds', WHERE WHAT IT READS IS OF BULK AT MOST 1048576: true; the input reads as it did. -/
def retryEndsUptoRow : OpenClaim := { program := "ytehekapmbipagaa", sum := "d80641462ce408c62e17a652a26f9f195bd8e22eec9f32c8cf5e41af9c81157c", func := "mailguard/mailguardlaw15.RetryEnds", spec := "retryEnds", unfollowed := true, recurses := true, apart := false, narrowed := true }
def RetryEndsUptoSaid : Prop := retryEndsUptoRow.holds Try.pinned (OpenSpec.upto retryEndsSpec)

/-- 'mailguardlaw15.RetryGrows', WHERE WHAT IT READS IS OF BULK AT MOST 1048576: true; the input reads as it did. -/
def retryGrowsUptoRow : OpenClaim := { program := "ytehekapmbipagaa", sum := "d80641462ce408c62e17a652a26f9f195bd8e22eec9f32c8cf5e41af9c81157c", func := "mailguard/mailguardlaw15.RetryGrows", spec := "retryGrows", unfollowed := true, recurses := true, apart := false, narrowed := true }
def RetryGrowsUptoSaid : Prop := retryGrowsUptoRow.holds Try.pinned (OpenSpec.upto retryGrowsSpec)

/-- 'mailguardlaw15.RetryPlans', WHERE WHAT IT READS IS OF BULK AT MOST 1048576: true; the input reads as it did. -/
def retryPlansUptoRow : OpenClaim := { program := "ytehekapmbipagaa", sum := "d80641462ce408c62e17a652a26f9f195bd8e22eec9f32c8cf5e41af9c81157c", func := "mailguard/mailguardlaw15.RetryPlans", spec := "retryPlans", unfollowed := true, recurses := true, apart := false, narrowed := true }
def RetryPlansUptoSaid : Prop := retryPlansUptoRow.holds Try.pinned (OpenSpec.upto retryPlansSpec)

end Rows
end Go.Proofs.Ytehekapmbipagaa
