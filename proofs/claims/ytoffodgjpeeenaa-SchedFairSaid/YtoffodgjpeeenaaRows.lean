/-
  No cell of these rows narrows 'for every input' (looked for: loops, veiled, ifaces, maps, wideKeys, modest, calm, conditions, laid).
  DERIVED. THE GIVEN ROWS OF THIS SEAT. 4 by the template 'for every input the law returns true; each argument reads behind the call as it read before'; 0 by the template 'total and deterministic' (their statements: YtoffodgjpeeenaaTotals.lean).
  GIVEN WITH THE SEED: the statements are not yours to turn. If you find one false, say at which input.
  Laid BY PROGRAM, IN A SANDBOX (cutbox-rows.mjs): the forced cells as the released guide's own fill.sh prints them over the translation db380c5a555eeb34… (all of the seat's roots in one cut). By AI agents, Wed Nov 11 2026. No macro, syntax, notation, axiom, sorry.
-/
import Derived.Test.YtoffodgjpeeenaaChecked
import GoSem.Claim
import GoSem.ClaimJoined
import GoSem.ClaimMapViews
import Derived.JoinedTies
import Derived.KernelRfl
namespace Go.Proofs.Ytoffodgjpeeenaa
/- THE CELL 'sum', in the pinned program and in every row, IS THE sha256 OF THE DUMP (.gsa) THAT YtoffodgjpeeenaaProg.lean LOADS. Nothing in Lean hashes anything: it is a label: what it is worth is what the hold of that sum in a sandbox is worth. -/
noncomputable def Try.pinned : Pinned := { name := "ytoffodgjpeeenaa", sum := "db380c5a555eeb342cf03a1cef5f540d22af48be1c7f6b15075000ecf7324bf5", checked := Try.checked }
namespace Rows
def none {H : Type} : Left H := { results := [], args := [] }

/-- 'derricklaw10.SchedLists': WHATEVER THE INPUT: true; the input reads as it did. -/
def schedListsSpec : ChangeSpec := { name := "schedLists", fn := fun _ => fun
  | [d1, d2, d3] => { results := [.lit (.bool true)], args := [d1, d2, d3] }
  | _ => none }
def schedListsRow : OpenClaim := { program := "ytoffodgjpeeenaa", sum := "db380c5a555eeb342cf03a1cef5f540d22af48be1c7f6b15075000ecf7324bf5", func := "derrick/derricklaw10.SchedLists", spec := "schedLists", apart := false }
def SchedListsSaid : Prop := schedListsRow.holds Try.pinned (OpenSpec.ofChange schedListsSpec)

/-- ITS FALSE NEIGHBOUR: 'it returns false'. Refute it at one input. -/
def schedListsWrong : ChangeSpec := { name := "schedLists", fn := fun _ => fun
  | [d1, d2, d3] => { results := [.lit (.bool false)], args := [d1, d2, d3] }
  | _ => none }
def SchedListsWrongFalsely : Prop := schedListsRow.holds Try.pinned (OpenSpec.ofChange schedListsWrong)

/-- 'derricklaw10.SchedPlays': WHATEVER THE INPUT: true; the input reads as it did. -/
def schedPlaysSpec : ChangeSpec := { name := "schedPlays", fn := fun _ => fun
  | [d1, d2] => { results := [.lit (.bool true)], args := [d1, d2] }
  | _ => none }
def schedPlaysRow : OpenClaim := { program := "ytoffodgjpeeenaa", sum := "db380c5a555eeb342cf03a1cef5f540d22af48be1c7f6b15075000ecf7324bf5", func := "derrick/derricklaw10.SchedPlays", spec := "schedPlays", apart := false }
def SchedPlaysSaid : Prop := schedPlaysRow.holds Try.pinned (OpenSpec.ofChange schedPlaysSpec)

/-- ITS FALSE NEIGHBOUR: 'it returns false'. Refute it at one input. -/
def schedPlaysWrong : ChangeSpec := { name := "schedPlays", fn := fun _ => fun
  | [d1, d2] => { results := [.lit (.bool false)], args := [d1, d2] }
  | _ => none }
def SchedPlaysWrongFalsely : Prop := schedPlaysRow.holds Try.pinned (OpenSpec.ofChange schedPlaysWrong)

/-- 'derricklaw10.SchedFair': WHATEVER THE INPUT: true; the input reads as it did. -/
def schedFairSpec : ChangeSpec := { name := "schedFair", fn := fun _ => fun
  | [d1, d2, d3] => { results := [.lit (.bool true)], args := [d1, d2, d3] }
  | _ => none }
def schedFairRow : OpenClaim := { program := "ytoffodgjpeeenaa", sum := "db380c5a555eeb342cf03a1cef5f540d22af48be1c7f6b15075000ecf7324bf5", func := "derrick/derricklaw10.SchedFair", spec := "schedFair", apart := false }
def SchedFairSaid : Prop := schedFairRow.holds Try.pinned (OpenSpec.ofChange schedFairSpec)

/-- ITS FALSE NEIGHBOUR: 'it returns false'. Refute it at one input. -/
def schedFairWrong : ChangeSpec := { name := "schedFair", fn := fun _ => fun
  | [d1, d2, d3] => { results := [.lit (.bool false)], args := [d1, d2, d3] }
  | _ => none }
def SchedFairWrongFalsely : Prop := schedFairRow.holds Try.pinned (OpenSpec.ofChange schedFairWrong)

/-- 'derricklaw10.SchedNumbers': WHATEVER THE INPUT: true; the input reads as it did. -/
def schedNumbersSpec : ChangeSpec := { name := "schedNumbers", fn := fun _ => fun
  | [d1, d2] => { results := [.lit (.bool true)], args := [d1, d2] }
  | _ => none }
def schedNumbersRow : OpenClaim := { program := "ytoffodgjpeeenaa", sum := "db380c5a555eeb342cf03a1cef5f540d22af48be1c7f6b15075000ecf7324bf5", func := "derrick/derricklaw10.SchedNumbers", spec := "schedNumbers", apart := false }
def SchedNumbersSaid : Prop := schedNumbersRow.holds Try.pinned (OpenSpec.ofChange schedNumbersSpec)

/-- ITS FALSE NEIGHBOUR: 'it returns false'. Refute it at one input. -/
def schedNumbersWrong : ChangeSpec := { name := "schedNumbers", fn := fun _ => fun
  | [d1, d2] => { results := [.lit (.bool false)], args := [d1, d2] }
  | _ => none }
def SchedNumbersWrongFalsely : Prop := schedNumbersRow.holds Try.pinned (OpenSpec.ofChange schedNumbersWrong)

/- THE SECOND FORM. 'bulk': how many values and letters a reading holds, each counted each time it is reached (what is shared counts as often as it is met; a slice's spare places count too). A statement '..UptoSaid' is the law's where the arguments, and the package variables that the reading takes, are together of bulk at most 1048576: NARROWER than '..Said'. Prove '..Said' where nothing that the law and all that it calls make is longer than what came in: it says more and counts as full. Else prove '..UptoSaid'. A law counts once. -/
mutual
def uptoBulk {H : Type} : DataW H → Nat
  | .lit (.string bytes) => bytes.length + 1
  | .lit _ => 1
  | .nil => 1
  | .ptr d => uptoBulk d + 1
  | .slice elems spare => uptoBulkAll elems + uptoBulkAll spare + 1
  | .agg parts => uptoBulkAll parts + 1
  | .iface _ d => uptoBulk d + 1
  | .map entries => uptoBulkEntries entries + 1
  | .held _ => 1
def uptoBulkAll {H : Type} : List (DataW H) → Nat
  | [] => 0
  | d :: r => uptoBulk d + uptoBulkAll r
def uptoBulkEntries {H : Type} : List (Lit × DataW H) → Nat
  | [] => 0
  | x :: r => uptoBulkEntry x + uptoBulkEntries r
def uptoBulkEntry {H : Type} : Lit × DataW H → Nat
  | (.string bytes, d) => bytes.length + uptoBulk d + 1
  | (_, d) => uptoBulk d + 1
 end
def uptoSmall : (H : Type) → List (DataW H) → Bool := fun _ ds => decide (uptoBulkAll ds ≤ 1048576)
def OpenSpec.upto (s : _root_.Go.ChangeSpec) : _root_.Go.OpenSpec := { _root_.Go.OpenSpec.ofChange s with cond := some uptoSmall }

/-- 'derricklaw10.SchedLists', WHERE WHAT IT READS IS OF BULK AT MOST 1048576: true; the input reads as it did. -/
def schedListsUptoRow : OpenClaim := { program := "ytoffodgjpeeenaa", sum := "db380c5a555eeb342cf03a1cef5f540d22af48be1c7f6b15075000ecf7324bf5", func := "derrick/derricklaw10.SchedLists", spec := "schedLists", apart := false, narrowed := true }
def SchedListsUptoSaid : Prop := schedListsUptoRow.holds Try.pinned (OpenSpec.upto schedListsSpec)

/-- 'derricklaw10.SchedPlays', WHERE WHAT IT READS IS OF BULK AT MOST 1048576: true; the input reads as it did. -/
def schedPlaysUptoRow : OpenClaim := { program := "ytoffodgjpeeenaa", sum := "db380c5a555eeb342cf03a1cef5f540d22af48be1c7f6b15075000ecf7324bf5", func := "derrick/derricklaw10.SchedPlays", spec := "schedPlays", apart := false, narrowed := true }
def SchedPlaysUptoSaid : Prop := schedPlaysUptoRow.holds Try.pinned (OpenSpec.upto schedPlaysSpec)

/-- 'derricklaw10.SchedFair', WHERE WHAT IT READS IS OF BULK AT MOST 1048576: true; the input reads as it did. -/
def schedFairUptoRow : OpenClaim := { program := "ytoffodgjpeeenaa", sum := "db380c5a555eeb342cf03a1cef5f540d22af48be1c7f6b15075000ecf7324bf5", func := "derrick/derricklaw10.SchedFair", spec := "schedFair", apart := false, narrowed := true }
def SchedFairUptoSaid : Prop := schedFairUptoRow.holds Try.pinned (OpenSpec.upto schedFairSpec)

/-- 'derricklaw10.SchedNumbers', WHERE WHAT IT READS IS OF BULK AT MOST 1048576: true; the input reads as it did. -/
def schedNumbersUptoRow : OpenClaim := { program := "ytoffodgjpeeenaa", sum := "db380c5a555eeb342cf03a1cef5f540d22af48be1c7f6b15075000ecf7324bf5", func := "derrick/derricklaw10.SchedNumbers", spec := "schedNumbers", apart := false, narrowed := true }
def SchedNumbersUptoSaid : Prop := schedNumbersUptoRow.holds Try.pinned (OpenSpec.upto schedNumbersSpec)

end Rows
end Go.Proofs.Ytoffodgjpeeenaa
