/-
  No cell of these rows narrows 'for every input' (looked for: loops, veiled, ifaces, maps, wideKeys, modest, calm, conditions, laid).
  DERIVED. THE GIVEN ROWS OF THIS SEAT. 12 by the template 'for every input the law returns true; each argument reads behind the call as it read before'; 0 by the template 'total and deterministic' (their statements: YtmlaconjeplhpaaTotals.lean).
  GIVEN WITH THE SEED: the statements are not yours to turn. If you find one false, say at which input.
  Laid BY PROGRAM, IN A SANDBOX (cutbox-rows.mjs): the forced cells as the released guide's own fill.sh prints them over the translation 372803f1dad11c86… (all of the seat's roots in one cut). By AI agents, Wed Nov 11 2026. No macro, syntax, notation, axiom, sorry.
-/
import Derived.Test.YtmlaconjeplhpaaChecked
import GoSem.Claim
import GoSem.ClaimJoined
import GoSem.ClaimMapViews
import Derived.JoinedTies
import Derived.KernelRfl
namespace Go.Proofs.Ytmlaconjeplhpaa
/- THE CELL 'sum', in the pinned program and in every row, IS THE sha256 OF THE DUMP (.gsa) THAT YtmlaconjeplhpaaProg.lean LOADS. Nothing in Lean hashes anything: it is a label: what it is worth is what the hold of that sum in a sandbox is worth. -/
noncomputable def Try.pinned : Pinned := { name := "ytmlaconjeplhpaa", sum := "372803f1dad11c86b041471ab553ee51d5cc15fcfff081db5741dd734934c413", checked := Try.checked }
namespace Rows
def none {H : Type} : Left H := { results := [], args := [] }

/-- 'furlonglaw15.StoreAny': WHATEVER THE INPUT: true; the input reads as it did. -/
def storeAnySpec : ChangeSpec := { name := "storeAny", fn := fun _ => fun
  | [d1, d2, d3, d4] => { results := [.lit (.bool true)], args := [d1, d2, d3, d4] }
  | _ => none }
def storeAnyRow : OpenClaim := { program := "ytmlaconjeplhpaa", sum := "372803f1dad11c86b041471ab553ee51d5cc15fcfff081db5741dd734934c413", func := "furlong/furlonglaw15.StoreAny", spec := "storeAny", unfollowed := true, recurses := true, apart := false }
def StoreAnySaid : Prop := storeAnyRow.holds Try.pinned (OpenSpec.ofChange storeAnySpec)

/-- ITS FALSE NEIGHBOUR: 'it returns false'. Refute it at one input. -/
def storeAnyWrong : ChangeSpec := { name := "storeAny", fn := fun _ => fun
  | [d1, d2, d3, d4] => { results := [.lit (.bool false)], args := [d1, d2, d3, d4] }
  | _ => none }
def StoreAnyWrongFalsely : Prop := storeAnyRow.holds Try.pinned (OpenSpec.ofChange storeAnyWrong)

/-- 'furlonglaw15.StoreNil': WHATEVER THE INPUT: true; the input reads as it did. -/
def storeNilSpec : ChangeSpec := { name := "storeNil", fn := fun _ => fun
  | [d] => { results := [.lit (.bool true)], args := [d] }
  | _ => none }
def storeNilRow : OpenClaim := { program := "ytmlaconjeplhpaa", sum := "372803f1dad11c86b041471ab553ee51d5cc15fcfff081db5741dd734934c413", func := "furlong/furlonglaw15.StoreNil", spec := "storeNil", unfollowed := true, recurses := true, apart := false }
def StoreNilSaid : Prop := storeNilRow.holds Try.pinned (OpenSpec.ofChange storeNilSpec)

/-- ITS FALSE NEIGHBOUR: 'it returns false'. Refute it at one input. -/
def storeNilWrong : ChangeSpec := { name := "storeNil", fn := fun _ => fun
  | [d] => { results := [.lit (.bool false)], args := [d] }
  | _ => none }
def StoreNilWrongFalsely : Prop := storeNilRow.holds Try.pinned (OpenSpec.ofChange storeNilWrong)

/-- 'furlonglaw15.StoreStale': WHATEVER THE INPUT: true; the input reads as it did. -/
def storeStaleSpec : ChangeSpec := { name := "storeStale", fn := fun _ => fun
  | [d1, d2, d3] => { results := [.lit (.bool true)], args := [d1, d2, d3] }
  | _ => none }
def storeStaleRow : OpenClaim := { program := "ytmlaconjeplhpaa", sum := "372803f1dad11c86b041471ab553ee51d5cc15fcfff081db5741dd734934c413", func := "furlong/furlonglaw15.StoreStale", spec := "storeStale", unfollowed := true, recurses := true, apart := false }
def StoreStaleSaid : Prop := storeStaleRow.holds Try.pinned (OpenSpec.ofChange storeStaleSpec)

/-- ITS FALSE NEIGHBOUR: 'it returns false'. Refute it at one input. -/
def storeStaleWrong : ChangeSpec := { name := "storeStale", fn := fun _ => fun
  | [d1, d2, d3] => { results := [.lit (.bool false)], args := [d1, d2, d3] }
  | _ => none }
def StoreStaleWrongFalsely : Prop := storeStaleRow.holds Try.pinned (OpenSpec.ofChange storeStaleWrong)

/-- 'furlonglaw15.StoreHolds': WHATEVER THE INPUT: true; the input reads as it did. -/
def storeHoldsSpec : ChangeSpec := { name := "storeHolds", fn := fun _ => fun
  | [d1, d2] => { results := [.lit (.bool true)], args := [d1, d2] }
  | _ => none }
def storeHoldsRow : OpenClaim := { program := "ytmlaconjeplhpaa", sum := "372803f1dad11c86b041471ab553ee51d5cc15fcfff081db5741dd734934c413", func := "furlong/furlonglaw15.StoreHolds", spec := "storeHolds", unfollowed := true, recurses := true, apart := false }
def StoreHoldsSaid : Prop := storeHoldsRow.holds Try.pinned (OpenSpec.ofChange storeHoldsSpec)

/-- ITS FALSE NEIGHBOUR: 'it returns false'. Refute it at one input. -/
def storeHoldsWrong : ChangeSpec := { name := "storeHolds", fn := fun _ => fun
  | [d1, d2] => { results := [.lit (.bool false)], args := [d1, d2] }
  | _ => none }
def StoreHoldsWrongFalsely : Prop := storeHoldsRow.holds Try.pinned (OpenSpec.ofChange storeHoldsWrong)

/-- 'furlonglaw15.StoreAgain': WHATEVER THE INPUT: true; the input reads as it did. -/
def storeAgainSpec : ChangeSpec := { name := "storeAgain", fn := fun _ => fun
  | [d1, d2] => { results := [.lit (.bool true)], args := [d1, d2] }
  | _ => none }
def storeAgainRow : OpenClaim := { program := "ytmlaconjeplhpaa", sum := "372803f1dad11c86b041471ab553ee51d5cc15fcfff081db5741dd734934c413", func := "furlong/furlonglaw15.StoreAgain", spec := "storeAgain", unfollowed := true, recurses := true, apart := false }
def StoreAgainSaid : Prop := storeAgainRow.holds Try.pinned (OpenSpec.ofChange storeAgainSpec)

/-- ITS FALSE NEIGHBOUR: 'it returns false'. Refute it at one input. -/
def storeAgainWrong : ChangeSpec := { name := "storeAgain", fn := fun _ => fun
  | [d1, d2] => { results := [.lit (.bool false)], args := [d1, d2] }
  | _ => none }
def StoreAgainWrongFalsely : Prop := storeAgainRow.holds Try.pinned (OpenSpec.ofChange storeAgainWrong)

/-- 'furlonglaw16.KeepLasts': WHATEVER THE INPUT: true; the input reads as it did. -/
def keepLastsSpec : ChangeSpec := { name := "keepLasts", fn := fun _ => fun
  | [d1, d2, d3, d4] => { results := [.lit (.bool true)], args := [d1, d2, d3, d4] }
  | _ => none }
def keepLastsRow : OpenClaim := { program := "ytmlaconjeplhpaa", sum := "372803f1dad11c86b041471ab553ee51d5cc15fcfff081db5741dd734934c413", func := "furlong/furlonglaw16.KeepLasts", spec := "keepLasts", unfollowed := true, recurses := true, apart := false }
def KeepLastsSaid : Prop := keepLastsRow.holds Try.pinned (OpenSpec.ofChange keepLastsSpec)

/-- ITS FALSE NEIGHBOUR: 'it returns false'. Refute it at one input. -/
def keepLastsWrong : ChangeSpec := { name := "keepLasts", fn := fun _ => fun
  | [d1, d2, d3, d4] => { results := [.lit (.bool false)], args := [d1, d2, d3, d4] }
  | _ => none }
def KeepLastsWrongFalsely : Prop := keepLastsRow.holds Try.pinned (OpenSpec.ofChange keepLastsWrong)

/-- 'furlonglaw16.KeepHolds': WHATEVER THE INPUT: true; the input reads as it did. -/
def keepHoldsSpec : ChangeSpec := { name := "keepHolds", fn := fun _ => fun
  | [d] => { results := [.lit (.bool true)], args := [d] }
  | _ => none }
def keepHoldsRow : OpenClaim := { program := "ytmlaconjeplhpaa", sum := "372803f1dad11c86b041471ab553ee51d5cc15fcfff081db5741dd734934c413", func := "furlong/furlonglaw16.KeepHolds", spec := "keepHolds", unfollowed := true, recurses := true, apart := false }
def KeepHoldsSaid : Prop := keepHoldsRow.holds Try.pinned (OpenSpec.ofChange keepHoldsSpec)

/-- ITS FALSE NEIGHBOUR: 'it returns false'. Refute it at one input. -/
def keepHoldsWrong : ChangeSpec := { name := "keepHolds", fn := fun _ => fun
  | [d] => { results := [.lit (.bool false)], args := [d] }
  | _ => none }
def KeepHoldsWrongFalsely : Prop := keepHoldsRow.holds Try.pinned (OpenSpec.ofChange keepHoldsWrong)

/-- 'furlonglaw16.KeepCuts': WHATEVER THE INPUT: true; the input reads as it did. -/
def keepCutsSpec : ChangeSpec := { name := "keepCuts", fn := fun _ => fun
  | [d1, d2, d3, d4] => { results := [.lit (.bool true)], args := [d1, d2, d3, d4] }
  | _ => none }
def keepCutsRow : OpenClaim := { program := "ytmlaconjeplhpaa", sum := "372803f1dad11c86b041471ab553ee51d5cc15fcfff081db5741dd734934c413", func := "furlong/furlonglaw16.KeepCuts", spec := "keepCuts", unfollowed := true, recurses := true, apart := false }
def KeepCutsSaid : Prop := keepCutsRow.holds Try.pinned (OpenSpec.ofChange keepCutsSpec)

/-- ITS FALSE NEIGHBOUR: 'it returns false'. Refute it at one input. -/
def keepCutsWrong : ChangeSpec := { name := "keepCuts", fn := fun _ => fun
  | [d1, d2, d3, d4] => { results := [.lit (.bool false)], args := [d1, d2, d3, d4] }
  | _ => none }
def KeepCutsWrongFalsely : Prop := keepCutsRow.holds Try.pinned (OpenSpec.ofChange keepCutsWrong)

/-- 'furlonglaw16.KeepNil': WHATEVER THE INPUT: true; the input reads as it did. -/
def keepNilSpec : ChangeSpec := { name := "keepNil", fn := fun _ => fun
  | [d1, d2, d3] => { results := [.lit (.bool true)], args := [d1, d2, d3] }
  | _ => none }
def keepNilRow : OpenClaim := { program := "ytmlaconjeplhpaa", sum := "372803f1dad11c86b041471ab553ee51d5cc15fcfff081db5741dd734934c413", func := "furlong/furlonglaw16.KeepNil", spec := "keepNil", unfollowed := true, recurses := true, apart := false }
def KeepNilSaid : Prop := keepNilRow.holds Try.pinned (OpenSpec.ofChange keepNilSpec)

/-- ITS FALSE NEIGHBOUR: 'it returns false'. Refute it at one input. -/
def keepNilWrong : ChangeSpec := { name := "keepNil", fn := fun _ => fun
  | [d1, d2, d3] => { results := [.lit (.bool false)], args := [d1, d2, d3] }
  | _ => none }
def KeepNilWrongFalsely : Prop := keepNilRow.holds Try.pinned (OpenSpec.ofChange keepNilWrong)

/-- 'furlonglaw18.RaftAlone': WHATEVER THE INPUT: true; the input reads as it did. -/
def raftAloneSpec : ChangeSpec := { name := "raftAlone", fn := fun _ => fun
  | [d1, d2] => { results := [.lit (.bool true)], args := [d1, d2] }
  | _ => none }
def raftAloneRow : OpenClaim := { program := "ytmlaconjeplhpaa", sum := "372803f1dad11c86b041471ab553ee51d5cc15fcfff081db5741dd734934c413", func := "furlong/furlonglaw18.RaftAlone", spec := "raftAlone", unfollowed := true, recurses := true, apart := false }
def RaftAloneSaid : Prop := raftAloneRow.holds Try.pinned (OpenSpec.ofChange raftAloneSpec)

/-- ITS FALSE NEIGHBOUR: 'it returns false'. Refute it at one input. -/
def raftAloneWrong : ChangeSpec := { name := "raftAlone", fn := fun _ => fun
  | [d1, d2] => { results := [.lit (.bool false)], args := [d1, d2] }
  | _ => none }
def RaftAloneWrongFalsely : Prop := raftAloneRow.holds Try.pinned (OpenSpec.ofChange raftAloneWrong)

/-- 'furlonglaw18.RaftAgrees': WHATEVER THE INPUT: true; the input reads as it did. -/
def raftAgreesSpec : ChangeSpec := { name := "raftAgrees", fn := fun _ => fun
  | [d1, d2] => { results := [.lit (.bool true)], args := [d1, d2] }
  | _ => none }
def raftAgreesRow : OpenClaim := { program := "ytmlaconjeplhpaa", sum := "372803f1dad11c86b041471ab553ee51d5cc15fcfff081db5741dd734934c413", func := "furlong/furlonglaw18.RaftAgrees", spec := "raftAgrees", unfollowed := true, recurses := true, apart := false }
def RaftAgreesSaid : Prop := raftAgreesRow.holds Try.pinned (OpenSpec.ofChange raftAgreesSpec)

/-- ITS FALSE NEIGHBOUR: 'it returns false'. Refute it at one input. -/
def raftAgreesWrong : ChangeSpec := { name := "raftAgrees", fn := fun _ => fun
  | [d1, d2] => { results := [.lit (.bool false)], args := [d1, d2] }
  | _ => none }
def RaftAgreesWrongFalsely : Prop := raftAgreesRow.holds Try.pinned (OpenSpec.ofChange raftAgreesWrong)

/-- 'furlonglaw18.RaftTwice': WHATEVER THE INPUT: true; the input reads as it did. -/
def raftTwiceSpec : ChangeSpec := { name := "raftTwice", fn := fun _ => fun
  | [d1, d2] => { results := [.lit (.bool true)], args := [d1, d2] }
  | _ => none }
def raftTwiceRow : OpenClaim := { program := "ytmlaconjeplhpaa", sum := "372803f1dad11c86b041471ab553ee51d5cc15fcfff081db5741dd734934c413", func := "furlong/furlonglaw18.RaftTwice", spec := "raftTwice", unfollowed := true, recurses := true, apart := false }
def RaftTwiceSaid : Prop := raftTwiceRow.holds Try.pinned (OpenSpec.ofChange raftTwiceSpec)

/-- ITS FALSE NEIGHBOUR: 'it returns false'. Refute it at one input. -/
def raftTwiceWrong : ChangeSpec := { name := "raftTwice", fn := fun _ => fun
  | [d1, d2] => { results := [.lit (.bool false)], args := [d1, d2] }
  | _ => none }
def RaftTwiceWrongFalsely : Prop := raftTwiceRow.holds Try.pinned (OpenSpec.ofChange raftTwiceWrong)

/- THE SECOND FORM. 'bulk': how many values and letters a reading holds, each counted each time it is reached (what is shared counts as often as it is met; a slice's spare places count too). A statement '..UptoSaid' is the law's where the arguments, and the package variables that the reading takes, are together of bulk at most 1048576: NARROWER than '..Said'. Prove '..Said' where nothing that the law and all that it calls make is longer than what came in: it says more and counts as full. Else prove '..UptoSaid'. A law counts once. -/
mutual
def uptoBulk {H : Type} : DataW H → Nat
  | .lit (.string bytes) => bytes.length + 1
  | .lit _ => 1
  | .nil => 1
  | .ptr d => uptoBulk d + 1
  | .slice elems spare => uptoBulkAll elems + uptoBulkAll spare + 1
  | .agg parts => uptoBulkAll parts + 1
  | .iface _ d => uptoBulk d + 1
  | .map entries => uptoBulkEntries entries + 1
  | .held _ => 1
def uptoBulkAll {H : Type} : List (DataW H) → Nat
  | [] => 0
  | d :: r => uptoBulk d + uptoBulkAll r
def uptoBulkEntries {H : Type} : List (Lit × DataW H) → Nat
  | [] => 0
  | x :: r => uptoBulkEntry x + uptoBulkEntries r
def uptoBulkEntry {H : Type} : Lit × DataW H → Nat
  | (.string bytes, d) => bytes.length + uptoBulk d + 1
  | (_, d) => uptoBulk d + 1
 end
def uptoSmall : (H : Type) → List (DataW H) → Bool := fun _ ds => decide (uptoBulkAll ds ≤ 1048576)
def OpenSpec.upto (s : _root_.Go.ChangeSpec) : _root_.Go.OpenSpec := { _root_.Go.OpenSpec.ofChange s with cond := some uptoSmall }

/-- 'furlonglaw15.StoreAny', WHERE WHAT IT READS IS OF BULK AT MOST 1048576: true; the input reads as it did. -/
def storeAnyUptoRow : OpenClaim := { program := "ytmlaconjeplhpaa", sum := "372803f1dad11c86b041471ab553ee51d5cc15fcfff081db5741dd734934c413", func := "furlong/furlonglaw15.StoreAny", spec := "storeAny", unfollowed := true, recurses := true, apart := false, narrowed := true }
def StoreAnyUptoSaid : Prop := storeAnyUptoRow.holds Try.pinned (OpenSpec.upto storeAnySpec)

/-- 'furlonglaw15.StoreNil', WHERE WHAT IT READS IS OF BULK AT MOST 1048576: true; the input reads as it did. -/
def storeNilUptoRow : OpenClaim := { program := "ytmlaconjeplhpaa", sum := "372803f1dad11c86b041471ab553ee51d5cc15fcfff081db5741dd734934c413", func := "furlong/furlonglaw15.StoreNil", spec := "storeNil", unfollowed := true, recurses := true, apart := false, narrowed := true }
def StoreNilUptoSaid : Prop := storeNilUptoRow.holds Try.pinned (OpenSpec.upto storeNilSpec)

/-- 'furlonglaw15.StoreStale', WHERE WHAT IT READS IS OF BULK AT MOST 1048576: true; the input reads as it did. -/
def storeStaleUptoRow : OpenClaim := { program := "ytmlaconjeplhpaa", sum := "372803f1dad11c86b041471ab553ee51d5cc15fcfff081db5741dd734934c413", func := "furlong/furlonglaw15.StoreStale", spec := "storeStale", unfollowed := true, recurses := true, apart := false, narrowed := true }
def StoreStaleUptoSaid : Prop := storeStaleUptoRow.holds Try.pinned (OpenSpec.upto storeStaleSpec)

/-- 'furlonglaw15.StoreHolds', WHERE WHAT IT READS IS OF BULK AT MOST 1048576: true; the input reads as it did. -/
def storeHoldsUptoRow : OpenClaim := { program := "ytmlaconjeplhpaa", sum := "372803f1dad11c86b041471ab553ee51d5cc15fcfff081db5741dd734934c413", func := "furlong/furlonglaw15.StoreHolds", spec := "storeHolds", unfollowed := true, recurses := true, apart := false, narrowed := true }
def StoreHoldsUptoSaid : Prop := storeHoldsUptoRow.holds Try.pinned (OpenSpec.upto storeHoldsSpec)

/-- 'furlonglaw15.StoreAgain', WHERE WHAT IT READS IS OF BULK AT MOST 1048576: true; the input reads as it did. -/
def storeAgainUptoRow : OpenClaim := { program := "ytmlaconjeplhpaa", sum := "372803f1dad11c86b041471ab553ee51d5cc15fcfff081db5741dd734934c413", func := "furlong/furlonglaw15.StoreAgain", spec := "storeAgain", unfollowed := true, recurses := true, apart := false, narrowed := true }
def StoreAgainUptoSaid : Prop := storeAgainUptoRow.holds Try.pinned (OpenSpec.upto storeAgainSpec)

/-- 'furlonglaw16.KeepLasts', WHERE WHAT IT READS IS OF BULK AT MOST 1048576: true; the input reads as it did. -/
def keepLastsUptoRow : OpenClaim := { program := "ytmlaconjeplhpaa", sum := "372803f1dad11c86b041471ab553ee51d5cc15fcfff081db5741dd734934c413", func := "furlong/furlonglaw16.KeepLasts", spec := "keepLasts", unfollowed := true, recurses := true, apart := false, narrowed := true }
def KeepLastsUptoSaid : Prop := keepLastsUptoRow.holds Try.pinned (OpenSpec.upto keepLastsSpec)

/-- 'furlonglaw16.KeepHolds', WHERE WHAT IT READS IS OF BULK AT MOST 1048576: true; the input reads as it did. -/
def keepHoldsUptoRow : OpenClaim := { program := "ytmlaconjeplhpaa", sum := "372803f1dad11c86b041471ab553ee51d5cc15fcfff081db5741dd734934c413", func := "furlong/furlonglaw16.KeepHolds", spec := "keepHolds", unfollowed := true, recurses := true, apart := false, narrowed := true }
def KeepHoldsUptoSaid : Prop := keepHoldsUptoRow.holds Try.pinned (OpenSpec.upto keepHoldsSpec)

/-- 'furlonglaw16.KeepCuts', WHERE WHAT IT READS IS OF BULK AT MOST 1048576: true; the input reads as it did. -/
def keepCutsUptoRow : OpenClaim := { program := "ytmlaconjeplhpaa", sum := "372803f1dad11c86b041471ab553ee51d5cc15fcfff081db5741dd734934c413", func := "furlong/furlonglaw16.KeepCuts", spec := "keepCuts", unfollowed := true, recurses := true, apart := false, narrowed := true }
def KeepCutsUptoSaid : Prop := keepCutsUptoRow.holds Try.pinned (OpenSpec.upto keepCutsSpec)

/-- 'furlonglaw16.KeepNil', WHERE WHAT IT READS IS OF BULK AT MOST 1048576: true; the input reads as it did. -/
def keepNilUptoRow : OpenClaim := { program := "ytmlaconjeplhpaa", sum := "372803f1dad11c86b041471ab553ee51d5cc15fcfff081db5741dd734934c413", func := "furlong/furlonglaw16.KeepNil", spec := "keepNil", unfollowed := true, recurses := true, apart := false, narrowed := true }
def KeepNilUptoSaid : Prop := keepNilUptoRow.holds Try.pinned (OpenSpec.upto keepNilSpec)

/-- 'furlonglaw18.RaftAlone', WHERE WHAT IT READS IS OF BULK AT MOST 1048576: true; the input reads as it did. -/
def raftAloneUptoRow : OpenClaim := { program := "ytmlaconjeplhpaa", sum := "372803f1dad11c86b041471ab553ee51d5cc15fcfff081db5741dd734934c413", func := "furlong/furlonglaw18.RaftAlone", spec := "raftAlone", unfollowed := true, recurses := true, apart := false, narrowed := true }
def RaftAloneUptoSaid : Prop := raftAloneUptoRow.holds Try.pinned (OpenSpec.upto raftAloneSpec)

/-- 'furlonglaw18.RaftAgrees', WHERE WHAT IT READS IS OF BULK AT MOST 1048576: true; the input reads as it did. -/
def raftAgreesUptoRow : OpenClaim := { program := "ytmlaconjeplhpaa", sum := "372803f1dad11c86b041471ab553ee51d5cc15fcfff081db5741dd734934c413", func := "furlong/furlonglaw18.RaftAgrees", spec := "raftAgrees", unfollowed := true, recurses := true, apart := false, narrowed := true }
def RaftAgreesUptoSaid : Prop := raftAgreesUptoRow.holds Try.pinned (OpenSpec.upto raftAgreesSpec)

/-- 'furlonglaw18.RaftTwice', WHERE WHAT IT READS IS OF BULK AT MOST 1048576: true; the input reads as it did. -/
def raftTwiceUptoRow : OpenClaim := { program := "ytmlaconjeplhpaa", sum := "372803f1dad11c86b041471ab553ee51d5cc15fcfff081db5741dd734934c413", func := "furlong/furlonglaw18.RaftTwice", spec := "raftTwice", unfollowed := true, recurses := true, apart := false, narrowed := true }
def RaftTwiceUptoSaid : Prop := raftTwiceUptoRow.holds Try.pinned (OpenSpec.upto raftTwiceSpec)

end Rows
end Go.Proofs.Ytmlaconjeplhpaa
