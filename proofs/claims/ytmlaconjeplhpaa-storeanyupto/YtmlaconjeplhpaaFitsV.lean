/- The arguments' shapes, with the count of a list's lists; and the law StoreAny. -/
import Derived.Test.YtmlaconjeplhpaaFitsP
import Derived.Test.YtmlaconjeplhpaaStoreV
set_option linter.unusedVariables false
set_option linter.unusedSimpArgs false
set_option maxRecDepth 20000
namespace Go.Proofs.Ytmlaconjeplhpaa
open Go Go.Vc Go.ChangeShapes Go.WideShapes Go.ChangeAt Go.RowKit
theorem fBytes1 : Fits 24 aBytes (fun l => l.length + 1) := by
  refine Fits.conv (fits_list Try.underlying24 (by kernel_rfl) (by decide) fByte) ?_
  intro W cs a F h
  exact ⟨a, h, by have := sum_ones a; omega⟩
theorem count_sum {α : Type} {f : α → Nat} : ∀ (l : List α), l.length ≤ (l.map fun a => f a + 1).sum
  | [] => Nat.le_refl _
  | b :: l => by
    have := count_sum (f := f) l
    simp only [List.map_cons, List.sum_cons, List.length_cons]
    omega
theorem fLists1 : Fits 23 aLists (fun l => l.length) := by
  refine Fits.conv (fits_list Try.underlying23 (by kernel_rfl) (by decide) fBytes1) ?_
  intro W cs a F h
  exact ⟨a, h, by have := count_sum (f := fun p : List Nat => p.length) a; omega⟩
end Go.Proofs.Ytmlaconjeplhpaa
