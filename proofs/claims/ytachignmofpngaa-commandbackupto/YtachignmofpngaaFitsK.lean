/- How long the bytes of the arguments of CommandBack are. -/
import Derived.Test.YtachignmofpngaaFitsB
import Derived.Test.YtachignmofpngaaLawK
set_option linter.unusedVariables false
set_option linter.unusedSimpArgs false
set_option maxRecDepth 20000
namespace Go.Proofs.Ytachignmofpngaa
open Go Go.Vc Go.ChangeShapes Go.WideShapes Go.ChangeAt Go.RowKit

theorem entry_le {w : World} {cs : List Value} {a : DEntry} {F : List Nat} (h : sEntry.rd w cs a F) : (cEntry.enc a).length ≤ 9 * a.2.2.2.2.2.2.1.length + 500 := by
  obtain ⟨c1, c2, F1, F2, rfl, rfl, h1, c3, c4, F3, F4, rfl, rfl, h2, c5, c6, F5, F6, rfl, rfl, h3, c7, c8, F7, F8, rfl, rfl, h4, c9, c10, F9, F10, rfl, rfl, h5, h6⟩ := h
  have n1 := wholes_le a.1 3 (by have := h1.1; omega)
  have n2 := (layN_length a.2.1.toNat).2
  have n3 := wholes_le a.2.2.1 4 (by have := h3.1; omega)
  have n4 := wholes_le a.2.2.2.1 7 (by have := h4.1; omega)
  have n5 := wholes_le a.2.2.2.2.1 5 (by have := h5.1; omega)
  have n6 := task_le a.2.2.2.2.2 (task_rd5 h6)
  have n7 : mTask a.2.2.2.2.2 = a.2.2.2.2.2.2.1.length + 7 := rfl
  show (wholes a.1 ++ (layN a.2.1.toNat ++ (wholes a.2.2.1 ++ (wholes a.2.2.2.1 ++ (wholes a.2.2.2.2.1 ++ cTask.enc a.2.2.2.2.2))))).length ≤ _
  simp only [List.length_append]
  omega
theorem answer_sizes (a : DAnswer) : lenA a (mAnswer a) := by
  have l := sum_len mLease (fun x => by simp only [mLease]; omega) a.2.2
  refine ⟨by simp only [mAnswer]; omega, fun x hx => ?_, by simp only [mAnswer]; omega⟩
  have := sum_ge mLease _ x hx; simp only [mAnswer]; simp only [mLease] at this ⊢; omega
theorem lenA_le {a : DAnswer} {n m : Nat} (h : lenA a n) (hn : n ≤ m) : lenA a m := ⟨by have := h.1; omega, fun x hx => by have := h.2.1 x hx; omega, by have := h.2.2; omega⟩
theorem lenS_le {a : DState} {n m : Nat} (h : lenS a n) (hn : n ≤ m) : lenS a m := by
  obtain ⟨h1, h2, h3, h4, h5, h6, h7⟩ := h
  exact ⟨fun x hx => by have := h1 x hx; omega, fun x hx => by have := h2 x hx; omega, by omega, by omega, by omega, by omega, by omega⟩
end Go.Proofs.Ytachignmofpngaa
