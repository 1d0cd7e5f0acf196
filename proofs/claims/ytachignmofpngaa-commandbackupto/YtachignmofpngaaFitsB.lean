/- Bytes that are an argument. -/
import Derived.Test.YtachignmofpngaaFitsSt
set_option linter.unusedVariables false
set_option linter.unusedSimpArgs false
set_option maxRecDepth 20000
namespace Go.Proofs.Ytachignmofpngaa
open Go Go.Vc Go.ChangeShapes Go.WideShapes Go.ChangeAt Go.RowKit

theorem bs_of {w : World} {cs : List Value} {bs : List Nat} {F : List Nat} (h : (sByte.list (by decide)).rd w cs bs F) (hn : bs.length ≤ 4611686018427387904) : ∃ x, cs = [x] ∧ Bs w x bs := by
  obtain ⟨v, cells, G, rfl, hcap, hsl, hrows, _⟩ := h
  obtain ⟨rfl, rfl, hb⟩ := rows_bytes.1 hrows
  exact ⟨v, rfl, hsl, hcap, hb, hn⟩
theorem one_of_cells {t e : TypeId} {W : World} {base : Nat} {v x : Value} (hc : v.cells.toList = [x]) (hv : Value.okWide Try.prog W .any base t v) (hu : Try.prog.underlying t = some (.slice e)) : v = x := by
  cases v <;> first | (simp [Value.okWide, hu] at hv; done) | (simp [Value.cells] at hc; exact hc) | (simp [Value.okWide, hu, Cell.okWide, Cell.ok] at hv; done)
end Go.Proofs.Ytachignmofpngaa
