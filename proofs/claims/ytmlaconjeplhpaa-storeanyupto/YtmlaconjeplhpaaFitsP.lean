/- The arguments of layer 15's laws: from their reading to their shape; how a law's contract becomes its row. -/
import Derived.Test.YtmlaconjeplhpaaFits
import Derived.Test.YtmlaconjeplhpaaStoreQ
set_option linter.unusedVariables false
set_option linter.unusedSimpArgs false
set_option maxRecDepth 20000
namespace Go.Proofs.Ytmlaconjeplhpaa
open Go Go.Vc Go.ChangeShapes Go.WideShapes Go.ChangeAt Go.RowKit

theorem fInt : Fits 3 sInt (fun _ => 1) := fits_int Try.underlying3
theorem fByte : Fits 5 sByte (fun _ => 1) := fits_byte Try.underlying5
theorem sum_ones {α : Type} (l : List α) : (l.map fun _ => 1).sum = l.length := by rw [List.map_const', List.sum_replicate_nat, Nat.mul_one]
theorem fInts : Fits 22 aInts (fun l => l.length) := by
  refine Fits.conv (fits_list Try.underlying22 (by kernel_rfl) (by decide) fInt) ?_
  intro W cs a F h
  exact ⟨a, h, by have := sum_ones a; omega⟩
theorem fBytes : Fits 24 aBytes (fun l => l.length) := by
  refine Fits.conv (fits_list Try.underlying24 (by kernel_rfl) (by decide) fByte) ?_
  intro W cs a F h
  exact ⟨a, h, by have := sum_ones a; omega⟩
theorem fOp : Fits 52 aOp (fun o => o.2.2.length) := by
  refine Fits.conv (fits_struct Try.underlying52 (by kernel_rfl) (fits_cons fInt (by kernel_rfl) (fits_cons fInt (by kernel_rfl) (fits_last fBytes (by kernel_rfl))))) ?_
  intro W cs a F h
  exact ⟨a, h, by omega⟩
theorem fOps : Fits 49 aOps (fun l => (l.map fun o => o.2.2.length).sum + 1) := fits_list Try.underlying49 (by kernel_rfl) (by decide) fOp
theorem fLists : Fits 23 aLists (fun l => (l.map fun p => p.length).sum + 1) := fits_list Try.underlying23 (by kernel_rfl) (by decide) fBytes
theorem mem_sum {α : Type} {f : α → Nat} : ∀ {l : List α} {a : α}, a ∈ l → f a ≤ (l.map f).sum
  | b :: l, a, h => by
    simp only [List.map_cons, List.sum_cons]
    rcases List.mem_cons.1 h with rfl | h
    · omega
    · have := mem_sum (f := f) h; omega
theorem ownK : ownKnob Try.prog.godebug = none := by kernel_rfl
theorem laid : laidOutB Try.prog = true := by kernel_rfl
theorem trodAll_below {H : Type} {enc : TypeId × Value → H} {W W' : World} (hb : Below W.heap.size W W') : ∀ (ts : List TypeId) (vs : List Value) (ds : List (DataW H)) (ps : List MemPlace), (∀ t ∈ ts, Try.prog.readableRec t = true ∧ t < Try.prog.types.size) →
    DataW.TrodAll enc Try.prog W 0 (fun _ => true) true ts vs ds ps → (∀ x ∈ ps, x.block < W.heap.size) → DataW.TrodAll enc Try.prog W' 0 (fun b => decide (b < W.heap.size)) true ts vs ds ps
  | [], [], [], ps, _, h, _ => h
  | [], [], _ :: _, ps, _, h, _ => h.elim
  | [], _ :: _, _, ps, _, h, _ => h.elim
  | _ :: _, [], _, ps, _, h, _ => h.elim
  | _ :: _, _ :: _, [], ps, _, h, _ => h.elim
  | t :: ts, v :: vs, d :: ds, ps, ht, h, hlt => by
    obtain ⟨p, q, h1, h2, rfl⟩ := h
    obtain ⟨ht1, ht2⟩ := ht t (by simp)
    exact ⟨p, q, Below.trod laid ht1 ht2 h1 hb (fun x hx => hlt x (by simp [hx])), trodAll_below hb ts vs ds q (fun t ht' => ht t (by simp [ht'])) h2 (fun x hx => hlt x (by simp [hx])), rfl⟩
/-- The closing condition of a law's row. -/
theorem row_post {H : Type} {enc : TypeId × Value → H} {s : ChangeSpec} {f : Func} {W W' : World} {args : Array Value} {ds gs : List (DataW H)} {before : List MemPlace}
    (hs : s.vars = []) (ht : ∀ t ∈ f.params.toList, Try.prog.readableRec t = true ∧ t < Try.prog.types.size) (hrt : f.resultTypes.toList = [4])
    (hW : DataW.Whole enc Try.prog f.params.toList s.vars false W args.toList ds gs before) (hfn : (s.fn H (ds ++ gs)) = { results := [.lit (.bool true)], args := ds }) (hF : Fr [] W W') :
    s.post enc Try.prog f false true false false W args (.bool true) W' := by
  have hW' := hW
  obtain ⟨p, q, hA, hV, rfl, hfz, hnd⟩ := hW
  rw [hs] at hV
  obtain ⟨rfl, rfl⟩ := trodVars_none hV
  have bel : Below W.heap.size W W' := hF.below (fun i hi => by simp at hi) (Nat.le_refl _)
  have hlt := hW'.lt
  refine ⟨ds, [], p ++ [], [], p, [], hW', ?_, ?_, ?_, bel.frame _, fun h => by cases h⟩
  · rw [hfn, hrt]
    have : f.resultTypes.size = 1 := by rw [← Array.length_toList, hrt]; rfl
    rw [this]
    exact trodAll_mk1 (shut_bool Try.underlying4 _)
  · rw [hfn]
    exact trodAll_below bel _ _ _ _ ht hA (fun x hx => hlt x (by simp [hx]))
  · rw [hfn, hs]; rfl
theorem one_of_cells {t e : TypeId} {W : World} {base : Nat} {v x : Value} (hc : v.cells.toList = [x]) (hv : Value.okWide Try.prog W .any base t v) (hu : Try.prog.underlying t = some (.slice e)) : v = x := by
  cases v <;> first | (simp [Value.okWide, hu] at hv; done) | (simp [Value.cells] at hc; exact hc) | (simp [Value.okWide, hu, Cell.okWide, Cell.ok] at hv; done)
/-- A list's reading stands in one cell. -/
theorem one_cell {α : Type} {S : Shape α} {hs : 0 < S.size} {W : World} {cs : List Value} {l : List α} {F : List Nat} (h : (S.list hs).rd W cs l F) : ∃ x, cs = [x] := by
  obtain ⟨v, cells, G, rfl, _⟩ := h
  exact ⟨v, rfl⟩
end Go.Proofs.Ytmlaconjeplhpaa
