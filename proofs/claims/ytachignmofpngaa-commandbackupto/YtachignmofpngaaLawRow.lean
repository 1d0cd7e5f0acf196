/- How a law's contract becomes its row: the argument reads behind the call as it read before. -/
import Derived.Test.YtachignmofpngaaFitsCmd
import Derived.Test.YtachignmofpngaaLawA
set_option linter.unusedVariables false
set_option linter.unusedSimpArgs false
set_option maxRecDepth 20000
namespace Go.Proofs.Ytachignmofpngaa
open Go Go.Vc Go.ChangeShapes Go.WideShapes Go.ChangeAt Go.RowKit

theorem ownK : ownKnob Try.prog.godebug = none := by kernel_rfl
theorem laid : laidOutB Try.prog = true := by kernel_rfl
theorem trodAll_below {H : Type} {enc : TypeId × Value → H} {W W' : World} (hb : Below W.heap.size W W') : ∀ (ts : List TypeId) (vs : List Value) (ds : List (DataW H)) (ps : List MemPlace), (∀ t ∈ ts, Try.prog.readableRec t = true ∧ t < Try.prog.types.size) →
    DataW.TrodAll enc Try.prog W 0 (fun _ => true) true ts vs ds ps → (∀ x ∈ ps, x.block < W.heap.size) → DataW.TrodAll enc Try.prog W' 0 (fun b => decide (b < W.heap.size)) true ts vs ds ps
  | [], [], [], ps, _, h, _ => h
  | [], [], _ :: _, ps, _, h, _ => h.elim
  | [], _ :: _, _, ps, _, h, _ => h.elim
  | _ :: _, [], _, ps, _, h, _ => h.elim
  | _ :: _, _ :: _, [], ps, _, h, _ => h.elim
  | t :: ts, v :: vs, d :: ds, ps, ht, h, hlt => by
    obtain ⟨p, q, h1, h2, rfl⟩ := h
    obtain ⟨ht1, ht2⟩ := ht t (by simp)
    exact ⟨p, q, Below.trod laid ht1 ht2 h1 hb (fun x hx => hlt x (by simp [hx])), trodAll_below hb ts vs ds q (fun t ht' => ht t (by simp [ht'])) h2 (fun x hx => hlt x (by simp [hx])), rfl⟩
/-- The closing condition of a law's row. -/
theorem row_post {H : Type} {enc : TypeId × Value → H} {s : ChangeSpec} {f : Func} {W W' : World} {args : Array Value} {ds gs : List (DataW H)} {before : List MemPlace}
    (hs : s.vars = []) (ht : ∀ t ∈ f.params.toList, Try.prog.readableRec t = true ∧ t < Try.prog.types.size) (hrt : f.resultTypes.toList = [4])
    (hW : DataW.Whole enc Try.prog f.params.toList s.vars false W args.toList ds gs before) (hfn : (s.fn H (ds ++ gs)) = { results := [.lit (.bool true)], args := ds }) (hF : Fr [] W W') :
    s.post enc Try.prog f false true false false W args (.bool true) W' := by
  have hW' := hW
  obtain ⟨p, q, hA, hV, rfl, hfz, hnd⟩ := hW
  rw [hs] at hV
  obtain ⟨rfl, rfl⟩ := trodVars_none hV
  have bel : Below W.heap.size W W' := hF.below (fun i hi => by simp at hi) (Nat.le_refl _)
  have hlt := hW'.lt
  refine ⟨ds, [], p ++ [], [], p, [], hW', ?_, ?_, ?_, bel.frame _, fun h => by cases h⟩
  · rw [hfn, hrt]
    have : f.resultTypes.size = 1 := by rw [← Array.length_toList, hrt]; rfl
    rw [this]
    exact trodAll_mk1 (shut_bool Try.underlying4 _)
  · rw [hfn]
    exact trodAll_below bel _ _ _ _ ht hA (fun x hx => hlt x (by simp [hx]))
  · rw [hfn, hs]; rfl
/-- A value of a struct's type is made of its cells. -/
theorem agg_of {t : TypeId} {fs : Array Field} {W : World} {base : Nat} {v : Value} {cs : List Value} (hu : Try.prog.underlying t = some (.struct fs)) (hv : Value.okWide Try.prog W .any base t v) (hc : v.cells.toList = cs) : v = .agg cs.toArray := by
  subst hc
  cases v <;> first | (simp [Value.okWide, hu, Cell.okWide, Cell.ok] at hv; done) | simp [Value.cells]
/-- What the zero values of the laws' arguments read as. -/
def r0 {H : Type} (n : Nat) : List (DataW H) := List.replicate n (.lit (.int .i64 0))
def rVec {H : Type} : DataW H := .agg (r0 2)
def rTask {H : Type} : DataW H := .agg [.lit (.int .i64 0), .lit (.int .i64 0), rVec, .lit (.int .i64 0), .nil, .lit (.int .i64 0)]
def rQueue {H : Type} : DataW H := .agg [.lit (.int .i64 0), .lit (.int .i64 0), .lit (.int .i64 0), rVec, rVec]
def rEntry {H : Type} : DataW H := .agg (r0 3 ++ [.agg (r0 5 ++ [rQueue, .agg (r0 5), rTask])])
def rAnswer {H : Type} : DataW H := .agg (r0 3 ++ [.nil, .nil])
def rState {H : Type} : DataW H := .agg (r0 3 ++ [.nil, .nil, .nil, .nil, .nil])
end Go.Proofs.Ytachignmofpngaa
