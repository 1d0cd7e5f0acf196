/- PROVED HERE: furlonglaw10.CommandStates, for every state whose reading holds at most 1048576 values: the bytes that EncodeState hands back are those of the document's answer, with the same error, and the state stays: the law answers true and its argument reads behind the call as before. -/
import Derived.Test.YtachignmofpngaaLawRow
import Derived.Test.YtachignmofpngaaLawS
import Derived.Test.YtachignmofpngaaFitsSt
set_option linter.unusedVariables false
set_option linter.unusedSimpArgs false
set_option maxRecDepth 100000
namespace Go.Proofs.Ytachignmofpngaa.pStates
open Go Go.Vc Go.ChangeShapes Go.WideShapes Go.ChangeAt Go.RowKit

theorem contract (H : Type) (enc : TypeId × Value → H) (W : World) (base : Nat) (args : Array Value) (ds gs : List (DataW H)) (before : List MemPlace)
    (hval0 : ∀ (j : Nat) t v, Try.f8.params[j]? = some t → args[j]? = some v → Value.okWide Try.prog W .any base t v)
    (hW : DataW.Whole enc Try.prog Try.f8.params.toList Rows.commandStatesSpec.vars false W args.toList ds gs before) (hk : Rows.uptoSmall H (ds ++ gs) = true) :
    Calls Try.prog 8 args W fun e W' => ∃ v, e = .returned v ∧ Rows.commandStatesSpec.post enc Try.prog Try.f8 false true false false W args v W' := by
  have hval : ∀ (j : Nat) t v, Try.f8.params[j]? = some t → args[j]? = some v → Value.okWide Try.prog W .any base t v := hval0
  have hW' := hW
  obtain ⟨p, q, hA0, hV, rfl, hfz, hnd⟩ := hW
  have hA : DataW.TrodAll enc Try.prog W 0 (fun _ => true) true Try.f8.params.toList args.toList ds p := hA0
  rw [Try.params8] at hA hval
  obtain ⟨v0, vs0, d0, ds0, p0, q0, hargs, rfl, rfl, h0, r0⟩ := trodAll_cons hA
  obtain ⟨rfl, rfl, rfl⟩ := trodAll_nil r0
  obtain rfl : args = #[v0] := by cases args; simp_all
  obtain ⟨rfl, rfl⟩ := trodVars_none hV
  have hbulk : Rows.uptoBulkAll [d0] ≤ 1048576 := by simpa [Rows.uptoSmall] using hk
  simp only [Rows.uptoBulkAll] at hbulk
  obtain ⟨n0, ht0⟩ := h0
  obtain ⟨a0, F0, hrd0, hle0⟩ := fState H enc W n0 _ d0 p0 ht0
  obtain ⟨cs0, hcs0⟩ : ∃ cs, v0.cells.toList = cs := ⟨_, rfl⟩
  have hv0 : v0 = .agg cs0.toArray := agg_of Try.underlying58 (hval 0 _ v0 rfl rfl) hcs0
  subst hv0
  rw [hcs0] at hrd0
  refine (calls_of_F C_furlonglaw10_CommandStates_ent (states_c hrd0 (by have := state_le hrd0; omega) (fun x hx => by have := (state_sizes a0).1 x hx; omega) (fun x hx => by have := (state_sizes a0).2.1 x hx; omega) (by obtain ⟨h1, h2, h3, h4, h5⟩ := (state_sizes a0).2.2; refine ⟨by omega, by omega, by omega, by omega, by omega⟩))).mono ?_
  rintro e' W' ⟨v, rfl, rfl, hF⟩
  exact ⟨_, rfl, row_post rfl (by rw [Try.params8]; exact of_decide_eq_true (by kernel_rfl)) rfl hW' rfl hF⟩

theorem lifted (os : Os) (started : os.Started) (H : Type) (enc : TypeId × Value → H) (F : Stop.Interp) :
    ReturnsInHanded {} Try.checked os 8 .any ((Rows.OpenSpec.upto Rows.commandStatesSpec).pre6 enc Try.prog Try.f8 Rows.commandStatesUptoRow.domain false) (((Rows.OpenSpec.upto Rows.commandStatesSpec).at F).post enc Try.prog Try.f8 false true false false) := by
  refine returnsInHanded_of_cond (C := Try.checked) (s := Rows.OpenSpec.upto Rows.commandStatesSpec) (k := Rows.uptoSmall) rfl ownK started (by kernel_rfl) Try.func8
    (OpenSpec.witness (enc := enc) (C := Try.checked) (s := Rows.OpenSpec.upto Rows.commandStatesSpec) (k := Rows.uptoSmall) rfl false ⟨#[], #[.agg zState.toArray], []⟩ 8 (by kernel_rfl) (by kernel_rfl) (by kernel_rfl)
      (x := ([rState], [], [])) (by kernel_rfl) rfl (by kernel_rfl)) ?_
  intro W base args ds gs before hval hW _ hk _
  exact contract H enc W base args ds gs before hval hW hk

theorem over : Rows.commandStatesUptoRow.holds Try.pinned (Rows.OpenSpec.upto Rows.commandStatesSpec) :=
  OpenClaim.holds_of_cond 8 Try.f8 rfl rfl rfl rfl rfl rfl rfl ⟨rfl, rfl, rfl, rfl, rfl⟩ rfl rfl rfl rfl rfl (by kernel_rfl) Try.func8 (by kernel_rfl)
    (of_decide_eq_true (by kernel_rfl)) (by unfold Func.isWrapper; first | (rw [if_pos (by decide +kernel)]; kernel_rfl) | (rw [if_neg (by decide +kernel)]; exact ⟨rfl, rfl⟩))
    (fun os started H enc _ F => lifted os started H enc F)

theorem proved : Rows.CommandStatesUptoSaid :=
  over
end Go.Proofs.Ytachignmofpngaa.pStates
