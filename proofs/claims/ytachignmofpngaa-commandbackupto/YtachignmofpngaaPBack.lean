/- PROVED HERE: furlonglaw10.CommandBack, for every entry, answer, state and bytes whose readings together hold at most 1048576 values: what was written is read as it was, and what is read is written as it was: the law answers true and its arguments read behind the call as before. -/
import Derived.Test.YtachignmofpngaaLawRow
import Derived.Test.YtachignmofpngaaFitsK
set_option linter.unusedVariables false
set_option linter.unusedSimpArgs false
set_option maxRecDepth 100000
namespace Go.Proofs.Ytachignmofpngaa.pBack
open Go Go.Vc Go.ChangeShapes Go.WideShapes Go.ChangeAt Go.RowKit

theorem contract (H : Type) (enc : TypeId × Value → H) (W : World) (base : Nat) (args : Array Value) (ds gs : List (DataW H)) (before : List MemPlace)
    (hval0 : ∀ (j : Nat) t v, Try.f9.params[j]? = some t → args[j]? = some v → Value.okWide Try.prog W .any base t v)
    (hW : DataW.Whole enc Try.prog Try.f9.params.toList Rows.commandBackSpec.vars false W args.toList ds gs before) (hk : Rows.uptoSmall H (ds ++ gs) = true) :
    Calls Try.prog 9 args W fun e W' => ∃ v, e = .returned v ∧ Rows.commandBackSpec.post enc Try.prog Try.f9 false true false false W args v W' := by
  have hval : ∀ (j : Nat) t v, Try.f9.params[j]? = some t → args[j]? = some v → Value.okWide Try.prog W .any base t v := hval0
  have hW' := hW
  obtain ⟨p, q, hA0, hV, rfl, hfz, hnd⟩ := hW
  have hA : DataW.TrodAll enc Try.prog W 0 (fun _ => true) true Try.f9.params.toList args.toList ds p := hA0
  rw [Try.params9] at hA hval
  obtain ⟨v0, vs0, d0, ds0, p0, q0, hargs, rfl, rfl, h0, r0⟩ := trodAll_cons hA
  obtain ⟨v1, vs1, d1, ds1, p1, q1, rfl, rfl, rfl, h1, r1⟩ := trodAll_cons r0
  obtain ⟨v2, vs2, d2, ds2, p2, q2, rfl, rfl, rfl, h2, r2⟩ := trodAll_cons r1
  obtain ⟨v3, vs3, d3, ds3, p3, q3, rfl, rfl, rfl, h3, r3⟩ := trodAll_cons r2
  obtain ⟨rfl, rfl, rfl⟩ := trodAll_nil r3
  obtain rfl : args = #[v0, v1, v2, v3] := by cases args; simp_all
  obtain ⟨rfl, rfl⟩ := trodVars_none hV
  have hbulk : Rows.uptoBulkAll [d0, d1, d2, d3] ≤ 1048576 := by simpa [Rows.uptoSmall] using hk
  simp only [Rows.uptoBulkAll] at hbulk
  obtain ⟨n0, ht0⟩ := h0
  obtain ⟨a0, F0, hrd0, hle0⟩ := fEntry H enc W n0 _ d0 p0 ht0
  obtain ⟨cs0, hcs0⟩ : ∃ cs, v0.cells.toList = cs := ⟨_, rfl⟩
  have hv0 : v0 = .agg cs0.toArray := agg_of Try.underlying34 (hval 0 _ v0 rfl rfl) hcs0
  subst hv0
  rw [hcs0] at hrd0
  obtain ⟨n1, ht1⟩ := h1
  obtain ⟨a1, F1, hrd1, hle1⟩ := fAnswer H enc W n1 _ d1 p1 ht1
  obtain ⟨cs1, hcs1⟩ : ∃ cs, v1.cells.toList = cs := ⟨_, rfl⟩
  have hv1 : v1 = .agg cs1.toArray := agg_of Try.underlying49 (hval 1 _ v1 rfl rfl) hcs1
  subst hv1
  rw [hcs1] at hrd1
  obtain ⟨n2, ht2⟩ := h2
  obtain ⟨a2, F2, hrd2, hle2⟩ := fState H enc W n2 _ d2 p2 ht2
  obtain ⟨cs2, hcs2⟩ : ∃ cs, v2.cells.toList = cs := ⟨_, rfl⟩
  have hv2 : v2 = .agg cs2.toArray := agg_of Try.underlying58 (hval 2 _ v2 rfl rfl) hcs2
  subst hv2
  rw [hcs2] at hrd2
  obtain ⟨n3, ht3⟩ := h3
  obtain ⟨bs3, F3, hrd3, hle3⟩ := fBytes H enc W n3 _ d3 p3 ht3
  obtain ⟨x3, hcs3, hB3⟩ := bs_of hrd3 (by have hl := hle3; simp only [sum_one] at hl; omega)
  have hlb3 : bs3.length ≤ 1048576 := by have hl := hle3; simp only [sum_one] at hl; omega
  have hv3 : v3 = x3 := one_of_cells hcs3 (hval 3 _ v3 rfl rfl) Try.underlying37
  subst hv3
  refine (calls_of_F C_furlonglaw10_CommandBack_ent (back_c hrd0 hrd1 hrd2 hB3 (by omega) (by unfold lenE; simp only at hle0; omega) (lenA_le (answer_sizes a1) (by omega)) (lenS_le (state_sizes a2) (by omega)) (by have := entry_le hrd0; simp only at hle0; omega) (by have := answer_le hrd1; omega) (by have := state_le hrd2; omega))).mono ?_
  rintro e' W' ⟨v, rfl, rfl, hF⟩
  exact ⟨_, rfl, row_post rfl (by rw [Try.params9]; exact of_decide_eq_true (by kernel_rfl)) rfl hW' rfl hF⟩

theorem lifted (os : Os) (started : os.Started) (H : Type) (enc : TypeId × Value → H) (F : Stop.Interp) :
    ReturnsInHanded {} Try.checked os 9 .any ((Rows.OpenSpec.upto Rows.commandBackSpec).pre6 enc Try.prog Try.f9 Rows.commandBackUptoRow.domain false) (((Rows.OpenSpec.upto Rows.commandBackSpec).at F).post enc Try.prog Try.f9 false true false false) := by
  refine returnsInHanded_of_cond (C := Try.checked) (s := Rows.OpenSpec.upto Rows.commandBackSpec) (k := Rows.uptoSmall) rfl ownK started (by kernel_rfl) Try.func9
    (OpenSpec.witness (enc := enc) (C := Try.checked) (s := Rows.OpenSpec.upto Rows.commandBackSpec) (k := Rows.uptoSmall) rfl false ⟨#[], #[.agg zEntry.toArray, .agg zAnswer.toArray, .agg zState.toArray, .slice none 0 0], []⟩ 8 (by kernel_rfl) (by kernel_rfl) (by kernel_rfl)
      (x := ([rEntry, rAnswer, rState, .nil], [], [])) (by kernel_rfl) rfl (by kernel_rfl)) ?_
  intro W base args ds gs before hval hW _ hk _
  exact contract H enc W base args ds gs before hval hW hk

theorem over : Rows.commandBackUptoRow.holds Try.pinned (Rows.OpenSpec.upto Rows.commandBackSpec) :=
  OpenClaim.holds_of_cond 9 Try.f9 rfl rfl rfl rfl rfl rfl rfl ⟨rfl, rfl, rfl, rfl, rfl⟩ rfl rfl rfl rfl rfl (by kernel_rfl) Try.func9 (by kernel_rfl)
    (of_decide_eq_true (by kernel_rfl)) (by unfold Func.isWrapper; first | (rw [if_pos (by decide +kernel)]; kernel_rfl) | (rw [if_neg (by decide +kernel)]; exact ⟨rfl, rfl⟩))
    (fun os started H enc _ F => lifted os started H enc F)

theorem proved : Rows.CommandBackUptoSaid :=
  over
end Go.Proofs.Ytachignmofpngaa.pBack
