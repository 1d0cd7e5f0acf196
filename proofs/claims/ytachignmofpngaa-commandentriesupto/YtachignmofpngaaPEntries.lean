/- PROVED HERE: furlonglaw10.CommandEntries, for every entry whose reading holds at most 1048576 values: the bytes that EncodeEntry hands back are those of the document's answer, with the same error, and the entry stays as it was: the law answers true and its argument reads behind the call as before. -/
import Derived.Test.YtachignmofpngaaLawRow
set_option linter.unusedVariables false
set_option linter.unusedSimpArgs false
set_option maxRecDepth 100000
namespace Go.Proofs.Ytachignmofpngaa.pEntries
open Go Go.Vc Go.ChangeShapes Go.WideShapes Go.ChangeAt Go.RowKit

theorem contract (H : Type) (enc : TypeId × Value → H) (W : World) (base : Nat) (args : Array Value) (ds gs : List (DataW H)) (before : List MemPlace)
    (hval0 : ∀ (j : Nat) t v, Try.f3.params[j]? = some t → args[j]? = some v → Value.okWide Try.prog W .any base t v)
    (hW : DataW.Whole enc Try.prog Try.f3.params.toList Rows.commandEntriesSpec.vars false W args.toList ds gs before) (hk : Rows.uptoSmall H (ds ++ gs) = true) :
    Calls Try.prog 3 args W fun e W' => ∃ v, e = .returned v ∧ Rows.commandEntriesSpec.post enc Try.prog Try.f3 false true false false W args v W' := by
  have hval : ∀ (j : Nat) t v, Try.f3.params[j]? = some t → args[j]? = some v → Value.okWide Try.prog W .any base t v := hval0
  have hW' := hW
  obtain ⟨p, q, hA0, hV, rfl, hfz, hnd⟩ := hW
  have hA : DataW.TrodAll enc Try.prog W 0 (fun _ => true) true Try.f3.params.toList args.toList ds p := hA0
  rw [Try.params3] at hA hval
  obtain ⟨v0, vs0, d0, ds0, p0, q0, hargs, rfl, rfl, h0, r0⟩ := trodAll_cons hA
  obtain ⟨rfl, rfl, rfl⟩ := trodAll_nil r0
  obtain rfl : args = #[v0] := by cases args; simp_all
  obtain ⟨rfl, rfl⟩ := trodVars_none hV
  obtain ⟨n0, ht0⟩ := h0
  obtain ⟨a, F, hrd, hle⟩ := fEntry H enc W n0 _ d0 p0 ht0
  obtain ⟨e, tv, hcs, rfl, hok, hsl, hcap, hfp⟩ := of_entry_rd hrd
  have hbulk : Rows.uptoBulkAll [d0] ≤ 1048576 := by simpa [Rows.uptoSmall] using hk
  simp only [Rows.uptoBulkAll] at hbulk
  have hlen : e.task.tickets.length ≤ 1048576 := by simp only [EntryD.toD, TaskD.toD] at hle; omega
  have hv0 : v0 = .agg (e.cells tv).toArray := agg_of Try.underlying34 (hval 0 _ v0 rfl rfl) hcs
  subst hv0
  have hlt : 0 < e.task.tickets.length → ∀ i ∈ fp tv, i < W.heap.size := fun h0 i hi => sEntry.lt hrd i (hfp h0 i hi)
  refine (calls_of_F C_furlonglaw10_CommandEntries_ent (entries_c hok hsl hlt (by omega))).mono ?_
  rintro e' W' ⟨v, rfl, rfl, hF⟩
  exact ⟨_, rfl, row_post rfl (by rw [Try.params3]; exact of_decide_eq_true (by kernel_rfl)) rfl hW' rfl hF⟩

set_option maxRecDepth 100000 in
theorem lifted (os : Os) (started : os.Started) (H : Type) (enc : TypeId × Value → H) (F : Stop.Interp) :
    ReturnsInHanded {} Try.checked os 3 .any ((Rows.OpenSpec.upto Rows.commandEntriesSpec).pre6 enc Try.prog Try.f3 Rows.commandEntriesUptoRow.domain false) (((Rows.OpenSpec.upto Rows.commandEntriesSpec).at F).post enc Try.prog Try.f3 false true false false) := by
  refine returnsInHanded_of_cond (C := Try.checked) (s := Rows.OpenSpec.upto Rows.commandEntriesSpec) (k := Rows.uptoSmall) rfl ownK started (by kernel_rfl) Try.func3
    (OpenSpec.witness (enc := enc) (C := Try.checked) (s := Rows.OpenSpec.upto Rows.commandEntriesSpec) (k := Rows.uptoSmall) rfl false ⟨#[], #[.agg zEntry.toArray], []⟩ 8 (by kernel_rfl) (by kernel_rfl) (by kernel_rfl)
      (x := ([rEntry], [], [])) (by kernel_rfl) rfl (by kernel_rfl)) ?_
  intro W base args ds gs before hval hW _ hk _
  exact contract H enc W base args ds gs before hval hW hk

theorem over : Rows.commandEntriesUptoRow.holds Try.pinned (Rows.OpenSpec.upto Rows.commandEntriesSpec) :=
  OpenClaim.holds_of_cond 3 Try.f3 rfl rfl rfl rfl rfl rfl rfl ⟨rfl, rfl, rfl, rfl, rfl⟩ rfl rfl rfl rfl rfl (by kernel_rfl) Try.func3 (by kernel_rfl)
    (of_decide_eq_true (by kernel_rfl)) (by unfold Func.isWrapper; first | (rw [if_pos (by decide +kernel)]; kernel_rfl) | (rw [if_neg (by decide +kernel)]; exact ⟨rfl, rfl⟩))
    (fun os started H enc _ F => lifted os started H enc F)

theorem proved : Rows.CommandEntriesUptoSaid :=
  over
end Go.Proofs.Ytachignmofpngaa.pEntries
