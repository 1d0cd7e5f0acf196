/- PROVED HERE: furlonglaw10.CommandApart, for every two entries whose readings together hold at most 1048576 values: where both can be written, their bytes are the same just where the entries are the same: the law answers true and its arguments read behind the call as before. -/
import Derived.Test.YtachignmofpngaaLawRow
import Derived.Test.YtachignmofpngaaLawB
set_option linter.unusedVariables false
set_option linter.unusedSimpArgs false
set_option maxRecDepth 100000
namespace Go.Proofs.Ytachignmofpngaa.pApart
open Go Go.Vc Go.ChangeShapes Go.WideShapes Go.ChangeAt Go.RowKit

theorem contract (H : Type) (enc : TypeId × Value → H) (W : World) (base : Nat) (args : Array Value) (ds gs : List (DataW H)) (before : List MemPlace)
    (hval0 : ∀ (j : Nat) t v, Try.f5.params[j]? = some t → args[j]? = some v → Value.okWide Try.prog W .any base t v)
    (hW : DataW.Whole enc Try.prog Try.f5.params.toList Rows.commandApartSpec.vars false W args.toList ds gs before) (hk : Rows.uptoSmall H (ds ++ gs) = true) :
    Calls Try.prog 5 args W fun e W' => ∃ v, e = .returned v ∧ Rows.commandApartSpec.post enc Try.prog Try.f5 false true false false W args v W' := by
  have hval : ∀ (j : Nat) t v, Try.f5.params[j]? = some t → args[j]? = some v → Value.okWide Try.prog W .any base t v := hval0
  have hW' := hW
  obtain ⟨p, q, hA0, hV, rfl, hfz, hnd⟩ := hW
  have hA : DataW.TrodAll enc Try.prog W 0 (fun _ => true) true Try.f5.params.toList args.toList ds p := hA0
  rw [Try.params5] at hA hval
  obtain ⟨v0, vs0, d0, ds0, p0, q0, hargs, rfl, rfl, h0, r0⟩ := trodAll_cons hA
  obtain ⟨v1, vs1, d1, ds1, p1, q1, rfl, rfl, rfl, h1, r1⟩ := trodAll_cons r0
  obtain ⟨rfl, rfl, rfl⟩ := trodAll_nil r1
  obtain rfl : args = #[v0, v1] := by cases args; simp_all
  obtain ⟨rfl, rfl⟩ := trodVars_none hV
  have hbulk : Rows.uptoBulkAll [d0, d1] ≤ 1048576 := by simpa [Rows.uptoSmall] using hk
  simp only [Rows.uptoBulkAll] at hbulk
  obtain ⟨n0, ht0⟩ := h0
  obtain ⟨a0, F0, hrd0, hle0⟩ := fEntry H enc W n0 _ d0 p0 ht0
  obtain ⟨e0, tv0, hcs0, rfl, hok0, hsl0, hcap0, hfp0⟩ := of_entry_rd hrd0
  have hlen0 : e0.task.tickets.length ≤ 1048576 := by simp only [EntryD.toD, TaskD.toD] at hle0; omega
  have hv0 : v0 = .agg (e0.cells tv0).toArray := agg_of Try.underlying34 (hval 0 _ v0 rfl rfl) hcs0
  subst hv0
  have hlt0 : 0 < e0.task.tickets.length → ∀ i ∈ fp tv0, i < W.heap.size := fun h0 i hi => sEntry.lt hrd0 i (hfp0 h0 i hi)
  obtain ⟨n1, ht1⟩ := h1
  obtain ⟨a1, F1, hrd1, hle1⟩ := fEntry H enc W n1 _ d1 p1 ht1
  obtain ⟨e1, tv1, hcs1, rfl, hok1, hsl1, hcap1, hfp1⟩ := of_entry_rd hrd1
  have hlen1 : e1.task.tickets.length ≤ 1048576 := by simp only [EntryD.toD, TaskD.toD] at hle1; omega
  have hv1 : v1 = .agg (e1.cells tv1).toArray := agg_of Try.underlying34 (hval 1 _ v1 rfl rfl) hcs1
  subst hv1
  have hlt1 : 0 < e1.task.tickets.length → ∀ i ∈ fp tv1, i < W.heap.size := fun h0 i hi => sEntry.lt hrd1 i (hfp1 h0 i hi)
  refine (calls_of_F C_furlonglaw10_CommandApart_ent (apart_c hok0 hok1 hsl0 hsl1 hlt0 hlt1 (by omega) (by omega))).mono ?_
  rintro e' W' ⟨v, rfl, rfl, hF⟩
  exact ⟨_, rfl, row_post rfl (by rw [Try.params5]; exact of_decide_eq_true (by kernel_rfl)) rfl hW' rfl hF⟩

theorem lifted (os : Os) (started : os.Started) (H : Type) (enc : TypeId × Value → H) (F : Stop.Interp) :
    ReturnsInHanded {} Try.checked os 5 .any ((Rows.OpenSpec.upto Rows.commandApartSpec).pre6 enc Try.prog Try.f5 Rows.commandApartUptoRow.domain false) (((Rows.OpenSpec.upto Rows.commandApartSpec).at F).post enc Try.prog Try.f5 false true false false) := by
  refine returnsInHanded_of_cond (C := Try.checked) (s := Rows.OpenSpec.upto Rows.commandApartSpec) (k := Rows.uptoSmall) rfl ownK started (by kernel_rfl) Try.func5
    (OpenSpec.witness (enc := enc) (C := Try.checked) (s := Rows.OpenSpec.upto Rows.commandApartSpec) (k := Rows.uptoSmall) rfl false ⟨#[], #[.agg zEntry.toArray, .agg zEntry.toArray], []⟩ 8 (by kernel_rfl) (by kernel_rfl) (by kernel_rfl)
      (x := ([rEntry, rEntry], [], [])) (by kernel_rfl) rfl (by kernel_rfl)) ?_
  intro W base args ds gs before hval hW _ hk _
  exact contract H enc W base args ds gs before hval hW hk

theorem over : Rows.commandApartUptoRow.holds Try.pinned (Rows.OpenSpec.upto Rows.commandApartSpec) :=
  OpenClaim.holds_of_cond 5 Try.f5 rfl rfl rfl rfl rfl rfl rfl ⟨rfl, rfl, rfl, rfl, rfl⟩ rfl rfl rfl rfl rfl (by kernel_rfl) Try.func5 (by kernel_rfl)
    (of_decide_eq_true (by kernel_rfl)) (by unfold Func.isWrapper; first | (rw [if_pos (by decide +kernel)]; kernel_rfl) | (rw [if_neg (by decide +kernel)]; exact ⟨rfl, rfl⟩))
    (fun os started H enc _ F => lifted os started H enc F)

theorem proved : Rows.CommandApartUptoSaid :=
  over
end Go.Proofs.Ytachignmofpngaa.pApart
