/- PROVED HERE: furlonglaw10.CommandCuts, for every entry, place and byte, where the entry's reading holds at most 1048576 values: the bytes of an entry cut short anywhere are told short at the cut, and with a byte more told as too many at their end: the law answers true and its arguments read behind the call as before. -/
import Derived.Test.YtachignmofpngaaLawRow
import Derived.Test.YtachignmofpngaaLawB
set_option linter.unusedVariables false
set_option linter.unusedSimpArgs false
set_option maxRecDepth 100000
namespace Go.Proofs.Ytachignmofpngaa.pCuts
open Go Go.Vc Go.ChangeShapes Go.WideShapes Go.ChangeAt Go.RowKit

theorem contract (H : Type) (enc : TypeId × Value → H) (W : World) (base : Nat) (args : Array Value) (ds gs : List (DataW H)) (before : List MemPlace)
    (hval0 : ∀ (j : Nat) t v, Try.f4.params[j]? = some t → args[j]? = some v → Value.okWide Try.prog W .any base t v)
    (hW : DataW.Whole enc Try.prog Try.f4.params.toList Rows.commandCutsSpec.vars false W args.toList ds gs before) (hk : Rows.uptoSmall H (ds ++ gs) = true) :
    Calls Try.prog 4 args W fun e W' => ∃ v, e = .returned v ∧ Rows.commandCutsSpec.post enc Try.prog Try.f4 false true false false W args v W' := by
  have hval : ∀ (j : Nat) t v, Try.f4.params[j]? = some t → args[j]? = some v → Value.okWide Try.prog W .any base t v := hval0
  have hW' := hW
  obtain ⟨p, q, hA0, hV, rfl, hfz, hnd⟩ := hW
  have hA : DataW.TrodAll enc Try.prog W 0 (fun _ => true) true Try.f4.params.toList args.toList ds p := hA0
  rw [Try.params4] at hA hval
  obtain ⟨v0, vs0, d0, ds0, p0, q0, hargs, rfl, rfl, h0, r0⟩ := trodAll_cons hA
  obtain ⟨v1, vs1, d1, ds1, p1, q1, rfl, rfl, rfl, h1, r1⟩ := trodAll_cons r0
  obtain ⟨v2, vs2, d2, ds2, p2, q2, rfl, rfl, rfl, h2, r2⟩ := trodAll_cons r1
  obtain ⟨rfl, rfl, rfl⟩ := trodAll_nil r2
  obtain rfl : args = #[v0, v1, v2] := by cases args; simp_all
  obtain ⟨rfl, rfl⟩ := trodVars_none hV
  have hbulk : Rows.uptoBulkAll [d0, d1, d2] ≤ 1048576 := by simpa [Rows.uptoSmall] using hk
  simp only [Rows.uptoBulkAll] at hbulk
  obtain ⟨n0, ht0⟩ := h0
  obtain ⟨a0, F0, hrd0, hle0⟩ := fEntry H enc W n0 _ d0 p0 ht0
  obtain ⟨e0, tv0, hcs0, rfl, hok0, hsl0, hcap0, hfp0⟩ := of_entry_rd hrd0
  have hlen0 : e0.task.tickets.length ≤ 1048576 := by simp only [EntryD.toD, TaskD.toD] at hle0; omega
  have hv0 : v0 = .agg (e0.cells tv0).toArray := agg_of Try.underlying34 (hval 0 _ v0 rfl rfl) hcs0
  subst hv0
  have hlt0 : 0 < e0.task.tickets.length → ∀ i ∈ fp tv0, i < W.heap.size := fun h0 i hi => sEntry.lt hrd0 i (hfp0 h0 i hi)
  obtain ⟨a1, rfl, rfl, rfl, w1⟩ := open_int Try.underlying3 (hval 1 _ v1 rfl rfl) h1
  obtain ⟨a2, rfl, rfl, rfl, w2⟩ := open_int Try.underlying5 (hval 2 _ v2 rfl rfl) h2
  have hb2 := wf_u8 w2
  obtain ⟨m2, rfl⟩ : ∃ m : Nat, a2 = m := ⟨a2.toNat, by omega⟩
  refine (calls_of_F C_furlonglaw10_CommandCuts_ent (cuts_c hok0 hsl0 hlt0 (by omega) (by omega))).mono ?_
  rintro e' W' ⟨v, rfl, rfl, hF⟩
  exact ⟨_, rfl, row_post rfl (by rw [Try.params4]; exact of_decide_eq_true (by kernel_rfl)) rfl hW' rfl hF⟩

theorem lifted (os : Os) (started : os.Started) (H : Type) (enc : TypeId × Value → H) (F : Stop.Interp) :
    ReturnsInHanded {} Try.checked os 4 .any ((Rows.OpenSpec.upto Rows.commandCutsSpec).pre6 enc Try.prog Try.f4 Rows.commandCutsUptoRow.domain false) (((Rows.OpenSpec.upto Rows.commandCutsSpec).at F).post enc Try.prog Try.f4 false true false false) := by
  refine returnsInHanded_of_cond (C := Try.checked) (s := Rows.OpenSpec.upto Rows.commandCutsSpec) (k := Rows.uptoSmall) rfl ownK started (by kernel_rfl) Try.func4
    (OpenSpec.witness (enc := enc) (C := Try.checked) (s := Rows.OpenSpec.upto Rows.commandCutsSpec) (k := Rows.uptoSmall) rfl false ⟨#[], #[.agg zEntry.toArray, .int .i64 0, .int .u8 0], []⟩ 8 (by kernel_rfl) (by kernel_rfl) (by kernel_rfl)
      (x := ([rEntry, .lit (.int .i64 0), .lit (.int .u8 0)], [], [])) (by kernel_rfl) rfl (by kernel_rfl)) ?_
  intro W base args ds gs before hval hW _ hk _
  exact contract H enc W base args ds gs before hval hW hk

theorem over : Rows.commandCutsUptoRow.holds Try.pinned (Rows.OpenSpec.upto Rows.commandCutsSpec) :=
  OpenClaim.holds_of_cond 4 Try.f4 rfl rfl rfl rfl rfl rfl rfl ⟨rfl, rfl, rfl, rfl, rfl⟩ rfl rfl rfl rfl rfl (by kernel_rfl) Try.func4 (by kernel_rfl)
    (of_decide_eq_true (by kernel_rfl)) (by unfold Func.isWrapper; first | (rw [if_pos (by decide +kernel)]; kernel_rfl) | (rw [if_neg (by decide +kernel)]; exact ⟨rfl, rfl⟩))
    (fun os started H enc _ F => lifted os started H enc F)

theorem proved : Rows.CommandCutsUptoSaid :=
  over
end Go.Proofs.Ytachignmofpngaa.pCuts
