/- PROVED HERE: furlonglaw15.StoreNil, where what it reads is of bulk at most 1048576: a nil disk and a nil store are refused; what a store is handed and what it hands back is its own memory; the law answers true, and its argument reads as before. -/
import Derived.Test.YtmlaconjeplhpaaFitsU
set_option linter.unusedVariables false
set_option linter.unusedSimpArgs false
set_option maxRecDepth 100000
namespace Go.Proofs.Ytmlaconjeplhpaa.pNil
open Go Go.Vc Go.ChangeShapes Go.WideShapes Go.ChangeAt Go.RowKit

theorem contract (H : Type) (enc : TypeId × Value → H) (W : World) (base : Nat) (args : Array Value) (ds gs : List (DataW H)) (before : List MemPlace)
    (hval0 : ∀ (j : Nat) t v, Try.f4.params[j]? = some t → args[j]? = some v → Value.okWide Try.prog W .any base t v)
    (hW : DataW.Whole enc Try.prog Try.f4.params.toList Rows.storeNilSpec.vars false W args.toList ds gs before) (hk : Rows.uptoSmall H (ds ++ gs) = true) :
    Calls Try.prog 4 args W fun e W' => ∃ v, e = .returned v ∧ Rows.storeNilSpec.post enc Try.prog Try.f4 false true false false W args v W' := by
  have hval : ∀ (j : Nat) t v, Try.f4.params[j]? = some t → args[j]? = some v → Value.okWide Try.prog W .any base t v := hval0
  have hW' := hW
  obtain ⟨p, q, hA0, hV, rfl, hfz, hnd⟩ := hW
  have hA : DataW.TrodAll enc Try.prog W 0 (fun _ => true) true Try.f4.params.toList args.toList ds p := hA0
  rw [Try.params4] at hA hval
  obtain ⟨v0, vs0, d0, ds0, p0, q0, hargs, rfl, rfl, h0, r0⟩ := trodAll_cons hA
  obtain ⟨rfl, rfl, rfl⟩ := trodAll_nil r0
  obtain rfl : args = #[v0] := by cases args; simp_all
  obtain ⟨rfl, rfl⟩ := trodVars_none hV
  have hbulk : Rows.uptoBulkAll [d0] ≤ 1048576 := by simpa [Rows.uptoSmall] using hk
  simp only [Rows.uptoBulkAll] at hbulk
  obtain ⟨n0, ht0⟩ := h0
  obtain ⟨a0, F0, hrd0, hle0⟩ := fBytes H enc W n0 _ d0 p0 ht0
  obtain ⟨x0, hcs0⟩ := one_cell hrd0
  have hv0 : v0 = x0 := one_of_cells hcs0 (hval 0 _ v0 rfl rfl) Try.underlying24
  subst hv0
  rw [hcs0] at hrd0
  simp only at hle0
  refine (calls_of_F C_furlonglaw15_StoreNil_ent (nil_c hrd0)).mono ?_
  rintro e' W' ⟨v, rfl, rfl, hF⟩
  exact ⟨_, rfl, row_post rfl (by rw [Try.params4]; exact of_decide_eq_true (by kernel_rfl)) rfl hW' rfl hF⟩

theorem lifted (os : Os) (started : os.Started) (H : Type) (enc : TypeId × Value → H) (F : Stop.Interp) :
    ReturnsInHanded {} Try.checked os 4 .any ((Rows.OpenSpec.upto Rows.storeNilSpec).pre6 enc Try.prog Try.f4 Rows.storeNilUptoRow.domain false) (((Rows.OpenSpec.upto Rows.storeNilSpec).at F).post enc Try.prog Try.f4 false true false false) := by
  refine returnsInHanded_of_cond (C := Try.checked) (s := Rows.OpenSpec.upto Rows.storeNilSpec) (k := Rows.uptoSmall) rfl ownK started (by kernel_rfl) Try.func4
    (OpenSpec.witness (enc := enc) (C := Try.checked) (s := Rows.OpenSpec.upto Rows.storeNilSpec) (k := Rows.uptoSmall) rfl false ⟨#[], #[.slice none 0 0], []⟩ 8 (by kernel_rfl) (by kernel_rfl) (by kernel_rfl)
      (x := ([.nil], [], [])) (by kernel_rfl) rfl (by kernel_rfl)) ?_
  intro W base args ds gs before hval hW _ hk _
  exact contract H enc W base args ds gs before hval hW hk

theorem over : Rows.storeNilUptoRow.holds Try.pinned (Rows.OpenSpec.upto Rows.storeNilSpec) :=
  OpenClaim.holds_of_cond 4 Try.f4 rfl rfl rfl rfl rfl rfl rfl ⟨rfl, rfl, rfl, rfl, rfl⟩ rfl rfl rfl rfl rfl (by kernel_rfl) Try.func4 (by kernel_rfl)
    (of_decide_eq_true (by kernel_rfl)) (by unfold Func.isWrapper; first | (rw [if_pos (by decide +kernel)]; kernel_rfl) | (rw [if_neg (by decide +kernel)]; exact ⟨rfl, rfl⟩))
    (fun os started H enc _ F => lifted os started H enc F)

theorem proved : Rows.StoreNilUptoSaid :=
  over
end Go.Proofs.Ytmlaconjeplhpaa.pNil
