/- Contracts of package command's all, for each kind of thing. -/
import Derived.Test.YtachignmofpngaaCmdR4
set_option linter.unusedVariables false
set_option linter.unusedSimpArgs false
set_option maxRecDepth 20000
namespace Go.Proofs.Ytachignmofpngaa
open Go Go.Vc

theorem loopW_heap (w : World) (r : Go.Loop) : (loopW w r).heap = (w.heap.push (.deferred (some []))).push (LO r .ready none) := rfl
theorem loopW_at (w : World) (r : Go.Loop) : (loopW w r).heap[w.heap.size]? = some (.deferred (some [])) ∧ (loopW w r).heap[w.heap.size + 1]? = some (LO r .ready none) ∧ Fr [] w (loopW w r) ∧ (loopW w r).heap.size = w.heap.size + 2 := by
  have h : loopW w r = (w.alloc (.deferred (some []))).alloc (LO r .ready none) := rfl
  have h1 := alloc_size w (.deferred (some []))
  refine ⟨?_, ?_, ?_, ?_⟩
  · rw [h]; exact alloc_old _ (alloc_new w _)
  · rw [h, ← h1]; exact alloc_new _ _
  · rw [h]; exact (Fr.alloc [] w _).t (Fr.alloc [] _ _)
  · rw [h, alloc_size, h1]

section
variable {α : Type} {S : Shape α} {C : Codec α} {T LT OT : TypeId} {lo p : Nat} {rv : Value} {bs : List Nat} {r : Go.Loop} {one : Value} {w0 w : World} {s : PS}
/-- The start of the loop. -/
theorem Gat.start {wb wc wd : World} (hr : Rd w0 p rv bs s) (hlo : w0.heap.size = lo) (hB : Bk wb lo LT [.slice none 0 0]) (hFb : Fr [] w0 wb) (hzb : wb.heap.size = lo + 1)
    (hBc : Bk wc (lo + 1) 90 [.pointer (some ⟨p, 0, none⟩)]) (hFc : Fr [] wb wc) (hzc : wc.heap.size = lo + 2) (hBd : Bk wd (lo + 2) OT [one]) (hFd : Fr [] wc wd) (hzd : wd.heap.size = lo + 3) :
    Gat S T LT OT lo p rv bs r one w0 (loopW wd r) (lo + 5) [] s := by
  obtain ⟨h1, h2, h3, h4⟩ := loopW_at wd r
  rw [hzd] at h1 h2 h4
  have hF := ((hFb.t hFc).t hFd).t h3
  have hp : p < lo := by rw [← hlo]; exact hr.blk.lt
  refine ⟨hF.mono (fun i hi => by simp at hi), hlo, hp, hr.fresh hF, fun h0 i hi => by rw [← hlo]; exact hr.lt h0 i hi, ?_, ?_, ?_, h1, h2, by omega⟩
  · refine ⟨.slice none 0 0, [], [], (((hB.fr hFc (by simp)).fr hFd (by simp)).fr h3 (by simp)), Own.nil _ _ _, ⟨rfl, rfl⟩, ?_, ?_, ?_⟩ <;> simp [fp_nil]
  · exact (hBc.fr hFd (by simp)).fr h3 (by simp)
  · exact hBd.fr h3 (by simp)
/-- The end of the loop. -/
theorem gathered_end {wd : World} {R : Value → World → Prop} (hd : wd.heap.size = lo + 3) (h : Gathered S C T LT OT lo p rv bs r one w0 s w) (hS : 0 < S.size)
    (hR : ∀ r w' F, (S.list hS).rd w' [r] (decA C bs s).1 F → (∀ i ∈ F, w0.heap.size ≤ i) → Rd w' p rv bs (decA C bs s).2 → Fr [p] w0 w' → R r w') :
    ∃ st, w.heap[wd.heap.size + 1]? = some (LO r st none) ∧ st ≠ .busy ∧
    LdC (At (setO w (wd.heap.size + 1) (LO r .exhausted none))) (.pointer (some ⟨lo, 0, none⟩)) fun t15 =>
    (setO w (wd.heap.size + 1) (LO r .exhausted none)).heap[wd.heap.size]? = some (.deferred (some [])) ∧
    R t15 (setO (setO w (wd.heap.size + 1) (LO r .exhausted none)) wd.heap.size (.deferred none)) := by
  obtain ⟨hi, g⟩ := h
  rw [hd]
  obtain ⟨lv, cells, G, h1, h2, h3, h4, h5, h6⟩ := g.ex
  have hp := g.plt
  refine ⟨.ready, g.lp, (by intro e; cases e), ?_⟩
  refine ldC_bk (h1.setO (c := lo + 3 + 1) _ (by omega)) rfl ?_
  refine ⟨?_, ?_⟩
  · rw [setO_other _ (by omega)]; exact g.dfr
  have f1 : Fr [lo + 3, lo + 4] w (setO w (lo + 3 + 1) (LO r .exhausted none)) := Fr.setO w _ (.inl (by simp))
  have f2 : Fr [lo + 3, lo + 4] (setO w (lo + 3 + 1) (LO r .exhausted none)) (setO (setO w (lo + 3 + 1) (LO r .exhausted none)) (lo + 3) (.deferred none)) := Fr.setO _ _ (.inl (by simp))
  have f := f1.t f2
  refine hR lv _ ((if (decA C bs s).1 = [] then [] else fp lv) ++ G) ⟨lv, cells, G, rfl, h2.cap, ?_, ?_, rfl⟩ ?_ ?_ ?_
  · exact (h2.fr f (fun i hi => by have := (h4 i hi).1; simp; omega)).sl
  · exact rows_fr S f h3 (fun i hi => by have := h5 i hi; simp; omega)
  · intro i hi
    have := g.low
    rcases List.mem_append.1 hi with h | h
    · split at h
      · simp at h
      · have := (h4 i h).1; omega
    · have := h5 i h; omega
  · exact g.rd.fr f (by simp; omega) (fun h0 i hi => by have := g.rlt h0 i hi; simp; omega)
  · exact g.fr.trans f (fun i hi => by have := g.low; simp at hi; omega)
theorem all_int_c (hS : S.size = 1) (ho : OneC false S C p one) (hone : one.cells.toList = [one]) {w : World} (h : Rd w p rv bs s) {R : Value → World → Prop}
    (hR : ∀ r w' F, (S.list (by rw [hS]; decide)).rd w' [r] (decA C bs s).1 F → (∀ i ∈ F, w.heap.size ≤ i) → Rd w' p rv bs (decA C bs s).2 → Fr [p] w w' → R r w') :
    CallF Try.prog 82 #[.pointer (some ⟨p, 0, none⟩), one] w R := by
  refine C_command_all_int_link ?_
  unfold C_command_all_int
  refine alloc' (l := [.slice none 0 0]) (by kernel_rfl) ?_
  intro lo wb hlo hB hFb hzb
  refine C_command_things_int_link ?_
  unfold C_command_things_int
  refine box' (l := [.pointer (some ⟨p, 0, none⟩)]) rfl ?_
  intro c1 wc hc1 hBc hFc hzc
  refine box' hone ?_
  intro c2 wd hc2 hBd hFd hzd
  obtain rfl : c1 = lo + 1 := by omega
  obtain rfl : c2 = lo + 2 := by omega
  intro r hy
  refine callE_of C_command_things_int_1_ent ?_
  have g : Gat S 3 28 142 lo p rv bs r one w (loopW wd r) (lo + 5) [] s := Gat.start h hlo hB hFb hzb hBc hFc (by omega) hBd hFd (by omega)
  have hd : wd.heap.size = lo + 3 := by omega
  have ey : wd.heap.size + 1 = lo + 4 := by omega
  refine CallF.use (Q := fun _ w' => Gathered S C 3 28 142 lo p rv bs r one w s w') ?_ (fun _ w' hg => gathered_end hd hg (by rw [hS]; decide) hR)
  refine C_command_things_int_1_link ?_
  rw [ey] at hy ⊢
  exact th_one (z := .int .i64 0) (bytes := 8) hS (by decide) (by kernel_rfl) (by kernel_rfl) rfl (by kernel_rfl) ho g hy
theorem all_api_Lease_c (hS : S.size = 8) (ho : OneC true S C p one) (hone : one.cells.toList = [one]) {w : World} (h : Rd w p rv bs s) {R : Value → World → Prop}
    (hR : ∀ r w' F, (S.list (by rw [hS]; decide)).rd w' [r] (decA C bs s).1 F → (∀ i ∈ F, w.heap.size ≤ i) → Rd w' p rv bs (decA C bs s).2 → Fr [p] w w' → R r w') :
    CallF Try.prog 83 #[.pointer (some ⟨p, 0, none⟩), one] w R := by
  refine C_command_all_api_Lease_link ?_
  unfold C_command_all_api_Lease
  refine alloc' (l := [.slice none 0 0]) (by kernel_rfl) ?_
  intro lo wb hlo hB hFb hzb
  refine C_command_things_api_Lease_link ?_
  unfold C_command_things_api_Lease
  refine box' (l := [.pointer (some ⟨p, 0, none⟩)]) rfl ?_
  intro c1 wc hc1 hBc hFc hzc
  refine box' hone ?_
  intro c2 wd hc2 hBd hFd hzd
  obtain rfl : c1 = lo + 1 := by omega
  obtain rfl : c2 = lo + 2 := by omega
  intro r hy
  refine callE_of C_command_things_api_Lease_1_ent ?_
  have g : Gat S 124 47 150 lo p rv bs r one w (loopW wd r) (lo + 5) [] s := Gat.start h hlo hB hFb hzb hBc hFc (by omega) hBd hFd (by omega)
  have hd : wd.heap.size = lo + 3 := by omega
  have ey : wd.heap.size + 1 = lo + 4 := by omega
  refine CallF.use (Q := fun _ w' => Gathered S C 124 47 150 lo p rv bs r one w s w') ?_ (fun _ w' hg => gathered_end hd hg (by rw [hS]; decide) hR)
  refine C_command_things_api_Lease_1_link ?_
  rw [ey] at hy ⊢
  exact th_agg (z := (zeroT Try.prog 124).getD undef) (bytes := 80) hS (by decide) (by decide) (by decide) (by kernel_rfl) (by kernel_rfl) (by kernel_rfl) (by kernel_rfl) (by kernel_rfl) (by kernel_rfl) ho g hy
theorem all_api_Queue_c (hS : S.size = 7) (ho : OneC true S C p one) (hone : one.cells.toList = [one]) {w : World} (h : Rd w p rv bs s) {R : Value → World → Prop}
    (hR : ∀ r w' F, (S.list (by rw [hS]; decide)).rd w' [r] (decA C bs s).1 F → (∀ i ∈ F, w.heap.size ≤ i) → Rd w' p rv bs (decA C bs s).2 → Fr [p] w w' → R r w') :
    CallF Try.prog 87 #[.pointer (some ⟨p, 0, none⟩), one] w R := by
  refine C_command_all_api_Queue_link ?_
  unfold C_command_all_api_Queue
  refine alloc' (l := [.slice none 0 0]) (by kernel_rfl) ?_
  intro lo wb hlo hB hFb hzb
  refine C_command_things_api_Queue_link ?_
  unfold C_command_things_api_Queue
  refine box' (l := [.pointer (some ⟨p, 0, none⟩)]) rfl ?_
  intro c1 wc hc1 hBc hFc hzc
  refine box' hone ?_
  intro c2 wd hc2 hBd hFd hzd
  obtain rfl : c1 = lo + 1 := by omega
  obtain rfl : c2 = lo + 2 := by omega
  intro r hy
  refine callE_of C_command_things_api_Queue_1_ent ?_
  have g : Gat S 25 53 155 lo p rv bs r one w (loopW wd r) (lo + 5) [] s := Gat.start h hlo hB hFb hzb hBc hFc (by omega) hBd hFd (by omega)
  have hd : wd.heap.size = lo + 3 := by omega
  have ey : wd.heap.size + 1 = lo + 4 := by omega
  refine CallF.use (Q := fun _ w' => Gathered S C 25 53 155 lo p rv bs r one w s w') ?_ (fun _ w' hg => gathered_end hd hg (by rw [hS]; decide) hR)
  refine C_command_things_api_Queue_1_link ?_
  rw [ey] at hy ⊢
  exact th_agg (z := (zeroT Try.prog 25).getD undef) (bytes := 56) hS (by decide) (by decide) (by decide) (by kernel_rfl) (by kernel_rfl) (by kernel_rfl) (by kernel_rfl) (by kernel_rfl) (by kernel_rfl) ho g hy
theorem all_api_Node_c (hS : S.size = 5) (ho : OneC true S C p one) (hone : one.cells.toList = [one]) {w : World} (h : Rd w p rv bs s) {R : Value → World → Prop}
    (hR : ∀ r w' F, (S.list (by rw [hS]; decide)).rd w' [r] (decA C bs s).1 F → (∀ i ∈ F, w.heap.size ≤ i) → Rd w' p rv bs (decA C bs s).2 → Fr [p] w w' → R r w') :
    CallF Try.prog 89 #[.pointer (some ⟨p, 0, none⟩), one] w R := by
  refine C_command_all_api_Node_link ?_
  unfold C_command_all_api_Node
  refine alloc' (l := [.slice none 0 0]) (by kernel_rfl) ?_
  intro lo wb hlo hB hFb hzb
  refine C_command_things_api_Node_link ?_
  unfold C_command_things_api_Node
  refine box' (l := [.pointer (some ⟨p, 0, none⟩)]) rfl ?_
  intro c1 wc hc1 hBc hFc hzc
  refine box' hone ?_
  intro c2 wd hc2 hBd hFd hzd
  obtain rfl : c1 = lo + 1 := by omega
  obtain rfl : c2 = lo + 2 := by omega
  intro r hy
  refine callE_of C_command_things_api_Node_1_ent ?_
  have g : Gat S 27 54 157 lo p rv bs r one w (loopW wd r) (lo + 5) [] s := Gat.start h hlo hB hFb hzb hBc hFc (by omega) hBd hFd (by omega)
  have hd : wd.heap.size = lo + 3 := by omega
  have ey : wd.heap.size + 1 = lo + 4 := by omega
  refine CallF.use (Q := fun _ w' => Gathered S C 27 54 157 lo p rv bs r one w s w') ?_ (fun _ w' hg => gathered_end hd hg (by rw [hS]; decide) hR)
  refine C_command_things_api_Node_1_link ?_
  rw [ey] at hy ⊢
  exact th_agg (z := (zeroT Try.prog 27).getD undef) (bytes := 40) hS (by decide) (by decide) (by decide) (by kernel_rfl) (by kernel_rfl) (by kernel_rfl) (by kernel_rfl) (by kernel_rfl) (by kernel_rfl) ho g hy
theorem all_api_Task_c (hS : S.size = 7) (ho : OneC true S C p one) (hone : one.cells.toList = [one]) {w : World} (h : Rd w p rv bs s) {R : Value → World → Prop}
    (hR : ∀ r w' F, (S.list (by rw [hS]; decide)).rd w' [r] (decA C bs s).1 F → (∀ i ∈ F, w.heap.size ≤ i) → Rd w' p rv bs (decA C bs s).2 → Fr [p] w w' → R r w') :
    CallF Try.prog 91 #[.pointer (some ⟨p, 0, none⟩), one] w R := by
  refine C_command_all_api_Task_link ?_
  unfold C_command_all_api_Task
  refine alloc' (l := [.slice none 0 0]) (by kernel_rfl) ?_
  intro lo wb hlo hB hFb hzb
  refine C_command_things_api_Task_link ?_
  unfold C_command_things_api_Task
  refine box' (l := [.pointer (some ⟨p, 0, none⟩)]) rfl ?_
  intro c1 wc hc1 hBc hFc hzc
  refine box' hone ?_
  intro c2 wd hc2 hBd hFd hzd
  obtain rfl : c1 = lo + 1 := by omega
  obtain rfl : c2 = lo + 2 := by omega
  intro r hy
  refine callE_of C_command_things_api_Task_1_ent ?_
  have g : Gat S 30 55 159 lo p rv bs r one w (loopW wd r) (lo + 5) [] s := Gat.start h hlo hB hFb hzb hBc hFc (by omega) hBd hFd (by omega)
  have hd : wd.heap.size = lo + 3 := by omega
  have ey : wd.heap.size + 1 = lo + 4 := by omega
  refine CallF.use (Q := fun _ w' => Gathered S C 30 55 159 lo p rv bs r one w s w') ?_ (fun _ w' hg => gathered_end hd hg (by rw [hS]; decide) hR)
  refine C_command_things_api_Task_1_link ?_
  rw [ey] at hy ⊢
  exact th_agg (z := (zeroT Try.prog 30).getD undef) (bytes := 72) hS (by decide) (by decide) (by decide) (by kernel_rfl) (by kernel_rfl) (by kernel_rfl) (by kernel_rfl) (by kernel_rfl) (by kernel_rfl) ho g hy
theorem all_api_Hunger_c (hS : S.size = 2) (ho : OneC true S C p one) (hone : one.cells.toList = [one]) {w : World} (h : Rd w p rv bs s) {R : Value → World → Prop}
    (hR : ∀ r w' F, (S.list (by rw [hS]; decide)).rd w' [r] (decA C bs s).1 F → (∀ i ∈ F, w.heap.size ≤ i) → Rd w' p rv bs (decA C bs s).2 → Fr [p] w w' → R r w') :
    CallF Try.prog 93 #[.pointer (some ⟨p, 0, none⟩), one] w R := by
  refine C_command_all_api_Hunger_link ?_
  unfold C_command_all_api_Hunger
  refine alloc' (l := [.slice none 0 0]) (by kernel_rfl) ?_
  intro lo wb hlo hB hFb hzb
  refine C_command_things_api_Hunger_link ?_
  unfold C_command_things_api_Hunger
  refine box' (l := [.pointer (some ⟨p, 0, none⟩)]) rfl ?_
  intro c1 wc hc1 hBc hFc hzc
  refine box' hone ?_
  intro c2 wd hc2 hBd hFd hzd
  obtain rfl : c1 = lo + 1 := by omega
  obtain rfl : c2 = lo + 2 := by omega
  intro r hy
  refine callE_of C_command_things_api_Hunger_1_ent ?_
  have g : Gat S 119 56 161 lo p rv bs r one w (loopW wd r) (lo + 5) [] s := Gat.start h hlo hB hFb hzb hBc hFc (by omega) hBd hFd (by omega)
  have hd : wd.heap.size = lo + 3 := by omega
  have ey : wd.heap.size + 1 = lo + 4 := by omega
  refine CallF.use (Q := fun _ w' => Gathered S C 119 56 161 lo p rv bs r one w s w') ?_ (fun _ w' hg => gathered_end hd hg (by rw [hS]; decide) hR)
  refine C_command_things_api_Hunger_1_link ?_
  rw [ey] at hy ⊢
  exact th_agg (z := (zeroT Try.prog 119).getD undef) (bytes := 16) hS (by decide) (by decide) (by decide) (by kernel_rfl) (by kernel_rfl) (by kernel_rfl) (by kernel_rfl) (by kernel_rfl) (by kernel_rfl) ho g hy
end
end Go.Proofs.Ytachignmofpngaa
