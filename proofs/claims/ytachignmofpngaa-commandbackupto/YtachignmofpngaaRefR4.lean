/- Contracts of the reference's reader: furlongref10.aQueue, aNode, aTask, aLease, someLeases. -/
import Derived.Test.YtachignmofpngaaRefR3
set_option linter.unusedVariables false
set_option linter.unusedSimpArgs false
set_option maxRecDepth 20000
namespace Go.Proofs.Ytachignmofpngaa
open Go Go.Vc

/-- A thing that is handed back: it is the right one, where there is no error. -/
def TQ {α : Type} (S : Shape α) (B : Nat) (er : Int) (a : α) (x : Value) (w : World) : Prop :=
  ∃ cs a' F, x = .agg cs.toArray ∧ S.rd w cs a' F ∧ (∀ i ∈ F, B ≤ i) ∧ (er = 0 → a' = a)
theorem ixL {S : World → Prop} {w : World} {κ : IntKind} {n : Nat} {v u : Value} {cells : List Value} {k : Value → Prop} (i : Nat) {j : Int} (hj : j = i) (hs : ∀ w', S w' → Sl w' 1 v n cells) (h0 : Sl w 1 v n cells) (hi : i < n) (hv : cells[i]? = some u) (h : k u) :
    IAdS 1 v (.int κ j) fun t => LdC S t k := by
  subst hj
  exact ix1S hs h0 hi hv h
theorem bldVec {x y : Int} {k : Value → Prop} (h : k (.agg #[.int .i64 x, .int .i64 y])) : Bld Try.prog 23 [(0, .int .i64 x), (1, .int .i64 y)] k :=
  bldV (vals := [.int .i64 x, .int .i64 y]) [1, 1] (by kernel_rfl) (n := 2) (by kernel_rfl) rfl (by kernel_rfl) rfl rfl h
theorem len7 {l : List Int} (h : l.length = 7) : ∃ a0 a1 a2 a3 a4 a5 a6, l = [a0, a1, a2, a3, a4, a5, a6] := by
  match l, h with
  | [a0, a1, a2, a3, a4, a5, a6], _ => exact ⟨a0, a1, a2, a3, a4, a5, a6, rfl⟩
theorem len5 {l : List Int} (h : l.length = 5) : ∃ a0 a1 a2 a3 a4, l = [a0, a1, a2, a3, a4] := by
  match l, h with
  | [a0, a1, a2, a3, a4], _ => exact ⟨a0, a1, a2, a3, a4, rfl⟩
theorem len4 {l : List Int} (h : l.length = 4) : ∃ a0 a1 a2 a3, l = [a0, a1, a2, a3] := by
  match l, h with
  | [a0, a1, a2, a3], _ => exact ⟨a0, a1, a2, a3, rfl⟩
theorem len3 {l : List Int} (h : l.length = 3) : ∃ a0 a1 a2, l = [a0, a1, a2] := by
  match l, h with
  | [a0, a1, a2], _ => exact ⟨a0, a1, a2, rfl⟩
theorem len2 {l : List Int} (h : l.length = 2) : ∃ a0 a1, l = [a0, a1] := by
  match l, h with
  | [a0, a1], _ => exact ⟨a0, a1, rfl⟩
theorem rep_mk {n : Nat} (w : World) {l : List Int} (hl : l.length = n) (hI : ∀ y ∈ l, I64 y) : (sInt.rep n).rd w (ints l) l [] := ⟨hl, rows_ints.2 ⟨rfl, rfl, hI⟩⟩
section
variable {w0 w : World} {b b2 b3 : Nat} {v : Value} {bs : List Nat} {s s' : PS}
/-- The reader is handed back, and the thing with it. -/
theorem ret2 {T : TypeId} {n : Nat} {l2 l3 cs : List Value} {S : World → Prop} {R : Value → World → Prop} (src : Rs w v bs) (hB2 : Bk w b2 92 l2) (hl2 : l2.length = 3) (hB3 : Bk w b3 T l3) (hl3 : l3.length = n) (hst : sizeT Try.prog T = some n) (h0 : 0 < n)
    (hne : b2 ≠ b3) (hcl : cs.length = n) (h1 : ∀ u ∈ cs, u.oneCell' = true) (hS : ∀ w', Fr [b2] w w' → S w') (hR : ∀ w', Fr [b2, b3] w w' → R (.tuple #[rv v s', .agg cs.toArray]) w') :
    DoU Try.prog (Instr.storeAt 92 (.pointer (some ⟨b2, 0, none⟩)) (rv v s')) w fun _ w1 => S w1 ∧
    DoU Try.prog (Instr.storeAt T (.pointer (some ⟨b3, 0, none⟩)) (.agg cs.toArray)) w1 fun _ w2 =>
    LdA (At w2) 3 (.pointer (some ⟨b2, 0, none⟩)) fun r1 => LdA (At w2) n (.pointer (some ⟨b3, 0, none⟩)) fun r2 => R (.tuple #[r1, r2]) w2 := by
  refine store_all (n := 3) (vs := cellsR v s') hB2 (by kernel_rfl) hl2 rfl (by omega) (cellsR_one src) ?_
  intro w1 hB21 hF1 hs1
  refine ⟨hS w1 hF1, ?_⟩
  refine store_all (hB3.fr hF1 (by simp; omega)) hst hl3 hcl h0 h1 ?_
  intro w2 hB32 hF2 hs2
  refine ldA_bk (hB21.fr hF2 (by simp; omega)) (by simp [cellsR]) (ldA_bk hB32 (by omega) ?_)
  have ec : (cs.drop 0).take n = cs := by rw [List.drop_zero]; exact List.take_of_length_le (by omega)
  rw [ec]
  exact hR w2 ((hF1.mono (fun i hi => by simp at hi; simp [hi])).trans hF2 (fun i hi => by simp at hi; simp [hi]))
end

theorem aQueue_c {w : World} {v : Value} {bs : List Nat} {s : PS} (h : Rs w v bs) (hp : s.pos ≤ bs.length) :
    CallF Try.prog 47 #[rv v s] w (Nx v (decR cInt bs 7 s).2 w (TQ (sInt.rep 7) w.heap.size (decR cInt bs 7 s).2.err (decR cInt bs 7 s).1)) := by
  refine C_furlongref10_aQueue_link ?_
  unfold C_furlongref10_aQueue
  refine rc_box h hp fun b w1 hb c1 => ?_
  refine alloc_n (n := 3) (by kernel_rfl) ?_
  intro b2 w2 l hl hb2 hB2 hF2 hs2
  refine alloc_n (n := 7) (by kernel_rfl) ?_
  intro b3 w3 l3 hl3 hb3 hB3 hF3 hs3
  have c3 := (c1.fresh hF2).fresh hF3
  have hlt := c1.var.lt
  have hB23 := hB2.fr hF3 (by simp)
  have hI := decR_I64 h.byte 7 s
  refine c3.call (args := fun t => #[t, .int .i64 7]) (rnums_c (n := 7) c3.rs hp (by omega)) ((cInt.rep 7).place bs s hp) ?_
  rintro x w4 w5 ⟨hx, hxn⟩ hF4 hF5 c5
  obtain ⟨a0, a1, a2, a3, a4, a5, a6, hll⟩ := len7 (decR_length cInt bs 7 s)
  generalize (decR cInt bs 7 s).2 = s' at *
  rw [hll] at hI hx ⊢
  have hF35 : Fr [b] w3 w5 := (hF4.mono (fun i hi => by simp at hi)).t hF5
  have hx5 := hx.fr hF5 (fun i hi => by have := hxn i hi; simp; omega)
  have hx6 : Sl (World.drew w5) 1 x 7 (ints [a0, a1, a2, a3, a4, a5, a6]) := hx5.fr (Fr.drew [] w5) (by simp)
  refine ⟨fun w' => Bk w' b 92 (cellsR v s') ∧ Sl w' 1 x 7 (ints [a0, a1, a2, a3, a4, a5, a6]), ⟨c5.var.drew, hx6⟩, ?_⟩
  refine ldA_S (l := cellsR v s') (T := 92) (fun w' h => h.1) (by simp [cellsR]) ?_
  refine ixL 0 rfl (fun w' h => h.2) hx6 (by omega) rfl ?_
  refine ixL 1 rfl (fun w' h => h.2) hx6 (by omega) rfl ?_
  refine ixL 2 rfl (fun w' h => h.2) hx6 (by omega) rfl ?_
  refine ixL 3 rfl (fun w' h => h.2) hx6 (by omega) rfl ?_
  refine ixL 4 rfl (fun w' h => h.2) hx6 (by omega) rfl (bldVec ?_)
  refine ixL 5 rfl (fun w' h => h.2) hx6 (by omega) rfl ?_
  refine ixL 6 rfl (fun w' h => h.2) hx6 (by omega) rfl (bldVec ?_)
  refine bldV (vals := [.int .i64 a0, .int .i64 a1, .int .i64 a2, .agg #[.int .i64 a3, .int .i64 a4], .agg #[.int .i64 a5, .int .i64 a6]]) [1, 1, 1, 2, 2] (n := 7) (by kernel_rfl) (by kernel_rfl) rfl (by kernel_rfl) rfl rfl ?_
  have hB25 := (hB23.fr hF35 (by simp; omega)).drew
  have hB35 := (hB3.fr hF35 (by simp; omega)).drew
  refine ret2 (n := 7) (cs := ints [a0, a1, a2, a3, a4, a5, a6]) (c5.rs.fr (Fr.drew [] w5)) hB25 hl hB35 hl3 (by kernel_rfl) (by omega) (by omega) rfl (ints_one _) ?_ ?_
  · intro w' hF'
    exact ⟨c5.var.drew.fr hF' (by simp; omega), hx6.fr hF' (fun i hi => by have := hxn i hi; simp; omega)⟩
  · intro w' hF'
    refine ⟨_, rfl, ⟨_, _, [], rfl, rep_mk w' rfl hI, by simp, fun _ => rfl⟩, ?_⟩
    exact (c5.fr.t (Fr.drew [] w5)).trans hF' (fun i hi => .inr (by simp at hi; omega))
theorem aNode_c {w : World} {v : Value} {bs : List Nat} {s : PS} (h : Rs w v bs) (hp : s.pos ≤ bs.length) :
    CallF Try.prog 48 #[rv v s] w (Nx v (decR cInt bs 5 s).2 w (TQ (sInt.rep 5) w.heap.size (decR cInt bs 5 s).2.err (decR cInt bs 5 s).1)) := by
  refine C_furlongref10_aNode_link ?_
  unfold C_furlongref10_aNode
  refine rc_box h hp fun b w1 hb c1 => ?_
  refine alloc_n (n := 3) (by kernel_rfl) ?_
  intro b2 w2 l hl hb2 hB2 hF2 hs2
  refine alloc_n (n := 5) (by kernel_rfl) ?_
  intro b3 w3 l3 hl3 hb3 hB3 hF3 hs3
  have c3 := (c1.fresh hF2).fresh hF3
  have hlt := c1.var.lt
  have hB23 := hB2.fr hF3 (by simp)
  have hI := decR_I64 h.byte 5 s
  refine c3.call (args := fun t => #[t, .int .i64 5]) (rnums_c (n := 5) c3.rs hp (by omega)) ((cInt.rep 5).place bs s hp) ?_
  rintro x w4 w5 ⟨hx, hxn⟩ hF4 hF5 c5
  obtain ⟨a0, a1, a2, a3, a4, hll⟩ := len5 (decR_length cInt bs 5 s)
  generalize (decR cInt bs 5 s).2 = s' at *
  rw [hll] at hI hx ⊢
  have hF35 : Fr [b] w3 w5 := (hF4.mono (fun i hi => by simp at hi)).t hF5
  have hx5 := hx.fr hF5 (fun i hi => by have := hxn i hi; simp; omega)
  have hx6 : Sl (World.drew w5) 1 x 5 (ints [a0, a1, a2, a3, a4]) := hx5.fr (Fr.drew [] w5) (by simp)
  refine ⟨fun w' => Bk w' b 92 (cellsR v s') ∧ Sl w' 1 x 5 (ints [a0, a1, a2, a3, a4]), ⟨c5.var.drew, hx6⟩, ?_⟩
  refine ldA_S (l := cellsR v s') (T := 92) (fun w' h => h.1) (by simp [cellsR]) ?_
  refine ixL 0 rfl (fun w' h => h.2) hx6 (by omega) rfl ?_
  refine ixL 1 rfl (fun w' h => h.2) hx6 (by omega) rfl ?_
  refine ixL 2 rfl (fun w' h => h.2) hx6 (by omega) rfl ?_
  refine ixL 3 rfl (fun w' h => h.2) hx6 (by omega) rfl ?_
  refine ixL 4 rfl (fun w' h => h.2) hx6 (by omega) rfl ?_
  refine bldV (vals := ints [a0, a1, a2, a3, a4]) [1, 1, 1, 1, 1] (n := 5) (by kernel_rfl) (by kernel_rfl) rfl (by kernel_rfl) rfl rfl ?_
  have hB25 := (hB23.fr hF35 (by simp; omega)).drew
  have hB35 := (hB3.fr hF35 (by simp; omega)).drew
  refine ret2 (n := 5) (cs := ints [a0, a1, a2, a3, a4]) (c5.rs.fr (Fr.drew [] w5)) hB25 hl hB35 hl3 (by kernel_rfl) (by omega) (by omega) rfl (ints_one _) ?_ ?_
  · intro w' hF'
    exact ⟨c5.var.drew.fr hF' (by simp; omega), hx6.fr hF' (fun i hi => by have := hxn i hi; simp; omega)⟩
  · intro w' hF'
    refine ⟨_, rfl, ⟨_, _, [], rfl, rep_mk w' rfl hI, by simp, fun _ => rfl⟩, ?_⟩
    exact (c5.fr.t (Fr.drew [] w5)).trans hF' (fun i hi => .inr (by simp at hi; omega))
end Go.Proofs.Ytachignmofpngaa
