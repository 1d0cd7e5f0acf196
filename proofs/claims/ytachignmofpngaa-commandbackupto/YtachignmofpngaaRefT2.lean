/- The contract of furlongref10.TwinState. -/
import Derived.Test.YtachignmofpngaaRefT
set_option linter.unusedVariables false
set_option linter.unusedSimpArgs false
set_option maxRecDepth 20000
namespace Go.Proofs.Ytachignmofpngaa
open Go Go.Vc

theorem lit_empty {w : World} {k : Value → World → Prop} {t e : TypeId} {z : Value} {size bytes : Nat} (ht : Try.prog.underlying t = some (.slice e)) (hi : (Try.prog.info? e).map (fun i => (i.zero, i.size, i.bytes)) = some (some z, size, bytes))
    (h : ∀ v w', New w w' e size v 0 [] → k v w') : Do Try.prog (Instr.buildSlice t 0 #[]) w k := by
  refine buildSlice' (parts := []) (l := []) ht hi (by omega) (by simp [fillL, zerosL]) ?_
  intro b w' hb hB hF hsz
  exact h _ w' ⟨bk_own hB (by simp) (by omega), hF, fun i hi => by simp [fp_some] at hi; omega⟩
/-- 'append([]T{}, l...)', the things of whole numbers alone. -/
theorem copy_rows {n : Nat} {w0 w : World} {T LT : TypeId} {z : Value} {bytes : Nat} {v x : Value} {l : List (List Int)} {F : List Nat} {k : Value → World → Prop} (hn0 : 0 < n) (hS : 0 < (sInt.rep n).size) (hb1 : bytes ≤ 1000) (hl : l.length ≤ 100000000)
    (ht : Try.prog.underlying LT = some (.slice T)) (hinf : (Try.prog.info? T).map (fun i => (i.zero, i.size, i.bytes)) = some (some z, n, bytes)) (hz : z.cells.size = n)
    (hN : New w0 w T n v 0 []) (hx : ((sInt.rep n).list hS).rd w [x] l F) (hk : ∀ v' w', Gl (sInt.rep n) T w0 w' v' l → Fr (fp v) w w' → k v' w') :
    Do Try.prog (Builtin.append_ #[LT, LT] LT #[v, x]) w k := by
  obtain ⟨cells, G, hsl, hrows, _⟩ := list_open hx
  have hs : (sInt.rep n).size = n := Nat.mul_one n
  rw [hs] at hsl
  refine append' hN ht hinf hz hn0 hsl (rows_one _ hrows) ?_ (by omega) ?_
  · have : (0 + l.length) * bytes ≤ 100000000 * 1000 := Nat.mul_le_mul (by omega) hb1
    omega
  intro v' w' hN' hf hsub
  rw [Nat.zero_add, List.nil_append] at hN'
  have hG : ∀ {l : List (List Int)} {cells : List Value} {G : List Nat} {w w' : World}, (sInt.rep n).rows w l cells G → G = [] ∧ (sInt.rep n).rows w' l cells [] := by
    intro l
    induction l with
    | nil => intro cells G w w' h; exact ⟨h.2, h.1, rfl⟩
    | cons a l ih =>
      rintro cells G w w' ⟨c1, c2, F1, F2, rfl, rfl, h1, h2⟩
      obtain ⟨h3, h4, rfl, h5⟩ := of_rep h1
      obtain ⟨rfl, h6⟩ := ih (w' := w') h2
      exact ⟨rfl, c1, c2, [], [], rfl, rfl, ⟨h3, rows_ints.2 ⟨h4, rfl, h5⟩⟩, h6⟩
  refine hk v' w' ⟨cells, [], by rw [hs]; exact hN', (hG hrows).2, by simp, by simp⟩ hf
theorem twinTaskR_c {w : World} {cs : List Value} {a : DTask} {F : List Nat} (hr : sTask.rd w cs a F) (hb : a.2.1.length ≤ 1000000000) :
    CallF Try.prog 30 #[.agg cs.toArray] w fun r w' => ∃ cs' F', r = .agg cs'.toArray ∧ sTask.rd w' cs' a F' ∧ (∀ i ∈ F', w.heap.size ≤ i) ∧ Fr [] w w' := by
  obtain ⟨t, tv, rfl, rfl, hok, hsl, _, _⟩ := of_task_rd hr
  refine (twinTask_c hsl hb).use ?_
  rintro _ w' ⟨tv', rfl, hN⟩
  obtain ⟨F', h1, h2⟩ := task_rd (w := w') hok hN.own.sl hN.own.cap
  exact ⟨_, F', rfl, h1, fun i hi => hN.new i (h2 i hi).1, hN.fr⟩
theorem Gl.slice {α : Type} {S : Shape α} {T : TypeId} {w0 w : World} {v : Value} {l : List α} (h : Gl S T w0 w v l) : ∃ A c, v = .slice A l.length c := by
  obtain ⟨_, _, h1, _⟩ := h; exact h1.own.len
theorem state_mk {w : World} {a0 a1 a2 : Int} {Q N : List (List Int)} {T : List DTask} {L : List DLease} {H : List (List Int)} {v3 v4 v5 v6 v7 : Value} {F3 F4 F5 F6 F7 : List Nat} (hI : ∀ y ∈ [a0, a1, a2], I64 y)
    (h3 : ((sInt.rep 7).list (by decide)).rd w [v3] Q F3) (h4 : ((sInt.rep 5).list (by decide)).rd w [v4] N F4) (h5 : (sTask.list (by decide)).rd w [v5] T F5) (h6 : (sLease.list (by decide)).rd w [v6] L F6) (h7 : ((sInt.rep 2).list (by decide)).rd w [v7] H F7) :
    sState.rd w [.int .i64 a0, .int .i64 a1, .int .i64 a2, v3, v4, v5, v6, v7] ([a0, a1, a2], Q, N, T, L, H) (F3 ++ (F4 ++ (F5 ++ (F6 ++ F7)))) :=
  seq_rd (S := sInt.rep 3) (F1 := []) (a := [a0, a1, a2]) ⟨rfl, rows_ints.2 ⟨rfl, rfl, hI⟩⟩ (seq_rd h3 (seq_rd h4 (seq_rd h5 (seq_rd h6 h7))))
theorem state_I {w : World} {a0 a1 a2 : Int} {X : List (List Int) × List (List Int) × List DTask × List DLease × List (List Int)} {cs : List Value} {F : List Nat} (h : sState.rd w cs ([a0, a1, a2], X) F) : ∀ y ∈ [a0, a1, a2], I64 y := by
  obtain ⟨c1, c2, F1, F2, rfl, rfl, h1, _⟩ := h
  exact (of_rep h1).2.2.2
theorem twinState_c {w : World} {cs : List Value} {a : DState} {F : List Nat} (hr : sState.rd w cs a F)
    (hbT : ∀ x ∈ a.2.2.2.1, x.2.1.length ≤ 1000000000) (hbL : ∀ x ∈ a.2.2.2.2.1, x.2.1.length ≤ 1000000000) (hlen : a.2.1.length ≤ 100000000 ∧ a.2.2.1.length ≤ 100000000 ∧ a.2.2.2.1.length ≤ 100000000 ∧ a.2.2.2.2.1.length ≤ 100000000 ∧ a.2.2.2.2.2.length ≤ 100000000) :
    CallF Try.prog 26 #[.agg cs.toArray] w fun r w' => ∃ cs' F', r = .agg cs'.toArray ∧ sState.rd w' cs' a F' ∧ (∀ i ∈ F', w.heap.size ≤ i) ∧ Fr [] w w' := by
  obtain ⟨a0, a1, a2, Q, N, T, L, H, A3, A4, A5, A6, A7, c3, c4, c5, c6, c7, F3, F4, F5, F6, F7, rfl, rfl, hQ, hN, hT, hL, hH, rfl⟩ := of_state_rd hr
  have hI := state_I hr
  simp only at hbT hbL hlen
  obtain ⟨l1, l2, l3, l4, l5⟩ := hlen
  refine C_furlongref10_TwinState_link ?_
  unfold C_furlongref10_TwinState
  refine box' (l := [.int .i64 a0, .int .i64 a1, .int .i64 a2, .slice A3 Q.length c3, .slice A4 N.length c4, .slice A5 T.length c5, .slice A6 L.length c6, .slice A7 H.length c7]) rfl ?_
  intro b1 w1 hb1 hB1 hF1 hs1
  refine alloc_n (n := 8) (by kernel_rfl) ?_
  intro b2 w2 z2 hz2 hb2 hB2 hF2 hs2
  have hF12 := hF1.t hF2
  have hB12 := hB1.fr hF2 (by simp)
  have b1lt : b1 < w2.heap.size := by omega
  have b2lt : b2 < w2.heap.size := by omega
  have k1 : ∀ {α : Type} {S : Shape α} {cs : List Value} {a : α} {F : List Nat} {w' : World}, S.rd w cs a F → Fr [b1] w2 w' → S.rd w' cs a F := fun {α S cs a F w'} h f => S.fr h (hF12.trans f (fun i hi => .inr (by simp at hi; omega))) (fun i _ => by simp)
  have k2 : ∀ {α : Type} {S : Shape α} {cs : List Value} {a : α} {F : List Nat} {w' w'' : World}, S.rd w' cs a F → (∀ i ∈ F, w2.heap.size ≤ i) → Fr [b1] w' w'' → S.rd w'' cs a F := fun {α S cs a F w' w''} h hF f => S.fr h f (fun i hi => by have := hF i hi; simp; omega)
  -- the queues
  refine lit_empty (z := (zeroT Try.prog 25).getD undef) (size := 7) (bytes := 56) Try.underlying53 (by kernel_rfl) ?_
  intro v3 w3 hN3
  refine fad (ldC_bk (hB12.fr hN3.fr (by simp)) rfl ?_)
  refine copy_rows (n := 7) (z := (zeroT Try.prog 25).getD undef) (bytes := 56) (by omega) (by decide) (by decide) l1 Try.underlying53 (by kernel_rfl) (by kernel_rfl) hN3 (k1 hQ (hN3.fr.mono (fun i hi => by simp at hi))) ?_
  intro v4 w4 g4 _
  obtain ⟨B4, d4, rfl⟩ := g4.slice
  obtain ⟨G4, r4, n4⟩ := g4.rd (by decide)
  have f4 : Fr [b1] w2 w4 := g4.fr.mono (fun i hi => by simp at hi)
  refine fad (store' (hB12.fr g4.fr (by simp)) (by kernel_rfl) (by simp) rfl ?_)
  intro w5 hB5 hF5 hs5
  have f5 := f4.t hF5
  replace r4 := k2 r4 n4 hF5
  -- the nodes
  refine lit_empty (z := (zeroT Try.prog 27).getD undef) (size := 5) (bytes := 40) Try.underlying54 (by kernel_rfl) ?_
  intro v6 w6 hN6
  refine fad (ldC_bk (hB5.fr hN6.fr (by simp)) rfl ?_)
  refine copy_rows (n := 5) (z := (zeroT Try.prog 27).getD undef) (bytes := 40) (by omega) (by decide) (by decide) l2 Try.underlying54 (by kernel_rfl) (by kernel_rfl) hN6 (k1 hN (f5.t (hN6.fr.mono (fun i hi => by simp at hi)))) ?_
  intro v7 w7 g7 _
  obtain ⟨B7, d7, rfl⟩ := g7.slice
  obtain ⟨G7, r7, n7⟩ := g7.rd (by decide)
  have z5 := f5.size
  replace n7 : ∀ i ∈ G7, w2.heap.size ≤ i := fun i hi => Nat.le_trans z5 (n7 i hi)
  have e57 : Fr [b1] w5 w7 := g7.fr.mono (fun i hi => by simp at hi)
  replace r4 := k2 r4 n4 e57
  refine fad (store' (hB5.fr g7.fr (by simp)) (by kernel_rfl) (by simp) rfl ?_)
  intro w8 hB8 hF8 hs8
  have f8 := (f5.t e57).t hF8
  replace r4 := k2 r4 n4 hF8
  replace r7 := k2 r7 n7 hF8
  -- the tasks
  have hT8 := k1 hT f8
  refine fad (ldC_bk hB8 rfl (len ?_))
  refine ⟨fun m b i w' => ∃ j : Nat, j + m = T.length ∧ i = .int .i64 j ∧ Gl sTask 30 w8 w' b (T.take j), T.length, ⟨0, by omega, rfl, by simpa using Gl.nil sTask _ w8⟩, ?_⟩
  rintro m b i w9 ⟨j, hj, rfl, g⟩
  refine lss (if_p (fun hlt => ?_) (fun hge => ?_))
  · have hjl : j < T.length := by omega
    refine elem_var (S := sTask) (T := 30) (n := 7) rfl (by kernel_rfl) (by kernel_rfl) ((sTask.list (by decide)).fr hT8 g.fr (fun i _ => by simp)) hjl ?_
    intro b3 w10 cs Gj hfresh hcl hB hrd _ hF10 hone
    have hbj := hbT _ (List.getElem_mem hjl)
    have etake : T.take (j + 1) = T.take j ++ [T[j]] := List.take_succ_eq_append_getElem hjl
    generalize T[j] = aj at *
    refine ldA_bk hB (by omega) ?_
    have ec : (cs.drop 0).take 7 = cs := by rw [List.drop_zero]; exact List.take_of_length_le (by omega)
    rw [ec]
    refine (twinTaskR_c hrd hbj).use ?_
    rintro _ w11 ⟨cs', F', rfl, hrd', hFn, hF11⟩
    have g11 := (g.fresh hF10).fresh hF11
    have hvlt : ∀ i ∈ fp b, i < w9.heap.size := by obtain ⟨_, _, h1, _⟩ := g; exact h1.own.lt
    have q1 := g.fr.size
    have q2 := hF10.size
    refine g11.push (S := sTask) (a := aj) (u := .agg cs'.toArray) (z := (zeroT Try.prog 30).getD undef) (bytes := 72) (by decide) (by decide) (by decide) (by simp; omega) Try.underlying55 (by kernel_rfl) (by kernel_rfl) hrd' (fun i hi => by have := hFn i hi; exact ⟨by omega, fun hm => by have := hvlt i hm; omega⟩) (by simp [Value.cells]) ?_
    intro v12 w12 g12
    refine add64 (by omega) ⟨m - 1, by omega, j + 1, by omega, by congr 1, ?_⟩
    rw [etake]
    exact g12
  have e : T.take j = T := List.take_of_length_le (by omega)
  rw [e] at g
  obtain ⟨B9, d9, rfl⟩ := g.slice
  obtain ⟨G9, r9, n9⟩ := g.rd (by decide)
  have z8 := f8.size
  replace n9 : ∀ i ∈ G9, w2.heap.size ≤ i := fun i hi => Nat.le_trans z8 (n9 i hi)
  have e89 : Fr [b1] w8 w9 := g.fr.mono (fun i hi => by simp at hi)
  replace r4 := k2 r4 n4 e89
  replace r7 := k2 r7 n7 e89
  refine fad (store' (hB8.fr g.fr (by simp)) (by kernel_rfl) (by simp) rfl ?_)
  intro w10 hB10 hF10 hs10
  have f10 := (f8.t e89).t hF10
  replace r4 := k2 r4 n4 hF10
  replace r7 := k2 r7 n7 hF10
  replace r9 := k2 r9 n9 hF10
  -- the leases
  refine fad (ldC_bk hB10 rfl ?_)
  refine (twinLeases_c (k1 hL f10) l4 hbL).use ?_
  intro v11 w11 g11
  obtain ⟨B11, d11, rfl⟩ := g11.slice
  obtain ⟨G11, r11, n11⟩ := g11.rd (by decide)
  have z10 := f10.size
  replace n11 : ∀ i ∈ G11, w2.heap.size ≤ i := fun i hi => Nat.le_trans z10 (n11 i hi)
  have e11 : Fr [b1] w10 w11 := g11.fr.mono (fun i hi => by simp at hi)
  replace r4 := k2 r4 n4 e11
  replace r7 := k2 r7 n7 e11
  replace r9 := k2 r9 n9 e11
  refine fad (store' (hB10.fr g11.fr (by simp)) (by kernel_rfl) (by simp) rfl ?_)
  intro w12 hB12' hF12' hs12
  have f12 := (f10.t e11).t hF12'
  replace r4 := k2 r4 n4 hF12'
  replace r7 := k2 r7 n7 hF12'
  replace r9 := k2 r9 n9 hF12'
  replace r11 := k2 r11 n11 hF12'
  -- the hungry
  refine lit_empty (z := (zeroT Try.prog 119).getD undef) (size := 2) (bytes := 16) Try.underlying56 (by kernel_rfl) ?_
  intro v13 w13 hN13
  refine fad (ldC_bk (hB12'.fr hN13.fr (by simp)) rfl ?_)
  refine copy_rows (n := 2) (z := (zeroT Try.prog 119).getD undef) (bytes := 16) (by omega) (by decide) (by decide) l5 Try.underlying56 (by kernel_rfl) (by kernel_rfl) hN13 (k1 hH (f12.t (hN13.fr.mono (fun i hi => by simp at hi)))) ?_
  intro v14 w14 g14 _
  obtain ⟨B14, d14, rfl⟩ := g14.slice
  obtain ⟨G14, r14, n14⟩ := g14.rd (by decide)
  have z12 := f12.size
  replace n14 : ∀ i ∈ G14, w2.heap.size ≤ i := fun i hi => Nat.le_trans z12 (n14 i hi)
  have e14 : Fr [b1] w12 w14 := g14.fr.mono (fun i hi => by simp at hi)
  refine fad (store' (hB12'.fr g14.fr (by simp)) (by kernel_rfl) (by simp) rfl ?_)
  intro w15 hB15 hF15 hs15
  have f15 := (f12.t e14).t hF15
  replace r4 := k2 (k2 r4 n4 e14) n4 hF15
  replace r7 := k2 (k2 r7 n7 e14) n7 hF15
  replace r9 := k2 (k2 r9 n9 e14) n9 hF15
  replace r11 := k2 (k2 r11 n11 e14) n11 hF15
  replace r14 := k2 r14 n14 hF15
  replace hB15 : Bk w15 b1 58 [.int .i64 a0, .int .i64 a1, .int .i64 a2, .slice B4 Q.length d4, .slice B7 N.length d7, .slice B9 T.length d9, .slice B11 L.length d11, .slice B14 H.length d14] := hB15
  refine ldA_bk hB15 (by simp) ?_
  refine store_all (hB2.fr f15 (by simp; omega)) (by kernel_rfl) hz2 (by simp) (by omega) (by simp [Value.oneCell']) ?_
  intro w16 hB16 hF16 hs16
  refine ldA_bk hB16 (by simp) ?_
  have f16 : Fr [] w w16 := (hF12.trans f15 (fun i hi => .inr (by simp at hi; omega))).trans hF16 (fun i hi => .inr (by simp at hi; omega))
  have k3 : ∀ {α : Type} {S : Shape α} {cs : List Value} {a : α} {F : List Nat}, S.rd w15 cs a F → (∀ i ∈ F, w2.heap.size ≤ i) → S.rd w16 cs a F := fun {α S cs a F} h hF => S.fr h hF16 (fun i hi => by have := hF i hi; simp; omega)
  refine ⟨_, _, rfl, state_mk hI (k3 r4 n4) (k3 r7 n7) (k3 r9 n9) (k3 r11 n11) (k3 r14 n14), fun i hi => ?_, f16⟩
  have hz := hF12.size
  simp only [List.mem_append] at hi
  rcases hi with h | h | h | h | h
  · have := n4 i h; omega
  · have := n7 i h; omega
  · have := n9 i h; omega
  · have := n11 i h; omega
  · have := n14 i h; omega
end Go.Proofs.Ytachignmofpngaa
