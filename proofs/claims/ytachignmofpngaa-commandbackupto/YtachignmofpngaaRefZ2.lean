/- The contract of the reference's function that compares states: furlongref10.SameState. -/
import Derived.Test.YtachignmofpngaaRefZ
set_option linter.unusedVariables false
set_option linter.unusedSimpArgs false
set_option maxRecDepth 20000
set_option synthInstance.maxSize 100000
set_option synthInstance.maxHeartbeats 400000
namespace Go.Proofs.Ytachignmofpngaa
open Go Go.Vc

theorem of_state_rd {w : World} {cs : List Value} {a : DState} {F : List Nat} (hr : sState.rd w cs a F) : ∃ (a0 a1 a2 : Int) (Q N : List (List Int)) (T : List DTask) (L : List DLease) (H : List (List Int)) (A3 A4 A5 A6 A7 : Option Addr) (c3 c4 c5 c6 c7 : Nat) (F3 F4 F5 F6 F7 : List Nat),
    a = ([a0, a1, a2], Q, N, T, L, H) ∧ cs = [.int .i64 a0, .int .i64 a1, .int .i64 a2, .slice A3 Q.length c3, .slice A4 N.length c4, .slice A5 T.length c5, .slice A6 L.length c6, .slice A7 H.length c7] ∧
    ((sInt.rep 7).list (by decide)).rd w [.slice A3 Q.length c3] Q F3 ∧ ((sInt.rep 5).list (by decide)).rd w [.slice A4 N.length c4] N F4 ∧ (sTask.list (by decide)).rd w [.slice A5 T.length c5] T F5 ∧ (sLease.list (by decide)).rd w [.slice A6 L.length c6] L F6 ∧ ((sInt.rep 2).list (by decide)).rd w [.slice A7 H.length c7] H F7 ∧ F = F3 ++ (F4 ++ (F5 ++ (F6 ++ F7))) := by
  obtain ⟨c1, c2, F1, F2, rfl, rfl, h1, c3, c4, F3, F4, rfl, rfl, h3, c5, c6, F5, F6, rfl, rfl, h5, c7, c8, F7, F8, rfl, rfl, h7, c9, c10, F9, F10, rfl, rfl, h9, h10⟩ := hr
  obtain ⟨l1, l3, l5, l7, l9, l10⟩ := a
  obtain ⟨hl1, rfl, rfl, hI1⟩ := of_rep h1
  obtain ⟨A3, k3, rfl⟩ := list_one _ h3
  obtain ⟨A5, k5, rfl⟩ := list_one _ h5
  obtain ⟨A7, k7, rfl⟩ := list_one _ h7
  obtain ⟨A9, k9, rfl⟩ := list_one _ h9
  obtain ⟨A10, k10, rfl⟩ := list_one _ h10
  simp only at hl1 h3 h5 h7 h9 h10
  match l1, hl1 with
  | [a0, a1, a2], _ => exact ⟨a0, a1, a2, l3, l5, l7, l9, l10, A3, A5, A7, A9, A10, k3, k5, k7, k9, k10, F3, F5, F7, F9, F10, rfl, rfl, h3, h5, h7, h9, h10, rfl⟩

theorem sameTaskR_c {w : World} {cs cs' : List Value} {a a' : DTask} {F F' : List Nat} (hr : sTask.rd w cs a F) (hr' : sTask.rd w cs' a' F') (hb : a.2.1.length ≤ 1000000000000) :
    CallF Try.prog 42 #[.agg cs.toArray, .agg cs'.toArray] w fun r w' => r = .bool (decide (a = a')) ∧ Fr [] w w' := by
  obtain ⟨t, tv, rfl, rfl, _, hsl, _, _⟩ := of_task_rd hr
  obtain ⟨t', tv', rfl, rfl, _, hsl', _, _⟩ := of_task_rd hr'
  exact sameTask_c hsl hsl' hb

theorem sameState_c {w : World} {cs cs' : List Value} {a a' : DState} {F F' : List Nat} (hr : sState.rd w cs a F) (hr' : sState.rd w cs' a' F')
    (hbT : ∀ x ∈ a.2.2.2.1, x.2.1.length ≤ 1000000000000) (hbL : ∀ x ∈ a.2.2.2.2.1, x.2.1.length ≤ 1000000000000) (hlen : a.2.1.length ≤ 1000000000000 ∧ a.2.2.1.length ≤ 1000000000000 ∧ a.2.2.2.1.length ≤ 1000000000000 ∧ a.2.2.2.2.1.length ≤ 1000000000000 ∧ a.2.2.2.2.2.length ≤ 1000000000000) :
    CallF Try.prog 23 #[.agg cs.toArray, .agg cs'.toArray] w fun r w' => r = .bool (decide (a = a')) ∧ Fr [] w w' := by
  obtain ⟨a0, a1, a2, Q, N, T, L, H, A3, A4, A5, A6, A7, c3, c4, c5, c6, c7, F3, F4, F5, F6, F7, rfl, rfl, hQ, hN, hT, hL, hH, rfl⟩ := of_state_rd hr
  obtain ⟨a0', a1', a2', Q', N', T', L', H', A3', A4', A5', A6', A7', c3', c4', c5', c6', c7', F3', F4', F5', F6', F7', rfl, rfl, hQ', hN', hT', hL', hH', rfl⟩ := of_state_rd hr'
  simp only at hbT hbL hlen
  obtain ⟨l1, l2, l3, l4, l5⟩ := hlen
  obtain ⟨xN, gN, sN, rN, _⟩ := list_open hN
  obtain ⟨xN', gN', sN', rN', _⟩ := list_open hN'
  obtain ⟨xT, gT_, sT, rT, _⟩ := list_open hT
  obtain ⟨xT', gT', sT', rT', _⟩ := list_open hT'
  obtain ⟨xH, gH, sH, rH, _⟩ := list_open hH
  obtain ⟨xH', gH', sH', rH', _⟩ := list_open hH'
  refine C_furlongref10_SameState_link ?_
  unfold C_furlongref10_SameState
  refine box' rfl ?_
  intro p1 w1 hb1 hB1 hF1 hs1
  refine box' rfl ?_
  intro p2 w2 hb2 hB2 hF2 hs2
  have hB1' := hB1.fr hF2 (by simp)
  have hF := hF1.t hF2
  refine fad (ldC_bk hB1' rfl (fad (ldC_bk hB2 rfl (neq ?_))))
  refine or_int hB1' rfl hB2 rfl ?_
  refine or_int hB1' rfl hB2 rfl ?_
  refine or_len hB1' rfl hB2 rfl ?_
  refine or_len hB1' rfl hB2 rfl ?_
  refine or_len hB1' rfl hB2 rfl ?_
  refine if_b (fun h => ?_) (fun h => ?_)
  · refine ⟨?_, hF⟩
    congr 1; symm; rw [decide_eq_false_iff_not]
    intro e
    simp only [Prod.mk.injEq, List.cons.injEq] at e
    obtain ⟨⟨rfl, rfl, rfl, _⟩, _, rfl, rfl, _, rfl⟩ := e
    simp at h
  simp only [Bool.or_eq_false_iff, decide_eq_false_iff_not, Decidable.not_not] at h
  obtain ⟨⟨⟨⟨⟨rfl, rfl⟩, rfl⟩, eN⟩, eT⟩, eH⟩ := h
  have no : ∀ w', Fr [] w w' → ([a0, a1, a2], Q, N, T, L, H) ≠ ([a0, a1, a2], Q', N', T', L', H') → (Value.bool false = .bool (decide (([a0, a1, a2], Q, N, T, L, H) = ([a0, a1, a2], Q', N', T', L', H'))) ∧ Fr [] w w') := fun w' hf hne => ⟨by congr 1; symm; rw [decide_eq_false_iff_not]; exact hne, hf⟩
  refine fad (ldC_bk hB1' rfl (len ?_))
  refine ⟨fun m t i w' => ∃ j : Nat, j + m = N.length ∧ i = .int .i64 j ∧ N.take j = N'.take j ∧ Fr [] w2 w', N.length, ⟨0, by omega, rfl, by simp, Fr.refl _ _⟩, ?_⟩
  rintro m t i w3 ⟨j, hj, rfl, he, hf3⟩
  refine lss (if_p (fun hlt => ?_) (fun hge => ?_))
  · have hja : j < N.length := by omega
    have hjb : j < N'.length := by omega
    have hfd := (hf3.t (Fr.drew [] w3))
    have hsx := sN.fr1 (hF.t hfd) (fun _ i _ => by simp)
    have hsy := sN'.fr1 (hF.t hfd) (fun _ i _ => by simp)
    refine ⟨fun w' => Bk w' p1 58 _ ∧ Bk w' p2 58 _ ∧ Sl w' 5 (.slice A4 N.length c4) N.length xN ∧ Sl w' 5 (.slice A4' N'.length c4') N'.length xN', ⟨hB1'.fr hfd (by simp), hB2.fr hfd (by simp), hsx, hsy⟩, ?_⟩
    refine fad (ldC_S (fun w' h => h.1) rfl ?_)
    refine ixNS (fun w' h => h.2.2.1) hsx hja ?_
    refine fad (ldC_S (fun w' h => h.2.1) rfl ?_)
    refine ixNS (fun w' h => h.2.2.2) hsy hjb ?_
    obtain ⟨e1, n1⟩ := row_cells rN hja
    obtain ⟨e2, n2⟩ := row_cells rN' hjb
    rw [e1, e2]
    refine ne_ints (by kernel_rfl) (by kernel_rfl) (by kernel_rfl) n1 n2 ?_
    refine if_p (fun h => ?_) (fun h => ?_)
    · exact no _ (hF.t hfd) (fun e => by simp only [Prod.mk.injEq] at e; obtain ⟨_, _, rfl, _⟩ := e; exact h rfl)
    · have heq : N[j] = N'[j] := Decidable.byContradiction h
      refine add64 (by omega) ⟨m - 1, by omega, j + 1, by omega, by congr 1, ?_, hfd⟩
      rw [List.take_succ_eq_append_getElem hja, List.take_succ_eq_append_getElem hjb, he, heq]
  rw [List.take_of_length_le (by omega), List.take_of_length_le (by omega)] at he
  subst he
  refine fad (ldC_bk (hB1'.fr hf3 (by simp)) rfl (len ?_))
  refine ⟨fun m t i w' => ∃ j : Nat, j + m = T.length ∧ i = .int .i64 j ∧ T.take j = T'.take j ∧ Fr [] w2 w', T.length, ⟨0, by omega, rfl, by simp, hf3⟩, ?_⟩
  rintro m t i w4 ⟨j, hj, rfl, he, hf4⟩
  refine lss (if_p (fun hlt => ?_) (fun hge => ?_))
  · have hja : j < T.length := by omega
    have hjb : j < T'.length := by omega
    have hfd := (hf4.t (Fr.drew [] w4))
    have hsx := sT.fr1 (hF.t hfd) (fun _ i _ => by simp)
    have hsy := sT'.fr1 (hF.t hfd) (fun _ i _ => by simp)
    have hbx := hB1'.fr hfd (by simp)
    have hby := hB2.fr hfd (by simp)
    refine ⟨fun w' => Bk w' p1 58 _ ∧ Bk w' p2 58 _ ∧ Sl w' 7 (.slice A5 T.length c5) T.length xT ∧ Sl w' 7 (.slice A5' T'.length c5') T'.length xT', ⟨hbx, hby, hsx, hsy⟩, ?_⟩
    refine fad (ldC_S (fun w' h => h.1) rfl ?_)
    refine ixNS (fun w' h => h.2.2.1) hsx hja ?_
    refine fad (ldC_S (fun w' h => h.2.1) rfl ?_)
    refine ixNS (fun w' h => h.2.2.2) hsy hjb ?_
    obtain ⟨Ga, hGa, _⟩ := rows_get sTask (rows_fr sTask (hF.t hfd) rT (fun i _ => by simp)) j hja
    obtain ⟨Gb, hGb, _⟩ := rows_get sTask (rows_fr sTask (hF.t hfd) rT' (fun i _ => by simp)) j hjb
    refine (sameTaskR_c hGa hGb (hbT _ (List.getElem_mem hja))).use ?_
    rintro _ w5 ⟨rfl, hF5⟩
    refine ⟨⟨hbx.fr hF5 (by simp), hby.fr hF5 (by simp), hsx.fr1 hF5 (fun _ i _ => by simp), hsy.fr1 hF5 (fun _ i _ => by simp)⟩, notB (if_b (fun h => ?_) (fun h => ?_))⟩
    · have hne : T[j] ≠ T'[j] := by simpa using h
      exact no _ ((hF.t hfd).t hF5) (fun e => by simp only [Prod.mk.injEq] at e; obtain ⟨_, _, _, rfl, _⟩ := e; exact hne rfl)
    · have heq : T[j] = T'[j] := by simpa using h
      refine add64 (by omega) ⟨m - 1, by omega, j + 1, by omega, by congr 1, ?_, hfd.t hF5⟩
      rw [List.take_succ_eq_append_getElem hja, List.take_succ_eq_append_getElem hjb, he, heq]
  rw [List.take_of_length_le (by omega), List.take_of_length_le (by omega)] at he
  subst he
  refine fad (ldC_bk (hB1'.fr hf4 (by simp)) rfl (len ?_))
  refine ⟨fun m t i w' => ∃ j : Nat, j + m = H.length ∧ i = .int .i64 j ∧ H.take j = H'.take j ∧ Fr [] w2 w', H.length, ⟨0, by omega, rfl, by simp, hf4⟩, ?_⟩
  rintro m t i w5 ⟨j, hj, rfl, he, hf5⟩
  refine lss (if_p (fun hlt => ?_) (fun hge => ?_))
  · have hja : j < H.length := by omega
    have hjb : j < H'.length := by omega
    have hfd := (hf5.t (Fr.drew [] w5))
    have hsx := sH.fr1 (hF.t hfd) (fun _ i _ => by simp)
    have hsy := sH'.fr1 (hF.t hfd) (fun _ i _ => by simp)
    refine ⟨fun w' => Bk w' p1 58 _ ∧ Bk w' p2 58 _ ∧ Sl w' 2 (.slice A7 H.length c7) H.length xH ∧ Sl w' 2 (.slice A7' H'.length c7') H'.length xH', ⟨hB1'.fr hfd (by simp), hB2.fr hfd (by simp), hsx, hsy⟩, ?_⟩
    refine fad (ldC_S (fun w' h => h.1) rfl ?_)
    refine ixNS (fun w' h => h.2.2.1) hsx hja ?_
    refine fad (ldC_S (fun w' h => h.2.1) rfl ?_)
    refine ixNS (fun w' h => h.2.2.2) hsy hjb ?_
    obtain ⟨e1, n1⟩ := row_cells rH hja
    obtain ⟨e2, n2⟩ := row_cells rH' hjb
    rw [e1, e2]
    refine ne_ints (by kernel_rfl) (by kernel_rfl) (by kernel_rfl) n1 n2 ?_
    refine if_p (fun h => ?_) (fun h => ?_)
    · exact no _ (hF.t hfd) (fun e => by simp only [Prod.mk.injEq] at e; obtain ⟨_, _, _, _, _, rfl⟩ := e; exact h rfl)
    · have heq : H[j] = H'[j] := Decidable.byContradiction h
      refine add64 (by omega) ⟨m - 1, by omega, j + 1, by omega, by congr 1, ?_, hfd⟩
      rw [List.take_succ_eq_append_getElem hja, List.take_succ_eq_append_getElem hjb, he, heq]
  rw [List.take_of_length_le (by omega), List.take_of_length_le (by omega)] at he
  subst he
  have hFe := hF.t hf5
  refine fad (ldC_bk (hB1'.fr hf5 (by simp)) rfl (fad (ldC_bk (hB2.fr hf5 (by simp)) rfl ?_)))
  refine (sameQ_c (Shape.fr _ hQ hFe (fun i _ => by simp)) (Shape.fr _ hQ' hFe (fun i _ => by simp)) l1).use ?_
  rintro _ w6 ⟨rfl, hF6⟩
  have hBa := (hB1'.fr hf5 (by simp)).fr hF6 (by simp)
  have hBb := (hB2.fr hf5 (by simp)).fr hF6 (by simp)
  by_cases hq : Q = Q'
  · have hg : isB (.bool (decide (Q = Q'))) true = true := by simp [isB, hq]
    refine gdT hg (fad rfl) (gdT hg (ldC_bk hBa rfl rfl) (gdT hg (fad rfl) (gdT hg (ldC_bk hBb rfl rfl) (gT hg ?_))))
    refine (sameLeases_c (Shape.fr _ hL (hFe.t hF6) (fun i _ => by simp)) (Shape.fr _ hL' (hFe.t hF6) (fun i _ => by simp)) hbL l4).use ?_
    rintro _ w7 ⟨rfl, hF7⟩
    refine pick_t (by simp [hq]) ⟨?_, (hFe.t hF6).t hF7⟩
    congr 1
    rw [decide_eq_decide]
    simp [hq]
  · have hg : isB (.bool (decide (Q = Q'))) true = false := by simp [isB, hq]
    refine gdF hg (gdF hg (gdF hg (gdF hg (gF hg (pick_f (by simp [hq]) (no _ (hFe.t hF6) (fun e => ?_)))))))
    simp only [Prod.mk.injEq] at e
    exact hq e.2.1
end Go.Proofs.Ytachignmofpngaa
