/- The contract of the reference's writer of states: furlongref10.State. -/
import Derived.Test.YtachignmofpngaaRefV
set_option linter.unusedVariables false
set_option linter.unusedSimpArgs false
set_option maxRecDepth 20000
namespace Go.Proofs.Ytachignmofpngaa
open Go Go.Vc

theorem take_flat {α : Type} (C : Codec α) {l : List α} {j : Nat} (hj : j < l.length) : (l.take (j + 1)).flatMap C.enc = (l.take j).flatMap C.enc ++ C.enc l[j] ∧ ((l.take j).flatMap C.enc).length + (C.enc l[j]).length ≤ (l.flatMap C.enc).length := by
  have e1 : (l.take (j + 1)).flatMap C.enc = (l.take j).flatMap C.enc ++ C.enc l[j] := by
    rw [List.take_succ_eq_append_getElem hj, List.flatMap_append]; simp
  refine ⟨e1, ?_⟩
  have h : ((l.take (j + 1)).flatMap C.enc).length ≤ (l.flatMap C.enc).length := by
    conv => rhs; rw [← List.take_append_drop (j + 1) l, List.flatMap_append, List.length_append]
    omega
  rw [e1, List.length_append] at h
  exact h
theorem enc_listC {α : Type} (C : Codec α) (l : List α) : C.list.enc l = layN l.length ++ l.flatMap C.enc := rfl

theorem longL_false {α : Type} (l : List α) : longL (fun _ => false) l = decide (1024 < l.length) := by
  unfold longL
  have : (l.any fun _ => false) = false := by induction l <;> simp_all
  rw [this, Bool.or_false]
theorem longS_eq (l1 : List Int) (Q N : List (List Int)) (T : List DTask) (L : List DLease) (H : List (List Int)) : longS (l1, Q, N, T, L, H) = (decide (1024 < Q.length) || decide (1024 < N.length) || decide (1024 < T.length) || decide (1024 < H.length) || longL longX L || T.any longT) := by
  unfold longS
  simp only [longL_false]
  have hT : longL longT T = (decide (1024 < T.length) || T.any longT) := rfl
  rw [hT]
  cases decide (1024 < Q.length) <;> cases decide (1024 < N.length) <;> cases decide (1024 < T.length) <;> cases decide (1024 < H.length) <;> cases longL longX L <;> cases T.any longT <;> rfl
theorem rstate_c {w : World} {cs : List Value} {a : DState} {F : List Nat} (hr : sState.rd w cs a F) (hb : 10 * (cState.enc a).length ≤ 99999990000) (hbT : ∀ x ∈ a.2.2.2.1, x.2.1.length ≤ 1000000000) :
    CallF Try.prog 28 #[.agg cs.toArray] w fun r w' => Told w r w' (cState.enc a) (if longS a then 3 else 0) := by
  obtain ⟨a0, a1, a2, Q, N, T, L, H, A3, A4, A5, A6, A7, c3, c4, c5, c6, c7, F3, F4, F5, F6, F7, rfl, rfl, hQ, hN, hT, hL, hH, rfl⟩ := of_state_rd hr
  have hI := state_I hr
  simp only at hbT
  have r3 : ∀ a ∈ Q, a.length = 7 := by obtain ⟨_, _, _, _, _, _, hrows, _⟩ := hQ; exact rows_rep hrows
  have r5 : ∀ a ∈ N, a.length = 5 := by obtain ⟨_, _, _, _, _, _, hrows, _⟩ := hN; exact rows_rep hrows
  have r10 : ∀ a ∈ H, a.length = 2 := by obtain ⟨_, _, _, _, _, _, hrows, _⟩ := hH; exact rows_rep hrows
  have henc : cState.enc ([a0, a1, a2], Q, N, T, L, H) = wholes [a0, a1, a2] ++ ((cInt.rep 7).list.enc Q ++ ((cInt.rep 5).list.enc N ++ (cTask.list.enc T ++ (cLease.list.enc L ++ (cInt.rep 2).list.enc H)))) := rfl
  rw [henc] at hb ⊢
  simp only [List.length_append] at hb
  have n3 := len_rep (by omega) Q r3
  have n5 := len_rep (by omega) N r5
  have n7 := enc_len_list cTask T pos_task
  have n9 := enc_len_list cLease L pos_lease
  have n10 := len_rep (by omega) H r10
  have n1 := wholes_le [a0, a1, a2] 3 (by simp)
  refine C_furlongref10_State_link ?_
  unfold C_furlongref10_State
  refine box' (l := [.int .i64 a0, .int .i64 a1, .int .i64 a2, .slice A3 Q.length c3, .slice A4 N.length c4, .slice A5 T.length c5, .slice A6 L.length c6, .slice A7 H.length c7]) rfl ?_
  intro b1 w1 hb1 hB hF1 hs1
  refine fad (ldC_bk hB rfl (len (gtr ?_)))
  refine or_gt (m := 1024) hB rfl ?_
  refine or_gt (m := 1024) hB rfl ?_
  refine or_gt (m := 1024) hB rfl ?_
  have eQ : decide ((1024 : Int) < (Q.length : Int)) = decide (1024 < Q.length) := decide_eq_decide.2 (by omega)
  rw [eQ]
  -- short(s.Leases), where it is asked
  have short : ∀ q : Bool, ∀ k : Value → World → Prop, (∀ w2, Fr [] w1 w2 → k (.bool (q || longL longX L)) w2) →
      GdP (isB (.bool q) false) (fun R => FAd 6 (.pointer (some ⟨b1, 0, none⟩)) R) fun t39_22 => GdP (isB (.bool q) false) (fun R => LdC (At w1) t39_22 R) fun t40_23 =>
      Gd (isB (.bool q) false) (fun R => CallF Try.prog 64 #[t40_23] w1 R) w1 fun t41_24 w_25 =>
      GdP (isB (.bool q) false) (fun R => Un Try.prog (At w_25) .not t41_24 R) fun t42_26 => Pick (.bool q) (.bool true) t42_26 fun v => k v w_25 := by
    intro q k hk
    cases q with
    | true => exact gdF rfl (gdF rfl (gF rfl (gdF rfl (pick_t rfl (by simpa using hk w1 (Fr.refl _ _))))))
    | false =>
      refine gdT rfl (fad rfl) (gdT rfl (ldC_bk hB rfl rfl) (gT rfl ((short_c (Shape.fr _ hL hF1 (fun i _ => by simp)) (by omega)).use ?_)))
      rintro _ w2 ⟨rfl, hF2⟩
      exact gdT rfl (notB rfl) (pick_f rfl (by simpa using hk w2 hF2))
  refine short _ _ ?_
  intro w2 hF2
  have hB2 := hB.fr hF2 (by simp)
  have hF12 := hF1.t hF2
  generalize hq : (decide (1024 < Q.length) || decide (1024 < N.length) || decide (1024 < T.length) || decide (1024 < H.length) || longL longX L) = q
  have hlS : longS ([a0, a1, a2], Q, N, T, L, H) = (q || T.any longT) := by
    rw [← hq]
    exact longS_eq _ _ _ _ _ _
  refine fad (ldC_bk hB2 rfl (len ?_))
  refine ⟨fun m lv i w' => ∃ j : Nat, j + m = T.length ∧ i = .int .i64 j ∧ lv = .bool (q || (T.take j).any longT) ∧ Fr [] w2 w', T.length, ⟨0, by omega, rfl, by simp, Fr.refl _ _⟩, ?_⟩
  rintro m lv i w3 ⟨j, hj, rfl, rfl, hF3⟩
  refine lss (if_p (fun hlt => ?_) (fun hge => ?_))
  · have hjl : j < T.length := by omega
    refine elem_var (S := sTask) (T := 30) (n := 7) rfl (by kernel_rfl) (by kernel_rfl) (Shape.fr _ hT (hF12.t hF3) (fun i _ => by simp)) hjl ?_
    intro b3 w4 cs Gj _ hcl hB4 hrd _ hF4 _
    have etake : (T.take (j + 1)).any longT = ((T.take j).any longT || longT T[j]) := by
      rw [List.take_succ_eq_append_getElem hjl, List.any_append]; simp
    have hlT : longT T[j] = decide (1024 < T[j].2.1.length) := rfl
    generalize T[j] = aj at *
    obtain ⟨t, tv, rfl, rfl, _, hsl, _, _⟩ := of_task_rd hrd
    obtain ⟨At, ct, rfl, _⟩ := id hsl
    refine or_gt (m := 1024) hB4 rfl ?_
    refine add64 (by omega) ⟨m - 1, by omega, j + 1, by omega, by congr 1, ?_, hF3.t hF4⟩
    rw [etake, hlT, Bool.or_assoc]
    rfl
  rw [List.take_of_length_le (by omega), ← hlS]
  have hF13 := hF12.t hF3
  have hB3 := hB2.fr hF3 (by simp)
  refine if_b (fun hl => ?_) (fun hl => ?_)
  · rw [hl]
    exact ⟨.slice none 0 0, rfl, hF13, fun i hi => by simp [fp_nil] at hi, by rw [if_neg (by decide), if_neg (by decide)]; exact Own.nil _ _ _⟩
  rw [hl]
  have kr : ∀ {α : Type} {S : Shape α} {cs : List Value} {a : α} {F : List Nat} {w' : World}, S.rd w cs a F → Fr [] w3 w' → S.rd w' cs a F := fun {α S cs a F w'} h f => S.fr h (hF13.t f) (fun i _ => by simp)
  refine fad (ldC_bk hB3 rfl ?_)
  refine fad (ldC_bk hB3 rfl ?_)
  refine fad (ldC_bk hB3 rfl ?_)
  refine put_lit (l := [a0, a1, a2]) hI (row_nil w3) (by simp) rfl rfl (by omega) ?_
  intro v4 w4 hN4
  rw [List.nil_append] at hN4
  have eQ2 := enc_listC (cInt.rep 7) Q
  have eN2 := enc_listC (cInt.rep 5) N
  have eT2 := enc_listC cTask T
  have eH2 := enc_listC (cInt.rep 2) H
  have lQ := congrArg List.length eQ2
  have lN := congrArg List.length eN2
  have lT := congrArg List.length eT2
  have lH := congrArg List.length eH2
  rw [List.length_append] at lQ lN lT lH
  -- the queues
  refine fad (ldC_bk (hB3.fr hN4.fr (by simp)) rfl (len ?_))
  refine (count_c (by omega) w4).use ?_
  intro v5 w5 hN5
  refine row_append (hN4.fresh hN5.fr) hN5.own.sl (by omega) ?_
  intro v6 w6 hN6 _ _
  refine fad (ldC_bk (hB3.fr hN6.fr (by simp)) rfl (len ?_))
  refine ⟨fun m b i w' => ∃ j : Nat, j + m = Q.length ∧ i = .int .i64 j ∧ Row w3 w' b (wholes [a0, a1, a2] ++ layN Q.length ++ (Q.take j).flatMap (cInt.rep 7).enc), Q.length, ⟨0, by omega, rfl, by simpa using hN6⟩, ?_⟩
  rintro m b i w7 ⟨j, hj, rfl, hN7⟩
  refine lss (if_p (fun hlt => ?_) (fun hge => ?_))
  · have hjl : j < Q.length := by omega
    obtain ⟨et, el⟩ := take_flat (cInt.rep 7) hjl
    refine elem_var (S := sInt.rep 7) (T := 25) (n := 7) rfl (by kernel_rfl) (by kernel_rfl) (kr hQ hN7.fr) hjl ?_
    intro b3 w8 cs Gj _ hcl hB8 hrd _ hF8 _
    refine ldA_bk hB8 (by omega) ?_
    have ec : (cs.drop 0).take 7 = cs := by rw [List.drop_zero]; exact List.take_of_length_le (by omega)
    rw [ec]
    refine (rqueueR_c hrd).use ?_
    rintro v9 w9 ⟨hx9, hl9, hI9⟩
    have hle := len_wholes Q[j]
    have hle2 : (wholes Q[j]).length = ((cInt.rep 7).enc Q[j]).length := rfl
    refine put_new (l := Q[j]) (n := 7) hI9 (hN7.fresh hF8) hx9 hl9 (by simp only [List.length_append]; omega) ?_
    intro v10 w10 hN10
    refine add64 (by omega) ⟨m - 1, by omega, j + 1, by omega, by congr 1, ?_⟩
    rw [et, ← List.append_assoc]
    exact hN10
  rw [List.take_of_length_le (by omega), List.append_assoc, ← eQ2] at hN7
  clear hN6 hN5 hN4
  -- the nodes
  refine fad (ldC_bk (hB3.fr hN7.fr (by simp)) rfl (len ?_))
  refine (count_c (by omega) w7).use ?_
  intro v8 w8 hN8
  refine row_append (hN7.fresh hN8.fr) hN8.own.sl (by simp only [List.length_append]; omega) ?_
  intro v9 w9 hN9 _ _
  refine fad (ldC_bk (hB3.fr hN9.fr (by simp)) rfl (len ?_))
  refine ⟨fun m b i w' => ∃ j : Nat, j + m = N.length ∧ i = .int .i64 j ∧ Row w3 w' b (wholes [a0, a1, a2] ++ (cInt.rep 7).list.enc Q ++ layN N.length ++ (N.take j).flatMap (cInt.rep 5).enc), N.length, ⟨0, by omega, rfl, by simpa using hN9⟩, ?_⟩
  rintro m b i w10 ⟨j, hj, rfl, hN10⟩
  refine lss (if_p (fun hlt => ?_) (fun hge => ?_))
  · have hjl : j < N.length := by omega
    obtain ⟨et, el⟩ := take_flat (cInt.rep 5) hjl
    refine elem_var (S := sInt.rep 5) (T := 27) (n := 5) rfl (by kernel_rfl) (by kernel_rfl) (kr hN hN10.fr) hjl ?_
    intro b3 w11 cs Gj _ hcl hB11 hrd _ hF11 _
    refine ldA_bk hB11 (by omega) ?_
    have ec : (cs.drop 0).take 5 = cs := by rw [List.drop_zero]; exact List.take_of_length_le (by omega)
    rw [ec]
    refine (rnodeR_c hrd).use ?_
    rintro v12 w12 ⟨hx12, hl12, hI12⟩
    have hle := len_wholes N[j]
    have hle2 : (wholes N[j]).length = ((cInt.rep 5).enc N[j]).length := rfl
    refine put_new (l := N[j]) (n := 5) hI12 (hN10.fresh hF11) hx12 hl12 (by simp only [List.length_append]; omega) ?_
    intro v13 w13 hN13
    refine add64 (by omega) ⟨m - 1, by omega, j + 1, by omega, by congr 1, ?_⟩
    rw [et, ← List.append_assoc]
    exact hN13
  rw [List.take_of_length_le (by omega), List.append_assoc, ← eN2] at hN10
  clear hN9 hN8 hN7
  -- the tasks
  refine fad (ldC_bk (hB3.fr hN10.fr (by simp)) rfl (len ?_))
  refine (count_c (by omega) w10).use ?_
  intro v11 w11 hN11
  refine row_append (hN10.fresh hN11.fr) hN11.own.sl (by simp only [List.length_append]; omega) ?_
  intro v12 w12 hN12 _ _
  refine fad (ldC_bk (hB3.fr hN12.fr (by simp)) rfl (len ?_))
  refine ⟨fun m b i w' => ∃ j : Nat, j + m = T.length ∧ i = .int .i64 j ∧ Row w3 w' b (wholes [a0, a1, a2] ++ (cInt.rep 7).list.enc Q ++ (cInt.rep 5).list.enc N ++ layN T.length ++ (T.take j).flatMap cTask.enc), T.length, ⟨0, by omega, rfl, by simpa using hN12⟩, ?_⟩
  rintro m b i w13 ⟨j, hj, rfl, hN13⟩
  refine lss (if_p (fun hlt => ?_) (fun hge => ?_))
  · have hjl : j < T.length := by omega
    obtain ⟨et, el⟩ := take_flat cTask hjl
    refine elem_var (S := sTask) (T := 30) (n := 7) rfl (by kernel_rfl) (by kernel_rfl) (kr hT hN13.fr) hjl ?_
    intro b3 w14 cs Gj _ hcl hB14 hrd _ hF14 _
    refine ldA_bk hB14 (by omega) ?_
    have ec : (cs.drop 0).take 7 = cs := by rw [List.drop_zero]; exact List.take_of_length_le (by omega)
    rw [ec]
    refine (rtaskR_c hrd (hbT _ (List.getElem_mem hjl))).use ?_
    intro v15 w15 hN15
    refine row_append ((hN13.fresh hF14).fresh hN15.fr) hN15.own.sl (by simp only [List.length_append]; omega) ?_
    intro v16 w16 hN16 _ _
    refine add64 (by omega) ⟨m - 1, by omega, j + 1, by omega, by congr 1, ?_⟩
    rw [et, ← List.append_assoc]
    exact hN16
  rw [List.take_of_length_le (by omega), List.append_assoc, ← eT2] at hN13
  clear hN12 hN11 hN10
  -- the leases
  refine fad (ldC_bk (hB3.fr hN13.fr (by simp)) rfl ?_)
  refine (leases_c (kr hL hN13.fr) (by omega)).use ?_
  intro v14 w14 hN14
  refine row_append (hN13.fresh hN14.fr) hN14.own.sl (by simp only [List.length_append]; omega) ?_
  intro v15 w15 hN15 _ _
  -- the hungry
  refine fad (ldC_bk (hB3.fr hN15.fr (by simp)) rfl (len ?_))
  refine (count_c (by omega) w15).use ?_
  intro v16 w16 hN16
  refine row_append (hN15.fresh hN16.fr) hN16.own.sl (by simp only [List.length_append]; omega) ?_
  intro v17 w17 hN17 _ _
  refine fad (ldC_bk (hB3.fr hN17.fr (by simp)) rfl (len ?_))
  refine ⟨fun m b i w' => ∃ j : Nat, j + m = H.length ∧ i = .int .i64 j ∧ Row w3 w' b (wholes [a0, a1, a2] ++ (cInt.rep 7).list.enc Q ++ (cInt.rep 5).list.enc N ++ cTask.list.enc T ++ cLease.list.enc L ++ layN H.length ++ (H.take j).flatMap (cInt.rep 2).enc), H.length, ⟨0, by omega, rfl, by simpa using hN17⟩, ?_⟩
  rintro m b i w18 ⟨j, hj, rfl, hN18⟩
  refine lss (if_p (fun hlt => ?_) (fun hge => ?_))
  · have hjl : j < H.length := by omega
    obtain ⟨et, el⟩ := take_flat (cInt.rep 2) hjl
    refine elem_var (S := sInt.rep 2) (T := 119) (n := 2) rfl (by kernel_rfl) (by kernel_rfl) (kr hH hN18.fr) hjl ?_
    intro b3 w19 cs Gj _ hcl hB19 hrd _ hF19 _
    obtain ⟨hlh, rfl, _, hIh⟩ := of_rep hrd
    have hle2 : (wholes H[j]).length = ((cInt.rep 2).enc H[j]).length := rfl
    have hw2 : (cInt.rep 2).enc H[j] = wholes H[j] := rfl
    rw [hw2] at et
    generalize H[j] = hj' at *
    match hj', hlh with
    | [h0, h1], _ =>
      refine fad (ldC_bk hB19 rfl (fad (ldC_bk hB19 rfl ?_)))
      refine put_lit (l := [h0, h1]) hIh (hN18.fresh hF19) (by simp only [List.length_append, List.length_cons, List.length_nil]; omega) rfl rfl (by omega) ?_
      intro v20 w20 hN20
      refine add64 (by omega) ⟨m - 1, by omega, j + 1, by omega, by congr 1, ?_⟩
      rw [et, ← List.append_assoc]
      exact hN20
  rw [List.take_of_length_le (by omega), List.append_assoc, ← eH2] at hN18
  have e9 : wholes [a0, a1, a2] ++ (cInt.rep 7).list.enc Q ++ (cInt.rep 5).list.enc N ++ cTask.list.enc T ++ cLease.list.enc L ++ (cInt.rep 2).list.enc H = wholes [a0, a1, a2] ++ ((cInt.rep 7).list.enc Q ++ ((cInt.rep 5).list.enc N ++ (cTask.list.enc T ++ (cLease.list.enc L ++ (cInt.rep 2).list.enc H)))) := by simp only [List.append_assoc]
  rw [e9] at hN18
  refine ⟨b, rfl, hF13.t hN18.fr, fun i hi => by have := hN18.new i hi; have := hF13.size; omega, ?_⟩
  exact hN18.own
end Go.Proofs.Ytachignmofpngaa
