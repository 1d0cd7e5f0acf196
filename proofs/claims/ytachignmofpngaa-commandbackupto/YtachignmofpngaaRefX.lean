/- Contracts of the reference's functions that write answers: furlongref10.lease, short, leases, Answer. -/
import Derived.Test.YtachignmofpngaaCmdW4
import Derived.Test.YtachignmofpngaaLawA
set_option linter.unusedVariables false
set_option linter.unusedSimpArgs false
set_option maxRecDepth 20000
namespace Go.Proofs.Ytachignmofpngaa
open Go Go.Vc

theorem list_open {α : Type} {S : Shape α} {hs : 0 < S.size} {w : World} {x : Value} {l : List α} {F : List Nat} (h : (S.list hs).rd w [x] l F) : ∃ cells G, Sl w S.size x l.length cells ∧ S.rows w l cells G ∧ ∀ i ∈ G, i ∈ F := by
  obtain ⟨v, cells, G, e, hcap, hsl, hrows, rfl⟩ := h
  obtain rfl := (List.cons.inj e).1
  exact ⟨cells, G, hsl, hrows, fun i hi => by simp [hi]⟩
/-- 'x := l[j]': the element, put into a new variable. -/
theorem elem_var {α : Type} {S : Shape α} {hs : 0 < S.size} {T : TypeId} {n j : Nat} {w : World} {x : Value} {l : List α} {F : List Nat} {k : Value → World → Prop} (hS : S.size = n) (hzt : (zeroT Try.prog T).map (fun z => z.cells.toList.length) = some n) (hst : sizeT Try.prog T = some n)
    (h : (S.list hs).rd w [x] l F) (hj : j < l.length)
    (hk : ∀ b w' cs G, w.heap.size ≤ b → cs.length = n → Bk w' b T cs → S.rd w' cs l[j] G → (∀ i ∈ G, i ∈ F) → Fr [] w w' → (∀ u ∈ cs, u.oneCell' = true) → k (.pointer (some ⟨b, 0, none⟩)) w') :
    IAdS n x (.int .i64 j) fun t9 => LdA (At w) n t9 fun t10 => Do Try.prog (Instr.alloc T true (.tuple #[])) w fun xv w12 => DoU Try.prog (Instr.storeAt T xv t10) w12 fun _ w14 => k xv w14 := by
  obtain ⟨cells, G, hsl, hrows, hsub⟩ := list_open h
  obtain ⟨Gj, hGj, hsub2⟩ := rows_get S hrows j hj
  rw [hS] at hsl hGj
  refine ixN hsl hj ?_
  refine alloc_n hzt ?_
  intro b w3 z3 hz3 hb3 hB3 hF3 hs3
  have hcl : ((cells.drop (j * n)).take n).length = n := by have := S.len hGj; rw [hS] at this; exact this
  generalize (cells.drop (j * n)).take n = cj at *
  refine store_all hB3 hst hz3 hcl (by omega) (S.one hGj) ?_
  intro w4 hB4 hF4 hs4
  have hF24 : Fr [] w w4 := hF3.trans hF4 (fun i hi => .inr (by simp at hi; omega))
  exact hk b w4 cj Gj (by omega) hcl hB4 (S.fr hGj hF24 (fun i _ => by simp)) (fun i hi => hsub i (hsub2 i hi)) hF24 (S.one hGj)

theorem rlease_c {w : World} {cs : List Value} {a : DLease} {F : List Nat} (hr : sLease.rd w cs a F) (hb : 10 * (cLease.enc a).length ≤ 99999990000) :
    CallF Try.prog 96 #[.agg cs.toArray] w fun r w' => Row w w' r (cLease.enc a) := by
  have hlt := sLease.lt hr
  obtain ⟨c1, c2, F1, F2, rfl, rfl, h1, c3, c4, F3, F4, rfl, rfl, h2, c5, c6, F5, F6, rfl, rfl, h3, rfl, rfl⟩ := hr
  obtain ⟨l1, l2, l3, st⟩ := a
  obtain ⟨hl1, rfl, rfl, hI1⟩ := of_rep h1
  obtain ⟨hl3, rfl, rfl, hI3⟩ := of_rep h3
  obtain ⟨A, c, rfl⟩ := list_one _ h2
  simp only at hl1 hl3 hI1 hI3 h2
  match l1, hl1, l3, hl3 with
  | [a0, a1, a2], _, [b0, b1, b2], _ =>
    have henc : cLease.enc ([a0, a1, a2], l2, [b0, b1, b2], st) = wholes [a0, a1, a2] ++ (listN l2 ++ (wholes [b0, b1, b2] ++ layN (if st then 1 else 0))) := rfl
    rw [henc] at hb ⊢
    have n1 := wholes_le [a0, a1, a2] 3 (by simp)
    have n2 := listN_length l2
    have n3 := wholes_le [b0, b1, b2] 3 (by simp)
    have n4 := len_wholes l2
    have n5 := (layN_length (if st then 1 else 0)).2
    have n6 : l2.length ≤ (listN l2).length := by simp only [listN, List.length_append]; omega
    simp only [List.length_append] at hb
    refine C_furlongref10_lease_link ?_
    unfold C_furlongref10_lease
    refine box' (l := ints [a0, a1, a2] ++ ([.slice A l2.length c] ++ (ints [b0, b1, b2] ++ [.bool st]))) rfl ?_
    intro b w1 hb1 hB hF1 hs1
    refine fad (ldC_bk hB rfl ?_)
    refine fad (ldC_bk hB rfl ?_)
    refine fad (ldC_bk hB rfl ?_)
    refine put_lit (l := [a0, a1, a2]) hI1 (row_nil w1) (by simp) rfl rfl (by omega) ?_
    intro v2 w2 hN2
    rw [List.nil_append] at hN2
    have hB2 := hB.fr hN2.fr (by simp)
    have hF2 := hF1.t hN2.fr
    refine fad (ldC_bk hB2 rfl ?_)
    obtain ⟨_, hI2, hsrc⟩ := ints_src (p := w.heap.size) (v := .slice none 0 0) (sInts.fr h2 hF2 (fun i _ => by simp)) (fun i hi => ⟨by have := hlt i (by simp [hi]); omega, by simp [fp_nil]⟩)
    refine (numbers_c hI2 hsrc.1 (fun h0 i hi => (hsrc.2 h0 i hi).1) (by omega)).use ?_
    intro v3 w3 hN3
    refine row_append (hN2.fresh hN3.fr) hN3.own.sl (by omega) ?_
    intro v4 w4 hN4 _ _
    have hB4 := hB.fr hN4.fr (by simp)
    refine fad (ldC_bk hB4 rfl ?_)
    refine fad (ldC_bk hB4 rfl ?_)
    refine fad (ldC_bk hB4 rfl ?_)
    refine put_lit (l := [b0, b1, b2]) hI3 hN4 (by simp only [List.length_append, List.length_cons, List.length_nil]; omega) rfl rfl (by omega) ?_
    intro v5 w5 hN5
    have hB5 := hB.fr hN5.fr (by simp)
    refine fad (ldC_bk hB5 rfl ?_)
    have fin : ∀ q : Nat, layN q = [q] → layN q = layN (if st then 1 else 0) → Do Try.prog (Instr.buildSlice 37 1 #[(0, (.int .u8 (q : Int)))]) w5 fun t29_31 w_32 =>
        Do Try.prog (Builtin.append_ #[37, 37] 37 #[v5, t29_31]) w_32 fun t30_33 w_34 => Row w w_34 t30_33 (wholes [a0, a1, a2] ++ (listN l2 ++ (wholes [b0, b1, b2] ++ layN (if st then 1 else 0)))) := by
      intro q hq hq2
      refine append1 hN5 Try.underlying37 infoB rfl rfl rfl (by simp only [List.length_append]; omega) (by simp only [List.length_append]; omega) ?_
      intro v6 w6 hN6
      have e1 : bytes (wholes [a0, a1, a2] ++ listN l2 ++ wholes [b0, b1, b2]) ++ [.int .u8 (q : Int)] = bytes (wholes [a0, a1, a2] ++ (listN l2 ++ (wholes [b0, b1, b2] ++ layN (if st then 1 else 0)))) := by
        rw [← hq2, hq]; simp [bytes]
      have e2 : (wholes [a0, a1, a2] ++ listN l2 ++ wholes [b0, b1, b2]).length + 1 = (wholes [a0, a1, a2] ++ (listN l2 ++ (wholes [b0, b1, b2] ++ layN (if st then 1 else 0)))).length := by
        rw [← hq2, hq]; simp only [List.length_append, List.length_singleton]; omega
      rw [e1, e2] at hN6
      exact New.base hF1 hN6
    cases st with
    | true => exact if_t rfl (fin 1 rfl rfl)
    | false => exact if_f rfl (fin 0 rfl rfl)

theorem short_c {w : World} {x : Value} {l : List DLease} {F : List Nat} (hr : (sLease.list (by decide)).rd w [x] l F) (hl9 : l.length ≤ 100000000000) :
    CallF Try.prog 64 #[x] w fun r w' => r = .bool (!longL longX l) ∧ Fr [] w w' := by
  obtain ⟨cells, G, hsl, hrows, hsub⟩ := list_open hr
  refine C_furlongref10_short_link ?_
  unfold C_furlongref10_short
  refine hsl.lenV ?_
  refine ⟨fun m t i w' => ∃ j : Nat, j + m = l.length ∧ i = .int .i64 j ∧ (l.take j).any longX = false ∧ Fr [] w w', l.length, ⟨0, by omega, rfl, by simp, Fr.refl _ _⟩, ?_⟩
  rintro m t i w1 ⟨j, hj, rfl, hany, hF⟩
  refine lss (if_p (fun hlt => ?_) (fun hge => ?_))
  · have hjl : j < l.length := by omega
    refine elem_var (S := sLease) (T := 124) (n := 8) rfl (by kernel_rfl) (by kernel_rfl) ((sLease.list (by decide)).fr hr hF (fun i _ => by simp)) hjl ?_
    intro b w2 cs Gj _ hcl hB hrd _ hF2 _
    obtain ⟨c1, c2, F1, F2, rfl, rfl, h1, c3, c4, F3, F4, rfl, rfl, h2, c5, c6, F5, F6, rfl, rfl, h3, rfl, rfl⟩ := hrd
    obtain ⟨hl1, rfl, rfl, _⟩ := of_rep h1
    obtain ⟨A, c, rfl⟩ := list_one _ h2
    have hget : (ints (l[j]).1 ++ ([.slice A (l[j]).2.1.length c] ++ (c5 ++ [.bool (l[j]).2.2.2])))[0 + 3]? = some (.slice A (l[j]).2.1.length c) := by
      have hlen : (ints (l[j]).1).length = 3 := by rw [ints_length]; exact hl1
      rw [List.getElem?_append_right (by omega), hlen]
      rfl
    refine fad (ldC_bk hB hget (len (gtr (if_p (fun h => ?_) (fun h => ?_)))))
    · refine ⟨?_, hF.t hF2⟩
      have : l.any longX = true := List.any_eq_true.2 ⟨l[j], List.getElem_mem hjl, by simp only [longX, decide_eq_true_eq]; omega⟩
      simp [longL, this]
    · refine add64 (by omega) ⟨m - 1, by omega, j + 1, by omega, by congr 1, ?_, hF.t hF2⟩
      rw [List.take_succ_eq_append_getElem hjl, List.any_append, hany]
      have : longX l[j] = false := by simp only [longX, decide_eq_false_iff_not]; omega
      simp [this]
  · refine hsl.lenV (leq ⟨?_, hF⟩)
    rw [List.take_of_length_le (by omega)] at hany
    have e : (!longL longX l) = decide ((l.length : Int) ≤ 1024) := by
      unfold longL
      rw [hany, Bool.or_false]
      by_cases h : l.length ≤ 1024
      · rw [decide_eq_false (by omega), decide_eq_true (by omega)]; rfl
      · rw [decide_eq_true (by omega), decide_eq_false (by omega)]; rfl
    rw [e]

theorem leases_c {w : World} {x : Value} {l : List DLease} {F : List Nat} (hr : (sLease.list (by decide)).rd w [x] l F) (hb : 10 * (cLease.list.enc l).length ≤ 99999990000) :
    CallF Try.prog 66 #[x] w fun r w' => Row w w' r (cLease.list.enc l) := by
  obtain ⟨cells, G, hsl, hrows, hsub⟩ := list_open hr
  have henc : cLease.list.enc l = layN l.length ++ l.flatMap cLease.enc := rfl
  have n7 := enc_len_list cLease l pos_lease
  rw [henc] at hb ⊢
  rw [henc] at n7
  rw [List.length_append] at hb n7
  have h9 := (layN_length l.length).2
  refine C_furlongref10_leases_link ?_
  unfold C_furlongref10_leases
  refine hsl.lenV ((count_c (by omega) w).use ?_)
  intro v w1 hN1
  refine hsl.lenV ?_
  refine ⟨fun m b i w' => ∃ j : Nat, j + m = l.length ∧ i = .int .i64 j ∧ Row w w' b (layN l.length ++ (l.take j).flatMap cLease.enc), l.length, ⟨0, by omega, rfl, by simpa using hN1⟩, ?_⟩
  rintro m b i w2 ⟨j, hj, rfl, hN2⟩
  refine lss (if_p (fun hlt => ?_) (fun hge => ?_))
  · have hjl : j < l.length := by omega
    have e1 : (l.take (j + 1)).flatMap cLease.enc = (l.take j).flatMap cLease.enc ++ cLease.enc l[j] := by
      rw [List.take_succ_eq_append_getElem hjl, List.flatMap_append]; simp
    have hpart : ((l.take (j + 1)).flatMap cLease.enc).length ≤ (l.flatMap cLease.enc).length := by
      conv => rhs; rw [← List.take_append_drop (j + 1) l, List.flatMap_append, List.length_append]
      omega
    rw [e1, List.length_append] at hpart
    refine elem_var (S := sLease) (T := 124) (n := 8) rfl (by kernel_rfl) (by kernel_rfl) ((sLease.list (by decide)).fr hr hN2.fr (fun i _ => by simp)) hjl ?_
    intro b3 w3 cs Gj _ hcl hB hrd _ hF3 _
    refine ldA_bk hB (by omega) ?_
    have ec : (cs.drop 0).take 8 = cs := by rw [List.drop_zero]; exact List.take_of_length_le (by omega)
    rw [ec]
    refine (rlease_c hrd (by omega)).use ?_
    intro v4 w4 hN4
    refine row_append ((hN2.fresh hF3).fresh hN4.fr) hN4.own.sl (by rw [List.length_append]; omega) ?_
    intro v5 w5 hN5 _ _
    refine add64 (by omega) ⟨m - 1, by omega, j + 1, by omega, by congr 1, ?_⟩
    rw [e1, ← List.append_assoc]
    exact hN5
  · have e : l.take j = l := List.take_of_length_le (by omega)
    rw [e] at hN2
    exact hN2
theorem ranswer_c {w : World} {cs : List Value} {a : DAnswer} {F : List Nat} (hr : sAnswer.rd w cs a F) (hb : 10 * (cAnswer.enc a).length ≤ 99999990000) :
    CallF Try.prog 25 #[.agg cs.toArray] w fun r w' => Told w r w' (cAnswer.enc a) (if longA a then 3 else 0) := by
  have hlt := sAnswer.lt hr
  obtain ⟨c1, c2, F1, F2, rfl, rfl, h1, c3, c4, F3, F4, rfl, rfl, h3, h4⟩ := hr
  obtain ⟨l1, l2, l3⟩ := a
  obtain ⟨hl1, rfl, rfl, hI1⟩ := of_rep h1
  obtain ⟨A, c, rfl⟩ := list_one _ h3
  obtain ⟨A', c', rfl⟩ := list_one _ h4
  simp only at hl1 hI1 h3 h4
  match l1, hl1 with
  | [a0, a1, a2], _ =>
    have henc : cAnswer.enc ([a0, a1, a2], l2, l3) = wholes [a0, a1, a2] ++ (listN l2 ++ cLease.list.enc l3) := rfl
    rw [henc] at hb ⊢
    simp only [List.length_append] at hb
    have n1 := wholes_le [a0, a1, a2] 3 (by simp)
    have n2 := listN_length l2
    have n4 := len_wholes l2
    have n6 : l2.length ≤ (listN l2).length := by simp only [listN, List.length_append]; omega
    have n7 := enc_len_list cLease l3 pos_lease
    refine C_furlongref10_Answer_link ?_
    unfold C_furlongref10_Answer
    refine box' (l := ints [a0, a1, a2] ++ ([.slice A l2.length c] ++ [.slice A' l3.length c'])) rfl ?_
    intro b w1 hb1 hB hF1 hs1
    have bad : ∀ er : Int, er = 3 → ∀ w', Fr [] w w' → (longA ([a0, a1, a2], l2, l3)) = true → Told w (.tuple #[.slice none 0 0, .int .i64 er]) w' (wholes [a0, a1, a2] ++ (listN l2 ++ cLease.list.enc l3)) (if longA ([a0, a1, a2], l2, l3) then 3 else 0) := by
      intro er he w' hF hlong
      subst he
      rw [hlong]
      exact ⟨.slice none 0 0, rfl, hF, fun i hi => by simp [fp_nil] at hi, by rw [if_neg (by decide), if_neg (by decide)]; exact Own.nil _ _ _⟩
    have hlong : longA ([a0, a1, a2], l2, l3) = (decide (1024 < l2.length) || longL longX l3) := rfl
    refine fad (ldC_bk hB rfl (len (gtr ?_)))
    by_cases h : 1024 < l2.length
    · have hg : isB (.bool (decide ((1024 : Int) < (l2.length : Int)))) false = false := by simp [isB]; omega
      refine gdF hg (gdF hg (gF hg (gdF hg (pick_t (by simp; omega) (if_t rfl (bad 3 rfl w1 hF1 (by rw [hlong]; simp [h])))))))
    · have hg : isB (.bool (decide ((1024 : Int) < (l2.length : Int)))) false = true := by simp [isB]; omega
      refine gdT hg (fad rfl) (gdT hg (ldC_bk hB rfl rfl) (gT hg ?_))
      refine (short_c ((sLease.list (by decide)).fr h4 hF1 (fun i _ => by simp)) (by omega)).use ?_
      rintro _ w2 ⟨rfl, hF2⟩
      have hF12 := hF1.t hF2
      have hB2 := hB.fr hF2 (by simp)
      refine gdT hg (notB rfl) (pick_f (by simp; omega) ?_)
      refine if_b (fun hq => ?_) (fun hq => ?_)
      · exact bad 3 rfl w2 hF12 (by rw [hlong]; simp at hq; simp [hq])
      have hq' : longL longX l3 = false := by simpa using hq
      have hlf : longA ([a0, a1, a2], l2, l3) = false := by rw [hlong, hq']; simp; omega
      refine fad (ldC_bk hB2 rfl ?_)
      refine fad (ldC_bk hB2 rfl ?_)
      refine fad (ldC_bk hB2 rfl ?_)
      refine put_lit (l := [a0, a1, a2]) hI1 (row_nil w2) (by simp) rfl rfl (by omega) ?_
      intro v3 w3 hN3
      rw [List.nil_append] at hN3
      have hB3 := hB2.fr hN3.fr (by simp)
      have hF3' := hF12.t hN3.fr
      refine fad (ldC_bk hB3 rfl ?_)
      obtain ⟨_, hI2, hsrc⟩ := ints_src (p := w.heap.size) (v := .slice none 0 0) (sInts.fr h3 hF3' (fun i _ => by simp)) (fun i hi => ⟨by have := hlt i (by simp [hi]); omega, by simp [fp_nil]⟩)
      refine (numbers_c hI2 hsrc.1 (fun h0 i hi => (hsrc.2 h0 i hi).1) (by omega)).use ?_
      intro v4 w4 hN4
      refine row_append (hN3.fresh hN4.fr) hN4.own.sl (by omega) ?_
      intro v5 w5 hN5 _ _
      have hB5 := hB2.fr hN5.fr (by simp)
      refine fad (ldC_bk hB5 rfl ?_)
      refine (leases_c ((sLease.list (by decide)).fr h4 (hF12.t hN5.fr) (fun i _ => by simp)) (by omega)).use ?_
      intro v6 w6 hN6
      refine row_append (hN5.fresh hN6.fr) hN6.own.sl (by rw [List.length_append]; omega) ?_
      intro v7 w7 hN7 _ _
      rw [List.append_assoc] at hN7
      rw [hlf]
      refine ⟨v7, rfl, hF12.t hN7.fr, fun i hi => by have := hN7.new i hi; have := hF12.size; omega, ?_⟩
      exact hN7.own

theorem answers_c {w : World} {cs : List Value} {a : DAnswer} {F : List Nat} (hr : sAnswer.rd w cs a F) (hb : 10 * (cAnswer.enc a).length ≤ 99999990000) :
    CallF Try.prog 7 #[.agg cs.toArray] w fun r w' => r = .bool true ∧ Fr [] w w' := by
  refine C_furlonglaw10_CommandAnswers_link ?_
  unfold C_furlonglaw10_CommandAnswers
  have hcl : cs.length = 5 := sAnswer.len hr
  refine box' (l := cs) (by simp [Value.cells]) ?_
  intro b1 w1 hb1 hB1 hF1 hs1
  refine (awake_c w1).use ?_
  rintro _ w2 ⟨rfl, hF2⟩
  have hF12 := hF1.t hF2
  have hB2 := hB1.fr hF2 (by simp)
  have ec : (cs.drop 0).take 5 = cs := by rw [List.drop_zero]; exact List.take_of_length_le (by omega)
  refine notB (if_f rfl ?_)
  refine ldA_bk hB2 (by omega) ?_
  rw [ec]
  refine (encodeAnswer_c (sAnswer.fr hr hF12 (fun i _ => by simp)) hb).use ?_
  rintro _ w3 ⟨v3, rfl, hF3, hn3, ho3⟩
  refine ext0 (ext1 ?_)
  refine ldA_bk (hB2.fr hF3 (by simp)) (by omega) ?_
  rw [ec]
  refine (ranswer_c (sAnswer.fr hr (hF12.t hF3) (fun i _ => by simp)) hb).use ?_
  rintro _ w4 ⟨v4, rfl, hF4, hn4, ho4⟩
  refine ext0 (ext1 ?_)
  have ho34 := ho3.fr hF4 (fun i _ => by simp)
  generalize (if longA a = true then (3 : Int) else 0) = er at *
  have hbs : ∀ b ∈ (if er = 0 then cAnswer.enc a else []), b < 256 := by
    split
    · exact cAnswer.bytes a
    · simp
  have hsz : (if er = 0 then (cAnswer.enc a).length else 0) = (if er = 0 then cAnswer.enc a else []).length := by split <;> rfl
  rw [hsz] at ho34 ho4
  refine (bytes_c ho34.sl hbs ho4.sl hbs).use ?_
  rintro _ w5 ⟨rfl, rfl⟩
  rw [decide_eq_true rfl]
  refine gdT rfl rfl (gdT rfl rfl (gdT rfl (eql rfl) (pick_t rfl ⟨?_, (hF12.t hF3).t hF4⟩)))
  rw [decide_eq_true rfl]
end Go.Proofs.Ytachignmofpngaa
