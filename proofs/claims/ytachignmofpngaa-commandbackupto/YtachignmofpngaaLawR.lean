/- The contract of CommandReads. -/
import Derived.Test.YtachignmofpngaaRefRA
import Derived.Test.YtachignmofpngaaLawA
set_option linter.unusedVariables false
set_option linter.unusedSimpArgs false
set_option maxRecDepth 20000
set_option synthInstance.maxSize 100000
set_option synthInstance.maxHeartbeats 400000
namespace Go.Proofs.Ytachignmofpngaa
open Go Go.Vc

theorem sameAnswer_c {w : World} {cs cs' : List Value} {a a' : DAnswer} {F F' : List Nat} (hr : sAnswer.rd w cs a F) (hr' : sAnswer.rd w cs' a' F') (hb : a.2.1.length ≤ 1000000000000) (hbL : ∀ x ∈ a.2.2, x.2.1.length ≤ 1000000000000) (hl : a.2.2.length ≤ 1000000000000) :
    CallF Try.prog 20 #[.agg cs.toArray, .agg cs'.toArray] w fun r w' => r = .bool (decide (a = a')) ∧ Fr [] w w' := by
  obtain ⟨c1, c2, F1, F2, rfl, rfl, h1, c3, c4, F3, F4, rfl, rfl, h2, h3⟩ := hr
  obtain ⟨d1, d2, G1, G2, rfl, rfl, k1, d3, d4, G3, G4, rfl, rfl, k2, k3⟩ := hr'
  obtain ⟨l1, l2, l3⟩ := a
  obtain ⟨m1, m2, m3⟩ := a'
  obtain ⟨hl1, rfl, rfl, hI1⟩ := of_rep h1
  obtain ⟨hm1, rfl, rfl, hJ1⟩ := of_rep k1
  obtain ⟨A, c, rfl⟩ := list_one _ h2
  obtain ⟨A', c', rfl⟩ := list_one _ k2
  obtain ⟨B, d, rfl⟩ := list_one _ h3
  obtain ⟨B', d', rfl⟩ := list_one _ k3
  simp only at *
  obtain ⟨cx, Gx, hx, hrx, _⟩ := list_open h2
  obtain ⟨cy, Gy, hy, hry, _⟩ := list_open k2
  obtain ⟨rfl, rfl, _⟩ := rows_ints.1 hrx
  obtain ⟨rfl, rfl, _⟩ := rows_ints.1 hry
  obtain ⟨a0, a1, a2, rfl⟩ := len3 hl1
  obtain ⟨b0, b1, b2, rfl⟩ := len3 hm1
  refine C_furlongref10_SameAnswer_link ?_
  unfold C_furlongref10_SameAnswer
  refine box' rfl ?_
  intro p1 w1 hb1 hB1 hF1 hs1
  refine box' rfl ?_
  intro p2 w2 hb2 hB2 hF2 hs2
  have hB1' := hB1.fr hF2 (by simp)
  refine fad (ldC_bk hB1' rfl (fad (ldC_bk hB2 rfl (eql ?_))))
  refine and_int hB1' rfl hB2 rfl ?_
  refine and_int hB1' rfl hB2 rfl ?_
  have hF : Fr [] w w2 := hF1.t hF2
  generalize hq : (decide (a0 = b0) && decide (a1 = b1) && decide (a2 = b2)) = q
  have e : decide (([a0, a1, a2], l2, l3) = ([b0, b1, b2], m2, m3)) = (q && decide (l2 = m2) && decide (l3 = m3)) := by
    rw [← hq, Bool.eq_iff_iff]
    simp only [Prod.mk.injEq, List.cons.injEq, Bool.and_eq_true, decide_eq_true_eq]
    constructor
    · rintro ⟨⟨h1, h2, h3, _⟩, h4, h5⟩; exact ⟨⟨⟨⟨h1, h2⟩, h3⟩, h4⟩, h5⟩
    · rintro ⟨⟨⟨⟨h1, h2⟩, h3⟩, h4⟩, h5⟩; exact ⟨⟨h1, h2, h3, trivial⟩, h4, h5⟩
  rw [e]
  cases q with
  | true =>
    refine gdT rfl (fad rfl) (gdT rfl (ldC_bk hB1' rfl rfl) (gdT rfl (fad rfl) (gdT rfl (ldC_bk hB2 rfl rfl) (gT rfl ((ints_c (hx.fr1 hF (fun _ i _ => by simp)) (hy.fr1 hF (fun _ i _ => by simp)) hb).use ?_)))))
    rintro _ w3 ⟨rfl, hF3⟩
    refine pick_t rfl ?_
    have hF3' := hF.t hF3
    by_cases h : l2 = m2
    · rw [decide_eq_true h]
      refine gdT rfl (fad rfl) (gdT rfl (ldC_bk (hB1'.fr hF3 (by simp)) rfl rfl) (gdT rfl (fad rfl) (gdT rfl (ldC_bk (hB2.fr hF3 (by simp)) rfl rfl) (gT rfl ((sameLeases_c ((sLease.list (by decide)).fr h3 hF3' (fun i _ => by simp)) ((sLease.list (by decide)).fr k3 hF3' (fun i _ => by simp)) hbL hl).use ?_)))))
      rintro _ w4 ⟨rfl, hF4⟩
      exact pick_t rfl ⟨by simp, hF3'.t hF4⟩
    · rw [decide_eq_false h]
      exact gdF rfl (gdF rfl (gdF rfl (gdF rfl (gF rfl (pick_f rfl ⟨by simp, hF3'⟩)))))
  | false =>
    refine gdF rfl (gdF rfl (gdF rfl (gdF rfl (gF rfl (pick_f rfl ?_)))))
    exact gdF rfl (gdF rfl (gdF rfl (gdF rfl (gF rfl (pick_f rfl ⟨by simp, hF⟩)))))

/-! ### How long the lists of a thing are -/
def lenE (a : DEntry) (n : Nat) : Prop := a.2.2.2.2.2.2.1.length ≤ n
def lenA (a : DAnswer) (n : Nat) : Prop := a.2.1.length ≤ n ∧ (∀ x ∈ a.2.2, x.2.1.length ≤ n) ∧ a.2.2.length ≤ n
def lenS (a : DState) (n : Nat) : Prop := (∀ x ∈ a.2.2.2.1, x.2.1.length ≤ n) ∧ (∀ x ∈ a.2.2.2.2.1, x.2.1.length ≤ n) ∧ (a.2.1.length ≤ n ∧ a.2.2.1.length ≤ n ∧ a.2.2.2.1.length ≤ n ∧ a.2.2.2.2.1.length ≤ n ∧ a.2.2.2.2.2.length ≤ n)
theorem okE {a : DEntry} (h : cEntry.ok a) : lenE a 1024 := h.2.2.2.2.2.2.1.1
theorem okA {a : DAnswer} (h : cAnswer.ok a) : lenA a 1024 := ⟨h.2.1.1, fun x hx => (h.2.2.2 x hx).2.1.1, h.2.2.1⟩
theorem okS {a : DState} (h : cState.ok a) : lenS a 1024 := ⟨fun x hx => (h.2.2.2.1.2 x hx).2.1.1, fun x hx => (h.2.2.2.2.1.2 x hx).2.1.1, h.2.1.1, h.2.2.1.1, h.2.2.2.1.1, h.2.2.2.2.1.1, h.2.2.2.2.2.1⟩
theorem decW_or {α : Type} (C : Codec α) (none : α) (bs : List Nat) (hb : ∀ b ∈ bs, b < 256) : (decW C none bs).1 = none ∨ (decW C none bs).2.2 = 0 ∧ C.ok (decW C none bs).1 := by
  by_cases h : (decW C none bs).2.2 = 0
  · exact .inr ⟨h, (decW_forth C none bs hb h).1⟩
  · left
    unfold decW at h ⊢
    split
    · rfl
    · rename_i h1
      rw [if_neg h1] at h
      split
      · rfl
      · rename_i h2
        rw [if_neg h2] at h
        simp at h
theorem len_decE {bs : List Nat} (hb : ∀ b ∈ bs, b < 256) : lenE (decW cEntry noEntry bs).1 1024 := by
  rcases decW_or cEntry noEntry bs hb with h | h
  · rw [h]; simp [lenE, noEntry]
  · exact okE h.2
theorem len_decA {bs : List Nat} (hb : ∀ b ∈ bs, b < 256) : lenA (decW cAnswer noAnswer bs).1 1024 := by
  rcases decW_or cAnswer noAnswer bs hb with h | h
  · rw [h]; simp [lenA, noAnswer]
  · exact okA h.2
theorem len_decS {bs : List Nat} (hb : ∀ b ∈ bs, b < 256) : lenS (decW cState noState bs).1 1024 := by
  rcases decW_or cState noState bs hb with h | h
  · rw [h]; simp [lenS, noState]
  · exact okS h.2

theorem sameE {w : World} {cs cs' : List Value} {a a' : DEntry} {F F' : List Nat} {n : Nat} (hr : sEntry.rd w cs a F) (hr' : sEntry.rd w cs' a' F') (hn : lenE a n) (hn2 : n ≤ 100000000000) :
    CallF Try.prog 15 #[.agg cs.toArray, .agg cs'.toArray] w fun r w' => r = .bool (decide (a = a')) ∧ Fr [] w w' := by
  obtain ⟨e, tv, rfl, rfl, _, hsl, _, _⟩ := of_entry_rd hr
  obtain ⟨e', tv', rfl, rfl, _, hsl', _, _⟩ := of_entry_rd hr'
  have hn' : e.task.tickets.length ≤ n := hn
  exact sameEntry_c hsl hsl' (by omega)
theorem sameA {w : World} {cs cs' : List Value} {a a' : DAnswer} {F F' : List Nat} {n : Nat} (hr : sAnswer.rd w cs a F) (hr' : sAnswer.rd w cs' a' F') (hn : lenA a n) (hn2 : n ≤ 100000000000) :
    CallF Try.prog 20 #[.agg cs.toArray, .agg cs'.toArray] w fun r w' => r = .bool (decide (a = a')) ∧ Fr [] w w' :=
  sameAnswer_c hr hr' (by have := hn.1; omega) (fun x hx => by have := hn.2.1 x hx; omega) (by have := hn.2.2; omega)
theorem sameS {w : World} {cs cs' : List Value} {a a' : DState} {F F' : List Nat} {n : Nat} (hr : sState.rd w cs a F) (hr' : sState.rd w cs' a' F') (hn : lenS a n) (hn2 : n ≤ 100000000000) :
    CallF Try.prog 23 #[.agg cs.toArray, .agg cs'.toArray] w fun r w' => r = .bool (decide (a = a')) ∧ Fr [] w w' := by
  obtain ⟨h1, h2, h3, h4, h5, h6, h7⟩ := hn
  exact sameState_c hr hr' (fun x hx => by have := h1 x hx; omega) (fun x hx => by have := h2 x hx; omega) ⟨by omega, by omega, by omega, by omega, by omega⟩
theorem Bs.fr {w w' : World} {v : Value} {bs : List Nat} (h : Bs w v bs) (f : Fr [] w w') : Bs w' v bs := ⟨h.sl.fr f (fun i _ => by simp), h.cap, h.byte, h.big⟩

/-- A thing is decoded twice. -/
theorem pairEntry_c {w : World} {v : Value} {bs : List Nat} {k : Value → Value → Value → Value → Value → World → Prop} (h : Bs w v bs) (hk : ∀ at' er w', Fr [] w w' → k (.int .i64 at') (.int .i64 er) (.int .i64 at') (.int .i64 er) (.bool true) w') :
    CallF Try.prog 16 #[v] w fun t17 w5 => Ext t17 0 fun t18 => Ext t17 1 fun t19 => Ext t17 2 fun t20 =>
    Do Try.prog (Instr.alloc 34 true (.tuple #[])) w5 fun e w10 => DoU Try.prog (Instr.storeAt 34 e t18) w10 fun _ w12 =>
    CallF Try.prog 17 #[v] w12 fun t23 w14 => Ext t23 0 fun t24 => Ext t23 1 fun t25 => Ext t23 2 fun t26 =>
    Do Try.prog (Instr.alloc 34 true (.tuple #[])) w14 fun d w19 => DoU Try.prog (Instr.storeAt 34 d t24) w19 fun _ w21 =>
    LdA (At w21) 27 e fun t27 => LdA (At w21) 27 d fun t28 => CallF Try.prog 15 #[t27, t28] w21 fun t29 w25 => k t19 t20 t25 t26 t29 w25 := by
  refine (decodeEntry_c h).use ?_
  rintro _ w1 ⟨cs, F, rfl, hr, hF, hF1⟩
  refine ext0 (ext1 (ext2 ?_))
  have hcl : cs.length = 27 := sEntry.len hr
  refine alloc_n (n := 27) (by kernel_rfl) ?_
  intro b w2 z hz hb hB hF2 hs2
  refine store_all hB (by kernel_rfl) hz hcl (by omega) (sEntry.one hr) ?_
  intro w3 hB3 hF3 hs3
  have hF13 : Fr [] w1 w3 := hF2.trans hF3 (fun i hi => .inr (by simp at hi; omega))
  have hF03 := hF1.t hF13
  refine (docEntry_c (h.fr hF03)).use ?_
  rintro _ w4 ⟨cs', F', rfl, hr', hF', hF4⟩
  refine ext0 (ext1 (ext2 ?_))
  have hcl' : cs'.length = 27 := sEntry.len hr'
  refine alloc_n (n := 27) (by kernel_rfl) ?_
  intro b' w5 z' hz' hb' hB' hF5 hs5
  refine store_all hB' (by kernel_rfl) hz' hcl' (by omega) (sEntry.one hr') ?_
  intro w6 hB6 hF6 hs6
  have hF46 : Fr [] w4 w6 := hF5.trans hF6 (fun i hi => .inr (by simp at hi; omega))
  have hF36 := hF4.t hF46
  refine ldA_bk (hB3.fr hF36 (by simp)) (by omega) (ldA_bk hB6 (by omega) ?_)
  have ec : (cs.drop 0).take 27 = cs := by rw [List.drop_zero]; exact List.take_of_length_le (by omega)
  have ec' : (cs'.drop 0).take 27 = cs' := by rw [List.drop_zero]; exact List.take_of_length_le (by omega)
  rw [ec, ec']
  refine (sameE (sEntry.fr hr (hF13.t hF36) (fun i _ => by simp)) (sEntry.fr hr' hF46 (fun i _ => by simp)) (len_decE h.byte) (by omega)).use ?_
  rintro _ w7 ⟨rfl, hF7⟩
  rw [decide_eq_true rfl]
  exact hk _ _ w7 ((hF03.t hF36).t hF7)
/-- A thing is decoded twice. -/
theorem pairAnswer_c {w : World} {v : Value} {bs : List Nat} {k : Value → Value → Value → Value → Value → World → Prop} (h : Bs w v bs) (hk : ∀ at' er w', Fr [] w w' → k (.int .i64 at') (.int .i64 er) (.int .i64 at') (.int .i64 er) (.bool true) w') :
    CallF Try.prog 18 #[v] w fun t17 w5 => Ext t17 0 fun t18 => Ext t17 1 fun t19 => Ext t17 2 fun t20 =>
    Do Try.prog (Instr.alloc 49 true (.tuple #[])) w5 fun e w10 => DoU Try.prog (Instr.storeAt 49 e t18) w10 fun _ w12 =>
    CallF Try.prog 19 #[v] w12 fun t23 w14 => Ext t23 0 fun t24 => Ext t23 1 fun t25 => Ext t23 2 fun t26 =>
    Do Try.prog (Instr.alloc 49 true (.tuple #[])) w14 fun d w19 => DoU Try.prog (Instr.storeAt 49 d t24) w19 fun _ w21 =>
    LdA (At w21) 5 e fun t27 => LdA (At w21) 5 d fun t28 => CallF Try.prog 20 #[t27, t28] w21 fun t29 w25 => k t19 t20 t25 t26 t29 w25 := by
  refine (decodeAnswer_c h).use ?_
  rintro _ w1 ⟨cs, F, rfl, hr, hF, hF1⟩
  refine ext0 (ext1 (ext2 ?_))
  have hcl : cs.length = 5 := sAnswer.len hr
  refine alloc_n (n := 5) (by kernel_rfl) ?_
  intro b w2 z hz hb hB hF2 hs2
  refine store_all hB (by kernel_rfl) hz hcl (by omega) (sAnswer.one hr) ?_
  intro w3 hB3 hF3 hs3
  have hF13 : Fr [] w1 w3 := hF2.trans hF3 (fun i hi => .inr (by simp at hi; omega))
  have hF03 := hF1.t hF13
  refine (docAnswer_c (h.fr hF03)).use ?_
  rintro _ w4 ⟨cs', F', rfl, hr', hF', hF4⟩
  refine ext0 (ext1 (ext2 ?_))
  have hcl' : cs'.length = 5 := sAnswer.len hr'
  refine alloc_n (n := 5) (by kernel_rfl) ?_
  intro b' w5 z' hz' hb' hB' hF5 hs5
  refine store_all hB' (by kernel_rfl) hz' hcl' (by omega) (sAnswer.one hr') ?_
  intro w6 hB6 hF6 hs6
  have hF46 : Fr [] w4 w6 := hF5.trans hF6 (fun i hi => .inr (by simp at hi; omega))
  have hF36 := hF4.t hF46
  refine ldA_bk (hB3.fr hF36 (by simp)) (by omega) (ldA_bk hB6 (by omega) ?_)
  have ec : (cs.drop 0).take 5 = cs := by rw [List.drop_zero]; exact List.take_of_length_le (by omega)
  have ec' : (cs'.drop 0).take 5 = cs' := by rw [List.drop_zero]; exact List.take_of_length_le (by omega)
  rw [ec, ec']
  refine (sameA (sAnswer.fr hr (hF13.t hF36) (fun i _ => by simp)) (sAnswer.fr hr' hF46 (fun i _ => by simp)) (len_decA h.byte) (by omega)).use ?_
  rintro _ w7 ⟨rfl, hF7⟩
  rw [decide_eq_true rfl]
  exact hk _ _ w7 ((hF03.t hF36).t hF7)
/-- A thing is decoded twice. -/
theorem pairState_c {w : World} {v : Value} {bs : List Nat} {k : Value → Value → Value → Value → Value → World → Prop} (h : Bs w v bs) (hk : ∀ at' er w', Fr [] w w' → k (.int .i64 at') (.int .i64 er) (.int .i64 at') (.int .i64 er) (.bool true) w') :
    CallF Try.prog 21 #[v] w fun t17 w5 => Ext t17 0 fun t18 => Ext t17 1 fun t19 => Ext t17 2 fun t20 =>
    Do Try.prog (Instr.alloc 58 true (.tuple #[])) w5 fun e w10 => DoU Try.prog (Instr.storeAt 58 e t18) w10 fun _ w12 =>
    CallF Try.prog 22 #[v] w12 fun t23 w14 => Ext t23 0 fun t24 => Ext t23 1 fun t25 => Ext t23 2 fun t26 =>
    Do Try.prog (Instr.alloc 58 true (.tuple #[])) w14 fun d w19 => DoU Try.prog (Instr.storeAt 58 d t24) w19 fun _ w21 =>
    LdA (At w21) 8 e fun t27 => LdA (At w21) 8 d fun t28 => CallF Try.prog 23 #[t27, t28] w21 fun t29 w25 => k t19 t20 t25 t26 t29 w25 := by
  refine (decodeState_c h).use ?_
  rintro _ w1 ⟨cs, F, rfl, hr, hF, hF1⟩
  refine ext0 (ext1 (ext2 ?_))
  have hcl : cs.length = 8 := sState.len hr
  refine alloc_n (n := 8) (by kernel_rfl) ?_
  intro b w2 z hz hb hB hF2 hs2
  refine store_all hB (by kernel_rfl) hz hcl (by omega) (sState.one hr) ?_
  intro w3 hB3 hF3 hs3
  have hF13 : Fr [] w1 w3 := hF2.trans hF3 (fun i hi => .inr (by simp at hi; omega))
  have hF03 := hF1.t hF13
  refine (docState_c (h.fr hF03)).use ?_
  rintro _ w4 ⟨cs', F', rfl, hr', hF', hF4⟩
  refine ext0 (ext1 (ext2 ?_))
  have hcl' : cs'.length = 8 := sState.len hr'
  refine alloc_n (n := 8) (by kernel_rfl) ?_
  intro b' w5 z' hz' hb' hB' hF5 hs5
  refine store_all hB' (by kernel_rfl) hz' hcl' (by omega) (sState.one hr') ?_
  intro w6 hB6 hF6 hs6
  have hF46 : Fr [] w4 w6 := hF5.trans hF6 (fun i hi => .inr (by simp at hi; omega))
  have hF36 := hF4.t hF46
  refine ldA_bk (hB3.fr hF36 (by simp)) (by omega) (ldA_bk hB6 (by omega) ?_)
  have ec : (cs.drop 0).take 8 = cs := by rw [List.drop_zero]; exact List.take_of_length_le (by omega)
  have ec' : (cs'.drop 0).take 8 = cs' := by rw [List.drop_zero]; exact List.take_of_length_le (by omega)
  rw [ec, ec']
  refine (sameS (sState.fr hr (hF13.t hF36) (fun i _ => by simp)) (sState.fr hr' hF46 (fun i _ => by simp)) (len_decS h.byte) (by omega)).use ?_
  rintro _ w7 ⟨rfl, hF7⟩
  rw [decide_eq_true rfl]
  exact hk _ _ w7 ((hF03.t hF36).t hF7)
theorem reads_c {w : World} {v : Value} {bs : List Nat} (h : Bs w v bs) : CallF Try.prog 6 #[v] w fun r w' => r = .bool true ∧ Fr [] w w' := by
  refine C_furlonglaw10_CommandReads_link ?_
  unfold C_furlonglaw10_CommandReads
  refine (awake_c w).use ?_
  rintro _ w1 ⟨rfl, hF1⟩
  refine notB (if_f rfl ?_)
  refine pairEntry_c (h.fr hF1) ?_
  intro a1 e1 w2 hF2
  refine notB (gdT rfl rfl (gdT rfl rfl (gdT rfl (neq rfl) (pick_f rfl ?_))))
  have d1 : decide (a1 ≠ a1) = false := by simp
  have d2 : decide (e1 ≠ e1) = false := by simp
  rw [d1]
  refine gdT rfl rfl (gdT rfl rfl (gdT rfl (neq rfl) (pick_f rfl ?_)))
  rw [d2]
  refine if_f rfl ?_
  have hF12 := hF1.t hF2
  refine pairAnswer_c (h.fr hF12) ?_
  intro a2 e2 w3 hF3
  refine notB (gdT rfl rfl (gdT rfl rfl (gdT rfl (neq rfl) (pick_f rfl ?_))))
  have d3 : decide (a2 ≠ a2) = false := by simp
  have d4 : decide (e2 ≠ e2) = false := by simp
  rw [d3]
  refine gdT rfl rfl (gdT rfl rfl (gdT rfl (neq rfl) (pick_f rfl ?_)))
  rw [d4]
  refine if_f rfl ?_
  have hF13 := hF12.t hF3
  refine pairState_c (h.fr hF13) ?_
  intro a3 e3 w4 hF4
  refine gdT rfl rfl (gdT rfl rfl (gdT rfl (eql rfl) (pick_t rfl ?_)))
  rw [decide_eq_true rfl]
  refine gdT rfl rfl (gdT rfl rfl (gdT rfl (eql rfl) (pick_t rfl ?_)))
  rw [decide_eq_true rfl]
  exact ⟨rfl, hF13.t hF4⟩
end Go.Proofs.Ytachignmofpngaa
