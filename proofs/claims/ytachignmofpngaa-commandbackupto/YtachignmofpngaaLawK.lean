/- The contract of CommandBack. -/
import Derived.Test.YtachignmofpngaaLawR
set_option linter.unusedVariables false
set_option linter.unusedSimpArgs false
set_option maxRecDepth 20000
set_option synthInstance.maxSize 100000
set_option synthInstance.maxHeartbeats 400000
namespace Go.Proofs.Ytachignmofpngaa
open Go Go.Vc

/-! ### What can be written -/
theorem rep_ok {n : Nat} {w : World} {cs : List Value} {a : List Int} {F : List Nat} (h : (sInt.rep n).rd w cs a F) : (cInt.rep n).ok a := by
  obtain ⟨h1, _, _, h2⟩ := of_rep h
  exact ⟨h1, h2⟩
theorem ints_ok {w : World} {cs : List Value} {l : List Int} {F : List Nat} (h : sInts.rd w cs l F) (hl : l.length ≤ 1024) : cInts.ok l := by
  obtain ⟨_, _, _, _, _, _, hrows, _⟩ := h
  exact ⟨hl, (rows_ints.1 hrows).2.2⟩
theorem int_ok {w : World} {cs : List Value} {a : Int} {F : List Nat} (h : sInt.rd w cs a F) : cInt.ok a := h.2.2
theorem task_ok {w : World} {cs : List Value} {a : DTask} {F : List Nat} (h : sTask.rd w cs a F) (hl : longT a = false) : cTask.ok a := by
  obtain ⟨c1, c2, F1, F2, rfl, rfl, h1, c3, c4, F3, F4, rfl, rfl, h2, h3⟩ := h
  exact ⟨rep_ok h1, ints_ok h2 (by simpa [longT] using hl), int_ok h3⟩
theorem lease_ok {w : World} {cs : List Value} {a : DLease} {F : List Nat} (h : sLease.rd w cs a F) (hl : longX a = false) : cLease.ok a := by
  obtain ⟨c1, c2, F1, F2, rfl, rfl, h1, c3, c4, F3, F4, rfl, rfl, h2, c5, c6, F5, F6, rfl, rfl, h3, h4⟩ := h
  exact ⟨rep_ok h1, ints_ok h2 (by simpa [longX] using hl), rep_ok h3, trivial⟩
theorem rows_ok {α : Type} {S : Shape α} {C : Codec α} {long : α → Bool} {w : World} (h1 : ∀ cs a F, S.rd w cs a F → long a = false → C.ok a) : ∀ {l : List α} {cs : List Value} {F : List Nat}, S.rows w l cs F → l.any long = false → ∀ a ∈ l, C.ok a
  | [], _, _, _, _, a, ha => by simp at ha
  | b :: l, _, _, ⟨c1, c2, F1, F2, _, _, k1, k2⟩, hl, a, ha => by
    rw [List.any_cons, Bool.or_eq_false_iff] at hl
    rcases List.mem_cons.1 ha with rfl | ha
    · exact h1 _ _ _ k1 hl.1
    · exact rows_ok h1 k2 hl.2 a ha
theorem list_ok {α : Type} {S : Shape α} {hs : 0 < S.size} {C : Codec α} {long : α → Bool} {w : World} (h1 : ∀ cs a F, S.rd w cs a F → long a = false → C.ok a) {l : List α} {cs : List Value} {F : List Nat} (h : (S.list hs).rd w cs l F) (hl : longL long l = false) : C.list.ok l := by
  obtain ⟨_, _, _, _, _, _, hrows, _⟩ := h
  rw [longL, Bool.or_eq_false_iff] at hl
  exact ⟨by simpa using hl.1, rows_ok h1 hrows hl.2⟩
theorem answer_ok {w : World} {cs : List Value} {a : DAnswer} {F : List Nat} (h : sAnswer.rd w cs a F) (hl : longA a = false) : cAnswer.ok a := by
  obtain ⟨c1, c2, F1, F2, rfl, rfl, h1, c3, c4, F3, F4, rfl, rfl, h2, h3⟩ := h
  rw [longA, Bool.or_eq_false_iff] at hl
  exact ⟨rep_ok h1, ints_ok h2 (by simpa using hl.1), list_ok (fun _ _ _ => lease_ok) h3 hl.2⟩
theorem state_ok {w : World} {cs : List Value} {a : DState} {F : List Nat} (h : sState.rd w cs a F) (hl : longS a = false) : cState.ok a := by
  obtain ⟨c1, c2, F1, F2, rfl, rfl, h1, c3, c4, F3, F4, rfl, rfl, h3, c5, c6, F5, F6, rfl, rfl, h5, c7, c8, F7, F8, rfl, rfl, h7, c9, c10, F9, F10, rfl, rfl, h9, h10⟩ := h
  simp only [longS, Bool.or_eq_false_iff] at hl
  obtain ⟨l1, l2, l3, l4, l5⟩ := hl
  exact ⟨rep_ok h1, list_ok (fun _ _ _ h _ => rep_ok h) h3 l1, list_ok (fun _ _ _ h _ => rep_ok h) h5 l2, list_ok (fun _ _ _ => task_ok) h7 l3, list_ok (fun _ _ _ => lease_ok) h9 l4, list_ok (fun _ _ _ h _ => rep_ok h) h10 l5⟩
theorem any_ok {α : Type} {C : Codec α} {long : α → Bool} (h : ∀ a, C.ok a → long a = false) {l : List α} (hl : C.list.ok l) : longL long l = false := by
  have h1 : l.length ≤ 1024 := hl.1
  rw [longL, Bool.or_eq_false_iff]
  refine ⟨by simpa using h1, ?_⟩
  rw [List.any_eq_false]
  intro x hx
  rw [h x (hl.2 x hx)]; simp
theorem long_lease {a : DLease} (h : cLease.ok a) : longX a = false := by
  have : a.2.1.length ≤ 1024 := h.2.1.1
  simpa [longX] using this
theorem long_task {a : DTask} (h : cTask.ok a) : longT a = false := by
  have : a.2.1.length ≤ 1024 := h.2.1.1
  simpa [longT] using this
theorem long_answer {a : DAnswer} (h : cAnswer.ok a) : longA a = false := by
  have h1 : a.2.1.length ≤ 1024 := h.2.1.1
  rw [longA, Bool.or_eq_false_iff]
  exact ⟨by simpa using h1, any_ok (fun _ => long_lease) h.2.2⟩
theorem long_state {a : DState} (h : cState.ok a) : longS a = false := by
  simp only [longS, Bool.or_eq_false_iff]
  exact ⟨any_ok (fun _ _ => rfl) h.2.1, any_ok (fun _ _ => rfl) h.2.2.1, any_ok (fun _ => long_task) h.2.2.2.1, any_ok (fun _ => long_lease) h.2.2.2.2.1, any_ok (fun _ _ => rfl) h.2.2.2.2.2⟩

/-! ### What a writer hands back -/
def Wrote {α : Type} (C : Codec α) (a : α) (w : World) (r : Value) (w' : World) : Prop :=
  ∃ v er, r = .tuple #[v, .int .i64 er] ∧ Fr [] w w' ∧ (er = 0 → C.ok a ∧ Own w' 5 1 v (C.enc a).length (bytes (C.enc a))) ∧ (C.ok a → er = 0)
theorem wroteE {w : World} {cs : List Value} {a : DEntry} {F : List Nat} (hr : sEntry.rd w cs a F) (hb : lenE a 1000000000) : CallF Try.prog 12 #[.agg cs.toArray] w (Wrote cEntry a w) := by
  have hlt := sEntry.lt hr
  obtain ⟨e, tv, rfl, rfl, hok, hsl, hcap, hfp⟩ := of_entry_rd hr
  refine (encodeEntry_c hok hsl (fun h0 i hi => hlt i (hfp h0 i hi)) hb).use ?_
  rintro _ w' ⟨v, rfl, hF, hn, ho⟩
  refine ⟨v, e.err, rfl, hF, fun h => ?_, fun h => ?_⟩
  · obtain ⟨h1, h2⟩ := ok_toD hok h
    rw [h, if_pos rfl, if_pos rfl] at ho
    rw [enc_toD hok h2]
    exact ⟨h1, ho⟩
  · have h1 : e.task.tickets.length ≤ 1024 := okE h
    have h2 : 0 ≤ e.kind := h.2.1.1
    unfold EntryD.err
    rw [if_neg (by omega), if_neg (by omega)]
theorem wroteA {w : World} {cs : List Value} {a : DAnswer} {F : List Nat} (hr : sAnswer.rd w cs a F) (hb : 10 * (cAnswer.enc a).length ≤ 99999990000) : CallF Try.prog 24 #[.agg cs.toArray] w (Wrote cAnswer a w) := by
  refine (encodeAnswer_c hr hb).use ?_
  rintro _ w' ⟨v, rfl, hF, hn, ho⟩
  refine ⟨v, _, rfl, hF, fun h => ?_, fun h => ?_⟩
  · rw [h, if_pos rfl, if_pos rfl] at ho
    refine ⟨answer_ok hr ?_, ho⟩
    cases hl : longA a with
    | false => rfl
    | true => rw [hl] at h; simp at h
  · rw [long_answer h]; rfl
theorem wroteS {w : World} {cs : List Value} {a : DState} {F : List Nat} (hr : sState.rd w cs a F) (hb : 10 * (cState.enc a).length ≤ 99999990000) : CallF Try.prog 27 #[.agg cs.toArray] w (Wrote cState a w) := by
  refine (encodeState_c hr hb).use ?_
  rintro _ w' ⟨v, rfl, hF, hn, ho⟩
  refine ⟨v, _, rfl, hF, fun h => ?_, fun h => ?_⟩
  · rw [h, if_pos rfl, if_pos rfl] at ho
    refine ⟨state_ok hr ?_, ho⟩
    cases hl : longS a with
    | false => rfl
    | true => rw [hl] at h; simp at h
  · rw [long_state h]; rfl

/-- What was written is read as it was. -/
theorem backEntry {w : World} {b : Nat} {cs : List Value} {a : DEntry} {F : List Nat} {u : Value} {X : World → Prop} {K' : Value → World → Prop} (hB : Bk w b 34 cs) (hr : sEntry.rd w cs a F) (hl : lenE a 1000000000) (hb : 10 * (cEntry.enc a).length ≤ 99999990000)
    (hK : ∀ v w', Fr [] w w' → K' v w') :
    LdA (At w) 27 (.pointer (some ⟨b, 0, none⟩)) fun t27 => CallF Try.prog 12 #[t27] w fun t28 w12 => Ext t28 0 fun t29 => Ext t28 1 fun t30 =>
    Bin Try.prog (At w12) .eql 38 false true t30 (.int .i64 0) fun t32 => ∃ J : Value → World → Prop, (∀ v w', J v w' → K' v w') ∧
    If t32 (
      CallF Try.prog 16 #[t29] w12 fun t35 w78 => Ext t35 0 fun t36 => Ext t35 1 fun t37 => Ext t35 2 fun t38 =>
      Do Try.prog (Instr.alloc 34 true (.tuple #[])) w78 fun y w83 => DoU Try.prog (Instr.storeAt 34 y t36) w83 fun _ w85 =>
      Bin Try.prog (At w85) .neq 38 false true t38 (.int .i64 0) fun t40 =>
      GdP (isB t40 false) (fun R => R t37) fun t42 =>
      GdP (isB t40 false) (fun R => Bin Try.prog (At w85) .neq 3 false true t42 (.int .i64 0) R) fun t43 =>
      Pick t40 (.bool true) t43 fun t44 =>
      GdP (isB t44 false) (fun R => LdA (At w85) 27 y R) fun t46 =>
      GdP (isB t44 false) (fun R => LdA (At w85) 27 (.pointer (some ⟨b, 0, none⟩)) R) fun t47 =>
      Gd (isB t44 false) (fun R => CallF Try.prog 15 #[t46, t47] w85 R) w85 fun t48 w93 =>
      GdP (isB t44 false) (fun R => Un Try.prog (At w93) .not t48 R) fun t49 =>
      Pick t44 (.bool true) t49 fun t50 =>
      If t50 (X w93) (J u w93)) (J u w12) := by
  have hcl : cs.length = 27 := sEntry.len hr
  have ec : ∀ l : List Value, l.length = 27 → (l.drop 0).take 27 = l := fun l h => by rw [List.drop_zero]; exact List.take_of_length_le (by omega)
  refine ldA_bk hB (by omega) ?_
  rw [ec cs hcl]
  refine (wroteE hr hl).use ?_
  rintro _ w1 ⟨v, er, rfl, hF1, h1, _⟩
  refine ext0 (ext1 (eql ⟨fun _ w' => Fr [] w w', fun v w' h => hK v w' h, if_p (fun he => ?_) (fun he => hF1)⟩))
  obtain ⟨hok, ho⟩ := h1 he
  refine (decodeEntry_c ⟨ho.sl, ho.cap, cEntry.bytes a, by omega⟩).use ?_
  rintro _ w2 ⟨cs2, F2, rfl, hr2, hn2, hF2⟩
  have hd := decW_back cEntry noEntry a hok
  rw [hd] at hr2 ⊢
  have hcl2 : cs2.length = 27 := sEntry.len hr2
  refine ext0 (ext1 (ext2 ?_))
  refine alloc_n (n := 27) (by kernel_rfl) ?_
  intro b2 w3 z hz hb2 hB2 hF3 hs3
  refine store_all hB2 (by kernel_rfl) hz hcl2 (by omega) (sEntry.one hr2) ?_
  intro w4 hB4 hF4 hs4
  have hF24 : Fr [] w2 w4 := hF3.trans hF4 (fun i hi => .inr (by simp at hi; omega))
  have hF04 := (hF1.t hF2).t hF24
  refine neq (gdT rfl rfl (gdT rfl (neq rfl) (pick_f rfl ?_)))
  refine gdT rfl (ldA_bk hB4 (by omega) rfl) (gdT rfl (ldA_bk (hB.fr hF04 (by simp)) (by omega) rfl) (gT rfl ?_))
  rw [ec cs hcl, ec cs2 hcl2]
  refine (sameE (sEntry.fr hr2 hF24 (fun i _ => by simp)) (sEntry.fr hr hF04 (fun i _ => by simp)) hl (by omega)).use ?_
  rintro _ w5 ⟨rfl, hF5⟩
  rw [decide_eq_true rfl]
  exact gdT rfl (notB rfl) (pick_f rfl (if_f rfl (hF04.t hF5)))
/-- What is read is written as it was. -/
theorem forthEntry {w : World} {v : Value} {bs : List Nat} {u : Value} {X : World → Prop} {K' : Value → World → Prop} (h : Bs w v bs) (hb : bs.length ≤ 1000000000) (hK : ∀ v w', Fr [] w w' → K' v w') :
    CallF Try.prog 16 #[v] w fun t20 w2 => Ext t20 0 fun t21 => Ext t20 1 fun t22 => Ext t20 2 fun t23 =>
    Do Try.prog (Instr.alloc 34 true (.tuple #[])) w2 fun x3 w7 => DoU Try.prog (Instr.storeAt 34 x3 t21) w7 fun _ w9 =>
    Bin Try.prog (At w9) .eql 38 false true t23 (.int .i64 0) fun t25 => ∃ J : Value → World → Prop, (∀ v w', J v w' → K' v w') ∧
    If t25 (
      LdA (At w9) 27 x3 fun t27 => CallF Try.prog 12 #[t27] w9 fun t28 w66 => Ext t28 0 fun t29 => Ext t28 1 fun t30 =>
      Bin Try.prog (At w66) .neq 38 false true t30 (.int .i64 0) fun t32 =>
      GdP (isB t32 false) (fun R => R t29) fun t34 =>
      GdP (isB t32 false) (fun R => R v) fun t35 =>
      Gd (isB t32 false) (fun R => CallF Try.prog 14 #[t34, t35] w66 R) w66 fun t36 w73 =>
      GdP (isB t32 false) (fun R => Un Try.prog (At w73) .not t36 R) fun t37 =>
      Pick t32 (.bool true) t37 fun t38 =>
      If t38 (X w73) (J u w73)) (J u w9) := by
  have ec : ∀ l : List Value, l.length = 27 → (l.drop 0).take 27 = l := fun l h => by rw [List.drop_zero]; exact List.take_of_length_le (by omega)
  refine (decodeEntry_c h).use ?_
  rintro _ w1 ⟨cs, F, rfl, hr, hn, hF1⟩
  have hcl : cs.length = 27 := sEntry.len hr
  refine ext0 (ext1 (ext2 ?_))
  refine alloc_n (n := 27) (by kernel_rfl) ?_
  intro b w2 z hz hb' hB hF2 hs2
  refine store_all hB (by kernel_rfl) hz hcl (by omega) (sEntry.one hr) ?_
  intro w3 hB3 hF3 hs3
  have hF13 : Fr [] w1 w3 := hF2.trans hF3 (fun i hi => .inr (by simp at hi; omega))
  have hF03 := hF1.t hF13
  refine eql ⟨fun _ w' => Fr [] w w', fun v w' h => hK v w' h, if_p (fun he => ?_) (fun he => hF03)⟩
  obtain ⟨hok, hen⟩ := decW_forth cEntry noEntry bs h.byte he
  have hl := okE hok
  generalize (decW cEntry noEntry bs).1 = a at *
  refine ldA_bk hB3 (by omega) ?_
  rw [ec cs hcl]
  refine (wroteE (sEntry.fr hr hF13 (fun i _ => by simp)) (Nat.le_trans hl (by omega))).use ?_
  rintro _ w4 ⟨v4, er, rfl, hF4, h1, h2⟩
  have her := h2 hok
  subst her
  obtain ⟨_, ho⟩ := h1 rfl
  rw [hen] at ho
  refine ext0 (ext1 (neq (gdT rfl rfl (gdT rfl rfl (gT rfl ?_)))))
  refine (bytes_c ho.sl h.byte (h.sl.fr (hF03.t hF4) (fun i _ => by simp)) h.byte).use ?_
  rintro _ w5 ⟨rfl, rfl⟩
  rw [decide_eq_true rfl]
  exact gdT rfl (notB rfl) (pick_f rfl (if_f rfl (hF03.t hF4)))
/-- What was written is read as it was. -/
theorem backAnswer {w : World} {b : Nat} {cs : List Value} {a : DAnswer} {F : List Nat} {u : Value} {X : World → Prop} {K' : Value → World → Prop} (hB : Bk w b 49 cs) (hr : sAnswer.rd w cs a F) (hl : lenA a 1000000000) (hb : 10 * (cAnswer.enc a).length ≤ 99999990000)
    (hK : ∀ v w', Fr [] w w' → K' v w') :
    LdA (At w) 5 (.pointer (some ⟨b, 0, none⟩)) fun t27 => CallF Try.prog 24 #[t27] w fun t28 w12 => Ext t28 0 fun t29 => Ext t28 1 fun t30 =>
    Bin Try.prog (At w12) .eql 38 false true t30 (.int .i64 0) fun t32 => ∃ J : Value → World → Prop, (∀ v w', J v w' → K' v w') ∧
    If t32 (
      CallF Try.prog 18 #[t29] w12 fun t35 w78 => Ext t35 0 fun t36 => Ext t35 1 fun t37 => Ext t35 2 fun t38 =>
      Do Try.prog (Instr.alloc 49 true (.tuple #[])) w78 fun y w83 => DoU Try.prog (Instr.storeAt 49 y t36) w83 fun _ w85 =>
      Bin Try.prog (At w85) .neq 38 false true t38 (.int .i64 0) fun t40 =>
      GdP (isB t40 false) (fun R => R t37) fun t42 =>
      GdP (isB t40 false) (fun R => Bin Try.prog (At w85) .neq 3 false true t42 (.int .i64 0) R) fun t43 =>
      Pick t40 (.bool true) t43 fun t44 =>
      GdP (isB t44 false) (fun R => LdA (At w85) 5 y R) fun t46 =>
      GdP (isB t44 false) (fun R => LdA (At w85) 5 (.pointer (some ⟨b, 0, none⟩)) R) fun t47 =>
      Gd (isB t44 false) (fun R => CallF Try.prog 20 #[t46, t47] w85 R) w85 fun t48 w93 =>
      GdP (isB t44 false) (fun R => Un Try.prog (At w93) .not t48 R) fun t49 =>
      Pick t44 (.bool true) t49 fun t50 =>
      If t50 (X w93) (J u w93)) (J u w12) := by
  have hcl : cs.length = 5 := sAnswer.len hr
  have ec : ∀ l : List Value, l.length = 5 → (l.drop 0).take 5 = l := fun l h => by rw [List.drop_zero]; exact List.take_of_length_le (by omega)
  refine ldA_bk hB (by omega) ?_
  rw [ec cs hcl]
  refine (wroteA hr hb).use ?_
  rintro _ w1 ⟨v, er, rfl, hF1, h1, _⟩
  refine ext0 (ext1 (eql ⟨fun _ w' => Fr [] w w', fun v w' h => hK v w' h, if_p (fun he => ?_) (fun he => hF1)⟩))
  obtain ⟨hok, ho⟩ := h1 he
  refine (decodeAnswer_c ⟨ho.sl, ho.cap, cAnswer.bytes a, by omega⟩).use ?_
  rintro _ w2 ⟨cs2, F2, rfl, hr2, hn2, hF2⟩
  have hd := decW_back cAnswer noAnswer a hok
  rw [hd] at hr2 ⊢
  have hcl2 : cs2.length = 5 := sAnswer.len hr2
  refine ext0 (ext1 (ext2 ?_))
  refine alloc_n (n := 5) (by kernel_rfl) ?_
  intro b2 w3 z hz hb2 hB2 hF3 hs3
  refine store_all hB2 (by kernel_rfl) hz hcl2 (by omega) (sAnswer.one hr2) ?_
  intro w4 hB4 hF4 hs4
  have hF24 : Fr [] w2 w4 := hF3.trans hF4 (fun i hi => .inr (by simp at hi; omega))
  have hF04 := (hF1.t hF2).t hF24
  refine neq (gdT rfl rfl (gdT rfl (neq rfl) (pick_f rfl ?_)))
  refine gdT rfl (ldA_bk hB4 (by omega) rfl) (gdT rfl (ldA_bk (hB.fr hF04 (by simp)) (by omega) rfl) (gT rfl ?_))
  rw [ec cs hcl, ec cs2 hcl2]
  refine (sameA (sAnswer.fr hr2 hF24 (fun i _ => by simp)) (sAnswer.fr hr hF04 (fun i _ => by simp)) hl (by omega)).use ?_
  rintro _ w5 ⟨rfl, hF5⟩
  rw [decide_eq_true rfl]
  exact gdT rfl (notB rfl) (pick_f rfl (if_f rfl (hF04.t hF5)))
/-- What is read is written as it was. -/
theorem forthAnswer {w : World} {v : Value} {bs : List Nat} {u : Value} {X : World → Prop} {K' : Value → World → Prop} (h : Bs w v bs) (hb : bs.length ≤ 1000000000) (hK : ∀ v w', Fr [] w w' → K' v w') :
    CallF Try.prog 18 #[v] w fun t20 w2 => Ext t20 0 fun t21 => Ext t20 1 fun t22 => Ext t20 2 fun t23 =>
    Do Try.prog (Instr.alloc 49 true (.tuple #[])) w2 fun x3 w7 => DoU Try.prog (Instr.storeAt 49 x3 t21) w7 fun _ w9 =>
    Bin Try.prog (At w9) .eql 38 false true t23 (.int .i64 0) fun t25 => ∃ J : Value → World → Prop, (∀ v w', J v w' → K' v w') ∧
    If t25 (
      LdA (At w9) 5 x3 fun t27 => CallF Try.prog 24 #[t27] w9 fun t28 w66 => Ext t28 0 fun t29 => Ext t28 1 fun t30 =>
      Bin Try.prog (At w66) .neq 38 false true t30 (.int .i64 0) fun t32 =>
      GdP (isB t32 false) (fun R => R t29) fun t34 =>
      GdP (isB t32 false) (fun R => R v) fun t35 =>
      Gd (isB t32 false) (fun R => CallF Try.prog 14 #[t34, t35] w66 R) w66 fun t36 w73 =>
      GdP (isB t32 false) (fun R => Un Try.prog (At w73) .not t36 R) fun t37 =>
      Pick t32 (.bool true) t37 fun t38 =>
      If t38 (X w73) (J u w73)) (J u w9) := by
  have ec : ∀ l : List Value, l.length = 5 → (l.drop 0).take 5 = l := fun l h => by rw [List.drop_zero]; exact List.take_of_length_le (by omega)
  refine (decodeAnswer_c h).use ?_
  rintro _ w1 ⟨cs, F, rfl, hr, hn, hF1⟩
  have hcl : cs.length = 5 := sAnswer.len hr
  refine ext0 (ext1 (ext2 ?_))
  refine alloc_n (n := 5) (by kernel_rfl) ?_
  intro b w2 z hz hb' hB hF2 hs2
  refine store_all hB (by kernel_rfl) hz hcl (by omega) (sAnswer.one hr) ?_
  intro w3 hB3 hF3 hs3
  have hF13 : Fr [] w1 w3 := hF2.trans hF3 (fun i hi => .inr (by simp at hi; omega))
  have hF03 := hF1.t hF13
  refine eql ⟨fun _ w' => Fr [] w w', fun v w' h => hK v w' h, if_p (fun he => ?_) (fun he => hF03)⟩
  obtain ⟨hok, hen⟩ := decW_forth cAnswer noAnswer bs h.byte he
  have hl := okA hok
  generalize (decW cAnswer noAnswer bs).1 = a at *
  refine ldA_bk hB3 (by omega) ?_
  rw [ec cs hcl]
  refine (wroteA (sAnswer.fr hr hF13 (fun i _ => by simp)) (by rw [hen]; omega)).use ?_
  rintro _ w4 ⟨v4, er, rfl, hF4, h1, h2⟩
  have her := h2 hok
  subst her
  obtain ⟨_, ho⟩ := h1 rfl
  rw [hen] at ho
  refine ext0 (ext1 (neq (gdT rfl rfl (gdT rfl rfl (gT rfl ?_)))))
  refine (bytes_c ho.sl h.byte (h.sl.fr (hF03.t hF4) (fun i _ => by simp)) h.byte).use ?_
  rintro _ w5 ⟨rfl, rfl⟩
  rw [decide_eq_true rfl]
  exact gdT rfl (notB rfl) (pick_f rfl (if_f rfl (hF03.t hF4)))
/-- What was written is read as it was. -/
theorem backState {w : World} {b : Nat} {cs : List Value} {a : DState} {F : List Nat} {u : Value} {X : World → Prop} {K' : Value → World → Prop} (hB : Bk w b 58 cs) (hr : sState.rd w cs a F) (hl : lenS a 1000000000) (hb : 10 * (cState.enc a).length ≤ 99999990000)
    (hK : ∀ v w', Fr [] w w' → K' v w') :
    LdA (At w) 8 (.pointer (some ⟨b, 0, none⟩)) fun t27 => CallF Try.prog 27 #[t27] w fun t28 w12 => Ext t28 0 fun t29 => Ext t28 1 fun t30 =>
    Bin Try.prog (At w12) .eql 38 false true t30 (.int .i64 0) fun t32 => ∃ J : Value → World → Prop, (∀ v w', J v w' → K' v w') ∧
    If t32 (
      CallF Try.prog 21 #[t29] w12 fun t35 w78 => Ext t35 0 fun t36 => Ext t35 1 fun t37 => Ext t35 2 fun t38 =>
      Do Try.prog (Instr.alloc 58 true (.tuple #[])) w78 fun y w83 => DoU Try.prog (Instr.storeAt 58 y t36) w83 fun _ w85 =>
      Bin Try.prog (At w85) .neq 38 false true t38 (.int .i64 0) fun t40 =>
      GdP (isB t40 false) (fun R => R t37) fun t42 =>
      GdP (isB t40 false) (fun R => Bin Try.prog (At w85) .neq 3 false true t42 (.int .i64 0) R) fun t43 =>
      Pick t40 (.bool true) t43 fun t44 =>
      GdP (isB t44 false) (fun R => LdA (At w85) 8 y R) fun t46 =>
      GdP (isB t44 false) (fun R => LdA (At w85) 8 (.pointer (some ⟨b, 0, none⟩)) R) fun t47 =>
      Gd (isB t44 false) (fun R => CallF Try.prog 23 #[t46, t47] w85 R) w85 fun t48 w93 =>
      GdP (isB t44 false) (fun R => Un Try.prog (At w93) .not t48 R) fun t49 =>
      Pick t44 (.bool true) t49 fun t50 =>
      If t50 (X w93) (J u w93)) (J u w12) := by
  have hcl : cs.length = 8 := sState.len hr
  have ec : ∀ l : List Value, l.length = 8 → (l.drop 0).take 8 = l := fun l h => by rw [List.drop_zero]; exact List.take_of_length_le (by omega)
  refine ldA_bk hB (by omega) ?_
  rw [ec cs hcl]
  refine (wroteS hr hb).use ?_
  rintro _ w1 ⟨v, er, rfl, hF1, h1, _⟩
  refine ext0 (ext1 (eql ⟨fun _ w' => Fr [] w w', fun v w' h => hK v w' h, if_p (fun he => ?_) (fun he => hF1)⟩))
  obtain ⟨hok, ho⟩ := h1 he
  refine (decodeState_c ⟨ho.sl, ho.cap, cState.bytes a, by omega⟩).use ?_
  rintro _ w2 ⟨cs2, F2, rfl, hr2, hn2, hF2⟩
  have hd := decW_back cState noState a hok
  rw [hd] at hr2 ⊢
  have hcl2 : cs2.length = 8 := sState.len hr2
  refine ext0 (ext1 (ext2 ?_))
  refine alloc_n (n := 8) (by kernel_rfl) ?_
  intro b2 w3 z hz hb2 hB2 hF3 hs3
  refine store_all hB2 (by kernel_rfl) hz hcl2 (by omega) (sState.one hr2) ?_
  intro w4 hB4 hF4 hs4
  have hF24 : Fr [] w2 w4 := hF3.trans hF4 (fun i hi => .inr (by simp at hi; omega))
  have hF04 := (hF1.t hF2).t hF24
  refine neq (gdT rfl rfl (gdT rfl (neq rfl) (pick_f rfl ?_)))
  refine gdT rfl (ldA_bk hB4 (by omega) rfl) (gdT rfl (ldA_bk (hB.fr hF04 (by simp)) (by omega) rfl) (gT rfl ?_))
  rw [ec cs hcl, ec cs2 hcl2]
  refine (sameS (sState.fr hr2 hF24 (fun i _ => by simp)) (sState.fr hr hF04 (fun i _ => by simp)) hl (by omega)).use ?_
  rintro _ w5 ⟨rfl, hF5⟩
  rw [decide_eq_true rfl]
  exact gdT rfl (notB rfl) (pick_f rfl (if_f rfl (hF04.t hF5)))
/-- What is read is written as it was. -/
theorem forthState {w : World} {v : Value} {bs : List Nat} {u : Value} {X : World → Prop} {K' : Value → World → Prop} (h : Bs w v bs) (hb : bs.length ≤ 1000000000) (hK : ∀ v w', Fr [] w w' → K' v w') :
    CallF Try.prog 21 #[v] w fun t20 w2 => Ext t20 0 fun t21 => Ext t20 1 fun t22 => Ext t20 2 fun t23 =>
    Do Try.prog (Instr.alloc 58 true (.tuple #[])) w2 fun x3 w7 => DoU Try.prog (Instr.storeAt 58 x3 t21) w7 fun _ w9 =>
    Bin Try.prog (At w9) .eql 38 false true t23 (.int .i64 0) fun t25 => ∃ J : Value → World → Prop, (∀ v w', J v w' → K' v w') ∧
    If t25 (
      LdA (At w9) 8 x3 fun t27 => CallF Try.prog 27 #[t27] w9 fun t28 w66 => Ext t28 0 fun t29 => Ext t28 1 fun t30 =>
      Bin Try.prog (At w66) .neq 38 false true t30 (.int .i64 0) fun t32 =>
      GdP (isB t32 false) (fun R => R t29) fun t34 =>
      GdP (isB t32 false) (fun R => R v) fun t35 =>
      Gd (isB t32 false) (fun R => CallF Try.prog 14 #[t34, t35] w66 R) w66 fun t36 w73 =>
      GdP (isB t32 false) (fun R => Un Try.prog (At w73) .not t36 R) fun t37 =>
      Pick t32 (.bool true) t37 fun t38 =>
      If t38 (X w73) (J u w73)) (J u w9) := by
  have ec : ∀ l : List Value, l.length = 8 → (l.drop 0).take 8 = l := fun l h => by rw [List.drop_zero]; exact List.take_of_length_le (by omega)
  refine (decodeState_c h).use ?_
  rintro _ w1 ⟨cs, F, rfl, hr, hn, hF1⟩
  have hcl : cs.length = 8 := sState.len hr
  refine ext0 (ext1 (ext2 ?_))
  refine alloc_n (n := 8) (by kernel_rfl) ?_
  intro b w2 z hz hb' hB hF2 hs2
  refine store_all hB (by kernel_rfl) hz hcl (by omega) (sState.one hr) ?_
  intro w3 hB3 hF3 hs3
  have hF13 : Fr [] w1 w3 := hF2.trans hF3 (fun i hi => .inr (by simp at hi; omega))
  have hF03 := hF1.t hF13
  refine eql ⟨fun _ w' => Fr [] w w', fun v w' h => hK v w' h, if_p (fun he => ?_) (fun he => hF03)⟩
  obtain ⟨hok, hen⟩ := decW_forth cState noState bs h.byte he
  have hl := okS hok
  generalize (decW cState noState bs).1 = a at *
  refine ldA_bk hB3 (by omega) ?_
  rw [ec cs hcl]
  refine (wroteS (sState.fr hr hF13 (fun i _ => by simp)) (by rw [hen]; omega)).use ?_
  rintro _ w4 ⟨v4, er, rfl, hF4, h1, h2⟩
  have her := h2 hok
  subst her
  obtain ⟨_, ho⟩ := h1 rfl
  rw [hen] at ho
  refine ext0 (ext1 (neq (gdT rfl rfl (gdT rfl rfl (gT rfl ?_)))))
  refine (bytes_c ho.sl h.byte (h.sl.fr (hF03.t hF4) (fun i _ => by simp)) h.byte).use ?_
  rintro _ w5 ⟨rfl, rfl⟩
  rw [decide_eq_true rfl]
  exact gdT rfl (notB rfl) (pick_f rfl (if_f rfl (hF03.t hF4)))
theorem written_c {w : World} {v : Value} {bs : List Nat} (h : Bs w v bs) (hb : bs.length ≤ 1000000000) : CallF Try.prog 29 #[v] w fun r w' => r = .bool true ∧ Fr [] w w' := by
  refine C_furlonglaw10_written_link ?_
  unfold C_furlonglaw10_written
  refine forthEntry h hb ?_
  intro _ w1 hF1
  refine forthAnswer (h.fr hF1) hb ?_
  intro _ w2 hF2
  have hF12 := hF1.t hF2
  refine forthState (h.fr hF12) hb ?_
  intro _ w3 hF3
  exact ⟨rfl, hF12.t hF3⟩
theorem back_c {w : World} {cs0 cs1 cs2 : List Value} {a0 : DEntry} {a1 : DAnswer} {a2 : DState} {F0 F1 F2 : List Nat} {v : Value} {bs : List Nat} (r0 : sEntry.rd w cs0 a0 F0) (r1 : sAnswer.rd w cs1 a1 F1) (r2 : sState.rd w cs2 a2 F2) (h : Bs w v bs) (hb : bs.length ≤ 1000000000)
    (l0 : lenE a0 1000000000) (l1 : lenA a1 1000000000) (l2 : lenS a2 1000000000) (b0 : 10 * (cEntry.enc a0).length ≤ 99999990000) (b1 : 10 * (cAnswer.enc a1).length ≤ 99999990000) (b2 : 10 * (cState.enc a2).length ≤ 99999990000) :
    CallF Try.prog 9 #[.agg cs0.toArray, .agg cs1.toArray, .agg cs2.toArray, v] w fun r w' => r = .bool true ∧ Fr [] w w' := by
  refine C_furlonglaw10_CommandBack_link ?_
  unfold C_furlonglaw10_CommandBack
  refine box' (l := cs0) (by simp [Value.cells]) ?_
  intro p0 w1 hp0 hB0 hF1 hs1
  refine box' (l := cs1) (by simp [Value.cells]) ?_
  intro p1 w2 hp1 hB1 hF2 hs2
  refine box' (l := cs2) (by simp [Value.cells]) ?_
  intro p2 w3 hp2 hB2 hF3 hs3
  refine (awake_c w3).use ?_
  rintro _ w4 ⟨rfl, hF4⟩
  have g2 := hF3.t hF4
  have g1 := hF2.t g2
  have g0 := hF1.t g1
  refine notB (if_f rfl ?_)
  refine backEntry (hB0.fr g1 (by simp)) (sEntry.fr r0 g0 (fun i _ => by simp)) l0 b0 ?_
  intro _ w5 hF5
  refine backAnswer ((hB1.fr g2 (by simp)).fr hF5 (by simp)) (sAnswer.fr r1 (g0.t hF5) (fun i _ => by simp)) l1 b1 ?_
  intro _ w6 hF6
  have hF46 := hF5.t hF6
  refine backState ((hB2.fr hF4 (by simp)).fr hF46 (by simp)) (sState.fr r2 (g0.t hF46) (fun i _ => by simp)) l2 b2 ?_
  intro _ w7 hF7
  have hF47 := hF46.t hF7
  refine (written_c (h.fr (g0.t hF47)) hb).use ?_
  rintro _ w8 ⟨rfl, hF8⟩
  exact ⟨rfl, (g0.t hF47).t hF8⟩
end Go.Proofs.Ytachignmofpngaa
