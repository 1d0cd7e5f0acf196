/- Contracts of package command's writer, of lists of things; EncodeAnswer, EncodeState. -/
import Derived.Test.YtachignmofpngaaRefS
set_option linter.unusedVariables false
set_option linter.unusedSimpArgs false
set_option maxRecDepth 20000
namespace Go.Proofs.Ytachignmofpngaa
open Go Go.Vc

/-- What a call that writes a thing does. -/
def WrF {α : Type} (agg : Bool) (S : Shape α) (C : Codec α) (long : α → Bool) (p : Nat) (call : Value → World → (Value → World → Prop) → Prop) : Prop :=
  ∀ w bs er v cs a F, Wr w p bs er v → S.rd w cs a F → (∀ i ∈ F, i ≠ p ∧ i ∉ fp v) → bs.length + 10 * (C.enc a).length ≤ 99999990000 → call (asV agg cs) w fun r w' => r = .tuple #[] ∧ ∃ v', Wr w' p (bs ++ C.enc a) (if long a then 3 else er) v' ∧ WStep p w v w' v'
theorem WStep.apart {p : Nat} {w w' : World} {v v' : Value} (h : WStep p w v w' v') {F : List Nat} (hF : ∀ i ∈ F, i ≠ p ∧ i ∉ fp v) (hlt : ∀ i ∈ F, i < w.heap.size) : ∀ i ∈ F, i ≠ p ∧ i ∉ fp v' :=
  fun i hi => ⟨(hF i hi).1, fun hm => (h.sub i hm).elim (hF i hi).2 (fun h2 => by have := hlt i hi; omega)⟩
theorem WStep.rd {α : Type} {S : Shape α} {p : Nat} {w w' : World} {v v' : Value} (h : WStep p w v w' v') {cs : List Value} {a : α} {F : List Nat} (hr : S.rd w cs a F) (hF : ∀ i ∈ F, i ≠ p ∧ i ∉ fp v) : S.rd w' cs a F :=
  S.fr hr h.fr (fun i hi => by have := hF i hi; simp [this.1, this.2])

theorem len_wholes (l : List Int) : l.length ≤ (wholes l).length := by
  induction l with
  | nil => simp
  | cons x l ih =>
    have h : wholes (x :: l) = wholeN x ++ wholes l := by simp [wholes]
    have := (wholeN_length x).1
    rw [h, List.length_append, List.length_cons]; omega
theorem of_rep {w : World} {n : Nat} {cs : List Value} {l : List Int} {F : List Nat} (h : (sInt.rep n).rd w cs l F) : l.length = n ∧ cs = ints l ∧ F = [] ∧ ∀ y ∈ l, I64 y := by
  obtain ⟨h1, h2, h3⟩ := rows_ints.1 h.2
  exact ⟨h.1, h1, h2, h3⟩

theorem wq_c (p : Nat) : WrF true (sInt.rep 7) (cInt.rep 7) (fun _ => false) p fun x w k => CallF Try.prog 33 #[.pointer (some ⟨p, 0, none⟩), x] w k := by
  intro w bs er v cs a F hw hr hF hb
  obtain ⟨hl, rfl, rfl, hI⟩ := of_rep hr
  match a, hl with
  | [a0, a1, a2, a3, a4, a5, a6], _ =>
    refine (w_queue hI hw ?_).use ?_
    · have := hb; omega
    · rintro r w' ⟨rfl, v', h1, h2⟩
      exact ⟨rfl, v', h1, h2⟩
theorem wn_c (p : Nat) : WrF true (sInt.rep 5) (cInt.rep 5) (fun _ => false) p fun x w k => CallF Try.prog 34 #[.pointer (some ⟨p, 0, none⟩), x] w k := by
  intro w bs er v cs a F hw hr hF hb
  obtain ⟨hl, rfl, rfl, hI⟩ := of_rep hr
  match a, hl with
  | [a0, a1, a2, a3, a4], _ =>
    refine (w_node hI hw ?_).use ?_
    · have := hb; omega
    · rintro r w' ⟨rfl, v', h1, h2⟩
      exact ⟨rfl, v', h1, h2⟩
theorem enc_task (t : TaskD) : cTask.enc t.toD = t.enc := by
  show wholes [t.id, t.q, t.cpu, t.mem, t.work] ++ (listN t.tickets ++ wholeN t.state) = t.enc
  simp only [TaskD.enc, List.append_assoc]
theorem wt_c (p : Nat) : WrF true sTask cTask (fun t => decide (1024 < t.2.1.length)) p fun x w k => CallF Try.prog 35 #[.pointer (some ⟨p, 0, none⟩), x] w k := by
  intro w bs er v cs a F hw hr hF hb
  have hlt := sTask.lt hr
  obtain ⟨t, tv, rfl, rfl, hok, hsl, hcap, hfp⟩ := of_task_rd hr
  rw [enc_task] at hb ⊢
  have hlen : t.tickets.length ≤ t.enc.length := by
    have := len_wholes t.tickets
    simp only [TaskD.enc, listN, List.length_append]; omega
  refine (w_task hok hw ⟨hsl, fun h0 i hi => ⟨hlt i (hfp h0 i hi), hF i (hfp h0 i hi)⟩⟩ (by omega)).use ?_
  rintro r w' ⟨rfl, v', h1, h2⟩
  refine ⟨rfl, v', ?_, h2⟩
  have e : cnt t.tickets.length er = if decide (1024 < t.tickets.length) = true then 3 else er := by simp [cnt]
  rw [e] at h1
  exact h1
theorem wl_c (p : Nat) : WrF true sLease cLease (fun x => decide (1024 < x.2.1.length)) p fun x w k => CallF Try.prog 63 #[.pointer (some ⟨p, 0, none⟩), x] w k := by
  intro w bs er v cs a F hw hr hF hb
  have hlt := sLease.lt hr
  obtain ⟨c1, c2, F1, F2, rfl, rfl, h1, c3, c4, F3, F4, rfl, rfl, ⟨tv, cells, G, rfl, hcap, hsl, hrows, rfl⟩, c5, c6, F5, F6, rfl, rfl, h3, rfl, rfl⟩ := hr
  obtain ⟨l1, l2, l3, st⟩ := a
  obtain ⟨hl1, rfl, rfl, hI1⟩ := of_rep h1
  obtain ⟨hl3, rfl, rfl, hI3⟩ := of_rep h3
  obtain ⟨rfl, rfl, hI2⟩ := rows_ints.1 hrows
  simp only at hl1 hl3 hI1 hI2 hI3 hsl
  match l1, hl1, l3, hl3 with
  | [a0, a1, a2], _, [b0, b1, b2], _ =>
    obtain ⟨A, c, rfl, _⟩ := id hsl
    have henc : cLease.enc ([a0, a1, a2], l2, [b0, b1, b2], st) = wholes [a0, a1, a2] ++ (listN l2 ++ (wholes [b0, b1, b2] ++ layN (if st then 1 else 0))) := rfl
    rw [henc] at hb ⊢
    have n1 := wholes_le [a0, a1, a2] 3 (by simp)
    have n2 := listN_length l2
    have n3 := wholes_le [b0, b1, b2] 3 (by simp)
    have n4 := len_wholes l2
    have n5 := (layN_length (if st then 1 else 0)).2
    have n6 : l2.length ≤ (listN l2).length := by simp only [listN, List.length_append]; omega
    simp only [List.length_append] at hb
    refine C_command_writer_lease_link ?_
    unfold C_command_writer_lease
    refine box' (l := ints [a0, a1, a2] ++ ([.slice A l2.length c] ++ (ints [b0, b1, b2] ++ [.bool st]))) rfl ?_
    intro b w1 hb1 hB hF1 hs1
    have hbp : b ≠ p := by have := hw.blk.lt; omega
    have hbv : b ∉ fp v := fun hm => by have := hw.own.lt b hm; omega
    have st1 := WStep.fresh (p := p) v hF1
    have src : Src w p v (.slice A l2.length c) l2.length (ints l2) := ⟨hsl, fun h0 i hi => by
      have hm : i ∈ (if l2 = [] then [] else fp (.slice A l2.length c)) ++ [] := by
        have : l2 ≠ [] := by intro e; rw [e] at h0; simp at h0
        simp [this, hi]
      have hm2 : i ∈ [] ++ ((if l2 = [] then [] else fp (.slice A l2.length c)) ++ [] ++ ([] ++ [])) := by simpa using hm
      exact ⟨hlt i hm2, hF i hm2⟩⟩
    refine fad (ldC_bk hB rfl ?_)
    refine fad (ldC_bk hB rfl ?_)
    refine fad (ldC_bk hB rfl ?_)
    refine int_lit (l := [a0, a1, a2]) hI1 (hw.fresh hF1) (by simp; omega) rfl rfl (by omega) ?_
    intro v2 w2 hw2 hs2
    obtain ⟨hB2, hbv2⟩ := hs2.bk hB hbp hbv
    refine fad (ldC_bk hB2 rfl ?_)
    refine (w_list hI2 hw2 (hs2.src (st1.src src)) (by simp only [List.length_append]; omega)).use ?_
    rintro _ w3 ⟨rfl, v3, hw3, hs3⟩
    obtain ⟨hB3, hbv3⟩ := hs3.bk hB2 hbp hbv2
    refine fad (ldC_bk hB3 rfl ?_)
    refine fad (ldC_bk hB3 rfl ?_)
    refine fad (ldC_bk hB3 rfl ?_)
    refine int_lit (l := [b0, b1, b2]) hI3 hw3 (by simp only [List.length_append, List.length_cons, List.length_nil]; omega) rfl rfl (by omega) ?_
    intro v4 w4 hw4 hs4
    obtain ⟨hB4, hbv4⟩ := hs4.bk hB3 hbp hbv3
    refine fad (ldC_bk hB4 rfl ?_)
    have hst := ((st1.trans hs2).trans hs3).trans hs4
    refine ⟨fun x w5 => x = .int .u64 ((if st then 1 else 0 : Nat) : Int) ∧ w5 = w4, ?_, ?_⟩
    · rintro x w5 ⟨rfl, rfl⟩
      refine (w_uint (by cases st <;> simp) hw4 (by simp only [List.length_append]; omega)).use ?_
      rintro _ w6 ⟨rfl, v6, hw6, hs6⟩
      refine ⟨rfl, v6, ?_, hst.trans hs6⟩
      have e : cnt l2.length er = if decide (1024 < l2.length) = true then 3 else er := by simp [cnt]
      rw [e] at hw6
      simpa [List.append_assoc] using hw6
    · cases st with
      | true => exact if_t rfl ⟨rfl, rfl⟩
      | false => exact if_f rfl ⟨rfl, rfl⟩

/-- The same where something else must stand, that the writer's steps keep. -/
def WrK {α : Type} (K : World → Value → Prop) (agg : Bool) (S : Shape α) (C : Codec α) (long : α → Bool) (p : Nat) (call : Value → World → (Value → World → Prop) → Prop) : Prop :=
  ∀ w bs er v cs a F, K w v → Wr w p bs er v → S.rd w cs a F → (∀ i ∈ F, i ≠ p ∧ i ∉ fp v) → bs.length + 10 * (C.enc a).length ≤ 99999990000 → call (asV agg cs) w fun r w' => r = .tuple #[] ∧ ∃ v', Wr w' p (bs ++ C.enc a) (if long a then 3 else er) v' ∧ WStep p w v w' v'
def Keeps (K : World → Value → Prop) (p : Nat) : Prop := ∀ w v w' v', K w v → WStep p w v w' v' → K w' v'
theorem WrF.k {α : Type} {agg : Bool} {S : Shape α} {C : Codec α} {long : α → Bool} {p : Nat} {call : Value → World → (Value → World → Prop) → Prop} (h : WrF agg S C long p call) : WrK (fun _ _ => True) agg S C long p call :=
  fun w bs er v cs a F _ => h w bs er v cs a F
theorem keepsT (p : Nat) : Keeps (fun _ _ => True) p := fun _ _ _ _ _ _ => trivial

/-! ### A list of things -/
def EachAgg (P : Program) (T : TypeId) (n : Nat) (x0 x1 x2 : Value) (w : World) (R : Value → World → Prop) : Prop :=
  Len x1 fun t10_1 =>
  CallF P 95 #[x0, t10_1] w fun t11_2 w_3 =>
  Len x1 fun t13_4 =>
  ∃ (I_5 : Nat → Value → World → Prop) (m_6 : Nat), I_5 m_6 (.int .i64 0) w_3 ∧
  ∀ m_7, ∀ t14_8, ∀ w_9, I_5 m_7 t14_8 w_9 →
   Bin P (At w_9) .lss 3 false false t14_8 t13_4 fun t15_10 =>
   If t15_10 (
    IAdS n x1 t14_8 fun t16_11 =>
    LdA (At w_9) n t16_11 fun t17_12 =>
    Do P (Instr.alloc T true (.tuple #[])) w_9 fun x_7_13 w_14 =>
    DoU P (Instr.storeAt T x_7_13 t17_12) w_14 fun u_15 w_16 =>
    LdA (At w_16) n x_7_13 fun t19_17 =>
    CallV P x2 #[t19_17] w_16 fun t20_18 w_19 =>
    Bin P (At w_19) .add 3 false true t14_8 (.int .i64 1) fun t21_20 =>
    ∃ m_21, m_21 < m_7 ∧
    I_5 m_21 t21_20 w_19) (
    R (.tuple #[]) w_9)
theorem if3 (a b c : Bool) (er : Int) : (if a then 3 else if b || c then (3 : Int) else er) = if b || (c || a) then 3 else er := by cases a <;> cases b <;> cases c <;> rfl
def longL {α : Type} (long : α → Bool) (l : List α) : Bool := decide (1024 < l.length) || l.any long
theorem each_agg {α : Type} {S : Shape α} {C : Codec α} {long : α → Bool} {T : TypeId} {n p : Nat} {one : Value} {w : World} {bs : List Nat} {er : Int} {v x : Value} {l : List α} {F : List Nat}
    (hS : S.size = n) (hS0 : 0 < S.size) (hzt : (zeroT Try.prog T).map (fun z => z.cells.toList.length) = some n) (hst : sizeT Try.prog T = some n)
    {K : World → Value → Prop} (hK : Keeps K p) (hK0 : K w v) (ho : WrK K true S C long p fun x w k => CallV Try.prog one #[x] w k) (hw : Wr w p bs er v) (hx : (S.list hS0).rd w [x] l F) (hF : ∀ i ∈ F, i ≠ p ∧ i ∉ fp v) (hb : bs.length + 10 * (C.list.enc l).length ≤ 99999990000)
    (hl9 : l.length ≤ 100000000000) :
    EachAgg Try.prog T n (.pointer (some ⟨p, 0, none⟩)) x one w fun r w' => r = .tuple #[] ∧ ∃ v', Wr w' p (bs ++ C.list.enc l) (if longL long l then 3 else er) v' ∧ WStep p w v w' v' := by
  have henc : C.list.enc l = layN l.length ++ l.flatMap C.enc := rfl
  rw [henc] at hb ⊢
  rw [List.length_append] at hb
  have h9 := (layN_length l.length).2
  obtain ⟨v0, cells, G, e0, hcap, hsl, hrows, rfl⟩ := id hx
  obtain rfl := (List.cons.inj e0).1
  have hFlt := (S.list hS0).lt hx
  unfold EachAgg
  refine hsl.lenV ?_
  refine (w_count (by omega) hw (by omega)).use ?_
  rintro _ w1 ⟨rfl, v1, hw1, hs1⟩
  refine hsl.lenV ?_
  refine ⟨fun m i w' => ∃ j : Nat, j + m = l.length ∧ i = .int .i64 j ∧ ∃ v', Wr w' p (bs ++ layN l.length ++ (l.take j).flatMap C.enc) (if decide (1024 < l.length) || (l.take j).any long then 3 else er) v' ∧ WStep p w v w' v', l.length,
    ⟨0, by omega, rfl, v1, ?_, hs1⟩, ?_⟩
  · have e : cnt l.length er = if decide (1024 < l.length) || (l.take 0).any long then 3 else er := by simp [cnt]
    rw [e] at hw1
    simpa using hw1
  rintro m i w2 ⟨j, hj, rfl, v2, hw2, hs2⟩
  refine lss (if_p (fun hlt => ?_) (fun hge => ?_))
  · have hjl : j < l.length := by omega
    have hx2 := hs2.rd hx hF
    have hF2 := hs2.apart hF hFlt
    obtain ⟨v0', cells', G', e0', hcap', hsl', hrows', hFe'⟩ := id hx2
    obtain rfl := (List.cons.inj e0').1
    rw [hS] at hsl'
    have hlc := rows_len S hrows'
    obtain ⟨Gj, hGj, hsub⟩ := rows_get S hrows' j hjl
    rw [hS] at hGj
    refine ixN hsl' hjl ?_
    refine alloc_n hzt ?_
    intro b w3 z3 hz3 hb3 hB3 hF3 hs3
    have hcl : ((cells'.drop (j * n)).take n).length = n := by rw [← hS]; rw [← hS] at hGj; exact S.len hGj
    generalize (cells'.drop (j * n)).take n = cj at *
    refine store_all hB3 hst hz3 hcl (by omega) (S.one hGj) ?_
    intro w4 hB4 hF4 hs4
    refine ldA_bk hB4 (by omega) ?_
    have ec : (cj.drop 0).take n = cj := by rw [List.drop_zero]; exact List.take_of_length_le (by omega)
    rw [ec]
    have hF24 : Fr [] w2 w4 := hF3.trans hF4 (fun i hi => .inr (by simp at hi; omega))
    have hpart : ((l.take (j + 1)).flatMap C.enc).length ≤ (l.flatMap C.enc).length := by
      conv => rhs; rw [← List.take_append_drop (j + 1) l, List.flatMap_append, List.length_append]
      omega
    have e1 : (l.take (j + 1)).flatMap C.enc = (l.take j).flatMap C.enc ++ C.enc l[j] := by
      rw [List.take_succ_eq_append_getElem hjl, List.flatMap_append]; simp
    rw [e1, List.length_append] at hpart
    have hGF : ∀ i ∈ Gj, i ≠ p ∧ i ∉ fp v2 := fun i hi => hF2 i (by rw [hFe']; simp [hsub i hi])
    refine (ho w4 _ _ v2 cj l[j] Gj (hK _ _ _ _ hK0 (hs2.trans (WStep.fresh v2 hF24))) (hw2.fresh hF24) (S.fr hGj hF24 (fun i _ => by simp)) hGF (by simp only [List.length_append]; omega)).mono ?_
    rintro _ w5 ⟨rfl, v5, hw5, hs5⟩
    refine add64 (by omega) ⟨m - 1, by omega, j + 1, by omega, by congr 1, v5, ?_, (hs2.trans (WStep.fresh v2 hF24)).trans hs5⟩
    have e2 : (if long l[j] then (3 : Int) else if decide (1024 < l.length) || (l.take j).any long then 3 else er) = if decide (1024 < l.length) || (l.take (j + 1)).any long then 3 else er := by
      rw [List.take_succ_eq_append_getElem hjl]
      simp only [List.any_append, List.any_cons, List.any_nil, Bool.or_false]
      exact if3 _ _ _ _
    rw [e2] at hw5
    rw [e1, ← List.append_assoc]
    exact hw5
  · have e : l.take j = l := List.take_of_length_le (by omega)
    rw [e] at hw2
    refine ⟨rfl, v2, ?_, hs2⟩
    rw [← List.append_assoc]
    exact hw2
/-- each, for each kind of thing. -/
theorem each_api_Lease_c {C : Codec _} {long : _ → Bool} {p : Nat} {one : Value} {w : World} {bs : List Nat} {er : Int} {v x : Value} {l : List _} {F : List Nat}
    {K : World → Value → Prop} (hK : Keeps K p) (hK0 : K w v) (ho : WrK K true sLease C long p fun x w k => CallV Try.prog one #[x] w k) (hw : Wr w p bs er v) (hx : (sLease.list (by decide)).rd w [x] l F) (hF : ∀ i ∈ F, i ≠ p ∧ i ∉ fp v) (hb : bs.length + 10 * (C.list.enc l).length ≤ 99999990000) (hl9 : l.length ≤ 100000000000) :
    CallF Try.prog 62 #[.pointer (some ⟨p, 0, none⟩), x, one] w fun r w' => r = .tuple #[] ∧ ∃ v', Wr w' p (bs ++ C.list.enc l) (if longL long l then 3 else er) v' ∧ WStep p w v w' v' := by
  refine C_command_each_api_Lease_link ?_
  exact each_agg (n := 8) (T := 124) rfl (by decide) (by kernel_rfl) (by kernel_rfl) hK hK0 ho hw hx hF hb hl9
theorem each_api_Queue_c {C : Codec _} {long : _ → Bool} {p : Nat} {one : Value} {w : World} {bs : List Nat} {er : Int} {v x : Value} {l : List _} {F : List Nat}
    {K : World → Value → Prop} (hK : Keeps K p) (hK0 : K w v) (ho : WrK K true (sInt.rep 7) C long p fun x w k => CallV Try.prog one #[x] w k) (hw : Wr w p bs er v) (hx : ((sInt.rep 7).list (by decide)).rd w [x] l F) (hF : ∀ i ∈ F, i ≠ p ∧ i ∉ fp v) (hb : bs.length + 10 * (C.list.enc l).length ≤ 99999990000) (hl9 : l.length ≤ 100000000000) :
    CallF Try.prog 68 #[.pointer (some ⟨p, 0, none⟩), x, one] w fun r w' => r = .tuple #[] ∧ ∃ v', Wr w' p (bs ++ C.list.enc l) (if longL long l then 3 else er) v' ∧ WStep p w v w' v' := by
  refine C_command_each_api_Queue_link ?_
  exact each_agg (n := 7) (T := 25) rfl (by decide) (by kernel_rfl) (by kernel_rfl) hK hK0 ho hw hx hF hb hl9
theorem each_api_Node_c {C : Codec _} {long : _ → Bool} {p : Nat} {one : Value} {w : World} {bs : List Nat} {er : Int} {v x : Value} {l : List _} {F : List Nat}
    {K : World → Value → Prop} (hK : Keeps K p) (hK0 : K w v) (ho : WrK K true (sInt.rep 5) C long p fun x w k => CallV Try.prog one #[x] w k) (hw : Wr w p bs er v) (hx : ((sInt.rep 5).list (by decide)).rd w [x] l F) (hF : ∀ i ∈ F, i ≠ p ∧ i ∉ fp v) (hb : bs.length + 10 * (C.list.enc l).length ≤ 99999990000) (hl9 : l.length ≤ 100000000000) :
    CallF Try.prog 69 #[.pointer (some ⟨p, 0, none⟩), x, one] w fun r w' => r = .tuple #[] ∧ ∃ v', Wr w' p (bs ++ C.list.enc l) (if longL long l then 3 else er) v' ∧ WStep p w v w' v' := by
  refine C_command_each_api_Node_link ?_
  exact each_agg (n := 5) (T := 27) rfl (by decide) (by kernel_rfl) (by kernel_rfl) hK hK0 ho hw hx hF hb hl9
theorem each_api_Task_c {C : Codec _} {long : _ → Bool} {p : Nat} {one : Value} {w : World} {bs : List Nat} {er : Int} {v x : Value} {l : List _} {F : List Nat}
    {K : World → Value → Prop} (hK : Keeps K p) (hK0 : K w v) (ho : WrK K true sTask C long p fun x w k => CallV Try.prog one #[x] w k) (hw : Wr w p bs er v) (hx : (sTask.list (by decide)).rd w [x] l F) (hF : ∀ i ∈ F, i ≠ p ∧ i ∉ fp v) (hb : bs.length + 10 * (C.list.enc l).length ≤ 99999990000) (hl9 : l.length ≤ 100000000000) :
    CallF Try.prog 70 #[.pointer (some ⟨p, 0, none⟩), x, one] w fun r w' => r = .tuple #[] ∧ ∃ v', Wr w' p (bs ++ C.list.enc l) (if longL long l then 3 else er) v' ∧ WStep p w v w' v' := by
  refine C_command_each_api_Task_link ?_
  exact each_agg (n := 7) (T := 30) rfl (by decide) (by kernel_rfl) (by kernel_rfl) hK hK0 ho hw hx hF hb hl9
theorem each_api_Hunger_c {C : Codec _} {long : _ → Bool} {p : Nat} {one : Value} {w : World} {bs : List Nat} {er : Int} {v x : Value} {l : List _} {F : List Nat}
    {K : World → Value → Prop} (hK : Keeps K p) (hK0 : K w v) (ho : WrK K true (sInt.rep 2) C long p fun x w k => CallV Try.prog one #[x] w k) (hw : Wr w p bs er v) (hx : ((sInt.rep 2).list (by decide)).rd w [x] l F) (hF : ∀ i ∈ F, i ≠ p ∧ i ∉ fp v) (hb : bs.length + 10 * (C.list.enc l).length ≤ 99999990000) (hl9 : l.length ≤ 100000000000) :
    CallF Try.prog 71 #[.pointer (some ⟨p, 0, none⟩), x, one] w fun r w' => r = .tuple #[] ∧ ∃ v', Wr w' p (bs ++ C.list.enc l) (if longL long l then 3 else er) v' ∧ WStep p w v w' v' := by
  refine C_command_each_api_Hunger_link ?_
  exact each_agg (n := 2) (T := 119) rfl (by decide) (by kernel_rfl) (by kernel_rfl) hK hK0 ho hw hx hF hb hl9
end Go.Proofs.Ytachignmofpngaa
