/- Contracts of package command's DecodeEntry, DecodeAnswer, DecodeState. -/
import Derived.Test.YtachignmofpngaaCmdR6
set_option linter.unusedVariables false
set_option linter.unusedSimpArgs false
set_option maxRecDepth 20000
namespace Go.Proofs.Ytachignmofpngaa
open Go Go.Vc

/-- all, of things. -/
theorem Ctx.all_api_Lease {w0 w : World} {p b n : Nat} {rv : Value} {bs : List Nat} {T : TypeId} {s : PS} (c : Ctx w0 p rv bs b T n w s) {k : Value → World → Prop}
    (hk : ∀ A m c' F w', (sLease.list (by decide)).rd w' [.slice A m c'] (cLease.list.dec bs s).1 F → (∀ i ∈ F, b < i) → Ctx w0 p rv bs b T n w' (cLease.list.dec bs s).2 → Fr [p] w w' → k (.slice A m c') w') :
    CallF Try.prog 83 #[.pointer (some ⟨p, 0, none⟩), .func (.func 84) #[.pointer (some ⟨p, 0, none⟩)] #[]] w k := by
  refine all_api_Lease_c (S := sLease) (C := cLease) rfl (one_of (lease_c p)) rfl c.rd ?_
  intro r w' F hr hF hrd hf
  obtain ⟨z, hz, hl⟩ := c.var
  have := hz.lt
  obtain ⟨A, m, c', rfl⟩ : ∃ A m c', r = .slice A m c' := by
    obtain ⟨v, cells, G, e, hcap, ⟨A, c', rfl, _⟩, _⟩ := hr
    exact ⟨A, _, c', (List.cons.inj e).1⟩
  exact hk A m c' F w' hr (fun i hi => by have := hF i hi; omega) (c.go hrd hf) hf
theorem Ctx.all_api_Queue {w0 w : World} {p b n : Nat} {rv : Value} {bs : List Nat} {T : TypeId} {s : PS} (c : Ctx w0 p rv bs b T n w s) {k : Value → World → Prop}
    (hk : ∀ A m c' F w', ((sInt.rep 7).list (by decide)).rd w' [.slice A m c'] ((cInt.rep 7).list.dec bs s).1 F → (∀ i ∈ F, b < i) → Ctx w0 p rv bs b T n w' ((cInt.rep 7).list.dec bs s).2 → Fr [p] w w' → k (.slice A m c') w') :
    CallF Try.prog 87 #[.pointer (some ⟨p, 0, none⟩), .func (.func 88) #[.pointer (some ⟨p, 0, none⟩)] #[]] w k := by
  refine all_api_Queue_c (S := (sInt.rep 7)) (C := (cInt.rep 7)) rfl (one_of (queue_c p)) rfl c.rd ?_
  intro r w' F hr hF hrd hf
  obtain ⟨z, hz, hl⟩ := c.var
  have := hz.lt
  obtain ⟨A, m, c', rfl⟩ : ∃ A m c', r = .slice A m c' := by
    obtain ⟨v, cells, G, e, hcap, ⟨A, c', rfl, _⟩, _⟩ := hr
    exact ⟨A, _, c', (List.cons.inj e).1⟩
  exact hk A m c' F w' hr (fun i hi => by have := hF i hi; omega) (c.go hrd hf) hf
theorem Ctx.all_api_Node {w0 w : World} {p b n : Nat} {rv : Value} {bs : List Nat} {T : TypeId} {s : PS} (c : Ctx w0 p rv bs b T n w s) {k : Value → World → Prop}
    (hk : ∀ A m c' F w', ((sInt.rep 5).list (by decide)).rd w' [.slice A m c'] ((cInt.rep 5).list.dec bs s).1 F → (∀ i ∈ F, b < i) → Ctx w0 p rv bs b T n w' ((cInt.rep 5).list.dec bs s).2 → Fr [p] w w' → k (.slice A m c') w') :
    CallF Try.prog 89 #[.pointer (some ⟨p, 0, none⟩), .func (.func 90) #[.pointer (some ⟨p, 0, none⟩)] #[]] w k := by
  refine all_api_Node_c (S := (sInt.rep 5)) (C := (cInt.rep 5)) rfl (one_of (node_c p)) rfl c.rd ?_
  intro r w' F hr hF hrd hf
  obtain ⟨z, hz, hl⟩ := c.var
  have := hz.lt
  obtain ⟨A, m, c', rfl⟩ : ∃ A m c', r = .slice A m c' := by
    obtain ⟨v, cells, G, e, hcap, ⟨A, c', rfl, _⟩, _⟩ := hr
    exact ⟨A, _, c', (List.cons.inj e).1⟩
  exact hk A m c' F w' hr (fun i hi => by have := hF i hi; omega) (c.go hrd hf) hf
theorem Ctx.all_api_Task {w0 w : World} {p b n : Nat} {rv : Value} {bs : List Nat} {T : TypeId} {s : PS} (c : Ctx w0 p rv bs b T n w s) {k : Value → World → Prop}
    (hk : ∀ A m c' F w', (sTask.list (by decide)).rd w' [.slice A m c'] (cTask.list.dec bs s).1 F → (∀ i ∈ F, b < i) → Ctx w0 p rv bs b T n w' (cTask.list.dec bs s).2 → Fr [p] w w' → k (.slice A m c') w') :
    CallF Try.prog 91 #[.pointer (some ⟨p, 0, none⟩), .func (.func 92) #[.pointer (some ⟨p, 0, none⟩)] #[]] w k := by
  refine all_api_Task_c (S := sTask) (C := cTask) rfl (one_of (task_c p)) rfl c.rd ?_
  intro r w' F hr hF hrd hf
  obtain ⟨z, hz, hl⟩ := c.var
  have := hz.lt
  obtain ⟨A, m, c', rfl⟩ : ∃ A m c', r = .slice A m c' := by
    obtain ⟨v, cells, G, e, hcap, ⟨A, c', rfl, _⟩, _⟩ := hr
    exact ⟨A, _, c', (List.cons.inj e).1⟩
  exact hk A m c' F w' hr (fun i hi => by have := hF i hi; omega) (c.go hrd hf) hf
theorem Ctx.all_api_Hunger {w0 w : World} {p b n : Nat} {rv : Value} {bs : List Nat} {T : TypeId} {s : PS} (c : Ctx w0 p rv bs b T n w s) {k : Value → World → Prop}
    (hk : ∀ A m c' F w', ((sInt.rep 2).list (by decide)).rd w' [.slice A m c'] ((cInt.rep 2).list.dec bs s).1 F → (∀ i ∈ F, b < i) → Ctx w0 p rv bs b T n w' ((cInt.rep 2).list.dec bs s).2 → Fr [p] w w' → k (.slice A m c') w') :
    CallF Try.prog 93 #[.pointer (some ⟨p, 0, none⟩), .func (.func 94) #[.pointer (some ⟨p, 0, none⟩)] #[]] w k := by
  refine all_api_Hunger_c (S := (sInt.rep 2)) (C := (cInt.rep 2)) rfl (one_of (hunger_c p)) rfl c.rd ?_
  intro r w' F hr hF hrd hf
  obtain ⟨z, hz, hl⟩ := c.var
  have := hz.lt
  obtain ⟨A, m, c', rfl⟩ : ∃ A m c', r = .slice A m c' := by
    obtain ⟨v, cells, G, e, hcap, ⟨A, c', rfl, _⟩, _⟩ := hr
    exact ⟨A, _, c', (List.cons.inj e).1⟩
  exact hk A m c' F w' hr (fun i hi => by have := hF i hi; omega) (c.go hrd hf) hf
theorem answer_c (p : Nat) : RdF true sAnswer cAnswer p fun w k => CallF Try.prog 52 #[.pointer (some ⟨p, 0, none⟩)] w k := by
  intro w v bs s h
  refine C_command_reader_answer_link ?_
  unfold C_command_reader_answer
  refine ctx_start 5 h (by kernel_rfl) fun b w1 c1 => ?_
  refine c1.int fun w2 c2 f2 => ?_
  refine c2.int fun w3 c3 f3 => ?_
  refine c3.int fun w4 c4 f4 => ?_
  refine c4.ints fun A m c' F w5 ha hFa c5 f5 => ?_
  refine c5.all_api_Lease fun A6 m6 c6' F6 w6 ha6 hFa6 c6 f6 => ?_
  refine c6.close (vals := [.int .i64 _, .int .i64 _, .int .i64 _, .slice A m c', .slice A6 m6 c6']) [1, 1, 1, 1, 1] (by kernel_rfl) (by kernel_rfl) rfl (by kernel_rfl) (by kernel_rfl) (by decide) rfl rfl (by simp [Value.cells, Value.oneCell']) ?_
  intro w10 hr hF hb
  refine ⟨_, _, ?_, seq_rd (decR_rd h.byte w10 3 s) (seq_rd (keepB (c5.keep ha hFa f6) hFa hb) (keepB ha6 hFa6 hb)), fun i hi => ?_, hr, hF⟩
  · rfl
  · have hm : i ∈ F ∨ i ∈ F6 := by simpa using hi
    have := c1.low
    rcases hm with h | h
    · have := hFa i h; omega
    · have := hFa6 i h; omega
theorem state_c (p : Nat) : RdF true sState cState p fun w k => CallF Try.prog 58 #[.pointer (some ⟨p, 0, none⟩)] w k := by
  intro w v bs s h
  refine C_command_reader_state_link ?_
  unfold C_command_reader_state
  refine ctx_start 8 h (by kernel_rfl) fun b w1 c1 => ?_
  refine c1.int64 fun w2 c2 f2 => ?_
  refine c2.int64 fun w3 c3 f3 => ?_
  refine c3.int64 fun w4 c4 f4 => ?_
  refine c4.all_api_Queue fun A5 m5 c5' F5 w5 ha5 hFa5 c5 f5 => ?_
  refine c5.all_api_Node fun A6 m6 c6' F6 w6 ha6 hFa6 c6 f6 => ?_
  refine c6.all_api_Task fun A7 m7 c7' F7 w7 ha7 hFa7 c7 f7 => ?_
  refine c7.all_api_Lease fun A8 m8 c8' F8 w8 ha8 hFa8 c8 f8 => ?_
  refine c8.all_api_Hunger fun A9 m9 c9' F9 w9 ha9 hFa9 c9 f9 => ?_
  refine c9.close (vals := [.int .i64 _, .int .i64 _, .int .i64 _, .slice A5 m5 c5', .slice A6 m6 c6', .slice A7 m7 c7', .slice A8 m8 c8', .slice A9 m9 c9']) [1, 1, 1, 1, 1, 1, 1, 1] (by kernel_rfl) (by kernel_rfl) rfl (by kernel_rfl) (by kernel_rfl) (by decide) rfl rfl (by simp [Value.cells, Value.oneCell']) ?_
  intro w10 hr hF hb
  refine ⟨_, _, ?_, seq_rd (decR_rd h.byte w10 3 s) (seq_rd (keepB (c5.keep ha5 hFa5 (((f6.t f7).t f8).t f9)) hFa5 hb) (seq_rd (keepB (c6.keep ha6 hFa6 ((f7.t f8).t f9)) hFa6 hb) (seq_rd (keepB (c7.keep ha7 hFa7 (f8.t f9)) hFa7 hb) (seq_rd (keepB (c8.keep ha8 hFa8 f9) hFa8 hb) (keepB ha9 hFa9 hb))))), fun i hi => ?_, hr, hF⟩
  · rfl
  · have hm : i ∈ F5 ∨ i ∈ F6 ∨ i ∈ F7 ∨ i ∈ F8 ∨ i ∈ F9 := by simpa using hi
    have := c1.low
    rcases hm with h | h | h | h | h
    · have := hFa5 i h; omega
    · have := hFa6 i h; omega
    · have := hFa7 i h; omega
    · have := hFa8 i h; omega
    · have := hFa9 i h; omega

/-! ### A thing, and nothing behind it -/
def nilV : List Value := [.slice none 0 0]
theorem nil_rd {α : Type} (S : Shape α) (hs : 0 < S.size) (w : World) : (S.list hs).rd w nilV [] [] :=
  ⟨.slice none 0 0, [], [], rfl, Nat.le_refl _, ⟨none, 0, rfl, by simp, fun _ => ⟨rfl, rfl⟩, fun a h => by cases h⟩, ⟨rfl, rfl⟩, rfl⟩
theorem zero_rd (n : Nat) (w : World) : (sInt.rep n).rd w ((List.replicate n (0 : Int)).map (Value.int .i64)) (List.replicate n (0 : Int)) [] :=
  ⟨by simp, rows_ints.2 ⟨rfl, rfl, fun y hy => by rw [List.eq_of_mem_replicate hy]; omega⟩⟩
def zeros (n : Nat) : List Value := (List.replicate n (0 : Int)).map (Value.int .i64)
def noEntry : DEntry := (List.replicate 3 0, 0, List.replicate 4 0, List.replicate 7 0, List.replicate 5 0, List.replicate 5 0, [], 0)
def noAnswer : DAnswer := (List.replicate 3 0, [], [])
def noState : DState := (List.replicate 3 0, [], [], [], [], [])
def zEntry : List Value := zeros 3 ++ ([.int .i64 0] ++ (zeros 4 ++ (zeros 7 ++ (zeros 5 ++ (zeros 5 ++ (nilV ++ [.int .i64 0]))))))
def zAnswer : List Value := zeros 3 ++ (nilV ++ nilV)
def zState : List Value := zeros 3 ++ (nilV ++ (nilV ++ (nilV ++ (nilV ++ nilV))))
theorem int0 (w : World) : sInt.rd w [.int .i64 0] 0 [] := ⟨rfl, rfl, by omega⟩
theorem noEntry_rd (w : World) : sEntry.rd w zEntry noEntry [] := seq_rd (F1 := []) (F2 := []) (zero_rd 3 w) (seq_rd (F1 := []) (F2 := []) (int0 w) (seq_rd (F1 := []) (F2 := []) (zero_rd 4 w) (seq_rd (F1 := []) (F2 := []) (zero_rd 7 w) (seq_rd (F1 := []) (F2 := []) (zero_rd 5 w) (seq_rd (F1 := []) (F2 := []) (zero_rd 5 w) (seq_rd (F1 := []) (F2 := []) (nil_rd sInt (by decide) w) (int0 w)))))))
theorem noAnswer_rd (w : World) : sAnswer.rd w zAnswer noAnswer [] := seq_rd (F1 := []) (F2 := []) (zero_rd 3 w) (seq_rd (F1 := []) (F2 := []) (nil_rd _ _ w) (nil_rd _ _ w))
theorem noState_rd (w : World) : sState.rd w zState noState [] := seq_rd (F1 := []) (F2 := []) (zero_rd 3 w) (seq_rd (F1 := []) (F2 := []) (nil_rd _ _ w) (seq_rd (F1 := []) (F2 := []) (nil_rd _ _ w) (seq_rd (F1 := []) (F2 := []) (nil_rd _ _ w) (seq_rd (F1 := []) (F2 := []) (nil_rd _ _ w) (nil_rd _ _ w)))))

/-- Bytes that are read. -/
structure Bs (w : World) (v : Value) (bs : List Nat) : Prop where
  sl : Sl w 1 v bs.length (bytes bs)
  cap : capOk v
  byte : ∀ b ∈ bs, b < 256
  big : bs.length ≤ 4611686018427387904
theorem Bs.lt {w : World} {v : Value} {bs : List Nat} (h : Bs w v bs) (h0 : 0 < bs.length) : ∀ i ∈ fp v, i < w.heap.size := by
  obtain ⟨A, c, rfl, hl, hn, hc⟩ := h.sl
  intro i hi
  cases A with
  | none => simp [fp_nil] at hi
  | some a =>
    simp [fp_some] at hi
    subst hi
    have := hc a rfl 0 _ (bytes_get h0)
    have hlt := World.block_lt_of_cell? w _ this
    have hb : (a.add 0).block = a.block := by unfold Addr.add; split <;> rfl
    rwa [hb] at hlt
/-- What a decoder hands back. -/
def Got {α : Type} (S : Shape α) (C : Codec α) (none : α) (bs : List Nat) (w : World) (r : Value) (w' : World) : Prop :=
  ∃ cs F, r = .tuple #[.agg cs.toArray, .int .i64 (decW C none bs).2.1, .int .i64 (decW C none bs).2.2] ∧ S.rd w' cs (decW C none bs).1 F ∧ (∀ i ∈ F, w.heap.size ≤ i) ∧ Fr [] w w'
theorem wholeEntry_c {w : World} {v : Value} {bs : List Nat} (h : Bs w v bs) : CallF Try.prog 43 #[v, .func (.func 44) #[] #[]] w (Got sEntry cEntry noEntry bs w) := by
  obtain ⟨A, c, rfl, hrest⟩ := id h.sl
  refine C_command_whole_api_Entry_link ?_
  unfold C_command_whole_api_Entry
  refine alloc' (l := zEntry) (by kernel_rfl) ?_
  intro x w1 hx hBx hFx hsx
  refine ⟨[.slice A bs.length c, .int .i64 0, .int .i64 0], by kernel_rfl, by kernel_rfl, ?_⟩
  refine box' (l := [.slice A bs.length c, .int .i64 0, .int .i64 0]) rfl ?_
  intro p w2 hp hBp hFp hsp
  have hF2 := hFx.t hFp
  have hrd : Rd w2 p (.slice A bs.length c) bs ⟨0, 0⟩ := ⟨hBp, h.sl.fr1 hF2 (fun _ i _ => by simp), h.cap, h.byte, Nat.zero_le _, h.big, fun h0 hm => by have := h.lt h0 p hm; have := hFx.size; omega⟩
  refine callV_of ((entry_c p w2 _ bs ⟨0, 0⟩ hrd).use ?_)
  rintro _ w3 ⟨cs, F, rfl, ha, hF, hr3, hf3⟩
  have hdef : decW cEntry noEntry bs = if (cEntry.dec bs ⟨0, 0⟩).2.err ≠ 0 then (noEntry, (cEntry.dec bs ⟨0, 0⟩).2.pos, (cEntry.dec bs ⟨0, 0⟩).2.err)
    else if (cEntry.dec bs ⟨0, 0⟩).2.pos < bs.length then (noEntry, (cEntry.dec bs ⟨0, 0⟩).2.pos, 7)
    else ((cEntry.dec bs ⟨0, 0⟩).1, 0, 0) := rfl
  generalize (cEntry.dec bs ⟨0, 0⟩).1 = a at *
  generalize (cEntry.dec bs ⟨0, 0⟩).2 = s at *
  have hcl : cs.length = 27 := sEntry.len ha
  rw [asV_agg]
  have hBx3 : Bk w3 x 34 zEntry := (hBx.fr hFp (by simp)).fr hf3 (by simp; omega)
  have hzl : zEntry.length = 27 := by decide
  refine store_all hBx3 (by kernel_rfl) hzl hcl (by decide) (sEntry.one ha) ?_
  intro w4 hB4 hF4 hs4
  have hB4' := hB4
  have ha4 : sEntry.rd w4 cs a F := sEntry.fr ha hF4 (fun i hi => by have := hF i hi; simp; omega)
  have hBp4 : Bk w4 p 140 [.slice A bs.length c, .int .i64 s.pos, .int .i64 s.err] := hr3.blk.fr hF4 (by simp; omega)
  have hF04 : Fr [p, x] w w4 := ((hF2.mono (fun i hi => by simp at hi)).trans hf3 (fun i hi => .inl (by simp at hi; simp [hi]))).trans hF4 (fun i hi => .inl (by simp at hi; simp [hi]))
  refine nilC (fad (ldC_bk hBp4 rfl (eql ?_)))
  have hx0 : w.heap.size ≤ x := by omega
  have hp0 : w.heap.size ≤ p := by omega
  have hFn : ∀ i ∈ F, p < i := fun i hi => by have := hF i hi; omega
  have hxp : x < p := by omega
  clear hB4 hBp hBx hBx3 hF2 hFx hFp hrd hr3 hf3
  -- behind the last test
  have fin : ∀ (w5 : World) (s' : PS), Bk w5 p 140 [.slice A bs.length c, .int .i64 s'.pos, .int .i64 s'.err] → Fr [p] w4 w5 → decW cEntry noEntry bs = (if s'.err ≠ 0 then (noEntry, s'.pos, s'.err) else (a, 0, 0)) →
      (NilC (.pointer (some ⟨p, 0, none⟩)) fun t33_24 =>
       FAd 2 t33_24 fun t34_25 =>
       LdC (At w5) t34_25 fun t35_26 =>
       Bin Try.prog (At w5) .neq 38 false true t35_26 (.int .i64 0) fun t36_27 =>
       If t36_27 (
        Do Try.prog (Instr.alloc 34 true (.tuple #[])) w5 fun none_8_28 w_29 =>
        ∃ S_30 : World → Prop, S_30 (World.drew w_29) ∧
        LdA S_30 27 none_8_28 fun t37_31 =>
        NilC (.pointer (some ⟨p, 0, none⟩)) fun t39_32 =>
        FAd 1 t39_32 fun t40_33 =>
        LdC S_30 t40_33 fun t41_34 =>
        NilC (.pointer (some ⟨p, 0, none⟩)) fun t43_35 =>
        FAd 2 t43_35 fun t44_36 =>
        LdC S_30 t44_36 fun t45_37 =>
        DoU Try.prog (Instr.storeAt 34 (.pointer (some ⟨x, 0, none⟩)) t37_31) (World.drew w_29) fun u_38 w_39 =>
        S_30 w_39 ∧
        LdA (At w_39) 27 (.pointer (some ⟨x, 0, none⟩)) fun r_40 =>
        Got sEntry cEntry noEntry bs w (.tuple #[r_40, t41_34, t45_37]) w_39) (
        LdA (At w5) 27 (.pointer (some ⟨x, 0, none⟩)) fun t46_41 =>
        DoU Try.prog (Instr.storeAt 34 (.pointer (some ⟨x, 0, none⟩)) t46_41) w5 fun u_42 w_43 =>
        LdA (At w_43) 27 (.pointer (some ⟨x, 0, none⟩)) fun r_44 =>
        Got sEntry cEntry noEntry bs w (.tuple #[r_44, (.int .i64 0), (.int .i64 0)]) w_43)) := by
    intro w5 s' hB5 hf5 hd
    have hBx5 : Bk w5 x 34 cs := hB4'.fr hf5 (by simp; omega)
    have hF05 : Fr [p, x] w w5 := hF04.trans hf5 (fun i hi => .inl (by simp at hi; simp [hi]))
    refine nilC (fad (ldC_bk hB5 rfl (neq (if_p (fun he => ?_) (fun he => ?_)))))
    · rw [if_pos he] at hd
      refine alloc' (l := zEntry) (by kernel_rfl) ?_
      intro y w6 hy hBy hFy hsy
      have hB6 : Bk w6 p 140 [.slice A bs.length c, .int .i64 s'.pos, .int .i64 s'.err] := hB5.fr hFy (by simp)
      have hlp := hB5.lt
      have hlx := hBx5.lt
      refine ⟨fun w' => Bk w' y 34 zEntry ∧ Bk w' p 140 [.slice A bs.length c, .int .i64 s'.pos, .int .i64 s'.err], ⟨hBy.drew, hB6.drew⟩, ?_⟩
      refine ldA_S (l := zEntry) (T := 34) (fun w' h => h.1) (by rw [hzl]; decide) ?_
      refine nilC (fad (ldC_S (l := [.slice A bs.length c, .int .i64 s'.pos, .int .i64 s'.err]) (fun w' h => h.2) rfl ?_))
      refine nilC (fad (ldC_S (l := [.slice A bs.length c, .int .i64 s'.pos, .int .i64 s'.err]) (fun w' h => h.2) rfl ?_))
      have ez : (zEntry.drop 0).take 27 = zEntry := by rw [List.drop_zero]; exact List.take_of_length_le (by omega)
      rw [ez]
      refine store_all (hBx5.fr hFy (by simp)).drew (by kernel_rfl) hcl hzl (by decide) (sEntry.one (noEntry_rd w)) ?_
      intro w7 hB7 hF7 hs7
      refine ⟨⟨hBy.drew.fr hF7 (by simp; omega), hB6.drew.fr hF7 (by simp; omega)⟩, ?_⟩
      refine ldA_bk hB7 (by rw [hzl]; decide) ?_
      rw [ez]
      unfold Got
      rw [hd]
      refine ⟨zEntry, [], rfl, noEntry_rd w7, by simp, ?_⟩
      have h67 : Fr [p, x] w5 w7 := ((hFy.mono (fun i hi => by simp at hi)).t (Fr.drew [p, x] w6)).trans hF7 (fun i hi => .inl (by simp at hi; simp [hi]))
      exact (hF05.t h67).mono (fun i hi => .inr (by simp at hi; omega))
    · rw [if_neg he] at hd
      refine ldA_bk hBx5 (by omega) ?_
      have ec : (cs.drop 0).take 27 = cs := by rw [List.drop_zero]; exact List.take_of_length_le (by omega)
      rw [ec]
      refine store_all hBx5 (by kernel_rfl) hcl hcl (by decide) (sEntry.one ha) ?_
      intro w7 hB7 hF7 hs7
      refine ldA_bk hB7 (by omega) ?_
      rw [ec]
      unfold Got
      rw [hd]
      refine ⟨cs, F, rfl, sEntry.fr (sEntry.fr ha4 hf5 (fun i hi => by have := hFn i hi; simp; omega)) hF7 (fun i hi => by have := hFn i hi; simp; omega), fun i hi => by have := hFn i hi; omega, ?_⟩
      exact (hF05.trans hF7 (fun i hi => .inl (by simp at hi; simp [hi]))).mono (fun i hi => .inr (by simp at hi; omega))
  by_cases he : s.err = 0
  · refine gdT (by simp [isB, he]) rfl (gdT (by simp [isB, he]) (nilC rfl) (gdT (by simp [isB, he]) (fad rfl) (gdT (by simp [isB, he]) (ldC_bk hBp4 rfl rfl) (gdT (by simp [isB, he]) rfl (gdT (by simp [isB, he]) rfl (gdT (by simp [isB, he]) (lss rfl) (pick_t (by simp [he]) ?_)))))))
    refine ⟨fun w5 => ∃ s' : PS, Bk w5 p 140 [.slice A bs.length c, .int .i64 s'.pos, .int .i64 s'.err] ∧ Fr [p] w4 w5 ∧ decW cEntry noEntry bs = (if s'.err ≠ 0 then (noEntry, s'.pos, s'.err) else (a, 0, 0)), ?_, ?_⟩
    · rintro w5 ⟨s', h1, h2, h3⟩
      exact fin w5 s' h1 h2 h3
    · refine if_p (fun hlt => ?_) (fun hge => ?_)
      · refine nilC (fad (store' hBp4 (by kernel_rfl) (by simp) rfl ?_))
        intro w5 hB5 hF5 hs5
        exact ⟨⟨s.pos, 7⟩, by simpa using hB5, hF5, by rw [hdef, if_neg (by simpa using he), if_pos (by omega)]; rfl⟩
      · exact ⟨s, hBp4, Fr.refl _ _, by rw [hdef, if_neg (by simpa using he), if_neg (by omega), if_neg (by simpa using he)]⟩
  · refine gdF (by simp [isB, he]) (gdF (by simp [isB, he]) (gdF (by simp [isB, he]) (gdF (by simp [isB, he]) (gdF (by simp [isB, he]) (gdF (by simp [isB, he]) (gdF (by simp [isB, he]) (pick_f (by simp [he]) ?_)))))))
    refine ⟨fun w5 => ∃ s' : PS, Bk w5 p 140 [.slice A bs.length c, .int .i64 s'.pos, .int .i64 s'.err] ∧ Fr [p] w4 w5 ∧ decW cEntry noEntry bs = (if s'.err ≠ 0 then (noEntry, s'.pos, s'.err) else (a, 0, 0)), ?_, ?_⟩
    · rintro w5 ⟨s', h1, h2, h3⟩
      exact fin w5 s' h1 h2 h3
    · exact if_f rfl ⟨s, hBp4, Fr.refl _ _, by rw [hdef, if_pos he, if_pos he]⟩
theorem decodeEntry_c {w : World} {v : Value} {bs : List Nat} (h : Bs w v bs) : CallF Try.prog 16 #[v] w (Got sEntry cEntry noEntry bs w) := by
  refine C_command_DecodeEntry_link ?_
  unfold C_command_DecodeEntry
  refine alloc_n (n := 27) (by kernel_rfl) ?_
  intro x w1 l hl hx hBx hFx hsx
  refine (wholeEntry_c ⟨h.sl.fr1 hFx (fun _ i _ => by simp), h.cap, h.byte, h.big⟩).use ?_
  rintro _ w2 ⟨cs, F, rfl, ha, hF, hf⟩
  have hcl : cs.length = 27 := sEntry.len ha
  refine ext0 (ext1 (ext2 ?_))
  refine store_all (hBx.fr hf (by simp)) (by kernel_rfl) hl hcl (by decide) (sEntry.one ha) ?_
  intro w3 hB3 hF3 hs3
  refine ldA_bk hB3 (by omega) ?_
  have ec : (cs.drop 0).take 27 = cs := by rw [List.drop_zero]; exact List.take_of_length_le (by omega)
  rw [ec]
  refine ⟨cs, F, rfl, sEntry.fr ha hF3 (fun i hi => by have := hF i hi; simp; omega), fun i hi => by have := hF i hi; have := hFx.size; omega, ?_⟩
  exact ((hFx.t hf).trans hF3 (fun i hi => .inr (by simp at hi; omega)))
theorem wholeAnswer_c {w : World} {v : Value} {bs : List Nat} (h : Bs w v bs) : CallF Try.prog 51 #[v, .func (.func 52) #[] #[]] w (Got sAnswer cAnswer noAnswer bs w) := by
  obtain ⟨A, c, rfl, hrest⟩ := id h.sl
  refine C_command_whole_api_Answer_link ?_
  unfold C_command_whole_api_Answer
  refine alloc' (l := zAnswer) (by kernel_rfl) ?_
  intro x w1 hx hBx hFx hsx
  refine ⟨[.slice A bs.length c, .int .i64 0, .int .i64 0], by kernel_rfl, by kernel_rfl, ?_⟩
  refine box' (l := [.slice A bs.length c, .int .i64 0, .int .i64 0]) rfl ?_
  intro p w2 hp hBp hFp hsp
  have hF2 := hFx.t hFp
  have hrd : Rd w2 p (.slice A bs.length c) bs ⟨0, 0⟩ := ⟨hBp, h.sl.fr1 hF2 (fun _ i _ => by simp), h.cap, h.byte, Nat.zero_le _, h.big, fun h0 hm => by have := h.lt h0 p hm; have := hFx.size; omega⟩
  refine callV_of ((answer_c p w2 _ bs ⟨0, 0⟩ hrd).use ?_)
  rintro _ w3 ⟨cs, F, rfl, ha, hF, hr3, hf3⟩
  have hdef : decW cAnswer noAnswer bs = if (cAnswer.dec bs ⟨0, 0⟩).2.err ≠ 0 then (noAnswer, (cAnswer.dec bs ⟨0, 0⟩).2.pos, (cAnswer.dec bs ⟨0, 0⟩).2.err)
    else if (cAnswer.dec bs ⟨0, 0⟩).2.pos < bs.length then (noAnswer, (cAnswer.dec bs ⟨0, 0⟩).2.pos, 7)
    else ((cAnswer.dec bs ⟨0, 0⟩).1, 0, 0) := rfl
  generalize (cAnswer.dec bs ⟨0, 0⟩).1 = a at *
  generalize (cAnswer.dec bs ⟨0, 0⟩).2 = s at *
  have hcl : cs.length = 5 := sAnswer.len ha
  rw [asV_agg]
  have hBx3 : Bk w3 x 49 zAnswer := (hBx.fr hFp (by simp)).fr hf3 (by simp; omega)
  have hzl : zAnswer.length = 5 := by decide
  refine store_all hBx3 (by kernel_rfl) hzl hcl (by decide) (sAnswer.one ha) ?_
  intro w4 hB4 hF4 hs4
  have hB4' := hB4
  have ha4 : sAnswer.rd w4 cs a F := sAnswer.fr ha hF4 (fun i hi => by have := hF i hi; simp; omega)
  have hBp4 : Bk w4 p 140 [.slice A bs.length c, .int .i64 s.pos, .int .i64 s.err] := hr3.blk.fr hF4 (by simp; omega)
  have hF04 : Fr [p, x] w w4 := ((hF2.mono (fun i hi => by simp at hi)).trans hf3 (fun i hi => .inl (by simp at hi; simp [hi]))).trans hF4 (fun i hi => .inl (by simp at hi; simp [hi]))
  refine nilC (fad (ldC_bk hBp4 rfl (eql ?_)))
  have hx0 : w.heap.size ≤ x := by omega
  have hp0 : w.heap.size ≤ p := by omega
  have hFn : ∀ i ∈ F, p < i := fun i hi => by have := hF i hi; omega
  have hxp : x < p := by omega
  clear hB4 hBp hBx hBx3 hF2 hFx hFp hrd hr3 hf3
  -- behind the last test
  have fin : ∀ (w5 : World) (s' : PS), Bk w5 p 140 [.slice A bs.length c, .int .i64 s'.pos, .int .i64 s'.err] → Fr [p] w4 w5 → decW cAnswer noAnswer bs = (if s'.err ≠ 0 then (noAnswer, s'.pos, s'.err) else (a, 0, 0)) →
      (NilC (.pointer (some ⟨p, 0, none⟩)) fun t33_24 =>
       FAd 2 t33_24 fun t34_25 =>
       LdC (At w5) t34_25 fun t35_26 =>
       Bin Try.prog (At w5) .neq 38 false true t35_26 (.int .i64 0) fun t36_27 =>
       If t36_27 (
        Do Try.prog (Instr.alloc 49 true (.tuple #[])) w5 fun none_8_28 w_29 =>
        ∃ S_30 : World → Prop, S_30 (World.drew w_29) ∧
        LdA S_30 5 none_8_28 fun t37_31 =>
        NilC (.pointer (some ⟨p, 0, none⟩)) fun t39_32 =>
        FAd 1 t39_32 fun t40_33 =>
        LdC S_30 t40_33 fun t41_34 =>
        NilC (.pointer (some ⟨p, 0, none⟩)) fun t43_35 =>
        FAd 2 t43_35 fun t44_36 =>
        LdC S_30 t44_36 fun t45_37 =>
        DoU Try.prog (Instr.storeAt 49 (.pointer (some ⟨x, 0, none⟩)) t37_31) (World.drew w_29) fun u_38 w_39 =>
        S_30 w_39 ∧
        LdA (At w_39) 5 (.pointer (some ⟨x, 0, none⟩)) fun r_40 =>
        Got sAnswer cAnswer noAnswer bs w (.tuple #[r_40, t41_34, t45_37]) w_39) (
        LdA (At w5) 5 (.pointer (some ⟨x, 0, none⟩)) fun t46_41 =>
        DoU Try.prog (Instr.storeAt 49 (.pointer (some ⟨x, 0, none⟩)) t46_41) w5 fun u_42 w_43 =>
        LdA (At w_43) 5 (.pointer (some ⟨x, 0, none⟩)) fun r_44 =>
        Got sAnswer cAnswer noAnswer bs w (.tuple #[r_44, (.int .i64 0), (.int .i64 0)]) w_43)) := by
    intro w5 s' hB5 hf5 hd
    have hBx5 : Bk w5 x 49 cs := hB4'.fr hf5 (by simp; omega)
    have hF05 : Fr [p, x] w w5 := hF04.trans hf5 (fun i hi => .inl (by simp at hi; simp [hi]))
    refine nilC (fad (ldC_bk hB5 rfl (neq (if_p (fun he => ?_) (fun he => ?_)))))
    · rw [if_pos he] at hd
      refine alloc' (l := zAnswer) (by kernel_rfl) ?_
      intro y w6 hy hBy hFy hsy
      have hB6 : Bk w6 p 140 [.slice A bs.length c, .int .i64 s'.pos, .int .i64 s'.err] := hB5.fr hFy (by simp)
      have hlp := hB5.lt
      have hlx := hBx5.lt
      refine ⟨fun w' => Bk w' y 49 zAnswer ∧ Bk w' p 140 [.slice A bs.length c, .int .i64 s'.pos, .int .i64 s'.err], ⟨hBy.drew, hB6.drew⟩, ?_⟩
      refine ldA_S (l := zAnswer) (T := 49) (fun w' h => h.1) (by rw [hzl]; decide) ?_
      refine nilC (fad (ldC_S (l := [.slice A bs.length c, .int .i64 s'.pos, .int .i64 s'.err]) (fun w' h => h.2) rfl ?_))
      refine nilC (fad (ldC_S (l := [.slice A bs.length c, .int .i64 s'.pos, .int .i64 s'.err]) (fun w' h => h.2) rfl ?_))
      have ez : (zAnswer.drop 0).take 5 = zAnswer := by rw [List.drop_zero]; exact List.take_of_length_le (by omega)
      rw [ez]
      refine store_all (hBx5.fr hFy (by simp)).drew (by kernel_rfl) hcl hzl (by decide) (sAnswer.one (noAnswer_rd w)) ?_
      intro w7 hB7 hF7 hs7
      refine ⟨⟨hBy.drew.fr hF7 (by simp; omega), hB6.drew.fr hF7 (by simp; omega)⟩, ?_⟩
      refine ldA_bk hB7 (by rw [hzl]; decide) ?_
      rw [ez]
      unfold Got
      rw [hd]
      refine ⟨zAnswer, [], rfl, noAnswer_rd w7, by simp, ?_⟩
      have h67 : Fr [p, x] w5 w7 := ((hFy.mono (fun i hi => by simp at hi)).t (Fr.drew [p, x] w6)).trans hF7 (fun i hi => .inl (by simp at hi; simp [hi]))
      exact (hF05.t h67).mono (fun i hi => .inr (by simp at hi; omega))
    · rw [if_neg he] at hd
      refine ldA_bk hBx5 (by omega) ?_
      have ec : (cs.drop 0).take 5 = cs := by rw [List.drop_zero]; exact List.take_of_length_le (by omega)
      rw [ec]
      refine store_all hBx5 (by kernel_rfl) hcl hcl (by decide) (sAnswer.one ha) ?_
      intro w7 hB7 hF7 hs7
      refine ldA_bk hB7 (by omega) ?_
      rw [ec]
      unfold Got
      rw [hd]
      refine ⟨cs, F, rfl, sAnswer.fr (sAnswer.fr ha4 hf5 (fun i hi => by have := hFn i hi; simp; omega)) hF7 (fun i hi => by have := hFn i hi; simp; omega), fun i hi => by have := hFn i hi; omega, ?_⟩
      exact (hF05.trans hF7 (fun i hi => .inl (by simp at hi; simp [hi]))).mono (fun i hi => .inr (by simp at hi; omega))
  by_cases he : s.err = 0
  · refine gdT (by simp [isB, he]) rfl (gdT (by simp [isB, he]) (nilC rfl) (gdT (by simp [isB, he]) (fad rfl) (gdT (by simp [isB, he]) (ldC_bk hBp4 rfl rfl) (gdT (by simp [isB, he]) rfl (gdT (by simp [isB, he]) rfl (gdT (by simp [isB, he]) (lss rfl) (pick_t (by simp [he]) ?_)))))))
    refine ⟨fun w5 => ∃ s' : PS, Bk w5 p 140 [.slice A bs.length c, .int .i64 s'.pos, .int .i64 s'.err] ∧ Fr [p] w4 w5 ∧ decW cAnswer noAnswer bs = (if s'.err ≠ 0 then (noAnswer, s'.pos, s'.err) else (a, 0, 0)), ?_, ?_⟩
    · rintro w5 ⟨s', h1, h2, h3⟩
      exact fin w5 s' h1 h2 h3
    · refine if_p (fun hlt => ?_) (fun hge => ?_)
      · refine nilC (fad (store' hBp4 (by kernel_rfl) (by simp) rfl ?_))
        intro w5 hB5 hF5 hs5
        exact ⟨⟨s.pos, 7⟩, by simpa using hB5, hF5, by rw [hdef, if_neg (by simpa using he), if_pos (by omega)]; rfl⟩
      · exact ⟨s, hBp4, Fr.refl _ _, by rw [hdef, if_neg (by simpa using he), if_neg (by omega), if_neg (by simpa using he)]⟩
  · refine gdF (by simp [isB, he]) (gdF (by simp [isB, he]) (gdF (by simp [isB, he]) (gdF (by simp [isB, he]) (gdF (by simp [isB, he]) (gdF (by simp [isB, he]) (gdF (by simp [isB, he]) (pick_f (by simp [he]) ?_)))))))
    refine ⟨fun w5 => ∃ s' : PS, Bk w5 p 140 [.slice A bs.length c, .int .i64 s'.pos, .int .i64 s'.err] ∧ Fr [p] w4 w5 ∧ decW cAnswer noAnswer bs = (if s'.err ≠ 0 then (noAnswer, s'.pos, s'.err) else (a, 0, 0)), ?_, ?_⟩
    · rintro w5 ⟨s', h1, h2, h3⟩
      exact fin w5 s' h1 h2 h3
    · exact if_f rfl ⟨s, hBp4, Fr.refl _ _, by rw [hdef, if_pos he, if_pos he]⟩
theorem decodeAnswer_c {w : World} {v : Value} {bs : List Nat} (h : Bs w v bs) : CallF Try.prog 18 #[v] w (Got sAnswer cAnswer noAnswer bs w) := by
  refine C_command_DecodeAnswer_link ?_
  unfold C_command_DecodeAnswer
  refine alloc_n (n := 5) (by kernel_rfl) ?_
  intro x w1 l hl hx hBx hFx hsx
  refine (wholeAnswer_c ⟨h.sl.fr1 hFx (fun _ i _ => by simp), h.cap, h.byte, h.big⟩).use ?_
  rintro _ w2 ⟨cs, F, rfl, ha, hF, hf⟩
  have hcl : cs.length = 5 := sAnswer.len ha
  refine ext0 (ext1 (ext2 ?_))
  refine store_all (hBx.fr hf (by simp)) (by kernel_rfl) hl hcl (by decide) (sAnswer.one ha) ?_
  intro w3 hB3 hF3 hs3
  refine ldA_bk hB3 (by omega) ?_
  have ec : (cs.drop 0).take 5 = cs := by rw [List.drop_zero]; exact List.take_of_length_le (by omega)
  rw [ec]
  refine ⟨cs, F, rfl, sAnswer.fr ha hF3 (fun i hi => by have := hF i hi; simp; omega), fun i hi => by have := hF i hi; have := hFx.size; omega, ?_⟩
  exact ((hFx.t hf).trans hF3 (fun i hi => .inr (by simp at hi; omega)))
theorem wholeState_c {w : World} {v : Value} {bs : List Nat} (h : Bs w v bs) : CallF Try.prog 57 #[v, .func (.func 58) #[] #[]] w (Got sState cState noState bs w) := by
  obtain ⟨A, c, rfl, hrest⟩ := id h.sl
  refine C_command_whole_api_State_link ?_
  unfold C_command_whole_api_State
  refine alloc' (l := zState) (by kernel_rfl) ?_
  intro x w1 hx hBx hFx hsx
  refine ⟨[.slice A bs.length c, .int .i64 0, .int .i64 0], by kernel_rfl, by kernel_rfl, ?_⟩
  refine box' (l := [.slice A bs.length c, .int .i64 0, .int .i64 0]) rfl ?_
  intro p w2 hp hBp hFp hsp
  have hF2 := hFx.t hFp
  have hrd : Rd w2 p (.slice A bs.length c) bs ⟨0, 0⟩ := ⟨hBp, h.sl.fr1 hF2 (fun _ i _ => by simp), h.cap, h.byte, Nat.zero_le _, h.big, fun h0 hm => by have := h.lt h0 p hm; have := hFx.size; omega⟩
  refine callV_of ((state_c p w2 _ bs ⟨0, 0⟩ hrd).use ?_)
  rintro _ w3 ⟨cs, F, rfl, ha, hF, hr3, hf3⟩
  have hdef : decW cState noState bs = if (cState.dec bs ⟨0, 0⟩).2.err ≠ 0 then (noState, (cState.dec bs ⟨0, 0⟩).2.pos, (cState.dec bs ⟨0, 0⟩).2.err)
    else if (cState.dec bs ⟨0, 0⟩).2.pos < bs.length then (noState, (cState.dec bs ⟨0, 0⟩).2.pos, 7)
    else ((cState.dec bs ⟨0, 0⟩).1, 0, 0) := rfl
  generalize (cState.dec bs ⟨0, 0⟩).1 = a at *
  generalize (cState.dec bs ⟨0, 0⟩).2 = s at *
  have hcl : cs.length = 8 := sState.len ha
  rw [asV_agg]
  have hBx3 : Bk w3 x 58 zState := (hBx.fr hFp (by simp)).fr hf3 (by simp; omega)
  have hzl : zState.length = 8 := by decide
  refine store_all hBx3 (by kernel_rfl) hzl hcl (by decide) (sState.one ha) ?_
  intro w4 hB4 hF4 hs4
  have hB4' := hB4
  have ha4 : sState.rd w4 cs a F := sState.fr ha hF4 (fun i hi => by have := hF i hi; simp; omega)
  have hBp4 : Bk w4 p 140 [.slice A bs.length c, .int .i64 s.pos, .int .i64 s.err] := hr3.blk.fr hF4 (by simp; omega)
  have hF04 : Fr [p, x] w w4 := ((hF2.mono (fun i hi => by simp at hi)).trans hf3 (fun i hi => .inl (by simp at hi; simp [hi]))).trans hF4 (fun i hi => .inl (by simp at hi; simp [hi]))
  refine nilC (fad (ldC_bk hBp4 rfl (eql ?_)))
  have hx0 : w.heap.size ≤ x := by omega
  have hp0 : w.heap.size ≤ p := by omega
  have hFn : ∀ i ∈ F, p < i := fun i hi => by have := hF i hi; omega
  have hxp : x < p := by omega
  clear hB4 hBp hBx hBx3 hF2 hFx hFp hrd hr3 hf3
  -- behind the last test
  have fin : ∀ (w5 : World) (s' : PS), Bk w5 p 140 [.slice A bs.length c, .int .i64 s'.pos, .int .i64 s'.err] → Fr [p] w4 w5 → decW cState noState bs = (if s'.err ≠ 0 then (noState, s'.pos, s'.err) else (a, 0, 0)) →
      (NilC (.pointer (some ⟨p, 0, none⟩)) fun t33_24 =>
       FAd 2 t33_24 fun t34_25 =>
       LdC (At w5) t34_25 fun t35_26 =>
       Bin Try.prog (At w5) .neq 38 false true t35_26 (.int .i64 0) fun t36_27 =>
       If t36_27 (
        Do Try.prog (Instr.alloc 58 true (.tuple #[])) w5 fun none_8_28 w_29 =>
        ∃ S_30 : World → Prop, S_30 (World.drew w_29) ∧
        LdA S_30 8 none_8_28 fun t37_31 =>
        NilC (.pointer (some ⟨p, 0, none⟩)) fun t39_32 =>
        FAd 1 t39_32 fun t40_33 =>
        LdC S_30 t40_33 fun t41_34 =>
        NilC (.pointer (some ⟨p, 0, none⟩)) fun t43_35 =>
        FAd 2 t43_35 fun t44_36 =>
        LdC S_30 t44_36 fun t45_37 =>
        DoU Try.prog (Instr.storeAt 58 (.pointer (some ⟨x, 0, none⟩)) t37_31) (World.drew w_29) fun u_38 w_39 =>
        S_30 w_39 ∧
        LdA (At w_39) 8 (.pointer (some ⟨x, 0, none⟩)) fun r_40 =>
        Got sState cState noState bs w (.tuple #[r_40, t41_34, t45_37]) w_39) (
        LdA (At w5) 8 (.pointer (some ⟨x, 0, none⟩)) fun t46_41 =>
        DoU Try.prog (Instr.storeAt 58 (.pointer (some ⟨x, 0, none⟩)) t46_41) w5 fun u_42 w_43 =>
        LdA (At w_43) 8 (.pointer (some ⟨x, 0, none⟩)) fun r_44 =>
        Got sState cState noState bs w (.tuple #[r_44, (.int .i64 0), (.int .i64 0)]) w_43)) := by
    intro w5 s' hB5 hf5 hd
    have hBx5 : Bk w5 x 58 cs := hB4'.fr hf5 (by simp; omega)
    have hF05 : Fr [p, x] w w5 := hF04.trans hf5 (fun i hi => .inl (by simp at hi; simp [hi]))
    refine nilC (fad (ldC_bk hB5 rfl (neq (if_p (fun he => ?_) (fun he => ?_)))))
    · rw [if_pos he] at hd
      refine alloc' (l := zState) (by kernel_rfl) ?_
      intro y w6 hy hBy hFy hsy
      have hB6 : Bk w6 p 140 [.slice A bs.length c, .int .i64 s'.pos, .int .i64 s'.err] := hB5.fr hFy (by simp)
      have hlp := hB5.lt
      have hlx := hBx5.lt
      refine ⟨fun w' => Bk w' y 58 zState ∧ Bk w' p 140 [.slice A bs.length c, .int .i64 s'.pos, .int .i64 s'.err], ⟨hBy.drew, hB6.drew⟩, ?_⟩
      refine ldA_S (l := zState) (T := 58) (fun w' h => h.1) (by rw [hzl]; decide) ?_
      refine nilC (fad (ldC_S (l := [.slice A bs.length c, .int .i64 s'.pos, .int .i64 s'.err]) (fun w' h => h.2) rfl ?_))
      refine nilC (fad (ldC_S (l := [.slice A bs.length c, .int .i64 s'.pos, .int .i64 s'.err]) (fun w' h => h.2) rfl ?_))
      have ez : (zState.drop 0).take 8 = zState := by rw [List.drop_zero]; exact List.take_of_length_le (by omega)
      rw [ez]
      refine store_all (hBx5.fr hFy (by simp)).drew (by kernel_rfl) hcl hzl (by decide) (sState.one (noState_rd w)) ?_
      intro w7 hB7 hF7 hs7
      refine ⟨⟨hBy.drew.fr hF7 (by simp; omega), hB6.drew.fr hF7 (by simp; omega)⟩, ?_⟩
      refine ldA_bk hB7 (by rw [hzl]; decide) ?_
      rw [ez]
      unfold Got
      rw [hd]
      refine ⟨zState, [], rfl, noState_rd w7, by simp, ?_⟩
      have h67 : Fr [p, x] w5 w7 := ((hFy.mono (fun i hi => by simp at hi)).t (Fr.drew [p, x] w6)).trans hF7 (fun i hi => .inl (by simp at hi; simp [hi]))
      exact (hF05.t h67).mono (fun i hi => .inr (by simp at hi; omega))
    · rw [if_neg he] at hd
      refine ldA_bk hBx5 (by omega) ?_
      have ec : (cs.drop 0).take 8 = cs := by rw [List.drop_zero]; exact List.take_of_length_le (by omega)
      rw [ec]
      refine store_all hBx5 (by kernel_rfl) hcl hcl (by decide) (sState.one ha) ?_
      intro w7 hB7 hF7 hs7
      refine ldA_bk hB7 (by omega) ?_
      rw [ec]
      unfold Got
      rw [hd]
      refine ⟨cs, F, rfl, sState.fr (sState.fr ha4 hf5 (fun i hi => by have := hFn i hi; simp; omega)) hF7 (fun i hi => by have := hFn i hi; simp; omega), fun i hi => by have := hFn i hi; omega, ?_⟩
      exact (hF05.trans hF7 (fun i hi => .inl (by simp at hi; simp [hi]))).mono (fun i hi => .inr (by simp at hi; omega))
  by_cases he : s.err = 0
  · refine gdT (by simp [isB, he]) rfl (gdT (by simp [isB, he]) (nilC rfl) (gdT (by simp [isB, he]) (fad rfl) (gdT (by simp [isB, he]) (ldC_bk hBp4 rfl rfl) (gdT (by simp [isB, he]) rfl (gdT (by simp [isB, he]) rfl (gdT (by simp [isB, he]) (lss rfl) (pick_t (by simp [he]) ?_)))))))
    refine ⟨fun w5 => ∃ s' : PS, Bk w5 p 140 [.slice A bs.length c, .int .i64 s'.pos, .int .i64 s'.err] ∧ Fr [p] w4 w5 ∧ decW cState noState bs = (if s'.err ≠ 0 then (noState, s'.pos, s'.err) else (a, 0, 0)), ?_, ?_⟩
    · rintro w5 ⟨s', h1, h2, h3⟩
      exact fin w5 s' h1 h2 h3
    · refine if_p (fun hlt => ?_) (fun hge => ?_)
      · refine nilC (fad (store' hBp4 (by kernel_rfl) (by simp) rfl ?_))
        intro w5 hB5 hF5 hs5
        exact ⟨⟨s.pos, 7⟩, by simpa using hB5, hF5, by rw [hdef, if_neg (by simpa using he), if_pos (by omega)]; rfl⟩
      · exact ⟨s, hBp4, Fr.refl _ _, by rw [hdef, if_neg (by simpa using he), if_neg (by omega), if_neg (by simpa using he)]⟩
  · refine gdF (by simp [isB, he]) (gdF (by simp [isB, he]) (gdF (by simp [isB, he]) (gdF (by simp [isB, he]) (gdF (by simp [isB, he]) (gdF (by simp [isB, he]) (gdF (by simp [isB, he]) (pick_f (by simp [he]) ?_)))))))
    refine ⟨fun w5 => ∃ s' : PS, Bk w5 p 140 [.slice A bs.length c, .int .i64 s'.pos, .int .i64 s'.err] ∧ Fr [p] w4 w5 ∧ decW cState noState bs = (if s'.err ≠ 0 then (noState, s'.pos, s'.err) else (a, 0, 0)), ?_, ?_⟩
    · rintro w5 ⟨s', h1, h2, h3⟩
      exact fin w5 s' h1 h2 h3
    · exact if_f rfl ⟨s, hBp4, Fr.refl _ _, by rw [hdef, if_pos he, if_pos he]⟩
theorem decodeState_c {w : World} {v : Value} {bs : List Nat} (h : Bs w v bs) : CallF Try.prog 21 #[v] w (Got sState cState noState bs w) := by
  refine C_command_DecodeState_link ?_
  unfold C_command_DecodeState
  refine alloc_n (n := 8) (by kernel_rfl) ?_
  intro x w1 l hl hx hBx hFx hsx
  refine (wholeState_c ⟨h.sl.fr1 hFx (fun _ i _ => by simp), h.cap, h.byte, h.big⟩).use ?_
  rintro _ w2 ⟨cs, F, rfl, ha, hF, hf⟩
  have hcl : cs.length = 8 := sState.len ha
  refine ext0 (ext1 (ext2 ?_))
  refine store_all (hBx.fr hf (by simp)) (by kernel_rfl) hl hcl (by decide) (sState.one ha) ?_
  intro w3 hB3 hF3 hs3
  refine ldA_bk hB3 (by omega) ?_
  have ec : (cs.drop 0).take 8 = cs := by rw [List.drop_zero]; exact List.take_of_length_le (by omega)
  rw [ec]
  refine ⟨cs, F, rfl, sState.fr ha hF3 (fun i hi => by have := hF i hi; simp; omega), fun i hi => by have := hF i hi; have := hFx.size; omega, ?_⟩
  exact ((hFx.t hf).trans hF3 (fun i hi => .inr (by simp at hi; omega)))
end Go.Proofs.Ytachignmofpngaa
