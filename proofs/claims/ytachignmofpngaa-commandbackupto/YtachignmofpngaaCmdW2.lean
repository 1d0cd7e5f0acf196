/- Contracts of package command's writer, of things; EncodeEntry. -/
import Derived.Test.YtachignmofpngaaCmdW
set_option linter.unusedVariables false
set_option linter.unusedSimpArgs false
set_option maxRecDepth 20000
namespace Go.Proofs.Ytachignmofpngaa
open Go Go.Vc

theorem w_queue {w : World} {p : Nat} {bs : List Nat} {er : Int} {v : Value} {a0 a1 a2 a3 a4 a5 a6 : Int} (hl : ∀ y ∈ [a0, a1, a2, a3, a4, a5, a6], I64 y) (hw : Wr w p bs er v) (hb : bs.length ≤ 99999999000) :
    CallF Try.prog 33 #[.pointer (some ⟨p, 0, none⟩), .agg (ints [a0, a1, a2, a3, a4, a5, a6]).toArray] w fun r w' => r = .tuple #[] ∧ ∃ v', Wr w' p (bs ++ wholes [a0, a1, a2, a3, a4, a5, a6]) er v' ∧ WStep p w v w' v' := by
  refine C_command_writer_queue_link ?_
  unfold C_command_writer_queue
  refine box' (l := ints [a0, a1, a2, a3, a4, a5, a6]) rfl ?_
  intro b w1 hb1 hB hF hsz
  refine fad (ldC_bk hB rfl ?_)
  refine fad (ldC_bk hB rfl ?_)
  refine fad (ldC_bk hB rfl ?_)
  refine fad (fad (ldC_bk hB rfl ?_))
  refine fad (fad (ldC_bk hB rfl ?_))
  refine fad (fad (ldC_bk hB rfl ?_))
  refine fad (fad (ldC_bk hB rfl ?_))
  refine int_lit (l := [a0, a1, a2, a3, a4, a5, a6]) hl (hw.fresh hF) (by simp; omega) rfl rfl (by omega) ?_
  intro v' w2 hw2 hs2
  exact ⟨rfl, v', hw2, (WStep.fresh v hF).trans hs2⟩

theorem w_node {w : World} {p : Nat} {bs : List Nat} {er : Int} {v : Value} {a0 a1 a2 a3 a4 : Int} (hl : ∀ y ∈ [a0, a1, a2, a3, a4], I64 y) (hw : Wr w p bs er v) (hb : bs.length ≤ 99999999000) :
    CallF Try.prog 34 #[.pointer (some ⟨p, 0, none⟩), .agg (ints [a0, a1, a2, a3, a4]).toArray] w fun r w' => r = .tuple #[] ∧ ∃ v', Wr w' p (bs ++ wholes [a0, a1, a2, a3, a4]) er v' ∧ WStep p w v w' v' := by
  refine C_command_writer_node_link ?_
  unfold C_command_writer_node
  refine box' (l := ints [a0, a1, a2, a3, a4]) rfl ?_
  intro b w1 hb1 hB hF hsz
  refine fad (ldC_bk hB rfl ?_)
  refine fad (ldC_bk hB rfl ?_)
  refine fad (ldC_bk hB rfl ?_)
  refine fad (ldC_bk hB rfl ?_)
  refine fad (ldC_bk hB rfl ?_)
  refine int_lit (l := [a0, a1, a2, a3, a4]) hl (hw.fresh hF) (by simp; omega) rfl rfl (by omega) ?_
  intro v' w2 hw2 hs2
  exact ⟨rfl, v', hw2, (WStep.fresh v hF).trans hs2⟩

structure TaskD where
  id : Int
  q : Int
  cpu : Int
  mem : Int
  work : Int
  tickets : List Int
  state : Int
def TaskD.cells (t : TaskD) (tv : Value) : List Value := [.int .i64 t.id, .int .i64 t.q, .int .i64 t.cpu, .int .i64 t.mem, .int .i64 t.work, tv, .int .i64 t.state]
def TaskD.ok (t : TaskD) : Prop := (∀ y ∈ [t.id, t.q, t.cpu, t.mem, t.work], I64 y) ∧ (∀ y ∈ t.tickets, I64 y) ∧ I64 t.state
def TaskD.enc (t : TaskD) : List Nat := wholes [t.id, t.q, t.cpu, t.mem, t.work] ++ listN t.tickets ++ wholeN t.state
theorem wholes_one (x : Int) : wholes [x] = wholeN x := by simp [wholes]
theorem wholes_le (l : List Int) (n : Nat) (h : l.length ≤ n) : (wholes l).length ≤ 9 * n := Nat.le_trans (wholes_length l) (by omega)

theorem w_task {w : World} {p : Nat} {bs : List Nat} {er : Int} {v tv : Value} {t : TaskD} (ht : t.ok) (hw : Wr w p bs er v) (hx : Src w p v tv t.tickets.length (ints t.tickets)) (hb : bs.length + 9 * t.tickets.length ≤ 99999998000) :
    CallF Try.prog 35 #[.pointer (some ⟨p, 0, none⟩), .agg (t.cells tv).toArray] w fun r w' => r = .tuple #[] ∧ ∃ v', Wr w' p (bs ++ t.enc) (cnt t.tickets.length er) v' ∧ WStep p w v w' v' := by
  obtain ⟨h1, h2, h3⟩ := ht
  refine C_command_writer_task_link ?_
  unfold C_command_writer_task
  refine box' (l := t.cells tv) rfl ?_
  intro b w1 hb1 hB hF hsz
  have hs1 := WStep.fresh (p := p) v hF
  have hbp : b ≠ p := by have := hw.blk.lt; omega
  have hbv : b ∉ fp v := fun hm => by have := hw.own.lt b hm; omega
  refine fad (ldC_bk hB rfl ?_)
  refine fad (ldC_bk hB rfl ?_)
  refine fad (fad (ldC_bk hB rfl ?_))
  refine fad (fad (ldC_bk hB rfl ?_))
  refine fad (ldC_bk hB rfl ?_)
  have l1 := wholes_le [t.id, t.q, t.cpu, t.mem, t.work] 5 (by simp)
  refine int_lit (l := [t.id, t.q, t.cpu, t.mem, t.work]) h1 (hw.fresh hF) (by simp; omega) rfl rfl (by omega) ?_
  intro v2 w2 hw2 hs2
  obtain ⟨hB2, hbv2⟩ := hs2.bk hB hbp hbv
  refine fad (ldC_bk hB2 rfl ?_)
  refine (w_list h2 hw2 (hs2.src (hs1.src hx)) (by simp only [List.length_append]; omega)).use ?_
  rintro _ w3 ⟨rfl, v3, hw3, hs3⟩
  obtain ⟨hB3, hbv3⟩ := hs3.bk hB2 hbp hbv2
  refine fad (ldC_bk hB3 rfl ?_)
  have l2 := listN_length t.tickets
  refine int_lit (l := [t.state]) (fun y hy => by rw [List.mem_singleton.1 hy]; exact h3) hw3 (by simp only [List.length_append, List.length_singleton]; omega) rfl rfl (by omega) ?_
  intro v4 w4 hw4 hs4
  refine ⟨rfl, v4, ?_, ((hs1.trans hs2).trans hs3).trans hs4⟩
  simpa [TaskD.enc, wholes_one, List.append_assoc] using hw4

theorem w_done {w : World} {p : Nat} {bs : List Nat} {er : Int} {v : Value} (hw : Wr w p bs er v) :
    CallF Try.prog 36 #[.pointer (some ⟨p, 0, none⟩)] w fun r w' => (if er = 0 then r = .tuple #[v, .int .i64 0] else r = .tuple #[.slice none 0 0, .int .i64 er]) ∧ Fr [] w w' := by
  refine C_command_writer_done_link ?_
  unfold C_command_writer_done
  refine nilC (fad (ldC_bk hw.blk rfl (neq (if_p (fun h => ?_) (fun h => ?_)))))
  · refine ⟨fun w' => Bk w' p 72 [v, .int .i64 er], hw.blk.drew, ?_⟩
    exact nilC (fad (ldC_S (l := [v, .int .i64 er]) (fun w' h => h) rfl ⟨by rw [if_neg h], Fr.drew _ _⟩))
  · exact nilC (fad (ldC_bk hw.blk rfl ⟨by rw [if_pos (by omega)], Fr.refl _ _⟩))

/-- A new writer: an aggregate of nil and no error. -/
theorem bld_writer {k : Value → Prop} (h : k (.agg #[.slice none 0 0, .int .i64 0])) : Bld Try.prog 72 [] k :=
  ⟨[.slice none 0 0, .int .i64 0], by kernel_rfl, by kernel_rfl, h⟩

structure EntryD where
  gap : Int
  client : Int
  seq : Int
  kind : Int
  id : Int
  inc : Int
  beat : Int
  since : Int
  q0 : Int
  q1 : Int
  q2 : Int
  q3 : Int
  q4 : Int
  q5 : Int
  q6 : Int
  n0 : Int
  n1 : Int
  n2 : Int
  n3 : Int
  n4 : Int
  task : TaskD
def EntryD.q (e : EntryD) : List Int := [e.q0, e.q1, e.q2, e.q3, e.q4, e.q5, e.q6]
def EntryD.n (e : EntryD) : List Int := [e.n0, e.n1, e.n2, e.n3, e.n4]
def EntryD.cells (e : EntryD) (tv : Value) : List Value :=
  [.int .i64 e.gap, .int .i64 e.client, .int .i64 e.seq, .int .i64 e.kind, .int .i64 e.id, .int .i64 e.inc, .int .i64 e.beat, .int .i64 e.since,
   .int .i64 e.q0, .int .i64 e.q1, .int .i64 e.q2, .int .i64 e.q3, .int .i64 e.q4, .int .i64 e.q5, .int .i64 e.q6, .int .i64 e.n0, .int .i64 e.n1, .int .i64 e.n2, .int .i64 e.n3, .int .i64 e.n4,
   .int .i64 e.task.id, .int .i64 e.task.q, .int .i64 e.task.cpu, .int .i64 e.task.mem, .int .i64 e.task.work, tv, .int .i64 e.task.state]
def EntryD.ok (e : EntryD) : Prop :=
  (∀ y ∈ [e.gap, e.client, e.seq], I64 y) ∧ I64 e.kind ∧ (∀ y ∈ [e.id, e.inc, e.beat, e.since], I64 y) ∧ (∀ y ∈ e.q, I64 y) ∧ (∀ y ∈ e.n, I64 y) ∧ e.task.ok
/-- A number of Go's type uint64 out of a whole number. -/
def u64 (x : Int) : Nat := (x % 18446744073709551616).toNat
def EntryD.enc (e : EntryD) : List Nat := wholes [e.gap, e.client, e.seq] ++ layN (u64 e.kind) ++ wholes [e.id, e.inc, e.beat, e.since] ++ wholes e.q ++ wholes e.n ++ e.task.enc
def EntryD.err (e : EntryD) : Int := if 1024 < e.task.tickets.length then 3 else if e.kind < 0 then 1 else 0

/-- What EncodeEntry and its like hand back: bytes in new memory, or nil and an error. -/
def Told (w : World) (r : Value) (w' : World) (bs : List Nat) (er : Int) : Prop :=
  ∃ v, r = .tuple #[v, .int .i64 er] ∧ Fr [] w w' ∧ (∀ i ∈ fp v, w.heap.size ≤ i) ∧ Own w' 5 1 v (if er = 0 then bs.length else 0) (bytes (if er = 0 then bs else []))

theorem encodeEntry_c {w : World} {tv : Value} {e : EntryD} (he : e.ok) (hx : Sl w 1 tv e.task.tickets.length (ints e.task.tickets)) (hlt : 0 < e.task.tickets.length → ∀ i ∈ fp tv, i < w.heap.size) (hb : e.task.tickets.length ≤ 1000000000) :
    CallF Try.prog 12 #[.agg (e.cells tv).toArray] w fun r w' => Told w r w' e.enc e.err := by
  obtain ⟨e1, e2, e3, e4, e5, e6⟩ := he
  obtain ⟨A, c, rfl, _⟩ := id hx
  refine C_command_EncodeEntry_link ?_
  unfold C_command_EncodeEntry
  refine box' (l := e.cells (.slice A _ c)) rfl ?_
  intro b1 w1 hb1 hB1 hF1 hsz1
  refine fad (ldA_bk hB1 (by simp [EntryD.cells]) ?_)
  refine alloc_n (n := 24) (by kernel_rfl) ?_
  intro b2 w2 l2 hl2 hb2 hB2 hF2 hsz2
  refine store_all hB2 (by kernel_rfl) hl2 (by simp [EntryD.cells]) (by omega) (by simp [EntryD.cells, Value.oneCell']) ?_
  intro w3 hB3 hF3 hsz3
  refine bld_writer (box' (l := [.slice none 0 0, .int .i64 0]) rfl ?_)
  intro p w4 hp hW4 hF4 hsz4
  have hB1' : Bk w4 b1 _ _ := (((hB1.fr hF2 (by simp)).fr hF3 (by simp; omega)).fr hF4 (by simp))
  have hB3' : Bk w4 b2 _ _ := hB3.fr hF4 (by simp)
  have hF : Fr [] w w4 := ((hF1.trans hF2 (by simp)).trans hF3 (by simp; omega)).trans hF4 (by simp)
  have hW : Wr w4 p [] 0 (.slice none 0 0) := ⟨hW4, Own.nil _ _ _, by simp [fp_nil]⟩
  have hfp0 : fp (.slice none 0 0) = [] := rfl
  have n1 : b1 ≠ p := by omega
  have n2 : b2 ≠ p := by omega
  have hsrc : Src w4 p (.slice none 0 0) (.slice A e.task.tickets.length c) e.task.tickets.length (ints e.task.tickets) :=
    ⟨Sl.fr0 hx hF (fun _ i _ => by simp), fun h0 i hi => ⟨Nat.lt_of_lt_of_le (hlt h0 i hi) hF.size, by have := hlt h0 i hi; omega, by simp [fp_nil]⟩⟩
  refine fad (ldC_bk hB1' rfl ?_)
  refine fad (ldC_bk hB1' rfl ?_)
  refine fad (ldC_bk hB1' rfl ?_)
  refine int_lit (l := [e.gap, e.client, e.seq]) e1 hW (by simp) rfl rfl (by omega) ?_
  intro v5 w5 hW5 hs5
  obtain ⟨hB5, hn5⟩ := hs5.bk hB3' n2 (by simp [fp_nil])
  have hsrc5 := hs5.src hsrc
  have l5 := wholes_le [e.gap, e.client, e.seq] 3 (by simp)
  refine fad (ldC_bk hB5 rfl (conv_w ?_))
  have hu : IntKind.u64.wrap e.kind = (u64 e.kind : Int) := by rw [IntKind.wrap_u64, u64]; omega
  rw [hu]
  have hul : u64 e.kind ≤ 18446744073709551615 := by unfold u64; omega
  refine (w_uint hul hW5 (by simp; omega)).use ?_
  rintro _ w6 ⟨rfl, v6, hW6, hs6⟩
  obtain ⟨hB6, hn6⟩ := hs6.bk hB5 n2 hn5
  have hsrc6 := hs6.src hsrc5
  have l6 := (layN_length (u64 e.kind)).2
  refine fad (ldC_bk hB6 rfl ?_)
  refine fad (ldC_bk hB6 rfl ?_)
  refine fad (ldC_bk hB6 rfl ?_)
  refine fad (ldC_bk hB6 rfl ?_)
  refine int_lit (l := [e.id, e.inc, e.beat, e.since]) e3 hW6 (by simp; omega) rfl rfl (by omega) ?_
  intro v7 w7 hW7 hs7
  obtain ⟨hB7, hn7⟩ := hs7.bk hB6 n2 hn6
  have hsrc7 := hs7.src hsrc6
  have l7 := wholes_le [e.id, e.inc, e.beat, e.since] 4 (by simp)
  refine fad (ldA_bk hB7 (by simp [EntryD.cells]) ?_)
  refine (w_queue (a0 := e.q0) (a1 := e.q1) (a2 := e.q2) (a3 := e.q3) (a4 := e.q4) (a5 := e.q5) (a6 := e.q6) e4 hW7 (by simp; omega)).use ?_
  rintro _ w8 ⟨rfl, v8, hW8, hs8⟩
  obtain ⟨hB8, hn8⟩ := hs8.bk hB7 n2 hn7
  have hsrc8 := hs8.src hsrc7
  have l8 := wholes_le e.q 7 (by simp [EntryD.q])
  refine fad (ldA_bk hB8 (by simp [EntryD.cells]) ?_)
  refine (w_node (a0 := e.n0) (a1 := e.n1) (a2 := e.n2) (a3 := e.n3) (a4 := e.n4) e5 hW8 (by simp [EntryD.q] at l8 ⊢; omega)).use ?_
  rintro _ w9 ⟨rfl, v9, hW9, hs9⟩
  obtain ⟨hB9, hn9⟩ := hs9.bk hB8 n2 hn8
  have hsrc9 := hs9.src hsrc8
  have l9 := wholes_le e.n 5 (by simp [EntryD.n])
  refine fad (ldA_bk hB9 (by simp [EntryD.cells]) ?_)
  refine (w_task (t := e.task) (tv := .slice A e.task.tickets.length c) e6 hW9 hsrc9 (by simp [EntryD.q, EntryD.n] at l8 l9 ⊢; omega)).use ?_
  rintro _ w10 ⟨rfl, v10, hW10, hs10⟩
  obtain ⟨hB10, hn10⟩ := hs10.bk hB9 n2 hn9
  have hst : WStep p w4 (.slice none 0 0) w10 v10 := ((((hs5.trans hs6).trans hs7).trans hs8).trans hs9).trans hs10
  have hbs : [] ++ wholes [e.gap, e.client, e.seq] ++ layN (u64 e.kind) ++ wholes [e.id, e.inc, e.beat, e.since] ++ wholes [e.q0, e.q1, e.q2, e.q3, e.q4, e.q5, e.q6] ++ wholes [e.n0, e.n1, e.n2, e.n3, e.n4] ++ e.task.enc = e.enc := by
    simp [EntryD.enc, EntryD.q, EntryD.n]
  rw [hbs] at hW10
  -- the last test
  have fin : ∀ w11 er, Wr w11 p e.enc er v10 → Fr [] w w11 → er = e.err → CallF Try.prog 36 #[.pointer (some ⟨p, 0, none⟩)] w11 fun t61 w62 =>
      Ext t61 0 fun t62 => Ext t61 1 fun t63 => Told w (.tuple #[t62, t63]) w62 e.enc e.err := by
    intro w11 er hW11 hF11 her
    refine (w_done hW11).use ?_
    rintro r w12 ⟨hr, hF12⟩
    subst her
    by_cases h0 : e.err = 0
    · rw [if_pos h0] at hr
      subst hr
      refine ⟨v10, by rw [h0]; rfl, hF11.trans hF12 (by simp), fun i hi => ?_, ?_⟩
      · rcases hst.sub i hi with h | h
        · simp [fp_nil] at h
        · exact Nat.le_trans hF.size h
      · rw [if_pos h0, if_pos h0]; exact hW11.own.fr hF12 (fun i _ => by simp)
    · rw [if_neg h0] at hr
      subst hr
      refine ⟨.slice none 0 0, rfl, hF11.trans hF12 (by simp), fun i hi => by simp [fp_nil] at hi, ?_⟩
      rw [if_neg h0, if_neg h0]; exact Own.nil _ _ _
  have hF10 : Fr [] w w10 := hF.trans hst.fr (fun i hi => by
    rcases List.mem_cons.1 hi with rfl | hi
    · right; omega
    · simp [fp_nil] at hi)
  refine nilC (fad (ldC_bk hW10.blk rfl (eql ?_)))
  by_cases hc : 1024 < e.task.tickets.length
  · have hcnt : cnt e.task.tickets.length 0 = 3 := by simp [cnt, hc]
    have her : (3 : Int) = e.err := by simp [EntryD.err, hc]
    rw [hcnt] at hW10 ⊢
    refine gdF (by simp [isB]) (gdF (by simp [isB]) (gdF (by simp [isB]) (pick_f (by simp) ?_)))
    exact ⟨fun w' => w' = w10, fun w' e => by rw [show w' = w10 from e]; exact fin w10 3 hW10 hF10 her, if_f rfl rfl⟩
  · have hcnt : cnt e.task.tickets.length 0 = 0 := by simp [cnt, hc]
    rw [hcnt] at hW10 ⊢
    refine gdT (by simp [isB]) (fad rfl) (gdT (by simp [isB]) (ldC_bk hB10 rfl rfl) (gdT (by simp [isB]) (lss rfl) (pick_t (by simp) ?_)))
    refine ⟨fun w' => Wr w' p e.enc e.err v10 ∧ Fr [] w w', fun w' ⟨h1, h2⟩ => fin w' _ h1 h2 rfl, if_p (fun h => ?_) (fun h => ?_)⟩
    · have her : e.err = 1 := by simp [EntryD.err, hc]; exact h
      refine nilC (fad (store' hW10.blk (by kernel_rfl) (by simp) rfl ?_))
      intro w11 hb11 hf11 hsz
      rw [her]
      refine ⟨⟨by simpa using hb11, hW10.own.fr hf11 (fun i hi => by simp; intro e; subst e; exact hW10.sep hi), hW10.sep⟩, hF10.trans hf11 (by simp; omega)⟩
    · have her : e.err = 0 := by simp [EntryD.err, hc]; omega
      rw [her]
      exact ⟨hW10, hF10⟩
end Go.Proofs.Ytachignmofpngaa
