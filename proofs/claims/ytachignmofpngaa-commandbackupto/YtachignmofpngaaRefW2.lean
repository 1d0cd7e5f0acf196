/- Contracts of the reference's functions that write things: furlongref10.put, count, numbers, queue, node, task, Entry. -/
import Derived.Test.YtachignmofpngaaRefW
import Derived.Test.YtachignmofpngaaCmdW2
set_option linter.unusedVariables false
set_option linter.unusedSimpArgs false
set_option maxRecDepth 20000
namespace Go.Proofs.Ytachignmofpngaa
open Go Go.Vc

/-- A row of bytes that has been made since w0. -/
abbrev Row (w0 w : World) (v : Value) (bs : List Nat) : Prop := New w0 w 5 1 v bs.length (bytes bs)
theorem row_nil (w : World) : Row w w (.slice none 0 0) [] := New.nil w _ 1
/-- 'append(b, x...)', x read. -/
theorem row_append {w0 w : World} {v x : Value} {bs l : List Nat} {k : Value → World → Prop} (hN : Row w0 w v bs) (hx : Sl w 1 x l.length (bytes l)) (hb : bs.length + l.length ≤ 140737488355328)
    (h : ∀ v' w', Row w0 w' v' (bs ++ l) → Fr (fp v) w w' → (∀ i ∈ fp v', i ∈ fp v ∨ w.heap.size ≤ i) → k v' w') : Do Try.prog (Builtin.append_ #[37, 37] 37 #[v, x]) w k := by
  refine append' hN Try.underlying37 infoB rfl (by omega) hx (bytes_one l) (by omega) (by omega) ?_
  intro v' w' h1 h2 h3
  refine h v' w' ?_ h2 h3
  rw [← bytes_append, ← List.length_append] at h1
  exact h1

/-- A loop that appends a whole number's bytes for each of a list. -/
theorem put_c {w0 w : World} {v x : Value} {bs : List Nat} {l : List Int} (hl : ∀ y ∈ l, I64 y) (hN : Row w0 w v bs) (hx : Sl w 1 x l.length (ints l)) (hxv : 0 < l.length → ∀ i ∈ fp x, i < w.heap.size ∧ i ∉ fp v) (hb : bs.length + 9 * l.length ≤ 100000000000) :
    CallF Try.prog 37 #[v, x] w fun r w' => Row w0 w' r (bs ++ wholes l) ∧ Fr (fp v) w w' ∧ (∀ i ∈ fp r, i ∈ fp v ∨ w.heap.size ≤ i) := by
  refine C_furlongref10_put_link ?_
  unfold C_furlongref10_put
  refine hx.lenV ?_
  refine ⟨fun m b i w' => ∃ j : Nat, j + m = l.length ∧ i = .int .i64 j ∧ Row w0 w' b (bs ++ wholes (l.take j)) ∧ Fr (fp v) w w' ∧ (∀ i ∈ fp b, i ∈ fp v ∨ w.heap.size ≤ i), l.length, ⟨0, by omega, rfl, by simpa [wholes] using hN, Fr.refl _ _, fun i hi => .inl hi⟩, ?_⟩
  rintro m b i w1 ⟨j, hj, rfl, hN1, hf1, hs1⟩
  refine lss (if_p (fun hlt => ?_) (fun hge => ?_))
  · have hjl : j < l.length := by omega
    have hx1 : Sl w1 1 x l.length (ints l) := hx.fr1 hf1 (fun h0 i hi => (hxv h0 i hi).2)
    have hlen := wholes_length (l.take j)
    have hlen2 := (wholeN_length l[j]).2
    rw [List.length_take, Nat.min_eq_left (by omega)] at hlen
    refine ix1 hx1 hjl (u := .int .i64 l[j]) (by simp [ints, hjl]) ?_
    refine (whole_c (hl _ (List.getElem_mem hjl)) w1).use ?_
    intro t w2 hNt
    refine row_append (hN1.fresh hNt.fr) hNt.own.sl (by rw [List.length_append]; omega) ?_
    intro v3 w3 hN3 hf3 hs3
    refine add64 (by omega) ⟨m - 1, by omega, j + 1, by omega, by congr 1, ?_, ?_, ?_⟩
    · have e : wholes (l.take (j + 1)) = wholes (l.take j) ++ wholeN l[j] := by
        rw [List.take_succ_eq_append_getElem hjl, wholes_append]; simp [wholes]
      rw [e, ← List.append_assoc]
      exact hN3
    · exact (hf1.trans hNt.fr (fun i hi => by simp at hi)).trans hf3 (fun i hi => hs1 i hi)
    · have := hf1.size
      have := hNt.fr.size
      exact fun i hi => (hs3 i hi).elim (hs1 i) (fun h => .inr (by omega))
  · have e : l.take j = l := List.take_of_length_le (by omega)
    rw [e] at hN1
    exact ⟨hN1, hf1, hs1⟩
theorem infoL : (Try.prog.info? 2).map (fun i => (i.zero, i.size, i.bytes)) = some (some (.int .i64 0), 1, 8) := infoI
/-- 'put(b, []int64{..})'. -/
theorem put_lit {w0 w : World} {v : Value} {bs : List Nat} {l : List Int} {n : Nat} {parts : Array (Nat × Value)} {k : Value → World → Prop} (hl : ∀ y ∈ l, I64 y) (hN : Row w0 w v bs) (hb : bs.length + 9 * l.length ≤ 100000000000)
    (hp : parts = (((ints l).zipIdx 0).map fun x => (x.2, x.1)).toArray) (hn : l.length = n) (hle : n ≤ 1000000)
    (h : ∀ v' w', Row w0 w' v' (bs ++ wholes l) → k v' w') : Do Try.prog (Instr.buildSlice 81 n parts) w fun s w1 => CallF Try.prog 37 #[v, s] w1 k := by
  refine lit' Try.underlying81 infoI rfl hp (by rw [ints_length]; exact hn) (by omega) (fun v hv => by obtain ⟨_, _, rfl⟩ := List.mem_map.1 hv; rfl) ?_
  intro b w1 hb1 hB hF hsz
  subst hn
  refine (put_c hl (hN.fresh hF) (hB.sl (ints_length l) _) (fun _ i hi => ?_) hb).use ?_
  · simp [fp_some] at hi
    subst hi
    exact ⟨hB.lt, fun hm => by have := hN.own.lt i hm; omega⟩
  · rintro r w2 ⟨hN2, _, _⟩
    exact h r w2 hN2
theorem count_c {n : Nat} (hn : n ≤ 100000000000) (w : World) : CallF Try.prog 73 #[.int .i64 n] w fun r w' => Row w w' r (layN n) := by
  refine C_furlongref10_count_link ?_
  unfold C_furlongref10_count
  refine conv_u64 (by omega) ((num_c (by omega) w).use fun r w' h => h)
theorem numbers_c {w : World} {x : Value} {l : List Int} (hl : ∀ y ∈ l, I64 y) (hx : Sl w 1 x l.length (ints l)) (hxv : 0 < l.length → ∀ i ∈ fp x, i < w.heap.size) (hb : l.length ≤ 10000000000) :
    CallF Try.prog 65 #[x] w fun r w' => Row w w' r (listN l) := by
  refine C_furlongref10_numbers_link ?_
  unfold C_furlongref10_numbers
  refine hx.lenV ((count_c (by omega) w).use ?_)
  intro v w1 hN1
  have h9 := (layN_length l.length).2
  have hx1 : Sl w1 1 x l.length (ints l) := hx.fr1 hN1.fr (fun _ i _ => by simp)
  refine hx1.lenV ?_
  refine ⟨fun m b i w' => ∃ j : Nat, j + m = l.length ∧ i = .int .i64 j ∧ Row w w' b (layN l.length ++ wholes (l.take j)), l.length, ⟨0, by omega, rfl, by simpa [wholes] using hN1⟩, ?_⟩
  rintro m b i w2 ⟨j, hj, rfl, hN2⟩
  refine lss (if_p (fun hlt => ?_) (fun hge => ?_))
  · have hjl : j < l.length := by omega
    have hx2 : Sl w2 1 x l.length (ints l) := hx.fr1 hN2.fr (fun _ i _ => by simp)
    have hlen := wholes_length (l.take j)
    have hlen2 := (wholeN_length l[j]).2
    rw [List.length_take, Nat.min_eq_left (by omega)] at hlen
    refine ix1 hx2 hjl (u := .int .i64 l[j]) (by simp [ints, hjl]) ?_
    refine (whole_c (hl _ (List.getElem_mem hjl)) w2).use ?_
    intro t w3 hNt
    refine row_append (hN2.fresh hNt.fr) hNt.own.sl (by rw [List.length_append]; omega) ?_
    intro v3 w4 hN4 _ _
    refine add64 (by omega) ⟨m - 1, by omega, j + 1, by omega, by congr 1, ?_⟩
    have e : wholes (l.take (j + 1)) = wholes (l.take j) ++ wholeN l[j] := by
      rw [List.take_succ_eq_append_getElem hjl, wholes_append]; simp [wholes]
    rw [e, ← List.append_assoc]
    exact hN4
  · have e : l.take j = l := List.take_of_length_le (by omega)
    rw [e] at hN2
    exact hN2

theorem rqueue_c {w : World} {a0 a1 a2 a3 a4 a5 a6 : Int} : CallF Try.prog 39 #[.agg (ints [a0, a1, a2, a3, a4, a5, a6]).toArray] w fun r w' => New w w' 2 1 r 7 (ints [a0, a1, a2, a3, a4, a5, a6]) := by
  refine C_furlongref10_queue_link ?_
  unfold C_furlongref10_queue
  refine box' (l := ints [a0, a1, a2, a3, a4, a5, a6]) rfl ?_
  intro b w1 hb1 hB hF hsz
  refine fad (ldC_bk hB rfl ?_)
  refine fad (ldC_bk hB rfl ?_)
  refine fad (ldC_bk hB rfl ?_)
  refine fad (fad (ldC_bk hB rfl ?_))
  refine fad (fad (ldC_bk hB rfl ?_))
  refine fad (fad (ldC_bk hB rfl ?_))
  refine fad (fad (ldC_bk hB rfl ?_))
  refine lit_new (vs := ints [a0, a1, a2, a3, a4, a5, a6]) Try.underlying81 infoI rfl rfl rfl (by omega) (by simp [ints, Value.cells]) ?_
  intro v w2 hN
  exact ⟨hN.own, hF.t hN.fr, fun i hi => by have := hN.new i hi; omega⟩
theorem rnode_c {w : World} {a0 a1 a2 a3 a4 : Int} : CallF Try.prog 40 #[.agg (ints [a0, a1, a2, a3, a4]).toArray] w fun r w' => New w w' 2 1 r 5 (ints [a0, a1, a2, a3, a4]) := by
  refine C_furlongref10_node_link ?_
  unfold C_furlongref10_node
  refine box' (l := ints [a0, a1, a2, a3, a4]) rfl ?_
  intro b w1 hb1 hB hF hsz
  refine fad (ldC_bk hB rfl ?_)
  refine fad (ldC_bk hB rfl ?_)
  refine fad (ldC_bk hB rfl ?_)
  refine fad (ldC_bk hB rfl ?_)
  refine fad (ldC_bk hB rfl ?_)
  refine lit_new (vs := ints [a0, a1, a2, a3, a4]) Try.underlying81 infoI rfl rfl rfl (by omega) (by simp [ints, Value.cells]) ?_
  intro v w2 hN
  exact ⟨hN.own, hF.t hN.fr, fun i hi => by have := hN.new i hi; omega⟩
/-- put of what was just made. -/
theorem put_new {w0 w w1 : World} {v x : Value} {bs : List Nat} {l : List Int} {n : Nat} {k : Value → World → Prop} (hl : ∀ y ∈ l, I64 y) (hN : Row w0 w v bs) (hx : New w w1 2 1 x n (ints l)) (hn : l.length = n) (hb : bs.length + 9 * l.length ≤ 100000000000)
    (h : ∀ v' w', Row w0 w' v' (bs ++ wholes l) → k v' w') : CallF Try.prog 37 #[v, x] w1 k := by
  subst hn
  refine (put_c hl (hN.fresh hx.fr) hx.own.sl (fun _ i hi => ?_) hb).use ?_
  · exact ⟨hx.own.lt i hi, fun hm => by have := hN.own.lt i hm; have := hx.new i hi; omega⟩
  · rintro r w2 ⟨hN2, _, _⟩
    exact h r w2 hN2

theorem rtask_c {w : World} {tv : Value} {t : TaskD} (ht : t.ok) (hx : Sl w 1 tv t.tickets.length (ints t.tickets)) (hlt : 0 < t.tickets.length → ∀ i ∈ fp tv, i < w.heap.size) (hb : t.tickets.length ≤ 1000000000) :
    CallF Try.prog 41 #[.agg (t.cells tv).toArray] w fun r w' => Row w w' r t.enc := by
  obtain ⟨h1, h2, h3⟩ := ht
  obtain ⟨A, c, rfl, _⟩ := id hx
  refine C_furlongref10_task_link ?_
  unfold C_furlongref10_task
  refine box' (l := t.cells (.slice A _ c)) rfl ?_
  intro b w1 hb1 hB hF hsz
  refine fad (ldC_bk hB rfl ?_)
  refine fad (ldC_bk hB rfl ?_)
  refine fad (fad (ldC_bk hB rfl ?_))
  refine fad (fad (ldC_bk hB rfl ?_))
  refine fad (ldC_bk hB rfl ?_)
  have l1 := wholes_le [t.id, t.q, t.cpu, t.mem, t.work] 5 (by simp)
  have l2 := listN_length t.tickets
  have hlen : ([] ++ wholes [t.id, t.q, t.cpu, t.mem, t.work] ++ listN t.tickets).length ≤ 9 * 5 + (9 * t.tickets.length + 9) := by simp only [List.length_append, List.length_nil]; omega
  have hlen0 : ([] ++ wholes [t.id, t.q, t.cpu, t.mem, t.work]).length ≤ 9 * 5 := by simp only [List.nil_append]; omega
  refine put_lit (l := [t.id, t.q, t.cpu, t.mem, t.work]) h1 (row_nil w1) (by simp) rfl rfl (by omega) ?_
  intro v2 w2 hN2
  have hB2 := hB.fr hN2.fr (by simp)
  refine fad (ldC_bk hB2 rfl ?_)
  have hF2 := hF.t hN2.fr
  refine (numbers_c h2 (hx.fr1 hF2 (fun _ i _ => by simp)) (fun h0 i hi => by have := hlt h0 i hi; have := hF2.size; omega) (by omega)).use ?_
  intro v3 w3 hN3
  refine row_append (hN2.fresh hN3.fr) hN3.own.sl (by omega) ?_
  intro v4 w4 hN4 _ _
  have hB4 := hB.fr hN4.fr (by simp)
  refine fad (ldC_bk hB4 rfl ?_)
  refine put_lit (l := [t.state]) (fun y hy => by rw [List.mem_singleton.1 hy]; exact h3) hN4 (by simp only [List.length_singleton]; omega) rfl rfl (by omega) ?_
  intro v5 w5 hN5
  have e : [] ++ wholes [t.id, t.q, t.cpu, t.mem, t.work] ++ listN t.tickets ++ wholes [t.state] = t.enc := by simp [TaskD.enc, wholes_one]
  rw [e] at hN5
  exact ⟨hN5.own, hF.t hN5.fr, fun i hi => by have := hN5.new i hi; omega⟩

theorem rentry_c {w : World} {tv : Value} {e : EntryD} (he : e.ok) (hx : Sl w 1 tv e.task.tickets.length (ints e.task.tickets)) (hlt : 0 < e.task.tickets.length → ∀ i ∈ fp tv, i < w.heap.size) (hb : e.task.tickets.length ≤ 1000000000) :
    CallF Try.prog 13 #[.agg (e.cells tv).toArray] w fun r w' => Told w r w' e.enc e.err := by
  obtain ⟨e1, e2, e3, e4, e5, e6⟩ := he
  obtain ⟨A, c, rfl, _⟩ := id hx
  refine C_furlongref10_Entry_link ?_
  unfold C_furlongref10_Entry
  refine box' (l := e.cells (.slice A _ c)) rfl ?_
  intro b1 w1 hb1 hB1 hF1 hsz1
  refine fad (ldA_bk hB1 (by simp [EntryD.cells]) ?_)
  refine alloc_n (n := 24) (by kernel_rfl) ?_
  intro b2 w2 l2 hl2 hb2 hB2 hF2 hsz2
  refine store_all hB2 (by kernel_rfl) hl2 (by simp [EntryD.cells]) (by omega) (by simp [EntryD.cells, Value.oneCell']) ?_
  intro w3 hB3 hF3 hsz3
  have hB1' : Bk w3 b1 _ _ := (hB1.fr hF2 (by simp)).fr hF3 (by simp; omega)
  have hF : Fr [] w w3 := ((hF1.t hF2).trans hF3 (fun i hi => .inr (by simp at hi; omega)))
  have herr : e.err = if 1024 < e.task.tickets.length then 3 else if e.kind < 0 then 1 else 0 := rfl
  refine fad (fad (ldC_bk hB3 rfl (len (gtr (if_p (fun h => ?_) (fun h => ?_))))))
  · have he : e.err = 3 := by rw [herr, if_pos (by omega)]
    rw [he]
    exact ⟨.slice none 0 0, rfl, hF, fun i hi => by simp [fp_nil] at hi, by rw [if_neg (by decide), if_neg (by decide)]; exact Own.nil _ _ _⟩
  refine fad (ldC_bk hB3 rfl (lss (if_p (fun h' => ?_) (fun h' => ?_))))
  · have he : e.err = 1 := by rw [herr, if_neg (by omega), if_pos h']
    rw [he]
    exact ⟨.slice none 0 0, rfl, hF, fun i hi => by simp [fp_nil] at hi, by rw [if_neg (by decide), if_neg (by decide)]; exact Own.nil _ _ _⟩
  have he : e.err = 0 := by rw [herr, if_neg (by omega), if_neg h']
  rw [he]
  have l1 := wholes_le [e.gap, e.client, e.seq] 3 (by simp)
  have l2 := (layN_length (u64 e.kind)).2
  have l3 := wholes_le [e.id, e.inc, e.beat, e.since] 4 (by simp)
  have l4 := wholes_le e.q 7 (by simp [EntryD.q])
  have l5 := wholes_le e.n 5 (by simp [EntryD.n])
  have l6 : e.task.enc.length ≤ 9 * e.task.tickets.length + 100 := by
    have l1 := wholes_le [e.task.id, e.task.q, e.task.cpu, e.task.mem, e.task.work] 5 (by simp)
    have l2 := listN_length e.task.tickets
    have l3 := (wholeN_length e.task.state).2
    simp only [TaskD.enc, List.length_append]; omega
  refine fad (ldC_bk hB1' rfl ?_)
  refine fad (ldC_bk hB1' rfl ?_)
  refine fad (ldC_bk hB1' rfl ?_)
  refine put_lit (l := [e.gap, e.client, e.seq]) e1 (row_nil w3) (by simp) rfl rfl (by omega) ?_
  intro v4 w4 hN4
  rw [List.nil_append] at hN4
  refine fad (ldC_bk (hB3.fr hN4.fr (by simp)) rfl (conv_w ?_))
  have hu : IntKind.u64.wrap e.kind = (u64 e.kind : Int) := by rw [IntKind.wrap_u64, u64]; omega
  rw [hu]
  have hul : u64 e.kind ≤ 18446744073709551615 := by unfold u64; omega
  refine (num_c hul w4).use ?_
  intro v5 w5 hN5
  refine row_append (hN4.fresh hN5.fr) hN5.own.sl (by omega) ?_
  intro v6 w6 hN6 _ _
  have hB6 := hB3.fr hN6.fr (by simp)
  refine fad (ldC_bk hB6 rfl ?_)
  refine fad (ldC_bk hB6 rfl ?_)
  refine fad (ldC_bk hB6 rfl ?_)
  refine fad (ldC_bk hB6 rfl ?_)
  refine put_lit (l := [e.id, e.inc, e.beat, e.since]) e3 hN6 (by simp only [List.length_append, List.length_cons, List.length_nil]; omega) rfl rfl (by omega) ?_
  intro v7 w7 hN7
  have hB7 := hB3.fr hN7.fr (by simp)
  generalize hbs7 : wholes [e.gap, e.client, e.seq] ++ layN (u64 e.kind) ++ wholes [e.id, e.inc, e.beat, e.since] = bs7 at *
  have ll7 : bs7.length ≤ 200 := by rw [← hbs7]; simp only [List.length_append]; omega
  refine ⟨fun w' => Bk w' b2 32 _, hB7.drew, ?_⟩
  refine fad (ldA_S (fun w' h => h) (by simp [EntryD.cells]) ?_)
  refine fad (ldA_S (fun w' h => h) (by simp [EntryD.cells]) ?_)
  refine (rqueue_c (w := World.drew w7) (a0 := e.q0) (a1 := e.q1) (a2 := e.q2) (a3 := e.q3) (a4 := e.q4) (a5 := e.q5) (a6 := e.q6)).use ?_
  intro v8 w8 hx8
  have hN7d := hN7.fresh (Fr.drew [] w7)
  refine ⟨hB7.drew.fr hx8.fr (by simp), ?_⟩
  refine put_new (l := e.q) (n := 7) e4 hN7d hx8 rfl (by simp [EntryD.q]; omega) ?_
  intro v9 w9 hN9
  refine ⟨hB3.fr hN9.fr (by simp), ?_⟩
  refine (rnode_c (w := w9) (a0 := e.n0) (a1 := e.n1) (a2 := e.n2) (a3 := e.n3) (a4 := e.n4)).use ?_
  intro v10 w10 hx10
  refine ⟨(hB3.fr hN9.fr (by simp)).fr hx10.fr (by simp), ?_⟩
  refine put_new (l := e.n) (n := 5) e5 hN9 hx10 rfl (by simp [EntryD.n]; omega) ?_
  intro v11 w11 hN11
  have hB11 := hB3.fr hN11.fr (by simp)
  refine ⟨hB11, ?_⟩
  refine fad (ldA_bk hB11 (by simp [EntryD.cells]) ?_)
  have hF11 := hF.t hN11.fr
  refine (rtask_c (w := w11) (t := e.task) (tv := .slice A e.task.tickets.length c) e6 (hx.fr1 hF11 (fun _ i _ => by simp)) (fun h0 i hi => by have := hlt h0 i hi; have := hF11.size; omega) hb).use ?_
  intro v12 w12 hN12
  refine row_append (hN11.fresh hN12.fr) hN12.own.sl (by simp only [List.length_append]; omega) ?_
  intro v13 w13 hN13 _ _
  have ee : bs7 ++ wholes e.q ++ wholes e.n ++ e.task.enc = e.enc := by rw [← hbs7]; simp [EntryD.enc]
  rw [ee] at hN13
  refine ⟨v13, rfl, hF.t hN13.fr, fun i hi => by have := hN13.new i hi; have := hF.size; omega, ?_⟩
  rw [if_pos rfl, if_pos rfl]
  exact hN13.own
end Go.Proofs.Ytachignmofpngaa
