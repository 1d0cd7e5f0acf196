/- Contracts of the reference's functions that compare and copy: furlongref01.Bytes, Ints, furlongref10.SameTask, SameEntry, TwinTask, TwinEntry. -/
import Derived.Test.YtachignmofpngaaRefW2
set_option linter.unusedVariables false
set_option linter.unusedSimpArgs false
set_option maxRecDepth 20000
set_option synthInstance.maxSize 1000
namespace Go.Proofs.Ytachignmofpngaa
open Go Go.Vc

/-! ### Tests joined by && -/
section
variable {P : Program} {w : World} {b : Bool} {k : Value → Prop} {T : TypeId} {cx cy : Bool} {bx ox o bY oy o' : Nat} {Tx Ty : TypeId} {lx ly : List Value}
theorem and_int {κ : IntKind} {i j : Int} (hx : Bk w bx Tx lx) (h1 : lx[ox + o]? = some (.int κ i)) (hy : Bk w bY Ty ly) (h2 : ly[oy + o']? = some (.int κ j)) (hk : k (.bool (b && decide (i = j)))) :
    GdP (isB (.bool b) true) (fun R => FAd o (.pointer (some ⟨bx, ox, none⟩)) R) fun t1 => GdP (isB (.bool b) true) (fun R => LdC (At w) t1 R) fun t2 =>
    GdP (isB (.bool b) true) (fun R => FAd o' (.pointer (some ⟨bY, oy, none⟩)) R) fun t3 => GdP (isB (.bool b) true) (fun R => LdC (At w) t3 R) fun t4 =>
    GdP (isB (.bool b) true) (fun R => Bin P (At w) .eql T cx cy t2 t4 R) fun t5 => Pick (.bool b) t5 (.bool false) k := by
  cases b with
  | true => exact gdT rfl (fad rfl) (gdT rfl (ldC_bk hx h1 rfl) (gdT rfl (fad rfl) (gdT rfl (ldC_bk hy h2 rfl) (gdT rfl (eql rfl) (pick_t rfl (by simpa using hk))))))
  | false => exact gdF rfl (gdF rfl (gdF rfl (gdF rfl (gdF rfl (pick_f rfl (by simpa using hk))))))
theorem and_agg {n : Nat} {l l' : List Int} (hf : flat P 10000 T = some n) (ha : isAggT P T = true) (hg : P.eqGuardType P.depth T = false) (hx : Bk w bx Tx lx) (h1 : (lx.drop (ox + o)).take n = ints64 l) (hl : l.length = n) (hy : Bk w bY Ty ly) (h2 : (ly.drop (oy + o')).take n = ints64 l') (hl' : l'.length = n)
    (hk : k (.bool (b && decide (l = l')))) :
    GdP (isB (.bool b) true) (fun R => FAd o (.pointer (some ⟨bx, ox, none⟩)) R) fun t1 => GdP (isB (.bool b) true) (fun R => LdA (At w) n t1 R) fun t2 =>
    GdP (isB (.bool b) true) (fun R => FAd o' (.pointer (some ⟨bY, oy, none⟩)) R) fun t3 => GdP (isB (.bool b) true) (fun R => LdA (At w) n t3 R) fun t4 =>
    GdP (isB (.bool b) true) (fun R => Bin P (At w) .eql T cx cy t2 t4 R) fun t5 => Pick (.bool b) t5 (.bool false) k := by
  have e1 : ox + o + n ≤ lx.length ∨ n = 0 := by
    have := congrArg List.length h1
    simp [ints64, hl] at this; omega
  have e2 : oy + o' + n ≤ ly.length ∨ n = 0 := by
    have := congrArg List.length h2
    simp [ints64, hl'] at this; omega
  cases b with
  | true =>
    refine gdT rfl (fad rfl) (gdT (v := .agg (ints64 l).toArray) rfl ⟨ints64 l, by simp [ints64, hl], fun w' e j v hj => ?_, rfl⟩ (gdT rfl (fad rfl) (gdT (v := .agg (ints64 l').toArray) rfl ⟨ints64 l', by simp [ints64, hl'], fun w' e j v hj => ?_, rfl⟩ (gdT rfl (eq_ints hf ha hg hl hl' rfl) (pick_t rfl (by simpa using hk))))))
    · rw [show w' = w from e, ← h1] at *; exact Cells.of_bk hx (ox + o) n j v hj
    · rw [show w' = w from e, ← h2] at *; exact Cells.of_bk hy (oy + o') n j v hj
  | false => exact gdF rfl (gdF rfl (gdF rfl (gdF rfl (gdF rfl (pick_f rfl (by simpa using hk))))))
end

theorem bytes_c {w : World} {x y : Value} {a b : List Nat} (hx : Sl w 1 x a.length (bytes a)) (ha : ∀ c ∈ a, c < 256) (hy : Sl w 1 y b.length (bytes b)) (hb : ∀ c ∈ b, c < 256) :
    CallF Try.prog 14 #[x, y] w fun r w' => r = .bool (decide (a = b)) ∧ w' = w := by
  refine C_furlongref01_Bytes_link ?_
  unfold C_furlongref01_Bytes
  refine do_bytes_string Try.underlying37 (by kernel_rfl) (by kernel_rfl) hx ha ?_
  refine do_bytes_string Try.underlying37 (by kernel_rfl) (by kernel_rfl) hy hb ?_
  refine eq_str ⟨?_, rfl⟩
  congr 1
  rw [decide_eq_decide]
  exact strOf_inj ha hb

theorem ints_c {w : World} {x y : Value} {a b : List Int} (hx : Sl w 1 x a.length (ints a)) (hy : Sl w 1 y b.length (ints b)) (ha : a.length ≤ 1000000000000) :
    CallF Try.prog 55 #[x, y] w fun r w' => r = .bool (decide (a = b)) ∧ Fr [] w w' := by
  refine C_furlongref01_Ints_link ?_
  unfold C_furlongref01_Ints
  refine hx.lenV (hy.lenV (neq (if_p (fun h => ?_) (fun h => ?_))))
  · refine ⟨?_, Fr.refl _ _⟩
    congr 1; symm; rw [decide_eq_false_iff_not]; intro e; exact h (by rw [e])
  have hlen : a.length = b.length := by omega
  refine hx.lenV ?_
  refine ⟨fun m t i w' => ∃ j : Nat, j + m = a.length ∧ i = .int .i64 j ∧ a.take j = b.take j ∧ Fr [] w w', a.length, ⟨0, by omega, rfl, by simp, Fr.refl _ _⟩, ?_⟩
  rintro m t i w1 ⟨j, hj, rfl, he, hf⟩
  refine lss (if_p (fun hlt => ?_) (fun hge => ?_))
  · have hja : j < a.length := by omega
    have hjb : j < b.length := by omega
    have hx1 : Sl w1 1 x a.length (ints a) := hx.fr1 hf (fun _ i _ => by simp)
    have hy1 : Sl w1 1 y b.length (ints b) := hy.fr1 hf (fun _ i _ => by simp)
    refine ⟨fun w' => Sl w' 1 x a.length (ints a) ∧ Sl w' 1 y b.length (ints b), ⟨hx1.fr1 (Fr.drew [] w1) (fun _ i _ => by simp), hy1.fr1 (Fr.drew [] w1) (fun _ i _ => by simp)⟩, ?_⟩
    refine ix1S (u := .int .i64 a[j]) (fun w' h => h.1) hx1 hja (by simp [ints, hja]) ?_
    refine ix1S (u := .int .i64 b[j]) (fun w' h => h.2) hy1 hjb (by simp [ints, hjb]) ?_
    refine neq (if_p (fun h => ?_) (fun h => ?_))
    · refine ⟨?_, hf.t (Fr.drew [] w1)⟩
      congr 1; symm; rw [decide_eq_false_iff_not]; intro e; subst e; exact h rfl
    · refine add64 (by omega) ⟨m - 1, by omega, j + 1, by omega, by congr 1, ?_, hf.t (Fr.drew [] w1)⟩
      rw [List.take_succ_eq_append_getElem hja, List.take_succ_eq_append_getElem hjb, he]
      have : a[j] = b[j] := Decidable.byContradiction h
      rw [this]
  · refine ⟨?_, hf⟩
    rw [List.take_of_length_le (by omega), List.take_of_length_le (by omega)] at he
    congr 1; symm; rw [decide_eq_true_iff]; exact he

/-! ### Things as tuples of lists -/
def TaskD.toD (t : TaskD) : DTask := ([t.id, t.q, t.cpu, t.mem, t.work], t.tickets, t.state)
def EntryD.toD (e : EntryD) : DEntry := ([e.gap, e.client, e.seq], e.kind, [e.id, e.inc, e.beat, e.since], e.q, e.n, e.task.toD)
theorem task_rd {w : World} {t : TaskD} {tv : Value} (ht : t.ok) (hx : Sl w 1 tv t.tickets.length (ints t.tickets)) (hc : capOk tv) : ∃ F, sTask.rd w (t.cells tv) t.toD F ∧ ∀ i ∈ F, i ∈ fp tv ∧ 0 < t.tickets.length := by
  obtain ⟨h1, h2, h3⟩ := ht
  have := seq_rd (S := sInt.rep 5) (T := sInts.seq sInt) (w := w) (c1 := ints [t.id, t.q, t.cpu, t.mem, t.work]) (F1 := []) (a := [t.id, t.q, t.cpu, t.mem, t.work]) ⟨rfl, rows_ints.2 ⟨rfl, rfl, h1⟩⟩
    (seq_rd (c1 := [tv]) (F1 := (if t.tickets = [] then [] else fp tv) ++ []) (a := t.tickets) (c2 := [.int .i64 t.state]) (F2 := []) (b := t.state) ⟨tv, ints t.tickets, [], rfl, hc, hx, rows_ints.2 ⟨rfl, rfl, h2⟩, rfl⟩ ⟨rfl, rfl, h3⟩)
  refine ⟨_, this, fun i hi => ?_⟩
  simp only [List.nil_append, List.append_nil] at hi
  split at hi
  · simp at hi
  · rename_i hne
    exact ⟨hi, List.length_pos_iff.2 hne⟩
theorem entry_rd {w : World} {e : EntryD} {tv : Value} (he : e.ok) (hx : Sl w 1 tv e.task.tickets.length (ints e.task.tickets)) (hc : capOk tv) : ∃ F, sEntry.rd w (e.cells tv) e.toD F ∧ ∀ i ∈ F, i ∈ fp tv ∧ 0 < e.task.tickets.length := by
  obtain ⟨e1, e2, e3, e4, e5, e6⟩ := he
  obtain ⟨F, hF1, hF2⟩ := task_rd e6 hx hc
  have := seq_rd (S := sInt.rep 3) (T := sCmd) (w := w) (c1 := ints [e.gap, e.client, e.seq]) (F1 := []) (a := [e.gap, e.client, e.seq]) ⟨rfl, rows_ints.2 ⟨rfl, rfl, e1⟩⟩
    (seq_rd (c1 := [.int .i64 e.kind]) (F1 := []) (a := e.kind) ⟨rfl, rfl, e2⟩ (seq_rd (c1 := ints [e.id, e.inc, e.beat, e.since]) (F1 := []) (a := [e.id, e.inc, e.beat, e.since]) ⟨rfl, rows_ints.2 ⟨rfl, rfl, e3⟩⟩
    (seq_rd (c1 := ints e.q) (F1 := []) (a := e.q) ⟨rfl, rows_ints.2 ⟨rfl, rfl, e4⟩⟩ (seq_rd (c1 := ints e.n) (F1 := []) (a := e.n) ⟨rfl, rows_ints.2 ⟨rfl, rfl, e5⟩⟩ hF1))))
  exact ⟨_, this, hF2⟩
theorem of_task_rd {w : World} {cs : List Value} {d : DTask} {F : List Nat} (h : sTask.rd w cs d F) : ∃ t tv, cs = TaskD.cells t tv ∧ t.toD = d ∧ t.ok ∧ Sl w 1 tv t.tickets.length (ints t.tickets) ∧ capOk tv ∧ (0 < t.tickets.length → ∀ i ∈ fp tv, i ∈ F) := by
  obtain ⟨c1, c2, F1, F2, rfl, rfl, ⟨hl, hr⟩, c3, c4, F3, F4, rfl, rfl, ⟨tv, cells, G, rfl, hcap, hsl, hrows, rfl⟩, rfl, rfl, hst⟩ := h
  obtain ⟨d1, d2, d3⟩ := d
  obtain ⟨rfl, rfl, h1⟩ := rows_ints.1 hr
  obtain ⟨rfl, rfl, h2⟩ := rows_ints.1 hrows
  simp only at *
  match d1, hl with
  | [a0, a1, a2, a3, a4], _ =>
    refine ⟨⟨a0, a1, a2, a3, a4, d2, d3⟩, tv, rfl, rfl, ⟨h1, h2, hst⟩, hsl, hcap, fun h0 i hi => ?_⟩
    have : d2 ≠ [] := by intro e; rw [e] at h0; simp at h0
    simp [this, hi]
theorem of_entry_rd {w : World} {cs : List Value} {d : DEntry} {F : List Nat} (h : sEntry.rd w cs d F) : ∃ e tv, cs = EntryD.cells e tv ∧ e.toD = d ∧ e.ok ∧ Sl w 1 tv e.task.tickets.length (ints e.task.tickets) ∧ capOk tv ∧ (0 < e.task.tickets.length → ∀ i ∈ fp tv, i ∈ F) := by
  obtain ⟨c1, c2, F1, F2, rfl, rfl, ⟨hl1, hr1⟩, c3, c4, F3, F4, rfl, rfl, ⟨rfl, rfl, hk⟩, c5, c6, F5, F6, rfl, rfl, ⟨hl2, hr2⟩, c7, c8, F7, F8, rfl, rfl, ⟨hl3, hr3⟩, c9, c10, F9, F10, rfl, rfl, ⟨hl4, hr4⟩, ht⟩ := h
  obtain ⟨d1, d2, d3, d4, d5, d6⟩ := d
  obtain ⟨t, tv, rfl, rfl, ht1, ht2, ht3, ht4⟩ := of_task_rd ht
  obtain ⟨rfl, rfl, h1⟩ := rows_ints.1 hr1
  obtain ⟨rfl, rfl, h2⟩ := rows_ints.1 hr2
  obtain ⟨rfl, rfl, h3⟩ := rows_ints.1 hr3
  obtain ⟨rfl, rfl, h4⟩ := rows_ints.1 hr4
  simp only at *
  match d1, hl1, d3, hl2, d4, hl3, d5, hl4 with
  | [a0, a1, a2], _, [b0, b1, b2, b3], _, [q0, q1, q2, q3, q4, q5, q6], _, [n0, n1, n2, n3, n4], _ =>
    exact ⟨⟨a0, a1, a2, d2, b0, b1, b2, b3, q0, q1, q2, q3, q4, q5, q6, n0, n1, n2, n3, n4, t⟩, tv, rfl, rfl, ⟨h1, hk, h2, h3, h4, ht1⟩, ht2, ht3, fun h0 i hi => by simp [ht4 h0 i hi]⟩

theorem sameTask_c {w : World} {t t' : TaskD} {tv tv' : Value} (hx : Sl w 1 tv t.tickets.length (ints t.tickets)) (hy : Sl w 1 tv' t'.tickets.length (ints t'.tickets)) (hb : t.tickets.length ≤ 1000000000000) :
    CallF Try.prog 42 #[.agg (t.cells tv).toArray, .agg (t'.cells tv').toArray] w fun r w' => r = .bool (decide (t.toD = t'.toD)) ∧ Fr [] w w' := by
  obtain ⟨A, c, rfl, _⟩ := id hx
  obtain ⟨A', c', rfl, _⟩ := id hy
  refine C_furlongref10_SameTask_link ?_
  unfold C_furlongref10_SameTask
  refine box' (l := t.cells (.slice A _ c)) rfl ?_
  intro b1 w1 hb1 hB1 hF1 hs1
  refine box' (l := t'.cells (.slice A' _ c')) rfl ?_
  intro b2 w2 hb2 hB2 hF2 hs2
  have hB1' := hB1.fr hF2 (by simp)
  refine fad (ldC_bk hB1' rfl (fad (ldC_bk hB2 rfl (eql ?_))))
  refine and_int hB1' rfl hB2 rfl ?_
  refine and_agg (n := 2) (l := [t.cpu, t.mem]) (l' := [t'.cpu, t'.mem]) (by kernel_rfl) (by kernel_rfl) (by kernel_rfl) hB1' rfl rfl hB2 rfl rfl ?_
  refine and_int hB1' rfl hB2 rfl ?_
  refine and_int hB1' rfl hB2 rfl ?_
  have hF : Fr [] w w2 := hF1.t hF2
  generalize hq : (decide (t.id = t'.id) && decide (t.q = t'.q) && decide ([t.cpu, t.mem] = [t'.cpu, t'.mem]) && decide (t.work = t'.work) && decide (t.state = t'.state)) = q
  have e : decide (t.toD = t'.toD) = (q && decide (t.tickets = t'.tickets)) := by
    rw [← hq, Bool.eq_iff_iff]
    simp only [TaskD.toD, Prod.mk.injEq, List.cons.injEq, Bool.and_eq_true, decide_eq_true_eq]
    constructor
    · rintro ⟨⟨h1, h2, h3, h4, h5, _⟩, h6, h7⟩; exact ⟨⟨⟨⟨⟨h1, h2⟩, h3, h4, trivial⟩, h5⟩, h7⟩, h6⟩
    · rintro ⟨⟨⟨⟨⟨h1, h2⟩, h3, h4, _⟩, h5⟩, h7⟩, h6⟩; exact ⟨⟨h1, h2, h3, h4, h5, trivial⟩, h6, h7⟩
  rw [e]
  cases q with
  | true =>
    refine gdT rfl (fad rfl) (gdT rfl (ldC_bk hB1' rfl rfl) (gdT rfl (fad rfl) (gdT rfl (ldC_bk hB2 rfl rfl) (gT rfl ((ints_c (hx.fr1 hF (fun _ i _ => by simp)) (hy.fr1 hF (fun _ i _ => by simp)) hb).use ?_)))))
    rintro _ w3 ⟨rfl, hF3⟩
    exact pick_t rfl ⟨by simp, hF.t hF3⟩
  | false =>
    exact gdF rfl (gdF rfl (gdF rfl (gdF rfl (gF rfl (pick_f rfl ⟨by simp, hF⟩)))))
theorem sameEntry_c {w : World} {e e' : EntryD} {tv tv' : Value} (hx : Sl w 1 tv e.task.tickets.length (ints e.task.tickets)) (hy : Sl w 1 tv' e'.task.tickets.length (ints e'.task.tickets)) (hb : e.task.tickets.length ≤ 1000000000000) :
    CallF Try.prog 15 #[.agg (e.cells tv).toArray, .agg (e'.cells tv').toArray] w fun r w' => r = .bool (decide (e.toD = e'.toD)) ∧ Fr [] w w' := by
  obtain ⟨A, c, rfl, _⟩ := id hx
  obtain ⟨A', c', rfl, _⟩ := id hy
  refine C_furlongref10_SameEntry_link ?_
  unfold C_furlongref10_SameEntry
  refine box' (l := e.cells (.slice A e.task.tickets.length c)) rfl ?_
  intro b1 w1 hb1 hB1 hF1 hs1
  refine box' (l := e'.cells (.slice A' e'.task.tickets.length c')) rfl ?_
  intro b2 w2 hb2 hB2 hF2 hs2
  have hB1' := hB1.fr hF2 (by simp)
  have hF : Fr [] w w2 := hF1.t hF2
  refine ⟨fun x y w3 => ∃ b3 b4, x = .pointer (some ⟨b3, 0, none⟩) ∧ y = .pointer (some ⟨b4, 0, none⟩) ∧ Bk w3 b1 34 (e.cells (.slice A e.task.tickets.length c)) ∧ Bk w3 b2 34 (e'.cells (.slice A' e'.task.tickets.length c')) ∧
    Bk w3 b3 32 ((e.cells (.slice A e.task.tickets.length c)).drop 3) ∧ Bk w3 b4 32 ((e'.cells (.slice A' e'.task.tickets.length c')).drop 3) ∧ Fr [] w w3, ?_, ?_⟩
  · rintro _ _ w3 ⟨b3, b4, rfl, rfl, h1, h2, h3, h4, hf⟩
    refine fad (ldC_bk h1 rfl (fad (ldC_bk h2 rfl (eql ?_))))
    refine and_int h1 rfl h2 rfl ?_
    refine and_int h1 rfl h2 rfl ?_
    refine and_int h3 rfl h4 rfl ?_
    refine and_int h3 rfl h4 rfl ?_
    refine and_int h3 rfl h4 rfl ?_
    refine and_int h3 rfl h4 rfl ?_
    refine and_int h3 rfl h4 rfl ?_
    refine and_agg (n := 7) (l := e.q) (l' := e'.q) (by kernel_rfl) (by kernel_rfl) (by kernel_rfl) h3 rfl rfl h4 rfl rfl ?_
    refine and_agg (n := 5) (l := e.n) (l' := e'.n) (by kernel_rfl) (by kernel_rfl) (by kernel_rfl) h3 rfl rfl h4 rfl rfl ?_
    generalize hq : (decide (e.gap = e'.gap) && decide (e.client = e'.client) && decide (e.seq = e'.seq) && decide (e.kind = e'.kind) && decide (e.id = e'.id) && decide (e.inc = e'.inc) && decide (e.beat = e'.beat) && decide (e.since = e'.since) && decide (e.q = e'.q) && decide (e.n = e'.n)) = q
    have ee : decide (e.toD = e'.toD) = (q && decide (e.task.toD = e'.task.toD)) := by
      rw [← hq, Bool.eq_iff_iff]
      simp only [EntryD.toD, Prod.mk.injEq, List.cons.injEq, Bool.and_eq_true, decide_eq_true_eq]
      constructor
      · rintro ⟨⟨h1, h2, h3, _⟩, h4, ⟨h5, h6, h7, h8, _⟩, h9, h10, h11⟩; exact ⟨⟨⟨⟨⟨⟨⟨⟨⟨⟨h1, h2⟩, h3⟩, h4⟩, h5⟩, h6⟩, h7⟩, h8⟩, h9⟩, h10⟩, h11⟩
      · rintro ⟨⟨⟨⟨⟨⟨⟨⟨⟨⟨h1, h2⟩, h3⟩, h4⟩, h5⟩, h6⟩, h7⟩, h8⟩, h9⟩, h10⟩, h11⟩; exact ⟨⟨h1, h2, h3, trivial⟩, h4, ⟨h5, h6, h7, h8, trivial⟩, h9, h10, h11⟩
    rw [ee]
    cases q with
    | true =>
      refine gdT rfl (fad rfl) (gdT rfl (ldA_bk h3 (by simp [EntryD.cells]) rfl) (gdT rfl (fad rfl) (gdT rfl (ldA_bk h4 (by simp [EntryD.cells]) rfl) (gT rfl ?_))))
      refine (sameTask_c (t := e.task) (t' := e'.task) (tv := .slice A e.task.tickets.length c) (tv' := .slice A' e'.task.tickets.length c') (hx.fr1 hf (fun _ i _ => by simp)) (hy.fr1 hf (fun _ i _ => by simp)) hb).use ?_
      rintro _ w4 ⟨rfl, hF4⟩
      exact pick_t rfl ⟨by simp, hf.t hF4⟩
    | false =>
      exact gdF rfl (gdF rfl (gdF rfl (gdF rfl (gF rfl (pick_f rfl ⟨by simp, hf⟩)))))
  · refine ⟨fun w' => Bk w' b1 34 (e.cells (.slice A e.task.tickets.length c)) ∧ Bk w' b2 34 (e'.cells (.slice A' e'.task.tickets.length c')), ⟨hB1'.drew, hB2.drew⟩, ?_⟩
    refine fad (ldA_S (fun w' h => h.1) (by simp [EntryD.cells]) (fad (ldA_S (fun w' h => h.2) (by simp [EntryD.cells]) ?_)))
    have hFd : Fr [] w (World.drew w2) := hF.t (Fr.drew [] w2)
    have l1 := hB1'.lt
    have l2 := hB2.lt
    have hd : (World.drew w2).heap.size = w2.heap.size := rfl
    refine ⟨?_, ?_⟩
    · refine alloc_n (n := 24) (by kernel_rfl) ?_
      intro b3 w3 z3 hz3 hb3 hB3 hF3 hs3
      refine ⟨⟨hB1'.drew.fr hF3 (by simp), hB2.drew.fr hF3 (by simp)⟩, ?_⟩
      refine alloc_n (n := 24) (by kernel_rfl) ?_
      intro b4 w4 z4 hz4 hb4 hB4 hF4 hs4
      refine ⟨⟨(hB1'.drew.fr hF3 (by simp)).fr hF4 (by simp), (hB2.drew.fr hF3 (by simp)).fr hF4 (by simp)⟩, ?_⟩
      refine store_all (hB3.fr hF4 (by simp)) (by kernel_rfl) hz3 (by simp [EntryD.cells]) (by omega) (by simp [EntryD.cells, Value.oneCell']) ?_
      intro w5 hB5 hF5 hs5
      refine ⟨⟨((hB1'.drew.fr hF3 (by simp)).fr hF4 (by simp)).fr hF5 (by simp; omega), ((hB2.drew.fr hF3 (by simp)).fr hF4 (by simp)).fr hF5 (by simp; omega)⟩, ?_⟩
      refine store_all (hB4.fr hF5 (by simp; omega)) (by kernel_rfl) hz4 (by simp [EntryD.cells]) (by omega) (by simp [EntryD.cells, Value.oneCell']) ?_
      intro w6 hB6 hF6 hs6
      refine ⟨b3, b4, rfl, rfl, (((hB1'.drew.fr hF3 (by simp)).fr hF4 (by simp)).fr hF5 (by simp; omega)).fr hF6 (by simp; omega), (((hB2.drew.fr hF3 (by simp)).fr hF4 (by simp)).fr hF5 (by simp; omega)).fr hF6 (by simp; omega), hB5.fr hF6 (by simp; omega), hB6, ?_⟩
      have hw := hF.size
      exact (((hFd.t hF3).t hF4).trans hF5 (fun i hi => .inr (by simp at hi; omega))).trans hF6 (fun i hi => .inr (by simp at hi; omega))
    · refine alloc_n (n := 24) (by kernel_rfl) ?_
      intro b3 w3 z3 hz3 hb3 hB3 hF3 hs3
      refine ⟨⟨hB1'.drew.fr hF3 (by simp), hB2.drew.fr hF3 (by simp)⟩, ?_⟩
      refine alloc_n (n := 24) (by kernel_rfl) ?_
      intro b4 w4 z4 hz4 hb4 hB4 hF4 hs4
      refine ⟨⟨(hB1'.drew.fr hF3 (by simp)).fr hF4 (by simp), (hB2.drew.fr hF3 (by simp)).fr hF4 (by simp)⟩, ?_⟩
      refine store_all hB4 (by kernel_rfl) hz4 (by simp [EntryD.cells]) (by omega) (by simp [EntryD.cells, Value.oneCell']) ?_
      intro w5 hB5 hF5 hs5
      refine ⟨⟨((hB1'.drew.fr hF3 (by simp)).fr hF4 (by simp)).fr hF5 (by simp; omega), ((hB2.drew.fr hF3 (by simp)).fr hF4 (by simp)).fr hF5 (by simp; omega)⟩, ?_⟩
      refine store_all ((hB3.fr hF4 (by simp)).fr hF5 (by simp; omega)) (by kernel_rfl) hz3 (by simp [EntryD.cells]) (by omega) (by simp [EntryD.cells, Value.oneCell']) ?_
      intro w6 hB6 hF6 hs6
      refine ⟨b4, b3, rfl, rfl, (((hB1'.drew.fr hF3 (by simp)).fr hF4 (by simp)).fr hF5 (by simp; omega)).fr hF6 (by simp; omega), (((hB2.drew.fr hF3 (by simp)).fr hF4 (by simp)).fr hF5 (by simp; omega)).fr hF6 (by simp; omega), hB5.fr hF6 (by simp; omega), hB6, ?_⟩
      have hw := hF.size
      exact (((hFd.t hF3).t hF4).trans hF5 (fun i hi => .inr (by simp at hi; omega))).trans hF6 (fun i hi => .inr (by simp at hi; omega))

theorem ints_one (l : List Int) : ∀ u ∈ ints l, u.oneCell' = true := fun u hu => by obtain ⟨_, _, rfl⟩ := List.mem_map.1 hu; rfl
theorem twinTask_c {w : World} {t : TaskD} {tv : Value} (hx : Sl w 1 tv t.tickets.length (ints t.tickets)) (hb : t.tickets.length ≤ 1000000000) :
    CallF Try.prog 30 #[.agg (t.cells tv).toArray] w fun r w' => ∃ tv', r = .agg (t.cells tv').toArray ∧ New w w' 3 1 tv' t.tickets.length (ints t.tickets) := by
  obtain ⟨A, c, rfl, _⟩ := id hx
  refine C_furlongref10_TwinTask_link ?_
  unfold C_furlongref10_TwinTask
  refine box' (l := t.cells (.slice A _ c)) rfl ?_
  intro b1 w1 hb1 hB1 hF1 hs1
  refine alloc_n (n := 7) (by kernel_rfl) ?_
  intro b2 w2 l2 hl2 hb2 hB2 hF2 hs2
  refine lit_new (vs := []) Try.underlying28 infoInt rfl rfl rfl (by omega) (by simp) ?_
  intro v3 w3 hN3
  have hB13 := (hB1.fr hF2 (by simp)).fr hN3.fr (by simp)
  have hF3 : Fr [] w w3 := (hF1.t hF2).t hN3.fr
  refine fad (ldC_bk hB13 rfl ?_)
  refine append' hN3 Try.underlying28 infoInt rfl (by omega) (hx.fr1 hF3 (fun _ i _ => by simp)) (ints_one _) (by omega) (by omega) ?_
  intro v4 w4 hN4 hf4 hs4
  rw [Nat.zero_add, List.nil_append] at hN4
  obtain ⟨A4, c4, rfl⟩ := hN4.own.len
  have hB14 := (hB1.fr hF2 (by simp)).fr hN4.fr (by simp)
  have hB24 := hB2.fr hN4.fr (by simp)
  refine fad (store' hB14 (by kernel_rfl) (by simp [TaskD.cells]) rfl ?_)
  intro w5 hB5 hF5 hs5
  have hN5 := (New.base (hF1.t hF2) hN4).step hF5 (fun i hi => by simp at hi; omega) (fun i hi => by have := hN4.new i hi; simp; omega)
  refine ldA_bk hB5 (by simp [TaskD.cells]) ?_
  refine store_all (hB24.fr hF5 (by simp; omega)) (by kernel_rfl) hl2 (by simp [TaskD.cells]) (by omega) (by simp [TaskD.cells, Value.oneCell']) ?_
  intro w6 hB6 hF6 hs6
  have hN6 := hN5.step hF6 (fun i hi => by simp at hi; omega) (fun i hi => by have := hN4.new i hi; simp; omega)
  refine ldA_bk hB6 (by simp [TaskD.cells]) ?_
  exact ⟨_, rfl, hN6⟩
theorem twinEntry_c {w : World} {e : EntryD} {tv : Value} (hx : Sl w 1 tv e.task.tickets.length (ints e.task.tickets)) (hb : e.task.tickets.length ≤ 1000000000) :
    CallF Try.prog 11 #[.agg (e.cells tv).toArray] w fun r w' => ∃ tv', r = .agg (e.cells tv').toArray ∧ New w w' 3 1 tv' e.task.tickets.length (ints e.task.tickets) := by
  obtain ⟨A, c, rfl, _⟩ := id hx
  refine C_furlongref10_TwinEntry_link ?_
  unfold C_furlongref10_TwinEntry
  refine box' (l := e.cells (.slice A _ c)) rfl ?_
  intro b1 w1 hb1 hB1 hF1 hs1
  refine alloc_n (n := 27) (by kernel_rfl) ?_
  intro b2 w2 l2 hl2 hb2 hB2 hF2 hs2
  refine fad (fad (ldA_bk (hB1.fr hF2 (by simp)) (by simp [EntryD.cells]) ?_))
  have hF12 := hF1.t hF2
  refine (twinTask_c (t := e.task) (tv := .slice A _ c) (hx.fr1 hF12 (fun _ i _ => by simp)) hb).use ?_
  rintro _ w3 ⟨tv', rfl, hN3⟩
  obtain ⟨A3, c3, rfl⟩ := hN3.own.len
  have hB13 := (hB1.fr hF2 (by simp)).fr hN3.fr (by simp)
  have hB23 := hB2.fr hN3.fr (by simp)
  refine fad (fad (store_agg' (n := 7) (vs := e.task.cells (.slice A3 e.task.tickets.length c3)) hB13 (by kernel_rfl) rfl (by omega) (by simp [EntryD.cells]) (by simp [TaskD.cells, Value.oneCell']) ?_))
  intro w4 hB4 hF4 hs4
  replace hB4 : Bk w4 b1 34 (e.cells (.slice A3 e.task.tickets.length c3)) := hB4
  have hN4 := (New.base hF12 hN3).step hF4 (fun i hi => by simp at hi; omega) (fun i hi => by have := hN3.new i hi; simp; omega)
  refine ldA_bk hB4 (by simp [EntryD.cells]) ?_
  refine store_all (hB23.fr hF4 (by simp; omega)) (by kernel_rfl) hl2 (by simp [EntryD.cells]) (by omega) (by simp [EntryD.cells, Value.oneCell']) ?_
  intro w5 hB5 hF5 hs5
  have hN5 := hN4.step hF5 (fun i hi => by simp at hi; omega) (fun i hi => by have := hN3.new i hi; simp; omega)
  refine ldA_bk hB5 (by simp [EntryD.cells]) ?_
  exact ⟨_, rfl, hN5⟩
end Go.Proofs.Ytachignmofpngaa
