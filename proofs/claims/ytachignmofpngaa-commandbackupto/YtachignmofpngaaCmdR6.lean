/- Contracts of package command's reader: things. -/
import Derived.Test.YtachignmofpngaaCmdR5
set_option linter.unusedVariables false
set_option linter.unusedSimpArgs false
set_option maxRecDepth 20000
namespace Go.Proofs.Ytachignmofpngaa
open Go Go.Vc

/-! ### Things: what they are, how they lie in memory, how they are written -/
abbrev DTask := List Int × List Int × Int
abbrev DLease := List Int × List Int × List Int × Bool
abbrev DCmd := Int × List Int × List Int × List Int × DTask
abbrev DEntry := List Int × DCmd
abbrev DAnswer := List Int × List Int × List DLease
abbrev DState := List Int × List (List Int) × List (List Int) × List DTask × List DLease × List (List Int)
def sInts : Shape (List Int) := sInt.list (by decide)
def sTask : Shape DTask := (sInt.rep 5).seq (sInts.seq sInt)
def sLease : Shape DLease := (sInt.rep 3).seq (sInts.seq ((sInt.rep 3).seq sBool))
def sCmd : Shape DCmd := sInt.seq ((sInt.rep 4).seq ((sInt.rep 7).seq ((sInt.rep 5).seq sTask)))
def sEntry : Shape DEntry := (sInt.rep 3).seq sCmd
def sAnswer : Shape DAnswer := (sInt.rep 3).seq (sInts.seq (sLease.list (by decide)))
def sState : Shape DState := (sInt.rep 3).seq (((sInt.rep 7).list (by decide)).seq (((sInt.rep 5).list (by decide)).seq ((sTask.list (by decide)).seq ((sLease.list (by decide)).seq ((sInt.rep 2).list (by decide))))))
def cInts : Codec (List Int) := cInt.list
def cTask : Codec DTask := (cInt.rep 5).seq (cInts.seq cInt)
def cBool : Codec Bool := (cNum 1 4 (by decide) (by decide)).map (fun n => decide (n = 1)) (fun b => if b then 1 else 0) (fun _ => True) (fun b _ => by cases b <;> simp [cNum]) (fun n h => by
  have : n ≤ 1 := h
  have : n = 0 ∨ n = 1 := by omega
  rcases this with rfl | rfl <;> simp)
def cKind : Codec Int := (cNum 9223372036854775807 4 (by decide) (by decide)).map (fun n => (n : Int)) (fun k => k.toNat) (fun k => 0 ≤ k ∧ k ≤ 9223372036854775807) (fun k h => ⟨show k.toNat ≤ 9223372036854775807 by omega, by omega⟩) (fun n h => by
  have : n ≤ 9223372036854775807 := h
  omega)
def cLease : Codec DLease := (cInt.rep 3).seq (cInts.seq ((cInt.rep 3).seq cBool))
def cCmd : Codec DCmd := cKind.seq ((cInt.rep 4).seq ((cInt.rep 7).seq ((cInt.rep 5).seq cTask)))
def cEntry : Codec DEntry := (cInt.rep 3).seq cCmd
def cAnswer : Codec DAnswer := (cInt.rep 3).seq (cInts.seq cLease.list)
def cState : Codec DState := (cInt.rep 3).seq ((cInt.rep 7).list.seq ((cInt.rep 5).list.seq (cTask.list.seq (cLease.list.seq (cInt.rep 2).list))))

theorem decR_I64 {bs : List Nat} (hb : ∀ b ∈ bs, b < 256) : ∀ n s, ∀ y ∈ (decR cInt bs n s).1, -9223372036854775808 ≤ y ∧ y ≤ 9223372036854775807
  | 0, s, y, h => by simp [decR] at h
  | n + 1, s, y, h => by
    rw [decR] at h
    rcases List.mem_cons.1 h with rfl | h
    · exact decI_I64 hb s
    · exact decR_I64 hb n _ y h

/-! ### Reading one thing after another -/
structure Ctx (w0 : World) (p : Nat) (rv : Value) (bs : List Nat) (b : Nat) (T : TypeId) (n : Nat) (w : World) (s : PS) : Prop where
  fr : Fr [p] w0 w
  rd : Rd w p rv bs s
  var : ∃ z, Bk w b T z ∧ z.length = n
  low : w0.heap.size = b
  plt : p < b
  rlt : 0 < bs.length → ∀ i ∈ fp rv, i < b
section
variable {w0 w : World} {p b n : Nat} {rv : Value} {bs : List Nat} {T : TypeId} {s : PS}
theorem ctx_start (n : Nat) (h : Rd w p rv bs s) (hz : (zeroT Try.prog T).map (fun z => z.cells.toList.length) = some n) {k : Value → World → Prop}
    (hk : ∀ b w', Ctx w p rv bs b T n w' s → k (.pointer (some ⟨b, 0, none⟩)) w') : Do Try.prog (Instr.alloc T true (.tuple #[])) w k := by
  refine alloc_n hz ?_
  intro b w' l hl hb hB hF hsz
  exact hk b w' ⟨hF.mono (fun i hi => by simp at hi), h.fresh hF, ⟨l, hB, hl⟩, hb, by rw [← hb]; exact h.blk.lt, fun h0 i hi => by rw [← hb]; exact h.lt h0 i hi⟩
theorem Ctx.go {w' : World} {s' : PS} (c : Ctx w0 p rv bs b T n w s) (hr : Rd w' p rv bs s') (hf : Fr [p] w w') : Ctx w0 p rv bs b T n w' s' := by
  obtain ⟨z, hz, hl⟩ := c.var
  exact ⟨c.fr.t hf, hr, ⟨z, hz.fr hf (by have := c.plt; simp; omega), hl⟩, c.low, c.plt, c.rlt⟩
theorem Ctx.keep {α : Type} {S : Shape α} {cs : List Value} {a : α} {F : List Nat} {w' : World} (c : Ctx w0 p rv bs b T n w s) (h : S.rd w cs a F) (hF : ∀ i ∈ F, b < i) (hf : Fr [p] w w') : S.rd w' cs a F :=
  S.fr h hf (fun i hi => by have := hF i hi; have := c.plt; simp; omega)
theorem Ctx.step {α : Type} {agg : Bool} {S : Shape α} {C : Codec α} {call : World → (Value → World → Prop) → Prop} (hc : RdF agg S C p call) (hm : ∀ w (k k' : Value → World → Prop), call w k → (∀ v w', k v w' → k' v w') → call w k') (c : Ctx w0 p rv bs b T n w s) {k : Value → World → Prop}
    (hk : ∀ cs F w', S.rd w' cs (C.dec bs s).1 F → (∀ i ∈ F, b < i) → Ctx w0 p rv bs b T n w' (C.dec bs s).2 → Fr [p] w w' → k (asV agg cs) w') : call w k := by
  refine hm _ _ _ (hc w rv bs s c.rd) ?_
  rintro r w' ⟨cs, F, rfl, ha, hF, hr, hf⟩
  obtain ⟨z, hz, hl⟩ := c.var
  have := hz.lt
  exact hk cs F w' ha (fun i hi => by have := hF i hi; omega) (c.go hr hf) hf
theorem Ctx.int (c : Ctx w0 p rv bs b T n w s) {k : Value → World → Prop} (hk : ∀ w', Ctx w0 p rv bs b T n w' (decI bs s).2 → Fr [p] w w' → k (.int .i64 (decI bs s).1) w') : CallF Try.prog 78 #[.pointer (some ⟨p, 0, none⟩)] w k :=
  c.step (int_c p) (fun w k k' h hk => h.use hk) (fun cs F w' ha hF c' hf => by obtain ⟨rfl, _⟩ := ha; exact hk w' c' hf)
theorem Ctx.int64 (c : Ctx w0 p rv bs b T n w s) {k : Value → World → Prop} (hk : ∀ w', Ctx w0 p rv bs b T n w' (decI bs s).2 → Fr [p] w w' → k (.int .i64 (decI bs s).1) w') : CallF Try.prog 77 #[.pointer (some ⟨p, 0, none⟩)] w k :=
  c.step (int64_c p) (fun w k k' h hk => h.use hk) (fun cs F w' ha hF c' hf => by obtain ⟨rfl, _⟩ := ha; exact hk w' c' hf)
theorem Ctx.upto (c : Ctx w0 p rv bs b T n w s) {most : Nat} {bad : Int} {k : Value → World → Prop} (hk : ∀ w', Ctx w0 p rv bs b T n w' (decN most bad bs s).2 → Fr [p] w w' → k (.int .u64 (decN most bad bs s).1) w') : CallF Try.prog 100 #[.pointer (some ⟨p, 0, none⟩), .int .u64 most, .int .i64 bad] w k := by
  refine (upto_c c.rd).use ?_
  rintro r w' ⟨rfl, hr, hf⟩
  exact hk w' (c.go hr hf) hf
/-- The end: the parts are put together. -/
theorem Ctx.close (c : Ctx w0 p rv bs b T n w s) {vals : List Value} {parts : List (Nat × Value)} (sizes : List Nat) {k : Value → World → Prop}
    (hp : (placeT Try.prog T).map (fun pl => (List.range' 0 sizes.length).map pl) = some (offs 0 sizes)) (hz : (zeroT Try.prog T).map (fun z => z.cells.toList.length) = some n) (hn : sizes.sum = n) (hf : fieldsOk Try.prog T = true) (hs : sizeT Try.prog T = some n) (h0 : 0 < n)
    (hv : parts = (vals.zipIdx 0).map fun x => (x.2, x.1)) (hl : vals.map (fun v => v.cells.toList.length) = sizes) (h1 : ∀ v ∈ vals, ∀ u ∈ v.cells.toList, u.oneCell' = true)
    (hk : ∀ w', Rd w' p rv bs s → Fr [p] w0 w' → Fr [b] w w' → k (.agg (vals.flatMap fun v => v.cells.toList).toArray) w') :
    Bld Try.prog T parts fun t => DoU Try.prog (Instr.storeAt T (.pointer (some ⟨b, 0, none⟩)) t) w fun _ w' => LdA (At w') n (.pointer (some ⟨b, 0, none⟩)) fun r => k r w' := by
  obtain ⟨z, hB, hzl⟩ := c.var
  refine built hp hz hn hf hs h0 hv hl h1 hB hzl ?_
  intro w' hF
  have hpl := c.plt
  exact hk w' (c.rd.fr hF (by simp; omega) (fun h0 i hi => by have := c.rlt h0 i hi; simp; omega)) (c.fr.trans hF (fun i hi => .inr (by have := c.low; simp at hi; omega))) hF
end
theorem keepB {α : Type} {S : Shape α} {cs : List Value} {a : α} {F : List Nat} {w w' : World} {b : Nat} (h : S.rd w cs a F) (hF : ∀ i ∈ F, b < i) (hf : Fr [b] w w') : S.rd w' cs a F :=
  S.fr h hf (fun i hi => by have := hF i hi; simp; omega)
theorem mono_F {f : FuncId} {args : Array Value} (w : World) (k k' : Value → World → Prop) (h : CallF Try.prog f args w k) (hk : ∀ v w', k v w' → k' v w') : CallF Try.prog f args w k' := h.mono hk

/-! ### Things of whole numbers -/
theorem vec_c (p : Nat) : RdF true (sInt.rep 2) (cInt.rep 2) p fun w k => CallF Try.prog 106 #[.pointer (some ⟨p, 0, none⟩)] w k := by
  intro w v bs s h
  refine C_command_reader_vec_link ?_
  unfold C_command_reader_vec
  refine ctx_start 2 h (by kernel_rfl) fun b w1 c1 => ?_
  refine c1.int64 fun w2 c2 f2 => ?_
  refine c2.int64 fun w3 c3 f3 => ?_
  refine c3.close (vals := [.int .i64 _, .int .i64 _]) [1, 1] (by kernel_rfl) (by kernel_rfl) rfl (by kernel_rfl) (by kernel_rfl) (by decide) rfl rfl (by simp [Value.cells, Value.oneCell']) ?_
  intro w4 hr hF hb
  exact ⟨_, [], rfl, ⟨decR_length cInt bs 2 s, rows_ints.2 ⟨rfl, rfl, decR_I64 h.byte 2 s⟩⟩, by simp, hr, hF⟩
theorem hunger_c (p : Nat) : RdF true (sInt.rep 2) (cInt.rep 2) p fun w k => CallF Try.prog 94 #[.pointer (some ⟨p, 0, none⟩)] w k := by
  intro w v bs s h
  refine C_command_reader_hunger_link ?_
  unfold C_command_reader_hunger
  refine ctx_start 2 h (by kernel_rfl) fun b w1 c1 => ?_
  refine c1.int fun w2 c2 f2 => ?_
  refine c2.int64 fun w3 c3 f3 => ?_
  refine c3.close (vals := [.int .i64 _, .int .i64 _]) [1, 1] (by kernel_rfl) (by kernel_rfl) rfl (by kernel_rfl) (by kernel_rfl) (by decide) rfl rfl (by simp [Value.cells, Value.oneCell']) ?_
  intro w4 hr hF hb
  exact ⟨_, [], rfl, ⟨decR_length cInt bs 2 s, rows_ints.2 ⟨rfl, rfl, decR_I64 h.byte 2 s⟩⟩, by simp, hr, hF⟩
theorem node_c (p : Nat) : RdF true (sInt.rep 5) (cInt.rep 5) p fun w k => CallF Try.prog 90 #[.pointer (some ⟨p, 0, none⟩)] w k := by
  intro w v bs s h
  refine C_command_reader_node_link ?_
  unfold C_command_reader_node
  refine ctx_start 5 h (by kernel_rfl) fun b w1 c1 => ?_
  refine c1.int fun w2 c2 f2 => ?_
  refine c2.int fun w3 c3 f3 => ?_
  refine c3.int64 fun w4 c4 f4 => ?_
  refine c4.int fun w5 c5 f5 => ?_
  refine c5.int fun w6 c6 f6 => ?_
  refine c6.close (vals := [.int .i64 _, .int .i64 _, .int .i64 _, .int .i64 _, .int .i64 _]) [1, 1, 1, 1, 1] (by kernel_rfl) (by kernel_rfl) rfl (by kernel_rfl) (by kernel_rfl) (by decide) rfl rfl (by simp [Value.cells, Value.oneCell']) ?_
  intro w7 hr hF hb
  exact ⟨_, [], rfl, ⟨decR_length cInt bs 5 s, rows_ints.2 ⟨rfl, rfl, decR_I64 h.byte 5 s⟩⟩, by simp, hr, hF⟩
theorem Ctx.vec {w0 w : World} {p b n : Nat} {rv : Value} {bs : List Nat} {T : TypeId} {s : PS} (c : Ctx w0 p rv bs b T n w s) {k : Value → World → Prop} (hk : ∀ w', Ctx w0 p rv bs b T n w' (decR cInt bs 2 s).2 → Fr [p] w w' → k (.agg #[.int .i64 (decI bs s).1, .int .i64 (decI bs (decI bs s).2).1]) w') : CallF Try.prog 106 #[.pointer (some ⟨p, 0, none⟩)] w k := by
  refine c.step (vec_c p) mono_F (fun cs F w' ha hF c' hf => ?_)
  obtain ⟨rfl, _⟩ := rows_ints.1 ha.2
  exact hk w' c' hf
theorem queue_c (p : Nat) : RdF true (sInt.rep 7) (cInt.rep 7) p fun w k => CallF Try.prog 88 #[.pointer (some ⟨p, 0, none⟩)] w k := by
  intro w v bs s h
  refine C_command_reader_queue_link ?_
  unfold C_command_reader_queue
  refine ctx_start 7 h (by kernel_rfl) fun b w1 c1 => ?_
  refine c1.int fun w2 c2 f2 => ?_
  refine c2.int fun w3 c3 f3 => ?_
  refine c3.int64 fun w4 c4 f4 => ?_
  refine c4.vec fun w5 c5 f5 => ?_
  refine c5.vec fun w6 c6 f6 => ?_
  refine c6.close (vals := [.int .i64 _, .int .i64 _, .int .i64 _, .agg #[.int .i64 _, .int .i64 _], .agg #[.int .i64 _, .int .i64 _]]) [1, 1, 1, 2, 2] (by kernel_rfl) (by kernel_rfl) rfl (by kernel_rfl) (by kernel_rfl) (by decide) rfl rfl (by simp [Value.cells, Value.oneCell']) ?_
  intro w7 hr hF hb
  exact ⟨_, [], rfl, ⟨decR_length cInt bs 7 s, rows_ints.2 ⟨rfl, rfl, decR_I64 h.byte 7 s⟩⟩, by simp, hr, hF⟩

/-! ### Things with lists -/
theorem one_of {α : Type} {agg : Bool} {S : Shape α} {C : Codec α} {p : Nat} {f : FuncId} (h : RdF agg S C p fun w k => CallF Try.prog f #[.pointer (some ⟨p, 0, none⟩)] w k) : OneC agg S C p (.func (.func f) #[.pointer (some ⟨p, 0, none⟩)] #[]) :=
  fun w v bs s hr => callV_of (h w v bs s hr)
theorem Ctx.ints {w0 w : World} {p b n : Nat} {rv : Value} {bs : List Nat} {T : TypeId} {s : PS} (c : Ctx w0 p rv bs b T n w s) {k : Value → World → Prop}
    (hk : ∀ A m c' F w', sInts.rd w' [.slice A m c'] (cInts.dec bs s).1 F → (∀ i ∈ F, b < i) → Ctx w0 p rv bs b T n w' (cInts.dec bs s).2 → Fr [p] w w' → k (.slice A m c') w') :
    CallF Try.prog 82 #[.pointer (some ⟨p, 0, none⟩), .func (.func 78) #[.pointer (some ⟨p, 0, none⟩)] #[]] w k := by
  refine all_int_c (S := sInt) (C := cInt) rfl (one_of (int_c p)) rfl c.rd ?_
  intro r w' F hr hF hrd hf
  obtain ⟨z, hz, hl⟩ := c.var
  have := hz.lt
  obtain ⟨A, m, c', rfl⟩ : ∃ A m c', r = .slice A m c' := by
    obtain ⟨v, cells, G, e, hcap, ⟨A, c', rfl, _⟩, _⟩ := hr
    exact ⟨A, _, c', (List.cons.inj e).1⟩
  exact hk A m c' F w' hr (fun i hi => by have := hF i hi; omega) (c.go hrd hf) hf
theorem task_c (p : Nat) : RdF true sTask cTask p fun w k => CallF Try.prog 92 #[.pointer (some ⟨p, 0, none⟩)] w k := by
  intro w v bs s h
  refine C_command_reader_task_link ?_
  unfold C_command_reader_task
  refine ctx_start 7 h (by kernel_rfl) fun b w1 c1 => ?_
  refine c1.int fun w2 c2 f2 => ?_
  refine c2.int fun w3 c3 f3 => ?_
  refine c3.vec fun w4 c4 f4 => ?_
  refine c4.int fun w5 c5 f5 => ?_
  refine c5.ints fun A m c' F w6 ha hFa c6 f6 => ?_
  refine c6.int fun w7 c7 f7 => ?_
  refine c7.close (vals := [.int .i64 _, .int .i64 _, .agg #[.int .i64 _, .int .i64 _], .int .i64 _, .slice A m c', .int .i64 _]) [1, 1, 2, 1, 1, 1] (by kernel_rfl) (by kernel_rfl) rfl (by kernel_rfl) (by kernel_rfl) (by decide) rfl rfl (by simp [Value.cells, Value.oneCell']) ?_
  intro w8 hr hF hb
  have ha8 := keepB (c6.keep ha hFa f7) hFa hb
  refine ⟨[.int .i64 _, .int .i64 _, .int .i64 _, .int .i64 _, .int .i64 _] ++ ([.slice A m c'] ++ [.int .i64 _]), F, rfl, ⟨[.int .i64 _, .int .i64 _, .int .i64 _, .int .i64 _, .int .i64 _], [.slice A m c'] ++ [.int .i64 _], [], F, rfl, rfl, ⟨decR_length cInt bs 5 s, rows_ints.2 ⟨rfl, rfl, decR_I64 h.byte 5 s⟩⟩, ⟨[.slice A m c'], _, F, [], rfl, by simp, ha8, ⟨rfl, rfl, decI_I64 h.byte _⟩⟩⟩, fun i hi => ?_, hr, hF⟩
  have := hFa i hi; have := c1.low; omega
theorem Ctx.task {w0 w : World} {p b n : Nat} {rv : Value} {bs : List Nat} {T : TypeId} {s : PS} (c : Ctx w0 p rv bs b T n w s) {k : Value → World → Prop}
    (hk : ∀ cs F w', sTask.rd w' cs (cTask.dec bs s).1 F → (∀ i ∈ F, b < i) → Ctx w0 p rv bs b T n w' (cTask.dec bs s).2 → Fr [p] w w' → k (.agg cs.toArray) w') :
    CallF Try.prog 92 #[.pointer (some ⟨p, 0, none⟩)] w k :=
  c.step (task_c p) mono_F hk
theorem Ctx.queue {w0 w : World} {p b n : Nat} {rv : Value} {bs : List Nat} {T : TypeId} {s : PS} (c : Ctx w0 p rv bs b T n w s) {k : Value → World → Prop} (hk : ∀ w', Ctx w0 p rv bs b T n w' (decR cInt bs 7 s).2 → Fr [p] w w' → k (.agg ((decR cInt bs 7 s).1.map (Value.int .i64)).toArray) w') : CallF Try.prog 88 #[.pointer (some ⟨p, 0, none⟩)] w k := by
  refine c.step (queue_c p) mono_F (fun cs F w' ha hF c' hf => ?_)
  obtain ⟨rfl, _⟩ := rows_ints.1 ha.2
  exact hk w' c' hf
theorem Ctx.node {w0 w : World} {p b n : Nat} {rv : Value} {bs : List Nat} {T : TypeId} {s : PS} (c : Ctx w0 p rv bs b T n w s) {k : Value → World → Prop} (hk : ∀ w', Ctx w0 p rv bs b T n w' (decR cInt bs 5 s).2 → Fr [p] w w' → k (.agg ((decR cInt bs 5 s).1.map (Value.int .i64)).toArray) w') : CallF Try.prog 90 #[.pointer (some ⟨p, 0, none⟩)] w k := by
  refine c.step (node_c p) mono_F (fun cs F w' ha hF c' hf => ?_)
  obtain ⟨rfl, _⟩ := rows_ints.1 ha.2
  exact hk w' c' hf
theorem decR_rd {bs : List Nat} (hb : ∀ b ∈ bs, b < 256) (w : World) (n : Nat) (s : PS) : (sInt.rep n).rd w ((decR cInt bs n s).1.map (Value.int .i64)) (decR cInt bs n s).1 [] :=
  ⟨decR_length cInt bs n s, rows_ints.2 ⟨rfl, rfl, decR_I64 hb n s⟩⟩
theorem cells_map (l : List Int) : (Value.agg (l.map (Value.int .i64)).toArray).cells.toList = l.map (Value.int .i64) := rfl
theorem cells_agg (l : List Value) : (Value.agg l.toArray).cells.toList = l := rfl
theorem seq_rd {α β : Type} {S : Shape α} {T : Shape β} {w : World} {c1 c2 : List Value} {F1 F2 : List Nat} {a : α} {b : β} (h1 : S.rd w c1 a F1) (h2 : T.rd w c2 b F2) : (S.seq T).rd w (c1 ++ c2) (a, b) (F1 ++ F2) := ⟨c1, c2, F1, F2, rfl, rfl, h1, h2⟩
theorem int_rd {bs : List Nat} (hb : ∀ b ∈ bs, b < 256) (w : World) (s : PS) : sInt.rd w [.int .i64 (decI bs s).1] (decI bs s).1 [] := ⟨rfl, rfl, decI_I64 hb s⟩
theorem bool_rd (w : World) (n : Nat) : sBool.rd w [.bool (decide ((n : Int) = 1))] (decide (n = 1)) [] := ⟨by simp only [List.cons.injEq, Value.bool.injEq, and_true]; congr 1; exact propext (by omega), rfl⟩
theorem lease_c (p : Nat) : RdF true sLease cLease p fun w k => CallF Try.prog 84 #[.pointer (some ⟨p, 0, none⟩)] w k := by
  intro w v bs s h
  refine C_command_reader_lease_link ?_
  unfold C_command_reader_lease
  refine ctx_start 8 h (by kernel_rfl) fun b w1 c1 => ?_
  refine c1.int fun w2 c2 f2 => ?_
  refine c2.int fun w3 c3 f3 => ?_
  refine c3.int fun w4 c4 f4 => ?_
  refine c4.ints fun A m c' F w5 ha hFa c5 f5 => ?_
  refine c5.int64 fun w6 c6 f6 => ?_
  refine c6.int64 fun w7 c7 f7 => ?_
  refine c7.int64 fun w8 c8 f8 => ?_
  refine c8.upto (most := 1) (bad := 4) fun w9 c9 f9 => ?_
  refine eql ?_
  refine c9.close (vals := [.int .i64 _, .int .i64 _, .int .i64 _, .slice A m c', .int .i64 _, .int .i64 _, .int .i64 _, .bool _]) [1, 1, 1, 1, 1, 1, 1, 1] (by kernel_rfl) (by kernel_rfl) rfl (by kernel_rfl) (by kernel_rfl) (by decide) rfl rfl (by simp [Value.cells, Value.oneCell']) ?_
  intro w10 hr hF hb
  have ha10 := keepB (c5.keep ha hFa (((f6.t f7).t f8).t f9)) hFa hb
  refine ⟨_, _, ?_, seq_rd (decR_rd h.byte w10 3 s) (seq_rd ha10 (seq_rd (decR_rd h.byte w10 3 _) (bool_rd w10 _))), fun i hi => ?_, hr, hF⟩
  · rfl
  · have := hFa i (by simpa using hi); have := c1.low; omega
theorem command_c (p : Nat) : RdF true sCmd cCmd p fun w k => CallF Try.prog 79 #[.pointer (some ⟨p, 0, none⟩)] w k := by
  intro w v bs s h
  refine C_command_reader_command_link ?_
  unfold C_command_reader_command
  refine ctx_start 24 h (by kernel_rfl) fun b w1 c1 => ?_
  refine c1.upto (most := 9223372036854775807) (bad := 4) fun w2 c2 f2 => ?_
  have hk : (decN 9223372036854775807 4 bs s).1 ≤ 9223372036854775807 := by
    unfold decN
    split
    · simp
    · split
      · simp
      · rename_i h1 h2
        by_cases h3 : (getN bs s.pos).2.2 = 0
        · simp only; omega
        · simp only; rw [getN_err _ _ h3]; omega
  refine conv_i64 (by omega) ?_
  refine c2.int fun w3 c3 f3 => ?_
  refine c3.int fun w4 c4 f4 => ?_
  refine c4.int fun w5 c5 f5 => ?_
  refine c5.int64 fun w6 c6 f6 => ?_
  refine c6.queue fun w7 c7 f7 => ?_
  refine c7.node fun w8 c8 f8 => ?_
  refine c8.task fun cs F w9 ha hFa c9 f9 => ?_
  have hcl : cs.length = 7 := sTask.len ha
  refine c9.close (vals := [.int .i64 _, .int .i64 _, .int .i64 _, .int .i64 _, .int .i64 _, .agg _, .agg _, .agg cs.toArray]) [1, 1, 1, 1, 1, 7, 5, 7] (by kernel_rfl) (by kernel_rfl) rfl (by kernel_rfl) (by kernel_rfl) (by decide) rfl ?_ ?_ ?_
  · simp only [List.map_cons, List.map_nil, cells_agg, hcl]
    rfl
  · intro u hu
    simp only [List.mem_cons, List.not_mem_nil, or_false] at hu
    rcases hu with rfl | rfl | rfl | rfl | rfl | rfl | rfl | rfl
    any_goals (simp [Value.cells, Value.oneCell']; done)
    any_goals (rw [cells_agg]; exact sTask.one ha)
    all_goals (rw [cells_agg]; intro x hx; obtain ⟨y, _, rfl⟩ := List.mem_map.1 hx; rfl)
  intro w10 hr hF hb
  have ha10 := keepB ha hFa hb
  refine ⟨_, _, ?_,
    seq_rd (show sInt.rd w10 [.int .i64 ((decN 9223372036854775807 4 bs s).1 : Int)] ((decN 9223372036854775807 4 bs s).1 : Int) [] from ⟨rfl, rfl, by omega⟩) (seq_rd (decR_rd h.byte w10 4 _) (seq_rd (decR_rd h.byte w10 7 _) (seq_rd (decR_rd h.byte w10 5 _) ha10))), fun i hi => ?_, hr, hF⟩
  · rw [asV_agg]
    simp only [List.flatMap_cons, List.flatMap_nil, cells_agg, List.append_nil]
    rfl
  · have := hFa i (by simpa using hi); have := c1.low; omega
theorem entry_c (p : Nat) : RdF true sEntry cEntry p fun w k => CallF Try.prog 44 #[.pointer (some ⟨p, 0, none⟩)] w k := by
  intro w v bs s h
  refine C_command_reader_entry_link ?_
  unfold C_command_reader_entry
  refine ctx_start 27 h (by kernel_rfl) fun b w1 c1 => ?_
  refine c1.int64 fun w2 c2 f2 => ?_
  refine c2.int fun w3 c3 f3 => ?_
  refine c3.int fun w4 c4 f4 => ?_
  refine c4.step (command_c p) mono_F fun cs F w5 ha hFa c5 f5 => ?_
  rw [asV_agg]
  have hcl : cs.length = 24 := sCmd.len ha
  refine c5.close (vals := [.int .i64 _, .int .i64 _, .int .i64 _, .agg cs.toArray]) [1, 1, 1, 24] (by kernel_rfl) (by kernel_rfl) rfl (by kernel_rfl) (by kernel_rfl) (by decide) rfl ?_ ?_ ?_
  · simp only [List.map_cons, List.map_nil, cells_agg, hcl]
    rfl
  · intro u hu
    simp only [List.mem_cons, List.not_mem_nil, or_false] at hu
    rcases hu with rfl | rfl | rfl | rfl
    any_goals (simp [Value.cells, Value.oneCell']; done)
    · rw [cells_agg]; exact sCmd.one ha
  intro w6 hr hF hb
  refine ⟨_, _, ?_, seq_rd (decR_rd h.byte w6 3 s) (keepB ha hFa hb), fun i hi => ?_, hr, hF⟩
  · rw [asV_agg]
    simp only [List.flatMap_cons, List.flatMap_nil, cells_agg, List.append_nil]
    rfl
  · have := hFa i (by simpa using hi); have := c1.low; omega
end Go.Proofs.Ytachignmofpngaa
