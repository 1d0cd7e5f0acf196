/- The contract of the reference's reader: furlongref10.DocEntry. -/
import Derived.Test.YtachignmofpngaaRefR6
set_option linter.unusedVariables false
set_option linter.unusedSimpArgs false
set_option maxRecDepth 20000
namespace Go.Proofs.Ytachignmofpngaa
open Go Go.Vc

/-- 'r, x := f(r)', x a new variable. -/
theorem RC.callv {α : Type} {S : Shape α} {a : α} {w0 w : World} {b : Nat} {v : Value} {bs : List Nat} {s s' : PS} {k : Value → World → Prop} {f : FuncId} {args : Value → Array Value} {T : TypeId} (n : Nat) (hSn : S.size = n) (hzt : (zeroT Try.prog T).map (fun z => z.cells.toList.length) = some n) (hst : sizeT Try.prog T = some n) (h0 : 0 < n)
    (c : RC w0 b v bs w s) (hf : CallF Try.prog f (args (rv v s)) w (Nx v s' w (TQ S w.heap.size s'.err a))) (hp : s'.pos ≤ bs.length)
    (hk : ∀ b' w4 cs a' F, w.heap.size ≤ b' → b' < w4.heap.size → cs.length = n → Bk w4 b' T cs → S.rd w4 cs a' F → (∀ i ∈ F, w.heap.size ≤ i ∧ i ≠ b') → (s'.err = 0 → a' = a) → Fr [b] w w4 → RC w0 b v bs w4 s' → k (.pointer (some ⟨b', 0, none⟩)) w4) :
    LdA (At w) 3 (.pointer (some ⟨b, 0, none⟩)) fun t => CallF Try.prog f (args t) w fun r w1 => Ext r 0 fun t1 => Ext r 1 fun t2 =>
    Do Try.prog (Instr.alloc T true (.tuple #[])) w1 fun q w2 => DoU Try.prog (Instr.storeAt 92 (.pointer (some ⟨b, 0, none⟩)) t1) w2 fun _ w3 => DoU Try.prog (Instr.storeAt T q t2) w3 fun _ w4 => k q w4 := by
  refine ldA_bk c.var (by simp [cellsR]) ?_
  refine CallF.use (Q := Nx v s' w (TQ S w.heap.size s'.err a)) hf ?_
  rintro _ w1 ⟨_, rfl, ⟨cs, a', F, rfl, hrd, hF, ha⟩, hF1⟩
  refine ext0 (ext1 ?_)
  have hlt := S.lt hrd
  have hcl : cs.length = n := by rw [S.len hrd]; exact hSn
  refine alloc_n hzt ?_
  intro b' w2 z hz hb' hB2 hF2 hs2
  have z1 := hF1.size
  have hblt := c.var.lt
  refine ((c.fresh hF1).fresh hF2).set hp ?_
  intro w3 c3 hF3
  refine store_all (hB2.fr hF3 (by simp; omega)) hst hz hcl h0 (S.one hrd) ?_
  intro w4 hB4 hF4 hs4
  have hF12 : Fr [] w w2 := hF1.t hF2
  have hF24 : Fr [b, b'] w2 w4 := (hF3.mono (fun i hi => by simp at hi; simp [hi])).t (hF4.mono (fun i hi => by simp at hi; simp [hi]))
  have hFb : ∀ i ∈ F, w.heap.size ≤ i ∧ i ≠ b' := fun i hi => ⟨hF i hi, by have := hlt i hi; omega⟩
  have hrd4 := S.fr (S.fr hrd hF2 (fun i _ => by simp)) hF24 (fun i hi => by have := hFb i hi; simp; omega)
  have c4 := c3.go hF4 (by simp; omega) (by have := c.new; simp; omega)
  exact hk b' w4 cs a' F (by omega) hB4.lt hcl hB4 hrd4 hFb ha ((hF12.mono (fun i hi => by simp at hi)).trans hF24 (fun i hi => by
    simp at hi
    rcases hi with rfl | rfl
    · left; simp
    · right; omega)) c4

theorem decN_most (most : Nat) (bad : Int) (bs : List Nat) (s : PS) : (decN most bad bs s).1 ≤ most := by
  unfold decN
  split
  · simp
  · split
    · simp
    · rename_i h1 h2
      by_cases h3 : (getN bs s.pos).2.2 = 0
      · simp only; omega
      · simp only; rw [getN_err _ _ h3]; omega
theorem sl_lt {w : World} {v : Value} {n : Nat} {a : Value} {l : List Value} (h : Sl w 1 v n (a :: l)) : ∀ i ∈ fp v, i < w.heap.size := by
  intro i hi
  obtain ⟨A', c', rfl, hl', hn', hc'⟩ := h
  cases A' with
  | none => simp [fp_nil] at hi
  | some b =>
    simp [fp_some] at hi
    subst hi
    have := hc' b rfl 0 a rfl
    have hlt := World.block_lt_of_cell? w _ this
    have hb : (b.add 0).block = b.block := by unfold Addr.add; split <;> rfl
    rwa [hb] at hlt

theorem docEntry_c {w : World} {v : Value} {bs : List Nat} (h : Bs w v bs) : CallF Try.prog 17 #[v] w (Got sEntry cEntry noEntry bs w) := by
  have src := rs_of h
  obtain ⟨A, c, rfl, hrest⟩ := id h.sl
  refine C_furlongref10_DocEntry_link ?_
  unfold C_furlongref10_DocEntry
  refine alloc_n (n := 27) (by kernel_rfl) ?_
  intro bt w1 lt hlt hbt hBt hF1 hs1
  refine bldRead ?_
  refine (rnums_c (n := 3) (src.fr hF1) (s := ⟨0, 0⟩) (Nat.zero_le _) (by omega)).use ?_
  rintro _ w2 ⟨x, rfl, ⟨hx, hxn⟩, hF2⟩
  refine ext0 (ext1 ?_)
  have hI := decR_I64 h.byte 3 ⟨0, 0⟩
  have hdec : cEntry.dec bs ⟨0, 0⟩ = (((decR cInt bs 3 ⟨0, 0⟩).1, (cCmd.dec bs (decR cInt bs 3 ⟨0, 0⟩).2).1), (cCmd.dec bs (decR cInt bs 3 ⟨0, 0⟩).2).2) := rfl
  obtain ⟨a0, a1, a2, hll⟩ := len3 (decR_length cInt bs 3 ⟨0, 0⟩)
  have hpl := (cInt.rep 3).place bs ⟨0, 0⟩ (Nat.zero_le _)
  have hcd : (cInt.rep 3).dec bs ⟨0, 0⟩ = decR cInt bs 3 ⟨0, 0⟩ := rfl
  rw [hcd] at hpl
  generalize (decR cInt bs 3 ⟨0, 0⟩).2 = s1 at *
  rw [hll] at hI hx hdec
  refine rc_alloc src (hF1.t hF2) hpl ?_
  intro b w3 hb c3 hF3
  have z12 := hF2.size
  have z23 := hF3.size
  have hlt3 := c3.var.lt
  have hx3 := hx.fr hF3 (by simp)
  have hBt3 := (hBt.fr hF2 (by simp)).fr hF3 (by simp)
  have hxb : ∀ i ∈ fp x, w1.heap.size ≤ i ∧ i < w2.heap.size := fun i hi => ⟨hxn i hi, sl_lt hx i hi⟩
  -- kind
  have hcm : cCmd.dec bs s1 = ((((decN 9223372036854775807 4 bs s1).1 : Int), ((cInt.rep 4).seq ((cInt.rep 7).seq ((cInt.rep 5).seq cTask))).dec bs (decN 9223372036854775807 4 bs s1).2 |>.1), ((cInt.rep 4).seq ((cInt.rep 7).seq ((cInt.rep 5).seq cTask))).dec bs (decN 9223372036854775807 4 bs s1).2 |>.2) := rfl
  rw [hcm] at hdec
  clear hcm
  have hK := decN_most 9223372036854775807 4 bs s1
  have hpl1 := (cNum 9223372036854775807 4 (by omega) (by omega)).place bs s1 c3.place
  have hcd1 : (cNum 9223372036854775807 4 (by omega) (by omega)).dec bs s1 = decN 9223372036854775807 4 bs s1 := rfl
  rw [hcd1] at hpl1
  refine c3.call (args := fun t => #[t, .int .u64 9223372036854775807]) (uptoR_c (most := 9223372036854775807) c3.rs c3.place (by omega)) hpl1 ?_
  rintro q w4 w5 rfl hF4 hF5 c5
  have hF35 : Fr [b] w3 w5 := (hF4.mono (fun i hi => by simp at hi)).t hF5
  generalize (decN 9223372036854775807 4 bs s1).2 = s2 at *
  generalize (decN 9223372036854775807 4 bs s1).1 = kd at *
  -- four numbers
  have hcm : ((cInt.rep 4).seq ((cInt.rep 7).seq ((cInt.rep 5).seq cTask))).dec bs s2 = (((decR cInt bs 4 s2).1, (decR cInt bs 7 (decR cInt bs 4 s2).2).1, (decR cInt bs 5 (decR cInt bs 7 (decR cInt bs 4 s2).2).2).1, (cTask.dec bs (decR cInt bs 5 (decR cInt bs 7 (decR cInt bs 4 s2).2).2).2).1), (cTask.dec bs (decR cInt bs 5 (decR cInt bs 7 (decR cInt bs 4 s2).2).2).2).2) := rfl
  rw [hcm] at hdec
  clear hcm
  have hI4 := decR_I64 h.byte 4 s2
  have hpl2 := (cInt.rep 4).place bs s2 c5.place
  have hcd2 : (cInt.rep 4).dec bs s2 = decR cInt bs 4 s2 := rfl
  rw [hcd2] at hpl2
  refine c5.call (args := fun t => #[t, .int .i64 4]) (rnums_c (n := 4) c5.rs c5.place (by omega)) hpl2 ?_
  rintro y w6 w7 ⟨hy, hyn⟩ hF6 hF7 c7
  have hF57 : Fr [b] w5 w7 := (hF6.mono (fun i hi => by simp at hi)).t hF7
  obtain ⟨m0, m1, m2, m3, hll4⟩ := len4 (decR_length cInt bs 4 s2)
  generalize (decR cInt bs 4 s2).2 = s3 at *
  rw [hll4] at hI4 hy hdec
  have z35 := hF35.size
  have z57 := hF57.size
  have hy7 := hy.fr hF7 (fun i hi => by have := hyn i hi; simp; omega)
  have hyb : ∀ i ∈ fp y, w5.heap.size ≤ i ∧ i < w7.heap.size := fun i hi => ⟨hyn i hi, sl_lt hy7 i hi⟩
  -- a queue, a node, a task
  have hst7 := stuck_err (cInt.rep 5) bs (decR cInt bs 7 s3).2
  have hst5 := stuck_err cTask bs (decR cInt bs 5 (decR cInt bs 7 s3).2).2
  have hcd5 : (cInt.rep 5).dec bs (decR cInt bs 7 s3).2 = decR cInt bs 5 (decR cInt bs 7 s3).2 := rfl
  rw [hcd5] at hst7
  refine c7.callv 7 (S := sInt.rep 7) (T := 25) rfl (by kernel_rfl) (by kernel_rfl) (by omega) (aQueue_c c7.rs c7.place) ((cInt.rep 7).place bs s3 c7.place) ?_
  intro bq w8 csq q' Fq hbq hbq2 hclq hBq hrdq hFq hq' hF8 c8
  refine c8.callv 5 (S := sInt.rep 5) (T := 27) rfl (by kernel_rfl) (by kernel_rfl) (by omega) (aNode_c c8.rs c8.place) ((cInt.rep 5).place bs _ c8.place) ?_
  intro bn w9 csn n' Fn hbn hbn2 hcln hBn hrdn hFn hn' hF9 c9
  refine c9.callv 7 (S := sTask) (T := 30) rfl (by kernel_rfl) (by kernel_rfl) (by omega) (aTask_c c9.rs c9.place) (cTask.place bs _ c9.place) ?_
  intro bk w10 csk k' Fk hbk hbk2 hclk hBk hrdk hFk hk' hF10 c10
  generalize (decR cInt bs 7 s3).1 = q at *
  generalize (decR cInt bs 7 s3).2 = s4 at *
  generalize (decR cInt bs 5 s4).1 = n at *
  generalize (decR cInt bs 5 s4).2 = s5 at *
  generalize (cTask.dec bs s5).1 = t at *
  generalize (cTask.dec bs s5).2 = s6 at *
  refine c10.fin ?_
  intro w11 hF11
  have z78 := hF8.size
  have z89 := hF9.size
  have z910 := hF10.size
  have g911 : Fr [b] w9 w11 := hF10.t (hF11.mono (Y := [b]) (fun i hi => by simp at hi))
  have g811 : Fr [b] w8 w11 := hF9.t g911
  have g711 : Fr [b] w7 w11 := hF8.t g811
  have g311 : Fr [b] w3 w11 := (hF35.t hF57).t g711
  have hBt11 := hBt3.fr g311 (by simp; omega)
  have hF011 : Fr [] w w11 := c10.fr.t hF11
  refine neq (if_p (fun he => ?_) (fun he => ?_))
  · have hW := doc_bad (S := sEntry) (none := noEntry) hdec he
    refine ⟨zEntry, by kernel_rfl, by kernel_rfl, ?_⟩
    refine store_all hBt11 (by kernel_rfl) hlt (by decide) (by omega) (sEntry.one (noEntry_rd w)) ?_
    intro w12 hB12 hF12 hs12
    refine ldA_bk hB12 (by decide) ?_
    have ez : (zEntry.drop 0).take 27 = zEntry := by rw [List.drop_zero]; exact List.take_of_length_le (by decide)
    rw [ez]
    unfold Got
    rw [hW]
    refine ⟨zEntry, [], ?_, noEntry_rd w12, by simp, hF011.trans hF12 (fun i hi => .inr (by simp at hi; omega))⟩
    congr 4
    split <;> first | rfl | (split <;> rfl)
  · have he0 : (if s6.err ≠ 0 then s6.err else if s6.pos < bs.length then 7 else 0) = (0 : Int) := by simpa using he
    obtain ⟨hW, he6⟩ := doc_good (none := noEntry) hdec he0
    rw [he0]
    have he5 := hst5 he6
    have he4 := hst7 he5
    obtain rfl := hq' he4
    obtain rfl := hn' he5
    obtain rfl := hk' he6
    have hx11 : Sl (World.drew w11) 1 x 3 (ints [a0, a1, a2]) := (hx3.fr g311 (fun i hi => by have := hxb i hi; simp; omega)).fr (Fr.drew [] w11) (by simp)
    have hy11 : Sl (World.drew w11) 1 y 4 (ints [m0, m1, m2, m3]) := (hy7.fr g711 (fun i hi => by have := hyb i hi; simp; omega)).fr (Fr.drew [] w11) (by simp)
    have hBq11 := hBq.fr g811 (by simp; omega)
    have hBn11 := hBn.fr g911 (by simp; omega)
    have hBk11 := hBk.fr hF11 (by simp)
    have rq := (sInt.rep 7).fr hrdq g811 (fun i hi => by have := hFq i hi; simp; omega)
    have rn := (sInt.rep 5).fr hrdn g911 (fun i hi => by have := hFn i hi; simp; omega)
    have rk := sTask.fr hrdk hF11 (fun i hi => by simp)
    refine ⟨fun w' => Sl w' 1 x 3 (ints [a0, a1, a2]) ∧ Sl w' 1 y 4 (ints [m0, m1, m2, m3]) ∧ Bk w' bq 25 csq ∧ Bk w' bn 27 csn ∧ Bk w' bk 30 csk, ⟨hx11, hy11, hBq11.drew, hBn11.drew, hBk11.drew⟩, ?_⟩
    refine ixL 0 rfl (fun w' h => h.1) hx11 (by omega) rfl ?_
    refine ixL 1 rfl (fun w' h => h.1) hx11 (by omega) rfl ?_
    refine ixL 2 rfl (fun w' h => h.1) hx11 (by omega) rfl ?_
    refine ixL 0 rfl (fun w' h => h.2.1) hy11 (by omega) rfl ?_
    refine ixL 1 rfl (fun w' h => h.2.1) hy11 (by omega) rfl ?_
    refine ixL 2 rfl (fun w' h => h.2.1) hy11 (by omega) rfl ?_
    refine ixL 3 rfl (fun w' h => h.2.1) hy11 (by omega) rfl ?_
    have eq7 : (csq.drop 0).take 7 = csq := by rw [List.drop_zero]; exact List.take_of_length_le (by omega)
    have en5 : (csn.drop 0).take 5 = csn := by rw [List.drop_zero]; exact List.take_of_length_le (by omega)
    have ek7 : (csk.drop 0).take 7 = csk := by rw [List.drop_zero]; exact List.take_of_length_le (by omega)
    refine ldA_S (l := csq) (T := 25) (fun w' h => h.2.2.1) (by omega) ?_
    refine ldA_S (l := csn) (T := 27) (fun w' h => h.2.2.2.1) (by omega) ?_
    refine ldA_S (l := csk) (T := 30) (fun w' h => h.2.2.2.2) (by omega) ?_
    rw [eq7, en5, ek7]
    have hflat : [Value.int .i64 kd, .int .i64 m0, .int .i64 m1, .int .i64 m2, .int .i64 m3, .agg csq.toArray, .agg csn.toArray, .agg csk.toArray].flatMap (fun v => v.cells.toList) = [.int .i64 kd] ++ (ints [m0, m1, m2, m3] ++ (csq ++ (csn ++ csk))) := by
      simp [Value.cells, ints]
    refine bldV (vals := [.int .i64 kd, .int .i64 m0, .int .i64 m1, .int .i64 m2, .int .i64 m3, .agg csq.toArray, .agg csn.toArray, .agg csk.toArray]) [1, 1, 1, 1, 1, 7, 5, 7] (n := 24) (by kernel_rfl) (by kernel_rfl) rfl (by kernel_rfl) rfl (by simp [Value.cells, hclq, hcln, hclk]) ?_
    rw [hflat]
    have hcd24 : ([Value.int .i64 kd] ++ (ints [m0, m1, m2, m3] ++ (csq ++ (csn ++ csk)))).length = 24 := by simp [ints, hclq, hcln, hclk]
    have hrdc : ∀ w', sInt.rd w' [.int .i64 kd] kd [] := fun w' => ⟨rfl, rfl, by omega⟩
    have hcmd : ∀ w', (sInt.rep 7).rd w' csq q' Fq → (sInt.rep 5).rd w' csn n' Fn → sTask.rd w' csk k' Fk → sCmd.rd w' ([.int .i64 kd] ++ (ints [m0, m1, m2, m3] ++ (csq ++ (csn ++ csk)))) (kd, [m0, m1, m2, m3], q', n', k') ([] ++ ([] ++ (Fq ++ (Fn ++ Fk)))) := fun w' h1 h2 h3 =>
      seq_rd (S := sInt) (T := (sInt.rep 4).seq ((sInt.rep 7).seq ((sInt.rep 5).seq sTask))) (hrdc w') (seq_rd (S := sInt.rep 4) (T := (sInt.rep 7).seq ((sInt.rep 5).seq sTask)) (rep_mk w' rfl hI4) (seq_rd (S := sInt.rep 7) (T := (sInt.rep 5).seq sTask) h1 (seq_rd (S := sInt.rep 5) (T := sTask) h2 h3)))
    generalize [Value.int .i64 kd] ++ (ints [m0, m1, m2, m3] ++ (csq ++ (csn ++ csk))) = csc at *
    have hflat2 : [Value.int .i64 a0, .int .i64 a1, .int .i64 a2, .agg csc.toArray].flatMap (fun v => v.cells.toList) = ints [a0, a1, a2] ++ csc := by
      simp [Value.cells, ints]
    refine bldV (vals := [.int .i64 a0, .int .i64 a1, .int .i64 a2, .agg csc.toArray]) [1, 1, 1, 24] (n := 27) (by kernel_rfl) (by kernel_rfl) rfl (by kernel_rfl) rfl (by simp [Value.cells, hcd24]) ?_
    rw [hflat2]
    have rc := hcmd _ rq rn rk
    refine store_all (vs := ints [a0, a1, a2] ++ csc) hBt11.drew (by kernel_rfl) hlt (by simp [ints, hcd24]) (by omega) ?_ ?_
    · intro u hu
      rcases List.mem_append.1 hu with hu | hu
      · exact ints_one _ u hu
      · exact sCmd.one rc u hu
    intro w12 hB12 hF12 hs12
    refine ldA_bk hB12 (by simp [ints, hcd24]) ?_
    have ez : ((ints [a0, a1, a2] ++ csc).drop 0).take 27 = ints [a0, a1, a2] ++ csc := by rw [List.drop_zero]; exact List.take_of_length_le (by simp [ints, hcd24])
    rw [ez]
    unfold Got
    rw [hW]
    have hnew : ∀ i ∈ [] ++ ([] ++ (Fq ++ (Fn ++ Fk))), w1.heap.size ≤ i := by
      intro i hi
      simp only [List.nil_append, List.mem_append] at hi
      rcases hi with hi | hi | hi
      · have := hFq i hi; omega
      · have := hFn i hi; omega
      · have := hFk i hi; omega
    have rc12 := sCmd.fr (sCmd.fr rc (Fr.drew [] w11) (fun i _ => by simp)) hF12 (fun i hi => by have := hnew i hi; simp; omega)
    have hrd : sEntry.rd w12 (ints [a0, a1, a2] ++ csc) ([a0, a1, a2], kd, [m0, m1, m2, m3], q', n', k') ([] ++ ([] ++ ([] ++ (Fq ++ (Fn ++ Fk))))) :=
      seq_rd (S := sInt.rep 3) (T := sCmd) (rep_mk w12 rfl hI) rc12
    exact ⟨_, _, rfl, hrd, fun i hi => by have := hnew i hi; omega, (hF011.t (Fr.drew [] w11)).trans hF12 (fun i hi => .inr (by simp at hi; omega))⟩
end Go.Proofs.Ytachignmofpngaa
