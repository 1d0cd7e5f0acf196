/- Contracts of the reference's reader: furlongref10.someLeases, DocAnswer, DocEntry. -/
import Derived.Test.YtachignmofpngaaRefR5
set_option linter.unusedVariables false
set_option linter.unusedSimpArgs false
set_option maxRecDepth 20000
namespace Go.Proofs.Ytachignmofpngaa
open Go Go.Vc

theorem someLeases_c {w : World} {v : Value} {bs : List Nat} {s : PS} (h : Rs w v bs) (hp : s.pos ≤ bs.length) :
    CallF Try.prog 54 #[rv v s] w (Nx v (decA cLease bs s).2 w (LQ sLease (by decide) w.heap.size (decA cLease bs s).2.err (decA cLease bs s).1)) := by
  refine C_furlongref10_someLeases_link ?_
  unfold C_furlongref10_someLeases
  refine rc_box h hp fun b w1 hb c1 => ?_
  refine alloc_n (n := 3) (by kernel_rfl) ?_
  intro b2 w2 l hl hb2 hB2 hF2 hs2
  have c2 := c1.fresh hF2
  have hlt := c1.var.lt
  have h2 : w.heap.size ≤ b2 := by omega
  have hn := decA_le bs s
  have hpn := (cNum 1024 3 (by omega) (by omega)).place bs s hp
  have hdA : decA cLease bs s = decL cLease bs (decN 1024 3 bs s).1 (decN 1024 3 bs s).2 := rfl
  rw [hdA]
  refine c2.call (totalR_c c2.rs hp) hpn ?_
  rintro x w3 w4 rfl hF3 hF4 c4
  have hF24 : Fr [b] w2 w4 := (hF3.mono (fun i hi => by simp at hi)).t hF4
  have hB4 := hB2.fr hF24 (by simp; omega)
  generalize (decN 1024 3 bs s).1 = n at *
  generalize (decN 1024 3 bs s).2 = s1 at *
  refine ⟨fun m t l i w' => ∃ (j : Nat) (sj : PS) (lj : List DLease), j + m = n ∧ lj.length = j ∧ i = .int .i64 j ∧ RC w b v bs w' sj ∧ (∃ l2, Bk w' b2 92 l2 ∧ l2.length = 3) ∧ Ga sLease 124 (b2 + 1) w' l lj ∧
      decL cLease bs n s1 = (lj ++ (decL cLease bs m sj).1, (decL cLease bs m sj).2), n, ⟨0, s1, [], by omega, rfl, rfl, c4, ⟨l, hB4, hl⟩, Ga.nil _ _ _ _, rfl⟩, ?_⟩
  rintro m t l' i w5 ⟨j, sj, lj, hj, hlj, rfl, c5, ⟨l5, hB5, hl5⟩, g5, hdec⟩
  refine lss (if_p (fun hjn => ?_) (fun hjn => ?_))
  · obtain ⟨m', rfl⟩ : ∃ m', m = m' + 1 := ⟨m - 1, by omega⟩
    refine alloc_n (n := 8) (by kernel_rfl) ?_
    intro b3 w55 z3 hz3 hb3 hB3 hF55 hs55
    have c55 := c5.fresh hF55
    have hlt5 := hB5.lt
    refine c55.call (aLease_c c55.rs c55.place) (cLease.place _ _ c55.place) ?_
    rintro x w6 w7 ⟨cs, aj, F, rfl, hrd, hFn, haj⟩ hF6 hF7 c7
    have hF57 : Fr [b] w55 w7 := (hF6.mono (fun i hi => by simp at hi)).t hF7
    have hcl : cs.length = 8 := sLease.len hrd
    have hB37 := hB3.fr hF57 (by simp; omega)
    refine store_all hB37 (by kernel_rfl) hz3 hcl (by omega) (sLease.one hrd) ?_
    intro w8 hB38 hF8 hs8
    have hF58 : Fr [b] w5 w8 := ((hF55.mono (fun i hi => by simp at hi)).t hF57).trans hF8 (fun i hi => .inr (by simp at hi; omega))
    have hrd7 := sLease.fr hrd hF7 (fun i hi => by have := hFn i hi; simp; omega)
    have hrd8 := sLease.fr hrd7 hF8 (fun i hi => by have := hFn i hi; simp; omega)
    have hB8 := hB5.fr hF58 (by simp; omega)
    have g8 := g5.fr hF58 (by simp; omega)
    have c8 := c7.go hF8 (by simp; omega) (by simp; omega)
    refine fad (ldC_bk c8.var rfl (neq (if_p (fun he => ?_) (fun he => ?_))))
    · have he' : (cLease.dec bs sj).2.err ≠ 0 := he
      have e2 : decL cLease bs (m' + 1) sj = ([], (cLease.dec bs sj).2) := by rw [decL, if_pos he']
      rw [e2] at hdec
      rw [hdec]
      refine c8.ret hB8 hl5 h2 ?_
      intro w9 hF9 _
      exact ⟨_, rfl, LQ.none he, hF9⟩
    · have he' : (cLease.dec bs sj).2.err = 0 := by simpa using he
      have e2 : decL cLease bs (m' + 1) sj = ((cLease.dec bs sj).1 :: (decL cLease bs m' (cLease.dec bs sj).2).1, (decL cLease bs m' (cLease.dec bs sj).2).2) := by rw [decL, if_neg (by simp [he'])]
      rw [e2] at hdec
      have := haj he'
      subst this
      refine ldA_bk hB38 (by omega) ?_
      have ec : (cs.drop 0).take 8 = cs := by rw [List.drop_zero]; exact List.take_of_length_le (by omega)
      rw [ec]
      have hlt8 := hB8.lt
      have hvlt : ∀ i ∈ fp l', i < w5.heap.size := g5.lt
      refine g8.push (S := sLease) (a := (cLease.dec bs sj).1) (z := (zeroT Try.prog 124).getD undef) (bytes := 80) (by decide) (by decide) (by decide) (by omega) (by omega) Try.underlying47 (by kernel_rfl) (by kernel_rfl) hrd8 (fun i hi => by have := hFn i hi; exact ⟨by omega, fun hm => by have := hvlt i hm; omega⟩) (by simp [Value.cells]) ?_
      intro v9 w9 g9 hF9
      have hlow := g8.low
      have c9 := c8.go hF9 (fun hm => by have := hlow b hm; omega) (fun i hi => by have := hlow i hi; omega)
      have hB9 := hB8.fr hF9 (fun hm => by have := hlow b2 hm; omega)
      refine add64 (by omega) ⟨m', by omega, j + 1, (cLease.dec bs sj).2, lj ++ [(cLease.dec bs sj).1], by omega, by simp [hlj], by congr 1, c9, ⟨l5, hB9, hl5⟩, g9, ?_⟩
      rw [hdec]
      simp
  · have hm0 : m = 0 := by omega
    subst hm0
    have e0 : decL cLease bs 0 sj = ([], sj) := rfl
    rw [e0] at hdec
    simp only [List.append_nil] at hdec
    rw [hdec]
    refine c5.ret hB5 hl5 h2 ?_
    intro w6 hF6 hF6'
    refine ⟨_, rfl, ?_, hF6⟩
    obtain ⟨F, hrd, hF⟩ := (g5.fr hF6' (by simp)).rd (by decide)
    exact ⟨lj, F, hrd, fun i hi => by have := hF i hi; omega, fun _ => rfl⟩

section
variable {w0 w : World} {b : Nat} {v : Value} {bs : List Nat} {s s' : PS} {k : Value → World → Prop}
/-- The reader of some bytes. -/
theorem bldRead {k : Value → Prop} {A : Option Addr} {n c : Nat} (h : k (rv (.slice A n c) ⟨0, 0⟩)) : Bld Try.prog 92 [(0, .slice A n c)] k :=
  ⟨cellsR (.slice A n c) ⟨0, 0⟩, by kernel_rfl, by kernel_rfl, h⟩
/-- A variable for the reader. -/
theorem rc_alloc (src : Rs w0 v bs) (f : Fr [] w0 w) (hp : s.pos ≤ bs.length) (hk : ∀ b w', w.heap.size = b → RC w0 b v bs w' s → Fr [] w w' → k (.pointer (some ⟨b, 0, none⟩)) w') :
    Do Try.prog (Instr.alloc 92 true (.tuple #[])) w fun r w1 => DoU Try.prog (Instr.storeAt 92 r (rv v s)) w1 fun _ w2 => k r w2 := by
  refine alloc_n (n := 3) (by kernel_rfl) ?_
  intro b w1 l hl hb hB hF hs
  refine store_all (n := 3) (vs := cellsR v s) hB (by kernel_rfl) hl rfl (by omega) (cellsR_one src) ?_
  intro w2 hB2 hF2 hs2
  have hF12 : Fr [] w w2 := hF.trans hF2 (fun i hi => .inr (by simp at hi; omega))
  have := f.size
  exact hk b w2 hb ⟨src, f.t hF12, by omega, hB2, hp⟩ hF12
theorem RC.fin {k : Value → Value → World → Prop} (c : RC w0 b v bs w s)
    (hk : ∀ w1, Fr [] w w1 → k (.int .i64 (if s.err ≠ 0 then (s.pos : Int) else if s.pos < bs.length then s.pos else 0)) (.int .i64 (if s.err ≠ 0 then s.err else if s.pos < bs.length then 7 else 0)) w1) :
    LdA (At w) 3 (.pointer (some ⟨b, 0, none⟩)) fun t => CallF Try.prog 50 #[t] w fun r w1 => Ext r 0 fun t1 => Ext r 1 fun t2 => k t1 t2 w1 := by
  refine ldA_bk c.var (by simp [cellsR]) ?_
  refine (rend_c c.rs c.place).use ?_
  rintro _ w1 ⟨rfl, hF⟩
  exact ext0 (ext1 (hk w1 hF))
end
theorem rs_of {w : World} {v : Value} {bs : List Nat} (h : Bs w v bs) : Rs w v bs := ⟨h.sl, h.byte, h.big⟩
/-- The end of a document's decoder: the wrong is told. -/
theorem doc_bad {α : Type} {S : Shape α} {C : Codec α} {none a : α} {bs : List Nat} {s' : PS} (hd : C.dec bs ⟨0, 0⟩ = (a, s')) (he : (if s'.err ≠ 0 then s'.err else if s'.pos < bs.length then 7 else 0) ≠ 0) :
    decW C none bs = (none, (if s'.err ≠ 0 then s'.pos else if s'.pos < bs.length then s'.pos else 0), (if s'.err ≠ 0 then s'.err else if s'.pos < bs.length then 7 else 0)) := by
  unfold decW
  rw [hd]
  simp only
  by_cases h1 : s'.err ≠ 0
  · simp [h1]
  · by_cases h2 : s'.pos < bs.length
    · simp [h1, h2]
    · simp [h1, h2] at he
theorem doc_good {α : Type} {C : Codec α} {none a : α} {bs : List Nat} {s' : PS} (hd : C.dec bs ⟨0, 0⟩ = (a, s')) (he : (if s'.err ≠ 0 then s'.err else if s'.pos < bs.length then 7 else 0) = (0 : Int)) :
    decW C none bs = (a, 0, 0) ∧ s'.err = 0 := by
  by_cases h1 : s'.err ≠ 0
  · simp [h1] at he
  · by_cases h2 : s'.pos < bs.length
    · simp [h1, h2] at he
    · unfold decW
      rw [hd]
      simp only
      rw [if_neg h1, if_neg h2]
      exact ⟨rfl, by simpa using h1⟩

theorem docAnswer_c {w : World} {v : Value} {bs : List Nat} (h : Bs w v bs) : CallF Try.prog 19 #[v] w (Got sAnswer cAnswer noAnswer bs w) := by
  have src := rs_of h
  obtain ⟨A, c, rfl, hrest⟩ := id h.sl
  refine C_furlongref10_DocAnswer_link ?_
  unfold C_furlongref10_DocAnswer
  refine alloc_n (n := 5) (by kernel_rfl) ?_
  intro bt w1 lt hlt hbt hBt hF1 hs1
  refine bldRead ?_
  refine (rnums_c (n := 3) (src.fr hF1) (s := ⟨0, 0⟩) (Nat.zero_le _) (by omega)).use ?_
  rintro _ w2 ⟨x, rfl, ⟨hx, hxn⟩, hF2⟩
  refine ext0 (ext1 ?_)
  have hI := decR_I64 h.byte 3 ⟨0, 0⟩
  have hdec : cAnswer.dec bs ⟨0, 0⟩ = (((decR cInt bs 3 ⟨0, 0⟩).1, (decA cInt bs (decR cInt bs 3 ⟨0, 0⟩).2).1, (decA cLease bs (decA cInt bs (decR cInt bs 3 ⟨0, 0⟩).2).2).1), (decA cLease bs (decA cInt bs (decR cInt bs 3 ⟨0, 0⟩).2).2).2) := rfl
  obtain ⟨a0, a1, a2, hll⟩ := len3 (decR_length cInt bs 3 ⟨0, 0⟩)
  have hpl := (cInt.rep 3).place bs ⟨0, 0⟩ (Nat.zero_le _)
  have hcd : (cInt.rep 3).dec bs ⟨0, 0⟩ = decR cInt bs 3 ⟨0, 0⟩ := rfl
  rw [hcd] at hpl
  generalize (decR cInt bs 3 ⟨0, 0⟩).2 = s1 at *
  rw [hll] at hI hx hdec
  refine rc_alloc src (hF1.t hF2) hpl ?_
  intro b w3 hb c3 hF3
  have z12 := hF2.size
  have z23 := hF3.size
  have hlt3 := c3.var.lt
  have hx3 := hx.fr hF3 (by simp)
  have hBt3 := (hBt.fr hF2 (by simp)).fr hF3 (by simp)
  have hxb : ∀ i ∈ fp x, w1.heap.size ≤ i ∧ i < w2.heap.size := fun i hi => ⟨hxn i hi, by
    obtain ⟨A', c', rfl, hl', hn', hc'⟩ := hx
    cases A' with
    | none => simp [fp_nil] at hi
    | some a =>
      simp [fp_some] at hi
      subst hi
      have := hc' a rfl 0 (.int .i64 a0) rfl
      have hlt := World.block_lt_of_cell? w2 _ this
      have hb : (a.add 0).block = a.block := by unfold Addr.add; split <;> rfl
      rwa [hb] at hlt⟩
  refine c3.call (rlist_c c3.rs c3.place) ((cInt.list).place _ _ c3.place) ?_
  rintro y w4 w5 hy hF4 hF5 c5
  have hF35 : Fr [b] w3 w5 := (hF4.mono (fun i hi => by simp at hi)).t hF5
  have hy5 := hy.fr (B' := w3.heap.size) (er' := (decA cInt bs s1).2.err) hF5 (Nat.le_refl _) (by simp; omega) id
  have hst := stuck_err cLease.list bs (decA cInt bs s1).2
  have hcd2 : cLease.list.dec bs (decA cInt bs s1).2 = decA cLease bs (decA cInt bs s1).2 := rfl
  have hpl2 := cLease.list.place bs _ c5.place
  rw [hcd2] at hst hpl2
  refine c5.call (someLeases_c c5.rs c5.place) hpl2 ?_
  rintro z w6 w7 hz hF6 hF7 c7
  have hF57 : Fr [b] w5 w7 := (hF6.mono (fun i hi => by simp at hi)).t hF7
  have hz7 := hz.fr (B' := w3.heap.size) (er' := (decA cLease bs (decA cInt bs s1).2).2.err) hF7 hF35.size (by have := hF35.size; simp; omega) id
  have hy7 := hy5.fr (B' := w3.heap.size) (er' := (decA cLease bs (decA cInt bs s1).2).2.err) hF57 (Nat.le_refl _) (by simp; omega) hst
  generalize (decA cLease bs (decA cInt bs s1).2).2 = s3 at *
  generalize (decA cLease bs (decA cInt bs s1).2).1 = L at *
  generalize (decA cInt bs s1).1 = Y at *
  refine c7.fin ?_
  intro w8 hF8
  have hF38 := (hF35.t hF57).t (hF8.mono (X := []) (Y := [b]) (fun i hi => by simp at hi))
  have hBt8 := hBt3.fr hF38 (by simp; omega)
  have hF08 : Fr [] w w8 := c7.fr.t hF8
  refine neq (if_p (fun he => ?_) (fun he => ?_))
  · have hW := doc_bad (S := sAnswer) (none := noAnswer) hdec he
    refine ⟨zAnswer, by kernel_rfl, by kernel_rfl, ?_⟩
    refine store_all hBt8 (by kernel_rfl) hlt (by decide) (by omega) (sAnswer.one (noAnswer_rd w)) ?_
    intro w9 hB9 hF9 hs9
    refine ldA_bk hB9 (by decide) ?_
    have ez : (zAnswer.drop 0).take 5 = zAnswer := by rw [List.drop_zero]; exact List.take_of_length_le (by decide)
    rw [ez]
    unfold Got
    rw [hW]
    refine ⟨zAnswer, [], ?_, noAnswer_rd w9, by simp, hF08.trans hF9 (fun i hi => .inr (by simp at hi; omega))⟩
    congr 4
    split <;> first | rfl | (split <;> rfl)
  · have he0 : (if s3.err ≠ 0 then s3.err else if s3.pos < bs.length then 7 else 0) = (0 : Int) := by simpa using he
    obtain ⟨hW, he3⟩ := doc_good (none := noAnswer) hdec he0
    rw [he0]
    have hx8 : Sl (World.drew w8) 1 x 3 (ints [a0, a1, a2]) := (hx3.fr hF38 (fun i hi => by have := hxb i hi; simp; omega)).fr (Fr.drew [] w8) (by simp)
    have hy8 := hy7.fr (B' := w3.heap.size) (er' := s3.err) (hF8.t (Fr.drew [] w8)) (Nat.le_refl _) (by simp) id
    have hz8 := hz7.fr (B' := w3.heap.size) (er' := s3.err) (hF8.t (Fr.drew [] w8)) (Nat.le_refl _) (by simp) id
    refine ⟨fun w' => Sl w' 1 x 3 (ints [a0, a1, a2]), hx8, ?_⟩
    refine ixL 0 rfl (fun w' h => h) hx8 (by omega) rfl ?_
    refine ixL 1 rfl (fun w' h => h) hx8 (by omega) rfl ?_
    refine ixL 2 rfl (fun w' h => h) hx8 (by omega) rfl ?_
    obtain ⟨Ay, ny, cy, rfl⟩ := lq_slice hy8
    obtain ⟨Az, nz, cz, rfl⟩ := lq_slice hz8
    refine bldV (vals := [.int .i64 a0, .int .i64 a1, .int .i64 a2, .slice Ay ny cy, .slice Az nz cz]) [1, 1, 1, 1, 1] (n := 5) (by kernel_rfl) (by kernel_rfl) rfl (by kernel_rfl) rfl rfl ?_
    refine store_all (vs := [.int .i64 a0, .int .i64 a1, .int .i64 a2, .slice Ay ny cy, .slice Az nz cz]) hBt8.drew (by kernel_rfl) hlt rfl (by omega) (by simp [Value.oneCell']) ?_
    intro w9 hB9 hF9 hs9
    refine ldA_bk hB9 (by simp) ?_
    obtain ⟨Y', FY, rY, nY, eY⟩ := hy8.fr (B' := w.heap.size) (er' := s3.err) hF9 (by omega) (by simp; omega) id
    obtain ⟨L', FL, rL, nL, eL⟩ := hz8.fr (B' := w.heap.size) (er' := s3.err) hF9 (by omega) (by simp; omega) id
    obtain rfl := eY he3
    obtain rfl := eL he3
    unfold Got
    rw [hW]
    have hrd : sAnswer.rd w9 (ints [a0, a1, a2] ++ ([.slice Ay ny cy] ++ [.slice Az nz cz])) ([a0, a1, a2], Y', L') ([] ++ (FY ++ FL)) :=
      seq_rd (S := sInt.rep 3) (T := sInts.seq (sLease.list (by decide))) (rep_mk w9 rfl hI) (seq_rd (S := sInts) (T := sLease.list (by decide)) rY rL)
    refine ⟨_, _, rfl, hrd, fun i hi => ?_, (hF08.t (Fr.drew [] w8)).trans hF9 (fun i hi => .inr (by simp at hi; omega))⟩
    rcases List.mem_append.1 hi with hi | hi
    · simp at hi
    · rcases List.mem_append.1 hi with hi | hi
      · exact nY i hi
      · exact nL i hi
end Go.Proofs.Ytachignmofpngaa
