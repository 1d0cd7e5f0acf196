/- The contract of the reference's reader: furlongref10.DocState. -/
import Derived.Test.YtachignmofpngaaRefR9
set_option linter.unusedVariables false
set_option linter.unusedSimpArgs false
set_option maxRecDepth 20000
namespace Go.Proofs.Ytachignmofpngaa
open Go Go.Vc

theorem docState_c {w : World} {v : Value} {bs : List Nat} (h : Bs w v bs) : CallF Try.prog 22 #[v] w (Got sState cState noState bs w) := by
  have src := rs_of h
  obtain ⟨A, c, rfl, hrest⟩ := id h.sl
  refine C_furlongref10_DocState_link ?_
  unfold C_furlongref10_DocState
  refine alloc_n (n := 8) (by kernel_rfl) ?_
  intro bt w1 lt hlt hbt hBt hF1 hs1
  refine bldRead ?_
  refine (rnums_c (n := 3) (src.fr hF1) (s := ⟨0, 0⟩) (Nat.zero_le _) (by omega)).use ?_
  rintro _ w2 ⟨x, rfl, ⟨hx, hxn⟩, hF2⟩
  refine ext0 (ext1 ?_)
  have hI := decR_I64 h.byte 3 ⟨0, 0⟩
  have hdec : cState.dec bs ⟨0, 0⟩ = (((decR cInt bs 3 ⟨0, 0⟩).1, (((cInt.rep 7).list.seq ((cInt.rep 5).list.seq (cTask.list.seq (cLease.list.seq (cInt.rep 2).list)))).dec bs (decR cInt bs 3 ⟨0, 0⟩).2).1), (((cInt.rep 7).list.seq ((cInt.rep 5).list.seq (cTask.list.seq (cLease.list.seq (cInt.rep 2).list)))).dec bs (decR cInt bs 3 ⟨0, 0⟩).2).2) := rfl
  obtain ⟨a0, a1, a2, hll⟩ := len3 (decR_length cInt bs 3 ⟨0, 0⟩)
  have hpl := (cInt.rep 3).place bs ⟨0, 0⟩ (Nat.zero_le _)
  have hcd : (cInt.rep 3).dec bs ⟨0, 0⟩ = decR cInt bs 3 ⟨0, 0⟩ := rfl
  rw [hcd] at hpl
  generalize (decR cInt bs 3 ⟨0, 0⟩).2 = s1 at *
  rw [hll] at hI hx hdec
  refine rc_alloc src (hF1.t hF2) hpl ?_
  intro b w3 hb c3 hF3
  have z12 := hF2.size
  have z23 := hF3.size
  have hlt3 := c3.var.lt
  have hx3 : Sl (World.drew w3) 1 x 3 (ints [a0, a1, a2]) := (hx.fr hF3 (by simp)).fr (Fr.drew [] w3) (by simp)
  have hBt3 := ((hBt.fr hF2 (by simp)).fr hF3 (by simp)).drew
  have c3' := c3.fresh (Fr.drew [] w3)
  refine ⟨fun w' => Sl w' 1 x 3 (ints [a0, a1, a2]), hx3, ?_⟩
  refine ixL 0 rfl (fun w' h => h) hx3 (by omega) rfl ?_
  refine ixL 1 rfl (fun w' h => h) hx3 (by omega) rfl ?_
  refine ixL 2 rfl (fun w' h => h) hx3 (by omega) rfl ?_
  refine ⟨[.int .i64 a0, .int .i64 a1, .int .i64 a2, .slice none 0 0, .slice none 0 0, .slice none 0 0, .slice none 0 0, .slice none 0 0], by kernel_rfl, by kernel_rfl, ?_⟩
  refine alloc_n (n := 8) (by kernel_rfl) ?_
  intro bS w4 zS hzS hbS hBS hF4 hs4
  refine ⟨hx3.fr hF4 (by simp), ?_⟩
  refine store_all (vs := [.int .i64 a0, .int .i64 a1, .int .i64 a2, .slice none 0 0, .slice none 0 0, .slice none 0 0, .slice none 0 0, .slice none 0 0]) hBS (by kernel_rfl) hzS rfl (by omega) (by simp [Value.oneCell']) ?_
  intro w5 hBS5 hF5 hs5
  have zd : (World.drew w3).heap.size = w3.heap.size := rfl
  have f35 : Fr [] (World.drew w3) w5 := hF4.trans hF5 (fun i hi => .inr (by simp at hi; omega))
  have c5 := c3'.fresh f35
  have hBt5 := hBt3.fr f35 (by simp)
  have z35 := f35.size
  -- queues
  refine st_list 7 3 (S := sInt.rep 7) (C := cInt.rep 7) (bytes := 56) (z := (zeroT Try.prog 25).getD undef) (by decide) rfl (by omega) (by omega) Try.underlying53 (by kernel_rfl) (by kernel_rfl) (by kernel_rfl) (by kernel_rfl) (by kernel_rfl) (fun w s hs hp => aQueue_c hs hp) c5 hBS5 rfl (by omega) rfl (by omega) (by omega) ?_
  intro w6 xQ c6 hB6 hQ g6
  have e6 := stuck_err (cInt.rep 5).list bs (decA (cInt.rep 7) bs s1).2
  have z6 := g6.size
  refine st_list 5 4 (S := sInt.rep 5) (C := cInt.rep 5) (bytes := 40) (z := (zeroT Try.prog 27).getD undef) (by decide) rfl (by omega) (by omega) Try.underlying54 (by kernel_rfl) (by kernel_rfl) (by kernel_rfl) (by kernel_rfl) (by kernel_rfl) (fun w s hs hp => aNode_c hs hp) c6 hB6 rfl (by omega) rfl (by omega) (by omega) ?_
  intro w7 xN c7 hB7 hN g7
  have z7 := g7.size
  refine st_list 7 5 (S := sTask) (C := cTask) (bytes := 72) (z := (zeroT Try.prog 30).getD undef) (by decide) rfl (by omega) (by omega) Try.underlying55 (by kernel_rfl) (by kernel_rfl) (by kernel_rfl) (by kernel_rfl) (by kernel_rfl) (fun w s hs hp => aTask_c hs hp) c7 hB7 rfl (by omega) rfl (by omega) (by omega) ?_
  intro w8 xT c8 hB8 hT g8
  have z8 := g8.size
  have hcm : ((cInt.rep 7).list.seq ((cInt.rep 5).list.seq (cTask.list.seq (cLease.list.seq (cInt.rep 2).list)))).dec bs s1 =
      (((decA (cInt.rep 7) bs s1).1, (decA (cInt.rep 5) bs (decA (cInt.rep 7) bs s1).2).1, (decA cTask bs (decA (cInt.rep 5) bs (decA (cInt.rep 7) bs s1).2).2).1, (decA cLease bs (decA cTask bs (decA (cInt.rep 5) bs (decA (cInt.rep 7) bs s1).2).2).2).1, (decA (cInt.rep 2) bs (decA cLease bs (decA cTask bs (decA (cInt.rep 5) bs (decA (cInt.rep 7) bs s1).2).2).2).2).1),
        (decA (cInt.rep 2) bs (decA cLease bs (decA cTask bs (decA (cInt.rep 5) bs (decA (cInt.rep 7) bs s1).2).2).2).2).2) := rfl
  rw [hcm] at hdec
  clear hcm
  have cd5 : (cInt.rep 5).list.dec bs (decA (cInt.rep 7) bs s1).2 = decA (cInt.rep 5) bs (decA (cInt.rep 7) bs s1).2 := rfl
  rw [cd5] at e6
  generalize (decA (cInt.rep 7) bs s1).1 = Q at *
  generalize (decA (cInt.rep 7) bs s1).2 = s2 at *
  have e7 := stuck_err cTask.list bs (decA (cInt.rep 5) bs s2).2
  have cd7 : cTask.list.dec bs (decA (cInt.rep 5) bs s2).2 = decA cTask bs (decA (cInt.rep 5) bs s2).2 := rfl
  rw [cd7] at e7
  generalize (decA (cInt.rep 5) bs s2).1 = N at *
  generalize (decA (cInt.rep 5) bs s2).2 = s3 at *
  have e8 := stuck_err cLease.list bs (decA cTask bs s3).2
  have cd8 : cLease.list.dec bs (decA cTask bs s3).2 = decA cLease bs (decA cTask bs s3).2 := rfl
  rw [cd8] at e8
  generalize (decA cTask bs s3).1 = T at *
  generalize (decA cTask bs s3).2 = s4 at *
  -- leases
  have e9 := stuck_err (cInt.rep 2).list bs (decA cLease bs s4).2
  have cd9 : (cInt.rep 2).list.dec bs (decA cLease bs s4).2 = decA (cInt.rep 2) bs (decA cLease bs s4).2 := rfl
  rw [cd9] at e9
  refine c8.call (someLeases_c c8.rs c8.place) (cLease.list.place bs _ c8.place) ?_
  rintro xL w9 w10 hL hF9 hF10 c10
  have f810 : Fr [b] w8 w10 := (hF9.mono (fun i hi => by simp at hi)).t hF10
  have z810 := f810.size
  have hL10 := hL.fr (B' := w8.heap.size) (er' := (decA cLease bs s4).2.err) hF10 (Nat.le_refl _) (by simp; omega) id
  obtain ⟨AL, nL, cL, rfl⟩ := lq_slice hL10
  refine fad (store' (hB8.fr f810 (by simp; omega)) (by kernel_rfl) (by simp) rfl ?_)
  intro w11 hB11 hF11 hs11
  have c11 := c10.go hF11 (by simp; omega) (by simp; omega)
  have hL11 := hL10.fr (B' := w8.heap.size) (er' := (decA cLease bs s4).2.err) hF11 (Nat.le_refl _) (by simp; omega) id
  generalize (decA cLease bs s4).1 = L at *
  generalize (decA cLease bs s4).2 = s5 at *
  -- hunger
  refine st_hunger (rs_of ⟨h.sl, h.cap, h.byte, h.big⟩) c11 hB11 (by simp) (by simp) (by omega) (by omega) ?_
  intro w12 xH c12 hB12 hH g12
  generalize (decA (cInt.rep 2) bs s5).1 = H at *
  generalize (decA (cInt.rep 2) bs s5).2 = s6 at *
  have z12' := g12.size
  have g812 : Fr [b, bS] w8 w12 := ((f810.mono (fun i hi => by simp at hi; simp [hi])).t (hF11.mono (fun i hi => by simp at hi; simp [hi]))).t g12
  have g712 : Fr [b, bS] w7 w12 := g8.t g812
  have g612 : Fr [b, bS] w6 w12 := g7.t g712
  have g512 : Fr [b, bS] w5 w12 := g6.t g612
  have hQ12 := hQ.fr (B' := w5.heap.size) (er' := s6.err) g612 (Nat.le_refl _) (by simp; omega) (fun e => e6 (e7 (e8 (e9 e))))
  have hN12 := hN.fr (B' := w5.heap.size) (er' := s6.err) g712 (by omega) (by simp; omega) (fun e => e7 (e8 (e9 e)))
  have hT12 := hT.fr (B' := w5.heap.size) (er' := s6.err) g812 (by omega) (by simp; omega) (fun e => e8 (e9 e))
  have hL12 := hL11.fr (B' := w5.heap.size) (er' := s6.err) g12 (by omega) (by simp; omega) (fun e => e9 e)
  have hH12 := hH.fr (B' := w5.heap.size) (er' := s6.err) (Fr.refl [] w12) (by omega) (by simp) id
  have hBt12 := hBt5.fr g512 (by simp; omega)
  refine c12.fin ?_
  intro w13 hF13
  have hBt13 := hBt12.fr hF13 (by simp)
  have hF013 : Fr [] w w13 := c12.fr.t hF13
  refine neq (if_p (fun he => ?_) (fun he => ?_))
  · have hW := doc_bad (S := sState) (none := noState) hdec he
    refine ⟨zState, by kernel_rfl, by kernel_rfl, ?_⟩
    refine store_all hBt13 (by kernel_rfl) hlt (by decide) (by omega) (sState.one (noState_rd w)) ?_
    intro w14 hB14 hF14 hs14
    refine ldA_bk hB14 (by decide) ?_
    have ez : (zState.drop 0).take 8 = zState := by rw [List.drop_zero]; exact List.take_of_length_le (by decide)
    rw [ez]
    unfold Got
    rw [hW]
    refine ⟨zState, [], ?_, noState_rd w14, by simp, hF013.trans hF14 (fun i hi => .inr (by simp at hi; omega))⟩
    congr 4
    split <;> first | rfl | (split <;> rfl)
  · have he0 : (if s6.err ≠ 0 then s6.err else if s6.pos < bs.length then 7 else 0) = (0 : Int) := by simpa using he
    obtain ⟨hW, he6⟩ := doc_good (none := noState) hdec he0
    rw [he0]
    refine ldA_bk (hB12.fr hF13 (by simp)) (by simp) ?_
    have oQ : xQ.oneCell' = true := by obtain ⟨_, _, _, rfl⟩ := lq_slice hQ; rfl
    have oN : xN.oneCell' = true := by obtain ⟨_, _, _, rfl⟩ := lq_slice hN; rfl
    have oT : xT.oneCell' = true := by obtain ⟨_, _, _, rfl⟩ := lq_slice hT; rfl
    have oH : xH.oneCell' = true := by obtain ⟨_, _, _, rfl⟩ := lq_slice hH; rfl
    refine store_all (vs := [.int .i64 a0, .int .i64 a1, .int .i64 a2, xQ, xN, xT, .slice AL nL cL, xH]) hBt13 (by kernel_rfl) hlt rfl (by omega) (fun u hu => by
      simp only [List.mem_cons, List.not_mem_nil, or_false] at hu
      rcases hu with rfl | rfl | rfl | rfl | rfl | rfl | rfl | rfl <;> first | rfl | assumption) ?_
    intro w14 hB14 hF14 hs14
    refine ldA_bk hB14 (by simp) ?_
    have f14 : Fr [bt] w12 w14 := (hF13.mono (fun i hi => by simp at hi)).t hF14
    obtain ⟨Q', FQ, rQ, nQ, eQ⟩ := hQ12.fr (B' := w.heap.size) (er' := s6.err) f14 (by omega) (by simp; omega) id
    obtain ⟨N', FN, rN, nN, eN⟩ := hN12.fr (B' := w.heap.size) (er' := s6.err) f14 (by omega) (by simp; omega) id
    obtain ⟨T', FT, rT, nT, eT⟩ := hT12.fr (B' := w.heap.size) (er' := s6.err) f14 (by omega) (by simp; omega) id
    obtain ⟨L', FL, rL, nL', eL⟩ := hL12.fr (B' := w.heap.size) (er' := s6.err) f14 (by omega) (by simp; omega) id
    obtain ⟨H', FH, rH, nH, eH⟩ := hH12.fr (B' := w.heap.size) (er' := s6.err) f14 (by omega) (by simp; omega) id
    obtain rfl := eQ he6
    obtain rfl := eN he6
    obtain rfl := eT he6
    obtain rfl := eL he6
    obtain rfl := eH he6
    unfold Got
    rw [hW]
    have hrd := state_mk (w := w14) (a0 := a0) (a1 := a1) (a2 := a2) hI rQ rN rT rL rH
    refine ⟨_, _, rfl, hrd, fun i hi => ?_, hF013.trans hF14 (fun i hi => .inr (by simp at hi; omega))⟩
    simp only [List.mem_append] at hi
    rcases hi with hi | hi | hi | hi | hi
    · exact nQ i hi
    · exact nN i hi
    · exact nT i hi
    · exact nL' i hi
    · exact nH i hi
end Go.Proofs.Ytachignmofpngaa
