/- Contracts of the reference's reader: furlongref10.aTask, aLease, someLeases. -/
import Derived.Test.YtachignmofpngaaRefR4
set_option linter.unusedVariables false
set_option linter.unusedSimpArgs false
set_option maxRecDepth 20000
namespace Go.Proofs.Ytachignmofpngaa
open Go Go.Vc

theorem lq_slice {α : Type} {S : Shape α} {hS : 0 < S.size} {B : Nat} {er : Int} {l : List α} {x : Value} {w : World} (h : LQ S hS B er l x w) : ∃ A n c, x = .slice A n c := by
  obtain ⟨l', F, h1, _⟩ := h
  obtain ⟨A, c, e⟩ := list_one _ h1
  exact ⟨A, _, c, (List.cons.inj e).1⟩
theorem LQ.fr {α : Type} {S : Shape α} {hS : 0 < S.size} {B B' : Nat} {er er' : Int} {l : List α} {x : Value} {w w' : World} {X : List Nat} (h : LQ S hS B er l x w) (f : Fr X w w') (hB : B' ≤ B) (hx : ∀ i ∈ X, i < B) (her : er' = 0 → er = 0) : LQ S hS B' er' l x w' := by
  obtain ⟨l', F, h1, h2, h3⟩ := h
  exact ⟨l', F, (S.list hS).fr h1 f (fun i hi hm => by have := h2 i hi; have := hx i hm; omega), fun i hi => Nat.le_trans hB (h2 i hi), fun h => h3 (her h)⟩
theorem TQ.fr {α : Type} {S : Shape α} {B B' : Nat} {er er' : Int} {a : α} {x : Value} {w w' : World} {X : List Nat} (h : TQ S B er a x w) (f : Fr X w w') (hB : B' ≤ B) (hx : ∀ i ∈ X, i < B) (her : er' = 0 → er = 0) : TQ S B' er' a x w' := by
  obtain ⟨cs, a', F, h0, h1, h2, h3⟩ := h
  exact ⟨cs, a', F, h0, S.fr h1 f (fun i hi hm => by have := h2 i hi; have := hx i hm; omega), fun i hi => Nat.le_trans hB (h2 i hi), fun h => h3 (her h)⟩
theorem stuck_err {α : Type} (C : Codec α) (bs : List Nat) (s : PS) (h : (C.dec bs s).2.err = 0) : s.err = 0 :=
  Decidable.byContradiction fun hn => by rw [C.stuck bs s hn] at h; exact hn h

theorem aTask_c {w : World} {v : Value} {bs : List Nat} {s : PS} (h : Rs w v bs) (hp : s.pos ≤ bs.length) :
    CallF Try.prog 49 #[rv v s] w (Nx v (cTask.dec bs s).2 w (TQ sTask w.heap.size (cTask.dec bs s).2.err (cTask.dec bs s).1)) := by
  refine C_furlongref10_aTask_link ?_
  unfold C_furlongref10_aTask
  refine rc_box h hp fun b w1 hb c1 => ?_
  refine alloc_n (n := 3) (by kernel_rfl) ?_
  intro b2 w2 l hl hb2 hB2 hF2 hs2
  refine alloc_n (n := 7) (by kernel_rfl) ?_
  intro b3 w3 l3 hl3 hb3 hB3 hF3 hs3
  have c3 := (c1.fresh hF2).fresh hF3
  have hlt := c1.var.lt
  have hB23 := hB2.fr hF3 (by simp)
  have hI := decR_I64 h.byte 5 s
  refine c3.call (args := fun t => #[t, .int .i64 5]) (rnums_c (n := 5) c3.rs hp (by omega)) ((cInt.rep 5).place bs s hp) ?_
  rintro x w4 w5 ⟨hx, hxn⟩ hF4 hF5 c5
  have hdec : cTask.dec bs s = (((decR cInt bs 5 s).1, (decA cInt bs (decR cInt bs 5 s).2).1, (decI bs (decA cInt bs (decR cInt bs 5 s).2).2).1), (decI bs (decA cInt bs (decR cInt bs 5 s).2).2).2) := rfl
  obtain ⟨a0, a1, a2, a3, a4, hll⟩ := len5 (decR_length cInt bs 5 s)
  generalize (decR cInt bs 5 s).2 = s1 at *
  rw [hll] at hI hx hdec
  have hF35 : Fr [b] w3 w5 := (hF4.mono (fun i hi => by simp at hi)).t hF5
  have hx5 := hx.fr hF5 (fun i hi => by have := hxn i hi; simp; omega)
  refine c5.call (rlist_c c5.rs c5.place) ((cInt.list).place _ _ c5.place) ?_
  rintro y w6 w7 hy hF6 hF7 c7
  have hF57 : Fr [b] w5 w7 := (hF6.mono (fun i hi => by simp at hi)).t hF7
  have hy7 := hy.fr (B' := w3.heap.size) (er' := (decA cInt bs s1).2.err) hF7 (by have := hF35.size; omega) (by have := hF35.size; simp; omega) id
  have hx7 := hx5.fr hF57 (fun i hi => by have := hxn i hi; simp; omega)
  have hst := stuck_err cInt bs (decA cInt bs s1).2
  have hI2 := decI_I64 h.byte (decA cInt bs s1).2
  have hpl := cInt.place _ _ c7.place
  have hcd : cInt.dec bs (decA cInt bs s1).2 = decI bs (decA cInt bs s1).2 := rfl
  rw [hcd] at hst hpl
  refine c7.call (rnum_c c7.rs c7.place) hpl ?_
  rintro z w8 w9 rfl hF8 hF9 c9
  have hF79 : Fr [b] w7 w9 := (hF8.mono (fun i hi => by simp at hi)).t hF9
  generalize (decI bs (decA cInt bs s1).2).2 = s3 at *
  generalize (decI bs (decA cInt bs s1).2).1 = z at *
  have hx9 := hx7.fr hF79 (fun i hi => by have := hxn i hi; simp; omega)
  have hy9 := hy7.fr (B' := w3.heap.size) (er' := s3.err) (hF79.t (Fr.drew [b] w9)) (Nat.le_refl _) (by simp; omega) hst
  have hx10 : Sl (World.drew w9) 1 x 5 (ints [a0, a1, a2, a3, a4]) := hx9.fr (Fr.drew [] w9) (by simp)
  refine ⟨fun w' => Bk w' b 92 (cellsR v s3) ∧ Sl w' 1 x 5 (ints [a0, a1, a2, a3, a4]), ⟨c9.var.drew, hx10⟩, ?_⟩
  refine ldA_S (l := cellsR v s3) (T := 92) (fun w' h => h.1) (by simp [cellsR]) ?_
  refine ixL 0 rfl (fun w' h => h.2) hx10 (by omega) rfl ?_
  refine ixL 1 rfl (fun w' h => h.2) hx10 (by omega) rfl ?_
  refine ixL 2 rfl (fun w' h => h.2) hx10 (by omega) rfl ?_
  refine ixL 3 rfl (fun w' h => h.2) hx10 (by omega) rfl (bldVec ?_)
  refine ixL 4 rfl (fun w' h => h.2) hx10 (by omega) rfl ?_
  obtain ⟨A, n, c, rfl⟩ := lq_slice hy9
  refine bldV (vals := [.int .i64 a0, .int .i64 a1, .agg #[.int .i64 a2, .int .i64 a3], .int .i64 a4, .slice A n c, .int .i64 z]) [1, 1, 2, 1, 1, 1] (n := 7) (by kernel_rfl) (by kernel_rfl) rfl (by kernel_rfl) rfl rfl ?_
  have hF39 := (hF35.t hF57).t hF79
  have hB25 := (hB23.fr hF39 (by simp; omega)).drew
  have hB35 := (hB3.fr hF39 (by simp; omega)).drew
  refine ret2 (n := 7) (cs := [.int .i64 a0, .int .i64 a1, .int .i64 a2, .int .i64 a3, .int .i64 a4, .slice A n c, .int .i64 z]) (c9.rs.fr (Fr.drew [] w9)) hB25 hl hB35 hl3 (by kernel_rfl) (by omega) (by omega) rfl (by simp [Value.oneCell']) ?_ ?_
  · intro w' hF'
    exact ⟨c9.var.drew.fr hF' (by simp; omega), hx10.fr hF' (fun i hi => by have := hxn i hi; simp; omega)⟩
  · intro w' hF'
    obtain ⟨ll, F, h1, h2, h3⟩ := hy9.fr (B' := w.heap.size) (er' := s3.err) hF' (by omega) (by simp; omega) id
    rw [hdec]
    have hz : sInt.rd w' [.int .i64 z] z [] := ⟨rfl, rfl, hI2⟩
    have hrd : sTask.rd w' (ints [a0, a1, a2, a3, a4] ++ ([.slice A n c] ++ [.int .i64 z])) ([a0, a1, a2, a3, a4], ll, z) ([] ++ (F ++ [])) := seq_rd (S := sInt.rep 5) (T := sInts.seq sInt) (rep_mk w' rfl hI) (seq_rd (S := sInts) (T := sInt) h1 hz)
    refine ⟨_, rfl, ⟨_, _, _, rfl, hrd, by simpa using h2, fun he => by rw [h3 he]⟩, ?_⟩
    exact (c9.fr.t (Fr.drew [] w9)).trans hF' (fun i hi => .inr (by simp at hi; omega))

theorem aLease_c {w : World} {v : Value} {bs : List Nat} {s : PS} (h : Rs w v bs) (hp : s.pos ≤ bs.length) :
    CallF Try.prog 85 #[rv v s] w (Nx v (cLease.dec bs s).2 w (TQ sLease w.heap.size (cLease.dec bs s).2.err (cLease.dec bs s).1)) := by
  refine C_furlongref10_aLease_link ?_
  unfold C_furlongref10_aLease
  refine rc_box h hp fun b w1 hb c1 => ?_
  refine alloc_n (n := 3) (by kernel_rfl) ?_
  intro b2 w2 l hl hb2 hB2 hF2 hs2
  refine alloc_n (n := 8) (by kernel_rfl) ?_
  intro b3 w3 l3 hl3 hb3 hB3 hF3 hs3
  have c3 := (c1.fresh hF2).fresh hF3
  have hlt := c1.var.lt
  have hB23 := hB2.fr hF3 (by simp)
  have hI := decR_I64 h.byte 3 s
  refine c3.call (args := fun t => #[t, .int .i64 3]) (rnums_c (n := 3) c3.rs hp (by omega)) ((cInt.rep 3).place bs s hp) ?_
  rintro x w4 w5 ⟨hx, hxn⟩ hF4 hF5 c5
  have hdec : cLease.dec bs s = (((decR cInt bs 3 s).1, (decA cInt bs (decR cInt bs 3 s).2).1, (decR cInt bs 3 (decA cInt bs (decR cInt bs 3 s).2).2).1, (cBool.dec bs (decR cInt bs 3 (decA cInt bs (decR cInt bs 3 s).2).2).2).1), (cBool.dec bs (decR cInt bs 3 (decA cInt bs (decR cInt bs 3 s).2).2).2).2) := rfl
  obtain ⟨a0, a1, a2, hll⟩ := len3 (decR_length cInt bs 3 s)
  generalize (decR cInt bs 3 s).2 = s1 at *
  rw [hll] at hI hx hdec
  have hF35 : Fr [b] w3 w5 := (hF4.mono (fun i hi => by simp at hi)).t hF5
  have hx5 := hx.fr hF5 (fun i hi => by have := hxn i hi; simp; omega)
  refine c5.call (rlist_c c5.rs c5.place) ((cInt.list).place _ _ c5.place) ?_
  rintro y w6 w7 hy hF6 hF7 c7
  have hF57 : Fr [b] w5 w7 := (hF6.mono (fun i hi => by simp at hi)).t hF7
  have hy7 := hy.fr (B' := w3.heap.size) (er' := (decA cInt bs s1).2.err) hF7 (by have := hF35.size; omega) (by have := hF35.size; simp; omega) id
  have hx7 := hx5.fr hF57 (fun i hi => by have := hxn i hi; simp; omega)
  have hst := stuck_err (cInt.rep 3) bs (decA cInt bs s1).2
  have hI2 := decR_I64 h.byte 3 (decA cInt bs s1).2
  have hpl := (cInt.rep 3).place _ _ c7.place
  have hll2 := len3 (decR_length cInt bs 3 (decA cInt bs s1).2)
  have hcd : (cInt.rep 3).dec bs (decA cInt bs s1).2 = decR cInt bs 3 (decA cInt bs s1).2 := rfl
  rw [hcd] at hst hpl
  refine c7.call (args := fun t => #[t, .int .i64 3]) (rnums_c (n := 3) c7.rs c7.place (by omega)) hpl ?_
  rintro z w8 w9 ⟨hz, hzn⟩ hF8 hF9 c9
  have hF79 : Fr [b] w7 w9 := (hF8.mono (fun i hi => by simp at hi)).t hF9
  obtain ⟨d0, d1, d2, hll2⟩ := hll2
  rw [hll2] at hI2 hz hdec
  generalize (decR cInt bs 3 (decA cInt bs s1).2).2 = s3 at *
  have hx9 := hx7.fr hF79 (fun i hi => by have := hxn i hi; simp; omega)
  have hz9 := hz.fr hF9 (fun i hi => by have := hzn i hi; have := (hF35.t hF57).size; simp; omega)
  have hy9 := hy7.fr (B' := w3.heap.size) (er' := s3.err) hF79 (Nat.le_refl _) (by simp; omega) hst
  have hst2 := stuck_err cBool bs s3
  have hbd : cBool.dec bs s3 = (decide ((decN 1 4 bs s3).1 = 1), (decN 1 4 bs s3).2) := rfl
  have hpl3 := (cNum 1 4 (by omega) (by omega)).place bs s3 c9.place
  have hcn : (cNum 1 4 (by omega) (by omega)).dec bs s3 = decN 1 4 bs s3 := rfl
  rw [hcn] at hpl3
  rw [hbd] at hst2 hdec
  simp only at hst2 hdec
  refine c9.call (args := fun t => #[t, .int .u64 1]) (uptoR_c (most := 1) c9.rs c9.place (by omega)) hpl3 ?_
  rintro q w10 w11 rfl hF10 hF11 c11
  generalize (decN 1 4 bs s3).2 = s4 at *
  generalize (decN 1 4 bs s3).1 = q at *
  have hF911 : Fr [b] w9 w11 := (hF10.mono (fun i hi => by simp at hi)).t hF11
  have hF311 := ((hF35.t hF57).t hF79).t hF911
  have hx12 : Sl (World.drew w11) 1 x 3 (ints [a0, a1, a2]) := (hx9.fr hF911 (fun i hi => by have := hxn i hi; simp; omega)).fr (Fr.drew [] w11) (by simp)
  have hzn' : ∀ i ∈ fp z, w3.heap.size ≤ i := fun i hi => by have := hzn i hi; have := (hF35.t hF57).size; omega
  have hz12 : Sl (World.drew w11) 1 z 3 (ints [d0, d1, d2]) := (hz9.fr hF911 (fun i hi => by have := hzn' i hi; simp; omega)).fr (Fr.drew [] w11) (by simp)
  have hy12 := hy9.fr (B' := w3.heap.size) (er' := s4.err) (hF911.t (Fr.drew [b] w11)) (Nat.le_refl _) (by simp; omega) hst2
  refine ⟨fun w' => Bk w' b 92 (cellsR v s4) ∧ Sl w' 1 x 3 (ints [a0, a1, a2]) ∧ Sl w' 1 z 3 (ints [d0, d1, d2]), ⟨c11.var.drew, hx12, hz12⟩, ?_⟩
  refine ldA_S (l := cellsR v s4) (T := 92) (fun w' h => h.1) (by simp [cellsR]) ?_
  refine ixL 0 rfl (fun w' h => h.2.1) hx12 (by omega) rfl ?_
  refine ixL 1 rfl (fun w' h => h.2.1) hx12 (by omega) rfl ?_
  refine ixL 2 rfl (fun w' h => h.2.1) hx12 (by omega) rfl ?_
  refine ixL 0 rfl (fun w' h => h.2.2) hz12 (by omega) rfl ?_
  refine ixL 1 rfl (fun w' h => h.2.2) hz12 (by omega) rfl ?_
  refine ixL 2 rfl (fun w' h => h.2.2) hz12 (by omega) rfl ?_
  refine eql ?_
  have hqe : decide ((q : Int) = 1) = decide (q = 1) := by rw [decide_eq_decide]; omega
  rw [hqe]
  obtain ⟨A, n, c, rfl⟩ := lq_slice hy12
  refine bldV (vals := [.int .i64 a0, .int .i64 a1, .int .i64 a2, .slice A n c, .int .i64 d0, .int .i64 d1, .int .i64 d2, .bool (decide (q = 1))]) [1, 1, 1, 1, 1, 1, 1, 1] (n := 8) (by kernel_rfl) (by kernel_rfl) rfl (by kernel_rfl) rfl rfl ?_
  have hB25 := (hB23.fr hF311 (by simp; omega)).drew
  have hB35 := (hB3.fr hF311 (by simp; omega)).drew
  refine ret2 (n := 8) (cs := [.int .i64 a0, .int .i64 a1, .int .i64 a2, .slice A n c, .int .i64 d0, .int .i64 d1, .int .i64 d2, .bool (decide (q = 1))]) (c11.rs.fr (Fr.drew [] w11)) hB25 hl hB35 hl3 (by kernel_rfl) (by omega) (by omega) rfl (by simp [Value.oneCell']) ?_ ?_
  · intro w' hF'
    exact ⟨c11.var.drew.fr hF' (by simp; omega), hx12.fr hF' (fun i hi => by have := hxn i hi; simp; omega), hz12.fr hF' (fun i hi => by have := hzn' i hi; simp; omega)⟩
  · intro w' hF'
    obtain ⟨ll, F, h1, h2, h3⟩ := hy12.fr (B' := w.heap.size) (er' := s4.err) hF' (by omega) (by simp; omega) id
    rw [hdec]
    have hq : sBool.rd w' [.bool (decide (q = 1))] (decide (q = 1)) [] := ⟨rfl, rfl⟩
    have hrd : sLease.rd w' (ints [a0, a1, a2] ++ ([.slice A n c] ++ (ints [d0, d1, d2] ++ [.bool (decide (q = 1))]))) ([a0, a1, a2], ll, [d0, d1, d2], decide (q = 1)) ([] ++ (F ++ ([] ++ []))) :=
      seq_rd (S := sInt.rep 3) (T := sInts.seq ((sInt.rep 3).seq sBool)) (rep_mk w' rfl hI) (seq_rd (S := sInts) (T := (sInt.rep 3).seq sBool) h1 (seq_rd (S := sInt.rep 3) (T := sBool) (rep_mk w' rfl hI2) hq))
    refine ⟨_, rfl, ⟨_, _, _, rfl, hrd, by simpa using h2, fun he => by rw [h3 he]⟩, ?_⟩
    exact (c11.fr.t (Fr.drew [] w11)).trans hF' (fun i hi => .inr (by simp at hi; omega))
end Go.Proofs.Ytachignmofpngaa
