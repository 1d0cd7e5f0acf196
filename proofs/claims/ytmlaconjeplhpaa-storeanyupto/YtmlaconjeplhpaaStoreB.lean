/- The contract of package store's put: bytes behind all others. -/
import Derived.Test.YtmlaconjeplhpaaStoreA
set_option linter.unusedVariables false
set_option linter.unusedSimpArgs false
set_option maxRecDepth 20000
namespace Go.Proofs.Ytmlaconjeplhpaa
open Go Go.Vc
open St (Dsk All64 Blk pad four put4 halfN base putF mkL mkB)

/-- A slice of bytes to a place. -/
theorem bhi {w : World} {v : Value} {bs : List Nat} {m : Nat} {κ : IntKind} {k : Value → Prop} (hs : Sl w 1 v bs.length (bytes bs)) (hc : capOk v) (hl : m ≤ bs.length)
    (h : ∀ v', Sl w 1 v' (bs.take m).length (bytes (bs.take m)) → capOk v' → (∀ i ∈ fp v', i ∈ fp v) → k v') : SlcS 1 v none (some (.int κ m)) none k := by
  refine slcHi hs hc hl ?_
  intro v' h1 h2 h3
  rw [Nat.mul_one, bytes_take] at h1
  exact h v' (by rw [List.length_take, Nat.min_eq_left hl]; exact h1) h2 h3
theorem blo {w : World} {v : Value} {bs : List Nat} {l : Nat} {κ : IntKind} {k : Value → Prop} (hs : Sl w 1 v bs.length (bytes bs)) (hc : capOk v) (hl : l ≤ bs.length)
    (h : ∀ v', Sl w 1 v' (bs.drop l).length (bytes (bs.drop l)) → capOk v' → (∀ i ∈ fp v', i ∈ fp v) → k v') : SlcS 1 v (some (.int κ l)) none none k := by
  refine slcLo hs hc hl ?_
  intro v' h1 h2 h3
  rw [Nat.mul_one, Nat.mul_one, bytes_drop, List.take_of_length_le (by rw [bytes_length, List.length_drop]; omega)] at h1
  exact h v' (by rw [List.length_drop]; exact h1) h2 h3
theorem blh {w : World} {v : Value} {bs : List Nat} {l m : Nat} {κ κ' : IntKind} {k : Value → Prop} (hs : Sl w 1 v bs.length (bytes bs)) (hc : capOk v) (hlm : l ≤ m) (hm : m ≤ bs.length)
    (h : ∀ v', Sl w 1 v' ((bs.take m).drop l).length (bytes ((bs.take m).drop l)) → capOk v' → (∀ i ∈ fp v', i ∈ fp v) → k v') : SlcS 1 v (some (.int κ l)) (some (.int κ' m)) none k := by
  refine slcLH hs hc hlm hm ?_
  intro v' h1 h2 h3
  have e : ((bytes bs).drop (l * 1)).take ((m - l) * 1) = bytes ((bs.take m).drop l) := by
    rw [Nat.mul_one, Nat.mul_one, bytes_drop, bytes_take, List.drop_take]
  rw [e] at h1
  exact h v' (by rw [List.length_drop, List.length_take, Nat.min_eq_left hm]; exact h1) h2 h3
theorem skX_mem {ps pd bb : Nat} {lv tv : Value} {i : Nat} : i ∈ skX ps pd bb lv tv ↔ i = ps ∨ i = pd ∨ i = bb ∨ i ∈ fp lv ∨ i ∈ fp tv := by
  simp [skX]
/-- The tail is another row. -/
theorem Sk.retail {w w2 w3 : World} {ps pd bb : Nat} {lv tv tv' : Value} {D : Dsk} {gen life at' at2 count count2 safe safe2 : Nat} {tail t2 : List Nat} (h : Sk w ps pd bb lv tv D gen life at' count safe tail) (ho : Own w2 5 1 tv' t2.length (bytes t2)) (hF : Fr (fp tv) w w2) (hs : ∀ i ∈ fp tv', i ∈ fp tv ∨ w.heap.size ≤ i)
    (hB : Bk w3 ps 124 [ptr pd, .int .u32 gen, .int .u32 life, tv', .int .i64 at2, .int .i64 count2, .int .i64 safe2]) (hF3 : Fr [ps] w2 w3) : Sk w3 ps pd bb lv tv' D gen life at2 count2 safe2 t2 := by
  obtain ⟨l1, l2, l3⟩ := h.dk.lt
  have l4 := h.blk.lt
  have n4 : ps ∉ fp tv' := fun hm => (hs ps hm).elim h.s4 (by omega)
  have n5 : pd ∉ fp tv' := fun hm => (hs pd hm).elim h.s5 (by omega)
  have n6 : bb ∉ fp tv' := fun hm => (hs bb hm).elim h.s6 (by omega)
  have n7 : ∀ i ∈ fp lv, i ∉ fp tv' := fun i hi hm => (hs i hm).elim (h.s7 i hi) (by have := l3 i hi; omega)
  have hd2 := h.dk.fr hF h.s5 h.s6 h.s7
  exact ⟨hd2.fr hF3 (by simp; exact fun e => h.s1 e.symm) (by simp; exact fun e => h.s2 e.symm) (fun i hi => by simp; intro e; subst e; exact h.s3 hi), hB, ho.fr hF3 (fun i hi => by simp; intro e; subst e; exact n4 hi), h.s1, h.s2, h.s3, n4, n5, n6, n7, h.g, h.l⟩
/-- The fields of a store but its tail are set. -/
theorem Sk.refield {w w3 : World} {ps pd bb : Nat} {lv tv : Value} {D : Dsk} {gen life at' at2 count count2 safe safe2 : Nat} {tail : List Nat} (h : Sk w ps pd bb lv tv D gen life at' count safe tail)
    (hB : Bk w3 ps 124 [ptr pd, .int .u32 gen, .int .u32 life, tv, .int .i64 at2, .int .i64 count2, .int .i64 safe2]) (hF3 : Fr [ps] w w3) : Sk w3 ps pd bb lv tv D gen life at2 count2 safe2 tail :=
  h.retail h.tl ((Fr.refl _ w)) (fun i hi => .inl hi) hB hF3
/-- The disk is written. -/
theorem Sk.redisk {w w2 : World} {ps pd bb : Nat} {lv lv' tv : Value} {D D' : Dsk} {gen life at' count safe : Nat} {tail : List Nat} (h : Sk w ps pd bb lv tv D gen life at' count safe tail) (hd : Dk w2 pd bb lv' D') (hF : Fr (pd :: bb :: fp lv) w w2) (hs : ∀ i ∈ fp lv', i ∈ fp lv ∨ w.heap.size ≤ i) : Sk w2 ps pd bb lv' tv D' gen life at' count safe tail := by
  have l4 := h.blk.lt
  have l5 := h.tl.lt
  refine ⟨hd, h.blk.fr hF ?_, h.tl.fr hF ?_, h.s1, h.s2, fun hm => (hs ps hm).elim h.s3 (by omega), h.s4, h.s5, h.s6, fun i hi hm => (hs i hi).elim (fun h7 => h.s7 i h7 hm) (by have := l5 i hm; omega), h.g, h.l⟩
  · simp only [List.mem_cons, not_or]; exact ⟨h.s1, h.s2, h.s3⟩
  · intro i hi
    simp only [List.mem_cons, not_or]
    exact ⟨fun e => h.s5 (e ▸ hi), fun e => h.s6 (e ▸ hi), fun hm => h.s7 i hm hi⟩
theorem sub_trans {w w2 : World} {ps pd bb : Nat} {lv lv' tv tv' lv2 tv2 : Value} (h : ∀ i ∈ skX ps pd bb lv' tv', i ∈ skX ps pd bb lv tv ∨ w.heap.size ≤ i) (h2 : ∀ i ∈ skX ps pd bb lv2 tv2, i ∈ skX ps pd bb lv' tv' ∨ w2.heap.size ≤ i) (hs : w.heap.size ≤ w2.heap.size) : ∀ i ∈ skX ps pd bb lv2 tv2, i ∈ skX ps pd bb lv tv ∨ w.heap.size ≤ i :=
  fun i hi => (h2 i hi).elim (h i) (fun h => .inr (by omega))

theorem putF_succ (gen life bs n : Nat) (D : Dsk) (at' : Nat) (t : List Nat) : putF gen life bs (n + 1) D at' t =
    if t.length < 55 then (D.write (bs + at') (mkB gen life t), at', t)
    else if t.length = 55 then (D.write (bs + at') (mkB gen life t), at' + 1, [])
    else putF gen life bs n (D.write (bs + at') (mkB gen life (t.take 55))) (at' + 1) (t.drop 55) := rfl
theorem sput_c {w : World} {ps pd bb : Nat} {lv tv x : Value} {D : Dsk} {gen life at' count safe : Nat} {tail p : List Nat} (h : Sk w ps pd bb lv tv D gen life at' count safe tail) (hx : Sl w 1 x p.length (bytes p)) (htb : ∀ c ∈ tail ++ p, c < 256)
    (hat : at' ≤ 1000000) (htl : (tail ++ p).length ≤ 10000000) (hL : D.L.length ≤ 100000000) :
    CallF Try.prog 71 #[ptr ps, x] w fun r w' => r = .tuple #[] ∧ ∃ lv' tv' D' at2 t2, putF gen life (base (halfN D.B) gen) ((tail ++ p).length + 1) D at' (tail ++ p) = (D', at2, t2) ∧ Sk w' ps pd bb lv' tv' D' gen life at2 count safe t2 ∧
      Fr (skX ps pd bb lv tv) w w' ∧ (∀ i ∈ skX ps pd bb lv' tv', i ∈ skX ps pd bb lv tv ∨ w.heap.size ≤ i) ∧ D'.L.length ≤ D.L.length + ((tail ++ p).length + 1) := by
  refine C_store_Store_put_link ?_
  unfold C_store_Store_put
  refine nilC (fad (ldC_bk h.blk rfl ?_))
  rw [List.length_append] at htl
  refine do_append Try.underlying24 infoB rfl (by omega) h.tl hx (bytes_one _) (by omega) (by omega) ?_
  intro tv1 w1 ho1 hF1 hs1
  obtain ⟨A1, c1, htv1⟩ := ho1.len
  have hB1 := h.blk.fr hF1 h.s4
  refine nilC (fad (store' hB1 (by kernel_rfl) (by simp) (by rw [htv1]; rfl) ?_))
  intro w2 hB2 hF2 hs2
  have ho1' : Own w1 5 1 tv1 (tail ++ p).length (bytes (tail ++ p)) := by rw [bytes_append, List.length_append]; exact ho1
  have h2 : Sk w2 ps pd bb lv tv1 D gen life at' count safe (tail ++ p) := h.retail ho1' hF1 hs1 (by simpa using hB2) hF2
  have hF02 : Fr (skX ps pd bb lv tv) w w2 := (hF1.mono (fun i hi => .inl (skX_mem.2 (by simp [hi])))).trans hF2 (fun i hi => .inl (skX_mem.2 (by simp at hi; simp [hi])))
  have sub02 : ∀ i ∈ skX ps pd bb lv tv1, i ∈ skX ps pd bb lv tv ∨ w.heap.size ≤ i := fun i hi => by
    rcases skX_mem.1 hi with h1 | h1 | h1 | h1 | h1
    · exact .inl (skX_mem.2 (by simp [h1]))
    · exact .inl (skX_mem.2 (by simp [h1]))
    · exact .inl (skX_mem.2 (by simp [h1]))
    · exact .inl (skX_mem.2 (by simp [h1]))
    · exact (hs1 i h1).imp (fun h => skX_mem.2 (by simp [h])) id
  have htl' : (tail ++ p).length ≤ 10000000 := by rw [List.length_append]; exact htl
  generalize tail ++ p = T at *
  refine ⟨fun m w' => ∃ lv' tv' D' at2 t2, putF gen life (base (halfN D.B) gen) (T.length + 1) D at' T = putF gen life (base (halfN D.B) gen) m D' at2 t2 ∧ t2.length < m ∧ m ≤ T.length + 1 ∧ (∀ c ∈ t2, c < 256) ∧ at2 + t2.length ≤ at' + T.length ∧ halfN D'.B = halfN D.B ∧ D'.L.length + m ≤ D.L.length + (T.length + 1) ∧ Sk w' ps pd bb lv' tv' D' gen life at2 count safe t2 ∧
      Fr (skX ps pd bb lv tv) w w' ∧ (∀ i ∈ skX ps pd bb lv' tv', i ∈ skX ps pd bb lv tv ∨ w.heap.size ≤ i), T.length + 1,
    ⟨lv, tv1, D, at', T, rfl, by omega, Nat.le_refl _, htb, Nat.le_refl _, rfl, Nat.le_refl _, h2, hF02, sub02⟩, ?_⟩
  rintro m w3 ⟨lv3, tv3, D3, at3, t3, hput, hm, hmT, hb3, hat3, hh3, hL3, h3, hF03, sub03⟩
  obtain ⟨m', rfl⟩ : ∃ m', m = m' + 1 := ⟨m - 1, by omega⟩
  refine nilC (fad (ldC_bk h3.blk rfl (h3.tl.sl.lenV (min2 ?_))))
  obtain ⟨u, hu⟩ : ∃ u, min t3.length 55 = u := ⟨_, rfl⟩
  have eu : (if (55 : Int) < (t3.length : Int) then (55 : Int) else (t3.length : Int)) = (u : Int) := by split <;> omega
  rw [eu]
  refine nilC (fad (ldC_bk h3.blk rfl ?_))
  refine (put_c (row_nil w3) gen (by simp)).use ?_
  intro v4 w4 hN4
  rw [List.nil_append] at hN4
  have h4 := h3.fresh hN4.fr
  refine nilC (fad (ldC_bk h4.blk rfl ?_))
  refine (put_c hN4 life (by rw [St.put4_length]; omega)).use ?_
  intro v5 w5 hN5
  have h5 := h3.fresh hN5.fr
  have h5d := h5.fresh (Fr.drew [] w5)
  have hN5d := hN5.fresh (Fr.drew [] w5)
  have htake : (t3.take u).length = u := by rw [List.length_take]; omega
  have hmk : put4 gen ++ put4 life ++ [u] ++ t3.take u = mkL gen life (t3.take u) := by
    unfold mkL; rw [htake]; simp
  have hmkl : (mkL gen life (t3.take u)).length = 9 + u := by rw [St.mkL_length, htake]
  -- behind the write
  have cont : ∀ (w6 : World) (lv6 : Value), Sk w6 ps pd bb lv6 tv3 (D3.write (base (halfN D.B) gen + at3) (pad (mkL gen life (t3.take u)))) gen life at3 count safe t3 → Fr (skX ps pd bb lv3 tv3) w3 w6 → (∀ i ∈ skX ps pd bb lv6 tv3, i ∈ skX ps pd bb lv3 tv3 ∨ w3.heap.size ≤ i) →
      (Bin Try.prog (At w6) .lss 3 false true (.int .i64 u) (.int .i64 55) fun t56_32 =>
        If t56_32 (
         (Value.tuple #[] = .tuple #[] ∧ ∃ lv' tv' D' at2 t2, putF gen life (base (halfN D.B) gen) (T.length + 1) D at' T = (D', at2, t2) ∧ Sk w6 ps pd bb lv' tv' D' gen life at2 count safe t2 ∧
          Fr (skX ps pd bb lv tv) w w6 ∧ (∀ i ∈ skX ps pd bb lv' tv', i ∈ skX ps pd bb lv tv ∨ w.heap.size ≤ i) ∧ D'.L.length ≤ D.L.length + (T.length + 1))) (
         NilC (ptr ps) fun t59_33 =>
         FAd 3 t59_33 fun t60_34 =>
         LdC (At w6) t60_34 fun t61_35 =>
         SlcS 1 t61_35 (some (.int .i64 55)) none none fun t62_36 =>
         Do Try.prog (Builtin.append_ #[24, 24] 24 #[(.slice none 0 0), t62_36]) w6 fun t63_37 w_38 =>
         NilC (ptr ps) fun t64_39 =>
         FAd 3 t64_39 fun t65_40 =>
         DoU Try.prog (Instr.storeAt 24 t65_40 t63_37) w_38 fun u_41 w_42 =>
         NilC (ptr ps) fun t67_43 =>
         FAd 4 t67_43 fun t68_44 =>
         LdC (At w_42) t68_44 fun t69_45 =>
         Bin Try.prog (At w_42) .add 3 false true t69_45 (.int .i64 1) fun t70_46 =>
         NilC (ptr ps) fun t71_47 =>
         FAd 4 t71_47 fun t72_48 =>
         DoU Try.prog (Instr.storeAt 3 t72_48 t70_46) w_42 fun u_49 w_50 =>
         NilC (ptr ps) fun t74_51 =>
         FAd 3 t74_51 fun t75_52 =>
         LdC (At w_50) t75_52 fun t76_53 =>
         Len t76_53 fun t77_54 =>
         Bin Try.prog (At w_50) .eql 3 false true t77_54 (.int .i64 0) fun t78_55 =>
         If t78_55 (
          (Value.tuple #[] = .tuple #[] ∧ ∃ lv' tv' D' at2 t2, putF gen life (base (halfN D.B) gen) (T.length + 1) D at' T = (D', at2, t2) ∧ Sk w_50 ps pd bb lv' tv' D' gen life at2 count safe t2 ∧
           Fr (skX ps pd bb lv tv) w w_50 ∧ (∀ i ∈ skX ps pd bb lv' tv', i ∈ skX ps pd bb lv tv ∨ w.heap.size ≤ i) ∧ D'.L.length ≤ D.L.length + (T.length + 1))) (
          ∃ m_56, m_56 < m' + 1 ∧
          ∃ lv' tv' D' at2 t2, putF gen life (base (halfN D.B) gen) (T.length + 1) D at' T = putF gen life (base (halfN D.B) gen) m_56 D' at2 t2 ∧ t2.length < m_56 ∧ m_56 ≤ T.length + 1 ∧ (∀ c ∈ t2, c < 256) ∧ at2 + t2.length ≤ at' + T.length ∧ halfN D'.B = halfN D.B ∧ D'.L.length + m_56 ≤ D.L.length + (T.length + 1) ∧ Sk w_50 ps pd bb lv' tv' D' gen life at2 count safe t2 ∧
           Fr (skX ps pd bb lv tv) w w_50 ∧ (∀ i ∈ skX ps pd bb lv' tv', i ∈ skX ps pd bb lv tv ∨ w.heap.size ≤ i)))) := by
    intro w6 lv6 h6 hF36 sub36
    have hF06 : Fr (skX ps pd bb lv tv) w w6 := hF03.trans hF36 (fun i hi => sub03 i hi)
    have sub06 := sub_trans sub03 sub36 hF03.size
    have hwl : (D3.write (base (halfN D.B) gen + at3) (pad (mkL gen life (t3.take u)))).L.length ≤ D3.L.length + 1 := by unfold Dsk.write; split <;> simp
    have hwb : halfN (D3.write (base (halfN D.B) gen + at3) (pad (mkL gen life (t3.take u)))).B = halfN D.B := by
      rw [← hh3]; unfold Dsk.write; split
      · unfold halfN; simp
      · rfl
    rw [putF_succ gen life (base (halfN D.B) gen) m' D3 at3 t3] at hput
    have eB : pad (mkL gen life (t3.take u)) = mkB gen life (t3.take u) := rfl
    rw [eB] at h6 hwl hwb
    refine lss (if_p (fun hlt => ?_) (fun hge => ?_))
    · have e : t3.take u = t3 := List.take_of_length_le (by omega)
      rw [e] at h6 hwl
      rw [if_pos (by omega)] at hput
      exact ⟨rfl, lv6, tv3, _, _, _, hput, h6, hF06, sub06, by omega⟩
    · have hu55 : u = 55 := by omega
      subst hu55
      rw [if_neg (by omega)] at hput
      refine nilC (fad (ldC_bk h6.blk rfl (blo (l := 55) h6.tl.sl h6.tl.cap (by omega) ?_)))
      intro x7 hs7 _ _
      refine row_append (row_nil w6) hs7 (by simp; omega) ?_
      intro v7 w7 hN7 _ _
      rw [List.nil_append] at hN7
      obtain ⟨A7, c7, hv7⟩ := hN7.own.len
      have hB7 := h6.blk.fr hN7.fr (by simp)
      refine nilC (fad (store' hB7 (by kernel_rfl) (by simp) (by rw [hv7]; rfl) ?_))
      intro w8 hB8 hF8 hs8
      refine nilC (fad (ldC_bk hB8 rfl (add64 (by omega) ?_)))
      refine nilC (fad (store' hB8 (by kernel_rfl) (by simp) rfl ?_))
      intro w9 hB9 hF9 hs9
      have hB9' : Bk w9 ps 124 [ptr pd, .int .u32 gen, .int .u32 life, v7, .int .i64 ((at3 + 1 : Nat) : Int), .int .i64 count, .int .i64 safe] := by simpa using hB9
      have h9 : Sk w9 ps pd bb lv6 v7 _ gen life (at3 + 1) count safe (t3.drop 55) := h6.retail hN7.own (hN7.fr.mono (fun i hi => by simp at hi)) (fun i hi => .inr (hN7.new i hi)) hB9' (hF8.t hF9)
      have hF69 : Fr (skX ps pd bb lv6 tv3) w6 w9 := (hN7.fr.mono (fun i hi => by simp at hi)).trans (hF8.t hF9) (fun i hi => .inl (skX_mem.2 (by simp at hi; simp [hi])))
      have hF09 : Fr (skX ps pd bb lv tv) w w9 := hF06.trans hF69 (fun i hi => sub06 i hi)
      have sub69 : ∀ i ∈ skX ps pd bb lv6 v7, i ∈ skX ps pd bb lv6 tv3 ∨ w6.heap.size ≤ i := fun i hi => by
        rcases skX_mem.1 hi with h1 | h1 | h1 | h1 | h1
        · exact .inl (skX_mem.2 (by simp [h1]))
        · exact .inl (skX_mem.2 (by simp [h1]))
        · exact .inl (skX_mem.2 (by simp [h1]))
        · exact .inl (skX_mem.2 (by simp [h1]))
        · exact .inr (hN7.new i h1)
      have sub09 := sub_trans sub06 sub69 hF06.size
      have hdl : (t3.drop 55).length = t3.length - 55 := List.length_drop
      refine nilC (fad (ldC_bk hB9' rfl (hN7.own.sl.lenV (eql (if_p (fun he => ?_) (fun he => ?_))))))
      · have h55 : t3.length = 55 := by omega
        have e : t3.take 55 = t3 := List.take_of_length_le (by omega)
        have e2 : t3.drop 55 = [] := List.eq_nil_of_length_eq_zero (by omega)
        rw [e] at h9 hwl
        rw [e2] at h9
        rw [if_pos h55] at hput
        exact ⟨rfl, lv6, v7, _, _, _, hput, h9, hF09, sub09, by omega⟩
      · rw [if_neg (by omega)] at hput
        exact ⟨m', by omega, lv6, v7, _, at3 + 1, t3.drop 55, hput, by omega, by omega, fun c hc => hb3 c (List.mem_of_mem_drop hc), by omega, hwb, by omega, h9, hF09, sub09⟩
  refine ⟨fun w6 => ∃ lv6, Sk w6 ps pd bb lv6 tv3 (D3.write (base (halfN D.B) gen + at3) (pad (mkL gen life (t3.take u)))) gen life at3 count safe t3 ∧ Fr (skX ps pd bb lv3 tv3) w3 w6 ∧ (∀ i ∈ skX ps pd bb lv6 tv3, i ∈ skX ps pd bb lv3 tv3 ∨ w3.heap.size ≤ i), fun w6 ⟨lv6, k1, k2, k3⟩ => cont w6 lv6 k1 k2 k3, ?_⟩
  have hwrite : ∀ (w6 : World) (v6 : Value), Row w3 w6 v6 (mkL gen life (t3.take u)) → CallF Try.prog 17 #[ptr pd, .int .i64 (base (halfN D.B) gen + at3 : Nat), v6] w6 fun _ w7 =>
      Bk w7 ps 124 [ptr pd, .int .u32 gen, .int .u32 life, tv3, .int .i64 at3, .int .i64 count, .int .i64 safe] ∧ ∃ lv6, Sk w7 ps pd bb lv6 tv3 (D3.write (base (halfN D.B) gen + at3) (pad (mkL gen life (t3.take u)))) gen life at3 count safe t3 ∧ Fr (skX ps pd bb lv3 tv3) w3 w7 ∧ (∀ i ∈ skX ps pd bb lv6 tv3, i ∈ skX ps pd bb lv3 tv3 ∨ w3.heap.size ≤ i) := by
    intro w6 v6 hN6
    have h6 := h3.fresh hN6.fr
    refine (dwrite_c h6.dk (base (halfN D.B) gen + at3) hN6.own.sl (by rw [hmkl]; omega) (fun c hc => ?_) (by omega)).use ?_
    · unfold mkL at hc
      simp only [List.mem_append, List.mem_singleton] at hc
      rcases hc with (hc | hc) | hc | hc
      · exact St.put4_lt _ c hc
      · exact St.put4_lt _ c hc
      · omega
      · exact hb3 c (List.mem_of_mem_take hc)
    rintro _ w7 ⟨_, lv7, hd7, hF7, hs7⟩
    have h7 := h6.redisk hd7 hF7 hs7
    refine ⟨h7.blk, lv7, h7, (hN6.fr.mono (fun i hi => by simp at hi)).trans hF7 (fun i hi => .inl (skX_mem.2 ?_)), fun i hi => ?_⟩
    · simp only [List.mem_cons] at hi
      rcases hi with h1 | h1 | h1 <;> simp [h1]
    · rcases skX_mem.1 hi with h1 | h1 | h1 | h1 | h1
      · exact .inl (skX_mem.2 (by simp [h1]))
      · exact .inl (skX_mem.2 (by simp [h1]))
      · exact .inl (skX_mem.2 (by simp [h1]))
      · exact (hs7 i h1).imp (fun h => skX_mem.2 (by simp [h])) (fun h => by have := hN6.fr.size; omega)
      · exact .inl (skX_mem.2 (by simp [h1]))
  have hSr : ∀ {w' : World} {v' : Value} {bs' : List Nat}, Row w3 w' v' bs' → Bk w' ps 124 [ptr pd, .int .u32 gen, .int .u32 life, tv3, .int .i64 at3, .int .i64 count, .int .i64 safe] := fun hN => (h3.fresh hN.fr).blk
  refine ⟨fun w' => Bk w' ps 124 [ptr pd, .int .u32 gen, .int .u32 life, tv3, .int .i64 at3, .int .i64 count, .int .i64 safe], h5d.blk, ?_⟩
  refine nilC (fad (ldC_S (fun w' h => h) rfl (nilC (fad (ldC_S (fun w' h => h) rfl (conv_u8_in (by omega) (nilC (fad (ldC_S (fun w' h => h) rfl ?_)))))))))
  refine bhi (w := World.drew w5) (m := u) h5d.tl.sl h5d.tl.cap (by omega) ?_
  intro x6 hs6 _ hf6
  have hat9 : at3 ≤ 1000000000 := by omega
  have l3 := h3.tl.lt
  have hx6 : ∀ {w' : World}, Fr [] w3 w' → ∀ i ∈ fp x6, i < w3.heap.size := fun _ i hi => l3 i (hf6 i hi)
  -- behind the byte
  have tailA : ∀ (w7 : World) (v7 : Value), Row w3 w7 v7 (put4 gen ++ put4 life ++ [u]) → Sl w7 1 x6 (t3.take u).length (bytes (t3.take u)) →
      Do Try.prog (Builtin.append_ #[24, 24] 24 #[v7, x6]) w7 fun t53 w75 =>
        Bk w75 ps 124 [ptr pd, .int .u32 gen, .int .u32 life, tv3, .int .i64 at3, .int .i64 count, .int .i64 safe] ∧
        CallF Try.prog 17 #[ptr pd, .int .i64 (base (halfN D.B) gen + at3 : Nat), t53] w75 fun _ w7 =>
      Bk w7 ps 124 [ptr pd, .int .u32 gen, .int .u32 life, tv3, .int .i64 at3, .int .i64 count, .int .i64 safe] ∧ ∃ lv6, Sk w7 ps pd bb lv6 tv3 (D3.write (base (halfN D.B) gen + at3) (pad (mkL gen life (t3.take u)))) gen life at3 count safe t3 ∧ Fr (skX ps pd bb lv3 tv3) w3 w7 ∧ (∀ i ∈ skX ps pd bb lv6 tv3, i ∈ skX ps pd bb lv3 tv3 ∨ w3.heap.size ≤ i) := by
    intro w7 v7 hN7 hx7
    refine row_append hN7 hx7 (by simp only [List.length_append, htake, St.put4_length, List.length_singleton]; omega) ?_
    intro v8 w8 hN8 _ _
    rw [hmk] at hN8
    exact ⟨hSr hN8, hwrite w8 v8 hN8⟩
  have hpc : ∀ w', Fr [] (World.drew w5) w' → CallF Try.prog 102 #[ptr ps, .int .i64 at3] w' fun r w2 => r = .int .i64 (base (halfN D.B) gen + at3 : Nat) ∧ Fr [] w' w2 := by
    intro w' f
    have h' := h5d.fresh f
    have := place_c (rest := [.int .u32 life, tv3, .int .i64 at3, .int .i64 count, .int .i64 safe]) h'.dk h'.blk at3 hat9
    rw [hh3] at this
    exact this
  have one : ∀ {w6 : World} {k : Value → World → Prop}, (∀ b w7, Bk w7 b 5 (bytes [u]) → Fr [] w6 w7 → k (.slice (some ⟨b, 0, none⟩) 1 1) w7) → Do Try.prog (Instr.buildSlice 24 1 #[(0, .int .u8 (u : Int))]) w6 k := by
    intro w6 k hk
    refine lit' (vs := bytes [u]) Try.underlying24 infoB rfl rfl rfl (by omega) (by simp [bytes, Value.cells]) ?_
    intro b w7 _ hB hF _
    exact hk b w7 hB hF
  refine ⟨?_, ?_⟩
  · refine (hpc _ (Fr.refl _ _)).use ?_
    rintro _ w6 ⟨rfl, hF6⟩
    refine ⟨hSr (hN5d.fresh hF6), ?_⟩
    refine one ?_
    intro b7 w7 hB7 hF7
    have g7 := hF6.t hF7
    refine ⟨hSr (hN5d.fresh g7), ?_⟩
    refine row_append (l := [u]) (hN5d.fresh g7) (hB7.sl (n := 1) rfl 1) (by simp [put4]) ?_
    intro v8 w8 hN8 hF8 _
    refine ⟨hSr hN8, tailA w8 v8 hN8 ?_⟩
    exact (hs6.fr g7 (fun i _ => by simp)).fr hF8 (fun i hi hm => by have := hN5d.new i hm; have := hx6 (Fr.refl _ _) i hi; omega)
  · refine one ?_
    intro b6 w6 hB6 hF6
    refine ⟨hSr (hN5d.fresh hF6), ?_⟩
    refine (hpc _ hF6).use ?_
    rintro _ w7 ⟨rfl, hF7⟩
    have g7 := hF6.t hF7
    refine ⟨hSr (hN5d.fresh g7), ?_⟩
    refine row_append (l := [u]) (hN5d.fresh g7) ((hB6.fr hF7 (by simp)).sl (n := 1) rfl 1) (by simp [put4]) ?_
    intro v8 w8 hN8 hF8 _
    refine ⟨hSr hN8, tailA w8 v8 hN8 ?_⟩
    exact (hs6.fr g7 (fun i _ => by simp)).fr hF8 (fun i hi hm => by have := hN5d.new i hm; have := hx6 (Fr.refl _ _) i hi; omega)
end Go.Proofs.Ytmlaconjeplhpaa
