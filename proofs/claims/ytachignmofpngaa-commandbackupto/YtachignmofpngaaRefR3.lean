/- Contracts of the reference's reader: furlongref10.list, aQueue, aNode, aTask, aLease, someLeases, end. -/
import Derived.Test.YtachignmofpngaaRefR2
import Derived.Test.YtachignmofpngaaRefT2
set_option linter.unusedVariables false
set_option linter.unusedSimpArgs false
set_option maxRecDepth 20000
namespace Go.Proofs.Ytachignmofpngaa
open Go Go.Vc

/-- A list that is gathered by append in blocks from B on, its things too. -/
def Ga {α : Type} (S : Shape α) (T : TypeId) (B : Nat) (w : World) (v : Value) (l : List α) : Prop :=
  ∃ cells G, Own w T S.size v l.length cells ∧ S.rows w l cells G ∧ (∀ i ∈ G, B ≤ i) ∧ (∀ i ∈ fp v, B ≤ i) ∧ (∀ i ∈ fp v, i ∉ G)
section
variable {α : Type} {S : Shape α} {T : TypeId} {B : Nat} {w : World} {v : Value} {l : List α}
theorem Ga.nil (S : Shape α) (T : TypeId) (B : Nat) (w : World) : Ga S T B w (.slice none 0 0) [] := ⟨[], [], Own.nil _ _ _, ⟨rfl, rfl⟩, by simp, by simp [fp_nil], by simp [fp_nil]⟩
theorem Ga.fr {w' : World} {X : List Nat} (h : Ga S T B w v l) (f : Fr X w w') (hx : ∀ i ∈ X, i < B) : Ga S T B w' v l := by
  obtain ⟨cells, G, h1, h2, h3, h4, h5⟩ := h
  exact ⟨cells, G, h1.fr f (fun i hi hm => by have := h4 i hi; have := hx i hm; omega), rows_fr S f h2 (fun i hi hm => by have := h3 i hi; have := hx i hm; omega), h3, h4, h5⟩
theorem Ga.lt (h : Ga S T B w v l) : ∀ i ∈ fp v, i < w.heap.size := by obtain ⟨_, _, h1, _⟩ := h; exact h1.lt
theorem Ga.low (h : Ga S T B w v l) : ∀ i ∈ fp v, B ≤ i := by obtain ⟨_, _, _, _, _, h1, _⟩ := h; exact h1
theorem Ga.one (h : Ga S T B w v l) : v.oneCell' = true := by obtain ⟨_, _, h1, _⟩ := h; obtain ⟨A, c, rfl⟩ := h1.len; rfl
theorem Ga.slice (h : Ga S T B w v l) : ∃ A c, v = .slice A l.length c := by obtain ⟨_, _, h1, _⟩ := h; exact h1.len
theorem Ga.push {LT : TypeId} {z u : Value} {bytes : Nat} {a : α} {cs : List Value} {F : List Nat} {k : Value → World → Prop} (g : Ga S T B w v l) (hS0 : 0 < S.size) (hS1 : S.size ≤ 1000) (hb1 : bytes ≤ 1000) (hl : l.length ≤ 100000000) (hB : B ≤ w.heap.size)
    (ht : Try.prog.underlying LT = some (.slice T)) (hinf : (Try.prog.info? T).map (fun i => (i.zero, i.size, i.bytes)) = some (some z, S.size, bytes)) (hz : z.cells.size = S.size)
    (ha : S.rd w cs a F) (hF : ∀ i ∈ F, B ≤ i ∧ i ∉ fp v) (hu : u.cells.toList = cs) (hk : ∀ v' w', Ga S T B w' v' (l ++ [a]) → Fr (fp v) w w' → k v' w') :
    Do Try.prog (Instr.buildSlice LT 1 #[(0, u)]) w fun t13 w11 => Do Try.prog (Builtin.append_ #[LT, LT] LT #[v, t13]) w11 k := by
  obtain ⟨cells, G, h1, h2, h3, h4, h5⟩ := g
  refine lit1 ht hinf hS1 hu (S.len ha) ?_
  intro b wb hb hBk hfb hzb
  refine do_append ht hinf hz hS0 (h1.fr hfb (fun i _ => by simp)) (Bk.slN hBk (by rw [S.len ha]; omega) 1) (S.one ha) ?_ (by omega) ?_
  · have : (l.length + 1) * bytes ≤ 100000001 * 1000 := Nat.mul_le_mul (by omega) hb1
    omega
  intro v' wc ho hfc hsub
  have hGlt := rows_lt S h2
  have hFlt := S.lt ha
  have fc : Fr (fp v) w wc := (hfb.mono (fun i hi => by simp at hi)).t hfc
  have hGv : ∀ i ∈ G, i ∉ fp v := fun i hi hm => h5 i hm hi
  refine hk v' wc ⟨cells ++ cs, G ++ F, by rw [List.length_append]; exact ho, rows_snoc S (S.fr ha fc (fun i hi => (hF i hi).2)) (rows_fr S fc h2 hGv), ?_, ?_, ?_⟩ fc
  · intro i hi
    rcases List.mem_append.1 hi with h | h
    · exact h3 i h
    · exact (hF i h).1
  · intro i hi
    rcases hsub i hi with h | h
    · exact h4 i h
    · omega
  · intro i hi hm
    rcases hsub i hi with h | h
    · rcases List.mem_append.1 hm with h' | h'
      · exact h5 i h h'
      · exact (hF i h').2 h
    · rcases List.mem_append.1 hm with h' | h'
      · have := hGlt i h'; omega
      · have := hFlt i h'; omega
theorem Ga.rd (h : Ga S T B w v l) (hS : 0 < S.size) : ∃ F, (S.list hS).rd w [v] l F ∧ ∀ i ∈ F, B ≤ i := by
  obtain ⟨cells, G, h1, h2, h3, h4, h5⟩ := h
  refine ⟨_, ⟨v, cells, G, rfl, h1.cap, h1.sl, h2, rfl⟩, fun i hi => ?_⟩
  rcases List.mem_append.1 hi with h | h
  · split at h
    · simp at h
    · exact h4 i h
  · exact h3 i h
end

/-- A list that is handed back: it is the right one, where there is no error. -/
def LQ {α : Type} (S : Shape α) (hS : 0 < S.size) (B : Nat) (er : Int) (l : List α) (x : Value) (w : World) : Prop :=
  ∃ l' F, (S.list hS).rd w [x] l' F ∧ (∀ i ∈ F, B ≤ i) ∧ (er = 0 → l' = l)
theorem LQ.none {α : Type} {S : Shape α} {hS : 0 < S.size} {B : Nat} {er : Int} {l : List α} {w : World} (h : er ≠ 0) : LQ S hS B er l (.slice none 0 0) w :=
  ⟨[], [], nil_rd S hS w, by simp, fun h' => absurd h' h⟩
theorem decA_le (bs : List Nat) (s : PS) : (decN 1024 3 bs s).1 ≤ 1024 := by
  unfold decN
  split
  · simp
  · rename_i he
    split
    · simp
    · rename_i h
      by_cases h0 : (getN bs s.pos).2.2 = 0
      · simp only; omega
      · simp only; rw [getN_err bs s.pos h0]; omega
theorem decL_place {α : Type} (C : Codec α) (bs : List Nat) (n : Nat) (s : PS) (h : s.pos ≤ bs.length) : (decL C bs n s).2.pos ≤ bs.length := by
  rw [(decL_eq C bs n s).1]; exact decR_place C bs n s h

theorem rlist_c {w : World} {v : Value} {bs : List Nat} {s : PS} (h : Rs w v bs) (hp : s.pos ≤ bs.length) :
    CallF Try.prog 53 #[rv v s] w (Nx v (decA cInt bs s).2 w (LQ sInt (by decide) w.heap.size (decA cInt bs s).2.err (decA cInt bs s).1)) := by
  refine C_furlongref10_list_link ?_
  unfold C_furlongref10_list
  refine rc_box h hp fun b w1 hb c1 => ?_
  refine alloc_n (n := 3) (by kernel_rfl) ?_
  intro b2 w2 l hl hb2 hB2 hF2 hs2
  have c2 := c1.fresh hF2
  have hlt := c1.var.lt
  have h2 : w.heap.size ≤ b2 := by omega
  have hn := decA_le bs s
  have hpn := (cNum 1024 3 (by omega) (by omega)).place bs s hp
  have hdA : decA cInt bs s = decL cInt bs (decN 1024 3 bs s).1 (decN 1024 3 bs s).2 := rfl
  rw [hdA]
  refine c2.call (totalR_c c2.rs hp) hpn ?_
  rintro x w3 w4 rfl hF3 hF4 c4
  have hF24 : Fr [b] w2 w4 := (hF3.mono (fun i hi => by simp at hi)).t hF4
  have hB4 := hB2.fr hF24 (by simp; omega)
  generalize (decN 1024 3 bs s).1 = n at *
  generalize (decN 1024 3 bs s).2 = s1 at *
  refine ⟨fun m t l i w' => ∃ (j : Nat) (sj : PS) (lj : List Int), j + m = n ∧ lj.length = j ∧ i = .int .i64 j ∧ RC w b v bs w' sj ∧ (∃ l2, Bk w' b2 92 l2 ∧ l2.length = 3) ∧ Ga sInt 3 (b2 + 1) w' l lj ∧
      decL cInt bs n s1 = (lj ++ (decL cInt bs m sj).1, (decL cInt bs m sj).2), n, ⟨0, s1, [], by omega, rfl, rfl, c4, ⟨l, hB4, hl⟩, Ga.nil _ _ _ _, rfl⟩, ?_⟩
  rintro m t l' i w5 ⟨j, sj, lj, hj, hlj, rfl, c5, ⟨l5, hB5, hl5⟩, g5, hdec⟩
  refine lss (if_p (fun hjn => ?_) (fun hjn => ?_))
  · obtain ⟨m', rfl⟩ : ∃ m', m = m' + 1 := ⟨m - 1, by omega⟩
    refine c5.call (rnum_c c5.rs c5.place) (cInt.place _ _ c5.place) ?_
    rintro x w6 w7 rfl hF6 hF7 c7
    have hF57 : Fr [b] w5 w7 := (hF6.mono (fun i hi => by simp at hi)).t hF7
    have hB7 := hB5.fr hF57 (by simp; omega)
    have g7 := g5.fr hF57 (by simp; omega)
    have hI := decI_I64 h.byte sj
    refine fad (ldC_bk c7.var rfl (neq (if_p (fun he => ?_) (fun he => ?_))))
    · have he' : (cInt.dec bs sj).2.err ≠ 0 := he
      have e2 : decL cInt bs (m' + 1) sj = ([], (cInt.dec bs sj).2) := by rw [decL, if_pos he']
      rw [e2] at hdec
      rw [hdec]
      refine c7.ret hB7 hl5 h2 ?_
      intro w8 hF8 _
      exact ⟨_, rfl, LQ.none he, hF8⟩
    · have e2 : decL cInt bs (m' + 1) sj = ((cInt.dec bs sj).1 :: (decL cInt bs m' (cInt.dec bs sj).2).1, (decL cInt bs m' (cInt.dec bs sj).2).2) := by
        have he' : ¬ (cInt.dec bs sj).2.err ≠ 0 := he
        rw [decL, if_neg he']
      rw [e2] at hdec
      have hlt7 := hB7.lt
      refine g7.push (S := sInt) (a := (decI bs sj).1) (cs := [.int .i64 (decI bs sj).1]) (F := []) (bytes := 8) (z := .int .i64 0) (by decide) (by decide) (by decide) (by omega) (by omega) Try.underlying28 infoInt rfl ⟨rfl, rfl, hI⟩ (by simp) rfl ?_
      intro v8 w8 g8 hF8
      have hlow := g7.low
      have c8 := c7.go hF8 (fun hm => by have := hlow b hm; omega) (fun i hi => by have := hlow i hi; omega)
      have hB8 := hB7.fr hF8 (fun hm => by have := hlow b2 hm; omega)
      refine add64 (by omega) ⟨m', by omega, j + 1, (cInt.dec bs sj).2, lj ++ [(decI bs sj).1], by omega, by simp [hlj], by congr 1, c8, ⟨l5, hB8, hl5⟩, g8, ?_⟩
      rw [hdec]
      have : (cInt.dec bs sj).1 = (decI bs sj).1 := rfl
      rw [this]
      simp
  · have hm0 : m = 0 := by omega
    subst hm0
    have e0 : decL cInt bs 0 sj = ([], sj) := rfl
    rw [e0] at hdec
    simp only [List.append_nil] at hdec
    rw [hdec]
    refine c5.ret hB5 hl5 h2 ?_
    intro w6 hF6 hF6'
    refine ⟨_, rfl, ?_, hF6⟩
    obtain ⟨F, hrd, hF⟩ := (g5.fr hF6' (by simp)).rd (by decide)
    exact ⟨lj, F, hrd, fun i hi => by have := hF i hi; omega, fun _ => rfl⟩

theorem rend_c {w : World} {v : Value} {bs : List Nat} {s : PS} (h : Rs w v bs) (hp : s.pos ≤ bs.length) :
    CallF Try.prog 50 #[rv v s] w fun r w' => r = .tuple #[.int .i64 (if s.err ≠ 0 then (s.pos : Int) else if s.pos < bs.length then s.pos else 0), .int .i64 (if s.err ≠ 0 then s.err else if s.pos < bs.length then 7 else 0)] ∧ Fr [] w w' := by
  refine C_furlongref10_end_link ?_
  unfold C_furlongref10_end
  refine rc_box h hp fun b w1 hb c1 => ?_
  refine fad (ldC_bk c1.var rfl (neq (if_p (fun he => ?_) (fun he => ?_))))
  · rw [if_pos he, if_pos he]
    refine ⟨fun w' => Bk w' b 92 (cellsR v s), c1.var.drew, ?_⟩
    refine fad (ldC_S (fun w' h => h) rfl (fad (ldC_S (fun w' h => h) rfl ?_)))
    exact ⟨rfl, c1.fr.t (Fr.drew [] w1)⟩
  · rw [if_neg he, if_neg he]
    refine fad (ldC_bk c1.var rfl (fad (ldC_bk c1.var rfl ?_)))
    refine h.sl.lenV (lss (if_p (fun hlt => ?_) (fun hge => ?_)))
    · rw [if_pos (by omega), if_pos (by omega)]
      refine fad (ldC_bk c1.var rfl ?_)
      exact ⟨rfl, c1.fr⟩
    · rw [if_neg (by omega), if_neg (by omega)]
      exact ⟨rfl, c1.fr⟩
end Go.Proofs.Ytachignmofpngaa
