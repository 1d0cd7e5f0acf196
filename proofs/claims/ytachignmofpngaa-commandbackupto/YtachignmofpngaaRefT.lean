/- Lists that are gathered by append, of things with lists of their own; contracts of furlongref10.TwinLeases. -/
import Derived.Test.YtachignmofpngaaRefZ2
set_option linter.unusedVariables false
set_option linter.unusedSimpArgs false
set_option maxRecDepth 20000
namespace Go.Proofs.Ytachignmofpngaa
open Go Go.Vc

/-- A list that has been made since w0, its things too. -/
def Gl {α : Type} (S : Shape α) (T : TypeId) (w0 w : World) (v : Value) (l : List α) : Prop :=
  ∃ cells G, New w0 w T S.size v l.length cells ∧ S.rows w l cells G ∧ (∀ i ∈ G, w0.heap.size ≤ i) ∧ (∀ i ∈ fp v, i ∉ G)
section
variable {α : Type} {S : Shape α} {T : TypeId} {w0 w : World} {v : Value} {l : List α}
theorem Gl.nil (S : Shape α) (T : TypeId) (w : World) : Gl S T w w (.slice none 0 0) [] := ⟨[], [], New.nil _ _ _, ⟨rfl, rfl⟩, by simp, by simp [fp_nil]⟩
theorem Gl.fresh {w' : World} (h : Gl S T w0 w v l) (f : Fr [] w w') : Gl S T w0 w' v l := by
  obtain ⟨cells, G, h1, h2, h3, h4⟩ := h
  exact ⟨cells, G, h1.fresh f, rows_fr S f h2 (fun i _ => by simp), h3, h4⟩
theorem Gl.fr {w0 w : World} (h : Gl S T w0 w v l) : Fr [] w0 w := by obtain ⟨_, _, h1, _⟩ := h; exact h1.fr
theorem Gl.push {LT : TypeId} {z u : Value} {bytes : Nat} {a : α} {cs : List Value} {F : List Nat} {k : Value → World → Prop} (g : Gl S T w0 w v l) (hS0 : 0 < S.size) (hS1 : S.size ≤ 1000) (hb1 : bytes ≤ 1000) (hl : l.length ≤ 100000000)
    (ht : Try.prog.underlying LT = some (.slice T)) (hinf : (Try.prog.info? T).map (fun i => (i.zero, i.size, i.bytes)) = some (some z, S.size, bytes)) (hz : z.cells.size = S.size)
    (ha : S.rd w cs a F) (hF : ∀ i ∈ F, w0.heap.size ≤ i ∧ i ∉ fp v) (hu : u.cells.toList = cs) (hk : ∀ v' w', Gl S T w0 w' v' (l ++ [a]) → k v' w') :
    Do Try.prog (Instr.buildSlice LT 1 #[(0, u)]) w fun t13 w11 => Do Try.prog (Builtin.append_ #[LT, LT] LT #[v, t13]) w11 k := by
  obtain ⟨cells, G, h1, h2, h3, h4⟩ := g
  refine lit1 ht hinf hS1 hu (S.len ha) ?_
  intro b wb hb hB hfb hzb
  refine append' (h1.fresh hfb) ht hinf hz hS0 (Bk.slN hB (by rw [S.len ha]; omega) 1) (S.one ha) ?_ (by omega) ?_
  · have : (l.length + 1) * bytes ≤ 100000001 * 1000 := Nat.mul_le_mul (by omega) hb1
    omega
  intro v' wc ho hfc hsub
  have hGlt := rows_lt S h2
  have hFlt := S.lt ha
  have fc : Fr (fp v) w wc := (hfb.mono (fun i hi => by simp at hi)).t hfc
  have hGv : ∀ i ∈ G, i ∉ fp v := fun i hi hm => h4 i hm hi
  refine hk v' wc ⟨cells ++ cs, G ++ F, by rw [List.length_append]; exact ho, rows_snoc S (S.fr ha fc (fun i hi => (hF i hi).2)) (rows_fr S fc h2 hGv), ?_, ?_⟩
  · intro i hi
    rcases List.mem_append.1 hi with h | h
    · exact h3 i h
    · exact (hF i h).1
  · intro i hi hm
    rcases hsub i hi with h | h
    · rcases List.mem_append.1 hm with h' | h'
      · exact h4 i h h'
      · exact (hF i h').2 h
    · rcases List.mem_append.1 hm with h' | h'
      · have := hGlt i h'; omega
      · have := hFlt i h'; omega
theorem Gl.rd (h : Gl S T w0 w v l) (hS : 0 < S.size) : ∃ F, (S.list hS).rd w [v] l F ∧ ∀ i ∈ F, w0.heap.size ≤ i := by
  obtain ⟨cells, G, h1, h2, h3, h4⟩ := h
  refine ⟨_, ⟨v, cells, G, rfl, h1.own.cap, h1.own.sl, h2, rfl⟩, fun i hi => ?_⟩
  rcases List.mem_append.1 hi with h | h
  · split at h
    · simp at h
    · exact h1.new i h
  · exact h3 i h
end
theorem split3 {w : World} {cs : List Value} {a : DLease} {F : List Nat} (hr : sLease.rd w cs a F) : ∃ a0 a1 a2 A c c6 F3 F6, cs = [.int .i64 a0, .int .i64 a1, .int .i64 a2] ++ ([.slice A a.2.1.length c] ++ c6) ∧ (∀ (w' : World) (v : Value) (G : List Nat), sInts.rd w' [v] a.2.1 G → sLease.rd w' ([.int .i64 a0, .int .i64 a1, .int .i64 a2] ++ ([v] ++ c6)) a (G ++ F6)) ∧ sInts.rd w [.slice A a.2.1.length c] a.2.1 F3 ∧ F6 = [] := by
  obtain ⟨c1, c2, F1, F2, rfl, rfl, h1, c3, c4, F3, F4, rfl, rfl, h2, c5, c6, F5, F6, rfl, rfl, h3, rfl, rfl⟩ := hr
  obtain ⟨l1, l2, l3, st⟩ := a
  obtain ⟨hl1, rfl, rfl, hI1⟩ := of_rep h1
  obtain ⟨hl3, rfl, rfl, hI3⟩ := of_rep h3
  obtain ⟨A, c, rfl⟩ := list_one _ h2
  simp only at hl1 hl3 h2 hI1
  match l1, hl1 with
  | [a0, a1, a2], _ =>
    refine ⟨a0, a1, a2, A, c, ints l3 ++ [.bool st], F3, [], rfl, fun w' v G hG => ?_, h2, rfl⟩
    exact seq_rd (S := sInt.rep 3) (F1 := []) (a := [a0, a1, a2]) ⟨rfl, rows_ints.2 ⟨rfl, rfl, hI1⟩⟩ (seq_rd hG (seq_rd (S := sInt.rep 3) (T := sBool) (F1 := []) (F2 := []) ⟨hl3, rows_ints.2 ⟨rfl, rfl, hI3⟩⟩ ⟨rfl, rfl⟩))
theorem twinLeases_c {w : World} {x : Value} {l : List DLease} {F : List Nat} (hr : (sLease.list (by decide)).rd w [x] l F) (hl : l.length ≤ 100000000) (hb : ∀ a ∈ l, a.2.1.length ≤ 1000000000) :
    CallF Try.prog 67 #[x] w fun r w' => Gl sLease 124 w w' r l := by
  obtain ⟨cells, G, hsl, hrows, hsub⟩ := list_open hr
  refine C_furlongref10_TwinLeases_link ?_
  unfold C_furlongref10_TwinLeases
  refine hsl.lenV ?_
  refine ⟨fun m b i w' => ∃ j : Nat, j + m = l.length ∧ i = .int .i64 j ∧ Gl sLease 124 w w' b (l.take j), l.length, ⟨0, by omega, rfl, by simpa using Gl.nil sLease _ w⟩, ?_⟩
  rintro m b i w1 ⟨j, hj, rfl, g⟩
  refine lss (if_p (fun hlt => ?_) (fun hge => ?_))
  · have hjl : j < l.length := by omega
    refine elem_var (S := sLease) (T := 124) (n := 8) rfl (by kernel_rfl) (by kernel_rfl) ((sLease.list (by decide)).fr hr g.fr (fun i _ => by simp)) hjl ?_
    intro b2 w2 cs Gj hfresh hcl hB hrd _ hF2 hone
    have hb2 := hb _ (List.getElem_mem hjl)
    have etake : l.take (j + 1) = l.take j ++ [l[j]] := List.take_succ_eq_append_getElem hjl
    generalize l[j] = aj at *
    obtain ⟨a0, a1, a2, A, c, c6, F3, F6, rfl, hmk, hin, rfl⟩ := split3 hrd
    refine lit_new (vs := []) Try.underlying28 infoInt rfl rfl rfl (by omega) (by simp) ?_
    intro v3 w3 hN3
    refine fad (ldC_bk (hB.fr hN3.fr (by simp)) rfl ?_)
    have hin3 := sInts.fr hin hN3.fr (fun i _ => by simp)
    obtain ⟨ci, Gi, hsi, hri, _⟩ := list_open hin3
    obtain ⟨rfl, rfl, hIi⟩ := rows_ints.1 hri
    refine append' hN3 Try.underlying28 infoInt rfl (by omega) hsi (ints_one _) (by omega) (by omega) ?_
    intro v4 w4 hN4 _ _
    rw [Nat.zero_add, List.nil_append] at hN4
    obtain ⟨A4, c4, rfl⟩ := hN4.own.len
    have hB4 := hB.fr hN4.fr (by simp)
    refine fad (store' hB4 (by kernel_rfl) (by omega) rfl ?_)
    intro w5 hB5 hF5 hs5
    have hb2lt := hB.lt
    have hN5 := hN4.own.fr hF5 (fun i hi => by have := hN4.new i hi; simp; omega)
    have hF15 : Fr [] w1 w5 := (hF2.t hN4.fr).trans hF5 (fun i hi => .inr (by simp at hi; omega))
    have hF25 : Fr [b2] w2 w5 := (hN4.fr.mono (fun i hi => by simp at hi)).t hF5
    replace hB5 : Bk w5 b2 124 ([Value.int .i64 a0, Value.int .i64 a1, Value.int .i64 a2] ++ ([Value.slice A4 aj.2.1.length c4] ++ c6)) := hB5
    have hcl' : ([Value.int .i64 a0, Value.int .i64 a1, Value.int .i64 a2] ++ ([Value.slice A4 aj.2.1.length c4] ++ c6)).length = 8 := by simpa using hcl
    refine ldA_bk hB5 (by omega) ?_
    have ec : (([Value.int .i64 a0, Value.int .i64 a1, Value.int .i64 a2] ++ ([Value.slice A4 aj.2.1.length c4] ++ c6)).drop 0).take 8 = ([Value.int .i64 a0, Value.int .i64 a1, Value.int .i64 a2] ++ ([Value.slice A4 aj.2.1.length c4] ++ c6)) := by rw [List.drop_zero]; exact List.take_of_length_le (by omega)
    rw [ec]
    have hin5 : sInts.rd w5 [.slice A4 aj.2.1.length c4] aj.2.1 ((if aj.2.1 = [] then [] else fp (.slice A4 aj.2.1.length c4)) ++ []) := ⟨_, _, [], rfl, hN5.cap, hN5.sl, rows_ints.2 ⟨rfl, rfl, hIi⟩, rfl⟩
    have hrd5 := hmk w5 _ _ hin5
    have g5 := g.fresh hF15
    have hnew : ∀ i ∈ (if aj.2.1 = [] then [] else fp (.slice A4 aj.2.1.length c4)) ++ [] ++ [], w2.heap.size ≤ i := by
      intro i hi
      simp only [List.append_nil] at hi
      split at hi
      · simp at hi
      · exact hN4.new i hi
    have hvlt : ∀ i ∈ fp b, i < w1.heap.size := by obtain ⟨_, _, h1, _⟩ := g; exact h1.own.lt
    have hw1 := g.fr.size
    refine g5.push (S := sLease) (a := aj) (u := .agg ([Value.int .i64 a0, Value.int .i64 a1, Value.int .i64 a2] ++ ([Value.slice A4 aj.2.1.length c4] ++ c6)).toArray) (z := (zeroT Try.prog 124).getD undef) (bytes := 80) (by decide) (by decide) (by decide) (by simp; omega) Try.underlying47 (by kernel_rfl) (by kernel_rfl) hrd5 (fun i hi => by have := hnew i hi; exact ⟨by omega, fun hm => by have := hvlt i hm; omega⟩) (by simp [Value.cells]) ?_
    intro v6 w6 g6
    refine add64 (by omega) ⟨m - 1, by omega, j + 1, by omega, by congr 1, ?_⟩
    rw [etake]
    exact g6
  · have e : l.take j = l := List.take_of_length_le (by omega)
    rw [e] at g
    exact g
end Go.Proofs.Ytachignmofpngaa
