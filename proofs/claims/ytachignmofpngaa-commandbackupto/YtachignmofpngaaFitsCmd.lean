/- The shapes of the arguments of layer 10's laws. -/
import Derived.Test.YtachignmofpngaaFits
import Derived.Test.YtachignmofpngaaRefS
set_option linter.unusedVariables false
set_option linter.unusedSimpArgs false
set_option maxRecDepth 20000
namespace Go.Proofs.Ytachignmofpngaa
open Go Go.Vc Go.ChangeShapes Go.WideShapes Go.ChangeAt Go.RowKit

theorem fInt : Fits 3 sInt (fun _ => 1) := fits_int Try.underlying3
theorem fInt64 : Fits 2 sInt (fun _ => 1) := fits_int Try.underlying2
theorem fErr : Fits 38 sInt (fun _ => 1) := fits_int Try.underlying38
theorem fBool : Fits 4 sBool (fun _ => 1) := fits_bool Try.underlying4
theorem fByte : Fits 5 sByte (fun _ => 1) := fits_byte Try.underlying5
theorem fInts : Fits 28 sInts (fun l => (l.map fun _ => 1).sum + 1) := fits_list Try.underlying28 (by kernel_rfl) (by decide) fInt
theorem fBytes : Fits 37 (sByte.list (by decide)) (fun l => (l.map fun _ => 1).sum + 1) := fits_list Try.underlying37 (by kernel_rfl) (by decide) fByte
theorem fVec : Fits 23 (sInt.rep 2) (fun _ => 2) := by
  refine Fits.conv (fits_struct Try.underlying23 (by kernel_rfl) (fits_cons fInt64 (by kernel_rfl) (fits_last fInt64 (by kernel_rfl)))) ?_
  rintro W cs ⟨a, b⟩ F ⟨c1, c2, F1, F2, rfl, rfl, ⟨rfl, rfl, h1⟩, ⟨rfl, rfl, h2⟩⟩
  exact ⟨[a, b], ⟨rfl, rows_ints.2 ⟨rfl, rfl, by simp only [List.mem_cons, List.not_mem_nil, or_false]; rintro y (rfl | rfl) <;> assumption⟩⟩, by simp⟩
theorem fHunger : Fits 119 (sInt.rep 2) (fun _ => 2) := by
  refine Fits.conv (fits_struct Try.underlying119 (by kernel_rfl) (fits_cons fInt (by kernel_rfl) (fits_last fInt64 (by kernel_rfl)))) ?_
  rintro W cs ⟨a, b⟩ F ⟨c1, c2, F1, F2, rfl, rfl, ⟨rfl, rfl, h1⟩, ⟨rfl, rfl, h2⟩⟩
  exact ⟨[a, b], ⟨rfl, rows_ints.2 ⟨rfl, rfl, by simp only [List.mem_cons, List.not_mem_nil, or_false]; rintro y (rfl | rfl) <;> assumption⟩⟩, by simp⟩
theorem fNode : Fits 27 (sInt.rep 5) (fun _ => 5) := by
  refine Fits.conv (fits_struct Try.underlying27 (by kernel_rfl) (fits_cons fInt (by kernel_rfl) (fits_cons fInt (by kernel_rfl) (fits_cons fInt64 (by kernel_rfl) (fits_cons fInt (by kernel_rfl) (fits_last fInt (by kernel_rfl))))))) ?_
  rintro W cs ⟨a0, a1, a2, a3, a4⟩ F ⟨_, _, _, _, rfl, rfl, ⟨rfl, rfl, h0⟩, _, _, _, _, rfl, rfl, ⟨rfl, rfl, h1⟩, _, _, _, _, rfl, rfl, ⟨rfl, rfl, h2⟩, _, _, _, _, rfl, rfl, ⟨rfl, rfl, h3⟩, ⟨rfl, rfl, h4⟩⟩
  exact ⟨[a0, a1, a2, a3, a4], ⟨rfl, rows_ints.2 ⟨rfl, rfl, by simp only [List.mem_cons, List.not_mem_nil, or_false]; rintro y (rfl | rfl | rfl | rfl | rfl) <;> assumption⟩⟩, by simp⟩
theorem fQueue : Fits 25 (sInt.rep 7) (fun _ => 7) := by
  refine Fits.conv (fits_struct Try.underlying25 (by kernel_rfl) (fits_cons fInt (by kernel_rfl) (fits_cons fInt (by kernel_rfl) (fits_cons fInt64 (by kernel_rfl) (fits_cons fVec (by kernel_rfl) (fits_last fVec (by kernel_rfl))))))) ?_
  rintro W cs ⟨a0, a1, a2, l3, l4⟩ F ⟨_, _, _, _, rfl, rfl, ⟨rfl, rfl, h0⟩, _, _, _, _, rfl, rfl, ⟨rfl, rfl, h1⟩, _, _, _, _, rfl, rfl, ⟨rfl, rfl, h2⟩, _, _, _, _, rfl, rfl, ⟨hl3, hr3⟩, hl4, hr4⟩
  obtain ⟨rfl, rfl, h3⟩ := rows_ints.1 hr3
  obtain ⟨rfl, rfl, h4⟩ := rows_ints.1 hr4
  refine ⟨[a0, a1, a2] ++ (l3 ++ l4), ⟨by simp only [List.length_append, List.length_cons, List.length_nil]; simp only at hl3 hl4; omega, rows_ints.2 ⟨by simp, rfl, ?_⟩⟩, by simp⟩
  intro y hy
  simp only [List.mem_append, List.mem_cons, List.not_mem_nil, or_false] at hy
  rcases hy with (rfl | rfl | rfl) | hy | hy
  · exact h0
  · exact h1
  · exact h2
  · exact h3 y hy
  · exact h4 y hy
theorem fTask : Fits 30 sTask (fun t => t.2.1.length) := by
  refine Fits.conv (fits_struct Try.underlying30 (by kernel_rfl) (fits_cons fInt (by kernel_rfl) (fits_cons fInt (by kernel_rfl) (fits_cons fVec (by kernel_rfl) (fits_cons fInt (by kernel_rfl) (fits_cons fInts (by kernel_rfl) (fits_last fInt (by kernel_rfl)))))))) ?_
  rintro W cs ⟨a0, a1, l2, a3, l4, a5⟩ F ⟨_, _, _, _, rfl, rfl, ⟨rfl, rfl, h0⟩, _, _, _, _, rfl, rfl, ⟨rfl, rfl, h1⟩, _, _, _, _, rfl, rfl, ⟨hl2, hr2⟩, _, _, _, _, rfl, rfl, ⟨rfl, rfl, h3⟩, _, _, F4, _, rfl, rfl, h4, ⟨rfl, rfl, h5⟩⟩
  obtain ⟨rfl, rfl, h2⟩ := rows_ints.1 hr2
  refine ⟨([a0, a1] ++ (l2 ++ [a3]), l4, a5), ?_, ?_⟩
  · have := seq_rd (S := sInt.rep 5) (T := sInts.seq sInt) (w := W) (c1 := ([a0, a1] ++ (l2 ++ [a3])).map (Value.int .i64)) (F1 := []) (a := [a0, a1] ++ (l2 ++ [a3]))
      ⟨by simp only [List.length_append, List.length_cons, List.length_nil]; simp only at hl2; omega, rows_ints.2 ⟨rfl, rfl, by
        intro y hy
        simp only [List.mem_append, List.mem_cons, List.not_mem_nil, or_false] at hy
        rcases hy with (rfl | rfl) | hy | rfl
        · exact h0
        · exact h1
        · exact h2 y hy
        · exact h3⟩⟩
      (seq_rd (S := sInts) (T := sInt) h4 (show sInt.rd W [.int .i64 a5] a5 [] from ⟨rfl, rfl, h5⟩))
    show ((sInt.rep 5).seq (sInts.seq sInt)).rd W _ _ _
    simpa using this
  · have : (l4.map fun _ => 1).sum = l4.length := by rw [List.map_const', List.sum_replicate_nat, Nat.mul_one]
    show l4.length ≤ 1 + (1 + (2 + (1 + ((l4.map fun _ => 1).sum + 1 + 1))))
    omega
theorem fCmd : Fits 32 sCmd (fun c => c.2.2.2.2.2.1.length) := by
  refine Fits.conv (fits_struct Try.underlying32 (by kernel_rfl) (fits_cons fInt (by kernel_rfl) (fits_cons fInt (by kernel_rfl) (fits_cons fInt (by kernel_rfl) (fits_cons fInt (by kernel_rfl) (fits_cons fInt64 (by kernel_rfl) (fits_cons fQueue (by kernel_rfl) (fits_cons fNode (by kernel_rfl) (fits_last fTask (by kernel_rfl)))))))))) ?_
  rintro W cs ⟨k, a1, a2, a3, a4, q, n, t⟩ F ⟨_, _, _, _, rfl, rfl, hk, _, _, _, _, rfl, rfl, ⟨rfl, rfl, h1⟩, _, _, _, _, rfl, rfl, ⟨rfl, rfl, h2⟩, _, _, _, _, rfl, rfl, ⟨rfl, rfl, h3⟩, _, _, _, _, rfl, rfl, ⟨rfl, rfl, h4⟩, _, _, _, _, rfl, rfl, hq, _, _, _, _, rfl, rfl, hn, ht⟩
  refine ⟨(k, [a1, a2, a3, a4], q, n, t), ?_, ?_⟩
  · have := seq_rd (S := sInt) (T := (sInt.rep 4).seq ((sInt.rep 7).seq ((sInt.rep 5).seq sTask))) hk (seq_rd (S := sInt.rep 4) (c1 := [a1, a2, a3, a4].map (Value.int .i64)) (F1 := []) (a := [a1, a2, a3, a4]) ⟨rfl, rows_ints.2 ⟨rfl, rfl, by simp only [List.mem_cons, List.not_mem_nil, or_false]; rintro y (rfl | rfl | rfl | rfl) <;> assumption⟩⟩ (seq_rd hq (seq_rd hn ht)))
    show (sInt.seq ((sInt.rep 4).seq ((sInt.rep 7).seq ((sInt.rep 5).seq sTask)))).rd W _ _ _
    simpa using this
  · simp only; omega
theorem fEntry : Fits 34 sEntry (fun e => e.2.2.2.2.2.2.1.length) := by
  refine Fits.conv (fits_struct Try.underlying34 (by kernel_rfl) (fits_cons fInt64 (by kernel_rfl) (fits_cons fInt (by kernel_rfl) (fits_cons fInt (by kernel_rfl) (fits_last fCmd (by kernel_rfl)))))) ?_
  rintro W cs ⟨a1, a2, a3, c⟩ F ⟨_, _, _, _, rfl, rfl, ⟨rfl, rfl, h1⟩, _, _, _, _, rfl, rfl, ⟨rfl, rfl, h2⟩, _, _, _, _, rfl, rfl, ⟨rfl, rfl, h3⟩, hc⟩
  refine ⟨([a1, a2, a3], c), ?_, ?_⟩
  · have := seq_rd (S := sInt.rep 3) (T := sCmd) (w := W) (c1 := [a1, a2, a3].map (Value.int .i64)) (F1 := []) (a := [a1, a2, a3]) ⟨rfl, rows_ints.2 ⟨rfl, rfl, by simp only [List.mem_cons, List.not_mem_nil, or_false]; rintro y (rfl | rfl | rfl) <;> assumption⟩⟩ hc
    show ((sInt.rep 3).seq sCmd).rd W _ _ _
    simpa using this
  · simp only; omega
end Go.Proofs.Ytachignmofpngaa
