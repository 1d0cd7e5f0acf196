/- The shape of a state that is an argument, and how long its bytes are. -/
import Derived.Test.YtachignmofpngaaFitsAns
set_option linter.unusedVariables false
set_option linter.unusedSimpArgs false
set_option maxRecDepth 20000
namespace Go.Proofs.Ytachignmofpngaa
open Go Go.Vc Go.ChangeShapes Go.WideShapes Go.ChangeAt Go.RowKit

def mTask (x : DTask) : Nat := x.2.1.length + 7
theorem fTask7 : Fits 30 sTask mTask := by
  refine Fits.conv (fits_struct Try.underlying30 (by kernel_rfl) (fits_cons fInt (by kernel_rfl) (fits_cons fInt (by kernel_rfl) (fits_cons fVec (by kernel_rfl) (fits_cons fInt (by kernel_rfl) (fits_cons fInts (by kernel_rfl) (fits_last fInt (by kernel_rfl)))))))) ?_
  rintro W cs ⟨a0, a1, l2, a3, l4, a5⟩ F ⟨_, _, _, _, rfl, rfl, ⟨rfl, rfl, h0⟩, _, _, _, _, rfl, rfl, ⟨rfl, rfl, h1⟩, _, _, _, _, rfl, rfl, ⟨hl2, hr2⟩, _, _, _, _, rfl, rfl, ⟨rfl, rfl, h3⟩, _, _, F4, _, rfl, rfl, h4, ⟨rfl, rfl, h5⟩⟩
  obtain ⟨rfl, rfl, h2⟩ := rows_ints.1 hr2
  refine ⟨([a0, a1] ++ (l2 ++ [a3]), l4, a5), ?_, ?_⟩
  · have := seq_rd (S := sInt.rep 5) (T := sInts.seq sInt) (w := W) (c1 := ([a0, a1] ++ (l2 ++ [a3])).map (Value.int .i64)) (F1 := []) (a := [a0, a1] ++ (l2 ++ [a3]))
      ⟨by simp only [List.length_append, List.length_cons, List.length_nil]; simp only at hl2; omega, rows_ints.2 ⟨rfl, rfl, by
        intro y hy
        simp only [List.mem_append, List.mem_cons, List.not_mem_nil, or_false] at hy
        rcases hy with (rfl | rfl) | hy | rfl
        · exact h0
        · exact h1
        · exact h2 y hy
        · exact h3⟩⟩
      (seq_rd (S := sInts) (T := sInt) h4 (show sInt.rd W [.int .i64 a5] a5 [] from ⟨rfl, rfl, h5⟩))
    show ((sInt.rep 5).seq (sInts.seq sInt)).rd W _ _ _
    simpa using this
  · have : (l4.map fun _ => 1).sum = l4.length := by rw [List.map_const', List.sum_replicate_nat, Nat.mul_one]
    show l4.length + 7 ≤ 1 + (1 + (2 + (1 + ((l4.map fun _ => 1).sum + 1 + 1))))
    omega
theorem fTasks : Fits 55 (sTask.list (by decide)) (fun l => (l.map mTask).sum + 1) := fits_list Try.underlying55 (by kernel_rfl) (by decide) fTask7
theorem fQueues : Fits 53 ((sInt.rep 7).list (by decide)) (fun l => (l.map fun _ => 7).sum + 1) := fits_list Try.underlying53 (by kernel_rfl) (by decide) fQueue
theorem fNodes : Fits 54 ((sInt.rep 5).list (by decide)) (fun l => (l.map fun _ => 5).sum + 1) := fits_list Try.underlying54 (by kernel_rfl) (by decide) fNode
theorem fHungers : Fits 56 ((sInt.rep 2).list (by decide)) (fun l => (l.map fun _ => 2).sum + 1) := fits_list Try.underlying56 (by kernel_rfl) (by decide) fHunger
def mState (a : DState) : Nat := 3 + ((a.2.1.map fun _ => 7).sum + 1) + ((a.2.2.1.map fun _ => 5).sum + 1) + ((a.2.2.2.1.map mTask).sum + 1) + ((a.2.2.2.2.1.map mLease).sum + 1) + ((a.2.2.2.2.2.map fun _ => 2).sum + 1)
theorem fState : Fits 58 sState mState := by
  refine Fits.conv (fits_struct Try.underlying58 (by kernel_rfl) (fits_cons fInt64 (by kernel_rfl) (fits_cons fInt64 (by kernel_rfl) (fits_cons fInt64 (by kernel_rfl) (fits_cons fQueues (by kernel_rfl) (fits_cons fNodes (by kernel_rfl) (fits_cons fTasks (by kernel_rfl) (fits_cons fLeases (by kernel_rfl) (fits_last fHungers (by kernel_rfl)))))))))) ?_
  rintro W cs ⟨a0, a1, a2, l3, l4, l5, l6, l7⟩ F ⟨_, _, _, _, rfl, rfl, ⟨rfl, rfl, h0⟩, _, _, _, _, rfl, rfl, ⟨rfl, rfl, h1⟩, _, _, _, _, rfl, rfl, ⟨rfl, rfl, h2⟩, hr⟩
  refine ⟨([a0, a1, a2], l3, l4, l5, l6, l7), ?_, ?_⟩
  · have := seq_rd (S := sInt.rep 3) (w := W) (c1 := [a0, a1, a2].map (Value.int .i64)) (F1 := []) (a := [a0, a1, a2])
      ⟨rfl, rows_ints.2 ⟨rfl, rfl, by simp only [List.mem_cons, List.not_mem_nil, or_false]; rintro y (rfl | rfl | rfl) <;> assumption⟩⟩ hr
    show ((sInt.rep 3).seq _).rd W _ _ _
    simpa using this
  · simp only [mState]; omega
theorem rep_le (n : Nat) (x : List Int) (h : x.length = n) : ((cInt.rep n).enc x).length ≤ 9 * n := wholes_le x n (by omega)
theorem task_le (x : DTask) (h : x.1.length = 5) : (cTask.enc x).length ≤ 9 * mTask x := by
  have n1 := wholes_le x.1 5 (by omega)
  have n2 := listN_length x.2.1
  have n4 := (wholeN_length x.2.2).2
  show (wholes x.1 ++ (listN x.2.1 ++ wholeN x.2.2)).length ≤ 9 * (x.2.1.length + 7)
  simp only [List.length_append]; omega
theorem task_rd5 {w : World} {cs : List Value} {x : DTask} {F : List Nat} (h : sTask.rd w cs x F) : x.1.length = 5 := by
  obtain ⟨c1, c2, F1, F2, rfl, rfl, h1, _⟩ := h
  exact h1.1
theorem rep_rd {n : Nat} {w : World} {cs : List Value} {x : List Int} {F : List Nat} (h : (sInt.rep n).rd w cs x F) : x.length = n := h.1
theorem state_le {w : World} {cs : List Value} {a : DState} {F : List Nat} (h : sState.rd w cs a F) : (cState.enc a).length ≤ 9 * mState a := by
  obtain ⟨c1, c2, F1, F2, rfl, rfl, h1, c3, c4, F3, F4, rfl, rfl, h3, c5, c6, F5, F6, rfl, rfl, h5, c7, c8, F7, F8, rfl, rfl, h7, c9, c10, F9, F10, rfl, rfl, h9, h10⟩ := h
  have n1 := wholes_le a.1 3 (by have := h1.1; omega)
  have n3 := list_le (cInt.rep 7) (fun _ => 7) _ (rep_le 7) a.2.1 (list_all _ (fun _ _ _ => rep_rd) h3)
  have n5 := list_le (cInt.rep 5) (fun _ => 5) _ (rep_le 5) a.2.2.1 (list_all _ (fun _ _ _ => rep_rd) h5)
  have n7 := list_le cTask mTask _ task_le a.2.2.2.1 (list_all _ (fun _ _ _ => task_rd5) h7)
  have n9 := list_le cLease mLease _ lease_le a.2.2.2.2.1 (list_all _ (fun _ _ _ => lease_rd3) h9)
  have n10 := list_le (cInt.rep 2) (fun _ => 2) _ (rep_le 2) a.2.2.2.2.2 (list_all _ (fun _ _ _ => rep_rd) h10)
  show (wholes a.1 ++ ((cInt.rep 7).list.enc a.2.1 ++ ((cInt.rep 5).list.enc a.2.2.1 ++ (cTask.list.enc a.2.2.2.1 ++ (cLease.list.enc a.2.2.2.2.1 ++ (cInt.rep 2).list.enc a.2.2.2.2.2))))).length ≤ _
  simp only [List.length_append, mState]
  omega
theorem sum_ge {α : Type} (m : α → Nat) : ∀ (l : List α), ∀ x ∈ l, m x ≤ (l.map m).sum
  | [], x, h => by simp at h
  | y :: l, x, h => by
    rw [List.map_cons, List.sum_cons]
    rcases List.mem_cons.1 h with rfl | h
    · omega
    · have := sum_ge m l x h; omega
theorem sum_len {α : Type} (m : α → Nat) (h : ∀ a, 1 ≤ m a) : ∀ (l : List α), l.length ≤ (l.map m).sum
  | [] => by simp
  | y :: l => by
    rw [List.map_cons, List.sum_cons, List.length_cons]
    have := h y; have := sum_len m h l; omega
theorem state_sizes (a : DState) : (∀ x ∈ a.2.2.2.1, x.2.1.length ≤ mState a) ∧ (∀ x ∈ a.2.2.2.2.1, x.2.1.length ≤ mState a) ∧ (a.2.1.length ≤ mState a ∧ a.2.2.1.length ≤ mState a ∧ a.2.2.2.1.length ≤ mState a ∧ a.2.2.2.2.1.length ≤ mState a ∧ a.2.2.2.2.2.length ≤ mState a) := by
  have q := sum_len (fun _ => 7) (by simp) a.2.1
  have n := sum_len (fun _ => 5) (by simp) a.2.2.1
  have t := sum_len mTask (fun x => by simp only [mTask]; omega) a.2.2.2.1
  have l := sum_len mLease (fun x => by simp only [mLease]; omega) a.2.2.2.2.1
  have h := sum_len (fun _ => 2) (by simp) a.2.2.2.2.2
  refine ⟨fun x hx => ?_, fun x hx => ?_, ?_, ?_, ?_, ?_, ?_⟩
  · have := sum_ge mTask _ x hx; simp only [mState]; simp only [mTask] at this ⊢; omega
  · have := sum_ge mLease _ x hx; simp only [mState]; simp only [mLease] at this ⊢; omega
  all_goals (simp only [mState]; omega)
end Go.Proofs.Ytachignmofpngaa
