/- The shape of an answer that is an argument, and how long its bytes are. -/
import Derived.Test.YtachignmofpngaaFitsCmd
import Derived.Test.YtachignmofpngaaCmdW4
set_option linter.unusedVariables false
set_option linter.unusedSimpArgs false
set_option maxRecDepth 20000
namespace Go.Proofs.Ytachignmofpngaa
open Go Go.Vc Go.ChangeShapes Go.WideShapes Go.ChangeAt Go.RowKit

def mLease (x : DLease) : Nat := x.2.1.length + 8
theorem sum_one {α : Type} (l : List α) : (l.map fun _ => 1).sum = l.length := by rw [List.map_const', List.sum_replicate_nat, Nat.mul_one]
theorem fLease : Fits 124 sLease mLease := by
  refine Fits.conv (fits_struct Try.underlying124 (by kernel_rfl) (fits_cons fInt (by kernel_rfl) (fits_cons fInt (by kernel_rfl) (fits_cons fInt (by kernel_rfl) (fits_cons fInts (by kernel_rfl) (fits_cons fInt64 (by kernel_rfl) (fits_cons fInt64 (by kernel_rfl) (fits_cons fInt64 (by kernel_rfl) (fits_last fBool (by kernel_rfl)))))))))) ?_
  rintro W cs ⟨a0, a1, a2, l3, a4, a5, a6, st⟩ F ⟨_, _, _, _, rfl, rfl, ⟨rfl, rfl, h0⟩, _, _, _, _, rfl, rfl, ⟨rfl, rfl, h1⟩, _, _, _, _, rfl, rfl, ⟨rfl, rfl, h2⟩, _, _, _, _, rfl, rfl, h3, _, _, _, _, rfl, rfl, ⟨rfl, rfl, h4⟩, _, _, _, _, rfl, rfl, ⟨rfl, rfl, h5⟩, _, _, _, _, rfl, rfl, ⟨rfl, rfl, h6⟩, hst⟩
  refine ⟨([a0, a1, a2], l3, [a4, a5, a6], st), ?_, ?_⟩
  · have := seq_rd (S := sInt.rep 3) (T := sInts.seq ((sInt.rep 3).seq sBool)) (w := W) (c1 := [a0, a1, a2].map (Value.int .i64)) (F1 := []) (a := [a0, a1, a2])
      ⟨rfl, rows_ints.2 ⟨rfl, rfl, by simp only [List.mem_cons, List.not_mem_nil, or_false]; rintro y (rfl | rfl | rfl) <;> assumption⟩⟩
      (seq_rd h3 (seq_rd (S := sInt.rep 3) (c1 := [a4, a5, a6].map (Value.int .i64)) (F1 := []) (a := [a4, a5, a6]) ⟨rfl, rows_ints.2 ⟨rfl, rfl, by simp only [List.mem_cons, List.not_mem_nil, or_false]; rintro y (rfl | rfl | rfl) <;> assumption⟩⟩ hst))
    show ((sInt.rep 3).seq (sInts.seq ((sInt.rep 3).seq sBool))).rd W _ _ _
    simpa using this
  · show l3.length + 8 ≤ 1 + (1 + (1 + ((l3.map fun _ => 1).sum + 1 + (1 + (1 + (1 + 1))))))
    rw [sum_one]; omega
theorem fLeases : Fits 47 (sLease.list (by decide)) (fun l => (l.map mLease).sum + 1) := fits_list Try.underlying47 (by kernel_rfl) (by decide) fLease
def mAnswer (a : DAnswer) : Nat := a.2.1.length + 1 + ((a.2.2.map mLease).sum + 1) + 3
theorem fAnswer : Fits 49 sAnswer mAnswer := by
  refine Fits.conv (fits_struct Try.underlying49 (by kernel_rfl) (fits_cons fErr (by kernel_rfl) (fits_cons fInt (by kernel_rfl) (fits_cons fInt (by kernel_rfl) (fits_cons fInts (by kernel_rfl) (fits_last fLeases (by kernel_rfl))))))) ?_
  rintro W cs ⟨a0, a1, a2, l3, l4⟩ F ⟨_, _, _, _, rfl, rfl, ⟨rfl, rfl, h0⟩, _, _, _, _, rfl, rfl, ⟨rfl, rfl, h1⟩, _, _, _, _, rfl, rfl, ⟨rfl, rfl, h2⟩, _, _, _, _, rfl, rfl, h3, h4⟩
  refine ⟨([a0, a1, a2], l3, l4), ?_, ?_⟩
  · have := seq_rd (S := sInt.rep 3) (T := sInts.seq (sLease.list (by decide))) (w := W) (c1 := [a0, a1, a2].map (Value.int .i64)) (F1 := []) (a := [a0, a1, a2])
      ⟨rfl, rows_ints.2 ⟨rfl, rfl, by simp only [List.mem_cons, List.not_mem_nil, or_false]; rintro y (rfl | rfl | rfl) <;> assumption⟩⟩ (seq_rd h3 h4)
    show ((sInt.rep 3).seq (sInts.seq (sLease.list (by decide)))).rd W _ _ _
    simpa using this
  · show l3.length + 1 + ((l4.map mLease).sum + 1) + 3 ≤ 1 + (1 + (1 + ((l3.map fun _ => 1).sum + 1 + ((l4.map mLease).sum + 1))))
    rw [sum_one]; omega
theorem flat_le {α : Type} (C : Codec α) (m : α → Nat) (P : α → Prop) (h : ∀ a, P a → (C.enc a).length ≤ 9 * m a) : ∀ l : List α, (∀ a ∈ l, P a) → (l.flatMap C.enc).length ≤ 9 * (l.map m).sum
  | [], _ => by simp
  | a :: l, hl => by
    have h1 := h a (hl a (by simp))
    have h2 := flat_le C m P h l (fun b hb => hl b (by simp [hb]))
    rw [List.flatMap_cons, List.length_append, List.map_cons, List.sum_cons]; omega
theorem list_le {α : Type} (C : Codec α) (m : α → Nat) (P : α → Prop) (h : ∀ a, P a → (C.enc a).length ≤ 9 * m a) (l : List α) (hl : ∀ a ∈ l, P a) : (C.list.enc l).length ≤ 9 * ((l.map m).sum + 1) := by
  have h1 := flat_le C m P h l hl
  have h2 := (layN_length l.length).2
  show (layN l.length ++ l.flatMap C.enc).length ≤ _
  rw [List.length_append]; omega
theorem lease_le (x : DLease) (h : x.1.length = 3 ∧ x.2.2.1.length = 3) : (cLease.enc x).length ≤ 9 * mLease x := by
  have n1 := wholes_le x.1 3 (by omega)
  have n2 := listN_length x.2.1
  have n3 := wholes_le x.2.2.1 3 (by omega)
  have n4 := (layN_length (if x.2.2.2 then 1 else 0)).2
  show (wholes x.1 ++ (listN x.2.1 ++ (wholes x.2.2.1 ++ layN (if x.2.2.2 then 1 else 0)))).length ≤ 9 * (x.2.1.length + 8)
  simp only [List.length_append]; omega
theorem rows_all {α : Type} {S : Shape α} {w : World} (P : α → Prop) (h : ∀ cs a F, S.rd w cs a F → P a) : ∀ {l : List α} {cs : List Value} {F : List Nat}, S.rows w l cs F → ∀ a ∈ l, P a
  | [], _, _, _, a, ha => by simp at ha
  | b :: l, _, _, ⟨c1, c2, F1, F2, _, _, h1, h2⟩, a, ha => by
    rcases List.mem_cons.1 ha with rfl | ha
    · exact h _ _ _ h1
    · exact rows_all P h h2 a ha
theorem lease_rd3 {w : World} {cs : List Value} {x : DLease} {F : List Nat} (h : sLease.rd w cs x F) : x.1.length = 3 ∧ x.2.2.1.length = 3 := by
  obtain ⟨c1, c2, F1, F2, rfl, rfl, h1, c3, c4, F3, F4, rfl, rfl, h2, c5, c6, F5, F6, rfl, rfl, h3, h4⟩ := h
  exact ⟨h1.1, h3.1⟩
theorem list_all {α : Type} {S : Shape α} {hs : 0 < S.size} {w : World} (P : α → Prop) (h : ∀ cs a F, S.rd w cs a F → P a) {cs : List Value} {l : List α} {F : List Nat} (hr : (S.list hs).rd w cs l F) : ∀ a ∈ l, P a := by
  obtain ⟨_, _, _, _, _, _, hrows, _⟩ := hr
  exact rows_all P h hrows
theorem answer_le {w : World} {cs : List Value} {a : DAnswer} {F : List Nat} (h : sAnswer.rd w cs a F) : (cAnswer.enc a).length ≤ 9 * mAnswer a := by
  obtain ⟨c1, c2, F1, F2, rfl, rfl, h1, c3, c4, F3, F4, rfl, rfl, h2, h3⟩ := h
  have n1 := wholes_le a.1 3 (by have := h1.1; omega)
  have n2 := listN_length a.2.1
  have n3 := list_le cLease mLease _ lease_le a.2.2 (list_all _ (fun _ _ _ => lease_rd3) h3)
  show (wholes a.1 ++ (listN a.2.1 ++ cLease.list.enc a.2.2)).length ≤ 9 * (a.2.1.length + 1 + ((a.2.2.map mLease).sum + 1) + 3)
  simp only [List.length_append]; omega
end Go.Proofs.Ytachignmofpngaa
