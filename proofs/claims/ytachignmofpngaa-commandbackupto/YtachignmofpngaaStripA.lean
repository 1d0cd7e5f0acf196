/- Contracts of package strip's functions that write numbers. -/
import Derived.Test.YtachignmofpngaaVcInt
import Derived.Test.YtachignmofpngaaT1
set_option linter.unusedVariables false
set_option linter.unusedSimpArgs false
set_option maxRecDepth 20000
namespace Go.Proofs.Ytachignmofpngaa
open Go Go.Vc

def shelfN : Nat → Nat
  | 0 => 192
  | k + 1 => if k = 0 then 192 else shelfN k + 256 ^ k
theorem shelfN_le : ∀ k, k ≤ 8 → shelfN k ≤ 72340172838076864 := by decide
theorem shelf_c {k : Nat} (h1 : 1 ≤ k) (h8 : k ≤ 8) (w : World) :
    CallF Try.prog 98 #[.int .i64 k] w fun v w' => v = .int .u64 (shelfN k) ∧ w' = w := by
  refine C_strip_shelf_link ?_
  unfold C_strip_shelf
  refine sub64 (by omega) ?_
  refine ⟨fun m x i w' => w' = w ∧ ∃ j : Nat, j + m + 1 = k ∧ i = .int .i64 j ∧ x = .int .u64 (shelfN (j + 1)), k - 1, ⟨rfl, 0, by omega, by simp, by simp [shelfN]⟩, ?_⟩
  rintro m x i w' ⟨rfl, j, hj, rfl, rfl⟩
  refine lss (if_p (fun hlt => ?_) (fun hge => ?_))
  · have hs := shelfN_le (j + 2) (by omega)
    have e : shelfN (j + 2) = shelfN (j + 1) + 256 ^ (j + 1) := by simp [shelfN]
    have e2 : (1 : Int) * 2 ^ (8 * (j + 1)) = ((256 ^ (j + 1) : Nat) : Int) := by
      rw [Int.one_mul, Int.pow_mul]; norm_cast
    rw [e] at hs
    refine add64 (by omega) (mul64 (by omega) (shlu64 (n := 8 * (j + 1)) (by omega) (by omega) ?_ ?_))
    all_goals (rw [e2]; generalize 256 ^ (j + 1) = N at *)
    · omega
    · refine addu64 (by omega) (add64 (by omega) ⟨m - 1, by omega, rfl, j + 1, by omega, rfl, ?_⟩)
      rw [e]; push_cast; rfl
  · exact ⟨by rw [show k = j + 1 by omega], rfl⟩

/-- How many bytes stand behind the first of a number that is no byte itself. -/
def kOf (x : Nat) : Nat :=
  if x < 448 then 1 else if x < 65984 then 2 else if x < 16843200 then 3 else if x < 4311810496 then 4 else if x < 1103823438272 then 5 else if x < 282578800148928 then 6 else if x < 72340172838076864 then 7 else 8
def IsK (k x : Nat) : Prop := 1 ≤ k ∧ k ≤ 8 ∧ (k = 1 ∨ shelfN k ≤ x) ∧ (k = 8 ∨ x < shelfN (k + 1))
theorem shelf_nums : shelfN 1 = 192 ∧ shelfN 2 = 448 ∧ shelfN 3 = 65984 ∧ shelfN 4 = 16843200 ∧ shelfN 5 = 4311810496 ∧ shelfN 6 = 1103823438272 ∧ shelfN 7 = 282578800148928 ∧ shelfN 8 = 72340172838076864 := by decide
theorem isK_kOf (x : Nat) : IsK (kOf x) x := by
  obtain ⟨h1, h2, h3, h4, h5, h6, h7, h8⟩ := shelf_nums
  unfold kOf IsK
  repeat' split
  all_goals (simp only [h1, h2, h3, h4, h5, h6, h7, h8, Nat.reduceAdd]; simp; try omega)
theorem isK_eq {k x : Nat} (h : IsK k x) : k = kOf x := by
  obtain ⟨h1, h2, h3, h4, h5, h6, h7, h8⟩ := shelf_nums
  obtain ⟨a, b, c, d⟩ := h
  have : k = 1 ∨ k = 2 ∨ k = 3 ∨ k = 4 ∨ k = 5 ∨ k = 6 ∨ k = 7 ∨ k = 8 := by omega
  unfold kOf
  rcases this with rfl | rfl | rfl | rfl | rfl | rfl | rfl | rfl <;> simp only [h1, h2, h3, h4, h5, h6, h7, h8, Nat.reduceAdd] at c d <;> (repeat' split) <;> omega
theorem kOf_range (x : Nat) : 1 ≤ kOf x ∧ kOf x ≤ 8 := ⟨(isK_kOf x).1, (isK_kOf x).2.1⟩

theorem size_c {x : Nat} (hx : x ≤ 18446744073709551615) (w : World) :
    CallF Try.prog 97 #[.int .u64 x] w fun v w' => v = .int .i64 (if x < 192 then 1 else 1 + kOf x : Nat) ∧ w' = w := by
  refine C_strip_Size_link ?_
  unfold C_strip_Size
  refine lss (if_p (fun hlt => ?_) (fun hge => ?_))
  · rw [if_pos (by omega)]; exact ⟨rfl, rfl⟩
  · rw [if_neg (by omega)]
    refine ⟨fun m i w' => w' = w ∧ ∃ j : Nat, 1 ≤ j ∧ j + m = 8 ∧ i = .int .i64 j ∧ (j = 1 ∨ shelfN j ≤ x), 7, ⟨rfl, 1, by omega, rfl, rfl, .inl rfl⟩, ?_⟩
    rintro m i w' ⟨rfl, j, hj1, hj, rfl, hs⟩
    refine lss ?_
    by_cases h8 : j < 8
    · have hg : isB (.bool (decide ((j : Int) < 8))) true = true := by simp [isB]; omega
      refine gdT hg rfl (gdT hg rfl (gdT hg (add64 (by omega) rfl) ?_))
      refine gT hg ?_
      have hsl := shelfN_le (j + 1) (by omega)
      refine (shelf_c (k := j + 1) (by omega) (by omega) w').use ?_
      rintro v w1 ⟨rfl, rfl⟩
      refine gdT hg (geq rfl) ?_
      refine pick_t (by simp; omega) (if_p (fun hge2 => ?_) (fun hlt2 => ?_))
      · exact add64 (by omega) ⟨m - 1, by omega, rfl, j + 1, by omega, by omega, rfl, .inr (by omega)⟩
      · refine add64 (by omega) ⟨?_, rfl⟩
        rw [← isK_eq (k := j) ⟨by omega, by omega, hs, .inr (by omega)⟩]
        push_cast; rfl
    · have hg : isB (.bool (decide ((j : Int) < 8))) true = false := by simp [isB]; omega
      refine gdF hg (gdF hg (gdF hg (gF hg (gdF hg ?_))))
      refine pick_f (by simp; omega) (if_f rfl ?_)
      refine add64 (by omega) ⟨?_, rfl⟩
      rw [← isK_eq (k := j) ⟨by omega, by omega, hs, .inl (by omega)⟩]
      push_cast; rfl

def bytes (l : List Nat) : List Value := l.map fun n : Nat => .int .u8 (n : Int)
theorem bytes_append (l l' : List Nat) : bytes (l ++ l') = bytes l ++ bytes l' := by simp [bytes]
theorem bytes_length (l : List Nat) : (bytes l).length = l.length := by simp [bytes]
theorem bytes_one (l : List Nat) : ∀ u ∈ bytes l, u.oneCell' = true := by
  intro u hu
  obtain ⟨_, _, rfl⟩ := List.mem_map.1 hu
  rfl
def digs (k y : Nat) : List Nat := (List.range k).map fun i => y / 256 ^ (k - 1 - i) % 256
def layN (x : Nat) : List Nat := if x < 192 then [x] else (191 + kOf x) :: digs (kOf x) (x - shelfN (kOf x))
theorem layN_length (x : Nat) : 1 ≤ (layN x).length ∧ (layN x).length ≤ 9 := by
  have := kOf_range x
  unfold layN
  split
  · simp
  · simp [digs]; omega
theorem infoB : (Try.prog.info? 5).map (fun i => (i.zero, i.size, i.bytes)) = some (some (.int .u8 0), 1, 1) := by kernel_rfl

theorem lay_c {x n : Nat} {v : Value} {l : List Value} (hx : x ≤ 18446744073709551615) (w : World) (hs : Sl w 1 v n l) (h1 : ∀ u ∈ l, u.oneCell' = true) (hn : n ≤ 1000000000000) :
    CallF Try.prog 75 #[v, .int .u64 x] w fun r w' => New w w' 5 1 r (n + (layN x).length) (l ++ bytes (layN x)) := by
  refine C_strip_Lay_link ?_
  unfold C_strip_Lay
  obtain ⟨A, c, rfl, hrest⟩ := id hs
  refine len (add64 (by omega) ?_)
  refine make' (n + 9) (by push_cast; rfl) Try.underlying37 infoB (by omega) (by omega) ?_
  intro v1 w1 hN1
  refine append' hN1 Try.underlying37 infoB rfl (by omega) (hs.fr hN1.fr (fun i _ => by simp)) h1 (by omega) (by omega) ?_
  intro v2 w2 hN2 _ _
  rw [Nat.zero_add, List.nil_append] at hN2
  refine (size_c hx w2).use ?_
  rintro _ w3 ⟨rfl, rfl⟩
  have hk := kOf_range x
  by_cases hlt : x < 192
  · rw [if_pos hlt]
    refine sub64 (by omega) (eql (if_t (by simp) ?_))
    refine conv_u8_in (by omega) ?_
    refine append1 hN2 Try.underlying37 infoB rfl rfl rfl (by omega) (by omega) ?_
    intro v4 w4 hN4
    have e : layN x = [x] := by simp [layN, hlt]
    rw [e]
    exact hN4
  · rw [if_neg hlt]
    have hK := isK_kOf x
    have e : layN x = (191 + kOf x) :: digs (kOf x) (x - shelfN (kOf x)) := by simp [layN, hlt]
    obtain ⟨K, hKe⟩ : ∃ K, K = kOf x := ⟨_, rfl⟩
    rw [e]
    rw [← hKe] at hk hK ⊢
    refine sub64 (by omega) ?_
    rw [show ((1 + K : Nat) : Int) - 1 = (K : Int) by omega]
    refine eql (if_f (by simp; omega) ?_)
    refine add64 (by omega) (sub64 (by omega) (conv_u8_in (by omega) ?_))
    refine append1 hN2 Try.underlying37 infoB rfl rfl rfl (by omega) (by omega) ?_
    intro v4 w4 hN4
    refine (shelf_c (k := K) (by omega) (by omega) w4).use ?_
    rintro _ w5 ⟨rfl, rfl⟩
    have hle : shelfN K ≤ x := by
      rcases hK.2.2.1 with h | h
      · rw [h, shelf_nums.1]; omega
      · exact h
    refine subu64 (by omega) ?_
    refine ⟨fun m v i w' => ∃ j : Nat, j + m = K ∧ i = .int .i64 j ∧ New w w' 5 1 v (n + 1 + j) (l ++ bytes ((191 + K) :: (digs K (x - shelfN K)).take j)), K, ⟨0, by omega, rfl, ?_⟩, ?_⟩
    · have e1 : (192 : Int) + K - 1 = ((191 + K : Nat) : Int) := by omega
      rw [e1] at hN4
      simpa [bytes] using hN4
    · rintro m v i w' ⟨j, hj, rfl, hN⟩
      refine lss (if_p (fun hlt => ?_) (fun hge => ?_))
      · have e2 : (((x : Int) - (shelfN K : Int)) / 2 ^ (8 * (K - 1 - j))) % 256 = (((x - shelfN K) / 256 ^ (K - 1 - j) % 256 : Nat) : Int) := by
          rw [show (x : Int) - (shelfN K : Int) = ((x - shelfN K : Nat) : Int) by omega, Int.pow_mul]
          simp only [Int.natCast_emod, Int.natCast_ediv, Int.natCast_pow]
          rfl
        refine sub64 (by omega) (sub64 (by omega) (mul64 (by omega) (shrn (n := 8 * (K - 1 - j)) (by omega) (by simp [IntKind.bits]; omega) (by omega) (conv_u8 ?_))))
        rw [e2]
        refine append1 hN Try.underlying37 infoB rfl rfl rfl (by omega) (by omega) ?_
        intro v6 w6 hN6
        refine add64 (by omega) ⟨m - 1, by omega, j + 1, by omega, rfl, ?_⟩
        have e3 : (digs K (x - shelfN K)).take (j + 1) = (digs K (x - shelfN K)).take j ++ [(x - shelfN K) / 256 ^ (K - 1 - j) % 256] := by
          rw [List.take_succ_eq_append_getElem (by simp [digs]; omega)]
          simp [digs]
        rw [e3, ← List.cons_append, bytes_append, ← List.append_assoc]
        exact hN6
      · have e4 : (digs K (x - shelfN K)).take j = digs K (x - shelfN K) := List.take_of_length_le (by simp [digs]; omega)
        rw [e4] at hN
        have e5 : n + 1 + j = n + ((191 + K) :: digs K (x - shelfN K)).length := by simp [digs]; omega
        rw [e5] at hN
        exact hN
end Go.Proofs.Ytachignmofpngaa
