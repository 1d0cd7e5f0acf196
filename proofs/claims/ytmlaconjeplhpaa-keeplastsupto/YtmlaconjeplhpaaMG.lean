/- Contracts of package strip's functions that write numbers. Contract of strip.LayInt. Numbers, and things made of numbers, as bytes: how they are written and read, in plain Lean, and that reading undoes writing. Contracts of the functions that read numbers: strip.Read, strip.ReadInt, and the reader's methods. Contracts: strip.LayBytes, strip.ReadBytes, keep.ints, the reader of package keep. A keep in memory, and its method pack. The contract of (*keep.Keep).unpack: what was packed is there again. A slice cut to its length and its cap, and what is put behind it; (*keep.Keep).Last. -/
import Derived.Test.YtmlaconjeplhpaaMF
import Derived.Test.YtmlaconjeplhpaaMU
set_option linter.unusedVariables false
set_option linter.unusedSimpArgs false
set_option maxRecDepth 20000
namespace Go.Proofs.Ytmlaconjeplhpaa
open Go Go.Vc

def shelfN : Nat → Nat
  | 0 => 192
  | k + 1 => if k = 0 then 192 else shelfN k + 256 ^ k
theorem shelfN_le : ∀ k, k ≤ 8 → shelfN k ≤ 72340172838076864 := by decide
theorem shelf_c {k : Nat} (h1 : 1 ≤ k) (h8 : k ≤ 8) (w : World) :
    CallF Try.prog 126 #[.int .i64 k] w fun v w' => v = .int .u64 (shelfN k) ∧ w' = w := by
  refine C_strip_shelf_link ?_
  unfold C_strip_shelf
  refine sub64 (by omega) ?_
  refine ⟨fun m x i w' => w' = w ∧ ∃ j : Nat, j + m + 1 = k ∧ i = .int .i64 j ∧ x = .int .u64 (shelfN (j + 1)), k - 1, ⟨rfl, 0, by omega, by simp, by simp [shelfN]⟩, ?_⟩
  rintro m x i w' ⟨rfl, j, hj, rfl, rfl⟩
  refine lss (if_p (fun hlt => ?_) (fun hge => ?_))
  · have hs := shelfN_le (j + 2) (by omega)
    have e : shelfN (j + 2) = shelfN (j + 1) + 256 ^ (j + 1) := by simp [shelfN]
    have e2 : (1 : Int) * 2 ^ (8 * (j + 1)) = ((256 ^ (j + 1) : Nat) : Int) := by
      rw [Int.one_mul, Int.pow_mul]; norm_cast
    rw [e] at hs
    refine add64 (by omega) (mul64 (by omega) (shlu64 (n := 8 * (j + 1)) (by omega) (by omega) ?_ ?_))
    all_goals (rw [e2]; generalize 256 ^ (j + 1) = N at *)
    · omega
    · refine addu64 (by omega) (add64 (by omega) ⟨m - 1, by omega, rfl, j + 1, by omega, rfl, ?_⟩)
      rw [e]; push_cast; rfl
  · exact ⟨by rw [show k = j + 1 by omega], rfl⟩

/-- How many bytes stand behind the first of a number that is no byte itself. -/
def kOf (x : Nat) : Nat :=
  if x < 448 then 1 else if x < 65984 then 2 else if x < 16843200 then 3 else if x < 4311810496 then 4 else if x < 1103823438272 then 5 else if x < 282578800148928 then 6 else if x < 72340172838076864 then 7 else 8
def IsK (k x : Nat) : Prop := 1 ≤ k ∧ k ≤ 8 ∧ (k = 1 ∨ shelfN k ≤ x) ∧ (k = 8 ∨ x < shelfN (k + 1))
theorem shelf_nums : shelfN 1 = 192 ∧ shelfN 2 = 448 ∧ shelfN 3 = 65984 ∧ shelfN 4 = 16843200 ∧ shelfN 5 = 4311810496 ∧ shelfN 6 = 1103823438272 ∧ shelfN 7 = 282578800148928 ∧ shelfN 8 = 72340172838076864 := by decide
theorem isK_kOf (x : Nat) : IsK (kOf x) x := by
  obtain ⟨h1, h2, h3, h4, h5, h6, h7, h8⟩ := shelf_nums
  unfold kOf IsK
  repeat' split
  all_goals (simp only [h1, h2, h3, h4, h5, h6, h7, h8, Nat.reduceAdd]; simp; try omega)
theorem isK_eq {k x : Nat} (h : IsK k x) : k = kOf x := by
  obtain ⟨h1, h2, h3, h4, h5, h6, h7, h8⟩ := shelf_nums
  obtain ⟨a, b, c, d⟩ := h
  have : k = 1 ∨ k = 2 ∨ k = 3 ∨ k = 4 ∨ k = 5 ∨ k = 6 ∨ k = 7 ∨ k = 8 := by omega
  unfold kOf
  rcases this with rfl | rfl | rfl | rfl | rfl | rfl | rfl | rfl <;> simp only [h1, h2, h3, h4, h5, h6, h7, h8, Nat.reduceAdd] at c d <;> (repeat' split) <;> omega
theorem kOf_range (x : Nat) : 1 ≤ kOf x ∧ kOf x ≤ 8 := ⟨(isK_kOf x).1, (isK_kOf x).2.1⟩

theorem size_c {x : Nat} (hx : x ≤ 18446744073709551615) (w : World) :
    CallF Try.prog 125 #[.int .u64 x] w fun v w' => v = .int .i64 (if x < 192 then 1 else 1 + kOf x : Nat) ∧ w' = w := by
  refine C_strip_Size_link ?_
  unfold C_strip_Size
  refine lss (if_p (fun hlt => ?_) (fun hge => ?_))
  · rw [if_pos (by omega)]; exact ⟨rfl, rfl⟩
  · rw [if_neg (by omega)]
    refine ⟨fun m i w' => w' = w ∧ ∃ j : Nat, 1 ≤ j ∧ j + m = 8 ∧ i = .int .i64 j ∧ (j = 1 ∨ shelfN j ≤ x), 7, ⟨rfl, 1, by omega, rfl, rfl, .inl rfl⟩, ?_⟩
    rintro m i w' ⟨rfl, j, hj1, hj, rfl, hs⟩
    refine lss ?_
    by_cases h8 : j < 8
    · have hg : isB (.bool (decide ((j : Int) < 8))) true = true := by simp [isB]; omega
      refine gdT hg rfl (gdT hg rfl (gdT hg (add64 (by omega) rfl) ?_))
      refine gT hg ?_
      have hsl := shelfN_le (j + 1) (by omega)
      refine (shelf_c (k := j + 1) (by omega) (by omega) w').use ?_
      rintro v w1 ⟨rfl, rfl⟩
      refine gdT hg (geq rfl) ?_
      refine pick_t (by simp; omega) (if_p (fun hge2 => ?_) (fun hlt2 => ?_))
      · exact add64 (by omega) ⟨m - 1, by omega, rfl, j + 1, by omega, by omega, rfl, .inr (by omega)⟩
      · refine add64 (by omega) ⟨?_, rfl⟩
        rw [← isK_eq (k := j) ⟨by omega, by omega, hs, .inr (by omega)⟩]
        push_cast; rfl
    · have hg : isB (.bool (decide ((j : Int) < 8))) true = false := by simp [isB]; omega
      refine gdF hg (gdF hg (gdF hg (gF hg (gdF hg ?_))))
      refine pick_f (by simp; omega) (if_f rfl ?_)
      refine add64 (by omega) ⟨?_, rfl⟩
      rw [← isK_eq (k := j) ⟨by omega, by omega, hs, .inl (by omega)⟩]
      push_cast; rfl

def digs (k y : Nat) : List Nat := (List.range k).map fun i => y / 256 ^ (k - 1 - i) % 256
def layN (x : Nat) : List Nat := if x < 192 then [x] else (191 + kOf x) :: digs (kOf x) (x - shelfN (kOf x))
theorem layN_length (x : Nat) : 1 ≤ (layN x).length ∧ (layN x).length ≤ 9 := by
  have := kOf_range x
  unfold layN
  split
  · simp
  · simp [digs]; omega
theorem lay_c {x n : Nat} {v : Value} {l : List Value} (hx : x ≤ 18446744073709551615) (w : World) (hs : Sl w 1 v n l) (h1 : ∀ u ∈ l, u.oneCell' = true) (hn : n ≤ 1000000000000) :
    CallF Try.prog 104 #[v, .int .u64 x] w fun r w' => New w w' 5 1 r (n + (layN x).length) (l ++ bytes (layN x)) := by
  refine C_strip_Lay_link ?_
  unfold C_strip_Lay
  obtain ⟨A, c, rfl, hrest⟩ := id hs
  refine len (add64 (by omega) ?_)
  refine make' (n + 9) (by push_cast; rfl) Try.underlying24 infoB (by omega) (by omega) ?_
  intro v1 w1 hN1
  refine append' hN1 Try.underlying24 infoB rfl (by omega) (hs.fr hN1.fr (fun i _ => by simp)) h1 (by omega) (by omega) ?_
  intro v2 w2 hN2 _ _
  rw [Nat.zero_add, List.nil_append] at hN2
  refine (size_c hx w2).use ?_
  rintro _ w3 ⟨rfl, rfl⟩
  have hk := kOf_range x
  by_cases hlt : x < 192
  · rw [if_pos hlt]
    refine sub64 (by omega) (eql (if_t (by simp) ?_))
    refine conv_u8_in (by omega) ?_
    refine append1 hN2 Try.underlying24 infoB rfl rfl rfl (by omega) (by omega) ?_
    intro v4 w4 hN4
    have e : layN x = [x] := by simp [layN, hlt]
    rw [e]
    exact hN4
  · rw [if_neg hlt]
    have hK := isK_kOf x
    have e : layN x = (191 + kOf x) :: digs (kOf x) (x - shelfN (kOf x)) := by simp [layN, hlt]
    obtain ⟨K, hKe⟩ : ∃ K, K = kOf x := ⟨_, rfl⟩
    rw [e]
    rw [← hKe] at hk hK ⊢
    refine sub64 (by omega) ?_
    rw [show ((1 + K : Nat) : Int) - 1 = (K : Int) by omega]
    refine eql (if_f (by simp; omega) ?_)
    refine add64 (by omega) (sub64 (by omega) (conv_u8_in (by omega) ?_))
    refine append1 hN2 Try.underlying24 infoB rfl rfl rfl (by omega) (by omega) ?_
    intro v4 w4 hN4
    refine (shelf_c (k := K) (by omega) (by omega) w4).use ?_
    rintro _ w5 ⟨rfl, rfl⟩
    have hle : shelfN K ≤ x := by
      rcases hK.2.2.1 with h | h
      · rw [h, shelf_nums.1]; omega
      · exact h
    refine subu64 (by omega) ?_
    refine ⟨fun m v i w' => ∃ j : Nat, j + m = K ∧ i = .int .i64 j ∧ New w w' 5 1 v (n + 1 + j) (l ++ bytes ((191 + K) :: (digs K (x - shelfN K)).take j)), K, ⟨0, by omega, rfl, ?_⟩, ?_⟩
    · have e1 : (192 : Int) + K - 1 = ((191 + K : Nat) : Int) := by omega
      rw [e1] at hN4
      simpa [bytes] using hN4
    · rintro m v i w' ⟨j, hj, rfl, hN⟩
      refine lss (if_p (fun hlt => ?_) (fun hge => ?_))
      · have e2 : (((x : Int) - (shelfN K : Int)) / 2 ^ (8 * (K - 1 - j))) % 256 = (((x - shelfN K) / 256 ^ (K - 1 - j) % 256 : Nat) : Int) := by
          rw [show (x : Int) - (shelfN K : Int) = ((x - shelfN K : Nat) : Int) by omega, Int.pow_mul]
          simp only [Int.natCast_emod, Int.natCast_ediv, Int.natCast_pow]
          rfl
        refine sub64 (by omega) (sub64 (by omega) (mul64 (by omega) (shrn (n := 8 * (K - 1 - j)) (by omega) (by simp [IntKind.bits]; omega) (by omega) (conv_u8 ?_))))
        rw [e2]
        refine append1 hN Try.underlying24 infoB rfl rfl rfl (by omega) (by omega) ?_
        intro v6 w6 hN6
        refine add64 (by omega) ⟨m - 1, by omega, j + 1, by omega, rfl, ?_⟩
        have e3 : (digs K (x - shelfN K)).take (j + 1) = (digs K (x - shelfN K)).take j ++ [(x - shelfN K) / 256 ^ (K - 1 - j) % 256] := by
          rw [List.take_succ_eq_append_getElem (by simp [digs]; omega)]
          simp [digs]
        rw [e3, ← List.cons_append, bytes_append, ← List.append_assoc]
        exact hN6
      · have e4 : (digs K (x - shelfN K)).take j = digs K (x - shelfN K) := List.take_of_length_le (by simp [digs]; omega)
        rw [e4] at hN
        have e5 : n + 1 + j = n + ((191 + K) :: digs K (x - shelfN K)).length := by simp [digs]; omega
        rw [e5] at hN
        exact hN
end Go.Proofs.Ytmlaconjeplhpaa

set_option linter.unusedVariables false
set_option linter.unusedSimpArgs false
set_option maxRecDepth 20000
namespace Go.Proofs.Ytmlaconjeplhpaa
open Go Go.Vc

/-- A whole number as a number. -/
def zig (x : Int) : Nat := if x < 0 then (2 * (-x - 1) + 1).toNat else (2 * x).toNat
def I64 (x : Int) : Prop := -9223372036854775808 ≤ x ∧ x ≤ 9223372036854775807
theorem zig_le {x : Int} (h : I64 x) : zig x ≤ 18446744073709551615 := by unfold zig I64 at *; split <;> omega
def wholeN (x : Int) : List Nat := layN (zig x)
theorem wholeN_length (x : Int) : 1 ≤ (wholeN x).length ∧ (wholeN x).length ≤ 9 := layN_length _

theorem layInt_c {x : Int} {n : Nat} {v : Value} {l : List Value} (hx : I64 x) (w : World) (hs : Sl w 1 v n l) (h1 : ∀ u ∈ l, u.oneCell' = true) (hn : n ≤ 1000000000000) :
    CallF Try.prog 103 #[v, .int .i64 x] w fun r w' => New w w' 5 1 r (n + (wholeN x).length) (l ++ bytes (wholeN x)) := by
  have hz := zig_le hx
  unfold I64 at hx
  refine C_strip_LayInt_link ?_
  unfold C_strip_LayInt
  refine lss (if_p (fun hlt => ?_) (fun hge => ?_))
  · have e : zig x = (2 * (-x - 1) + 1).toNat := by simp [zig, hlt]
    refine not64 hx ?_
    refine conv_u64 (by omega) (mulu64 (by omega) (addu64 (by omega) ?_))
    have e2 : (2 : Int) * (-x - 1) + 1 = (zig x : Int) := by rw [e]; omega
    rw [e2]
    exact (lay_c hz w hs h1 hn).use fun v w' h => h
  · have e : zig x = (2 * x).toNat := by simp [zig, hge]
    refine conv_u64 (by omega) (mulu64 (by omega) ?_)
    have e2 : (2 : Int) * x = (zig x : Int) := by rw [e]; omega
    rw [e2]
    exact (lay_c hz w hs h1 hn).use fun v w' h => h
end Go.Proofs.Ytmlaconjeplhpaa

set_option linter.unusedVariables false
set_option linter.unusedSimpArgs false
namespace Go.Proofs.Ytmlaconjeplhpaa
open Go Go.Vc

/-! ### One number -/
/-- The number that digits to base 256 tell, the highest first. -/
def far (l : List Nat) : Nat := l.foldl (fun x c => x * 256 + c) 0
theorem far_snoc (l : List Nat) (c : Nat) : far (l ++ [c]) = far l * 256 + c := by simp [far]
theorem far_lt : ∀ (k : Nat) (l : List Nat), l.length = k → (∀ x ∈ l, x < 256) → far l < 256 ^ k
  | 0, l, hl, h => by rw [List.eq_nil_of_length_eq_zero hl]; simp [far]
  | k + 1, l, hl, h => by
    obtain ⟨l', c, rfl⟩ : ∃ l' c, l = l' ++ [c] := ⟨l.dropLast, l.getLast (by intro e; rw [e] at hl; simp at hl), (List.dropLast_concat_getLast _).symm⟩
    have h1 := far_lt k l' (by simpa using hl) (fun x hx => h x (by simp [hx]))
    have h2 := h c (by simp)
    rw [far_snoc, Nat.pow_succ]
    omega
theorem digs_succ (k y : Nat) : digs (k + 1) y = digs k (y / 256) ++ [y % 256] := by
  unfold digs
  rw [List.range_succ, List.map_append]
  congr 1
  · apply List.map_congr_left
    intro i hi
    have hi := List.mem_range.1 hi
    rw [Nat.div_div_eq_div_mul, ← Nat.pow_succ']
    congr 3
    omega
  · simp
theorem far_digs : ∀ (k y : Nat), y < 256 ^ k → far (digs k y) = y
  | 0, y, h => by simp at h; subst h; rfl
  | k + 1, y, h => by
    rw [digs_succ, far_snoc, far_digs k (y / 256) (by rw [Nat.pow_succ] at h; omega)]
    omega
theorem digs_far : ∀ (k : Nat) (l : List Nat), l.length = k → (∀ x ∈ l, x < 256) → digs k (far l) = l
  | 0, l, hl, h => by rw [List.eq_nil_of_length_eq_zero hl]; rfl
  | k + 1, l, hl, h => by
    obtain ⟨l', c, rfl⟩ : ∃ l' c, l = l' ++ [c] := ⟨l.dropLast, l.getLast (by intro e; rw [e] at hl; simp at hl), (List.dropLast_concat_getLast _).symm⟩
    have h2 := h c (by simp)
    rw [digs_succ, far_snoc, show (far l' * 256 + c) / 256 = far l' by omega, show (far l' * 256 + c) % 256 = c by omega, digs_far k l' (by simpa using hl) (fun x hx => h x (by simp [hx]))]
theorem digs_length (k y : Nat) : (digs k y).length = k := by simp [digs]
theorem digs_lt (k y : Nat) : ∀ x ∈ digs k y, x < 256 := by
  intro x hx
  simp only [digs, List.mem_map] at hx
  obtain ⟨i, _, rfl⟩ := hx
  omega
theorem layN_lt (x : Nat) : ∀ b ∈ layN x, b < 256 := by
  intro b hb
  have hk := kOf_range x
  unfold layN at hb
  split at hb
  · simp at hb; omega
  · rcases List.mem_cons.1 hb with h | h
    · omega
    · exact digs_lt _ _ b h

/-- What stands at place p of bs, the place behind it or that of a fault, and the error. -/
def getN (bs : List Nat) (p : Nat) : Nat × Nat × Int :=
  if p < bs.length then
    if bs.getD p 0 < 192 then (bs.getD p 0, p + 1, 0)
    else if 199 < bs.getD p 0 then (0, p, 4)
    else if bs.length - p - 1 < bs.getD p 0 - 191 then (0, bs.length, 5)
    else if 18446744073709551616 ≤ shelfN (bs.getD p 0 - 191) + far ((bs.drop (p + 1)).take (bs.getD p 0 - 191)) then (0, p, 4)
    else (shelfN (bs.getD p 0 - 191) + far ((bs.drop (p + 1)).take (bs.getD p 0 - 191)), p + 1 + (bs.getD p 0 - 191), 0)
  else (0, p, 5)

theorem shelf_step {k : Nat} (h : 1 ≤ k) : shelfN (k + 1) = shelfN k + 256 ^ k := by
  have : k ≠ 0 := by omega
  simp [shelfN, this]
theorem tail_lt {x : Nat} (hx : x < 18446744073709551616) (h : 192 ≤ x) : shelfN (kOf x) ≤ x ∧ x - shelfN (kOf x) < 256 ^ kOf x := by
  obtain ⟨h1, h2, h3, h4⟩ := isK_kOf x
  have h5 : shelfN (kOf x) ≤ x := by
    rcases h3 with h3 | h3
    · rw [h3, shelf_nums.1]; exact h
    · exact h3
  refine ⟨h5, ?_⟩
  rcases h4 with h4 | h4
  · rw [h4]; have : (256 : Nat) ^ 8 = 18446744073709551616 := by decide
    rw [this]; omega
  · rw [shelf_step h1] at h4; omega

theorem trip {a a' b b' : Nat} {c : Int} (h1 : a = a') (h2 : b = b') : (a, b, c) = (a', b', c) := by rw [h1, h2]
theorem getN_at (pre rest : List Nat) (h : Nat) : getN (pre ++ h :: rest) pre.length =
    if h < 192 then (h, pre.length + 1, 0)
    else if 199 < h then (0, pre.length, 4)
    else if rest.length < h - 191 then (0, pre.length + 1 + rest.length, 5)
    else if 18446744073709551616 ≤ shelfN (h - 191) + far (rest.take (h - 191)) then (0, pre.length, 4)
    else (shelfN (h - 191) + far (rest.take (h - 191)), pre.length + 1 + (h - 191), 0) := by
  have e1 : (pre ++ h :: rest).getD pre.length 0 = h := by simp
  have e2 : (pre ++ h :: rest).drop (pre.length + 1) = rest := by
    rw [show pre ++ h :: rest = (pre ++ [h]) ++ rest by simp, show pre.length + 1 = (pre ++ [h]).length by simp, List.drop_left]
  have e3 : (pre ++ h :: rest).length = pre.length + 1 + rest.length := by simp; omega
  unfold getN
  rw [e1, e2, e3, if_pos (by omega), show pre.length + 1 + rest.length - pre.length - 1 = rest.length by omega]
theorem getN_lay (pre post : List Nat) {x : Nat} (hx : x < 18446744073709551616) : getN (pre ++ layN x ++ post) pre.length = (x, pre.length + (layN x).length, 0) := by
  by_cases h : x < 192
  · have e : layN x = [x] := by simp [layN, h]
    rw [e, List.append_assoc, List.singleton_append, getN_at, if_pos h]
    rfl
  · have e : layN x = (191 + kOf x) :: digs (kOf x) (x - shelfN (kOf x)) := by simp [layN, h]
    obtain ⟨h1, h2⟩ := tail_lt hx (by omega)
    have hk := kOf_range x
    have hd := digs_length (kOf x) (x - shelfN (kOf x))
    have hf := far_digs _ _ h2
    rw [e, List.append_assoc, List.cons_append, getN_at]
    generalize hK : kOf x = K at *
    clear hK e
    generalize hD : digs K (x - shelfN K) = D at *
    clear hD
    rw [show 191 + K - 191 = D.length by omega, List.take_left, if_neg (by omega), if_neg (by omega), if_neg (by simp), hf, hd, if_neg (by omega)]
    exact trip (by omega) (by simp only [List.length_cons]; omega)
theorem getN_cut (pre : List Nat) {x c : Nat} (hc : c < (layN x).length) : getN (pre ++ (layN x).take c) pre.length = (0, pre.length + c, 5) := by
  cases c with
  | zero => unfold getN; rw [if_neg (by simp)]; rfl
  | succ c =>
    by_cases h : x < 192
    · have e : layN x = [x] := by simp [layN, h]
      rw [e] at hc; simp at hc
    · have e : layN x = (191 + kOf x) :: digs (kOf x) (x - shelfN (kOf x)) := by simp [layN, h]
      have hk := kOf_range x
      have hd := digs_length (kOf x) (x - shelfN (kOf x))
      rw [e] at hc ⊢
      simp only [List.length_cons, hd] at hc
      rw [List.take_succ_cons, getN_at, if_neg (by omega), if_neg (by omega), List.length_take, hd, if_pos (by omega)]
      exact trip rfl (by omega)
theorem getN_back {bs : List Nat} (hb : ∀ b ∈ bs, b < 256) {p x n : Nat} (h : getN bs p = (x, n, 0)) : x < 18446744073709551616 ∧ (bs.drop p).take (layN x).length = layN x ∧ n = p + (layN x).length ∧ n ≤ bs.length := by
  by_cases hp : p < bs.length
  case neg => unfold getN at h; rw [if_neg hp] at h; simp at h
  obtain ⟨hd, rest, hcat, hlen⟩ : ∃ hd rest, bs = bs.take p ++ hd :: rest ∧ (bs.take p).length = p := by
    refine ⟨bs[p], bs.drop (p + 1), ?_, by simp; omega⟩
    rw [← List.drop_eq_getElem_cons hp, List.take_append_drop]
  generalize bs.take p = pre at hcat hlen
  subst hcat
  subst hlen
  rw [getN_at] at h
  rw [List.drop_left]
  have hL : (pre ++ hd :: rest).length = pre.length + 1 + rest.length := by simp; omega
  rw [hL]
  split at h
  · rename_i h1
    simp only [Prod.mk.injEq] at h
    obtain ⟨rfl, rfl, _⟩ := h
    have e : layN hd = [hd] := by simp [layN, h1]
    rw [e]
    exact ⟨by omega, by simp, by simp, by omega⟩
  split at h
  · simp at h
  split at h
  · simp at h
  split at h
  · simp at h
  rename_i h1 h2 h3 h4
  simp only [Prod.mk.injEq] at h
  obtain ⟨rfl, rfl, _⟩ := h
  obtain ⟨k, hk⟩ : ∃ k, hd - 191 = k := ⟨_, rfl⟩
  rw [hk] at h3 h4 ⊢
  have hl : (rest.take k).length = k := by simp; omega
  have hm : ∀ y ∈ rest.take k, y < 256 := fun y hy => hb y (by simp [List.mem_of_mem_take hy])
  have hfl := far_lt k _ hl hm
  have hdf := digs_far k _ hl hm
  generalize hM : rest.take k = L at *
  have h192 : 192 ≤ shelfN k := by
    have : k = 1 ∨ k = 2 ∨ k = 3 ∨ k = 4 ∨ k = 5 ∨ k = 6 ∨ k = 7 ∨ k = 8 := by omega
    obtain ⟨s1, s2, s3, s4, s5, s6, s7, s8⟩ := shelf_nums
    clear hfl hdf hm hM hb
    rcases this with rfl | rfl | rfl | rfl | rfl | rfl | rfl | rfl <;> omega
  have hK : k = kOf (shelfN k + far L) := isK_eq ⟨by omega, by omega, .inr (by omega), by
    by_cases h8 : k = 8
    · exact .inl h8
    · right; rw [shelf_step (by omega)]; omega⟩
  have e : layN (shelfN k + far L) = hd :: L := by
    unfold layN
    rw [if_neg (by omega), ← hK, show shelfN k + far L - shelfN k = far L by omega, hdf, show 191 + k = hd by omega]
  refine ⟨by omega, ?_, ?_, by omega⟩
  · rw [e]; simp only [List.length_cons, List.take_succ_cons, hl, hM]
  · rw [e]; simp only [List.length_cons, hl]; omega
theorem getN_place {bs : List Nat} {p : Nat} (hp : p ≤ bs.length) : (getN bs p).2.1 ≤ bs.length := by
  unfold getN
  repeat' split
  all_goals (simp only; try omega)
theorem getN_err (bs : List Nat) (p : Nat) (h : (getN bs p).2.2 ≠ 0) : (getN bs p).1 = 0 := by
  revert h
  unfold getN
  repeat' split
  all_goals simp
theorem getN_lt {bs : List Nat} {p : Nat} (hb : ∀ b ∈ bs, b < 256) : (getN bs p).1 < 18446744073709551616 := by
  by_cases h : (getN bs p).2.2 = 0
  · exact (getN_back hb (x := (getN bs p).1) (n := (getN bs p).2.1) (by rw [← h])).1
  · rw [getN_err bs p h]; decide
theorem getN_set (bs : List Nat) (p : Nat) : (getN bs p).2.2 = 0 ∨ (getN bs p).2.2 = 4 ∨ (getN bs p).2.2 = 5 := by
  unfold getN
  repeat' split
  all_goals simp

/-! ### One whole number -/
/-- The whole number that a number stands for. -/
def zag (x : Nat) : Int := if x % 2 = 1 then -((x / 2 : Nat) : Int) - 1 else ((x / 2 : Nat) : Int)
theorem zag_zig {x : Int} : zag (zig x) = x := by
  unfold zag zig
  split <;> split <;> omega
theorem zig_zag (x : Nat) : zig (zag x) = x := by
  unfold zag zig
  split <;> split <;> omega
theorem zag_I64 {x : Nat} (h : x < 18446744073709551616) : I64 (zag x) := by
  unfold zag I64
  split <;> omega

/-! ### Things -/
structure PS where
  pos : Nat
  err : Int
theorem PS.eq (s : PS) (q : Nat) (h1 : s.pos = q) (h2 : s.err = 0) : s = ⟨q, 0⟩ := by
  cases s; simp only at h1 h2; rw [h1, h2]
structure Codec (α : Type) where
  enc : α → List Nat
  dec : List Nat → PS → α × PS
  ok : α → Prop
  bytes : ∀ a, ∀ b ∈ enc a, b < 256
  stuck : ∀ bs s, s.err ≠ 0 → (dec bs s).2 = s
  back : ∀ pre post a, ok a → dec (pre ++ enc a ++ post) ⟨pre.length, 0⟩ = (a, ⟨pre.length + (enc a).length, 0⟩)
  cut : ∀ pre a c, ok a → c < (enc a).length → (dec (pre ++ (enc a).take c) ⟨pre.length, 0⟩).2 = ⟨pre.length + c, 5⟩
  forth : ∀ bs p, (∀ b ∈ bs, b < 256) → (dec bs ⟨p, 0⟩).2.err = 0 → ok (dec bs ⟨p, 0⟩).1 ∧ (bs.drop p).take (enc (dec bs ⟨p, 0⟩).1).length = enc (dec bs ⟨p, 0⟩).1 ∧ (dec bs ⟨p, 0⟩).2.pos = p + (enc (dec bs ⟨p, 0⟩).1).length
  place : ∀ bs s, s.pos ≤ bs.length → (dec bs s).2.pos ≤ bs.length

/-- A number that is at most another one. -/
def decN (most : Nat) (bad : Int) (bs : List Nat) (s : PS) : Nat × PS :=
  if s.err ≠ 0 then (0, s)
  else if (getN bs s.pos).2.2 = 0 ∧ most < (getN bs s.pos).1 then (0, ⟨s.pos, bad⟩)
  else ((getN bs s.pos).1, ⟨(getN bs s.pos).2.1, (getN bs s.pos).2.2⟩)
def cNum (most : Nat) (bad : Int) (hm : most < 18446744073709551616) (hbad : bad ≠ 0) : Codec Nat where
  enc := layN
  dec := decN most bad
  ok x := x ≤ most
  bytes := layN_lt
  stuck bs s h := by unfold decN; rw [if_pos h]
  back pre post a h := by
    unfold decN
    rw [if_neg (by simp), getN_lay pre post (by omega), if_neg (by simp; omega)]
  cut pre a c h hc := by
    unfold decN
    rw [if_neg (by simp), getN_cut pre hc, if_neg (by simp)]
  forth bs p hb := by
    unfold decN
    rw [if_neg (by simp)]
    split
    · intro h; exact absurd h hbad
    · intro h
      rename_i h2
      simp only at h h2 ⊢
      obtain ⟨h3, h4, h5, h6⟩ := getN_back hb (p := p) (x := (getN bs p).1) (n := (getN bs p).2.1) (by rw [← h])
      exact ⟨by omega, h4, h5⟩
  place bs s h := by
    unfold decN
    split
    · exact h
    · split
      · exact h
      · exact getN_place h

def decI (bs : List Nat) (s : PS) : Int × PS :=
  if s.err ≠ 0 then (0, s) else (zag (getN bs s.pos).1, ⟨(getN bs s.pos).2.1, (getN bs s.pos).2.2⟩)
def cInt : Codec Int where
  enc := wholeN
  dec := decI
  ok := I64
  bytes x := layN_lt _
  stuck bs s h := by unfold decI; rw [if_pos h]
  back pre post a h := by
    have hz := zig_le h
    unfold decI wholeN
    rw [if_neg (by simp), getN_lay pre post (by omega), zag_zig]
  cut pre a c h hc := by
    unfold decI wholeN
    rw [if_neg (by simp), getN_cut pre hc]
  forth bs p hb := by
    unfold decI
    rw [if_neg (by simp)]
    intro h
    simp only at h ⊢
    obtain ⟨h3, h4, h5, h6⟩ := getN_back hb (p := p) (x := (getN bs p).1) (n := (getN bs p).2.1) (by rw [← h])
    unfold wholeN
    rw [zig_zag]
    exact ⟨zag_I64 h3, h4, h5⟩
  place bs s h := by
    unfold decI
    split
    · exact h
    · exact getN_place h

/-- One thing behind another. -/
def Codec.seq {α β : Type} (C : Codec α) (D : Codec β) : Codec (α × β) where
  enc a := C.enc a.1 ++ D.enc a.2
  dec bs s := (((C.dec bs s).1, (D.dec bs (C.dec bs s).2).1), (D.dec bs (C.dec bs s).2).2)
  ok a := C.ok a.1 ∧ D.ok a.2
  bytes a b hb := by
    rcases List.mem_append.1 hb with h | h
    · exact C.bytes _ _ h
    · exact D.bytes _ _ h
  stuck bs s h := by simp only; rw [C.stuck bs s h, D.stuck bs s h]
  back pre post a h := by
    have h1 := C.back pre (D.enc a.2 ++ post) a.1 h.1
    have h2 := D.back (pre ++ C.enc a.1) post a.2 h.2
    rw [List.length_append] at h2
    simp only [List.append_assoc] at h1 h2 ⊢
    rw [h1]
    simp only
    rw [h2, List.length_append, Nat.add_assoc]
  cut pre a c h hc := by
    rw [List.length_append] at hc
    simp only
    by_cases hlt : c < (C.enc a.1).length
    · rw [List.take_append, show c - (C.enc a.1).length = 0 by omega, List.take_zero, List.append_nil, C.cut pre a.1 c h.1 hlt, D.stuck _ _ (by simp)]
    · have h1 := C.back pre ((D.enc a.2).take (c - (C.enc a.1).length)) a.1 h.1
      have h2 := D.cut (pre ++ C.enc a.1) a.2 (c - (C.enc a.1).length) h.2 (by omega)
      rw [List.length_append] at h2
      simp only [List.append_assoc] at h1 h2
      rw [List.take_append, List.take_of_length_le (by omega), h1]
      simp only
      rw [h2]
      congr 1
      omega
  forth bs p hb h := by
    simp only at h ⊢
    have hC : (C.dec bs ⟨p, 0⟩).2.err = 0 := Decidable.byContradiction fun hn => by
      rw [D.stuck _ _ hn] at h
      exact hn h
    obtain ⟨h1, h2, h3⟩ := C.forth bs p hb hC
    have es : (C.dec bs ⟨p, 0⟩).2 = ⟨p + (C.enc (C.dec bs ⟨p, 0⟩).1).length, 0⟩ := PS.eq _ _ h3 hC
    rw [es] at h ⊢
    obtain ⟨k1, k2, k3⟩ := D.forth bs _ hb h
    refine ⟨⟨h1, k1⟩, ?_, ?_⟩
    · rw [List.length_append, List.take_add, h2, List.drop_drop, k2]
    · rw [k3, List.length_append, Nat.add_assoc]
  place bs s h := D.place _ _ (C.place _ _ h)

/-- So many of a kind. -/
def decR {α : Type} (C : Codec α) (bs : List Nat) : Nat → PS → List α × PS
  | 0, s => ([], s)
  | n + 1, s => ((C.dec bs s).1 :: (decR C bs n (C.dec bs s).2).1, (decR C bs n (C.dec bs s).2).2)
theorem decR_length {α : Type} (C : Codec α) (bs : List Nat) : ∀ n s, (decR C bs n s).1.length = n
  | 0, s => rfl
  | n + 1, s => by simp [decR, decR_length C bs n]
theorem decR_stuck {α : Type} (C : Codec α) (bs : List Nat) : ∀ n s, s.err ≠ 0 → (decR C bs n s).2 = s
  | 0, s, h => rfl
  | n + 1, s, h => by rw [decR]; simp only; rw [C.stuck bs s h]; exact decR_stuck C bs n s h
theorem decR_back {α : Type} (C : Codec α) : ∀ (l : List α) (pre post : List Nat), (∀ a ∈ l, C.ok a) → decR C (pre ++ l.flatMap C.enc ++ post) l.length ⟨pre.length, 0⟩ = (l, ⟨pre.length + (l.flatMap C.enc).length, 0⟩)
  | [], pre, post, h => by simp [decR]
  | a :: l, pre, post, h => by
    have h1 := C.back pre (l.flatMap C.enc ++ post) a (h a (by simp))
    have h2 := decR_back C l (pre ++ C.enc a) post (fun b hb => h b (by simp [hb]))
    rw [List.length_append] at h2
    simp only [List.append_assoc] at h1 h2
    rw [List.length_cons, decR, List.flatMap_cons]
    simp only [List.append_assoc]
    rw [h1]
    simp only
    rw [h2, List.length_append, Nat.add_assoc]
theorem decR_cut {α : Type} (C : Codec α) : ∀ (l : List α) (pre : List Nat) (c : Nat), (∀ a ∈ l, C.ok a) → c < (l.flatMap C.enc).length → (decR C (pre ++ (l.flatMap C.enc).take c) l.length ⟨pre.length, 0⟩).2 = ⟨pre.length + c, 5⟩
  | [], pre, c, h, hc => by simp at hc
  | a :: l, pre, c, h, hc => by
    rw [List.flatMap_cons, List.length_append] at hc
    rw [List.length_cons, decR, List.flatMap_cons]
    simp only
    by_cases hlt : c < (C.enc a).length
    · rw [List.take_append, show c - (C.enc a).length = 0 by omega, List.take_zero, List.append_nil, C.cut pre a c (h a (by simp)) hlt, decR_stuck _ _ _ _ (by simp)]
    · have h1 := C.back pre ((l.flatMap C.enc).take (c - (C.enc a).length)) a (h a (by simp))
      have h2 := decR_cut C l (pre ++ C.enc a) (c - (C.enc a).length) (fun b hb => h b (by simp [hb])) (by omega)
      rw [List.length_append] at h2
      simp only [List.append_assoc] at h1 h2
      rw [List.take_append, List.take_of_length_le (by omega), h1]
      simp only
      rw [h2]
      congr 1
      omega
theorem decR_forth {α : Type} (C : Codec α) (bs : List Nat) (hb : ∀ b ∈ bs, b < 256) : ∀ (n p : Nat), (decR C bs n ⟨p, 0⟩).2.err = 0 → (∀ a ∈ (decR C bs n ⟨p, 0⟩).1, C.ok a) ∧
    (bs.drop p).take ((decR C bs n ⟨p, 0⟩).1.flatMap C.enc).length = (decR C bs n ⟨p, 0⟩).1.flatMap C.enc ∧ (decR C bs n ⟨p, 0⟩).2.pos = p + ((decR C bs n ⟨p, 0⟩).1.flatMap C.enc).length
  | 0, p, h => by simp [decR]
  | n + 1, p, h => by
    rw [decR] at h ⊢
    simp only at h ⊢
    have hC : (C.dec bs ⟨p, 0⟩).2.err = 0 := Decidable.byContradiction fun hn => by
      rw [decR_stuck C bs n _ hn] at h
      exact hn h
    obtain ⟨h1, h2, h3⟩ := C.forth bs p hb hC
    have es : (C.dec bs ⟨p, 0⟩).2 = ⟨p + (C.enc (C.dec bs ⟨p, 0⟩).1).length, 0⟩ := PS.eq _ _ h3 hC
    rw [es] at h ⊢
    obtain ⟨k1, k2, k3⟩ := decR_forth C bs hb n _ h
    refine ⟨?_, ?_, ?_⟩
    · intro a ha
      rcases List.mem_cons.1 ha with rfl | ha
      · exact h1
      · exact k1 a ha
    · rw [List.flatMap_cons, List.length_append, List.take_add, h2, List.drop_drop, k2]
    · rw [k3, List.flatMap_cons, List.length_append, Nat.add_assoc]
theorem decR_place {α : Type} (C : Codec α) (bs : List Nat) : ∀ n s, s.pos ≤ bs.length → (decR C bs n s).2.pos ≤ bs.length
  | 0, s, h => h
  | n + 1, s, h => by rw [decR]; exact decR_place C bs n _ (C.place bs s h)
theorem flatMap_lt {α : Type} (C : Codec α) (l : List α) : ∀ b ∈ l.flatMap C.enc, b < 256 := by
  intro b hb
  obtain ⟨a, _, h⟩ := List.mem_flatMap.1 hb
  exact C.bytes a b h
def Codec.rep {α : Type} (C : Codec α) (n : Nat) : Codec (List α) where
  enc l := l.flatMap C.enc
  dec bs s := decR C bs n s
  ok l := l.length = n ∧ ∀ a ∈ l, C.ok a
  bytes l := flatMap_lt C l
  stuck bs s h := decR_stuck C bs n s h
  back pre post a h := by have := decR_back C a pre post h.2; rw [h.1] at this; exact this
  cut pre a c h hc := by have := decR_cut C a pre c h.2 hc; rw [h.1] at this; exact this
  forth bs p hb h := by
    obtain ⟨h1, h2, h3⟩ := decR_forth C bs hb n p h
    exact ⟨⟨decR_length C bs n _, h1⟩, h2, h3⟩
  place bs s h := decR_place C bs n s h

/-- The same, stopped at the first fault. -/
def decL {α : Type} (C : Codec α) (bs : List Nat) : Nat → PS → List α × PS
  | 0, s => ([], s)
  | n + 1, s => if (C.dec bs s).2.err ≠ 0 then ([], (C.dec bs s).2) else ((C.dec bs s).1 :: (decL C bs n (C.dec bs s).2).1, (decL C bs n (C.dec bs s).2).2)
theorem decL_eq {α : Type} (C : Codec α) (bs : List Nat) : ∀ n s, (decL C bs n s).2 = (decR C bs n s).2 ∧ ((decR C bs n s).2.err = 0 → (decL C bs n s).1 = (decR C bs n s).1)
  | 0, s => ⟨rfl, fun _ => rfl⟩
  | n + 1, s => by
    rw [decL, decR]
    split
    · rename_i h
      simp only
      rw [decR_stuck C bs n _ h]
      exact ⟨rfl, fun h' => absurd h' h⟩
    · obtain ⟨h1, h2⟩ := decL_eq C bs n (C.dec bs s).2
      exact ⟨h1, fun h => by simp only at h ⊢; rw [h2 h]⟩
def decA {α : Type} (C : Codec α) (bs : List Nat) (s : PS) : List α × PS := decL C bs (decN 1024 3 bs s).1 (decN 1024 3 bs s).2
def Codec.list {α : Type} (C : Codec α) : Codec (List α) where
  enc l := layN l.length ++ l.flatMap C.enc
  dec bs s := decA C bs s
  ok l := l.length ≤ 1024 ∧ ∀ a ∈ l, C.ok a
  bytes l b hb := by
    rcases List.mem_append.1 hb with h | h
    · exact layN_lt _ b h
    · exact flatMap_lt C l b h
  stuck bs s h := by
    unfold decA
    have : decN 1024 3 bs s = (0, s) := by unfold decN; rw [if_pos h]
    rw [this]
    rfl
  back pre post a h := by
    unfold decA
    have h1 := (cNum 1024 3 (by omega) (by omega)).back pre (a.flatMap C.enc ++ post) a.length h.1
    have h2 := decR_back C a (pre ++ layN a.length) post h.2
    rw [List.length_append] at h2
    simp only [cNum, List.append_assoc] at h1 h2 ⊢
    rw [h1]
    simp only
    obtain ⟨e1, e2⟩ := decL_eq C (pre ++ (layN a.length ++ (a.flatMap C.enc ++ post))) a.length ⟨pre.length + (layN a.length).length, 0⟩
    rw [h2] at e1 e2
    rw [Prod.ext_iff]
    refine ⟨e2 rfl, ?_⟩
    rw [e1, List.length_append, Nat.add_assoc]
  cut pre a c h hc := by
    unfold decA
    rw [List.length_append] at hc
    by_cases hlt : c < (layN a.length).length
    · have h1 := (cNum 1024 3 (by omega) (by omega)).cut pre a.length c h.1 hlt
      simp only [cNum] at h1
      rw [List.take_append, show c - (layN a.length).length = 0 by omega, List.take_zero, List.append_nil, (decL_eq C _ _ _).1, decR_stuck C _ _ _ (by rw [h1]; simp), h1]
    · have h1 := (cNum 1024 3 (by omega) (by omega)).back pre ((a.flatMap C.enc).take (c - (layN a.length).length)) a.length h.1
      have h2 := decR_cut C a (pre ++ layN a.length) (c - (layN a.length).length) h.2 (by omega)
      rw [List.length_append] at h2
      simp only [cNum, List.append_assoc] at h1 h2
      rw [List.take_append, List.take_of_length_le (by omega), (decL_eq C _ _ _).1, h1]
      simp only
      rw [h2]
      congr 1
      omega
  forth bs p hb h := by
    unfold decA at h ⊢
    rw [(decL_eq C bs _ _).1] at h
    have hC : (decN 1024 3 bs ⟨p, 0⟩).2.err = 0 := Decidable.byContradiction fun hn => by
      rw [decR_stuck C bs _ _ hn] at h
      exact hn h
    rw [(decL_eq C bs _ _).2 h, (decL_eq C bs _ _).1]
    obtain ⟨h1, h2, h3⟩ := (cNum 1024 3 (by omega) (by omega)).forth bs p hb hC
    simp only [cNum] at h1 h2 h3
    have es : (decN 1024 3 bs ⟨p, 0⟩).2 = ⟨p + (layN (decN 1024 3 bs ⟨p, 0⟩).1).length, 0⟩ := PS.eq _ _ h3 hC
    have hn := decR_length C bs (decN 1024 3 bs ⟨p, 0⟩).1 (decN 1024 3 bs ⟨p, 0⟩).2
    rw [es] at h hn ⊢
    obtain ⟨k1, k2, k3⟩ := decR_forth C bs hb _ _ h
    rw [hn]
    refine ⟨⟨h1, k1⟩, ?_, ?_⟩
    · rw [List.length_append, List.take_add, h2, List.drop_drop, k2]
    · rw [k3, List.length_append, Nat.add_assoc]
  place bs s h := by
    unfold decA
    rw [(decL_eq C bs _ _).1]
    exact decR_place C bs _ _ ((cNum 1024 3 (by omega) (by omega)).place bs s h)

/-- A thing, told otherwise. -/
def Codec.map {α β : Type} (C : Codec α) (f : α → β) (g : β → α) (ok : β → Prop) (h1 : ∀ b, ok b → C.ok (g b) ∧ f (g b) = b) (h2 : ∀ a, C.ok a → ok (f a) ∧ g (f a) = a) : Codec β where
  enc b := C.enc (g b)
  dec bs s := (f (C.dec bs s).1, (C.dec bs s).2)
  ok := ok
  bytes b := C.bytes _
  stuck bs s h := C.stuck bs s h
  back pre post b h := by rw [C.back pre post _ (h1 b h).1]; simp only; rw [(h1 b h).2]
  cut pre b c h hc := C.cut pre _ c (h1 b h).1 hc
  forth bs p hb h := by
    obtain ⟨k1, k2, k3⟩ := C.forth bs p hb h
    obtain ⟨k4, k5⟩ := h2 _ k1
    simp only
    rw [k5]
    exact ⟨k4, k2, k3⟩
  place bs s h := C.place bs s h

/-! ### A thing, and nothing behind it -/
def decW {α : Type} (C : Codec α) (none : α) (bs : List Nat) : α × Nat × Int :=
  if (C.dec bs ⟨0, 0⟩).2.err ≠ 0 then (none, (C.dec bs ⟨0, 0⟩).2.pos, (C.dec bs ⟨0, 0⟩).2.err)
  else if (C.dec bs ⟨0, 0⟩).2.pos < bs.length then (none, (C.dec bs ⟨0, 0⟩).2.pos, 7)
  else ((C.dec bs ⟨0, 0⟩).1, 0, 0)
theorem decW_back {α : Type} (C : Codec α) (none a : α) (h : C.ok a) : decW C none (C.enc a) = (a, 0, 0) := by
  have := C.back [] [] a h
  simp only [List.nil_append, List.append_nil, List.length_nil, Nat.zero_add] at this
  unfold decW
  rw [this]
  simp
theorem decW_cut {α : Type} (C : Codec α) (none a : α) (h : C.ok a) (c : Nat) (hc : c < (C.enc a).length) : decW C none ((C.enc a).take c) = (none, c, 5) := by
  have := C.cut [] a c h hc
  simp only [List.nil_append, List.length_nil, Nat.zero_add] at this
  unfold decW
  rw [this]
  simp
theorem decW_more {α : Type} (C : Codec α) (none a : α) (h : C.ok a) (b : Nat) : decW C none (C.enc a ++ [b]) = (none, (C.enc a).length, 7) := by
  have := C.back [] [b] a h
  simp only [List.nil_append, List.length_nil, Nat.zero_add] at this
  unfold decW
  rw [this]
  simp
theorem decW_forth {α : Type} (C : Codec α) (none : α) (bs : List Nat) (hb : ∀ b ∈ bs, b < 256) (h : (decW C none bs).2.2 = 0) : C.ok (decW C none bs).1 ∧ C.enc (decW C none bs).1 = bs := by
  unfold decW at h ⊢
  split at h
  · rename_i hn; exact absurd h hn
  · rename_i hn
    rw [if_neg hn]
    split at h
    · simp at h
    · rename_i hn2
      rw [if_neg hn2]
      obtain ⟨h1, h2, h3⟩ := C.forth bs 0 hb (by simpa using hn)
      simp only [List.drop_zero, Nat.zero_add] at h2 h3
      refine ⟨h1, ?_⟩
      simp only
      rw [← h2]
      apply List.take_of_length_le
      omega
theorem enc_inj {α : Type} (C : Codec α) (a b : α) (ha : C.ok a) (hb : C.ok b) (h : C.enc a = C.enc b) : a = b := by
  have h1 := decW_back C a a ha
  have h2 := decW_back C a b hb
  rw [h, h2] at h1
  exact (Prod.mk.inj h1).1.symm
end Go.Proofs.Ytmlaconjeplhpaa

set_option linter.unusedVariables false
set_option linter.unusedSimpArgs false
set_option maxRecDepth 20000
namespace Go.Proofs.Ytmlaconjeplhpaa
open Go Go.Vc

theorem or8 {P : Program} {S : World → Prop} {t : TypeId} {cx cy : Bool} {x c : Nat} {k : Value → Prop} (hx : x < 72057594037927936) (hc : c < 256) (h : k (.int .u64 ((x * 256 + c : Nat) : Int))) :
    Bin P S .or t cx cy (.int .u64 ((x : Int) * 2 ^ 8)) (.int .u64 (c : Int)) k := by
  refine ⟨rfl, ?_⟩
  have e1 : BitVec.ofInt 64 ((x : Int) * 2 ^ 8) = BitVec.ofNat 64 (x * 256) := by
    rw [show (x : Int) * 2 ^ 8 = ((x * 256 : Nat) : Int) by omega]; exact BitVec.ofInt_natCast 64 _
  have e2 : BitVec.ofInt 64 (c : Int) = BitVec.ofNat 64 c := BitVec.ofInt_natCast 64 _
  have e3 : (BitVec.ofInt IntKind.u64.bits ((x : Int) * 2 ^ 8) ||| BitVec.ofInt IntKind.u64.bits (c : Int)).toNat = x * 256 + c := by
    show (BitVec.ofInt 64 ((x : Int) * 2 ^ 8) ||| BitVec.ofInt 64 (c : Int)).toNat = x * 256 + c
    rw [e1, e2, BitVec.toNat_or, BitVec.toNat_ofNat, BitVec.toNat_ofNat, Nat.mod_eq_of_lt (by omega), Nat.mod_eq_of_lt (by omega)]
    have := Nat.two_pow_add_eq_or_of_lt (i := 8) (b := c) (by omega) x
    rw [show x * 256 = 2 ^ 8 * x by omega, ← this]
  rw [e3, Go.IntWalk.u64_in _ (by omega)]
  exact h

theorem read_c {w : World} {v : Value} {bs : List Nat} {p : Nat} (hs : Sl w 1 v bs.length (bytes bs)) (hcap : capOk v) (hb : ∀ b ∈ bs, b < 256) (hp : p ≤ bs.length) (hn : bs.length ≤ 4611686018427387904) :
    CallF Try.prog 134 #[v, .int .i64 p] w fun r w' => r = .tuple #[.int .u64 (getN bs p).1, .int .i64 (getN bs p).2.1, .int .i64 (getN bs p).2.2] ∧ w' = w := by
  refine C_strip_Read_link ?_
  unfold C_strip_Read
  refine lss (gdT (by simp [isB]) rfl (gdT (by simp [isB]) rfl (gdT (by simp [isB]) (hs.lenV rfl) (gdT (by simp [isB]) (gtr rfl) (pick_f (by simp) ?_)))))
  refine if_p (fun h => absurd h (by omega)) fun _ => ?_
  refine hs.lenV (eql (if_p (fun he => ?_) (fun he => ?_)))
  · have e : getN bs p = (0, p, 5) := by unfold getN; rw [if_neg (by omega)]
    rw [e]
    exact ⟨rfl, rfl⟩
  have hlt : p < bs.length := by omega
  have e0 : bs.getD p 0 = bs[p] := by simp [List.getD, hlt]
  have hh : bs[p] < 256 := hb _ (List.getElem_mem hlt)
  have hg : getN bs p = if bs[p] < 192 then (bs[p], p + 1, 0)
    else if 199 < bs[p] then (0, p, 4)
    else if bs.length - p - 1 < bs[p] - 191 then (0, bs.length, 5)
    else if 18446744073709551616 ≤ shelfN (bs[p] - 191) + far ((bs.drop (p + 1)).take (bs[p] - 191)) then (0, p, 4)
    else (shelfN (bs[p] - 191) + far ((bs.drop (p + 1)).take (bs[p] - 191)), p + 1 + (bs[p] - 191), 0) := by
    unfold getN; rw [if_pos hlt, e0]
  have hget := bytes_get hlt
  generalize bs[p] = h at *
  refine ix1 hs hlt hget (lss (if_p (fun h1 => ?_) (fun h1 => ?_)))
  · rw [hg, if_pos (by omega)]
    refine ix1 hs hlt hget (conv_u64 (by omega) (add64 (by omega) ?_))
    exact ⟨by push_cast; rfl, rfl⟩
  refine ix1 hs hlt hget (gtr (if_p (fun h2 => ?_) (fun h2 => ?_)))
  · rw [hg, if_neg (by omega), if_pos (by omega)]
    exact ⟨rfl, rfl⟩
  rw [if_neg (by omega), if_neg (by omega)] at hg
  refine ix1 hs hlt hget (conv_i64 (by omega) (sub64 (by omega) (add64 (by omega) (add64 (by omega) ?_))))
  obtain ⟨k, hk⟩ : ∃ k, h - 191 = k := ⟨_, rfl⟩
  have ek : (h : Int) - 192 + 1 = (k : Int) := by omega
  rw [ek]
  rw [hk] at hg
  have ep : (p : Int) + 1 = ((p + 1 : Nat) : Int) := by omega
  rw [ep]
  refine slcLo hs hcap (l := p + 1) (by omega) ?_
  intro v' hs' _ _
  have er : ((bytes bs).drop ((p + 1) * 1)).take ((bs.length - (p + 1)) * 1) = bytes (bs.drop (p + 1)) := by
    rw [Nat.mul_one, Nat.mul_one, bytes_drop]
    exact List.take_of_length_le (by rw [bytes_length, List.length_drop]; omega)
  rw [er] at hs'
  have hrl : (bs.drop (p + 1)).length = bs.length - (p + 1) := List.length_drop
  have hrb : ∀ b ∈ bs.drop (p + 1), b < 256 := fun b hb' => hb b (List.mem_of_mem_drop hb')
  rw [show bs.length - p - 1 = bs.length - (p + 1) by omega] at hg
  rw [← hrl] at hs' hg
  generalize bs.drop (p + 1) = rest at *
  refine hs'.lenV ?_
  refine ⟨fun x left i w' => w' = w ∧ ∃ j : Nat, j ≤ k ∧ j ≤ rest.length ∧ (j = k ∨ j = rest.length) ∧ x = .int .u64 (far (rest.take j) : Nat) ∧ left = .int .i64 ((k : Int) - j), ?_, ?_⟩
  · rintro x left i w' ⟨rfl, j, h3, h4, h5, rfl, rfl⟩
    refine (shelf_c (k := k) (by omega) (by omega) w').use ?_
    rintro _ w2 ⟨rfl, rfl⟩
    refine gtr (if_p (fun h6 => ?_) (fun h6 => ?_))
    · rw [hg, if_pos (by omega)]
      exact hs.lenV ⟨rfl, rfl⟩
    · have hj : j = k := by omega
      subst hj
      rw [if_neg (by omega)] at hg
      have hfl := far_lt j (rest.take j) (by simp; omega) (fun y hy => hrb y (List.mem_of_mem_take hy))
      have hsh := shelfN_le j (by omega)
      have hpw : (256 : Nat) ^ j ≤ 18446744073709551616 := by
        have := Nat.pow_le_pow_right (n := 256) (by omega) (show j ≤ 8 by omega)
        exact this
      generalize far (rest.take j) = F at *
      refine addw (lss (if_p (fun h7 => ?_) (fun h7 => ?_)))
      · rw [IntKind.wrap_u64] at h7
        rw [hg, if_pos (by omega)]
        exact ⟨rfl, rfl⟩
      · rw [IntKind.wrap_u64] at h7
        have hlt2 : shelfN j + F < 18446744073709551616 := by omega
        rw [hg, if_neg (by omega)]
        refine addw (add64 (by omega) (add64 (by omega) ⟨?_, rfl⟩))
        rw [IntKind.wrap_u64]
        congr 2
        · congr 1
          · congr 1; omega
  · refine ⟨fun m x left i w' => w' = w ∧ ∃ j : Nat, j < k ∧ j ≤ rest.length ∧ j + m = rest.length ∧ x = .int .u64 (far (rest.take j) : Nat) ∧ left = .int .i64 ((k : Int) - j) ∧ i = .int .i64 j, rest.length, ⟨rfl, 0, by omega, by omega, by omega, by simp [far], by simp, rfl⟩, ?_⟩
    rintro m x left i w' ⟨rfl, j, h3, h4, h5, rfl, rfl, rfl⟩
    refine lss (if_p (fun h6 => ?_) (fun h6 => ?_))
    · have hjl : j < rest.length := by omega
      have hfl := far_lt j (rest.take j) (by simp; omega) (fun y hy => hrb y (List.mem_of_mem_take hy))
      have hpw : (256 : Nat) ^ j ≤ 72057594037927936 := by
        have := Nat.pow_le_pow_right (n := 256) (by omega) (show j ≤ 7 by omega)
        exact this
      have hc := hrb _ (List.getElem_mem hjl)
      refine ix1 hs' hjl (bytes_get hjl) (shlu64 (n := 8) rfl (by omega) (by omega) (conv_u64 (by omega) (or8 (by omega) hc (sub64 (by omega) (eql ?_)))))
      have ef : far (rest.take j) * 256 + rest[j] = far (rest.take (j + 1)) := by
        rw [List.take_succ_eq_append_getElem hjl, far_snoc]
      rw [ef]
      refine if_p (fun h7 => ?_) (fun h7 => ?_)
      · exact ⟨rfl, j + 1, by omega, by omega, .inl (by omega), rfl, by congr 1; omega⟩
      · refine add64 (by omega) ⟨m - 1, by omega, rfl, j + 1, by omega, by omega, by omega, rfl, by congr 1; omega, by congr 1⟩
    · exact ⟨rfl, j, by omega, by omega, .inr (by omega), rfl, rfl⟩

theorem readInt_c {w : World} {v : Value} {bs : List Nat} {p : Nat} (hs : Sl w 1 v bs.length (bytes bs)) (hcap : capOk v) (hb : ∀ b ∈ bs, b < 256) (hp : p ≤ bs.length) (hn : bs.length ≤ 4611686018427387904) :
    CallF Try.prog 127 #[v, .int .i64 p] w fun r w' => r = .tuple #[.int .i64 (zag (getN bs p).1), .int .i64 (getN bs p).2.1, .int .i64 (getN bs p).2.2] ∧ w' = w := by
  refine C_strip_ReadInt_link ?_
  unfold C_strip_ReadInt
  refine (read_c hs hcap hb hp hn).use ?_
  rintro _ w1 ⟨rfl, rfl⟩
  have hlt := getN_lt (p := p) hb
  have hzag : zag (getN bs p).1 = if (getN bs p).1 % 2 = 1 then -(((getN bs p).1 / 2 : Nat) : Int) - 1 else (((getN bs p).1 / 2 : Nat) : Int) := rfl
  generalize (getN bs p).1 = x at *
  generalize (getN bs p).2.1 = n at *
  generalize (getN bs p).2.2 = e at *
  refine ext0 (ext1 (ext2 ?_))
  have e1 : ((x : Int).tmod 2) = ((x % 2 : Nat) : Int) := rfl
  have e2 : ((x : Int).tdiv 2) = ((x / 2 : Nat) : Int) := rfl
  have e3 : IntKind.u64.wrap ((x / 2 : Nat) : Int) = ((x / 2 : Nat) : Int) := Go.IntWalk.u64_in _ (by omega)
  refine rem (by omega) ?_
  rw [e1]
  refine eql (if_p (fun h => ?_) (fun h => ?_))
  · refine quo (by omega) ?_
    rw [e2, e3]
    refine conv_i64 (by omega) (not64 (by omega) ⟨?_, rfl⟩)
    rw [hzag, if_pos (by omega)]
  · refine quo (by omega) ?_
    rw [e2, e3]
    refine conv_i64 (by omega) ⟨?_, rfl⟩
    rw [hzag, if_neg (by omega)]
end Go.Proofs.Ytmlaconjeplhpaa

set_option linter.unusedVariables false
set_option linter.unusedSimpArgs false
set_option maxRecDepth 20000
namespace Go.Proofs.Ytmlaconjeplhpaa
open Go Go.Vc

theorem wholeN_lt (x : Int) : ∀ b ∈ wholeN x, b < 256 := layN_lt _
theorem layInt_r {x : Int} {w0 w : World} {v : Value} {bs : List Nat} (hN : Row w0 w v bs) (hx : I64 x) (hn : bs.length ≤ 1000000000) :
    CallF Try.prog 103 #[v, .int .i64 x] w fun r w' => Row w0 w' r (bs ++ wholeN x) := by
  refine (layInt_c hx w hN.own.sl (bytes_one _) (by omega)).use ?_
  intro r w1 h1
  rw [← bytes_append, ← List.length_append] at h1
  exact New.base hN.fr h1
theorem layBytes_r {w0 w : World} {v x : Value} {bs p : List Nat} (hN : Row w0 w v bs) (hx : Sl w 1 x p.length (bytes p)) (hn : bs.length ≤ 1000000000) (hp : p.length ≤ 1000000000) :
    CallF Try.prog 78 #[v, x] w fun r w' => Row w0 w' r (bs ++ (layN p.length ++ p)) ∧ Fr [] w w' := by
  refine C_strip_LayBytes_link ?_
  unfold C_strip_LayBytes
  refine hx.lenV ?_
  have e : IntKind.u64.wrap (p.length : Int) = (p.length : Int) := Go.IntWalk.u64_in _ (by omega)
  refine (show ConvI .u64 (.int .i64 (p.length : Int)) _ from ?_)
  show _
  unfold ConvI
  simp only [e]
  have hl := layN_length p.length
  refine (lay_c (x := p.length) (by omega) w hN.own.sl (bytes_one _) (by omega)).use ?_
  intro r w1 h1
  rw [← bytes_append, ← List.length_append] at h1
  have h1' : Row w0 w1 r (bs ++ layN p.length) := New.base hN.fr h1
  refine row_append h1' (hx.fr h1.fr (fun i _ => by simp)) (by rw [List.length_append]; omega) ?_
  intro v2 w2 h2 hF2 _
  rw [List.append_assoc] at h2
  exact ⟨h2, h1.fr.trans hF2 (fun i hi => .inr (h1.new i hi))⟩
def wholes (l : List Int) : List Nat := l.flatMap wholeN
theorem wholes_snoc (l : List Int) (x : Int) : wholes (l ++ [x]) = wholes l ++ wholeN x := by simp [wholes]
theorem wholes_length (l : List Int) : (wholes l).length ≤ l.length * 9 := by
  induction l with
  | nil => simp [wholes]
  | cons x l ih =>
    have := (wholeN_length x).2
    have e : wholes (x :: l) = wholeN x ++ wholes l := by simp [wholes]
    rw [e, List.length_append, List.length_cons]
    omega
theorem ints_c {w0 w : World} {v y : Value} {bs : List Nat} {l : List Int} (hN : Row w0 w v bs) (hy : Sl w 1 y l.length (l.map (.int .i64))) (hi : ∀ x ∈ l, I64 x) (hn : bs.length ≤ 100000000) (hl : l.length ≤ 1000000) :
    CallF Try.prog 77 #[v, y] w fun r w' => Row w0 w' r (bs ++ wholes l) ∧ Fr [] w w' := by
  refine C_keep_ints_link ?_
  unfold C_keep_ints
  refine hy.lenV ?_
  refine ⟨fun m b t w' => ∃ j : Nat, j + m = l.length ∧ t = .int .i64 j ∧ Row w0 w' b (bs ++ wholes (l.take j)) ∧ Fr [] w w', l.length, ⟨0, by omega, rfl, by simpa [wholes] using hN, Fr.refl _ _⟩, ?_⟩
  rintro m b t w1 ⟨j, hj, rfl, h1, hF1⟩
  refine lss (if_p (fun hlt => ?_) (fun hge => ?_))
  · have hjl : j < l.length := by omega
    refine ix1 (hy.fr hF1 (fun i _ => by simp)) hjl (u := .int .i64 l[j]) (by rw [List.getElem?_map, List.getElem?_eq_getElem hjl]; rfl) ?_
    have hwl := wholes_length (l.take j)
    have htl : (l.take j).length ≤ l.length := by rw [List.length_take]; omega
    refine (layInt_c (hi _ (List.getElem_mem hjl)) w1 h1.own.sl (bytes_one _) (by rw [List.length_append]; omega)).use ?_
    intro r w2 h2
    rw [← bytes_append, ← List.length_append] at h2
    refine add64 (by omega) ⟨m - 1, by omega, j + 1, by omega, by congr 1, ?_, hF1.t h2.fr⟩
    rw [List.take_succ_eq_append_getElem hjl, wholes_snoc, ← List.append_assoc]
    exact New.base h1.fr h2
  · rw [List.take_of_length_le (by omega)] at h1
    exact ⟨h1, hF1⟩
/-- A reader stands at p: it has read so much of bs. -/
structure Rk (w : World) (p : Nat) (x : Value) (bs : List Nat) (n : Nat) : Prop where
  blk : Bk w p 173 [x, .int .i64 n, .bool false]
  sl : Sl w 1 x bs.length (bytes bs)
  cap : capOk x
  ne : p ∉ fp x
  lt : ∀ b ∈ bs, b < 256
  len : bs.length ≤ 1000000000
theorem rint_c {w : World} {p : Nat} {x : Value} {bs pre post : List Nat} {v : Int} (h : Rk w p x bs pre.length) (e : bs = pre ++ (wholeN v ++ post)) (hv : I64 v) :
    CallF Try.prog 105 #[ptr p] w fun r w' => r = .int .i64 v ∧ Rk w' p x bs (pre ++ wholeN v).length ∧ Fr [p] w w' := by
  refine C_keep_reader_int_link ?_
  unfold C_keep_reader_int
  have hd := Fr.drew [] w
  refine ⟨fun w' => Bk w' p 173 [x, .int .i64 pre.length, .bool false], h.blk.drew, ?_⟩
  refine nilC (fad (ldC_S (fun w' h => h) rfl (nilC (fad (ldC_S (fun w' h => h) rfl ?_)))))
  have hz := zig_le hv
  have hg : getN bs pre.length = (zig v, pre.length + (wholeN v).length, 0) := by
    rw [e, ← List.append_assoc]
    exact getN_lay pre post (by omega)
  refine (readInt_c (h.sl.fr hd (fun i _ => by simp)) h.cap h.lt (by rw [e, List.length_append]; omega) (by have := h.len; omega)).use ?_
  rintro _ w1 ⟨rfl, hw1⟩
  rw [hw1, hg]
  refine ext0 (ext1 (ext2 (neq (if_f (by simp) ?_))))
  refine nilC (fad (store' h.blk.drew (by kernel_rfl) (by simp) rfl ?_))
  intro w2 hB2 hF2 _
  have hF : Fr [p] w w2 := (hd.mono (fun i hi => by simp at hi)).t hF2
  refine ⟨by rw [zag_zig], ⟨by rw [List.length_append]; simpa using hB2, h.sl.fr hF (fun i hi hm => h.ne (by simp at hm; subst hm; exact hi)), h.cap, h.ne, h.lt, h.len⟩, hF⟩
theorem rbytes_c {w : World} {p : Nat} {x : Value} {bs pre post q : List Nat} (h : Rk w p x bs pre.length) (e : bs = pre ++ (layN q.length ++ (q ++ post))) (hq : q.length ≤ 1048576) :
    CallF Try.prog 106 #[ptr p] w fun r w' => Rk w' p x bs (pre ++ (layN q.length ++ q)).length ∧ Fr [p] w w' ∧ Own w' 5 1 r q.length (bytes q) ∧ (∀ i ∈ fp r, w.heap.size ≤ i) := by
  refine C_keep_reader_bytes_link ?_
  unfold C_keep_reader_bytes
  have hd := Fr.drew [] w
  have hplt := h.blk.lt
  refine ⟨fun w' => Bk w' p 173 [x, .int .i64 pre.length, .bool false], h.blk.drew, ?_⟩
  refine nilC (fad (ldC_S (fun w' h => h) rfl (nilC (fad (ldC_S (fun w' h => h) rfl ?_)))))
  refine C_strip_ReadBytes_link ?_
  unfold C_strip_ReadBytes
  have hg : getN bs pre.length = (q.length, pre.length + (layN q.length).length, 0) := by
    rw [e, ← List.append_assoc]
    exact getN_lay pre (q ++ post) (by omega)
  have hbl : bs.length = pre.length + ((layN q.length).length + (q.length + post.length)) := by rw [e]; simp
  have hbl2 := h.len
  refine (read_c (h.sl.fr hd (fun i _ => by simp)) h.cap h.lt (by omega) (by omega)).use ?_
  rintro _ w1 ⟨rfl, hw1⟩
  rw [hw1, hg]
  dsimp only
  refine ext0 (ext1 (ext2 (neq (if_f (by simp) ?_))))
  refine gtr (if_p (fun h => absurd h (by omega)) (fun _ => ?_))
  have hsd := h.sl.fr hd (fun i _ => by simp)
  refine hsd.lenV (sub64 (by omega) ?_)
  have ew : IntKind.u64.wrap ((bs.length : Int) - ((pre.length + (layN q.length).length : Nat) : Int)) = (((bs.length - (pre.length + (layN q.length).length) : Nat)) : Int) := by
    rw [Go.IntWalk.u64_in _ (by omega)]; omega
  unfold ConvI
  simp only [ew]
  refine gtr (if_p (fun h => absurd h (by omega)) (fun _ => ?_))
  have eq : IntKind.i64.wrap (q.length : Int) = (q.length : Int) := Go.IntWalk.i64_in _ (by omega)
  simp only [eq]
  refine add64 (by omega) ?_
  rw [show ((pre.length + (layN q.length).length : Nat) : Int) + (q.length : Int) = ((pre.length + (layN q.length).length + q.length : Nat) : Int) by omega]
  refine blh hsd h.cap (by omega) (by omega) ?_
  intro x2 hs2 _ _
  have hcut : (bs.take (pre.length + (layN q.length).length + q.length)).drop (pre.length + (layN q.length).length) = q := by
    rw [e, ← List.append_assoc, ← List.append_assoc, List.take_append_of_le_length (by simp; omega), List.take_of_length_le (by simp; omega), ← List.length_append, List.drop_left]
  rw [hcut] at hs2
  refine row_append (row_nil _) hs2 (by simp; omega) ?_
  intro v3 w3 h3 _ _
  rw [List.nil_append] at h3
  refine ext0 (ext1 (ext2 (neq (if_f (by simp) ?_))))
  have hB3 := h.blk.drew.fr h3.fr (by simp)
  refine nilC (fad (store' hB3 (by kernel_rfl) (by simp) rfl ?_))
  intro w4 hB4 hF4 _
  have hs3 := h3.fr.size
  have hF : Fr [p] w w4 := ((hd.t h3.fr).mono (fun i hi => by simp at hi)).t hF4
  have hnew : ∀ i ∈ fp v3, w.heap.size ≤ i := fun i hi => h3.new i hi
  refine ⟨⟨?_, h.sl.fr hF (fun i hi hm => h.ne (by simp at hm; subst hm; exact hi)), h.cap, h.ne, h.lt, h.len⟩, hF, h3.own.fr hF4 (fun i hi hm => by have := hnew i hi; simp at hm; omega), hnew⟩
  rw [List.length_append, List.length_append, ← Nat.add_assoc]
  simpa using hB4
end Go.Proofs.Ytmlaconjeplhpaa

set_option linter.unusedVariables false
set_option linter.unusedSimpArgs false
set_option maxRecDepth 20000
namespace Go.Proofs.Ytmlaconjeplhpaa
open Go Go.Vc

structure KD where
  term : Int
  vote : Int
  base : Int
  bterm : Int
  snap : List Nat
  ents : List (Int × List Nat)
abbrev sEn : Shape (Int × List Nat) := sInt.seq sSl
abbrev sEns : Shape (List (Int × List Nat)) := sEn.list (by decide)
def entB (e : Int × List Nat) : List Nat := wholeN e.1 ++ (layN e.2.length ++ e.2)
def entsB (l : List (Int × List Nat)) : List Nat := l.flatMap entB
def packB (k : KD) : List Nat := wholes [k.term, k.vote, k.base, k.bterm] ++ (layN k.snap.length ++ k.snap) ++ wholeN k.ents.length ++ entsB k.ents
theorem entsB_snoc (l : List (Int × List Nat)) (e : Int × List Nat) : entsB (l ++ [e]) = entsB l ++ entB e := by simp [entsB]
theorem infoI : (Try.prog.info? 3).map (fun i => (i.zero, i.size, i.bytes)) = some (some (.int .i64 0), 1, 8) := by kernel_rfl
theorem entsB_pos (l : List (Int × List Nat)) : 2 * l.length ≤ (entsB l).length := by
  induction l with
  | nil => simp [entsB]
  | cons e l ih =>
    have h1 := (wholeN_length e.1).1
    have h2 := (layN_length e.2.length).1
    have e' : entsB (e :: l) = entB e ++ entsB l := by simp [entsB]
    rw [e', List.length_append, List.length_cons]
    unfold entB
    simp only [List.length_append]
    omega
theorem entsB_mem {l : List (Int × List Nat)} {e : Int × List Nat} (h : e ∈ l) : e.2.length ≤ (entsB l).length := by
  induction l with
  | nil => cases h
  | cons x l ih =>
    have e' : entsB (x :: l) = entB x ++ entsB l := by simp [entsB]
    rw [e', List.length_append]
    rcases List.mem_cons.1 h with rfl | h
    · unfold entB; simp only [List.length_append]; omega
    · have := ih h; omega
theorem entsB_take (l : List (Int × List Nat)) (j : Nat) : (entsB (l.take j)).length ≤ (entsB l).length := by
  have : entsB l = entsB (l.take j) ++ entsB (l.drop j) := by unfold entsB; rw [← List.flatMap_append, List.take_append_drop]
  rw [this, List.length_append]; omega
/-- A keep stands at pk. -/
structure Kp (w : World) (pk ps : Nat) (snapv entv : Value) (k : KD) (F1 F2 : List Nat) : Prop where
  blk : Bk w pk 137 [ptr ps, .int .i64 k.term, .int .i64 k.vote, .int .i64 k.base, .int .i64 k.bterm, snapv, entv]
  snp : sSl.rd w [snapv] k.snap F1
  ent : sEns.rd w [entv] k.ents F2
  i : I64 k.term ∧ I64 k.vote ∧ I64 k.base ∧ I64 k.bterm
theorem Kp.fresh {w w' : World} {pk ps : Nat} {snapv entv : Value} {k : KD} {F1 F2 : List Nat} (h : Kp w pk ps snapv entv k F1 F2) (f : Fr [] w w') : Kp w' pk ps snapv entv k F1 F2 :=
  ⟨h.blk.fr f (by simp), sSl.fr h.snp f (fun i _ => by simp), sEns.fr h.ent f (fun i _ => by simp), h.i⟩
/-- Whole numbers in a row of their own, for a call. -/
theorem litI {w : World} {k : Value → World → Prop} {n : Nat} {parts : Array (Nat × Value)} (l : List Int) (hp : parts = (((l.map (Value.int .i64)).zipIdx 0).map fun x => (x.2, x.1)).toArray) (hn : l.length = n) (hl : n ≤ 1000) (h : ∀ y w', Sl w' 1 y l.length (l.map (.int .i64)) → Fr [] w w' → (∀ i ∈ fp y, w.heap.size ≤ i) → k y w') : Do Try.prog (Instr.buildSlice 22 n parts) w k := by
  refine lit' (vs := l.map (.int .i64)) Try.underlying22 infoI rfl hp (by rw [List.length_map]; exact hn) (by omega) (fun v hv => by obtain ⟨_, _, rfl⟩ := List.mem_map.1 hv; rfl) ?_
  intro b w' hb hB hF hs
  subst hn
  exact h _ w' (hB.sl (by rw [List.length_map]) _) hF (fun i hi => by simp [fp_some] at hi; omega)
theorem pack_c {w : World} {pk ps : Nat} {snapv entv : Value} {k : KD} {F1 F2 : List Nat} (h : Kp w pk ps snapv entv k F1 F2) (hs : k.snap.length ≤ 1000000) (he : (entsB k.ents).length ≤ 10000000) (hei : ∀ e ∈ k.ents, I64 e.1) :
    CallF Try.prog 86 #[ptr pk] w fun r w' => Row w w' r (packB k) := by
  refine C_keep_Keep_pack_link ?_
  unfold C_keep_Keep_pack
  obtain ⟨i1, i2, i3, i4⟩ := h.i
  obtain ⟨hss, _⟩ := sSl_sl h.snp
  obtain ⟨cells, G, hcap, hsl, hrows, _⟩ := list_open h.ent
  have hcnt := entsB_pos k.ents
  have h0 := h.blk
  let S : World → Prop := fun w' => Bk w' pk 137 [ptr ps, .int .i64 k.term, .int .i64 k.vote, .int .i64 k.base, .int .i64 k.bterm, snapv, entv]
  have hS : ∀ {w'}, Fr [] w w' → S w' := fun f => h0.fr f (by simp)
  have hd := Fr.drew [] w
  refine ⟨S, hS hd, ?_⟩
  refine nilC (fad (ldC_S (fun w' h => h) rfl (nilC (fad (ldC_S (fun w' h => h) rfl (nilC (fad (ldC_S (fun w' h => h) rfl (nilC (fad (ldC_S (fun w' h => h) rfl ?_)))))))))))
  refine litI [k.term, k.vote, k.base, k.bterm] rfl rfl (by omega) ?_
  intro y1 w1 hy1 hF1 hn1
  have f1 := hd.t hF1
  refine (ints_c (w0 := w) (bs := []) (New.fresh (row_nil w) f1) hy1 (by intro x hx; simp at hx; rcases hx with rfl | rfl | rfl | rfl <;> assumption) (by simp) (by simp)).use ?_
  rintro b2 w2 ⟨h2, _⟩
  rw [List.nil_append] at h2
  have hw4 := wholes_length [k.term, k.vote, k.base, k.bterm]
  have hl1 := layN_length k.snap.length
  refine ⟨hS h2.fr, ?_⟩
  have hw4' : (wholes [k.term, k.vote, k.base, k.bterm]).length ≤ 36 := by simpa using hw4
  have hwe := (wholeN_length (k.ents.length : Int)).2
  obtain ⟨P, hP⟩ : ∃ P, wholes [k.term, k.vote, k.base, k.bterm] ++ (layN k.snap.length ++ k.snap) ++ wholeN k.ents.length = P := ⟨_, rfl⟩
  have hPl : P.length ≤ 2000000 := by rw [← hP]; simp only [List.length_append]; omega
  refine ⟨fun b w' => Row w w' b P, ?_, ?_⟩
  · intro b3 w3 h3
    refine nilC (fad (ldC_bk (hS h3.fr) rfl ((hsl.fr h3.fr (fun i _ => by simp)).lenV ?_)))
    refine ⟨fun m b t w' => ∃ j : Nat, j + m = k.ents.length ∧ t = .int .i64 j ∧ Row w w' b (P ++ entsB (k.ents.take j)), k.ents.length, ⟨0, by omega, rfl, by simpa [entsB] using h3⟩, ?_⟩
    rintro m b t w4 ⟨j, hj, rfl, h4⟩
    refine lss (if_p (fun hlt => ?_) (fun hge => ?_))
    · have hjl : j < k.ents.length := by omega
      refine ixN (hsl.fr h4.fr (fun i _ => by simp)) hjl ?_
      obtain ⟨Gj, hrd, _⟩ := rows_get sEn hrows j hjl
      have h2s : sEn.size = 2 := rfl
      rw [h2s] at hrd
      obtain ⟨_, _, _, _, hcs, _, ⟨rfl, rfl, _⟩, q, rfl, hqc, hqs, _⟩ := hrd
      have hcs' : List.take 2 (List.drop (j * 2) cells) = [.int .i64 k.ents[j].1, q] := hcs
      rw [hcs']
      have hei' := hei _ (List.getElem_mem hjl)
      have hm := entsB_mem (List.getElem_mem hjl)
      have ht := entsB_take k.ents j
      have hsn : entsB (k.ents.take (j + 1)) = entsB (k.ents.take j) ++ entB k.ents[j] := by rw [List.take_succ_eq_append_getElem hjl, entsB_snoc]
      generalize k.ents[j] = en at *
      refine alloc_n (n := 2) (by kernel_rfl) ?_
      intro be w5 l5 hl5 hb5 hB5 hF5 _
      refine store_all (n := 2) (vs := [.int .i64 en.1, q]) hB5 (by kernel_rfl) hl5 rfl (by omega) (fun v hv => by simp at hv; rcases hv with rfl | rfl; rfl; obtain ⟨A, c, hq⟩ := hqs; rw [hq.1]; rfl) ?_
      intro w6 hB6 hF6 _
      have f46 : Fr [] w4 w6 := hF5.trans hF6 (fun i hi => .inr (by simp at hi; omega))
      have h6 := (h4.fresh f46).fresh (Fr.drew [] w6)
      refine ⟨fun w' => Bk w' be 141 [.int .i64 en.1, q], hB6.drew, ?_⟩
      refine fad (ldC_S (fun w' h => h) rfl (fad (ldC_S (fun w' h => h) rfl ?_)))
      refine litI [en.1] rfl rfl (by omega) ?_
      intro y7 w7 hy7 hF7 hn7
      refine ⟨hB6.drew.fr hF7 (by simp), ?_⟩
      have h6lt := h6.own.lt
      refine (ints_c (h6.fresh hF7) hy7 (by intro x hx; simp at hx; subst hx; exact hei') (by rw [List.length_append]; omega) (by simp)).use ?_
      rintro b8 w8 ⟨h8, g8⟩
      have hw1 : wholes [en.1] = wholeN en.1 := by simp [wholes]
      rw [hw1] at h8
      have hwl := (wholeN_length en.1).2
      have hqw : Sl w 1 q en.2.length (bytes en.2) := hqs
      refine ⟨(hB6.drew.fr hF7 (by simp)).fr g8 (by simp), (layBytes_r h8 (hqw.fr h8.fr (fun i _ => by simp)) (by simp only [List.length_append]; omega) (by omega)).use ?_⟩
      rintro b9 w9 ⟨h9, g9⟩
      refine ⟨((hB6.drew.fr hF7 (by simp)).fr g8 (by simp)).fr g9 (by simp), add64 (by omega) ⟨m - 1, by omega, j + 1, by omega, by congr 1, ?_⟩⟩
      rw [hsn]
      have e9 : P ++ entsB (List.take j k.ents) ++ wholeN en.1 ++ (layN en.2.length ++ en.2) = P ++ (entsB (List.take j k.ents) ++ entB en) := by simp [entB]
      rw [e9] at h9
      exact h9
    · rw [List.take_of_length_le (by omega), ← hP] at h4
      exact h4
  · have hd2 := h2.fr.t (Fr.drew [] w2)
    have h2d := h2.fresh (Fr.drew [] w2)
    refine ⟨S, hS hd2, ?_⟩
    refine nilC (fad (ldC_S (fun w' h => h) rfl (nilC (fad (ldC_S (fun w' h => h) rfl ((hsl.fr hd2 (fun i _ => by simp)).lenV ?_))))))
    have hL : ∀ x ∈ [(k.ents.length : Int)], I64 x := by intro x hx; simp at hx; subst hx; unfold I64; omega
    have hw1 : wholes [(k.ents.length : Int)] = wholeN (k.ents.length : Int) := by simp [wholes]
    refine ⟨?_, ?_⟩
    · refine (layBytes_r h2d (hss.fr hd2 (fun i _ => by simp)) (by omega) (by omega)).use ?_
      rintro b3 w3 ⟨h3, _⟩
      refine ⟨hS h3.fr, litI [(k.ents.length : Int)] rfl rfl (by omega) ?_⟩
      intro y4 w4 hy4 hF4 hn4
      have h4 := h3.fresh hF4
      have h3lt := h3.own.lt
      refine ⟨hS h4.fr, (ints_c h4 hy4 hL (by simp only [List.length_append]; omega) (by simp)).use ?_⟩
      rintro b5 w5 ⟨h5, _⟩
      rw [hw1, hP] at h5
      exact ⟨hS h5.fr, h5⟩
    · refine litI [(k.ents.length : Int)] rfl rfl (by omega) ?_
      intro y3 w3 hy3 hF3 hn3
      have h3 := h2d.fresh hF3
      refine ⟨hS h3.fr, (layBytes_r h3 (hss.fr h3.fr (fun i _ => by simp)) (by omega) (by omega)).use ?_⟩
      rintro b4 w4 ⟨h4, g4⟩
      have hlt3 := h3.own.lt
      have h4lt := h4.own.lt
      refine ⟨hS h4.fr, (ints_c h4 (hy3.fr g4 (fun i _ => by simp)) hL (by simp only [List.length_append]; omega) (by simp)).use ?_⟩
      rintro b5 w5 ⟨h5, _⟩
      rw [hw1, hP] at h5
      exact ⟨hS h5.fr, h5⟩
end Go.Proofs.Ytmlaconjeplhpaa

set_option linter.unusedVariables false
set_option linter.unusedSimpArgs false
set_option maxRecDepth 20000
namespace Go.Proofs.Ytmlaconjeplhpaa
open Go Go.Vc

theorem infoE : (Try.prog.info? 141).map (fun i => (i.zero, i.size, i.bytes)) = some (some (.agg #[.int .i64 0, .slice none 0 0]), 2, 32) := by kernel_rfl
theorem bldE {t : Int} {q : Value} {k : Value → Prop} (hq : ∃ A n c, q = .slice A n c) (h : k (.agg (List.toArray [.int .i64 t, q]))) : Bld Try.prog 141 [(0, .int .i64 t), (1, q)] k := by
  obtain ⟨A, n, c, rfl⟩ := hq
  exact bldV (vals := [.int .i64 t, .slice A n c]) [1, 1] (by kernel_rfl) (n := 2) (by kernel_rfl) rfl (by kernel_rfl) rfl rfl h
theorem bldR {x : Value} {k : Value → Prop} (hq : ∃ A n c, x = .slice A n c) (h : k (.agg (List.toArray [x, .int .i64 0, .bool false]))) : Bld Try.prog 173 [(0, x)] k := by
  obtain ⟨A, n, c, rfl⟩ := hq
  exact ⟨[.slice A n c, .int .i64 0, .bool false], by kernel_rfl, by kernel_rfl, h⟩
theorem Ga.push_1 {α : Type} {S : Shape α} {T : TypeId} {B : Nat} {w : World} {v : Value} {l : List α} {LT : TypeId} {z u : Value} {bytes : Nat} {a : α} {cs : List Value} {F : List Nat} {S1 : World → Prop} {k : Value → World → Prop} (g : Ga S T B w v l) (hS0 : 0 < S.size) (hS1 : S.size ≤ 1000) (hb1 : bytes ≤ 1000) (hl : l.length ≤ 100000000) (hB : B ≤ w.heap.size)
    (ht : Try.prog.underlying LT = some (.slice T)) (hinf : (Try.prog.info? T).map (fun i => (i.zero, i.size, i.bytes)) = some (some z, S.size, bytes)) (hz : z.cells.size = S.size)
    (ha : S.rd w cs a F) (hF : ∀ i ∈ F, B ≤ i ∧ i ∉ fp v) (hu : u.cells.toList = cs) (hc : ∀ w', Fr (fp v) w w' → S1 w') (hk : ∀ v' w', Ga S T B w' v' (l ++ [a]) → Fr (fp v) w w' → k v' w') :
    Do Try.prog (Instr.buildSlice LT 1 #[(0, u)]) w fun t13 w11 => S1 w11 ∧ Do Try.prog (Builtin.append_ #[LT, LT] LT #[v, t13]) w11 k := by
  obtain ⟨v1, w1, h1, h2, v2, w2, h3, _, h4⟩ := Ga.push_S (S1 := S1) (S2 := fun _ => True) (k := k) g hS0 hS1 hb1 hl hB ht hinf hz ha hF hu (fun w' f => ⟨hc w' f, trivial⟩) hk
  exact ⟨v1, w1, h1, h2, v2, w2, h3, h4⟩
abbrev GaE := Ga sEn 141
theorem unpack_c {w : World} {pk ps : Nat} {x : Value} {k : KD} {a b c d : Int} (hB : Bk w pk 137 [ptr ps, .int .i64 a, .int .i64 b, .int .i64 c, .int .i64 d, .slice none 0 0, .slice none 0 0]) (hx : Sl w 1 x (packB k).length (bytes (packB k))) (hcx : capOk x) (hpx : pk ∉ fp x) (hxl : ∀ i ∈ fp x, i < w.heap.size)
    (hi : I64 k.term ∧ I64 k.vote ∧ I64 k.base ∧ I64 k.bterm) (hsl : k.snap.length ≤ 1000000) (hsb : ∀ c ∈ k.snap, c < 256) (hlen : (packB k).length ≤ 10000000) (he : ∀ e ∈ k.ents, I64 e.1 ∧ e.2.length ≤ 1000000 ∧ ∀ c ∈ e.2, c < 256) :
    CallF Try.prog 79 #[ptr pk, x] w fun r w' => r = .bool true ∧ ∃ sv ev, Bk w' pk 137 [ptr ps, .int .i64 k.term, .int .i64 k.vote, .int .i64 k.base, .int .i64 k.bterm, sv, ev] ∧
      Own w' 5 1 sv k.snap.length (bytes k.snap) ∧ (∀ i ∈ fp sv, w.heap.size ≤ i) ∧ (∃ B, w.heap.size ≤ B ∧ (∀ i ∈ fp sv, i < B) ∧ GaE B w' ev k.ents) ∧ Fr [pk] w w' := by
  refine C_keep_Keep_unpack_link ?_
  unfold C_keep_Keep_unpack
  obtain ⟨i1, i2, i3, i4⟩ := hi
  have hpk := hB.lt
  have hbs : packB k = wholeN k.term ++ (wholeN k.vote ++ (wholeN k.base ++ (wholeN k.bterm ++ ((layN k.snap.length ++ (k.snap ++ (wholeN k.ents.length ++ entsB k.ents))))))) := by simp [packB, wholes]
  have hlt : ∀ b ∈ packB k, b < 256 := by
    rw [hbs]
    intro b hb
    simp only [List.mem_append] at hb
    rcases hb with h | h | h | h | h | h | h | h
    · exact wholeN_lt _ b h
    · exact wholeN_lt _ b h
    · exact wholeN_lt _ b h
    · exact wholeN_lt _ b h
    · exact layN_lt _ b h
    · exact hsb b h
    · exact wholeN_lt _ b h
    · obtain ⟨e, he', hb⟩ := List.mem_flatMap.1 h
      unfold entB at hb
      simp only [List.mem_append] at hb
      rcases hb with h | h | h
      · exact wholeN_lt _ b h
      · exact layN_lt _ b h
      · exact (he e he').2.2 b h
  obtain ⟨bs, hbse⟩ : ∃ bs, packB k = bs := ⟨_, rfl⟩
  rw [hbse] at hx hbs hlt hlen
  refine bldR (by obtain ⟨A, c, e, _⟩ := hx; exact ⟨A, _, c, e⟩) ?_
  refine box' (l := [x, .int .i64 0, .bool false]) rfl ?_
  intro p w1 hp hB1 hF1 hs1
  have r0 : Rk w1 p x bs ([] : List Nat).length := ⟨hB1, hx.fr hF1 (fun i _ => by simp), hcx, fun hm => by have := hxl p hm; omega, hlt, by omega⟩
  refine (rint_c (pre := []) r0 (by rw [hbs]; rfl) i1).use ?_
  rintro _ w2 ⟨rfl, r2, hF2⟩
  refine (rint_c r2 (post := wholeN k.base ++ (wholeN k.bterm ++ ((layN k.snap.length ++ (k.snap ++ (wholeN k.ents.length ++ entsB k.ents)))))) (by rw [hbs]; simp) i2).use ?_
  rintro _ w3 ⟨rfl, r3, hF3⟩
  refine (rint_c r3 (post := wholeN k.bterm ++ ((layN k.snap.length ++ (k.snap ++ (wholeN k.ents.length ++ entsB k.ents))))) (by rw [hbs]; simp) i3).use ?_
  rintro _ w4 ⟨rfl, r4, hF4⟩
  refine (rint_c r4 (post := (layN k.snap.length ++ (k.snap ++ (wholeN k.ents.length ++ entsB k.ents)))) (by rw [hbs]; simp) i4).use ?_
  rintro _ w5 ⟨rfl, r5, hF5⟩
  have g5 : Fr [p] w1 w5 := ((hF2.t hF3).t hF4).t hF5
  have hB5 := (hB.fr hF1 (by simp)).fr g5 (by simp; omega)
  refine nilC (fad (store' hB5 (by kernel_rfl) (by simp) rfl ?_))
  intro w6 hB6 hF6 _
  refine nilC (fad (store' hB6 (by kernel_rfl) (by simp) rfl ?_))
  intro w7 hB7 hF7 _
  refine nilC (fad (store' hB7 (by kernel_rfl) (by simp) rfl ?_))
  intro w8 hB8 hF8 _
  refine nilC (fad (store' hB8 (by kernel_rfl) (by simp) rfl ?_))
  intro w9 hB9 hF9 _
  have g9 : Fr [pk] w5 w9 := ((hF6.t hF7).t hF8).t hF9
  have rfr : ∀ {w w' : World} {n : Nat} {X : List Nat}, Rk w p x bs n → Fr X w w' → p ∉ X → (∀ i ∈ fp x, i ∉ X) → Rk w' p x bs n := fun r f h1 h2 => ⟨r.blk.fr f h1, r.sl.fr f h2, r.cap, r.ne, r.lt, r.len⟩
  have hxpk : ∀ i ∈ fp x, i ∉ [pk] := fun i hi hm => hpx (by simp at hm; subst hm; exact hi)
  have r9 := rfr r5 g9 (by simp; omega) hxpk
  refine (rbytes_c r9 (q := k.snap) (post := wholeN k.ents.length ++ entsB k.ents) (by rw [hbs]; simp) (by omega)).use ?_
  rintro sv w10 ⟨r10, hF10, hsv10, hsvn⟩
  have z1 := hF1.size
  have z5 := g5.size
  have z9 := g9.size
  have z10 := hF10.size
  have hsvo : sv.oneCell' = true := by obtain ⟨A, c, rfl⟩ := hsv10.len; rfl
  have hB10 := hB9.fr hF10 (by simp; omega)
  refine nilC (fad (store' hB10 (by kernel_rfl) (by simp) hsvo ?_))
  intro w11 hB11 hF11 hs11
  have r11 := rfr r10 hF11 (by simp; omega) hxpk
  have hsv11 := hsv10.fr hF11 (fun i hi hm => by have := hsvn i hi; simp at hm; omega)
  have hcnt := entsB_pos k.ents
  have hle : (entsB k.ents).length ≤ 10000000 := by have := congrArg List.length hbs; simp only [List.length_append] at this; omega
  refine (rint_c r11 (v := k.ents.length) (post := entsB k.ents) (by rw [hbs]; simp) (by unfold I64; omega)).use ?_
  rintro _ w12 ⟨rfl, r12, hF12⟩
  have z12 := hF12.size
  have hB12 := hB11.fr hF12 (by simp; omega)
  have hsv12 := hsv11.fr hF12 (fun i hi hm => by have := hsvn i hi; simp at hm; omega)
  have hsvlt := hsv12.lt
  obtain ⟨P, hP⟩ : ∃ P, (([] : List Nat) ++ wholeN k.term ++ wholeN k.vote ++ wholeN k.base ++ wholeN k.bterm ++ (layN k.snap.length ++ k.snap) ++ wholeN (k.ents.length : Int)) = P := ⟨_, rfl⟩
  have hbP : bs = P ++ entsB k.ents := by rw [hbs, ← hP]; simp
  rw [hP] at r12
  have g12 : Fr [pk] w w12 := by
    have a1 : Fr [pk] w w5 := (hF1.mono (fun i hi => by simp at hi)).trans g5 (fun i hi => .inr (by simp at hi; omega))
    have a2 : Fr [pk] w w10 := (a1.t g9).trans hF10 (fun i hi => .inr (by simp at hi; omega))
    exact (a2.t hF11).trans hF12 (fun i hi => .inr (by simp at hi; omega))
  have hpw : w.heap.size ≤ p := by omega
  have hplt : p < w12.heap.size := r12.blk.lt
  have hxl12 : ∀ i ∈ fp x, i < w12.heap.size := fun i hi => by have := hxl i hi; have := g12.size; omega
  refine ⟨fun m t w' => ∃ (j : Nat) (ev : Value), j + m = k.ents.length ∧ t = .int .i64 (m : Int) ∧ Rk w' p x bs (P ++ entsB (k.ents.take j)).length ∧ GaE w12.heap.size w' ev (k.ents.take j) ∧ Bk w' pk 137 [ptr ps, .int .i64 k.term, .int .i64 k.vote, .int .i64 k.base, .int .i64 k.bterm, sv, ev] ∧ Fr [pk, p] w12 w', k.ents.length, ⟨0, .slice none 0 0, by omega, rfl, by simpa [entsB] using r12, Ga.nil _ _ _ _, by simpa using hB12, Fr.refl _ _⟩, ?_⟩
  rintro m t w13 ⟨j, ev, hj, rfl, r13, ga13, hB13, hF13⟩
  have z13 := hF13.size
  refine gtr ?_
  by_cases hm : 0 < m
  · have ht : isB (.bool (decide ((0 : Int) < (m : Int)))) true = true := by simp [isB]; omega
    refine gdT ht rfl (gdT ht (nilC rfl) (gdT ht (fad rfl) (gdT ht (ldC_bk r13.blk rfl rfl) (gdT ht (notB rfl) (pick_t (by simp; omega) (if_t rfl ?_))))))
    have hjl : j < k.ents.length := by omega
    have hd := Fr.drew [] w13
    refine ⟨fun w' => Bk w' pk 137 [ptr ps, .int .i64 k.term, .int .i64 k.vote, .int .i64 k.base, .int .i64 k.bterm, sv, ev], hB13.drew, ?_⟩
    refine nilC (fad (ldC_S (fun w' h => h) rfl ?_))
    obtain ⟨he1, he2, he3⟩ := he _ (List.getElem_mem hjl)
    have hsplit : bs = (P ++ entsB (k.ents.take j)) ++ (wholeN k.ents[j].1 ++ (layN k.ents[j].2.length ++ (k.ents[j].2 ++ entsB (k.ents.drop (j + 1))))) := by
      have e1 : entsB k.ents = entsB (k.ents.take j) ++ (entB k.ents[j] ++ entsB (k.ents.drop (j + 1))) := by
        calc entsB k.ents = entsB (k.ents.take j ++ k.ents.drop j) := by rw [List.take_append_drop]
          _ = _ := by rw [List.drop_eq_getElem_cons hjl]; simp only [entsB, List.flatMap_append, List.flatMap_cons]
      rw [hbP, e1]; simp [entB]
    have htk : k.ents.take (j + 1) = k.ents.take j ++ [k.ents[j]] := List.take_succ_eq_append_getElem hjl
    have hpos : P ++ entsB (k.ents.take (j + 1)) = P ++ entsB (k.ents.take j) ++ wholeN k.ents[j].1 ++ (layN k.ents[j].2.length ++ k.ents[j].2) := by
      rw [htk, entsB_snoc]; simp [entB]
    refine (rint_c (rfr r13 hd (by simp) (fun i _ => by simp)) hsplit he1).use ?_
    rintro _ w14 ⟨rfl, r14, hF14⟩
    refine ⟨(hB13.drew).fr hF14 (by simp; omega), ?_⟩
    refine (rbytes_c r14 (q := k.ents[j].2) (post := entsB (k.ents.drop (j + 1))) (by rw [hsplit]; simp) (by omega)).use ?_
    rintro q w15 ⟨r15, hF15, hq15, hqn⟩
    have hB15 := ((hB13.drew).fr hF14 (by simp; omega)).fr hF15 (by simp; omega)
    refine ⟨hB15, bldE (by obtain ⟨A, c, e⟩ := hq15.len; exact ⟨A, _, c, e⟩) ?_⟩
    have f1315 : Fr [p] w13 w15 := (hd.mono (fun i hi => by simp at hi)).t (hF14.t hF15)
    have ga15 := ga13.fr f1315 (by simp; omega)
    have z14 := hF14.size
    have z15 := f1315.size
    have hevlt := ga13.lt
    have hlow := ga15.low
    obtain ⟨Fq, hrq, hFq⟩ := own_sl hq15
    refine ga15.push_1 (S := sEn) (u := .agg (List.toArray [.int .i64 k.ents[j].1, q])) (a := k.ents[j]) (z := .agg #[.int .i64 0, .slice none 0 0]) (bytes := 32) (cs := [.int .i64 k.ents[j].1, q]) (F := [] ++ Fq) (by decide) (by decide) (by decide) (by rw [List.length_take]; omega) (by omega) Try.underlying135 infoE rfl
      ⟨[.int .i64 k.ents[j].1], [q], [], Fq, rfl, rfl, ⟨rfl, rfl, he1⟩, hrq⟩ (fun i hi => by
        have h1 := hqn i (hFq i (by simpa using hi))
        have h2 : w13.heap.size ≤ w14.heap.size := by have := hF14.size; exact this
        exact ⟨by omega, fun hm => by have := hevlt i hm; omega⟩) rfl (fun w' f => hB15.fr f (fun hm => by have := hlow _ hm; have := hB12.lt; omega)) ?_
    intro ev2 w16 ga16 hF16
    have hpn : ∀ i ∈ fp ev, w12.heap.size ≤ i := hlow
    have hB16 := hB15.fr hF16 (fun hm => by have := hlow _ hm; have := hB12.lt; omega)
    refine nilC (fad (store' hB16 (by kernel_rfl) (by simp) ga16.one ?_))
    intro w17 hB17 hF17 _
    have r17 := rfr (rfr r15 hF16 (fun hm => by have := hpn _ hm; omega) (fun i hi hm => by have := hpn _ hm; have := hxl12 i hi; omega)) hF17 (by simp; omega) hxpk
    refine sub64 (by omega) ⟨m - 1, by omega, j + 1, ev2, by omega, by congr 1; omega, by rw [hpos]; exact r17, by rw [htk]; exact ga16.fr hF17 (by have := hB12.lt; simp; omega), by simpa using hB17, ?_⟩
    refine ((hF13.trans f1315 (fun i hi => .inl (by simp at hi; simp [hi]))).trans hF16 (fun i hi => .inr (hpn i hi))).trans hF17 (fun i hi => .inl (by simp at hi; simp [hi]))
  · obtain rfl : m = 0 := by omega
    obtain rfl : j = k.ents.length := by omega
    have hf : isB (.bool (decide ((0 : Int) < ((0 : Nat) : Int)))) true = false := rfl
    refine gdF hf (gdF hf (gdF hf (gdF hf (gdF hf (pick_f rfl (if_f rfl ?_))))))
    refine nilC (fad (ldC_bk r13.blk rfl (notB ?_)))
    rw [List.take_length, ← hbP] at r13
    rw [List.take_length] at ga13
    refine gdT (by simp [isB]) rfl (gdT (by simp [isB]) (nilC rfl) (gdT (by simp [isB]) (fad rfl) (gdT (by simp [isB]) (ldC_bk r13.blk rfl rfl) (gdT (by simp [isB]) rfl (gdT (by simp [isB]) (r13.sl.lenV rfl) (gdT (by simp [isB]) (eql rfl) (pick_t rfl ?_)))))))
    refine ⟨by simp, sv, ev, hB13, hsv12.fr hF13 (fun i hi hm => by have := hsvn i hi; simp at hm; omega), fun i hi => by have := hsvn i hi; omega, ⟨w12.heap.size, by have := g12.size; omega, hsvlt, ga13⟩, ?_⟩
    exact g12.trans hF13 (fun i hi => by simp at hi; rcases hi with h | h; exact .inl (by simp [h]); exact .inr (by omega))
end Go.Proofs.Ytmlaconjeplhpaa

set_option linter.unusedVariables false
set_option linter.unusedSimpArgs false
set_option maxRecDepth 20000
namespace Go.Proofs.Ytmlaconjeplhpaa
open Go Go.Vc

/-- v[:n:n]. -/
theorem slc3 {w : World} {size n m : Nat} {v : Value} {cells : List Value} {κ κ' : IntKind} {k : Value → Prop} (hs : Sl w size v n cells) (hc : capOk v) (hl : m ≤ n)
    (h : ∀ A, Sl w size (.slice A m m) m (cells.take (m * size)) → (∀ i ∈ fp (.slice A m m), i ∈ fp v) → k (.slice A m m)) : SlcS size v none (some (.int κ m)) (some (.int κ' m)) k := by
  obtain ⟨A, c, rfl, hl', hn, hcc⟩ := hs
  have hc' : n ≤ c := hc
  have hX : (bif Nat.beq m 0 then A else A.map (·.add (0 * size))) = A := by
    have hA : A.map (·.add (0 * size)) = A := by cases A with
      | none => rfl
      | some a => simp [Addr.add_zero']
    cases Nat.beq m 0
    · exact hA
    · rfl
  have hm' : m * size ≤ n * size := Nat.mul_le_mul_right _ hl
  refine ⟨fun _ => ⟨by omega, by omega⟩, fun _ => ⟨by omega, by omega⟩, by simp, ?_⟩
  simp only [Int.toNat_natCast, Int.toNat_zero, Nat.sub_zero]
  have := h A ⟨A, m, rfl, by rw [List.length_take]; omega, fun e => ⟨by have := (hn e).1; omega, by have := (hn e).1; omega⟩, fun a ha j u hj => hcc a ha j u (by rw [List.getElem?_take] at hj; split at hj; exact hj; cases hj)⟩ (fun i hi => by
    cases A with
    | none => simp [fp_nil] at hi
    | some a => simpa [fp_some] using hi)
  rw [hX]
  exact this
/-- What is put behind a slice that is full stands in new memory. -/
theorem append_full {w : World} {t e ty : TypeId} {z : Value} {size bytes n m : Nat} {A : Option Addr} {x : Value} {l news : List Value} {k : Value → World → Prop} (ht : Try.prog.underlying t = some (.slice e)) (hi : (Try.prog.info? e).map (fun i => (i.zero, i.size, i.bytes)) = some (some z, size, bytes)) (hzs : z.cells.size = size) (hsz : 0 < size)
    (hv : Sl w size (.slice A n n) n l) (hx : Sl w size x m news) (h1 : ∀ u ∈ news, u.oneCell' = true) (hm : 0 < m) (hb : (n + m) * bytes ≤ 140737488355328) (h63 : n + m ≤ 140737488355328)
    (h : ∀ v' w', New w w' e size v' (n + m) (l ++ news) → k v' w') : Do Try.prog (Builtin.append_ #[t, t] ty #[.slice A n n, x]) w k := by
  obtain ⟨A', c', e1, hl, hn, hc⟩ := hv
  obtain ⟨rfl, rfl⟩ : A = A' ∧ n = c' := by simpa using e1
  cases A with
  | none =>
    obtain ⟨rfl, _⟩ := hn rfl
    have hl0 : l = [] := List.eq_nil_of_length_eq_zero (by simpa using hl)
    subst hl0
    exact append' (New.nil w e size) ht hi hzs hsz hx h1 hb h63 (fun v' w' hN _ _ => h v' w' hN)
  | some a =>
    obtain ⟨A2, c2, rfl, hl2, hn2, hc2⟩ := hx
    cases A2 with
    | none => have := (hn2 rfl).1; omega
    | some b =>
      obtain ⟨i, hi', hz, hs', hby⟩ := info_of hi
      obtain ⟨v', w', hrun, ho, hg⟩ := run_append_arg_grows (P := Try.prog) w t ty e i z size bytes ht hi' hz hs' hby hzs hsz a n n l hl (hc a rfl) b m c2 news hl2 (hc2 b rfl) (by omega) (by unfold maxLen; omega) hb
      refine ⟨v', w', hrun, h v' w' ⟨⟨ho.1, ho.2.imp id ?_⟩, Fr.of_grownBy hg, ?_⟩⟩
      · rintro ⟨g, cap, cur, h1, h2, h3⟩
        exact ⟨g, cap, cur, h1, Nat.zero_le _, h3⟩
      · intro i hi
        rcases ho.2 with ⟨rfl, h0⟩ | ⟨g, cap, cur, rfl, h2, _⟩
        · simp [fp_nil] at hi
        · simp [fp_some] at hi
          subst hi
          exact h2
theorem und57 : Try.prog.underlying 57 = some (.pointer (Try.prog.pointee 57)) := by kernel_rfl
theorem last_c {w : World} {pk ps : Nat} {sv ev : Value} {a b c d : Int} {l : List Value} {n size : Nat} (hB : Bk w pk 137 [ptr ps, .int .i64 a, .int .i64 b, .int .i64 c, .int .i64 d, sv, ev]) (he : Sl w size ev n l) (hc : -1152921504606846976 ≤ c ∧ c ≤ 1152921504606846976) (hn : n ≤ 1000000000) :
    CallF Try.prog 44 #[ptr pk] w fun r w' => r = .int .i64 (c + n) ∧ w' = w.drew := by
  refine C_keep_Keep_Last_link ?_
  unfold C_keep_Keep_Last
  refine ptr_eql und57 (if_f rfl ?_)
  refine ⟨fun w' => Bk w' pk 137 [ptr ps, .int .i64 a, .int .i64 b, .int .i64 c, .int .i64 d, sv, ev], hB.drew, ?_⟩
  refine nilC (fad (ldC_S (fun w' h => h) rfl (nilC (fad (ldC_S (fun w' h => h) rfl (he.lenV (add64 (by omega) ⟨rfl, rfl⟩)))))))
end Go.Proofs.Ytmlaconjeplhpaa
