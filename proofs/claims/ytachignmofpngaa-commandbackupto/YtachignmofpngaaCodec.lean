/- Numbers, and things made of numbers, as bytes: how they are written and read, in plain Lean, and that reading undoes writing. -/
import Derived.Test.YtachignmofpngaaStripB
set_option linter.unusedVariables false
set_option linter.unusedSimpArgs false
namespace Go.Proofs.Ytachignmofpngaa
open Go Go.Vc

/-! ### One number -/
/-- The number that digits to base 256 tell, the highest first. -/
def far (l : List Nat) : Nat := l.foldl (fun x c => x * 256 + c) 0
theorem far_snoc (l : List Nat) (c : Nat) : far (l ++ [c]) = far l * 256 + c := by simp [far]
theorem far_lt : ∀ (k : Nat) (l : List Nat), l.length = k → (∀ x ∈ l, x < 256) → far l < 256 ^ k
  | 0, l, hl, h => by rw [List.eq_nil_of_length_eq_zero hl]; simp [far]
  | k + 1, l, hl, h => by
    obtain ⟨l', c, rfl⟩ : ∃ l' c, l = l' ++ [c] := ⟨l.dropLast, l.getLast (by intro e; rw [e] at hl; simp at hl), (List.dropLast_concat_getLast _).symm⟩
    have h1 := far_lt k l' (by simpa using hl) (fun x hx => h x (by simp [hx]))
    have h2 := h c (by simp)
    rw [far_snoc, Nat.pow_succ]
    omega
theorem digs_succ (k y : Nat) : digs (k + 1) y = digs k (y / 256) ++ [y % 256] := by
  unfold digs
  rw [List.range_succ, List.map_append]
  congr 1
  · apply List.map_congr_left
    intro i hi
    have hi := List.mem_range.1 hi
    rw [Nat.div_div_eq_div_mul, ← Nat.pow_succ']
    congr 3
    omega
  · simp
theorem far_digs : ∀ (k y : Nat), y < 256 ^ k → far (digs k y) = y
  | 0, y, h => by simp at h; subst h; rfl
  | k + 1, y, h => by
    rw [digs_succ, far_snoc, far_digs k (y / 256) (by rw [Nat.pow_succ] at h; omega)]
    omega
theorem digs_far : ∀ (k : Nat) (l : List Nat), l.length = k → (∀ x ∈ l, x < 256) → digs k (far l) = l
  | 0, l, hl, h => by rw [List.eq_nil_of_length_eq_zero hl]; rfl
  | k + 1, l, hl, h => by
    obtain ⟨l', c, rfl⟩ : ∃ l' c, l = l' ++ [c] := ⟨l.dropLast, l.getLast (by intro e; rw [e] at hl; simp at hl), (List.dropLast_concat_getLast _).symm⟩
    have h2 := h c (by simp)
    rw [digs_succ, far_snoc, show (far l' * 256 + c) / 256 = far l' by omega, show (far l' * 256 + c) % 256 = c by omega, digs_far k l' (by simpa using hl) (fun x hx => h x (by simp [hx]))]
theorem digs_length (k y : Nat) : (digs k y).length = k := by simp [digs]
theorem digs_lt (k y : Nat) : ∀ x ∈ digs k y, x < 256 := by
  intro x hx
  simp only [digs, List.mem_map] at hx
  obtain ⟨i, _, rfl⟩ := hx
  omega
theorem layN_lt (x : Nat) : ∀ b ∈ layN x, b < 256 := by
  intro b hb
  have hk := kOf_range x
  unfold layN at hb
  split at hb
  · simp at hb; omega
  · rcases List.mem_cons.1 hb with h | h
    · omega
    · exact digs_lt _ _ b h

/-- What stands at place p of bs, the place behind it or that of a fault, and the error. -/
def getN (bs : List Nat) (p : Nat) : Nat × Nat × Int :=
  if p < bs.length then
    if bs.getD p 0 < 192 then (bs.getD p 0, p + 1, 0)
    else if 199 < bs.getD p 0 then (0, p, 4)
    else if bs.length - p - 1 < bs.getD p 0 - 191 then (0, bs.length, 5)
    else if 18446744073709551616 ≤ shelfN (bs.getD p 0 - 191) + far ((bs.drop (p + 1)).take (bs.getD p 0 - 191)) then (0, p, 4)
    else (shelfN (bs.getD p 0 - 191) + far ((bs.drop (p + 1)).take (bs.getD p 0 - 191)), p + 1 + (bs.getD p 0 - 191), 0)
  else (0, p, 5)

theorem shelf_step {k : Nat} (h : 1 ≤ k) : shelfN (k + 1) = shelfN k + 256 ^ k := by
  have : k ≠ 0 := by omega
  simp [shelfN, this]
theorem tail_lt {x : Nat} (hx : x < 18446744073709551616) (h : 192 ≤ x) : shelfN (kOf x) ≤ x ∧ x - shelfN (kOf x) < 256 ^ kOf x := by
  obtain ⟨h1, h2, h3, h4⟩ := isK_kOf x
  have h5 : shelfN (kOf x) ≤ x := by
    rcases h3 with h3 | h3
    · rw [h3, shelf_nums.1]; exact h
    · exact h3
  refine ⟨h5, ?_⟩
  rcases h4 with h4 | h4
  · rw [h4]; have : (256 : Nat) ^ 8 = 18446744073709551616 := by decide
    rw [this]; omega
  · rw [shelf_step h1] at h4; omega

theorem trip {a a' b b' : Nat} {c : Int} (h1 : a = a') (h2 : b = b') : (a, b, c) = (a', b', c) := by rw [h1, h2]
theorem getN_at (pre rest : List Nat) (h : Nat) : getN (pre ++ h :: rest) pre.length =
    if h < 192 then (h, pre.length + 1, 0)
    else if 199 < h then (0, pre.length, 4)
    else if rest.length < h - 191 then (0, pre.length + 1 + rest.length, 5)
    else if 18446744073709551616 ≤ shelfN (h - 191) + far (rest.take (h - 191)) then (0, pre.length, 4)
    else (shelfN (h - 191) + far (rest.take (h - 191)), pre.length + 1 + (h - 191), 0) := by
  have e1 : (pre ++ h :: rest).getD pre.length 0 = h := by simp
  have e2 : (pre ++ h :: rest).drop (pre.length + 1) = rest := by
    rw [show pre ++ h :: rest = (pre ++ [h]) ++ rest by simp, show pre.length + 1 = (pre ++ [h]).length by simp, List.drop_left]
  have e3 : (pre ++ h :: rest).length = pre.length + 1 + rest.length := by simp; omega
  unfold getN
  rw [e1, e2, e3, if_pos (by omega), show pre.length + 1 + rest.length - pre.length - 1 = rest.length by omega]
theorem getN_lay (pre post : List Nat) {x : Nat} (hx : x < 18446744073709551616) : getN (pre ++ layN x ++ post) pre.length = (x, pre.length + (layN x).length, 0) := by
  by_cases h : x < 192
  · have e : layN x = [x] := by simp [layN, h]
    rw [e, List.append_assoc, List.singleton_append, getN_at, if_pos h]
    rfl
  · have e : layN x = (191 + kOf x) :: digs (kOf x) (x - shelfN (kOf x)) := by simp [layN, h]
    obtain ⟨h1, h2⟩ := tail_lt hx (by omega)
    have hk := kOf_range x
    have hd := digs_length (kOf x) (x - shelfN (kOf x))
    have hf := far_digs _ _ h2
    rw [e, List.append_assoc, List.cons_append, getN_at]
    generalize hK : kOf x = K at *
    clear hK e
    generalize hD : digs K (x - shelfN K) = D at *
    clear hD
    rw [show 191 + K - 191 = D.length by omega, List.take_left, if_neg (by omega), if_neg (by omega), if_neg (by simp), hf, hd, if_neg (by omega)]
    exact trip (by omega) (by simp only [List.length_cons]; omega)
theorem getN_cut (pre : List Nat) {x c : Nat} (hc : c < (layN x).length) : getN (pre ++ (layN x).take c) pre.length = (0, pre.length + c, 5) := by
  cases c with
  | zero => unfold getN; rw [if_neg (by simp)]; rfl
  | succ c =>
    by_cases h : x < 192
    · have e : layN x = [x] := by simp [layN, h]
      rw [e] at hc; simp at hc
    · have e : layN x = (191 + kOf x) :: digs (kOf x) (x - shelfN (kOf x)) := by simp [layN, h]
      have hk := kOf_range x
      have hd := digs_length (kOf x) (x - shelfN (kOf x))
      rw [e] at hc ⊢
      simp only [List.length_cons, hd] at hc
      rw [List.take_succ_cons, getN_at, if_neg (by omega), if_neg (by omega), List.length_take, hd, if_pos (by omega)]
      exact trip rfl (by omega)
theorem getN_back {bs : List Nat} (hb : ∀ b ∈ bs, b < 256) {p x n : Nat} (h : getN bs p = (x, n, 0)) : x < 18446744073709551616 ∧ (bs.drop p).take (layN x).length = layN x ∧ n = p + (layN x).length ∧ n ≤ bs.length := by
  by_cases hp : p < bs.length
  case neg => unfold getN at h; rw [if_neg hp] at h; simp at h
  obtain ⟨hd, rest, hcat, hlen⟩ : ∃ hd rest, bs = bs.take p ++ hd :: rest ∧ (bs.take p).length = p := by
    refine ⟨bs[p], bs.drop (p + 1), ?_, by simp; omega⟩
    rw [← List.drop_eq_getElem_cons hp, List.take_append_drop]
  generalize bs.take p = pre at hcat hlen
  subst hcat
  subst hlen
  rw [getN_at] at h
  rw [List.drop_left]
  have hL : (pre ++ hd :: rest).length = pre.length + 1 + rest.length := by simp; omega
  rw [hL]
  split at h
  · rename_i h1
    simp only [Prod.mk.injEq] at h
    obtain ⟨rfl, rfl, _⟩ := h
    have e : layN hd = [hd] := by simp [layN, h1]
    rw [e]
    exact ⟨by omega, by simp, by simp, by omega⟩
  split at h
  · simp at h
  split at h
  · simp at h
  split at h
  · simp at h
  rename_i h1 h2 h3 h4
  simp only [Prod.mk.injEq] at h
  obtain ⟨rfl, rfl, _⟩ := h
  obtain ⟨k, hk⟩ : ∃ k, hd - 191 = k := ⟨_, rfl⟩
  rw [hk] at h3 h4 ⊢
  have hl : (rest.take k).length = k := by simp; omega
  have hm : ∀ y ∈ rest.take k, y < 256 := fun y hy => hb y (by simp [List.mem_of_mem_take hy])
  have hfl := far_lt k _ hl hm
  have hdf := digs_far k _ hl hm
  generalize hM : rest.take k = L at *
  have h192 : 192 ≤ shelfN k := by
    have : k = 1 ∨ k = 2 ∨ k = 3 ∨ k = 4 ∨ k = 5 ∨ k = 6 ∨ k = 7 ∨ k = 8 := by omega
    obtain ⟨s1, s2, s3, s4, s5, s6, s7, s8⟩ := shelf_nums
    clear hfl hdf hm hM hb
    rcases this with rfl | rfl | rfl | rfl | rfl | rfl | rfl | rfl <;> omega
  have hK : k = kOf (shelfN k + far L) := isK_eq ⟨by omega, by omega, .inr (by omega), by
    by_cases h8 : k = 8
    · exact .inl h8
    · right; rw [shelf_step (by omega)]; omega⟩
  have e : layN (shelfN k + far L) = hd :: L := by
    unfold layN
    rw [if_neg (by omega), ← hK, show shelfN k + far L - shelfN k = far L by omega, hdf, show 191 + k = hd by omega]
  refine ⟨by omega, ?_, ?_, by omega⟩
  · rw [e]; simp only [List.length_cons, List.take_succ_cons, hl, hM]
  · rw [e]; simp only [List.length_cons, hl]; omega
theorem getN_place {bs : List Nat} {p : Nat} (hp : p ≤ bs.length) : (getN bs p).2.1 ≤ bs.length := by
  unfold getN
  repeat' split
  all_goals (simp only; try omega)
theorem getN_err (bs : List Nat) (p : Nat) (h : (getN bs p).2.2 ≠ 0) : (getN bs p).1 = 0 := by
  revert h
  unfold getN
  repeat' split
  all_goals simp
theorem getN_lt {bs : List Nat} {p : Nat} (hb : ∀ b ∈ bs, b < 256) : (getN bs p).1 < 18446744073709551616 := by
  by_cases h : (getN bs p).2.2 = 0
  · exact (getN_back hb (x := (getN bs p).1) (n := (getN bs p).2.1) (by rw [← h])).1
  · rw [getN_err bs p h]; decide
theorem getN_set (bs : List Nat) (p : Nat) : (getN bs p).2.2 = 0 ∨ (getN bs p).2.2 = 4 ∨ (getN bs p).2.2 = 5 := by
  unfold getN
  repeat' split
  all_goals simp

/-! ### One whole number -/
/-- The whole number that a number stands for. -/
def zag (x : Nat) : Int := if x % 2 = 1 then -((x / 2 : Nat) : Int) - 1 else ((x / 2 : Nat) : Int)
theorem zag_zig {x : Int} : zag (zig x) = x := by
  unfold zag zig
  split <;> split <;> omega
theorem zig_zag (x : Nat) : zig (zag x) = x := by
  unfold zag zig
  split <;> split <;> omega
theorem zag_I64 {x : Nat} (h : x < 18446744073709551616) : I64 (zag x) := by
  unfold zag I64
  split <;> omega

/-! ### Things -/
structure PS where
  pos : Nat
  err : Int
theorem PS.eq (s : PS) (q : Nat) (h1 : s.pos = q) (h2 : s.err = 0) : s = ⟨q, 0⟩ := by
  cases s; simp only at h1 h2; rw [h1, h2]
structure Codec (α : Type) where
  enc : α → List Nat
  dec : List Nat → PS → α × PS
  ok : α → Prop
  bytes : ∀ a, ∀ b ∈ enc a, b < 256
  stuck : ∀ bs s, s.err ≠ 0 → (dec bs s).2 = s
  back : ∀ pre post a, ok a → dec (pre ++ enc a ++ post) ⟨pre.length, 0⟩ = (a, ⟨pre.length + (enc a).length, 0⟩)
  cut : ∀ pre a c, ok a → c < (enc a).length → (dec (pre ++ (enc a).take c) ⟨pre.length, 0⟩).2 = ⟨pre.length + c, 5⟩
  forth : ∀ bs p, (∀ b ∈ bs, b < 256) → (dec bs ⟨p, 0⟩).2.err = 0 → ok (dec bs ⟨p, 0⟩).1 ∧ (bs.drop p).take (enc (dec bs ⟨p, 0⟩).1).length = enc (dec bs ⟨p, 0⟩).1 ∧ (dec bs ⟨p, 0⟩).2.pos = p + (enc (dec bs ⟨p, 0⟩).1).length
  place : ∀ bs s, s.pos ≤ bs.length → (dec bs s).2.pos ≤ bs.length

/-- A number that is at most another one. -/
def decN (most : Nat) (bad : Int) (bs : List Nat) (s : PS) : Nat × PS :=
  if s.err ≠ 0 then (0, s)
  else if (getN bs s.pos).2.2 = 0 ∧ most < (getN bs s.pos).1 then (0, ⟨s.pos, bad⟩)
  else ((getN bs s.pos).1, ⟨(getN bs s.pos).2.1, (getN bs s.pos).2.2⟩)
def cNum (most : Nat) (bad : Int) (hm : most < 18446744073709551616) (hbad : bad ≠ 0) : Codec Nat where
  enc := layN
  dec := decN most bad
  ok x := x ≤ most
  bytes := layN_lt
  stuck bs s h := by unfold decN; rw [if_pos h]
  back pre post a h := by
    unfold decN
    rw [if_neg (by simp), getN_lay pre post (by omega), if_neg (by simp; omega)]
  cut pre a c h hc := by
    unfold decN
    rw [if_neg (by simp), getN_cut pre hc, if_neg (by simp)]
  forth bs p hb := by
    unfold decN
    rw [if_neg (by simp)]
    split
    · intro h; exact absurd h hbad
    · intro h
      rename_i h2
      simp only at h h2 ⊢
      obtain ⟨h3, h4, h5, h6⟩ := getN_back hb (p := p) (x := (getN bs p).1) (n := (getN bs p).2.1) (by rw [← h])
      exact ⟨by omega, h4, h5⟩
  place bs s h := by
    unfold decN
    split
    · exact h
    · split
      · exact h
      · exact getN_place h

def decI (bs : List Nat) (s : PS) : Int × PS :=
  if s.err ≠ 0 then (0, s) else (zag (getN bs s.pos).1, ⟨(getN bs s.pos).2.1, (getN bs s.pos).2.2⟩)
def cInt : Codec Int where
  enc := wholeN
  dec := decI
  ok := I64
  bytes x := layN_lt _
  stuck bs s h := by unfold decI; rw [if_pos h]
  back pre post a h := by
    have hz := zig_le h
    unfold decI wholeN
    rw [if_neg (by simp), getN_lay pre post (by omega), zag_zig]
  cut pre a c h hc := by
    unfold decI wholeN
    rw [if_neg (by simp), getN_cut pre hc]
  forth bs p hb := by
    unfold decI
    rw [if_neg (by simp)]
    intro h
    simp only at h ⊢
    obtain ⟨h3, h4, h5, h6⟩ := getN_back hb (p := p) (x := (getN bs p).1) (n := (getN bs p).2.1) (by rw [← h])
    unfold wholeN
    rw [zig_zag]
    exact ⟨zag_I64 h3, h4, h5⟩
  place bs s h := by
    unfold decI
    split
    · exact h
    · exact getN_place h

/-- One thing behind another. -/
def Codec.seq {α β : Type} (C : Codec α) (D : Codec β) : Codec (α × β) where
  enc a := C.enc a.1 ++ D.enc a.2
  dec bs s := (((C.dec bs s).1, (D.dec bs (C.dec bs s).2).1), (D.dec bs (C.dec bs s).2).2)
  ok a := C.ok a.1 ∧ D.ok a.2
  bytes a b hb := by
    rcases List.mem_append.1 hb with h | h
    · exact C.bytes _ _ h
    · exact D.bytes _ _ h
  stuck bs s h := by simp only; rw [C.stuck bs s h, D.stuck bs s h]
  back pre post a h := by
    have h1 := C.back pre (D.enc a.2 ++ post) a.1 h.1
    have h2 := D.back (pre ++ C.enc a.1) post a.2 h.2
    rw [List.length_append] at h2
    simp only [List.append_assoc] at h1 h2 ⊢
    rw [h1]
    simp only
    rw [h2, List.length_append, Nat.add_assoc]
  cut pre a c h hc := by
    rw [List.length_append] at hc
    simp only
    by_cases hlt : c < (C.enc a.1).length
    · rw [List.take_append, show c - (C.enc a.1).length = 0 by omega, List.take_zero, List.append_nil, C.cut pre a.1 c h.1 hlt, D.stuck _ _ (by simp)]
    · have h1 := C.back pre ((D.enc a.2).take (c - (C.enc a.1).length)) a.1 h.1
      have h2 := D.cut (pre ++ C.enc a.1) a.2 (c - (C.enc a.1).length) h.2 (by omega)
      rw [List.length_append] at h2
      simp only [List.append_assoc] at h1 h2
      rw [List.take_append, List.take_of_length_le (by omega), h1]
      simp only
      rw [h2]
      congr 1
      omega
  forth bs p hb h := by
    simp only at h ⊢
    have hC : (C.dec bs ⟨p, 0⟩).2.err = 0 := Decidable.byContradiction fun hn => by
      rw [D.stuck _ _ hn] at h
      exact hn h
    obtain ⟨h1, h2, h3⟩ := C.forth bs p hb hC
    have es : (C.dec bs ⟨p, 0⟩).2 = ⟨p + (C.enc (C.dec bs ⟨p, 0⟩).1).length, 0⟩ := PS.eq _ _ h3 hC
    rw [es] at h ⊢
    obtain ⟨k1, k2, k3⟩ := D.forth bs _ hb h
    refine ⟨⟨h1, k1⟩, ?_, ?_⟩
    · rw [List.length_append, List.take_add, h2, List.drop_drop, k2]
    · rw [k3, List.length_append, Nat.add_assoc]
  place bs s h := D.place _ _ (C.place _ _ h)

/-- So many of a kind. -/
def decR {α : Type} (C : Codec α) (bs : List Nat) : Nat → PS → List α × PS
  | 0, s => ([], s)
  | n + 1, s => ((C.dec bs s).1 :: (decR C bs n (C.dec bs s).2).1, (decR C bs n (C.dec bs s).2).2)
theorem decR_length {α : Type} (C : Codec α) (bs : List Nat) : ∀ n s, (decR C bs n s).1.length = n
  | 0, s => rfl
  | n + 1, s => by simp [decR, decR_length C bs n]
theorem decR_stuck {α : Type} (C : Codec α) (bs : List Nat) : ∀ n s, s.err ≠ 0 → (decR C bs n s).2 = s
  | 0, s, h => rfl
  | n + 1, s, h => by rw [decR]; simp only; rw [C.stuck bs s h]; exact decR_stuck C bs n s h
theorem decR_back {α : Type} (C : Codec α) : ∀ (l : List α) (pre post : List Nat), (∀ a ∈ l, C.ok a) → decR C (pre ++ l.flatMap C.enc ++ post) l.length ⟨pre.length, 0⟩ = (l, ⟨pre.length + (l.flatMap C.enc).length, 0⟩)
  | [], pre, post, h => by simp [decR]
  | a :: l, pre, post, h => by
    have h1 := C.back pre (l.flatMap C.enc ++ post) a (h a (by simp))
    have h2 := decR_back C l (pre ++ C.enc a) post (fun b hb => h b (by simp [hb]))
    rw [List.length_append] at h2
    simp only [List.append_assoc] at h1 h2
    rw [List.length_cons, decR, List.flatMap_cons]
    simp only [List.append_assoc]
    rw [h1]
    simp only
    rw [h2, List.length_append, Nat.add_assoc]
theorem decR_cut {α : Type} (C : Codec α) : ∀ (l : List α) (pre : List Nat) (c : Nat), (∀ a ∈ l, C.ok a) → c < (l.flatMap C.enc).length → (decR C (pre ++ (l.flatMap C.enc).take c) l.length ⟨pre.length, 0⟩).2 = ⟨pre.length + c, 5⟩
  | [], pre, c, h, hc => by simp at hc
  | a :: l, pre, c, h, hc => by
    rw [List.flatMap_cons, List.length_append] at hc
    rw [List.length_cons, decR, List.flatMap_cons]
    simp only
    by_cases hlt : c < (C.enc a).length
    · rw [List.take_append, show c - (C.enc a).length = 0 by omega, List.take_zero, List.append_nil, C.cut pre a c (h a (by simp)) hlt, decR_stuck _ _ _ _ (by simp)]
    · have h1 := C.back pre ((l.flatMap C.enc).take (c - (C.enc a).length)) a (h a (by simp))
      have h2 := decR_cut C l (pre ++ C.enc a) (c - (C.enc a).length) (fun b hb => h b (by simp [hb])) (by omega)
      rw [List.length_append] at h2
      simp only [List.append_assoc] at h1 h2
      rw [List.take_append, List.take_of_length_le (by omega), h1]
      simp only
      rw [h2]
      congr 1
      omega
theorem decR_forth {α : Type} (C : Codec α) (bs : List Nat) (hb : ∀ b ∈ bs, b < 256) : ∀ (n p : Nat), (decR C bs n ⟨p, 0⟩).2.err = 0 → (∀ a ∈ (decR C bs n ⟨p, 0⟩).1, C.ok a) ∧
    (bs.drop p).take ((decR C bs n ⟨p, 0⟩).1.flatMap C.enc).length = (decR C bs n ⟨p, 0⟩).1.flatMap C.enc ∧ (decR C bs n ⟨p, 0⟩).2.pos = p + ((decR C bs n ⟨p, 0⟩).1.flatMap C.enc).length
  | 0, p, h => by simp [decR]
  | n + 1, p, h => by
    rw [decR] at h ⊢
    simp only at h ⊢
    have hC : (C.dec bs ⟨p, 0⟩).2.err = 0 := Decidable.byContradiction fun hn => by
      rw [decR_stuck C bs n _ hn] at h
      exact hn h
    obtain ⟨h1, h2, h3⟩ := C.forth bs p hb hC
    have es : (C.dec bs ⟨p, 0⟩).2 = ⟨p + (C.enc (C.dec bs ⟨p, 0⟩).1).length, 0⟩ := PS.eq _ _ h3 hC
    rw [es] at h ⊢
    obtain ⟨k1, k2, k3⟩ := decR_forth C bs hb n _ h
    refine ⟨?_, ?_, ?_⟩
    · intro a ha
      rcases List.mem_cons.1 ha with rfl | ha
      · exact h1
      · exact k1 a ha
    · rw [List.flatMap_cons, List.length_append, List.take_add, h2, List.drop_drop, k2]
    · rw [k3, List.flatMap_cons, List.length_append, Nat.add_assoc]
theorem decR_place {α : Type} (C : Codec α) (bs : List Nat) : ∀ n s, s.pos ≤ bs.length → (decR C bs n s).2.pos ≤ bs.length
  | 0, s, h => h
  | n + 1, s, h => by rw [decR]; exact decR_place C bs n _ (C.place bs s h)
theorem flatMap_lt {α : Type} (C : Codec α) (l : List α) : ∀ b ∈ l.flatMap C.enc, b < 256 := by
  intro b hb
  obtain ⟨a, _, h⟩ := List.mem_flatMap.1 hb
  exact C.bytes a b h
def Codec.rep {α : Type} (C : Codec α) (n : Nat) : Codec (List α) where
  enc l := l.flatMap C.enc
  dec bs s := decR C bs n s
  ok l := l.length = n ∧ ∀ a ∈ l, C.ok a
  bytes l := flatMap_lt C l
  stuck bs s h := decR_stuck C bs n s h
  back pre post a h := by have := decR_back C a pre post h.2; rw [h.1] at this; exact this
  cut pre a c h hc := by have := decR_cut C a pre c h.2 hc; rw [h.1] at this; exact this
  forth bs p hb h := by
    obtain ⟨h1, h2, h3⟩ := decR_forth C bs hb n p h
    exact ⟨⟨decR_length C bs n _, h1⟩, h2, h3⟩
  place bs s h := decR_place C bs n s h

/-- The same, stopped at the first fault. -/
def decL {α : Type} (C : Codec α) (bs : List Nat) : Nat → PS → List α × PS
  | 0, s => ([], s)
  | n + 1, s => if (C.dec bs s).2.err ≠ 0 then ([], (C.dec bs s).2) else ((C.dec bs s).1 :: (decL C bs n (C.dec bs s).2).1, (decL C bs n (C.dec bs s).2).2)
theorem decL_eq {α : Type} (C : Codec α) (bs : List Nat) : ∀ n s, (decL C bs n s).2 = (decR C bs n s).2 ∧ ((decR C bs n s).2.err = 0 → (decL C bs n s).1 = (decR C bs n s).1)
  | 0, s => ⟨rfl, fun _ => rfl⟩
  | n + 1, s => by
    rw [decL, decR]
    split
    · rename_i h
      simp only
      rw [decR_stuck C bs n _ h]
      exact ⟨rfl, fun h' => absurd h' h⟩
    · obtain ⟨h1, h2⟩ := decL_eq C bs n (C.dec bs s).2
      exact ⟨h1, fun h => by simp only at h ⊢; rw [h2 h]⟩
def decA {α : Type} (C : Codec α) (bs : List Nat) (s : PS) : List α × PS := decL C bs (decN 1024 3 bs s).1 (decN 1024 3 bs s).2
def Codec.list {α : Type} (C : Codec α) : Codec (List α) where
  enc l := layN l.length ++ l.flatMap C.enc
  dec bs s := decA C bs s
  ok l := l.length ≤ 1024 ∧ ∀ a ∈ l, C.ok a
  bytes l b hb := by
    rcases List.mem_append.1 hb with h | h
    · exact layN_lt _ b h
    · exact flatMap_lt C l b h
  stuck bs s h := by
    unfold decA
    have : decN 1024 3 bs s = (0, s) := by unfold decN; rw [if_pos h]
    rw [this]
    rfl
  back pre post a h := by
    unfold decA
    have h1 := (cNum 1024 3 (by omega) (by omega)).back pre (a.flatMap C.enc ++ post) a.length h.1
    have h2 := decR_back C a (pre ++ layN a.length) post h.2
    rw [List.length_append] at h2
    simp only [cNum, List.append_assoc] at h1 h2 ⊢
    rw [h1]
    simp only
    obtain ⟨e1, e2⟩ := decL_eq C (pre ++ (layN a.length ++ (a.flatMap C.enc ++ post))) a.length ⟨pre.length + (layN a.length).length, 0⟩
    rw [h2] at e1 e2
    rw [Prod.ext_iff]
    refine ⟨e2 rfl, ?_⟩
    rw [e1, List.length_append, Nat.add_assoc]
  cut pre a c h hc := by
    unfold decA
    rw [List.length_append] at hc
    by_cases hlt : c < (layN a.length).length
    · have h1 := (cNum 1024 3 (by omega) (by omega)).cut pre a.length c h.1 hlt
      simp only [cNum] at h1
      rw [List.take_append, show c - (layN a.length).length = 0 by omega, List.take_zero, List.append_nil, (decL_eq C _ _ _).1, decR_stuck C _ _ _ (by rw [h1]; simp), h1]
    · have h1 := (cNum 1024 3 (by omega) (by omega)).back pre ((a.flatMap C.enc).take (c - (layN a.length).length)) a.length h.1
      have h2 := decR_cut C a (pre ++ layN a.length) (c - (layN a.length).length) h.2 (by omega)
      rw [List.length_append] at h2
      simp only [cNum, List.append_assoc] at h1 h2
      rw [List.take_append, List.take_of_length_le (by omega), (decL_eq C _ _ _).1, h1]
      simp only
      rw [h2]
      congr 1
      omega
  forth bs p hb h := by
    unfold decA at h ⊢
    rw [(decL_eq C bs _ _).1] at h
    have hC : (decN 1024 3 bs ⟨p, 0⟩).2.err = 0 := Decidable.byContradiction fun hn => by
      rw [decR_stuck C bs _ _ hn] at h
      exact hn h
    rw [(decL_eq C bs _ _).2 h, (decL_eq C bs _ _).1]
    obtain ⟨h1, h2, h3⟩ := (cNum 1024 3 (by omega) (by omega)).forth bs p hb hC
    simp only [cNum] at h1 h2 h3
    have es : (decN 1024 3 bs ⟨p, 0⟩).2 = ⟨p + (layN (decN 1024 3 bs ⟨p, 0⟩).1).length, 0⟩ := PS.eq _ _ h3 hC
    have hn := decR_length C bs (decN 1024 3 bs ⟨p, 0⟩).1 (decN 1024 3 bs ⟨p, 0⟩).2
    rw [es] at h hn ⊢
    obtain ⟨k1, k2, k3⟩ := decR_forth C bs hb _ _ h
    rw [hn]
    refine ⟨⟨h1, k1⟩, ?_, ?_⟩
    · rw [List.length_append, List.take_add, h2, List.drop_drop, k2]
    · rw [k3, List.length_append, Nat.add_assoc]
  place bs s h := by
    unfold decA
    rw [(decL_eq C bs _ _).1]
    exact decR_place C bs _ _ ((cNum 1024 3 (by omega) (by omega)).place bs s h)

/-- A thing, told otherwise. -/
def Codec.map {α β : Type} (C : Codec α) (f : α → β) (g : β → α) (ok : β → Prop) (h1 : ∀ b, ok b → C.ok (g b) ∧ f (g b) = b) (h2 : ∀ a, C.ok a → ok (f a) ∧ g (f a) = a) : Codec β where
  enc b := C.enc (g b)
  dec bs s := (f (C.dec bs s).1, (C.dec bs s).2)
  ok := ok
  bytes b := C.bytes _
  stuck bs s h := C.stuck bs s h
  back pre post b h := by rw [C.back pre post _ (h1 b h).1]; simp only; rw [(h1 b h).2]
  cut pre b c h hc := C.cut pre _ c (h1 b h).1 hc
  forth bs p hb h := by
    obtain ⟨k1, k2, k3⟩ := C.forth bs p hb h
    obtain ⟨k4, k5⟩ := h2 _ k1
    simp only
    rw [k5]
    exact ⟨k4, k2, k3⟩
  place bs s h := C.place bs s h

/-! ### A thing, and nothing behind it -/
def decW {α : Type} (C : Codec α) (none : α) (bs : List Nat) : α × Nat × Int :=
  if (C.dec bs ⟨0, 0⟩).2.err ≠ 0 then (none, (C.dec bs ⟨0, 0⟩).2.pos, (C.dec bs ⟨0, 0⟩).2.err)
  else if (C.dec bs ⟨0, 0⟩).2.pos < bs.length then (none, (C.dec bs ⟨0, 0⟩).2.pos, 7)
  else ((C.dec bs ⟨0, 0⟩).1, 0, 0)
theorem decW_back {α : Type} (C : Codec α) (none a : α) (h : C.ok a) : decW C none (C.enc a) = (a, 0, 0) := by
  have := C.back [] [] a h
  simp only [List.nil_append, List.append_nil, List.length_nil, Nat.zero_add] at this
  unfold decW
  rw [this]
  simp
theorem decW_cut {α : Type} (C : Codec α) (none a : α) (h : C.ok a) (c : Nat) (hc : c < (C.enc a).length) : decW C none ((C.enc a).take c) = (none, c, 5) := by
  have := C.cut [] a c h hc
  simp only [List.nil_append, List.length_nil, Nat.zero_add] at this
  unfold decW
  rw [this]
  simp
theorem decW_more {α : Type} (C : Codec α) (none a : α) (h : C.ok a) (b : Nat) : decW C none (C.enc a ++ [b]) = (none, (C.enc a).length, 7) := by
  have := C.back [] [b] a h
  simp only [List.nil_append, List.length_nil, Nat.zero_add] at this
  unfold decW
  rw [this]
  simp
theorem decW_forth {α : Type} (C : Codec α) (none : α) (bs : List Nat) (hb : ∀ b ∈ bs, b < 256) (h : (decW C none bs).2.2 = 0) : C.ok (decW C none bs).1 ∧ C.enc (decW C none bs).1 = bs := by
  unfold decW at h ⊢
  split at h
  · rename_i hn; exact absurd h hn
  · rename_i hn
    rw [if_neg hn]
    split at h
    · simp at h
    · rename_i hn2
      rw [if_neg hn2]
      obtain ⟨h1, h2, h3⟩ := C.forth bs 0 hb (by simpa using hn)
      simp only [List.drop_zero, Nat.zero_add] at h2 h3
      refine ⟨h1, ?_⟩
      simp only
      rw [← h2]
      apply List.take_of_length_le
      omega
theorem enc_inj {α : Type} (C : Codec α) (a b : α) (ha : C.ok a) (hb : C.ok b) (h : C.enc a = C.enc b) : a = b := by
  have h1 := decW_back C a a ha
  have h2 := decW_back C a b hb
  rw [h, h2] at h1
  exact (Prod.mk.inj h1).1.symm
end Go.Proofs.Ytachignmofpngaa
