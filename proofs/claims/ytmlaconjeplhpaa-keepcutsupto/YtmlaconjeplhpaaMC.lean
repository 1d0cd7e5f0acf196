/- A store on a disk, in plain Lean: what blocks tell, and how a half of the disk is read. A store on a disk, in plain Lean: what is written, what a crash leaves, what is opened. A store on a disk, in plain Lean: what holds of it whatever is done, and wherever the disk crashes. -/
import Derived.Test.YtmlaconjeplhpaaMB
set_option linter.unusedVariables false
set_option linter.unusedSimpArgs false
namespace Go.Proofs.Ytmlaconjeplhpaa.St
open Go

/-- The number that four bytes write, the lowest first. -/
def four (l : List Nat) : Nat := l.getD 0 0 + 256 * l.getD 1 0 + 65536 * l.getD 2 0 + 16777216 * l.getD 3 0
def put4 (x : Nat) : List Nat := [x % 256, x / 256 % 256, x / 65536 % 256, x / 16777216 % 256]
theorem four_put4 (x : Nat) (h : x < 4294967296) (l : List Nat) : four (put4 x ++ l) = x := by
  unfold four put4
  simp only [List.cons_append, List.nil_append, List.getD_cons_zero, List.getD_cons_succ]
  omega
theorem put4_length (x : Nat) : (put4 x).length = 4 := rfl
theorem put4_lt (x : Nat) : ∀ b ∈ put4 x, b < 256 := by
  intro b hb
  unfold put4 at hb
  simp only [List.mem_cons, List.not_mem_nil, or_false] at hb
  omega
theorem getD_lt {l : List Nat} (h : ∀ b ∈ l, b < 256) (i : Nat) : l.getD i 0 < 256 := by
  rw [List.getD_eq_getElem?_getD]
  cases hq : l[i]? with
  | none => simp
  | some x => exact h x (List.mem_of_getElem? hq)
theorem four_lt {l : List Nat} (h : ∀ b ∈ l, b < 256) : four l < 4294967296 := by
  have h0 := getD_lt h 0
  have h1 := getD_lt h 1
  have h2 := getD_lt h 2
  have h3 := getD_lt h 3
  unfold four
  omega

abbrev Blk := List Nat
def bGen (b : Blk) : Nat := four b
def bLife (b : Blk) : Nat := four (b.drop 4)
def bUsed (b : Blk) : Nat := b.getD 8 0
def bDat (b : Blk) : List Nat := (b.drop 9).take (bUsed b)
/-- A block's bytes, noughts behind them. -/
def pad (l : List Nat) : Blk := l ++ List.replicate (64 - l.length) 0
theorem pad_length {l : List Nat} (h : l.length ≤ 64) : (pad l).length = 64 := by simp [pad]; omega
theorem pad_lt {l : List Nat} (h : ∀ b ∈ l, b < 256) : ∀ b ∈ pad l, b < 256 := by
  intro b hb
  rcases List.mem_append.1 hb with h1 | h1
  · exact h b h1
  · rw [List.eq_of_mem_replicate h1]; omega
def mkL (gen life : Nat) (d : List Nat) : List Nat := put4 gen ++ put4 life ++ ([d.length] ++ d)
def mkB (gen life : Nat) (d : List Nat) : Blk := pad (mkL gen life d)
theorem mkL_length (gen life : Nat) (d : List Nat) : (mkL gen life d).length = 9 + d.length := by simp [mkL, put4]; omega
theorem mkB_spec {gen life : Nat} {d : List Nat} (hg : gen < 4294967296) (hl : life < 4294967296) (hd : d.length ≤ 55) :
    bGen (mkB gen life d) = gen ∧ bLife (mkB gen life d) = life ∧ bUsed (mkB gen life d) = d.length ∧ bDat (mkB gen life d) = d ∧ (mkB gen life d).length = 64 := by
  have e1 : mkB gen life d = put4 gen ++ (put4 life ++ (d.length :: (d ++ List.replicate (64 - (mkL gen life d).length) 0))) := by simp [mkB, pad, mkL]
  have e2 : (mkB gen life d).drop 4 = put4 life ++ (d.length :: (d ++ List.replicate (64 - (mkL gen life d).length) 0)) := by rw [e1]; rfl
  have e3 : (mkB gen life d).getD 8 0 = d.length := by rw [e1]; simp [put4]
  have e4 : (mkB gen life d).drop 9 = d ++ List.replicate (64 - (mkL gen life d).length) 0 := by rw [e1]; rfl
  refine ⟨?_, ?_, e3, ?_, ?_⟩
  · unfold bGen; rw [e1]; exact four_put4 gen hg _
  · unfold bLife; rw [e2]; exact four_put4 life hl _
  · unfold bDat bUsed; rw [e3, e4]; exact List.take_left
  · exact pad_length (by rw [mkL_length]; omega)

/-- The used bytes of a half's blocks, as long as they go on: so many blocks from block i on, behind a block of that life. -/
def walk (H : Nat → Blk) (gen : Nat) : Nat → Nat → Nat → List Nat
  | 0, _, _ => []
  | n + 1, i, last => if bGen (H i) ≠ gen ∨ bLife (H i) < last ∨ 55 < bUsed (H i) then [] else bDat (H i) ++ (if bUsed (H i) < 55 then [] else walk H gen n (i + 1) (bLife (H i)))
/-- The first m blocks are full; last is the life of the last one. -/
inductive Chain (H : Nat → Blk) (gen : Nat) : Nat → Nat → List Nat → Prop
  | nil : Chain H gen 0 0 []
  | snoc {m last : Nat} {data : List Nat} : Chain H gen m last data → bGen (H m) = gen → last ≤ bLife (H m) → bUsed (H m) = 55 → Chain H gen (m + 1) (bLife (H m)) (data ++ bDat (H m))
theorem Chain.walk {H : Nat → Blk} {gen : Nat} : ∀ {m last : Nat} {data : List Nat}, Chain H gen m last data → ∀ n, walk H gen (m + n) 0 0 = data ++ walk H gen n m last
  | _, _, _, .nil, n => by simp
  | _, _, _, .snoc (m := m) (last := last) (data := data) c h1 h2 h3, n => by
    rw [show m + 1 + n = m + (n + 1) by omega, c.walk (n + 1), List.append_assoc]
    congr 1
    rw [St.walk, if_neg (by omega), if_neg (by omega)]
theorem Chain.length {H : Nat → Blk} {gen : Nat} (hH : ∀ i, (H i).length = 64) : ∀ {m last : Nat} {data : List Nat}, Chain H gen m last data → data.length = m * 55
  | _, _, _, .nil => rfl
  | _, _, _, .snoc (m := m) c h1 h2 h3 => by
    rw [List.length_append, c.length hH]
    unfold bDat
    rw [List.length_take, List.length_drop, hH, h3]
    omega
theorem Chain.congr {H H' : Nat → Blk} {gen : Nat} : ∀ {m last : Nat} {data : List Nat}, Chain H gen m last data → (∀ i < m, H' i = H i) → Chain H' gen m last data
  | _, _, _, .nil, _ => .nil
  | _, _, _, .snoc (m := m) c h1 h2 h3, h => by
    have := Chain.snoc (H := H') (gen := gen) (c.congr (fun i hi => h i (by omega))) (by rw [h m (by omega)]; exact h1) (by rw [h m (by omega)]; exact h2) (by rw [h m (by omega)]; exact h3)
    rw [h m (by omega)] at this
    exact this
theorem Chain.last_le {H : Nat → Blk} {gen life : Nat} : ∀ {m last : Nat} {data : List Nat}, Chain H gen m last data → (∀ i < m, bGen (H i) = gen → bLife (H i) ≤ life) → last ≤ life
  | _, _, _, .nil, _ => Nat.zero_le _
  | _, _, _, .snoc (m := m) c h1 h2 h3, h => h m (by omega) h1
/-- What was read in whole blocks stands in full ones. -/
theorem chain_of_walk {H : Nat → Blk} {gen h : Nat} (hH : ∀ i, (H i).length = 64) : ∀ m, m * 55 ≤ (walk H gen h 0 0).length → m ≤ h ∧ ∃ last, Chain H gen m last ((walk H gen h 0 0).take (m * 55))
  | 0, _ => ⟨Nat.zero_le _, 0, by simpa using Chain.nil⟩
  | m + 1, hm => by
    obtain ⟨h1, last, c⟩ := chain_of_walk (H := H) (gen := gen) (h := h) hH m (by omega)
    have hl := c.length hH
    obtain ⟨n, rfl⟩ : ∃ n, h = m + n := ⟨h - m, by omega⟩
    have hw := c.walk n
    cases n with
    | zero =>
      rw [hw] at hm
      rw [List.length_append, hl] at hm
      simp [St.walk] at hm
      omega
    | succ n =>
      rw [St.walk] at hw
      by_cases hc : bGen (H m) ≠ gen ∨ bLife (H m) < last ∨ 55 < bUsed (H m)
      · rw [if_pos hc, List.append_nil] at hw
        rw [hw, hl] at hm
        omega
      · rw [if_neg hc] at hw
        have hd : (bDat (H m)).length = min (bUsed (H m)) 55 := by
          unfold bDat
          rw [List.length_take, List.length_drop, hH]
        by_cases hu : bUsed (H m) < 55
        · rw [if_pos hu, List.append_nil] at hw
          rw [hw, List.length_append, hl, hd] at hm
          omega
        · have hu5 : bUsed (H m) = 55 := by omega
          rw [if_neg hu] at hw
          refine ⟨by omega, bLife (H m), ?_⟩
          have := Chain.snoc c (by omega) (by omega) hu5
          have e : (St.walk H gen (m + (n + 1)) 0 0).take ((m + 1) * 55) = (St.walk H gen (m + (n + 1)) 0 0).take (m * 55) ++ bDat (H m) := by
            generalize (St.walk H gen (m + (n + 1)) 0 0).take (m * 55) = A at *
            rw [hw, ← List.append_assoc, List.take_append_of_le_length (by rw [List.length_append]; omega), List.take_of_length_le (by rw [List.length_append]; omega)]
          rw [e]
          exact this
theorem walk_stop {H : Nat → Blk} {gen i last : Nat} (n : Nat) (h : bGen (H i) ≠ gen ∨ bLife (H i) < last) : walk H gen n i last = [] := by
  cases n with
  | zero => rfl
  | succ n => rw [walk, if_pos (by omega)]
theorem walk_length {H : Nat → Blk} {gen : Nat} : ∀ n i last, (walk H gen n i last).length ≤ n * 55
  | 0, i, last => by simp [walk]
  | n + 1, i, last => by
    rw [walk]
    split
    · simp
    · rename_i h
      have hd : (bDat (H i)).length ≤ bUsed (H i) := by unfold bDat; rw [List.length_take]; omega
      rw [List.length_append]
      split
      · simp; omega
      · have := walk_length (H := H) (gen := gen) n (i + 1) (bLife (H i)); omega
theorem bDat_lt {b : Blk} (h : ∀ x ∈ b, x < 256) : ∀ x ∈ bDat b, x < 256 := fun x hx => h x (List.mem_of_mem_drop (List.mem_of_mem_take hx))
theorem walk_lt {H : Nat → Blk} {gen : Nat} (h : ∀ i, ∀ x ∈ H i, x < 256) : ∀ n i last, ∀ x ∈ walk H gen n i last, x < 256
  | 0, i, last, x, hx => by simp [walk] at hx
  | n + 1, i, last, x, hx => by
    rw [walk] at hx
    split at hx
    · simp at hx
    · rcases List.mem_append.1 hx with hx | hx
      · exact bDat_lt (h i) x hx
      · split at hx
        · simp at hx
        · exact walk_lt h n _ _ x hx

/-! ### Records -/
def encRec (p : List Nat) : List Nat := put4 p.length ++ p
def encAll (l : List (List Nat)) : List Nat := l.flatMap encRec
/-- Does a whole record stand at the head? -/
def oneRec (l : List Nat) : Bool := decide (4 ≤ l.length) && decide (four l ≤ 65536) && decide (four l ≤ l.length - 4)
/-- The whole records at the head. -/
def parse : Nat → List Nat → List (List Nat)
  | 0, _ => []
  | n + 1, l => if oneRec l then (l.drop 4).take (four l) :: parse n (l.drop (4 + four l)) else []
def recs (l : List Nat) : List (List Nat) := parse l.length l
theorem oneRec_iff (l : List Nat) : oneRec l = true ↔ 4 ≤ l.length ∧ four l ≤ 65536 ∧ four l ≤ l.length - 4 := by
  simp [oneRec, and_assoc]
theorem parse_more : ∀ (n m : Nat) (l : List Nat), l.length ≤ n → l.length ≤ m → parse n l = parse m l
  | 0, 0, l, _, _ => rfl
  | 0, m + 1, l, h, _ => by
    rw [parse, parse, if_neg]
    rw [oneRec_iff]; omega
  | n + 1, 0, l, _, h => by
    rw [parse, parse, if_neg]
    rw [oneRec_iff]; omega
  | n + 1, m + 1, l, h1, h2 => by
    rw [parse, parse]
    split
    · rename_i h
      rw [oneRec_iff] at h
      rw [parse_more n m _ (by rw [List.length_drop]; omega) (by rw [List.length_drop]; omega)]
    · rfl
theorem recs_cons {p l : List Nat} (hp : p.length ≤ 65536) : recs (encRec p ++ l) = p :: recs l := by
  have hf : four (encRec p ++ l) = p.length := by
    unfold encRec; rw [List.append_assoc]; exact four_put4 _ (by omega) _
  have hl : (encRec p ++ l).length = 4 + p.length + l.length := by simp [encRec, put4]; omega
  have ho : oneRec (encRec p ++ l) = true := by rw [oneRec_iff, hf, hl]; omega
  unfold recs
  rw [hl, show 4 + p.length + l.length = (3 + p.length + l.length) + 1 by omega, parse, if_pos ho, hf]
  have e1 : ((encRec p ++ l).drop 4).take p.length = p := by
    unfold encRec; rw [List.append_assoc, show 4 = (put4 p.length).length from rfl, List.drop_left, List.take_left]
  have e2 : (encRec p ++ l).drop (4 + p.length) = l := by
    have : 4 + p.length = (encRec p).length := by simp [encRec, put4]; omega
    rw [this, List.drop_left]
  rw [e1, e2]
  congr 1
  exact parse_more _ _ l (by omega) (Nat.le_refl _)
theorem recs_all {l : List Nat} : ∀ {ps : List (List Nat)}, (∀ p ∈ ps, p.length ≤ 65536) → recs (encAll ps ++ l) = ps ++ recs l
  | [], _ => by simp [encAll]
  | p :: ps, h => by
    have e : encAll (p :: ps) ++ l = encRec p ++ (encAll ps ++ l) := by simp [encAll]
    rw [e, recs_cons (h p (by simp)), recs_all (fun q hq => h q (by simp [hq]))]; rfl
theorem recs_part {p q : List Nat} (hp : p.length ≤ 65536) {n : Nat} (hq : q = (encRec p).take n) (hn : n < (encRec p).length) : recs q = [] := by
  have hl : (encRec p).length = 4 + p.length := by simp [encRec, put4]; omega
  have hql : q.length = n := by rw [hq, List.length_take]; omega
  unfold recs
  cases hk : q.length with
  | zero => rfl
  | succ k =>
    rw [parse, if_neg]
    rw [oneRec_iff]
    intro h
    have hf : four q = p.length := by
      have : q = put4 p.length ++ p.take (n - 4) := by
        rw [hq]; unfold encRec; rw [List.take_append, List.take_of_length_le (by rw [put4_length]; omega), put4_length]
      rw [this]; exact four_put4 _ (by omega) _
    rw [hf] at h
    omega
/-- All that was parsed is there. -/
theorem parse_enc : ∀ (n : Nat) (l : List Nat), l.length ≤ n → (∀ x ∈ l, x < 256) → (∀ p ∈ parse n l, p.length ≤ 65536) ∧ ∃ j, l = encAll (parse n l) ++ j ∧ recs j = []
  | 0, l, h, hb => ⟨by simp [parse], l, by simp [parse, encAll], by unfold recs; rw [show l.length = 0 by omega]; rfl⟩
  | n + 1, l, h, hb => by
    rw [parse]
    split
    · rename_i ho
      have ho' := (oneRec_iff l).1 ho
      obtain ⟨h1, j, h2, h3⟩ := parse_enc n (l.drop (4 + four l)) (by rw [List.length_drop]; omega) (fun x hx => hb x (List.mem_of_mem_drop hx))
      have hpl : ((l.drop 4).take (four l)).length = four l := by rw [List.length_take, List.length_drop]; omega
      refine ⟨fun p hp => ?_, j, ?_, h3⟩
      · rcases List.mem_cons.1 hp with rfl | hp
        · omega
        · exact h1 p hp
      · have e : encAll ((l.drop 4).take (four l) :: parse n (l.drop (4 + four l))) = encRec ((l.drop 4).take (four l)) ++ encAll (parse n (l.drop (4 + four l))) := by simp [encAll]
        rw [e, List.append_assoc, ← h2]
        unfold encRec
        rw [hpl]
        have e4 : put4 (four l) = l.take 4 := by
          match l, ho'.1 with
          | a :: b :: c :: d :: r, _ =>
            have ha := hb a (by simp)
            have hb' := hb b (by simp)
            have hc := hb c (by simp)
            have hd := hb d (by simp)
            have hf : four (a :: b :: c :: d :: r) = a + 256 * b + 65536 * c + 16777216 * d := rfl
            rw [hf]
            unfold put4
            simp only [List.take_succ_cons, List.take_zero, List.cons.injEq, and_true]
            omega
        rw [e4, List.append_assoc, ← List.drop_drop, List.take_append_drop, List.take_append_drop]
    · rename_i ho
      refine ⟨by simp, l, by simp [encAll], ?_⟩
      unfold recs
      cases hk : l.length with
      | zero => rfl
      | succ k => rw [parse, if_neg ho]
theorem recs_enc {l : List Nat} (hb : ∀ x ∈ l, x < 256) : (∀ p ∈ recs l, p.length ≤ 65536) ∧ ∃ j, l = encAll (recs l) ++ j ∧ recs j = [] := parse_enc _ l (Nat.le_refl _) hb
theorem encAll_length (l : List (List Nat)) : (encAll l).length = (l.map fun p => p.length + 4).sum := by
  induction l with
  | nil => rfl
  | cons p l ih =>
    have e : encAll (p :: l) = encRec p ++ encAll l := by simp [encAll]
    rw [e, List.length_append, ih, List.map_cons, List.sum_cons]
    simp [encRec, put4]
    try omega
theorem encAll_append (l l' : List (List Nat)) : encAll (l ++ l') = encAll l ++ encAll l' := by simp [encAll]
theorem encRec_lt {p : List Nat} (h : ∀ x ∈ p, x < 256) : ∀ x ∈ encRec p, x < 256 := fun x hx => (List.mem_append.1 hx).elim (put4_lt _ x) (h x)
end Go.Proofs.Ytmlaconjeplhpaa.St

set_option linter.unusedVariables false
set_option linter.unusedSimpArgs false
namespace Go.Proofs.Ytmlaconjeplhpaa.St
open Go

/-- A disk: its blocks as they stand, and the loose writes: which block, what it was, what it is. -/
structure Dsk where
  B : List Blk
  L : List (Nat × Blk × Blk)
def undo (B : List Blk) (L : List (Nat × Blk × Blk)) : List Blk := L.foldr (fun x B => B.set x.1 x.2.1) B
theorem undo_length (B : List Blk) : ∀ L, (undo B L).length = B.length
  | [] => rfl
  | x :: L => by show ((undo B L).set _ _).length = _; rw [List.length_set, undo_length B L]
theorem undo_append (B : List Blk) (L L' : List (Nat × Blk × Blk)) : undo B (L ++ L') = undo (undo B L') L := by simp [undo]
/-- What k of the loose writes leave. -/
def Dsk.at (D : Dsk) (k : Nat) : List Blk := undo D.B (D.L.drop k)
theorem Dsk.at_all (D : Dsk) : D.at D.L.length = D.B := by simp [Dsk.at, undo]
theorem Dsk.at_length (D : Dsk) (k : Nat) : (D.at k).length = D.B.length := undo_length _ _
def Dsk.write (D : Dsk) (n : Nat) (b : Blk) : Dsk := if n < D.B.length then ⟨D.B.set n b, D.L ++ [(n, D.B.getD n [], b)]⟩ else D
theorem set_back (B : List Blk) (n : Nat) (b : Blk) (h : n < B.length) : (B.set n b).set n (B.getD n []) = B := by
  apply List.ext_getElem?
  intro i
  rw [List.set_set, List.getElem?_set]
  split
  · rename_i hi
    subst hi
    first
      | (rw [if_pos h, List.getD_eq_getElem?_getD, List.getElem?_eq_getElem h]; rfl)
      | (rw [List.getD_eq_getElem?_getD, List.getElem?_eq_getElem h]; rfl)
  · rfl
theorem Dsk.write_at {D : Dsk} {n : Nat} {b : Blk} (h : n < D.B.length) : (∀ k ≤ D.L.length, (D.write n b).at k = D.at k) ∧ (D.write n b).at (D.L.length + 1) = D.B.set n b ∧ (D.write n b).L.length = D.L.length + 1 ∧ (D.write n b).B = D.B.set n b := by
  have e : D.write n b = ⟨D.B.set n b, D.L ++ [(n, D.B.getD n [], b)]⟩ := by unfold Dsk.write; rw [if_pos h]
  rw [e]
  refine ⟨fun k hk => ?_, ?_, by simp, rfl⟩
  · unfold Dsk.at
    simp only
    rw [List.drop_append_of_le_length hk, undo_append]
    congr 1
    exact set_back D.B n b h
  · unfold Dsk.at
    simp only
    rw [List.drop_of_length_le (by simp)]
    rfl

/-- A half of the disk. -/
def halfN (B : List Blk) : Nat := (B.length - 2) / 2
def base (n gen : Nat) : Nat := 2 + gen % 2 * n
def hb (B : List Blk) (gen i : Nat) : Blk := B.getD (base (halfN B) gen + i) (List.replicate 64 0)
/-- Writing bytes behind all others: block by block. -/
def putF (gen life bs : Nat) : Nat → Dsk → Nat → List Nat → Dsk × Nat × List Nat
  | 0, D, at', t => (D, at', t)
  | n + 1, D, at', t =>
    if t.length < 55 then (D.write (bs + at') (mkB gen life t), at', t)
    else if t.length = 55 then (D.write (bs + at') (mkB gen life t), at' + 1, [])
    else putF gen life bs n (D.write (bs + at') (mkB gen life (t.take 55))) (at' + 1) (t.drop 55)

/-- The blocks that stand have their length. -/
def All64 (B : List Blk) : Prop := ∀ b ∈ B, b.length = 64 ∧ ∀ x ∈ b, x < 256
theorem hb_64 {B : List Blk} (h : All64 B) (gen i : Nat) : (hb B gen i).length = 64 ∧ ∀ x ∈ hb B gen i, x < 256 := by
  unfold hb
  rw [List.getD_eq_getElem?_getD]
  cases hq : B[base (halfN B) gen + i]? with
  | none =>
    refine ⟨by simp, fun x hx => ?_⟩
    simp only [Option.getD_none] at hx
    rw [List.eq_of_mem_replicate hx]; omega
  | some b => exact h b (List.mem_of_getElem? hq)
theorem hb_set {B : List Blk} {gen at' i : Nat} {b : Blk} (h : base (halfN B) gen + at' < B.length) : hb (B.set (base (halfN B) gen + at') b) gen i = if i = at' then b else hb B gen i := by
  unfold hb halfN
  rw [List.length_set, List.getD_eq_getElem?_getD, List.getElem?_set]
  by_cases hi : i = at'
  · subst hi
    rw [if_pos rfl, if_pos (by unfold halfN at h; exact h), if_pos rfl]; rfl
  · rw [if_neg (by unfold halfN at *; omega), if_neg hi, List.getD_eq_getElem?_getD]
theorem mkB_64 {gen life : Nat} {d : List Nat} (hd : d.length ≤ 55) (hb : ∀ x ∈ d, x < 256) : (mkB gen life d).length = 64 ∧ ∀ x ∈ mkB gen life d, x < 256 := by
  refine ⟨pad_length (by rw [mkL_length]; omega), pad_lt ?_⟩
  intro x hx
  unfold mkL at hx
  simp only [List.mem_append, List.mem_singleton] at hx
  rcases hx with (hx | hx) | hx | hx
  · exact put4_lt _ x hx
  · exact put4_lt _ x hx
  · omega
  · exact hb x hx
theorem set_64 {B : List Blk} (h : All64 B) {n : Nat} {b : Blk} (hb : b.length = 64 ∧ ∀ x ∈ b, x < 256) : All64 (B.set n b) := by
  intro c hc
  rcases List.mem_or_eq_of_mem_set hc with h1 | h1
  · exact h c h1
  · rw [h1]; exact hb
/-- What blocks behind the first two tell, of generations and lives. -/
def Lives (B : List Blk) (gen life : Nat) : Prop := ∀ n, 2 ≤ n → bGen (B.getD n (List.replicate 64 0)) ≤ gen ∧ (0 < bGen (B.getD n (List.replicate 64 0)) → bLife (B.getD n (List.replicate 64 0)) ≤ life)
theorem Lives.set {B : List Blk} {gen life m : Nat} {b : Blk} (h : Lives B gen life) (h1 : bGen b ≤ gen) (h2 : bLife b ≤ life) : Lives (B.set m b) gen life := by
  intro n hn
  rw [List.getD_eq_getElem?_getD, List.getElem?_set]
  have h0 := h n hn
  rw [List.getD_eq_getElem?_getD] at h0
  split
  · split
    · exact ⟨h1, fun _ => h2⟩
    · rename_i hi hl
      subst hi
      rw [List.getElem?_eq_none (by omega)] at h0
      exact h0
  · exact h0

/-- Where a store's writing stands: whole blocks up to 'at', the tail behind them, and nothing of this life beyond. -/
structure Stand (B : List Blk) (gen life at' : Nat) (data : List Nat) : Prop where
  all : All64 B
  g : gen < 4294967296
  l : life < 4294967296
  chain : ∃ last, Chain (hb B gen) gen at' last data ∧ last ≤ life
  stale : ∀ i, at' < i → i < halfN B → bGen (hb B gen i) ≠ gen ∨ bLife (hb B gen i) < life
  room : at' ≤ halfN B
  two : 2 ≤ B.length
theorem half_room {B : List Blk} {gen i : Nat} (h2 : 2 ≤ B.length) (h : i < halfN B) : base (halfN B) gen + i < B.length := by
  unfold base
  have : gen % 2 = 0 ∨ gen % 2 = 1 := by omega
  unfold halfN at *
  rcases this with h3 | h3 <;> rw [h3] <;> omega
/-- Bytes written behind all others: what each prefix of the writes leaves. -/
theorem put_ok : ∀ (n : Nat) (D : Dsk) (gen life at' : Nat) (t data : List Nat), t.length < n → Stand D.B gen life at' data → (∀ x ∈ t, x < 256) → at' < halfN D.B → at' * 55 + t.length ≤ halfN D.B * 55 → Lives D.B gen life →
    ∃ D' at2 t2, putF gen life (base (halfN D.B) gen) n D at' t = (D', at2, t2) ∧
      D'.B.length = D.B.length ∧ D.L.length < D'.L.length ∧ (∀ k ≤ D.L.length, D'.at k = D.at k) ∧
      (∀ k, D.L.length < k → k ≤ D'.L.length → walk (hb (D'.at k) gen) gen (halfN D.B) 0 0 = data ++ t.take (55 * (k - D.L.length)) ∧ All64 (D'.at k) ∧ Lives (D'.at k) gen life ∧ (∀ i < 2, (D'.at k)[i]? = D.B[i]?)) ∧
      t.length ≤ 55 * (D'.L.length - D.L.length) ∧
      (∃ data2, Stand D'.B gen life at2 data2 ∧ data2 ++ t2 = data ++ t) ∧ t2.length < 55 ∧ (∀ x ∈ t2, x < 256) := by
  intro n
  induction n with
  | zero => intro D gen life at' t data h; omega
  | succ n ih =>
    intro D gen life at' t data hn hS ht hat hroom hlv
    have hpos : base (halfN D.B) gen + at' < D.B.length := half_room hS.two hat
    obtain ⟨last, hc, hlast⟩ := hS.chain
    have hlen := hc.length (fun i => (hb_64 hS.all gen i).1)
    have htt : (t.take 55).length ≤ 55 := by rw [List.length_take]; omega
    have hspec := mkB_spec (d := t.take 55) hS.g hS.l htt
    have h64 := mkB_64 (gen := gen) (life := life) htt (fun x hx => ht x (List.mem_of_mem_take hx))
    obtain ⟨w1, w2, w3, w4⟩ := Dsk.write_at (b := mkB gen life (t.take 55)) hpos
    have wL : ((D.write (base (halfN D.B) gen + at') (mkB gen life (t.take 55))).L).length = D.L.length + 1 := w3
    generalize hD1 : D.write (base (halfN D.B) gen + at') (mkB gen life (t.take 55)) = D1 at *
    -- the disk behind the first write
    have hB1 : D1.B = D.B.set (base (halfN D.B) gen + at') (mkB gen life (t.take 55)) := w4
    have hl1 : D1.B.length = D.B.length := by rw [hB1, List.length_set]
    have hh1 : halfN D1.B = halfN D.B := by unfold halfN; rw [hl1]
    have hhb : ∀ i, hb D1.B gen i = if i = at' then mkB gen life (t.take 55) else hb D.B gen i := fun i => by rw [hB1]; exact hb_set hpos
    have hall1 : All64 D1.B := by rw [hB1]; exact set_64 hS.all h64
    have hlv1 : Lives D1.B gen life := by rw [hB1]; exact hlv.set (by rw [hspec.1]; exact Nat.le_refl _) (by rw [hspec.2.1]; exact Nat.le_refl _)
    have hroot1 : ∀ i < 2, D1.B[i]? = D.B[i]? := fun i hi => by
      rw [hB1, List.getElem?_set, if_neg (by unfold base; omega)]
    have hc1 : Chain (hb D1.B gen) gen at' last data := hc.congr (fun i hi => by rw [hhb, if_neg (by omega)])
    have hatB : hb D1.B gen at' = mkB gen life (t.take 55) := by rw [hhb, if_pos rfl]
    have hst1 : ∀ i, at' < i → i < halfN D1.B → bGen (hb D1.B gen i) ≠ gen ∨ bLife (hb D1.B gen i) < life := fun i h1 h2 => by
      rw [hhb, if_neg (by omega)]
      exact hS.stale i h1 (by omega)
    have hwalk : walk (hb D1.B gen) gen (halfN D.B) 0 0 = data ++ t.take 55 := by
      obtain ⟨m, hm⟩ : ∃ m, halfN D.B = at' + (m + 1) := ⟨halfN D.B - at' - 1, by omega⟩
      rw [hm, hc1.walk, walk, hatB, hspec.1, hspec.2.1, hspec.2.2.1, hspec.2.2.2.1, if_neg (by omega)]
      congr 1
      split
      · rw [List.append_nil]
      · cases m with
        | zero => simp [walk]
        | succ m => rw [walk_stop _ (hst1 (at' + 1) (by omega) (by omega)), List.append_nil]
    have hk1 : walk (hb (D1.at (D.L.length + 1)) gen) gen (halfN D.B) 0 0 = data ++ t.take 55 ∧ All64 (D1.at (D.L.length + 1)) ∧ Lives (D1.at (D.L.length + 1)) gen life ∧ (∀ i < 2, (D1.at (D.L.length + 1))[i]? = D.B[i]?) := by
      rw [w2, ← hB1]; exact ⟨hwalk, hall1, hlv1, hroot1⟩
    rw [putF]
    by_cases h55 : t.length < 55
    · rw [if_pos h55]
      have e : t.take 55 = t := List.take_of_length_le (by omega)
      rw [e] at hD1 hk1 hatB hwalk hspec
      rw [hD1]
      have two1 : 2 ≤ D1.B.length := by have := hS.two; omega
      refine ⟨D1, at', t, rfl, hl1, by omega, w1, fun k h1 h2 => ?_, by omega, ⟨data, ⟨hall1, hS.g, hS.l, ⟨last, hc1, hlast⟩, hst1, by omega, two1⟩, rfl⟩, h55, ht⟩
      obtain rfl : k = D.L.length + 1 := by omega
      rw [show D.L.length + 1 - D.L.length = 1 by omega, Nat.mul_one, e]
      exact hk1
    · rw [if_neg h55]
      have hlt55 : (t.take 55).length = 55 := by rw [List.length_take]; omega
      have hc2 : Chain (hb D1.B gen) gen (at' + 1) life (data ++ t.take 55) := by
        have := Chain.snoc hc1 (by rw [hatB]; exact hspec.1) (by rw [hatB, hspec.2.1]; exact hlast) (by rw [hatB, hspec.2.2.1]; exact hlt55)
        rw [hatB, hspec.2.1, hspec.2.2.2.1] at this
        exact this
      by_cases he : t.length = 55
      · rw [if_pos he]
        have e : t.take 55 = t := List.take_of_length_le (by omega)
        rw [e] at hD1 hk1 hatB hwalk hspec hc2
        rw [hD1]
        have two1 : 2 ≤ D1.B.length := by have := hS.two; omega
        refine ⟨D1, at' + 1, [], rfl, hl1, by omega, w1, fun k h1 h2 => ?_, by omega, ⟨data ++ t, ⟨hall1, hS.g, hS.l, ⟨life, hc2, Nat.le_refl _⟩, fun i h1 h2 => hst1 i (by omega) h2, by omega, two1⟩, by simp⟩, by simp, by simp⟩
        obtain rfl : k = D.L.length + 1 := by omega
        rw [show D.L.length + 1 - D.L.length = 1 by omega, Nat.mul_one, e]
        exact hk1
      · rw [if_neg he, hD1]
        have hdl : (t.drop 55).length = t.length - 55 := List.length_drop
        obtain ⟨D2, at2, t2, k1, k2, k3, k4, k5, k6, ⟨data2, k7, k8⟩, k9, k10⟩ := ih D1 gen life (at' + 1) (t.drop 55) (data ++ t.take 55) (by omega)
          ⟨hall1, hS.g, hS.l, ⟨life, hc2, Nat.le_refl _⟩, fun i h1 h2 => hst1 i (by omega) h2, by omega, by have := hS.two; omega⟩ (fun x hx => ht x (List.mem_of_mem_drop hx)) (by omega) (by omega) hlv1
        rw [hh1] at k1 k5
        refine ⟨D2, at2, t2, k1, by omega, by omega, fun k hk => by rw [k4 k (by omega)]; exact w1 k hk, fun k h1 h2 => ?_, by omega, ⟨data2, k7, by rw [k8, List.append_assoc, List.take_append_drop]⟩, k9, k10⟩
        by_cases hk : k = D.L.length + 1
        · subst hk
          rw [k4 _ (by omega), show D.L.length + 1 - D.L.length = 1 by omega, Nat.mul_one]
          exact hk1
        · obtain ⟨q1, q2, q3, q4⟩ := k5 k (by omega) h2
          refine ⟨?_, q2, q3, fun i hi => by rw [q4 i hi]; exact hroot1 i hi⟩
          rw [q1, List.append_assoc]
          congr 1
          have e1 : 55 * (k - D.L.length) = 55 + 55 * (k - D1.L.length) := by omega
          rw [e1, List.take_add]
end Go.Proofs.Ytmlaconjeplhpaa.St

set_option linter.unusedVariables false
set_option linter.unusedSimpArgs false
namespace Go.Proofs.Ytmlaconjeplhpaa.St
open Go

def magicN : List Nat := [102, 117, 114, 108, 111, 110, 103, 49]
/-- Block n as one that tells a generation. -/
def cand (n : Nat) (b : Option Blk) (r : Nat × Nat × Bool) : Nat × Nat × Bool :=
  match b with
  | none => r
  | some b => if b.take 8 = magicN ∧ r.1 < four (b.drop 8) ∧ four (b.drop 8) % 2 = n then (four (b.drop 8), four (b.drop 12), true) else r
def rootF (B : List Blk) : Nat × Nat × Bool := cand 1 B[1]? (cand 0 B[0]? (1, 0, false))
def Low (n : Nat) (b : Option Blk) (gen : Nat) : Prop := ∀ c, b = some c → c.take 8 = magicN → four (c.drop 8) % 2 = n → four (c.drop 8) ≤ gen
def RootOK (B : List Blk) (gen size : Nat) (whole : Bool) : Prop := rootF B = (gen, size, whole) ∧ Low 0 B[0]? gen ∧ Low 1 B[1]? gen
def rootL (gen size : Nat) : List Nat := magicN ++ put4 gen ++ put4 size
theorem cand_le {n gen : Nat} {b : Option Blk} {r : Nat × Nat × Bool} (h : Low n b gen) (hr : r.1 ≤ gen) : (cand n b r).1 ≤ gen := by
  unfold cand
  split
  · exact hr
  · split
    · rename_i c hc
      exact h c rfl hc.1 hc.2.2
    · exact hr
theorem root_new {B : List Blk} {gen size gen' size' : Nat} {whole : Bool} (h : RootOK B gen size whole) (hg : 1 ≤ gen) (hg' : gen' = gen + 1) (hlt : gen' < 4294967296) (hs : size' < 4294967296) (h2 : 2 ≤ B.length) : RootOK (B.set (gen' % 2) (pad (rootL gen' size'))) gen' size' true := by
  obtain ⟨h0, h1, h3⟩ := h
  have e1 : (pad (rootL gen' size')).take 8 = magicN := rfl
  have e2 : four ((pad (rootL gen' size')).drop 8) = gen' := by
    have : (pad (rootL gen' size')).drop 8 = put4 gen' ++ (put4 size' ++ List.replicate (64 - (rootL gen' size').length) 0) := rfl
    rw [this]; exact four_put4 _ hlt _
  have e3 : four ((pad (rootL gen' size')).drop 12) = size' := by
    have : (pad (rootL gen' size')).drop 12 = put4 size' ++ List.replicate (64 - (rootL gen' size').length) 0 := rfl
    rw [this]; exact four_put4 _ hs _
  generalize pad (rootL gen' size') = b at *
  have hself : (B.set (gen' % 2) b)[gen' % 2]? = some b := by rw [List.getElem?_set, if_pos rfl, if_pos (by omega)]
  have lowB : ∀ n, Low n (some b) gen' := fun n c hc _ _ => by cases hc; omega
  have up : ∀ {n o}, Low n o gen → Low n o gen' := fun h c hc h1 h2 => by have := h c hc h1 h2; omega
  rcases Nat.mod_two_eq_zero_or_one gen' with h5 | h5
  · rw [h5] at hself ⊢
    have ho : (B.set 0 b)[1]? = B[1]? := by rw [List.getElem?_set, if_neg (by omega)]
    refine ⟨?_, by rw [hself]; exact lowB 0, by rw [ho]; exact up h3⟩
    unfold rootF
    rw [hself, ho]
    have c0 : cand 0 (some b) (1, 0, false) = (gen', size', true) := by
      simp only [cand]
      rw [if_pos ⟨e1, (by show 1 < _; omega), by omega⟩, e2, e3]
    rw [c0]
    unfold cand
    split
    · rfl
    · rename_i c hc
      rw [if_neg]
      rintro ⟨q1, q2, q3⟩
      have := h3 c hc q1 q3
      have q2' : gen' < four (c.drop 8) := q2
      omega
  · rw [h5] at hself ⊢
    have ho : (B.set 1 b)[0]? = B[0]? := by rw [List.getElem?_set, if_neg (by omega)]
    refine ⟨?_, by rw [ho]; exact up h1, by rw [hself]; exact lowB 1⟩
    unfold rootF
    rw [hself, ho]
    have := cand_le (r := (1, 0, false)) h1 hg
    generalize cand 0 B[0]? (1, 0, false) = r at *
    simp only [cand]
    rw [if_pos ⟨e1, by omega, by omega⟩, e2, e3]

def lifeOf (b : Blk) : Nat := if 0 < bGen b then bLife b else 0
def maxL (l : List Blk) : Nat := l.foldl (fun m b => max m (lifeOf b)) 0
theorem foldl_max (l : List Blk) : ∀ m, m ≤ l.foldl (fun m b => max m (lifeOf b)) m ∧ (∀ b ∈ l, lifeOf b ≤ l.foldl (fun m b => max m (lifeOf b)) m) ∧ ∀ X, m ≤ X → (∀ b ∈ l, lifeOf b ≤ X) → l.foldl (fun m b => max m (lifeOf b)) m ≤ X := by
  induction l with
  | nil => intro m; simp
  | cons b l ih =>
    intro m
    obtain ⟨h1, h2, h3⟩ := ih (max m (lifeOf b))
    rw [List.foldl_cons]
    refine ⟨by omega, fun c hc => ?_, fun X hm hX => h3 X ?_ (fun c hc => hX c (by simp [hc]))⟩
    · rcases List.mem_cons.1 hc with rfl | hc
      · omega
      · exact h2 c hc
    · have := hX b (by simp); omega
def eldest (B : List Blk) : Nat := (maxL (B.drop 2) + 1) % 4294967296
theorem eldest_le {B : List Blk} {gen life : Nat} (h : Lives B gen life) (hl : life < 4294967295) : eldest B ≤ life + 1 ∧ ∀ n, 2 ≤ n → n < B.length → 0 < bGen (B.getD n (List.replicate 64 0)) → bLife (B.getD n (List.replicate 64 0)) < eldest B := by
  obtain ⟨_, h2, h3⟩ := foldl_max (B.drop 2) 0
  have hm : maxL (B.drop 2) ≤ life := h3 life (Nat.zero_le _) (fun b hb => by
    obtain ⟨i, hi, rfl⟩ := List.getElem_of_mem hb
    rw [List.length_drop] at hi
    have h0 := h (2 + i) (by omega)
    rw [List.getD_eq_getElem?_getD, List.getElem?_eq_getElem (by omega)] at h0
    simp only [Option.getD_some] at h0
    rw [List.getElem_drop]
    unfold lifeOf
    split
    · exact h0.2 (by assumption)
    · omega)
  have he : eldest B = maxL (B.drop 2) + 1 := Nat.mod_eq_of_lt (by omega)
  refine ⟨by omega, fun n hn hnl hg => ?_⟩
  rw [he]
  have h0 := h2 (B.getD n (List.replicate 64 0)) (by
    rw [List.getD_eq_getElem?_getD, List.getElem?_eq_getElem hnl]
    simp only [Option.getD_some]
    have : B[n] = (B.drop 2)[n - 2]'(by rw [List.length_drop]; omega) := by rw [List.getElem_drop]; congr 1; omega
    rw [this]
    exact List.getElem_mem _)
  have hlf : lifeOf (B.getD n (List.replicate 64 0)) = bLife (B.getD n (List.replicate 64 0)) := if_pos hg
  rw [hlf] at h0
  have : maxL (B.drop 2) = (B.drop 2).foldl (fun m b => max m (lifeOf b)) 0 := rfl
  omega

/-- What Open finds. -/
structure Found where
  gen : Nat
  life : Nat
  whole : Bool
  snap : List Nat
  list : List (List Nat)
  at' : Nat
  tail : List Nat
def allF (B : List Blk) : List Nat := walk (hb B (rootF B).1) (rootF B).1 (halfN B) 0 0
def foundOf (gen life : Nat) (whole : Bool) (size : Nat) (all : List Nat) : Found :=
  ⟨gen, life, whole, all.take size, recs (all.drop size), (size + (encAll (recs (all.drop size))).length) / 55, (all.take (size + (encAll (recs (all.drop size))).length)).drop ((size + (encAll (recs (all.drop size))).length) / 55 * 55)⟩
def openF (B : List Blk) : Found :=
  if (allF B).length < (rootF B).2.1 then foundOf (rootF B).1 (eldest B) false 0 [] else foundOf (rootF B).1 (eldest B) (rootF B).2.2 (rootF B).2.1 (allF B)

/-- What holds of a store on its disk: it holds this snapshot and these records; of them so many are safe. -/
structure SInv (D : Dsk) (gen life at' : Nat) (tail : List Nat) (whole : Bool) (snap : List Nat) (list : List (List Nat)) (safe bnd : Nat) : Prop where
  len : 4 ≤ D.B.length ∧ D.B.length ≤ 65536
  root : RootOK D.B gen snap.length whole
  r2 : ∀ k ≤ D.L.length, ∀ i < 2, (D.at k)[i]? = D.B[i]?
  all : ∀ k ≤ D.L.length, All64 (D.at k)
  lives : ∀ k ≤ D.L.length, Lives (D.at k) gen life
  bnd : 1 ≤ gen ∧ gen ≤ bnd ∧ life ≤ bnd ∧ bnd < 1000000
  stand : ∃ data, Stand D.B gen life at' data ∧ data ++ tail = snap ++ encAll list
  tl : tail.length < 55 ∧ ∀ x ∈ tail, x < 256
  hist : ∀ k ≤ D.L.length, ∃ n j, walk (hb (D.at k) gen) gen (halfN D.B) 0 0 = snap ++ encAll (list.take n) ++ j ∧ recs j = [] ∧ safe ≤ n ∧ n ≤ list.length ∧ (k = 0 → n = safe) ∧ (k = D.L.length → n = list.length)
  szs : ∀ p ∈ list, p.length ≤ 65536 ∧ ∀ x ∈ p, x < 256
  snp : snap.length ≤ 524288 ∧ ∀ x ∈ snap, x < 256
theorem halfN_at (D : Dsk) (k : Nat) : halfN (D.at k) = halfN D.B := by unfold halfN; rw [D.at_length]
theorem rootF_congr {B B' : List Blk} (h : ∀ i < 2, B'[i]? = B[i]?) : rootF B' = rootF B ∧ ∀ gen size whole, RootOK B gen size whole → RootOK B' gen size whole := by
  have e : rootF B' = rootF B := by unfold rootF; rw [h 0 (by omega), h 1 (by omega)]
  refine ⟨e, fun gen size whole hr => ⟨by rw [e]; exact hr.1, by rw [h 0 (by omega)]; exact hr.2.1, by rw [h 1 (by omega)]; exact hr.2.2⟩⟩
/-- What stands on a disk is found. -/
theorem open_ok {B : List Blk} {gen life bnd : Nat} {whole : Bool} {snap j : List Nat} {list : List (List Nat)} (hlen : 4 ≤ B.length ∧ B.length ≤ 65536) (hr : RootOK B gen snap.length whole) (ha : All64 B) (hl : Lives B gen life) (hb1 : 1 ≤ gen ∧ gen ≤ bnd ∧ life + 1 ≤ bnd ∧ bnd < 1000000)
    (hw : walk (hb B gen) gen (halfN B) 0 0 = snap ++ encAll list ++ j) (hj : recs j = []) (hs : ∀ p ∈ list, p.length ≤ 65536 ∧ ∀ x ∈ p, x < 256) (hsn : snap.length ≤ 524288 ∧ ∀ x ∈ snap, x < 256) :
    ∃ at' tail, openF B = ⟨gen, eldest B, whole, snap, list, at', tail⟩ ∧ SInv ⟨B, []⟩ gen (eldest B) at' tail whole snap list list.length bnd := by
  have hroot := hr.1
  obtain ⟨he1, he2⟩ := eldest_le hl (by omega)
  have hall : allF B = snap ++ encAll list ++ j := by unfold allF; rw [hroot]; exact hw
  have hd : (snap ++ encAll list ++ j).drop snap.length = encAll list ++ j := by rw [List.append_assoc, List.drop_left]
  have hrec : recs ((snap ++ encAll list ++ j).drop snap.length) = list := by
    rw [hd, recs_all (fun p hp => (hs p hp).1), hj, List.append_nil]
  have hsnap : (snap ++ encAll list ++ j).take snap.length = snap := by rw [List.append_assoc, List.take_left]
  have hE : (snap ++ encAll list ++ j).take (snap.length + (encAll list).length) = snap ++ encAll list := by rw [← List.length_append, List.take_left]
  generalize hEn : snap.length + (encAll list).length = E at *
  have hEl : (snap ++ encAll list).length = E := by rw [List.length_append]; exact hEn
  have hopen : openF B = ⟨gen, eldest B, whole, snap, list, E / 55, (snap ++ encAll list).drop (E / 55 * 55)⟩ := by
    unfold openF
    rw [hall, hroot]
    simp only
    rw [if_neg (by simp only [List.length_append]; omega)]
    unfold foundOf
    rw [hrec, hsnap, hEn, hE]
  have h64 := hb_64 ha gen
  have hlt : ∀ x ∈ snap ++ encAll list, x < 256 := by
    intro x hx
    have := walk_lt (H := hb B gen) (gen := gen) (fun i => (h64 i).2) (halfN B) 0 0 x (by rw [hw]; exact List.mem_append.2 (.inl hx))
    exact this
  obtain ⟨c1, last, c2⟩ := chain_of_walk (H := hb B gen) (gen := gen) (h := halfN B) (fun i => (h64 i).1) (E / 55) (by rw [hw]; simp only [List.length_append] at hEl ⊢; omega)
  have hdata : (walk (hb B gen) gen (halfN B) 0 0).take (E / 55 * 55) = (snap ++ encAll list).take (E / 55 * 55) := by
    rw [hw, List.take_append_of_le_length (by rw [hEl]; omega)]
  rw [hdata] at c2
  have hidx : ∀ i, i < halfN B → base (halfN B) gen + i < B.length := fun i hi => half_room (by omega) hi
  have hlow : ∀ i, i < halfN B → bGen (hb B gen i) = gen → bLife (hb B gen i) < eldest B := fun i hi hg => he2 _ (by unfold base; omega) (hidx i hi) (by rw [show B.getD (base (halfN B) gen + i) (List.replicate 64 0) = hb B gen i from rfl, hg]; omega)
  have at0 : ∀ k, (Dsk.mk B []).at k = B := fun k => by simp [Dsk.at, undo]
  refine ⟨E / 55, _, hopen, ⟨hlen, hr, fun k _ i _ => by rw [at0], fun k _ => by rw [at0]; exact ha, fun k _ => ?_, by omega, ⟨_, ⟨ha, by omega, by omega, ⟨last, c2, ?_⟩, ?_, c1, by simp only; omega⟩, List.take_append_drop _ _⟩, ⟨by rw [List.length_drop, hEl]; omega, fun x hx => hlt x (List.mem_of_mem_drop hx)⟩, fun k hk => ?_, hs, hsn⟩⟩
  · rw [at0]
    intro n hn
    refine ⟨(hl n hn).1, fun hg => ?_⟩
    by_cases hnl : n < B.length
    · exact Nat.le_of_lt (he2 n hn hnl hg)
    · rw [List.getD_eq_getElem?_getD, List.getElem?_eq_none (by omega)] at hg
      simp only [Option.getD_none] at hg
      exact absurd hg (by decide)
  · exact c2.last_le (fun i hi hg => Nat.le_of_lt (hlow i (by omega) hg))
  · intro i h1 h2
    by_cases hg : bGen (hb B gen i) = gen
    · exact .inr (hlow i h2 hg)
    · exact .inl hg
  · rw [at0]
    exact ⟨list.length, j, by rw [List.take_length]; exact hw, hj, Nat.le_refl _, Nat.le_refl _, fun _ => rfl, fun _ => rfl⟩
/-- A crash, and what is opened then. -/
theorem sinv_crash {D : Dsk} {gen life at' safe bnd : Nat} {tail snap : List Nat} {whole : Bool} {list : List (List Nat)} (h : SInv D gen life at' tail whole snap list safe bnd) (hb1 : bnd + 1 < 1000000) (keep : Nat) :
    ∃ n at2 tail2, safe ≤ n ∧ n ≤ list.length ∧ (keep = 0 → n = safe) ∧ (D.L.length ≤ keep → n = list.length) ∧ openF (D.at keep) = ⟨gen, eldest (D.at keep), whole, snap, list.take n, at2, tail2⟩ ∧ SInv ⟨D.at keep, []⟩ gen (eldest (D.at keep)) at2 tail2 whole snap (list.take n) n (bnd + 1) := by
  obtain ⟨k, hk1, hk2⟩ : ∃ k, k ≤ D.L.length ∧ D.at keep = D.at k ∧ (keep = 0 → k = 0) ∧ (D.L.length ≤ keep → k = D.L.length) := by
    by_cases hle : keep ≤ D.L.length
    · exact ⟨keep, hle, rfl, id, fun h => by omega⟩
    · refine ⟨D.L.length, Nat.le_refl _, ?_, fun h => by omega, fun _ => rfl⟩
      unfold Dsk.at
      rw [List.drop_of_length_le (by omega), List.drop_length]
  obtain ⟨e, hk3, hk4⟩ := hk2
  rw [e]
  obtain ⟨n, j, h1, h2, h3, h4, h5, h6⟩ := h.hist k hk1
  obtain ⟨b1, b2, b3, b4⟩ := h.bnd
  have hroot := (rootF_congr (h.r2 k hk1)).2 _ _ _ h.root
  obtain ⟨at2, tail2, o1, o2⟩ := open_ok (bnd := bnd + 1) (by rw [D.at_length]; exact h.len) hroot (h.all k hk1) (h.lives k hk1) (by omega) (by rw [halfN_at]; exact h1) h2 (fun p hp => h.szs p (List.mem_of_mem_take hp)) h.snp
  have hl : (list.take n).length = n := by rw [List.length_take]; omega
  rw [hl] at o2
  exact ⟨n, at2, tail2, h3, h4, fun h0 => h5 (hk3 h0), fun h0 => h6 (hk4 h0), o1, o2⟩
theorem sinv_sync {D : Dsk} {gen life at' safe bnd : Nat} {tail snap : List Nat} {whole : Bool} {list : List (List Nat)} (h : SInv D gen life at' tail whole snap list safe bnd) : SInv ⟨D.B, []⟩ gen life at' tail whole snap list list.length bnd := by
  have at0 : ∀ k, (Dsk.mk D.B []).at k = D.B := fun k => by simp [Dsk.at, undo]
  have hL := Nat.le_refl D.L.length
  have hB := D.at_all
  refine ⟨h.len, h.root, fun k _ i _ => by rw [at0], fun k _ => by rw [at0, ← hB]; exact h.all _ hL, fun k _ => by rw [at0, ← hB]; exact h.lives _ hL, h.bnd, h.stand, h.tl, fun k _ => ?_, h.szs, h.snp⟩
  rw [at0]
  obtain ⟨n, j, h1, h2, h3, h4, h5, h6⟩ := h.hist _ hL
  have := h6 rfl
  subst this
  rw [hB] at h1
  exact ⟨list.length, j, h1, h2, Nat.le_refl _, Nat.le_refl _, fun _ => rfl, fun _ => rfl⟩
/-- One more record. -/
theorem sinv_append {D : Dsk} {gen life at' safe bnd : Nat} {tail snap p : List Nat} {whole : Bool} {list : List (List Nat)} (h : SInv D gen life at' tail whole snap list safe bnd) (hp : p.length ≤ 65536) (hpb : ∀ x ∈ p, x < 256) (hfit : at' * 55 + tail.length + (encRec p).length ≤ halfN D.B * 55) :
    ∃ D' at2 t2, putF gen life (base (halfN D.B) gen) ((tail ++ encRec p).length + 1) D at' (tail ++ encRec p) = (D', at2, t2) ∧ SInv D' gen life at2 t2 whole snap (list ++ [p]) safe bnd ∧ D'.B.length = D.B.length := by
  obtain ⟨data, hS, hdt⟩ := h.stand
  have hel : (encRec p).length = 4 + p.length := by simp [encRec, put4]; omega
  have htb : ∀ x ∈ tail ++ encRec p, x < 256 := fun x hx => (List.mem_append.1 hx).elim (h.tl.2 x) (encRec_lt hpb x)
  have hlv := h.lives D.L.length (Nat.le_refl _)
  rw [D.at_all] at hlv
  obtain ⟨D', at2, t2, k1, k2, k3, k4, k5, k6, ⟨data2, k7, k8⟩, k9, k10⟩ := put_ok ((tail ++ encRec p).length + 1) D gen life at' (tail ++ encRec p) data (by omega) hS htb (by omega) (by rw [List.length_append]; omega) hlv
  have hh : halfN D'.B = halfN D.B := by unfold halfN; rw [k2]
  have hB' := D'.at_all
  have r2' : ∀ i < 2, D'.B[i]? = D.B[i]? := by rw [← hB']; exact (k5 _ k3 (Nat.le_refl _)).2.2.2
  have old : ∀ k, k ≤ D.L.length ∨ D.L.length < k := fun k => by omega
  refine ⟨D', at2, t2, k1, ⟨by rw [k2]; exact h.len, (rootF_congr r2').2 _ _ _ h.root, fun k hk i hi => ?_, fun k hk => ?_, fun k hk => ?_, h.bnd, ⟨data2, k7, ?_⟩, ⟨k9, k10⟩, fun k hk => ?_, ?_, h.snp⟩, k2⟩
  · rw [r2' i hi]
    rcases old k with ho | ho
    · rw [k4 k ho]; exact h.r2 k ho i hi
    · exact (k5 k ho hk).2.2.2 i hi
  · rcases old k with ho | ho
    · rw [k4 k ho]; exact h.all k ho
    · exact (k5 k ho hk).2.1
  · rcases old k with ho | ho
    · rw [k4 k ho]; exact h.lives k ho
    · exact (k5 k ho hk).2.2.1
  · rw [k8, ← List.append_assoc, hdt, encAll_append]
    simp [encAll]
  · rw [hh]
    rcases old k with ho | ho
    · rw [k4 k ho]
      obtain ⟨n, j, h1, h2, h3, h4, h5, h6⟩ := h.hist k ho
      exact ⟨n, j, by rw [List.take_append_of_le_length h4]; exact h1, h2, h3, by rw [List.length_append]; omega, h5, fun hk' => by omega⟩
    · have hw := (k5 k ho hk).1
      obtain ⟨m, hm⟩ : ∃ m, 55 * (k - D.L.length) = m := ⟨_, rfl⟩
      have htl := h.tl.1
      obtain ⟨n0, j0, _, _, s3, s4, _, _⟩ := h.hist 0 (Nat.zero_le _)
      rw [hm, List.take_append, List.take_of_length_le (by omega), ← List.append_assoc, hdt] at hw
      by_cases hlt : m - tail.length < (encRec p).length
      · refine ⟨list.length, (encRec p).take (m - tail.length), by rw [List.take_append_of_le_length (Nat.le_refl _), List.take_length]; exact hw, recs_part hp rfl hlt, by omega, by rw [List.length_append]; omega, fun h0 => by omega, fun hk' => ?_⟩
        exfalso
        rw [List.length_append, ← hk'] at k6
        omega
      · refine ⟨list.length + 1, [], ?_, rfl, by omega, by rw [List.length_append]; exact Nat.le_refl _, fun h0 => by omega, fun _ => by rw [List.length_append]; rfl⟩
        rw [hw, List.take_of_length_le (by omega), List.take_of_length_le (by rw [List.length_append]; exact Nat.le_refl _), encAll_append]
        simp [encAll]
  · intro q hq
    rcases List.mem_append.1 hq with hq | hq
    · exact h.szs q hq
    · rw [List.mem_singleton.1 hq]; exact ⟨hp, hpb⟩
theorem hb_set2 {B : List Blk} {gen i n : Nat} {b : Blk} (h : n < 2) : hb (B.set n b) gen i = hb B gen i := by
  unfold hb halfN
  rw [List.length_set, List.getD_eq_getElem?_getD, List.getElem?_set, if_neg (by unfold base; omega), List.getD_eq_getElem?_getD]
/-- A snapshot in the place of all. -/
theorem sinv_checkpoint {D : Dsk} {gen life at' safe bnd : Nat} {tail snap p : List Nat} {whole : Bool} {list : List (List Nat)} (h : SInv D gen life at' tail whole snap list safe bnd) (hb1 : bnd + 1 < 1000000) (hp : p.length ≤ 524288) (hpb : ∀ x ∈ p, x < 256) (hfit : p.length ≤ halfN D.B * 55) :
    ∃ D' at2 t2, putF (gen + 1) life (base (halfN D.B) (gen + 1)) (p.length + 1) ⟨D.B, []⟩ 0 p = (D', at2, t2) ∧ D'.B.length = D.B.length ∧
      SInv ⟨((Dsk.mk D'.B []).write ((gen + 1) % 2) (pad (rootL (gen + 1) p.length))).B, []⟩ (gen + 1) life at2 t2 true p [] 0 (bnd + 1) := by
  obtain ⟨data, hS, hdt⟩ := h.stand
  obtain ⟨b1, b2, b3, b4⟩ := h.bnd
  have hlen := h.len
  have hlv := h.lives D.L.length (Nat.le_refl _)
  have hal := h.all D.L.length (Nat.le_refl _)
  rw [D.at_all] at hlv hal
  have hlv' : Lives D.B (gen + 1) life := fun n hn => ⟨by have := (hlv n hn).1; omega, (hlv n hn).2⟩
  have hne : ∀ i, bGen (hb D.B (gen + 1) i) ≠ gen + 1 := fun i => by
    have := (hlv (base (halfN D.B) (gen + 1) + i) (by unfold base; omega)).1
    have e : hb D.B (gen + 1) i = D.B.getD (base (halfN D.B) (gen + 1) + i) (List.replicate 64 0) := rfl
    rw [e]; omega
  have hhalf : 0 < halfN D.B := by unfold halfN; omega
  obtain ⟨D', at2, t2, k1, k2, k3, k4, k5, k6, ⟨data2, k7, k8⟩, k9, k10⟩ := put_ok (p.length + 1) ⟨D.B, []⟩ (gen + 1) life 0 p [] (by omega)
    ⟨hal, by omega, by omega, ⟨0, .nil, Nat.zero_le _⟩, fun i _ _ => .inl (hne i), Nat.zero_le _, by simp only; omega⟩ hpb hhalf (by simp only; omega) hlv'
  simp only at k1 k2 k3 k5 k6
  have hB' := D'.at_all
  obtain ⟨w1, w2, w3, w4⟩ := k5 _ k3 (Nat.le_refl _)
  rw [hB'] at w1 w2 w3 w4
  have hwr : (Dsk.mk D'.B []).write ((gen + 1) % 2) (pad (rootL (gen + 1) p.length)) = ⟨D'.B.set ((gen + 1) % 2) (pad (rootL (gen + 1) p.length)), [] ++ [((gen + 1) % 2, D'.B.getD ((gen + 1) % 2) [], pad (rootL (gen + 1) p.length))]⟩ := by
    unfold Dsk.write; rw [if_pos (by simp only; omega)]
  refine ⟨D', at2, t2, k1, k2, ?_⟩
  rw [hwr]
  show SInv ⟨D'.B.set ((gen + 1) % 2) (pad (rootL (gen + 1) p.length)), []⟩ (gen + 1) life at2 t2 true p [] 0 (bnd + 1)
  have h2 : (gen + 1) % 2 < 2 := by omega
  have hrl : (rootL (gen + 1) p.length).length = 16 := rfl
  have hb64 : (pad (rootL (gen + 1) p.length)).length = 64 ∧ ∀ x ∈ pad (rootL (gen + 1) p.length), x < 256 := by
    refine ⟨pad_length (by omega), pad_lt ?_⟩
    intro x hx
    unfold rootL at hx
    simp only [List.mem_append] at hx
    rcases hx with (hx | hx) | hx
    · unfold magicN at hx
      simp only [List.mem_cons, List.not_mem_nil, or_false] at hx
      omega
    · exact put4_lt _ x hx
    · exact put4_lt _ x hx
  have hroot := root_new (size' := p.length) ((rootF_congr w4).2 _ _ _ h.root) b1 rfl (by omega) (by omega) (by rw [k2]; omega)
  have hhb : ∀ i, hb (D'.B.set ((gen + 1) % 2) (pad (rootL (gen + 1) p.length))) (gen + 1) i = hb D'.B (gen + 1) i := fun i => hb_set2 h2
  have hlset : (D'.B.set ((gen + 1) % 2) (pad (rootL (gen + 1) p.length))).length = D.B.length := by rw [List.length_set, k2]
  have hlvs : Lives (D'.B.set ((gen + 1) % 2) (pad (rootL (gen + 1) p.length))) (gen + 1) life := by
    intro n hn
    rw [List.getD_eq_getElem?_getD, List.getElem?_set, if_neg (by omega)]
    have := w3 n hn
    rw [List.getD_eq_getElem?_getD] at this
    exact this
  have hals := set_64 w2 (n := (gen + 1) % 2) hb64
  generalize D'.B.set ((gen + 1) % 2) (pad (rootL (gen + 1) p.length)) = B2 at *
  have at0 : ∀ k, (Dsk.mk B2 []).at k = B2 := fun k => by simp [Dsk.at, undo]
  have hh : halfN B2 = halfN D.B := by unfold halfN; rw [hlset]
  have hh' : halfN D'.B = halfN D.B := by unfold halfN; rw [k2]
  have hfun : hb B2 (gen + 1) = hb D'.B (gen + 1) := funext hhb
  obtain ⟨q1, q2, q3, ⟨last, q4, q5⟩, q6, q7, q8⟩ := k7
  refine ⟨by simp only [hlset]; exact hlen, hroot, fun k _ i _ => by rw [at0], fun k _ => by rw [at0]; exact hals, fun k _ => by rw [at0]; exact hlvs, by omega, ⟨data2, ⟨hals, q2, q3, ⟨last, by simp only [hfun]; exact q4, q5⟩, fun i h1 h2 => ?_, by simp only [hh]; rw [hh'] at q7; exact q7, by simp only [hlset]; omega⟩, ?_⟩, ⟨k9, k10⟩, fun k _ => ?_, by simp, ⟨hp, hpb⟩⟩
  · simp only [hfun]
    exact q6 i h1 (by simp only [hh] at h2; omega)
  · rw [k8]; simp [encAll]
  · rw [at0]
    simp only [hh, hfun]
    refine ⟨0, [], ?_, rfl, Nat.le_refl _, Nat.le_refl _, fun _ => rfl, fun _ => rfl⟩
    rw [w1]
    simp only [List.nil_append, encAll, List.take_nil, List.flatMap_nil, List.append_nil]
    exact List.take_of_length_le (by simp only [List.length_nil] at k6; omega)
/-- A new disk, opened. -/
theorem sinv_new {n bnd : Nat} (h : 4 ≤ n ∧ n ≤ 65536) (hb1 : 1 ≤ bnd ∧ bnd < 1000000) : ∃ at' tail, openF (List.replicate n (List.replicate 64 0)) = ⟨1, eldest (List.replicate n (List.replicate 64 0)), false, [], [], at', tail⟩ ∧ SInv ⟨List.replicate n (List.replicate 64 0), []⟩ 1 (eldest (List.replicate n (List.replicate 64 0))) at' tail false [] [] 0 bnd := by
  have hget : ∀ i, (List.replicate n (List.replicate 64 0)).getD i (List.replicate 64 0) = List.replicate 64 0 := fun i => by
    rw [List.getD_eq_getElem?_getD]
    cases hq : (List.replicate n (List.replicate 64 0))[i]? with
    | none => rfl
    | some b => exact List.eq_of_mem_replicate (List.mem_of_getElem? hq)
  have hz : bGen (List.replicate 64 0) = 0 := by decide
  have hlow : ∀ m i gen, Low m (List.replicate n (List.replicate 64 0))[i]? gen := fun m i gen c hc h1 => by
    have : c = List.replicate 64 0 := List.eq_of_mem_replicate (List.mem_of_getElem? hc)
    rw [this] at h1
    exact absurd h1 (by decide)
  have hcand : ∀ m i r, cand m (List.replicate n (List.replicate 64 0))[i]? r = r := fun m i r => by
    unfold cand
    split
    · rfl
    · rename_i c hc
      have : c = List.replicate 64 0 := List.eq_of_mem_replicate (List.mem_of_getElem? hc)
      rw [if_neg]
      rintro ⟨h1, _⟩
      rw [this] at h1
      exact absurd h1 (by decide)
  have := open_ok (B := List.replicate n (List.replicate 64 0)) (gen := 1) (life := 0) (bnd := bnd) (whole := false) (snap := []) (j := []) (list := []) (by simp; exact h) ⟨by unfold rootF; rw [hcand, hcand]; rfl, hlow _ _ _, hlow _ _ _⟩
    (fun b hb => by rw [List.eq_of_mem_replicate hb]; exact ⟨by simp, fun x hx => by rw [List.eq_of_mem_replicate hx]; omega⟩)
    (fun m _ => by rw [hget, hz]; exact ⟨by omega, fun h => absurd h (by omega)⟩) (by omega)
    (by
      rw [walk_stop]
      · rfl
      · left
        unfold hb
        rw [hget, hz]; omega) rfl (by simp) (by simp)
  simpa using this
end Go.Proofs.Ytmlaconjeplhpaa.St
