/- A store on a disk, in plain Lean: what blocks tell, and how a half of the disk is read. -/
import Derived.Test.YtmlaconjeplhpaaVcInt
set_option linter.unusedVariables false
set_option linter.unusedSimpArgs false
namespace Go.Proofs.Ytmlaconjeplhpaa.St
open Go

/-- The number that four bytes write, the lowest first. -/
def four (l : List Nat) : Nat := l.getD 0 0 + 256 * l.getD 1 0 + 65536 * l.getD 2 0 + 16777216 * l.getD 3 0
def put4 (x : Nat) : List Nat := [x % 256, x / 256 % 256, x / 65536 % 256, x / 16777216 % 256]
theorem four_put4 (x : Nat) (h : x < 4294967296) (l : List Nat) : four (put4 x ++ l) = x := by
  unfold four put4
  simp only [List.cons_append, List.nil_append, List.getD_cons_zero, List.getD_cons_succ]
  omega
theorem put4_length (x : Nat) : (put4 x).length = 4 := rfl
theorem put4_lt (x : Nat) : ∀ b ∈ put4 x, b < 256 := by
  intro b hb
  unfold put4 at hb
  simp only [List.mem_cons, List.not_mem_nil, or_false] at hb
  omega
theorem getD_lt {l : List Nat} (h : ∀ b ∈ l, b < 256) (i : Nat) : l.getD i 0 < 256 := by
  rw [List.getD_eq_getElem?_getD]
  cases hq : l[i]? with
  | none => simp
  | some x => exact h x (List.mem_of_getElem? hq)
theorem four_lt {l : List Nat} (h : ∀ b ∈ l, b < 256) : four l < 4294967296 := by
  have h0 := getD_lt h 0
  have h1 := getD_lt h 1
  have h2 := getD_lt h 2
  have h3 := getD_lt h 3
  unfold four
  omega

abbrev Blk := List Nat
def bGen (b : Blk) : Nat := four b
def bLife (b : Blk) : Nat := four (b.drop 4)
def bUsed (b : Blk) : Nat := b.getD 8 0
def bDat (b : Blk) : List Nat := (b.drop 9).take (bUsed b)
/-- A block's bytes, noughts behind them. -/
def pad (l : List Nat) : Blk := l ++ List.replicate (64 - l.length) 0
theorem pad_length {l : List Nat} (h : l.length ≤ 64) : (pad l).length = 64 := by simp [pad]; omega
theorem pad_lt {l : List Nat} (h : ∀ b ∈ l, b < 256) : ∀ b ∈ pad l, b < 256 := by
  intro b hb
  rcases List.mem_append.1 hb with h1 | h1
  · exact h b h1
  · rw [List.eq_of_mem_replicate h1]; omega
def mkL (gen life : Nat) (d : List Nat) : List Nat := put4 gen ++ put4 life ++ ([d.length] ++ d)
def mkB (gen life : Nat) (d : List Nat) : Blk := pad (mkL gen life d)
theorem mkL_length (gen life : Nat) (d : List Nat) : (mkL gen life d).length = 9 + d.length := by simp [mkL, put4]; omega
theorem mkB_spec {gen life : Nat} {d : List Nat} (hg : gen < 4294967296) (hl : life < 4294967296) (hd : d.length ≤ 55) :
    bGen (mkB gen life d) = gen ∧ bLife (mkB gen life d) = life ∧ bUsed (mkB gen life d) = d.length ∧ bDat (mkB gen life d) = d ∧ (mkB gen life d).length = 64 := by
  have e1 : mkB gen life d = put4 gen ++ (put4 life ++ (d.length :: (d ++ List.replicate (64 - (mkL gen life d).length) 0))) := by simp [mkB, pad, mkL]
  have e2 : (mkB gen life d).drop 4 = put4 life ++ (d.length :: (d ++ List.replicate (64 - (mkL gen life d).length) 0)) := by rw [e1]; rfl
  have e3 : (mkB gen life d).getD 8 0 = d.length := by rw [e1]; simp [put4]
  have e4 : (mkB gen life d).drop 9 = d ++ List.replicate (64 - (mkL gen life d).length) 0 := by rw [e1]; rfl
  refine ⟨?_, ?_, e3, ?_, ?_⟩
  · unfold bGen; rw [e1]; exact four_put4 gen hg _
  · unfold bLife; rw [e2]; exact four_put4 life hl _
  · unfold bDat bUsed; rw [e3, e4]; exact List.take_left
  · exact pad_length (by rw [mkL_length]; omega)

/-- The used bytes of a half's blocks, as long as they go on: so many blocks from block i on, behind a block of that life. -/
def walk (H : Nat → Blk) (gen : Nat) : Nat → Nat → Nat → List Nat
  | 0, _, _ => []
  | n + 1, i, last => if bGen (H i) ≠ gen ∨ bLife (H i) < last ∨ 55 < bUsed (H i) then [] else bDat (H i) ++ (if bUsed (H i) < 55 then [] else walk H gen n (i + 1) (bLife (H i)))
/-- The first m blocks are full; last is the life of the last one. -/
inductive Chain (H : Nat → Blk) (gen : Nat) : Nat → Nat → List Nat → Prop
  | nil : Chain H gen 0 0 []
  | snoc {m last : Nat} {data : List Nat} : Chain H gen m last data → bGen (H m) = gen → last ≤ bLife (H m) → bUsed (H m) = 55 → Chain H gen (m + 1) (bLife (H m)) (data ++ bDat (H m))
theorem Chain.walk {H : Nat → Blk} {gen : Nat} : ∀ {m last : Nat} {data : List Nat}, Chain H gen m last data → ∀ n, walk H gen (m + n) 0 0 = data ++ walk H gen n m last
  | _, _, _, .nil, n => by simp
  | _, _, _, .snoc (m := m) (last := last) (data := data) c h1 h2 h3, n => by
    rw [show m + 1 + n = m + (n + 1) by omega, c.walk (n + 1), List.append_assoc]
    congr 1
    rw [St.walk, if_neg (by omega), if_neg (by omega)]
theorem Chain.length {H : Nat → Blk} {gen : Nat} (hH : ∀ i, (H i).length = 64) : ∀ {m last : Nat} {data : List Nat}, Chain H gen m last data → data.length = m * 55
  | _, _, _, .nil => rfl
  | _, _, _, .snoc (m := m) c h1 h2 h3 => by
    rw [List.length_append, c.length hH]
    unfold bDat
    rw [List.length_take, List.length_drop, hH, h3]
    omega
theorem Chain.congr {H H' : Nat → Blk} {gen : Nat} : ∀ {m last : Nat} {data : List Nat}, Chain H gen m last data → (∀ i < m, H' i = H i) → Chain H' gen m last data
  | _, _, _, .nil, _ => .nil
  | _, _, _, .snoc (m := m) c h1 h2 h3, h => by
    have := Chain.snoc (H := H') (gen := gen) (c.congr (fun i hi => h i (by omega))) (by rw [h m (by omega)]; exact h1) (by rw [h m (by omega)]; exact h2) (by rw [h m (by omega)]; exact h3)
    rw [h m (by omega)] at this
    exact this
theorem Chain.last_le {H : Nat → Blk} {gen life : Nat} : ∀ {m last : Nat} {data : List Nat}, Chain H gen m last data → (∀ i < m, bGen (H i) = gen → bLife (H i) ≤ life) → last ≤ life
  | _, _, _, .nil, _ => Nat.zero_le _
  | _, _, _, .snoc (m := m) c h1 h2 h3, h => h m (by omega) h1
/-- What was read in whole blocks stands in full ones. -/
theorem chain_of_walk {H : Nat → Blk} {gen h : Nat} (hH : ∀ i, (H i).length = 64) : ∀ m, m * 55 ≤ (walk H gen h 0 0).length → m ≤ h ∧ ∃ last, Chain H gen m last ((walk H gen h 0 0).take (m * 55))
  | 0, _ => ⟨Nat.zero_le _, 0, by simpa using Chain.nil⟩
  | m + 1, hm => by
    obtain ⟨h1, last, c⟩ := chain_of_walk (H := H) (gen := gen) (h := h) hH m (by omega)
    have hl := c.length hH
    obtain ⟨n, rfl⟩ : ∃ n, h = m + n := ⟨h - m, by omega⟩
    have hw := c.walk n
    cases n with
    | zero =>
      rw [hw] at hm
      rw [List.length_append, hl] at hm
      simp [St.walk] at hm
      omega
    | succ n =>
      rw [St.walk] at hw
      by_cases hc : bGen (H m) ≠ gen ∨ bLife (H m) < last ∨ 55 < bUsed (H m)
      · rw [if_pos hc, List.append_nil] at hw
        rw [hw, hl] at hm
        omega
      · rw [if_neg hc] at hw
        have hd : (bDat (H m)).length = min (bUsed (H m)) 55 := by
          unfold bDat
          rw [List.length_take, List.length_drop, hH]
        by_cases hu : bUsed (H m) < 55
        · rw [if_pos hu, List.append_nil] at hw
          rw [hw, List.length_append, hl, hd] at hm
          omega
        · have hu5 : bUsed (H m) = 55 := by omega
          rw [if_neg hu] at hw
          refine ⟨by omega, bLife (H m), ?_⟩
          have := Chain.snoc c (by omega) (by omega) hu5
          have e : (St.walk H gen (m + (n + 1)) 0 0).take ((m + 1) * 55) = (St.walk H gen (m + (n + 1)) 0 0).take (m * 55) ++ bDat (H m) := by
            generalize (St.walk H gen (m + (n + 1)) 0 0).take (m * 55) = A at *
            rw [hw, ← List.append_assoc, List.take_append_of_le_length (by rw [List.length_append]; omega), List.take_of_length_le (by rw [List.length_append]; omega)]
          rw [e]
          exact this
theorem walk_stop {H : Nat → Blk} {gen i last : Nat} (n : Nat) (h : bGen (H i) ≠ gen ∨ bLife (H i) < last) : walk H gen n i last = [] := by
  cases n with
  | zero => rfl
  | succ n => rw [walk, if_pos (by omega)]
theorem walk_length {H : Nat → Blk} {gen : Nat} : ∀ n i last, (walk H gen n i last).length ≤ n * 55
  | 0, i, last => by simp [walk]
  | n + 1, i, last => by
    rw [walk]
    split
    · simp
    · rename_i h
      have hd : (bDat (H i)).length ≤ bUsed (H i) := by unfold bDat; rw [List.length_take]; omega
      rw [List.length_append]
      split
      · simp; omega
      · have := walk_length (H := H) (gen := gen) n (i + 1) (bLife (H i)); omega
theorem bDat_lt {b : Blk} (h : ∀ x ∈ b, x < 256) : ∀ x ∈ bDat b, x < 256 := fun x hx => h x (List.mem_of_mem_drop (List.mem_of_mem_take hx))
theorem walk_lt {H : Nat → Blk} {gen : Nat} (h : ∀ i, ∀ x ∈ H i, x < 256) : ∀ n i last, ∀ x ∈ walk H gen n i last, x < 256
  | 0, i, last, x, hx => by simp [walk] at hx
  | n + 1, i, last, x, hx => by
    rw [walk] at hx
    split at hx
    · simp at hx
    · rcases List.mem_append.1 hx with hx | hx
      · exact bDat_lt (h i) x hx
      · split at hx
        · simp at hx
        · exact walk_lt h n _ _ x hx

/-! ### Records -/
def encRec (p : List Nat) : List Nat := put4 p.length ++ p
def encAll (l : List (List Nat)) : List Nat := l.flatMap encRec
/-- Does a whole record stand at the head? -/
def oneRec (l : List Nat) : Bool := decide (4 ≤ l.length) && decide (four l ≤ 65536) && decide (four l ≤ l.length - 4)
/-- The whole records at the head. -/
def parse : Nat → List Nat → List (List Nat)
  | 0, _ => []
  | n + 1, l => if oneRec l then (l.drop 4).take (four l) :: parse n (l.drop (4 + four l)) else []
def recs (l : List Nat) : List (List Nat) := parse l.length l
theorem oneRec_iff (l : List Nat) : oneRec l = true ↔ 4 ≤ l.length ∧ four l ≤ 65536 ∧ four l ≤ l.length - 4 := by
  simp [oneRec, and_assoc]
theorem parse_more : ∀ (n m : Nat) (l : List Nat), l.length ≤ n → l.length ≤ m → parse n l = parse m l
  | 0, 0, l, _, _ => rfl
  | 0, m + 1, l, h, _ => by
    rw [parse, parse, if_neg]
    rw [oneRec_iff]; omega
  | n + 1, 0, l, _, h => by
    rw [parse, parse, if_neg]
    rw [oneRec_iff]; omega
  | n + 1, m + 1, l, h1, h2 => by
    rw [parse, parse]
    split
    · rename_i h
      rw [oneRec_iff] at h
      rw [parse_more n m _ (by rw [List.length_drop]; omega) (by rw [List.length_drop]; omega)]
    · rfl
theorem recs_cons {p l : List Nat} (hp : p.length ≤ 65536) : recs (encRec p ++ l) = p :: recs l := by
  have hf : four (encRec p ++ l) = p.length := by
    unfold encRec; rw [List.append_assoc]; exact four_put4 _ (by omega) _
  have hl : (encRec p ++ l).length = 4 + p.length + l.length := by simp [encRec, put4]; omega
  have ho : oneRec (encRec p ++ l) = true := by rw [oneRec_iff, hf, hl]; omega
  unfold recs
  rw [hl, show 4 + p.length + l.length = (3 + p.length + l.length) + 1 by omega, parse, if_pos ho, hf]
  have e1 : ((encRec p ++ l).drop 4).take p.length = p := by
    unfold encRec; rw [List.append_assoc, show 4 = (put4 p.length).length from rfl, List.drop_left, List.take_left]
  have e2 : (encRec p ++ l).drop (4 + p.length) = l := by
    have : 4 + p.length = (encRec p).length := by simp [encRec, put4]; omega
    rw [this, List.drop_left]
  rw [e1, e2]
  congr 1
  exact parse_more _ _ l (by omega) (Nat.le_refl _)
theorem recs_all {l : List Nat} : ∀ {ps : List (List Nat)}, (∀ p ∈ ps, p.length ≤ 65536) → recs (encAll ps ++ l) = ps ++ recs l
  | [], _ => by simp [encAll]
  | p :: ps, h => by
    have e : encAll (p :: ps) ++ l = encRec p ++ (encAll ps ++ l) := by simp [encAll]
    rw [e, recs_cons (h p (by simp)), recs_all (fun q hq => h q (by simp [hq]))]; rfl
theorem recs_part {p q : List Nat} (hp : p.length ≤ 65536) {n : Nat} (hq : q = (encRec p).take n) (hn : n < (encRec p).length) : recs q = [] := by
  have hl : (encRec p).length = 4 + p.length := by simp [encRec, put4]; omega
  have hql : q.length = n := by rw [hq, List.length_take]; omega
  unfold recs
  cases hk : q.length with
  | zero => rfl
  | succ k =>
    rw [parse, if_neg]
    rw [oneRec_iff]
    intro h
    have hf : four q = p.length := by
      have : q = put4 p.length ++ p.take (n - 4) := by
        rw [hq]; unfold encRec; rw [List.take_append, List.take_of_length_le (by rw [put4_length]; omega), put4_length]
      rw [this]; exact four_put4 _ (by omega) _
    rw [hf] at h
    omega
/-- All that was parsed is there. -/
theorem parse_enc : ∀ (n : Nat) (l : List Nat), l.length ≤ n → (∀ x ∈ l, x < 256) → (∀ p ∈ parse n l, p.length ≤ 65536) ∧ ∃ j, l = encAll (parse n l) ++ j ∧ recs j = []
  | 0, l, h, hb => ⟨by simp [parse], l, by simp [parse, encAll], by unfold recs; rw [show l.length = 0 by omega]; rfl⟩
  | n + 1, l, h, hb => by
    rw [parse]
    split
    · rename_i ho
      have ho' := (oneRec_iff l).1 ho
      obtain ⟨h1, j, h2, h3⟩ := parse_enc n (l.drop (4 + four l)) (by rw [List.length_drop]; omega) (fun x hx => hb x (List.mem_of_mem_drop hx))
      have hpl : ((l.drop 4).take (four l)).length = four l := by rw [List.length_take, List.length_drop]; omega
      refine ⟨fun p hp => ?_, j, ?_, h3⟩
      · rcases List.mem_cons.1 hp with rfl | hp
        · omega
        · exact h1 p hp
      · have e : encAll ((l.drop 4).take (four l) :: parse n (l.drop (4 + four l))) = encRec ((l.drop 4).take (four l)) ++ encAll (parse n (l.drop (4 + four l))) := by simp [encAll]
        rw [e, List.append_assoc, ← h2]
        unfold encRec
        rw [hpl]
        have e4 : put4 (four l) = l.take 4 := by
          match l, ho'.1 with
          | a :: b :: c :: d :: r, _ =>
            have ha := hb a (by simp)
            have hb' := hb b (by simp)
            have hc := hb c (by simp)
            have hd := hb d (by simp)
            have hf : four (a :: b :: c :: d :: r) = a + 256 * b + 65536 * c + 16777216 * d := rfl
            rw [hf]
            unfold put4
            simp only [List.take_succ_cons, List.take_zero, List.cons.injEq, and_true]
            omega
        rw [e4, List.append_assoc, ← List.drop_drop, List.take_append_drop, List.take_append_drop]
    · rename_i ho
      refine ⟨by simp, l, by simp [encAll], ?_⟩
      unfold recs
      cases hk : l.length with
      | zero => rfl
      | succ k => rw [parse, if_neg ho]
theorem recs_enc {l : List Nat} (hb : ∀ x ∈ l, x < 256) : (∀ p ∈ recs l, p.length ≤ 65536) ∧ ∃ j, l = encAll (recs l) ++ j ∧ recs j = [] := parse_enc _ l (Nat.le_refl _) hb
theorem encAll_length (l : List (List Nat)) : (encAll l).length = (l.map fun p => p.length + 4).sum := by
  induction l with
  | nil => rfl
  | cons p l ih =>
    have e : encAll (p :: l) = encRec p ++ encAll l := by simp [encAll]
    rw [e, List.length_append, ih, List.map_cons, List.sum_cons]
    simp [encRec, put4]
    try omega
theorem encAll_append (l l' : List (List Nat)) : encAll (l ++ l') = encAll l ++ encAll l' := by simp [encAll]
theorem encRec_lt {p : List Nat} (h : ∀ x ∈ p, x < 256) : ∀ x ∈ encRec p, x < 256 := fun x hx => (List.mem_append.1 hx).elim (put4_lt _ x) (h x)
end Go.Proofs.Ytmlaconjeplhpaa.St
