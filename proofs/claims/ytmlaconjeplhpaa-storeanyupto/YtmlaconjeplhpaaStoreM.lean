/- A store on a disk, in plain Lean: what is written, what a crash leaves, what is opened. -/
import Derived.Test.YtmlaconjeplhpaaStoreL
set_option linter.unusedVariables false
set_option linter.unusedSimpArgs false
namespace Go.Proofs.Ytmlaconjeplhpaa.St
open Go

/-- A disk: its blocks as they stand, and the loose writes: which block, what it was, what it is. -/
structure Dsk where
  B : List Blk
  L : List (Nat × Blk × Blk)
def undo (B : List Blk) (L : List (Nat × Blk × Blk)) : List Blk := L.foldr (fun x B => B.set x.1 x.2.1) B
theorem undo_length (B : List Blk) : ∀ L, (undo B L).length = B.length
  | [] => rfl
  | x :: L => by show ((undo B L).set _ _).length = _; rw [List.length_set, undo_length B L]
theorem undo_append (B : List Blk) (L L' : List (Nat × Blk × Blk)) : undo B (L ++ L') = undo (undo B L') L := by simp [undo]
/-- What k of the loose writes leave. -/
def Dsk.at (D : Dsk) (k : Nat) : List Blk := undo D.B (D.L.drop k)
theorem Dsk.at_all (D : Dsk) : D.at D.L.length = D.B := by simp [Dsk.at, undo]
theorem Dsk.at_length (D : Dsk) (k : Nat) : (D.at k).length = D.B.length := undo_length _ _
def Dsk.write (D : Dsk) (n : Nat) (b : Blk) : Dsk := if n < D.B.length then ⟨D.B.set n b, D.L ++ [(n, D.B.getD n [], b)]⟩ else D
theorem set_back (B : List Blk) (n : Nat) (b : Blk) (h : n < B.length) : (B.set n b).set n (B.getD n []) = B := by
  apply List.ext_getElem?
  intro i
  rw [List.set_set, List.getElem?_set]
  split
  · rename_i hi
    subst hi
    first
      | (rw [if_pos h, List.getD_eq_getElem?_getD, List.getElem?_eq_getElem h]; rfl)
      | (rw [List.getD_eq_getElem?_getD, List.getElem?_eq_getElem h]; rfl)
  · rfl
theorem Dsk.write_at {D : Dsk} {n : Nat} {b : Blk} (h : n < D.B.length) : (∀ k ≤ D.L.length, (D.write n b).at k = D.at k) ∧ (D.write n b).at (D.L.length + 1) = D.B.set n b ∧ (D.write n b).L.length = D.L.length + 1 ∧ (D.write n b).B = D.B.set n b := by
  have e : D.write n b = ⟨D.B.set n b, D.L ++ [(n, D.B.getD n [], b)]⟩ := by unfold Dsk.write; rw [if_pos h]
  rw [e]
  refine ⟨fun k hk => ?_, ?_, by simp, rfl⟩
  · unfold Dsk.at
    simp only
    rw [List.drop_append_of_le_length hk, undo_append]
    congr 1
    exact set_back D.B n b h
  · unfold Dsk.at
    simp only
    rw [List.drop_of_length_le (by simp)]
    rfl

/-- A half of the disk. -/
def halfN (B : List Blk) : Nat := (B.length - 2) / 2
def base (n gen : Nat) : Nat := 2 + gen % 2 * n
def hb (B : List Blk) (gen i : Nat) : Blk := B.getD (base (halfN B) gen + i) (List.replicate 64 0)
/-- Writing bytes behind all others: block by block. -/
def putF (gen life bs : Nat) : Nat → Dsk → Nat → List Nat → Dsk × Nat × List Nat
  | 0, D, at', t => (D, at', t)
  | n + 1, D, at', t =>
    if t.length < 55 then (D.write (bs + at') (mkB gen life t), at', t)
    else if t.length = 55 then (D.write (bs + at') (mkB gen life t), at' + 1, [])
    else putF gen life bs n (D.write (bs + at') (mkB gen life (t.take 55))) (at' + 1) (t.drop 55)

/-- The blocks that stand have their length. -/
def All64 (B : List Blk) : Prop := ∀ b ∈ B, b.length = 64 ∧ ∀ x ∈ b, x < 256
theorem hb_64 {B : List Blk} (h : All64 B) (gen i : Nat) : (hb B gen i).length = 64 ∧ ∀ x ∈ hb B gen i, x < 256 := by
  unfold hb
  rw [List.getD_eq_getElem?_getD]
  cases hq : B[base (halfN B) gen + i]? with
  | none =>
    refine ⟨by simp, fun x hx => ?_⟩
    simp only [Option.getD_none] at hx
    rw [List.eq_of_mem_replicate hx]; omega
  | some b => exact h b (List.mem_of_getElem? hq)
theorem hb_set {B : List Blk} {gen at' i : Nat} {b : Blk} (h : base (halfN B) gen + at' < B.length) : hb (B.set (base (halfN B) gen + at') b) gen i = if i = at' then b else hb B gen i := by
  unfold hb halfN
  rw [List.length_set, List.getD_eq_getElem?_getD, List.getElem?_set]
  by_cases hi : i = at'
  · subst hi
    rw [if_pos rfl, if_pos (by unfold halfN at h; exact h), if_pos rfl]; rfl
  · rw [if_neg (by unfold halfN at *; omega), if_neg hi, List.getD_eq_getElem?_getD]
theorem mkB_64 {gen life : Nat} {d : List Nat} (hd : d.length ≤ 55) (hb : ∀ x ∈ d, x < 256) : (mkB gen life d).length = 64 ∧ ∀ x ∈ mkB gen life d, x < 256 := by
  refine ⟨pad_length (by rw [mkL_length]; omega), pad_lt ?_⟩
  intro x hx
  unfold mkL at hx
  simp only [List.mem_append, List.mem_singleton] at hx
  rcases hx with (hx | hx) | hx | hx
  · exact put4_lt _ x hx
  · exact put4_lt _ x hx
  · omega
  · exact hb x hx
theorem set_64 {B : List Blk} (h : All64 B) {n : Nat} {b : Blk} (hb : b.length = 64 ∧ ∀ x ∈ b, x < 256) : All64 (B.set n b) := by
  intro c hc
  rcases List.mem_or_eq_of_mem_set hc with h1 | h1
  · exact h c h1
  · rw [h1]; exact hb
/-- What blocks behind the first two tell, of generations and lives. -/
def Lives (B : List Blk) (gen life : Nat) : Prop := ∀ n, 2 ≤ n → bGen (B.getD n (List.replicate 64 0)) ≤ gen ∧ (0 < bGen (B.getD n (List.replicate 64 0)) → bLife (B.getD n (List.replicate 64 0)) ≤ life)
theorem Lives.set {B : List Blk} {gen life m : Nat} {b : Blk} (h : Lives B gen life) (h1 : bGen b ≤ gen) (h2 : bLife b ≤ life) : Lives (B.set m b) gen life := by
  intro n hn
  rw [List.getD_eq_getElem?_getD, List.getElem?_set]
  have h0 := h n hn
  rw [List.getD_eq_getElem?_getD] at h0
  split
  · split
    · exact ⟨h1, fun _ => h2⟩
    · rename_i hi hl
      subst hi
      rw [List.getElem?_eq_none (by omega)] at h0
      exact h0
  · exact h0

/-- Where a store's writing stands: whole blocks up to 'at', the tail behind them, and nothing of this life beyond. -/
structure Stand (B : List Blk) (gen life at' : Nat) (data : List Nat) : Prop where
  all : All64 B
  g : gen < 4294967296
  l : life < 4294967296
  chain : ∃ last, Chain (hb B gen) gen at' last data ∧ last ≤ life
  stale : ∀ i, at' < i → i < halfN B → bGen (hb B gen i) ≠ gen ∨ bLife (hb B gen i) < life
  room : at' ≤ halfN B
  two : 2 ≤ B.length
theorem half_room {B : List Blk} {gen i : Nat} (h2 : 2 ≤ B.length) (h : i < halfN B) : base (halfN B) gen + i < B.length := by
  unfold base
  have : gen % 2 = 0 ∨ gen % 2 = 1 := by omega
  unfold halfN at *
  rcases this with h3 | h3 <;> rw [h3] <;> omega
/-- Bytes written behind all others: what each prefix of the writes leaves. -/
theorem put_ok : ∀ (n : Nat) (D : Dsk) (gen life at' : Nat) (t data : List Nat), t.length < n → Stand D.B gen life at' data → (∀ x ∈ t, x < 256) → at' < halfN D.B → at' * 55 + t.length ≤ halfN D.B * 55 → Lives D.B gen life →
    ∃ D' at2 t2, putF gen life (base (halfN D.B) gen) n D at' t = (D', at2, t2) ∧
      D'.B.length = D.B.length ∧ D.L.length < D'.L.length ∧ (∀ k ≤ D.L.length, D'.at k = D.at k) ∧
      (∀ k, D.L.length < k → k ≤ D'.L.length → walk (hb (D'.at k) gen) gen (halfN D.B) 0 0 = data ++ t.take (55 * (k - D.L.length)) ∧ All64 (D'.at k) ∧ Lives (D'.at k) gen life ∧ (∀ i < 2, (D'.at k)[i]? = D.B[i]?)) ∧
      t.length ≤ 55 * (D'.L.length - D.L.length) ∧
      (∃ data2, Stand D'.B gen life at2 data2 ∧ data2 ++ t2 = data ++ t) ∧ t2.length < 55 ∧ (∀ x ∈ t2, x < 256) := by
  intro n
  induction n with
  | zero => intro D gen life at' t data h; omega
  | succ n ih =>
    intro D gen life at' t data hn hS ht hat hroom hlv
    have hpos : base (halfN D.B) gen + at' < D.B.length := half_room hS.two hat
    obtain ⟨last, hc, hlast⟩ := hS.chain
    have hlen := hc.length (fun i => (hb_64 hS.all gen i).1)
    have htt : (t.take 55).length ≤ 55 := by rw [List.length_take]; omega
    have hspec := mkB_spec (d := t.take 55) hS.g hS.l htt
    have h64 := mkB_64 (gen := gen) (life := life) htt (fun x hx => ht x (List.mem_of_mem_take hx))
    obtain ⟨w1, w2, w3, w4⟩ := Dsk.write_at (b := mkB gen life (t.take 55)) hpos
    have wL : ((D.write (base (halfN D.B) gen + at') (mkB gen life (t.take 55))).L).length = D.L.length + 1 := w3
    generalize hD1 : D.write (base (halfN D.B) gen + at') (mkB gen life (t.take 55)) = D1 at *
    -- the disk behind the first write
    have hB1 : D1.B = D.B.set (base (halfN D.B) gen + at') (mkB gen life (t.take 55)) := w4
    have hl1 : D1.B.length = D.B.length := by rw [hB1, List.length_set]
    have hh1 : halfN D1.B = halfN D.B := by unfold halfN; rw [hl1]
    have hhb : ∀ i, hb D1.B gen i = if i = at' then mkB gen life (t.take 55) else hb D.B gen i := fun i => by rw [hB1]; exact hb_set hpos
    have hall1 : All64 D1.B := by rw [hB1]; exact set_64 hS.all h64
    have hlv1 : Lives D1.B gen life := by rw [hB1]; exact hlv.set (by rw [hspec.1]; exact Nat.le_refl _) (by rw [hspec.2.1]; exact Nat.le_refl _)
    have hroot1 : ∀ i < 2, D1.B[i]? = D.B[i]? := fun i hi => by
      rw [hB1, List.getElem?_set, if_neg (by unfold base; omega)]
    have hc1 : Chain (hb D1.B gen) gen at' last data := hc.congr (fun i hi => by rw [hhb, if_neg (by omega)])
    have hatB : hb D1.B gen at' = mkB gen life (t.take 55) := by rw [hhb, if_pos rfl]
    have hst1 : ∀ i, at' < i → i < halfN D1.B → bGen (hb D1.B gen i) ≠ gen ∨ bLife (hb D1.B gen i) < life := fun i h1 h2 => by
      rw [hhb, if_neg (by omega)]
      exact hS.stale i h1 (by omega)
    have hwalk : walk (hb D1.B gen) gen (halfN D.B) 0 0 = data ++ t.take 55 := by
      obtain ⟨m, hm⟩ : ∃ m, halfN D.B = at' + (m + 1) := ⟨halfN D.B - at' - 1, by omega⟩
      rw [hm, hc1.walk, walk, hatB, hspec.1, hspec.2.1, hspec.2.2.1, hspec.2.2.2.1, if_neg (by omega)]
      congr 1
      split
      · rw [List.append_nil]
      · cases m with
        | zero => simp [walk]
        | succ m => rw [walk_stop _ (hst1 (at' + 1) (by omega) (by omega)), List.append_nil]
    have hk1 : walk (hb (D1.at (D.L.length + 1)) gen) gen (halfN D.B) 0 0 = data ++ t.take 55 ∧ All64 (D1.at (D.L.length + 1)) ∧ Lives (D1.at (D.L.length + 1)) gen life ∧ (∀ i < 2, (D1.at (D.L.length + 1))[i]? = D.B[i]?) := by
      rw [w2, ← hB1]; exact ⟨hwalk, hall1, hlv1, hroot1⟩
    rw [putF]
    by_cases h55 : t.length < 55
    · rw [if_pos h55]
      have e : t.take 55 = t := List.take_of_length_le (by omega)
      rw [e] at hD1 hk1 hatB hwalk hspec
      rw [hD1]
      have two1 : 2 ≤ D1.B.length := by have := hS.two; omega
      refine ⟨D1, at', t, rfl, hl1, by omega, w1, fun k h1 h2 => ?_, by omega, ⟨data, ⟨hall1, hS.g, hS.l, ⟨last, hc1, hlast⟩, hst1, by omega, two1⟩, rfl⟩, h55, ht⟩
      obtain rfl : k = D.L.length + 1 := by omega
      rw [show D.L.length + 1 - D.L.length = 1 by omega, Nat.mul_one, e]
      exact hk1
    · rw [if_neg h55]
      have hlt55 : (t.take 55).length = 55 := by rw [List.length_take]; omega
      have hc2 : Chain (hb D1.B gen) gen (at' + 1) life (data ++ t.take 55) := by
        have := Chain.snoc hc1 (by rw [hatB]; exact hspec.1) (by rw [hatB, hspec.2.1]; exact hlast) (by rw [hatB, hspec.2.2.1]; exact hlt55)
        rw [hatB, hspec.2.1, hspec.2.2.2.1] at this
        exact this
      by_cases he : t.length = 55
      · rw [if_pos he]
        have e : t.take 55 = t := List.take_of_length_le (by omega)
        rw [e] at hD1 hk1 hatB hwalk hspec hc2
        rw [hD1]
        have two1 : 2 ≤ D1.B.length := by have := hS.two; omega
        refine ⟨D1, at' + 1, [], rfl, hl1, by omega, w1, fun k h1 h2 => ?_, by omega, ⟨data ++ t, ⟨hall1, hS.g, hS.l, ⟨life, hc2, Nat.le_refl _⟩, fun i h1 h2 => hst1 i (by omega) h2, by omega, two1⟩, by simp⟩, by simp, by simp⟩
        obtain rfl : k = D.L.length + 1 := by omega
        rw [show D.L.length + 1 - D.L.length = 1 by omega, Nat.mul_one, e]
        exact hk1
      · rw [if_neg he, hD1]
        have hdl : (t.drop 55).length = t.length - 55 := List.length_drop
        obtain ⟨D2, at2, t2, k1, k2, k3, k4, k5, k6, ⟨data2, k7, k8⟩, k9, k10⟩ := ih D1 gen life (at' + 1) (t.drop 55) (data ++ t.take 55) (by omega)
          ⟨hall1, hS.g, hS.l, ⟨life, hc2, Nat.le_refl _⟩, fun i h1 h2 => hst1 i (by omega) h2, by omega, by have := hS.two; omega⟩ (fun x hx => ht x (List.mem_of_mem_drop hx)) (by omega) (by omega) hlv1
        rw [hh1] at k1 k5
        refine ⟨D2, at2, t2, k1, by omega, by omega, fun k hk => by rw [k4 k (by omega)]; exact w1 k hk, fun k h1 h2 => ?_, by omega, ⟨data2, k7, by rw [k8, List.append_assoc, List.take_append_drop]⟩, k9, k10⟩
        by_cases hk : k = D.L.length + 1
        · subst hk
          rw [k4 _ (by omega), show D.L.length + 1 - D.L.length = 1 by omega, Nat.mul_one]
          exact hk1
        · obtain ⟨q1, q2, q3, q4⟩ := k5 k (by omega) h2
          refine ⟨?_, q2, q3, fun i hi => by rw [q4 i hi]; exact hroot1 i hi⟩
          rw [q1, List.append_assoc]
          congr 1
          have e1 : 55 * (k - D.L.length) = 55 + 55 * (k - D1.L.length) := by omega
          rw [e1, List.take_add]
end Go.Proofs.Ytmlaconjeplhpaa.St
