/- A store on a disk, in plain Lean: what holds of it whatever is done, and wherever the disk crashes. -/
import Derived.Test.YtmlaconjeplhpaaStoreM
set_option linter.unusedVariables false
set_option linter.unusedSimpArgs false
namespace Go.Proofs.Ytmlaconjeplhpaa.St
open Go

def magicN : List Nat := [102, 117, 114, 108, 111, 110, 103, 49]
/-- Block n as one that tells a generation. -/
def cand (n : Nat) (b : Option Blk) (r : Nat × Nat × Bool) : Nat × Nat × Bool :=
  match b with
  | none => r
  | some b => if b.take 8 = magicN ∧ r.1 < four (b.drop 8) ∧ four (b.drop 8) % 2 = n then (four (b.drop 8), four (b.drop 12), true) else r
def rootF (B : List Blk) : Nat × Nat × Bool := cand 1 B[1]? (cand 0 B[0]? (1, 0, false))
def Low (n : Nat) (b : Option Blk) (gen : Nat) : Prop := ∀ c, b = some c → c.take 8 = magicN → four (c.drop 8) % 2 = n → four (c.drop 8) ≤ gen
def RootOK (B : List Blk) (gen size : Nat) (whole : Bool) : Prop := rootF B = (gen, size, whole) ∧ Low 0 B[0]? gen ∧ Low 1 B[1]? gen
def rootL (gen size : Nat) : List Nat := magicN ++ put4 gen ++ put4 size
theorem cand_le {n gen : Nat} {b : Option Blk} {r : Nat × Nat × Bool} (h : Low n b gen) (hr : r.1 ≤ gen) : (cand n b r).1 ≤ gen := by
  unfold cand
  split
  · exact hr
  · split
    · rename_i c hc
      exact h c rfl hc.1 hc.2.2
    · exact hr
theorem root_new {B : List Blk} {gen size gen' size' : Nat} {whole : Bool} (h : RootOK B gen size whole) (hg : 1 ≤ gen) (hg' : gen' = gen + 1) (hlt : gen' < 4294967296) (hs : size' < 4294967296) (h2 : 2 ≤ B.length) : RootOK (B.set (gen' % 2) (pad (rootL gen' size'))) gen' size' true := by
  obtain ⟨h0, h1, h3⟩ := h
  have e1 : (pad (rootL gen' size')).take 8 = magicN := rfl
  have e2 : four ((pad (rootL gen' size')).drop 8) = gen' := by
    have : (pad (rootL gen' size')).drop 8 = put4 gen' ++ (put4 size' ++ List.replicate (64 - (rootL gen' size').length) 0) := rfl
    rw [this]; exact four_put4 _ hlt _
  have e3 : four ((pad (rootL gen' size')).drop 12) = size' := by
    have : (pad (rootL gen' size')).drop 12 = put4 size' ++ List.replicate (64 - (rootL gen' size').length) 0 := rfl
    rw [this]; exact four_put4 _ hs _
  generalize pad (rootL gen' size') = b at *
  have hself : (B.set (gen' % 2) b)[gen' % 2]? = some b := by rw [List.getElem?_set, if_pos rfl, if_pos (by omega)]
  have lowB : ∀ n, Low n (some b) gen' := fun n c hc _ _ => by cases hc; omega
  have up : ∀ {n o}, Low n o gen → Low n o gen' := fun h c hc h1 h2 => by have := h c hc h1 h2; omega
  rcases Nat.mod_two_eq_zero_or_one gen' with h5 | h5
  · rw [h5] at hself ⊢
    have ho : (B.set 0 b)[1]? = B[1]? := by rw [List.getElem?_set, if_neg (by omega)]
    refine ⟨?_, by rw [hself]; exact lowB 0, by rw [ho]; exact up h3⟩
    unfold rootF
    rw [hself, ho]
    have c0 : cand 0 (some b) (1, 0, false) = (gen', size', true) := by
      simp only [cand]
      rw [if_pos ⟨e1, (by show 1 < _; omega), by omega⟩, e2, e3]
    rw [c0]
    unfold cand
    split
    · rfl
    · rename_i c hc
      rw [if_neg]
      rintro ⟨q1, q2, q3⟩
      have := h3 c hc q1 q3
      have q2' : gen' < four (c.drop 8) := q2
      omega
  · rw [h5] at hself ⊢
    have ho : (B.set 1 b)[0]? = B[0]? := by rw [List.getElem?_set, if_neg (by omega)]
    refine ⟨?_, by rw [ho]; exact up h1, by rw [hself]; exact lowB 1⟩
    unfold rootF
    rw [hself, ho]
    have := cand_le (r := (1, 0, false)) h1 hg
    generalize cand 0 B[0]? (1, 0, false) = r at *
    simp only [cand]
    rw [if_pos ⟨e1, by omega, by omega⟩, e2, e3]

def lifeOf (b : Blk) : Nat := if 0 < bGen b then bLife b else 0
def maxL (l : List Blk) : Nat := l.foldl (fun m b => max m (lifeOf b)) 0
theorem foldl_max (l : List Blk) : ∀ m, m ≤ l.foldl (fun m b => max m (lifeOf b)) m ∧ (∀ b ∈ l, lifeOf b ≤ l.foldl (fun m b => max m (lifeOf b)) m) ∧ ∀ X, m ≤ X → (∀ b ∈ l, lifeOf b ≤ X) → l.foldl (fun m b => max m (lifeOf b)) m ≤ X := by
  induction l with
  | nil => intro m; simp
  | cons b l ih =>
    intro m
    obtain ⟨h1, h2, h3⟩ := ih (max m (lifeOf b))
    rw [List.foldl_cons]
    refine ⟨by omega, fun c hc => ?_, fun X hm hX => h3 X ?_ (fun c hc => hX c (by simp [hc]))⟩
    · rcases List.mem_cons.1 hc with rfl | hc
      · omega
      · exact h2 c hc
    · have := hX b (by simp); omega
def eldest (B : List Blk) : Nat := (maxL (B.drop 2) + 1) % 4294967296
theorem eldest_le {B : List Blk} {gen life : Nat} (h : Lives B gen life) (hl : life < 4294967295) : eldest B ≤ life + 1 ∧ ∀ n, 2 ≤ n → n < B.length → 0 < bGen (B.getD n (List.replicate 64 0)) → bLife (B.getD n (List.replicate 64 0)) < eldest B := by
  obtain ⟨_, h2, h3⟩ := foldl_max (B.drop 2) 0
  have hm : maxL (B.drop 2) ≤ life := h3 life (Nat.zero_le _) (fun b hb => by
    obtain ⟨i, hi, rfl⟩ := List.getElem_of_mem hb
    rw [List.length_drop] at hi
    have h0 := h (2 + i) (by omega)
    rw [List.getD_eq_getElem?_getD, List.getElem?_eq_getElem (by omega)] at h0
    simp only [Option.getD_some] at h0
    rw [List.getElem_drop]
    unfold lifeOf
    split
    · exact h0.2 (by assumption)
    · omega)
  have he : eldest B = maxL (B.drop 2) + 1 := Nat.mod_eq_of_lt (by omega)
  refine ⟨by omega, fun n hn hnl hg => ?_⟩
  rw [he]
  have h0 := h2 (B.getD n (List.replicate 64 0)) (by
    rw [List.getD_eq_getElem?_getD, List.getElem?_eq_getElem hnl]
    simp only [Option.getD_some]
    have : B[n] = (B.drop 2)[n - 2]'(by rw [List.length_drop]; omega) := by rw [List.getElem_drop]; congr 1; omega
    rw [this]
    exact List.getElem_mem _)
  have hlf : lifeOf (B.getD n (List.replicate 64 0)) = bLife (B.getD n (List.replicate 64 0)) := if_pos hg
  rw [hlf] at h0
  have : maxL (B.drop 2) = (B.drop 2).foldl (fun m b => max m (lifeOf b)) 0 := rfl
  omega

/-- What Open finds. -/
structure Found where
  gen : Nat
  life : Nat
  whole : Bool
  snap : List Nat
  list : List (List Nat)
  at' : Nat
  tail : List Nat
def allF (B : List Blk) : List Nat := walk (hb B (rootF B).1) (rootF B).1 (halfN B) 0 0
def foundOf (gen life : Nat) (whole : Bool) (size : Nat) (all : List Nat) : Found :=
  ⟨gen, life, whole, all.take size, recs (all.drop size), (size + (encAll (recs (all.drop size))).length) / 55, (all.take (size + (encAll (recs (all.drop size))).length)).drop ((size + (encAll (recs (all.drop size))).length) / 55 * 55)⟩
def openF (B : List Blk) : Found :=
  if (allF B).length < (rootF B).2.1 then foundOf (rootF B).1 (eldest B) false 0 [] else foundOf (rootF B).1 (eldest B) (rootF B).2.2 (rootF B).2.1 (allF B)

/-- What holds of a store on its disk: it holds this snapshot and these records; of them so many are safe. -/
structure SInv (D : Dsk) (gen life at' : Nat) (tail : List Nat) (whole : Bool) (snap : List Nat) (list : List (List Nat)) (safe bnd : Nat) : Prop where
  len : 4 ≤ D.B.length ∧ D.B.length ≤ 65536
  root : RootOK D.B gen snap.length whole
  r2 : ∀ k ≤ D.L.length, ∀ i < 2, (D.at k)[i]? = D.B[i]?
  all : ∀ k ≤ D.L.length, All64 (D.at k)
  lives : ∀ k ≤ D.L.length, Lives (D.at k) gen life
  bnd : 1 ≤ gen ∧ gen ≤ bnd ∧ life ≤ bnd ∧ bnd < 1000000
  stand : ∃ data, Stand D.B gen life at' data ∧ data ++ tail = snap ++ encAll list
  tl : tail.length < 55 ∧ ∀ x ∈ tail, x < 256
  hist : ∀ k ≤ D.L.length, ∃ n j, walk (hb (D.at k) gen) gen (halfN D.B) 0 0 = snap ++ encAll (list.take n) ++ j ∧ recs j = [] ∧ safe ≤ n ∧ n ≤ list.length ∧ (k = 0 → n = safe) ∧ (k = D.L.length → n = list.length)
  szs : ∀ p ∈ list, p.length ≤ 65536 ∧ ∀ x ∈ p, x < 256
  snp : snap.length ≤ 524288 ∧ ∀ x ∈ snap, x < 256
theorem halfN_at (D : Dsk) (k : Nat) : halfN (D.at k) = halfN D.B := by unfold halfN; rw [D.at_length]
theorem rootF_congr {B B' : List Blk} (h : ∀ i < 2, B'[i]? = B[i]?) : rootF B' = rootF B ∧ ∀ gen size whole, RootOK B gen size whole → RootOK B' gen size whole := by
  have e : rootF B' = rootF B := by unfold rootF; rw [h 0 (by omega), h 1 (by omega)]
  refine ⟨e, fun gen size whole hr => ⟨by rw [e]; exact hr.1, by rw [h 0 (by omega)]; exact hr.2.1, by rw [h 1 (by omega)]; exact hr.2.2⟩⟩
/-- What stands on a disk is found. -/
theorem open_ok {B : List Blk} {gen life bnd : Nat} {whole : Bool} {snap j : List Nat} {list : List (List Nat)} (hlen : 4 ≤ B.length ∧ B.length ≤ 65536) (hr : RootOK B gen snap.length whole) (ha : All64 B) (hl : Lives B gen life) (hb1 : 1 ≤ gen ∧ gen ≤ bnd ∧ life + 1 ≤ bnd ∧ bnd < 1000000)
    (hw : walk (hb B gen) gen (halfN B) 0 0 = snap ++ encAll list ++ j) (hj : recs j = []) (hs : ∀ p ∈ list, p.length ≤ 65536 ∧ ∀ x ∈ p, x < 256) (hsn : snap.length ≤ 524288 ∧ ∀ x ∈ snap, x < 256) :
    ∃ at' tail, openF B = ⟨gen, eldest B, whole, snap, list, at', tail⟩ ∧ SInv ⟨B, []⟩ gen (eldest B) at' tail whole snap list list.length bnd := by
  have hroot := hr.1
  obtain ⟨he1, he2⟩ := eldest_le hl (by omega)
  have hall : allF B = snap ++ encAll list ++ j := by unfold allF; rw [hroot]; exact hw
  have hd : (snap ++ encAll list ++ j).drop snap.length = encAll list ++ j := by rw [List.append_assoc, List.drop_left]
  have hrec : recs ((snap ++ encAll list ++ j).drop snap.length) = list := by
    rw [hd, recs_all (fun p hp => (hs p hp).1), hj, List.append_nil]
  have hsnap : (snap ++ encAll list ++ j).take snap.length = snap := by rw [List.append_assoc, List.take_left]
  have hE : (snap ++ encAll list ++ j).take (snap.length + (encAll list).length) = snap ++ encAll list := by rw [← List.length_append, List.take_left]
  generalize hEn : snap.length + (encAll list).length = E at *
  have hEl : (snap ++ encAll list).length = E := by rw [List.length_append]; exact hEn
  have hopen : openF B = ⟨gen, eldest B, whole, snap, list, E / 55, (snap ++ encAll list).drop (E / 55 * 55)⟩ := by
    unfold openF
    rw [hall, hroot]
    simp only
    rw [if_neg (by simp only [List.length_append]; omega)]
    unfold foundOf
    rw [hrec, hsnap, hEn, hE]
  have h64 := hb_64 ha gen
  have hlt : ∀ x ∈ snap ++ encAll list, x < 256 := by
    intro x hx
    have := walk_lt (H := hb B gen) (gen := gen) (fun i => (h64 i).2) (halfN B) 0 0 x (by rw [hw]; exact List.mem_append.2 (.inl hx))
    exact this
  obtain ⟨c1, last, c2⟩ := chain_of_walk (H := hb B gen) (gen := gen) (h := halfN B) (fun i => (h64 i).1) (E / 55) (by rw [hw]; simp only [List.length_append] at hEl ⊢; omega)
  have hdata : (walk (hb B gen) gen (halfN B) 0 0).take (E / 55 * 55) = (snap ++ encAll list).take (E / 55 * 55) := by
    rw [hw, List.take_append_of_le_length (by rw [hEl]; omega)]
  rw [hdata] at c2
  have hidx : ∀ i, i < halfN B → base (halfN B) gen + i < B.length := fun i hi => half_room (by omega) hi
  have hlow : ∀ i, i < halfN B → bGen (hb B gen i) = gen → bLife (hb B gen i) < eldest B := fun i hi hg => he2 _ (by unfold base; omega) (hidx i hi) (by rw [show B.getD (base (halfN B) gen + i) (List.replicate 64 0) = hb B gen i from rfl, hg]; omega)
  have at0 : ∀ k, (Dsk.mk B []).at k = B := fun k => by simp [Dsk.at, undo]
  refine ⟨E / 55, _, hopen, ⟨hlen, hr, fun k _ i _ => by rw [at0], fun k _ => by rw [at0]; exact ha, fun k _ => ?_, by omega, ⟨_, ⟨ha, by omega, by omega, ⟨last, c2, ?_⟩, ?_, c1, by simp only; omega⟩, List.take_append_drop _ _⟩, ⟨by rw [List.length_drop, hEl]; omega, fun x hx => hlt x (List.mem_of_mem_drop hx)⟩, fun k hk => ?_, hs, hsn⟩⟩
  · rw [at0]
    intro n hn
    refine ⟨(hl n hn).1, fun hg => ?_⟩
    by_cases hnl : n < B.length
    · exact Nat.le_of_lt (he2 n hn hnl hg)
    · rw [List.getD_eq_getElem?_getD, List.getElem?_eq_none (by omega)] at hg
      simp only [Option.getD_none] at hg
      exact absurd hg (by decide)
  · exact c2.last_le (fun i hi hg => Nat.le_of_lt (hlow i (by omega) hg))
  · intro i h1 h2
    by_cases hg : bGen (hb B gen i) = gen
    · exact .inr (hlow i h2 hg)
    · exact .inl hg
  · rw [at0]
    exact ⟨list.length, j, by rw [List.take_length]; exact hw, hj, Nat.le_refl _, Nat.le_refl _, fun _ => rfl, fun _ => rfl⟩
/-- A crash, and what is opened then. -/
theorem sinv_crash {D : Dsk} {gen life at' safe bnd : Nat} {tail snap : List Nat} {whole : Bool} {list : List (List Nat)} (h : SInv D gen life at' tail whole snap list safe bnd) (hb1 : bnd + 1 < 1000000) (keep : Nat) :
    ∃ n at2 tail2, safe ≤ n ∧ n ≤ list.length ∧ (keep = 0 → n = safe) ∧ (D.L.length ≤ keep → n = list.length) ∧ openF (D.at keep) = ⟨gen, eldest (D.at keep), whole, snap, list.take n, at2, tail2⟩ ∧ SInv ⟨D.at keep, []⟩ gen (eldest (D.at keep)) at2 tail2 whole snap (list.take n) n (bnd + 1) := by
  obtain ⟨k, hk1, hk2⟩ : ∃ k, k ≤ D.L.length ∧ D.at keep = D.at k ∧ (keep = 0 → k = 0) ∧ (D.L.length ≤ keep → k = D.L.length) := by
    by_cases hle : keep ≤ D.L.length
    · exact ⟨keep, hle, rfl, id, fun h => by omega⟩
    · refine ⟨D.L.length, Nat.le_refl _, ?_, fun h => by omega, fun _ => rfl⟩
      unfold Dsk.at
      rw [List.drop_of_length_le (by omega), List.drop_length]
  obtain ⟨e, hk3, hk4⟩ := hk2
  rw [e]
  obtain ⟨n, j, h1, h2, h3, h4, h5, h6⟩ := h.hist k hk1
  obtain ⟨b1, b2, b3, b4⟩ := h.bnd
  have hroot := (rootF_congr (h.r2 k hk1)).2 _ _ _ h.root
  obtain ⟨at2, tail2, o1, o2⟩ := open_ok (bnd := bnd + 1) (by rw [D.at_length]; exact h.len) hroot (h.all k hk1) (h.lives k hk1) (by omega) (by rw [halfN_at]; exact h1) h2 (fun p hp => h.szs p (List.mem_of_mem_take hp)) h.snp
  have hl : (list.take n).length = n := by rw [List.length_take]; omega
  rw [hl] at o2
  exact ⟨n, at2, tail2, h3, h4, fun h0 => h5 (hk3 h0), fun h0 => h6 (hk4 h0), o1, o2⟩
theorem sinv_sync {D : Dsk} {gen life at' safe bnd : Nat} {tail snap : List Nat} {whole : Bool} {list : List (List Nat)} (h : SInv D gen life at' tail whole snap list safe bnd) : SInv ⟨D.B, []⟩ gen life at' tail whole snap list list.length bnd := by
  have at0 : ∀ k, (Dsk.mk D.B []).at k = D.B := fun k => by simp [Dsk.at, undo]
  have hL := Nat.le_refl D.L.length
  have hB := D.at_all
  refine ⟨h.len, h.root, fun k _ i _ => by rw [at0], fun k _ => by rw [at0, ← hB]; exact h.all _ hL, fun k _ => by rw [at0, ← hB]; exact h.lives _ hL, h.bnd, h.stand, h.tl, fun k _ => ?_, h.szs, h.snp⟩
  rw [at0]
  obtain ⟨n, j, h1, h2, h3, h4, h5, h6⟩ := h.hist _ hL
  have := h6 rfl
  subst this
  rw [hB] at h1
  exact ⟨list.length, j, h1, h2, Nat.le_refl _, Nat.le_refl _, fun _ => rfl, fun _ => rfl⟩
/-- One more record. -/
theorem sinv_append {D : Dsk} {gen life at' safe bnd : Nat} {tail snap p : List Nat} {whole : Bool} {list : List (List Nat)} (h : SInv D gen life at' tail whole snap list safe bnd) (hp : p.length ≤ 65536) (hpb : ∀ x ∈ p, x < 256) (hfit : at' * 55 + tail.length + (encRec p).length ≤ halfN D.B * 55) :
    ∃ D' at2 t2, putF gen life (base (halfN D.B) gen) ((tail ++ encRec p).length + 1) D at' (tail ++ encRec p) = (D', at2, t2) ∧ SInv D' gen life at2 t2 whole snap (list ++ [p]) safe bnd ∧ D'.B.length = D.B.length := by
  obtain ⟨data, hS, hdt⟩ := h.stand
  have hel : (encRec p).length = 4 + p.length := by simp [encRec, put4]; omega
  have htb : ∀ x ∈ tail ++ encRec p, x < 256 := fun x hx => (List.mem_append.1 hx).elim (h.tl.2 x) (encRec_lt hpb x)
  have hlv := h.lives D.L.length (Nat.le_refl _)
  rw [D.at_all] at hlv
  obtain ⟨D', at2, t2, k1, k2, k3, k4, k5, k6, ⟨data2, k7, k8⟩, k9, k10⟩ := put_ok ((tail ++ encRec p).length + 1) D gen life at' (tail ++ encRec p) data (by omega) hS htb (by omega) (by rw [List.length_append]; omega) hlv
  have hh : halfN D'.B = halfN D.B := by unfold halfN; rw [k2]
  have hB' := D'.at_all
  have r2' : ∀ i < 2, D'.B[i]? = D.B[i]? := by rw [← hB']; exact (k5 _ k3 (Nat.le_refl _)).2.2.2
  have old : ∀ k, k ≤ D.L.length ∨ D.L.length < k := fun k => by omega
  refine ⟨D', at2, t2, k1, ⟨by rw [k2]; exact h.len, (rootF_congr r2').2 _ _ _ h.root, fun k hk i hi => ?_, fun k hk => ?_, fun k hk => ?_, h.bnd, ⟨data2, k7, ?_⟩, ⟨k9, k10⟩, fun k hk => ?_, ?_, h.snp⟩, k2⟩
  · rw [r2' i hi]
    rcases old k with ho | ho
    · rw [k4 k ho]; exact h.r2 k ho i hi
    · exact (k5 k ho hk).2.2.2 i hi
  · rcases old k with ho | ho
    · rw [k4 k ho]; exact h.all k ho
    · exact (k5 k ho hk).2.1
  · rcases old k with ho | ho
    · rw [k4 k ho]; exact h.lives k ho
    · exact (k5 k ho hk).2.2.1
  · rw [k8, ← List.append_assoc, hdt, encAll_append]
    simp [encAll]
  · rw [hh]
    rcases old k with ho | ho
    · rw [k4 k ho]
      obtain ⟨n, j, h1, h2, h3, h4, h5, h6⟩ := h.hist k ho
      exact ⟨n, j, by rw [List.take_append_of_le_length h4]; exact h1, h2, h3, by rw [List.length_append]; omega, h5, fun hk' => by omega⟩
    · have hw := (k5 k ho hk).1
      obtain ⟨m, hm⟩ : ∃ m, 55 * (k - D.L.length) = m := ⟨_, rfl⟩
      have htl := h.tl.1
      obtain ⟨n0, j0, _, _, s3, s4, _, _⟩ := h.hist 0 (Nat.zero_le _)
      rw [hm, List.take_append, List.take_of_length_le (by omega), ← List.append_assoc, hdt] at hw
      by_cases hlt : m - tail.length < (encRec p).length
      · refine ⟨list.length, (encRec p).take (m - tail.length), by rw [List.take_append_of_le_length (Nat.le_refl _), List.take_length]; exact hw, recs_part hp rfl hlt, by omega, by rw [List.length_append]; omega, fun h0 => by omega, fun hk' => ?_⟩
        exfalso
        rw [List.length_append, ← hk'] at k6
        omega
      · refine ⟨list.length + 1, [], ?_, rfl, by omega, by rw [List.length_append]; exact Nat.le_refl _, fun h0 => by omega, fun _ => by rw [List.length_append]; rfl⟩
        rw [hw, List.take_of_length_le (by omega), List.take_of_length_le (by rw [List.length_append]; exact Nat.le_refl _), encAll_append]
        simp [encAll]
  · intro q hq
    rcases List.mem_append.1 hq with hq | hq
    · exact h.szs q hq
    · rw [List.mem_singleton.1 hq]; exact ⟨hp, hpb⟩
theorem hb_set2 {B : List Blk} {gen i n : Nat} {b : Blk} (h : n < 2) : hb (B.set n b) gen i = hb B gen i := by
  unfold hb halfN
  rw [List.length_set, List.getD_eq_getElem?_getD, List.getElem?_set, if_neg (by unfold base; omega), List.getD_eq_getElem?_getD]
/-- A snapshot in the place of all. -/
theorem sinv_checkpoint {D : Dsk} {gen life at' safe bnd : Nat} {tail snap p : List Nat} {whole : Bool} {list : List (List Nat)} (h : SInv D gen life at' tail whole snap list safe bnd) (hb1 : bnd + 1 < 1000000) (hp : p.length ≤ 524288) (hpb : ∀ x ∈ p, x < 256) (hfit : p.length ≤ halfN D.B * 55) :
    ∃ D' at2 t2, putF (gen + 1) life (base (halfN D.B) (gen + 1)) (p.length + 1) ⟨D.B, []⟩ 0 p = (D', at2, t2) ∧ D'.B.length = D.B.length ∧
      SInv ⟨((Dsk.mk D'.B []).write ((gen + 1) % 2) (pad (rootL (gen + 1) p.length))).B, []⟩ (gen + 1) life at2 t2 true p [] 0 (bnd + 1) := by
  obtain ⟨data, hS, hdt⟩ := h.stand
  obtain ⟨b1, b2, b3, b4⟩ := h.bnd
  have hlen := h.len
  have hlv := h.lives D.L.length (Nat.le_refl _)
  have hal := h.all D.L.length (Nat.le_refl _)
  rw [D.at_all] at hlv hal
  have hlv' : Lives D.B (gen + 1) life := fun n hn => ⟨by have := (hlv n hn).1; omega, (hlv n hn).2⟩
  have hne : ∀ i, bGen (hb D.B (gen + 1) i) ≠ gen + 1 := fun i => by
    have := (hlv (base (halfN D.B) (gen + 1) + i) (by unfold base; omega)).1
    have e : hb D.B (gen + 1) i = D.B.getD (base (halfN D.B) (gen + 1) + i) (List.replicate 64 0) := rfl
    rw [e]; omega
  have hhalf : 0 < halfN D.B := by unfold halfN; omega
  obtain ⟨D', at2, t2, k1, k2, k3, k4, k5, k6, ⟨data2, k7, k8⟩, k9, k10⟩ := put_ok (p.length + 1) ⟨D.B, []⟩ (gen + 1) life 0 p [] (by omega)
    ⟨hal, by omega, by omega, ⟨0, .nil, Nat.zero_le _⟩, fun i _ _ => .inl (hne i), Nat.zero_le _, by simp only; omega⟩ hpb hhalf (by simp only; omega) hlv'
  simp only at k1 k2 k3 k5 k6
  have hB' := D'.at_all
  obtain ⟨w1, w2, w3, w4⟩ := k5 _ k3 (Nat.le_refl _)
  rw [hB'] at w1 w2 w3 w4
  have hwr : (Dsk.mk D'.B []).write ((gen + 1) % 2) (pad (rootL (gen + 1) p.length)) = ⟨D'.B.set ((gen + 1) % 2) (pad (rootL (gen + 1) p.length)), [] ++ [((gen + 1) % 2, D'.B.getD ((gen + 1) % 2) [], pad (rootL (gen + 1) p.length))]⟩ := by
    unfold Dsk.write; rw [if_pos (by simp only; omega)]
  refine ⟨D', at2, t2, k1, k2, ?_⟩
  rw [hwr]
  show SInv ⟨D'.B.set ((gen + 1) % 2) (pad (rootL (gen + 1) p.length)), []⟩ (gen + 1) life at2 t2 true p [] 0 (bnd + 1)
  have h2 : (gen + 1) % 2 < 2 := by omega
  have hrl : (rootL (gen + 1) p.length).length = 16 := rfl
  have hb64 : (pad (rootL (gen + 1) p.length)).length = 64 ∧ ∀ x ∈ pad (rootL (gen + 1) p.length), x < 256 := by
    refine ⟨pad_length (by omega), pad_lt ?_⟩
    intro x hx
    unfold rootL at hx
    simp only [List.mem_append] at hx
    rcases hx with (hx | hx) | hx
    · unfold magicN at hx
      simp only [List.mem_cons, List.not_mem_nil, or_false] at hx
      omega
    · exact put4_lt _ x hx
    · exact put4_lt _ x hx
  have hroot := root_new (size' := p.length) ((rootF_congr w4).2 _ _ _ h.root) b1 rfl (by omega) (by omega) (by rw [k2]; omega)
  have hhb : ∀ i, hb (D'.B.set ((gen + 1) % 2) (pad (rootL (gen + 1) p.length))) (gen + 1) i = hb D'.B (gen + 1) i := fun i => hb_set2 h2
  have hlset : (D'.B.set ((gen + 1) % 2) (pad (rootL (gen + 1) p.length))).length = D.B.length := by rw [List.length_set, k2]
  have hlvs : Lives (D'.B.set ((gen + 1) % 2) (pad (rootL (gen + 1) p.length))) (gen + 1) life := by
    intro n hn
    rw [List.getD_eq_getElem?_getD, List.getElem?_set, if_neg (by omega)]
    have := w3 n hn
    rw [List.getD_eq_getElem?_getD] at this
    exact this
  have hals := set_64 w2 (n := (gen + 1) % 2) hb64
  generalize D'.B.set ((gen + 1) % 2) (pad (rootL (gen + 1) p.length)) = B2 at *
  have at0 : ∀ k, (Dsk.mk B2 []).at k = B2 := fun k => by simp [Dsk.at, undo]
  have hh : halfN B2 = halfN D.B := by unfold halfN; rw [hlset]
  have hh' : halfN D'.B = halfN D.B := by unfold halfN; rw [k2]
  have hfun : hb B2 (gen + 1) = hb D'.B (gen + 1) := funext hhb
  obtain ⟨q1, q2, q3, ⟨last, q4, q5⟩, q6, q7, q8⟩ := k7
  refine ⟨by simp only [hlset]; exact hlen, hroot, fun k _ i _ => by rw [at0], fun k _ => by rw [at0]; exact hals, fun k _ => by rw [at0]; exact hlvs, by omega, ⟨data2, ⟨hals, q2, q3, ⟨last, by simp only [hfun]; exact q4, q5⟩, fun i h1 h2 => ?_, by simp only [hh]; rw [hh'] at q7; exact q7, by simp only [hlset]; omega⟩, ?_⟩, ⟨k9, k10⟩, fun k _ => ?_, by simp, ⟨hp, hpb⟩⟩
  · simp only [hfun]
    exact q6 i h1 (by simp only [hh] at h2; omega)
  · rw [k8]; simp [encAll]
  · rw [at0]
    simp only [hh, hfun]
    refine ⟨0, [], ?_, rfl, Nat.le_refl _, Nat.le_refl _, fun _ => rfl, fun _ => rfl⟩
    rw [w1]
    simp only [List.nil_append, encAll, List.take_nil, List.flatMap_nil, List.append_nil]
    exact List.take_of_length_le (by simp only [List.length_nil] at k6; omega)
/-- A new disk, opened. -/
theorem sinv_new {n bnd : Nat} (h : 4 ≤ n ∧ n ≤ 65536) (hb1 : 1 ≤ bnd ∧ bnd < 1000000) : ∃ at' tail, openF (List.replicate n (List.replicate 64 0)) = ⟨1, eldest (List.replicate n (List.replicate 64 0)), false, [], [], at', tail⟩ ∧ SInv ⟨List.replicate n (List.replicate 64 0), []⟩ 1 (eldest (List.replicate n (List.replicate 64 0))) at' tail false [] [] 0 bnd := by
  have hget : ∀ i, (List.replicate n (List.replicate 64 0)).getD i (List.replicate 64 0) = List.replicate 64 0 := fun i => by
    rw [List.getD_eq_getElem?_getD]
    cases hq : (List.replicate n (List.replicate 64 0))[i]? with
    | none => rfl
    | some b => exact List.eq_of_mem_replicate (List.mem_of_getElem? hq)
  have hz : bGen (List.replicate 64 0) = 0 := by decide
  have hlow : ∀ m i gen, Low m (List.replicate n (List.replicate 64 0))[i]? gen := fun m i gen c hc h1 => by
    have : c = List.replicate 64 0 := List.eq_of_mem_replicate (List.mem_of_getElem? hc)
    rw [this] at h1
    exact absurd h1 (by decide)
  have hcand : ∀ m i r, cand m (List.replicate n (List.replicate 64 0))[i]? r = r := fun m i r => by
    unfold cand
    split
    · rfl
    · rename_i c hc
      have : c = List.replicate 64 0 := List.eq_of_mem_replicate (List.mem_of_getElem? hc)
      rw [if_neg]
      rintro ⟨h1, _⟩
      rw [this] at h1
      exact absurd h1 (by decide)
  have := open_ok (B := List.replicate n (List.replicate 64 0)) (gen := 1) (life := 0) (bnd := bnd) (whole := false) (snap := []) (j := []) (list := []) (by simp; exact h) ⟨by unfold rootF; rw [hcand, hcand]; rfl, hlow _ _ _, hlow _ _ _⟩
    (fun b hb => by rw [List.eq_of_mem_replicate hb]; exact ⟨by simp, fun x hx => by rw [List.eq_of_mem_replicate hx]; omega⟩)
    (fun m _ => by rw [hget, hz]; exact ⟨by omega, fun h => absurd h (by omega)⟩) (by omega)
    (by
      rw [walk_stop]
      · rfl
      · left
        unfold hb
        rw [hget, hz]; omega) rfl (by simp) (by simp)
  simpa using this
end Go.Proofs.Ytmlaconjeplhpaa.St
