/- Contracts of package command's writer. -/
import Derived.Test.YtachignmofpngaaStripB
set_option linter.unusedVariables false
set_option linter.unusedSimpArgs false
set_option maxRecDepth 20000
namespace Go.Proofs.Ytachignmofpngaa
open Go Go.Vc

def wholes (l : List Int) : List Nat := l.flatMap wholeN
theorem wholes_append (l l' : List Int) : wholes (l ++ l') = wholes l ++ wholes l' := by simp [wholes]
theorem wholes_length (l : List Int) : (wholes l).length ≤ 9 * l.length := by
  induction l with
  | nil => simp [wholes]
  | cons x l ih =>
    have := (wholeN_length x).2
    have e : wholes (x :: l) = wholeN x ++ wholes l := by simp [wholes]
    rw [e, List.length_append, List.length_cons]; omega
def ints (l : List Int) : List Value := l.map (Value.int .i64)
theorem ints_length (l : List Int) : (ints l).length = l.length := by simp [ints]

/-- A writer stands at p: these bytes, this error; v is the slice of its bytes. -/
structure Wr (w : World) (p : Nat) (bs : List Nat) (er : Int) (v : Value) : Prop where
  blk : Bk w p 72 [v, .int .i64 er]
  own : Own w 5 1 v bs.length (bytes bs)
  sep : p ∉ fp v
/-- What a writer's method may change. -/
structure WStep (p : Nat) (w : World) (v : Value) (w' : World) (v' : Value) : Prop where
  fr : Fr (p :: fp v) w w'
  sub : ∀ i ∈ fp v', i ∈ fp v ∨ w.heap.size ≤ i
theorem WStep.refl (p : Nat) (w : World) (v : Value) : WStep p w v w v := ⟨Fr.refl _ _, fun i hi => .inl hi⟩
theorem WStep.trans {p : Nat} {w w1 w2 : World} {v v1 v2 : Value} (h : WStep p w v w1 v1) (k : WStep p w1 v1 w2 v2) : WStep p w v w2 v2 :=
  ⟨h.fr.trans k.fr (fun i hi => by
    rcases List.mem_cons.1 hi with rfl | hi
    · exact .inl (by simp)
    · exact (h.sub i hi).imp (fun h => List.mem_cons_of_mem _ h) id),
   fun i hi => (k.sub i hi).elim (h.sub i) (fun h2 => .inr (Nat.le_trans h.fr.size h2))⟩
theorem WStep.fresh {p : Nat} {w w' : World} (v : Value) (f : Fr [] w w') : WStep p w v w' v := ⟨f.mono (fun i hi => by simp at hi), fun i hi => .inl hi⟩
theorem Wr.fresh {w w' : World} {p : Nat} {bs : List Nat} {er : Int} {v : Value} (h : Wr w p bs er v) (f : Fr [] w w') : Wr w' p bs er v := ⟨h.blk.fr f (by simp), h.own.fr f (fun i _ => by simp), h.sep⟩
/-- Another block stays as it is, and stays another. -/
theorem WStep.bk {p b : Nat} {T : TypeId} {l : List Value} {w w' : World} {v v' : Value} (h : WStep p w v w' v') (hb : Bk w b T l) (h1 : b ≠ p) (h2 : b ∉ fp v) : Bk w' b T l ∧ b ∉ fp v' :=
  ⟨hb.fr h.fr (by simp [h1, h2]), fun hi => (h.sub b hi).elim h2 (fun h3 => by have := hb.lt; omega)⟩
/-- A slice that is read, apart from the writer. -/
def Src (w : World) (p : Nat) (v : Value) (x : Value) (n : Nat) (l : List Value) : Prop := Sl w 1 x n l ∧ (0 < n → ∀ i ∈ fp x, i < w.heap.size ∧ i ≠ p ∧ i ∉ fp v)
theorem Sl.fr0 {X : List Nat} {w w' : World} {size n : Nat} {v : Value} {l : List Value} (h : Sl w size v n l) (f : Fr X w w') (hx : 0 < n → ∀ i ∈ fp v, i ∉ X) : Sl w' size v n l := by
  rcases Nat.eq_zero_or_pos n with h0 | h0
  · obtain ⟨A, c, rfl, hl, hn, hc⟩ := h
    subst h0
    have : l = [] := List.eq_nil_of_length_eq_zero (by omega)
    subst this
    exact ⟨A, c, rfl, hl, hn, fun a _ => Cells.nil _ _⟩
  · exact h.fr f (hx h0)
theorem WStep.src {p n : Nat} {x : Value} {l : List Value} {w w' : World} {v v' : Value} (h : WStep p w v w' v') (hs : Src w p v x n l) : Src w' p v' x n l :=
  ⟨Sl.fr0 hs.1 h.fr (fun h0 i hi => by have := hs.2 h0 i hi; simp [this.2.1, this.2.2]), fun h0 i hi => by
    obtain ⟨h1, h2, h3⟩ := hs.2 h0 i hi
    exact ⟨Nat.lt_of_lt_of_le h1 h.fr.size, h2, fun hm => (h.sub i hm).elim h3 (fun h4 => by omega)⟩⟩
theorem Bk.src {w : World} {p b n : Nat} {T : TypeId} {v : Value} {l : List Value} (hb : Bk w b T l) (hn : l.length = n) (c : Nat) (h1 : b ≠ p) (h2 : b ∉ fp v) : Src w p v (.slice (some ⟨b, 0, none⟩) n c) n l :=
  ⟨hb.sl hn c, fun _ i hi => by simp [fp_some] at hi; subst hi; exact ⟨hb.lt, h1, h2⟩⟩

/-- 'w.b = append(w.b, x...)', x new. -/
theorem put_bytes {w : World} {p : Nat} {bs : List Nat} {er : Int} {v x : Value} {l : List Nat} {k : Value → World → Prop} (hw : Wr w p bs er v) (hx : Sl w 1 x l.length (bytes l)) (hxp : ∀ i ∈ fp x, i ≠ p ∧ i ∉ fp v) (hb : bs.length + l.length ≤ 100000000000)
    (h : ∀ v' w', Wr w' p (bs ++ l) er v' → WStep p w v w' v' → k undef w') :
    Do Try.prog (Builtin.append_ #[37, 37] 37 #[v, x]) w fun t w1 => DoU Try.prog (Instr.storeAt 37 (.pointer (some ⟨p, 0, none⟩)) t) w1 k := by
  refine do_append Try.underlying37 infoB rfl (by omega) hw.own hx (bytes_one l) (by omega) (by omega) ?_
  intro v' w1 ho hf hs
  obtain ⟨A, c, hv'⟩ := ho.len
  have hb1 : Bk w1 p 72 [v, .int .i64 er] := hw.blk.fr hf hw.sep
  refine store' hb1 (by kernel_rfl) (by simp) (by rw [hv']; rfl) ?_
  intro w2 hb2 hf2 hsz
  have hpv : p ∉ fp v' := fun hi => (hs p hi).elim hw.sep (fun h => by have := hw.blk.lt; omega)
  refine h v' w2 ⟨by simpa using hb2, ?_, hpv⟩ ⟨?_, hs⟩
  · have := ho.fr hf2 (fun i hi => by simp; intro e; subst e; exact hpv hi)
    rw [← bytes_append, ← List.length_append] at this
    exact this
  · exact (hf.mono (fun i hi => .inl (List.mem_cons_of_mem _ hi))).trans hf2 (fun i hi => by simp at hi; subst hi; exact .inl (by simp))

theorem w_int {w : World} {p : Nat} {bs : List Nat} {er : Int} {v x : Value} {l : List Int} (hl : ∀ y ∈ l, I64 y) (hw : Wr w p bs er v) (hx : Src w p v x l.length (ints l)) (hb : bs.length + 9 * l.length ≤ 100000000000) :
    CallF Try.prog 31 #[.pointer (some ⟨p, 0, none⟩), x] w fun r w' => r = .tuple #[] ∧ ∃ v', Wr w' p (bs ++ wholes l) er v' ∧ WStep p w v w' v' := by
  refine C_command_writer_int_link ?_
  unfold C_command_writer_int
  obtain ⟨A, c, rfl, hrest⟩ := id hx.1
  refine len ?_
  refine ⟨fun m i w' => ∃ j : Nat, j + m = l.length ∧ i = .int .i64 j ∧ ∃ v', Wr w' p (bs ++ wholes (l.take j)) er v' ∧ WStep p w v w' v', l.length, ⟨0, by omega, rfl, v, by simpa [wholes] using hw, WStep.refl _ _ _⟩, ?_⟩
  rintro m i w1 ⟨j, hj, rfl, v1, hw1, hs1⟩
  refine lss (if_p (fun hlt => ?_) (fun hge => ?_))
  · have hjl : j < l.length := by omega
    have hx1 := hs1.src hx
    obtain ⟨A', c', heq, hl', hn', hc'⟩ := hx1.1
    cases heq
    obtain ⟨a, rfl⟩ : ∃ a, A = some a := by
      cases A with
      | none => have := (hn' rfl).1; omega
      | some a => exact ⟨a, rfl⟩
    refine ⟨by omega, by omega, ?_⟩
    have hcell : w1.cell? (a.add ((j : Int).toNat * 1)) = some (.int .i64 l[j]) := by
      have := hc' a rfl j (.int .i64 l[j]) (by simp [ints, hjl])
      simpa using this
    refine ⟨.int .i64 l[j], fun w' e => by rw [show w' = w1 from e]; exact hcell, ?_⟩
    refine ⟨fun w' => Bk w' p 72 [v1, .int .i64 er], hw1.blk.drew, ?_⟩
    refine nilC (fad (ldC_S (l := [v1, .int .i64 er]) (fun w' h => h) rfl ?_))
    have hyI := hl l[j] (List.getElem_mem hjl)
    refine (layInt_c (n := 0) (v := .slice none 0 0) (l := []) hyI (World.drew w1) ⟨none, 0, rfl, rfl, fun _ => ⟨rfl, rfl⟩, fun a h => by cases h⟩ (fun u hu => by simp at hu) (by omega)).use ?_
    intro t w2 hN
    have hw2 : Wr w2 p (bs ++ wholes (l.take j)) er v1 := (hw1.fresh (Fr.drew _ _)).fresh hN.fr
    refine ⟨hw2.blk, ?_⟩
    have hlen := wholes_length (l.take j)
    have hlen2 := (wholeN_length l[j]).2
    rw [List.length_take, Nat.min_eq_left (by omega)] at hlen
    rw [Nat.zero_add, List.nil_append] at hN
    have hsep : ∀ i ∈ fp t, i ≠ p ∧ i ∉ fp v1 := fun i hi => by
      have h1 := hN.new i hi
      have h2 := hw1.blk.lt
      refine ⟨by have : (World.drew w1).heap.size = w1.heap.size := rfl; omega, fun hm => ?_⟩
      have := hw1.own.lt i hm
      have : (World.drew w1).heap.size = w1.heap.size := rfl
      omega
    have hst2 : WStep p w1 v1 w2 v1 := (WStep.fresh v1 (Fr.drew [] w1)).trans (WStep.fresh v1 hN.fr)
    refine do_append Try.underlying37 infoB rfl (by omega) hw2.own hN.own.sl (bytes_one _) ?_ ?_ ?_
    · rw [List.length_append]; omega
    · rw [List.length_append]; omega
    intro v3 w3 ho hf hs3
    have hb3 : Bk w3 p 72 [v1, .int .i64 er] := hw2.blk.fr hf hw2.sep
    refine nilC (fad ?_)
    obtain ⟨A3, c3, hv3⟩ := ho.len
    refine store' hb3 (by kernel_rfl) (by simp) (by rw [hv3]; rfl) ?_
    intro w4 hb4 hf4 hsz
    have hpv : p ∉ fp v3 := fun hi => (hs3 p hi).elim hw2.sep (fun h => by have := hw2.blk.lt; omega)
    have hw4 : Wr w4 p (bs ++ wholes (l.take (j + 1))) er v3 := by
      refine ⟨by simpa using hb4, ?_, hpv⟩
      have := ho.fr hf4 (fun i hi => by simp; intro e; subst e; exact hpv hi)
      rw [← bytes_append, ← List.length_append, List.append_assoc] at this
      have e : wholes (l.take (j + 1)) = wholes (l.take j) ++ wholeN l[j] := by
        rw [List.take_succ_eq_append_getElem hjl, wholes_append]; simp [wholes]
      rw [e]
      exact this
    have hst4 : WStep p w2 v1 w4 v3 := ⟨(hf.mono (fun i hi => .inl (List.mem_cons_of_mem _ hi))).trans hf4 (fun i hi => by simp at hi; subst hi; exact .inl (by simp)), hs3⟩
    refine add64 (by omega) ⟨m - 1, by omega, j + 1, by omega, rfl, v3, hw4, (hs1.trans hst2).trans hst4⟩
  · have e : l.take j = l := List.take_of_length_le (by omega)
    rw [e] at hw1
    exact ⟨rfl, v1, hw1, hs1⟩

theorem w_uint {w : World} {p : Nat} {bs : List Nat} {er : Int} {v : Value} {x : Nat} (hx : x ≤ 18446744073709551615) (hw : Wr w p bs er v) (hb : bs.length ≤ 99999999990) :
    CallF Try.prog 32 #[.pointer (some ⟨p, 0, none⟩), .int .u64 x] w fun r w' => r = .tuple #[] ∧ ∃ v', Wr w' p (bs ++ layN x) er v' ∧ WStep p w v w' v' := by
  refine C_command_writer_uint_link ?_
  unfold C_command_writer_uint
  refine ⟨fun w' => Bk w' p 72 [v, .int .i64 er], hw.blk.drew, ?_⟩
  refine nilC (fad (ldC_S (l := [v, .int .i64 er]) (fun w' h => h) rfl ?_))
  refine (lay_c (n := 0) (v := .slice none 0 0) (l := []) hx (World.drew w) ⟨none, 0, rfl, rfl, fun _ => ⟨rfl, rfl⟩, fun a h => by cases h⟩ (fun u hu => by simp at hu) (by omega)).use ?_
  intro t w2 hN
  have hw2 : Wr w2 p bs er v := (hw.fresh (Fr.drew _ _)).fresh hN.fr
  refine ⟨hw2.blk, ?_⟩
  have hlen2 := (layN_length x).2
  rw [Nat.zero_add, List.nil_append] at hN
  have hsep : ∀ i ∈ fp t, i ≠ p ∧ i ∉ fp v := fun i hi => by
    have h1 := hN.new i hi
    have h2 := hw.blk.lt
    have h3 : (World.drew w).heap.size = w.heap.size := rfl
    exact ⟨by omega, fun hm => by have := hw.own.lt i hm; omega⟩
  have hst2 : WStep p w v w2 v := (WStep.fresh v (Fr.drew [] w)).trans (WStep.fresh v hN.fr)
  have hpb := put_bytes hw2 (hN.own.sl) hsep (by omega) (k := fun _ w' => (Value.tuple #[] = .tuple #[] ∧ ∃ v', Wr w' p (bs ++ layN x) er v' ∧ WStep p w v w' v'))
    (fun v' w' h1 h2 => ⟨rfl, v', h1, hst2.trans h2⟩)
  obtain ⟨v3, w3, hr, hk⟩ := hpb
  exact ⟨v3, w3, hr, nilC (fad hk)⟩

/-- A count that is too much leaves its error. -/
def cnt (n : Nat) (er : Int) : Int := if 1024 < n then 3 else er
theorem w_count {w : World} {p : Nat} {bs : List Nat} {er : Int} {v : Value} {n : Nat} (hn : n ≤ 100000000000) (hw : Wr w p bs er v) (hb : bs.length ≤ 99999999990) :
    CallF Try.prog 95 #[.pointer (some ⟨p, 0, none⟩), .int .i64 n] w fun r w' => r = .tuple #[] ∧ ∃ v', Wr w' p (bs ++ layN n) (cnt n er) v' ∧ WStep p w v w' v' := by
  refine C_command_writer_count_link ?_
  unfold C_command_writer_count
  refine gtr ?_
  refine ⟨fun w1 => Wr w1 p bs (cnt n er) v ∧ WStep p w v w1 v, ?_, ?_⟩
  · rintro w1 ⟨h1, h2⟩
    refine conv_u64 (by omega) ((w_uint (by omega) h1 hb).use ?_)
    rintro r w2 ⟨_, v', h3, h4⟩
    exact ⟨rfl, v', h3, h2.trans h4⟩
  · refine if_p (fun h => ?_) (fun h => ?_)
    · refine nilC (fad (store' hw.blk (by kernel_rfl) (by simp) rfl ?_))
      intro w1 hb1 hf hsz
      have e : cnt n er = 3 := by unfold cnt; rw [if_pos (by omega)]
      rw [e]
      exact ⟨⟨by simpa using hb1, hw.own.fr hf (fun i hi => by simp; intro e; subst e; exact hw.sep hi), hw.sep⟩, ⟨hf.mono (fun i hi => by simp at hi; subst hi; exact .inl (by simp)), fun i hi => .inl hi⟩⟩
    · have e : cnt n er = er := by unfold cnt; rw [if_neg (by omega)]
      rw [e]
      exact ⟨hw, WStep.refl _ _ _⟩

/-- A list's bytes. -/
def listN (l : List Int) : List Nat := layN l.length ++ wholes l
theorem listN_length (l : List Int) : (listN l).length ≤ 9 * l.length + 9 := by
  have h1 := (layN_length l.length).2
  have h2 := wholes_length l
  unfold listN; rw [List.length_append]; omega
theorem infoI : (Try.prog.info? 2).map (fun i => (i.zero, i.size, i.bytes)) = some (some (.int .i64 0), 1, 8) := by kernel_rfl
theorem infoInt : (Try.prog.info? 3).map (fun i => (i.zero, i.size, i.bytes)) = some (some (.int .i64 0), 1, 8) := by kernel_rfl

/-- 'w.int(a, b, ..)', the arguments whole numbers. -/
theorem int_lit {w : World} {p n : Nat} {bs : List Nat} {er : Int} {v : Value} {l : List Int} {parts : Array (Nat × Value)} {k : Value → World → Prop} (hl : ∀ y ∈ l, I64 y) (hw : Wr w p bs er v) (hb : bs.length + 9 * l.length ≤ 100000000000)
    (hp : parts = (((ints l).zipIdx 0).map fun x => (x.2, x.1)).toArray) (hn : l.length = n) (hle : n ≤ 16777216)
    (h : ∀ v' w', Wr w' p (bs ++ wholes l) er v' → WStep p w v w' v' → k (.tuple #[]) w') :
    Do Try.prog (Instr.buildSlice 81 n parts) w fun s w1 => CallF Try.prog 31 #[.pointer (some ⟨p, 0, none⟩), s] w1 k := by
  refine lit' Try.underlying81 infoI rfl hp (by rw [ints_length]; exact hn) hle (fun v hv => by obtain ⟨_, _, rfl⟩ := List.mem_map.1 hv; rfl) ?_
  intro b w1 hb1 hB hF hsz
  have hw1 := hw.fresh hF
  have hsrc : Src w1 p v (.slice (some ⟨b, 0, none⟩) n n) l.length (ints l) := by
    have h1 : b ≠ p := by have := hw.blk.lt; omega
    have h2 : b ∉ fp v := fun hm => by have := hw.own.lt b hm; omega
    subst hn
    exact Bk.src hB (ints_length l) _ h1 h2
  refine (w_int hl hw1 hsrc hb).use ?_
  rintro r w2 ⟨rfl, v', h3, h4⟩
  exact h v' w2 h3 ((WStep.fresh v hF).trans h4)

theorem w_list {w : World} {p : Nat} {bs : List Nat} {er : Int} {v x : Value} {l : List Int} (hl : ∀ y ∈ l, I64 y) (hw : Wr w p bs er v) (hx : Src w p v x l.length (ints l)) (hb : bs.length + 9 * l.length ≤ 99999999980) :
    CallF Try.prog 61 #[.pointer (some ⟨p, 0, none⟩), x] w fun r w' => r = .tuple #[] ∧ ∃ v', Wr w' p (bs ++ listN l) (cnt l.length er) v' ∧ WStep p w v w' v' := by
  refine C_command_writer_list_link ?_
  unfold C_command_writer_list
  obtain ⟨A, c, rfl, hrest⟩ := id hx.1
  refine len ((w_count (by omega) hw (by omega)).use ?_)
  rintro _ w1 ⟨rfl, v1, hw1, hs1⟩
  refine len ?_
  have hlay := (layN_length l.length).2
  refine ⟨fun m i w' => ∃ j : Nat, j + m = l.length ∧ i = .int .i64 j ∧ ∃ v', Wr w' p (bs ++ layN l.length ++ wholes (l.take j)) (cnt l.length er) v' ∧ WStep p w v w' v', l.length, ⟨0, by omega, rfl, v1, by simpa [wholes] using hw1, hs1⟩, ?_⟩
  rintro m i w2 ⟨j, hj, rfl, v2, hw2, hs2⟩
  refine lss (if_p (fun hlt => ?_) (fun hge => ?_))
  · have hjl : j < l.length := by omega
    obtain ⟨A', c', heq, hl', hn', hc'⟩ := (hs2.src hx).1
    cases heq
    obtain ⟨a, rfl⟩ : ∃ a, A = some a := by
      cases A with
      | none => have := (hn' rfl).1; omega
      | some a => exact ⟨a, rfl⟩
    refine ⟨by omega, by omega, ?_⟩
    have hcell : w2.cell? (a.add ((j : Int).toNat * 1)) = some (.int .i64 l[j]) := by
      have := hc' a rfl j (.int .i64 l[j]) (by simp [ints, hjl])
      simpa using this
    refine ⟨.int .i64 l[j], fun w' e => by rw [show w' = w2 from e]; exact hcell, ?_⟩
    have hlen := wholes_length (l.take j)
    rw [List.length_take, Nat.min_eq_left (by omega)] at hlen
    refine int_lit (l := [l[j]]) (fun y hy => by rw [List.mem_singleton.1 hy]; exact hl _ (List.getElem_mem hjl)) hw2 (by simp only [List.length_append, List.length_singleton]; omega) rfl rfl (by omega) ?_
    intro v3 w3 hw3 hs3
    refine add64 (by omega) ⟨m - 1, by omega, j + 1, by omega, rfl, v3, ?_, hs2.trans hs3⟩
    rw [List.take_succ_eq_append_getElem hjl, wholes_append, ← List.append_assoc]
    exact hw3
  · have e : l.take j = l := List.take_of_length_le (by omega)
    rw [e] at hw2
    exact ⟨rfl, v2, by rw [listN, ← List.append_assoc]; exact hw2, hs2⟩
end Go.Proofs.Ytachignmofpngaa
