/- Memory as the contracts speak of it: blocks, what a call may change, slices that are read, rows that are owned; and a law for each operation that reads or changes memory. Laws for the operations on whole numbers, tests, guards and calls, in the form in which the contracts use them. How things lie in memory: the cells of a value, what it reads as, and the blocks that it stands in. Comparing structs of whole numbers, texts, and bytes made into texts. -/
import Derived.Test.YtmlaconjeplhpaaMA
import Derived.Maps.AppendAt
import Derived.IntWalk
import Derived.Laws.StructEq
import Derived.Laws.IdiomStrings
import Derived.Laws.BytesArg
set_option linter.unusedVariables false
set_option linter.unusedSimpArgs false
namespace Go.Vc
open Go

/-! ### Worlds -/
theorem alloc_heap (w : World) (o : Obj) : (w.alloc o).heap = w.heap.push o := rfl
theorem setO_heap (w : World) (b : Nat) (o : Obj) : (setO w b o).heap = w.heap.setIfInBounds b o := rfl
theorem setO_size (w : World) (b : Nat) (o : Obj) : (setO w b o).heap.size = w.heap.size := by simp [setO]
theorem alloc_size (w : World) (o : Obj) : (w.alloc o).heap.size = w.heap.size + 1 := by simp [alloc_heap]
theorem drew_heap (w : World) : w.drew.heap = w.heap := rfl
theorem heap_lt {w : World} {b : Nat} {o : Obj} (h : w.heap[b]? = some o) : b < w.heap.size := (Array.getElem?_eq_some_iff.1 h).1
theorem setO_same {w : World} {b : Nat} (o : Obj) (h : b < w.heap.size) : (setO w b o).heap[b]? = some o := by
  rw [setO_heap, Array.getElem?_setIfInBounds_self, if_pos h]
theorem setO_other {w : World} {b c : Nat} (o : Obj) (h : b ≠ c) : (setO w b o).heap[c]? = w.heap[c]? := by
  rw [setO_heap, Array.getElem?_setIfInBounds_ne h]
theorem alloc_new (w : World) (o : Obj) : (w.alloc o).heap[w.heap.size]? = some o := by simp [alloc_heap]
theorem alloc_old {w : World} {b : Nat} {x : Obj} (o : Obj) (h : w.heap[b]? = some x) : (w.alloc o).heap[b]? = some x := by
  rw [alloc_heap, Array.getElem?_push, if_neg (by have := heap_lt h; omega)]; exact h
theorem alloc_old' {w : World} {b : Nat} (o : Obj) (h : b < w.heap.size) : (w.alloc o).heap[b]? = w.heap[b]? := by
  rw [alloc_heap, Array.getElem?_push, if_neg (by omega)]

/-- Nothing but the blocks in X, and new ones, has changed. -/
structure Fr (X : List Nat) (w w' : World) : Prop where
  os : w'.os = w.os
  tape : w'.tape = w.tape
  output : w'.output = w.output
  size : w.heap.size ≤ w'.heap.size
  keep : ∀ b, b < w.heap.size → b ∉ X → w'.heap[b]? = w.heap[b]?
theorem Fr.refl (X : List Nat) (w : World) : Fr X w w := ⟨rfl, rfl, rfl, Nat.le_refl _, fun _ _ _ => rfl⟩
theorem Fr.trans {X Y : List Nat} {a b c : World} (h : Fr X a b) (k : Fr Y b c) (hy : ∀ i ∈ Y, i ∈ X ∨ a.heap.size ≤ i) : Fr X a c :=
  ⟨k.os.trans h.os, k.tape.trans h.tape, k.output.trans h.output, Nat.le_trans h.size k.size, fun i hi hx =>
    (k.keep i (Nat.lt_of_lt_of_le hi h.size) (fun hm => (hy i hm).elim hx (by omega))).trans (h.keep i hi hx)⟩
theorem Fr.mono {X Y : List Nat} {a b : World} (h : Fr X a b) (hy : ∀ i ∈ X, i ∈ Y ∨ a.heap.size ≤ i) : Fr Y a b :=
  (Fr.refl Y a).trans h hy
theorem Fr.alloc (X : List Nat) (w : World) (o : Obj) : Fr X w (w.alloc o) := ⟨rfl, rfl, rfl, by rw [alloc_size]; omega, fun b hb _ => alloc_old' o hb⟩
theorem Fr.drew (X : List Nat) (w : World) : Fr X w w.drew := ⟨rfl, rfl, rfl, Nat.le_refl _, fun _ _ _ => rfl⟩
theorem Fr.setO {X : List Nat} (w : World) {b : Nat} (o : Obj) (h : b ∈ X ∨ w.heap.size ≤ b) : Fr X w (Vc.setO w b o) :=
  ⟨rfl, rfl, rfl, by rw [setO_size]; omega, fun c hc hx => by
    rcases h with h | h
    · exact setO_other o (by intro e; subst e; exact hx h)
    · exact setO_other o (by omega)⟩
theorem Fr.get {X : List Nat} {w w' : World} (h : Fr X w w') {b : Nat} {o : Obj} (hb : w.heap[b]? = some o) (hx : b ∉ X) : w'.heap[b]? = some o := by
  rw [h.keep b (heap_lt hb) hx]; exact hb
theorem Fr.of_grownBy {w w' : World} {row : Option Nat} (h : w.grownBy w' row) : Fr row.toList w w' :=
  ⟨h.os, h.tape, h.output, h.size, fun b hb hx => h.block b hb (by intro e; apply hx; rw [← e]; simp)⟩
theorem Fr.below {X : List Nat} {w w' : World} (h : Fr X w w') {B : Nat} (hx : ∀ i ∈ X, B ≤ i) (hB : B ≤ w.heap.size) : Go.RowKit.Below B w w' :=
  ⟨h.os, h.tape, h.output, h.size, fun b hb => h.keep b (by omega) (fun hm => by have := hx b hm; omega)⟩

/-- Block b holds these cells. -/
def Bk (w : World) (b : Nat) (T : TypeId) (l : List Value) : Prop := w.heap[b]? = some (.cells l.toArray T (0, 0))
theorem Bk.lt {w : World} {b : Nat} {T : TypeId} {l : List Value} (h : Bk w b T l) : b < w.heap.size := heap_lt h
theorem Bk.cell {w : World} {b : Nat} {T : TypeId} {l : List Value} (h : Bk w b T l) (o : Nat) : w.cell? ⟨b, o, none⟩ = l[o]? := by
  unfold Bk at h
  simp [World.cell?, h]
theorem Bk.free {w : World} {b : Nat} {T : TypeId} {l : List Value} (h : Bk w b T l) (o : Nat) : w.frozen? ⟨b, o, none⟩ = false := by
  unfold Bk at h
  simp [World.frozen?, h]
theorem Bk.fr {X : List Nat} {w w' : World} {b : Nat} {T : TypeId} {l : List Value} (h : Bk w b T l) (f : Fr X w w') (hx : b ∉ X) : Bk w' b T l := f.get h hx
theorem Bk.alloc {w : World} {b : Nat} {T : TypeId} {l : List Value} (h : Bk w b T l) (o : Obj) : Bk (w.alloc o) b T l := alloc_old o h
theorem Bk.new (w : World) (T : TypeId) (l : List Value) : Bk (w.alloc (.cells l.toArray T)) w.heap.size T l := alloc_new w _
theorem Bk.setO {w : World} {b c : Nat} {T : TypeId} {l : List Value} (h : Bk w b T l) (o : Obj) (hne : c ≠ b) : Bk (Vc.setO w c o) b T l := by
  unfold Bk at *; rw [setO_other o hne]; exact h
theorem Bk.set {w : World} {b : Nat} {T : TypeId} (l : List Value) (h : b < w.heap.size) : Bk (Vc.setO w b (.cells l.toArray T (0, 0))) b T l := setO_same _ h
theorem Bk.drew {w : World} {b : Nat} {T : TypeId} {l : List Value} (h : Bk w b T l) : Bk w.drew b T l := h

/-- These values stand from address a on. -/
def Cells (w : World) (a : Addr) (l : List Value) : Prop := ∀ j v, l[j]? = some v → w.cell? (a.add j) = some v
theorem Cells.nil (w : World) (a : Addr) : Cells w a [] := fun j v h => by simp at h
theorem Cells.of_bk {w : World} {b : Nat} {T : TypeId} {l : List Value} (h : Bk w b T l) (o n : Nat) : Cells w ⟨b, o, none⟩ ((l.drop o).take n) := by
  intro j v hj
  rw [Addr.add_lit, h.cell]
  rw [List.getElem?_take] at hj
  split at hj
  · rwa [List.getElem?_drop] at hj
  · cases hj
theorem Cells.fr {X : List Nat} {w w' : World} {a : Addr} {l : List Value} (h : Cells w a l) (f : Fr X w w') (hx : a.block ∉ X) : Cells w' a l := by
  intro j v hj
  have hc := h j v hj
  have hb : (a.add j).block = a.block := by unfold Addr.add; split <;> rfl
  have hlt := World.block_lt_of_cell? w _ hc
  rw [World.cell?_of_block (w := w) (w' := w') (by rw [hb]; exact f.keep _ (by rw [← hb]; exact hlt) hx)]
  exact hc

/-! ### Slices -/
def fp (v : Value) : List Nat := v.ownBlock.toList
theorem fp_nil (n c : Nat) : fp (.slice none n c) = [] := rfl
theorem fp_some (a : Addr) (n c : Nat) : fp (.slice (some a) n c) = [a.block] := rfl
/-- A slice whose n elements (so many cells each) read as l. -/
def Sl (w : World) (size : Nat) (v : Value) (n : Nat) (l : List Value) : Prop :=
  ∃ A c, v = .slice A n c ∧ l.length = n * size ∧ (A = none → n = 0 ∧ c = 0) ∧ ∀ a, A = some a → Cells w a l
theorem Sl.fr {X : List Nat} {w w' : World} {size n : Nat} {v : Value} {l : List Value} (h : Sl w size v n l) (f : Fr X w w') (hx : ∀ i ∈ fp v, i ∉ X) : Sl w' size v n l := by
  obtain ⟨A, c, rfl, hl, hn, hc⟩ := h
  exact ⟨A, c, rfl, hl, hn, fun a ha => (hc a ha).fr f (hx _ (by subst ha; simp [fp_some]))⟩
/-- A row of the owner's own: v is nil, or stands at its head. -/
def Own (w : World) (T : TypeId) (size : Nat) (v : Value) (n : Nat) (l : List Value) : Prop := w.ownsRow 0 T size v n l
theorem Own.nil (w : World) (T : TypeId) (size : Nat) : Own w T size (.slice none 0 0) 0 [] := World.ownsRow_nil w 0 T size
theorem Own.fr {X : List Nat} {w w' : World} {T : TypeId} {size n : Nat} {v : Value} {l : List Value} (h : Own w T size v n l) (f : Fr X w w') (hx : ∀ i ∈ fp v, i ∉ X) : Own w' T size v n l := by
  refine ⟨h.1, ?_⟩
  rcases h.2 with hn | ⟨g, cap, cur, rfl, hb, hgg, rest⟩
  · exact .inl hn
  · exact .inr ⟨g, cap, cur, rfl, hb, f.get hgg (hx g (by simp [fp_some])), rest⟩
theorem Own.sl {w : World} {T : TypeId} {size n : Nat} {v : Value} {l : List Value} (h : Own w T size v n l) : Sl w size v n l := by
  rcases h.2 with ⟨rfl, rfl⟩ | ⟨g, cap, cur, rfl, hb, hgg, hrest⟩
  · exact ⟨none, 0, rfl, h.1, fun _ => ⟨rfl, rfl⟩, fun a ha => by cases ha⟩
  · exact ⟨some _, cap, rfl, h.1, (fun e => by cases e), fun a ha => by obtain rfl := Option.some.inj ha; exact fun j u hu => World.ownsRow.cells h (g := g) rfl j u hu⟩
theorem Own.lt {w : World} {T : TypeId} {size n : Nat} {v : Value} {l : List Value} (h : Own w T size v n l) : ∀ i ∈ fp v, i < w.heap.size := by
  intro i hi
  unfold fp at hi
  rw [Option.mem_toList] at hi
  exact (World.ownsRow.lt h i hi).2
theorem Own.len {w : World} {T : TypeId} {size n : Nat} {v : Value} {l : List Value} (h : Own w T size v n l) : ∃ A c, v = .slice A n c := by
  obtain ⟨A, c, hv, _⟩ := h.sl
  exact ⟨A, c, hv⟩

/-! ### The laws -/
section
variable {P : Program} {w : World} {k : Value → World → Prop}
theorem do_alloc {t : TypeId} {l : List Value} (hz : (zeroT P t).map (fun z => z.cells.toList) = some l) (h : k (.pointer (some ⟨w.heap.size, 0, none⟩)) (w.alloc (.cells l.toArray t))) : Do P (Instr.alloc t true (.tuple #[])) w k := by
  obtain ⟨z, hz', rfl⟩ := Option.map_eq_some_iff.1 hz
  unfold zeroT at hz'
  obtain ⟨i, hi, hz'⟩ := Option.bind_eq_some_iff.1 hz'
  refine ⟨_, _, ?_, h⟩
  simp [Instr.alloc, zeroValue, typeInfo, hi, hz', newVar, newRow]
theorem do_box {t : TypeId} {v : Value} (h : k (.pointer (some ⟨w.heap.size, 0, none⟩)) (w.alloc (.cells v.cells.toList.toArray t))) : Do P (Instr.box t v) w k := by
  refine ⟨_, _, ?_, h⟩
  simp [Instr.box, newVar, newRow]
theorem setCell_eq {b o : Nat} {T : TypeId} {l : List Value} (v : Value) (hb : Bk w b T l) : w.setCell ⟨b, o, none⟩ v = setO w b (.cells (l.set o v).toArray T (0, 0)) := by
  unfold World.setCell setO
  congr 1
  unfold Bk at hb
  apply Array.ext
  · simp
  · intro i h1 h2
    rw [Array.getElem_modify]
    by_cases hi : b = i
    · subst hi
      have : w.heap[b]'(by simpa using h1) = .cells l.toArray T (0, 0) := by
        rw [Array.getElem?_eq_getElem (by simpa using h1)] at hb
        exact Option.some.inj hb
      simp [this]
    · rw [if_neg (by exact hi), Array.getElem_setIfInBounds_ne (by simpa using h1) hi]
theorem store_one {b o : Nat} {T : TypeId} {l : List Value} {v : Value} (hb : Bk w b T l) (ho : o < l.length) (hv : v.oneCell' = true) : (store ⟨b, o, none⟩ v).run P w = .ok () (setO w b (.cells (l.set o v).toArray T (0, 0))) := by
  rw [run_store P w _ v _ hv]
  have hc := hb.cell o
  rw [List.getElem?_eq_getElem ho] at hc
  simp [hc, hb.free o, setCell_eq v hb]
theorem storeCells_bk {b : Nat} {T : TypeId} : ∀ (vs : List Value) (w : World) (l : List Value) (o i : Nat), Bk w b T l → o + i + vs.length ≤ l.length → (∀ v ∈ vs, v.oneCell' = true) →
    ∃ w', (storeCells ⟨b, o, none⟩ vs i).run P w = .ok () w' ∧ w' = (if vs = [] then w else setO w b (.cells (splice l (o + i) vs).toArray T (0, 0)))
  | [], w, l, o, i, hb, hl, h1 => ⟨w, by simp [storeCells], by simp⟩
  | v :: vs, w, l, o, i, hb, hl, h1 => by
    simp only [List.length_cons] at hl
    have hs := store_one (P := P) (v := v) (o := o + i) hb (by omega) (h1 v (by simp))
    have hb' : Bk (setO w b (.cells (l.set (o + i) v).toArray T (0, 0))) b T (l.set (o + i) v) := Bk.set _ hb.lt
    obtain ⟨w', hr, hw⟩ := storeCells_bk vs _ (l.set (o + i) v) o (i + 1) hb' (by simp; omega) (fun u hu => h1 u (by simp [hu]))
    refine ⟨w', ?_, ?_⟩
    · simp only [storeCells, Sem.run_bind, Addr.add_lit, hs, Result.andThen_ok, hr]
    · rw [if_neg (by simp)]
      rw [hw]
      have e : splice (l.set (o + i) v) (o + (i + 1)) vs = splice l (o + i) (v :: vs) := by
        unfold splice
        rw [List.drop_set_of_lt (by omega), ← Nat.add_assoc, List.length_cons]
        rw [show o + i + 1 + vs.length = o + i + (vs.length + 1) by omega]
        congr 1
        rw [List.take_succ_eq_append_getElem (by simp; omega)]
        simp [List.take_set_of_le]
      split
      · rename_i hv
        subst hv
        have : splice l (o + i) [v] = l.set (o + i) v := by
          unfold splice
          rw [List.set_eq_take_append_cons_drop, if_pos (by omega)]
          simp
        rw [this]
      · rw [e]
        unfold setO
        simp
theorem doU_store {t : TypeId} {b o : Nat} {T : TypeId} {l : List Value} {v : Value} (hb : Bk w b T l) (ho : o < l.length) (hv : v.oneCell' = true) (hs : sizeT P t = some 1)
    (h : k undef (setO w b (.cells (l.set o v).toArray T (0, 0)))) : DoU P (Instr.storeAt t (.pointer (some ⟨b, o, none⟩)) v) w k := by
  refine ⟨_, ?_, h⟩
  have hc : v.cells = #[v] := by cases v <;> first | rfl | cases hv
  have h1 := store_one (P := P) hb ho hv
  simp [Instr.storeAt, Instr.sureAddr, storeVar, run_sizeOf t hs, hc, storeCells, Addr.add_zero', h1]
theorem doU_store_agg {t : TypeId} {b o n : Nat} {T : TypeId} {l vs : List Value} (hb : Bk w b T l) (hn : vs.length = n) (h0 : 0 < n) (ho : o + n ≤ l.length) (hv : ∀ v ∈ vs, v.oneCell' = true) (hs : sizeT P t = some n)
    (h : k undef (setO w b (.cells (splice l o vs).toArray T (0, 0)))) : DoU P (Instr.storeAt t (.pointer (some ⟨b, o, none⟩)) (.agg vs.toArray)) w k := by
  refine ⟨_, ?_, h⟩
  obtain ⟨w', hr, hw⟩ := storeCells_bk (P := P) vs w l o 0 hb (by omega) hv
  have hne : vs ≠ [] := by intro e; subst e; simp at hn; omega
  rw [if_neg hne, Nat.add_zero] at hw
  subst hw
  simp [Instr.storeAt, Instr.sureAddr, storeVar, run_sizeOf t hs, Value.cells, hn, hr]
end
section
variable {S : World → Prop} {k : Value → Prop}
theorem ldC {b o : Nat} {v : Value} (hc : ∀ w', S w' → w'.cell? ⟨b, o, none⟩ = some v) (h : k v) : LdC S (.pointer (some ⟨b, o, none⟩)) k := ⟨v, hc, h⟩
theorem ldC_bk {w : World} {b o : Nat} {T : TypeId} {l : List Value} {v : Value} (hb : Bk w b T l) (hv : l[o]? = some v) (h : k v) : LdC (At w) (.pointer (some ⟨b, o, none⟩)) k :=
  ⟨v, fun w' e => by rw [show w' = w from e, hb.cell o]; exact hv, h⟩
theorem ldA_bk {w : World} {b o n : Nat} {T : TypeId} {l : List Value} (hb : Bk w b T l) (hn : o + n ≤ l.length) (h : k (.agg ((l.drop o).take n).toArray)) : LdA (At w) n (.pointer (some ⟨b, o, none⟩)) k :=
  ⟨(l.drop o).take n, by simp; omega, fun w' e j v hj => by rw [show w' = w from e]; exact Cells.of_bk hb o n j v hj, h⟩
theorem ldC_S {b o : Nat} {T : TypeId} {l : List Value} {v : Value} (hb : ∀ w', S w' → Bk w' b T l) (hv : l[o]? = some v) (h : k v) : LdC S (.pointer (some ⟨b, o, none⟩)) k :=
  ⟨v, fun w' e => by rw [(hb w' e).cell o]; exact hv, h⟩
theorem ldA_S {b o n : Nat} {T : TypeId} {l : List Value} (hb : ∀ w', S w' → Bk w' b T l) (hn : o + n ≤ l.length) (h : k (.agg ((l.drop o).take n).toArray)) : LdA S n (.pointer (some ⟨b, o, none⟩)) k :=
  ⟨(l.drop o).take n, by simp; omega, fun w' e j v hj => Cells.of_bk (hb w' e) o n j v hj, h⟩
end

/-! ### make and append -/
section
variable {P : Program} {w : World} {k : Value → World → Prop}
theorem info_of {t : TypeId} {z : Value} {size bytes : Nat} (h : (P.info? t).map (fun i => (i.zero, i.size, i.bytes)) = some (some z, size, bytes)) : ∃ i, P.info? t = some i ∧ i.zero = some z ∧ i.size = size ∧ i.bytes = bytes := info_parts h
theorem do_make0 {t e : TypeId} {z : Value} {size bytes c : Nat} {kl kc : IntKind} (ht : P.underlying t = some (.slice e)) (hi : (P.info? e).map (fun i => (i.zero, i.size, i.bytes)) = some (some z, size, bytes)) (hb : bytes * c ≤ 281474976710656) (hc : c ≤ 140737488355328)
    (h : ∀ w', Own w' e size (.slice (some ⟨w.heap.size, 0, none⟩) 0 c) 0 [] → Fr [] w w' → k (.slice (some ⟨w.heap.size, 0, none⟩) 0 c) w') : Do P (Instr.makeSlice t (.int kl 0) (.int kc (c : Int))) w k := by
  obtain ⟨i, hi', hz, hs, hby⟩ := info_of hi
  subst hby
  obtain ⟨w', hr, ho, hg⟩ := run_make_own (P := P) w 0 t e i z size ht hi' hz hs kl kc c hb (by unfold maxLen; omega) (by omega)
  exact ⟨_, _, hr, h w' ho (Fr.of_grownBy hg)⟩
/-- append to a row of one's own, from whatever can be read. -/
theorem do_append {t e ty : TypeId} {z : Value} {size bytes n m : Nat} {v x : Value} {l news : List Value} (ht : P.underlying t = some (.slice e)) (hi : (P.info? e).map (fun i => (i.zero, i.size, i.bytes)) = some (some z, size, bytes))
    (hzs : z.cells.size = size) (hsz : 0 < size) (ho : Own w e size v n l) (hx : Sl w size x m news) (h1 : ∀ u ∈ news, u.oneCell' = true) (hb : (n + m) * bytes ≤ 140737488355328) (h63 : n + m ≤ 140737488355328)
    (h : ∀ v' w', Own w' e size v' (n + m) (l ++ news) → Fr (fp v) w w' → (∀ i ∈ fp v', i ∈ fp v ∨ w.heap.size ≤ i) → k v' w') : Do P (Builtin.append_ #[t, t] ty #[v, x]) w k := by
  obtain ⟨i, hi', hz, hs, hby⟩ := info_of hi
  obtain ⟨A, c, rfl, hl, hn, hc⟩ := hx
  cases A with
  | none =>
    obtain ⟨rfl, rfl⟩ := hn rfl
    have hnews : news = [] := List.eq_nil_of_length_eq_zero (by simpa using hl)
    subst hnews
    refine ⟨_, _, run_append_owned_none w 0 t ty e i size ht hi' v n l ho, h v w (by simpa using ho) (Fr.refl _ _) (fun i hi => .inl hi)⟩
  | some a =>
    obtain ⟨v', w', hr, ho', hg, _, hat⟩ := run_append_own_at (P := P) w 0 t ty e i z size bytes ht hi' hz hs hby hzs hsz v n l ho a m c news hl (hc a rfl) h1 (by unfold maxLen; omega) hb (by omega)
    refine ⟨v', w', hr, h v' w' ho' (Fr.of_grownBy hg) ?_⟩
    intro j hj
    unfold fp at hj ⊢
    rw [Option.mem_toList] at hj
    rcases hat with hat | hat
    · left; rw [Option.mem_toList, ← hat]; exact hj
    · right; rw [hat] at hj; have := Option.some.inj hj; omega
def zerosL (z : List Value) (n : Nat) : List Value := (List.range n).map fun i => z.toArray[i % z.length]!
theorem do_buildSlice {t e : TypeId} {z : Value} {size bytes n : Nat} {parts : List (Nat × Value)} {l : List Value} (ht : P.underlying t = some (.slice e)) (hi : (P.info? e).map (fun i => (i.zero, i.size, i.bytes)) = some (some z, size, bytes))
    (hn : n * size ≤ 16777216) (hl : fillL (fun i => some (i * size, size)) (zerosL (bif Nat.beq (n * size) 0 then [] else z.cells.toList) (n * size)) parts = some l)
    (h : k (.slice (some ⟨w.heap.size, 0, none⟩) n n) (w.alloc (.cells l.toArray e))) : Do P (Instr.buildSlice t n parts.toArray) w k := by
  obtain ⟨i, hi', hz, hs, hby⟩ := info_of hi
  refine ⟨_, _, ?_, h⟩
  have hf := fill_list (fun i => some (i * size, size)) parts (zerosL (bif Nat.beq (n * size) 0 then [] else z.cells.toList) (n * size)).toArray l hl
  have hb : ¬ (16777216 < n * size) := by omega
  have h1 : (underlying t).run P w = .ok (.slice e) w := by simp [underlying, ht]
  have h2 : (sizeOf e).run P w = .ok size w := by simp [sizeOf, typeInfo, hi', hs]
  by_cases h0 : n * size = 0
  · rw [h0] at hf
    simp only [Instr.buildSlice, Sem.run_bind, h1, Result.andThen_ok, h2]
    rw [if_neg (by omega), if_pos h0]
    simp only [Sem.run_bind, Sem.run_pure, Result.andThen_ok]
    rw [h0]
    have e0 : ((Array.range 0).map (fun x => (#[] : Array Value)[x % (#[] : Array Value).size]!)) = (zerosL (bif Nat.beq 0 0 then [] else z.cells.toList) 0).toArray := by simp [zerosL]
    rw [e0, hf]
    rfl
  · have hq : Nat.beq (n * size) 0 = false := by cases hq : Nat.beq (n * size) 0 with | false => rfl | true => exact absurd (by simpa using hq) h0
    have hzz : (zerosL (bif Nat.beq (n * size) 0 then [] else z.cells.toList) (n * size)).toArray = (Array.range (n * size)).map (fun x => z.cells[x % z.cells.size]!) := by
      rw [hq]
      apply Array.ext'
      simp [zerosL, Array.toList_range]
    rw [hzz] at hf
    have h3 : (zeroValue e).run P w = .ok z w := by simp [zeroValue, typeInfo, hi', hz]
    simp only [Instr.buildSlice, Sem.run_bind, h1, Result.andThen_ok, h2]
    rw [if_neg (by simpa using hb), if_neg h0]
    simp only [Sem.run_bind, h3, Result.andThen_ok, Sem.run_pure]
    rw [hf]
    rfl
theorem do_buildSlice1 {t e : TypeId} {z v : Value} {bytes : Nat} (ht : P.underlying t = some (.slice e)) (hi : (P.info? e).map (fun i => (i.zero, i.size, i.bytes)) = some (some z, 1, bytes)) (hz : z.cells.toList.length = 1) (hv : v.cells = #[v])
    (h : k (.slice (some ⟨w.heap.size, 0, none⟩) 1 1) (w.alloc (.cells [v].toArray e))) : Do P (Instr.buildSlice t 1 #[(0, v)]) w k := by
  refine do_buildSlice (parts := [(0, v)]) (l := [v]) ht hi (by omega) ?_ h
  have : Nat.ble 1 1 = true := rfl
  simp [fillL, hv, zerosL, splice, this]
end

/-! ### The laws once more, the world behind each a new name -/
section
variable {P : Program} {w : World} {k : Value → World → Prop}
theorem alloc' {t : TypeId} {l : List Value} (hz : (zeroT P t).map (fun z => z.cells.toList) = some l)
    (h : ∀ b w', w.heap.size = b → Bk w' b t l → Fr [] w w' → w'.heap.size = b + 1 → k (.pointer (some ⟨b, 0, none⟩)) w') : Do P (Instr.alloc t true (.tuple #[])) w k :=
  do_alloc hz (h _ _ rfl (Bk.new w t l) (Fr.alloc _ _ _) (alloc_size _ _))
theorem box' {t : TypeId} {v : Value} {l : List Value} (hv : v.cells.toList = l) (h : ∀ b w', w.heap.size = b → Bk w' b t l → Fr [] w w' → w'.heap.size = b + 1 → k (.pointer (some ⟨b, 0, none⟩)) w') : Do P (Instr.box t v) w k :=
  do_box (h _ _ rfl (by rw [← hv]; exact Bk.new w t v.cells.toList) (Fr.alloc _ _ _) (alloc_size _ _))
theorem store' {t : TypeId} {b o : Nat} {T : TypeId} {l : List Value} {v : Value} (hb : Bk w b T l) (hs : sizeT P t = some 1) (ho : o < l.length) (hv : v.oneCell' = true)
    (h : ∀ w', Bk w' b T (l.set o v) → Fr [b] w w' → w'.heap.size = w.heap.size → k undef w') : DoU P (Instr.storeAt t (.pointer (some ⟨b, o, none⟩)) v) w k :=
  doU_store hb ho hv hs (h _ (Bk.set _ hb.lt) (Fr.setO w _ (.inl (by simp))) (setO_size _ _ _))
theorem store_agg' {t : TypeId} {b o n : Nat} {T : TypeId} {l vs : List Value} (hb : Bk w b T l) (hs : sizeT P t = some n) (hn : vs.length = n) (h0 : 0 < n) (ho : o + n ≤ l.length) (hv : ∀ v ∈ vs, v.oneCell' = true)
    (h : ∀ w', Bk w' b T (splice l o vs) → Fr [b] w w' → w'.heap.size = w.heap.size → k undef w') : DoU P (Instr.storeAt t (.pointer (some ⟨b, o, none⟩)) (.agg vs.toArray)) w k :=
  doU_store_agg hb hn h0 ho hv hs (h _ (Bk.set _ hb.lt) (Fr.setO w _ (.inl (by simp))) (setO_size _ _ _))
theorem buildSlice' {t e : TypeId} {z : Value} {size bytes n : Nat} {parts : List (Nat × Value)} {l : List Value} (ht : P.underlying t = some (.slice e)) (hi : (P.info? e).map (fun i => (i.zero, i.size, i.bytes)) = some (some z, size, bytes))
    (hn : n * size ≤ 16777216) (hl : fillL (fun i => some (i * size, size)) (zerosL (bif Nat.beq (n * size) 0 then [] else z.cells.toList) (n * size)) parts = some l)
    (h : ∀ b w', w.heap.size = b → Bk w' b e l → Fr [] w w' → w'.heap.size = b + 1 → k (.slice (some ⟨b, 0, none⟩) n n) w') : Do P (Instr.buildSlice t n parts.toArray) w k :=
  do_buildSlice ht hi hn hl (h _ _ rfl (Bk.new w e l) (Fr.alloc _ _ _) (alloc_size _ _))
/-- One cell each. -/
theorem zerosL_one (z : Value) (n : Nat) (i : Nat) (h : i < n) : (zerosL [z] n)[i]? = some z := by
  simp [zerosL, h, Nat.mod_one]
theorem fillL_ones (z : Value) : ∀ (vs : List Value) (j n : Nat) (cs : List Value), (∀ v ∈ vs, v.cells = #[v]) → cs.length = j + vs.length →
    fillL (fun i => some (i * 1, 1)) cs ((vs.zipIdx j).map fun x => (x.2, x.1)) = some (cs.take j ++ vs)
  | [], j, n, cs, h, hl => by simp at hl; simp [fillL, List.take_of_length_le (Nat.le_of_eq hl)]
  | v :: vs, j, n, cs, h, hl => by
    simp only [List.length_cons] at hl
    have hv := h v (by simp)
    simp only [List.zipIdx_cons, List.map_cons, fillL, hv, Nat.mul_one]
    have hb : (!(Nat.beq (#[v] : Array Value).toList.length 1) || !(Nat.ble (j + 1) cs.length)) = false := by
      have : Nat.ble (j + 1) cs.length = true := by rw [Nat.ble_eq]; omega
      simp [this]
    rw [hb]
    simp only [cond_false]
    have := fillL_ones z vs (j + 1) n (splice cs j [v]) (fun u hu => h u (by simp [hu])) (by simp [splice]; omega)
    simp only [Nat.mul_one] at this
    rw [this]
    congr 1
    unfold splice
    simp only [List.length_singleton]
    rw [List.append_assoc, List.take_append, List.length_take, Nat.min_eq_left (by omega)]
    rw [List.take_of_length_le (by simp; omega)]
    simp [show j + 1 - j = 1 by omega]
theorem lit' {t e : TypeId} {z : Value} {bytes n : Nat} {vs : List Value} {parts : Array (Nat × Value)} (ht : P.underlying t = some (.slice e)) (hi : (P.info? e).map (fun i => (i.zero, i.size, i.bytes)) = some (some z, 1, bytes)) (hz : z.cells.toList.length = 1)
    (hp : parts = ((vs.zipIdx 0).map fun x => (x.2, x.1)).toArray) (hn : vs.length = n) (hle : n ≤ 16777216) (hv : ∀ v ∈ vs, v.cells = #[v])
    (h : ∀ b w', w.heap.size = b → Bk w' b e vs → Fr [] w w' → w'.heap.size = b + 1 → k (.slice (some ⟨b, 0, none⟩) n n) w') : Do P (Instr.buildSlice t n parts) w k := by
  subst hp
  refine buildSlice' ht hi (by omega) ?_ h
  rw [fillL_ones z vs 0 n _ hv (by simp [zerosL]; omega)]
  simp
end
theorem Bk.sl {w : World} {b n : Nat} {T : TypeId} {l : List Value} (h : Bk w b T l) (hn : l.length = n) (c : Nat) : Sl w 1 (.slice (some ⟨b, 0, none⟩) n c) n l :=
  ⟨some ⟨b, 0, none⟩, c, rfl, by omega, (fun e => by cases e), fun a ha => by
    obtain rfl := Option.some.inj ha
    have := Cells.of_bk h 0 l.length
    simpa using this⟩

section
variable {P : Program} {w : World} {k : Value → World → Prop}
/-- A new variable, whatever it holds at first. -/
theorem alloc_n {t : TypeId} {n : Nat} (hz : (zeroT P t).map (fun z => z.cells.toList.length) = some n)
    (h : ∀ b w' l, l.length = n → w.heap.size = b → Bk w' b t l → Fr [] w w' → w'.heap.size = b + 1 → k (.pointer (some ⟨b, 0, none⟩)) w') : Do P (Instr.alloc t true (.tuple #[])) w k := by
  obtain ⟨z, hz', hn⟩ := Option.map_eq_some_iff.1 hz
  exact alloc' (l := z.cells.toList) (by rw [hz']; rfl) fun b w' => h b w' _ hn
theorem splice_all {l vs : List Value} (h : l.length = vs.length) : splice l 0 vs = vs := by
  unfold splice
  simp [h]
theorem store_all {t : TypeId} {b n : Nat} {T : TypeId} {l vs : List Value} (hb : Bk w b T l) (hs : sizeT P t = some n) (hl : l.length = n) (hn : vs.length = n) (h0 : 0 < n) (hv : ∀ v ∈ vs, v.oneCell' = true)
    (h : ∀ w', Bk w' b T vs → Fr [b] w w' → w'.heap.size = w.heap.size → k undef w') : DoU P (Instr.storeAt t (.pointer (some ⟨b, 0, none⟩)) (.agg vs.toArray)) w k := by
  refine store_agg' hb hs hn h0 (by omega) hv fun w' hb' => h w' ?_
  rw [splice_all (by omega)] at hb'
  exact hb'
end
/-- A row that has been made since world w0, nothing that was there having changed. -/
structure New (w0 w : World) (T : TypeId) (size : Nat) (v : Value) (n : Nat) (l : List Value) : Prop where
  own : Own w T size v n l
  fr : Fr [] w0 w
  new : ∀ i ∈ fp v, w0.heap.size ≤ i
theorem New.nil (w : World) (T : TypeId) (size : Nat) : New w w T size (.slice none 0 0) 0 [] := ⟨Own.nil _ _ _, Fr.refl _ _, fun i hi => by simp [fp_nil] at hi⟩
/-- Nothing that the row stands in is touched. -/
theorem New.step {w0 w w' : World} {T : TypeId} {size n : Nat} {v : Value} {l : List Value} (h : New w0 w T size v n l) {X : List Nat} (f : Fr X w w') (h1 : ∀ i ∈ X, w0.heap.size ≤ i) (h2 : ∀ i ∈ fp v, i ∉ X) : New w0 w' T size v n l :=
  ⟨h.own.fr f h2, h.fr.trans f (fun i hi => .inr (h1 i hi)), h.new⟩
theorem New.fresh {w0 w w' : World} {T : TypeId} {size n : Nat} {v : Value} {l : List Value} (h : New w0 w T size v n l) (f : Fr [] w w') : New w0 w' T size v n l :=
  h.step f (fun i hi => by simp at hi) (fun i hi => by simp)
section
variable {P : Program} {w w0 : World} {k : Value → World → Prop}
theorem make' {t e : TypeId} {z : Value} {size bytes : Nat} {c : Int} {kl kc : IntKind} (m : Nat) (hm : c = m) (ht : P.underlying t = some (.slice e)) (hi : (P.info? e).map (fun i => (i.zero, i.size, i.bytes)) = some (some z, size, bytes)) (hb : bytes * m ≤ 281474976710656) (hc : m ≤ 140737488355328)
    (h : ∀ v w', New w w' e size v 0 [] → k v w') : Do P (Instr.makeSlice t (.int kl 0) (.int kc c)) w k := by
  subst hm
  exact do_make0 ht hi hb hc fun w' ho hf => h _ w' ⟨ho, hf, fun i hi => by simp [fp_some] at hi; omega⟩
theorem append' {t e ty : TypeId} {z : Value} {size bytes n m : Nat} {v x : Value} {l news : List Value} (hN : New w0 w e size v n l) (ht : P.underlying t = some (.slice e)) (hi : (P.info? e).map (fun i => (i.zero, i.size, i.bytes)) = some (some z, size, bytes))
    (hzs : z.cells.size = size) (hsz : 0 < size) (hx : Sl w size x m news) (h1 : ∀ u ∈ news, u.oneCell' = true) (hb : (n + m) * bytes ≤ 140737488355328) (h63 : n + m ≤ 140737488355328)
    (h : ∀ v' w', New w0 w' e size v' (n + m) (l ++ news) → Fr (fp v) w w' → (∀ i ∈ fp v', i ∈ fp v ∨ w.heap.size ≤ i) → k v' w') : Do P (Builtin.append_ #[t, t] ty #[v, x]) w k :=
  do_append ht hi hzs hsz hN.own hx h1 hb h63 fun v' w' ho hf hs => h v' w' ⟨ho, hN.fr.trans hf (fun i hi => .inr (hN.new i hi)), fun i hi => (hs i hi).elim (hN.new i) (fun h => Nat.le_trans hN.fr.size h)⟩ hf hs
/-- l = append(l, x), x one cell. -/
theorem append1 {t e ty : TypeId} {z : Value} {bytes n : Nat} {v x : Value} {l : List Value} (hN : New w0 w e 1 v n l) (ht : P.underlying t = some (.slice e)) (hi : (P.info? e).map (fun i => (i.zero, i.size, i.bytes)) = some (some z, 1, bytes))
    (hzs : z.cells.size = 1) (hx : x.cells = #[x]) (h1 : x.oneCell' = true) (hb : (n + 1) * bytes ≤ 140737488355328) (h63 : n + 1 ≤ 140737488355328)
    (h : ∀ v' w', New w0 w' e 1 v' (n + 1) (l ++ [x]) → k v' w') : Do P (Instr.buildSlice t 1 #[(0, x)]) w (fun s w1 => Do P (Builtin.append_ #[t, t] ty #[v, s]) w1 k) := by
  refine lit' (vs := [x]) ht hi (by simpa using hzs) rfl rfl (by omega) (by simpa using hx) ?_
  intro b w1 hb1 hB hF hsz
  refine append' (hN.fresh hF) ht hi hzs (by omega) (hB.sl rfl 1) (by simpa using h1) hb h63 ?_
  intro v' w' hN' _ _
  exact h v' w' hN'
end
end Go.Vc

set_option linter.unusedVariables false
set_option linter.unusedSimpArgs false
namespace Go.Vc
open Go Go.IntWalk
section
variable {P : Program} {S : World → Prop} {t : TypeId} {cx cy : Bool} {a b : Int} {κ κ' : IntKind} {k : Value → Prop}
theorem add64 (h0 : -9223372036854775808 ≤ a + b ∧ a + b ≤ 9223372036854775807) (h : k (.int .i64 (a + b))) : Bin P S .add t cx cy (.int .i64 a) (.int .i64 b) k := ⟨rfl, by rw [i64_in _ h0]; exact h⟩
theorem sub64 (h0 : -9223372036854775808 ≤ a - b ∧ a - b ≤ 9223372036854775807) (h : k (.int .i64 (a - b))) : Bin P S .sub t cx cy (.int .i64 a) (.int .i64 b) k := ⟨rfl, by rw [i64_in _ h0]; exact h⟩
theorem mul64 (h0 : -9223372036854775808 ≤ a * b ∧ a * b ≤ 9223372036854775807) (h : k (.int .i64 (a * b))) : Bin P S .mul t cx cy (.int .i64 a) (.int .i64 b) k := ⟨rfl, by rw [i64_in _ h0]; exact h⟩
theorem addu64 (h0 : 0 ≤ a + b ∧ a + b ≤ 18446744073709551615) (h : k (.int .u64 (a + b))) : Bin P S .add t cx cy (.int .u64 a) (.int .u64 b) k := ⟨rfl, by rw [u64_in _ h0]; exact h⟩
theorem subu64 (h0 : 0 ≤ a - b ∧ a - b ≤ 18446744073709551615) (h : k (.int .u64 (a - b))) : Bin P S .sub t cx cy (.int .u64 a) (.int .u64 b) k := ⟨rfl, by rw [u64_in _ h0]; exact h⟩
theorem mulu64 (h0 : 0 ≤ a * b ∧ a * b ≤ 18446744073709551615) (h : k (.int .u64 (a * b))) : Bin P S .mul t cx cy (.int .u64 a) (.int .u64 b) k := ⟨rfl, by rw [u64_in _ h0]; exact h⟩
theorem addw (h : k (.int κ (κ.wrap (a + b)))) : Bin P S .add t cx cy (.int κ a) (.int κ b) k := ⟨rfl, h⟩
theorem subw (h : k (.int κ (κ.wrap (a - b)))) : Bin P S .sub t cx cy (.int κ a) (.int κ b) k := ⟨rfl, h⟩
theorem mulw (h : k (.int κ (κ.wrap (a * b)))) : Bin P S .mul t cx cy (.int κ a) (.int κ b) k := ⟨rfl, h⟩
theorem lss (h : k (.bool (decide (a < b)))) : Bin P S .lss t cx cy (.int κ a) (.int κ b) k := ⟨rfl, h⟩
theorem leq (h : k (.bool (decide (a ≤ b)))) : Bin P S .leq t cx cy (.int κ a) (.int κ b) k := ⟨rfl, h⟩
theorem gtr (h : k (.bool (decide (b < a)))) : Bin P S .gtr t cx cy (.int κ a) (.int κ b) k := ⟨rfl, h⟩
theorem geq (h : k (.bool (decide (b ≤ a)))) : Bin P S .geq t cx cy (.int κ a) (.int κ b) k := ⟨rfl, h⟩
theorem eql (h : k (.bool (decide (a = b)))) : Bin P S .eql t cx cy (.int κ a) (.int κ b) k := ⟨rfl, by rw [show (a == b) = decide (a = b) from rfl]; exact h⟩
theorem neq (h : k (.bool (decide (a ≠ b)))) : Bin P S .neq t cx cy (.int κ a) (.int κ b) k := ⟨rfl, by rw [show (a != b) = decide (a ≠ b) from by rw [bne]; by_cases e : a = b <;> simp [e]]; exact h⟩
theorem quo (h0 : b ≠ 0) (h : k (.int κ (κ.wrap (a.tdiv b)))) : Bin P S .quo t cx cy (.int κ a) (.int κ b) k := ⟨rfl, h0, h⟩
theorem rem (h0 : b ≠ 0) (h : k (.int κ (a.tmod b))) : Bin P S .rem t cx cy (.int κ a) (.int κ b) k := ⟨rfl, h0, h⟩
/-- a << b of a uint64, nothing lost. -/
theorem shlu64 {n : Nat} (hb : b = n) (hn : n ≤ 64) (h0 : 0 ≤ a * 2 ^ n ∧ a * 2 ^ n ≤ 18446744073709551615) (h : k (.int .u64 (a * 2 ^ n))) : Bin P S .shl t cx cy (.int .u64 a) (.int κ' b) k := by
  subst hb
  refine ⟨by omega, ?_⟩
  have : min ((n : Int).toNat) IntKind.u64.bits = n := by simp [IntKind.bits]; omega
  rw [this, u64_in _ h0]
  exact h
theorem shlw {n : Nat} (hb : b = n) (hn : n ≤ κ.bits) (h : k (.int κ (κ.wrap (a * 2 ^ n)))) : Bin P S .shl t cx cy (.int κ a) (.int κ' b) k := by
  subst hb
  refine ⟨by omega, ?_⟩
  have : min ((n : Int).toNat) κ.bits = n := by simp; omega
  rw [this]
  exact h
theorem shrn {n : Nat} (hb : b = n) (hn : n ≤ κ.bits) (ha : 0 ≤ a) (h : k (.int κ (a / 2 ^ n))) : Bin P S .shr t cx cy (.int κ a) (.int κ' b) k := by
  subst hb
  refine ⟨by omega, ?_⟩
  have : min ((n : Int).toNat) κ.bits = n := by simp; omega
  rw [this, Int.fdiv_eq_ediv_of_nonneg _ (Int.le_of_lt (Int.pow_pos (by omega)))]
  exact h
theorem conv_u8 (h : k (.int .u8 (a % 256))) : ConvI .u8 (.int κ a) k := by
  show k _
  rw [IntKind.wrap_u8]; exact h
theorem conv_u8_in (h0 : 0 ≤ a ∧ a ≤ 255) (h : k (.int .u8 a)) : ConvI .u8 (.int κ a) k := by
  show k _
  rw [u8_in _ h0]; exact h
theorem conv_i64 (h0 : -9223372036854775808 ≤ a ∧ a ≤ 9223372036854775807) (h : k (.int .i64 a)) : ConvI .i64 (.int κ a) k := by
  show k _
  rw [i64_in _ h0]; exact h
theorem conv_u64 (h0 : 0 ≤ a ∧ a ≤ 18446744073709551615) (h : k (.int .u64 a)) : ConvI .u64 (.int κ a) k := by
  show k _
  rw [u64_in _ h0]; exact h
theorem conv_w (h : k (.int κ (κ.wrap a))) : ConvI κ (.int κ' a) k := h
end
theorem not64 {P : Program} {S : World → Prop} {x : Int} {k : Value → Prop} (hx : -9223372036854775808 ≤ x ∧ x ≤ 9223372036854775807) (h : k (.int .i64 (-x - 1))) : Un P S .xor (.int .i64 x) k := by
  show k _
  have e0 : (BitVec.ofInt 64 (-1) ^^^ BitVec.ofInt 64 x).toNat = 18446744073709551615 - (x % 18446744073709551616).toNat := by
    have h1 : BitVec.ofInt 64 (-1) = BitVec.allOnes 64 := by decide
    rw [h1, BitVec.allOnes_xor, BitVec.toNat_not, BitVec.toNat_ofInt]
    rfl
  have e : IntKind.i64.wrap (BitVec.ofInt IntKind.i64.bits (if IntKind.i64.signed then -1 else IntKind.i64.max) ^^^ BitVec.ofInt IntKind.i64.bits x).toNat = -x - 1 := by
    show IntKind.i64.wrap ((BitVec.ofInt 64 (-1) ^^^ BitVec.ofInt 64 x).toNat : Int) = -x - 1
    rw [e0, IntKind.wrap_i64]
    omega
  rw [e]
  exact h
theorem notB {P : Program} {S : World → Prop} {b : Bool} {k : Value → Prop} (h : k (.bool !b)) : Un P S .not (.bool b) k := h
section
variable {p : Prop} [Decidable p] {A B : Prop} {b : Bool}
theorem if_p (h1 : p → A) (h2 : ¬p → B) : If (.bool (decide p)) A B := ⟨fun h => h1 (of_decide_eq_true h), fun h => h2 (of_decide_eq_false h)⟩
theorem if_b (h1 : b = true → A) (h2 : b = false → B) : If (.bool b) A B := ⟨h1, h2⟩
theorem if_t (hp : b = true) (h : A) : If (.bool b) A B := ⟨fun _ => h, fun h' => by rw [hp] at h'; cases h'⟩
theorem if_f (hp : b = false) (h : B) : If (.bool b) A B := ⟨fun h' => (by rw [hp] at h'; cases h'), fun _ => h⟩
end
theorem gdT {g : Bool} {A : (Value → Prop) → Prop} {k : Value → Prop} {v : Value} (hg : g = true) (h : A (fun u => u = v)) (hk : k v) : GdP g A k := ⟨v, fun _ => h, fun h' => (by rw [hg] at h'; cases h'), hk⟩
theorem gdF {g : Bool} {A : (Value → Prop) → Prop} {k : Value → Prop} (hg : g = false) (hk : k undef) : GdP g A k := ⟨undef, fun h' => (by rw [hg] at h'; cases h'), fun _ => rfl, hk⟩
theorem gT {g : Bool} {A : (Value → World → Prop) → Prop} {w : World} {k : Value → World → Prop} (hg : g = true) (h : A k) : Gd g A w k := ⟨k, fun _ => h, fun h' => (by rw [hg] at h'; cases h'), fun _ _ h => h⟩
theorem gF {g : Bool} {A : (Value → World → Prop) → Prop} {w : World} {k : Value → World → Prop} (hg : g = false) (h : k undef w) : Gd g A w k := ⟨k, fun h' => (by rw [hg] at h'; cases h'), fun _ => h, fun _ _ h => h⟩
theorem pick_t {c : Bool} {a b : Value} {k : Value → Prop} (hc : c = true) (h : k a) : Pick (.bool c) a b k := by subst hc; exact h
theorem pick_f {c : Bool} {a b : Value} {k : Value → Prop} (hc : c = false) (h : k b) : Pick (.bool c) a b k := by subst hc; exact h
theorem nilC {a : Addr} {k : Value → Prop} (h : k (.pointer (some a))) : NilC (.pointer (some a)) k := h
theorem fad {b o off : Nat} {k : Value → Prop} (h : k (.pointer (some ⟨b, o + off, none⟩))) : FAd off (.pointer (some ⟨b, o, none⟩)) k := by
  show k _
  rw [Addr.add_lit]; exact h
theorem len {A : Option Addr} {n c : Nat} {k : Value → Prop} (h : k (.int .i64 n)) : Len (.slice A n c) k := h
theorem ext {vs : Array Value} {i : Nat} {v : Value} {k : Value → Prop} (h : vs[i]? = some v) (hk : k v) : Ext (.tuple vs) i k := by
  unfold Ext; simp only [h]; exact hk
theorem ext0 {a : Value} {l : List Value} {k : Value → Prop} (h : k a) : Ext (.tuple (List.toArray (a :: l))) 0 k := h
theorem ext1 {a b : Value} {l : List Value} {k : Value → Prop} (h : k b) : Ext (.tuple (List.toArray (a :: b :: l))) 1 k := h
theorem ext2 {a b c : Value} {l : List Value} {k : Value → Prop} (h : k c) : Ext (.tuple (List.toArray (a :: b :: c :: l))) 2 k := h
theorem CallF.use {P : Program} {f : FuncId} {args : Array Value} {w : World} {Q k : Value → World → Prop} (h : CallF P f args w Q) (hk : ∀ v w', Q v w' → k v w') : CallF P f args w k := h.mono hk
end Go.Vc

set_option linter.unusedVariables false
set_option linter.unusedSimpArgs false
namespace Go.Vc
open Go

theorem Fr.t {X : List Nat} {a b c : World} (h : Fr X a b) (k : Fr X b c) : Fr X a c := h.trans k fun i hi => .inl hi

theorem New.base {w0 w1 w : World} {T : TypeId} {size n : Nat} {v : Value} {l : List Value} (f : Fr [] w0 w1) (h : New w1 w T size v n l) : New w0 w T size v n l :=
  ⟨h.own, f.t h.fr, fun i hi => Nat.le_trans f.size (h.new i hi)⟩
structure Shape (α : Type) where
  size : Nat
  rd : World → List Value → α → List Nat → Prop
  len : ∀ {w cs a F}, rd w cs a F → cs.length = size
  one : ∀ {w cs a F}, rd w cs a F → ∀ u ∈ cs, u.oneCell' = true
  fr : ∀ {w w' cs a F X}, rd w cs a F → Fr X w w' → (∀ i ∈ F, i ∉ X) → rd w' cs a F
  lt : ∀ {w cs a F}, rd w cs a F → ∀ i ∈ F, i < w.heap.size

/-- A whole number of Go's int or int64. -/
def sInt : Shape Int where
  size := 1
  rd _ cs a F := cs = [.int .i64 a] ∧ F = [] ∧ (-9223372036854775808 ≤ a ∧ a ≤ 9223372036854775807)
  len h := by rw [h.1]; rfl
  one h := by rw [h.1]; simp [Value.oneCell']
  fr h _ _ := h
  lt h := by rw [h.2.1]; simp
def sBool : Shape Bool where
  size := 1
  rd _ cs a F := cs = [.bool a] ∧ F = []
  len h := by rw [h.1]; rfl
  one h := by rw [h.1]; simp [Value.oneCell']
  fr h _ _ := h
  lt h := by rw [h.2]; simp
def sByte : Shape Nat where
  size := 1
  rd _ cs a F := cs = [.int .u8 a] ∧ F = [] ∧ a < 256
  len h := by rw [h.1]; rfl
  one h := by rw [h.1]; simp [Value.oneCell']
  fr h _ _ := h
  lt h := by rw [h.2.1]; simp
def Shape.seq {α β : Type} (S : Shape α) (T : Shape β) : Shape (α × β) where
  size := S.size + T.size
  rd w cs a F := ∃ c1 c2 F1 F2, cs = c1 ++ c2 ∧ F = F1 ++ F2 ∧ S.rd w c1 a.1 F1 ∧ T.rd w c2 a.2 F2
  len := by rintro w cs a F ⟨c1, c2, F1, F2, rfl, rfl, h1, h2⟩; rw [List.length_append, S.len h1, T.len h2]
  one := by
    rintro w cs a F ⟨c1, c2, F1, F2, rfl, rfl, h1, h2⟩ u hu
    exact (List.mem_append.1 hu).elim (S.one h1 u) (T.one h2 u)
  fr := by
    rintro w w' cs a F X ⟨c1, c2, F1, F2, rfl, rfl, h1, h2⟩ f hx
    exact ⟨c1, c2, F1, F2, rfl, rfl, S.fr h1 f (fun i hi => hx i (by simp [hi])), T.fr h2 f (fun i hi => hx i (by simp [hi]))⟩
  lt := by
    rintro w cs a F ⟨c1, c2, F1, F2, rfl, rfl, h1, h2⟩ i hi
    exact (List.mem_append.1 hi).elim (S.lt h1 i) (T.lt h2 i)

/-- One behind another, in the cells. -/
def Shape.rows {α : Type} (S : Shape α) (w : World) : List α → List Value → List Nat → Prop
  | [], cs, F => cs = [] ∧ F = []
  | a :: l, cs, F => ∃ c1 c2 F1 F2, cs = c1 ++ c2 ∧ F = F1 ++ F2 ∧ S.rd w c1 a F1 ∧ S.rows w l c2 F2
theorem rows_len {α : Type} (S : Shape α) {w : World} : ∀ {l : List α} {cs : List Value} {F : List Nat}, S.rows w l cs F → cs.length = l.length * S.size
  | [], cs, F, ⟨h, _⟩ => by rw [h]; simp
  | a :: l, cs, F, ⟨c1, c2, F1, F2, hc, hF, h1, h2⟩ => by
    rw [hc, List.length_append, S.len h1, rows_len S h2, List.length_cons, Nat.add_mul]; omega
theorem rows_one {α : Type} (S : Shape α) {w : World} : ∀ {l : List α} {cs : List Value} {F : List Nat}, S.rows w l cs F → ∀ u ∈ cs, u.oneCell' = true
  | [], cs, F, ⟨h, _⟩ => by rw [h]; simp
  | a :: l, cs, F, ⟨c1, c2, F1, F2, hc, hF, h1, h2⟩ => by
    intro u hu
    rw [hc] at hu
    exact (List.mem_append.1 hu).elim (S.one h1 u) (rows_one S h2 u)
theorem rows_fr {α : Type} (S : Shape α) {w w' : World} {X : List Nat} (f : Fr X w w') : ∀ {l : List α} {cs : List Value} {F : List Nat}, S.rows w l cs F → (∀ i ∈ F, i ∉ X) → S.rows w' l cs F
  | [], cs, F, h, _ => h
  | a :: l, cs, F, ⟨c1, c2, F1, F2, hc, hF, h1, h2⟩, hx =>
    ⟨c1, c2, F1, F2, hc, hF, S.fr h1 f (fun i hi => hx i (by rw [hF]; simp [hi])), rows_fr S f h2 (fun i hi => hx i (by rw [hF]; simp [hi]))⟩
theorem rows_lt {α : Type} (S : Shape α) {w : World} : ∀ {l : List α} {cs : List Value} {F : List Nat}, S.rows w l cs F → ∀ i ∈ F, i < w.heap.size
  | [], cs, F, ⟨_, h⟩ => by rw [h]; simp
  | a :: l, cs, F, ⟨c1, c2, F1, F2, hc, hF, h1, h2⟩ => by
    intro u hu
    rw [hF] at hu
    exact (List.mem_append.1 hu).elim (S.lt h1 u) (rows_lt S h2 u)
theorem rows_snoc {α : Type} (S : Shape α) {w : World} {a : α} {c : List Value} {G : List Nat} (ha : S.rd w c a G) : ∀ {l : List α} {cs : List Value} {F : List Nat}, S.rows w l cs F → S.rows w (l ++ [a]) (cs ++ c) (F ++ G)
  | [], cs, F, ⟨h, h'⟩ => by
    rw [h, h']
    exact ⟨c, [], G, [], by simp, by simp, ha, rfl, rfl⟩
  | b :: l, cs, F, ⟨c1, c2, F1, F2, hc, hF, h1, h2⟩ => by
    rw [hc, hF]
    exact ⟨c1, c2 ++ c, F1, F2 ++ G, by simp, by simp, h1, rows_snoc S ha h2⟩
theorem rows_get {α : Type} (S : Shape α) {w : World} : ∀ {l : List α} {cs : List Value} {F : List Nat}, S.rows w l cs F → ∀ (i : Nat) (hi : i < l.length), ∃ G, S.rd w ((cs.drop (i * S.size)).take S.size) l[i] G ∧ ∀ j ∈ G, j ∈ F
  | [], cs, F, h, i, hi => by simp at hi
  | a :: l, cs, F, ⟨c1, c2, F1, F2, hc, hF, h1, h2⟩, i, hi => by
    have hl := S.len h1
    rw [hc, hF]
    cases i with
    | zero =>
      refine ⟨F1, ?_, fun j hj => by simp [hj]⟩
      rw [Nat.zero_mul, List.drop_zero, ← hl, List.take_left]
      exact h1
    | succ i =>
      obtain ⟨G, hG, hs⟩ := rows_get S h2 i (by simpa using hi)
      refine ⟨G, ?_, fun j hj => by simp [hs j hj]⟩
      rw [Nat.add_mul, Nat.one_mul, Nat.add_comm, ← List.drop_drop, ← hl, List.drop_left, hl]
      exact hG
/-- So many in a row. -/
def Shape.rep {α : Type} (S : Shape α) (n : Nat) : Shape (List α) where
  size := n * S.size
  rd w cs l F := l.length = n ∧ S.rows w l cs F
  len h := by rw [rows_len S h.2, h.1]
  one h := rows_one S h.2
  fr h f hx := ⟨h.1, rows_fr S f h.2 hx⟩
  lt h := rows_lt S h.2

theorem Sl.fr1 {X : List Nat} {w w' : World} {size n : Nat} {v : Value} {l : List Value} (h : Sl w size v n l) (f : Fr X w w') (hx : 0 < n → ∀ i ∈ fp v, i ∉ X) : Sl w' size v n l := by
  rcases Nat.eq_zero_or_pos n with h0 | h0
  · obtain ⟨A, c, rfl, hl, hn, hc⟩ := h
    subst h0
    have : l = [] := List.eq_nil_of_length_eq_zero (by omega)
    subst this
    exact ⟨A, c, rfl, hl, hn, fun a _ => Cells.nil _ _⟩
  · exact h.fr f (hx h0)
/-- No longer than its capacity. -/
def capOk : Value → Prop
  | .slice _ n c => n ≤ c
  | _ => True
theorem Own.cap {w : World} {T : TypeId} {size n : Nat} {v : Value} {l : List Value} (h : Own w T size v n l) : capOk v := by
  rcases h.2 with ⟨rfl, rfl⟩ | ⟨g, cap, cur, rfl, hb, hgg, hle, rest⟩
  · exact Nat.le_refl _
  · exact hle
/-- A slice. -/
def Shape.list {α : Type} (S : Shape α) (hs : 0 < S.size) : Shape (List α) where
  size := 1
  rd w cs l F := ∃ v cells G, cs = [v] ∧ capOk v ∧ Sl w S.size v l.length cells ∧ S.rows w l cells G ∧ F = (if l = [] then [] else fp v) ++ G
  len := by rintro w cs l F ⟨v, cells, G, rfl, _⟩; rfl
  one := by
    rintro w cs l F ⟨v, cells, G, rfl, _, ⟨A, c, rfl, _⟩, _⟩ u hu
    rw [List.mem_singleton.1 hu]; rfl
  fr := by
    rintro w w' cs l F X ⟨v, cells, G, rfl, hcap, h1, h2, rfl⟩ f hx
    refine ⟨v, cells, G, rfl, hcap, h1.fr1 f (fun h0 i hi => hx i ?_), rows_fr S f h2 (fun i hi => hx i (by simp [hi])), rfl⟩
    rw [if_neg (by intro e; rw [e] at h0; simp at h0)]
    simp [hi]
  lt := by
    rintro w cs l F ⟨v, cells, G, rfl, hcap, h1, h2, rfl⟩ i hi
    rcases List.mem_append.1 hi with hi | hi
    · split at hi
      · simp at hi
      · rename_i hne
        obtain ⟨A, c, rfl, hl, hn, hc⟩ := h1
        cases A with
        | none => simp [fp_nil] at hi
        | some a =>
          simp [fp_some] at hi
          subst hi
          cases l with
          | nil => exact absurd rfl hne
          | cons x l =>
            cases cells with
            | nil => simp only [List.length_nil, List.length_cons, Nat.add_mul] at hl; omega
            | cons u cells =>
              have := hc a rfl 0 u rfl
              have hlt := World.block_lt_of_cell? w _ this
              have hb : (a.add 0).block = a.block := by unfold Addr.add; split <;> rfl
              rwa [hb] at hlt
    · exact rows_lt S h2 i hi
/-- The same cells, told otherwise. -/
def Shape.map {α β : Type} (S : Shape α) (g : β → α) : Shape β where
  size := S.size
  rd w cs b F := S.rd w cs (g b) F
  len h := S.len h
  one h := S.one h
  fr h := S.fr h
  lt h := S.lt h

theorem rows_ints {w : World} : ∀ {l : List Int} {cs : List Value} {F : List Nat}, sInt.rows w l cs F ↔ cs = l.map (Value.int .i64) ∧ F = [] ∧ ∀ y ∈ l, -9223372036854775808 ≤ y ∧ y ≤ 9223372036854775807
  | [], cs, F => by simp [Shape.rows]
  | a :: l, cs, F => by
    constructor
    · rintro ⟨c1, c2, F1, F2, rfl, rfl, ⟨rfl, rfl, h1⟩, h2⟩
      obtain ⟨rfl, rfl, h3⟩ := rows_ints.1 h2
      refine ⟨rfl, rfl, fun y hy => ?_⟩
      rcases List.mem_cons.1 hy with rfl | hy
      · exact h1
      · exact h3 y hy
    · rintro ⟨rfl, rfl, h⟩
      exact ⟨[.int .i64 a], l.map (Value.int .i64), [], [], rfl, rfl, ⟨rfl, rfl, h a (by simp)⟩, rows_ints.2 ⟨rfl, rfl, fun y hy => h y (by simp [hy])⟩⟩
theorem rows_bytes {w : World} : ∀ {l : List Nat} {cs : List Value} {F : List Nat}, sByte.rows w l cs F ↔ cs = l.map (fun b : Nat => Value.int .u8 (b : Int)) ∧ F = [] ∧ ∀ y ∈ l, y < 256
  | [], cs, F => by simp [Shape.rows]
  | a :: l, cs, F => by
    constructor
    · rintro ⟨c1, c2, F1, F2, rfl, rfl, ⟨rfl, rfl, h1⟩, h2⟩
      obtain ⟨rfl, rfl, h3⟩ := rows_bytes.1 h2
      refine ⟨rfl, rfl, fun y hy => ?_⟩
      rcases List.mem_cons.1 hy with rfl | hy
      · exact h1
      · exact h3 y hy
    · rintro ⟨rfl, rfl, h⟩
      exact ⟨[.int .u8 a], l.map (fun b : Nat => Value.int .u8 (b : Int)), [], [], rfl, rfl, ⟨rfl, rfl, h a (by simp)⟩, rows_bytes.2 ⟨rfl, rfl, fun y hy => h y (by simp [hy])⟩⟩
/-- The value of some cells: an aggregate, or the cell itself. -/
def asV (agg : Bool) (cs : List Value) : Value := bif agg then .agg cs.toArray else cs.headD undef
theorem asV_agg (cs : List Value) : asV true cs = .agg cs.toArray := rfl
theorem asV_one (v : Value) : asV false [v] = v := rfl
theorem fp_one {w : World} {size n : Nat} {v : Value} {l : List Value} (h : Sl w size v n l) : v.oneCell' = true := by
  obtain ⟨A, c, rfl, _⟩ := h; rfl

/-! ### Elements and parts of slices -/
theorem add_add' (a : Addr) (x y : Nat) : (a.add x).add y = a.add (x + y) := by
  unfold Addr.add
  by_cases hx : x = 0
  · by_cases hy : y = 0 <;> simp [hx, hy]
  · by_cases hy : y = 0
    · simp [hx, hy]
    · have : x + y ≠ 0 := by omega
      simp [hx, hy, Nat.add_assoc]
section
variable {w : World} {size n i : Nat} {κ : IntKind} {v : Value} {cells : List Value} {k : Value → Prop}
/-- The address of an element: its cells stand there. -/
theorem ixA (hs : Sl w size v n cells) (hi : i < n) (h : ∀ a : Addr, (∀ b c, v = .slice (some b) n c → a = b.add (i * size)) → [a.block] = fp v → Cells w a ((cells.drop (i * size)).take size) → k (.pointer (some a))) : IAdS size v (.int κ i) k := by
  obtain ⟨A, c, rfl, hl, hn, hc⟩ := hs
  cases A with
  | none => have := (hn rfl).1; omega
  | some a =>
    refine ⟨by omega, by omega, ?_⟩
    simp only [Int.toNat_natCast]
    have hblk : ∀ j, (a.add j).block = a.block := fun j => by unfold Addr.add; split <;> rfl
    refine h (a.add (i * size)) (fun b c' e => by cases e; rfl) (by rw [fp_some, hblk]) ?_
    intro j u hj
    rw [List.getElem?_take] at hj
    split at hj
    · rw [List.getElem?_drop] at hj
      have := hc a rfl _ u hj
      rw [add_add']; exact this
    · cases hj
theorem ix1 {u : Value} (hs : Sl w 1 v n cells) (hi : i < n) (hv : cells[i]? = some u) (h : k u) : IAdS 1 v (.int κ i) fun t => LdC (At w) t k := by
  refine ixA hs hi fun a _ _ hc => ?_
  refine ⟨u, fun w' e => ?_, h⟩
  rw [show w' = w from e]
  have := hc 0 u (by rw [List.getElem?_take, if_pos (by omega), List.getElem?_drop]; simpa using hv)
  rwa [Addr.add_zero'] at this
theorem ix1S {S : World → Prop} {u : Value} (hs : ∀ w', S w' → Sl w' 1 v n cells) (h0 : Sl w 1 v n cells) (hi : i < n) (hv : cells[i]? = some u) (h : k u) : IAdS 1 v (.int κ i) fun t => LdC S t k := by
  refine ixA h0 hi fun a ha _ _ => ?_
  refine ⟨u, fun w' e => ?_, h⟩
  obtain ⟨A, c, rfl, hl, hn, hc⟩ := hs w' e
  cases A with
  | none => have := (hn rfl).1; omega
  | some b =>
    rw [ha b c rfl, Nat.mul_one]
    exact hc b rfl i u hv
theorem ixN (hs : Sl w size v n cells) (hi : i < n) (h : k (.agg ((cells.drop (i * size)).take size).toArray)) : IAdS size v (.int κ i) fun t => LdA (At w) size t k := by
  have hl : ((cells.drop (i * size)).take size).length = size := by
    obtain ⟨A, c, rfl, hl, hn, hc⟩ := hs
    have : (i + 1) * size ≤ n * size := Nat.mul_le_mul_right _ (by omega)
    rw [Nat.add_mul] at this
    simp; omega
  refine ixA hs hi fun a _ _ hc => ?_
  exact ⟨_, hl, fun w' e j u hj => by rw [show w' = w from e]; exact hc j u hj, h⟩
theorem slc_of {A : Option Addr} {c l h : Nat} (hlh : l ≤ h) (hn : h ≤ n) (hc : n ≤ c) (hs : Sl w size (.slice A n c) n cells) :
    Sl w size (.slice (bif Nat.beq c l then A else A.map (·.add (l * size))) (h - l) (c - l)) (h - l) ((cells.drop (l * size)).take ((h - l) * size)) := by
  obtain ⟨A', c', e, hl, h0, hcc⟩ := hs
  cases e
  have hm : h * size ≤ n * size := Nat.mul_le_mul_right _ hn
  have hm2 : l * size ≤ h * size := Nat.mul_le_mul_right _ hlh
  refine ⟨_, _, rfl, ?_, ?_, ?_⟩
  · rw [List.length_take, List.length_drop, Nat.sub_mul]; omega
  · intro e
    have : A = none := by
      cases hb : Nat.beq c l with
      | true => rw [hb] at e; exact e
      | false => rw [hb] at e; cases A with | none => rfl | some a => cases e
    have := h0 this
    omega
  · intro a ha
    cases hb : Nat.beq c l with
    | true =>
      have : c = l := by simpa using hb
      have e0 : h - l = 0 := by omega
      rw [e0]; simp only [Nat.zero_mul, List.take_zero]; exact Cells.nil _ _
    | false =>
      rw [hb] at ha
      cases A with
      | none => cases ha
      | some b =>
        simp only [cond_false, Option.map_some, Option.some.injEq] at ha
        subst ha
        intro j u hj
        rw [List.getElem?_take] at hj
        split at hj
        · rw [List.getElem?_drop] at hj
          have := hcc b rfl _ u hj
          rw [add_add']; exact this
        · cases hj
theorem fp_slc {A : Option Addr} {c l x y size n' : Nat} : ∀ i ∈ fp (.slice (bif Nat.beq c l then A else A.map (·.add (l * size))) x y), i ∈ fp (.slice A n' c) := by
  intro i hi
  cases hb : Nat.beq c l with
  | true => rw [hb, cond_true] at hi; cases A <;> exact hi
  | false =>
    rw [hb] at hi
    cases A with
    | none => exact hi
    | some a =>
      simp only [cond_false, Option.map_some, fp_some, List.mem_singleton] at hi ⊢
      rw [hi]; unfold Addr.add; split <;> rfl
theorem slcLo {l : Nat} (hs : Sl w size v n cells) (hc : capOk v) (hl : l ≤ n)
    (h : ∀ v', Sl w size v' (n - l) ((cells.drop (l * size)).take ((n - l) * size)) → capOk v' → (∀ i ∈ fp v', i ∈ fp v) → k v') : SlcS size v (some (.int κ l)) none none k := by
  obtain ⟨A, c, rfl, rest⟩ := id hs
  refine ⟨by simp, by simp, fun _ => ⟨by omega, by omega⟩, ?_⟩
  simp only [Int.toNat_natCast]
  exact h _ (slc_of hl (Nat.le_refl _) hc hs) (by show n - l ≤ c - l; have : n ≤ c := hc; omega) fp_slc
theorem slcHi {m : Nat} (hs : Sl w size v n cells) (hc : capOk v) (hl : m ≤ n)
    (h : ∀ v', Sl w size v' m (cells.take (m * size)) → capOk v' → (∀ i ∈ fp v', i ∈ fp v) → k v') : SlcS size v none (some (.int κ m)) none k := by
  obtain ⟨A, c, rfl, rest⟩ := id hs
  have hcc : n ≤ c := hc
  refine ⟨by simp, fun _ => ⟨by omega, by omega⟩, by simp, ?_⟩
  have e := slc_of (l := 0) (h := m) (by omega) hl hc hs
  simp only [Nat.zero_mul, List.drop_zero, Nat.sub_zero] at e
  have := h _ e (by show m ≤ c - 0; omega) (by have := @fp_slc A c 0 m (c - 0) size n; simpa using this)
  simpa using this
theorem slcLH {l m : Nat} {κ' : IntKind} (hs : Sl w size v n cells) (hc : capOk v) (hlm : l ≤ m) (hl : m ≤ n)
    (h : ∀ v', Sl w size v' (m - l) ((cells.drop (l * size)).take ((m - l) * size)) → capOk v' → (∀ i ∈ fp v', i ∈ fp v) → k v') : SlcS size v (some (.int κ l)) (some (.int κ' m)) none k := by
  obtain ⟨A, c, rfl, rest⟩ := id hs
  have hcc : n ≤ c := hc
  refine ⟨by simp, fun _ => ⟨by omega, by omega⟩, fun _ => ⟨by omega, by omega⟩, ?_⟩
  simp only [Int.toNat_natCast]
  exact h _ (slc_of hlm hl hc hs) (by show m - l ≤ c - l; omega) fp_slc
theorem Sl.lenV {w : World} {size n : Nat} {v : Value} {l : List Value} {k : Value → Prop} (hs : Sl w size v n l) (h : k (.int .i64 n)) : Len v k := by
  obtain ⟨A, c, rfl, _⟩ := hs; exact h
end

/-! ### A thing built part by part -/
def offs : Nat → List Nat → List (Option (Nat × Nat))
  | _, [] => []
  | o, s :: r => some (o, s) :: offs (o + s) r
theorem fillL_seq (place : Nat → Option (Nat × Nat)) : ∀ (vals : List Value) (sizes : List Nat) (j o : Nat) (done rest : List Value), (List.range' j sizes.length).map place = offs o sizes → vals.map (fun v => v.cells.toList.length) = sizes →
    done.length = o → rest.length = sizes.sum → fillL place (done ++ rest) ((vals.zipIdx j).map fun x => (x.2, x.1)) = some (done ++ vals.flatMap fun v => v.cells.toList)
  | [], sizes, j, o, done, rest, hp, hl, hd, hr => by
    simp only [List.map_nil] at hl
    subst hl
    simp only [List.sum_nil] at hr
    rw [List.eq_nil_of_length_eq_zero hr]
    simp [fillL]
  | v :: vals, sizes, j, o, done, rest, hp, hl, hd, hr => by
    subst hl
    simp only [List.map_cons, List.length_cons, List.range'_succ, offs, List.cons.injEq] at hp
    simp only [List.map_cons, List.sum_cons] at hr
    obtain ⟨hp0, hp1⟩ := hp
    simp only [List.zipIdx_cons, List.map_cons, fillL, hp0]
    have h1 : Nat.beq v.cells.toList.length v.cells.toList.length = true := by simp
    have h2 : Nat.ble (o + v.cells.toList.length) (done ++ rest).length = true := by
      rw [Nat.ble_eq, List.length_append]; omega
    rw [h1, h2]
    simp only [Bool.not_true, Bool.or_self, cond_false]
    have e : splice (done ++ rest) o v.cells.toList = (done ++ v.cells.toList) ++ rest.drop v.cells.toList.length := by
      unfold splice
      rw [← hd, List.take_left, ← List.drop_drop, List.drop_left]
    rw [e, fillL_seq place vals _ (j + 1) (o + v.cells.toList.length) _ _ hp1 rfl (by rw [List.length_append, hd]) (by rw [List.length_drop]; omega)]
    simp
/-- A composite of parts, put into a new variable and read from it. -/
theorem built {P : Program} {T : TypeId} {n b : Nat} {w : World} {z vals : List Value} {sizes : List Nat} {parts : List (Nat × Value)} {k : Value → World → Prop}
    (hp : (placeT P T).map (fun pl => (List.range' 0 sizes.length).map pl) = some (offs 0 sizes)) (hz : (zeroT P T).map (fun z => z.cells.toList.length) = some n) (hn : sizes.sum = n) (hf : fieldsOk P T = true) (hs : sizeT P T = some n) (h0 : 0 < n)
    (hv : parts = (vals.zipIdx 0).map fun x => (x.2, x.1)) (hl : vals.map (fun v => v.cells.toList.length) = sizes) (h1 : ∀ v ∈ vals, ∀ u ∈ v.cells.toList, u.oneCell' = true) (hB : Bk w b T z) (hzl : z.length = n)
    (h : ∀ w', Fr [b] w w' → k (.agg (vals.flatMap fun v => v.cells.toList).toArray) w') : Bld P T parts fun t => DoU P (Instr.storeAt T (.pointer (some ⟨b, 0, none⟩)) t) w fun _ w' => LdA (At w') n (.pointer (some ⟨b, 0, none⟩)) fun r => k r w' := by
  obtain ⟨pl, hpl, hpo⟩ := Option.map_eq_some_iff.1 hp
  obtain ⟨zv, hzv, hzn⟩ := Option.map_eq_some_iff.1 hz
  have hfill := fillL_seq pl vals sizes 0 0 [] zv.cells.toList hpo hl rfl (by omega)
  simp only [List.nil_append] at hfill
  have hlen : (vals.flatMap fun v => v.cells.toList).length = n := by
    rw [List.length_flatMap, hl, hn]
  refine ⟨_, by unfold bldL; rw [hzv, hpl, hv]; exact hfill, hf, ?_⟩
  refine store_all hB hs hzl hlen h0 (fun u hu => by obtain ⟨v, hv, hu⟩ := List.mem_flatMap.1 hu; exact h1 v hv u hu) ?_
  intro w' hB' hF hsz
  refine ldA_bk hB' (by omega) ?_
  have e : (List.take n (List.drop 0 (vals.flatMap fun v => v.cells.toList))) = vals.flatMap fun v => v.cells.toList := by
    rw [List.drop_zero]; exact List.take_of_length_le (by omega)
  rw [e]
  exact h w' hF
end Go.Vc

set_option linter.unusedVariables false
set_option linter.unusedSimpArgs false
namespace Go.Vc
open Go

/-! ### Structs of whole numbers -/
def flatFs (P : Program) (f : TypeId → Option Nat) : List Field → Nat → Option Nat
  | [], o => some o
  | x :: r, o =>
    bif (x.name == "_") || !(Nat.beq x.offset o) then none else
    match f x.type with
    | some n => bif (match sizeT P x.type with | some m => Nat.beq m n | none => false) && (P.underlying x.type).isSome then flatFs P f r (o + n) else none
    | none => none
/-- How many whole numbers a type is made of, if it is made of nothing else. -/
def flat (P : Program) : Nat → TypeId → Option Nat
  | 0, _ => none
  | d + 1, t =>
    match P.underlying t with
    | some (.int _) => some 1
    | some (.struct fs) => bif P.stoodInHeld t then none else flatFs P (flat P d) fs.toList 0
    | _ => none
def ints64 (l : List Int) : List Value := l.map (Value.int .i64)
def IsV (P : Program) (t : TypeId) (x : Value) (l : List Int) : Prop := (isAggT P t = true ∧ x = .agg (ints64 l).toArray) ∨ (isAggT P t = false ∧ ∃ a, l = [a] ∧ x = .int .i64 a)
theorem part_of {P : Program} {t : TypeId} {n off : Nat} {l : List Int} {w : World} (hs : sizeT P t = some n) (hu : (P.underlying t).isSome = true) (hn : isAggT P t = false → n = 1) (hl : off + n ≤ l.length) :
    ∃ x, (part t (ints64 l).toArray off).run P w = .ok x w ∧ IsV P t x ((l.drop off).take n) := by
  obtain ⟨d, hd⟩ := Option.isSome_iff_exists.1 hu
  cases ha : isAggT P t with
  | true =>
    refine ⟨.agg ((ints64 l).toArray.extract off (off + n)), ?_, .inl ⟨ha, ?_⟩⟩
    · simp [part, run_isAgg t hd, ha, run_sizeOf t hs]
    · congr 1
      apply Array.ext'
      simp [ints64, List.map_take, List.map_drop, List.take_drop]
  | false =>
    have h1 := hn ha
    subst h1
    have ho : off < l.length := by omega
    have e : (ints64 l).toArray[off]? = some (.int .i64 l[off]) := by simp [ints64, ho]
    refine ⟨.int .i64 l[off], ?_, .inr ⟨ha, l[off], ?_, rfl⟩⟩
    · simp only [part, Sem.run_bind, run_isAgg t hd, ha, Result.andThen_ok, Bool.false_eq_true, if_false]
      rw [e]; simp
    · rw [List.drop_eq_getElem_cons ho]; rfl
theorem flat_one {P : Program} {d : Nat} {t : TypeId} {n : Nat} (h : flat P d t = some n) (ha : isAggT P t = false) : n = 1 := by
  cases d with
  | zero => simp [flat] at h
  | succ d =>
    unfold flat at h
    split at h
    · exact (Option.some.inj h).symm
    · rename_i fs hu; simp [isAggT, hu] at ha
    · cases h
theorem flat_eq {P : Program} {w : World} : ∀ (d : Nat) (t : TypeId) (n : Nat), flat P d t = some n → ∀ (x y : Value) (l l' : List Int), l.length = n → l'.length = n → IsV P t x l → IsV P t y l' → (Op.equalIn d t x y).run P w = .ok (decide (l = l')) w
  | 0, t, n, h => by simp [flat] at h
  | d + 1, t, n, h => by
    intro x y l l' hl hl' hx hy
    unfold flat at h
    split at h
    · rename_i κ hu
      have ha : isAggT P t = false := by simp [isAggT, hu]
      rcases hx with ⟨hx, _⟩ | ⟨_, a, rfl, rfl⟩
      · rw [hx] at ha; cases ha
      rcases hy with ⟨hy, _⟩ | ⟨_, b, rfl, rfl⟩
      · rw [hy] at ha; cases ha
      rw [run_equalIn_int w d t .i64 κ a b hu]
      congr 1
      simp only [List.cons.injEq, and_true]
      rfl
    · rename_i fs hu
      have ha : isAggT P t = true := by simp [isAggT, hu]
      cases hst : P.stoodInHeld t with
      | true => rw [hst] at h; cases h
      | false =>
        rw [hst] at h
        simp only [cond_false] at h
        rcases hx with ⟨_, rfl⟩ | ⟨hx, _⟩
        case inr => rw [hx] at ha; cases ha
        rcases hy with ⟨_, rfl⟩ | ⟨hy, _⟩
        case inr => rw [hy] at ha; cases ha
        have hf : P.fieldsOf t = fs := by simp [Program.fieldsOf, hu]
        rw [run_equalIn_struct (P := P) w d t _ _ (by rw [hf]; exact hu) hst, hf]
        have key : ∀ (fl : List Field) (o : Nat), flatFs P (flat P d) fl o = some n → o ≤ n → (Op.eqFields d (ints64 l).toArray (ints64 l').toArray fl).run P w = .ok (decide (l.drop o = l'.drop o)) w := by
          intro fl
          induction fl with
          | nil =>
            intro o ho hon
            simp only [flatFs, Option.some.injEq] at ho
            subst ho
            rw [List.drop_eq_nil_of_le (by omega), List.drop_eq_nil_of_le (by omega)]
            simp [Op.eqFields]
          | cons f fl ih =>
            intro o ho hon
            simp only [flatFs] at ho
            cases hc : (f.name == "_") || !(Nat.beq f.offset o) with
            | true => rw [hc] at ho; cases ho
            | false =>
              rw [hc] at ho
              simp only [cond_false] at ho
              rw [Bool.or_eq_false_iff] at hc
              have hname : f.name ≠ "_" := by simpa using hc.1
              have hoff : f.offset = o := by simpa using hc.2
              split at ho
              · rename_i m hm
                cases hc2 : (match sizeT P f.type with | some m' => Nat.beq m' m | none => false) && (P.underlying f.type).isSome with
                | false => rw [hc2] at ho; cases ho
                | true =>
                  rw [hc2] at ho
                  simp only [cond_true] at ho
                  rw [Bool.and_eq_true] at hc2
                  have hsz : sizeT P f.type = some m := by
                    have := hc2.1
                    split at this
                    · rename_i m' hm'; rw [hm']; congr 1; simpa using this
                    · cases this
                  have hmn : o + m ≤ n := by
                    clear ih hm hc2 hsz
                    revert ho
                    generalize o + m = q
                    clear hl hl' hon hoff hname hc
                    intro ho
                    have : ∀ (fl : List Field) (q : Nat), flatFs P (flat P d) fl q = some n → q ≤ n := by
                      intro fl
                      induction fl with
                      | nil => intro q h; simp [flatFs] at h; omega
                      | cons g fl ih =>
                        intro q h
                        simp only [flatFs] at h
                        cases h1 : (g.name == "_") || !(Nat.beq g.offset q) with
                        | true => rw [h1] at h; cases h
                        | false =>
                          rw [h1] at h
                          simp only [cond_false] at h
                          split at h
                          · rename_i k hk
                            cases h2 : (match sizeT P g.type with | some m' => Nat.beq m' k | none => false) && (P.underlying g.type).isSome with
                            | false => rw [h2] at h; cases h
                            | true => rw [h2] at h; simp only [cond_true] at h; have := ih _ h; omega
                          · cases h
                    exact this fl q ho
                  obtain ⟨u, hu1, hu2⟩ := part_of (w := w) (l := l) (off := o) hsz hc2.2 (flat_one hm) (by omega)
                  obtain ⟨v, hv1, hv2⟩ := part_of (w := w) (l := l') (off := o) hsz hc2.2 (flat_one hm) (by omega)
                  have he := flat_eq (w := w) d f.type m hm u v _ _ (by simp; omega) (by simp; omega) hu2 hv2
                  have hi := ih (o + m) ho hmn
                  simp only [Op.eqFields, if_pos hname, hoff, Sem.run_bind, hu1, hv1, he, Result.andThen_ok]
                  have e1 : l.drop o = (l.drop o).take m ++ l.drop (o + m) := by rw [← List.drop_drop, List.take_append_drop]
                  have e2 : l'.drop o = (l'.drop o).take m ++ l'.drop (o + m) := by rw [← List.drop_drop, List.take_append_drop]
                  have lt1 : ((l.drop o).take m).length = ((l'.drop o).take m).length := by simp; omega
                  by_cases hq : (l.drop o).take m = (l'.drop o).take m
                  · simp only [hq, decide_true, Bool.not_true, Bool.false_eq_true, if_false, hi]
                    congr 1
                    rw [decide_eq_decide, e1, e2, hq]
                    simp [List.drop_append, List.drop_drop]
                  · simp only [hq, decide_false, Bool.not_false, if_true, Sem.run_pure]
                    congr 1
                    symm
                    rw [decide_eq_false_iff_not]
                    intro e
                    exact hq (by rw [e])
              · cases ho
        have := key fs.toList 0 h (Nat.zero_le _)
        simpa using this
    · cases h
/-- '==' of two structs of whole numbers. -/
theorem eq_ints {P : Program} {S : World → Prop} {t : TypeId} {cx cy : Bool} {n : Nat} {l l' : List Int} {k : Value → Prop} (hf : flat P 10000 t = some n) (ha : isAggT P t = true) (hg : P.eqGuardType P.depth t = false) (hl : l.length = n) (hl' : l'.length = n)
    (h : k (.bool (decide (l = l')))) : Bin P S .eql t cx cy (.agg (ints64 l).toArray) (.agg (ints64 l').toArray) k := by
  refine ⟨_, fun w hw => ?_, h⟩
  have h1 := run_eqGuard_agg (P := P) w .eql t (bif cx then .const undef else .tmp 0) (bif cy then .const undef else .tmp 0) (ints64 l).toArray (ints64 l').toArray hg
  have h2 := run_eql_struct (P := P) w t (ints64 l).toArray (ints64 l').toArray
  have h3 := flat_eq (w := w) 10000 t n hf _ _ l l' hl hl' (.inl ⟨ha, rfl⟩) (.inl ⟨ha, rfl⟩)
  unfold binSem
  simp only [Sem.run_bind, h1, Result.andThen_ok, h2, h3]
theorem ne_ints {P : Program} {S : World → Prop} {t : TypeId} {cx cy : Bool} {n : Nat} {l l' : List Int} {k : Value → Prop} (hf : flat P 10000 t = some n) (ha : isAggT P t = true) (hg : P.eqGuardType P.depth t = false) (hl : l.length = n) (hl' : l'.length = n)
    (h : k (.bool (decide (l ≠ l')))) : Bin P S .neq t cx cy (.agg (ints64 l).toArray) (.agg (ints64 l').toArray) k := by
  refine ⟨_, fun w hw => ?_, h⟩
  have h1 := run_eqGuard_agg (P := P) w .neq t (bif cx then .const undef else .tmp 0) (bif cy then .const undef else .tmp 0) (ints64 l).toArray (ints64 l').toArray hg
  have h2 := run_neq_struct (P := P) w t (ints64 l).toArray (ints64 l').toArray
  have h3 := flat_eq (w := w) 10000 t n hf _ _ l l' hl hl' (.inl ⟨ha, rfl⟩) (.inl ⟨ha, rfl⟩)
  unfold binSem
  simp only [Sem.run_bind, h1, Result.andThen_ok, h2, h3]
  congr 2
  by_cases e : l = l' <;> simp [e]

/-! ### Bytes made into texts -/
def strOf (bs : List Nat) : ByteArray := ⟨(bs.map UInt8.ofNat).toArray⟩
theorem do_bytes_string {P : Program} {w : World} {src dst e : TypeId} {v : Value} {bs : List Nat} {k : Value → World → Prop} (hs : P.underlying src = some (.slice e)) (he : P.underlying e = some (.int .u8)) (hd : P.underlying dst = some .string)
    (hv : Sl w 1 v bs.length (bs.map fun n : Nat => .int .u8 (n : Int))) (hb : ∀ b ∈ bs, b < 256) (h : k (.string (strOf bs)) w) : Do P (convert src dst v) w k := by
  obtain ⟨A, c, rfl, hl, hn, hc⟩ := hv
  cases A with
  | none =>
    have h0 := (hn rfl).1
    have : bs = [] := List.eq_nil_of_length_eq_zero h0
    subst this
    exact ⟨_, _, run_convert_bytes_nil w src e hs he _ _ dst hd, h⟩
  | some a =>
    have := run_convert_bytes_back (P := P) w src dst e a c (bs.map UInt8.ofNat) hs he hd (fun j hj => by
      have hj' : j < bs.length := by simpa using hj
      have h1 := hc a rfl j (.int .u8 (bs[j] : Int)) (by simp [hj'])
      rw [h1]
      have h2 := hb _ (List.getElem_mem hj')
      simp only [List.getElem_map, UInt8.toNat_ofNat', Nat.reducePow]
      rw [Nat.mod_eq_of_lt h2])
    rw [List.length_map] at this
    exact ⟨_, _, this, h⟩
theorem strOf_inj {bs bs' : List Nat} (hb : ∀ b ∈ bs, b < 256) (hb' : ∀ b ∈ bs', b < 256) : strOf bs = strOf bs' ↔ bs = bs' := by
  constructor
  · intro h
    unfold strOf at h
    have h1 : bs.map UInt8.ofNat = bs'.map UInt8.ofNat := by
      have := congrArg (fun s : ByteArray => s.data.toList) h
      simpa using this
    have h2 := congrArg (List.map UInt8.toNat) h1
    simp only [List.map_map] at h2
    have e : ∀ l : List Nat, (∀ b ∈ l, b < 256) → l.map (UInt8.toNat ∘ UInt8.ofNat) = l := by
      intro l hl
      conv => rhs; rw [← List.map_id l]
      apply List.map_congr_left
      intro b hb
      have := hl b hb
      simp only [Function.comp, UInt8.toNat_ofNat', Nat.reducePow, id]
      exact Nat.mod_eq_of_lt this
    rw [e bs hb, e bs' hb'] at h2
    exact h2
  · rintro rfl; rfl
theorem eq_str {P : Program} {S : World → Prop} {t : TypeId} {cx cy : Bool} {a b : ByteArray} {k : Value → Prop} (h : k (.bool (decide (a = b)))) : Bin P S .eql t cx cy (.string a) (.string b) k := by
  refine ⟨_, fun w hw => ?_, h⟩
  have e : (a.toList == b.toList) = decide (a = b) := by
    by_cases h : a = b
    · subst h; simp
    · have : a.toList ≠ b.toList := fun e => h (by
        rw [ByteArray.toList_eq, ByteArray.toList_eq] at e
        cases a with | mk x => cases b with | mk y => exact congrArg ByteArray.mk (Array.ext' e))
      simp [h, this]
  simp [binSem, eqGuard, binOp, Op.stringOp, e]
theorem eq_bool {P : Program} {S : World → Prop} {t : TypeId} {cx cy : Bool} {a b : Bool} {k : Value → Prop} (hu : P.underlying t = some .bool) (h : k (.bool (a == b))) : Bin P S .eql t cx cy (.bool a) (.bool b) k := by
  refine ⟨_, fun w hw => ?_, h⟩
  have := run_equal_bool (P := P) w t a b hu
  simp [binSem, eqGuard, binOp, this]
end Go.Vc
