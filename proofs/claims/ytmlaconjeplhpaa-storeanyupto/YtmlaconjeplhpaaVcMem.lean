/- Memory as the contracts speak of it: blocks, what a call may change, slices that are read, rows that are owned; and a law for each operation that reads or changes memory. -/
import Derived.Test.YtmlaconjeplhpaaVcSound
import Derived.Maps.AppendAt
set_option linter.unusedVariables false
set_option linter.unusedSimpArgs false
namespace Go.Vc
open Go

/-! ### Worlds -/
theorem alloc_heap (w : World) (o : Obj) : (w.alloc o).heap = w.heap.push o := rfl
theorem setO_heap (w : World) (b : Nat) (o : Obj) : (setO w b o).heap = w.heap.setIfInBounds b o := rfl
theorem setO_size (w : World) (b : Nat) (o : Obj) : (setO w b o).heap.size = w.heap.size := by simp [setO]
theorem alloc_size (w : World) (o : Obj) : (w.alloc o).heap.size = w.heap.size + 1 := by simp [alloc_heap]
theorem drew_heap (w : World) : w.drew.heap = w.heap := rfl
theorem heap_lt {w : World} {b : Nat} {o : Obj} (h : w.heap[b]? = some o) : b < w.heap.size := (Array.getElem?_eq_some_iff.1 h).1
theorem setO_same {w : World} {b : Nat} (o : Obj) (h : b < w.heap.size) : (setO w b o).heap[b]? = some o := by
  rw [setO_heap, Array.getElem?_setIfInBounds_self, if_pos h]
theorem setO_other {w : World} {b c : Nat} (o : Obj) (h : b ≠ c) : (setO w b o).heap[c]? = w.heap[c]? := by
  rw [setO_heap, Array.getElem?_setIfInBounds_ne h]
theorem alloc_new (w : World) (o : Obj) : (w.alloc o).heap[w.heap.size]? = some o := by simp [alloc_heap]
theorem alloc_old {w : World} {b : Nat} {x : Obj} (o : Obj) (h : w.heap[b]? = some x) : (w.alloc o).heap[b]? = some x := by
  rw [alloc_heap, Array.getElem?_push, if_neg (by have := heap_lt h; omega)]; exact h
theorem alloc_old' {w : World} {b : Nat} (o : Obj) (h : b < w.heap.size) : (w.alloc o).heap[b]? = w.heap[b]? := by
  rw [alloc_heap, Array.getElem?_push, if_neg (by omega)]

/-- Nothing but the blocks in X, and new ones, has changed. -/
structure Fr (X : List Nat) (w w' : World) : Prop where
  os : w'.os = w.os
  tape : w'.tape = w.tape
  output : w'.output = w.output
  size : w.heap.size ≤ w'.heap.size
  keep : ∀ b, b < w.heap.size → b ∉ X → w'.heap[b]? = w.heap[b]?
theorem Fr.refl (X : List Nat) (w : World) : Fr X w w := ⟨rfl, rfl, rfl, Nat.le_refl _, fun _ _ _ => rfl⟩
theorem Fr.trans {X Y : List Nat} {a b c : World} (h : Fr X a b) (k : Fr Y b c) (hy : ∀ i ∈ Y, i ∈ X ∨ a.heap.size ≤ i) : Fr X a c :=
  ⟨k.os.trans h.os, k.tape.trans h.tape, k.output.trans h.output, Nat.le_trans h.size k.size, fun i hi hx =>
    (k.keep i (Nat.lt_of_lt_of_le hi h.size) (fun hm => (hy i hm).elim hx (by omega))).trans (h.keep i hi hx)⟩
theorem Fr.mono {X Y : List Nat} {a b : World} (h : Fr X a b) (hy : ∀ i ∈ X, i ∈ Y ∨ a.heap.size ≤ i) : Fr Y a b :=
  (Fr.refl Y a).trans h hy
theorem Fr.alloc (X : List Nat) (w : World) (o : Obj) : Fr X w (w.alloc o) := ⟨rfl, rfl, rfl, by rw [alloc_size]; omega, fun b hb _ => alloc_old' o hb⟩
theorem Fr.drew (X : List Nat) (w : World) : Fr X w w.drew := ⟨rfl, rfl, rfl, Nat.le_refl _, fun _ _ _ => rfl⟩
theorem Fr.setO {X : List Nat} (w : World) {b : Nat} (o : Obj) (h : b ∈ X ∨ w.heap.size ≤ b) : Fr X w (Vc.setO w b o) :=
  ⟨rfl, rfl, rfl, by rw [setO_size]; omega, fun c hc hx => by
    rcases h with h | h
    · exact setO_other o (by intro e; subst e; exact hx h)
    · exact setO_other o (by omega)⟩
theorem Fr.get {X : List Nat} {w w' : World} (h : Fr X w w') {b : Nat} {o : Obj} (hb : w.heap[b]? = some o) (hx : b ∉ X) : w'.heap[b]? = some o := by
  rw [h.keep b (heap_lt hb) hx]; exact hb
theorem Fr.of_grownBy {w w' : World} {row : Option Nat} (h : w.grownBy w' row) : Fr row.toList w w' :=
  ⟨h.os, h.tape, h.output, h.size, fun b hb hx => h.block b hb (by intro e; apply hx; rw [← e]; simp)⟩
theorem Fr.below {X : List Nat} {w w' : World} (h : Fr X w w') {B : Nat} (hx : ∀ i ∈ X, B ≤ i) (hB : B ≤ w.heap.size) : Go.RowKit.Below B w w' :=
  ⟨h.os, h.tape, h.output, h.size, fun b hb => h.keep b (by omega) (fun hm => by have := hx b hm; omega)⟩

/-- Block b holds these cells. -/
def Bk (w : World) (b : Nat) (T : TypeId) (l : List Value) : Prop := w.heap[b]? = some (.cells l.toArray T (0, 0))
theorem Bk.lt {w : World} {b : Nat} {T : TypeId} {l : List Value} (h : Bk w b T l) : b < w.heap.size := heap_lt h
theorem Bk.cell {w : World} {b : Nat} {T : TypeId} {l : List Value} (h : Bk w b T l) (o : Nat) : w.cell? ⟨b, o, none⟩ = l[o]? := by
  unfold Bk at h
  simp [World.cell?, h]
theorem Bk.free {w : World} {b : Nat} {T : TypeId} {l : List Value} (h : Bk w b T l) (o : Nat) : w.frozen? ⟨b, o, none⟩ = false := by
  unfold Bk at h
  simp [World.frozen?, h]
theorem Bk.fr {X : List Nat} {w w' : World} {b : Nat} {T : TypeId} {l : List Value} (h : Bk w b T l) (f : Fr X w w') (hx : b ∉ X) : Bk w' b T l := f.get h hx
theorem Bk.alloc {w : World} {b : Nat} {T : TypeId} {l : List Value} (h : Bk w b T l) (o : Obj) : Bk (w.alloc o) b T l := alloc_old o h
theorem Bk.new (w : World) (T : TypeId) (l : List Value) : Bk (w.alloc (.cells l.toArray T)) w.heap.size T l := alloc_new w _
theorem Bk.setO {w : World} {b c : Nat} {T : TypeId} {l : List Value} (h : Bk w b T l) (o : Obj) (hne : c ≠ b) : Bk (Vc.setO w c o) b T l := by
  unfold Bk at *; rw [setO_other o hne]; exact h
theorem Bk.set {w : World} {b : Nat} {T : TypeId} (l : List Value) (h : b < w.heap.size) : Bk (Vc.setO w b (.cells l.toArray T (0, 0))) b T l := setO_same _ h
theorem Bk.drew {w : World} {b : Nat} {T : TypeId} {l : List Value} (h : Bk w b T l) : Bk w.drew b T l := h

/-- These values stand from address a on. -/
def Cells (w : World) (a : Addr) (l : List Value) : Prop := ∀ j v, l[j]? = some v → w.cell? (a.add j) = some v
theorem Cells.nil (w : World) (a : Addr) : Cells w a [] := fun j v h => by simp at h
theorem Cells.of_bk {w : World} {b : Nat} {T : TypeId} {l : List Value} (h : Bk w b T l) (o n : Nat) : Cells w ⟨b, o, none⟩ ((l.drop o).take n) := by
  intro j v hj
  rw [Addr.add_lit, h.cell]
  rw [List.getElem?_take] at hj
  split at hj
  · rwa [List.getElem?_drop] at hj
  · cases hj
theorem Cells.fr {X : List Nat} {w w' : World} {a : Addr} {l : List Value} (h : Cells w a l) (f : Fr X w w') (hx : a.block ∉ X) : Cells w' a l := by
  intro j v hj
  have hc := h j v hj
  have hb : (a.add j).block = a.block := by unfold Addr.add; split <;> rfl
  have hlt := World.block_lt_of_cell? w _ hc
  rw [World.cell?_of_block (w := w) (w' := w') (by rw [hb]; exact f.keep _ (by rw [← hb]; exact hlt) hx)]
  exact hc

/-! ### Slices -/
def fp (v : Value) : List Nat := v.ownBlock.toList
theorem fp_nil (n c : Nat) : fp (.slice none n c) = [] := rfl
theorem fp_some (a : Addr) (n c : Nat) : fp (.slice (some a) n c) = [a.block] := rfl
/-- A slice whose n elements (so many cells each) read as l. -/
def Sl (w : World) (size : Nat) (v : Value) (n : Nat) (l : List Value) : Prop :=
  ∃ A c, v = .slice A n c ∧ l.length = n * size ∧ (A = none → n = 0 ∧ c = 0) ∧ ∀ a, A = some a → Cells w a l
theorem Sl.fr {X : List Nat} {w w' : World} {size n : Nat} {v : Value} {l : List Value} (h : Sl w size v n l) (f : Fr X w w') (hx : ∀ i ∈ fp v, i ∉ X) : Sl w' size v n l := by
  obtain ⟨A, c, rfl, hl, hn, hc⟩ := h
  exact ⟨A, c, rfl, hl, hn, fun a ha => (hc a ha).fr f (hx _ (by subst ha; simp [fp_some]))⟩
/-- A row of the owner's own: v is nil, or stands at its head. -/
def Own (w : World) (T : TypeId) (size : Nat) (v : Value) (n : Nat) (l : List Value) : Prop := w.ownsRow 0 T size v n l
theorem Own.nil (w : World) (T : TypeId) (size : Nat) : Own w T size (.slice none 0 0) 0 [] := World.ownsRow_nil w 0 T size
theorem Own.fr {X : List Nat} {w w' : World} {T : TypeId} {size n : Nat} {v : Value} {l : List Value} (h : Own w T size v n l) (f : Fr X w w') (hx : ∀ i ∈ fp v, i ∉ X) : Own w' T size v n l := by
  refine ⟨h.1, ?_⟩
  rcases h.2 with hn | ⟨g, cap, cur, rfl, hb, hgg, rest⟩
  · exact .inl hn
  · exact .inr ⟨g, cap, cur, rfl, hb, f.get hgg (hx g (by simp [fp_some])), rest⟩
theorem Own.sl {w : World} {T : TypeId} {size n : Nat} {v : Value} {l : List Value} (h : Own w T size v n l) : Sl w size v n l := by
  rcases h.2 with ⟨rfl, rfl⟩ | ⟨g, cap, cur, rfl, hb, hgg, hrest⟩
  · exact ⟨none, 0, rfl, h.1, fun _ => ⟨rfl, rfl⟩, fun a ha => by cases ha⟩
  · exact ⟨some _, cap, rfl, h.1, (fun e => by cases e), fun a ha => by obtain rfl := Option.some.inj ha; exact fun j u hu => World.ownsRow.cells h (g := g) rfl j u hu⟩
theorem Own.lt {w : World} {T : TypeId} {size n : Nat} {v : Value} {l : List Value} (h : Own w T size v n l) : ∀ i ∈ fp v, i < w.heap.size := by
  intro i hi
  unfold fp at hi
  rw [Option.mem_toList] at hi
  exact (World.ownsRow.lt h i hi).2
theorem Own.len {w : World} {T : TypeId} {size n : Nat} {v : Value} {l : List Value} (h : Own w T size v n l) : ∃ A c, v = .slice A n c := by
  obtain ⟨A, c, hv, _⟩ := h.sl
  exact ⟨A, c, hv⟩

/-! ### The laws -/
section
variable {P : Program} {w : World} {k : Value → World → Prop}
theorem do_alloc {t : TypeId} {l : List Value} (hz : (zeroT P t).map (fun z => z.cells.toList) = some l) (h : k (.pointer (some ⟨w.heap.size, 0, none⟩)) (w.alloc (.cells l.toArray t))) : Do P (Instr.alloc t true (.tuple #[])) w k := by
  obtain ⟨z, hz', rfl⟩ := Option.map_eq_some_iff.1 hz
  unfold zeroT at hz'
  obtain ⟨i, hi, hz'⟩ := Option.bind_eq_some_iff.1 hz'
  refine ⟨_, _, ?_, h⟩
  simp [Instr.alloc, zeroValue, typeInfo, hi, hz', newVar, newRow]
theorem do_box {t : TypeId} {v : Value} (h : k (.pointer (some ⟨w.heap.size, 0, none⟩)) (w.alloc (.cells v.cells.toList.toArray t))) : Do P (Instr.box t v) w k := by
  refine ⟨_, _, ?_, h⟩
  simp [Instr.box, newVar, newRow]
theorem setCell_eq {b o : Nat} {T : TypeId} {l : List Value} (v : Value) (hb : Bk w b T l) : w.setCell ⟨b, o, none⟩ v = setO w b (.cells (l.set o v).toArray T (0, 0)) := by
  unfold World.setCell setO
  congr 1
  unfold Bk at hb
  apply Array.ext
  · simp
  · intro i h1 h2
    rw [Array.getElem_modify]
    by_cases hi : b = i
    · subst hi
      have : w.heap[b]'(by simpa using h1) = .cells l.toArray T (0, 0) := by
        rw [Array.getElem?_eq_getElem (by simpa using h1)] at hb
        exact Option.some.inj hb
      simp [this]
    · rw [if_neg (by exact hi), Array.getElem_setIfInBounds_ne (by simpa using h1) hi]
theorem store_one {b o : Nat} {T : TypeId} {l : List Value} {v : Value} (hb : Bk w b T l) (ho : o < l.length) (hv : v.oneCell' = true) : (store ⟨b, o, none⟩ v).run P w = .ok () (setO w b (.cells (l.set o v).toArray T (0, 0))) := by
  rw [run_store P w _ v _ hv]
  have hc := hb.cell o
  rw [List.getElem?_eq_getElem ho] at hc
  simp [hc, hb.free o, setCell_eq v hb]
theorem storeCells_bk {b : Nat} {T : TypeId} : ∀ (vs : List Value) (w : World) (l : List Value) (o i : Nat), Bk w b T l → o + i + vs.length ≤ l.length → (∀ v ∈ vs, v.oneCell' = true) →
    ∃ w', (storeCells ⟨b, o, none⟩ vs i).run P w = .ok () w' ∧ w' = (if vs = [] then w else setO w b (.cells (splice l (o + i) vs).toArray T (0, 0)))
  | [], w, l, o, i, hb, hl, h1 => ⟨w, by simp [storeCells], by simp⟩
  | v :: vs, w, l, o, i, hb, hl, h1 => by
    simp only [List.length_cons] at hl
    have hs := store_one (P := P) (v := v) (o := o + i) hb (by omega) (h1 v (by simp))
    have hb' : Bk (setO w b (.cells (l.set (o + i) v).toArray T (0, 0))) b T (l.set (o + i) v) := Bk.set _ hb.lt
    obtain ⟨w', hr, hw⟩ := storeCells_bk vs _ (l.set (o + i) v) o (i + 1) hb' (by simp; omega) (fun u hu => h1 u (by simp [hu]))
    refine ⟨w', ?_, ?_⟩
    · simp only [storeCells, Sem.run_bind, Addr.add_lit, hs, Result.andThen_ok, hr]
    · rw [if_neg (by simp)]
      rw [hw]
      have e : splice (l.set (o + i) v) (o + (i + 1)) vs = splice l (o + i) (v :: vs) := by
        unfold splice
        rw [List.drop_set_of_lt (by omega), ← Nat.add_assoc, List.length_cons]
        rw [show o + i + 1 + vs.length = o + i + (vs.length + 1) by omega]
        congr 1
        rw [List.take_succ_eq_append_getElem (by simp; omega)]
        simp [List.take_set_of_le]
      split
      · rename_i hv
        subst hv
        have : splice l (o + i) [v] = l.set (o + i) v := by
          unfold splice
          rw [List.set_eq_take_append_cons_drop, if_pos (by omega)]
          simp
        rw [this]
      · rw [e]
        unfold setO
        simp
theorem doU_store {t : TypeId} {b o : Nat} {T : TypeId} {l : List Value} {v : Value} (hb : Bk w b T l) (ho : o < l.length) (hv : v.oneCell' = true) (hs : sizeT P t = some 1)
    (h : k undef (setO w b (.cells (l.set o v).toArray T (0, 0)))) : DoU P (Instr.storeAt t (.pointer (some ⟨b, o, none⟩)) v) w k := by
  refine ⟨_, ?_, h⟩
  have hc : v.cells = #[v] := by cases v <;> first | rfl | cases hv
  have h1 := store_one (P := P) hb ho hv
  simp [Instr.storeAt, Instr.sureAddr, storeVar, run_sizeOf t hs, hc, storeCells, Addr.add_zero', h1]
theorem doU_store_agg {t : TypeId} {b o n : Nat} {T : TypeId} {l vs : List Value} (hb : Bk w b T l) (hn : vs.length = n) (h0 : 0 < n) (ho : o + n ≤ l.length) (hv : ∀ v ∈ vs, v.oneCell' = true) (hs : sizeT P t = some n)
    (h : k undef (setO w b (.cells (splice l o vs).toArray T (0, 0)))) : DoU P (Instr.storeAt t (.pointer (some ⟨b, o, none⟩)) (.agg vs.toArray)) w k := by
  refine ⟨_, ?_, h⟩
  obtain ⟨w', hr, hw⟩ := storeCells_bk (P := P) vs w l o 0 hb (by omega) hv
  have hne : vs ≠ [] := by intro e; subst e; simp at hn; omega
  rw [if_neg hne, Nat.add_zero] at hw
  subst hw
  simp [Instr.storeAt, Instr.sureAddr, storeVar, run_sizeOf t hs, Value.cells, hn, hr]
end
section
variable {S : World → Prop} {k : Value → Prop}
theorem ldC {b o : Nat} {v : Value} (hc : ∀ w', S w' → w'.cell? ⟨b, o, none⟩ = some v) (h : k v) : LdC S (.pointer (some ⟨b, o, none⟩)) k := ⟨v, hc, h⟩
theorem ldC_bk {w : World} {b o : Nat} {T : TypeId} {l : List Value} {v : Value} (hb : Bk w b T l) (hv : l[o]? = some v) (h : k v) : LdC (At w) (.pointer (some ⟨b, o, none⟩)) k :=
  ⟨v, fun w' e => by rw [show w' = w from e, hb.cell o]; exact hv, h⟩
theorem ldA_bk {w : World} {b o n : Nat} {T : TypeId} {l : List Value} (hb : Bk w b T l) (hn : o + n ≤ l.length) (h : k (.agg ((l.drop o).take n).toArray)) : LdA (At w) n (.pointer (some ⟨b, o, none⟩)) k :=
  ⟨(l.drop o).take n, by simp; omega, fun w' e j v hj => by rw [show w' = w from e]; exact Cells.of_bk hb o n j v hj, h⟩
theorem ldC_S {b o : Nat} {T : TypeId} {l : List Value} {v : Value} (hb : ∀ w', S w' → Bk w' b T l) (hv : l[o]? = some v) (h : k v) : LdC S (.pointer (some ⟨b, o, none⟩)) k :=
  ⟨v, fun w' e => by rw [(hb w' e).cell o]; exact hv, h⟩
theorem ldA_S {b o n : Nat} {T : TypeId} {l : List Value} (hb : ∀ w', S w' → Bk w' b T l) (hn : o + n ≤ l.length) (h : k (.agg ((l.drop o).take n).toArray)) : LdA S n (.pointer (some ⟨b, o, none⟩)) k :=
  ⟨(l.drop o).take n, by simp; omega, fun w' e j v hj => Cells.of_bk (hb w' e) o n j v hj, h⟩
end

/-! ### make and append -/
section
variable {P : Program} {w : World} {k : Value → World → Prop}
theorem info_of {t : TypeId} {z : Value} {size bytes : Nat} (h : (P.info? t).map (fun i => (i.zero, i.size, i.bytes)) = some (some z, size, bytes)) : ∃ i, P.info? t = some i ∧ i.zero = some z ∧ i.size = size ∧ i.bytes = bytes := info_parts h
theorem do_make0 {t e : TypeId} {z : Value} {size bytes c : Nat} {kl kc : IntKind} (ht : P.underlying t = some (.slice e)) (hi : (P.info? e).map (fun i => (i.zero, i.size, i.bytes)) = some (some z, size, bytes)) (hb : bytes * c ≤ 281474976710656) (hc : c ≤ 140737488355328)
    (h : ∀ w', Own w' e size (.slice (some ⟨w.heap.size, 0, none⟩) 0 c) 0 [] → Fr [] w w' → k (.slice (some ⟨w.heap.size, 0, none⟩) 0 c) w') : Do P (Instr.makeSlice t (.int kl 0) (.int kc (c : Int))) w k := by
  obtain ⟨i, hi', hz, hs, hby⟩ := info_of hi
  subst hby
  obtain ⟨w', hr, ho, hg⟩ := run_make_own (P := P) w 0 t e i z size ht hi' hz hs kl kc c hb (by unfold maxLen; omega) (by omega)
  exact ⟨_, _, hr, h w' ho (Fr.of_grownBy hg)⟩
/-- append to a row of one's own, from whatever can be read. -/
theorem do_append {t e ty : TypeId} {z : Value} {size bytes n m : Nat} {v x : Value} {l news : List Value} (ht : P.underlying t = some (.slice e)) (hi : (P.info? e).map (fun i => (i.zero, i.size, i.bytes)) = some (some z, size, bytes))
    (hzs : z.cells.size = size) (hsz : 0 < size) (ho : Own w e size v n l) (hx : Sl w size x m news) (h1 : ∀ u ∈ news, u.oneCell' = true) (hb : (n + m) * bytes ≤ 140737488355328) (h63 : n + m ≤ 140737488355328)
    (h : ∀ v' w', Own w' e size v' (n + m) (l ++ news) → Fr (fp v) w w' → (∀ i ∈ fp v', i ∈ fp v ∨ w.heap.size ≤ i) → k v' w') : Do P (Builtin.append_ #[t, t] ty #[v, x]) w k := by
  obtain ⟨i, hi', hz, hs, hby⟩ := info_of hi
  obtain ⟨A, c, rfl, hl, hn, hc⟩ := hx
  cases A with
  | none =>
    obtain ⟨rfl, rfl⟩ := hn rfl
    have hnews : news = [] := List.eq_nil_of_length_eq_zero (by simpa using hl)
    subst hnews
    refine ⟨_, _, run_append_owned_none w 0 t ty e i size ht hi' v n l ho, h v w (by simpa using ho) (Fr.refl _ _) (fun i hi => .inl hi)⟩
  | some a =>
    obtain ⟨v', w', hr, ho', hg, _, hat⟩ := run_append_own_at (P := P) w 0 t ty e i z size bytes ht hi' hz hs hby hzs hsz v n l ho a m c news hl (hc a rfl) h1 (by unfold maxLen; omega) hb (by omega)
    refine ⟨v', w', hr, h v' w' ho' (Fr.of_grownBy hg) ?_⟩
    intro j hj
    unfold fp at hj ⊢
    rw [Option.mem_toList] at hj
    rcases hat with hat | hat
    · left; rw [Option.mem_toList, ← hat]; exact hj
    · right; rw [hat] at hj; have := Option.some.inj hj; omega
def zerosL (z : List Value) (n : Nat) : List Value := (List.range n).map fun i => z.toArray[i % z.length]!
theorem do_buildSlice {t e : TypeId} {z : Value} {size bytes n : Nat} {parts : List (Nat × Value)} {l : List Value} (ht : P.underlying t = some (.slice e)) (hi : (P.info? e).map (fun i => (i.zero, i.size, i.bytes)) = some (some z, size, bytes))
    (hn : n * size ≤ 16777216) (hl : fillL (fun i => some (i * size, size)) (zerosL (bif Nat.beq (n * size) 0 then [] else z.cells.toList) (n * size)) parts = some l)
    (h : k (.slice (some ⟨w.heap.size, 0, none⟩) n n) (w.alloc (.cells l.toArray e))) : Do P (Instr.buildSlice t n parts.toArray) w k := by
  obtain ⟨i, hi', hz, hs, hby⟩ := info_of hi
  refine ⟨_, _, ?_, h⟩
  have hf := fill_list (fun i => some (i * size, size)) parts (zerosL (bif Nat.beq (n * size) 0 then [] else z.cells.toList) (n * size)).toArray l hl
  have hb : ¬ (16777216 < n * size) := by omega
  have h1 : (underlying t).run P w = .ok (.slice e) w := by simp [underlying, ht]
  have h2 : (sizeOf e).run P w = .ok size w := by simp [sizeOf, typeInfo, hi', hs]
  by_cases h0 : n * size = 0
  · rw [h0] at hf
    simp only [Instr.buildSlice, Sem.run_bind, h1, Result.andThen_ok, h2]
    rw [if_neg (by omega), if_pos h0]
    simp only [Sem.run_bind, Sem.run_pure, Result.andThen_ok]
    rw [h0]
    have e0 : ((Array.range 0).map (fun x => (#[] : Array Value)[x % (#[] : Array Value).size]!)) = (zerosL (bif Nat.beq 0 0 then [] else z.cells.toList) 0).toArray := by simp [zerosL]
    rw [e0, hf]
    rfl
  · have hq : Nat.beq (n * size) 0 = false := by cases hq : Nat.beq (n * size) 0 with | false => rfl | true => exact absurd (by simpa using hq) h0
    have hzz : (zerosL (bif Nat.beq (n * size) 0 then [] else z.cells.toList) (n * size)).toArray = (Array.range (n * size)).map (fun x => z.cells[x % z.cells.size]!) := by
      rw [hq]
      apply Array.ext'
      simp [zerosL, Array.toList_range]
    rw [hzz] at hf
    have h3 : (zeroValue e).run P w = .ok z w := by simp [zeroValue, typeInfo, hi', hz]
    simp only [Instr.buildSlice, Sem.run_bind, h1, Result.andThen_ok, h2]
    rw [if_neg (by simpa using hb), if_neg h0]
    simp only [Sem.run_bind, h3, Result.andThen_ok, Sem.run_pure]
    rw [hf]
    rfl
theorem do_buildSlice1 {t e : TypeId} {z v : Value} {bytes : Nat} (ht : P.underlying t = some (.slice e)) (hi : (P.info? e).map (fun i => (i.zero, i.size, i.bytes)) = some (some z, 1, bytes)) (hz : z.cells.toList.length = 1) (hv : v.cells = #[v])
    (h : k (.slice (some ⟨w.heap.size, 0, none⟩) 1 1) (w.alloc (.cells [v].toArray e))) : Do P (Instr.buildSlice t 1 #[(0, v)]) w k := by
  refine do_buildSlice (parts := [(0, v)]) (l := [v]) ht hi (by omega) ?_ h
  have : Nat.ble 1 1 = true := rfl
  simp [fillL, hv, zerosL, splice, this]
end

/-! ### The laws once more, the world behind each a new name -/
section
variable {P : Program} {w : World} {k : Value → World → Prop}
theorem alloc' {t : TypeId} {l : List Value} (hz : (zeroT P t).map (fun z => z.cells.toList) = some l)
    (h : ∀ b w', w.heap.size = b → Bk w' b t l → Fr [] w w' → w'.heap.size = b + 1 → k (.pointer (some ⟨b, 0, none⟩)) w') : Do P (Instr.alloc t true (.tuple #[])) w k :=
  do_alloc hz (h _ _ rfl (Bk.new w t l) (Fr.alloc _ _ _) (alloc_size _ _))
theorem box' {t : TypeId} {v : Value} {l : List Value} (hv : v.cells.toList = l) (h : ∀ b w', w.heap.size = b → Bk w' b t l → Fr [] w w' → w'.heap.size = b + 1 → k (.pointer (some ⟨b, 0, none⟩)) w') : Do P (Instr.box t v) w k :=
  do_box (h _ _ rfl (by rw [← hv]; exact Bk.new w t v.cells.toList) (Fr.alloc _ _ _) (alloc_size _ _))
theorem store' {t : TypeId} {b o : Nat} {T : TypeId} {l : List Value} {v : Value} (hb : Bk w b T l) (hs : sizeT P t = some 1) (ho : o < l.length) (hv : v.oneCell' = true)
    (h : ∀ w', Bk w' b T (l.set o v) → Fr [b] w w' → w'.heap.size = w.heap.size → k undef w') : DoU P (Instr.storeAt t (.pointer (some ⟨b, o, none⟩)) v) w k :=
  doU_store hb ho hv hs (h _ (Bk.set _ hb.lt) (Fr.setO w _ (.inl (by simp))) (setO_size _ _ _))
theorem store_agg' {t : TypeId} {b o n : Nat} {T : TypeId} {l vs : List Value} (hb : Bk w b T l) (hs : sizeT P t = some n) (hn : vs.length = n) (h0 : 0 < n) (ho : o + n ≤ l.length) (hv : ∀ v ∈ vs, v.oneCell' = true)
    (h : ∀ w', Bk w' b T (splice l o vs) → Fr [b] w w' → w'.heap.size = w.heap.size → k undef w') : DoU P (Instr.storeAt t (.pointer (some ⟨b, o, none⟩)) (.agg vs.toArray)) w k :=
  doU_store_agg hb hn h0 ho hv hs (h _ (Bk.set _ hb.lt) (Fr.setO w _ (.inl (by simp))) (setO_size _ _ _))
theorem buildSlice' {t e : TypeId} {z : Value} {size bytes n : Nat} {parts : List (Nat × Value)} {l : List Value} (ht : P.underlying t = some (.slice e)) (hi : (P.info? e).map (fun i => (i.zero, i.size, i.bytes)) = some (some z, size, bytes))
    (hn : n * size ≤ 16777216) (hl : fillL (fun i => some (i * size, size)) (zerosL (bif Nat.beq (n * size) 0 then [] else z.cells.toList) (n * size)) parts = some l)
    (h : ∀ b w', w.heap.size = b → Bk w' b e l → Fr [] w w' → w'.heap.size = b + 1 → k (.slice (some ⟨b, 0, none⟩) n n) w') : Do P (Instr.buildSlice t n parts.toArray) w k :=
  do_buildSlice ht hi hn hl (h _ _ rfl (Bk.new w e l) (Fr.alloc _ _ _) (alloc_size _ _))
/-- One cell each. -/
theorem zerosL_one (z : Value) (n : Nat) (i : Nat) (h : i < n) : (zerosL [z] n)[i]? = some z := by
  simp [zerosL, h, Nat.mod_one]
theorem fillL_ones (z : Value) : ∀ (vs : List Value) (j n : Nat) (cs : List Value), (∀ v ∈ vs, v.cells = #[v]) → cs.length = j + vs.length →
    fillL (fun i => some (i * 1, 1)) cs ((vs.zipIdx j).map fun x => (x.2, x.1)) = some (cs.take j ++ vs)
  | [], j, n, cs, h, hl => by simp at hl; simp [fillL, List.take_of_length_le (Nat.le_of_eq hl)]
  | v :: vs, j, n, cs, h, hl => by
    simp only [List.length_cons] at hl
    have hv := h v (by simp)
    simp only [List.zipIdx_cons, List.map_cons, fillL, hv, Nat.mul_one]
    have hb : (!(Nat.beq (#[v] : Array Value).toList.length 1) || !(Nat.ble (j + 1) cs.length)) = false := by
      have : Nat.ble (j + 1) cs.length = true := by rw [Nat.ble_eq]; omega
      simp [this]
    rw [hb]
    simp only [cond_false]
    have := fillL_ones z vs (j + 1) n (splice cs j [v]) (fun u hu => h u (by simp [hu])) (by simp [splice]; omega)
    simp only [Nat.mul_one] at this
    rw [this]
    congr 1
    unfold splice
    simp only [List.length_singleton]
    rw [List.append_assoc, List.take_append, List.length_take, Nat.min_eq_left (by omega)]
    rw [List.take_of_length_le (by simp; omega)]
    simp [show j + 1 - j = 1 by omega]
theorem lit' {t e : TypeId} {z : Value} {bytes n : Nat} {vs : List Value} {parts : Array (Nat × Value)} (ht : P.underlying t = some (.slice e)) (hi : (P.info? e).map (fun i => (i.zero, i.size, i.bytes)) = some (some z, 1, bytes)) (hz : z.cells.toList.length = 1)
    (hp : parts = ((vs.zipIdx 0).map fun x => (x.2, x.1)).toArray) (hn : vs.length = n) (hle : n ≤ 16777216) (hv : ∀ v ∈ vs, v.cells = #[v])
    (h : ∀ b w', w.heap.size = b → Bk w' b e vs → Fr [] w w' → w'.heap.size = b + 1 → k (.slice (some ⟨b, 0, none⟩) n n) w') : Do P (Instr.buildSlice t n parts) w k := by
  subst hp
  refine buildSlice' ht hi (by omega) ?_ h
  rw [fillL_ones z vs 0 n _ hv (by simp [zerosL]; omega)]
  simp
end
theorem Bk.sl {w : World} {b n : Nat} {T : TypeId} {l : List Value} (h : Bk w b T l) (hn : l.length = n) (c : Nat) : Sl w 1 (.slice (some ⟨b, 0, none⟩) n c) n l :=
  ⟨some ⟨b, 0, none⟩, c, rfl, by omega, (fun e => by cases e), fun a ha => by
    obtain rfl := Option.some.inj ha
    have := Cells.of_bk h 0 l.length
    simpa using this⟩

section
variable {P : Program} {w : World} {k : Value → World → Prop}
/-- A new variable, whatever it holds at first. -/
theorem alloc_n {t : TypeId} {n : Nat} (hz : (zeroT P t).map (fun z => z.cells.toList.length) = some n)
    (h : ∀ b w' l, l.length = n → w.heap.size = b → Bk w' b t l → Fr [] w w' → w'.heap.size = b + 1 → k (.pointer (some ⟨b, 0, none⟩)) w') : Do P (Instr.alloc t true (.tuple #[])) w k := by
  obtain ⟨z, hz', hn⟩ := Option.map_eq_some_iff.1 hz
  exact alloc' (l := z.cells.toList) (by rw [hz']; rfl) fun b w' => h b w' _ hn
theorem splice_all {l vs : List Value} (h : l.length = vs.length) : splice l 0 vs = vs := by
  unfold splice
  simp [h]
theorem store_all {t : TypeId} {b n : Nat} {T : TypeId} {l vs : List Value} (hb : Bk w b T l) (hs : sizeT P t = some n) (hl : l.length = n) (hn : vs.length = n) (h0 : 0 < n) (hv : ∀ v ∈ vs, v.oneCell' = true)
    (h : ∀ w', Bk w' b T vs → Fr [b] w w' → w'.heap.size = w.heap.size → k undef w') : DoU P (Instr.storeAt t (.pointer (some ⟨b, 0, none⟩)) (.agg vs.toArray)) w k := by
  refine store_agg' hb hs hn h0 (by omega) hv fun w' hb' => h w' ?_
  rw [splice_all (by omega)] at hb'
  exact hb'
end
/-- A row that has been made since world w0, nothing that was there having changed. -/
structure New (w0 w : World) (T : TypeId) (size : Nat) (v : Value) (n : Nat) (l : List Value) : Prop where
  own : Own w T size v n l
  fr : Fr [] w0 w
  new : ∀ i ∈ fp v, w0.heap.size ≤ i
theorem New.nil (w : World) (T : TypeId) (size : Nat) : New w w T size (.slice none 0 0) 0 [] := ⟨Own.nil _ _ _, Fr.refl _ _, fun i hi => by simp [fp_nil] at hi⟩
/-- Nothing that the row stands in is touched. -/
theorem New.step {w0 w w' : World} {T : TypeId} {size n : Nat} {v : Value} {l : List Value} (h : New w0 w T size v n l) {X : List Nat} (f : Fr X w w') (h1 : ∀ i ∈ X, w0.heap.size ≤ i) (h2 : ∀ i ∈ fp v, i ∉ X) : New w0 w' T size v n l :=
  ⟨h.own.fr f h2, h.fr.trans f (fun i hi => .inr (h1 i hi)), h.new⟩
theorem New.fresh {w0 w w' : World} {T : TypeId} {size n : Nat} {v : Value} {l : List Value} (h : New w0 w T size v n l) (f : Fr [] w w') : New w0 w' T size v n l :=
  h.step f (fun i hi => by simp at hi) (fun i hi => by simp)
section
variable {P : Program} {w w0 : World} {k : Value → World → Prop}
theorem make' {t e : TypeId} {z : Value} {size bytes : Nat} {c : Int} {kl kc : IntKind} (m : Nat) (hm : c = m) (ht : P.underlying t = some (.slice e)) (hi : (P.info? e).map (fun i => (i.zero, i.size, i.bytes)) = some (some z, size, bytes)) (hb : bytes * m ≤ 281474976710656) (hc : m ≤ 140737488355328)
    (h : ∀ v w', New w w' e size v 0 [] → k v w') : Do P (Instr.makeSlice t (.int kl 0) (.int kc c)) w k := by
  subst hm
  exact do_make0 ht hi hb hc fun w' ho hf => h _ w' ⟨ho, hf, fun i hi => by simp [fp_some] at hi; omega⟩
theorem append' {t e ty : TypeId} {z : Value} {size bytes n m : Nat} {v x : Value} {l news : List Value} (hN : New w0 w e size v n l) (ht : P.underlying t = some (.slice e)) (hi : (P.info? e).map (fun i => (i.zero, i.size, i.bytes)) = some (some z, size, bytes))
    (hzs : z.cells.size = size) (hsz : 0 < size) (hx : Sl w size x m news) (h1 : ∀ u ∈ news, u.oneCell' = true) (hb : (n + m) * bytes ≤ 140737488355328) (h63 : n + m ≤ 140737488355328)
    (h : ∀ v' w', New w0 w' e size v' (n + m) (l ++ news) → Fr (fp v) w w' → (∀ i ∈ fp v', i ∈ fp v ∨ w.heap.size ≤ i) → k v' w') : Do P (Builtin.append_ #[t, t] ty #[v, x]) w k :=
  do_append ht hi hzs hsz hN.own hx h1 hb h63 fun v' w' ho hf hs => h v' w' ⟨ho, hN.fr.trans hf (fun i hi => .inr (hN.new i hi)), fun i hi => (hs i hi).elim (hN.new i) (fun h => Nat.le_trans hN.fr.size h)⟩ hf hs
/-- l = append(l, x), x one cell. -/
theorem append1 {t e ty : TypeId} {z : Value} {bytes n : Nat} {v x : Value} {l : List Value} (hN : New w0 w e 1 v n l) (ht : P.underlying t = some (.slice e)) (hi : (P.info? e).map (fun i => (i.zero, i.size, i.bytes)) = some (some z, 1, bytes))
    (hzs : z.cells.size = 1) (hx : x.cells = #[x]) (h1 : x.oneCell' = true) (hb : (n + 1) * bytes ≤ 140737488355328) (h63 : n + 1 ≤ 140737488355328)
    (h : ∀ v' w', New w0 w' e 1 v' (n + 1) (l ++ [x]) → k v' w') : Do P (Instr.buildSlice t 1 #[(0, x)]) w (fun s w1 => Do P (Builtin.append_ #[t, t] ty #[v, s]) w1 k) := by
  refine lit' (vs := [x]) ht hi (by simpa using hzs) rfl rfl (by omega) (by simpa using hx) ?_
  intro b w1 hb1 hB hF hsz
  refine append' (hN.fresh hF) ht hi hzs (by omega) (hB.sl rfl 1) (by simpa using h1) hb h63 ?_
  intro v' w' hN' _ _
  exact h v' w' hN'
end
end Go.Vc
