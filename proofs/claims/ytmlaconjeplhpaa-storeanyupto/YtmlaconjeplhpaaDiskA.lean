/- Bytes, rows and pointers: laws for package disk's code. -/
import Derived.Test.YtmlaconjeplhpaaVcEq
import Derived.Test.YtmlaconjeplhpaaStoreN
import Derived.Test.YtmlaconjeplhpaaT1
import Derived.Laws.CopyRow
import Derived.Laws.IdiomCopy
import Derived.Laws.Pointers
import Derived.Laws.Small
set_option linter.unusedVariables false
set_option linter.unusedSimpArgs false
set_option maxRecDepth 20000
namespace Go.Proofs.Ytmlaconjeplhpaa
open Go Go.Vc

def bytes (l : List Nat) : List Value := l.map fun n : Nat => .int .u8 (n : Int)
theorem bytes_append (l l' : List Nat) : bytes (l ++ l') = bytes l ++ bytes l' := by simp [bytes]
theorem bytes_length (l : List Nat) : (bytes l).length = l.length := by simp [bytes]
theorem bytes_one (l : List Nat) : ∀ u ∈ bytes l, u.oneCell' = true := by
  intro u hu
  obtain ⟨_, _, rfl⟩ := List.mem_map.1 hu
  rfl
theorem bytes_get {bs : List Nat} {i : Nat} (h : i < bs.length) : (bytes bs)[i]? = some (.int .u8 (bs[i] : Int)) := by simp [bytes, h]
theorem bytes_drop (bs : List Nat) (n : Nat) : (bytes bs).drop n = bytes (bs.drop n) := by simp [bytes, List.map_drop]
theorem bytes_take (bs : List Nat) (n : Nat) : (bytes bs).take n = bytes (bs.take n) := by simp [bytes, List.map_take]
theorem infoB : (Try.prog.info? 5).map (fun i => (i.zero, i.size, i.bytes)) = some (some (.int .u8 0), 1, 1) := by kernel_rfl
theorem Sl.lenV {w : World} {size n : Nat} {v : Value} {l : List Value} {k : Value → Prop} (h : Sl w size v n l) (hk : k (.int .i64 n)) : Len v k := by
  obtain ⟨A, c, rfl, _⟩ := h; exact hk
theorem sl_one {w : World} {size n : Nat} {v : Value} {l : List Value} (h : Sl w size v n l) : v.oneCell' = true ∧ v.cells.toList = [v] := by
  obtain ⟨A, c, rfl, _⟩ := h; exact ⟨rfl, rfl⟩
theorem Bk.slN {w : World} {b n size : Nat} {T : TypeId} {l : List Value} (h : Bk w b T l) (hn : l.length = n * size) (c : Nat) : Sl w size (.slice (some ⟨b, 0, none⟩) n c) n l :=
  ⟨some ⟨b, 0, none⟩, c, rfl, by omega, (fun e => by cases e), fun a ha => by
    obtain rfl := Option.some.inj ha
    have := Cells.of_bk h 0 l.length
    simpa using this⟩
/-- A slice of one element. -/
theorem lit1 {P : Program} {w : World} {k : Value → World → Prop} {t e : TypeId} {z u : Value} {size bytes : Nat} {cs : List Value} (ht : P.underlying t = some (.slice e)) (hi : (P.info? e).map (fun i => (i.zero, i.size, i.bytes)) = some (some z, size, bytes))
    (hsz : size ≤ 1000) (hu : u.cells.toList = cs) (hl : cs.length = size)
    (h : ∀ b w', w.heap.size = b → Bk w' b e cs → Fr [] w w' → w'.heap.size = b + 1 → k (.slice (some ⟨b, 0, none⟩) 1 1) w') : Do P (Instr.buildSlice t 1 #[(0, u)]) w k := by
  refine buildSlice' (parts := [(0, u)]) (l := cs) ht hi (by omega) ?_ h
  have hz : (zerosL (bif Nat.beq (1 * size) 0 then [] else z.cells.toList) (1 * size)).length = size := by simp [zerosL]
  generalize zerosL (bif Nat.beq (1 * size) 0 then [] else z.cells.toList) (1 * size) = L at *
  have h1 : Nat.beq u.cells.toList.length size = true := by rw [hu, hl]; simp
  have h2 : Nat.ble (0 + size) L.length = true := by rw [hz]; simp
  simp only [fillL, h1, h2, Bool.not_true, Bool.or_self, cond_false, Nat.zero_mul, h2]
  rw [hu, splice_all (by omega)]

/-- make([]T, n). -/
theorem make_n {P : Program} {w : World} {k : Value → World → Prop} {t e : TypeId} {z : Value} {size bytes n : Nat} {kl kc : IntKind} (ht : P.underlying t = some (.slice e)) (hi : (P.info? e).map (fun i => (i.zero, i.size, i.bytes)) = some (some z, size, bytes)) (hb : bytes * n ≤ 281474976710656) (hc : n ≤ 140737488355328)
    (h : ∀ b w' l, l.length = n * size → w.heap.size = b → Bk w' b e l → Fr [] w w' → w'.heap.size = b + 1 → k (.slice (some ⟨b, 0, none⟩) n n) w') : Do P (Instr.makeSlice t (.int kl (n : Int)) (.int kc (n : Int))) w k := by
  obtain ⟨i, hi', hz, hs, hby⟩ := info_of hi
  subst hby
  subst hs
  have hb' : (i.bytes : Int) * (n : Int) ≤ 281474976710656 := by
    have h : ((i.bytes * n : Nat) : Int) ≤ 281474976710656 := by omega
    rwa [Int.natCast_mul] at h
  have hr := run_make (P := P) w t e i z ht hi' hz kl kc n n (by omega) (Int.le_refl _) hb' (by omega)
  simp only [Int.toNat_natCast] at hr
  refine ⟨_, _, hr, h _ _ (madeCells z.cells (n * i.size)).toList ?_ rfl ?_ (Fr.alloc _ _ _) (alloc_size _ _)⟩
  · rw [Array.length_toList, size_madeCells]
  · exact alloc_new w _
/-- Putting a value together out of its parts. -/
theorem bldV {P : Program} {T : TypeId} {n : Nat} {vals : List Value} {parts : List (Nat × Value)} {k : Value → Prop} (sizes : List Nat)
    (hp : (placeT P T).map (fun pl => (List.range' 0 sizes.length).map pl) = some (offs 0 sizes)) (hz : (zeroT P T).map (fun z => z.cells.toList.length) = some n) (hn : sizes.sum = n) (hf : fieldsOk P T = true)
    (hv : parts = (vals.zipIdx 0).map fun x => (x.2, x.1)) (hl : vals.map (fun v => v.cells.toList.length) = sizes)
    (h : k (.agg (vals.flatMap fun v => v.cells.toList).toArray)) : Bld P T parts k := by
  obtain ⟨pl, hpl, hpo⟩ := Option.map_eq_some_iff.1 hp
  obtain ⟨zv, hzv, hzn⟩ := Option.map_eq_some_iff.1 hz
  have hfill := fillL_seq pl vals sizes 0 0 [] zv.cells.toList hpo hl rfl (by omega)
  simp only [List.nil_append] at hfill
  exact ⟨_, by unfold bldL; rw [hzv, hpl, hv]; exact hfill, hf, h⟩

theorem nilS (w : World) (size : Nat) : Sl w size (.slice none 0 0) 0 [] := ⟨none, 0, rfl, by simp, fun _ => ⟨rfl, rfl⟩, fun a h => by cases h⟩
section
variable {P : Program} {S : World → Prop} {t : TypeId} {κ κ' : IntKind} {x y : Int} {k : Value → Prop}
theorem ptr_eql {p : Option Addr} (ht : P.underlying t = some (.pointer (P.pointee t))) (h : k (.bool p.isNone)) : Bin P S .eql t false true (.pointer p) (.pointer none) k := by
  refine ⟨_, fun w hw => ?_, h⟩
  have := run_eql_pointer_nil (P := P) w t p ht
  simp [binSem, eqGuard, this]
theorem ptr_neq {p : Option Addr} (ht : P.underlying t = some (.pointer (P.pointee t))) (h : k (.bool (!p.isNone))) : Bin P S .neq t false true (.pointer p) (.pointer none) k := by
  refine ⟨_, fun w hw => ?_, h⟩
  have := run_neq_pointer_nil (P := P) w t p ht
  simp [binSem, eqGuard, this]
theorem max2 {ts : Array TypeId} (h : k (.int κ (if y > x then y else x))) : Pu P S (Builtin.max_ ts t #[.int κ x, .int κ' y]) k := ⟨_, fun w' _ => run_max_int2 w' ts t κ κ' x y, h⟩
theorem min2 {ts : Array TypeId} (h : k (.int κ (if y < x then y else x))) : Pu P S (Builtin.min_ ts t #[.int κ x, .int κ' y]) k := ⟨_, fun w' _ => run_min_int2 w' ts t κ κ' x y, h⟩
end
/-- A row's element's address. -/
theorem ixRow {κ : IntKind} {b i n c sz : Nat} {k : Value → Prop} (hi : i < n) (h : k (.pointer (some ⟨b, i * sz, none⟩))) : IAdS sz (.slice (some ⟨b, 0, none⟩) n c) (.int κ i) k := by
  refine ⟨by omega, by omega, ?_⟩
  simp only [Int.toNat_natCast, Addr.add_lit, Nat.zero_add, Option.map_some]
  exact h
theorem slcAll {b n sz : Nat} {k : Value → Prop} (h : k (.slice (some ⟨b, 0, none⟩) n n)) : SlcA n sz (.pointer (some ⟨b, 0, none⟩)) none none none k := by
  refine ⟨by simp, by simp, by simp, ?_⟩
  simp only [Int.toNat_natCast, Int.toNat_zero, Nat.sub_zero, Nat.zero_mul, Addr.add_lit]
  cases hb : Nat.beq n 0 <;> exact h
/-- copy into an array. -/
theorem do_copy {P : Program} {w : World} {k : Value → World → Prop} {dT sT ty e T : TypeId} {b d n : Nat} {x : Value} {l cells : List Value} (hu : P.underlying dT = some (.slice e)) (hs : (P.info? e).map (·.size) = some 1) (hB : Bk w b T l) (hl : l.length = d) (hx : Sl w 1 x n cells) (h1 : ∀ v ∈ cells, v.oneCell' = true) (hn : n ≤ d)
    (h : ∀ v w', Bk w' b T (cells ++ l.drop n) → Fr [b] w w' → w'.heap.size = w.heap.size → k v w') : Do P (Builtin.copy_ #[dT, sT] ty #[.slice (some ⟨b, 0, none⟩) d d, x]) w k := by
  obtain ⟨A, c, rfl, hcl, h0, hc⟩ := hx
  rw [Nat.mul_one] at hcl
  cases A with
  | none =>
    obtain ⟨rfl, rfl⟩ := h0 rfl
    have : cells = [] := List.eq_nil_of_length_eq_zero hcl
    subst this
    refine ⟨_, _, run_copy_none w dT sT ty e (some ⟨b, 0, none⟩) none d d 0 0 hu hs (by simp), h _ _ ?_ (Fr.refl _ _) rfl⟩
    simpa using hB
  | some a =>
    have hg : w.heap[b]? = some (.cells l.toArray T (0, 0)) := hB
    have hr := run_copy_row (P := P) w dT sT ty e b 0 d d a n c l.toArray T cells hu hs hg (by rw [hcl]; exact (Nat.min_eq_left hn).symm) (hc a rfl) (by simp; omega) h1
    refine ⟨_, _, hr, h _ _ ?_ ?_ (by simp)⟩
    · unfold Bk
      rw [setRow_heap w b l.toArray _ T _ hg]
      simp [hcl]
    · refine ⟨rfl, rfl, rfl, by simp, fun i hi hx => ?_⟩
      exact setRow_other w b i _ (by intro e; subst e; simp at hx)
/-- A part of an element of a slice. -/
theorem ixFC {S : World → Prop} {w : World} {κ : IntKind} {size n i off : Nat} {v u : Value} {cells : List Value} {k : Value → Prop} (hs : ∀ w', S w' → Sl w' size v n cells) (h0 : Sl w size v n cells) (hi : i < n) (hv : cells[i * size + off]? = some u) (h : k u) :
    IAdS size v (.int κ i) fun t => FAd off t fun t' => LdC S t' k := by
  refine ixA h0 hi fun a ha _ _ => ?_
  refine ⟨u, fun w' e => ?_, h⟩
  obtain ⟨A, c, rfl, hl, hn, hc⟩ := hs w' e
  cases A with
  | none => have := (hn rfl).1; omega
  | some b =>
    rw [ha b c rfl, add_add']
    exact hc b rfl _ u hv
theorem ixFA {S : World → Prop} {w : World} {κ : IntKind} {size n i off m : Nat} {v : Value} {cells : List Value} {k : Value → Prop} (hs : ∀ w', S w' → Sl w' size v n cells) (h0 : Sl w size v n cells) (hi : i < n) (hm : i * size + off + m ≤ cells.length) (h : k (.agg ((cells.drop (i * size + off)).take m).toArray)) :
    IAdS size v (.int κ i) fun t => FAd off t fun t' => LdA S m t' k := by
  refine ixA h0 hi fun a ha _ _ => ?_
  refine ⟨_, by simp; omega, fun w' e j u hj => ?_, h⟩
  obtain ⟨A, c, rfl, hl, hn, hc⟩ := hs w' e
  cases A with
  | none => have := (hn rfl).1; omega
  | some b =>
    rw [ha b c rfl, add_add', add_add']
    rw [List.getElem?_take] at hj
    split at hj
    · rw [List.getElem?_drop] at hj
      have := hc b rfl _ u hj
      rw [← Nat.add_assoc]
      exact this
    · cases hj

/-! ### Blocks in a row -/
open St in
theorem flat_len {B : List Blk} (h : All64 B) : B.flatten.length = B.length * 64 := by
  induction B with
  | nil => rfl
  | cons b B ih =>
    rw [List.flatten_cons, List.length_append, (h b (by simp)).1, ih (fun c hc => h c (by simp [hc])), List.length_cons]; omega
open St in
theorem flat_get {B : List Blk} (h : All64 B) : ∀ {i : Nat} (hi : i < B.length), (B.flatten.drop (i * 64)).take 64 = B[i] := by
  induction B with
  | nil => intro i hi; simp at hi
  | cons b B ih =>
    intro i hi
    have hb := (h b (by simp)).1
    cases i with
    | zero => rw [List.flatten_cons, Nat.zero_mul, List.drop_zero, ← hb, List.take_left]; rfl
    | succ i =>
      rw [List.flatten_cons, show (i + 1) * 64 = b.length + i * 64 by omega, ← List.drop_drop, List.drop_left]
      exact ih (fun c hc => h c (by simp [hc])) (by simpa using hi)
open St in
theorem flat_set {B : List Blk} (h : All64 B) {c : Blk} (hc : c.length = 64) : ∀ {i : Nat} (hi : i < B.length), splice (bytes B.flatten) (i * 64) (bytes c) = bytes (B.set i c).flatten := by
  induction B with
  | nil => intro i hi; simp at hi
  | cons b B ih =>
    intro i hi
    have hb := (h b (by simp)).1
    cases i with
    | zero =>
      unfold splice
      rw [List.flatten_cons, bytes_append, List.set_cons_zero, List.flatten_cons, bytes_append, Nat.zero_mul, List.take_zero, List.nil_append, Nat.zero_add, bytes_length, hc]
      congr 1
      rw [← hb, ← bytes_length b, List.drop_left]
    | succ i =>
      have hi' : i < B.length := by simpa using hi
      have := ih (fun c hc => h c (by simp [hc])) hi'
      rw [List.set_cons_succ, List.flatten_cons, List.flatten_cons, bytes_append, bytes_append, ← this]
      unfold splice
      have hbl : (bytes b).length = 64 := by rw [bytes_length, hb]
      rw [show (i + 1) * 64 = (bytes b).length + i * 64 by omega, List.take_append, List.take_of_length_le (by omega), Nat.add_sub_cancel_left, Nat.add_assoc, ← List.drop_drop, List.drop_left]
      simp only [List.append_assoc]
end Go.Proofs.Ytmlaconjeplhpaa
